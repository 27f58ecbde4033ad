import Derived.Test.YtcgkgofmldhokaaGreatM1
import Derived.Test.YtcgkgofmldhokaaGreatSTy
import Derived.Test.YtcgkgofmldhokaaGreatRows
import Derived.ProofKit
namespace PSL
open Go
namespace Tm

mutual
def occ:Tm→List Int
 | mk k _ n l=>if k=1 then [n] else occL l
def occL:List Tm→List Int
 | []=>[]
 | t::r=>occ t++occL r
end

mutual
theorem withV_occ:∀ (t:Tm) (a:List Int),withV a t=(occ t).foldl addV a
 | mk k s n l,a=>by
  simp only [withV,occ]
  split
  ·rfl
  ·exact withVL_occ l a
theorem withVL_occ:∀ (l:List Tm) (a:List Int),withVL a l=(occL l).foldl addV a
 | [],a=>rfl
 | t::r,a=>by simp only [withVL,occL,List.foldl_append,withV_occ t a,withVL_occ r]
end

theorem kindR_var {s:ByteArray} {n:Int} {m:Nat} (h:kindR 1 s n m=true):0≤n∧n<1000000∧s=ByteArray.empty∧m=0:=by
 simp only [kindR,if_true,Bool.and_eq_true,decide_eq_true_eq,strEq_iff,beq_iff_eq] at h
 obtain ⟨⟨⟨h1,h2⟩,h3⟩,h4⟩:=h
 exact ⟨h1,h2,h3,by omega⟩

mutual
theorem fair_plain:∀ (t:Tm),fairR t=true→plain t=true
 | mk k s n l,h=>by
  simp only [fairR,Bool.and_eq_true] at h
  simp only [plain,Bool.and_eq_true,fairL_plain l h.1.2,and_true,Bool.not_eq_true',Bool.and_eq_false_iff]
  by_cases hk:k=1
  ·subst hk
   have:=(kindR_var h.2).2.2.2
   right; cases l <;> simp at this ⊢
  ·left; simpa using hk
theorem fairL_plain:∀ (l:List Tm),fairRL l=true→plainL l=true
 | [],_=>rfl
 | t::r,h=>by
  simp only [fairRL,Bool.and_eq_true] at h
  simp only [plainL,fair_plain t h.1,fairL_plain r h.2,Bool.and_self]
end

mutual
theorem occ_range:∀ (t:Tm),fairR t=true→∀ v∈occ t,0≤v∧v<1000000
 | mk k s n l,h,v,hv=>by
  simp only [fairR,Bool.and_eq_true] at h
  simp only [occ] at hv
  split at hv
  ·rename_i hk
   subst hk
   simp at hv; subst hv
   have:=kindR_var h.2
   exact ⟨this.1,this.2.1⟩
  ·exact occL_range l h.1.2 v hv
theorem occL_range:∀ (l:List Tm),fairRL l=true→∀ v∈occL l,0≤v∧v<1000000
 | [],_,v,hv=>by simp [occL] at hv
 | t::r,h,v,hv=>by
  simp only [fairRL,Bool.and_eq_true] at h
  simp only [occL,List.mem_append] at hv
  exact hv.elim (occ_range t h.1 v) (occL_range r h.2 v)
end

mutual
theorem turn_congr {g g':Int→Int}:∀ (t:Tm),fairR t=true→(∀ v∈occ t,g v=g' v)→turnT g t=turnT g' t
 | mk k s n l,h,hv=>by
  simp only [fairR,Bool.and_eq_true] at h
  simp only [turnT]
  by_cases hk:k=1
  ·subst hk
   have hl:=(kindR_var h.2).2.2.2
   have hl:l=[]:=List.length_eq_zero_iff.1 hl
   subst hl
   rw [if_pos rfl,if_pos rfl,hv n (by simp [occ])]
   rfl
  ·rw [if_neg hk,if_neg hk,turnL_congr l h.1.2 fun v h'=>hv v (by simp only [occ,if_neg hk]; exact h')]
theorem turnL_congr {g g':Int→Int}:∀ (l:List Tm),fairRL l=true→(∀ v∈occL l,g v=g' v)→turnTL g l=turnTL g' l
 | [],_,_=>rfl
 | t::r,h,hv=>by
  simp only [fairRL,Bool.and_eq_true] at h
  simp only [turnTL]
  rw [turn_congr t h.1 fun v h'=>hv v (by simp [occL,h']),turnL_congr r h.2 fun v h'=>hv v (by simp [occL,h'])]
end

mutual
theorem turn_self:∀ (t:Tm),turnT (fun n=>n) t=t
 | mk k s n l=>by simp [turnT,turnL_self l]
theorem turnL_self:∀ (l:List Tm),turnTL (fun n=>n) l=l
 | []=>rfl
 | t::r=>by simp only [turnTL,turn_self t,turnL_self r]
end

theorem rightB_iff {t:Tm}:rightB t=true↔fairR t=true∧t.size≤3000∧t.depth≤100:=by
 simp only [rightB,Bool.and_eq_true,decide_eq_true_eq,and_assoc]

def once (l:List Int):List Int:=l.foldl addV []

theorem mem_addV {a:List Int} {x v:Int}:v∈addV a x↔v∈a∨v=x:=by
 unfold addV
 split
 ·rename_i h
  have:x∈a:=by simpa using h
  constructor
  ·exact .inl
  ·rintro (h | rfl)
   ·exact h
   ·exact this
 ·simp

theorem mem_foldl {l:List Int}:∀ {a:List Int} {v:Int},v∈l.foldl addV a↔v∈a∨v∈l:=by
 induction l with
 | nil=>simp
 | cons x l ih=>intro a v; simp only [List.foldl_cons,ih,mem_addV,List.mem_cons,or_assoc]
theorem mem_once {l:List Int} {v:Int}:v∈once l↔v∈l:=by simp [once,mem_foldl]
end Tm

theorem varsT_once {l:List Tm} (h:Tm.fairRL l=true):varsT l=Tm.once (Tm.occL l):=by
 rw [varsT_with l (Tm.fairL_plain l h),Tm.withVL_occ]; rfl
def placeG (l:List Int) (n:Int):Int:=if atI l n 0<0 then 0 else atI l n 0
end PSL
namespace PSL
open Go

theorem fair_names {t:Tm} (h:t.fairR=true):∀ d e,e∈t.els d→e.2.s.size<1000000000:=fun d e he=>by
 have h1:=(Tm.fair_els t d).2 h e he
 rw [Tm.ownT_eq] at h1
 simp only [Bool.and_eq_true,Tm.kindR] at h1
 have h2:=h1.2
 split at h2
 ·simp only [Bool.and_eq_true,Tm.strEq_iff] at h2
  rw [h2.1.2]; decide
 ·split at h2
  ·simp only [Bool.and_eq_true,Tm.strEq_iff] at h2
   rw [h2.1]; decide
  ·simp only [Bool.and_eq_true,decide_eq_true_eq] at h2
   have:=h2.1.2; omega
theorem right_fair {t:Tm} (h:t.rightB=true):t.fairR=true:=(Tm.rightB_iff.1 h).1
def zeroT:Tm:=.mk 0 ByteArray.empty 0 []

def numberT (l:List Tm):List Tm × Int × Int :=
 if l.all rightT then (Tm.turnTL (placeG (varsT l)) l,(varsT l).length,0) else ([],0,1)
theorem one_fair {t:Tm} (h:t.fairR=true):Tm.fairRL [t]=true:=by simp [Tm.fairRL,h]
theorem varsT_mem {l:List Tm} (h:Tm.fairRL l=true) {v:Int}:v∈varsT l↔v∈Tm.occL l:=by rw [varsT_once h,Tm.mem_once]
theorem fairL_of {l:List Tm} (h:∀ t∈l,t.rightB=true):Tm.fairRL l=true:=Tm.fairRL_iff.2 fun t ht=>right_fair (h t ht)
end PSL
namespace PSL
open Go

structure IsTerm (ty:Nat→Option Ty) (T:Nat):Prop where
 ex:∃ (a b c s:Nat) (τ τa τb τc τs:Ty),ty T=some τ∧τ.sh=.struct [(0,a),(1,b),(2,c),(3,s)]∧τ.size=4∧1≤τ.bytes∧ty a=some τa∧τa.sh=.int .i64∧ty b=some τb∧τb.sh=.str∧ty c=some τc∧τc.sh=.int .i64∧ty s=some τs∧τs.sh=.slice T

def isTermB (ty:Nat→Option Ty) (T:Nat):Bool :=
 match ty T with
 | some ⟨4,by_,_,.struct [(0,a),(1,b),(2,c),(3,s)]⟩=>Nat.ble 1 by_&&(match ty a with | some ⟨_,_,_,.int .i64⟩=>true | _=>false)&&(match ty b with | some ⟨_,_,_,.str⟩=>true | _=>false) &&
   (match ty c with | some ⟨_,_,_,.int .i64⟩=>true | _=>false)&&(match ty s with | some ⟨_,_,_,.slice T'⟩=>Nat.beq T' T | _=>false)
 | _=>false

theorem isTermB_ok {ty:Nat→Option Ty} {T:Nat} (h:isTermB ty T=true):IsTerm ty T:=by
 unfold isTermB at h
 split at h
 case h_2=>cases h
 rename_i by_ z a b c s hT
 simp only [Bool.and_eq_true] at h
 obtain ⟨⟨⟨⟨h0,h1⟩,h2⟩,h3⟩,h4⟩:=h
 split at h1
 case h_2=>cases h1
 rename_i ha
 split at h2
 case h_2=>cases h2
 rename_i hb
 split at h3
 case h_2=>cases h3
 rename_i hc
 split at h4
 case h_2=>cases h4
 rename_i hs
 have:=natBeq h4
 subst this
 exact ⟨a,b,c,s,_,_,_,_,_,hT,rfl,rfl,Nat.le_of_ble_eq_true h0,ha,rfl,hb,rfl,hc,rfl,hs,rfl⟩

theorem has_int {ty:Nat→Option Ty} {B n t:Nat} {τ:Ty} {row:List D} {k:IntKind} (hτ:ty t=some τ) (hs:τ.sh=.int k) (h:HasTy ty B n t row):∃ m,row=[.v (.int k m)]∧k.min≤m∧m≤k.max:=by
 cases n with
 | zero=>simp [HasTy] at h
 | succ n=>simpa only [HasTy,hτ,hs] using h

theorem has_str {ty:Nat→Option Ty} {B n t:Nat} {τ:Ty} {row:List D} (hτ:ty t=some τ) (hs:τ.sh=.str) (h:HasTy ty B n t row):∃ s:ByteArray,row=[.v (.string s)]∧s.size≤B:=by
 cases n with
 | zero=>simp [HasTy] at h
 | succ n=>simpa only [HasTy,hτ,hs] using h

theorem has_slice {ty:Nat→Option Ty} {B n t e:Nat} {τ:Ty} {row:List D} (hτ:ty t=some τ) (hs:τ.sh=.slice e) (h:HasTy ty B (n+1) t row):∃ rows:List (List D),row=[.sl rows]∧(∀ τ,ty e=some τ→rows.length * τ.bytes≤B)∧∀ r∈rows,HasTy ty B n e r:=by
 simpa only [HasTy,hτ,hs] using h

def Tm.Fit (t:Tm):Prop:=∀ d e,e∈t.els d→I64 e.2.k∧I64 e.2.n

theorem tm_of {ty:Nat→Option Ty} {T B:Nat} (hT:IsTerm ty T) (hB:B≤140737488355328):∀ (n:Nat) (row:List D),HasTy ty B n T row→∃ t:Tm,row=t.row∧t.Ok∧t.Fit:=by
 obtain ⟨a,b,c,s,τ,τa,τb,τc,τs,h1,h2,h3,hby,ha,ha',hb,hb',hc,hc',hs,hs'⟩:=hT.ex
 intro n
 induction n using Nat.strongRecOn with
 | _ n ih =>
 intro row h
 cases n with
 | zero=>simp [HasTy] at h
 | succ n =>
  simp only [HasTy,h1,h2,HasFs] at h
  obtain ⟨_,ra,_,g1,rfl,g2,g3,_,rb,_,g4,rfl,g5,g6,_,rc,_,g7,rfl,g8,g9,_,rs,_,g10,rfl,g11,g12,rfl⟩:=h
  rw [ha] at g1; cases g1
  rw [hb] at g4; cases g4
  rw [hc] at g7; cases g7
  rw [hs] at g10; cases g10
  obtain ⟨k,rfl,hk⟩:=has_int ha ha' g3
  obtain ⟨nm,rfl,hnm⟩:=has_str hb hb' g6
  obtain ⟨m,rfl,hm⟩:=has_int hc hc' g9
  cases n with
  | zero=>simp [HasTy] at g12
  | succ n =>
   obtain ⟨rows,rfl,hlen,hrows⟩:=has_slice hs hs' g12
   have hch:∃ l:List Tm,rows=l.map Tm.row∧∀ x∈l,x.Ok∧x.Fit:=by
    clear hlen g11 g12
    induction rows with
    | nil=>exact ⟨[],rfl,by simp⟩
    | cons r rows ihr =>
     obtain ⟨t,ht1,ht2⟩:=ih n (by omega) r (hrows r (by simp))
     obtain ⟨l,hl1,hl2⟩:=ihr fun r hr=>hrows r (by simp [hr])
     exact ⟨t::l,by simp [ht1,hl1],by simpa using ⟨ht2,hl2⟩⟩
   obtain ⟨l,rfl,hl⟩:=hch
   have hll:l.length≤B:=by
    have:=hlen τ h1
    rw [List.length_map] at this
    exact Nat.le_trans (Nat.le_mul_of_pos_right _ hby) this
   refine ⟨.mk k nm m l,by simp [Tm.row,Tm.k,Tm.s,Tm.n,Tm.l,Tm.rows_eq],?_,?_⟩
   ·intro d e he
    simp only [Tm.els,List.mem_cons] at he
    rcases he with rfl | he
    ·exact ⟨show l.length≤_ by omega,show nm.size≤_ by omega⟩
    ·obtain ⟨x,hx,hex⟩:=Tm.elsL_mem he
     exact (hl x hx).1 _ _ hex
   ·intro d e he
    simp only [Tm.els,List.mem_cons] at he
    rcases he with rfl | he
    ·exact ⟨hk,hm⟩
    ·obtain ⟨x,hx,hex⟩:=Tm.elsL_mem he
     exact (hl x hx).2 _ _ hex
theorem sh_of {ty:Nat→Option Ty} {t:Nat} {τ:Ty} {sh:Sh} (h:ty t=some τ) (h2:(ty t).map Ty.sh=some sh):τ.sh=sh:=by rw [h] at h2; simpa using h2

theorem argsC {ty:Nat→Option Ty} {B t:Nat} {ts:List Nat} {axs:List AV} (h:ArgsAre ty B (t::ts) axs):∃ (n:Nat) (τ:Ty) (row:List D) (a:AV) (as':List AV),axs=a::as'∧ty t=some τ∧HasTy ty B n t row∧a=avOf τ row∧ArgsAre ty B ts as':=by
 match axs,h with
 | a::axs,h=>simp only [ArgsAre] at h; obtain ⟨⟨n,τ,row,h1,h2,_,h3⟩,h4⟩:=h; exact ⟨n,τ,row,a,axs,rfl,h1,h2,h3,h4⟩
 | [],h=>simp [ArgsAre] at h

theorem args0 {ty:Nat→Option Ty} {B:Nat} {axs:List AV} (h:ArgsAre ty B [] axs):axs=[]:=by
 cases axs with
 | nil=>rfl
 | cons _ _=>simp [ArgsAre] at h
end PSL
namespace PSL
open Go
namespace Tm
end Tm
namespace Tm
end Tm
end PSL
namespace PSL
open Go
namespace Tm
end Tm
end PSL
namespace PSL
open Go
namespace Tm

theorem fairR_mk {k:Int} {s:ByteArray} {n:Int} {l:List Tm} (h:fairR (mk k s n l)=true):fairRL l=true∧(k=1→s=ByteArray.empty∧l=[]):=by
 simp only [fairR,Bool.and_eq_true] at h
 refine ⟨h.1.2,fun hk=>?_⟩
 subst hk
 have:=kindR_var h.2
 exact ⟨this.2.2.1,List.length_eq_zero_iff.1 this.2.2.2⟩
end Tm
end PSL

namespace PSL
open Go

abbrev Binds:=List (Int × Tm)

def placeB (l:Binds) (v:Int):Int:=atI (l.map (·.1)) v 0
def findB (l:Binds) (v:Int):Option Tm:=(l.find? (fun b=>b.1==v)).map (·.2)

theorem atI_find:∀ (l:Binds) (v:Int) (i:Int),0≤i→(atI (l.map (·.1)) v i<0∧findB l v=none)∨(∃ (k:Nat) (t:Tm),atI (l.map (·.1)) v i=i+k∧l[k]? = some (v,t)∧findB l v=some t)
 | [],v,i,h=>.inl ⟨by simp [atI],rfl⟩
 | b::l,v,i,h=>by
  by_cases hb:b.1=v
  ·refine .inr ⟨0,b.2,by simp [atI,hb],by simp [← hb],by simp [findB,hb]⟩
  ·have hf:findB (b::l) v=findB l v:=by
    simp only [findB,List.find?_cons,show (b.1==v)=false by simpa using hb]
   simp only [List.map_cons,atI,if_neg hb,hf]
   rcases atI_find l v (i+1) (by omega) with ⟨h1,h2⟩ | ⟨k,t,h1,h2,h3⟩
   ·exact .inl ⟨h1,h2⟩
   ·exact .inr ⟨k+1,t,by rw [h1]; omega,by simpa using h2,h3⟩

theorem placeB_find (l:Binds) (v:Int):(placeB l v<0∧findB l v=none)∨(∃ (k:Nat) (t:Tm),placeB l v=k∧l[k]? = some (v,t)∧findB l v=some t):=by
 rcases atI_find l v 0 (Int.le_refl _) with h | ⟨k,t,h1,h2,h3⟩
 ·exact .inl h
 ·exact .inr ⟨k,t,by unfold placeB; omega,h2,h3⟩
namespace Tm
end Tm
namespace Tm
end Tm
namespace Tm
end Tm
namespace Tm
end Tm
end PSL
namespace PSL
open Go
namespace Tm
end Tm
end PSL
namespace PSL
open Go
namespace Tm

theorem findB_mem {B:Binds} {n:Int} {t:Tm} (h:findB B n=some t):(n,t)∈B:=by
 unfold findB at h
 obtain ⟨z,hz,rfl⟩:=Option.map_eq_some_iff.1 h
 have h1:=List.find?_some hz
 have h2:z.1=n:=by simpa using h1
 subst h2; exact List.mem_of_find?_eq_some hz
end Tm
end PSL
namespace PSL
open Go
namespace Tm

mutual
def putF (σ:Int→Tm):Tm→Tm
 | mk k s n l=>if k=1 then σ n else mk k s n (putFL σ l)
def putFL (σ:Int→Tm):List Tm→List Tm
 | []=>[]
 | x::r=>putF σ x::putFL σ r
end

theorem putFL_len (σ:Int→Tm):∀ l,(putFL σ l).length=l.length
 | []=>rfl
 | x::r=>by simp only [putFL,List.length_cons,putFL_len σ r]

mutual
theorem putF_congr {σ τ:Int→Tm}:∀ (p:Tm),(∀ v∈occ p,σ v=τ v)→putF σ p=putF τ p
 | mk k s n l,h=>by
  simp only [putF]
  simp only [occ] at h
  by_cases hk:k=1
  ·simp only [if_pos hk] at h ⊢; exact h n (by simp)
  ·simp only [if_neg hk] at h ⊢; rw [putFL_congr l h]
theorem putFL_congr {σ τ:Int→Tm}:∀ (l:List Tm),(∀ v∈occL l,σ v=τ v)→putFL σ l=putFL τ l
 | [],_=>rfl
 | x::r,h=>by
  simp only [occL,List.mem_append] at h
  simp only [putFL,putF_congr x (fun v hv=>h v (.inl hv)),putFL_congr r (fun v hv=>h v (.inr hv))]
end

def vT (n:Int):Tm:=mk 1 ByteArray.empty n []
end Tm
end PSL
namespace PSL
open Go
namespace Tm

mutual
theorem putF_comp (σ τ:Int→Tm):∀ (p:Tm),putF τ (putF σ p)=putF (fun v=>putF τ (σ v)) p
 | mk k s n l=>by
  simp only [putF]
  by_cases hk:k=1
  ·simp [hk]
  ·simp only [if_neg hk,putF,putFL_comp σ τ l]
theorem putFL_comp (σ τ:Int→Tm):∀ (l:List Tm),putFL τ (putFL σ l)=putFL (fun v=>putF τ (σ v)) l
 | []=>rfl
 | x::r=>by simp only [putFL,putF_comp σ τ x,putFL_comp σ τ r]
end

mutual
theorem turn_put (g:Int→Int):∀ (p:Tm),fairR p=true→turnT g p=putF (fun v=>vT (g v)) p
 | mk k s n l,h=>by
  have hl:=fairR_mk h
  simp only [turnT,putF]
  by_cases hk:k=1
  ·obtain ⟨rfl,rfl⟩:=hl.2 hk
   subst hk
   simp [turnTL,vT]
  ·rw [if_neg hk,if_neg hk,turnL_put g l hl.1]
theorem turnL_put (g:Int→Int):∀ (l:List Tm),fairRL l=true→turnTL g l=putFL (fun v=>vT (g v)) l
 | [],_=>rfl
 | x::r,h=>by
  simp only [fairRL,Bool.and_eq_true] at h
  simp only [turnTL,putFL,turn_put g x h.1,turnL_put g r h.2]
end

theorem put_self (p:Tm) (h:fairR p=true):putF vT p=p:=by
 have:=turn_put (fun n=>n) p h
 rw [turn_self] at this; exact this.symm
end Tm
end PSL
namespace PSL
open Go
namespace Tm
end Tm
end PSL
namespace PSL
open Go
namespace Tm
end Tm
end PSL

namespace PSL
open Go

def ixGo:List Int→Int→List (Int × AV)→List (Int × AV)
 | [],_,A=>A
 | v::r,i,A=>ixGo r (i+1) (if (getI A v).isSome then A else A++[(v,iV i)])
def ixM (V:List Int):List (Int × AV):=ixGo V 0 []

theorem ixGo_keys:∀ (V:List Int) (i:Int) (A:List (Int × AV)),(ixGo V i A).map (·.1)=V.foldl addV (A.map (·.1))
 | [],i,A=>rfl
 | u::V,i,A=>by
  simp only [ixGo,List.foldl_cons]
  rw [ixGo_keys V (i+1)]
  congr 1
  have key:∀ (A:List (Int × AV)),(getI A u).isSome=(A.map (·.1)).contains u:=by
   intro A
   induction A with
   | nil=>rfl
   | cons p A ih =>
    simp only [getI,List.map_cons,List.contains_cons]
    by_cases h:p.1=u
    ·rw [if_pos h]; simp [h]
    ·rw [if_neg h,ih]
     have:(u==p.1)=false:=by simp; exact fun e=>h e.symm
     rw [this,Bool.false_or]
  unfold addV
  rw [← key A]
  split <;> simp

theorem ixM_len (V:List Int):(ixM V).length=(Tm.once V).length:=by
 have:=congrArg List.length (ixGo_keys V 0 [])
 simpa [ixM,Tm.once] using this

theorem foldl_len:∀ (l a:List Int),(l.foldl addV a).length≤a.length+l.length∧((l.foldl addV a).length=a.length+l.length→l.Nodup∧∀ x∈l,x ∉ a)
 | [],a=>by simp
 | x::l,a=>by
  have h:=foldl_len l (addV a x)
  have h2:=Tm.addV_len' a x
  simp only [List.foldl_cons,List.length_cons]
  refine ⟨by omega,fun he=>?_⟩
  have h3:(addV a x).length=a.length+1:=by omega
  have hx:x ∉ a:=fun hm=>by
   unfold addV at h3; rw [if_pos (by simpa using hm)] at h3; omega
  obtain ⟨h4,h5⟩:=h.2 (by omega)
  have h6:addV a x=a++[x]:=by unfold addV; rw [if_neg (by simpa using hx)]
  rw [h6] at h5
  refine ⟨List.nodup_cons.2 ⟨fun hm=>by have:=h5 x hm; simp at this,h4⟩,fun y hy=>?_⟩
  rcases List.mem_cons.1 hy with rfl | hy
  ·exact hx
  ·have:=h5 y hy; simp at this; exact this.1

theorem once_len {V:List Int}:((Tm.once V).length<V.length)↔¬ V.Nodup:=by
 have h:=foldl_len V []
 unfold Tm.once
 constructor
 ·intro h1 h2
  have key:∀ (l a:List Int),l.Nodup→(∀ x∈l,x ∉ a)→(l.foldl addV a).length=a.length+l.length:=by
   intro l
   induction l with
   | nil=>intro a _ _; simp
   | cons x l ih =>
    intro a hn hd
    have hx:addV a x=a++[x]:=by unfold addV; rw [if_neg (by simpa using hd x (by simp))]
    rw [List.foldl_cons,hx,ih _ (List.nodup_cons.1 hn).2 fun y hy=>?_]
    ·simp; omega
    ·simp only [List.mem_append,List.mem_singleton,not_or]
     exact ⟨hd y (by simp [hy]),fun e=>(List.nodup_cons.1 hn).1 (e ▸ hy)⟩
  have:=key V [] h2 (by simp)
  simp at this; omega
 ·intro h1
  rcases Nat.lt_or_ge (V.foldl addV []).length V.length with h2 | h2
  ·exact h2
  ·exact absurd (h.2 (by simp; have:=h.1; simp at this; omega)).1 h1

def dfsL (g:Nat→List Int→Bool × List Int):List Nat→List Int→Bool × List Int
 | [],st=>(true,st)
 | k::r,st=>if (g k st).1 then dfsL g r (g k st).2 else (false,(g k st).2)

def dfsF (adj:Nat→List Nat):Nat→Nat→List Int→Bool × List Int
 | 0,_,st=>(false,st)
 | f+1,i,st=>if st.getD i 0≠0 then (decide (st.getD i 0=2),st) else
   if (dfsL (dfsF adj f) (adj i) (st.set i 1)).1 then (true,(dfsL (dfsF adj f) (adj i) (st.set i 1)).2.set i 2) else (false,(dfsL (dfsF adj f) (adj i) (st.set i 1)).2)
def zeros (st:List Int):Nat:=st.countP (· == 0)

theorem zeros_set:∀ (st:List Int) (i:Nat) (x:Int),x≠0→zeros (st.set i x)≤zeros st∧(i<st.length→st.getD i 0=0→zeros (st.set i x)+1=zeros st)
 | [],i,x,_=>by simp [zeros]
 | y::st,0,x,hx=>by
  simp only [zeros,List.set_cons_zero,List.countP_cons]
  have:(x==0)=false:=by simpa using hx
  rw [this]
  constructor
  ·simp
  ·intro _ h0
   have:y=0:=by simpa using h0
   simp [this]
 | y::st,i+1,x,hx=>by
  have h:=zeros_set st i x hx
  simp only [zeros,List.set_cons_succ,List.countP_cons] at h ⊢
  refine ⟨by omega,fun h1 h2=>?_⟩
  have:=h.2 (by simpa using h1) (by simpa using h2)
  omega

theorem dfs_shape (adj:Nat→List Nat):∀ (f i:Nat) (st:List Int),(dfsF adj f i st).2.length=st.length∧zeros (dfsF adj f i st).2≤zeros st:=by
 intro f
 induction f with
 | zero=>intro i st; exact ⟨rfl,Nat.le_refl _⟩
 | succ f ih =>
  intro i st
  have hL:∀ (L:List Nat) (st:List Int),(dfsL (dfsF adj f) L st).2.length=st.length∧zeros (dfsL (dfsF adj f) L st).2≤zeros st:=by
   intro L
   induction L with
   | nil=>intro st; exact ⟨rfl,Nat.le_refl _⟩
   | cons k r ihr =>
    intro st
    have h1:=ih k st
    have h2:=ihr (dfsF adj f k st).2
    simp only [dfsL]
    split
    ·exact ⟨by rw [h2.1,h1.1],by omega⟩
    ·exact h1
  have h1:=hL (adj i) (st.set i 1)
  have h2:=zeros_set st i 1 (by omega)
  simp only [dfsF]
  split
  ·exact ⟨rfl,Nat.le_refl _⟩
  ·split
   ·have h3:=zeros_set (dfsL (dfsF adj f) (adj i) (st.set i 1)).2 i 2 (by omega)
    exact ⟨by simp [h1.1],by simp only; omega⟩
   ·exact ⟨by simp [h1.1],by simp only; omega⟩

inductive Okn (adj:Nat→List Nat):Nat→Nat→Prop
 | mk {m i:Nat} (h:∀ k∈adj i,Okn adj m k):Okn adj (m+1) i

theorem Okn.mono {adj:Nat→List Nat}:∀ {m i:Nat},Okn adj m i→∀ {m':Nat},m≤m'→Okn adj m' i:=by
 intro m
 induction m with
 | zero=>intro i h; cases h
 | succ m ih =>
  intro i h m' hm
  cases h with
  | mk h =>
   obtain ⟨q,rfl⟩:∃ q,m'=q+1:=⟨m' - 1,by omega⟩
   exact .mk fun k hk=>ih (h k hk) (by omega)

theorem Okn.all {adj:Nat→List Nat}:∀ {L:List Nat},(∀ k∈L,∃ m,Okn adj m k)→∃ m,∀ k∈L,Okn adj m k
 | [],_=>⟨0,by simp⟩
 | k::L,h=>by
  obtain ⟨m,h1⟩:=h k (by simp)
  obtain ⟨m',h2⟩:=Okn.all (L:=L) fun k hk=>h k (by simp [hk])
  refine ⟨m+m',fun x hx=>?_⟩
  rcases List.mem_cons.1 hx with rfl | hx
  ·exact h1.mono (by omega)
  ·exact (h2 x hx).mono (by omega)

theorem dfs_sound (adj:Nat→List Nat):∀ (f i:Nat) (st:List Int),(∀ j,st.getD j 0=2→∃ m,Okn adj m j)→(∀ j,(dfsF adj f i st).2.getD j 0=2→∃ m,Okn adj m j)∧((dfsF adj f i st).1=true→∃ m,Okn adj m i):=by
 intro f
 induction f with
 | zero=>intro i st h; exact ⟨h,fun h=>by cases h⟩
 | succ f ih =>
  intro i st h
  have hL:∀ (L:List Nat) (st:List Int),(∀ j,st.getD j 0=2→∃ m,Okn adj m j)→(∀ j,(dfsL (dfsF adj f) L st).2.getD j 0=2→∃ m,Okn adj m j)∧((dfsL (dfsF adj f) L st).1=true→∀ k∈L,∃ m,Okn adj m k):=by
   intro L
   induction L with
   | nil=>intro st h; exact ⟨h,by simp⟩
   | cons k r ihr =>
    intro st h
    obtain ⟨h1,h2⟩:=ih k st h
    obtain ⟨h3,h4⟩:=ihr _ h1
    simp only [dfsL]
    split
    ·rename_i hk
     refine ⟨h3,fun hr x hx=>?_⟩
     rcases List.mem_cons.1 hx with rfl | hx
     ·exact h2 hk
     ·exact h4 hr x hx
    ·exact ⟨h1,fun h=>by cases h⟩
  have hset:∀ (st:List Int) (x:Int),(∀ j,st.getD j 0=2→∃ m,Okn adj m j)→(x=2→∃ m,Okn adj m i)→∀ j,(st.set i x).getD j 0=2→∃ m,Okn adj m j:=fun st x hst hx j hj=>by
   by_cases e:j=i
   ·subst e
    rcases Nat.lt_or_ge j st.length with hl | hl
    ·rw [List.getD_eq_getElem?_getD,List.getElem?_set_self hl] at hj
     exact hx (by simpa using hj)
    ·rw [List.getD_eq_getElem?_getD,List.getElem?_eq_none (by simpa using hl)] at hj
     simp at hj
   ·rw [List.getD_eq_getElem?_getD,List.getElem?_set_ne (fun h=>e h.symm),← List.getD_eq_getElem?_getD] at hj
    exact hst j hj
  obtain ⟨h1,h2⟩:=hL (adj i) (st.set i 1) (hset st 1 h (by omega))
  have hi:(dfsL (dfsF adj f) (adj i) (st.set i 1)).1=true→∃ m,Okn adj m i:=fun hr=>by
   obtain ⟨m,hm⟩:=Okn.all (h2 hr)
   exact ⟨m+1,.mk hm⟩
  simp only [dfsF]
  split
  ·exact ⟨h,fun hd=>h i (by simpa using hd)⟩
  ·split
   ·rename_i hr
    exact ⟨hset _ 2 h1 fun _=>hi hr,fun _=>hi hr⟩
   ·exact ⟨h1,fun h=>by cases h⟩

def adjB (l:Binds) (i:Nat):List Nat:=match l[i]? with
 | some b=>(varsT [b.2]).filterMap fun v=>if placeB l v<0 then none else some (placeB l v).toNat
 | none=>[]

def dfsAll (adj:Nat→List Nat) (n:Nat):List Nat→List Int→Bool
 | [],_=>true
 | i::r,st=>if (dfsF adj (n+1) i st).1 then dfsAll adj n r (dfsF adj (n+1) i st).2 else false
def fineB (l:Binds):Bool:=l.all fun b=>decide (0≤b.1)&&decide (b.1<1000000)&&b.2.rightB

def rightS (l:Binds):Bool:=!decide ((ixM (l.map (·.1))).length<l.length)&&fineB l&&dfsAll (adjB l) l.length (List.range l.length) (List.replicate l.length 0)

theorem dfsAll_sound {adj:Nat→List Nat} {n:Nat}:∀ (L:List Nat) (st:List Int),(∀ j,st.getD j 0=2→∃ m,Okn adj m j)→dfsAll adj n L st=true→∀ i∈L,∃ m,Okn adj m i
 | [],st,_,_=>by simp
 | i::r,st,h,hr=>by
  simp only [dfsAll] at hr
  obtain ⟨h1,h2⟩:=dfs_sound adj (n+1) i st h
  split at hr
  ·rename_i hi
   have h3:=dfsAll_sound r _ h1 hr
   intro x hx
   rcases List.mem_cons.1 hx with rfl | hx
   ·exact h2 hi
   ·exact h3 x hx
  ·cases hr

theorem rightS_spec {l:Binds} (h:rightS l=true):(l.map (·.1)).Nodup∧(∀ b∈l,0≤b.1∧b.1<1000000∧b.2.rightB=true)∧∃ M,∀ i<l.length,Okn (adjB l) M i:=by
 simp only [rightS,Bool.and_eq_true,Bool.not_eq_true',decide_eq_false_iff_not] at h
 obtain ⟨⟨h1,h2⟩,h3⟩:=h
 refine ⟨?_,fun b hb=>?_,?_⟩
 ·rw [ixM_len] at h1
  have:=once_len (V:=l.map (·.1))
  rw [List.length_map] at this
  exact Classical.byContradiction fun hn=>h1 (this.2 hn)
 ·have:=List.all_eq_true.1 h2 b hb
  simp only [Bool.and_eq_true,decide_eq_true_eq] at this
  exact ⟨this.1.1,this.1.2,this.2⟩
 ·have h4:=dfsAll_sound _ _ (fun j hj=>by
   rw [List.getD_eq_getElem?_getD,List.getElem?_replicate] at hj
   split at hj <;> simp at hj) h3
  obtain ⟨M,hM⟩:=Okn.all h4
  exact ⟨M,fun i hi=>hM i (by simpa using hi)⟩
end PSL
namespace PSL
open Go
end PSL
namespace PSL
open Go
end PSL

namespace PSL
open Go
namespace Tm

mutual
theorem putF_fair {σ:Int→Tm}:∀ (p:Tm),fairR p=true→(∀ v∈occ p,fairR (σ v)=true)→fairR (putF σ p)=true
 | mk k s n l,h,hs=>by
  have hf:=fairR_mk h
  simp only [occ] at hs
  simp only [putF]
  by_cases hk:k=1
  ·rw [if_pos hk] at hs ⊢; exact hs n (by simp)
  ·rw [if_neg hk] at hs ⊢
   simp only [fairR,Bool.and_eq_true] at h ⊢
   exact ⟨⟨h.1.1,putFL_fair l h.1.2 hs⟩,by rw [putFL_len]; exact h.2⟩
theorem putFL_fair {σ:Int→Tm}:∀ (l:List Tm),fairRL l=true→(∀ v∈occL l,fairR (σ v)=true)→fairRL (putFL σ l)=true
 | [],_,_=>rfl
 | x::l,h,hs=>by
  simp only [fairRL,Bool.and_eq_true] at h
  simp only [occL,List.mem_append] at hs
  simp only [putFL,fairRL,Bool.and_eq_true]
  exact ⟨putF_fair x h.1 fun v hv=>hs v (.inl hv),putFL_fair l h.2 fun v hv=>hs v (.inr hv)⟩
end

mutual
theorem occ_putF {σ:Int→Tm}:∀ (p:Tm) (u:Int),u∈occ (putF σ p)→∃ v∈occ p,u∈occ (σ v)
 | mk k s n l,u,h=>by
  simp only [putF] at h
  simp only [occ]
  by_cases hk:k=1
  ·rw [if_pos hk] at h ⊢; exact ⟨n,by simp,h⟩
  ·rw [if_neg hk] at h ⊢
   simp only [occ,if_neg hk] at h
   exact occL_putF l u h
theorem occL_putF {σ:Int→Tm}:∀ (l:List Tm) (u:Int),u∈occL (putFL σ l)→∃ v∈occL l,u∈occ (σ v)
 | [],u,h=>by simp [putFL,occL] at h
 | x::l,u,h=>by
  simp only [putFL,occL,List.mem_append] at h
  simp only [occL,List.mem_append]
  rcases h with h | h
  ·obtain ⟨v,h1,h2⟩:=occ_putF x u h; exact ⟨v,.inl h1,h2⟩
  ·obtain ⟨v,h1,h2⟩:=occL_putF l u h; exact ⟨v,.inr h1,h2⟩
end

theorem vT_fair' {n:Int} (h0:0≤n) (h1:n<1000000):fairR (vT n)=true:=by
 have e:strEq ByteArray.empty ⟨#[]⟩=true:=strEq_iff.2 rfl
 have e2:ByteArray.empty.data.toList.all byteOk=true:=rfl
 simp only [vT,fairR,fairRL,kindR,e,e2]
 simp
 omega

theorem putFL_map (σ:Int→Tm):∀ l,putFL σ l=l.map (putF σ)
 | []=>rfl
 | x::l=>by simp only [putFL,List.map_cons,putFL_map σ l]

theorem put_id {σ:Int→Tm} (p:Tm) (h:fairR p=true) (hs:∀ v∈occ p,σ v=vT v):putF σ p=p:=by
 rw [putF_congr p hs,put_self p h]
end Tm

def fullS (B:Binds):Nat→Tm→Tm
 | 0,t=>t
 | m+1,t=>Tm.putF (fun v=>match findB B v with | some x=>fullS B m x | none=>Tm.vT v) t

def levT (B:Binds) (m:Nat) (t:Tm):Prop:=∀ v∈Tm.occ t,0≤placeB B v→Okn (adjB B) m (placeB B v).toNat

theorem lev_bind {B:Binds} {m:Nat} {v:Int} {x:Tm} (hx:x.fairR=true) (h:findB B v=some x) (ho:Okn (adjB B) m (placeB B v).toNat):∃ q,m=q+1∧levT B q x:=by
 cases ho with
 | @mk q _ ho =>
  refine ⟨q,rfl,fun u hu hp=>ho _ ?_⟩
  rcases placeB_find B v with ⟨_,h2⟩ | ⟨k,t,h1,h2,h3⟩
  ·rw [h2] at h; cases h
  ·rw [h3] at h; cases h
   rw [h1]
   simp only [Int.toNat_natCast,adjB,h2,List.mem_filterMap]
   refine ⟨u,?_,by rw [if_neg (by omega)]⟩
   rw [varsT_once (one_fair hx)]
   simp [Tm.occL,Tm.mem_once,hu]
section
variable {B:Binds} (hB:∀ b∈B,b.2.fairR=true)
include hB
theorem findB_fair {v:Int} {x:Tm} (h:findB B v=some x):x.fairR=true:=hB _ (Tm.findB_mem h)

theorem lev_find {m:Nat} {t:Tm} (h:levT B m t) {v:Int} (hv:v∈Tm.occ t) {x:Tm} (hx:findB B v=some x):∃ q,m=q+1∧levT B q x:=by
 refine lev_bind (findB_fair hB hx) hx (h v hv ?_)
 rcases placeB_find B v with ⟨_,h2⟩ | ⟨k,t,h1,h2,h3⟩
 ·rw [h2] at hx; cases hx
 ·omega

theorem full_stable:∀ (m:Nat) (t:Tm),t.fairR=true→levT B m t→∀ m',m≤m'→fullS B m' t=fullS B m t:=by
 intro m
 induction m with
 | zero =>
  intro t hf hl m' _
  have hn:∀ v∈Tm.occ t,findB B v=none:=fun v hv=>by
   cases h:findB B v with
   | none=>rfl
   | some x=>obtain ⟨q,hq,_⟩:=lev_find hB hl hv h; omega
  cases m' with
  | zero=>rfl
  | succ m' =>
   simp only [fullS]
   exact Tm.put_id t hf fun v hv=>by rw [hn v hv]
 | succ m ih =>
  intro t hf hl m' hm
  obtain ⟨q,rfl⟩:∃ q,m'=q+1:=⟨m' - 1,by omega⟩
  simp only [fullS]
  refine Tm.putF_congr t fun v hv=>?_
  cases h:findB B v with
  | none=>rfl
  | some x =>
   obtain ⟨r,hr,h2⟩:=lev_find hB hl hv h
   cases hr
   exact ih x (findB_fair hB h) h2 q (by omega)

theorem full_fair:∀ (m:Nat) (t:Tm),t.fairR=true→(∀ v∈Tm.occ t,0≤v∧v<1000000)→(fullS B m t).fairR=true:=by
 intro m
 induction m with
 | zero=>intro t h _; exact h
 | succ m ih =>
  intro t h hv
  refine Tm.putF_fair t h fun v hm=>?_
  cases hf:findB B v with
  | none=>exact Tm.vT_fair' (hv v hm).1 (hv v hm).2
  | some x =>
   have:=findB_fair hB hf
   exact ih x this (Tm.occ_range x this)

theorem full_free:∀ (m:Nat) (t:Tm),levT B m t→∀ u∈Tm.occ (fullS B m t),findB B u=none:=by
 intro m
 induction m with
 | zero =>
  intro t hl u hu
  cases h:findB B u with
  | none=>rfl
  | some x=>obtain ⟨q,hq,_⟩:=lev_find hB hl hu h; omega
 | succ m ih =>
  intro t hl u hu
  obtain ⟨v,hv,h2⟩:=Tm.occ_putF t u hu
  cases h:findB B v with
  | none =>
   rw [h] at h2
   simp [Tm.vT,Tm.occ] at h2
   rw [h2]; exact h
  | some x =>
   rw [h] at h2
   obtain ⟨r,hr,h3⟩:=lev_find hB hl hv h
   cases hr
   exact ih x h3 u h2
end

structure Sub (B:Binds) (M:Nat):Prop where
 fair:∀ b∈B,b.2.fairR=true
 okn:∀ i<B.length,Okn (adjB B) M i

theorem Sub.lev {B:Binds} {M:Nat} (h:Sub B M) (t:Tm):levT B M t:=fun v _ hp=>h.okn _ (by
 rcases placeB_find B v with ⟨h1,_⟩ | ⟨k,t,h1,h2,h3⟩
 ·omega
 ·have:=(List.getElem?_eq_some_iff.1 h2).1; omega)

theorem Sub.of {B:Binds} (h:rightS B=true):∃ M,Sub B M:=by
 obtain ⟨_,h2,M,h3⟩:=rightS_spec h
 exact ⟨M,fun b hb=>right_fair (h2 b hb).2.2,h3⟩

theorem Sub.fix {B:Binds} {M:Nat} (h:Sub B M) {t:Tm} (hf:t.fairR=true):fullS B M t=Tm.putF (fun v=>match findB B v with | some x=>fullS B M x | none=>Tm.vT v) t :=
 (full_stable h.fair M t hf (h.lev t) (M+1) (by omega)).symm

theorem occ_var {t:Tm} (hk:t.k=1):t.n∈Tm.occ t:=by
 obtain ⟨k,s,n,l⟩:=t
 simp only [Tm.k] at hk
 simp [Tm.occ,hk,Tm.n]

theorem Sub.head {B:Binds} {M:Nat} (h:Sub B M) {t:Tm} (hf:t.fairR=true) (hx:t.k=1→findB B t.n=none):fullS B M t=.mk t.k t.s t.n (t.l.map (fullS B M)):=by
 rw [h.fix hf]
 obtain ⟨k,s,n,l⟩:=t
 have h1:=Tm.fairR_mk hf
 by_cases hk:k=1
 ·obtain ⟨rfl,rfl⟩:=h1.2 hk
  have:=hx hk
  simp only [Tm.n] at this
  subst hk
  simp [Tm.putF,this,Tm.vT,Tm.k,Tm.s,Tm.n,Tm.l]
 ·simp only [Tm.putF,if_neg hk,Tm.k,Tm.s,Tm.n,Tm.l,Tm.putFL_map]
  congr 1
  refine List.map_congr_left fun x hx=>?_
  exact (h.fix (Tm.fairRL_iff.1 h1.1 x hx)).symm

theorem Sub.kid_fair {t x:Tm} (hf:t.fairR=true) (hx:x∈t.l):x.fairR=true:=by
 obtain ⟨k,s,n,l⟩:=t
 exact Tm.fairRL_iff.1 (Tm.fairR_mk hf).1 x hx
theorem Sub.free {B:Binds} {M:Nat} (h:Sub B M) (t:Tm):∀ u∈Tm.occ (fullS B M t),findB B u=none:=full_free h.fair M t (h.lev t)
theorem Sub.fairF {B:Binds} {M:Nat} (h:Sub B M) {t:Tm} (hf:t.fairR=true):(fullS B M t).fairR=true:=full_fair h.fair M t hf (Tm.occ_range t hf)

theorem Sub.same {B:Binds} {M:Nat} (h:Sub B M) {t:Tm} (hf:t.fairR=true) (hn:∀ u∈Tm.occ t,findB B u=none):fullS B M t=t:=by
 rw [h.fix hf]
 exact Tm.put_id t hf fun v hv=>by rw [hn v hv]
namespace Tm
end Tm
end PSL
namespace PSL
open Go
end PSL
namespace PSL
open Go

theorem findB_cons (b:Int × Tm) (r:Binds) (v:Int):findB (b::r) v=if b.1=v then some b.2 else findB r v:=by
 by_cases h:b.1=v
 ·simp [findB,h]
 ·have:(b.1==v)=false:=by simpa using h
  simp [findB,this,h]
end PSL
namespace PSL
open Go
namespace Tm
end Tm
end PSL
namespace PSL
open Go
end PSL

namespace PSL
open Go
def rowD (n:Nat) (r:Nat→Bool):List D:=(List.range n).map fun j=>.v (.bool (r j))
def tabD (n k:Nat) (c:Nat→Nat→Bool):List (List D):=(List.range k).map fun i=>rowD n (c i)

def warsh (C:Nat→Nat→Bool):Nat→Nat→Nat→Bool
 | 0,i,j=>C i j
 | k+1,i,j=>warsh C k i j || (warsh C k i k&&warsh C k k j)

theorem warsh_col (C:Nat→Nat→Bool) (k i:Nat):warsh C (k+1) i k=warsh C k i k:=by
 simp only [warsh]; cases warsh C k i k <;> simp

theorem warsh_row (C:Nat→Nat→Bool) (k j:Nat):warsh C (k+1) k j=warsh C k k j:=by
 simp only [warsh]; cases warsh C k k j <;> simp

inductive Way (C:Nat→Nat→Bool):Nat→Nat→Prop
 | one {i j:Nat} (h:C i j=true):Way C i j
 | snoc {i j k:Nat} (h:Way C i j) (h2:C j k=true):Way C i k

theorem Way.trans {C:Nat→Nat→Bool} {i j k:Nat} (h:Way C i j) (h2:Way C j k):Way C i k:=by
 induction h2 with
 | one h3=>exact .snoc h h3
 | snoc _ h3 ih=>exact .snoc ih h3

theorem warsh_way (C:Nat→Nat→Bool):∀ (k i j:Nat),warsh C k i j=true→Way C i j
 | 0,i,j,h=>.one h
 | k+1,i,j,h=>by
  simp only [warsh,Bool.or_eq_true,Bool.and_eq_true] at h
  rcases h with h | ⟨h1,h2⟩
  ·exact warsh_way C k i j h
  ·exact (warsh_way C k i k h1).trans (warsh_way C k k j h2)

theorem warsh_mono (C:Nat→Nat→Bool) (k i j:Nat) (h:C i j=true):warsh C k i j=true:=by
 induction k with
 | zero=>exact h
 | succ k ih=>simp [warsh,ih]

theorem warsh_trans (C:Nat→Nat→Bool):∀ (k m i j:Nat),m<k→warsh C k i m=true→warsh C k m j=true→warsh C k i j=true
 | 0,m,i,j,h,_,_=>by omega
 | k+1,m,i,j,h,h1,h2=>by
  have ih:=warsh_trans C k
  by_cases e:m=k
  ·subst e
   rw [warsh_col] at h1; rw [warsh_row] at h2
   simp [warsh,h1,h2]
  ·have hm:m<k:=by omega
   simp only [warsh,Bool.or_eq_true,Bool.and_eq_true] at h1 h2 ⊢
   rcases h1 with h1 | ⟨h1,h1'⟩ <;> rcases h2 with h2 | ⟨h2,h2'⟩
   ·exact .inl (ih m i j hm h1 h2)
   ·exact .inr ⟨ih m i k hm h1 h2,h2'⟩
   ·exact .inr ⟨h1,ih m k j hm h1' h2⟩
   ·exact .inr ⟨h1,h2'⟩

theorem warsh_full {C:Nat→Nat→Bool} {n:Nat} (hC:∀ i j,C i j=true→i<n∧j<n) {i j:Nat} (h:Way C i j):warsh C n i j=true:=by
 have hj:∀ {i j:Nat},Way C i j→j<n:=fun h=>by
  cases h with
  | one h=>exact (hC _ _ h).2
  | snoc _ h=>exact (hC _ _ h).2
 induction h with
 | one h=>exact warsh_mono C n _ _ h
 | snoc h1 h2 ih=>exact warsh_trans C n _ _ _ (hj h1) ih (warsh_mono C n _ _ h2)
def isOpen (st:List Int) (j:Nat):Prop:=st.getD j 0≠0∧st.getD j 0≠2
def edge (adj:Nat→List Nat) (i j:Nat):Bool:=(adj i).contains j

theorem open_set {st:List Int} {i j:Nat} {x:Int} (hi:i<st.length):isOpen (st.set i x) j↔(if j=i then x≠0∧x≠2 else isOpen st j):=by
 unfold isOpen
 by_cases e:j=i
 ·subst e; rw [List.getD_eq_getElem?_getD,List.getElem?_set_self hi]; simp
 ·rw [if_neg e,List.getD_eq_getElem?_getD,List.getElem?_set_ne (fun h=>e h.symm),← List.getD_eq_getElem?_getD]

theorem dfs_full (adj:Nat→List Nat) (n:Nat) (hadj:∀ i,∀ k∈adj i,k<n):∀ (f i:Nat) (st:List Int),st.length=n→i<n→zeros st<f→(∀ j,isOpen st j→Way (edge adj) j i) →
  ((dfsF adj f i st).1=true∧∀ j,isOpen (dfsF adj f i st).2 j↔isOpen st j)∨((dfsF adj f i st).1=false∧∃ c,Way (edge adj) c c):=by
 intro f
 induction f with
 | zero=>intro i st _ _ hz; omega
 | succ f ih =>
  intro i st hl hi hz hop
  simp only [dfsF]
  split
  ·rename_i hne
   by_cases h2:st.getD i 0=2
   ·left; exact ⟨decide_eq_true h2,fun j=>Iff.rfl⟩
   ·right; exact ⟨by simp only [decide_eq_false h2],i,hop i ⟨hne,h2⟩⟩
  ·rename_i h0
   have h0:st.getD i 0=0:=by simpa using h0
   have hil:i<st.length:=by omega
   have hz1:=(zeros_set st i 1 (by omega)).2 hil h0
   have hop1:∀ j,isOpen (st.set i 1) j→∀ k∈adj i,Way (edge adj) j k:=fun j hj k hk=>by
    have he:edge adj i k=true:=by simpa [edge] using hk
    rw [open_set hil] at hj
    by_cases e:j=i
    ·subst e; exact .one he
    ·rw [if_neg e] at hj; exact .snoc (hop j hj) he
   have hL:∀ (L:List Nat) (st1:List Int),st1.length=n→zeros st1<f→(∀ k∈L,k∈adj i)→(∀ j,isOpen st1 j→∀ k∈adj i,Way (edge adj) j k) →
     ((dfsL (dfsF adj f) L st1).1=true∧∀ j,isOpen (dfsL (dfsF adj f) L st1).2 j↔isOpen st1 j)∨((dfsL (dfsF adj f) L st1).1=false∧∃ c,Way (edge adj) c c):=by
    intro L
    induction L with
    | nil=>intro st1 _ _ _ _; exact .inl ⟨rfl,fun j=>Iff.rfl⟩
    | cons k r ihr =>
     intro st1 hl1 hz1 hk hop1
     have hk1:=hk k (by simp)
     have hsh:=dfs_shape adj f k st1
     simp only [dfsL]
     rcases ih k st1 hl1 (hadj i k hk1) hz1 (fun j hj=>hop1 j hj k hk1) with ⟨h1,h2⟩ | ⟨h1,h2⟩
     ·rw [if_pos h1]
      rcases ihr (dfsF adj f k st1).2 (by rw [hsh.1,hl1]) (by omega) (fun x hx=>hk x (by simp [hx])) (fun j hj=>hop1 j ((h2 j).1 hj)) with ⟨h3,h4⟩ | h3
      ·exact .inl ⟨h3,fun j=>(h4 j).trans (h2 j)⟩
      ·exact .inr h3
     ·rw [if_neg (by rw [h1]; simp)]; exact .inr ⟨rfl,h2⟩
   rcases hL (adj i) (st.set i 1) (by simp [hl]) (by omega) (fun _ h=>h) hop1 with ⟨h1,h2⟩ | ⟨h1,h2⟩
   ·rw [if_pos h1]
    refine .inl ⟨rfl,fun j=>?_⟩
    have hlen:((dfsL (dfsF adj f) (adj i) (st.set i 1)).2).length=n:=by
     have key:∀ (L:List Nat) (st1:List Int),st1.length=n→(dfsL (dfsF adj f) L st1).2.length=n:=by
      intro L
      induction L with
      | nil=>intro st1 h; exact h
      | cons k r ihr =>
       intro st1 h
       have hsh:=dfs_shape adj f k st1
       simp only [dfsL]
       split
       ·exact ihr _ (by rw [hsh.1,h])
       ·rw [hsh.1,h]
     exact key _ _ (by simp [hl])
    rw [open_set (by omega)]
    by_cases e:j=i
    ·subst e; rw [if_pos rfl]
     constructor
     ·intro h; exact absurd rfl h.2
     ·intro h; exact absurd h0 h.1
    ·rw [if_neg e,h2 j,open_set hil,if_neg e]
   ·rw [if_neg (by rw [h1]; simp)]; exact .inr ⟨rfl,h2⟩

theorem dfsAll_full (adj:Nat→List Nat) (n:Nat) (hadj:∀ i,∀ k∈adj i,k<n):∀ (L:List Nat) (st:List Int),st.length=n→(∀ i∈L,i<n)→(∀ j,¬ isOpen st j)→dfsAll adj n L st=false→∃ c,Way (edge adj) c c
 | [],st,_,_,_,h=>by cases h
 | i::r,st,hl,hL,hop,h=>by
  have hz:zeros st<n+1:=by have:zeros st≤st.length:=List.countP_le_length; omega
  have hsh:=dfs_shape adj (n+1) i st
  simp only [dfsAll] at h
  rcases dfs_full adj n hadj (n+1) i st hl (hL i (by simp)) hz (fun j hj=>absurd hj (hop j)) with ⟨h1,h2⟩ | ⟨_,h2⟩
  ·rw [if_pos h1] at h
   exact dfsAll_full adj n hadj r _ (by rw [hsh.1,hl]) (fun x hx=>hL x (by simp [hx])) (fun j hj=>hop j ((h2 j).1 hj)) h
  ·exact h2

theorem okn_way {adj:Nat→List Nat} {i j:Nat} (h:Way (edge adj) i j):∀ {m:Nat},Okn adj m i→∃ q,q<m∧Okn adj q j:=by
 induction h with
 | one h =>
  intro m ho
  cases ho with
  | @mk q _ ho=>exact ⟨q,by omega,ho _ (by simpa [edge] using h)⟩
 | snoc _ h2 ih =>
  intro m ho
  obtain ⟨q,h3,h4⟩:=ih ho
  cases h4 with
  | @mk q' _ ho'=>exact ⟨q',by omega,ho' _ (by simpa [edge] using h2)⟩

theorem okn_round {adj:Nat→List Nat} {i:Nat} (h:Way (edge adj) i i):∀ {m:Nat},¬ Okn adj m i:=by
 intro m
 induction m using Nat.strongRecOn with
 | ind m ih=>intro ho; obtain ⟨q,h1,h2⟩:=okn_way h ho; exact ih q h1 h2

theorem adjB_lt {B:Binds} {i k:Nat} (h:k∈adjB B i):k<B.length:=by
 unfold adjB at h
 split at h
 ·simp only [List.mem_filterMap] at h
  obtain ⟨v,_,h2⟩:=h
  split at h2
  ·cases h2
  ·rename_i hp
   cases h2
   rcases placeB_find B v with ⟨h3,_⟩ | ⟨j,t,h3,h4,_⟩
   ·omega
   ·rw [h3]; have:=(List.getElem?_eq_some_iff.1 h4).1; simpa using this
 ·simp at h

theorem adjB_lt' {B:Binds} {i k:Nat} (h:k∈adjB B i):i<B.length:=by
 unfold adjB at h
 split at h
 ·rename_i b hb; exact (List.getElem?_eq_some_iff.1 hb).1
 ·simp at h

def okAt (B:Binds) (i:Nat):Bool:=match B[i]? with
 | some b=>decide (0≤b.1)&&decide (b.1<1000000)&&decide (placeB B b.1=i)&&b.2.rightB
 | none=>true
def rightR (B:Binds):Bool:=(List.range B.length).all (okAt B)&&(List.range B.length).all fun i=>!warsh (edge (adjB B)) B.length i i

theorem findB_nil:∀ {B:Binds} {v:Int},findB B v=none→∀ b∈B,b.1≠v
 | [],_,_,b,hb=>by simp at hb
 | c::B,v,h,b,hb=>by
  rw [findB_cons] at h
  split at h
  ·cases h
  ·rename_i hc
   rcases List.mem_cons.1 hb with rfl | hb
   ·exact hc
   ·exact findB_nil h b hb

theorem nodup_place {B:Binds}:(B.map (·.1)).Nodup↔∀ (i:Nat) (b:Int × Tm),B[i]? = some b→placeB B b.1=i:=by
 constructor
 ·intro hn i b hb
  rcases placeB_find B b.1 with ⟨_,h2⟩ | ⟨j,t,h1,h2,_⟩
  ·exact absurd rfl (findB_nil h2 b (List.mem_of_getElem? hb))
  ·rw [h1]
   have e1:(B.map (·.1))[i]? = some b.1:=by rw [List.getElem?_map,hb]; rfl
   have e2:(B.map (·.1))[j]? = some b.1:=by rw [List.getElem?_map,h2]; rfl
   obtain ⟨l1,e1⟩:=List.getElem?_eq_some_iff.1 e1
   obtain ⟨l2,e2⟩:=List.getElem?_eq_some_iff.1 e2
   have:=(List.getElem_inj hn).1 (e2.trans e1.symm)
   omega
 ·intro h
  have hB:∀ k,(h:k<B.length)→placeB B (B[k]).1=k:=fun k hk=>h k _ (List.getElem?_eq_getElem hk)
  refine List.pairwise_iff_getElem.2 fun i j hi hj hij he=>?_
  simp only [List.getElem_map] at he
  have g1:=hB i (by simpa using hi)
  have g2:=hB j (by simpa using hj)
  rw [he,g2] at g1
  omega

theorem rightR_eq (B:Binds):rightR B=rightS B:=by
 have hadj:∀ i,∀ k∈adjB B i,k<B.length:=fun i k hk=>adjB_lt hk
 have hE:∀ i j,edge (adjB B) i j=true→i<B.length∧j<B.length:=fun i j h=>by
  have h:j∈adjB B i:=by simpa [edge] using h
  exact ⟨adjB_lt' h,adjB_lt h⟩
 have hA:((List.range B.length).all fun i=>!warsh (edge (adjB B)) B.length i i)=dfsAll (adjB B) B.length (List.range B.length) (List.replicate B.length 0):=by
  have h0:∀ j,(List.replicate B.length (0:Int)).getD j 0=0:=fun j=>by
   rw [List.getD_eq_getElem?_getD,List.getElem?_replicate]; split <;> rfl
  rw [Bool.eq_iff_iff]
  constructor
  ·intro h
   cases hd:dfsAll (adjB B) B.length (List.range B.length) (List.replicate B.length 0) with
   | true=>rfl
   | false =>
    obtain ⟨c,hc⟩:=dfsAll_full (adjB B) B.length hadj _ _ (by simp) (by simp) (fun j hj=>hj.1 (h0 j)) hd
    have hcl:c<B.length:=by
     have key:∀ {i j:Nat},Way (edge (adjB B)) i j→j<B.length:=fun h=>by
      cases h with
      | one h=>exact (hE _ _ h).2
      | snoc _ h=>exact (hE _ _ h).2
     exact key hc
    have h1:=List.all_eq_true.1 h c (by simpa using hcl)
    rw [warsh_full hE hc] at h1; cases h1
  ·intro h
   rw [List.all_eq_true]
   intro i hi
   obtain ⟨m,hm⟩:=dfsAll_sound _ _ (fun j hj=>by rw [h0] at hj; cases hj) h i hi
   cases hw:warsh (edge (adjB B)) B.length i i with
   | false=>rfl
   | true=>exact absurd hm (okn_round (warsh_way _ _ _ _ hw))
 have hF:(List.range B.length).all (okAt B)=(!decide ((ixM (B.map (·.1))).length<B.length)&&fineB B):=by
  have hn:(!decide ((ixM (B.map (·.1))).length<B.length))=true↔(B.map (·.1)).Nodup:=by
   have:=once_len (V:=B.map (·.1))
   rw [List.length_map,← ixM_len] at this
   simp only [Bool.not_eq_true',decide_eq_false_iff_not]
   rw [this]; exact Classical.not_not
  rw [Bool.eq_iff_iff,Bool.and_eq_true,hn,nodup_place,List.all_eq_true,fineB,List.all_eq_true]
  constructor
  ·intro h
   have key:∀ (i:Nat) (b:Int × Tm),B[i]? = some b→(0≤b.1∧b.1<1000000)∧placeB B b.1=i∧b.2.rightB=true:=fun i b hb=>by
    have:=h i (by simp; exact (List.getElem?_eq_some_iff.1 hb).1)
    rw [okAt,hb] at this
    simp only [Bool.and_eq_true,decide_eq_true_eq] at this
    exact ⟨this.1.1,this.1.2,this.2⟩
   refine ⟨fun i b hb=>(key i b hb).2.1,fun b hb=>?_⟩
   obtain ⟨i,hi⟩:=List.mem_iff_getElem?.1 hb
   obtain ⟨h1,_,h3⟩:=key i b hi
   simp [h1.1,h1.2,h3]
  ·rintro ⟨h1,h2⟩ i hi
   have hil:i<B.length:=by simpa using hi
   have hb:B[i]? = some (B[i]'hil):=List.getElem?_eq_getElem _
   have h3:=h2 _ (List.mem_of_getElem? hb)
   simp only [Bool.and_eq_true,decide_eq_true_eq] at h3
   rw [okAt,hb]
   simp only [Bool.and_eq_true,decide_eq_true_eq]
   exact ⟨⟨h3.1,h1 i _ hb⟩,h3.2⟩
 rw [rightR,hA,hF,rightS]
end PSL

namespace PSL
open Go
namespace Tm
end Tm
end PSL
namespace PSL
open Go
end PSL

namespace PSL
open Go
namespace Tm
end Tm
abbrev Pt:=Tm × List Nat
namespace Tm

def Good (P:List Pt):Prop:=∀ (k:Nat) (y:Tm) (at_:List Nat),P[k]? = some (y,at_)→y.fairR=true∧at_.length=y.l.length∧∀ (j:Nat) (z:Tm),y.l[j]? = some z→∃ (a:Nat) (b:List Nat),at_[j]? = some a∧a<k∧P[a]? = some (z,b)

def Pre (P Q:List Pt):Prop:=∃ R,Q=P++R

theorem Pre.get {P Q:List Pt} (h:Pre P Q) {i:Nat} {x:Pt} (hx:P[i]? = some x):Q[i]? = some x:=by
 obtain ⟨R,rfl⟩:=h
 rw [List.getElem?_append_left (List.getElem?_eq_some_iff.1 hx).1]; exact hx
theorem Pre.refl (P:List Pt):Pre P P:=⟨[],by simp⟩

theorem Pre.trans {P Q R:List Pt} (h:Pre P Q) (k:Pre Q R):Pre P R:=by
 obtain ⟨A,rfl⟩:=h; obtain ⟨B,rfl⟩:=k
 exact ⟨A++B,by simp⟩
theorem Good.nil:Good []:=fun k y b h=>by simp at h
end Tm
end PSL

namespace PSL
open Go
def gd (at_:List Nat) (j:Nat):Int:=((at_.getD j 0:Nat):Int)
end PSL
namespace PSL
open Go
end PSL
namespace PSL
open Go
end PSL
namespace PSL
open Go
end PSL
namespace PSL
open Go

theorem few_neg {t:Tm} {m d:Int} (h:-1≤m∧m<0):t.few m d=-1:=by
 rw [Tm.few_eq,if_pos]
 simp only [Tm.fewStep]
 rw [show IntKind.i64.wrap (m - 1)=m - 1 from w64 (by omega) (by omega),decide_eq_true (by omega:m - 1<0)]
 rfl

theorem few_bound (t:Tm) {m d:Int} (h0:-1≤m) (h1:m<9223372036854775808) (h2:d≤1000):-1≤t.few m d∧t.few m d≤m∧(0≤t.few m d→t.few m d+t.size≤m∧∀ x e,e∈t.els x→e.2.s.size≤100):=by
 by_cases h:m<0
 ·rw [few_neg ⟨h0,h⟩]; exact ⟨by omega,by omega,fun h=>by omega⟩
 ·rcases Tm.few_le t m d (by omega) h1 h2 with h3 | ⟨h3,_,_,h4,h5⟩
  ·rw [h3]; exact ⟨by omega,by omega,fun h=>by omega⟩
  ·exact ⟨by omega,by omega,fun _=>⟨h3,h5⟩⟩
end PSL

namespace PSL
open Go Go.RowKit Go.MapKept
abbrev Sg:=ByteArray × Int
def skV (p:Sg):Value:=.agg #[.string p.1,.int .i64 p.2]
def sgA (p:Sg):AV:=.agg [.d (.v (.string p.1)),.d (.v (.int .i64 p.2))]
def kmap (l:List (Sg × AV)):List (Value × AV):=l.map fun e=>(skV e.1,e.2)

def getK:List (Sg × AV)→Sg→Option AV
 | [],_=>none
 | e::r,p=>if e.1=p then some e.2 else getK r p

def setK:List (Sg × AV)→Sg→AV→List (Sg × AV)
 | [],p,v=>[(p,v)]
 | e::r,p,v=>if e.1=p then (p,v)::r else e::setK r p v

structure SKey (P:Program) (kt:TypeId):Prop where
 und:∃ fs,P.underlying kt=some (.struct fs)
 eq:∀ p q w,(Op.equal kt (skV p) (skV q)).run P w=.ok (decide (p=q)) w
 ck:∀ b p w,(Instr.checkKey b 10000 kt (skV p)).run P w=.ok () w

theorem findK_ok {P:Program} {kt:TypeId} (hk:SKey P kt) {S:Nat→Prop} {w:World} {φ:List Phy} (p:Sg):∀ {l:List (Sg × AV)} {ents:List MapEntry} {i:Nat},EntsOk S w φ (kmap l) ents →
  match getK l p with
  | none=>(Instr.findAsking kt (skV p) ents i).run P w=.ok none w∧∀ v,setK l p v=l++[(p,v)]
  | some x=>∃ j v,(Instr.findAsking kt (skV p) ents i).run P w=.ok (some (i+j,v)) w∧RV S w φ x v∧(∃ f,ents[j]? = some f∧f.key=skV p)∧j<l.length∧∀ v,setK l p v=l.set j (p,v)
 | [],ents,i,h=>by
  cases ents with
  | nil=>simp [getK,Instr.findAsking,setK]
  | cons _ _=>have:=h.1; simp [kmap] at this
 | e::l,ents,i,h=>by
  cases ents with
  | nil=>have:=h.1; simp [kmap] at this
  | cons f ents =>
   obtain ⟨h1,h2⟩:=h
   simp only [kmap,List.map_cons,List.cons.injEq] at h1
   obtain ⟨hf,h1⟩:=h1
   simp only [kmap,List.map_cons,RVs] at h2
   simp only [getK]
   by_cases he:e.1=p
   ·rw [if_pos he]
    refine ⟨0,f.val,?_,h2.1,⟨f,rfl,by rw [← hf,he]⟩,by simp,fun v=>by simp only [setK]; rw [if_pos he]; rfl⟩
    simp only [Instr.findAsking,Sem.run_bind,← hf,hk.eq,Result.andThen_ok]
    simp [he]
   ·rw [if_neg he]
    have hd:decide (p=e.1)=false:=decide_eq_false fun h=>he h.symm
    have:=findK_ok hk p (l:=l) (ents:=ents) (i:=i+1) ⟨by simpa [kmap] using h1,by simpa [kmap] using h2.2⟩
    have hstep:(Instr.findAsking kt (skV p) (f::ents) i).run P w=(Instr.findAsking kt (skV p) ents (i+1)).run P w:=by
     simp only [Instr.findAsking,Sem.run_bind,← hf,hk.eq,Result.andThen_ok,hd]
     simp
    cases hg:getK l p with
    | none =>
     rw [hg] at this; simp only at this ⊢
     exact ⟨by rw [hstep]; exact this.1,fun v=>by simp only [setK]; rw [if_neg he,this.2]; rfl⟩
    | some x =>
     rw [hg] at this; simp only at this ⊢
     obtain ⟨j,v,g1,g2,⟨f',g3,g4⟩,g5,g6⟩:=this
     refine ⟨j+1,v,by rw [hstep,g1,Nat.add_assoc,Nat.add_comm 1 j],g2,⟨f',by rw [List.getElem?_cons_succ]; exact g3,g4⟩,by simp only [List.length_cons]; omega,fun v=>by simp only [setK]; rw [if_neg he,g6]; rfl⟩

theorem run_findKeyK {P:Program} {kt:TypeId} (hk:SKey P kt) {w:World} (p:Sg) {ents:List MapEntry} (h:ents=[]∨∃ q,∃ f r,ents=f::r∧f.key=skV q):(Instr.findKey kt (skV p) ents).run P w=(Instr.findAsking kt (skV p) ents 0).run P w:=by
 obtain ⟨fs,hu⟩:=hk.und
 rcases h with rfl | ⟨q,f,r,rfl,hf⟩
 ·simp [Instr.findKey,run_underlying hu,Instr.findNow,Instr.findAsking]
 ·simp [Instr.findKey,run_underlying hu,Instr.findNow,Instr.sameNow,skV]

theorem entsK_head {S:Nat→Prop} {w:World} {φ:List Phy} {l:List (Sg × AV)} {ents:List MapEntry} (h:EntsOk S w φ (kmap l) ents):ents=[]∨∃ q,∃ f r,ents=f::r∧f.key=skV q:=by
 cases ents with
 | nil=>exact .inl rfl
 | cons f r =>
  cases l with
  | nil=>have:=h.1; simp [kmap] at this
  | cons e l =>
   have:=h.1
   simp only [kmap,List.map_cons,List.cons.injEq] at this
   exact .inr ⟨e.1,f,r,rfl,this.1.symm⟩

theorem sk_bits (p:Sg):Instr.sameBits 10000 (skV p) (skV p)=true:=by
 simp [skV,Instr.sameBits,bytes_beq]

theorem run_keyStaysK {P:Program} {w:World} (p:Sg):(Instr.keyThatStays (skV p) (skV p)).run P w=.ok (skV p) w:=by
 simp [Instr.keyThatStays,sk_bits]
section
variable {g:G} {pf:Nat→Cls} {ops:Array Oper} {Fin:Exit→Act→World→Prop}

theorem sg_rv {S:Nat→Prop} {w:World} {φ:List Phy} {p:Sg} {v:Value} (h:RV S w φ (sgA p) v):v=skV p:=by
 simp only [sgA,RV] at h
 obtain ⟨cs,rfl,h⟩:=h
 match cs,h with
 | [x,y],h =>
  simp only [RVs,RV,and_true] at h
  obtain ⟨h1,h2⟩:=h
  cases h1; cases h2
  rfl
 | [],h=>simp [RVs] at h
 | [_],h=>simp [RVs] at h
 | _::_::_::_,h=>simp [RVs] at h

theorem rvs_set {S:Nat→Prop} {w:World} {φ:List Phy} {x:AV} {u:Value}:∀ {l:List AV} {vs:List Value} (j:Nat),RVs S w φ l vs→RV S w φ x u→RVs S w φ (l.set j x) (vs.set j u)
 | [],[],_,_,_=>by simp [RVs]
 | [],_::_,_,h,_=>by simp [RVs] at h
 | _::_,[],_,h,_=>by simp [RVs] at h
 | a::l,b::vs,0,h,hx=>by simp only [RVs,List.set_cons_zero] at h ⊢; exact ⟨hx,h.2⟩
 | a::l,b::vs,j+1,h,hx=>by simp only [RVs,List.set_cons_succ] at h ⊢; exact ⟨h.1,rvs_set j h.2 hx⟩

theorem list_modify_set {α:Type} (f:α→α):∀ (l:List α) (j:Nat) (x:α),l[j]? = some x→l.modify j f=l.set j (f x)
 | [],j,x,h=>by simp at h
 | a::l,0,x,h=>by simp at h; subst h; rfl
 | a::l,j+1,x,h=>by
  simp at h
  simp only [List.modify_succ_cons,List.set_cons_succ]
  rw [list_modify_set f l j x h]

theorem R_setK (hg:GOk g) {dst:Option Nat} {T:Nat} {x y v:Operand} {ty:Nat} {pos:String} {after:Array Edge} {gd:Option (Nat × Bool)} {rest:List Oper} {k:List It} {E:Env} {objs:List Ob}
  {i q by_ kt et:Nat} {z:List Value} {v':AV} (p:Sg) (l l':List (Sg × AV)) (hk:SKey g.P kt)
  (hgd:guardA ops.toList E gd=some true) (hd:dstOk ⟨g.ty,g.N⟩ dst=true) (hx:ev E x=.mp i) (ho:nth objs i=some (.map (kmap l))) (hy:ev E y=sgA p) (hT:g.ty T=some ⟨q,by_,z,.map kt et⟩)
  (hv:Ent (ev E v) v') (hl:setK l p v'=l')
  (hr:R g pf Fin (.dr ops rest::k) (putO E dst .any) (setN objs i (.map (kmap l')))):R g pf Fin (.dr ops (⟨dst,.mapUpdate T x y v,ty,pos,after,gd⟩::rest)::k) E objs:=by
 subst hl
 refine R_op (LocOp.turning hg (grow_map ho) hgd hd (by simp) fun φ a' w hρ hs=>?_) hr
 simp only [Op.operands] at hρ
 have hxv:=hρ x (by simp)
 rw [hx] at hxv
 have hyv:=hρ y (by simp)
 rw [hy] at hyv
 have hvy:=sg_rv hyv
 have hvv:=hv _ _ _ _ (hρ v (by simp))
 simp only [RV] at hxv
 obtain ⟨b',hb,hxv⟩:=hxv
 have hko:=obj_at hs hb ho
 simp only [ObOk] at hko
 obtain ⟨ents,clk,hheap,hents⟩:=hko
 have hT':g.P.underlying T=some (.map kt et):=by have:=(hg.ty _ _ hT).sh; simpa only [ShFact] using this
 have hfind:=findK_ok hk p (i:=0) hents
 have hfk:=run_findKeyK hk (w:=w) p (entsK_head hents)
 rw [setN_eq]
 cases hg':getK l p with
 | none =>
  rw [hg'] at hfind
  simp only at hfind
  obtain ⟨hfind,hset'⟩:=hfind
  rw [hset']
  have hset:=heap_set (o':=.map (ents.push { key:=skV p,val:=a'.eval v,born:=clk }) (clk+1)) hheap
  refine ⟨.skip,undef,{ w with heap:=w.heap.setIfInBounds b' (.map (ents.push { key:=skV p,val:=a'.eval v,born:=clk }) (clk+1)) },φ.set i (.blk b'),?_,.inr ⟨rfl,rfl⟩,by simp [RV],?_⟩
  ·simp [execOp,Instr.mapUpdate,run_underlying hT',hxv,run_getObj_map hheap,hvy,hk.ck,hfk,hfind,run_setObj_map _ hheap]
  ·refine Stp.swap hs hb (.inl rfl) (by simp) (fun c _ hc=>hset.2 c fun e=>hc (by rw [e]; rfl)) (fun b' hb=>.inl hb) rfl rfl rfl fun hkeep hle=>?_
   simp only [ObOk]
   refine ⟨_,_,hset.1,?_,?_⟩
   ·have:=hents.1
    simp only [kmap,List.map_append,List.map_map,List.map_cons,List.map_nil,Array.toList_push] at this ⊢
    rw [this]
   ·have:=(hents.2.mono hkeep hle).append (l':=[v']) (vs':=[a'.eval v]) (by simp only [RVs,and_true]; exact hvv.mono hkeep hle)
    simpa [kmap] using this
 | some x0 =>
  rw [hg'] at hfind
  simp only at hfind
  obtain ⟨j,vv,h1,h2,⟨f,h3,h4⟩,h5,h6⟩:=hfind
  rw [Nat.zero_add] at h1
  rw [h6]
  obtain ⟨f',hf'⟩:∃ f':MapEntry→MapEntry,f'=fun e=>{ e with key:=skV p,val:=a'.eval v }:=⟨_,rfl⟩
  have hset:=heap_set (o':=.map (ents.modify j f') clk) hheap
  have h3':ents[j]? = some f:=by simpa using h3
  refine ⟨.skip,undef,{ w with heap:=w.heap.setIfInBounds b' (.map (ents.modify j f') clk) },φ.set i (.blk b'),?_,.inr ⟨rfl,rfl⟩,by simp [RV],?_⟩
  ·simp [execOp,Instr.mapUpdate,run_underlying hT',hxv,run_getObj_map hheap,hvy,hk.ck,hfk,h1,h3',h4,run_keyStaysK,run_setObj_map _ hheap,hf']
  ·refine Stp.swap hs hb (.inl rfl) (by simp) (fun c _ hc=>hset.2 c fun e=>hc (by rw [e]; rfl)) (fun b' hb=>.inl hb) rfl rfl rfl fun hkeep hle=>?_
   simp only [ObOk]
   have hml:(ents.modify j f').toList=ents.toList.set j (f' f):=by
    rw [Array.toList_modify,list_modify_set f' _ _ f h3]
   refine ⟨_,_,hset.1,?_,?_⟩
   ·have:=hents.1
    rw [hml]
    simp only [kmap,List.map_map,List.map_set] at this ⊢
    rw [this,hf']
   ·have:=rvs_set j (hents.2.mono hkeep hle) (hvv.mono hkeep hle)
    rw [hml]
    simp only [kmap,List.map_map,List.map_set] at this ⊢
    rw [show (f' f).val=a'.eval v by rw [hf']]
    exact this

structure SCmp (P:Program) (T:Nat):Prop where
 eql:∀ (x y:Operand) (p q:Sg) (w:World),((do eqGuard .eql T x y (skV p) (skV q); binOp .eql T (skV p) (skV q)):Sem Value).run P w=.ok (.bool (decide (p=q))) w
 neq:∀ (x y:Operand) (p q:Sg) (w:World),((do eqGuard .neq T x y (skV p) (skV q); binOp .neq T (skV p) (skV q)):Sem Value).run P w=.ok (.bool (!decide (p=q))) w

theorem R_eqK (hg:GOk g) (p q:Sg) {dst:Option Nat} {T T':Nat} {x y:Operand} {ty:Nat} {pos:String} {after:Array Edge} {gd:Option (Nat × Bool)} {rest:List Oper} {k:List It} {E:Env} {objs:List Ob} (hc:SCmp g.P T)
  (hgd:guardA ops.toList E gd=some true) (hd:dstOk ⟨g.ty,g.N⟩ dst=true) (hx:ev E x=sgA p) (hy:ev E y=sgA q)
  (hr:R g pf Fin (.dr ops rest::k) (putO E dst (bV (decide (p=q)))) objs):R g pf Fin (.dr ops (⟨dst,.binOp .eql T x y T',ty,pos,after,gd⟩::rest)::k) E objs:=by
 refine R_op (LocOp.up (LocOp.quiet hg hgd hd (by simp) fun φ objs w' w hρ hs'=>?_)) hr
 simp only [Op.operands] at hρ
 have hxv:=hρ x (by simp)
 rw [hx] at hxv
 have hyv:=hρ y (by simp)
 rw [hy] at hyv
 have ex:=sg_rv hxv
 have ey:=sg_rv hyv
 refine out_val hs' (vv:=.bool (decide (p=q))) ?_ (by simp only [bV,RV]; exact .v _)
 have h2:=hc.eql x y p q w
 simp only [Sem.run_bind] at h2
 simp only [execOp,Sem.run_bind,ex,ey]
 have e:∀ (r1:Result Unit) (f:Unit→World→Result Value),(r1.andThen f).andThen (fun v w'=>.ok (Next.value v) w')=r1.andThen fun u w'=>(f u w').andThen (fun v w'=>.ok (Next.value v) w'):=fun r1 f=>by cases r1 <;> rfl
 rw [h2]; rfl

theorem R_lookupKD (hg:GOk g) {dst:Option Nat} {T:Nat} {x y:Operand} {ok:Bool} {ty:Nat} {pos:String} {after:Array Edge} {gd:Option (Nat × Bool)} {rest:List Oper} {k:List It} {E:Env} {objs:List Ob}
  {q by_ kt et:Nat} {ds:List (Value × D)} {z:List Value} {zv:Value} (p:Sg) (l:List (Sg × AV)) (hl:ds.map (fun p=>(p.1,AV.d p.2))=kmap l) (hk:SKey g.P kt)
  (hgd:guardA ops.toList E gd=some true) (hd:dstOk ⟨g.ty,g.N⟩ dst=true) (hx:ev E x=.d (.map ds)) (hy:ev E y=sgA p) (hT:g.ty T=some ⟨q,by_,z,.map kt et⟩)
  (hz:(g.P.info? et).bind (·.zero)=some zv) {v:AV} (hv:lookI' ok (cstV zv) (getK l p)=v)
  (hr:R g pf Fin (.dr ops rest::k) (putO E dst v) objs):R g pf Fin (.dr ops (⟨dst,.lookup T x y ok,ty,pos,after,gd⟩::rest)::k) E objs:=by
 subst hv
 refine R_op (LocOp.quiet hg hgd hd (by simp) fun φ objs₁ a w hρ hs=>?_) hr
 simp only [Op.operands] at hρ
 have hxv:=hρ x (by simp)
 rw [hx] at hxv
 have hyv:=hρ y (by simp)
 rw [hy] at hyv
 have hvy:=sg_rv hyv
 simp only [RV] at hxv
 generalize hxe:a.eval x=vx at hxv
 obtain ⟨b,ents,clk,rfl,hheap,hents⟩:∃ (b:Nat) (ents:Array MapEntry) (clk:Nat),vx=.map (some b)∧w.heap[b]? = some (.map ents clk)∧EntsOk (SS g.S0 φ) w φ (ds.map fun p=>(p.1,AV.d p.2)) ents.toList:=by
  cases hxv with
  | map g' hS hb hk hg' hr' =>
   refine ⟨_,_,_,rfl,hb,by simpa [List.map_map,Function.comp_def] using hk,?_⟩
   have hlen:=congrArg List.length hk
   simp only [List.length_map,Array.length_toList] at hlen
   refine RVs.of_get (by simpa using hlen) fun j u v hu hv=>?_
   rw [List.getElem?_map,List.getElem?_map] at hu
   cases hj:ds[j]? with
   | none=>rw [hj] at hu; cases hu
   | some x =>
    rw [hj] at hu; simp at hu; subst hu
    rw [List.getElem?_map,Array.getElem?_toList,hg' j x hj] at hv
    cases hv
    simpa only [RV] using hr' j x hj
 rw [hl] at hents
 have hT':g.P.underlying T=some (.map kt et):=by have:=(hg.ty _ _ hT).sh; simpa only [ShFact] using this
 have hzero:(zeroValue et).run g.P w=.ok zv w:=by
  obtain ⟨inf,h1,h2⟩:=Option.bind_eq_some_iff.1 hz
  simp [zeroValue,typeInfo,h1,h2]
 have hzR:RV (SS g.S0 φ) w φ (cstV zv) zv:=rv_restr (l:=[]) (E:=[]) (E₁:=[]) (a:={ tmps:=#[],defers:=[] }) (by simp) (fun t=>by simp [lk,RV]) (.const zv)
 have hfind:=findK_ok hk p (i:=0) hents
 have hfk:=run_findKeyK hk (w:=w) p (entsK_head hents)
 cases hg':getK l p with
 | none =>
  rw [hg'] at hfind
  simp only at hfind
  refine out_val hs (vv:=if ok then .tuple #[zv,.bool false] else zv) ?_ ?_
  ·simp [execOp,Instr.lookup,run_underlying hT',hxe,run_getObj_map hheap,hvy,hk.ck,hfk,hfind.1,hzero]
  ·simp only [lookI']
   cases ok
   ·simpa using hzR
   ·simp only [if_true,RV]
    exact ⟨[zv,.bool false],rfl,by simp only [RVs,RV,bV,and_true]; exact ⟨hzR,.v _⟩⟩
 | some x =>
  rw [hg'] at hfind
  simp only at hfind
  obtain ⟨j,vv,h1,h2,_⟩:=hfind
  refine out_val hs (vv:=if ok then .tuple #[vv,.bool true] else vv) ?_ ?_
  ·simp [execOp,Instr.lookup,run_underlying hT',hxe,run_getObj_map hheap,hvy,hk.ck,hfk,h1]
  ·simp only [lookI']
   cases ok
   ·simpa using h2
   ·simp only [if_true,RV]
    exact ⟨[vv,.bool true],rfl,by simp only [RVs,RV,bV,and_true]; exact ⟨h2,.v _⟩⟩
end
end PSL

namespace PSL
open Go

inductive Gl where
 | mk (k:Int) (t:Tm) (a b c:List Gl)
namespace Gl
def k:Gl→Int | mk k _ _ _ _=>k
def t:Gl→Tm | mk _ t _ _ _=>t
def a:Gl→List Gl | mk _ _ a _ _=>a
def b:Gl→List Gl | mk _ _ _ b _=>b
def c:Gl→List Gl | mk _ _ _ _ c=>c

theorem ind {p:Gl→Prop} (h:∀ g:Gl,(∀ x∈g.a,p x)→(∀ x∈g.b,p x)→(∀ x∈g.c,p x)→p g) (g:Gl):p g :=
 Gl.rec (motive_1:=p) (motive_2:=fun l=>∀ x∈l,p x) (fun k t a b c ha hb hc=>h (.mk k t a b c) ha hb hc) (by simp) (fun x r h1 h2=>by
  intro y hy
  rcases List.mem_cons.1 hy with rfl | hy
  ·exact h1
  ·exact h2 y hy) g

theorem indL {p:List Gl→Prop} (h:∀ l:List Gl,(∀ x∈l,p x.a∧p x.b∧p x.c)→p l) (l:List Gl):p l:=by
 have key:∀ g:Gl,p g.a∧p g.b∧p g.c:=fun g=>ind (p:=fun g=>p g.a∧p g.b∧p g.c) (fun g h1 h2 h3=>⟨h _ h1,h _ h2,h _ h3⟩) g
 exact h l fun x _=>key x

mutual
def rowM:Gl→List D
 | mk k t a b c=>[.v (.int .i64 k),.v (.int .i64 t.k),.v (.string t.s),.v (.int .i64 t.n),.sl (Tm.rows t.l),.sl (rows a),.sl (rows b),.sl (rows c)]
def rows:List Gl→List (List D)
 | []=>[]
 | g::r=>rowM g::rows r
end
def row (g:Gl):List D:=[.v (.int .i64 g.k),.v (.int .i64 g.t.k),.v (.string g.t.s),.v (.int .i64 g.t.n),.sl (Tm.rows g.t.l),.sl (rows g.a),.sl (rows g.b),.sl (rows g.c)]
theorem rowM_eq (g:Gl):rowM g=row g:=by cases g; simp only [rowM,row,k,t,a,b,c]

theorem rows_eq (l:List Gl):rows l=l.map row:=by
 induction l with
 | nil=>rfl
 | cons x r ih=>simp only [rows,rowM_eq,List.map_cons,ih]
theorem rows_length (l:List Gl):(rows l).length=l.length:=by rw [rows_eq]; simp
theorem rows_get {l:List Gl} {i:Nat} {x:Gl} (h:l[i]? = some x):(rows l)[i]? = some (row x):=by rw [rows_eq,List.getElem?_map,h]; rfl
def av (g:Gl):AV:=.agg [.d (.v (.int .i64 g.k)),.d (.v (.int .i64 g.t.k)),.d (.v (.string g.t.s)),.d (.v (.int .i64 g.t.n)),.d (.sl (Tm.rows g.t.l)),.d (.sl (rows g.a)),.d (.sl (rows g.b)),.d (.sl (rows g.c))]

mutual
def size:Gl→Nat
 | mk _ t a b c=>t.size+sizeL a+sizeL b+sizeL c
def sizeL:List Gl→Nat
 | []=>0
 | g::r=>size g+sizeL r
end
theorem size_eq (g:Gl):g.size=g.t.size+sizeL g.a+sizeL g.b+sizeL g.c:=by cases g; simp only [size,t,a,b,c]
theorem tmPos (t:Tm):1≤t.size:=by cases t; simp only [Tm.size]; omega
theorem size_pos (g:Gl):1≤g.size:=by rw [size_eq]; have:=tmPos g.t; omega

theorem len_size (l:List Gl):l.length≤sizeL l:=by
 induction l with
 | nil=>simp
 | cons x r ih=>simp only [sizeL,List.length_cons]; have:=size_pos x; omega

theorem size_mem {l:List Gl} {x:Gl} (h:x∈l):x.size≤sizeL l:=by
 induction l with
 | nil=>cases h
 | cons y r ih =>
  simp only [sizeL]
  rcases List.mem_cons.1 h with rfl | h
  ·omega
  ·have:=ih h; omega

theorem sizeL_app (l m:List Gl):sizeL (l++m)=sizeL l+sizeL m:=by
 induction l with
 | nil=>simp [sizeL]
 | cons x r ih=>simp only [List.cons_append,sizeL,ih]; omega

inductive Ok:Gl→Prop
 | mk {k:Int} {t:Tm} {a b c:List Gl}:I64 k→t.Ok∧t.Fit→a.length≤140737488355328→b.length≤140737488355328→c.length≤140737488355328→(∀ x∈a,Ok x)→(∀ x∈b,Ok x)→(∀ x∈c,Ok x)→Ok (.mk k t a b c)
theorem Ok.tm {g:Gl} (h:g.Ok):g.t.Ok∧g.t.Fit:=by cases h; assumption
theorem Ok.la {g:Gl} (h:g.Ok):g.a.length≤140737488355328:=by cases h; assumption
theorem Ok.lb {g:Gl} (h:g.Ok):g.b.length≤140737488355328:=by cases h; assumption
theorem Ok.lc {g:Gl} (h:g.Ok):g.c.length≤140737488355328:=by cases h; assumption
theorem Ok.ma {g:Gl} (h:g.Ok):∀ x∈g.a,Ok x:=by cases h; assumption
theorem Ok.mb {g:Gl} (h:g.Ok):∀ x∈g.b,Ok x:=by cases h; assumption
theorem Ok.mc {g:Gl} (h:g.Ok):∀ x∈g.c,Ok x:=by cases h; assumption
end Gl

structure Cs where
 head:Tm
 body:List Gl
 vars:Int
namespace Cs
def row (x:Cs):List D:=[.v (.int .i64 x.head.k),.v (.string x.head.s),.v (.int .i64 x.head.n),.sl (Tm.rows x.head.l),.sl (Gl.rows x.body),.v (.int .i64 x.vars)]
def rows (l:List Cs):List (List D):=l.map row
theorem rows_len (l:List Cs):(rows l).length=l.length:=by simp [rows]
theorem rows_get {l:List Cs} {i:Nat} {x:Cs} (h:l[i]? = some x):(rows l)[i]? = some (row x):=by simp [rows,h]
def av (x:Cs):AV:=.agg [.d (.v (.int .i64 x.head.k)),.d (.v (.string x.head.s)),.d (.v (.int .i64 x.head.n)),.d (.sl (Tm.rows x.head.l)),.d (.sl (Gl.rows x.body)),.d (.v (.int .i64 x.vars))]
def size (x:Cs):Nat:=x.head.size+Gl.sizeL x.body

def sizeL:List Cs→Nat
 | []=>0
 | x::r=>size x+sizeL r

structure Ok (x:Cs):Prop where
 head:x.head.Ok∧x.head.Fit
 vars:I64 x.vars
 len:x.body.length≤140737488355328
 body:∀ g∈x.body,g.Ok
end Cs

def prV (l:List Cs):AV:=.agg [.d (.sl (Cs.rows l))]

structure IsGoal (ty:Nat→Option Ty) (T TT:Nat):Prop where
 ex:∃ (a s:Nat) (τ τa τs:Ty),ty T=some τ∧τ.sh=.struct [(0,a),(1,TT),(5,s),(6,s),(7,s)]∧τ.size=8∧1≤τ.bytes∧ty a=some τa∧τa.sh=.int .i64∧ty s=some τs∧τs.sh=.slice T

def isGoalB (ty:Nat→Option Ty) (T TT:Nat):Bool :=
 match ty T with
 | some ⟨8,by_,_,.struct [(0,a),(1,T'),(5,s),(6,s'),(7,s'')]⟩=>Nat.ble 1 by_&&(match ty a with | some ⟨_,_,_,.int .i64⟩=>true | _=>false)&&(match ty s with | some ⟨_,_,_,.slice T2⟩=>Nat.beq T2 T | _=>false)&&Nat.beq T' TT&&Nat.beq s' s&&Nat.beq s'' s
 | _=>false

theorem isGoalB_ok {ty:Nat→Option Ty} {T TT:Nat} (h:isGoalB ty T TT=true):IsGoal ty T TT:=by
 unfold isGoalB at h
 split at h
 case h_2=>cases h
 rename_i by_ z a T' s s' s'' hT
 simp only [Bool.and_eq_true] at h
 obtain ⟨⟨⟨⟨⟨h0,h1⟩,h2⟩,h3⟩,h4⟩,h5⟩:=h
 split at h1
 case h_2=>cases h1
 rename_i ha
 split at h2
 case h_2=>cases h2
 rename_i hs
 have:=natBeq h2
 subst this
 have:=natBeq h3
 subst this
 have:=natBeq h4
 subst this
 have:=natBeq h5
 subst this
 exact ⟨a,_,_,_,_,hT,rfl,rfl,Nat.le_of_ble_eq_true h0,ha,rfl,hs,rfl⟩

theorem gls_of {ty:Nat→Option Ty} {T S B:Nat} {τ τs:Ty} (hτ:ty T=some τ) (hby:1≤τ.bytes) (hs:ty S=some τs) (hs':τs.sh=.slice T) (hB:B≤140737488355328) (n:Nat) (ih:∀ m,m≤n→∀ row,HasTy ty B m T row→∃ g:Gl,row=g.row∧g.Ok) (row:List D) (h:HasTy ty B (n+1) S row) :
  ∃ l:List Gl,row=[.sl (Gl.rows l)]∧l.length≤140737488355328∧∀ x∈l,x.Ok:=by
 obtain ⟨rows,rfl,hlen,hrows⟩:=has_slice hs hs' h
 have hch:∃ l:List Gl,rows=l.map Gl.row∧∀ x∈l,x.Ok:=by
  clear hlen h
  induction rows with
  | nil=>exact ⟨[],rfl,by simp⟩
  | cons r rows ihr =>
   obtain ⟨g,h1,h2⟩:=ih n (Nat.le_refl _) r (hrows r (by simp))
   obtain ⟨l,hl1,hl2⟩:=ihr fun r hr=>hrows r (by simp [hr])
   exact ⟨g::l,by simp [h1,hl1],by simpa using ⟨h2,hl2⟩⟩
 obtain ⟨l,rfl,hl⟩:=hch
 refine ⟨l,by rw [Gl.rows_eq],?_,hl⟩
 have:=hlen τ hτ
 rw [List.length_map] at this
 exact Nat.le_trans (Nat.le_mul_of_pos_right _ hby) (Nat.le_trans this hB)

theorem gl_of {ty:Nat→Option Ty} {T TT B:Nat} (hT:IsTerm ty TT) (hG:IsGoal ty T TT) (hB:B≤140737488355328):∀ (n:Nat) (row:List D),HasTy ty B n T row→∃ g:Gl,row=g.row∧g.Ok:=by
 obtain ⟨a,s,τ,τa,τs,h1,h2,h3,hby,ha,ha',hs,hs'⟩:=hG.ex
 intro n
 induction n using Nat.strongRecOn with
 | _ n ih =>
 intro row h
 cases n with
 | zero=>simp [HasTy] at h
 | succ n =>
  simp only [HasTy,h1,h2,HasFs] at h
  obtain ⟨_,ra,_,g1,rfl,g2,g3,_,rb,_,g4,rfl,g5,g6,_,rc,_,g7,rfl,g8,g9,_,rd,_,g10,rfl,g11,g12,_,re,_,g13,rfl,g14,g15,rfl⟩:=h
  rw [ha] at g1; cases g1
  rw [hs] at g7; cases g7
  rw [hs] at g10; cases g10
  rw [hs] at g13; cases g13
  obtain ⟨k,rfl,hk⟩:=has_int ha ha' g3
  obtain ⟨t,rfl,ht⟩:=tm_of hT hB n rb g6
  cases n with
  | zero=>simp [HasTy] at g9
  | succ n =>
   have ih':∀ m,m≤n→∀ row,HasTy ty B m T row→∃ g:Gl,row=g.row∧g.Ok:=fun m hm=>ih m (by omega)
   obtain ⟨la,rfl,a1,a2⟩:=gls_of h1 hby hs hs' hB n ih' rc g9
   obtain ⟨lb,rfl,b1,b2⟩:=gls_of h1 hby hs hs' hB n ih' rd g12
   obtain ⟨lc,rfl,c1,c2⟩:=gls_of h1 hby hs hs' hB n ih' re g15
   refine ⟨.mk k t la lb lc,by simp [Gl.row,Tm.row,Gl.k,Gl.t,Gl.a,Gl.b,Gl.c],.mk hk ht a1 b1 c1 a2 b2 c2⟩

structure IsClause (ty:Nat→Option Ty) (T TT TG:Nat):Prop where
 ex:∃ (s a:Nat) (τ τs τa:Ty),ty T=some τ∧τ.sh=.struct [(0,TT),(4,s),(5,a)]∧τ.size=6∧1≤τ.bytes∧ty a=some τa∧τa.sh=.int .i64∧ty s=some τs∧τs.sh=.slice TG

def isClauseB (ty:Nat→Option Ty) (T TT TG:Nat):Bool :=
 match ty T with
 | some ⟨6,by_,_,.struct [(0,T'),(4,s),(5,a)]⟩=>Nat.ble 1 by_&&(match ty a with | some ⟨_,_,_,.int .i64⟩=>true | _=>false)&&(match ty s with | some ⟨_,_,_,.slice T2⟩=>Nat.beq T2 TG | _=>false)&&Nat.beq T' TT
 | _=>false

theorem isClauseB_ok {ty:Nat→Option Ty} {T TT TG:Nat} (h:isClauseB ty T TT TG=true):IsClause ty T TT TG:=by
 unfold isClauseB at h
 split at h
 case h_2=>cases h
 rename_i by_ z T' s a hT
 simp only [Bool.and_eq_true] at h
 obtain ⟨⟨⟨h0,h1⟩,h2⟩,h3⟩:=h
 split at h1
 case h_2=>cases h1
 rename_i ha
 split at h2
 case h_2=>cases h2
 rename_i hs
 have:=natBeq h2
 subst this
 have:=natBeq h3
 subst this
 exact ⟨_,_,_,_,_,hT,rfl,rfl,Nat.le_of_ble_eq_true h0,ha,rfl,hs,rfl⟩

theorem cs_of {ty:Nat→Option Ty} {T TT TG B:Nat} (hT:IsTerm ty TT) (hG:IsGoal ty TG TT) (hC:IsClause ty T TT TG) (hB:B≤140737488355328) (n:Nat) (row:List D) (h:HasTy ty B n T row):∃ x:Cs,row=x.row∧x.Ok:=by
 obtain ⟨s,a,τ,τs,τa,h1,h2,h3,hby,ha,ha',hs,hs'⟩:=hC.ex
 obtain ⟨_,_,τg,_,_,q1,_,_,q4,_⟩:=hG.ex
 cases n with
 | zero=>simp [HasTy] at h
 | succ n =>
  simp only [HasTy,h1,h2,HasFs] at h
  obtain ⟨_,ra,_,g1,rfl,g2,g3,_,rb,_,g4,rfl,g5,g6,_,rc,_,g7,rfl,g8,g9,rfl⟩:=h
  rw [ha] at g7; cases g7
  obtain ⟨t,rfl,ht⟩:=tm_of hT hB n ra g3
  obtain ⟨v,rfl,hv⟩:=has_int ha ha' g9
  cases n with
  | zero=>simp [HasTy] at g6
  | succ n =>
   obtain ⟨l,rfl,l1,l2⟩:=gls_of q1 q4 hs hs' hB n (fun m _ row h=>gl_of hT hG hB m row h) rb g6
   exact ⟨⟨t,l,v⟩,by simp [Cs.row,Tm.row],⟨ht,hv,l1,l2⟩⟩
section
variable {ty:Nat→Option Ty} {T TT TG TS B:Nat} {n:Nat} {τ:Ty} {row:List D} {a:AV}

theorem arg_cs (hT:IsTerm ty TT) (hG:IsGoal ty TG TT) (hC:IsClause ty T TT TG) (hB:B≤140737488355328) (hτ:ty T=some τ) (h:HasTy ty B n T row) (ha:a=avOf τ row):∃ x:Cs,a=x.av∧x.Ok:=by
 obtain ⟨x,rfl,hx⟩:=cs_of hT hG hC hB n row h
 refine ⟨x,?_,hx⟩
 obtain ⟨_,_,τ',_,_,g1,g2,_⟩:=hC.ex
 rw [hτ] at g1; cases g1
 rw [ha]; unfold avOf Ty.agg
 rw [g2]; rfl

theorem arg_prog {TC TP s:Nat} {τs:Ty} (hT:IsTerm ty TT) (hG:IsGoal ty TG TT) (hC:IsClause ty TC TT TG) (hB:B≤140737488355328) (hτ:ty TP=some τ) (hsh:τ.sh=.struct [(0,s)]) (hs:ty s=some τs) (hss:τs.sh=.slice TC) (h:HasTy ty B n TP row) (ha:a=avOf τ row):∃ l:List Cs,a=prV l∧(∀ x∈l,x.Ok)∧l.length≤140737488355328:=by
 obtain ⟨_,_,τc,_,_,q1,_,_,q4,_⟩:=hC.ex
 cases n with
 | zero=>simp [HasTy] at h
 | succ n =>
  simp only [HasTy,hτ,hsh,HasFs] at h
  obtain ⟨_,ra,_,g1,rfl,g2,g3,rfl⟩:=h
  rw [hs] at g1; cases g1
  cases n with
  | zero=>simp [HasTy] at g3
  | succ n =>
   obtain ⟨rows,rfl,hlen,hrows⟩:=has_slice hs hss g3
   have hch:∃ l:List Cs,rows=Cs.rows l∧∀ x∈l,x.Ok:=by
    clear hlen g3 g2 ha
    induction rows with
    | nil=>exact ⟨[],rfl,by simp⟩
    | cons r rows ihr =>
     obtain ⟨g,h1,h2⟩:=cs_of hT hG hC hB n r (hrows r (by simp))
     obtain ⟨l,hl1,hl2⟩:=ihr fun r hr=>hrows r (by simp [hr])
     exact ⟨g::l,by simp [Cs.rows,h1,hl1],by simpa using ⟨h2,hl2⟩⟩
   obtain ⟨l,rfl,hl⟩:=hch
   refine ⟨l,?_,hl,?_⟩
   ·rw [ha]; unfold avOf Ty.agg; rw [hsh]; rfl
   ·have:=hlen τc q1
    rw [Cs.rows_len] at this
    exact Nat.le_trans (Nat.le_mul_of_pos_right _ q4) (Nat.le_trans this hB)
end
end PSL

namespace Go.Proofs.YtcgkgofmldhokaaGreat
open Go PSL Go.Proofs Go.ChangeShapes Go.WideShapes Go.ChangeAt Go.RowKit
theorem ownK:ownKnob Tryz.prog.godebug=none:=by kernel_rfl
theorem laidK:laidOutB Tryz.prog=true:=by kernel_rfl
theorem isTerm:IsTerm tyT.get 27:=isTermB_ok (by kernel_rfl)
theorem isGoal:IsGoal tyT.get 62 27:=isGoalB_ok (by kernel_rfl)
theorem isClause:IsClause tyT.get 30 27 62:=isClauseB_ok (by kernel_rfl)

def lawTys:List Nat:=[3,9,4,27,25,152,63,5,62,28,30,22,24,48]

theorem lawTysOk:∀ t∈lawTys,dT tyT.get lawTys t=true:=by
 have h:lawTys.all (fun t=>dT tyT.get lawTys t)=true:=by kernel_rfl
 exact fun t ht=>List.all_eq_true.1 h t ht
theorem reach47:reachBytes≤140737488355328:=by decide
end Go.Proofs.YtcgkgofmldhokaaGreat

namespace PSL
open Go
abbrev Bs:=List UInt8
def Tx (l:Bs):ByteArray:=⟨l.toArray⟩
theorem Tx_size (l:Bs):(Tx l).size=l.length:=by simp [Tx,ByteArray.size]

theorem Tx_get (l:Bs) (n:Nat):(Tx l)[n]? = l[n]? := by
 show (if h:n<(Tx l).size then some ((Tx l)[n]) else none)=l[n]?
 by_cases h:n<l.length
 ·rw [dif_pos (by rw [Tx_size]; exact h),List.getElem?_eq_getElem h]; rfl
 ·rw [dif_neg (by rw [Tx_size]; exact h),List.getElem?_eq_none (by omega)]

theorem Tx_cut (l:Bs) (i j:Nat):(Tx l).extract i j=Tx ((l.drop i).take (j - i)):=by
 apply ByteArray.ext
 rw [ByteArray.data_extract]
 apply Array.ext'
 simp [Tx,List.take_drop,List.extract_eq_take_drop]
theorem Tx_list (l:Bs):(Tx l).toList=l:=by rw [Tm.toList_data]; simp [Tx]
theorem Tx_inj {a b:Bs} (h:Tx a=Tx b):a=b:=by rw [← Tx_list a,h,Tx_list]
theorem Tx_eq (a b:Bs):strEq (Tx a) (Tx b)=(a==b):=by unfold strEq; rw [Tx_list,Tx_list]
def dgC (c:UInt8):Bool:=decide (48≤c.toNat)&&decide (c.toNat≤57)
def lowC (c:UInt8):Bool:=decide (97≤c.toNat)&&decide (c.toNat≤122)
def grtC (c:UInt8):Bool:=(decide (65≤c.toNat)&&decide (c.toNat≤90)) || decide (c.toNat=95)
def folC (c:UInt8):Bool:=dgC c || lowC c || grtC c
def blkC (c:UInt8):Bool:=decide (c.toNat=32) || decide (c.toNat=9) || decide (c.toNat=10)
def sgnL:Bs:=[43,45,42,47,92,94,60,62,61,126,58,46,63,64,35,38,36]
def mrkL:Bs:=[40,41,91,93,124,44]
def sgnC (c:UInt8):Bool:=sgnL.contains c
def mrkC (c:UInt8):Bool:=mrkL.contains c

theorem byte_all {p:UInt8→Bool} (h:(List.range 256).all (fun n=>p (UInt8.ofNat n))=true) (c:UInt8):p c=true:=by
 have h1:=List.all_eq_true.1 h c.toNat (by simp; exact c.toNat_lt)
 simpa using h1

def runB (p:UInt8→Bool) (L:Bs) (i:Nat):Nat:=i+((L.drop i).takeWhile p).length

theorem runB_step {p:UInt8→Bool} {L:Bs} {i:Nat} {c:UInt8} (h:L[i]? = some c) (hp:p c=true):runB p L i=runB p L (i+1):=by
 have hi:=(List.getElem?_eq_some_iff.1 h).1
 have he:=(List.getElem?_eq_some_iff.1 h).2
 unfold runB
 rw [List.drop_eq_getElem_cons hi,he,List.takeWhile_cons_of_pos hp,List.length_cons]; omega

theorem runB_stop {p:UInt8→Bool} {L:Bs} {i:Nat} {c:UInt8} (h:L[i]? = some c) (hp:p c=false):runB p L i=i:=by
 have hi:=(List.getElem?_eq_some_iff.1 h).1
 have he:=(List.getElem?_eq_some_iff.1 h).2
 unfold runB
 rw [List.drop_eq_getElem_cons hi,he,List.takeWhile_cons_of_neg (by rw [hp]; simp)]; rfl

theorem runB_end {p:UInt8→Bool} {L:Bs} {i:Nat} (h:L.length≤i):runB p L i=i:=by
 unfold runB; rw [List.drop_eq_nil_of_le h]; rfl

theorem runB_le {p:UInt8→Bool} {L:Bs} {i:Nat} (h:i≤L.length):i≤runB p L i∧runB p L i≤L.length:=by
 have:((L.drop i).takeWhile p).length≤(L.drop i).length:=(List.takeWhile_sublist p).length_le
 rw [List.length_drop] at this
 unfold runB; omega

structure Tk where
 kind:Int
 text:Bs
 n:Int
 at_:Int
 opn:Bool
 deriving DecidableEq
def cutB (L:Bs) (i j:Nat):Bs:=(L.drop i).take (j - i)
def opnB (L:Bs) (to:Nat):Bool:=match L[to]? with | some c=>decide (c.toNat=40) | none=>false
def nameT (L:Bs) (kind:Int) (text:Bs) (i to:Nat):Option (Tk × Nat):=if 1≤text.length∧text.length≤20 then some (⟨kind,text,0,i,opnB L to⟩,to) else none
def valN (n:Nat) (D:Bs):Nat:=D.foldl (fun n c=>10 * n+(c.toNat - 48)) n
def numT (D:Bs):Option Nat:=if (1<D.length∧(D[0]?.map UInt8.toNat)=some 48)∨9223372036854775807<valN 0 D then none else some (valN 0 D)

def quo:Bs→Option (Bs × Nat)
 | []=>none
 | [c]=>if c.toNat=39 then some ([],1) else none
 | c::d::r=>if c.toNat<32∨126<c.toNat then none else if c.toNat=39 then (if d.toNat=39 then (quo r).map fun x=>(39::x.1,x.2+2) else some ([],1)) else (quo (d::r)).map fun x=>(c::x.1,x.2+1)
def endAft (L:Bs) (to:Nat):Bool:=match L[to]? with | some c=>blkC c || decide (c.toNat=37) | none=>true

def oneT (L:Bs) (i:Nat):Option (Tk × Nat):=match L[i]? with
 | none=>none
 | some c =>
  if lowC c then nameT L 1 (cutB L i (runB folC L i)) i (runB folC L i)
  else if grtC c then nameT L 2 (cutB L i (runB folC L i)) i (runB folC L i)
  else if dgC c then (numT (cutB L i (runB dgC L i))).map fun n=>(⟨3,cutB L i (runB dgC L i),n,i,false⟩,runB dgC L i)
  else if c.toNat=39 then (match quo (L.drop (i+1)) with | some (t,k)=>nameT L 1 t i (i+1+k) | none=>none)
  else if c.toNat=91∧(L[i+1]?.map UInt8.toNat)=some 93 then nameT L 1 [91,93] i (i+2)
  else if c.toNat=33∨c.toNat=59 then nameT L 1 [c] i (i+1)
  else if mrkC c then some (⟨4,[c],0,i,false⟩,i+1)
  else if runB sgnC L i=i+1∧c.toNat=46∧endAft L (i+1) then some (⟨5,[46],0,i,false⟩,i+1)
  else nameT L 1 (cutB L i (runB sgnC L i)) i (runB sgnC L i)

def skipL:Bool→Bs→Nat
 | _,[]=>0
 | true,c::r=>1+skipL (!decide (c.toNat=10)) r
 | false,c::r=>if c.toNat=37 then 1+skipL true r else if blkC c then 1+skipL false r else 0

theorem skipL_le:∀ (b:Bool) (L:Bs),skipL b L≤L.length
 | _,[]=>by simp [skipL]
 | true,c::r=>by simp only [skipL,List.length_cons]; have:=skipL_le (!decide (c.toNat=10)) r; omega
 | false,c::r=>by
  simp only [skipL,List.length_cons]
  split
  ·have:=skipL_le true r; omega
  ·split
   ·have:=skipL_le false r; omega
   ·omega
def passN (L:Bs) (i:Nat):Nat:=i+skipL false (L.drop i)

def toks:Nat→Bs→Nat→Except Nat (List Tk)
 | 0,_,_=>.ok []
 | f+1,L,i=>if passN L i<L.length then (match oneT L (passN L i) with
   | none=>.error (passN L i)
   | some (t,to)=>match toks f L to with
    | .ok l=>.ok (t::l)
    | .error j=>.error j) else .ok []

def tokT (L:Bs):List Tk × Int × Int:=if 8000<L.length then ([],0,3) else match toks (L.length+1) L 0 with
 | .ok l=>(l,0,0)
 | .error j=>([],j,2)
theorem cutB_len {L:Bs} {i j:Nat} (h:i≤j) (hj:j≤L.length):(cutB L i j).length=j - i:=by simp [cutB]; omega

theorem quo_bad {c:UInt8} {r:Bs} (h:c.toNat<32∨126<c.toNat):quo (c::r)=none:=by
 cases r with
 | nil=>simp only [quo]; rw [if_neg (by omega)]
 | cons d r=>simp only [quo]; rw [if_pos h]

theorem quo_two {c d:UInt8} {r:Bs} (h:c.toNat=39) (h2:d.toNat=39):quo (c::d::r)=(quo r).map fun x=>(39::x.1,x.2+2):=by
 simp only [quo]; rw [if_neg (by omega),if_pos h,if_pos h2]

theorem quo_one {c:UInt8} {r:Bs} (h:c.toNat=39) (h2:∀ d,r[0]? = some d→d.toNat≠39):quo (c::r)=some ([],1):=by
 cases r with
 | nil=>simp only [quo]; rw [if_pos h]
 | cons d r=>simp only [quo]; rw [if_neg (by omega),if_pos h,if_neg (h2 d rfl)]

theorem quo_any {c:UInt8} {r:Bs} (h0:¬ (c.toNat<32∨126<c.toNat)) (h:c.toNat≠39):quo (c::r)=(quo r).map fun x=>(c::x.1,x.2+1):=by
 cases r with
 | nil=>simp only [quo]; rw [if_neg h]; rfl
 | cons d r=>simp only [quo]; rw [if_neg h0,if_neg h]

theorem quo_len:∀ (n:Nat) (L:Bs),L.length≤n→∀ t k,quo L=some (t,k)→1≤k∧k≤L.length∧t.length<k
 | 0,L,h,t,k,hq=>by
  have:L=[]:=List.length_eq_zero_iff.1 (by omega)
  subst this; cases hq
 | n+1,[],_,t,k,hq=>by cases hq
 | n+1,c::r,h,t,k,hq=>by
  simp only [List.length_cons] at h ⊢
  by_cases hb:c.toNat<32∨126<c.toNat
  ·rw [quo_bad hb] at hq; cases hq
  by_cases h39:c.toNat=39
  ·by_cases h2:∀ d,r[0]? = some d→d.toNat≠39
   ·rw [quo_one h39 h2] at hq; cases hq; simp
   ·cases r with
    | nil=>exact absurd (fun d h=>by simp at h) h2
    | cons d r' =>
     have hd:d.toNat=39:=Classical.byContradiction fun hd=>h2 fun e he=>by simp at he; subst he; exact hd
     rw [quo_two h39 hd] at hq
     simp only [List.length_cons] at h ⊢
     cases hr:quo r' with
     | none=>rw [hr] at hq; cases hq
     | some x =>
      rw [hr] at hq
      cases hq
      have:=quo_len n r' (by omega) x.1 x.2 hr
      simp only [List.length_cons]; omega
  ·rw [quo_any hb h39] at hq
   cases hr:quo r with
   | none=>rw [hr] at hq; cases hq
   | some x =>
    rw [hr] at hq
    cases hq
    have:=quo_len n r (by omega) x.1 x.2 hr
    simp only [List.length_cons]; omega

theorem nameT_to {L:Bs} {kind:Int} {text:Bs} {i to:Nat} {t:Tk} {j:Nat} (h:nameT L kind text i to=some (t,j)):j=to∧t=⟨kind,text,0,i,opnB L to⟩∧1≤text.length∧text.length≤20:=by
 unfold nameT at h
 split at h
 ·rename_i hh
  simp only [Option.some.injEq,Prod.mk.injEq] at h
  exact ⟨h.2.symm,h.1.symm,hh.1,hh.2⟩
 ·cases h

theorem oneT_to {L:Bs} {i:Nat} {t:Tk} {j:Nat} (h:oneT L i=some (t,j)):i<j∧j≤L.length:=by
 unfold oneT at h
 split at h
 ·cases h
 rename_i c hc
 have hi:=(List.getElem?_eq_some_iff.1 hc).1
 have run:∀ (p:UInt8→Bool) (kind:Int),nameT L kind (cutB L i (runB p L i)) i (runB p L i)=some (t,j)→i<j∧j≤L.length:=fun p kind h=>by
  obtain ⟨h1,_,h2,_⟩:=nameT_to h
  have hr:=runB_le (p:=p) (L:=L) (i:=i) (by omega)
  rw [cutB_len hr.1 hr.2] at h2
  subst h1; omega
 split at h
 ·exact run folC 1 h
 ·split at h
  ·exact run folC 2 h
  ·split at h
   ·rename_i hd
    cases hn:numT (cutB L i (runB dgC L i)) with
    | none=>rw [hn] at h; cases h
    | some n =>
     rw [hn] at h
     cases h
     have hr:=runB_le (p:=dgC) (L:=L) (i:=i+1) (by omega)
     rw [runB_step hc hd]; omega
   ·split at h
    ·split at h
     ·rename_i t' k hq
      obtain ⟨h1,_,_,_⟩:=nameT_to h
      have:=quo_len _ _ (Nat.le_refl _) _ _ hq
      rw [List.length_drop] at this
      subst h1; omega
     ·cases h
    ·split at h
     ·rename_i h91
      obtain ⟨h1,_,_,_⟩:=nameT_to h
      cases h2:L[i+1]? with
      | none=>rw [h2] at h91; simp at h91
      | some d=>have:=(List.getElem?_eq_some_iff.1 h2).1; subst h1; omega
     ·split at h
      ·obtain ⟨h1,_,_,_⟩:=nameT_to h; subst h1; omega
      ·split at h
       ·simp only [Option.some.injEq,Prod.mk.injEq] at h; obtain ⟨_,rfl⟩:=h; omega
       ·split at h
        ·simp only [Option.some.injEq,Prod.mk.injEq] at h; obtain ⟨_,rfl⟩:=h; omega
        ·exact run sgnC 1 h
end PSL

namespace PSL
open Go
def sgOf (t:Tm):Sg:=(t.s,(t.l.length:Int))
def twoL:List Bs:=[[61],[92,61],[61,61],[92,61,61],[64,60],[64,62],[64,61,60],[64,62,61],[105,115],[61,58,61],[61,92,61],[60],[62],[61,60],[62,61],[61,46,46]]
def oneL:List (Bs × Int):=[([102,97,105,108],0),([110,108],0),([118,97,114],1),([110,111,110,118,97,114],1),([97,116,111,109],1),([105,110,116,101,103,101,114],1),([119,114,105,116,101],1),([102,117,110,99,116,111,114],3),([97,114,103],3)]
def ctlL (n:Int):List (Bs × Int):=[([116,114,117,101],0),([33],0),([44],2),([59],2),([45,62],2),([92,43],1),([58,45],2),([63],n)]
def anyS (l:List (Bs × Int)) (p:Sg):Bool:=l.any fun x=>decide ((Tx x.1,x.2)=p)
def bltB (p:Sg):Bool:=anyS (twoL.map fun s=>(s,2)) p || anyS oneL p
def ctlB (p:Sg):Bool:=anyS (ctlL p.2) p
def ownB (t:Tm):Bool:=(t.k==3) && !bltB (sgOf t) && !ctlB (sgOf t)
def nothB (t:Tm):Bool:=(t.k==0)&&strEq t.s ⟨#[]⟩&&(t.n==0)&&decide (t.l.length=0)

theorem noth_zero (t:Tm):t.same zeroT=nothB t:=by
 rw [Tm.same_eq]
 unfold nothB zeroT
 have h1:Tm.sameL t.l []=decide (t.l.length=0):=by cases t.l <;> simp [Tm.sameL]
 show ((t.k==0)&&(t.n==0)&&strEq t.s ⟨#[]⟩&&Tm.sameL t.l [])=_
 rw [h1]
 show ((t.k==0)&&(t.n==0)&&strEq t.s ⟨#[]⟩&&_)=_
 rw [Bool.and_assoc (t.k==0),Bool.and_comm (t.n==0),← Bool.and_assoc]
def chkT (v:Int) (t:Tm):Bool:=rightT t&&(varsT [t]).all fun x=>decide (x<v)
def noneG (a b c:List Gl):Bool:=decide (a.length+b.length+c.length=0)

mutual
def chk1 (v:Int):Gl→Int→Int→Bool→Bool × Int
 | .mk k t a b c,left,deep,cuts =>
  if k=1 then (noneG a b c&&chkT v t&&ownB t,left)
  else if k=2 then (noneG a b c&&chkT v t&&(t.k==3)&&bltB (sgOf t),left)
  else if k=3 then (noneG a b c&&nothB t&&cuts,left)
  else if k=4 then
   if nothB t then
    if (chkL v a left (deep+1) false).1 then
     if (chkL v b (chkL v a left (deep+1) false).2 (deep+1) cuts).1 then chkL v c (chkL v b (chkL v a left (deep+1) false).2 (deep+1) cuts).2 (deep+1) cuts
     else (false,(chkL v b (chkL v a left (deep+1) false).2 (deep+1) cuts).2)
    else (false,(chkL v a left (deep+1) false).2)
   else (false,left)
  else if k=5 then (if nothB t&&decide (b.length+c.length=0) then chkL v a left (deep+1) false else (false,left))
  else (false,left)
def chkL (v:Int):List Gl→Int→Int→Bool→Bool × Int
 | [],left,_,_=>(true,left)
 | g::r,left,deep,cuts=>if !(chk1 v g (left - 1) deep cuts).1 || decide ((chk1 v g (left - 1) deep cuts).2<0) || decide (10<deep) then (false,(chk1 v g (left - 1) deep cuts).2) else chkL v r (chk1 v g (left - 1) deep cuts).2 deep cuts
end
def clsB (x:Cs):Bool:=decide (0≤x.vars)&&decide (x.vars≤1000)&&chkT x.vars x.head&&ownB x.head&&(chkL x.vars x.body 20 1 true).1

mutual
def there1 (has:Sg→Bool):Gl→Bool
 | .mk k t a b c=>!((k==1) && !has (sgOf t))&&thereL has a&&thereL has b&&thereL has c
def thereL (has:Sg→Bool):List Gl→Bool
 | []=>true
 | g::r=>there1 has g&&thereL has r
end
def hasH (l:List Cs) (p:Sg):Bool:=l.any fun c=>decide (sgOf c.head=p)

def firstN {α:Type} (p:α→Bool):List α→Nat→Option Nat
 | [],_=>none
 | x::r,i=>if p x then firstN p r (i+1) else some i

def checkR (l:List Cs):Int × Int :=
 if 200<l.length then (200,3)
 else match firstN clsB l 0 with
  | some i=>((i:Int),1)
  | none=>match firstN (fun c=>thereL (hasH l) c.body) l 0 with
   | some i=>((i:Int),9)
   | none=>(0,0)
def varsB (v:Int) (t:Tm):Bool:=(varsT [t]).all (fun x=>decide (x<v))&&t.rightB

def fairB (v:Int):Gl→Bool
 | .mk k t a b c =>
  if k=1 then noneG a b c&&ownB t&&varsB v t
  else if k=2 then noneG a b c&&(t.k==3)&&bltB (sgOf t)&&varsB v t
  else if k=3 then noneG a b c&&nothB t
  else nothB t&&((k==4) || (k==5)&&decide (b.length+c.length=0))

mutual
def cnt1 (v:Int):Gl→Int→Bool→Int
 | .mk k t a b c,deep,cuts =>
  if !fairB v (.mk k t a b c) || ((k==3) && !cuts) then -1
  else if (if a.length≠0∧10<deep+1 then -1 else cntG v a (deep+1) false)<0∨(if b.length≠0∧10<deep+1 then -1 else cntG v b (deep+1) cuts)<0∨(if c.length≠0∧10<deep+1 then -1 else cntG v c (deep+1) cuts)<0 then -1
  else 1+(if a.length≠0∧10<deep+1 then -1 else cntG v a (deep+1) false)+(if b.length≠0∧10<deep+1 then -1 else cntG v b (deep+1) cuts)+(if c.length≠0∧10<deep+1 then -1 else cntG v c (deep+1) cuts)
def cntG (v:Int):List Gl→Int→Bool→Int
 | [],_,_=>0
 | g::r,deep,cuts=>if cnt1 v g deep cuts<0 then -1 else if cntG v r deep cuts<0 then -1 else cnt1 v g deep cuts+cntG v r deep cuts
end
def cntL (v:Int) (l:List Gl) (deep:Int) (cuts:Bool):Int:=if l.length≠0∧10<deep then -1 else cntG v l deep cuts

theorem cnt1_eq (v:Int) (g:Gl) (deep:Int) (cuts:Bool):cnt1 v g deep cuts=if !fairB v g || ((g.k==3) && !cuts) then -1 else if cntL v g.a (deep+1) false<0∨cntL v g.b (deep+1) cuts<0∨cntL v g.c (deep+1) cuts<0 then -1 else 1+cntL v g.a (deep+1) false+cntL v g.b (deep+1) cuts+cntL v g.c (deep+1) cuts:=by
 cases g; rw [cnt1]; rfl

theorem chk1_eq (v:Int) (g:Gl) (left deep:Int) (cuts:Bool):chk1 v g left deep cuts =
  if g.k=1 then (noneG g.a g.b g.c&&chkT v g.t&&ownB g.t,left)
  else if g.k=2 then (noneG g.a g.b g.c&&chkT v g.t&&(g.t.k==3)&&bltB (sgOf g.t),left)
  else if g.k=3 then (noneG g.a g.b g.c&&nothB g.t&&cuts,left)
  else if g.k=4 then
   if nothB g.t then
    if (chkL v g.a left (deep+1) false).1 then
     if (chkL v g.b (chkL v g.a left (deep+1) false).2 (deep+1) cuts).1 then chkL v g.c (chkL v g.b (chkL v g.a left (deep+1) false).2 (deep+1) cuts).2 (deep+1) cuts
     else (false,(chkL v g.b (chkL v g.a left (deep+1) false).2 (deep+1) cuts).2)
    else (false,(chkL v g.a left (deep+1) false).2)
   else (false,left)
  else if g.k=5 then (if nothB g.t&&decide (g.b.length+g.c.length=0) then chkL v g.a left (deep+1) false else (false,left))
  else (false,left):=by
 cases g; rw [chk1]; rfl
def clsD (x:Cs):Bool:=decide (0≤x.vars)&&decide (x.vars≤1000)&&varsB x.vars x.head&&ownB x.head&&decide (0≤cntL x.vars x.body 1 true)&&decide (cntL x.vars x.body 1 true≤20)
theorem chk_vars (v:Int) (t:Tm):chkT v t=varsB v t:=by unfold chkT varsB; rw [rightT_eq,Bool.and_comm]

theorem cnt_ge (v:Int):∀ (l:List Gl) (deep:Int) (cuts:Bool),-1≤cntL v l deep cuts:=by
 have h1:∀ (g:Gl) (deep:Int) (cuts:Bool),-1≤cnt1 v g deep cuts:=fun g deep cuts=>by
  rw [cnt1_eq]
  split
  ·omega
  ·split
   ·omega
   ·omega
 have h2:∀ (l:List Gl) (deep:Int) (cuts:Bool),-1≤cntG v l deep cuts:=fun l=>by
  induction l with
  | nil=>intro _ _; simp [cntG]
  | cons g r ih =>
   intro deep cuts
   simp only [cntG]
   split
   ·omega
   ·split
    ·omega
    ·omega
 intro l deep cuts
 unfold cntL
 split
 ·omega
 ·exact h2 l deep cuts

def Both (v:Int) (l:List Gl):Prop:=∀ (left deep:Int) (cuts:Bool),((chkL v l left deep cuts).1=true↔0≤cntL v l deep cuts∧(l.length=0∨cntL v l deep cuts≤left))∧((chkL v l left deep cuts).1=true→(chkL v l left deep cuts).2=left - cntL v l deep cuts)∧(chkL v l left deep cuts).2≤left

theorem cnt_nil {v:Int} {l:List Gl} {deep:Int} {cuts:Bool} (h:l.length=0):cntL v l deep cuts=0:=by
 have:l=[]:=List.length_eq_zero_iff.1 h
 subst this
 simp [cntL,cntG]

theorem both1 {v:Int} {g:Gl} (ha:Both v g.a) (hb:Both v g.b) (hc:Both v g.c) (left deep:Int) (cuts:Bool) :
  ((chk1 v g left deep cuts).1=true∧0≤(chk1 v g left deep cuts).2↔0≤cnt1 v g deep cuts∧cnt1 v g deep cuts≤left+1)∧((chk1 v g left deep cuts).1=true→0≤(chk1 v g left deep cuts).2→(chk1 v g left deep cuts).2=left+1 - cnt1 v g deep cuts)∧(chk1 v g left deep cuts).2≤left:=by
 rw [chk1_eq,cnt1_eq]
 have hne:noneG g.a g.b g.c=true→g.a.length=0∧g.b.length=0∧g.c.length=0:=fun h=>by
  unfold noneG at h; have:=of_decide_eq_true h; omega
 by_cases h1:g.k=1
 ·have hf:fairB v g=(noneG g.a g.b g.c&&ownB g.t&&varsB v g.t):=by cases g; simp only [Gl.k] at h1; simp [fairB,h1,Gl.a,Gl.b,Gl.c,Gl.t]
  rw [if_pos h1,hf,h1,chk_vars]
  cases hn:noneG g.a g.b g.c with
  | false=>simp
  | true =>
   obtain ⟨n1,n2,n3⟩:=hne hn
   rw [cnt_nil n1,cnt_nil n2,cnt_nil n3]
   cases ownB g.t <;> cases varsB v g.t <;> simp <;> omega
 rw [if_neg h1]
 by_cases h2:g.k=2
 ·have hf:fairB v g=(noneG g.a g.b g.c&&(g.t.k==3)&&bltB (sgOf g.t)&&varsB v g.t):=by cases g; simp only [Gl.k] at h2; simp [fairB,h2,Gl.a,Gl.b,Gl.c,Gl.t]
  rw [if_pos h2,hf,h2,chk_vars]
  cases hn:noneG g.a g.b g.c with
  | false=>simp
  | true =>
   obtain ⟨n1,n2,n3⟩:=hne hn
   rw [cnt_nil n1,cnt_nil n2,cnt_nil n3]
   cases (g.t.k==3) <;> cases bltB (sgOf g.t) <;> cases varsB v g.t <;> simp <;> omega
 rw [if_neg h2]
 by_cases h3:g.k=3
 ·have hf:fairB v g=(noneG g.a g.b g.c&&nothB g.t):=by cases g; simp only [Gl.k] at h3; simp [fairB,h3,Gl.a,Gl.b,Gl.c,Gl.t]
  rw [if_pos h3,hf,h3]
  cases hn:noneG g.a g.b g.c with
  | false=>simp
  | true =>
   obtain ⟨n1,n2,n3⟩:=hne hn
   rw [cnt_nil n1,cnt_nil n2,cnt_nil n3]
   cases nothB g.t <;> cases cuts <;> simp <;> omega
 rw [if_neg h3]
 have hf:fairB v g=(nothB g.t&&((g.k==4) || (g.k==5)&&decide (g.b.length+g.c.length=0))):=by cases g; simp only [Gl.k] at h1 h2 h3; simp [fairB,h1,h2,h3,Gl.k,Gl.b,Gl.c,Gl.t]
 rw [hf]
 have h3':(g.k==3)=false:=by simpa using h3
 have ga:=cnt_ge v g.a (deep+1) false
 have gb:=cnt_ge v g.b (deep+1) cuts
 have gc:=cnt_ge v g.c (deep+1) cuts
 by_cases h4:g.k=4
 ·rw [if_pos h4,h3',h4]
  cases hn:nothB g.t with
  | false=>simp
  | true =>
   obtain ⟨a1,a2,a3⟩:=ha left (deep+1) false
   simp only [if_true,Bool.true_and,Bool.false_and,Bool.or_false,show ((4:Int)==4)=true from rfl,Bool.true_or,Bool.not_true,Bool.false_eq_true,if_false]
   generalize cntL v g.a (deep+1) false=ca at *
   cases hA:(chkL v g.a left (deep+1) false).1 with
   | false =>
    rw [hA] at a1
    simp only [Bool.false_eq_true,false_iff,if_false,false_and] at a1 ⊢
    refine ⟨fun h=>?_,fun h=>h.elim,by omega⟩
    split at h
    ·omega
    ·omega
   | true =>
    rw [hA] at a1
    simp only [if_true,true_iff] at a1 ⊢
    have a2:=a2 hA
    rw [a2]
    obtain ⟨b1,b2,b3⟩:=hb (left - ca) (deep+1) cuts
    generalize cntL v g.b (deep+1) cuts=cb at *
    cases hB:(chkL v g.b (left - ca) (deep+1) cuts).1 with
    | false =>
     rw [hB] at b1
     simp only [Bool.false_eq_true,false_iff,if_false,false_and] at b1 ⊢
     refine ⟨fun h=>?_,fun h=>h.elim,by omega⟩
     split at h
     ·omega
     ·omega
    | true =>
     rw [hB] at b1
     simp only [if_true,true_iff] at b1 ⊢
     have b2:=b2 hB
     rw [b2]
     obtain ⟨c1,c2,c3⟩:=hc (left - ca - cb) (deep+1) cuts
     generalize cntL v g.c (deep+1) cuts=cc at *
     cases hC:(chkL v g.c (left - ca - cb) (deep+1) cuts).1 with
     | false =>
      rw [hC] at c1
      simp only [Bool.false_eq_true,false_iff,false_and] at c1 ⊢
      refine ⟨fun h=>?_,fun h=>h.elim,by omega⟩
      split at h
      ·omega
      ·omega
     | true =>
      rw [hC] at c1
      simp only [true_iff,true_and] at c1 ⊢
      have c2:=c2 hC
      rw [c2]
      rw [if_neg (by omega)]
      exact ⟨by omega,fun _ _=>by omega,by omega⟩
 rw [if_neg h4]
 have h4':(g.k==4)=false:=by simpa using h4
 rw [h4',h3']
 by_cases h5:g.k=5
 ·rw [if_pos h5,h5]
  cases hn:nothB g.t with
  | false=>simp
  | true =>
   by_cases hbc:g.b.length+g.c.length=0
   ·obtain ⟨a1,a2,a3⟩:=ha left (deep+1) false
    rw [cnt_nil (l:=g.b) (by omega),cnt_nil (l:=g.c) (by omega)]
    simp only [hbc,decide_true,Bool.and_true,Bool.true_and,Bool.false_or,show ((5:Int)==5)=true from rfl,Bool.not_true,Bool.false_and,if_true,Bool.false_eq_true,if_false]
    generalize cntL v g.a (deep+1) false=ca at *
    cases hA:(chkL v g.a left (deep+1) false).1 with
    | false =>
     rw [hA] at a1
     simp only [Bool.false_eq_true,false_iff,false_and] at a1 ⊢
     refine ⟨fun h=>?_,fun h=>h.elim,by omega⟩
     split at h
     ·omega
     ·omega
    | true =>
     rw [hA] at a1
     simp only [true_iff,true_and] at a1 ⊢
     have a2:=a2 hA
     rw [a2,if_neg (by omega)]
     exact ⟨by omega,fun _ _=>by omega,by omega⟩
   ·have hd:decide (g.b.length+g.c.length=0)=false:=decide_eq_false hbc
    rw [hd]; simp
 ·rw [if_neg h5]
  have h5':(g.k==5)=false:=by simpa using h5
  rw [h5']
  simp

theorem bothL (v:Int) (l:List Gl):Both v l:=by
 refine Gl.indL (p:=Both v) (fun l=>?_) l
 intro hsub
 induction l with
 | nil=>intro left deep cuts; simp [chkL,cnt_nil]
 | cons g r ih =>
  obtain ⟨ga,gb,gc⟩:=hsub g (by simp)
  have ih:=ih fun x hx=>hsub x (by simp [hx])
  intro left deep cuts
  obtain ⟨p1,p2,p3⟩:=both1 ga gb gc (left - 1) deep cuts
  have hn:(g::r).length≠0:=by simp
  simp only [chkL]
  have hcnt:cntL v (g::r) deep cuts=if 10<deep then -1 else if cnt1 v g deep cuts<0 then -1 else if cntG v r deep cuts<0 then -1 else cnt1 v g deep cuts+cntG v r deep cuts:=by
   unfold cntL
   by_cases hd:10<deep
   ·rw [if_pos ⟨hn,hd⟩,if_pos hd]
   ·rw [if_neg (fun h=>hd h.2),if_neg hd]; simp only [cntG]
  have hr:¬ 10<deep→cntL v r deep cuts=cntG v r deep cuts:=fun hd=>by unfold cntL; rw [if_neg (fun h=>hd h.2)]
  have h1pos:0≤cnt1 v g deep cuts→1≤cnt1 v g deep cuts:=fun h=>by
   rw [cnt1_eq] at h ⊢
   split at h
   ·omega
   ·rename_i hf
    rw [if_neg hf]
    split at h
    ·omega
    ·rename_i hq
     rw [if_neg hq]
     have:=cnt_ge v g.a (deep+1) false
     have:=cnt_ge v g.b (deep+1) cuts
     have:=cnt_ge v g.c (deep+1) cuts
     omega
  rw [hcnt]
  generalize cnt1 v g deep cuts=cg at *
  obtain ⟨q1,q2,q3⟩:=ih (chk1 v g (left - 1) deep cuts).2 deep cuts
  generalize chk1 v g (left - 1) deep cuts=x at *
  obtain ⟨xb,xl⟩:=x
  simp only at p1 p2 p3 q1 q2 q3 ⊢
  have hgr:=cnt_ge v r deep cuts
  by_cases hd:10<deep
  ·have:(!xb || decide (xl<0) || decide (10<deep))=true:=by simp [hd]
   rw [if_pos this,if_pos hd]
   exact ⟨⟨(fun h=>by cases h),fun h=>by omega⟩,(fun h=>by cases h),by simp only; omega⟩
  rw [if_neg hd]
  rw [hr hd] at q1 q2 hgr
  generalize cntG v r deep cuts=cr at *
  by_cases hx:xb=true∧0≤xl
  ·have:(!xb || decide (xl<0) || decide (10<deep))=false:=by simp [hd,hx.1]; omega
   rw [if_neg (by rw [this]; simp)]
   have hp:=p1.1 hx
   have hp2:=p2 hx.1 hx.2
   have hp3:=h1pos hp.1
   rw [if_neg (by omega)]
   refine ⟨q1.trans ⟨fun h=>?_,fun h=>?_⟩,fun h=>?_,by omega⟩
   ·rw [if_neg (by omega)]
    refine ⟨by omega,.inr ?_⟩
    rcases h.2 with h2 | h2
    ·have:cr=0:=by
      have h4:=hr hd
      have:r=[]:=List.length_eq_zero_iff.1 h2
      subst this
      rw [cnt_nil rfl] at h4
      exact h4.symm
     omega
    ·omega
   ·split at h
    ·omega
    ·refine ⟨by omega,.inr (by omega)⟩
   ·have h2:=q2 h
    have h3:=(q1.1 h).1
    rw [if_neg (by omega)]
    omega
  ·have:(!xb || decide (xl<0) || decide (10<deep))=true:=by
    cases xb with
    | false=>rfl
    | true=>simp only [true_and] at hx; simp; left; omega
   rw [if_pos this]
   refine ⟨⟨(fun h=>by cases h),fun h=>?_⟩,(fun h=>by cases h),by simp only; omega⟩
   refine absurd (p1.2 ?_) hx
   split at h
   ·omega
   ·split at h
    ·omega
    ·rcases h.2 with h2 | h2
     ·exact absurd h2 hn
     ·omega

theorem cls_same (x:Cs):clsB x=clsD x:=by
 unfold clsB clsD
 rw [chk_vars]
 obtain ⟨h,_⟩:=bothL x.vars x.body 20 1 true
 have:(chkL x.vars x.body 20 1 true).1=(decide (0≤cntL x.vars x.body 1 true)&&decide (cntL x.vars x.body 1 true≤20)):=by
  rw [Bool.eq_iff_iff,h]
  simp only [Bool.and_eq_true,decide_eq_true_eq]
  constructor
  ·rintro ⟨h1,h2⟩
   refine ⟨h1,?_⟩
   rcases h2 with h2 | h2
   ·rw [cnt_nil h2]; omega
   ·exact h2
  ·rintro ⟨h1,h2⟩
   exact ⟨h1,.inr h2⟩
 rw [this,Bool.and_assoc,Bool.and_assoc,Bool.and_assoc,Bool.and_assoc,Bool.and_assoc,Bool.and_assoc,Bool.and_assoc]
end PSL

namespace PSL
open Go

theorem sg_dec (x:Bs) (c:Int) (s:ByteArray) (n:Int):decide ((Tx x,c)=(s,n))=(strEq s (Tx x)&&(n==c)):=by
 rw [Bool.eq_iff_iff]
 simp only [decide_eq_true_eq,Prod.mk.injEq,Bool.and_eq_true,beq_iff_eq,Tm.strEq_iff]
 exact ⟨fun h=>⟨h.1.symm,h.2.symm⟩,fun h=>⟨h.1.symm,h.2.symm⟩⟩
def bltX (s:ByteArray) (n:Int):Bool:=((n==2)&&(strEq s ⟨#[61]⟩ || strEq s ⟨#[92,61]⟩ || strEq s ⟨#[61,61]⟩ || strEq s ⟨#[92,61,61]⟩ || strEq s ⟨#[64,60]⟩ || strEq s ⟨#[64,62]⟩ || strEq s ⟨#[64,61,60]⟩ || strEq s ⟨#[64,62,61]⟩ || strEq s ⟨#[105,115]⟩ || strEq s ⟨#[61,58,61]⟩ || strEq s ⟨#[61,92,61]⟩ || strEq s ⟨#[60]⟩ || strEq s ⟨#[62]⟩ || strEq s ⟨#[61,60]⟩ || strEq s ⟨#[62,61]⟩ || strEq s ⟨#[61,46,46]⟩)) || ((n==1)&&(strEq s ⟨#[118,97,114]⟩ || strEq s ⟨#[110,111,110,118,97,114]⟩ || strEq s ⟨#[97,116,111,109]⟩ || strEq s ⟨#[105,110,116,101,103,101,114]⟩ || strEq s ⟨#[119,114,105,116,101]⟩)) || ((n==0)&&(strEq s ⟨#[102,97,105,108]⟩ || strEq s ⟨#[110,108]⟩)) || ((n==3)&&(strEq s ⟨#[102,117,110,99,116,111,114]⟩ || strEq s ⟨#[97,114,103]⟩))
def ctlX (s:ByteArray) (n:Int):Bool:=strEq s ⟨#[63]⟩ || ((n==0)&&(strEq s ⟨#[116,114,117,101]⟩ || strEq s ⟨#[33]⟩)) || ((n==1)&&strEq s ⟨#[92,43]⟩) || ((n==2)&&(strEq s ⟨#[44]⟩ || strEq s ⟨#[59]⟩ || strEq s ⟨#[45,62]⟩ || strEq s ⟨#[58,45]⟩))

set_option maxHeartbeats 1000000 in
theorem bltX_eq (s:ByteArray) (n:Int):bltB (s,n)=bltX s n:=by
 unfold bltB bltX anyS
 simp only [twoL,oneL,List.map_cons,List.map_nil,List.any_cons,List.any_nil,sg_dec,Bool.or_false]
 simp only [Tx]
 generalize (n==2)=n2
 generalize (n==1)=n1
 generalize (n==0)=n0
 generalize (n==3)=n3
 cases n2 <;> cases n1 <;> cases n0 <;> cases n3 <;> (first | (simp [Bool.or_assoc]; done) | (simp [Bool.or_assoc]; ac_rfl))

set_option maxHeartbeats 1000000 in
theorem ctlX_eq (s:ByteArray) (n:Int):ctlB (s,n)=ctlX s n:=by
 unfold ctlB ctlX anyS
 simp only [ctlL,List.map_cons,List.map_nil,List.any_cons,List.any_nil,sg_dec,Bool.or_false,BEq.rfl,Bool.and_true]
 simp only [Tx]
 generalize (n==2)=n2
 generalize (n==1)=n1
 generalize (n==0)=n0
 generalize strEq s ⟨#[63]⟩=q
 cases n2 <;> cases n1 <;> cases n0 <;> cases q <;> (first | (simp [Bool.or_assoc]; done) | (simp [Bool.or_assoc]; ac_rfl))
end PSL
namespace PSL
open Go

mutual
def allG (P:Tm→Prop):Gl→Prop
 | .mk _ t a b c=>P t∧allGL P a∧allGL P b∧allGL P c
def allGL (P:Tm→Prop):List Gl→Prop
 | []=>True
 | g::r=>allG P g∧allGL P r
end
theorem allG_eq (P:Tm→Prop) (g:Gl):allG P g↔P g.t∧allGL P g.a∧allGL P g.b∧allGL P g.c:=by cases g; rw [allG]; rfl

theorem allGL_mem {P:Tm→Prop}:∀ {l:List Gl},allGL P l→∀ g∈l,P g.t∧allGL P g.a∧allGL P g.b∧allGL P g.c
 | [],_,g,h=>by cases h
 | x::r,h,g,hg=>by
  simp only [allGL] at h
  rcases List.mem_cons.1 hg with rfl | hg
  ·exact (allG_eq P g).1 h.1
  ·exact allGL_mem h.2 g hg

theorem allGL_of {P:Tm→Prop}:∀ {l:List Gl},(∀ g∈l,P g.t∧allGL P g.a∧allGL P g.b∧allGL P g.c)→allGL P l
 | [],_=>by simp only [allGL]
 | x::r,h=>by
  simp only [allGL]
  exact ⟨(allG_eq P x).2 (h x (by simp)),allGL_of fun g hg=>h g (by simp [hg])⟩

theorem chk_low (v:Int) (l:List Gl):∀ (left deep:Int) (cuts:Bool),left - Gl.sizeL l≤(chkL v l left deep cuts).2:=by
 refine Gl.indL (p:=fun l=>∀ (left deep:Int) (cuts:Bool),left - Gl.sizeL l≤(chkL v l left deep cuts).2) (fun l=>?_) l
 intro hsub
 induction l with
 | nil=>intro left deep cuts; simp [chkL,Gl.sizeL]
 | cons g r ih =>
  obtain ⟨ga,gb,gc⟩:=hsub g (by simp)
  have ih:=ih fun x hx=>hsub x (by simp [hx])
  intro left deep cuts
  have h1:left - g.size≤(chk1 v g (left - 1) deep cuts).2:=by
   rw [chk1_eq,Gl.size_eq]
   have:=Gl.tmPos g.t
   split; · simp only; omega
   split; · simp only; omega
   split; · simp only; omega
   split
   ·split
    ·have a1:=ga (left - 1) (deep+1) false
     split
     ·have b1:=gb (chkL v g.a (left - 1) (deep+1) false).2 (deep+1) cuts
      split
      ·have c1:=gc (chkL v g.b (chkL v g.a (left - 1) (deep+1) false).2 (deep+1) cuts).2 (deep+1) cuts
       omega
      ·simp only; omega
     ·simp only; omega
    ·simp only; omega
   split
   ·split
    ·have a1:=ga (left - 1) (deep+1) false
     omega
    ·simp only; omega
   ·simp only; omega
  simp only [chkL,Gl.sizeL]
  split
  ·simp only; omega
  ·have:=ih (chk1 v g (left - 1) deep cuts).2 deep cuts
   omega

theorem chk1_low (v:Int) (g:Gl) (left deep:Int) (cuts:Bool):left+1 - g.size≤(chk1 v g left deep cuts).2∧(chk1 v g left deep cuts).2≤left:=by
 refine ⟨?_,(both1 (bothL v g.a) (bothL v g.b) (bothL v g.c) left deep cuts).2.2⟩
 rw [chk1_eq,Gl.size_eq]
 have:=Gl.tmPos g.t
 split; · simp only; omega
 split; · simp only; omega
 split; · simp only; omega
 split
 ·split
  ·have a1:=chk_low v g.a left (deep+1) false
   split
   ·have b1:=chk_low v g.b (chkL v g.a left (deep+1) false).2 (deep+1) cuts
    split
    ·have c1:=chk_low v g.c (chkL v g.b (chkL v g.a left (deep+1) false).2 (deep+1) cuts).2 (deep+1) cuts
     omega
    ·simp only; omega
   ·simp only; omega
  ·simp only; omega
 split
 ·split
  ·have a1:=chk_low v g.a left (deep+1) false
   omega
  ·simp only; omega
 ·simp only; omega
end PSL
namespace PSL
open Go
def hasS (ks:List Sg) (p:Sg):Bool:=ks.any fun q=>decide (q=p)
def addS (ks:List Sg) (p:Sg):List Sg:=if hasS ks p then ks else ks++[p]
def mkM (ks:List Sg):List (Sg × AV):=ks.map fun p=>(p,bV true)
def dsM (ks:List Sg):List (Value × D):=ks.map fun p=>(skV p,.v (.bool true))
def hdS (l:List Cs):List Sg:=l.foldl (fun ks c=>addS ks (sgOf c.head)) []

theorem dsM_eq (ks:List Sg):(dsM ks).map (fun p=>(p.1,AV.d p.2))=kmap (mkM ks):=by
 unfold dsM kmap mkM
 rw [List.map_map,List.map_map]; rfl
theorem hasS_cons (k:Sg) (r:List Sg) (p:Sg):hasS (k::r) p=(decide (k=p) || hasS r p):=rfl

theorem getK_mk (ks:List Sg) (p:Sg):getK (mkM ks) p=if hasS ks p then some (bV true) else none:=by
 induction ks with
 | nil=>rfl
 | cons k r ih =>
  simp only [mkM,List.map_cons,getK] at ih ⊢
  by_cases h:k=p
  ·rw [if_pos h,if_pos (by rw [hasS_cons,decide_eq_true h]; rfl)]
  ·have h1:hasS (k::r) p=hasS r p:=by rw [hasS_cons,decide_eq_false h]; rfl
   rw [if_neg h,ih,h1]

theorem setK_mk (ks:List Sg) (p:Sg):setK (mkM ks) p (bV true)=mkM (addS ks p):=by
 unfold addS
 induction ks with
 | nil=>rfl
 | cons k r ih =>
  simp only [mkM,List.map_cons,setK] at ih ⊢
  by_cases h:k=p
  ·rw [if_pos h,if_pos (by rw [hasS_cons,decide_eq_true h]; rfl),h]; rfl
  ·have h1:hasS (k::r) p=hasS r p:=by rw [hasS_cons,decide_eq_false h]; rfl
   rw [if_neg h,ih,h1]
   split <;> rfl

theorem addS_mem (ks:List Sg) (p q:Sg):hasS (addS ks p) q=(hasS ks q || decide (p=q)):=by
 unfold addS
 split
 ·rename_i h
  by_cases e:p=q
  ·subst e; rw [h]; rfl
  ·rw [decide_eq_false e,Bool.or_false]
 ·unfold hasS
  rw [List.any_append]
  simp
theorem mapOb_mk {f:AV→AV} (h:f (bV true)=bV true) (ks:List Sg):mapOb f (.map (kmap (mkM ks)))=.map (kmap (mkM ks)):=by simp [mapOb,kmap,mkM,Function.comp_def,h]

theorem hdS_mem (l:List Cs) (q:Sg):hasS (hdS l) q=hasH l q:=by
 have key:∀ (l:List Cs) (ks:List Sg),hasS (l.foldl (fun ks c=>addS ks (sgOf c.head)) ks) q=(hasS ks q || hasH l q):=by
  intro l
  induction l with
  | nil=>intro ks; simp [hasH]
  | cons c r ih =>
   intro ks
   simp only [List.foldl_cons]
   rw [ih,addS_mem,Bool.or_assoc]
   rfl
 have:=key l []
 simpa [hdS,hasS] using this
theorem there1_eq (has:Sg→Bool) (g:Gl):there1 has g=(!((g.k==1) && !has (sgOf g.t))&&thereL has g.a&&thereL has g.b&&thereL has g.c):=by cases g; rw [there1]; rfl

def SmT (t:Tm):Prop:=t.size≤1000000∧∀ x e,e∈t.els x→e.2.s.size<1000000000

structure SmC (x:Cs):Prop where
 head:SmT x.head
 body:allGL SmT x.body
 size:Gl.sizeL x.body≤1000000
end PSL
namespace PSL
open Go

theorem cnt_le (v:Int) (l:List Gl):∀ (deep:Int) (cuts:Bool),cntL v l deep cuts≤Gl.sizeL l:=by
 refine Gl.indL (p:=fun l=>∀ (deep:Int) (cuts:Bool),cntL v l deep cuts≤Gl.sizeL l) (fun l=>?_) l
 intro hsub
 have key:∀ deep cuts,cntG v l deep cuts≤Gl.sizeL l:=by
  induction l with
  | nil=>intro _ _; simp [cntG,Gl.sizeL]
  | cons g r ih =>
   intro deep cuts
   obtain ⟨ga,gb,gc⟩:=hsub g (by simp)
   have ih:=ih (fun x hx=>hsub x (by simp [hx])) deep cuts
   simp only [cntG,Gl.sizeL]
   have h1:cnt1 v g deep cuts≤g.size:=by
    rw [cnt1_eq,Gl.size_eq]
    have:=Gl.tmPos g.t
    have:=ga (deep+1) false
    have:=gb (deep+1) cuts
    have:=gc (deep+1) cuts
    split
    ·omega
    ·split <;> omega
   split
   ·omega
   ·split <;> omega
 intro deep cuts
 unfold cntL
 split
 ·omega
 ·exact key deep cuts

def cmbG (v:Int) (l:List Gl) (deep:Int) (cuts:Bool) (m:Int):Int:=if cntG v l deep cuts<0 then -1 else m+cntG v l deep cuts

theorem cmbG_cons (v:Int) (g:Gl) (r:List Gl) (deep:Int) (cuts:Bool) (m:Int):cmbG v (g::r) deep cuts m=if cnt1 v g deep cuts<0 then -1 else cmbG v r deep cuts (m+cnt1 v g deep cuts):=by
 have h2:∀ (l:List Gl) ,-1≤cntG v l deep cuts:=fun l=>by
  cases l with
  | nil=>simp [cntG]
  | cons g r=>simp only [cntG]; split; omega; split; omega; omega
 unfold cmbG
 simp only [cntG]
 have:=h2 r
 split
 ·rfl
 ·split
  ·rfl
  ·rename_i h3 h4
   rw [if_neg (by omega)]
   omega

mutual
def fewG1:Gl→Int→Int→Int
 | .mk _ t a b c,m,d=>(if d - 1<1 then -1 else fewGo c (if d - 1<1 then -1 else fewGo b (if d - 1<1 then -1 else fewGo a (t.few m 200) (d - 1)) (d - 1)) (d - 1))
def fewGo:List Gl→Int→Int→Int
 | [],m,_=>m
 | g::r,m,d=>if m ≥ 0 then fewGo r (fewG1 g m d) d else m
end
def fewGL (l:List Gl) (m d:Int):Int:=if d<1 then -1 else fewGo l m d

theorem fewG1_eq (g:Gl) (m d:Int):fewG1 g m d=fewGL g.c (fewGL g.b (fewGL g.a (g.t.few m 200) (d - 1)) (d - 1)) (d - 1):=by
 cases g; rw [fewG1]; rfl

def somGo:List Cs→Int→Int
 | [],m=>m
 | c::r,m=>if m ≥ 0 then somGo r (fewGL c.body (c.head.few m 200) 30) else m
def somP (l:List Cs):Bool:=decide (somGo l 3000 ≥ 0)&&decide (l.length≤210)
def FwT (t:Tm):Prop:=∀ x e,e∈t.els x→e.2.s.size≤100

theorem few_b (t:Tm) {m:Int} (h0:-1≤m) (h1:m≤1000000):-1≤t.few m 200∧t.few m 200≤m∧(0≤t.few m 200→0≤m∧t.few m 200+t.size≤m∧FwT t):=by
 obtain ⟨a,b,c⟩:=few_bound t (m:=m) (d:=200) h0 (by omega) (by omega)
 refine ⟨a,b,fun h=>?_⟩
 obtain ⟨d,e⟩:=c h
 exact ⟨by omega,d,e⟩

theorem fewGL_b (l:List Gl):∀ (m d:Int),-1≤m→m≤1000000→-1≤fewGL l m d∧fewGL l m d≤max m (-1)∧(0≤fewGL l m d→0≤m∧fewGL l m d+Gl.sizeL l≤m∧allGL FwT l∧1≤d):=by
 refine Gl.indL (p:=fun l=>∀ (m d:Int),-1≤m→m≤1000000→-1≤fewGL l m d∧fewGL l m d≤max m (-1)∧(0≤fewGL l m d→0≤m∧fewGL l m d+Gl.sizeL l≤m∧allGL FwT l∧1≤d)) (fun l=>?_) l
 intro hsub
 have key:∀ (m d:Int),-1≤m→m≤1000000→-1≤fewGo l m d∧fewGo l m d≤m∧(0≤fewGo l m d→0≤m∧fewGo l m d+Gl.sizeL l≤m∧allGL FwT l):=by
  induction l with
  | nil=>intro m d h0 h1; simp only [fewGo,Gl.sizeL,allGL]; exact ⟨h0,Int.le_refl _,fun h=>⟨h,by omega,trivial⟩⟩
  | cons g r ih =>
   intro m d h0 h1
   obtain ⟨ga,gb,gc⟩:=hsub g (by simp)
   have ih:=ih fun x hx=>hsub x (by simp [hx])
   simp only [fewGo]
   split
   ·rename_i hm
    rw [fewG1_eq]
    obtain ⟨t1,t2,t3⟩:=few_b g.t h0 h1
    obtain ⟨a1,a2,a3⟩:=ga (g.t.few m 200) (d - 1) t1 (by omega)
    obtain ⟨b1,b2,b3⟩:=gb (fewGL g.a (g.t.few m 200) (d - 1)) (d - 1) a1 (by omega)
    obtain ⟨c1,c2,c3⟩:=gc (fewGL g.b (fewGL g.a (g.t.few m 200) (d - 1)) (d - 1)) (d - 1) b1 (by omega)
    generalize fewGL g.c (fewGL g.b (fewGL g.a (g.t.few m 200) (d - 1)) (d - 1)) (d - 1)=x3 at *
    generalize fewGL g.b (fewGL g.a (g.t.few m 200) (d - 1)) (d - 1)=x2 at *
    generalize fewGL g.a (g.t.few m 200) (d - 1)=x1 at *
    obtain ⟨r1,r2,r3⟩:=ih x3 d c1 (by omega)
    refine ⟨r1,by omega,fun h=>?_⟩
    obtain ⟨r4,r5,r6⟩:=r3 h
    obtain ⟨c4,c5,c6,_⟩:=c3 r4
    obtain ⟨b4,b5,b6,_⟩:=b3 c4
    obtain ⟨a4,a5,a6,_⟩:=a3 b4
    obtain ⟨t4,t5,t6⟩:=t3 a4
    refine ⟨by omega,?_,?_⟩
    ·simp only [Gl.sizeL]; rw [Gl.size_eq]; omega
    ·simp only [allGL]; exact ⟨(allG_eq FwT g).2 ⟨t6,a6,b6,c6⟩,r6⟩
   ·rename_i hm
    exact ⟨h0,Int.le_refl _,fun h=>by omega⟩
 intro m d h0 h1
 unfold fewGL
 split
 ·exact ⟨by omega,by omega,fun h=>by omega⟩
 ·obtain ⟨k1,k2,k3⟩:=key m d h0 h1
  exact ⟨k1,by omega,fun h=>⟨(k3 h).1,(k3 h).2.1,(k3 h).2.2,by omega⟩⟩

theorem allGL_mono {P Q:Tm→Prop} {l:List Gl} (h:∀ t:Tm,t.size≤Gl.sizeL l→P t→Q t) (hp:allGL P l):allGL Q l:=by
 have key:∀ (N:Nat) (l:List Gl),Gl.sizeL l≤N→(∀ t:Tm,t.size≤N→P t→Q t)→allGL P l→allGL Q l:=by
  intro N l
  refine Gl.indL (p:=fun l=>Gl.sizeL l≤N→(∀ t:Tm,t.size≤N→P t→Q t)→allGL P l→allGL Q l) (fun l=>?_) l
  intro hsub hN h hp
  refine allGL_of fun g hg=>?_
  obtain ⟨h1,h2,h3,h4⟩:=allGL_mem hp g hg
  have:=Gl.size_mem hg
  have:=Gl.size_eq g
  obtain ⟨s1,s2,s3⟩:=hsub g hg
  exact ⟨h _ (by omega) h1,s1 (by omega) h h2,s2 (by omega) h h3,s3 (by omega) h h4⟩
 exact key _ l (Nat.le_refl _) h hp
theorem fw_sm {t:Tm} (h:t.size≤1000000) (hf:FwT t):SmT t:=⟨h,fun x e he=>by have:=hf x e he; omega⟩

theorem somGo_b:∀ (l:List Cs) (m:Int),-1≤m→m≤1000000→-1≤somGo l m∧(0≤somGo l m→0≤m∧(∀ c∈l,SmC c∧Cs.size c≤m)∧somGo l m+Cs.sizeL l≤m)
 | [],m,h0,h1=>by simp only [somGo,Cs.sizeL]; exact ⟨h0,fun h=>⟨h,by simp,by omega⟩⟩
 | c::r,m,h0,h1=>by
  simp only [somGo]
  split
  ·rename_i hm
   obtain ⟨t1,t2,t3⟩:=few_b c.head h0 h1
   obtain ⟨a1,a2,a3⟩:=fewGL_b c.body (c.head.few m 200) 30 t1 (by omega)
   obtain ⟨r1,r3⟩:=somGo_b r (fewGL c.body (c.head.few m 200) 30) a1 (by omega)
   refine ⟨r1,fun h=>?_⟩
   obtain ⟨r4,r5,r6⟩:=r3 h
   obtain ⟨a4,a5,a6,_⟩:=a3 r4
   obtain ⟨t4,t5,t6⟩:=t3 a4
   refine ⟨t4,?_,by simp only [Cs.sizeL,Cs.size]; omega⟩
   intro x hx
   rcases List.mem_cons.1 hx with rfl | hx
   ·exact ⟨⟨fw_sm (by omega) t6,allGL_mono (fun t ht=>fw_sm (by omega)) a6,by omega⟩,by simp only [Cs.size]; omega⟩
   ·have:=r5 x hx
    exact ⟨this.1,by omega⟩
  ·rename_i hm
   exact ⟨h0,fun h=>by omega⟩

theorem somP_sm {l:List Cs} (h:somP l=true):(∀ c∈l,SmC c)∧l.length≤210∧Cs.sizeL l≤3000:=by
 unfold somP at h
 simp only [Bool.and_eq_true,decide_eq_true_eq] at h
 obtain ⟨_,h2⟩:=somGo_b l 3000 (by omega) (by omega)
 obtain ⟨_,h3,h4⟩:=h2 h.1
 exact ⟨fun c hc=>(h3 c hc).1,h.2,by omega⟩
end PSL

namespace PSL
open Go

structure Is where
 op:Int
 v:Int
 n:Int
 s:ByteArray
namespace Is
def row (x:Is):List D:=[.v (.int .i64 x.op),.v (.int .i64 x.v),.v (.int .i64 x.n),.v (.string x.s)]
def rows (l:List Is):List (List D):=l.map row
def av (x:Is):AV:=.agg [.d (.v (.int .i64 x.op)),.d (.v (.int .i64 x.v)),.d (.v (.int .i64 x.n)),.d (.v (.string x.s))]
theorem rows_len (l:List Is):(rows l).length=l.length:=by simp [rows]
theorem rows_get {l:List Is} {i:Nat} {x:Is} (h:l[i]? = some x):(rows l)[i]? = some (row x):=by simp [rows,h]
theorem rows_app (a b:List Is):rows (a++b)=rows a++rows b:=by simp [rows]
theorem rows_snoc (a:List Is) (x:Is):rows a++[row x]=rows (a++[x]):=by simp [rows]

theorem rows_4 (l:List Is):∀ r∈rows l,r.length=4:=fun r hr=>by
 obtain ⟨x,_,rfl⟩:=List.mem_map.1 hr; rfl

theorem rows_1 (l:List Is):∀ r∈rows l,∀ x∈r,one1 (.d x)=true:=fun r hr x hx=>by
 obtain ⟨y,_,rfl⟩:=List.mem_map.1 hr
 simp only [row,List.mem_cons,List.not_mem_nil,or_false] at hx
 rcases hx with rfl | rfl | rfl | rfl <;> rfl
end Is
def e0:ByteArray:=⟨#[]⟩

mutual
def headG:Tm→List Int→List Is × List Int
 | .mk k s n l,met=>if k=1 then ([⟨if met.contains n then 2 else 1,n,0,e0⟩],addV met n) else if k=2 then ([⟨3,0,n,e0⟩],met) else (⟨4,0,l.length,s⟩::(headGL l met).1,(headGL l met).2)
def headGL:List Tm→List Int→List Is × List Int
 | [],met=>([],met)
 | t::r,met=>((headG t met).1++(headGL r (headG t met).2).1,(headGL r (headG t met).2).2)
end

theorem headG_eq (t:Tm) (met:List Int):headG t met=if t.k=1 then ([⟨if met.contains t.n then 2 else 1,t.n,0,e0⟩],addV met t.n) else if t.k=2 then ([⟨3,0,t.n,e0⟩],met) else (⟨4,0,t.l.length,t.s⟩::(headGL t.l met).1,(headGL t.l met).2):=by
 cases t; rw [headG]; rfl

theorem headGL_snoc (l:List Tm) (x:Tm) (met:List Int):headGL (l++[x]) met=((headGL l met).1++(headG x (headGL l met).2).1,(headG x (headGL l met).2).2):=by
 induction l generalizing met with
 | nil=>simp [headGL]
 | cons y r ih=>simp only [List.cons_append,headGL,ih]; simp

theorem headGL_take {l:List Tm} {i:Nat} {x:Tm} (h:l[i]? = some x) (met:List Int):headGL (l.take (i+1)) met=((headGL (l.take i) met).1++(headG x (headGL (l.take i) met).2).1,(headG x (headGL (l.take i) met).2).2):=by
 rw [List.take_add_one,h]; exact headGL_snoc _ _ _
theorem headGL_t1 {l:List Tm} {i:Nat} {x:Tm} (h:l[i]? = some x) (met:List Int):(headGL (l.take (i+1)) met).1=(headGL (l.take i) met).1++(headG x (headGL (l.take i) met).2).1:=by rw [headGL_take h]
theorem headGL_t2 {l:List Tm} {i:Nat} {x:Tm} (h:l[i]? = some x) (met:List Int):(headGL (l.take (i+1)) met).2=(headG x (headGL (l.take i) met).2).2:=by rw [headGL_take h]

theorem tm_sizeL_at {l:List Tm} {i:Nat} {x:Tm} (h:l[i]? = some x):Tm.sizeL (l.take i)+x.size≤Tm.sizeL l:=by
 induction l generalizing i with
 | nil=>simp at h
 | cons y r ih =>
  cases i with
  | zero=>simp at h; subst h; simp only [List.take_zero,Tm.sizeL]; omega
  | succ i =>
   have:=ih (i:=i) (by simpa using h)
   simp only [List.take_succ_cons,Tm.sizeL]; omega
def instG (t:Tm):Is:=if t.k=1 then ⟨6,t.n,0,e0⟩ else if t.k=2 then ⟨7,0,t.n,e0⟩ else ⟨8,0,t.l.length,t.s⟩

mutual
def putG:Tm→List Is
 | .mk k s n l=>putGL l++[instG (.mk k s n l)]
def putGL:List Tm→List Is
 | []=>[]
 | t::r=>putG t++putGL r
end
theorem putG_eq (t:Tm):putG t=putGL t.l++[instG t]:=by cases t; rw [putG]; rfl

theorem putGL_snoc (l:List Tm) (x:Tm):putGL (l++[x])=putGL l++putG x:=by
 induction l with
 | nil=>simp [putGL]
 | cons y r ih=>simp only [List.cons_append,putGL,ih,List.append_assoc]

theorem putGL_take {l:List Tm} {i:Nat} {x:Tm} (h:l[i]? = some x):putGL (l.take (i+1))=putGL (l.take i)++putG x:=by
 rw [List.take_add_one,h]; exact putGL_snoc _ _

mutual
theorem putG_len:∀ t:Tm,(putG t).length=t.size
 | .mk k s n l=>by rw [putG,Tm.size]; simp only [List.length_append,List.length_singleton]; rw [putGL_len l]; omega
theorem putGL_len:∀ l:List Tm,(putGL l).length=Tm.sizeL l
 | []=>rfl
 | t::r=>by rw [putGL,Tm.sizeL,List.length_append,putG_len t,putGL_len r]
end

mutual
theorem headG_len:∀ (t:Tm) (met:List Int),(headG t met).1.length≤t.size∧(headG t met).2.length≤met.length+t.size
 | .mk k s n l,met=>by
  have hl:=headGL_len l met
  have ha:(addV met n).length≤met.length+1:=by unfold addV; split <;> simp
  rw [headG,Tm.size]
  split
  ·exact ⟨by simp only [List.length_singleton]; omega,by simp only; omega⟩
  ·split
   ·exact ⟨by simp only [List.length_singleton]; omega,by simp only; omega⟩
   ·exact ⟨by simp only [List.length_cons]; omega,by simp only; omega⟩
theorem headGL_len:∀ (l:List Tm) (met:List Int),(headGL l met).1.length≤Tm.sizeL l∧(headGL l met).2.length≤met.length+Tm.sizeL l
 | [],met=>⟨Nat.le_refl _,Nat.le_refl _⟩
 | t::r,met=>by
  have h1:=headG_len t met
  have h2:=headGL_len r (headG t met).2
  rw [headGL,Tm.sizeL]
  exact ⟨by simp only [List.length_append]; omega,by simp only; omega⟩
end
def asksG (op:Int) (t:Tm):List Is:=putGL t.l++[⟨op,0,t.l.length,t.s⟩]

def notCode (at_:Nat) (v:Int) (A:List Is):List Is :=
 [⟨13,v,0,e0⟩,⟨14,0,((at_+2+A.length+2:Nat):Int),e0⟩]++A++[⟨15,v,0,e0⟩,⟨17,0,0,e0⟩]

def ifCode (at_:Nat) (v:Int) (A B C:List Is):List Is :=
 [⟨13,v,0,e0⟩,⟨14,0,((at_+2+A.length+1+B.length+1:Nat):Int),e0⟩]++A++[⟨15,v,0,e0⟩]++B++[⟨16,0,((at_+2+A.length+1+B.length+1+C.length:Nat):Int),e0⟩]++C

mutual
def testsG:Gl→Int
 | .mk k _ a b c=>testsGL a+testsGL b+testsGL c+(if k ≥ 4 then 1 else 0)
def testsGL:List Gl→Int
 | []=>0
 | g::r=>testsG g+testsGL r
end
theorem testsG_eq (g:Gl):testsG g=testsGL g.a+testsGL g.b+testsGL g.c+(if g.k ≥ 4 then 1 else 0):=by cases g; rw [testsG]; rfl

mutual
def golD:Gl→Nat→Int→List Is
 | .mk k t a b c,at_,v =>
  if k=1∨k=2 then asksG (8+k) t else if k=3 then [⟨11,0,0,e0⟩]
  else
   let A:=golDL a (at_+2) (v+1)
   if k=5 then notCode at_ v A
   else
    let B:=golDL b (at_+2+A.length+1) (v+1+testsGL a)
    ifCode at_ v A B (golDL c (at_+2+A.length+1+B.length+1) (v+1+testsGL a+testsGL b))
def golDL:List Gl→Nat→Int→List Is
 | [],_,_=>[]
 | g::r,at_,v=>golD g at_ v++golDL r (at_+(golD g at_ v).length) (v+testsG g)
end

theorem golD_eq (g:Gl) (at_:Nat) (v:Int):golD g at_ v=if g.k=1∨g.k=2 then asksG (8+g.k) g.t else if g.k=3 then [⟨11,0,0,e0⟩]
  else if g.k=5 then notCode at_ v (golDL g.a (at_+2) (v+1))
   else ifCode at_ v (golDL g.a (at_+2) (v+1)) (golDL g.b (at_+2+(golDL g.a (at_+2) (v+1)).length+1) (v+1+testsGL g.a)) (golDL g.c (at_+2+(golDL g.a (at_+2) (v+1)).length+1+(golDL g.b (at_+2+(golDL g.a (at_+2) (v+1)).length+1) (v+1+testsGL g.a)).length+1) (v+1+testsGL g.a+testsGL g.b)):=by
 cases g; rw [golD]; rfl

theorem testsGL_app (l m:List Gl):testsGL (l++m)=testsGL l+testsGL m:=by
 induction l with
 | nil=>simp [testsGL]
 | cons x r ih=>simp only [List.cons_append,testsGL,ih]; omega

theorem golDL_app (l m:List Gl) (at_:Nat) (v:Int):golDL (l++m) at_ v=golDL l at_ v++golDL m (at_+(golDL l at_ v).length) (v+testsGL l):=by
 induction l generalizing at_ v with
 | nil=>simp [golDL,testsGL]
 | cons x r ih=>simp only [List.cons_append,golDL,ih,testsGL,List.append_assoc,List.length_append]; congr 3 <;> omega

theorem golDL_take {l:List Gl} {i:Nat} {g:Gl} (h:l[i]? = some g) (at_:Nat) (v:Int):golDL (l.take (i+1)) at_ v=golDL (l.take i) at_ v++golD g (at_+(golDL (l.take i) at_ v).length) (v+testsGL (l.take i)):=by
 rw [List.take_add_one,h,golDL_app]; simp [golDL]

theorem testsGL_take {l:List Gl} {i:Nat} {g:Gl} (h:l[i]? = some g):testsGL (l.take (i+1))=testsGL (l.take i)+testsG g:=by
 rw [List.take_add_one,h,testsGL_app]; simp [testsGL]

mutual
def fiveG:Gl→Prop
 | .mk k _ a b c=>(k=1∨k=2∨k=3∨k=4∨k=5)∧(k<4→a=[]∧b=[]∧c=[])∧(k=5→b=[]∧c=[])∧fiveL a∧fiveL b∧fiveL c
def fiveL:List Gl→Prop
 | []=>True
 | g::r=>fiveG g∧fiveL r
end

theorem fiveG_eq (g:Gl):fiveG g↔(g.k=1∨g.k=2∨g.k=3∨g.k=4∨g.k=5)∧(g.k<4→g.a=[]∧g.b=[]∧g.c=[])∧(g.k=5→g.b=[]∧g.c=[])∧fiveL g.a∧fiveL g.b∧fiveL g.c:=by
 cases g; rw [fiveG]; rfl

theorem fiveL_mem {l:List Gl} (h:fiveL l) {g:Gl} (hg:g∈l):fiveG g:=by
 induction l with
 | nil=>cases hg
 | cons x r ih =>
  rw [fiveL] at h
  rcases List.mem_cons.1 hg with rfl | hg
  ·exact h.1
  ·exact ih h.2 hg

theorem noneG_nil {a b c:List Gl} (h:noneG a b c=true):a=[]∧b=[]∧c=[]:=by
 unfold noneG at h
 have h:=of_decide_eq_true h
 exact ⟨List.eq_nil_of_length_eq_zero (by omega),List.eq_nil_of_length_eq_zero (by omega),List.eq_nil_of_length_eq_zero (by omega)⟩

mutual
theorem chk_five (v:Int):∀ (g:Gl) (left deep:Int) (cuts:Bool),(chk1 v g left deep cuts).1=true→fiveG g
 | .mk k t a b c,left,deep,cuts,h=>by
  rw [chk1] at h
  rw [fiveG]
  by_cases h1:k=1
  ·rw [if_pos h1] at h
   simp only [Bool.and_eq_true] at h
   obtain ⟨rfl,rfl,rfl⟩:=noneG_nil h.1.1
   exact ⟨.inl h1,fun _=>⟨rfl,rfl,rfl⟩,fun _=>⟨rfl,rfl⟩,trivial,trivial,trivial⟩
  rw [if_neg h1] at h
  by_cases h2:k=2
  ·rw [if_pos h2] at h
   simp only [Bool.and_eq_true] at h
   obtain ⟨rfl,rfl,rfl⟩:=noneG_nil h.1.1.1
   exact ⟨.inr (.inl h2),fun _=>⟨rfl,rfl,rfl⟩,fun _=>⟨rfl,rfl⟩,trivial,trivial,trivial⟩
  rw [if_neg h2] at h
  by_cases h3:k=3
  ·rw [if_pos h3] at h
   simp only [Bool.and_eq_true] at h
   obtain ⟨rfl,rfl,rfl⟩:=noneG_nil h.1.1
   exact ⟨.inr (.inr (.inl h3)),fun _=>⟨rfl,rfl,rfl⟩,fun _=>⟨rfl,rfl⟩,trivial,trivial,trivial⟩
  rw [if_neg h3] at h
  by_cases h4:k=4
  ·rw [if_pos h4] at h
   split at h
   case isFalse=>cases h
   split at h
   case isFalse=>cases h
   split at h
   case isFalse=>cases h
   rename_i x1 x2 x3
   exact ⟨.inr (.inr (.inr (.inl h4))),fun h=>by omega,fun h=>by omega,chkL_five v _ _ _ _ x2,chkL_five v _ _ _ _ x3,chkL_five v _ _ _ _ h⟩
  rw [if_neg h4] at h
  by_cases h5:k=5
  ·rw [if_pos h5] at h
   split at h
   case isFalse=>cases h
   rename_i x1
   simp only [Bool.and_eq_true,decide_eq_true_eq] at x1
   have hb:b=[]:=List.eq_nil_of_length_eq_zero (by omega)
   have hc:c=[]:=List.eq_nil_of_length_eq_zero (by omega)
   subst hb hc
   exact ⟨.inr (.inr (.inr (.inr h5))),fun h=>by omega,fun _=>⟨rfl,rfl⟩,chkL_five v _ _ _ _ h,trivial,trivial⟩
  rw [if_neg h5] at h
  cases h
theorem chkL_five (v:Int):∀ (l:List Gl) (left deep:Int) (cuts:Bool),(chkL v l left deep cuts).1=true→fiveL l
 | [],_,_,_,_=>by rw [fiveL]; trivial
 | g::r,left,deep,cuts,h=>by
  rw [chkL] at h
  split at h
  ·cases h
  rename_i x
  rw [fiveL]
  simp only [Bool.or_eq_true,not_or,Bool.not_eq_true',Bool.not_eq_false] at x
  exact ⟨chk_five v g _ _ _ (by simpa using x.1.1),chkL_five v r _ _ _ h⟩
end

theorem cls_five {x:Cs} (h:clsB x=true):fiveL x.body:=by
 unfold clsB at h
 simp only [Bool.and_eq_true] at h
 exact chkL_five _ _ _ _ _ h.2

theorem cls_vars {x:Cs} (h:clsB x=true):0≤x.vars∧x.vars≤1000:=by
 unfold clsB at h
 simp only [Bool.and_eq_true,decide_eq_true_eq] at h
 exact ⟨h.1.1.1.1,h.1.1.1.2⟩

def freshG (met:List Int) (n:Nat):List Is:=((List.range n).filter fun v:Nat=>!met.contains (v:Int)).map fun v:Nat=>⟨5,(v:Int),0,e0⟩

theorem freshG_succ (met:List Int) (n:Nat):freshG met (n+1)=if met.contains (n:Int) then freshG met n else freshG met n++[⟨5,(n:Int),0,e0⟩]:=by
 unfold freshG
 have e:List.filter (fun v:Nat=>!met.contains (v:Int)) [n]=if met.contains (n:Int) then [] else [n]:=by
  rw [List.filter_cons,List.filter_nil]
  generalize met.contains (n:Int)=b
  cases b <;> rfl
 rw [List.range_succ,List.filter_append,List.map_append,e]
 generalize met.contains (n:Int)=b
 cases b
 ·rfl
 ·exact List.append_nil _

theorem freshG_len (met:List Int) (n:Nat):(freshG met n).length≤n:=by
 unfold freshG
 rw [List.length_map]
 exact Nat.le_trans (List.length_filter_le _ _) (by simp)

def clsH (c:Cs):List Is:=(headGL c.head.l []).1++freshG (headGL c.head.l []).2 c.vars.toNat
def clsC (c:Cs) (at_:Nat):List Is:=clsH c++golDL c.body (at_+(clsH c).length) c.vars++[⟨12,0,0,e0⟩]

structure Ky where
 kind:Int
 n:Int
 s:ByteArray
def key0:Ky:=⟨0,0,e0⟩
def keyT (t:Tm):Ky:=if t.k=2 then ⟨2,t.n,e0⟩ else if t.k=3 then ⟨3,t.l.length,t.s⟩ else key0

def keyG (l:List Tm):Ky:=match l with
 | []=>key0
 | t::_=>keyT t

structure En where
 s:ByteArray
 args:Int
 at_:Int
 slots:Int
 key:Ky
namespace En
def row (x:En):List D:=[.v (.string x.s),.v (.int .i64 x.args),.v (.int .i64 x.at_),.v (.int .i64 x.slots),.v (.int .i64 x.key.kind),.v (.int .i64 x.key.n),.v (.string x.key.s)]
def rows (l:List En):List (List D):=l.map row
theorem rows_len (l:List En):(rows l).length=l.length:=by simp [rows]
theorem rows_get {l:List En} {i:Nat} {x:En} (h:l[i]? = some x):(rows l)[i]? = some (row x):=by simp [rows,h]
theorem rows_snoc (a:List En) (x:En):rows a++[row x]=rows (a++[x]):=by simp [rows]
end En
def entG (c:Cs) (at_:Nat):En:=⟨c.head.s,c.head.l.length,at_,c.vars+testsGL c.body,keyG c.head.l⟩

def codeL:List Cs→List Is→List Is
 | [],out=>out
 | c::r,out=>codeL r (out++clsC c out.length)

def entL:List Cs→Nat→List En
 | [],_=>[]
 | c::r,at_=>entG c at_::entL r (at_+(clsC c at_).length)
def qryH (q:Cs):List Is:=freshG [] q.vars.toNat
def qryE (q:Cs) (at_:Nat):List Is:=qryH q++golDL q.body (at_+(qryH q).length) q.vars++putGL q.head.l++[⟨18,0,q.head.l.length,e0⟩]

structure Cd where
 ins:List Is
 ents:List En
 at_:Int
 slots:Int
def Cd.av (x:Cd):AV:=.agg [.d (.sl (Is.rows x.ins)),.d (.sl (En.rows x.ents)),.d (.v (.int .i64 x.at_)),.d (.v (.int .i64 x.slots))]
def compG (l:List Cs) (q:Cs):Cd:=⟨codeL l []++qryE q (codeL l []).length,entL l 0,(codeL l []).length,q.vars+testsGL q.body⟩
end PSL
namespace PSL
open Go
theorem putGL_t {l:List Tm} {i:Nat} {x:Tm} (h:l[i]? = some x) (c:List Is):c++putGL (l.take i)++putG x=c++putGL (l.take (i+1)):=by rw [putGL_take h,List.append_assoc]

mutual
theorem golD_len:∀ (g:Gl) (at_:Nat) (v:Int),(golD g at_ v).length≤4 * g.size
 | .mk k t a b c,at_,v=>by
  have h0:=Gl.tmPos t
  have ha:=golDL_len a
  have hb:=golDL_len b
  have hc:=golDL_len c
  have hp:=putGL_len t.l
  have ht:=Tm.size_eq t
  rw [golD,Gl.size]
  dsimp only
  have h1:=ha (at_+2) (v+1)
  generalize golDL a (at_+2) (v+1)=A at *
  have h2:=hb (at_+2+A.length+1) (v+1+testsGL a)
  generalize golDL b (at_+2+A.length+1) (v+1+testsGL a)=B at *
  have h3:=hc (at_+2+A.length+1+B.length+1) (v+1+testsGL a+testsGL b)
  generalize golDL c (at_+2+A.length+1+B.length+1) (v+1+testsGL a+testsGL b)=C at *
  by_cases k1:k=1∨k=2
  ·rw [if_pos k1]; unfold asksG; rw [List.length_append,List.length_singleton]; omega
  rw [if_neg k1]
  by_cases k3:k=3
  ·rw [if_pos k3,List.length_singleton]; omega
  rw [if_neg k3]
  by_cases k5:k=5
  ·rw [if_pos k5]; unfold notCode; simp only [List.length_append,List.length_cons,List.length_nil]; omega
  ·rw [if_neg k5]; unfold ifCode; simp only [List.length_append,List.length_cons,List.length_nil]; omega
theorem golDL_len:∀ (l:List Gl) (at_:Nat) (v:Int),(golDL l at_ v).length≤4 * Gl.sizeL l
 | [],_,_=>by rw [golDL]; exact Nat.zero_le _
 | g::r,at_,v=>by
  have h1:=golD_len g at_ v
  have h2:=golDL_len r (at_+(golD g at_ v).length) (v+testsG g)
  rw [golDL,Gl.sizeL,List.length_append]; omega
end

mutual
theorem testsG_b:∀ g:Gl,0≤testsG g∧testsG g≤g.size
 | .mk k t a b c=>by
  have h0:=Gl.tmPos t
  have ha:=testsGL_b a
  have hb:=testsGL_b b
  have hc:=testsGL_b c
  rw [testsG,Gl.size]
  split <;> omega
theorem testsGL_b:∀ l:List Gl,0≤testsGL l∧testsGL l≤Gl.sizeL l
 | []=>by rw [testsGL,Gl.sizeL]; omega
 | g::r=>by
  have h1:=testsG_b g
  have h2:=testsGL_b r
  rw [testsGL,Gl.sizeL]; omega
end

theorem gl_sizeL_at {l:List Gl} {i:Nat} {x:Gl} (h:l[i]? = some x):Gl.sizeL (l.take i)+x.size≤Gl.sizeL l:=by
 induction l generalizing i with
 | nil=>simp at h
 | cons y r ih =>
  cases i with
  | zero=>simp at h; subst h; simp only [List.take_zero,Gl.sizeL]; omega
  | succ i =>
   have:=ih (i:=i) (by simpa using h)
   simp only [List.take_succ_cons,Gl.sizeL]; omega
theorem set_at (p q:List Is) (x y:Is) {i:Nat} (h:i=p.length):(p++x::q).set i y=p++y::q:=by subst h; simp
theorem is_rows_set (c:List Is) (i:Nat) (x:Is):(Is.rows c).set i (Is.row x)=Is.rows (c.set i x):=by unfold Is.rows; rw [List.map_set]

theorem if_steps (c A B C:List Is) (v N M:Int) (at_:Nat) (h:at_=c.length) (hN:N=((at_+2+A.length+1+B.length+1:Nat):Int)) (hM:M=((at_+2+A.length+1+B.length+1+C.length:Nat):Int)) :
  (((c++[(⟨13,v,0,e0⟩:Is),⟨14,0,0,e0⟩]++A++[(⟨15,v,0,e0⟩:Is)]++B++[(⟨16,0,0,e0⟩:Is)]).set (at_+1) ⟨14,0,N,e0⟩++C).set (at_+2+A.length+1+B.length) ⟨16,0,M,e0⟩)=c++ifCode at_ v A B C:=by
 subst hN hM h
 have e1:c++[(⟨13,v,0,e0⟩:Is),⟨14,0,0,e0⟩]++A++[(⟨15,v,0,e0⟩:Is)]++B++[(⟨16,0,0,e0⟩:Is)]=(c++[(⟨13,v,0,e0⟩:Is)])++⟨14,0,0,e0⟩::(A++[(⟨15,v,0,e0⟩:Is)]++B++[(⟨16,0,0,e0⟩:Is)]):=by simp
 rw [e1,set_at _ _ _ _ (by simp)]
 have e2:∀ y:Is,(c++[(⟨13,v,0,e0⟩:Is)])++y::(A++[(⟨15,v,0,e0⟩:Is)]++B++[(⟨16,0,0,e0⟩:Is)])++C=(c++[(⟨13,v,0,e0⟩:Is)]++[y]++A++[(⟨15,v,0,e0⟩:Is)]++B)++⟨16,0,0,e0⟩::C:=fun y=>by simp
 rw [e2,set_at _ _ _ _ (by simp; omega)]
 simp [ifCode]

theorem not_steps (c A:List Is) (v N:Int) (at_:Nat) (h:at_=c.length) (hN:N=((at_+2+A.length+2:Nat):Int)) :
  (c++[(⟨13,v,0,e0⟩:Is),⟨14,0,0,e0⟩]++A++[(⟨15,v,0,e0⟩:Is)]++[(⟨17,0,0,e0⟩:Is)]).set (at_+1) ⟨14,0,N,e0⟩=c++notCode at_ v A:=by
 subst hN h
 have e1:c++[(⟨13,v,0,e0⟩:Is),⟨14,0,0,e0⟩]++A++[(⟨15,v,0,e0⟩:Is)]++[(⟨17,0,0,e0⟩:Is)]=(c++[(⟨13,v,0,e0⟩:Is)])++⟨14,0,0,e0⟩::(A++[(⟨15,v,0,e0⟩:Is)]++[(⟨17,0,0,e0⟩:Is)]):=by simp
 rw [e1,set_at _ _ _ _ (by simp)]
 simp [notCode]
end PSL

namespace PSL
open Go Go.RowKit Go.MapKept

def setIA:List (Int × AV)→Int→AV→List (Int × AV)
 | [],n,v=>[(n,v)]
 | p::r,n,v=>if p.1=n then (n,v)::r else p::setIA r n v

theorem findA_setI {k':IntKind} {n:Int} {v:AV}:∀ {l:List (Int × AV)} {i:Nat},(findA (.int k') (.int .i64 n) (imap l) i=some none∧setIA l n v=l++[(n,v)])∨(∃ j x,findA (.int k') (.int .i64 n) (imap l) i=some (some (i+j,x))∧l[j]? = some (n,x)∧setIA l n v=l.set j (n,v))
 | [],i=>.inl ⟨rfl,rfl⟩
 | p::l,i=>by
  by_cases h:p.1=n
  ·have h1:(n==p.1)=true:=by simp [h]
   refine .inr ⟨0,p.2,?_,by subst h; rfl,by simp [setIA,h]⟩
   simp only [imap,List.map_cons,findA,Instr.sameNow,if_true,h1,Nat.add_zero]
  ·have h1:(n==p.1)=false:=by simp; exact fun e=>h e.symm
   rcases findA_setI (k':=k') (n:=n) (v:=v) (l:=l) (i:=i+1) with ⟨h2,h3⟩ | ⟨j,x,h2,h3,h4⟩
   ·refine .inl ⟨?_,by simp [setIA,h,h3]⟩
    simp only [imap,List.map_cons,findA,Instr.sameNow,if_true,h1]
    exact h2
   ·refine .inr ⟨j+1,x,?_,by simpa using h3,by simp [setIA,h,h4]⟩
    simp only [imap,List.map_cons,findA,Instr.sameNow,if_true,h1]
    rw [show i+(j+1)=i+1+j by omega]
    exact h2

theorem stay_int {P:Program} {w:World} (n:Int):(Instr.keyThatStays (.int .i64 n) (.int .i64 n)).run P w=.ok (.int .i64 n) w:=by
 have:Instr.sameBits 10000 (.int .i64 n) (.int .i64 n)=true:=by simp [Instr.sameBits]
 simp [Instr.keyThatStays,this]
section
variable {g:G} {pf:Nat→Cls} {ops:Array Oper} {Fin:Exit→Act→World→Prop}

theorem R_setI (hg:GOk g) {dst:Option Nat} {T:Nat} {x y v:Operand} {ty:Nat} {pos:String} {after:Array Edge} {gd:Option (Nat × Bool)} {rest:List Oper} {k:List It} {E:Env} {objs:List Ob}
  {i q by_ q' by' kt et:Nat} {z z':List Value} {n:Int} {v':AV} (l l':List (Int × AV))
  (hgd:guardA ops.toList E gd=some true) (hd:dstOk ⟨g.ty,g.N⟩ dst=true) (hx:ev E x=.mp i) (ho:nth objs i=some (.map (imap l))) (hy:ev E y=.d (.v (.int .i64 n))) (hT:g.ty T=some ⟨q,by_,z,.map kt et⟩)
  (hkt:g.ty kt=some ⟨q',by',z',.int .i64⟩) (hv:Ent (ev E v) v') (hl:setIA l n v'=l')
  (hr:R g pf Fin (.dr ops rest::k) (putO E dst .any) (setN objs i (.map (imap l')))):R g pf Fin (.dr ops (⟨dst,.mapUpdate T x y v,ty,pos,after,gd⟩::rest)::k) E objs:=by
 subst hl
 have hu:=(hg.ty _ _ hkt).sh
 simp only [ShFact] at hu
 refine R_op (LocOp.turning hg (grow_map ho) hgd hd (by simp) fun φ a' w hρ hs=>?_) hr
 simp only [Op.operands] at hρ
 have hxv:=hρ x (by simp)
 rw [hx] at hxv
 have hyv:=hρ y (by simp)
 rw [hy] at hyv
 have hvv:=hv _ _ _ _ (hρ v (by simp))
 simp only [RV] at hxv hyv
 obtain ⟨b',hb,hxv⟩:=hxv
 generalize hvy:a'.eval y=vy at hyv
 cases hyv
 have hko:=obj_at hs hb ho
 simp only [ObOk] at hko
 obtain ⟨ents,clk,hheap,hents⟩:=hko
 have hT':g.P.underlying T=some (.map kt et):=by have:=(hg.ty _ _ hT).sh; simpa only [ShFact] using this
 rw [setN_eq]
 rcases findA_setI (k':=.i64) (n:=n) (v:=v') (l:=l) (i:=0) with ⟨h1,h2⟩ | ⟨j,x0,h1,h2,h3⟩
 ·have hfind:=findA_ok hents h1
  simp only at hfind
  rw [h2]
  have hset:=heap_set (o':=.map (ents.push { key:=.int .i64 n,val:=a'.eval v,born:=clk }) (clk+1)) hheap
  refine ⟨.skip,undef,{ w with heap:=w.heap.setIfInBounds b' (.map (ents.push { key:=.int .i64 n,val:=a'.eval v,born:=clk }) (clk+1)) },φ.set i (.blk b'),?_,.inr ⟨rfl,rfl⟩,by simp [RV],?_⟩
  ·simp [execOp,Instr.mapUpdate,run_underlying hT',hxv,run_getObj_map hheap,hvy,run_checkKey hu (show IsKey (.int .i64) (.int .i64 n) by simp [IsKey]),run_findKey hu hfind,run_setObj_map _ hheap]
  ·refine Stp.swap hs hb (.inl rfl) (by simp) (fun c _ hc=>hset.2 c fun e=>hc (by rw [e]; rfl)) (fun b' hb=>.inl hb) rfl rfl rfl fun hkeep hle=>?_
   simp only [ObOk]
   refine ⟨_,_,hset.1,?_,?_⟩
   ·have:=hents.1
    simp only [imap,List.map_append,List.map_map,List.map_cons,List.map_nil,Array.toList_push] at this ⊢
    rw [this]
   ·have:=(hents.2.mono hkeep hle).append (l':=[v']) (vs':=[a'.eval v]) (by simp only [RVs,and_true]; exact hvv.mono hkeep hle)
    simpa [imap] using this
 ·have hfind:=findA_ok hents h1
  simp only at hfind
  obtain ⟨vv,f1,f2,_,_,f,f3,f4⟩:=hfind
  rw [Nat.zero_add] at f1
  rw [Nat.zero_add,Nat.sub_zero] at f3
  rw [h3]
  have hkey:f.key=.int .i64 n:=by
   have hk:=hents.1
   have e1:((imap l).map (·.1))[j]? = some (.int .i64 n):=by simp [imap,h2]
   rw [hk] at e1
   have e2:(ents.toList.map (·.key))[j]? = some f.key:=by rw [List.getElem?_map,f3]; rfl
   exact Option.some.inj (e2.symm.trans e1)
  obtain ⟨f',hf'⟩:∃ f':MapEntry→MapEntry,f'=fun e=>{ e with key:=.int .i64 n,val:=a'.eval v }:=⟨_,rfl⟩
  have hset:=heap_set (o':=.map (ents.modify j f') clk) hheap
  have f3':ents[j]? = some f:=by simpa using f3
  refine ⟨.skip,undef,{ w with heap:=w.heap.setIfInBounds b' (.map (ents.modify j f') clk) },φ.set i (.blk b'),?_,.inr ⟨rfl,rfl⟩,by simp [RV],?_⟩
  ·simp [execOp,Instr.mapUpdate,run_underlying hT',hxv,run_getObj_map hheap,hvy,run_checkKey hu (show IsKey (.int .i64) (.int .i64 n) by simp [IsKey]),run_findKey hu f1,f3',hkey,stay_int,run_setObj_map _ hheap,hf']
  ·refine Stp.swap hs hb (.inl rfl) (by simp) (fun c _ hc=>hset.2 c fun e=>hc (by rw [e]; rfl)) (fun b' hb=>.inl hb) rfl rfl rfl fun hkeep hle=>?_
   simp only [ObOk]
   have hml:(ents.modify j f').toList=ents.toList.set j (f' f):=by
    rw [Array.toList_modify,list_modify_set f' _ _ f f3]
   refine ⟨_,_,hset.1,?_,?_⟩
   ·have:=hents.1
    rw [hml]
    simp only [imap,List.map_map,List.map_set] at this ⊢
    rw [this,hf']
   ·have:=rvs_set j (hents.2.mono hkeep hle) (hvv.mono hkeep hle)
    rw [hml]
    simp only [imap,List.map_map,List.map_set] at this ⊢
    rw [show (f' f).val=a'.eval v by rw [hf']]
    exact this
end

def setB (l:List Int):List (Int × AV):=l.map fun n=>(n,bV true)

theorem setB_add (l:List Int) (n:Int):setIA (setB l) n (bV true)=setB (addV l n):=by
 induction l with
 | nil=>rfl
 | cons x r ih =>
  unfold setB addV at *
  simp only [List.map_cons,setIA]
  by_cases h:x=n
  ·subst h; simp
  ·rw [if_neg h,ih]
   have:¬ n=x:=fun e=>h e.symm
   by_cases hc:r.contains n=true
   ·simp only [hc,if_true,List.contains_cons,Bool.or_true,List.map_cons]
   ·have hx:(n==x)=false:=by simp [this]
    simp only [hc,List.contains_cons,hx,Bool.false_or,Bool.false_eq_true,if_false,List.map_append,List.map_cons,List.map_nil,List.cons_append]

theorem getI_setB {n:Int}:∀ {l:List Int},getI (setB l) n=if l.contains n then some (bV true) else none
 | []=>rfl
 | x::l=>by
  have:=getI_setB (n:=n) (l:=l)
  simp only [setB,List.map_cons,getI] at this ⊢
  by_cases h:x=n
  ·simp [h]
  ·rw [if_neg h,this]
   have:¬ n=x:=fun e=>h e.symm
   simp [this]

theorem look_setB (l:List Int) (n:Int):lookI' false (cstV (.bool false)) (getI (setB l) n)=if l.contains n then bV true else .ff:=by
 rw [getI_setB]; split <;> rfl

theorem mapOb_setB {f:AV→AV} (h:f (bV true)=bV true) (l:List Int):mapOb f (.map (imap (setB l)))=.map (imap (setB l)):=by
 simp [mapOb,imap,setB,Function.comp_def,h]

theorem renOb_setB {f:Nat→Nat} (l:List Int):renOb f (.map (imap (setB l)))=.map (imap (setB l)):=by
 simp [renOb,imap,setB,Function.comp_def,renA,bV]
end PSL

namespace PSL
open Go

theorem valN_acc:∀ (D:Bs) (n:Nat),valN n D=n * 10 ^ D.length+valN 0 D
 | [],n=>by simp [valN]
 | c::D,n=>by
  show valN (10 * n+(c.toNat - 48)) D=n * 10 ^ (D.length+1)+valN (10 * 0+(c.toNat - 48)) D
  rw [valN_acc D,valN_acc D (10 * 0+(c.toNat - 48)),Nat.pow_succ]
  have:(10 * n+(c.toNat - 48)) * 10 ^ D.length=n * (10 ^ D.length * 10)+(c.toNat - 48) * 10 ^ D.length:=by
   rw [Nat.add_mul]; congr 1
   rw [Nat.mul_comm 10 n,Nat.mul_assoc,Nat.mul_comm 10]
  rw [this,show 10 * 0+(c.toNat - 48)=c.toNat - 48 by omega]; omega
theorem valN_snoc (D:Bs) (c:UInt8) (n:Nat):valN n (D++[c])=10 * valN n D+(c.toNat - 48):=by simp [valN,List.foldl_append]

theorem valN_mono (D E:Bs):valN 0 D≤valN 0 (D++E):=by
 have e:valN 0 (D++E)=valN (valN 0 D) E:=by simp [valN,List.foldl_append]
 rw [e,valN_acc E (valN 0 D)]
 have:1≤10 ^ E.length:=Nat.one_le_pow _ _ (by omega)
 have:valN 0 D * 1≤valN 0 D * 10 ^ E.length:=Nat.mul_le_mul_left _ this
 omega
end PSL
namespace PSL
open Go
def nlC (c:UInt8):Bool:=!decide (c.toNat=10)

theorem skip_line:∀ (r:Bs),skipL true r=(r.takeWhile nlC).length+skipL false (r.dropWhile nlC)
 | []=>by simp [skipL]
 | c::r=>by
  by_cases h:c.toNat=10
  ·have hn:nlC c=false:=by simp [nlC,h]
   have hb:blkC c=true:=by simp [blkC,h]
   rw [List.takeWhile_cons_of_neg (by rw [hn]; simp),List.dropWhile_cons_of_neg (by rw [hn]; simp)]
   simp [skipL,h,hb]
  ·have hn:nlC c=true:=by simp [nlC,h]
   rw [List.takeWhile_cons_of_pos hn,List.dropWhile_cons_of_pos hn]
   simp only [skipL,List.length_cons]
   rw [decide_eq_false h,Bool.not_false,skip_line r]; omega

theorem drop_run (p:UInt8→Bool) (l:Bs):l.drop (l.takeWhile p).length=l.dropWhile p:=by
 induction l with
 | nil=>rfl
 | cons c l ih =>
  by_cases h:p c=true
  ·rw [List.takeWhile_cons_of_pos h,List.dropWhile_cons_of_pos h]; simpa using ih
  ·rw [List.takeWhile_cons_of_neg h,List.dropWhile_cons_of_neg h]; rfl
theorem pass_end {L:Bs} {i:Nat} (h:L.length≤i):passN L i=i:=by unfold passN; rw [List.drop_eq_nil_of_le h]; simp [skipL]

theorem pass_blank {L:Bs} {i:Nat} {c:UInt8} (h:L[i]? = some c) (hb:blkC c=true):passN L i=passN L (i+1):=by
 have hi:=(List.getElem?_eq_some_iff.1 h).1
 have he:=(List.getElem?_eq_some_iff.1 h).2
 have hne:¬ c.toNat=37:=by simp [blkC] at hb; omega
 unfold passN
 rw [List.drop_eq_getElem_cons hi,he]
 simp only [skipL]
 rw [if_neg hne,if_pos hb]; omega

theorem pass_line {L:Bs} {i:Nat} {c:UInt8} (h:L[i]? = some c) (hc:c.toNat=37):passN L i=passN L (runB nlC L i)∧i<runB nlC L i:=by
 have hi:=(List.getElem?_eq_some_iff.1 h).1
 have he:=(List.getElem?_eq_some_iff.1 h).2
 have hn:nlC c=true:=by simp [nlC,hc]
 have hr:=runB_step h hn
 have hl:=(runB_le (p:=nlC) (L:=L) (i:=i+1) (by omega)).1
 refine ⟨?_,by omega⟩
 have hd:L.drop (runB nlC L (i+1))=(L.drop (i+1)).dropWhile nlC:=by rw [← drop_run nlC (L.drop (i+1)),List.drop_drop]; rfl
 unfold passN
 rw [hr,hd,List.drop_eq_getElem_cons hi,he]
 simp only [skipL]
 rw [if_pos hc,skip_line]
 unfold runB
 omega

theorem pass_stop {L:Bs} {i:Nat} {c:UInt8} (h:L[i]? = some c) (hb:blkC c=false) (hc:¬ c.toNat=37):passN L i=i:=by
 have hi:=(List.getElem?_eq_some_iff.1 h).1
 have he:=(List.getElem?_eq_some_iff.1 h).2
 unfold passN
 rw [List.drop_eq_getElem_cons hi,he]
 simp only [skipL]
 rw [if_neg hc,if_neg (by rw [hb]; simp)]; rfl

theorem pass_le {L:Bs} {i:Nat} (h:i≤L.length):i≤passN L i∧passN L i≤L.length:=by
 have:=skipL_le false (L.drop i)
 rw [List.length_drop] at this
 unfold passN; omega
end PSL
namespace PSL
open Go

theorem oneT_at {L:Bs} {i:Nat} {t:Tk} {j:Nat} (h:oneT L i=some (t,j)):t.at_=i:=by
 have nm:∀ {kind:Int} {text:Bs} {to:Nat},nameT L kind text i to=some (t,j)→t.at_=i:=fun h=>by
  obtain ⟨_,rfl,_⟩:=nameT_to h; rfl
 unfold oneT at h
 split at h
 ·cases h
 split at h
 ·exact nm h
 split at h
 ·exact nm h
 split at h
 ·cases hn:numT (cutB L i (runB dgC L i)) with
  | none=>rw [hn] at h; cases h
  | some n=>rw [hn] at h; cases h; rfl
 split at h
 ·split at h
  ·exact nm h
  ·cases h
 split at h
 ·exact nm h
 split at h
 ·exact nm h
 split at h
 ·cases h; rfl
 split at h
 ·cases h; rfl
 ·exact nm h

theorem toks_len:∀ (f:Nat) (L:Bs) (i:Nat) (l:List Tk),toks f L i=.ok l→l.length≤L.length - i
 | 0,L,i,l,h=>by simp only [toks,Except.ok.injEq] at h; subst h; simp
 | f+1,L,i,l,h=>by
  simp only [toks] at h
  have hle:i≤passN L i:=by unfold passN; omega
  split at h
  ·rename_i hlt
   cases hone:oneT L (passN L i) with
   | none=>rw [hone] at h; cases h
   | some x =>
    obtain ⟨u,to⟩:=x
    rw [hone] at h
    have hto:=oneT_to hone
    simp only at h
    cases hr:toks f L to with
    | error j=>rw [hr] at h; cases h
    | ok r =>
     rw [hr] at h
     simp only [Except.ok.injEq] at h
     subst h
     have:=toks_len f L to r hr
     simp only [List.length_cons]; omega
  ·simp only [Except.ok.injEq] at h; subst h; simp
end PSL

namespace PSL
open Go

theorem tw_app {p:UInt8→Bool} {c:UInt8} (hc:p c=false) (r:Bs):∀ l:Bs,(l++c::r).takeWhile p=l.takeWhile p
 | []=>by rw [List.nil_append,List.takeWhile_cons_of_neg (by rw [hc]; simp)]; rfl
 | x::l=>by
  rw [List.cons_append]
  by_cases h:p x=true
  ·rw [List.takeWhile_cons_of_pos h,List.takeWhile_cons_of_pos h,tw_app hc r l]
  ·rw [List.takeWhile_cons_of_neg h,List.takeWhile_cons_of_neg h]
end PSL
namespace PSL
open Go

theorem toks_bad:∀ (f:Nat) (L:Bs) (i j:Nat),toks f L i=.error j→j<L.length
 | 0,L,i,j,h=>by simp [toks] at h
 | f+1,L,i,j,h=>by
  simp only [toks] at h
  by_cases hp:passN L i<L.length
  ·rw [if_pos hp] at h
   cases hone:oneT L (passN L i) with
   | none=>rw [hone] at h; simp only [Except.error.injEq] at h; omega
   | some x =>
    obtain ⟨t,to⟩:=x
    rw [hone] at h
    simp only at h
    cases hr:toks f L to with
    | error k=>rw [hr] at h; simp only [Except.error.injEq] at h; rw [← h]; exact toks_bad f L to k hr
    | ok r=>rw [hr] at h; cases h
  ·rw [if_neg hp] at h; cases h
end PSL

namespace PSL
open Go

theorem tw_self {p:UInt8→Bool}:∀ {l:Bs},l.all p=true→l.takeWhile p=l
 | [],_=>rfl
 | x::l,h=>by
  simp only [List.all_cons,Bool.and_eq_true] at h
  rw [List.takeWhile_cons_of_pos h.1,tw_self h.2]

theorem tw_all (p:UInt8→Bool):∀ l:Bs,(l.takeWhile p).all p=true
 | []=>rfl
 | x::l=>by
  by_cases h:p x=true
  ·rw [List.takeWhile_cons_of_pos h,List.all_cons,h,tw_all p l]; rfl
  ·rw [List.takeWhile_cons_of_neg h]; rfl

theorem tw_take (p:UInt8→Bool):∀ l:Bs,l.take (l.takeWhile p).length=l.takeWhile p
 | []=>by simp
 | x::l=>by
  by_cases h:p x=true
  ·rw [List.takeWhile_cons_of_pos h,List.length_cons,List.take_succ_cons,tw_take p l]
  ·rw [List.takeWhile_cons_of_neg h]; rfl

theorem cut_run (p:UInt8→Bool) (L:Bs) (i:Nat):cutB L i (runB p L i)=(L.drop i).takeWhile p:=by
 unfold cutB runB; rw [Nat.add_sub_cancel_left,tw_take]

theorem run_alone {p:UInt8→Bool} (h32:p 32=false) {x:Bs} (hx:x.all p=true):runB p (x++[32]) 0=x.length:=by
 unfold runB; rw [List.drop_zero,tw_app h32,tw_self hx]; omega
theorem cut_alone (x r:Bs):cutB (x++r) 0 x.length=x:=by unfold cutB; simp

theorem name_alone {kind:Int} {x:Bs} (h1:1≤x.length) (h2:x.length≤20):nameT (x++[32]) kind x 0 x.length=some (⟨kind,x,0,0,false⟩,x.length):=by
 unfold nameT
 rw [if_pos ⟨h1,h2⟩]
 have:opnB (x++[32]) x.length=false:=by unfold opnB; simp
 rw [this]; rfl
def goodC (c:UInt8):Bool:=lowC c || grtC c || dgC c || mrkC c || sgnC c || decide (c.toNat=33) || decide (c.toNat=59) || decide (c.toNat=39)

theorem good_nb {c:UInt8} (h:goodC c=true):blkC c=false∧c.toNat≠37:=by
 have:=byte_all (p:=fun c=>!goodC c || (!blkC c && !decide (c.toNat=37))) (by decide +kernel) c
 simp only [h,Bool.not_true,Bool.false_or,Bool.and_eq_true,Bool.not_eq_true',decide_eq_false_iff_not] at this
 exact this

theorem tok_alone {x:Bs} {c:UInt8} {r:Bs} {u:Tk} (hx:x=c::r) (hg:goodC c=true) (hl:x.length≤3000) (h:oneT (x++[32]) 0=some (u,x.length)):tokT (x++[32])=([u],0,0):=by
 obtain ⟨hb,h37⟩:=good_nb hg
 have hl2:(x++[32]).length=x.length+1:=by simp
 have h0:(x++[32])[0]? = some c:=by rw [hx]; rfl
 have p0:passN (x++[32]) 0=0:=pass_stop h0 hb h37
 have p1:passN (x++[32]) x.length=x.length+1:=by
  unfold passN; simp [skipL,blkC]
 have ht:toks ((x++[32]).length+1) (x++[32]) 0=.ok [u]:=by
  rw [hl2]
  simp only [toks]
  rw [p0,hl2,if_pos (by omega),h]
  simp only
  rw [p1,if_neg (by omega)]
 unfold tokT
 rw [if_neg (by omega),ht]

theorem one_alone {L:Bs} {i:Nat} {t:Tk} {to:Nat} {c:UInt8} (h:oneT L i=some (t,to)) (hc:L[i]? = some c) (h39:c.toNat≠39) :
  t.text=cutB L i to∧i+t.text.length=to∧goodC c=true∧(t.kind=5∨t.text=[46]∨oneT (t.text++[32]) 0=some (⟨t.kind,t.text,t.n,0,false⟩,t.text.length)):=by
 have hto:=oneT_to h
 have hi:=(List.getElem?_eq_some_iff.1 hc).1
 have he:=(List.getElem?_eq_some_iff.1 hc).2
 have hd:L.drop i=c::L.drop (i+1):=by rw [List.drop_eq_getElem_cons hi,he]
 have rl:=fun (p:UInt8→Bool)=>(runB_le (p:=p) (L:=L) (i:=i) (by omega))
 have head:∀ p:UInt8→Bool,p c=true→cutB L i (runB p L i)=c::(L.drop (i+1)).takeWhile p:=fun p hp=>by
  rw [cut_run,hd,List.takeWhile_cons_of_pos hp]
 have first:∀ {x r:Bs},x=c::r→(x++[32])[0]? = some c:=fun h=>by rw [h]; rfl
 have clen:∀ p:UInt8→Bool,i+(cutB L i (runB p L i)).length=runB p L i:=fun p=>by
  rw [cutB_len (rl p).1 (rl p).2]; have:=(rl p).1; omega
 unfold oneT at h
 rw [hc] at h
 simp only at h
 by_cases g1:lowC c=true
 ·rw [if_pos g1] at h
  obtain ⟨rfl,rfl,l1,l2⟩:=nameT_to h
  have hf:folC c=true:=by simp [folC,g1]
  refine ⟨rfl,clen folC,by simp [goodC,g1],.inr (.inr ?_)⟩
  simp only
  have hh:=head folC hf
  have hall:(cutB L i (runB folC L i)).all folC=true:=by rw [cut_run]; exact tw_all _ _
  generalize cutB L i (runB folC L i)=x at *
  unfold oneT
  rw [first hh]
  simp only
  rw [if_pos g1,run_alone (by decide) hall,cut_alone,name_alone l1 l2]
 rw [if_neg g1] at h
 by_cases g2:grtC c=true
 ·rw [if_pos g2] at h
  obtain ⟨rfl,rfl,l1,l2⟩:=nameT_to h
  have hf:folC c=true:=by simp [folC,g2]
  refine ⟨rfl,clen folC,by simp [goodC,g2],.inr (.inr ?_)⟩
  simp only
  have hh:=head folC hf
  have hall:(cutB L i (runB folC L i)).all folC=true:=by rw [cut_run]; exact tw_all _ _
  generalize cutB L i (runB folC L i)=x at *
  unfold oneT
  rw [first hh]
  simp only
  rw [if_neg g1,if_pos g2,run_alone (by decide) hall,cut_alone,name_alone l1 l2]
 rw [if_neg g2] at h
 by_cases g3:dgC c=true
 ·rw [if_pos g3] at h
  cases hn:numT (cutB L i (runB dgC L i)) with
  | none=>rw [hn] at h; cases h
  | some n =>
   rw [hn] at h
   cases h
   refine ⟨rfl,clen dgC,by simp [goodC,g3],.inr (.inr ?_)⟩
   simp only
   have hh:=head dgC g3
   have hall:(cutB L i (runB dgC L i)).all dgC=true:=by rw [cut_run]; exact tw_all _ _
   generalize cutB L i (runB dgC L i)=x at *
   unfold oneT
   rw [first hh]
   simp only
   rw [if_neg g1,if_neg g2,if_pos g3,run_alone (by decide) hall,cut_alone,hn]
   rfl
 rw [if_neg g3,if_neg h39] at h
 by_cases g5:c.toNat=91∧(L[i+1]?.map UInt8.toNat)=some 93
 ·rw [if_pos g5] at h
  obtain ⟨rfl,rfl,l1,l2⟩:=nameT_to h
  have e91:c=91:=UInt8.toNat_inj.1 g5.1
  obtain ⟨d,hdd,hd93⟩:∃ d,L[i+1]? = some d∧d.toNat=93:=by
   have:=g5.2
   cases hx:L[i+1]? with
   | none=>rw [hx] at this; simp at this
   | some d=>rw [hx] at this; exact ⟨d,rfl,by simpa using this⟩
  have e93:d=93:=UInt8.toNat_inj.1 hd93
  have hi1:=(List.getElem?_eq_some_iff.1 hdd).1
  have he1:=(List.getElem?_eq_some_iff.1 hdd).2
  have hd1:L.drop (i+1)=d::L.drop (i+1+1):=by rw [List.drop_eq_getElem_cons hi1,he1]
  refine ⟨?_,rfl,by rw [e91]; decide,.inr (.inr (by simp only; decide +kernel))⟩
  simp only
  unfold cutB
  rw [hd,hd1,e91,e93,Nat.add_sub_cancel_left]; rfl
 rw [if_neg g5] at h
 have hc1:cutB L i (i+1)=[c]:=by unfold cutB; rw [hd,Nat.add_sub_cancel_left]; rfl
 by_cases g6:c.toNat=33∨c.toNat=59
 ·rw [if_pos g6] at h
  obtain ⟨rfl,rfl,l1,l2⟩:=nameT_to h
  refine ⟨hc1.symm,rfl,by simp [goodC]; omega,.inr (.inr ?_)⟩
  rcases g6 with g | g
  ·have e:c=33:=UInt8.toNat_inj.1 g
   subst e; simp only; decide +kernel
  ·have e:c=59:=UInt8.toNat_inj.1 g
   subst e; simp only; decide +kernel
 rw [if_neg g6] at h
 by_cases g7:mrkC c=true
 ·rw [if_pos g7] at h
  cases h
  refine ⟨hc1.symm,rfl,by simp [goodC,g7],.inr (.inr ?_)⟩
  have:=byte_all (p:=fun c=>!mrkC c || decide (oneT ([c]++[32]) 0=some (⟨4,[c],0,0,false⟩,1))) (by decide +kernel) c
  rw [g7] at this
  simpa using this
 rw [if_neg g7] at h
 by_cases g8:runB sgnC L i=i+1∧c.toNat=46∧endAft L (i+1)=true
 ·rw [if_pos g8] at h
  cases h
  have e46:c=46:=UInt8.toNat_inj.1 g8.2.1
  exact ⟨by rw [hc1,e46],rfl,by rw [e46]; decide,.inl rfl⟩
 rw [if_neg g8] at h
 obtain ⟨rfl,rfl,l1,l2⟩:=nameT_to h
 have hs:sgnC c=true:=by
  cases hs:sgnC c with
  | true=>rfl
  | false =>
   rw [cut_run,hd,List.takeWhile_cons_of_neg (by rw [hs]; simp)] at l1
   simp at l1
 have n91:c.toNat≠91:=by
  have:=byte_all (p:=fun c=>!sgnC c || !decide (c.toNat=91)) (by decide +kernel) c
  rw [hs] at this; simpa using this
 refine ⟨rfl,clen sgnC,by simp [goodC,hs],?_⟩
 simp only
 have hh:=head sgnC hs
 have hall:(cutB L i (runB sgnC L i)).all sgnC=true:=by rw [cut_run]; exact tw_all _ _
 generalize cutB L i (runB sgnC L i)=x at *
 by_cases hdot:x=[46]
 ·exact .inr (.inl hdot)
 refine .inr (.inr ?_)
 unfold oneT
 rw [first hh]
 simp only
 rw [if_neg g1,if_neg g2,if_neg g3,if_neg h39,if_neg (fun g=>n91 g.1),if_neg g6,if_neg g7,run_alone (by decide) hall,if_neg,cut_alone,name_alone l1 l2]
 rintro ⟨k1,k2,_⟩
 have e46:c=46:=UInt8.toNat_inj.1 k2
 apply hdot
 rw [hh,e46] at k1 ⊢
 simp only [List.length_cons] at k1
 rw [List.length_eq_zero_iff.1 (show ((L.drop (i+1)).takeWhile sgnC).length=0 by omega)]

theorem one_opn {L:Bs} {i:Nat} {t:Tk} {to:Nat} (h:oneT L i=some (t,to)):t.opn=true→t.kind≤2:=by
 intro ho
 have nm:∀ {kind:Int} {text:Bs} {e:Nat},kind≤2→nameT L kind text i e=some (t,to)→t.kind≤2:=fun hk h=>by
  obtain ⟨_,rfl,_⟩:=nameT_to h; exact hk
 unfold oneT at h
 split at h
 ·cases h
 split at h
 ·exact nm (by decide) h
 split at h
 ·exact nm (by decide) h
 split at h
 ·rename_i c _ _ _ _
  cases hn:numT (cutB L i (runB dgC L i)) with
  | none=>rw [hn] at h; cases h
  | some n=>rw [hn] at h; cases h; cases ho
 split at h
 ·split at h
  ·exact nm (by decide) h
  ·cases h
 split at h
 ·exact nm (by decide) h
 split at h
 ·exact nm (by decide) h
 split at h
 ·cases h; cases ho
 split at h
 ·cases h; cases ho
 ·exact nm (by decide) h

structure PlaceT (L:Bs) (lo:Nat) (t:Tk):Prop where
 lo:(lo:Int)≤t.at_
 hi:t.at_<L.length
 opn:t.opn=true→t.kind≤2
 cut:∀ c,L[t.at_.toNat]? = some c→c.toNat≠39→t.kind≠5→t.at_.toNat+t.text.length≤L.length∧cutB L t.at_.toNat (t.at_.toNat+t.text.length)=t.text∧(t.text≠[46]→L.length≤3000→tokT (t.text++[32])=([⟨t.kind,t.text,t.n,0,false⟩],0,0))

theorem toks_place:∀ (f:Nat) (L:Bs) (i:Nat) (l:List Tk),toks f L i=.ok l→(∀ t∈l,PlaceT L i t)∧∀ k t u,l[k]? = some t→l[k+1]? = some u→t.at_<u.at_
 | 0,L,i,l,h=>by simp only [toks,Except.ok.injEq] at h; subst h; exact ⟨by simp,by simp⟩
 | f+1,L,i,l,h=>by
  simp only [toks] at h
  by_cases hp:passN L i<L.length
  ·rw [if_pos hp] at h
   have hle:i≤passN L i:=by unfold passN; omega
   cases hone:oneT L (passN L i) with
   | none=>rw [hone] at h; cases h
   | some x =>
    obtain ⟨t,to⟩:=x
    rw [hone] at h
    have hto:=oneT_to hone
    have hat:=oneT_at hone
    simp only at h
    cases hr:toks f L to with
    | error j=>rw [hr] at h; cases h
    | ok r =>
     rw [hr] at h
     simp only [Except.ok.injEq] at h
     subst h
     obtain ⟨h1,h2⟩:=toks_place f L to r hr
     refine ⟨fun u hu=>?_,fun k u v hu hv=>?_⟩
     ·rcases List.mem_cons.1 hu with e | e
      ·subst e
       refine ⟨by omega,by omega,one_opn hone,fun c hc h39 h5=>?_⟩
       rw [hat,Int.toNat_natCast] at hc ⊢
       obtain ⟨g1,g2,g3,g4⟩:=one_alone hone hc h39
       refine ⟨by omega,by rw [g2,← g1],fun hd h3=>?_⟩
       rcases g4 with g4 | g4 | g4
       ·exact absurd g4 h5
       ·exact absurd g4 hd
       ·have hi:=(List.getElem?_eq_some_iff.1 hc).1
        have he:=(List.getElem?_eq_some_iff.1 hc).2
        have hx:∃ r,u.text=c::r:=by
         rw [g1]; unfold cutB
         rw [List.drop_eq_getElem_cons hi,he]
         obtain ⟨n,hn⟩:∃ n,to - passN L i=n+1:=⟨to - passN L i - 1,by omega⟩
         rw [hn]; exact ⟨_,rfl⟩
        obtain ⟨r',hx⟩:=hx
        exact tok_alone hx g3 (by omega) g4
      ·have hq:=h1 u e
       exact ⟨by have:=hq.lo; omega,hq.hi,hq.opn,hq.cut⟩
     ·cases k with
      | zero =>
       simp only [List.getElem?_cons_zero,Option.some.injEq,Nat.zero_add,List.getElem?_cons_succ] at hu hv
       subst hu
       have:=(h1 v (List.mem_iff_getElem?.2 ⟨0,hv⟩)).lo
       omega
      | succ k =>
       simp only [List.getElem?_cons_succ] at hu hv
       exact h2 k u v hu hv
  ·rw [if_neg hp] at h
   simp only [Except.ok.injEq] at h; subst h; exact ⟨by simp,by simp⟩
end PSL

namespace PSL
open Go

structure RSt where
 at_:Nat
 names:List Bs
 bad:Int
 e:Int
 lay:Bool
 deriving DecidableEq
def zeroTk:Tk:=⟨0,[],0,0,false⟩
def plcR (L:List Tk) (n:Nat) (i:Nat):Int:=match L[i]? with | some t=>t.at_ | none=>n
def failR (L:List Tk) (n:Nat) (st:RSt) (c:Int):RSt:=if st.e=0 then { st with e:=c,bad:=plcR L n st.at_ } else st
def peekR (L:List Tk) (st:RSt):Tk:=if st.e≠0 then zeroTk else (L[st.at_]?).getD zeroTk
def nxR (st:RSt):RSt:={ st with at_:=st.at_+1 }
def isMk (t:Tk) (s:Bs):Bool:=decide (t.kind=4)&&(t.text==s)
def mustR (L:List Tk) (n:Nat) (st:RSt) (s:Bs):RSt:=if isMk (peekR L st) s then nxR st else failR L n st 2
def op700:List Bs:=[[61],[92,61],[61,61],[92,61,61],[64,60],[64,62],[64,61,60],[64,62,61],[105,115],[61,58,61],[61,92,61],[60],[62],[61,60],[62,61]]
def op500:List Bs:=[[43],[45]]
def op400:List Bs:=[[42],[47,47],[109,111,100]]
def opTab:List (Bs × Int × Int × Int):=[([58,45],1200,1199,1199),([59],1100,1099,1100),([45,62],1050,1049,1050),([44],1000,999,1000)]++op700.map (fun s=>(s,700,699,699))++op500.map (fun s=>(s,500,500,499))++op400.map (fun s=>(s,400,400,399))
def infT (s:Bs):Option (Int × Int × Int):=opTab.lookup s
def preT (s:Bs):Int:=if s=[92,43] then 900 else if s=[45] then 200 else 0
def inT (t:Tk):Option (Int × Int × Int):=if t.kind≠1∧(t.kind≠4∨t.text≠[44]) then none else infT t.text

def idxV:List Bs→Bs→Nat→Option Nat
 | [],_,_=>none
 | x::r,s,i=>if x=s then some i else idxV r s (i+1)

def varR (st:RSt) (s:Bs):Int × RSt:=match (if s=[95] then none else idxV st.names s 0) with
 | some i=>(i,st)
 | none=>(st.names.length,{ st with names:=st.names++[if s=[95] then [] else s] })

def mkR (st:RSt):RSt:={ st with lay:=true }
def inS (L:List Tk) (st:RSt):RSt:=if (peekR L st).kind≠1∧((peekR L st).kind≠4∨(peekR L st).text≠[44]) then st else mkR st
def begS (L:List Tk) (st:RSt):RSt:=if (peekR L st).kind=1 then mkR st else st

def begR (L:List Tk) (st:RSt):Bool :=
 let t:=peekR L st
 decide (t.kind=3) || decide (t.kind=2) || (decide (t.kind=4)&&(t.text==[40] || t.text==[91])) || (decide (t.kind=1)&&(infT t.text).isNone)
def fnT (s:Bs) (l:List Tm):Tm:=.mk 3 (Tx s) 0 l
def nmT (n:Int):Tm:=.mk 2 ByteArray.empty n []
abbrev TF:=Nat→Int→RSt→Option (Tm × RSt)

def manyR (L:List Tk) (T:TF):Nat→Nat→RSt→List Tm→Option (List Tm × RSt)
 | 0,_,_,_=>none
 | f+1,deep,st,acc=>if isMk (peekR L st) [44] then (T deep 999 (nxR st)).bind fun x=>manyR L T f deep x.2 (acc++[x.1]) else some (acc,st)
def rowR (L:List Tk) (T:TF) (deep:Nat) (st:RSt):Option (List Tm × RSt):=(T deep 999 st).bind fun x=>manyR L T (L.length+2) deep x.2 [x.1]
def minR (S:Bs) (t next:Tk):Bool:=(t.text==[45])&&decide (S[t.at_.toNat]? = some 45)&&decide (next.kind=3)&&decide (next.at_=t.at_+1)

def namedR (S:Bs) (L:List Tk) (T:TF) (deep:Nat) (p:Int) (t:Tk) (st:RSt):Option (Tm × Int × RSt) :=
 if minR S t (peekR L (nxR st)) then some (nmT (-(peekR L (nxR st)).n),0,nxR (nxR st))
 else if t.opn then (rowR L T deep (mustR L S.length (nxR st) [40])).map fun x=>(fnT t.text x.1,0,mustR L S.length x.2 [41])
 else if 0<preT t.text then (
  if begR L (nxR st) then (if preT t.text > p then some (zeroT,0,failR L S.length { begS L (nxR st) with at_:=st.at_ } 2) else (T deep (preT t.text) (begS L (nxR st))).map fun x=>(fnT t.text [x.1],preT t.text,x.2))
  else some (fnT t.text [],0,begS L (nxR st)))
 else some (fnT t.text [],0,nxR st)
def consT (l:List Tm) (t:Tm):Tm:=l.foldr (fun x t=>fnT [46] [x,t]) t

def listR (S:Bs) (L:List Tk) (T:TF) (deep:Nat) (st:RSt):Option (Tm × RSt) :=
 (rowR L T deep st).bind fun x =>
  if isMk (peekR L x.2) [124] then (T deep 999 (nxR x.2)).map fun y=>(consT x.1 y.1,mustR L S.length y.2 [93])
  else some (consT x.1 (fnT [91,93] []),mustR L S.length x.2 [93])

def opndR (sw:Bool) (S:Bs) (L:List Tk) (T:TF) (deep:Nat) (p:Int) (st:RSt):Option (Tm × Int × RSt) :=
 if 1000≤deep then some (zeroT,0,failR L S.length st 3)
 else if (peekR L st).kind=3 then some (nmT (peekR L st).n,0,nxR st)
 else if (peekR L st).kind=2 then some (Tm.vT (varR (nxR st) (peekR L st).text).1,0,(varR (nxR st) (peekR L st).text).2)
 else if (peekR L st).kind=1 then (namedR S L T (deep+1) p (peekR L st) st).map fun x=>if sw&&decide (x.2.2.e≠0) then (zeroT,0,x.2.2) else x
 else if isMk (peekR L st) [40] then (T (deep+1) 1200 (nxR st)).map fun x=>(x.1,0,mustR L S.length x.2 [41])
 else if isMk (peekR L st) [91] then (listR S L T (deep+1) (nxR st)).map fun x=>(x.1,0,x.2)
 else some (zeroT,0,failR L S.length st 2)

def restR (L:List Tk) (T:TF):Nat→Nat→Int→Tm→Int→RSt→Option (Tm × RSt)
 | 0,_,_,_,_,_=>none
 | f+1,deep,p,out,now,st =>
  if st.e≠0 then some (out,st)
  else match inT (peekR L st) with
   | none=>some (out,inS L st)
   | some (q,l,r)=>if q > p∨now > l then some (out,inS L st) else (T deep r (nxR (inS L st))).bind fun x=>restR L T f deep p (fnT (peekR L st).text [out,x.1]) q x.2

def termR (sw:Bool) (S:Bs) (L:List Tk):Nat→TF
 | 0,_,_,_=>none
 | n+1,deep,p,st=>(opndR sw S L (termR sw S L n) deep p st).bind fun x=>restR L (termR sw S L n) (L.length+2) deep p x.1 x.2.1 x.2.2
end PSL

namespace Go.Proofs.YtcgkgofmldhokaaGreat
open Go PSL Go.Proofs
def u8A (c:UInt8):AV:=.d (.v (.int .u8 c.toNat))
def txA (L:Bs):AV:=.d (.v (.string (Tx L)))
theorem bvEq {a b:Bool} (h:a=true↔b=true):bV a=bV b:=by rw [Bool.eq_iff_iff.2 h]
theorem bvT {b:Bool} (h:b=true):AV.d (.v (.bool true))=bV b:=by rw [h]; rfl
theorem bvF {b:Bool} (h:b=false):AV.d (.v (.bool false))=bV b:=by rw [h]; rfl

set_option maxRecDepth 100000 in
theorem low_ok (c:UInt8):PCtr Tryz.prog 136 [u8A c] (bV (lowC c)):=by
 refine PCtr.of_R (pf:=fun _=>.still) tyOk mixed Tryz.func136 rfl (by kernel_rfl) (by kernel_rfl) (by simp [Tryz.ntmps136]) fun w S hg=>?_
 refine R_run hg.ok 1000 rfl rfl ?_
 refine R_if rfl rfl (fun h=>?_) (fun h=>?_) <;> refine R_run hg.ok 1000 rfl rfl ?_
 ·have h:=of_decide_eq_true h
  refine R_ret hg 5 rfl rfl ?_
  exact bvEq (by simp [lowC]; omega)
 ·have h:=of_decide_eq_false h
  refine R_ret hg 5 rfl rfl ?_
  exact bvF (by simp [lowC]; omega)

set_option maxRecDepth 100000 in
theorem digit_ok (c:UInt8):PCtr Tryz.prog 140 [u8A c] (bV (dgC c)):=by
 refine PCtr.of_R (pf:=fun _=>.still) tyOk mixed Tryz.func140 rfl (by kernel_rfl) (by kernel_rfl) (by simp [Tryz.ntmps140]) fun w S hg=>?_
 refine R_run hg.ok 1000 rfl rfl ?_
 refine R_if rfl rfl (fun h=>?_) (fun h=>?_) <;> refine R_run hg.ok 1000 rfl rfl ?_
 ·have h:=of_decide_eq_true h
  refine R_ret hg 5 rfl rfl ?_
  exact bvEq (by simp [dgC]; omega)
 ·have h:=of_decide_eq_false h
  refine R_ret hg 5 rfl rfl ?_
  exact bvF (by simp [dgC]; omega)

set_option maxRecDepth 100000 in
theorem great_ok (c:UInt8):PCtr Tryz.prog 137 [u8A c] (bV (grtC c)):=by
 refine PCtr.of_R (pf:=fun _=>.still) tyOk mixed Tryz.func137 rfl (by kernel_rfl) (by kernel_rfl) (by simp [Tryz.ntmps137]) fun w S hg=>?_
 refine R_run hg.ok 1000 rfl rfl ?_
 refine R_if rfl rfl (fun h=>?_) (fun h=>?_) <;> refine R_run hg.ok 1000 rfl rfl ?_
 ·have h:=of_decide_eq_true h
  refine R_if rfl rfl (fun h2=>?_) (fun h2=>?_) <;> refine R_run hg.ok 1000 rfl rfl ?_
  ·have h2:=of_decide_eq_true h2
   refine R_ret hg 5 rfl rfl ?_
   exact bvT (by simp [grtC]; omega)
  ·have h2:=of_decide_eq_false h2
   refine R_ret hg 5 rfl rfl ?_
   exact bvEq (by simp [grtC]; omega)
 ·have h:=of_decide_eq_false h
  refine R_ret hg 5 rfl rfl ?_
  exact bvEq (by simp [grtC]; omega)

set_option maxRecDepth 100000 in
theorem blank_ok (c:UInt8):PCtr Tryz.prog 133 [u8A c] (bV (blkC c)):=by
 refine PCtr.of_R (pf:=fun _=>.still) tyOk mixed Tryz.func133 rfl (by kernel_rfl) (by kernel_rfl) (by simp [Tryz.ntmps133]) fun w S hg=>?_
 refine R_run hg.ok 1000 rfl rfl ?_
 refine R_if rfl rfl (fun h=>?_) (fun h=>?_) <;> refine R_run hg.ok 1000 rfl rfl ?_
 ·refine R_ret hg 5 rfl rfl ?_
  exact bvT (by simp at h; simp [blkC]; omega)
 refine R_if rfl rfl (fun h2=>?_) (fun h2=>?_) <;> refine R_run hg.ok 1000 rfl rfl ?_
 ·refine R_ret hg 5 rfl rfl ?_
  exact bvT (by simp at h2; simp [blkC]; omega)
 ·refine R_ret hg 5 rfl rfl ?_
  exact bvEq (by simp at h h2; simp [blkC]; omega)

set_option maxRecDepth 100000 in
theorem follows_ok (c:UInt8):PCtr Tryz.prog 138 [u8A c] (bV (folC c)):=by
 refine PCtr.of_R (pf:=fun _=>.still) tyOk mixed Tryz.func138 rfl (by kernel_rfl) (by kernel_rfl) (by simp [Tryz.ntmps138]) fun w S hg=>?_
 refine R_run hg.ok 1000 rfl rfl ?_
 refine R_call hg.ok (digit_ok c) rfl rfl rfl rfl rfl rfl ?_
 refine R_run hg.ok 1000 rfl rfl ?_
 refine R_if rfl rfl (fun h=>?_) (fun h=>?_) <;> refine R_run hg.ok 1000 rfl rfl ?_
 ·refine R_ret hg 5 rfl rfl ?_
  exact bvT (by simp [folC,h])
 refine R_call hg.ok (low_ok c) rfl rfl rfl rfl rfl rfl ?_
 refine R_run hg.ok 1000 rfl rfl ?_
 refine R_if rfl rfl (fun h2=>?_) (fun h2=>?_) <;> refine R_run hg.ok 1000 rfl rfl ?_
 ·refine R_ret hg 5 rfl rfl ?_
  exact bvT (by simp [folC,h2])
 refine R_call hg.ok (great_ok c) rfl rfl rfl rfl rfl rfl ?_
 refine R_run hg.ok 1000 rfl rfl ?_
 refine R_ret hg 5 rfl rfl ?_
 exact bvEq (by simp [folC,h,h2])

theorem w8 (c:UInt8):IntKind.u8.wrap (c.toNat:Int)=c.toNat:=by
 have:=c.toNat_lt
 simp [IntKind.wrap,IntKind.signed,IntKind.bits]; omega

theorem decode_ascii {L:Bs} {i:Nat} {c:UInt8} (h:L[i]? = some c) (hc:c.toNat<128):Utf8.decode (Tx L) i=(c.toNat,1):=by
 have hl:=(List.getElem?_eq_some_iff.1 h).1
 have e:(Tx L).get! (i+0)=c:=by
  show (Tx L).data[i]! = c
  have:=(List.getElem?_eq_some_iff.1 h).2
  simp [Tx,hl,this]
 unfold Utf8.decode
 simp only [e]
 rw [if_pos (by omega)]

set_option maxRecDepth 100000 in
theorem among_ok (R:Bs) (hR:R.all (fun c=>decide (c.toNat<128))=true) (c:UInt8):PCtr Tryz.prog 143 [txA R,u8A c] (bV (R.contains c)):=by
 refine PCtr.of_R (pf:=fun _=>.eff) tyOk mixed Tryz.func143 rfl (by kernel_rfl) (by kernel_rfl) (by simp [Tryz.ntmps143]) fun w S hg=>?_
 refine R_run hg.ok 1000 rfl rfl ?_
 refine R_rangeS hg.ok rfl rfl rfl rfl ?_
 refine R_run hg.ok 1000 rfl rfl ?_
 refine R_loop (fun k:Nat=>([(1,u8A c),(8,.lo 0 0)],[.itr (Tx R) k])) (fun k=>k≤R.length∧R.contains c=(R.drop k).contains c) (fun k=>R.length - k) 0 ⟨Nat.zero_le _,by simp⟩ ⟨.refl _,.refl _,trivial⟩ rfl ?_
 rintro k ⟨hk,hm⟩
 refine R_run hg.ok 1000 rfl rfl ?_
 by_cases hk1:k<R.length
 ·have e1:R[k]? = some R[k]:=List.getElem?_eq_getElem hk1
  have ha:R[k].toNat<128:=by simpa using List.all_eq_true.1 hR _ (List.getElem_mem hk1)
  rw [List.drop_eq_getElem_cons hk1,List.contains_cons] at hm
  refine R_nextS hg.ok rfl rfl rfl rfl (by rw [Tx_size]; exact hk1) (decode_ascii e1 ha) ?_
  refine R_run hg.ok 1000 rfl rfl ?_
  rw [w8 R[k]]
  refine R_if rfl rfl (fun h=>?_) (fun h=>?_) <;> refine R_run hg.ok 1000 rfl rfl ?_
  ·refine R_ret hg 5 rfl rfl ?_
   refine bvT ?_
   have h:R[k]=c:=UInt8.toNat_inj.1 (by simp at h; omega)
   rw [hm,h]; simp
  ·refine R_next (k+1) ⟨hk1,?_⟩ (by omega) ⟨.refl _,.refl _,trivial⟩ rfl
   have h:¬ R[k]=c:=fun e=>by rw [e] at h; simp at h
   rw [hm,show (c==R[k])=false by simp; exact fun e=>h e.symm,Bool.false_or]
 ·refine R_nextE hg.ok rfl rfl rfl rfl (by rw [Tx_size]; omega) ?_
  refine R_run hg.ok 1000 rfl rfl ?_
  refine R_ret hg 5 rfl rfl ?_
  rw [hm,List.drop_eq_nil_of_le (by omega)]; rfl

set_option maxRecDepth 100000 in
theorem sign1_ok (c:UInt8):PCtr Tryz.prog 144 [u8A c] (bV (sgnC c)):=by
 have h:=among_ok sgnL (by decide) c
 refine PCtr.of_R (pf:=fun _=>.still) tyOk mixed Tryz.func144 rfl (by kernel_rfl) (by kernel_rfl) (by simp [Tryz.ntmps144]) fun w S hg=>?_
 refine R_run hg.ok 1000 rfl rfl ?_
 refine R_call hg.ok (h) rfl rfl rfl rfl rfl rfl ?_
 refine R_run hg.ok 1000 rfl rfl ?_
 refine R_ret hg 5 rfl rfl ?_
 rfl

set_option maxRecDepth 100000 in
theorem line_ok (c:UInt8):PCtr Tryz.prog 135 [u8A c] (bV (!decide (c.toNat=10))):=by
 refine PCtr.of_R (pf:=fun _=>.still) tyOk mixed Tryz.func135 rfl (by kernel_rfl) (by kernel_rfl) (by simp [Tryz.ntmps135]) fun w S hg=>?_
 refine R_run hg.ok 1000 rfl rfl ?_
 refine R_ret hg 5 rfl rfl ?_
 exact bvEq (by simp; omega)
def cutO (L:Bs) (i:Nat):List Ob:=[.box [txA L,iV i]]

set_option maxRecDepth 100000 in
theorem run_walk (Y:YP) (f:Nat) (p:UInt8→Bool) (hp:∀ c,PCtr Tryz.prog f [u8A c] (bV (p c))) (L:Bs) (j i:Nat) (hi:i≤L.length) (hL:L.length≤9000):SCtr Tryz.prog Y 134 [.lo 0 0,iV i,.clo f [] []] (cutO L j) (iV (runB p L i)) (cutO L j):=by
 refine SCtr.of_R (pf:=fun _=>.eff) tyOk mixed Tryz.func134 rfl (by kernel_rfl) (by kernel_rfl) (by simp [Tryz.ntmps134]) (by simp [cutO]) fun w S φ hg=>?_
 have hφ:φ.length=1:=hg.hs0.len
 refine R_run hg.ok 1000 rfl rfl ?_
 refine R_loop (fun k:Nat=>([(0,.lo 0 0),(1,iV k),(2,.clo f [] [])],cutO L j)) (fun k=>k≤L.length∧runB p L i=runB p L k) (fun k=>L.length - k) i ⟨hi,rfl⟩ ⟨.refl _,.refl _,.refl _,trivial⟩ rfl ?_
 rintro k ⟨hk,hm⟩
 refine R_run hg.ok 1000 rfl rfl ?_
 refine R_if rfl rfl (fun h=>?_) (fun h=>?_) <;> refine R_run hg.ok 1000 rfl rfl ?_
 ·have hk1:k<L.length:=lt_dec h (by rw [Tx_size])
  have e1:L[k]? = some L[k]:=List.getElem?_eq_getElem hk1
  refine R_indexS hg.ok rfl rfl rfl rfl rfl (Int.natCast_nonneg k) (b:=L[k]) (by rw [Tx_get]; exact e1) ?_
  refine R_run hg.ok 1000 rfl rfl ?_
  refine R_call hg.ok (hp L[k]) rfl rfl rfl rfl rfl rfl ?_
  refine R_run hg.ok 1000 rfl rfl ?_
  refine R_if rfl rfl (fun h2=>?_) (fun h2=>?_) <;> refine R_run hg.ok 1000 rfl rfl ?_
  ·exact R_next (k+1) ⟨hk1,by rw [hm,runB_step e1 h2]⟩ (by omega) ⟨.refl _,Ent.wrap (by omega) (by omega) (by omega),.refl _,trivial⟩ rfl
  ·rw [hm,runB_stop e1 h2]
   exact R_retS hg 1 5 (Nat.le_refl _) rfl rfl rfl
 ·have hk1:L.length≤k:=ge_dec h (by rw [Tx_size])
  rw [hm,runB_end hk1]
  exact R_retS hg 1 5 (Nat.le_refl _) rfl rfl rfl

set_option maxRecDepth 100000 in
theorem pass_walk (Y:YP) (L:Bs) (i:Nat) (hi:i≤L.length) (hL:L.length≤9000):SCtr Tryz.prog Y 115 [.lo 0 0] (cutO L i) (.tup []) (cutO L (passN L i)):=by
 refine SCtr.of_R (pf:=fun _=>.eff) tyOk mixed Tryz.func115 rfl (by kernel_rfl) (by kernel_rfl) (by simp [Tryz.ntmps115]) (by simp [cutO]) fun w S φ hg=>?_
 have hφ:φ.length=1:=hg.hs0.len
 refine R_run hg.ok 1000 rfl rfl ?_
 refine R_loop (fun k:Nat=>([(0,.lo 0 0)],cutO L k)) (fun k=>k≤L.length∧passN L i=passN L k) (fun k=>L.length - k) i ⟨hi,rfl⟩ ⟨.refl _,trivial⟩ rfl ?_
 rintro k ⟨hk,hm⟩
 refine R_run hg.ok 1000 rfl rfl ?_
 refine R_if rfl rfl (fun h=>?_) (fun h=>?_) <;> refine R_run hg.ok 1000 rfl rfl ?_
 ·have hk1:k<L.length:=lt_dec h (by rw [Tx_size])
  have e1:L[k]? = some L[k]:=List.getElem?_eq_getElem hk1
  refine R_indexS hg.ok rfl rfl rfl rfl rfl (Int.natCast_nonneg k) (b:=L[k]) (by rw [Tx_get]; exact e1) ?_
  refine R_run hg.ok 1000 rfl rfl ?_
  refine R_call hg.ok (blank_ok L[k]) rfl rfl rfl rfl rfl rfl ?_
  refine R_run hg.ok 1000 rfl rfl ?_
  refine R_if rfl rfl (fun h2=>?_) (fun h2=>?_) <;> refine R_run hg.ok 1000 rfl rfl ?_
  ·rw [w64 (n:=(k:Int)+1) (by omega) (by omega)]
   exact R_next (k+1) ⟨hk1,by rw [hm,pass_blank e1 h2]⟩ (by omega) ⟨.refl _,trivial⟩ rfl
  ·refine R_indexS hg.ok rfl rfl rfl rfl rfl (Int.natCast_nonneg k) (b:=L[k]) (by rw [Tx_get]; exact e1) ?_
   refine R_run hg.ok 1000 rfl rfl ?_
   refine R_if rfl rfl (fun h3=>?_) (fun h3=>?_) <;> refine R_run hg.ok 1000 rfl rfl ?_
   ·have h3:L[k].toNat=37:=by simp at h3; omega
    obtain ⟨g1,g2⟩:=pass_line e1 h3
    have g3:=(runB_le (p:=nlC) (L:=L) (i:=k) (by omega)).2
    have hcall:=run_walk Y 135 nlC line_ok L k k hk hL
    refine R_callSO hg.ok hg.gup hg.wide hg.Y [0] (cutO L k) hcall (fun _=>rfl) rfl rfl rfl rfl rfl rfl rfl rfl ?_
    refine R_run hg.ok 1000 rfl rfl ?_
    exact R_next (runB nlC L k) ⟨g3,by rw [hm,g1]⟩ (by omega) ⟨.refl _,trivial⟩ rfl
   ·have h3:¬ L[k].toNat=37:=by simp at h3; omega
    rw [hm,pass_stop e1 h2 h3]
    exact R_retS hg 1 5 (Nat.le_refl _) rfl rfl rfl
 ·have hk1:L.length≤k:=ge_dec h (by rw [Tx_size])
  rw [hm,pass_end hk1]
  exact R_endS hg 1 5 (Nat.le_refl _) rfl rfl rfl
def tkD (t:Tk):List D:=[.v (.int .i64 t.kind),.v (.string (Tx t.text)),.v (.int .i64 t.n),.v (.int .i64 t.at_),.v (.bool t.opn)]
def tkA (t:Tk):AV:=.agg [.d (.v (.int .i64 t.kind)),.d (.v (.string (Tx t.text))),.d (.v (.int .i64 t.n)),.d (.v (.int .i64 t.at_)),.d (.v (.bool t.opn))]
def namB (text:Bs):Bool:=decide (1≤text.length)&&decide (text.length≤20)
def pfNamed:Nat→Cls:=fun f=>bif Nat.beq f 4000200008 then .turn 101 else bif Nat.beq f 4000300035 then .look 102 else bif Nat.beq f 4000300039 then .look 102 else .eff

set_option maxRecDepth 100000 in
theorem named_walk (Y:YP) (L:Bs) (i:Nat) (kind:Int) (text:Bs) (to:Nat) (hto:to≤L.length) (hL:L.length≤9000) (hi:i≤9000):SCtr Tryz.prog Y 139 [.lo 0 0,iV kind,txA text,iV to] (cutO L i) (.tup [tkA ⟨kind,text,0,i,opnB L to⟩,iV to,bV (namB text)]) (cutO L i):=by
 refine SCtr.of_R (pf:=pfNamed) tyOk mixed Tryz.func139 rfl (by kernel_rfl) (by kernel_rfl) (by simp [Tryz.ntmps139]) (by simp [cutO]) fun w S φ hg=>?_
 have hφ:φ.length=1:=hg.hs0.len
 refine R_run hg.ok 1000 rfl rfl ?_
 refine R_if rfl rfl (fun h=>?_) (fun h=>?_) <;> refine R_run hg.ok 1000 rfl rfl ?_
 ·have hk1:to<L.length:=lt_dec h (by rw [Tx_size])
  have e1:L[to]? = some L[to]:=List.getElem?_eq_getElem hk1
  have ho:(((L[to].toNat:Int))==40)=opnB L to:=by
   rw [opnB,e1,Bool.eq_iff_iff,beq_iff_eq,decide_eq_true_eq]; omega
  refine R_indexS hg.ok rfl rfl rfl rfl rfl (Int.natCast_nonneg to) (b:=L[to]) (by rw [Tx_get]; exact e1) ?_
  refine R_run hg.ok 1000 rfl rfl ?_
  rw [ho]
  refine R_lenStr hg.ok rfl rfl rfl rfl (n:=(text.length:Int)) (by rw [Tx_size]) ?_
  refine R_run hg.ok 1000 rfl rfl ?_
  refine R_if rfl rfl (fun h2=>?_) (fun h2=>?_) <;> refine R_run hg.ok 1000 rfl rfl ?_
  ·refine R_lenStr hg.ok rfl rfl rfl rfl (n:=(text.length:Int)) (by rw [Tx_size]) ?_
   refine R_run hg.ok 1000 rfl rfl ?_
   refine R_storeJ hg.ok rfl rfl rfl rfl rfl rfl rfl rfl rfl ?_
   refine R_run hg.ok 1000 rfl rfl ?_
   rw [show decide ((text.length:Int)≤20)=namB text by rw [namB,decide_eq_true (by have:=of_decide_eq_true h2; omega:1≤text.length),Bool.true_and,Bool.eq_iff_iff,decide_eq_true_eq,decide_eq_true_eq]; omega]
   exact R_retS hg 1 5 (Nat.le_refl _) rfl rfl rfl
  ·refine R_storeJ hg.ok rfl rfl rfl rfl rfl rfl rfl rfl rfl ?_
   refine R_run hg.ok 1000 rfl rfl ?_
   rw [show namB text=false by rw [namB,decide_eq_false (by have:=of_decide_eq_false h2; omega:¬ 1≤text.length),Bool.false_and]]
   exact R_retS hg 1 5 (Nat.le_refl _) rfl rfl rfl
 ·have hk1:L.length≤to:=ge_dec h (by rw [Tx_size])
  have ho:opnB L to=false:=by rw [opnB,List.getElem?_eq_none hk1]
  rw [ho]
  refine R_lenStr hg.ok rfl rfl rfl rfl (n:=(text.length:Int)) (by rw [Tx_size]) ?_
  refine R_run hg.ok 1000 rfl rfl ?_
  refine R_if rfl rfl (fun h2=>?_) (fun h2=>?_) <;> refine R_run hg.ok 1000 rfl rfl ?_
  ·refine R_lenStr hg.ok rfl rfl rfl rfl (n:=(text.length:Int)) (by rw [Tx_size]) ?_
   refine R_run hg.ok 1000 rfl rfl ?_
   refine R_storeJ hg.ok rfl rfl rfl rfl rfl rfl rfl rfl rfl ?_
   refine R_run hg.ok 1000 rfl rfl ?_
   rw [show decide ((text.length:Int)≤20)=namB text by rw [namB,decide_eq_true (by have:=of_decide_eq_true h2; omega:1≤text.length),Bool.true_and,Bool.eq_iff_iff,decide_eq_true_eq,decide_eq_true_eq]; omega]
   exact R_retS hg 1 5 (Nat.le_refl _) rfl rfl rfl
  ·refine R_storeJ hg.ok rfl rfl rfl rfl rfl rfl rfl rfl rfl ?_
   refine R_run hg.ok 1000 rfl rfl ?_
   rw [show namB text=false by rw [namB,decide_eq_false (by have:=of_decide_eq_false h2; omega:¬ 1≤text.length),Bool.false_and]]
   exact R_retS hg 1 5 (Nat.le_refl _) rfl rfl rfl
end Go.Proofs.YtcgkgofmldhokaaGreat

namespace Go.Proofs.YtcgkgofmldhokaaGreat
open Go PSL Go.Proofs

def quoR (L:Bs) (i:Nat):Bs × Nat × Bool:=match quo (L.drop (i+1)) with
 | some (t,k)=>(t,i+1+k,true)
 | none=>([],0,false)
theorem byRows_snoc (l:Bs) (c:UInt8):byRows l++[[.v (.int .u8 c.toNat)]]=byRows (l++[c]):=by simp [byRows]
theorem byRows_len (l:Bs):(byRows l).length=l.length:=by simp [byRows]

set_option maxRecDepth 100000 in
theorem quoted_walk (Y:YP) (L:Bs) (i:Nat) (hi:i<L.length) (hL:L.length≤9000):SCtr Tryz.prog Y 142 [.lo 0 0] (cutO L i) (.tup [txA (quoR L i).1,iV (quoR L i).2.1,bV (quoR L i).2.2]) (cutO L i):=by
 refine SCtr.of_R (pf:=fun _=>.eff) tyOk mixed Tryz.func142 rfl (by kernel_rfl) (by kernel_rfl) (by simp [Tryz.ntmps142]) (by simp [cutO]) fun w S φ hg=>?_
 have hφ:φ.length=1:=hg.hs0.len
 have bad:quo (L.drop (i+1))=none→AV.tup [.d (.v (.string ByteArray.empty)),iV 0,.d (.v (.bool false))]=.tup [txA (quoR L i).1,iV (quoR L i).2.1,bV (quoR L i).2.2]:=fun h=>by
  unfold quoR; rw [h]; rfl
 refine R_run hg.ok 1000 rfl rfl ?_
 rw [w64 (n:=(i:Int)+1) (by omega) (by omega),show (i:Int)+1=((i+1:Nat):Int) by omega]
 refine R_own 5 1 rfl rfl ?_
 refine R_loop (fun x:Nat × Bs=>([(0,.lo 0 0),(5,.ow 1 x.2.length),(6,iV x.1)],cutO L i++[.arr 1 x.2.length (byRows x.2)])) (fun x=>i+1≤x.1∧x.1≤L.length∧x.2.length≤x.1∧quo (L.drop (i+1))=(quo (L.drop x.1)).map fun y=>(x.2++y.1,y.2+(x.1 - (i+1)))) (fun x=>L.length - x.1) (i+1,[]) ⟨Nat.le_refl _,hi,Nat.zero_le _,by simp⟩ ⟨.refl _,.refl _,.refl _,trivial⟩ rfl ?_
 rintro ⟨k,out⟩ ⟨hk0,hk,ho,hm⟩
 simp only at hk0 hk ho hm
 refine R_run hg.ok 1000 rfl rfl ?_
 refine R_if rfl rfl (fun h=>?_) (fun h=>?_) <;> refine R_run hg.ok 1000 rfl rfl ?_
 ·have hk1:k<L.length:=lt_dec h (by rw [Tx_size])
  have e1:L[k]? = some L[k]:=List.getElem?_eq_getElem hk1
  rw [List.drop_eq_getElem_cons hk1] at hm
  refine R_indexS hg.ok rfl rfl rfl rfl rfl (Int.natCast_nonneg k) (b:=L[k]) (by rw [Tx_get]; exact e1) ?_
  generalize L[k]=x at hm e1
  refine R_run hg.ok 1000 rfl rfl ?_
  refine R_if rfl rfl (fun g1=>?_) (fun g1=>?_) <;> refine R_run hg.ok 1000 rfl rfl ?_
  ·have g1:¬ x.toNat=39:=by simp at g1; omega
   refine R_if rfl rfl (fun g2=>?_) (fun g2=>?_) <;> refine R_run hg.ok 1000 rfl rfl ?_
   ·have g2:=of_decide_eq_true g2
    rw [← bad (by rw [hm,quo_bad (.inl (by omega))]; rfl)]
    exact R_retS hg 1 5 (Nat.le_refl _) rfl rfl rfl
   have g2:=of_decide_eq_false g2
   refine R_if rfl rfl (fun g3=>?_) (fun g3=>?_) <;> refine R_run hg.ok 1000 rfl rfl ?_
   ·have g3:=of_decide_eq_true g3
    rw [← bad (by rw [hm,quo_bad (.inr (by omega))]; rfl)]
    exact R_retS hg 1 5 (Nat.le_refl _) rfl rfl rfl
   have g3:=of_decide_eq_false g3
   refine R_if rfl rfl (fun _=>?_) (fun h=>absurd h (by simp; omega)) <;> refine R_run hg.ok 1000 rfl rfl ?_
   refine R_appendO hg.ok (byRows (out++[x])) rfl rfl rfl rfl rfl rfl rfl rfl rfl (by simp) (by simp [one1]) (byRows_snoc out x) (by rw [byRows_len]; simp; omega) (by rw [byRows_len]; simp; omega) ?_
   refine R_run hg.ok 1000 rfl rfl ?_
   refine R_next (k+1,out++[x]) ⟨by simp only; omega,hk1,by simp; omega,?_⟩ (by simp only; omega) ⟨.refl _,by simp only [List.length_append,List.length_singleton]; exact .refl _,Ent.wrap (by simp only; omega) (by simp only; omega) (by simp only; omega),trivial⟩ (by simp only [List.length_append,List.length_singleton]; rfl)
   simp only
   rw [hm,quo_any (by omega) g1,Option.map_map]
   congr 1
   funext y
   simp; omega
  ·have g1:x.toNat=39:=by simp at g1; omega
   refine R_if rfl rfl (fun h=>absurd h (by simp; omega)) (fun _=>?_) <;> refine R_run hg.ok 1000 rfl rfl ?_
   rw [w64 (n:=(k:Int)+1) (by omega) (by omega),show (k:Int)+1=((k+1:Nat):Int) by omega]
   have last:(∀ d,(L.drop (k+1))[0]? = some d→d.toNat≠39)→quoR L i=(out,k+1,true):=fun h=>by
    unfold quoR
    rw [hm,quo_one g1 h]
    simp; omega
   refine R_if rfl rfl (fun g2=>?_) (fun g2=>?_)
   ·refine R_run hg.ok 1000 rfl rfl ?_
    have hk2:k+1<L.length:=lt_dec g2 (by rw [Tx_size])
    have e2:L[k+1]? = some L[k+1]:=List.getElem?_eq_getElem hk2
    rw [w64 (n:=(k:Int)+1) (by omega) (by omega),show (k:Int)+1=((k+1:Nat):Int) by omega]
    refine R_indexS hg.ok rfl rfl rfl rfl rfl (Int.natCast_nonneg (k+1)) (b:=L[k+1]) (by rw [Tx_get]; exact e2) ?_
    refine R_run hg.ok 1000 rfl rfl ?_
    refine R_if rfl rfl (fun g3=>?_) (fun g3=>?_)
    ·refine R_run hg.ok 1000 rfl rfl ?_
     have g3:L[k+1].toNat=39:=by simp at g3; omega
     have g4:L[k+1]=39:=UInt8.toNat_inj.1 g3
     rw [List.drop_eq_getElem_cons hk2,quo_two g1 g3] at hm
     refine R_appendO hg.ok (byRows (out++[39])) rfl rfl rfl rfl rfl rfl rfl rfl rfl (by simp) (by simp [one1]) (byRows_snoc out 39) (by rw [byRows_len]; simp; omega) (by rw [byRows_len]; simp; omega) ?_
     refine R_run hg.ok 1000 rfl rfl ?_
     rw [w64 (n:=(k:Int)+1) (by omega) (by omega)]
     refine R_next (k+2,out++[39]) ⟨by simp only; omega,hk2,by simp; omega,?_⟩ (by simp only; omega) ⟨.refl _,by simp only [List.length_append,List.length_singleton]; exact .refl _,Ent.wrap (by simp only; omega) (by simp only; omega) (by simp only; omega),trivial⟩ (by simp only [List.length_append,List.length_singleton]; rfl)
     simp only
     rw [hm,Option.map_map]
     congr 1
     funext y
     simp; omega
    ·have g3:¬ L[k+1].toNat=39:=by simp at g3; omega
     refine R_run hg.ok 1 rfl rfl ?_
     refine R_freezeO hg.gup 1 [(0,.lo 0 0),(5,.d (.sl (byRows out))),(6,iV k)] [.box [txA L,iV i],.dead] rfl rfl ⟨.refl _,Ent.frz 1 out.length (byRows out),.refl _,trivial⟩ ⟨⟨.refl _,.refl _,trivial⟩,by simp [ObIn],trivial⟩ ?_
     refine R_run hg.ok 1000 rfl rfl ?_
     refine R_convD hg.ok out rfl rfl rfl rfl rfl rfl ?_
     refine R_run hg.ok 1000 rfl rfl ?_
     rw [w64 (n:=(k:Int)+1) (by omega) (by omega),show (k:Int)+1=((k+1:Nat):Int) by omega,last (fun d hd=>by rw [List.getElem?_drop] at hd; simp only [Nat.add_zero] at hd; rw [e2] at hd; cases hd; exact g3)]
     exact R_retS hg 1 5 (Nat.le_refl _) rfl rfl rfl
   ·refine R_run hg.ok 2 rfl rfl ?_
    have hk2:L.length≤k+1:=ge_dec g2 (by rw [Tx_size])
    refine R_freezeO hg.gup 1 [(0,.lo 0 0),(5,.d (.sl (byRows out))),(6,iV k)] [.box [txA L,iV i],.dead] rfl rfl ⟨.refl _,Ent.frz 1 out.length (byRows out),.refl _,trivial⟩ ⟨⟨.refl _,.refl _,trivial⟩,by simp [ObIn],trivial⟩ ?_
    refine R_run hg.ok 1000 rfl rfl ?_
    refine R_convD hg.ok out rfl rfl rfl rfl rfl rfl ?_
    refine R_run hg.ok 1000 rfl rfl ?_
    rw [w64 (n:=(k:Int)+1) (by omega) (by omega),show (k:Int)+1=((k+1:Nat):Int) by omega,last (fun d hd=>by rw [List.drop_eq_nil_of_le hk2] at hd; simp at hd)]
    exact R_retS hg 1 5 (Nat.le_refl _) rfl rfl rfl
 ·have hk1:L.length≤k:=ge_dec h (by rw [Tx_size])
  rw [List.drop_eq_nil_of_le hk1] at hm
  rw [← bad (by rw [hm]; rfl)]
  exact R_retS hg 1 5 (Nat.le_refl _) rfl rfl rfl

def numP (D:Bs):Nat × Bool:=match numT D with
 | some n=>(n,true)
 | none=>(0,false)

theorem w8sub {c:UInt8} (h:dgC c=true):IntKind.u8.wrap ((c.toNat:Int) - 48)=((c.toNat - 48:Nat):Int):=by
 have h1:=c.toNat_lt
 simp only [dgC,Bool.and_eq_true,decide_eq_true_eq] at h
 simp [IntKind.wrap,IntKind.signed,IntKind.bits]; omega

set_option maxRecDepth 100000 in
theorem number_ok (D:Bs) (hd:D.all dgC=true) (hl:D.length≤9000):PCtr Tryz.prog 141 [txA D] (.tup [iV (numP D).1,bV (numP D).2]):=by
 have bad:numT D=none→AV.tup [iV 0,.d (.v (.bool false))]=.tup [iV (numP D).1,bV (numP D).2]:=fun h=>by unfold numP; rw [h]; rfl
 have ok:∀ n:Nat,numT D=some n→AV.tup [iV n,.d (.v (.bool true))]=.tup [iV (numP D).1,bV (numP D).2]:=fun n h=>by unfold numP; rw [h]; rfl
 refine PCtr.of_R (pf:=fun _=>.still) tyOk mixed Tryz.func141 rfl (by kernel_rfl) (by kernel_rfl) (by simp [Tryz.ntmps141]) fun w S hg=>?_
 refine R_run hg.ok 1000 rfl rfl ?_
 by_cases h0:1<D.length∧(D[0]?.map UInt8.toNat)=some 48
 ·have hb:=bad (by unfold numT; rw [if_pos (.inl h0)])
  have e0:D[0]? = some D[0]:=List.getElem?_eq_getElem (by omega)
  have h48:D[0].toNat=48:=by have:=h0.2; rw [e0] at this; simpa using this
  refine R_if rfl rfl (fun _=>?_) (fun h=>absurd h (by simp [Tx_size]; omega)) <;> refine R_run hg.ok 1000 rfl rfl ?_
  refine R_indexS hg.ok rfl rfl rfl rfl rfl (by decide) (b:=D[0]) (by rw [Tx_get]; exact e0) ?_
  refine R_run hg.ok 1000 rfl rfl ?_
  refine R_if rfl rfl (fun _=>?_) (fun h=>absurd h (by simp; omega)) <;> refine R_run hg.ok 1000 rfl rfl ?_
  refine R_ret hg 5 rfl rfl ?_
  exact hb
 refine R_if rfl rfl (fun h1=>?_) (fun h1=>?_) <;> refine R_run hg.ok 1000 rfl rfl ?_
 all_goals
  try
   have h1:1<D.length:=by have:=of_decide_eq_true h1; rw [Tx_size] at this; omega
   have e0:D[0]? = some D[0]:=List.getElem?_eq_getElem (by omega)
   have h48:¬ D[0].toNat=48:=fun e=>h0 ⟨h1,by rw [e0]; simp [e]⟩
   refine R_indexS hg.ok rfl rfl rfl rfl rfl (by decide) (b:=D[0]) (by rw [Tx_get]; exact e0) ?_
   refine R_run hg.ok 1000 rfl rfl ?_
   refine R_if rfl rfl (fun h=>absurd h (by simp; omega)) (fun _=>?_) <;> refine R_run hg.ok 1000 rfl rfl ?_
 all_goals
  refine R_loop (fun x:Nat × Nat=>([(0,txA D),(4,iV x.2),(16,iV D.length),(17,iV x.1)],[])) (fun x=>x.1≤D.length∧x.2=valN 0 (D.take x.1)∧x.2≤9223372036854775807) (fun x=>D.length - x.1) (0,0) ⟨Nat.zero_le _,rfl,by simp⟩ ⟨.refl _,.refl _,Ent.int (by rw [Tx_size]),.refl _,trivial⟩ rfl ?_
  rintro ⟨k,n⟩ ⟨hk,hn,hb⟩
  simp only at hk hn hb
  refine R_run hg.ok 1000 rfl rfl ?_
  refine R_if rfl rfl (fun h=>?_) (fun h=>?_) <;> refine R_run hg.ok 1000 rfl rfl ?_
  ·have hk1:k<D.length:=lt_dec h rfl
   have e1:D[k]? = some D[k]:=List.getElem?_eq_getElem hk1
   have hdk:dgC D[k]=true:=List.all_eq_true.1 hd _ (List.getElem_mem hk1)
   have htk:D.take (k+1)=D.take k++[D[k]]:=by rw [List.take_add_one,e1]; rfl
   have hv:valN 0 (D.take (k+1))=10 * n+(D[k].toNat - 48):=by rw [htk,valN_snoc,hn]
   have hmono:valN 0 (D.take (k+1))≤valN 0 D:=by
    have:=valN_mono (D.take (k+1)) (D.drop (k+1))
    rwa [List.take_append_drop] at this
   have hd9:D[k].toNat - 48≤9:=by simp only [dgC,Bool.and_eq_true,decide_eq_true_eq] at hdk; omega
   refine R_indexS hg.ok rfl rfl rfl rfl rfl (Int.natCast_nonneg k) (b:=D[k]) (by rw [Tx_get]; exact e1) ?_
   refine R_run hg.ok 1000 rfl rfl ?_
   rw [w8sub hdk]
   generalize D[k].toNat - 48=d at hv hd9
   rw [w64 (n:=((d:Nat):Int)) (by omega) (by omega),w64 (n:=9223372036854775807 - (d:Int)) (by omega) (by omega)]
   refine R_quo hg.ok rfl rfl rfl rfl (by decide) ?_
   refine R_run hg.ok 1000 rfl rfl ?_
   rw [Int.tdiv_eq_ediv_of_nonneg (by omega),w64 (n:=(9223372036854775807 - (d:Int)) / 10) (by omega) (by omega)]
   refine R_if rfl rfl (fun h2=>?_) (fun h2=>?_) <;> refine R_run hg.ok 1000 rfl rfl ?_
   ·have h2:=of_decide_eq_true h2
    refine R_ret hg 5 rfl rfl ?_
    refine bad ?_
    unfold numT
    rw [if_pos (.inr (by omega))]
   ·have h2:=of_decide_eq_false h2
    rw [w64 (n:=10 * (n:Int)) (by omega) (by omega),w64 (n:=10 * (n:Int)+(d:Int)) (by omega) (by omega),show 10 * (n:Int)+(d:Int)=((10 * n+d:Nat):Int) by omega]
    exact R_next (k+1,10 * n+d) ⟨hk1,hv.symm,by simp only; omega⟩ (by simp only; omega) ⟨.refl _,.refl _,.refl _,Ent.wrap (by simp only; omega) (by simp only; omega) (by simp only; omega),trivial⟩ rfl
  ·have hk1:D.length≤k:=ge_dec h rfl
   rw [List.take_of_length_le hk1] at hn
   refine R_ret hg 5 rfl rfl ?_
   refine ok n ?_
   unfold numT
   rw [if_neg (by rw [← hn]; rintro (g | g); exact h0 g; omega),hn]
end Go.Proofs.YtcgkgofmldhokaaGreat

namespace Go.Proofs.YtcgkgofmldhokaaGreat
open Go PSL Go.Proofs
def namR (L:Bs) (kind:Int) (text:Bs) (i to:Nat):Tk × Nat × Bool:=(⟨kind,text,0,i,opnB L to⟩,to,namB text)

def nextR (L:Bs) (i:Nat) (c:UInt8):Tk × Nat × Bool :=
 if lowC c then namR L 1 (cutB L i (runB folC L i)) i (runB folC L i)
 else if grtC c then namR L 2 (cutB L i (runB folC L i)) i (runB folC L i)
 else if dgC c then (⟨3,cutB L i (runB dgC L i),(numP (cutB L i (runB dgC L i))).1,i,false⟩,runB dgC L i,(numP (cutB L i (runB dgC L i))).2)
 else if c.toNat=39 then ((namR L 1 (quoR L i).1 i (quoR L i).2.1).1,(quoR L i).2.1,(quoR L i).2.2&&namB (quoR L i).1)
 else if c.toNat=91∧(L[i+1]?.map UInt8.toNat)=some 93 then namR L 1 [91,93] i (i+2)
 else if c.toNat=33∨c.toNat=59 then namR L 1 [c] i (i+1)
 else if mrkC c then (⟨4,[c],0,i,false⟩,i+1,true)
 else if runB sgnC L i=i+1∧c.toNat=46∧endAft L (i+1) then (⟨5,[46],0,i,false⟩,i+1,true)
 else namR L 1 (cutB L i (runB sgnC L i)) i (runB sgnC L i)
def zTk:Ob:=.box [.d (.v (.int .i64 0)),.d (.v (.string ByteArray.empty)),.d (.v (.int .i64 0)),.d (.v (.int .i64 0)),.d (.v (.bool false))]
def pfNext:Nat→Cls:=fun f=>bif Nat.beq f 4000200002 then .turn 101 else bif Nat.beq f 4000100192 then .look 102 else .eff

theorem take_run (p:UInt8→Bool):∀ l:Bs,l.take (l.takeWhile p).length=l.takeWhile p∧(l.takeWhile p).all p=true
 | []=>by simp
 | c::l=>by
  by_cases h:p c=true
  ·obtain ⟨h1,h2⟩:=take_run p l
   rw [List.takeWhile_cons_of_pos h,List.length_cons,List.take_succ_cons,h1,List.all_cons,h,h2]
   exact ⟨rfl,rfl⟩
  ·rw [List.takeWhile_cons_of_neg h]; exact ⟨rfl,rfl⟩

theorem run_all {p:UInt8→Bool} {L:Bs} {i:Nat}:(cutB L i (runB p L i)).all p=true:=by
 unfold cutB runB
 rw [Nat.add_sub_cancel_left,(take_run p (L.drop i)).1]
 exact (take_run p (L.drop i)).2

theorem enc_ascii {c:UInt8} (h:c.toNat<128):Utf8.encode (c.toNat:Int)=Tx [c]:=by
 unfold Utf8.encode
 have hv:Utf8.valid (c.toNat:Int)=true:=by simp [Utf8.valid]; omega
 simp only [hv,if_true,Int.toNat_natCast]
 rw [if_pos (by omega)]
 simp [Tx]

set_option maxHeartbeats 1600000 in
set_option maxHeartbeats 1600000 in
set_option maxRecDepth 100000 in
theorem next_walk (Y:YP) (L:Bs) (i:Nat) (c:UInt8) (hc:L[i]? = some c) (hL:L.length≤9000):SCtr Tryz.prog Y 116 [.lo 0 0] (cutO L i) (.tup [tkA (nextR L i c).1,iV (nextR L i c).2.1,bV (nextR L i c).2.2]) (cutO L i):=by
 refine SCtr.of_R (pf:=pfNext) tyOk mixed Tryz.func116 rfl (by kernel_rfl) (by kernel_rfl) (by simp [Tryz.ntmps116]) (by simp [cutO]) fun w S φ hg=>?_
 have hφ:φ.length=1:=hg.hs0.len
 have hi:=(List.getElem?_eq_some_iff.1 hc).1
 have fin:∀ {t:Tk} {to:Nat} {b:Bool},nextR L i c=(t,to,b)→AV.tup [tkA t,iV to,bV b]=.tup [tkA (nextR L i c).1,iV (nextR L i c).2.1,bV (nextR L i c).2.2]:=fun h=>by rw [h]
 have hrun:=fun (p:UInt8→Bool)=>runB_le (p:=p) (L:=L) (i:=i) (by omega)
 refine R_run hg.ok 1000 rfl rfl ?_
 refine R_indexS hg.ok rfl rfl rfl rfl rfl (Int.natCast_nonneg i) (b:=c) (by rw [Tx_get]; exact hc) ?_
 refine R_run hg.ok 1000 rfl rfl ?_
 refine R_call hg.ok (low_ok c) rfl rfl rfl rfl rfl rfl ?_
 refine R_run hg.ok 1000 rfl rfl ?_
 refine R_if rfl rfl (fun h1=>?_) (fun h1=>?_) <;> refine R_run hg.ok 1000 rfl rfl ?_
 ·have hr:=hrun folC
  have hcall:=run_walk Y 138 folC follows_ok L i i (by omega) hL
  generalize hto:runB folC L i=to at hr hcall
  refine R_callSO hg.ok hg.gup hg.wide hg.Y [0] (cutO L i++[zTk]) hcall (fun _=>rfl) rfl rfl rfl rfl rfl rfl rfl rfl ?_
  refine R_run hg.ok 1000 rfl rfl ?_
  refine R_call hg.ok (low_ok c) rfl rfl rfl rfl rfl rfl ?_
  refine R_run hg.ok 1000 rfl rfl ?_
  refine R_if rfl rfl (fun _=>?_) (fun h=>absurd h (by simp [h1])) <;> refine R_run hg.ok 1000 rfl rfl ?_
  refine R_sliceS hg.ok rfl rfl rfl (l:=(i:Int)) (h:=(to:Int)) rfl rfl rfl (Int.natCast_nonneg i) (by omega) (by rw [Tx_size]; omega) ?_
  rw [Tx_cut,show (L.drop ((i:Int)).toNat).take (((to:Int)).toNat - ((i:Int)).toNat)=cutB L i to from rfl]
  refine R_run hg.ok 1000 rfl rfl ?_
  refine R_callSO hg.ok hg.gup hg.wide hg.Y [0] (cutO L i++[zTk]) (named_walk Y L i 1 (cutB L i to) to (by omega) hL (by omega)) (fun _=>rfl) rfl rfl rfl rfl rfl rfl rfl rfl ?_
  refine R_run hg.ok 1000 rfl rfl ?_
  refine R_storeJ hg.ok rfl rfl rfl rfl rfl rfl rfl rfl rfl ?_
  refine R_run hg.ok 1000 rfl rfl ?_
  rw [← fin (t:=⟨1,(cutB L i to),0,i,opnB L to⟩) (to:=to) (b:=namB (cutB L i to)) (by unfold nextR; rw [if_pos h1,hto]; rfl)]
  exact R_retS hg 1 5 (Nat.le_refl _) rfl rfl rfl
 refine R_call hg.ok (great_ok c) rfl rfl rfl rfl rfl rfl ?_
 refine R_run hg.ok 1000 rfl rfl ?_
 refine R_if rfl rfl (fun h2=>?_) (fun h2=>?_) <;> refine R_run hg.ok 1000 rfl rfl ?_
 ·have hr:=hrun folC
  have hcall:=run_walk Y 138 folC follows_ok L i i (by omega) hL
  generalize hto:runB folC L i=to at hr hcall
  refine R_callSO hg.ok hg.gup hg.wide hg.Y [0] (cutO L i++[zTk]) hcall (fun _=>rfl) rfl rfl rfl rfl rfl rfl rfl rfl ?_
  refine R_run hg.ok 1000 rfl rfl ?_
  refine R_call hg.ok (low_ok c) rfl rfl rfl rfl rfl rfl ?_
  refine R_run hg.ok 1000 rfl rfl ?_
  refine R_if rfl rfl (fun h=>absurd h (by simp [h1])) (fun _=>?_) <;> refine R_run hg.ok 1000 rfl rfl ?_
  refine R_sliceS hg.ok rfl rfl rfl (l:=(i:Int)) (h:=(to:Int)) rfl rfl rfl (Int.natCast_nonneg i) (by omega) (by rw [Tx_size]; omega) ?_
  rw [Tx_cut,show (L.drop ((i:Int)).toNat).take (((to:Int)).toNat - ((i:Int)).toNat)=cutB L i to from rfl]
  refine R_run hg.ok 1000 rfl rfl ?_
  refine R_callSO hg.ok hg.gup hg.wide hg.Y [0] (cutO L i++[zTk]) (named_walk Y L i 2 (cutB L i to) to (by omega) hL (by omega)) (fun _=>rfl) rfl rfl rfl rfl rfl rfl rfl rfl ?_
  refine R_run hg.ok 1000 rfl rfl ?_
  refine R_storeJ hg.ok rfl rfl rfl rfl rfl rfl rfl rfl rfl ?_
  refine R_run hg.ok 1000 rfl rfl ?_
  rw [← fin (t:=⟨2,(cutB L i to),0,i,opnB L to⟩) (to:=to) (b:=namB (cutB L i to)) (by unfold nextR; rw [if_neg (by rw [h1]; simp),if_pos h2,hto]; rfl)]
  exact R_retS hg 1 5 (Nat.le_refl _) rfl rfl rfl
 have n1:¬ lowC c=true:=by rw [h1]; simp
 have n2:¬ grtC c=true:=by rw [h2]; simp
 refine R_call hg.ok (digit_ok c) rfl rfl rfl rfl rfl rfl ?_
 refine R_run hg.ok 1000 rfl rfl ?_
 refine R_if rfl rfl (fun h3=>?_) (fun h3=>?_) <;> refine R_run hg.ok 1000 rfl rfl ?_
 ·have hr:=hrun dgC
  have hcall:=run_walk Y 140 dgC digit_ok L i i (by omega) hL
  generalize hto:runB dgC L i=to at hr hcall
  refine R_callSO hg.ok hg.gup hg.wide hg.Y [0] (cutO L i++[zTk]) hcall (fun _=>rfl) rfl rfl rfl rfl rfl rfl rfl rfl ?_
  refine R_run hg.ok 1000 rfl rfl ?_
  have hall:=run_all (p:=dgC) (L:=L) (i:=i)
  rw [hto] at hall
  have hcl:=cutB_len (L:=L) hr.1 hr.2
  refine R_sliceS hg.ok rfl rfl rfl (l:=(i:Int)) (h:=(to:Int)) rfl rfl rfl (Int.natCast_nonneg i) (by omega) (by rw [Tx_size]; omega) ?_
  rw [Tx_cut,show (L.drop ((i:Int)).toNat).take (((to:Int)).toNat - ((i:Int)).toNat)=cutB L i to from rfl]
  refine R_run hg.ok 1000 rfl rfl ?_
  refine R_call hg.ok (number_ok (cutB L i to) hall (by omega)) rfl rfl rfl rfl rfl rfl ?_
  refine R_run hg.ok 1000 rfl rfl ?_
  refine R_sliceS hg.ok rfl rfl rfl (l:=(i:Int)) (h:=(to:Int)) rfl rfl rfl (Int.natCast_nonneg i) (by omega) (by rw [Tx_size]; omega) ?_
  rw [Tx_cut,show (L.drop ((i:Int)).toNat).take (((to:Int)).toNat - ((i:Int)).toNat)=cutB L i to from rfl]
  refine R_run hg.ok 1000 rfl rfl ?_
  refine R_storeJ hg.ok rfl rfl rfl rfl rfl rfl rfl rfl rfl ?_
  refine R_run hg.ok 1000 rfl rfl ?_
  rw [← fin (t:=⟨3,cutB L i to,(numP (cutB L i to)).1,i,false⟩) (to:=to) (b:=(numP (cutB L i to)).2) (by unfold nextR; rw [if_neg n1,if_neg n2,if_pos h3,hto])]
  exact R_retS hg 1 5 (Nat.le_refl _) rfl rfl rfl
 have n3:¬ dgC c=true:=by rw [h3]; simp
 refine R_if rfl rfl (fun h4=>?_) (fun h4=>?_) <;> refine R_run hg.ok 1000 rfl rfl ?_
 ·have h4:c.toNat=39:=by simp at h4; omega
  have hq:=quoted_walk Y L i hi hL
  have hqle:(quoR L i).2.1≤L.length:=by
   unfold quoR
   cases hqq:quo (L.drop (i+1)) with
   | none=>simp
   | some x=>have:=quo_len _ _ (Nat.le_refl _) x.1 x.2 hqq; rw [List.length_drop] at this; simp only; omega
  have hn:nextR L i c=(⟨1,(quoR L i).1,0,i,opnB L (quoR L i).2.1⟩,(quoR L i).2.1,(quoR L i).2.2&&namB (quoR L i).1):=by
   unfold nextR; rw [if_neg n1,if_neg n2,if_neg n3,if_pos h4]; rfl
  generalize quoR L i=q at hq hqle hn
  obtain ⟨text,to,ok⟩:=q
  simp only at hqle hn
  refine R_callSO hg.ok hg.gup hg.wide hg.Y [0] (cutO L i++[zTk]) hq (fun _=>rfl) rfl rfl rfl rfl rfl rfl rfl rfl ?_
  refine R_run hg.ok 1000 rfl rfl ?_
  refine R_callSO hg.ok hg.gup hg.wide hg.Y [0] (cutO L i++[zTk]) (named_walk Y L i 1 text to hqle hL (by omega)) (fun _=>rfl) rfl rfl rfl rfl rfl rfl rfl rfl ?_
  refine R_run hg.ok 1000 rfl rfl ?_
  refine R_if rfl rfl (fun h5=>?_) (fun h5=>?_) <;> refine R_run hg.ok 1000 rfl rfl ?_
  ·have h5:ok=true:=h5
   refine R_storeJ hg.ok rfl rfl rfl rfl rfl rfl rfl rfl rfl ?_
   refine R_run hg.ok 1000 rfl rfl ?_
   rw [← fin (t:=⟨1,text,0,i,opnB L to⟩) (to:=to) (b:=namB text) (by rw [hn,h5]; simp)]
   exact R_retS hg 1 5 (Nat.le_refl _) rfl rfl rfl
  ·have h5:ok=false:=h5
   refine R_storeJ hg.ok rfl rfl rfl rfl rfl rfl rfl rfl rfl ?_
   refine R_run hg.ok 1000 rfl rfl ?_
   rw [← fin (t:=⟨1,text,0,i,opnB L to⟩) (to:=to) (b:=false) (by rw [hn,h5]; simp)]
   exact R_retS hg 1 5 (Nat.le_refl _) rfl rfl rfl
 have n4:¬ c.toNat=39:=by simp at h4; omega
 by_cases h5:c.toNat=91∧(L[i+1]?.map UInt8.toNat)=some 93
 ·obtain ⟨d,hd,hd93⟩:∃ d,L[i+1]? = some d∧d.toNat=93:=by
   have:=h5.2
   cases hx:L[i+1]? with
   | none=>rw [hx] at this; simp at this
   | some d=>rw [hx] at this; exact ⟨d,rfl,by simpa using this⟩
  have hi1:=(List.getElem?_eq_some_iff.1 hd).1
  refine R_if rfl rfl (fun _=>?_) (fun h=>absurd h (by simp; omega)) <;> refine R_run hg.ok 1000 rfl rfl ?_
  rw [w64 (n:=(i:Int)+1) (by omega) (by omega),show (i:Int)+1=((i+1:Nat):Int) by omega]
  refine R_if rfl rfl (fun _=>?_) (fun h=>absurd h (by simp [Tx_size]; omega)) <;> refine R_run hg.ok 1000 rfl rfl ?_
  rw [w64 (n:=(i:Int)+1) (by omega) (by omega),show (i:Int)+1=((i+1:Nat):Int) by omega]
  refine R_indexS hg.ok rfl rfl rfl rfl rfl (Int.natCast_nonneg (i+1)) (b:=d) (by rw [Tx_get]; exact hd) ?_
  refine R_run hg.ok 1000 rfl rfl ?_
  refine R_if rfl rfl (fun _=>?_) (fun h=>absurd h (by simp; omega)) <;> refine R_run hg.ok 1000 rfl rfl ?_
  rw [w64 (n:=(i:Int)+2) (by omega) (by omega),show (i:Int)+2=((i+2:Nat):Int) by omega]
  refine R_callSO hg.ok hg.gup hg.wide hg.Y [0] (cutO L i++[zTk]) (named_walk Y L i 1 [91,93] (i+2) (by omega) hL (by omega)) (fun _=>rfl) rfl rfl rfl rfl rfl rfl rfl rfl ?_
  refine R_run hg.ok 1000 rfl rfl ?_
  refine R_storeJ hg.ok rfl rfl rfl rfl rfl rfl rfl rfl rfl ?_
  refine R_run hg.ok 1000 rfl rfl ?_
  rw [← fin (t:=⟨1,[91,93],0,i,opnB L (i+2)⟩) (to:=i+2) (b:=namB [91,93]) (by unfold nextR; rw [if_neg n1,if_neg n2,if_neg n3,if_neg n4,if_pos h5]; rfl)]
  exact R_retS hg 1 5 (Nat.le_refl _) rfl rfl rfl
 have n5:=h5
 refine R_if rfl rfl (fun h6=>?_) (fun h6=>?_) <;> refine R_run hg.ok 1000 rfl rfl ?_
 ·have h6:c.toNat=91:=by simp at h6; omega
  have tail:mrkC c=true:=by have e:c=91:=UInt8.toNat_inj.1 h6; rw [e]; decide
  rw [w64 (n:=(i:Int)+1) (by omega) (by omega),show (i:Int)+1=((i+1:Nat):Int) by omega]
  refine R_if rfl rfl (fun h7=>?_) (fun h7=>?_) <;> refine R_run hg.ok 1000 rfl rfl ?_
  ·have hi1:i+1<L.length:=lt_dec h7 (by rw [Tx_size])
   rw [w64 (n:=(i:Int)+1) (by omega) (by omega),show (i:Int)+1=((i+1:Nat):Int) by omega]
   refine R_indexS hg.ok rfl rfl rfl rfl rfl (Int.natCast_nonneg (i+1)) (b:=L[i+1]) (by rw [Tx_get]; exact List.getElem?_eq_getElem hi1) ?_
   refine R_run hg.ok 1000 rfl rfl ?_
   refine R_if rfl rfl (fun h=>absurd h (by have h9:¬ L[i+1].toNat=93:=fun g=>n5 ⟨h6,by rw [List.getElem?_eq_getElem hi1]; simpa using g⟩; simp; omega)) (fun _=>?_) <;> refine R_run hg.ok 1000 rfl rfl ?_
   refine R_if rfl rfl (fun h=>absurd h (by simp; omega)) (fun _=>?_) <;> refine R_run hg.ok 1000 rfl rfl ?_
   refine R_if rfl rfl (fun h=>absurd h (by simp; omega)) (fun _=>?_) <;> refine R_run hg.ok 1000 rfl rfl ?_
   refine R_call hg.ok (among_ok mrkL (by decide) c) rfl rfl rfl rfl rfl rfl ?_
   refine R_run hg.ok 1000 rfl rfl ?_
   refine R_if rfl rfl (fun _=>?_) (fun h=>absurd h (by rw [show mrkL.contains c=true from tail]; simp)) <;> refine R_run hg.ok 1000 rfl rfl ?_
   refine R_convB hg.ok (Tx [c]) rfl rfl rfl rfl rfl (enc_ascii (by omega)) ?_
   refine R_run hg.ok 1000 rfl rfl ?_
   refine R_loadJ hg.ok 101 (by simp [mayO,len]) rfl rfl rfl rfl rfl rfl rfl ?_
   refine R_run hg.ok 1000 rfl rfl ?_
   rw [w64 (n:=(i:Int)+1) (by omega) (by omega),show (i:Int)+1=((i+1:Nat):Int) by omega]
   refine R_storeJ hg.ok rfl rfl rfl rfl rfl rfl rfl rfl rfl ?_
   refine R_run hg.ok 1000 rfl rfl ?_
   rw [← fin (t:=⟨4,[c],0,i,false⟩) (to:=i+1) (b:=true) (by unfold nextR; rw [if_neg n1,if_neg n2,if_neg n3,if_neg n4,if_neg n5,if_neg (by omega),if_pos tail])]
   exact R_retS hg 1 5 (Nat.le_refl _) rfl rfl rfl
  ·have:=h7
   refine R_if rfl rfl (fun h=>absurd h (by simp; omega)) (fun _=>?_) <;> refine R_run hg.ok 1000 rfl rfl ?_
   refine R_if rfl rfl (fun h=>absurd h (by simp; omega)) (fun _=>?_) <;> refine R_run hg.ok 1000 rfl rfl ?_
   refine R_call hg.ok (among_ok mrkL (by decide) c) rfl rfl rfl rfl rfl rfl ?_
   refine R_run hg.ok 1000 rfl rfl ?_
   refine R_if rfl rfl (fun _=>?_) (fun h=>absurd h (by rw [show mrkL.contains c=true from tail]; simp)) <;> refine R_run hg.ok 1000 rfl rfl ?_
   refine R_convB hg.ok (Tx [c]) rfl rfl rfl rfl rfl (enc_ascii (by omega)) ?_
   refine R_run hg.ok 1000 rfl rfl ?_
   refine R_loadJ hg.ok 101 (by simp [mayO,len]) rfl rfl rfl rfl rfl rfl rfl ?_
   refine R_run hg.ok 1000 rfl rfl ?_
   rw [w64 (n:=(i:Int)+1) (by omega) (by omega),show (i:Int)+1=((i+1:Nat):Int) by omega]
   refine R_storeJ hg.ok rfl rfl rfl rfl rfl rfl rfl rfl rfl ?_
   refine R_run hg.ok 1000 rfl rfl ?_
   rw [← fin (t:=⟨4,[c],0,i,false⟩) (to:=i+1) (b:=true) (by unfold nextR; rw [if_neg n1,if_neg n2,if_neg n3,if_neg n4,if_neg n5,if_neg (by omega),if_pos tail])]
   exact R_retS hg 1 5 (Nat.le_refl _) rfl rfl rfl
 refine R_if rfl rfl (fun h8=>?_) (fun h8=>?_) <;> refine R_run hg.ok 1000 rfl rfl ?_
 ·have h8:c.toNat=33:=by simp at h8; omega
  refine R_convB hg.ok (Tx [c]) rfl rfl rfl rfl rfl (enc_ascii (by omega)) ?_
  refine R_run hg.ok 1000 rfl rfl ?_
  rw [w64 (n:=(i:Int)+1) (by omega) (by omega),show (i:Int)+1=((i+1:Nat):Int) by omega]
  refine R_callSO hg.ok hg.gup hg.wide hg.Y [0] (cutO L i++[zTk]) (named_walk Y L i 1 [c] (i+1) (by omega) hL (by omega)) (fun _=>rfl) rfl rfl rfl rfl rfl rfl rfl rfl ?_
  refine R_run hg.ok 1000 rfl rfl ?_
  refine R_storeJ hg.ok rfl rfl rfl rfl rfl rfl rfl rfl rfl ?_
  refine R_run hg.ok 1000 rfl rfl ?_
  rw [← fin (t:=⟨1,[c],0,i,opnB L (i+1)⟩) (to:=i+1) (b:=namB [c]) (by unfold nextR; rw [if_neg n1,if_neg n2,if_neg n3,if_neg n4,if_neg n5,if_pos (.inl h8)]; rfl)]
  exact R_retS hg 1 5 (Nat.le_refl _) rfl rfl rfl
 refine R_if rfl rfl (fun h9=>?_) (fun h9=>?_) <;> refine R_run hg.ok 1000 rfl rfl ?_
 ·have h9:c.toNat=59:=by simp at h9; omega
  refine R_convB hg.ok (Tx [c]) rfl rfl rfl rfl rfl (enc_ascii (by omega)) ?_
  refine R_run hg.ok 1000 rfl rfl ?_
  rw [w64 (n:=(i:Int)+1) (by omega) (by omega),show (i:Int)+1=((i+1:Nat):Int) by omega]
  refine R_callSO hg.ok hg.gup hg.wide hg.Y [0] (cutO L i++[zTk]) (named_walk Y L i 1 [c] (i+1) (by omega) hL (by omega)) (fun _=>rfl) rfl rfl rfl rfl rfl rfl rfl rfl ?_
  refine R_run hg.ok 1000 rfl rfl ?_
  refine R_storeJ hg.ok rfl rfl rfl rfl rfl rfl rfl rfl rfl ?_
  refine R_run hg.ok 1000 rfl rfl ?_
  rw [← fin (t:=⟨1,[c],0,i,opnB L (i+1)⟩) (to:=i+1) (b:=namB [c]) (by unfold nextR; rw [if_neg n1,if_neg n2,if_neg n3,if_neg n4,if_neg n5,if_pos (.inr h9)]; rfl)]
  exact R_retS hg 1 5 (Nat.le_refl _) rfl rfl rfl
 have n6:¬ (c.toNat=33∨c.toNat=59):=by simp at h8 h9; omega
 by_cases tail:mrkC c=true
 ·have h128:c.toNat<128:=by
   have:=byte_all (p:=fun c=>!mrkC c || decide (c.toNat<128)) (by decide +kernel) c
   simpa [tail] using this
  refine R_call hg.ok (among_ok mrkL (by decide) c) rfl rfl rfl rfl rfl rfl ?_
  refine R_run hg.ok 1000 rfl rfl ?_
  refine R_if rfl rfl (fun _=>?_) (fun h=>absurd h (by rw [show mrkL.contains c=true from tail]; simp)) <;> refine R_run hg.ok 1000 rfl rfl ?_
  refine R_convB hg.ok (Tx [c]) rfl rfl rfl rfl rfl (enc_ascii (h128)) ?_
  refine R_run hg.ok 1000 rfl rfl ?_
  refine R_loadJ hg.ok 101 (by simp [mayO,len]) rfl rfl rfl rfl rfl rfl rfl ?_
  refine R_run hg.ok 1000 rfl rfl ?_
  rw [w64 (n:=(i:Int)+1) (by omega) (by omega),show (i:Int)+1=((i+1:Nat):Int) by omega]
  refine R_storeJ hg.ok rfl rfl rfl rfl rfl rfl rfl rfl rfl ?_
  refine R_run hg.ok 1000 rfl rfl ?_
  rw [← fin (t:=⟨4,[c],0,i,false⟩) (to:=i+1) (b:=true) (by unfold nextR; rw [if_neg n1,if_neg n2,if_neg n3,if_neg n4,if_neg n5,if_neg (by omega),if_pos tail])]
  exact R_retS hg 1 5 (Nat.le_refl _) rfl rfl rfl
 have n7:=tail
 refine R_call hg.ok (among_ok mrkL (by decide) c) rfl rfl rfl rfl rfl rfl ?_
 refine R_run hg.ok 1000 rfl rfl ?_
 refine R_if rfl rfl (fun h=>absurd h (by rw [show mrkL.contains c=false from by simpa [mrkC] using n7]; simp)) (fun _=>?_) <;> refine R_run hg.ok 1000 rfl rfl ?_
 have hr:=hrun sgnC
 have hcall:=run_walk Y 144 sgnC sign1_ok L i i (by omega) hL
 generalize hto:runB sgnC L i=to at hr hcall
 refine R_callSO hg.ok hg.gup hg.wide hg.Y [0] (cutO L i++[zTk]) hcall (fun _=>rfl) rfl rfl rfl rfl rfl rfl rfl rfl ?_
 refine R_run hg.ok 1000 rfl rfl ?_
 refine R_sliceS hg.ok rfl rfl rfl (l:=(i:Int)) (h:=(to:Int)) rfl rfl rfl (Int.natCast_nonneg i) (by omega) (by rw [Tx_size]; omega) ?_
 rw [Tx_cut,show (L.drop ((i:Int)).toNat).take (((to:Int)).toNat - ((i:Int)).toNat)=cutB L i to from rfl]
 refine R_run hg.ok 1000 rfl rfl ?_
 have hlen:=cutB_len (L:=L) hr.1 hr.2
 have hcut:(cutB L i to==[46])=true↔to=i+1∧c.toNat=46:=by
  rw [beq_iff_eq]
  have hd:L.drop i=c::L.drop (i+1):=by rw [List.drop_eq_getElem_cons hi,(List.getElem?_eq_some_iff.1 hc).2]
  constructor
  ·intro h
   rw [h] at hlen
   have e:to=i+1:=by simp only [List.length_singleton] at hlen; omega
   rw [e,cutB,hd,Nat.add_sub_cancel_left] at h
   simp only [List.take_succ_cons,List.take_zero,List.cons.injEq,and_true] at h
   exact ⟨e,by rw [h]; rfl⟩
  ·rintro ⟨e,h⟩
   have h:c=46:=UInt8.toNat_inj.1 h
   rw [e,cutB,hd,Nat.add_sub_cancel_left,h]; rfl
 have hdot:strEq (Tx (cutB L i to)) ⟨#[46]⟩=(cutB L i to==[46]):=Tx_eq _ _
 by_cases hE:to=i+1∧c.toNat=46
 ·have hb:=hcut.2 hE
  refine R_if rfl rfl (fun _=>?_) (fun h=>absurd h (by rw [hdot.trans hb]; simp)) <;> refine R_run hg.ok 1000 rfl rfl ?_
  obtain ⟨rfl,h46⟩:=hE
  have hE:i+1=i+1∧c.toNat=46:=⟨rfl,h46⟩
  refine R_if rfl rfl (fun h10=>?_) (fun h10=>?_) <;> refine R_run hg.ok 1000 rfl rfl ?_
  ·have h10:L.length=i+1:=by simp [Tx_size] at h10; omega
   have ea:endAft L (i+1)=true:=by unfold endAft; rw [List.getElem?_eq_none (by omega)]
   refine R_storeJ hg.ok rfl rfl rfl rfl rfl rfl rfl rfl rfl ?_
   refine R_run hg.ok 1000 rfl rfl ?_
   rw [← fin (t:=⟨5,[46],0,i,false⟩) (to:=i+1) (b:=true) (by unfold nextR; rw [if_neg n1,if_neg n2,if_neg n3,if_neg n4,if_neg n5,if_neg n6,if_neg n7,if_pos ⟨by rw [hto],hE.2,ea⟩])]
   exact R_retS hg 1 5 (Nat.le_refl _) rfl rfl rfl
  ·have h10:i+1<L.length:=by simp [Tx_size] at h10; omega
   have e1:L[i+1]? = some L[i+1]:=List.getElem?_eq_getElem h10
   have ea:endAft L (i+1)=(blkC L[i+1] || decide (L[i+1].toNat=37)):=by unfold endAft; rw [e1]
   generalize L[i+1]=d at e1 ea
   refine R_indexS hg.ok rfl rfl rfl rfl rfl (Int.natCast_nonneg (i+1)) (b:=d) (by rw [Tx_get]; exact e1) ?_
   refine R_run hg.ok 1000 rfl rfl ?_
   refine R_call hg.ok (blank_ok d) rfl rfl rfl rfl rfl rfl ?_
   refine R_run hg.ok 1000 rfl rfl ?_
   refine R_if rfl rfl (fun h11=>?_) (fun h11=>?_) <;> refine R_run hg.ok 1000 rfl rfl ?_
   ·refine R_storeJ hg.ok rfl rfl rfl rfl rfl rfl rfl rfl rfl ?_
    refine R_run hg.ok 1000 rfl rfl ?_
    rw [← fin (t:=⟨5,[46],0,i,false⟩) (to:=i+1) (b:=true) (by unfold nextR; rw [if_neg n1,if_neg n2,if_neg n3,if_neg n4,if_neg n5,if_neg n6,if_neg n7,if_pos ⟨by rw [hto],hE.2,by rw [ea,h11]; simp⟩])]
    exact R_retS hg 1 5 (Nat.le_refl _) rfl rfl rfl
   ·refine R_indexS hg.ok rfl rfl rfl rfl rfl (Int.natCast_nonneg (i+1)) (b:=d) (by rw [Tx_get]; exact e1) ?_
    refine R_run hg.ok 1000 rfl rfl ?_
    refine R_if rfl rfl (fun h12=>?_) (fun h12=>?_) <;> refine R_run hg.ok 1000 rfl rfl ?_
    ·have h12:d.toNat=37:=by simp at h12; omega
     refine R_storeJ hg.ok rfl rfl rfl rfl rfl rfl rfl rfl rfl ?_
     refine R_run hg.ok 1000 rfl rfl ?_
     rw [← fin (t:=⟨5,[46],0,i,false⟩) (to:=i+1) (b:=true) (by unfold nextR; rw [if_neg n1,if_neg n2,if_neg n3,if_neg n4,if_neg n5,if_neg n6,if_neg n7,if_pos ⟨by rw [hto],hE.2,by rw [ea,h12]; simp⟩])]
     exact R_retS hg 1 5 (Nat.le_refl _) rfl rfl rfl
    ·have h12:¬ d.toNat=37:=by simp at h12; omega
     have hno:endAft L (i+1)=false:=by rw [ea,h11]; simp [h12]
     refine R_sliceS hg.ok rfl rfl rfl (l:=(i:Int)) (h:=((i+1:Nat):Int)) rfl rfl rfl (Int.natCast_nonneg i) (by omega) (by rw [Tx_size]; omega) ?_
     rw [Tx_cut,show (L.drop ((i:Int)).toNat).take ((((i+1:Nat):Int)).toNat - ((i:Int)).toNat)=cutB L i (i+1) from rfl]
     refine R_run hg.ok 1000 rfl rfl ?_
     refine R_callSO hg.ok hg.gup hg.wide hg.Y [0] (cutO L i++[zTk]) (named_walk Y L i 1 (cutB L i (i+1)) (i+1) (by omega) hL (by omega)) (fun _=>rfl) rfl rfl rfl rfl rfl rfl rfl rfl ?_
     refine R_run hg.ok 1000 rfl rfl ?_
     refine R_storeJ hg.ok rfl rfl rfl rfl rfl rfl rfl rfl rfl ?_
     refine R_run hg.ok 1000 rfl rfl ?_
     rw [← fin (t:=⟨1,cutB L i (i+1),0,i,opnB L (i+1)⟩) (to:=i+1) (b:=namB (cutB L i (i+1))) (by unfold nextR; rw [if_neg n1,if_neg n2,if_neg n3,if_neg n4,if_neg n5,if_neg n6,if_neg n7,if_neg (by rw [hto]; rintro ⟨_,_,h⟩; rw [hno] at h; cases h),hto]; rfl)]
     exact R_retS hg 1 5 (Nat.le_refl _) rfl rfl rfl
 ·have hb:(cutB L i to==[46])=false:=by
   rw [Bool.eq_false_iff]; exact fun h=>hE (hcut.1 h)
  refine R_if rfl rfl (fun h=>absurd h (by rw [hdot.trans hb]; simp)) (fun _=>?_) <;> refine R_run hg.ok 1000 rfl rfl ?_
  refine R_sliceS hg.ok rfl rfl rfl (l:=(i:Int)) (h:=(to:Int)) rfl rfl rfl (Int.natCast_nonneg i) (by omega) (by rw [Tx_size]; omega) ?_
  rw [Tx_cut,show (L.drop ((i:Int)).toNat).take (((to:Int)).toNat - ((i:Int)).toNat)=cutB L i to from rfl]
  refine R_run hg.ok 1000 rfl rfl ?_
  refine R_callSO hg.ok hg.gup hg.wide hg.Y [0] (cutO L i++[zTk]) (named_walk Y L i 1 (cutB L i to) to (by omega) hL (by omega)) (fun _=>rfl) rfl rfl rfl rfl rfl rfl rfl rfl ?_
  refine R_run hg.ok 1000 rfl rfl ?_
  refine R_storeJ hg.ok rfl rfl rfl rfl rfl rfl rfl rfl rfl ?_
  refine R_run hg.ok 1000 rfl rfl ?_
  rw [← fin (t:=⟨1,cutB L i to,0,i,opnB L to⟩) (to:=to) (b:=namB (cutB L i to)) (by unfold nextR; rw [if_neg n1,if_neg n2,if_neg n3,if_neg n4,if_neg n5,if_neg n6,if_neg n7,if_neg (by rw [hto]; rintro ⟨h,h2,_⟩; exact hE ⟨h,h2⟩),hto]; rfl)]
  exact R_retS hg 1 5 (Nat.le_refl _) rfl rfl rfl
end Go.Proofs.YtcgkgofmldhokaaGreat

namespace Go.Proofs.YtcgkgofmldhokaaGreat
open Go PSL Go.Proofs

theorem one_next {L:Bs} {i:Nat} {c:UInt8} (hc:L[i]? = some c):oneT L i=if (nextR L i c).2.2=true then some ((nextR L i c).1,(nextR L i c).2.1) else none:=by
 have nm:∀ (kind:Int) (text:Bs) (to:Nat),nameT L kind text i to=if (namR L kind text i to).2.2=true then some ((namR L kind text i to).1,(namR L kind text i to).2.1) else none:=fun kind text to=>by simp [nameT,namR,namB]
 unfold oneT nextR
 rw [hc]
 simp only
 split
 ·exact nm _ _ _
 split
 ·exact nm _ _ _
 split
 ·unfold numP
  cases numT (cutB L i (runB dgC L i)) with
  | none=>rfl
  | some n=>rfl
 split
 ·unfold quoR
  cases quo (L.drop (i+1)) with
  | none=>rfl
  | some x=>obtain ⟨t,k⟩:=x; simp [nameT,namR,namB]
 split
 ·exact nm _ _ _
 split
 ·exact nm _ _ _
 split
 ·rfl
 split
 ·rfl
 ·exact nm _ _ _

def preE (out:List Tk):Except Nat (List Tk)→Except Nat (List Tk)
 | .ok l=>.ok (out++l)
 | .error j=>.error j

def toksP (f:Nat) (L:Bs) (i:Nat):Except Nat (List Tk):=if i<L.length then (match oneT L i with
   | none=>.error i
   | some (t,to)=>match toks f L to with
    | .ok l=>.ok (t::l)
    | .error j=>.error j) else .ok []
theorem toks_P (f:Nat) (L:Bs) (i:Nat):toks (f+1) L i=toksP f L (passN L i):=rfl

theorem preE_snoc (out:List Tk) (t:Tk) (e:Except Nat (List Tk)):preE (out++[t]) e=preE out (match e with
    | .ok l=>.ok (t::l)
    | .error j=>.error j):=by
 cases e with
 | ok l=>simp [preE]
 | error j=>rfl
def tkRows (l:List Tk):List (List D):=l.map tkD
theorem tkRows_len (l:List Tk):(tkRows l).length=l.length:=by simp [tkRows]
def tokR (L:Bs):AV:=.tup [.d (.sl (tkRows (tokT L).1)),iV (tokT L).2.1,iV (tokT L).2.2]

theorem tokR_ok {L:Bs} {l:List Tk} (hL:¬ 8000<L.length) (h:toks (L.length+1) L 0=.ok l):tokR L=.tup [.d (.sl (tkRows l)),iV 0,iV 0]:=by
 unfold tokR tokT; rw [if_neg hL,h]

theorem tokR_bad {L:Bs} {j:Nat} (hL:¬ 8000<L.length) (h:toks (L.length+1) L 0=.error j):tokR L=.tup [.d (.sl []),iV j,iV 2]:=by
 unfold tokR tokT; rw [if_neg hL,h]; rfl

set_option maxRecDepth 100000 in
theorem tokens_ok (L:Bs) (hL:L.length≤9000):PCtr Tryz.prog 93 [txA L] (tokR L):=by
 refine PCtr.of_R (pf:=fun _=>.eff) tyOk mixed Tryz.func93 rfl (by kernel_rfl) (by kernel_rfl) (by simp [Tryz.ntmps93]) fun w S hg=>?_
 refine R_run hg.ok 1000 rfl rfl ?_
 refine R_if rfl rfl (fun h=>?_) (fun h=>?_)
 ·refine R_run hg.ok 1000 rfl rfl ?_
  have h:8000<L.length:=by have:=of_decide_eq_true h; rw [Tx_size] at this; omega
  refine R_ret hg 5 rfl rfl ?_
  unfold tokR tokT
  rw [if_pos h]; rfl
 have hbig:¬ 8000<L.length:=by have:=of_decide_eq_false h; rw [Tx_size] at this; omega
 have hpass:=fun i=>pass_walk ⟨[],fun _=>true⟩ L i
 first
 | (refine R_run hg.ok 5 rfl rfl ?_; refine R_own 6 5 rfl rfl ?_)
 | (refine R_run hg.ok 6 rfl rfl ?_; refine R_own 6 5 rfl rfl ?_)
 | (refine R_run hg.ok 7 rfl rfl ?_; refine R_own 6 5 rfl rfl ?_)
 | (refine R_run hg.ok 8 rfl rfl ?_; refine R_own 6 5 rfl rfl ?_)
 | (refine R_run hg.ok 9 rfl rfl ?_; refine R_own 6 5 rfl rfl ?_)
 | (refine R_run hg.ok 10 rfl rfl ?_; refine R_own 6 5 rfl rfl ?_)
 | (refine R_run hg.ok 11 rfl rfl ?_; refine R_own 6 5 rfl rfl ?_)
 | (refine R_run hg.ok 12 rfl rfl ?_; refine R_own 6 5 rfl rfl ?_)
 | (refine R_run hg.ok 13 rfl rfl ?_; refine R_own 6 5 rfl rfl ?_)
 refine R_run hg.ok 1000 rfl rfl ?_
 refine R_callSO hg.ok hg.gup ⟨rfl,rfl⟩ (fun _ _ _ _ h=>by cases h) [0] (cutO L (passN L 0)++[.arr 5 0 []]) (hpass 0 (by omega) hL) (fun _=>rfl) rfl rfl rfl rfl rfl rfl rfl rfl ?_
 refine R_run hg.ok 1000 rfl rfl ?_
 have h0:toks (L.length+1) L 0=preE [] (toksP L.length L (passN L 0)):=by
  rw [toks_P]; cases toksP L.length L (passN L 0) <;> rfl
 refine R_loop (fun x:Nat × Nat × List Tk=>([(0,txA L),(5,.lo 0 0),(6,.ow 1 x.2.2.length)],cutO L x.2.1++[.arr 5 x.2.2.length (tkRows x.2.2)])) (fun x=>x.2.1≤L.length∧L.length - x.2.1≤x.1∧x.2.2.length≤x.2.1∧toks (L.length+1) L 0=preE x.2.2 (toksP x.1 L x.2.1)) (fun x=>L.length - x.2.1) (L.length,passN L 0,[]) ⟨(pass_le (by omega)).2,by simp only; omega,Nat.zero_le _,h0⟩ ⟨.refl _,.refl _,.refl _,trivial⟩ rfl ?_
 rintro ⟨f,i,out⟩ ⟨hi,hf,ho,hm⟩
 simp only at hi hf ho hm
 refine R_run hg.ok 1000 rfl rfl ?_
 refine R_if rfl rfl (fun h1=>?_) (fun h1=>?_) <;> refine R_run hg.ok 1000 rfl rfl ?_
 ·have h1:i<L.length:=lt_dec h1 (by rw [Tx_size])
  have hc:L[i]? = some L[i]:=List.getElem?_eq_getElem h1
  have hone:=one_next hc
  have hn:=next_walk ⟨[],fun _=>true⟩ L i L[i] hc hL
  have hP:toksP f L i=match oneT L i with
   | none=>.error i
   | some (t,to)=>match toks f L to with
    | .ok l=>.ok (t::l)
    | .error j=>.error j:=by unfold toksP; rw [if_pos h1]
  generalize nextR L i L[i]=q at hone hn
  obtain ⟨t,to,ok⟩:=q
  simp only at hone
  refine R_callSO hg.ok hg.gup ⟨rfl,rfl⟩ (fun _ _ _ _ h=>by cases h) [0] (cutO L i++[.arr 5 out.length (tkRows out)]) hn (fun _=>rfl) rfl rfl rfl rfl rfl rfl rfl rfl ?_
  refine R_run hg.ok 1000 rfl rfl ?_
  refine R_if rfl rfl (fun h2=>?_) (fun h2=>?_) <;> refine R_run hg.ok 1000 rfl rfl ?_
  ·have h2:ok=false:=by simpa using h2
   rw [h2,if_neg (by simp)] at hone
   rw [hone] at hP
   refine R_ret hg 5 rfl rfl ?_
   rw [tokR_bad hbig (j:=i) (by rw [hm,hP]; rfl)]
   rfl
  ·have h2:ok=true:=by simpa using h2
   rw [h2,if_pos rfl] at hone
   rw [hone] at hP
   have hto:=oneT_to hone
   simp only at hP
   have hf1:f=(f - 1)+1:=by omega
   rw [hf1,toks_P] at hP
   have hps:=pass_le (L:=L) (i:=to) hto.2
   refine R_appendO hg.ok (tkRows (out++[t])) rfl rfl rfl rfl rfl rfl rfl rfl rfl (by simp) (by simp [one1]) (by simp [tkRows,tkD]) (by rw [tkRows_len]; simp; omega) (by rw [tkRows_len]; simp; omega) ?_
   refine R_run hg.ok 1000 rfl rfl ?_
   refine R_callSO hg.ok hg.gup ⟨rfl,rfl⟩ (fun _ _ _ _ h=>by cases h) [0] (cutO L (passN L to)++[.arr 5 (out.length+1) (tkRows (out++[t])),.box [.d (.v (.int .i64 t.kind)),.d (.v (.string (Tx t.text))),.d (.v (.int .i64 t.n)),.d (.v (.int .i64 t.at_)),.d (.v (.bool t.opn))]]) (hpass to hto.2 hL) (fun _=>rfl) rfl rfl rfl rfl rfl rfl rfl rfl ?_
   refine R_run hg.ok 1000 rfl rfl ?_
   refine R_dropO 2 (cutO L (passN L to)++[.arr 5 (out.length+1) (tkRows (out++[t]))]) (Nat.zero_le _) rfl rfl ?_
   refine R_next (f - 1,passN L to,out++[t]) ⟨hps.2,by simp only; omega,by simp; omega,?_⟩ (by simp only; omega) ⟨.refl _,.refl _,by simp only [List.length_append,List.length_singleton]; exact .refl _,trivial⟩ (by simp only [List.length_append,List.length_singleton])
   simp only
   rw [hm,preE_snoc,← hP,← hf1]
 ·have h1:L.length≤i:=ge_dec h1 (by rw [Tx_size])
  refine R_ret hg 5 rfl (sealA_tup (mapO_cons (sealA_ow rfl) rfl)) ?_
  rw [tokR_ok hbig (l:=out) (by rw [hm]; unfold toksP; rw [if_neg (by omega)]; simp [preE])]
  rfl
end Go.Proofs.YtcgkgofmldhokaaGreat

namespace Go.Proofs.YtcgkgofmldhokaaGreat
open Go PSL Go.Proofs
def strRows (l:List Bs):List (List D):=l.map fun s=>[.v (.string (Tx s))]
theorem strRows_len (l:List Bs):(strRows l).length=l.length:=by simp [strRows]
theorem strRows_get {l:List Bs} {i:Nat} {s:Bs} (h:l[i]? = some s):(strRows l)[i]? = some [.v (.string (Tx s))]:=by simp [strRows,h]
theorem strRows_snoc (l:List Bs) (s:Bs):strRows l++[[.v (.string (Tx s))]]=strRows (l++[s]):=by simp [strRows]

def opV (x:Int × Int × Int):Value:=.agg #[.int .i64 x.1,.int .i64 x.2.1,.int .i64 x.2.2]
def tabD:List (Value × D):=opTab.map fun p=>(.string (Tx p.1),.v (opV p.2))
def tblV (mk:Bool):AV:=if mk then .d (.map tabD) else .d (.v (.map none))

def robj (S:Bs) (L:List Tk) (st:RSt) (deep:Int) (dn lk:Int) (mk:Bool):List Ob :=
 [.box [.d (.v (.string (Tx S))),.d (.sl (tkRows L)),iV st.at_,.ow 1 st.names.length,iV deep,iV st.bad,iV st.e,.d (.v (.int .u32 dn)),.d (.v (.int .i32 lk)),.d (.v (.int .u32 0)),tblV mk],.arr 1 st.names.length (strRows st.names)]

theorem robj_map {f:AV→AV} (S:Bs) (L:List Tk) (st:RSt) (deep dn lk:Int) (mk:Bool) (h1:∀ x,f (.d x)=.d x) (h2:f (.ow 1 st.names.length)=.ow 1 st.names.length):(robj S L st deep dn lk mk).map (mapOb f)=robj S L st deep dn lk mk:=by
 have h3:f (tblV mk)=tblV mk:=by unfold tblV; split <;> exact h1 _
 simp only [robj,List.map_cons,List.map_nil,mapOb,h2,h3,iV,h1]

theorem sealF_d (n0 n:Nat) (o:List Ob) (x:D):sealT false n0 o (n+1) (.d x)=.d x:=by
 unfold sealT
 split <;> first | rfl | (rename_i h; cases h; rfl) | (rename_i h; cases h)

theorem robj_keep (S:Bs) (L:List Tk) (st:RSt) (deep dn lk:Int) (mk:Bool) (n0:Nat) (o:List Ob) (hn:2≤n0):(robj S L st deep dn lk mk).map (mapOb (sealT false n0 o 5))=robj S L st deep dn lk mk :=
 robj_map S L st deep dn lk mk (fun x=>sealF_d n0 4 o x) (by
  show (bif Nat.ble (Nat.succ 1) n0 then _ else _)=_
  rw [show Nat.ble (Nat.succ 1) n0=true from Nat.ble_eq_true_of_le hn]; rfl)

theorem robj_ren (S:Bs) (L:List Tk) (st:RSt) (deep dn lk:Int) (mk:Bool) (i j n:Nat) (l:List Nat):(robj S L st deep dn lk mk).map (renOb (rn (i::j::l) n))=[.box [.d (.v (.string (Tx S))),.d (.sl (tkRows L)),iV st.at_,.ow j st.names.length,iV deep,iV st.bad,iV st.e,.d (.v (.int .u32 dn)),.d (.v (.int .i32 lk)),.d (.v (.int .u32 0)),tblV mk],.arr 1 st.names.length (strRows st.names)]:=by
 have h3:renA (rn (i::j::l) n) (tblV mk)=tblV mk:=by unfold tblV; split <;> rfl
 simp only [robj,List.map_cons,List.map_nil,renOb,renL,h3]; rfl

theorem atLoad (a:Addr) (x:Int) (w:World) (h:w.cell? a=some (.int .u32 x)):(callFunc 160 #[.pointer (some a)]).run Tryz.prog w=.ok (.value (.int .u32 x)) w :=
 run_call_load Tryz.func160 (by kernel_rfl) (by kernel_rfl) (by kernel_rfl) .u32 (by kernel_rfl) h
theorem raceOff (w:World):(callFunc 168 #[]).run Tryz.prog w=.ok (.value (.tuple #[])) w:=run_call_mark0 Tryz.func168 (by kernel_rfl) (by kernel_rfl) (by kernel_rfl) .disable (by kernel_rfl) w
theorem raceOn (w:World):(callFunc 170 #[]).run Tryz.prog w=.ok (.value (.tuple #[])) w:=run_call_mark0 Tryz.func170 (by kernel_rfl) (by kernel_rfl) (by kernel_rfl) .enable (by kernel_rfl) w
theorem raceAcq (a:Addr) (w:World):(callFunc 171 #[.pointer (some a)]).run Tryz.prog w=.ok (.value (.tuple #[])) w:=run_call_marked Tryz.func171 (by kernel_rfl) (by kernel_rfl) (by kernel_rfl) .acquire (by kernel_rfl) a w
theorem raceRel (a:Addr) (w:World):(callFunc 173 #[.pointer (some a)]).run Tryz.prog w=.ok (.value (.tuple #[])) w:=run_call_marked Tryz.func173 (by kernel_rfl) (by kernel_rfl) (by kernel_rfl) .releaseMerge (by kernel_rfl) a w

theorem atCas (a:Addr) (x y:Int) (w:World) (h:w.cell? a=some (.int .i32 x)) (hz:w.frozen? a=false):(callFunc 169 #[.pointer (some a),.int .i32 x,.int .i32 y]).run Tryz.prog w=.ok (.value (.bool true)) (w.setCell a (.int .i32 y)) :=
 run_call_cas_hit Tryz.func169 (by kernel_rfl) (by kernel_rfl) (by kernel_rfl) .i32 (by kernel_rfl) h hz

theorem atStore (a:Addr) (u:Value) (y:Int) (w:World) (h:w.cell? a=some u) (hz:w.frozen? a=false):(callFunc 166 #[.pointer (some a),.int .u32 y]).run Tryz.prog w=.ok (.value (.tuple #[])) (w.setCell a (.int .u32 y)) :=
 run_call_store Tryz.func166 (by kernel_rfl) (by kernel_rfl) (by kernel_rfl) (by kernel_rfl) h hz

theorem atAdd (a:Addr) (w:World) (h:w.cell? a=some (.int .i32 1)) (hz:w.frozen? a=false):(callFunc 174 #[.pointer (some a),.int .i32 (-1)]).run Tryz.prog w=.ok (.value (.int .i32 0)) (w.setCell a (.int .i32 0)) :=
 run_call_add Tryz.func174 (by kernel_rfl) (by kernel_rfl) (by kernel_rfl) .i32 (by kernel_rfl) h hz (by simp [go_sem]; rfl)
end Go.Proofs.YtcgkgofmldhokaaGreat
