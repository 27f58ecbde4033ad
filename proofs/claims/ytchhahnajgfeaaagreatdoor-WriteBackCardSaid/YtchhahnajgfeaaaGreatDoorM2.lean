import Derived.Test.YtchhahnajgfeaaaGreatDoorM1
import Derived.Test.YtchhahnajgfeaaaGreatDoorSTy
import Derived.Test.YtchhahnajgfeaaaGreatDoorRows
import Derived.ProofKit
import Derived.Handed
import Derived.HandedShaped
import Derived.Shelf.Vars
import Derived.OpenShut
import Derived.Lay
import Derived.LaidMore
import Derived.LaidHandle
import Derived.MakeChecks
import Derived.ChangeArms
import Derived.Lib.ItoaNum
import Derived.Lib.AppendStr
import Derived.Lib.UnsafeStr
import Derived.Lib.Builder
import Derived.Test.YtchhahnajgfeaaaGreatDoorShf
import Derived.Lib.Replace
import Derived.Lib.Join
import Derived.Test.YtchhahnajgfeaaaGreatDoorPslB
namespace PSL
open Go
namespace Tm

mutual
def occ:Tm→List Int
 | mk k _ n l=>if k=1 then [n] else occL l
def occL:List Tm→List Int
 | []=>[]
 | t::r=>occ t++occL r
end

mutual
theorem withV_occ:∀ (t:Tm) (a:List Int),withV a t=(occ t).foldl addV a
 | mk k s n l,a=>by
  simp only [withV,occ]
  split
  ·rfl
  ·exact withVL_occ l a
theorem withVL_occ:∀ (l:List Tm) (a:List Int),withVL a l=(occL l).foldl addV a
 | [],a=>rfl
 | t::r,a=>by simp only [withVL,occL,List.foldl_append,withV_occ t a,withVL_occ r]
end

theorem kindR_var {s:ByteArray} {n:Int} {m:Nat} (h:kindR 1 s n m=true):0≤n∧n<1000000∧s=ByteArray.empty∧m=0:=by
 simp only [kindR,if_true,Bool.and_eq_true,decide_eq_true_eq,strEq_iff,beq_iff_eq] at h
 obtain ⟨⟨⟨h1,h2⟩,h3⟩,h4⟩:=h
 exact ⟨h1,h2,h3,by omega⟩

mutual
theorem fair_plain:∀ (t:Tm),fairR t=true→plain t=true
 | mk k s n l,h=>by
  simp only [fairR,Bool.and_eq_true] at h
  simp only [plain,Bool.and_eq_true,fairL_plain l h.1.2,and_true,Bool.not_eq_true',Bool.and_eq_false_iff]
  by_cases hk:k=1
  ·subst hk
   have:=(kindR_var h.2).2.2.2
   right; cases l <;> simp at this ⊢
  ·left; simpa using hk
theorem fairL_plain:∀ (l:List Tm),fairRL l=true→plainL l=true
 | [],_=>rfl
 | t::r,h=>by
  simp only [fairRL,Bool.and_eq_true] at h
  simp only [plainL,fair_plain t h.1,fairL_plain r h.2,Bool.and_self]
end

mutual
theorem occ_range:∀ (t:Tm),fairR t=true→∀ v∈occ t,0≤v∧v<1000000
 | mk k s n l,h,v,hv=>by
  simp only [fairR,Bool.and_eq_true] at h
  simp only [occ] at hv
  split at hv
  ·rename_i hk
   subst hk
   simp at hv; subst hv
   have:=kindR_var h.2
   exact ⟨this.1,this.2.1⟩
  ·exact occL_range l h.1.2 v hv
theorem occL_range:∀ (l:List Tm),fairRL l=true→∀ v∈occL l,0≤v∧v<1000000
 | [],_,v,hv=>by simp [occL] at hv
 | t::r,h,v,hv=>by
  simp only [fairRL,Bool.and_eq_true] at h
  simp only [occL,List.mem_append] at hv
  exact hv.elim (occ_range t h.1 v) (occL_range r h.2 v)
end

mutual
theorem turn_congr {g g':Int→Int}:∀ (t:Tm),fairR t=true→(∀ v∈occ t,g v=g' v)→turnT g t=turnT g' t
 | mk k s n l,h,hv=>by
  simp only [fairR,Bool.and_eq_true] at h
  simp only [turnT]
  by_cases hk:k=1
  ·subst hk
   have hl:=(kindR_var h.2).2.2.2
   have hl:l=[]:=List.length_eq_zero_iff.1 hl
   subst hl
   rw [if_pos rfl,if_pos rfl,hv n (by simp [occ])]
   rfl
  ·rw [if_neg hk,if_neg hk,turnL_congr l h.1.2 fun v h'=>hv v (by simp only [occ,if_neg hk]; exact h')]
theorem turnL_congr {g g':Int→Int}:∀ (l:List Tm),fairRL l=true→(∀ v∈occL l,g v=g' v)→turnTL g l=turnTL g' l
 | [],_,_=>rfl
 | t::r,h,hv=>by
  simp only [fairRL,Bool.and_eq_true] at h
  simp only [turnTL]
  rw [turn_congr t h.1 fun v h'=>hv v (by simp [occL,h']),turnL_congr r h.2 fun v h'=>hv v (by simp [occL,h'])]
end

mutual
theorem turn_self:∀ (t:Tm),turnT (fun n=>n) t=t
 | mk k s n l=>by simp [turnT,turnL_self l]
theorem turnL_self:∀ (l:List Tm),turnTL (fun n=>n) l=l
 | []=>rfl
 | t::r=>by simp only [turnTL,turn_self t,turnL_self r]
end
theorem turnTL_len (g:Int→Int) (l:List Tm):(turnTL g l).length=l.length:=by rw [turnTL_map]; simp

mutual
theorem size_turn (g:Int→Int):∀ (t:Tm),size (turnT g t)=size t
 | mk k s n l=>by simp only [turnT,size,sizeL_turn g l]
theorem sizeL_turn (g:Int→Int):∀ (l:List Tm),sizeL (turnTL g l)=sizeL l
 | []=>rfl
 | t::r=>by simp only [turnTL,sizeL,size_turn g t,sizeL_turn g r]
end

mutual
theorem depth_turn (g:Int→Int):∀ (t:Tm),depth (turnT g t)=depth t
 | mk k s n l=>by simp only [turnT,depth,depthL_turn g l]
theorem depthL_turn (g:Int→Int):∀ (l:List Tm),depthL (turnTL g l)=depthL l
 | []=>rfl
 | t::r=>by simp only [turnTL,depthL,depth_turn g t,depthL_turn g r]
end

mutual
theorem fair_turn (g:Int→Int):∀ (t:Tm),fairR t=true→(∀ v∈occ t,0≤g v∧g v<1000000)→fairR (turnT g t)=true
 | mk k s n l,h,hv=>by
  simp only [fairR,Bool.and_eq_true] at h
  simp only [turnT,fairR,Bool.and_eq_true,turnTL_len]
  by_cases hk:k=1
  ·subst hk
   obtain ⟨_,_,h3,h4⟩:=kindR_var h.2
   have hl:l=[]:=List.length_eq_zero_iff.1 h4
   subst hl; subst h3
   obtain ⟨h5,h6⟩:=hv n (by simp [occ])
   refine ⟨⟨h.1.1,rfl⟩,?_⟩
   simp only [kindR,if_true,Bool.and_eq_true,decide_eq_true_eq]
   exact ⟨⟨⟨h5,h6⟩,strEq_iff.2 rfl⟩,by rfl⟩
  ·rw [if_neg hk]
   exact ⟨⟨h.1.1,fairL_turn g l h.1.2 fun v h'=>hv v (by simp only [occ,if_neg hk]; exact h')⟩,h.2⟩
theorem fairL_turn (g:Int→Int):∀ (l:List Tm),fairRL l=true→(∀ v∈occL l,0≤g v∧g v<1000000)→fairRL (turnTL g l)=true
 | [],_,_=>rfl
 | t::r,h,hv=>by
  simp only [fairRL,Bool.and_eq_true] at h
  simp only [turnTL,fairRL,Bool.and_eq_true]
  exact ⟨fair_turn g t h.1 fun v h'=>hv v (by simp [occL,h']),fairL_turn g r h.2 fun v h'=>hv v (by simp [occL,h'])⟩
end

theorem rightB_iff {t:Tm}:rightB t=true↔fairR t=true∧t.size≤3000∧t.depth≤100:=by
 simp only [rightB,Bool.and_eq_true,decide_eq_true_eq,and_assoc]

theorem right_turn {g:Int→Int} {t:Tm} (h:rightB t=true) (hv:∀ v∈occ t,0≤g v∧g v<1000000):rightB (turnT g t)=true:=by
 rw [rightB_iff] at h ⊢
 exact ⟨fair_turn g t h.1 hv,by rw [size_turn]; exact h.2.1,by rw [depth_turn]; exact h.2.2⟩

def once (l:List Int):List Int:=l.foldl addV []

theorem mem_addV {a:List Int} {x v:Int}:v∈addV a x↔v∈a∨v=x:=by
 unfold addV
 split
 ·rename_i h
  have:x∈a:=by simpa using h
  constructor
  ·exact .inl
  ·rintro (h | rfl)
   ·exact h
   ·exact this
 ·simp

theorem mem_foldl {l:List Int}:∀ {a:List Int} {v:Int},v∈l.foldl addV a↔v∈a∨v∈l:=by
 induction l with
 | nil=>simp
 | cons x l ih=>intro a v; simp only [List.foldl_cons,ih,mem_addV,List.mem_cons,or_assoc]
theorem mem_once {l:List Int} {v:Int}:v∈once l↔v∈l:=by simp [once,mem_foldl]
end Tm

theorem varsT_once {l:List Tm} (h:Tm.fairRL l=true):varsT l=Tm.once (Tm.occL l):=by
 rw [varsT_with l (Tm.fairL_plain l h),Tm.withVL_occ]; rfl
def placeG (l:List Int) (n:Int):Int:=if atI l n 0<0 then 0 else atI l n 0

theorem atI_mem:∀ {l:List Int} {n:Int} (i:Int),n∈l→i≤atI l n i∧atI l n i<i+l.length
 | x::l,n,i,h=>by
  simp only [atI,List.length_cons]
  split
  ·omega
  ·rename_i hx
   have:=atI_mem (l:=l) (n:=n) (i+1) ((List.mem_cons.1 h).resolve_left fun e=>hx e.symm)
   omega

theorem atI_not_mem:∀ {l:List Int} {n i:Int},n ∉ l→atI l n i=-1
 | [],_,_,_=>rfl
 | x::l,n,i,h=>by
  simp only [List.mem_cons,not_or] at h
  simp only [atI]
  rw [if_neg (fun e=>h.1 e.symm)]
  exact atI_not_mem h.2

theorem placeG_mem {l:List Int} {n:Int} (h:n∈l):placeG l n=atI l n 0∧0≤placeG l n∧placeG l n<l.length:=by
 have:=atI_mem 0 h
 unfold placeG
 rw [if_neg (by omega)]
 exact ⟨rfl,this.1,by omega⟩
end PSL
namespace PSL
open Go
theorem right_fair {t:Tm} (h:t.rightB=true):t.fairR=true:=(Tm.rightB_iff.1 h).1
def zeroT:Tm:=.mk 0 ByteArray.empty 0 []

def numberT (l:List Tm):List Tm × Int × Int :=
 if l.all rightT then (Tm.turnTL (placeG (varsT l)) l,(varsT l).length,0) else ([],0,1)
theorem one_fair {t:Tm} (h:t.fairR=true):Tm.fairRL [t]=true:=by simp [Tm.fairRL,h]

theorem all_rights {l:List Tm}:l.all rightT=true↔∀ t∈l,t.rightB=true:=by
 simp only [List.all_eq_true,rightT_eq]
end PSL
namespace PSL
open Go

structure IsTerm (ty:Nat→Option Ty) (T:Nat):Prop where
 ex:∃ (a b c s:Nat) (τ τa τb τc τs:Ty),ty T=some τ∧τ.sh=.struct [(0,a),(1,b),(2,c),(3,s)]∧τ.size=4∧1≤τ.bytes∧ty a=some τa∧τa.sh=.int .i64∧ty b=some τb∧τb.sh=.str∧ty c=some τc∧τc.sh=.int .i64∧ty s=some τs∧τs.sh=.slice T

def isTermB (ty:Nat→Option Ty) (T:Nat):Bool :=
 match ty T with
 | some ⟨4,by_,_,.struct [(0,a),(1,b),(2,c),(3,s)]⟩=>Nat.ble 1 by_&&(match ty a with | some ⟨_,_,_,.int .i64⟩=>true | _=>false)&&(match ty b with | some ⟨_,_,_,.str⟩=>true | _=>false) &&
   (match ty c with | some ⟨_,_,_,.int .i64⟩=>true | _=>false)&&(match ty s with | some ⟨_,_,_,.slice T'⟩=>Nat.beq T' T | _=>false)
 | _=>false

theorem isTermB_ok {ty:Nat→Option Ty} {T:Nat} (h:isTermB ty T=true):IsTerm ty T:=by
 unfold isTermB at h
 split at h
 case h_2=>cases h
 rename_i by_ z a b c s hT
 simp only [Bool.and_eq_true] at h
 obtain ⟨⟨⟨⟨h0,h1⟩,h2⟩,h3⟩,h4⟩:=h
 split at h1
 case h_2=>cases h1
 rename_i ha
 split at h2
 case h_2=>cases h2
 rename_i hb
 split at h3
 case h_2=>cases h3
 rename_i hc
 split at h4
 case h_2=>cases h4
 rename_i hs
 have:=natBeq h4
 subst this
 exact ⟨a,b,c,s,_,_,_,_,_,hT,rfl,rfl,Nat.le_of_ble_eq_true h0,ha,rfl,hb,rfl,hc,rfl,hs,rfl⟩

theorem has_int {ty:Nat→Option Ty} {B n t:Nat} {τ:Ty} {row:List D} {k:IntKind} (hτ:ty t=some τ) (hs:τ.sh=.int k) (h:HasTy ty B n t row):∃ m,row=[.v (.int k m)]∧k.min≤m∧m≤k.max:=by
 cases n with
 | zero=>simp [HasTy] at h
 | succ n=>simpa only [HasTy,hτ,hs] using h

theorem has_str {ty:Nat→Option Ty} {B n t:Nat} {τ:Ty} {row:List D} (hτ:ty t=some τ) (hs:τ.sh=.str) (h:HasTy ty B n t row):∃ s:ByteArray,row=[.v (.string s)]∧s.size≤B:=by
 cases n with
 | zero=>simp [HasTy] at h
 | succ n=>simpa only [HasTy,hτ,hs] using h

theorem has_slice {ty:Nat→Option Ty} {B n t e:Nat} {τ:Ty} {row:List D} (hτ:ty t=some τ) (hs:τ.sh=.slice e) (h:HasTy ty B (n+1) t row):∃ rows:List (List D),row=[.sl rows]∧(∀ τ,ty e=some τ→rows.length * τ.bytes≤B)∧∀ r∈rows,HasTy ty B n e r:=by
 simpa only [HasTy,hτ,hs] using h

def Tm.Fit (t:Tm):Prop:=∀ d e,e∈t.els d→I64 e.2.k∧I64 e.2.n

theorem tm_of {ty:Nat→Option Ty} {T B:Nat} (hT:IsTerm ty T) (hB:B≤140737488355328):∀ (n:Nat) (row:List D),HasTy ty B n T row→∃ t:Tm,row=t.row∧t.Ok∧t.Fit:=by
 obtain ⟨a,b,c,s,τ,τa,τb,τc,τs,h1,h2,h3,hby,ha,ha',hb,hb',hc,hc',hs,hs'⟩:=hT.ex
 intro n
 induction n using Nat.strongRecOn with
 | _ n ih =>
 intro row h
 cases n with
 | zero=>simp [HasTy] at h
 | succ n =>
  simp only [HasTy,h1,h2,HasFs] at h
  obtain ⟨_,ra,_,g1,rfl,g2,g3,_,rb,_,g4,rfl,g5,g6,_,rc,_,g7,rfl,g8,g9,_,rs,_,g10,rfl,g11,g12,rfl⟩:=h
  rw [ha] at g1; cases g1
  rw [hb] at g4; cases g4
  rw [hc] at g7; cases g7
  rw [hs] at g10; cases g10
  obtain ⟨k,rfl,hk⟩:=has_int ha ha' g3
  obtain ⟨nm,rfl,hnm⟩:=has_str hb hb' g6
  obtain ⟨m,rfl,hm⟩:=has_int hc hc' g9
  cases n with
  | zero=>simp [HasTy] at g12
  | succ n =>
   obtain ⟨rows,rfl,hlen,hrows⟩:=has_slice hs hs' g12
   have hch:∃ l:List Tm,rows=l.map Tm.row∧∀ x∈l,x.Ok∧x.Fit:=by
    clear hlen g11 g12
    induction rows with
    | nil=>exact ⟨[],rfl,by simp⟩
    | cons r rows ihr =>
     obtain ⟨t,ht1,ht2⟩:=ih n (by omega) r (hrows r (by simp))
     obtain ⟨l,hl1,hl2⟩:=ihr fun r hr=>hrows r (by simp [hr])
     exact ⟨t::l,by simp [ht1,hl1],by simpa using ⟨ht2,hl2⟩⟩
   obtain ⟨l,rfl,hl⟩:=hch
   have hll:l.length≤B:=by
    have:=hlen τ h1
    rw [List.length_map] at this
    exact Nat.le_trans (Nat.le_mul_of_pos_right _ hby) this
   refine ⟨.mk k nm m l,by simp [Tm.row,Tm.k,Tm.s,Tm.n,Tm.l,Tm.rows_eq],?_,?_⟩
   ·intro d e he
    simp only [Tm.els,List.mem_cons] at he
    rcases he with rfl | he
    ·exact ⟨show l.length≤_ by omega,show nm.size≤_ by omega⟩
    ·obtain ⟨x,hx,hex⟩:=Tm.elsL_mem he
     exact (hl x hx).1 _ _ hex
   ·intro d e he
    simp only [Tm.els,List.mem_cons] at he
    rcases he with rfl | he
    ·exact ⟨hk,hm⟩
    ·obtain ⟨x,hx,hex⟩:=Tm.elsL_mem he
     exact (hl x hx).2 _ _ hex

theorem arg_tm {ty:Nat→Option Ty} {T B:Nat} (hT:IsTerm ty T) (hB:B≤140737488355328) {n:Nat} {τ:Ty} {row:List D} {a:AV} (hτ:ty T=some τ) (h:HasTy ty B n T row) (ha:a=avOf τ row):∃ t:Tm,a=t.av∧t.Ok∧t.Fit:=by
 obtain ⟨t,rfl,h1⟩:=tm_of hT hB n row h
 refine ⟨t,?_,h1⟩
 obtain ⟨a',b,c,s,τ',τa,τb,τc,τs,g1,g2,_⟩:=hT.ex
 rw [hτ] at g1; cases g1
 rw [ha]; unfold avOf Ty.agg
 rw [g2]; rfl

theorem argsC {ty:Nat→Option Ty} {B t:Nat} {ts:List Nat} {axs:List AV} (h:ArgsAre ty B (t::ts) axs):∃ (n:Nat) (τ:Ty) (row:List D) (a:AV) (as':List AV),axs=a::as'∧ty t=some τ∧HasTy ty B n t row∧a=avOf τ row∧ArgsAre ty B ts as':=by
 match axs,h with
 | a::axs,h=>simp only [ArgsAre] at h; obtain ⟨⟨n,τ,row,h1,h2,_,h3⟩,h4⟩:=h; exact ⟨n,τ,row,a,axs,rfl,h1,h2,h3,h4⟩
 | [],h=>simp [ArgsAre] at h

theorem args0 {ty:Nat→Option Ty} {B:Nat} {axs:List AV} (h:ArgsAre ty B [] axs):axs=[]:=by
 cases axs with
 | nil=>rfl
 | cons _ _=>simp [ArgsAre] at h
end PSL
namespace PSL
open Go
namespace Tm
end Tm
namespace Tm
end Tm
end PSL
namespace PSL
open Go
namespace Tm
end Tm
end PSL
namespace PSL
open Go
namespace Tm

theorem fairR_mk {k:Int} {s:ByteArray} {n:Int} {l:List Tm} (h:fairR (mk k s n l)=true):fairRL l=true∧(k=1→s=ByteArray.empty∧l=[]):=by
 simp only [fairR,Bool.and_eq_true] at h
 refine ⟨h.1.2,fun hk=>?_⟩
 subst hk
 have:=kindR_var h.2
 exact ⟨this.2.2.1,List.length_eq_zero_iff.1 this.2.2.2⟩
end Tm

def numOne (t:Tm):Tm:=Tm.turnT (placeG (varsT [t])) t

theorem numOne_eq {t:Tm} (h:t.rightB=true):numberT [t]=([numOne t],((varsT [t]).length:Int),0):=by
 unfold numberT
 rw [if_pos (all_rights.2 (by simpa using h))]; rfl
end PSL

namespace PSL
open Go

abbrev Binds:=List (Int × Tm)

def placeB (l:Binds) (v:Int):Int:=atI (l.map (·.1)) v 0
def findB (l:Binds) (v:Int):Option Tm:=(l.find? (fun b=>b.1==v)).map (·.2)

theorem atI_find:∀ (l:Binds) (v:Int) (i:Int),0≤i→(atI (l.map (·.1)) v i<0∧findB l v=none)∨(∃ (k:Nat) (t:Tm),atI (l.map (·.1)) v i=i+k∧l[k]? = some (v,t)∧findB l v=some t)
 | [],v,i,h=>.inl ⟨by simp [atI],rfl⟩
 | b::l,v,i,h=>by
  by_cases hb:b.1=v
  ·refine .inr ⟨0,b.2,by simp [atI,hb],by simp [← hb],by simp [findB,hb]⟩
  ·have hf:findB (b::l) v=findB l v:=by
    simp only [findB,List.find?_cons,show (b.1==v)=false by simpa using hb]
   simp only [List.map_cons,atI,if_neg hb,hf]
   rcases atI_find l v (i+1) (by omega) with ⟨h1,h2⟩ | ⟨k,t,h1,h2,h3⟩
   ·exact .inl ⟨h1,h2⟩
   ·exact .inr ⟨k+1,t,by rw [h1]; omega,by simpa using h2,h3⟩

theorem placeB_find (l:Binds) (v:Int):(placeB l v<0∧findB l v=none)∨(∃ (k:Nat) (t:Tm),placeB l v=k∧l[k]? = some (v,t)∧findB l v=some t):=by
 rcases atI_find l v 0 (Int.le_refl _) with h | ⟨k,t,h1,h2,h3⟩
 ·exact .inl h
 ·exact .inr ⟨k,t,by unfold placeB; omega,h2,h3⟩
namespace Tm
end Tm
namespace Tm
end Tm
namespace Tm
end Tm
namespace Tm
end Tm
end PSL
namespace PSL
open Go
namespace Tm
end Tm
end PSL
namespace PSL
open Go
namespace Tm

theorem findB_mem {B:Binds} {n:Int} {t:Tm} (h:findB B n=some t):(n,t)∈B:=by
 unfold findB at h
 obtain ⟨z,hz,rfl⟩:=Option.map_eq_some_iff.1 h
 have h1:=List.find?_some hz
 have h2:z.1=n:=by simpa using h1
 subst h2; exact List.mem_of_find?_eq_some hz
end Tm
end PSL
namespace PSL
open Go
namespace Tm

mutual
def putF (σ:Int→Tm):Tm→Tm
 | mk k s n l=>if k=1 then σ n else mk k s n (putFL σ l)
def putFL (σ:Int→Tm):List Tm→List Tm
 | []=>[]
 | x::r=>putF σ x::putFL σ r
end

mutual
theorem putF_congr {σ τ:Int→Tm}:∀ (p:Tm),(∀ v∈occ p,σ v=τ v)→putF σ p=putF τ p
 | mk k s n l,h=>by
  simp only [putF]
  simp only [occ] at h
  by_cases hk:k=1
  ·simp only [if_pos hk] at h ⊢; exact h n (by simp)
  ·simp only [if_neg hk] at h ⊢; rw [putFL_congr l h]
theorem putFL_congr {σ τ:Int→Tm}:∀ (l:List Tm),(∀ v∈occL l,σ v=τ v)→putFL σ l=putFL τ l
 | [],_=>rfl
 | x::r,h=>by
  simp only [occL,List.mem_append] at h
  simp only [putFL,putF_congr x (fun v hv=>h v (.inl hv)),putFL_congr r (fun v hv=>h v (.inr hv))]
end

def vT (n:Int):Tm:=mk 1 ByteArray.empty n []
end Tm
end PSL
namespace PSL
open Go
namespace Tm

mutual
theorem turn_put (g:Int→Int):∀ (p:Tm),fairR p=true→turnT g p=putF (fun v=>vT (g v)) p
 | mk k s n l,h=>by
  have hl:=fairR_mk h
  simp only [turnT,putF]
  by_cases hk:k=1
  ·obtain ⟨rfl,rfl⟩:=hl.2 hk
   subst hk
   simp [turnTL,vT]
  ·rw [if_neg hk,if_neg hk,turnL_put g l hl.1]
theorem turnL_put (g:Int→Int):∀ (l:List Tm),fairRL l=true→turnTL g l=putFL (fun v=>vT (g v)) l
 | [],_=>rfl
 | x::r,h=>by
  simp only [fairRL,Bool.and_eq_true] at h
  simp only [turnTL,putFL,turn_put g x h.1,turnL_put g r h.2]
end

theorem put_self (p:Tm) (h:fairR p=true):putF vT p=p:=by
 have:=turn_put (fun n=>n) p h
 rw [turn_self] at this; exact this.symm
end Tm
end PSL
namespace PSL
open Go
namespace Tm
end Tm
end PSL
namespace PSL
open Go
namespace Tm
end Tm
end PSL

namespace PSL
open Go

def ixGo:List Int→Int→List (Int × AV)→List (Int × AV)
 | [],_,A=>A
 | v::r,i,A=>ixGo r (i+1) (if (getI A v).isSome then A else A++[(v,iV i)])
def ixM (V:List Int):List (Int × AV):=ixGo V 0 []

theorem ixGo_keys:∀ (V:List Int) (i:Int) (A:List (Int × AV)),(ixGo V i A).map (·.1)=V.foldl addV (A.map (·.1))
 | [],i,A=>rfl
 | u::V,i,A=>by
  simp only [ixGo,List.foldl_cons]
  rw [ixGo_keys V (i+1)]
  congr 1
  have key:∀ (A:List (Int × AV)),(getI A u).isSome=(A.map (·.1)).contains u:=by
   intro A
   induction A with
   | nil=>rfl
   | cons p A ih =>
    simp only [getI,List.map_cons,List.contains_cons]
    by_cases h:p.1=u
    ·rw [if_pos h]; simp [h]
    ·rw [if_neg h,ih]
     have:(u==p.1)=false:=by simp; exact fun e=>h e.symm
     rw [this,Bool.false_or]
  unfold addV
  rw [← key A]
  split <;> simp

theorem ixM_len (V:List Int):(ixM V).length=(Tm.once V).length:=by
 have:=congrArg List.length (ixGo_keys V 0 [])
 simpa [ixM,Tm.once] using this

theorem foldl_len:∀ (l a:List Int),(l.foldl addV a).length≤a.length+l.length∧((l.foldl addV a).length=a.length+l.length→l.Nodup∧∀ x∈l,x ∉ a)
 | [],a=>by simp
 | x::l,a=>by
  have h:=foldl_len l (addV a x)
  have h2:=Tm.addV_len' a x
  simp only [List.foldl_cons,List.length_cons]
  refine ⟨by omega,fun he=>?_⟩
  have h3:(addV a x).length=a.length+1:=by omega
  have hx:x ∉ a:=fun hm=>by
   unfold addV at h3; rw [if_pos (by simpa using hm)] at h3; omega
  obtain ⟨h4,h5⟩:=h.2 (by omega)
  have h6:addV a x=a++[x]:=by unfold addV; rw [if_neg (by simpa using hx)]
  rw [h6] at h5
  refine ⟨List.nodup_cons.2 ⟨fun hm=>by have:=h5 x hm; simp at this,h4⟩,fun y hy=>?_⟩
  rcases List.mem_cons.1 hy with rfl | hy
  ·exact hx
  ·have:=h5 y hy; simp at this; exact this.1

theorem once_len {V:List Int}:((Tm.once V).length<V.length)↔¬ V.Nodup:=by
 have h:=foldl_len V []
 unfold Tm.once
 constructor
 ·intro h1 h2
  have key:∀ (l a:List Int),l.Nodup→(∀ x∈l,x ∉ a)→(l.foldl addV a).length=a.length+l.length:=by
   intro l
   induction l with
   | nil=>intro a _ _; simp
   | cons x l ih =>
    intro a hn hd
    have hx:addV a x=a++[x]:=by unfold addV; rw [if_neg (by simpa using hd x (by simp))]
    rw [List.foldl_cons,hx,ih _ (List.nodup_cons.1 hn).2 fun y hy=>?_]
    ·simp; omega
    ·simp only [List.mem_append,List.mem_singleton,not_or]
     exact ⟨hd y (by simp [hy]),fun e=>(List.nodup_cons.1 hn).1 (e ▸ hy)⟩
  have:=key V [] h2 (by simp)
  simp at this; omega
 ·intro h1
  rcases Nat.lt_or_ge (V.foldl addV []).length V.length with h2 | h2
  ·exact h2
  ·exact absurd (h.2 (by simp; have:=h.1; simp at this; omega)).1 h1

def dfsL (g:Nat→List Int→Bool × List Int):List Nat→List Int→Bool × List Int
 | [],st=>(true,st)
 | k::r,st=>if (g k st).1 then dfsL g r (g k st).2 else (false,(g k st).2)

def dfsF (adj:Nat→List Nat):Nat→Nat→List Int→Bool × List Int
 | 0,_,st=>(false,st)
 | f+1,i,st=>if st.getD i 0≠0 then (decide (st.getD i 0=2),st) else
   if (dfsL (dfsF adj f) (adj i) (st.set i 1)).1 then (true,(dfsL (dfsF adj f) (adj i) (st.set i 1)).2.set i 2) else (false,(dfsL (dfsF adj f) (adj i) (st.set i 1)).2)

inductive Okn (adj:Nat→List Nat):Nat→Nat→Prop
 | mk {m i:Nat} (h:∀ k∈adj i,Okn adj m k):Okn adj (m+1) i

theorem Okn.mono {adj:Nat→List Nat}:∀ {m i:Nat},Okn adj m i→∀ {m':Nat},m≤m'→Okn adj m' i:=by
 intro m
 induction m with
 | zero=>intro i h; cases h
 | succ m ih =>
  intro i h m' hm
  cases h with
  | mk h =>
   obtain ⟨q,rfl⟩:∃ q,m'=q+1:=⟨m' - 1,by omega⟩
   exact .mk fun k hk=>ih (h k hk) (by omega)

theorem Okn.all {adj:Nat→List Nat}:∀ {L:List Nat},(∀ k∈L,∃ m,Okn adj m k)→∃ m,∀ k∈L,Okn adj m k
 | [],_=>⟨0,by simp⟩
 | k::L,h=>by
  obtain ⟨m,h1⟩:=h k (by simp)
  obtain ⟨m',h2⟩:=Okn.all (L:=L) fun k hk=>h k (by simp [hk])
  refine ⟨m+m',fun x hx=>?_⟩
  rcases List.mem_cons.1 hx with rfl | hx
  ·exact h1.mono (by omega)
  ·exact (h2 x hx).mono (by omega)

theorem dfs_sound (adj:Nat→List Nat):∀ (f i:Nat) (st:List Int),(∀ j,st.getD j 0=2→∃ m,Okn adj m j)→(∀ j,(dfsF adj f i st).2.getD j 0=2→∃ m,Okn adj m j)∧((dfsF adj f i st).1=true→∃ m,Okn adj m i):=by
 intro f
 induction f with
 | zero=>intro i st h; exact ⟨h,fun h=>by cases h⟩
 | succ f ih =>
  intro i st h
  have hL:∀ (L:List Nat) (st:List Int),(∀ j,st.getD j 0=2→∃ m,Okn adj m j)→(∀ j,(dfsL (dfsF adj f) L st).2.getD j 0=2→∃ m,Okn adj m j)∧((dfsL (dfsF adj f) L st).1=true→∀ k∈L,∃ m,Okn adj m k):=by
   intro L
   induction L with
   | nil=>intro st h; exact ⟨h,by simp⟩
   | cons k r ihr =>
    intro st h
    obtain ⟨h1,h2⟩:=ih k st h
    obtain ⟨h3,h4⟩:=ihr _ h1
    simp only [dfsL]
    split
    ·rename_i hk
     refine ⟨h3,fun hr x hx=>?_⟩
     rcases List.mem_cons.1 hx with rfl | hx
     ·exact h2 hk
     ·exact h4 hr x hx
    ·exact ⟨h1,fun h=>by cases h⟩
  have hset:∀ (st:List Int) (x:Int),(∀ j,st.getD j 0=2→∃ m,Okn adj m j)→(x=2→∃ m,Okn adj m i)→∀ j,(st.set i x).getD j 0=2→∃ m,Okn adj m j:=fun st x hst hx j hj=>by
   by_cases e:j=i
   ·subst e
    rcases Nat.lt_or_ge j st.length with hl | hl
    ·rw [List.getD_eq_getElem?_getD,List.getElem?_set_self hl] at hj
     exact hx (by simpa using hj)
    ·rw [List.getD_eq_getElem?_getD,List.getElem?_eq_none (by simpa using hl)] at hj
     simp at hj
   ·rw [List.getD_eq_getElem?_getD,List.getElem?_set_ne (fun h=>e h.symm),← List.getD_eq_getElem?_getD] at hj
    exact hst j hj
  obtain ⟨h1,h2⟩:=hL (adj i) (st.set i 1) (hset st 1 h (by omega))
  have hi:(dfsL (dfsF adj f) (adj i) (st.set i 1)).1=true→∃ m,Okn adj m i:=fun hr=>by
   obtain ⟨m,hm⟩:=Okn.all (h2 hr)
   exact ⟨m+1,.mk hm⟩
  simp only [dfsF]
  split
  ·exact ⟨h,fun hd=>h i (by simpa using hd)⟩
  ·split
   ·rename_i hr
    exact ⟨hset _ 2 h1 fun _=>hi hr,fun _=>hi hr⟩
   ·exact ⟨h1,fun h=>by cases h⟩

def adjB (l:Binds) (i:Nat):List Nat:=match l[i]? with
 | some b=>(varsT [b.2]).filterMap fun v=>if placeB l v<0 then none else some (placeB l v).toNat
 | none=>[]

def dfsAll (adj:Nat→List Nat) (n:Nat):List Nat→List Int→Bool
 | [],_=>true
 | i::r,st=>if (dfsF adj (n+1) i st).1 then dfsAll adj n r (dfsF adj (n+1) i st).2 else false
def fineB (l:Binds):Bool:=l.all fun b=>decide (0≤b.1)&&decide (b.1<1000000)&&b.2.rightB

def rightS (l:Binds):Bool:=!decide ((ixM (l.map (·.1))).length<l.length)&&fineB l&&dfsAll (adjB l) l.length (List.range l.length) (List.replicate l.length 0)

theorem dfsAll_sound {adj:Nat→List Nat} {n:Nat}:∀ (L:List Nat) (st:List Int),(∀ j,st.getD j 0=2→∃ m,Okn adj m j)→dfsAll adj n L st=true→∀ i∈L,∃ m,Okn adj m i
 | [],st,_,_=>by simp
 | i::r,st,h,hr=>by
  simp only [dfsAll] at hr
  obtain ⟨h1,h2⟩:=dfs_sound adj (n+1) i st h
  split at hr
  ·rename_i hi
   have h3:=dfsAll_sound r _ h1 hr
   intro x hx
   rcases List.mem_cons.1 hx with rfl | hx
   ·exact h2 hi
   ·exact h3 x hx
  ·cases hr

theorem rightS_spec {l:Binds} (h:rightS l=true):(l.map (·.1)).Nodup∧(∀ b∈l,0≤b.1∧b.1<1000000∧b.2.rightB=true)∧∃ M,∀ i<l.length,Okn (adjB l) M i:=by
 simp only [rightS,Bool.and_eq_true,Bool.not_eq_true',decide_eq_false_iff_not] at h
 obtain ⟨⟨h1,h2⟩,h3⟩:=h
 refine ⟨?_,fun b hb=>?_,?_⟩
 ·rw [ixM_len] at h1
  have:=once_len (V:=l.map (·.1))
  rw [List.length_map] at this
  exact Classical.byContradiction fun hn=>h1 (this.2 hn)
 ·have:=List.all_eq_true.1 h2 b hb
  simp only [Bool.and_eq_true,decide_eq_true_eq] at this
  exact ⟨this.1.1,this.1.2,this.2⟩
 ·have h4:=dfsAll_sound _ _ (fun j hj=>by
   rw [List.getD_eq_getElem?_getD,List.getElem?_replicate] at hj
   split at hj <;> simp at hj) h3
  obtain ⟨M,hM⟩:=Okn.all h4
  exact ⟨M,fun i hi=>hM i (by simpa using hi)⟩
end PSL
namespace PSL
open Go
end PSL
namespace PSL
open Go
end PSL

namespace PSL
open Go
namespace Tm

mutual
theorem occ_putF {σ:Int→Tm}:∀ (p:Tm) (u:Int),u∈occ (putF σ p)→∃ v∈occ p,u∈occ (σ v)
 | mk k s n l,u,h=>by
  simp only [putF] at h
  simp only [occ]
  by_cases hk:k=1
  ·rw [if_pos hk] at h ⊢; exact ⟨n,by simp,h⟩
  ·rw [if_neg hk] at h ⊢
   simp only [occ,if_neg hk] at h
   exact occL_putF l u h
theorem occL_putF {σ:Int→Tm}:∀ (l:List Tm) (u:Int),u∈occL (putFL σ l)→∃ v∈occL l,u∈occ (σ v)
 | [],u,h=>by simp [putFL,occL] at h
 | x::l,u,h=>by
  simp only [putFL,occL,List.mem_append] at h
  simp only [occL,List.mem_append]
  rcases h with h | h
  ·obtain ⟨v,h1,h2⟩:=occ_putF x u h; exact ⟨v,.inl h1,h2⟩
  ·obtain ⟨v,h1,h2⟩:=occL_putF l u h; exact ⟨v,.inr h1,h2⟩
end

theorem putFL_map (σ:Int→Tm):∀ l,putFL σ l=l.map (putF σ)
 | []=>rfl
 | x::l=>by simp only [putFL,List.map_cons,putFL_map σ l]

theorem put_id {σ:Int→Tm} (p:Tm) (h:fairR p=true) (hs:∀ v∈occ p,σ v=vT v):putF σ p=p:=by
 rw [putF_congr p hs,put_self p h]
end Tm

def fullS (B:Binds):Nat→Tm→Tm
 | 0,t=>t
 | m+1,t=>Tm.putF (fun v=>match findB B v with | some x=>fullS B m x | none=>Tm.vT v) t

def levT (B:Binds) (m:Nat) (t:Tm):Prop:=∀ v∈Tm.occ t,0≤placeB B v→Okn (adjB B) m (placeB B v).toNat

theorem lev_bind {B:Binds} {m:Nat} {v:Int} {x:Tm} (hx:x.fairR=true) (h:findB B v=some x) (ho:Okn (adjB B) m (placeB B v).toNat):∃ q,m=q+1∧levT B q x:=by
 cases ho with
 | @mk q _ ho =>
  refine ⟨q,rfl,fun u hu hp=>ho _ ?_⟩
  rcases placeB_find B v with ⟨_,h2⟩ | ⟨k,t,h1,h2,h3⟩
  ·rw [h2] at h; cases h
  ·rw [h3] at h; cases h
   rw [h1]
   simp only [Int.toNat_natCast,adjB,h2,List.mem_filterMap]
   refine ⟨u,?_,by rw [if_neg (by omega)]⟩
   rw [varsT_once (one_fair hx)]
   simp [Tm.occL,Tm.mem_once,hu]
section
variable {B:Binds} (hB:∀ b∈B,b.2.fairR=true)
include hB
theorem findB_fair {v:Int} {x:Tm} (h:findB B v=some x):x.fairR=true:=hB _ (Tm.findB_mem h)

theorem lev_find {m:Nat} {t:Tm} (h:levT B m t) {v:Int} (hv:v∈Tm.occ t) {x:Tm} (hx:findB B v=some x):∃ q,m=q+1∧levT B q x:=by
 refine lev_bind (findB_fair hB hx) hx (h v hv ?_)
 rcases placeB_find B v with ⟨_,h2⟩ | ⟨k,t,h1,h2,h3⟩
 ·rw [h2] at hx; cases hx
 ·omega

theorem full_stable:∀ (m:Nat) (t:Tm),t.fairR=true→levT B m t→∀ m',m≤m'→fullS B m' t=fullS B m t:=by
 intro m
 induction m with
 | zero =>
  intro t hf hl m' _
  have hn:∀ v∈Tm.occ t,findB B v=none:=fun v hv=>by
   cases h:findB B v with
   | none=>rfl
   | some x=>obtain ⟨q,hq,_⟩:=lev_find hB hl hv h; omega
  cases m' with
  | zero=>rfl
  | succ m' =>
   simp only [fullS]
   exact Tm.put_id t hf fun v hv=>by rw [hn v hv]
 | succ m ih =>
  intro t hf hl m' hm
  obtain ⟨q,rfl⟩:∃ q,m'=q+1:=⟨m' - 1,by omega⟩
  simp only [fullS]
  refine Tm.putF_congr t fun v hv=>?_
  cases h:findB B v with
  | none=>rfl
  | some x =>
   obtain ⟨r,hr,h2⟩:=lev_find hB hl hv h
   cases hr
   exact ih x (findB_fair hB h) h2 q (by omega)

theorem full_free:∀ (m:Nat) (t:Tm),levT B m t→∀ u∈Tm.occ (fullS B m t),findB B u=none:=by
 intro m
 induction m with
 | zero =>
  intro t hl u hu
  cases h:findB B u with
  | none=>rfl
  | some x=>obtain ⟨q,hq,_⟩:=lev_find hB hl hu h; omega
 | succ m ih =>
  intro t hl u hu
  obtain ⟨v,hv,h2⟩:=Tm.occ_putF t u hu
  cases h:findB B v with
  | none =>
   rw [h] at h2
   simp [Tm.vT,Tm.occ] at h2
   rw [h2]; exact h
  | some x =>
   rw [h] at h2
   obtain ⟨r,hr,h3⟩:=lev_find hB hl hv h
   cases hr
   exact ih x h3 u h2
end

structure Sub (B:Binds) (M:Nat):Prop where
 fair:∀ b∈B,b.2.fairR=true
 okn:∀ i<B.length,Okn (adjB B) M i

theorem Sub.lev {B:Binds} {M:Nat} (h:Sub B M) (t:Tm):levT B M t:=fun v _ hp=>h.okn _ (by
 rcases placeB_find B v with ⟨h1,_⟩ | ⟨k,t,h1,h2,h3⟩
 ·omega
 ·have:=(List.getElem?_eq_some_iff.1 h2).1; omega)

theorem Sub.of {B:Binds} (h:rightS B=true):∃ M,Sub B M:=by
 obtain ⟨_,h2,M,h3⟩:=rightS_spec h
 exact ⟨M,fun b hb=>right_fair (h2 b hb).2.2,h3⟩

theorem Sub.fix {B:Binds} {M:Nat} (h:Sub B M) {t:Tm} (hf:t.fairR=true):fullS B M t=Tm.putF (fun v=>match findB B v with | some x=>fullS B M x | none=>Tm.vT v) t :=
 (full_stable h.fair M t hf (h.lev t) (M+1) (by omega)).symm

theorem Sub.head {B:Binds} {M:Nat} (h:Sub B M) {t:Tm} (hf:t.fairR=true) (hx:t.k=1→findB B t.n=none):fullS B M t=.mk t.k t.s t.n (t.l.map (fullS B M)):=by
 rw [h.fix hf]
 obtain ⟨k,s,n,l⟩:=t
 have h1:=Tm.fairR_mk hf
 by_cases hk:k=1
 ·obtain ⟨rfl,rfl⟩:=h1.2 hk
  have:=hx hk
  simp only [Tm.n] at this
  subst hk
  simp [Tm.putF,this,Tm.vT,Tm.k,Tm.s,Tm.n,Tm.l]
 ·simp only [Tm.putF,if_neg hk,Tm.k,Tm.s,Tm.n,Tm.l,Tm.putFL_map]
  congr 1
  refine List.map_congr_left fun x hx=>?_
  exact (h.fix (Tm.fairRL_iff.1 h1.1 x hx)).symm
theorem Sub.free {B:Binds} {M:Nat} (h:Sub B M) (t:Tm):∀ u∈Tm.occ (fullS B M t),findB B u=none:=full_free h.fair M t (h.lev t)

theorem Sub.same {B:Binds} {M:Nat} (h:Sub B M) {t:Tm} (hf:t.fairR=true) (hn:∀ u∈Tm.occ t,findB B u=none):fullS B M t=t:=by
 rw [h.fix hf]
 exact Tm.put_id t hf fun v hv=>by rw [hn v hv]
namespace Tm
end Tm
end PSL
namespace PSL
open Go
end PSL
namespace PSL
open Go
end PSL
namespace PSL
open Go
namespace Tm

theorem depth_mem {l:List Tm} {x:Tm} (h:x∈l):depth x≤depthL l:=by
 induction l with
 | nil=>simp at h
 | cons y l ih =>
  simp only [depthL]
  rcases List.mem_cons.1 h with rfl | h
  ·omega
  ·have:=ih h; omega
end Tm
end PSL
namespace PSL
open Go
end PSL

namespace PSL
open Go
def rowD (n:Nat) (r:Nat→Bool):List D:=(List.range n).map fun j=>.v (.bool (r j))
def tabD (n k:Nat) (c:Nat→Nat→Bool):List (List D):=(List.range k).map fun i=>rowD n (c i)

inductive Way (C:Nat→Nat→Bool):Nat→Nat→Prop
 | one {i j:Nat} (h:C i j=true):Way C i j
 | snoc {i j k:Nat} (h:Way C i j) (h2:C j k=true):Way C i k

theorem Way.trans {C:Nat→Nat→Bool} {i j k:Nat} (h:Way C i j) (h2:Way C j k):Way C i k:=by
 induction h2 with
 | one h3=>exact .snoc h h3
 | snoc _ h3 ih=>exact .snoc ih h3
end PSL

namespace PSL
open Go
namespace Tm
end Tm
end PSL
namespace PSL
open Go
end PSL

namespace PSL
open Go
namespace Tm
end Tm
abbrev Pt:=Tm × List Nat
namespace Tm

def Good (P:List Pt):Prop:=∀ (k:Nat) (y:Tm) (at_:List Nat),P[k]? = some (y,at_)→y.fairR=true∧at_.length=y.l.length∧∀ (j:Nat) (z:Tm),y.l[j]? = some z→∃ (a:Nat) (b:List Nat),at_[j]? = some a∧a<k∧P[a]? = some (z,b)

def Pre (P Q:List Pt):Prop:=∃ R,Q=P++R

theorem Pre.get {P Q:List Pt} (h:Pre P Q) {i:Nat} {x:Pt} (hx:P[i]? = some x):Q[i]? = some x:=by
 obtain ⟨R,rfl⟩:=h
 rw [List.getElem?_append_left (List.getElem?_eq_some_iff.1 hx).1]; exact hx
theorem Pre.refl (P:List Pt):Pre P P:=⟨[],by simp⟩

theorem Pre.trans {P Q R:List Pt} (h:Pre P Q) (k:Pre Q R):Pre P R:=by
 obtain ⟨A,rfl⟩:=h; obtain ⟨B,rfl⟩:=k
 exact ⟨A++B,by simp⟩
theorem Good.nil:Good []:=fun k y b h=>by simp at h
end Tm
end PSL

namespace PSL
open Go
def gd (at_:List Nat) (j:Nat):Int:=((at_.getD j 0:Nat):Int)
end PSL
namespace PSL
open Go
end PSL
namespace PSL
open Go
end PSL
namespace PSL
open Go
end PSL
namespace PSL
open Go
end PSL

namespace PSL
open Go Go.RowKit Go.MapKept
section
variable {g:G} {pf:Nat→Cls} {ops:Array Oper} {Fin:Exit→Act→World→Prop}
end
end PSL

namespace PSL
open Go

inductive Gl where
 | mk (k:Int) (t:Tm) (a b c:List Gl)
namespace Gl
def k:Gl→Int | mk k _ _ _ _=>k
def t:Gl→Tm | mk _ t _ _ _=>t
def a:Gl→List Gl | mk _ _ a _ _=>a
def b:Gl→List Gl | mk _ _ _ b _=>b
def c:Gl→List Gl | mk _ _ _ _ c=>c

theorem ind {p:Gl→Prop} (h:∀ g:Gl,(∀ x∈g.a,p x)→(∀ x∈g.b,p x)→(∀ x∈g.c,p x)→p g) (g:Gl):p g :=
 Gl.rec (motive_1:=p) (motive_2:=fun l=>∀ x∈l,p x) (fun k t a b c ha hb hc=>h (.mk k t a b c) ha hb hc) (by simp) (fun x r h1 h2=>by
  intro y hy
  rcases List.mem_cons.1 hy with rfl | hy
  ·exact h1
  ·exact h2 y hy) g

theorem indL {p:List Gl→Prop} (h:∀ l:List Gl,(∀ x∈l,p x.a∧p x.b∧p x.c)→p l) (l:List Gl):p l:=by
 have key:∀ g:Gl,p g.a∧p g.b∧p g.c:=fun g=>ind (p:=fun g=>p g.a∧p g.b∧p g.c) (fun g h1 h2 h3=>⟨h _ h1,h _ h2,h _ h3⟩) g
 exact h l fun x _=>key x

mutual
def rowM:Gl→List D
 | mk k t a b c=>[.v (.int .i64 k),.v (.int .i64 t.k),.v (.string t.s),.v (.int .i64 t.n),.sl (Tm.rows t.l),.sl (rows a),.sl (rows b),.sl (rows c)]
def rows:List Gl→List (List D)
 | []=>[]
 | g::r=>rowM g::rows r
end
def row (g:Gl):List D:=[.v (.int .i64 g.k),.v (.int .i64 g.t.k),.v (.string g.t.s),.v (.int .i64 g.t.n),.sl (Tm.rows g.t.l),.sl (rows g.a),.sl (rows g.b),.sl (rows g.c)]
theorem rowM_eq (g:Gl):rowM g=row g:=by cases g; simp only [rowM,row,k,t,a,b,c]

theorem rows_eq (l:List Gl):rows l=l.map row:=by
 induction l with
 | nil=>rfl
 | cons x r ih=>simp only [rows,rowM_eq,List.map_cons,ih]
theorem rows_length (l:List Gl):(rows l).length=l.length:=by rw [rows_eq]; simp
theorem rows_get {l:List Gl} {i:Nat} {x:Gl} (h:l[i]? = some x):(rows l)[i]? = some (row x):=by rw [rows_eq,List.getElem?_map,h]; rfl
def av (g:Gl):AV:=.agg [.d (.v (.int .i64 g.k)),.d (.v (.int .i64 g.t.k)),.d (.v (.string g.t.s)),.d (.v (.int .i64 g.t.n)),.d (.sl (Tm.rows g.t.l)),.d (.sl (rows g.a)),.d (.sl (rows g.b)),.d (.sl (rows g.c))]

mutual
def size:Gl→Nat
 | mk _ t a b c=>t.size+sizeL a+sizeL b+sizeL c
def sizeL:List Gl→Nat
 | []=>0
 | g::r=>size g+sizeL r
end
theorem size_eq (g:Gl):g.size=g.t.size+sizeL g.a+sizeL g.b+sizeL g.c:=by cases g; simp only [size,t,a,b,c]
theorem tmPos (t:Tm):1≤t.size:=by cases t; simp only [Tm.size]; omega
theorem size_pos (g:Gl):1≤g.size:=by rw [size_eq]; have:=tmPos g.t; omega

theorem len_size (l:List Gl):l.length≤sizeL l:=by
 induction l with
 | nil=>simp
 | cons x r ih=>simp only [sizeL,List.length_cons]; have:=size_pos x; omega

theorem size_mem {l:List Gl} {x:Gl} (h:x∈l):x.size≤sizeL l:=by
 induction l with
 | nil=>cases h
 | cons y r ih =>
  simp only [sizeL]
  rcases List.mem_cons.1 h with rfl | h
  ·omega
  ·have:=ih h; omega

inductive Ok:Gl→Prop
 | mk {k:Int} {t:Tm} {a b c:List Gl}:I64 k→t.Ok∧t.Fit→a.length≤140737488355328→b.length≤140737488355328→c.length≤140737488355328→(∀ x∈a,Ok x)→(∀ x∈b,Ok x)→(∀ x∈c,Ok x)→Ok (.mk k t a b c)
theorem Ok.tm {g:Gl} (h:g.Ok):g.t.Ok∧g.t.Fit:=by cases h; assumption
theorem Ok.la {g:Gl} (h:g.Ok):g.a.length≤140737488355328:=by cases h; assumption
theorem Ok.lb {g:Gl} (h:g.Ok):g.b.length≤140737488355328:=by cases h; assumption
theorem Ok.lc {g:Gl} (h:g.Ok):g.c.length≤140737488355328:=by cases h; assumption
theorem Ok.ma {g:Gl} (h:g.Ok):∀ x∈g.a,Ok x:=by cases h; assumption
theorem Ok.mb {g:Gl} (h:g.Ok):∀ x∈g.b,Ok x:=by cases h; assumption
theorem Ok.mc {g:Gl} (h:g.Ok):∀ x∈g.c,Ok x:=by cases h; assumption
end Gl

structure Cs where
 head:Tm
 body:List Gl
 vars:Int
namespace Cs
def row (x:Cs):List D:=[.v (.int .i64 x.head.k),.v (.string x.head.s),.v (.int .i64 x.head.n),.sl (Tm.rows x.head.l),.sl (Gl.rows x.body),.v (.int .i64 x.vars)]
def rows (l:List Cs):List (List D):=l.map row
theorem rows_get {l:List Cs} {i:Nat} {x:Cs} (h:l[i]? = some x):(rows l)[i]? = some (row x):=by simp [rows,h]
def av (x:Cs):AV:=.agg [.d (.v (.int .i64 x.head.k)),.d (.v (.string x.head.s)),.d (.v (.int .i64 x.head.n)),.d (.sl (Tm.rows x.head.l)),.d (.sl (Gl.rows x.body)),.d (.v (.int .i64 x.vars))]
def size (x:Cs):Nat:=x.head.size+Gl.sizeL x.body

def sizeL:List Cs→Nat
 | []=>0
 | x::r=>size x+sizeL r

structure Ok (x:Cs):Prop where
 head:x.head.Ok∧x.head.Fit
 vars:I64 x.vars
 len:x.body.length≤140737488355328
 body:∀ g∈x.body,g.Ok
end Cs
section
variable {ty:Nat→Option Ty} {T TT TG TS B:Nat} {n:Nat} {τ:Ty} {row:List D} {a:AV}
end
end PSL

namespace Go.Proofs.YtchhahnajgfeaaaGreatDoor
open Go PSL Go.Proofs Go.ChangeShapes Go.WideShapes Go.ChangeAt Go.RowKit
theorem ownK:ownKnob Tryz.prog.godebug=none:=by kernel_rfl
theorem laidK:laidOutB Tryz.prog=true:=by kernel_rfl
theorem isTerm:IsTerm tyT.get 24:=isTermB_ok (by kernel_rfl)

def lawTys:List Nat:=[3,9,4,24,22,5,44,42,46]

theorem lawTysOk:∀ t∈lawTys,dT tyT.get lawTys t=true:=by
 have h:lawTys.all (fun t=>dT tyT.get lawTys t)=true:=by kernel_rfl
 exact fun t ht=>List.all_eq_true.1 h t ht
theorem reach47:reachBytes≤140737488355328:=by decide
end Go.Proofs.YtchhahnajgfeaaaGreatDoor

namespace PSL
open Go Go.Proofs Go.RowKit

theorem returns_of_change_door {H:Type} {enc:TypeId × Value→H} {a:Assume} {C:Checked} {os:Os} {f:FuncId} {fn:Func} {s:ChangeSpec} {conds:List PathCond} {apart fresh handsOn again:Bool} {X:World→Array Value→Prop}
  (hX:∀ (w w':World) (args:Array Value),w.heap=w'.heap→X w args→X w' args)
  (own:ownKnob C.prog.godebug=none) (started:os.Started) (noInit:C.prog.inits.idxOf? f=none) (hfn:C.prog.funcs[f]? = some fn)
  (witness:∃ (w:World) (tape:Tape) (i:Input),w.os=os∧(w.forCall tape i).Shaped C.prog∧i.vars=[]∧Input.okWide C.prog (w.forCall tape i) .any w.heap.size f i ∧
   ((s.pre enc C.prog fn conds apart (w.forCall tape i).memory i.args∧X (w.forCall tape i).memory i.args)∧sizedMet enc C.prog fn (OpenSpec.ofChange s) apart (w.forCall tape i).memory i.args)∧a.holds C.prog (lone (Frame.enter C.prog f i.args .normal) [] (w.forCall tape i)))
  (contract:∀ (W:World) (base:Nat) (args:Array Value) (ds gs:List (DataW H)) (before:List MemPlace),
   (∀ (j:Nat) t v,fn.params[j]? = some t→args[j]? = some v→Value.okWide C.prog W .any base t v) →
   DataW.Whole enc C.prog fn.params.toList s.vars apart W args.toList ds gs before →
   (DataW.weightsEach C.prog (fn.params.toList++s.plain.varTypes C.prog) (ds++gs)).all (· ≤ reachBytes)=true→X W args→W.ShapedOpen C.prog →
   Calls C.prog f args W fun e W'=>∃ v,e=.returned v∧s.post enc C.prog fn apart fresh handsOn again W args v W') :
  ReturnsInHanded a C os f .any (fun w args=>(s.pre enc C.prog fn conds apart w args∧X w args)∧sizedMet enc C.prog fn (OpenSpec.ofChange s) apart w args) (s.post enc C.prog fn apart fresh handsOn again):=by
 refine returnsInHanded_of_calls own started noInit witness ?_
 intro w tape i _ hsh _ hok hpre _
 obtain ⟨_,_,_,fn',hfn',_,_,_,_,hval⟩:=hok
 have e:fn'=fn:=Option.some.inj (hfn'.symm.trans hfn)
 subst e
 obtain ⟨⟨⟨ds,gs,before,hw,_⟩,hx⟩,hz⟩:=hpre
 have hw':=DataW.Whole.of_heap (w':=w.forCall tape i) (by rfl) hw
 refine (contract (w.forCall tape i) w.heap.size i.args ds gs before hval hw' (hz.weights hw) (hX _ _ _ (by rfl) hx) hsh).mono fun e W' ⟨v,he,hp⟩=>?_
 subst he
 exact ChangeSpec.post_blind hp

theorem laid_ints {P:Program} {W:World} {x:String} {zs:List Int} {k:IntKind} {i t e n:Nat}
  (hg:P.globalNamed x=some i) (hi:(P.globals[i]?).map (·.type)=some t) (ht:P.underlying t=some (.array n e)) (he:P.underlying e=some (.int k)) (hc:P.cellsOf e=1) (hct:P.cellsOf t=n) :
  ∀ {l:List (String × DataW Unit)} {ps:List MemPlace},DataW.LaidVars P W l ps→(x,DataW.agg (zs.map fun z=>.lit (.int k z)))∈l→W.var? P x=some (zs.map fun z=>Value.int k z).toArray:=by
 intro l
 induction l with
 | nil=>intro ps _ hm; cases hm
 | cons y r ih =>
  intro ps h hm
  obtain ⟨nm,d⟩:=y
  obtain ⟨g,t',cs,fuel,p,q,a1,a2,a3,a4,a5,_⟩:=h
  rcases List.mem_cons.1 hm with hm | hm
  ·obtain ⟨rfl,rfl⟩:=Prod.mk.inj hm
   obtain rfl:=Option.some.inj (hg.symm.trans a1)
   obtain rfl:=Option.some.inj (hi.symm.trans a2)
   obtain ⟨xs,m,_,ex,hlen,hl,hel⟩:=DataW.trod_array ht a4
   rw [hct] at hlen
   have e3:xs.map (·.1)=zs.map fun z=>DataW.lit (.int k z):=(DataW.agg.inj (Prod.mk.inj ex).1).symm
   have hzl:zs.length=n:=by have:=congrArg List.length e3; simp at this; omega
   rw [a3]
   congr 1
   obtain ⟨cl⟩:=cs
   congr 1
   have hlen:cl.length=n:=hlen
   refine List.ext_getElem (by simp; omega) fun j h1 h2=>?_
   have h3:j<n:=by omega
   have hE:=hel j h3
   rw [hc,Nat.mul_one,List.getElem?_eq_getElem (by omega)] at hE
   obtain ⟨z,e1,e2,_⟩:=DataW.trod_int he hE
   have e4:(xs.map (·.1))[j]? = (zs.map fun z=>(DataW.lit (.int k z):DataW Unit))[j]? := by rw [e3]
   rw [List.getElem?_map,List.getElem?_map,List.getElem?_eq_getElem (by omega:j<xs.length),List.getElem?_eq_getElem (by omega:j<zs.length),e2] at e4
   simp only [Option.map_some,Option.some.injEq,DataW.lit.injEq,Lit.int.injEq,true_and] at e4
   have:cl[j]? = some (.int k z):=by
    have h0:((cl.drop j).take 1)[0]? = some (.int k z):=by rw [e1]; rfl
    simpa using h0
   rw [List.getElem?_eq_getElem (by omega)] at this
   rw [Option.some.inj this,List.getElem_map,e4]
  ·exact ih a5 hm

theorem amb_door {P:Program} {W:World} {l:List (String × DataW Unit)} {i t e n j tj:Nat} {zero:Array Value} (h:laidMet P l W) (hs:W.ShapedOpen P)
  (hm:("internal/strconv.uint64pow10",DataW.agg (((List.range 20).map fun i=>((10 ^ i:Nat):Int)).map fun z=>.lit (.int .u64 z)))∈l)
  (hg:P.globalNamed "internal/strconv.uint64pow10" = some i) (hi:(P.globals[i]?).map (·.type)=some t) (ht:P.underlying t=some (.array n e)) (he:P.underlying e=some (.int .u64)) (hc:P.cellsOf e=1) (hct:P.cellsOf t=n)
  (hg2:P.globalNamed "internal/bytealg.MaxLen" = some j) (hj:j<P.globals.size) (h0:((begin P (fun _ _=>0) default).world.heap[j]?).bind Obj.row? = some (zero,tj)) (hz:zero.size=1)
  (hb:P.buildable tj=true) (hcj:P.cellTypes P.depth tj=some [tj]) (hu:P.underlying tj=some (.int .i64)):AmbOk P (fun _=>True) W:=by
 obtain ⟨ps,hl,_,_⟩:=h
 intro x hx k hk
 refine ⟨trivial,?_⟩
 rcases hx with rfl | rfl
 ·have hv:=laid_ints hg hi ht he hc hct hl hm
  obtain rfl:=Option.some.inj (hg.symm.trans hk)
  unfold World.var? at hv
  rw [hg,Option.bind_some] at hv
  split at hv
  ·rename_i cs ee kk ho
   cases hv
   exact ⟨_,ho,trivial,fun _=>⟨_,_,rfl⟩,fun h=>by simp at h⟩
  ·cases hv
 ·obtain rfl:=Option.some.inj (hg2.symm.trans hk)
  obtain ⟨cs,hh,hs2,hr⟩:=hs.1 j zero tj hj h0
  obtain ⟨ts,hts,_,hall⟩:=hr hb
  rw [hcj] at hts
  cases hts
  have h1:0<cs.size:=by omega
  obtain ⟨u,hu',hok⟩:=hall 0 cs[0] (by simp [h1])
  have:u=tj:=by simpa using hu'.symm
  subst this
  unfold Cell.ok at hok
  rw [hu] at hok
  refine ⟨_,hh,trivial,fun h=>by simp at h,fun _=>?_⟩
  cases hv:cs[0] <;> rw [hv] at hok <;> simp at hok
  case int k' m =>
   obtain ⟨rfl,_⟩:=hok
   have hcs:cs=#[.int .i64 m]:=by
    refine Array.ext (by simp; omega) fun a ha1 ha2=>?_
    have:a=0:=by omega
    subst this
    simpa using hv
   subst hcs
   exact ⟨m,_,_,rfl⟩
end PSL

namespace PSL
open Go
abbrev Bs:=List UInt8
def Tx (l:Bs):ByteArray:=⟨l.toArray⟩
theorem Tx_data (s:ByteArray):Tx s.data.toList=s:=by simp [Tx]
theorem Tx_size (l:Bs):(Tx l).size=l.length:=by simp [Tx,ByteArray.size]

theorem Tx_get (l:Bs) (n:Nat):(Tx l)[n]? = l[n]? := by
 show (if h:n<(Tx l).size then some ((Tx l)[n]) else none)=l[n]?
 by_cases h:n<l.length
 ·rw [dif_pos (by rw [Tx_size]; exact h),List.getElem?_eq_getElem h]; rfl
 ·rw [dif_neg (by rw [Tx_size]; exact h),List.getElem?_eq_none (by omega)]

theorem Tx_app (a b:Bs):Tx a++Tx b=Tx (a++b):=by
 apply ByteArray.ext
 show (Tx a++Tx b).data=_
 rw [ByteArray.data_append]; simp [Tx]

theorem Tx_cut (l:Bs) (i j:Nat):(Tx l).extract i j=Tx ((l.drop i).take (j - i)):=by
 apply ByteArray.ext
 rw [ByteArray.data_extract]
 apply Array.ext'
 simp [Tx,List.take_drop,List.extract_eq_take_drop]
theorem Tx_list (l:Bs):(Tx l).toList=l:=by rw [Tm.toList_data]; simp [Tx]
theorem Tx_inj {a b:Bs} (h:Tx a=Tx b):a=b:=by rw [← Tx_list a,h,Tx_list]
theorem Tx_eq (a b:Bs):strEq (Tx a) (Tx b)=(a==b):=by unfold strEq; rw [Tx_list,Tx_list]
def dgC (c:UInt8):Bool:=decide (48≤c.toNat)&&decide (c.toNat≤57)
def lowC (c:UInt8):Bool:=decide (97≤c.toNat)&&decide (c.toNat≤122)
def grtC (c:UInt8):Bool:=(decide (65≤c.toNat)&&decide (c.toNat≤90)) || decide (c.toNat=95)
def folC (c:UInt8):Bool:=dgC c || lowC c || grtC c
def blkC (c:UInt8):Bool:=decide (c.toNat=32) || decide (c.toNat=9) || decide (c.toNat=10)
def sgnL:Bs:=[43,45,42,47,92,94,60,62,61,126,58,46,63,64,35,38,36]
def mrkL:Bs:=[40,41,91,93,124,44]
def sgnC (c:UInt8):Bool:=sgnL.contains c
def mrkC (c:UInt8):Bool:=mrkL.contains c

theorem byte_all {p:UInt8→Bool} (h:(List.range 256).all (fun n=>p (UInt8.ofNat n))=true) (c:UInt8):p c=true:=by
 have h1:=List.all_eq_true.1 h c.toNat (by simp; exact c.toNat_lt)
 simpa using h1

def runB (p:UInt8→Bool) (L:Bs) (i:Nat):Nat:=i+((L.drop i).takeWhile p).length

theorem runB_step {p:UInt8→Bool} {L:Bs} {i:Nat} {c:UInt8} (h:L[i]? = some c) (hp:p c=true):runB p L i=runB p L (i+1):=by
 have hi:=(List.getElem?_eq_some_iff.1 h).1
 have he:=(List.getElem?_eq_some_iff.1 h).2
 unfold runB
 rw [List.drop_eq_getElem_cons hi,he,List.takeWhile_cons_of_pos hp,List.length_cons]; omega

theorem runB_stop {p:UInt8→Bool} {L:Bs} {i:Nat} {c:UInt8} (h:L[i]? = some c) (hp:p c=false):runB p L i=i:=by
 have hi:=(List.getElem?_eq_some_iff.1 h).1
 have he:=(List.getElem?_eq_some_iff.1 h).2
 unfold runB
 rw [List.drop_eq_getElem_cons hi,he,List.takeWhile_cons_of_neg (by rw [hp]; simp)]; rfl

theorem runB_end {p:UInt8→Bool} {L:Bs} {i:Nat} (h:L.length≤i):runB p L i=i:=by
 unfold runB; rw [List.drop_eq_nil_of_le h]; rfl

theorem runB_le {p:UInt8→Bool} {L:Bs} {i:Nat} (h:i≤L.length):i≤runB p L i∧runB p L i≤L.length:=by
 have:((L.drop i).takeWhile p).length≤(L.drop i).length:=(List.takeWhile_sublist p).length_le
 rw [List.length_drop] at this
 unfold runB; omega

structure Tk where
 kind:Int
 text:Bs
 n:Int
 at_:Int
 opn:Bool
 deriving DecidableEq
def cutB (L:Bs) (i j:Nat):Bs:=(L.drop i).take (j - i)
def opnB (L:Bs) (to:Nat):Bool:=match L[to]? with | some c=>decide (c.toNat=40) | none=>false
def nameT (L:Bs) (kind:Int) (text:Bs) (i to:Nat):Option (Tk × Nat):=if 1≤text.length∧text.length≤20 then some (⟨kind,text,0,i,opnB L to⟩,to) else none
def valN (n:Nat) (D:Bs):Nat:=D.foldl (fun n c=>10 * n+(c.toNat - 48)) n
def numT (D:Bs):Option Nat:=if (1<D.length∧(D[0]?.map UInt8.toNat)=some 48)∨9223372036854775807<valN 0 D then none else some (valN 0 D)

def quo:Bs→Option (Bs × Nat)
 | []=>none
 | [c]=>if c.toNat=39 then some ([],1) else none
 | c::d::r=>if c.toNat<32∨126<c.toNat then none else if c.toNat=39 then (if d.toNat=39 then (quo r).map fun x=>(39::x.1,x.2+2) else some ([],1)) else (quo (d::r)).map fun x=>(c::x.1,x.2+1)
def endAft (L:Bs) (to:Nat):Bool:=match L[to]? with | some c=>blkC c || decide (c.toNat=37) | none=>true

def oneT (L:Bs) (i:Nat):Option (Tk × Nat):=match L[i]? with
 | none=>none
 | some c =>
  if lowC c then nameT L 1 (cutB L i (runB folC L i)) i (runB folC L i)
  else if grtC c then nameT L 2 (cutB L i (runB folC L i)) i (runB folC L i)
  else if dgC c then (numT (cutB L i (runB dgC L i))).map fun n=>(⟨3,cutB L i (runB dgC L i),n,i,false⟩,runB dgC L i)
  else if c.toNat=39 then (match quo (L.drop (i+1)) with | some (t,k)=>nameT L 1 t i (i+1+k) | none=>none)
  else if c.toNat=91∧(L[i+1]?.map UInt8.toNat)=some 93 then nameT L 1 [91,93] i (i+2)
  else if c.toNat=33∨c.toNat=59 then nameT L 1 [c] i (i+1)
  else if mrkC c then some (⟨4,[c],0,i,false⟩,i+1)
  else if runB sgnC L i=i+1∧c.toNat=46∧endAft L (i+1) then some (⟨5,[46],0,i,false⟩,i+1)
  else nameT L 1 (cutB L i (runB sgnC L i)) i (runB sgnC L i)

def skipL:Bool→Bs→Nat
 | _,[]=>0
 | true,c::r=>1+skipL (!decide (c.toNat=10)) r
 | false,c::r=>if c.toNat=37 then 1+skipL true r else if blkC c then 1+skipL false r else 0

theorem skipL_le:∀ (b:Bool) (L:Bs),skipL b L≤L.length
 | _,[]=>by simp [skipL]
 | true,c::r=>by simp only [skipL,List.length_cons]; have:=skipL_le (!decide (c.toNat=10)) r; omega
 | false,c::r=>by
  simp only [skipL,List.length_cons]
  split
  ·have:=skipL_le true r; omega
  ·split
   ·have:=skipL_le false r; omega
   ·omega
def passN (L:Bs) (i:Nat):Nat:=i+skipL false (L.drop i)

def toks:Nat→Bs→Nat→Except Nat (List Tk)
 | 0,_,_=>.ok []
 | f+1,L,i=>if passN L i<L.length then (match oneT L (passN L i) with
   | none=>.error (passN L i)
   | some (t,to)=>match toks f L to with
    | .ok l=>.ok (t::l)
    | .error j=>.error j) else .ok []

def tokT (L:Bs):List Tk × Int × Int:=if 8000<L.length then ([],0,3) else match toks (L.length+1) L 0 with
 | .ok l=>(l,0,0)
 | .error j=>([],j,2)
theorem cutB_len {L:Bs} {i j:Nat} (h:i≤j) (hj:j≤L.length):(cutB L i j).length=j - i:=by simp [cutB]; omega

theorem quo_bad {c:UInt8} {r:Bs} (h:c.toNat<32∨126<c.toNat):quo (c::r)=none:=by
 cases r with
 | nil=>simp only [quo]; rw [if_neg (by omega)]
 | cons d r=>simp only [quo]; rw [if_pos h]

theorem quo_two {c d:UInt8} {r:Bs} (h:c.toNat=39) (h2:d.toNat=39):quo (c::d::r)=(quo r).map fun x=>(39::x.1,x.2+2):=by
 simp only [quo]; rw [if_neg (by omega),if_pos h,if_pos h2]

theorem quo_one {c:UInt8} {r:Bs} (h:c.toNat=39) (h2:∀ d,r[0]? = some d→d.toNat≠39):quo (c::r)=some ([],1):=by
 cases r with
 | nil=>simp only [quo]; rw [if_pos h]
 | cons d r=>simp only [quo]; rw [if_neg (by omega),if_pos h,if_neg (h2 d rfl)]

theorem quo_any {c:UInt8} {r:Bs} (h0:¬ (c.toNat<32∨126<c.toNat)) (h:c.toNat≠39):quo (c::r)=(quo r).map fun x=>(c::x.1,x.2+1):=by
 cases r with
 | nil=>simp only [quo]; rw [if_neg h]; rfl
 | cons d r=>simp only [quo]; rw [if_neg h0,if_neg h]

theorem quo_len:∀ (n:Nat) (L:Bs),L.length≤n→∀ t k,quo L=some (t,k)→1≤k∧k≤L.length∧t.length<k
 | 0,L,h,t,k,hq=>by
  have:L=[]:=List.length_eq_zero_iff.1 (by omega)
  subst this; cases hq
 | n+1,[],_,t,k,hq=>by cases hq
 | n+1,c::r,h,t,k,hq=>by
  simp only [List.length_cons] at h ⊢
  by_cases hb:c.toNat<32∨126<c.toNat
  ·rw [quo_bad hb] at hq; cases hq
  by_cases h39:c.toNat=39
  ·by_cases h2:∀ d,r[0]? = some d→d.toNat≠39
   ·rw [quo_one h39 h2] at hq; cases hq; simp
   ·cases r with
    | nil=>exact absurd (fun d h=>by simp at h) h2
    | cons d r' =>
     have hd:d.toNat=39:=Classical.byContradiction fun hd=>h2 fun e he=>by simp at he; subst he; exact hd
     rw [quo_two h39 hd] at hq
     simp only [List.length_cons] at h ⊢
     cases hr:quo r' with
     | none=>rw [hr] at hq; cases hq
     | some x =>
      rw [hr] at hq
      cases hq
      have:=quo_len n r' (by omega) x.1 x.2 hr
      simp only [List.length_cons]; omega
  ·rw [quo_any hb h39] at hq
   cases hr:quo r with
   | none=>rw [hr] at hq; cases hq
   | some x =>
    rw [hr] at hq
    cases hq
    have:=quo_len n r (by omega) x.1 x.2 hr
    simp only [List.length_cons]; omega

theorem nameT_to {L:Bs} {kind:Int} {text:Bs} {i to:Nat} {t:Tk} {j:Nat} (h:nameT L kind text i to=some (t,j)):j=to∧t=⟨kind,text,0,i,opnB L to⟩∧1≤text.length∧text.length≤20:=by
 unfold nameT at h
 split at h
 ·rename_i hh
  simp only [Option.some.injEq,Prod.mk.injEq] at h
  exact ⟨h.2.symm,h.1.symm,hh.1,hh.2⟩
 ·cases h

theorem oneT_to {L:Bs} {i:Nat} {t:Tk} {j:Nat} (h:oneT L i=some (t,j)):i<j∧j≤L.length:=by
 unfold oneT at h
 split at h
 ·cases h
 rename_i c hc
 have hi:=(List.getElem?_eq_some_iff.1 hc).1
 have run:∀ (p:UInt8→Bool) (kind:Int),nameT L kind (cutB L i (runB p L i)) i (runB p L i)=some (t,j)→i<j∧j≤L.length:=fun p kind h=>by
  obtain ⟨h1,_,h2,_⟩:=nameT_to h
  have hr:=runB_le (p:=p) (L:=L) (i:=i) (by omega)
  rw [cutB_len hr.1 hr.2] at h2
  subst h1; omega
 split at h
 ·exact run folC 1 h
 ·split at h
  ·exact run folC 2 h
  ·split at h
   ·rename_i hd
    cases hn:numT (cutB L i (runB dgC L i)) with
    | none=>rw [hn] at h; cases h
    | some n =>
     rw [hn] at h
     cases h
     have hr:=runB_le (p:=dgC) (L:=L) (i:=i+1) (by omega)
     rw [runB_step hc hd]; omega
   ·split at h
    ·split at h
     ·rename_i t' k hq
      obtain ⟨h1,_,_,_⟩:=nameT_to h
      have:=quo_len _ _ (Nat.le_refl _) _ _ hq
      rw [List.length_drop] at this
      subst h1; omega
     ·cases h
    ·split at h
     ·rename_i h91
      obtain ⟨h1,_,_,_⟩:=nameT_to h
      cases h2:L[i+1]? with
      | none=>rw [h2] at h91; simp at h91
      | some d=>have:=(List.getElem?_eq_some_iff.1 h2).1; subst h1; omega
     ·split at h
      ·obtain ⟨h1,_,_,_⟩:=nameT_to h; subst h1; omega
      ·split at h
       ·simp only [Option.some.injEq,Prod.mk.injEq] at h; obtain ⟨_,rfl⟩:=h; omega
       ·split at h
        ·simp only [Option.some.injEq,Prod.mk.injEq] at h; obtain ⟨_,rfl⟩:=h; omega
        ·exact run sgnC 1 h
end PSL

namespace PSL
open Go
def sgW:Bs:=[43,45,42,47,92,94,60,62,61,126,58,63,64,35,38,36]
def sgWC (c:UInt8):Bool:=sgW.contains c

def wordB:Bs→Bool
 | []=>false
 | c::r=>lowC c&&r.all folC
def signB (l:Bs):Bool:=!l.isEmpty&&l.all sgWC
def dblB (l:Bs):Bs:=l.flatMap fun c=>if c=39 then [39,39] else [c]
def plainB (l:Bs):Bool:=wordB l || signB l || l==[33] || l==[59] || l==[91,93]
def nameB (l:Bs):Bs:=if plainB l then l else 39::(dblB l++[39])

def wput (bs s:Bs):Bs:=if bs.length≤8000 then bs++s else bs

theorem nameB_ne (l:Bs):nameB l≠[]:=by
 unfold nameB
 split
 ·rename_i h
  intro e; subst e
  simp [plainB,wordB,signB] at h
 ·simp

theorem dblB_len (l:Bs):(dblB l).length≤2 * l.length:=by
 induction l with
 | nil=>simp [dblB]
 | cons c r ih =>
  simp only [dblB,List.flatMap_cons,List.length_append,List.length_cons] at ih ⊢
  split <;> simp only [List.length_cons,List.length_nil] <;> omega

theorem nameB_len (l:Bs):(nameB l).length≤2 * l.length+2:=by
 have:=dblB_len l
 unfold nameB
 split
 ·omega
 ·simp only [List.length_cons,List.length_append,List.length_nil]; omega

theorem wput_ne {bs s:Bs} (h:s≠[]):wput bs s≠[]:=by
 unfold wput
 split
 ·simp [h]
 ·rename_i hl; intro e; rw [e] at hl; simp at hl
theorem lowC_iff (c:UInt8):lowC c=true↔97≤c.toNat∧c.toNat≤122:=by simp [lowC]

theorem folC_iff (c:UInt8):folC c=true↔(48≤c.toNat∧c.toNat≤57)∨(97≤c.toNat∧c.toNat≤122)∨(65≤c.toNat∧c.toNat≤90)∨c.toNat=95:=by
 simp only [folC,dgC,lowC,grtC,Bool.or_eq_true,Bool.and_eq_true,decide_eq_true_eq]
 omega
def wlB (L:Bs) (k:Nat):Bool:=if k=0 then wordB L else (L.drop k).all folC

theorem wl_no {L:Bs} {k:Nat} {c:UInt8} (hc:L[k]? = some c) (h:wordB L=wlB L k) (h0:k=0→¬ (97≤c.toNat∧c.toNat≤122)) (h1:k≠0→¬ ((48≤c.toNat∧c.toNat≤57)∨(97≤c.toNat∧c.toNat≤122)∨(65≤c.toNat∧c.toNat≤90)∨c.toNat=95)):wordB L=false:=by
 have hl:=(List.getElem?_eq_some_iff.1 hc).1
 have hcc:=(List.getElem?_eq_some_iff.1 hc).2
 by_cases hk:k=0
 ·subst hk
  cases L with
  | nil=>simp at hl
  | cons d r =>
   simp only [List.getElem_cons_zero] at hcc
   subst hcc
   have:lowC d=false:=by
    cases hd:lowC d
    ·rfl
    ·exact absurd ((lowC_iff d).1 hd) (h0 rfl)
   simp [wordB,this]
 ·rw [h,wlB,if_neg hk,List.drop_eq_getElem_cons hl,List.all_cons,hcc]
  have:folC c=false:=by
   cases hd:folC c
   ·rfl
   ·exact absurd ((folC_iff c).1 hd) (h1 hk)
  rw [this,Bool.false_and]

theorem wl_next {L:Bs} {k:Nat} {c:UInt8} (hc:L[k]? = some c) (h:wordB L=wlB L k) (h0:k=0→97≤c.toNat∧c.toNat≤122) (h1:k≠0→(48≤c.toNat∧c.toNat≤57)∨(97≤c.toNat∧c.toNat≤122)∨(65≤c.toNat∧c.toNat≤90)∨c.toNat=95):wordB L=wlB L (k+1):=by
 have hl:=(List.getElem?_eq_some_iff.1 hc).1
 have hcc:=(List.getElem?_eq_some_iff.1 hc).2
 rw [wlB,if_neg (by omega)]
 by_cases hk:k=0
 ·subst hk
  cases L with
  | nil=>simp at hl
  | cons d r =>
   simp only [List.getElem_cons_zero] at hcc
   subst hcc
   simp [wordB,(lowC_iff d).2 (h0 rfl)]
 ·rw [h,wlB,if_neg hk,List.drop_eq_getElem_cons hl,List.all_cons,hcc,(folC_iff c).2 (h1 hk),Bool.true_and]

theorem wl_end {L:Bs} {k:Nat} (hk:L.length≤k) (h:wordB L=wlB L k):wordB L = !(L==[]):=by
 cases L with
 | nil=>rfl
 | cons c r =>
  rw [h,wlB,if_neg (by simp at hk; omega),List.drop_eq_nil_of_le hk]; rfl
end PSL

namespace PSL
open Go
def cellK (k:Int) (s:ByteArray) (l:List Tm):Bool:=decide (k=3)&&(s.data.toList==[46])&&decide (l.length=2)
def nilK (k:Int) (s:ByteArray) (l:List Tm):Bool:=decide (k=3)&&(s.data.toList==[91,93])&&l.isEmpty

def atomP (k:Int) (s:ByteArray) (n:Int) (e:Bool) (axs:List Bs):List Bs :=
 if k=1 then [95::Lib.itoa n] else if k=2 then [Lib.itoa n] else nameB s.data.toList::(axs++if e then [] else [[41]])

mutual
def pcs:Tm→List Bs
 | .mk k s n l=>if cellK k s l then [91]::pcsCell l else atomP k s n l.isEmpty (pcsArgs true l)
def pcsTl:Tm→List Bs
 | .mk k s n l=>if cellK k s l then [44]::pcsCell l else if nilK k s l then [[93]] else [124]::(atomP k s n l.isEmpty (pcsArgs true l)++[[93]])
def pcsCell:List Tm→List Bs
 | []=>[]
 | a::r=>pcs a++pcsCell2 r
def pcsCell2:List Tm→List Bs
 | []=>[]
 | b::_=>pcsTl b
def pcsArgs:Bool→List Tm→List Bs
 | _,[]=>[]
 | f,x::r=>(if f then [40] else [44])::(pcs x++pcsArgs false r)
end

def wputs (bs:Bs) (l:List Bs):Bs:=l.foldl wput bs
theorem wputs_app (bs:Bs) (a b:List Bs):wputs bs (a++b)=wputs (wputs bs a) b:=by simp [wputs]
theorem wputs_cons (bs:Bs) (x:Bs) (r:List Bs):wputs bs (x::r)=wputs (wput bs x) r:=rfl
theorem wputs_nil (bs:Bs):wputs bs []=bs:=rfl
def cellT (t:Tm):Bool:=cellK t.k t.s t.l

theorem pcs_cell {t a b:Tm} (h:cellT t=true) (hl:t.l=[a,b]):pcs t=[91]::(pcs a++pcsTl b):=by
 cases t with
 | mk k s n l =>
  simp only [Tm.l] at hl
  subst hl
  simp only [cellT,Tm.k,Tm.s,Tm.l] at h
  simp only [pcs,h,if_true,pcsCell,pcsCell2]

theorem pcsTl_cell {t a b:Tm} (h:cellT t=true) (hl:t.l=[a,b]):pcsTl t=[44]::(pcs a++pcsTl b):=by
 cases t with
 | mk k s n l =>
  simp only [Tm.l] at hl
  subst hl
  simp only [cellT,Tm.k,Tm.s,Tm.l] at h
  simp only [pcsTl,h,if_true,pcsCell,pcsCell2]

theorem pcsTl_nil {t:Tm} (h:cellT t=false) (hn:nilK t.k t.s t.l=true):pcsTl t=[[93]]:=by
 cases t with
 | mk k s n l =>
  simp only [cellT,Tm.k,Tm.s,Tm.l] at h hn
  simp only [pcsTl,h,hn,Bool.false_eq_true,if_false,if_true]

theorem pcs_atom {t:Tm} (h:cellT t=false):pcs t=atomP t.k t.s t.n t.l.isEmpty (pcsArgs true t.l):=by
 cases t with
 | mk k s n l =>
  simp only [cellT,Tm.k,Tm.s,Tm.l] at h
  simp only [pcs,h,Bool.false_eq_true,if_false,Tm.k,Tm.s,Tm.l,Tm.n]

theorem pcsTl_rest {t:Tm} (h:cellT t=false) (hn:nilK t.k t.s t.l=false):pcsTl t=[124]::(pcs t++[[93]]):=by
 rw [pcs_atom h]
 cases t with
 | mk k s n l =>
  simp only [cellT,Tm.k,Tm.s,Tm.l] at h hn
  simp only [pcsTl,h,hn,Bool.false_eq_true,if_false,Tm.k,Tm.s,Tm.l,Tm.n]

theorem cellT_l {t:Tm} (h:cellT t=true):∃ a b,t.l=[a,b]:=by
 simp only [cellT,cellK,Bool.and_eq_true,decide_eq_true_eq] at h
 match hl:t.l,h.2 with
 | [a,b],_=>exact ⟨a,b,rfl⟩

theorem wputs_args {l:List Tm} {k:Nat} {x:Tm} (bs:Bs) (f:Bool) (h:l[k]? = some x):pcsArgs f (l.drop k)=(if f then [40] else [44])::(pcs x++pcsArgs false (l.drop (k+1))):=by
 have hl:=(List.getElem?_eq_some_iff.1 h).1
 rw [List.drop_eq_getElem_cons hl,(List.getElem?_eq_some_iff.1 h).2,pcsArgs]

inductive OkW:Tm→Prop
 | mk {t:Tm} (ha:∀ c∈t.s.data.toList,c.toNat<128) (hl:t.s.data.toList.length≤1000) (h0:-9223372036854775808≤t.n) (h1:t.n≤9223372036854775807) (hn:t.l.length≤1000000) (hs:∀ x∈t.l,OkW x):OkW t

theorem itoa_len (n:Int) (h0:-9223372036854775808≤n) (h1:n≤9223372036854775807):(Lib.itoa n).length≤1000∧Lib.itoa n≠[]:=by
 have hd:∀ (k u:Nat),u<10 ^ (k+1)→(Lib.decDigits u).length≤k+1:=by
  intro k
  induction k with
  | zero=>intro u hu; rw [Lib.decDigits,dif_pos (by omega)]; simp
  | succ k ih =>
   intro u hu
   rw [Lib.decDigits]
   split
   ·simp
   ·have:=ih (u / 10) (by rw [Nat.pow_succ] at hu; omega)
    simp only [List.length_append,List.length_cons,List.length_nil]; omega
 have hne:∀ u,Lib.decDigits u≠[]:=by
  intro u; rw [Lib.decDigits]; split <;> simp
 unfold Lib.itoa
 split
 ·have:=hd 19 n.natAbs (by omega)
  exact ⟨by simp only [List.length_cons]; omega,by simp⟩
 ·have:=hd 19 n.toNat (by omega)
  exact ⟨by omega,hne _⟩
end PSL

namespace PSL
open Go

theorem valN_acc:∀ (D:Bs) (n:Nat),valN n D=n * 10 ^ D.length+valN 0 D
 | [],n=>by simp [valN]
 | c::D,n=>by
  show valN (10 * n+(c.toNat - 48)) D=n * 10 ^ (D.length+1)+valN (10 * 0+(c.toNat - 48)) D
  rw [valN_acc D,valN_acc D (10 * 0+(c.toNat - 48)),Nat.pow_succ]
  have:(10 * n+(c.toNat - 48)) * 10 ^ D.length=n * (10 ^ D.length * 10)+(c.toNat - 48) * 10 ^ D.length:=by
   rw [Nat.add_mul]; congr 1
   rw [Nat.mul_comm 10 n,Nat.mul_assoc,Nat.mul_comm 10]
  rw [this,show 10 * 0+(c.toNat - 48)=c.toNat - 48 by omega]; omega
theorem valN_snoc (D:Bs) (c:UInt8) (n:Nat):valN n (D++[c])=10 * valN n D+(c.toNat - 48):=by simp [valN,List.foldl_append]

theorem valN_mono (D E:Bs):valN 0 D≤valN 0 (D++E):=by
 have e:valN 0 (D++E)=valN (valN 0 D) E:=by simp [valN,List.foldl_append]
 rw [e,valN_acc E (valN 0 D)]
 have:1≤10 ^ E.length:=Nat.one_le_pow _ _ (by omega)
 have:valN 0 D * 1≤valN 0 D * 10 ^ E.length:=Nat.mul_le_mul_left _ this
 omega
end PSL
namespace PSL
open Go
def nlC (c:UInt8):Bool:=!decide (c.toNat=10)

theorem skip_line:∀ (r:Bs),skipL true r=(r.takeWhile nlC).length+skipL false (r.dropWhile nlC)
 | []=>by simp [skipL]
 | c::r=>by
  by_cases h:c.toNat=10
  ·have hn:nlC c=false:=by simp [nlC,h]
   have hb:blkC c=true:=by simp [blkC,h]
   rw [List.takeWhile_cons_of_neg (by rw [hn]; simp),List.dropWhile_cons_of_neg (by rw [hn]; simp)]
   simp [skipL,h,hb]
  ·have hn:nlC c=true:=by simp [nlC,h]
   rw [List.takeWhile_cons_of_pos hn,List.dropWhile_cons_of_pos hn]
   simp only [skipL,List.length_cons]
   rw [decide_eq_false h,Bool.not_false,skip_line r]; omega

theorem drop_run (p:UInt8→Bool) (l:Bs):l.drop (l.takeWhile p).length=l.dropWhile p:=by
 induction l with
 | nil=>rfl
 | cons c l ih =>
  by_cases h:p c=true
  ·rw [List.takeWhile_cons_of_pos h,List.dropWhile_cons_of_pos h]; simpa using ih
  ·rw [List.takeWhile_cons_of_neg h,List.dropWhile_cons_of_neg h]; rfl
theorem pass_end {L:Bs} {i:Nat} (h:L.length≤i):passN L i=i:=by unfold passN; rw [List.drop_eq_nil_of_le h]; simp [skipL]

theorem pass_blank {L:Bs} {i:Nat} {c:UInt8} (h:L[i]? = some c) (hb:blkC c=true):passN L i=passN L (i+1):=by
 have hi:=(List.getElem?_eq_some_iff.1 h).1
 have he:=(List.getElem?_eq_some_iff.1 h).2
 have hne:¬ c.toNat=37:=by simp [blkC] at hb; omega
 unfold passN
 rw [List.drop_eq_getElem_cons hi,he]
 simp only [skipL]
 rw [if_neg hne,if_pos hb]; omega

theorem pass_line {L:Bs} {i:Nat} {c:UInt8} (h:L[i]? = some c) (hc:c.toNat=37):passN L i=passN L (runB nlC L i)∧i<runB nlC L i:=by
 have hi:=(List.getElem?_eq_some_iff.1 h).1
 have he:=(List.getElem?_eq_some_iff.1 h).2
 have hn:nlC c=true:=by simp [nlC,hc]
 have hr:=runB_step h hn
 have hl:=(runB_le (p:=nlC) (L:=L) (i:=i+1) (by omega)).1
 refine ⟨?_,by omega⟩
 have hd:L.drop (runB nlC L (i+1))=(L.drop (i+1)).dropWhile nlC:=by rw [← drop_run nlC (L.drop (i+1)),List.drop_drop]; rfl
 unfold passN
 rw [hr,hd,List.drop_eq_getElem_cons hi,he]
 simp only [skipL]
 rw [if_pos hc,skip_line]
 unfold runB
 omega

theorem pass_stop {L:Bs} {i:Nat} {c:UInt8} (h:L[i]? = some c) (hb:blkC c=false) (hc:¬ c.toNat=37):passN L i=i:=by
 have hi:=(List.getElem?_eq_some_iff.1 h).1
 have he:=(List.getElem?_eq_some_iff.1 h).2
 unfold passN
 rw [List.drop_eq_getElem_cons hi,he]
 simp only [skipL]
 rw [if_neg hc,if_neg (by rw [hb]; simp)]; rfl

theorem pass_le {L:Bs} {i:Nat} (h:i≤L.length):i≤passN L i∧passN L i≤L.length:=by
 have:=skipL_le false (L.drop i)
 rw [List.length_drop] at this
 unfold passN; omega
end PSL
namespace PSL
open Go

theorem oneT_at {L:Bs} {i:Nat} {t:Tk} {j:Nat} (h:oneT L i=some (t,j)):t.at_=i:=by
 have nm:∀ {kind:Int} {text:Bs} {to:Nat},nameT L kind text i to=some (t,j)→t.at_=i:=fun h=>by
  obtain ⟨_,rfl,_⟩:=nameT_to h; rfl
 unfold oneT at h
 split at h
 ·cases h
 split at h
 ·exact nm h
 split at h
 ·exact nm h
 split at h
 ·cases hn:numT (cutB L i (runB dgC L i)) with
  | none=>rw [hn] at h; cases h
  | some n=>rw [hn] at h; cases h; rfl
 split at h
 ·split at h
  ·exact nm h
  ·cases h
 split at h
 ·exact nm h
 split at h
 ·exact nm h
 split at h
 ·cases h; rfl
 split at h
 ·cases h; rfl
 ·exact nm h

theorem toks_len:∀ (f:Nat) (L:Bs) (i:Nat) (l:List Tk),toks f L i=.ok l→l.length≤L.length - i
 | 0,L,i,l,h=>by simp only [toks,Except.ok.injEq] at h; subst h; simp
 | f+1,L,i,l,h=>by
  simp only [toks] at h
  have hle:i≤passN L i:=by unfold passN; omega
  split at h
  ·rename_i hlt
   cases hone:oneT L (passN L i) with
   | none=>rw [hone] at h; cases h
   | some x =>
    obtain ⟨u,to⟩:=x
    rw [hone] at h
    have hto:=oneT_to hone
    simp only at h
    cases hr:toks f L to with
    | error j=>rw [hr] at h; cases h
    | ok r =>
     rw [hr] at h
     simp only [Except.ok.injEq] at h
     subst h
     have:=toks_len f L to r hr
     simp only [List.length_cons]; omega
  ·simp only [Except.ok.injEq] at h; subst h; simp
end PSL

namespace Go.Proofs.YtchhahnajgfeaaaGreatDoor
open Go PSL Go.Proofs
def u8A (c:UInt8):AV:=.d (.v (.int .u8 c.toNat))
def txA (L:Bs):AV:=.d (.v (.string (Tx L)))
theorem bvEq {a b:Bool} (h:a=true↔b=true):bV a=bV b:=by rw [Bool.eq_iff_iff.2 h]
theorem bvT {b:Bool} (h:b=true):AV.d (.v (.bool true))=bV b:=by rw [h]; rfl
theorem bvF {b:Bool} (h:b=false):AV.d (.v (.bool false))=bV b:=by rw [h]; rfl

set_option maxRecDepth 100000 in
theorem low_ok (c:UInt8):PCtr Tryz.prog 60 [u8A c] (bV (lowC c)):=by
 refine PCtr.of_R (pf:=fun _=>.still) tyOk mixed Tryz.func60 rfl (by kernel_rfl) (by kernel_rfl) (by simp [Tryz.ntmps60]) fun w S hg=>?_
 refine R_run hg.ok 1000 rfl rfl ?_
 refine R_if rfl rfl (fun h=>?_) (fun h=>?_) <;> refine R_run hg.ok 1000 rfl rfl ?_
 ·have h:=of_decide_eq_true h
  refine R_ret hg 5 rfl rfl ?_
  exact bvEq (by simp [lowC]; omega)
 ·have h:=of_decide_eq_false h
  refine R_ret hg 5 rfl rfl ?_
  exact bvF (by simp [lowC]; omega)

set_option maxRecDepth 100000 in
theorem digit_ok (c:UInt8):PCtr Tryz.prog 64 [u8A c] (bV (dgC c)):=by
 refine PCtr.of_R (pf:=fun _=>.still) tyOk mixed Tryz.func64 rfl (by kernel_rfl) (by kernel_rfl) (by simp [Tryz.ntmps64]) fun w S hg=>?_
 refine R_run hg.ok 1000 rfl rfl ?_
 refine R_if rfl rfl (fun h=>?_) (fun h=>?_) <;> refine R_run hg.ok 1000 rfl rfl ?_
 ·have h:=of_decide_eq_true h
  refine R_ret hg 5 rfl rfl ?_
  exact bvEq (by simp [dgC]; omega)
 ·have h:=of_decide_eq_false h
  refine R_ret hg 5 rfl rfl ?_
  exact bvF (by simp [dgC]; omega)

set_option maxRecDepth 100000 in
theorem great_ok (c:UInt8):PCtr Tryz.prog 61 [u8A c] (bV (grtC c)):=by
 refine PCtr.of_R (pf:=fun _=>.still) tyOk mixed Tryz.func61 rfl (by kernel_rfl) (by kernel_rfl) (by simp [Tryz.ntmps61]) fun w S hg=>?_
 refine R_run hg.ok 1000 rfl rfl ?_
 refine R_if rfl rfl (fun h=>?_) (fun h=>?_) <;> refine R_run hg.ok 1000 rfl rfl ?_
 ·have h:=of_decide_eq_true h
  refine R_if rfl rfl (fun h2=>?_) (fun h2=>?_) <;> refine R_run hg.ok 1000 rfl rfl ?_
  ·have h2:=of_decide_eq_true h2
   refine R_ret hg 5 rfl rfl ?_
   exact bvT (by simp [grtC]; omega)
  ·have h2:=of_decide_eq_false h2
   refine R_ret hg 5 rfl rfl ?_
   exact bvEq (by simp [grtC]; omega)
 ·have h:=of_decide_eq_false h
  refine R_ret hg 5 rfl rfl ?_
  exact bvEq (by simp [grtC]; omega)

set_option maxRecDepth 100000 in
theorem blank_ok (c:UInt8):PCtr Tryz.prog 57 [u8A c] (bV (blkC c)):=by
 refine PCtr.of_R (pf:=fun _=>.still) tyOk mixed Tryz.func57 rfl (by kernel_rfl) (by kernel_rfl) (by simp [Tryz.ntmps57]) fun w S hg=>?_
 refine R_run hg.ok 1000 rfl rfl ?_
 refine R_if rfl rfl (fun h=>?_) (fun h=>?_) <;> refine R_run hg.ok 1000 rfl rfl ?_
 ·refine R_ret hg 5 rfl rfl ?_
  exact bvT (by simp at h; simp [blkC]; omega)
 refine R_if rfl rfl (fun h2=>?_) (fun h2=>?_) <;> refine R_run hg.ok 1000 rfl rfl ?_
 ·refine R_ret hg 5 rfl rfl ?_
  exact bvT (by simp at h2; simp [blkC]; omega)
 ·refine R_ret hg 5 rfl rfl ?_
  exact bvEq (by simp at h h2; simp [blkC]; omega)

set_option maxRecDepth 100000 in
theorem follows_ok (c:UInt8):PCtr Tryz.prog 62 [u8A c] (bV (folC c)):=by
 refine PCtr.of_R (pf:=fun _=>.still) tyOk mixed Tryz.func62 rfl (by kernel_rfl) (by kernel_rfl) (by simp [Tryz.ntmps62]) fun w S hg=>?_
 refine R_run hg.ok 1000 rfl rfl ?_
 refine R_call hg.ok (digit_ok c) rfl rfl rfl rfl rfl rfl ?_
 refine R_run hg.ok 1000 rfl rfl ?_
 refine R_if rfl rfl (fun h=>?_) (fun h=>?_) <;> refine R_run hg.ok 1000 rfl rfl ?_
 ·refine R_ret hg 5 rfl rfl ?_
  exact bvT (by simp [folC,h])
 refine R_call hg.ok (low_ok c) rfl rfl rfl rfl rfl rfl ?_
 refine R_run hg.ok 1000 rfl rfl ?_
 refine R_if rfl rfl (fun h2=>?_) (fun h2=>?_) <;> refine R_run hg.ok 1000 rfl rfl ?_
 ·refine R_ret hg 5 rfl rfl ?_
  exact bvT (by simp [folC,h2])
 refine R_call hg.ok (great_ok c) rfl rfl rfl rfl rfl rfl ?_
 refine R_run hg.ok 1000 rfl rfl ?_
 refine R_ret hg 5 rfl rfl ?_
 exact bvEq (by simp [folC,h,h2])

theorem w8 (c:UInt8):IntKind.u8.wrap (c.toNat:Int)=c.toNat:=by
 have:=c.toNat_lt
 simp [IntKind.wrap,IntKind.signed,IntKind.bits]; omega

theorem decode_ascii {L:Bs} {i:Nat} {c:UInt8} (h:L[i]? = some c) (hc:c.toNat<128):Utf8.decode (Tx L) i=(c.toNat,1):=by
 have hl:=(List.getElem?_eq_some_iff.1 h).1
 have e:(Tx L).get! (i+0)=c:=by
  show (Tx L).data[i]! = c
  have:=(List.getElem?_eq_some_iff.1 h).2
  simp [Tx,hl,this]
 unfold Utf8.decode
 simp only [e]
 rw [if_pos (by omega)]

set_option maxRecDepth 100000 in
theorem among_ok (R:Bs) (hR:R.all (fun c=>decide (c.toNat<128))=true) (c:UInt8):PCtr Tryz.prog 67 [txA R,u8A c] (bV (R.contains c)):=by
 refine PCtr.of_R (pf:=fun _=>.eff) tyOk mixed Tryz.func67 rfl (by kernel_rfl) (by kernel_rfl) (by simp [Tryz.ntmps67]) fun w S hg=>?_
 refine R_run hg.ok 1000 rfl rfl ?_
 refine R_rangeS hg.ok rfl rfl rfl rfl ?_
 refine R_run hg.ok 1000 rfl rfl ?_
 refine R_loop (fun k:Nat=>([(1,u8A c),(8,.lo 0 0)],[.itr (Tx R) k])) (fun k=>k≤R.length∧R.contains c=(R.drop k).contains c) (fun k=>R.length - k) 0 ⟨Nat.zero_le _,by simp⟩ ⟨.refl _,.refl _,trivial⟩ rfl ?_
 rintro k ⟨hk,hm⟩
 refine R_run hg.ok 1000 rfl rfl ?_
 by_cases hk1:k<R.length
 ·have e1:R[k]? = some R[k]:=List.getElem?_eq_getElem hk1
  have ha:R[k].toNat<128:=by simpa using List.all_eq_true.1 hR _ (List.getElem_mem hk1)
  rw [List.drop_eq_getElem_cons hk1,List.contains_cons] at hm
  refine R_nextS hg.ok rfl rfl rfl rfl (by rw [Tx_size]; exact hk1) (decode_ascii e1 ha) ?_
  refine R_run hg.ok 1000 rfl rfl ?_
  rw [w8 R[k]]
  refine R_if rfl rfl (fun h=>?_) (fun h=>?_) <;> refine R_run hg.ok 1000 rfl rfl ?_
  ·refine R_ret hg 5 rfl rfl ?_
   refine bvT ?_
   have h:R[k]=c:=UInt8.toNat_inj.1 (by simp at h; omega)
   rw [hm,h]; simp
  ·refine R_next (k+1) ⟨hk1,?_⟩ (by omega) ⟨.refl _,.refl _,trivial⟩ rfl
   have h:¬ R[k]=c:=fun e=>by rw [e] at h; simp at h
   rw [hm,show (c==R[k])=false by simp; exact fun e=>h e.symm,Bool.false_or]
 ·refine R_nextE hg.ok rfl rfl rfl rfl (by rw [Tx_size]; omega) ?_
  refine R_run hg.ok 1000 rfl rfl ?_
  refine R_ret hg 5 rfl rfl ?_
  rw [hm,List.drop_eq_nil_of_le (by omega)]; rfl

set_option maxRecDepth 100000 in
theorem sign1_ok (c:UInt8):PCtr Tryz.prog 68 [u8A c] (bV (sgnC c)):=by
 have h:=among_ok sgnL (by decide) c
 refine PCtr.of_R (pf:=fun _=>.still) tyOk mixed Tryz.func68 rfl (by kernel_rfl) (by kernel_rfl) (by simp [Tryz.ntmps68]) fun w S hg=>?_
 refine R_run hg.ok 1000 rfl rfl ?_
 refine R_call hg.ok (h) rfl rfl rfl rfl rfl rfl ?_
 refine R_run hg.ok 1000 rfl rfl ?_
 refine R_ret hg 5 rfl rfl ?_
 rfl

set_option maxRecDepth 100000 in
theorem line_ok (c:UInt8):PCtr Tryz.prog 59 [u8A c] (bV (!decide (c.toNat=10))):=by
 refine PCtr.of_R (pf:=fun _=>.still) tyOk mixed Tryz.func59 rfl (by kernel_rfl) (by kernel_rfl) (by simp [Tryz.ntmps59]) fun w S hg=>?_
 refine R_run hg.ok 1000 rfl rfl ?_
 refine R_ret hg 5 rfl rfl ?_
 exact bvEq (by simp; omega)
def cutO (L:Bs) (i:Nat):List Ob:=[.box [txA L,iV i]]

set_option maxRecDepth 100000 in
theorem run_walk (Y:YP) (f:Nat) (p:UInt8→Bool) (hp:∀ c,PCtr Tryz.prog f [u8A c] (bV (p c))) (L:Bs) (j i:Nat) (hi:i≤L.length) (hL:L.length≤9000):SCtr Tryz.prog Y 58 [.lo 0 0,iV i,.clo f [] []] (cutO L j) (iV (runB p L i)) (cutO L j):=by
 refine SCtr.of_R (pf:=fun _=>.eff) tyOk mixed Tryz.func58 rfl (by kernel_rfl) (by kernel_rfl) (by simp [Tryz.ntmps58]) (by simp [cutO]) fun w S φ hg=>?_
 have hφ:φ.length=1:=hg.hs0.len
 refine R_run hg.ok 1000 rfl rfl ?_
 refine R_loop (fun k:Nat=>([(0,.lo 0 0),(1,iV k),(2,.clo f [] [])],cutO L j)) (fun k=>k≤L.length∧runB p L i=runB p L k) (fun k=>L.length - k) i ⟨hi,rfl⟩ ⟨.refl _,.refl _,.refl _,trivial⟩ rfl ?_
 rintro k ⟨hk,hm⟩
 refine R_run hg.ok 1000 rfl rfl ?_
 refine R_if rfl rfl (fun h=>?_) (fun h=>?_) <;> refine R_run hg.ok 1000 rfl rfl ?_
 ·have hk1:k<L.length:=lt_dec h (by rw [Tx_size])
  have e1:L[k]? = some L[k]:=List.getElem?_eq_getElem hk1
  refine R_indexS hg.ok rfl rfl rfl rfl rfl (Int.natCast_nonneg k) (b:=L[k]) (by rw [Tx_get]; exact e1) ?_
  refine R_run hg.ok 1000 rfl rfl ?_
  refine R_call hg.ok (hp L[k]) rfl rfl rfl rfl rfl rfl ?_
  refine R_run hg.ok 1000 rfl rfl ?_
  refine R_if rfl rfl (fun h2=>?_) (fun h2=>?_) <;> refine R_run hg.ok 1000 rfl rfl ?_
  ·exact R_next (k+1) ⟨hk1,by rw [hm,runB_step e1 h2]⟩ (by omega) ⟨.refl _,Ent.wrap (by omega) (by omega) (by omega),.refl _,trivial⟩ rfl
  ·rw [hm,runB_stop e1 h2]
   exact R_retS hg 1 5 (Nat.le_refl _) rfl rfl rfl
 ·have hk1:L.length≤k:=ge_dec h (by rw [Tx_size])
  rw [hm,runB_end hk1]
  exact R_retS hg 1 5 (Nat.le_refl _) rfl rfl rfl

set_option maxRecDepth 100000 in
theorem pass_walk (Y:YP) (L:Bs) (i:Nat) (hi:i≤L.length) (hL:L.length≤9000):SCtr Tryz.prog Y 47 [.lo 0 0] (cutO L i) (.tup []) (cutO L (passN L i)):=by
 refine SCtr.of_R (pf:=fun _=>.eff) tyOk mixed Tryz.func47 rfl (by kernel_rfl) (by kernel_rfl) (by simp [Tryz.ntmps47]) (by simp [cutO]) fun w S φ hg=>?_
 have hφ:φ.length=1:=hg.hs0.len
 refine R_run hg.ok 1000 rfl rfl ?_
 refine R_loop (fun k:Nat=>([(0,.lo 0 0)],cutO L k)) (fun k=>k≤L.length∧passN L i=passN L k) (fun k=>L.length - k) i ⟨hi,rfl⟩ ⟨.refl _,trivial⟩ rfl ?_
 rintro k ⟨hk,hm⟩
 refine R_run hg.ok 1000 rfl rfl ?_
 refine R_if rfl rfl (fun h=>?_) (fun h=>?_) <;> refine R_run hg.ok 1000 rfl rfl ?_
 ·have hk1:k<L.length:=lt_dec h (by rw [Tx_size])
  have e1:L[k]? = some L[k]:=List.getElem?_eq_getElem hk1
  refine R_indexS hg.ok rfl rfl rfl rfl rfl (Int.natCast_nonneg k) (b:=L[k]) (by rw [Tx_get]; exact e1) ?_
  refine R_run hg.ok 1000 rfl rfl ?_
  refine R_call hg.ok (blank_ok L[k]) rfl rfl rfl rfl rfl rfl ?_
  refine R_run hg.ok 1000 rfl rfl ?_
  refine R_if rfl rfl (fun h2=>?_) (fun h2=>?_) <;> refine R_run hg.ok 1000 rfl rfl ?_
  ·rw [w64 (n:=(k:Int)+1) (by omega) (by omega)]
   exact R_next (k+1) ⟨hk1,by rw [hm,pass_blank e1 h2]⟩ (by omega) ⟨.refl _,trivial⟩ rfl
  ·refine R_indexS hg.ok rfl rfl rfl rfl rfl (Int.natCast_nonneg k) (b:=L[k]) (by rw [Tx_get]; exact e1) ?_
   refine R_run hg.ok 1000 rfl rfl ?_
   refine R_if rfl rfl (fun h3=>?_) (fun h3=>?_) <;> refine R_run hg.ok 1000 rfl rfl ?_
   ·have h3:L[k].toNat=37:=by simp at h3; omega
    obtain ⟨g1,g2⟩:=pass_line e1 h3
    have g3:=(runB_le (p:=nlC) (L:=L) (i:=k) (by omega)).2
    have hcall:=run_walk Y 59 nlC line_ok L k k hk hL
    refine R_callSO hg.ok hg.gup hg.wide hg.Y [0] (cutO L k) hcall (fun _=>rfl) rfl rfl rfl rfl rfl rfl rfl rfl ?_
    refine R_run hg.ok 1000 rfl rfl ?_
    exact R_next (runB nlC L k) ⟨g3,by rw [hm,g1]⟩ (by omega) ⟨.refl _,trivial⟩ rfl
   ·have h3:¬ L[k].toNat=37:=by simp at h3; omega
    rw [hm,pass_stop e1 h2 h3]
    exact R_retS hg 1 5 (Nat.le_refl _) rfl rfl rfl
 ·have hk1:L.length≤k:=ge_dec h (by rw [Tx_size])
  rw [hm,pass_end hk1]
  exact R_endS hg 1 5 (Nat.le_refl _) rfl rfl rfl
def tkD (t:Tk):List D:=[.v (.int .i64 t.kind),.v (.string (Tx t.text)),.v (.int .i64 t.n),.v (.int .i64 t.at_),.v (.bool t.opn)]
def tkA (t:Tk):AV:=.agg [.d (.v (.int .i64 t.kind)),.d (.v (.string (Tx t.text))),.d (.v (.int .i64 t.n)),.d (.v (.int .i64 t.at_)),.d (.v (.bool t.opn))]
def namB (text:Bs):Bool:=decide (1≤text.length)&&decide (text.length≤20)
def pfNamed:Nat→Cls:=fun f=>bif Nat.beq f 4000200008 then .turn 101 else bif Nat.beq f 4000300035 then .look 102 else bif Nat.beq f 4000300039 then .look 102 else .eff

set_option maxRecDepth 100000 in
theorem named_walk (Y:YP) (L:Bs) (i:Nat) (kind:Int) (text:Bs) (to:Nat) (hto:to≤L.length) (hL:L.length≤9000) (hi:i≤9000):SCtr Tryz.prog Y 63 [.lo 0 0,iV kind,txA text,iV to] (cutO L i) (.tup [tkA ⟨kind,text,0,i,opnB L to⟩,iV to,bV (namB text)]) (cutO L i):=by
 refine SCtr.of_R (pf:=pfNamed) tyOk mixed Tryz.func63 rfl (by kernel_rfl) (by kernel_rfl) (by simp [Tryz.ntmps63]) (by simp [cutO]) fun w S φ hg=>?_
 have hφ:φ.length=1:=hg.hs0.len
 refine R_run hg.ok 1000 rfl rfl ?_
 refine R_if rfl rfl (fun h=>?_) (fun h=>?_) <;> refine R_run hg.ok 1000 rfl rfl ?_
 ·have hk1:to<L.length:=lt_dec h (by rw [Tx_size])
  have e1:L[to]? = some L[to]:=List.getElem?_eq_getElem hk1
  have ho:(((L[to].toNat:Int))==40)=opnB L to:=by
   rw [opnB,e1,Bool.eq_iff_iff,beq_iff_eq,decide_eq_true_eq]; omega
  refine R_indexS hg.ok rfl rfl rfl rfl rfl (Int.natCast_nonneg to) (b:=L[to]) (by rw [Tx_get]; exact e1) ?_
  refine R_run hg.ok 1000 rfl rfl ?_
  rw [ho]
  refine R_lenStr hg.ok rfl rfl rfl rfl (n:=(text.length:Int)) (by rw [Tx_size]) ?_
  refine R_run hg.ok 1000 rfl rfl ?_
  refine R_if rfl rfl (fun h2=>?_) (fun h2=>?_) <;> refine R_run hg.ok 1000 rfl rfl ?_
  ·refine R_lenStr hg.ok rfl rfl rfl rfl (n:=(text.length:Int)) (by rw [Tx_size]) ?_
   refine R_run hg.ok 1000 rfl rfl ?_
   refine R_storeJ hg.ok rfl rfl rfl rfl rfl rfl rfl rfl rfl ?_
   refine R_run hg.ok 1000 rfl rfl ?_
   rw [show decide ((text.length:Int)≤20)=namB text by rw [namB,decide_eq_true (by have:=of_decide_eq_true h2; omega:1≤text.length),Bool.true_and,Bool.eq_iff_iff,decide_eq_true_eq,decide_eq_true_eq]; omega]
   exact R_retS hg 1 5 (Nat.le_refl _) rfl rfl rfl
  ·refine R_storeJ hg.ok rfl rfl rfl rfl rfl rfl rfl rfl rfl ?_
   refine R_run hg.ok 1000 rfl rfl ?_
   rw [show namB text=false by rw [namB,decide_eq_false (by have:=of_decide_eq_false h2; omega:¬ 1≤text.length),Bool.false_and]]
   exact R_retS hg 1 5 (Nat.le_refl _) rfl rfl rfl
 ·have hk1:L.length≤to:=ge_dec h (by rw [Tx_size])
  have ho:opnB L to=false:=by rw [opnB,List.getElem?_eq_none hk1]
  rw [ho]
  refine R_lenStr hg.ok rfl rfl rfl rfl (n:=(text.length:Int)) (by rw [Tx_size]) ?_
  refine R_run hg.ok 1000 rfl rfl ?_
  refine R_if rfl rfl (fun h2=>?_) (fun h2=>?_) <;> refine R_run hg.ok 1000 rfl rfl ?_
  ·refine R_lenStr hg.ok rfl rfl rfl rfl (n:=(text.length:Int)) (by rw [Tx_size]) ?_
   refine R_run hg.ok 1000 rfl rfl ?_
   refine R_storeJ hg.ok rfl rfl rfl rfl rfl rfl rfl rfl rfl ?_
   refine R_run hg.ok 1000 rfl rfl ?_
   rw [show decide ((text.length:Int)≤20)=namB text by rw [namB,decide_eq_true (by have:=of_decide_eq_true h2; omega:1≤text.length),Bool.true_and,Bool.eq_iff_iff,decide_eq_true_eq,decide_eq_true_eq]; omega]
   exact R_retS hg 1 5 (Nat.le_refl _) rfl rfl rfl
  ·refine R_storeJ hg.ok rfl rfl rfl rfl rfl rfl rfl rfl rfl ?_
   refine R_run hg.ok 1000 rfl rfl ?_
   rw [show namB text=false by rw [namB,decide_eq_false (by have:=of_decide_eq_false h2; omega:¬ 1≤text.length),Bool.false_and]]
   exact R_retS hg 1 5 (Nat.le_refl _) rfl rfl rfl
end Go.Proofs.YtchhahnajgfeaaaGreatDoor

namespace Go.Proofs.YtchhahnajgfeaaaGreatDoor
open Go PSL Go.Proofs
end Go.Proofs.YtchhahnajgfeaaaGreatDoor

namespace PSL
open Go Go.RowKit Go.MapKept

def getS:List (ByteArray × AV)→ByteArray→Option AV
 | [],_=>none
 | p::r,n=>if p.1=n then some p.2 else getS r n
def smap (l:List (ByteArray × AV)):List (Value × AV):=l.map fun p=>(.string p.1,p.2)

theorem findA_getS {n:ByteArray}:∀ {l:List (ByteArray × AV)} {i:Nat},∃ r,findA .string (.string n) (smap l) i=some r∧r.map (·.2)=getS l n
 | [],i=>⟨none,rfl,rfl⟩
 | p::l,i=>by
  obtain ⟨r0,h1,h2⟩:=sameNow_of_keys (d:=.string) (a:=.string n) (b:=.string p.1) trivial trivial
  simp only [getS]
  by_cases h:p.1=n
  ·have h3:r0=true:=h2.2 (by rw [h])
   refine ⟨some (i,p.2),?_,by simp [h]⟩
   simp only [smap,List.map_cons,findA,h1,h3]
  ·have h3:r0=false:=by
    cases r0 with
    | false=>rfl
    | true=>have:=h2.1 rfl; simp at this; exact absurd this.symm h
   obtain ⟨r,h4,h5⟩:=findA_getS (n:=n) (l:=l) (i:=i+1)
   refine ⟨r,?_,by rw [if_neg h]; exact h5⟩
   simp only [smap,List.map_cons,findA,h1,h3]
   exact h4

theorem R_mapAddS {g:G} {pf:Nat→Cls} {ops:Array Oper} {Fin:Exit→Act→World→Prop} (hg:GOk g) {dst:Option Nat} {T:Nat} {x y v:Operand} {ty:Nat} {pos:String} {after:Array Edge} {gd:Option (Nat × Bool)} {rest:List Oper} {k:List It} {E:Env} {objs:List Ob}
  {i q by_ q' by' kt et:Nat} {z z':List Value} {n:ByteArray} {av:AV} (l l':List (ByteArray × AV))
  (hgd:guardA ops.toList E gd=some true) (hd:dstOk ⟨g.ty,g.N⟩ dst=true) (hx:ev E x=.mp i) (ho:nth objs i=some (.map (smap l))) (hy:ev E y=.d (.v (.string n))) (hT:g.ty T=some ⟨q,by_,z,.map kt et⟩)
  (hkt:g.ty kt=some ⟨q',by',z',.str⟩) (hf:getS l n=none) (hav:ev E v=av) (hl:l++[(n,av)]=l')
  (hr:R g pf Fin (.dr ops rest::k) (putO E dst .any) (setN objs i (.map (smap l')))):R g pf Fin (.dr ops (⟨dst,.mapUpdate T x y v,ty,pos,after,gd⟩::rest)::k) E objs:=by
 subst hl; subst hav
 have hu:=(hg.ty _ _ hkt).sh
 simp only [ShFact] at hu
 obtain ⟨r,h1,h2⟩:=findA_getS (n:=n) (l:=l) (i:=0)
 have:r=none:=by rw [hf] at h2; cases r with
  | none=>rfl
  | some _=>simp at h2
 subst this
 refine R_mapAdd hg hgd hd hx ho hy hT hu (by simp [IsKey]) h1 ?_
 have e:smap l++[(Value.string n,ev E v)]=smap (l++[(n,ev E v)]):=by simp [smap]
 rw [e]; exact hr

theorem R_insert {g:G} {pf:Nat→Cls} {ops:Array Oper} {Fin:Exit→Act→World→Prop} (hg:GOk g) {dst:Option Nat} {T:Nat} {x y v:Operand} {ty:Nat} {pos:String} {after:Array Edge} {gd:Option (Nat × Bool)} {rest:List Oper} {k:List It} {E:Env} {objs:List Ob}
  {i q by_ kt et:Nat} {z:List Value} {es:List (Value × AV)} {kv:Value} {kd:TypeDesc}
  (hgd:guardA ops.toList E gd=some true) (hd:dstOk ⟨g.ty,g.N⟩ dst=true) (hx:ev E x=.mp i) (ho:nth objs i=some (.map es)) (hy:ev E y=.d (.v kv)) (hT:g.ty T=some ⟨q,by_,z,.map kt et⟩)
  (hkt:g.P.underlying kt=some kd) (hkey:IsKey kd kv) (hf:findA kd kv es 0=some none)
  (hr:R g pf Fin (.dr ops rest::k) (putO E dst .any) (setN objs i (.map (es++[(kv,ev E v)])))):R g pf Fin (.dr ops (⟨dst,.insert T x y v,ty,pos,after,gd⟩::rest)::k) E objs:=by
 refine R_op (LocOp.turning hg (grow_map ho) hgd hd (by simp) fun φ a w hρ hs=>?_) hr
 simp only [Op.operands] at hρ
 have hxv:=hρ x (by simp)
 rw [hx] at hxv
 have hyv:=hρ y (by simp)
 rw [hy] at hyv
 have hvv:=hρ v (by simp)
 simp only [RV] at hxv hyv
 obtain ⟨b,hb,hxv⟩:=hxv
 generalize hvy:a.eval y=vy at hyv
 cases hyv
 have hk:=obj_at hs hb ho
 simp only [ObOk] at hk
 obtain ⟨ents,clk,hheap,hents⟩:=hk
 have hT':g.P.underlying T=some (.map kt et):=by have:=(hg.ty _ _ hT).sh; simpa only [ShFact] using this
 have hfind:=findA_ok hents hf
 simp only at hfind
 have hset:=heap_set (o':=.map (ents.push { key:=kv,val:=a.eval v,born:=clk }) (clk+1)) hheap
 rw [setN_eq]
 refine ⟨.skip,undef,{ w with heap:=w.heap.setIfInBounds b (.map (ents.push { key:=kv,val:=a.eval v,born:=clk }) (clk+1)) },φ.set i (.blk b),?_,.inr ⟨rfl,rfl⟩,by simp [RV],?_⟩
 ·simp [execOp,Instr.mapUpdate,run_underlying hT',hxv,run_getObj_map hheap,hvy,run_checkKey hkt hkey,run_findKey hkt hfind,run_setObj_map _ hheap]
 ·refine Stp.swap hs hb (.inl rfl) (by simp) (fun c _ hc=>hset.2 c fun e=>hc (by rw [e]; rfl)) (fun b' hb=>.inl hb) rfl rfl rfl fun hkeep hle=>?_
  simp only [ObOk]
  refine ⟨_,_,hset.1,?_,?_⟩
  ·simp [hents.1]
  ·have:=(hents.2.mono hkeep hle).append (l':=[ev E v]) (vs':=[a.eval v]) (by simp only [RVs,and_true]; exact hvv.mono hkeep hle)
   simpa using this

theorem R_insertS {g:G} {pf:Nat→Cls} {ops:Array Oper} {Fin:Exit→Act→World→Prop} (hg:GOk g) {dst:Option Nat} {T:Nat} {x y v:Operand} {ty:Nat} {pos:String} {after:Array Edge} {gd:Option (Nat × Bool)} {rest:List Oper} {k:List It} {E:Env} {objs:List Ob}
  {i q by_ q' by' kt et:Nat} {z z':List Value} {n:ByteArray} {av:AV} (l l':List (ByteArray × AV))
  (hgd:guardA ops.toList E gd=some true) (hd:dstOk ⟨g.ty,g.N⟩ dst=true) (hx:ev E x=.mp i) (ho:nth objs i=some (.map (smap l))) (hy:ev E y=.d (.v (.string n))) (hT:g.ty T=some ⟨q,by_,z,.map kt et⟩)
  (hkt:g.ty kt=some ⟨q',by',z',.str⟩) (hf:getS l n=none) (hav:ev E v=av) (hl:l++[(n,av)]=l')
  (hr:R g pf Fin (.dr ops rest::k) (putO E dst .any) (setN objs i (.map (smap l')))):R g pf Fin (.dr ops (⟨dst,.insert T x y v,ty,pos,after,gd⟩::rest)::k) E objs:=by
 subst hl; subst hav
 have hu:=(hg.ty _ _ hkt).sh
 simp only [ShFact] at hu
 obtain ⟨r,h1,h2⟩:=findA_getS (n:=n) (l:=l) (i:=0)
 have:r=none:=by rw [hf] at h2; cases r with
  | none=>rfl
  | some _=>simp at h2
 subst this
 refine R_insert hg hgd hd hx ho hy hT hu (by simp [IsKey]) h1 ?_
 have e:smap l++[(Value.string n,ev E v)]=smap (l++[(n,ev E v)]):=by simp [smap]
 rw [e]; exact hr
def inR (x:Int):Bool:=decide (-9223372036854775808≤x)&&decide (x≤9223372036854775807)
def chk (x:Int):Int × Bool:=if inR x then (x,true) else (0,false)
namespace Tm
theorem Fit.sub {t x:Tm} (h:t.Fit) (hx:x∈t.l):x.Fit:=fun d e he=>h (d - 1) e (by rw [els_eq]; exact List.mem_cons_of_mem _ (els_memL hx (by rw [Int.sub_add_cancel]; exact he)))
end Tm
end PSL
namespace PSL
open Go
end PSL
namespace PSL
open Go Go.RowKit
end PSL
namespace PSL
open Go Go.RowKit
end PSL

namespace PSL
open Go

theorem okW_of (t:Tm):Tm.fairR t=true→t.Fit→OkW t:=by
 induction t using Tm.ind with
 | h t ih =>
  intro hf hn
  rw [Tm.fairR_eq] at hf
  simp only [Bool.and_eq_true] at hf
  obtain ⟨⟨h1,h2⟩,h3⟩:=hf
  have hb:∀ c∈t.s.data.toList,c.toNat<128:=fun c hc=>by
   have:=List.all_eq_true.1 h1 c hc
   simp [byteOk] at this
   omega
  have hi:=hn 0 (0,t) (by rw [Tm.els_eq]; simp)
  have hsub:∀ x∈t.l,OkW x:=fun x hx=>ih x hx (Tm.fairRL_iff.1 h2 x hx) (Tm.Fit.sub hn hx)
  have hss:t.s.data.toList.length=t.s.size:=rfl
  have hk:t.s.size≤1000∧t.l.length≤1000000:=by
   unfold Tm.kindR at h3
   have he:strEq t.s ⟨#[]⟩=true→t.s.size=0:=fun h=>by rw [Tm.strEq_iff.1 h]; rfl
   split at h3
   ·simp only [Bool.and_eq_true,beq_iff_eq] at h3
    have:=he h3.1.2
    have:=h3.2
    omega
   ·split at h3
    ·simp only [Bool.and_eq_true,beq_iff_eq] at h3
     have:=he h3.1
     have:=h3.2
     omega
    ·simp only [Bool.and_eq_true,decide_eq_true_eq] at h3
     omega
  exact ⟨hb,by omega,hi.2.1,hi.2.2,hk.2,hsub⟩
end PSL

namespace Go.Proofs.YtchhahnajgfeaaaGreatDoor
open Go PSL Go.Proofs
theorem decD_low {m:Nat} (h:m<10):Lib.decDigits m=[UInt8.ofNat (48+m)]:=by rw [Lib.decDigits,dif_pos h]
end Go.Proofs.YtchhahnajgfeaaaGreatDoor

namespace PSL
open Go Go.RowKit Go.MapKept
section
variable {g:G} {pf:Nat→Cls} {ops:Array Oper} {Fin:Exit→Act→World→Prop}
end
end PSL

namespace PSL
open Go Go.RowKit
section
variable {g:G} {pf:Nat→Cls} {ops:Array Oper} {Fin:Exit→Act→World→Prop}

theorem R_eqNil (hg:GOk g) {dst:Option Nat} {T T':Nat} {x:Operand} {ty:Nat} {pos:String} {after:Array Edge} {gd:Option (Nat × Bool)} {rest:List Oper} {k:List It} {E:Env} {objs:List Ob} {i off:Nat} {e:TypeId}
  (hu:g.P.underlying T=some (.pointer e)) (hgd:guardA ops.toList E gd=some true) (hd:dstOk ⟨g.ty,g.N⟩ dst=true) (hx:ev E x=.lo i off)
  (hr:R g pf Fin (.dr ops rest::k) (putO E dst (.d (.v (.bool false)))) objs):R g pf Fin (.dr ops (⟨dst,.binOp .eql T x (.const (.pointer none)) T',ty,pos,after,gd⟩::rest)::k) E objs:=by
 refine R_op (LocOp.up (LocOp.quiet hg hgd hd (by simp) fun φ objs w' w hρ hs'=>?_)) hr
 simp only [Op.operands] at hρ
 have hxv:=hρ x (by simp)
 rw [hx] at hxv
 simp only [RV] at hxv
 obtain ⟨b,_,hvx⟩:=hxv
 refine out_val hs' (vv:=.bool false) ?_ (by simp only [RV]; exact .v _)
 have h1:∀ d,(Op.equalIn (d+1) T (.pointer (some ⟨b,off,none⟩)) (.pointer none)).run g.P w=.ok false w:=fun d=>by
  simp [Op.equalIn,run_underlying hu]
 have h2:(Op.equal T (.pointer (some ⟨b,off,none⟩)) (.pointer none)).run g.P w=.ok false w:=h1 9999
 have h3:(eqGuard .eql T x (.const (.pointer none)) (.pointer (some ⟨b,off,none⟩)) (.pointer none)).run g.P w=.ok () w:=by simp [eqGuard]
 have h4:w'.eval (.const (.pointer none))=.pointer none:=rfl
 simp only [execOp,Sem.run_bind,hvx,h4,h3,Result.andThen_ok,binOp,h2,Sem.run_pure]
end
end PSL

namespace PSL
open Go Go.RowKit Go.MapKept
section
variable {g:G} {pf:Nat→Cls} {ops:Array Oper} {Fin:Exit→Act→World→Prop}
end
end PSL

namespace PSL
open Go Go.RowKit
section
variable {g:G} {pf:Nat→Cls} {ops:Array Oper} {Fin:Exit→Act→World→Prop}

theorem R_eqNil0 (hg:GOk g) {dst:Option Nat} {T T':Nat} {x:Operand} {ty:Nat} {pos:String} {after:Array Edge} {gd:Option (Nat × Bool)} {rest:List Oper} {k:List It} {E:Env} {objs:List Ob} {e:TypeId}
  (hu:g.P.underlying T=some (.pointer e)) (hgd:guardA ops.toList E gd=some true) (hd:dstOk ⟨g.ty,g.N⟩ dst=true) (hx:ev E x=.d (.v (.pointer none)))
  (hr:R g pf Fin (.dr ops rest::k) (putO E dst (.d (.v (.bool true)))) objs):R g pf Fin (.dr ops (⟨dst,.binOp .eql T x (.const (.pointer none)) T',ty,pos,after,gd⟩::rest)::k) E objs:=by
 refine R_op (LocOp.up (LocOp.quiet hg hgd hd (by simp) fun φ objs w' w hρ hs'=>?_)) hr
 simp only [Op.operands] at hρ
 have hxv:=hρ x (by simp)
 rw [hx] at hxv
 simp only [RV] at hxv
 generalize hvx:w'.eval x=vx at hxv
 cases hxv
 refine out_val hs' (vv:=.bool true) ?_ (by simp only [RV]; exact .v _)
 have h1:∀ d,(Op.equalIn (d+1) T (.pointer none) (.pointer none)).run g.P w=.ok true w:=fun d=>by
  simp [Op.equalIn,run_underlying hu]
 have h2:(Op.equal T (.pointer none) (.pointer none)).run g.P w=.ok true w:=h1 9999
 have h3:(eqGuard .eql T x (.const (.pointer none)) (.pointer none) (.pointer none)).run g.P w=.ok () w:=by simp [eqGuard]
 have h4:w'.eval (.const (.pointer none))=.pointer none:=rfl
 simp only [execOp,Sem.run_bind,hvx,h4,h3,Result.andThen_ok,binOp,h2,Sem.run_pure]
end
theorem SCtr.one {P:Program} {Y:YP} {f:Nat} {t:Tm} {r:AV} {o o':List Ob} (h:SCtr P Y f [.d (.sl (Tm.rows [t]))] o r o'):SCtr P Y f [.d (.sl [Tm.row t])] o r o':=by rwa [Tm.rows_eq] at h
end PSL

namespace PSL
open Go Go.RowKit
section
variable {g:G} {pf:Nat→Cls} {ops:Array Oper} {Fin:Exit→Act→World→Prop}

theorem not_mayT {n0 m i TT:Nat} {l:List AV} (hm:m<3):¬ mayO n0 m i (.tbox TT l):=by
 unfold mayO Ob.lvl Ob.isBox
 simp only
 split <;> rintro (⟨_,h⟩ | h | ⟨_,h⟩) <;> first | omega | cases h

theorem R_loadT (hg:GOk g) (m:Nat) {dst:Option Nat} {T:Nat} {x:Operand} {ty:Nat} {pos:String} {after:Array Edge} {gd:Option (Nat × Bool)} {rest:List Oper} {k:List It} {E:Env} {objs:List Ob}
  {i off TT:Nat} {l:List AV} {τ:Ty} {v:AV} (hm:m<3)
  (hgd:guardA ops.toList E gd=some true) (hd:dstOk ⟨g.ty,g.N⟩ dst=true) (hcl:ldClsAt pf x=.look (m+1)) (hx:ev E x=.lo i off) (ho:nth objs i=some (.tbox TT l)) (hT:g.ty T=some τ) (hp:packA τ l off=some v)
  (hr:R g pf Fin (.dr ops rest::k) (putO E dst v) objs):R g pf Fin (.dr ops (⟨dst,.load T x,ty,pos,after,gd⟩::rest)::k) E objs:=by
 refine R_op ?_ hr
 simp only [clsOf,hcl]
 refine LocOp.lookingM hg m hgd hd (by simp) fun φ a w objs₁ hgr hρ hs=>?_
 simp only [Op.operands] at hρ
 have hxv:=hρ x (by simp)
 rw [hx] at hxv
 simp only [RV] at hxv
 obtain ⟨b,hb,hxv⟩:=hxv
 have ho:nth objs₁ i=some (.tbox TT l):=by
  rw [nth_eq] at ho ⊢
  exact Gr.same' hgr ho (by rw [← hs.len]; exact (List.getElem?_eq_some_iff.1 hb).1) (not_mayT hm)
 have hk:=obj_at hs hb ho
 simp only [ObOk] at hk
 obtain ⟨cs,hheap,hrv⟩:=hk
 obtain ⟨vv,h1,h2⟩:=load_at (o:=0) (hg.ty _ _ hT) hheap (by simpa using hrv) hp
 exact ok_load hs rfl hxv (by simpa using h1) h2

theorem R_storeT (hg:GOk g) {dst:Option Nat} {T:Nat} {d x:Operand} {ty:Nat} {pos:String} {after:Array Edge} {gd:Option (Nat × Bool)} {rest:List Oper} {k:List It} {E:Env} {objs:List Ob}
  {i off TT:Nat} {l new:List AV} {τ:Ty}
  (hgd:guardA ops.toList E gd=some true) (hd:dstOk ⟨g.ty,g.N⟩ dst=true) (hcl:stClsAt pf d=.eff) (hx:ev E d=.lo i off) (ho:nth objs i=some (.tbox TT l)) (hT:g.ty T=some τ) (hc:cellsO (ev E x)=some new) (hlen:new.length=τ.size) (hle:off+τ.size≤l.length)
  (hr:R g pf Fin (.dr ops rest::k) (putO E dst .any) (setN objs i (.tbox TT (spliceA l off new)))):R g pf Fin (.dr ops (⟨dst,.store T d x,ty,pos,after,gd⟩::rest)::k) E objs:=by
 refine R_op ?_ hr
 simp only [clsOf,hcl]
 refine LocOp.effect hg hgd hd (by simp) fun φ a w hρ hs=>?_
 simp only [Op.operands] at hρ
 have hdv:=hρ d (by simp)
 have hxv:=hρ x (by simp)
 rw [hx] at hdv
 simp only [RV] at hdv
 obtain ⟨b,hb,hdv⟩:=hdv
 have hk:=obj_at hs hb ho
 simp only [ObOk] at hk
 obtain ⟨cs,hheap,hrv⟩:=hk
 obtain ⟨hc1,hc2⟩:=cellsO_val hxv hc
 have hcl:=hc1.length
 have hll:=hrv.length
 obtain ⟨w',hrun,hst⟩:=run_storeVar (P:=g.P) (hg.ty _ _ hT) off hheap rfl hc2 (by omega) (by omega)
 have hbl:(Phy.blk b).bl b:=rfl
 have hkp:=keep_turn (S0:=g.S0) hb hbl hst.other
 refine ⟨.skip,undef,w',φ,?_,.inr ⟨rfl,rfl⟩,by simp [RV],?_⟩
 ·simp only [execOp,Instr.storeAt,Instr.sureAddr,hdv,Sem.run_bind,Sem.run_pure,Result.andThen_ok,hrun]
 ·refine ⟨?_,hkp,.refl _,by rw [hst.size]; exact Nat.le_refl _,hst.os,hst.tape,hst.out,fun c hc hn=>hst.other c fun e=>hn ⟨i,_,hb,by rw [e]; rfl⟩,fun _ h=>.inl h,fun _ _ _ B h=>⟨B,h⟩⟩
  rw [setN_eq]
  refine hs.turn hb hbl hst.size hst.other ?_
  simp only [ObOk]
  exact ⟨_,hst.at_,(hrv.mono hkp (.refl _)).splice off (hc1.mono hkp (.refl _))⟩

theorem byt_at {objs:List Ob} {φ:List Phy} {w:World} {S0:Nat→Prop} (hs:HS S0 φ objs w) {i s e:Nat} {bs:List UInt8} {v:Value} (hv:RV (SS S0 φ) w φ (.ow i s) v) (ho:nth objs i=some (.byt e s bs)) :
  φ[i]? = some (.sli 1 s v v.ownBlock)∧w.ownsRow 0 e 1 v bs.length (bs.map fun x=>Value.int .u8 x.toNat):=by
 simp only [RV] at hv
 obtain ⟨_,ph,hph,hv⟩:=hv
 have hk:=obj_at hs hph ho
 cases ph <;> try (simp only [ObOk] at hk; done)
 simp only [ObOk] at hk
 obtain ⟨rfl,rfl,h3,h4⟩:=hk
 have hv:=(hv _ _ _ _ rfl).2 rfl
 subst hv
 rw [h3] at hph
 exact ⟨hph,h4⟩

theorem ownsRow_slice {w:World} {e n:Nat} {v:Value} {xs:List Value} (h:w.ownsRow 0 e 1 v n xs):∃ p c,v=.slice p n c:=by
 rcases h.2 with ⟨h1,h2⟩ | ⟨g,cap,cur,h1,_⟩
 ·exact ⟨none,0,by rw [h1,h2]⟩
 ·exact ⟨_,_,h1⟩

theorem R_lenY (hg:GOk g) {dst:Option Nat} {T:Nat} {x:Operand} {ty:Nat} {pos:String} {after:Array Edge} {gd:Option (Nat × Bool)} {rest:List Oper} {k:List It} {E:Env} {objs:List Ob}
  {id s q by_ e ee:Nat} {z:List Value} {bs:List UInt8} {n:Int}
  (hgd:guardA ops.toList E gd=some true) (hd:dstOk ⟨g.ty,g.N⟩ dst=true) (hx:ev E x=.ow id s) (ho:nth objs id=some (.byt ee s bs)) (hT:g.ty T=some ⟨q,by_,z,.slice e⟩) (hn:(bs.length:Int)=n)
  (hr:R g pf Fin (.dr ops rest::k) (putO E dst (iV n)) objs) (hcl:lenCls pf #[x]=.load:=by rfl):R g pf Fin (.dr ops (⟨dst,.call { callee:=.builtin .len,args:=#[x],argTypes:=#[T] },ty,pos,after,gd⟩::rest)::k) E objs:=by
 subst hn
 refine R_op ?_ hr
 simp only [clsOf,hcl]
 refine LocOp.lookingM hg 0 hgd hd (by simp) fun φ a w objs₁ hgr hρ hs=>?_
 simp only [Op.operands,Call.operands] at hρ
 have hxv:=hρ x (by simp)
 rw [hx] at hxv
 have hxv':=hxv
 simp only [RV] at hxv
 obtain ⟨_,ph,hph,hxv⟩:=hxv
 have ho:nth objs₁ id=some (.byt ee s bs):=by
  rw [nth_eq] at ho ⊢
  exact Gr.same hgr ho (by rw [← hs.len]; exact (List.getElem?_eq_some_iff.1 hph).1) (by simp [Ob.lvl])
 obtain ⟨_,h4⟩:=byt_at hs hxv' ho
 obtain ⟨p,c,hs2⟩:=ownsRow_slice h4
 refine out_val hs (vv:=.int .i64 bs.length) ?_ (by simp only [RV,iV]; exact .v _)
 have hu:=und_slice hg hT
 simp only [execOp,resolve,Sem.run_bind,Sem.run_pure,Result.andThen_ok,invoke,builtin,List.map_toArray,List.map_cons,List.map_nil,hs2]
 simp [run_lenArr hu (.inr ⟨⟨_,rfl⟩,_,_,_,rfl,rfl⟩)]

theorem grow_byt {n0:Nat} {objs:List Ob} {i e s e' s':Nat} {bs bs':List UInt8} (ho:nth objs i=some (.byt e s bs)):Gr n0 1 objs (setN objs i (.byt e' s' bs')):=fun j x hj=>by
 rw [setN_eq]
 rw [nth_eq] at ho
 by_cases h:i=j
 ·subst h
  rw [ho] at hj; cases hj
  exact ⟨_,List.getElem?_set_self (List.getElem?_eq_some_iff.1 ho).1,.inr ⟨.inl ⟨by omega,by simp [Ob.lvl]⟩,.inl ⟨by omega,by simp [Ob.lvl]⟩⟩⟩
 ·exact ⟨x,by rw [List.getElem?_set_ne h]; exact hj,.inl rfl⟩

theorem app_block {P:Program} {w w':World} {T T' ty e:Nat} {i:TypeInfo} (ht:P.underlying T=some (.slice e)) (hu:P.underlying T'=some .string) (hi:P.info? e=some i) (hz:i.zero=some (.int .u8 0)) (hsize:i.size=1) (hby:i.bytes=1)
  {v v':Value} {n:Nat} {xs:List Value} (hown:w.ownsRow 0 e 1 v n xs) {s:ByteArray} (hb:n+s.size≤140737488355328) (hr:(Builtin.append_ #[T,T'] ty #[v,.string s]).run P w=.ok v' w') :
  v'.ownBlock=v.ownBlock∨(v'.ownBlock=some w.heap.size∧w.heap.size<w'.heap.size):=by
 have hxl:xs.length=n:=by simpa using hown.1
 have hmx:n+s.size≤maxLen:=by unfold maxLen; omega
 rcases hown.2 with ⟨rfl,rfl⟩ | ⟨gb,cap,cur,rfl,_,hg,hnc,hcm,hcs,htake⟩
 ·-- nil: what is there lies behind all
  have h0:xs=[]:=List.eq_nil_of_length_eq_zero hxl
  subst h0
  obtain ⟨v2,w2,hr2,hown2,hgr2,hn2⟩:=Lib.run_append_own_string (P:=P) w w.heap.size T T' ty e i ht hu hi hz hsize hby (.slice none 0 0) 0 [] (World.ownsRow_nil w w.heap.size e 1) s hmx hb (Nat.le_refl _)
  rw [hr] at hr2; cases hr2
  by_cases hs:s.size=0
  ·rw [hn2.2 ⟨rfl,hs⟩]; exact .inl rfl
  ·have hrr:=run_append_nil_string (P:=P) w T T' ty e i (.int .u8 0) ht hu hi hz s (by omega) (by omega) (by rw [hby]; omega)
   rw [hr] at hrr
   obtain ⟨rfl,rfl⟩:=Result.ok.inj hrr
   exact .inr ⟨rfl,by simp⟩
 ·by_cases hroom:n+s.size≤cap
  ·have hrr:=Lib.run_append_room_string (P:=P) w T T' ty e i ht hu hi hsize gb n cap cur hg s hroom (by omega)
   rw [hr] at hrr; cases hrr
   exact .inl rfl
  ·have holds:∀ j u,xs[j]? = some u→w.cell? ((⟨gb,0,none⟩:Addr).add j)=some u:=hown.cells (g:=gb) rfl
   have hrr:=Lib.run_append_grow_string (P:=P) w T T' ty e i (.int .u8 0) ht hu hi hz ⟨gb,0,none⟩ n cap xs (by rw [hsize]; simpa using hxl) holds s (by omega) (by omega) (by rw [hby]; exact growslice_fits (by omega) (by omega))
   rw [hr] at hrr; cases hrr
   exact .inr ⟨rfl,by simp⟩

theorem R_appY (hg:GOk g) {dst:Option Nat} {T T':Nat} {x y:Operand} {ty:Nat} {pos:String} {after:Array Edge} {gd:Option (Nat × Bool)} {rest:List Oper} {k:List It} {E:Env} {objs:List Ob}
  (s1:Nat) {i s q by_ e:Nat} {z:List Value} {bs:List UInt8} {t:ByteArray} {τ:TypeInfo}
  (hgd:guardA ops.toList E gd=some true) (hd:dstOk ⟨g.ty,g.N⟩ dst=true) (hx:ev E x=.ow i s) (ho:nth objs i=some (.byt e s bs)) (hy:ev E y=.d (.v (.string t)))
  (hT:g.ty T=some ⟨q,by_,z,.slice e⟩) (hT':g.P.underlying T'=some .string) (he:g.P.info? e=some τ) (hz:τ.zero=some (.int .u8 0)) (hsz:τ.size=1) (hby:τ.bytes=1)
  (hlt:s<s1) (hmax:bs.length+t.size≤140737488355328)
  (hr:R g pf Fin (.dr ops rest::k) (putO E dst (.ow i s1)) (setN objs i (.byt e s1 (bs++t.data.toList)))) :
  R g pf Fin (.dr ops (⟨dst,.call { callee:=.builtin .append,args:=#[x,y],argTypes:=#[T,T'] },ty,pos,after,gd⟩::rest)::k) E objs:=by
 refine R_op (LocOp.turning hg (grow_byt ho) hgd hd (by simp) fun φ a w hρ hs=>?_) hr
 simp only [Op.operands,Call.operands] at hρ
 have hxv:=hρ x (by simp)
 rw [hx] at hxv
 have hyv:=hρ y (by simp)
 rw [hy] at hyv
 simp only [RV] at hyv
 generalize hye:a.eval y=ye at hyv
 cases hyv
 obtain ⟨hph,hown⟩:=byt_at hs hxv ho
 generalize hxe:a.eval x=v at hxv hph hown
 obtain ⟨v',w',hrun,hown',hgr,_⟩:=Lib.run_append_own_string (P:=g.P) w 0 T T' ty e τ (und_slice hg hT) hT' he hz hsz hby v bs.length _ hown t (by unfold maxLen; omega) hmax (Nat.zero_le _)
 have hnew:=app_block (P:=g.P) (und_slice hg hT) hT' he hz hsz hby hown hmax hrun
 have hlt':i<φ.length:=(List.getElem?_eq_some_iff.1 hph).1
 obtain ⟨p',c',hv'⟩:=ownsRow_slice hown'
 have hcells:(bs++t.data.toList).map (fun x=>Value.int .u8 x.toNat)=bs.map (fun x=>Value.int .u8 x.toNat)++Lib.strCells t:=by simp [Lib.strCells]
 have hlen:(bs++t.data.toList).length=bs.length+t.size:=by rw [List.length_append]; congr 1
 rw [setN_eq]
 refine ⟨.value v',v',w',φ.set i (.sli 1 s1 v' v'.ownBlock),?_,.inl rfl,?_,?_⟩
 ·simp only [execOp,resolve,invoke,builtin,Sem.run_bind,Sem.run_pure,Result.andThen_ok,List.map_toArray,List.map_cons,List.map_nil,hxe,hye,hrun]
 ·simp only [RV]
  exact ⟨⟨_,_,_,hv'⟩,_,List.getElem?_set_self hlt',fun sz s x ob h=>by cases h; exact ⟨Nat.le_refl _,fun _=>rfl⟩⟩
 ·refine Stp.swap hs hph (.inr (.inl ⟨_,_,_,_,_,_,_,_,rfl,rfl,hlt⟩)) hgr.size (fun c hc hn=>hgr.block c hc fun e=>hn e.symm) (fun b hb=>?_) hgr.os hgr.tape hgr.output fun hkeep _=>?_
  ·simp only [Phy.bl] at hb ⊢
   rcases hnew with h | h
   ·exact .inl (h ▸ hb)
   ·rw [h.1] at hb; cases hb; exact .inr ⟨Nat.le_refl _,h.2⟩
  ·simp only [ObOk]
   refine ⟨trivial,trivial,trivial,?_⟩
   rw [hcells,hlen]; exact hown'

theorem R_neqSelf (hg:GOk g) {dst:Option Nat} {T T':Nat} {x y:Operand} {ty:Nat} {pos:String} {after:Array Edge} {gd:Option (Nat × Bool)} {rest:List Oper} {k:List It} {E:Env} {objs:List Ob} {i off:Nat} {e:TypeId} {j:TypeInfo}
  (hu:g.P.underlying T=some (.pointer e)) (hj:g.P.info? e=some j) (hgd:guardA ops.toList E gd=some true) (hd:dstOk ⟨g.ty,g.N⟩ dst=true) (hx:ev E x=.lo i off) (hy:ev E y=.lo i off)
  (hr:R g pf Fin (.dr ops rest::k) (putO E dst (.d (.v (.bool false)))) objs):R g pf Fin (.dr ops (⟨dst,.binOp .neq T x y T',ty,pos,after,gd⟩::rest)::k) E objs:=by
 refine R_op (LocOp.up (LocOp.quiet hg hgd hd (by simp) fun φ objs w' w hρ hs'=>?_)) hr
 simp only [Op.operands] at hρ
 have hxv:=hρ x (by simp)
 have hyv:=hρ y (by simp)
 rw [hx] at hxv
 rw [hy] at hyv
 simp only [RV] at hxv hyv
 obtain ⟨b,hb,hvx⟩:=hxv
 obtain ⟨b',hb',hvy⟩:=hyv
 rw [hb] at hb'; cases hb'
 refine out_val hs' (vv:=.bool false) ?_ (by simp only [RV]; exact .v _)
 have h2:=Lib.run_neq_ptr_same (P:=g.P) w ⟨b,off,none⟩ hu hj
 have h3:(eqGuard .neq T x y (.pointer (some ⟨b,off,none⟩)) (.pointer (some ⟨b,off,none⟩))).run g.P w=.ok () w:=by simp [eqGuard]
 simp only [execOp,Sem.run_bind,hvx,hvy,h3,Result.andThen_ok,h2,Sem.run_pure]

theorem R_cvtTo (hg:GOk g) {dst:Option Nat} {T T':Nat} {x:Operand} {ty:Nat} {pos:String} {after:Array Edge} {gd:Option (Nat × Bool)} {rest:List Oper} {k:List It} {E:Env} {objs:List Ob} {i off TT:Nat} {l:List AV} {e:TypeId} {j:TypeInfo}
  (hu:g.P.underlying T=some (.pointer e)) (hu':g.P.underlying T'=some .unsafePointer) (hj:g.P.info? e=some j) (hj0:j.size≠0) (ho:nth objs i=some (.tbox TT l)) (hl:off<l.length)
  (hgd:guardA ops.toList E gd=some true) (hd:dstOk ⟨g.ty,g.N⟩ dst=true) (hx:ev E x=.lo i off) (hcl:cnvCls pf=.eff)
  (hr:R g pf Fin (.dr ops rest::k) (putO E dst (.lo i off)) objs):R g pf Fin (.dr ops (⟨dst,.convert T T' x,ty,pos,after,gd⟩::rest)::k) E objs:=by
 refine R_op ?_ hr
 simp only [clsOf,hcl]
 refine LocOp.effect hg hgd hd (by simp) fun φ a w hρ hs=>?_
 simp only [Op.operands] at hρ
 have hxv:=hρ x (by simp)
 rw [hx] at hxv
 have hxv':=hxv
 simp only [RV] at hxv
 obtain ⟨b,hb,hvx⟩:=hxv
 have hk:=obj_at hs hb ho
 simp only [ObOk] at hk
 obtain ⟨cs,hheap,hrv⟩:=hk
 have hsh:w.shape? b=some (TT,cs.length):=by simp [World.shape?,hheap]
 refine out_val hs (vv:=.pointer (some ⟨b,off,none⟩)) ?_ (by rw [← hvx]; exact hxv')
 have h1:=Lib.run_to_unsafe (P:=g.P) w ⟨b,off,none⟩ hu hu' hj hj0 hsh (by have:=hrv.length; simp only; omega)
 simp only [execOp,hvx,Sem.run_bind,h1,Result.andThen_ok,Sem.run_pure]

theorem R_cvtFrom (hg:GOk g) {dst:Option Nat} {T T':Nat} {x:Operand} {ty:Nat} {pos:String} {after:Array Edge} {gd:Option (Nat × Bool)} {rest:List Oper} {k:List It} {E:Env} {objs:List Ob} {i off TT:Nat} {l:List AV} {e:TypeId} {j:TypeInfo}
  (hu:g.P.underlying T=some .unsafePointer) (hu':g.P.underlying T'=some (.pointer e)) (hj:g.P.info? e=some j) (ho:nth objs i=some (.tbox TT l)) (hl:liesAt g.P g.P.depth TT (l.length / g.P.cellsOf TT) off e 1=true)
  (hgd:guardA ops.toList E gd=some true) (hd:dstOk ⟨g.ty,g.N⟩ dst=true) (hx:ev E x=.lo i off) (hcl:cnvCls pf=.eff)
  (hr:R g pf Fin (.dr ops rest::k) (putO E dst (.lo i off)) objs):R g pf Fin (.dr ops (⟨dst,.convert T T' x,ty,pos,after,gd⟩::rest)::k) E objs:=by
 refine R_op ?_ hr
 simp only [clsOf,hcl]
 refine LocOp.effect hg hgd hd (by simp) fun φ a w hρ hs=>?_
 simp only [Op.operands] at hρ
 have hxv:=hρ x (by simp)
 rw [hx] at hxv
 have hxv':=hxv
 simp only [RV] at hxv
 obtain ⟨b,hb,hvx⟩:=hxv
 have hk:=obj_at hs hb ho
 simp only [ObOk] at hk
 obtain ⟨cs,hheap,hrv⟩:=hk
 have hsh:w.shape? b=some (TT,cs.length):=by simp [World.shape?,hheap]
 refine out_val hs (vv:=.pointer (some ⟨b,off,none⟩)) ?_ (by rw [← hvx]; exact hxv')
 have h1:=Lib.run_from_unsafe (P:=g.P) w ⟨b,off,none⟩ hu hu' hj hsh (by simp only; rw [← hrv.length]; exact hl)
 simp only [execOp,hvx,Sem.run_bind,h1,Result.andThen_ok,Sem.run_pure]

theorem R_same (hg:GOk g) {dst:Option Nat} {f:Nat} {x:Operand} {ts:Array Nat} {ty:Nat} {pos:String} {after:Array Edge} {gd:Option (Nat × Bool)} {rest:List Oper} {k:List It} {E:Env} {objs:List Ob}
  (hf:∀ (v:Value) (w:World),(callFunc f #[v]).run g.P w=.ok (.value v) w)
  (hgd:guardA ops.toList E gd=some true) (hd:dstOk ⟨g.ty,g.N⟩ dst=true)
  (hr:R g pf Fin (.dr ops rest::k) (putO E dst (ev E x)) objs):R g pf Fin (.dr ops (⟨dst,.call { callee:=.value (.func f),args:=#[x],argTypes:=ts },ty,pos,after,gd⟩::rest)::k) E objs:=by
 refine R_op (LocOp.quiet hg hgd hd (by simp) fun φ objs w' w hρ hs'=>?_) hr
 simp only [Op.operands,Call.operands] at hρ
 have hxv:=hρ x (by simp)
 refine out_val hs' (vv:=w'.eval x) ?_ hxv
 have h1:=hf (w'.eval x) w
 have h2:(resolve w'.eval { callee:=.value (.func f),args:=#[x],argTypes:=ts } ty).run g.P w=.ok { target:=.fn (.func f) #[],args:=#[w'.eval x] } w:=by
  simp [resolve,Act.eval,Deferred.ofValue]
 simp only [execOp,Sem.run_bind,h2,Result.andThen_ok,invoke]
 simpa using h1

theorem R_sdat (hg:GOk g) {dst:Option Nat} {x:Operand} {ts:Array Nat} {ty:Nat} {pos:String} {after:Array Edge} {gd:Option (Nat × Bool)} {rest:List Oper} {k:List It} {E:Env} {objs:List Ob}
  {id s e:Nat} {bs:List UInt8}
  (hgd:guardA ops.toList E gd=some true) (hd:dstOk ⟨g.ty,g.N⟩ dst=true) (hx:ev E x=.ow id s) (ho:nth objs id=some (.byt e s bs)) (h0:bs≠[])
  (hr:R g pf Fin (.dr ops rest::k) (putO E dst (.el id s 0 0)) objs):R g pf Fin (.dr ops (⟨dst,.call { callee:=.builtin .unsafeSliceData,args:=#[x],argTypes:=ts },ty,pos,after,gd⟩::rest)::k) E objs:=by
 refine R_op ?_ hr
 simp only [clsOf]
 refine LocOp.lookingM hg 0 hgd hd (by simp) fun φ a w objs₁ hgr hρ hs=>?_
 simp only [Op.operands,Call.operands] at hρ
 have hxv:=hρ x (by simp)
 rw [hx] at hxv
 have hxv':=hxv
 simp only [RV] at hxv
 obtain ⟨_,ph,hph,hxv⟩:=hxv
 have ho:nth objs₁ id=some (.byt e s bs):=by
  rw [nth_eq] at ho ⊢
  exact Gr.same hgr ho (by rw [← hs.len]; exact (List.getElem?_eq_some_iff.1 hph).1) (by simp [Ob.lvl])
 obtain ⟨hph,h4⟩:=byt_at hs hxv' ho
 have hl0:bs.length≠0:=by simpa using h0
 rcases h4.2 with ⟨_,h2⟩ | ⟨gb,cap,cur,h1,_,hheap,hnc,_⟩
 ·exact absurd h2 hl0
 ·rw [h1] at hph
  refine out_val hs (vv:=.pointer (some ⟨gb,0,none⟩)) ?_ ?_
  ·have hrun:=Lib.run_unsafeSliceData_row (P:=g.P) w ts ty ⟨gb,0,none⟩ bs.length cap (by omega)
   simp only [execOp,resolve,invoke,builtin,Sem.run_bind,Sem.run_pure,Result.andThen_ok,List.map_toArray,List.map_cons,List.map_nil,h1,hrun]
  ·simp only [RV]
   exact ⟨⟨_,_,rfl⟩,_,hph,fun sz s' x' ob h=>by cases h; exact ⟨Nat.le_refl _,fun _=>⟨gb,0,_,_,rfl,by simp⟩⟩⟩

theorem R_ustr (hg:GOk g) {dst:Option Nat} {T T':Nat} {x y:Operand} {ty:Nat} {pos:String} {after:Array Edge} {gd:Option (Nat × Bool)} {rest:List Oper} {k:List It} {E:Env} {objs:List Ob}
  {id s e:Nat} {bs:List UInt8} {n:Int} (hT:g.P.underlying T=some (.pointer e)) (hc:g.P.cellsOf e=1)
  (hgd:guardA ops.toList E gd=some true) (hd:dstOk ⟨g.ty,g.N⟩ dst=true) (hx:ev E x=.el id s 0 0) (hy:ev E y=iV n) (ho:nth objs id=some (.byt e s bs)) (hn:n=bs.length) (h0:bs≠[]) (h63:bs.length≤9223372036854775807)
  (hr:R g pf Fin (.dr ops rest::k) (putO E dst (.d (.v (.string ⟨bs.toArray⟩)))) (setN objs id .dead)):R g pf Fin (.dr ops (⟨dst,.call { callee:=.builtin .unsafeString,args:=#[x,y],argTypes:=#[T,T'] },ty,pos,after,gd⟩::rest)::k) E objs:=by
 subst hn
 refine R_op ?_ hr
 simp only [clsOf]
 refine LocOp.effect hg hgd hd (by simp) fun φ a w hρ hs=>?_
 simp only [Op.operands,Call.operands] at hρ
 have hxv:=hρ x (by simp)
 have hyv:=hρ y (by simp)
 rw [hx] at hxv
 rw [hy] at hyv
 simp only [RV,iV] at hxv hyv
 generalize hye:a.eval y=ye at hyv
 cases hyv
 obtain ⟨_,ph,hph,hxv⟩:=hxv
 have hk:=obj_at hs hph ho
 cases ph <;> try (simp only [ObOk] at hk; done)
 rename_i sz2 s2 v2 ob2
 simp only [ObOk] at hk
 obtain ⟨rfl,rfl,hob,hown⟩:=hk
 obtain ⟨b,o,n,cap,hv2,hxe⟩:=(hxv _ _ _ _ rfl).2 rfl
 have hl0:bs.length≠0:=by simpa using h0
 rcases hown.2 with ⟨_,h2⟩ | ⟨gb,cap',cur,h1,_,hheap,hnc,_,hcs,_⟩
 ·exact absurd h2 hl0
 ·rw [hv2] at h1
  cases h1
  simp only [Nat.zero_mul,Nat.add_zero] at hxe
  have hrun:=Lib.run_unsafeString_row (P:=g.P) w T T' ty e hT hc b cur.size (by simp [World.shape?,hheap]) bs h0 (by omega) h63 (fun j x' hx'=>by
   refine hown.cells (g:=b) (by rw [hv2]; rfl) j _ ?_
   simp [hx'])
  have hfz:∀ c,c≠b→(w.freeze ⟨b,0,none⟩ bs.length).heap[c]? = w.heap[c]? := fun c hc=>by
   unfold World.freeze
   split
   ·rfl
   ·simp only [Array.getElem?_modify]
    rw [if_neg (fun e=>hc e.symm)]
  have hfs:(w.freeze ⟨b,0,none⟩ bs.length).heap.size=w.heap.size:=by
   unfold World.freeze
   split <;> simp
  have hfo:(w.freeze ⟨b,0,none⟩ bs.length).os=w.os∧(w.freeze ⟨b,0,none⟩ bs.length).tape=w.tape∧(w.freeze ⟨b,0,none⟩ bs.length).output=w.output:=by
   unfold World.freeze
   split <;> exact ⟨rfl,rfl,rfl⟩
  have hbl:(Phy.sli 1 s v2 ob2).bl b:=by simp only [Phy.bl]; rw [hob,hv2]; rfl
  have hkp:=keep_turn (S0:=g.S0) hph hbl hfz
  refine ⟨.value (.string ⟨bs.toArray⟩),.string ⟨bs.toArray⟩,w.freeze ⟨b,0,none⟩ bs.length,φ,?_,.inl rfl,by simp only [RV]; exact .v _,?_⟩
  ·simp only [execOp,resolve,invoke,builtin,Sem.run_bind,Sem.run_pure,Result.andThen_ok,List.map_toArray,List.map_cons,List.map_nil,hxe,hye,hrun]
  ·refine ⟨?_,hkp,.refl _,by rw [hfs]; exact Nat.le_refl _,hfo.1,hfo.2.1,hfo.2.2,fun c _ hn=>hfz c fun e=>hn ⟨id,_,hph,by rw [e]; exact hbl⟩,fun _ h=>.inl h,fun _ _ _ B h=>⟨B,h⟩⟩
   rw [setN_eq]
   refine hs.turn hph hbl hfs hfz ?_
   simp only [ObOk]

theorem R_boxT (hg:GOk g) {dst:Option Nat} {T:Nat} {x:Operand} {ty:Nat} {pos:String} {after:Array Edge} {gd:Option (Nat × Bool)} {rest:List Oper} {k:List It} {E:Env} {objs:List Ob} {l:List AV}
  (hgd:guardA ops.toList E gd=some true) (hd:dstOk ⟨g.ty,g.N⟩ dst=true) (hc:cellsO (ev E x)=some l)
  (hr:R g pf Fin (.dr ops rest::k) (putO E dst (.lo (len objs) 0)) (objs++[.tbox T l])):R g pf Fin (.dr ops (⟨dst,.box T x,ty,pos,after,gd⟩::rest)::k) E objs:=by
 refine R_op ?_ hr
 simp only [clsOf]
 refine LocOp.turning hg (fun i x hx=>⟨x,by rw [List.getElem?_append_left (List.getElem?_eq_some_iff.1 hx).1]; exact hx,.inl rfl⟩) hgd hd (by simp) fun φ a w hρ hs=>?_
 simp only [Op.operands] at hρ
 have hxv:=hρ x (by simp)
 obtain ⟨h1,h2⟩:=cellsO_val hxv hc
 have hnew:∀ b,(Phy.blk w.heap.size).bl b→b=w.heap.size:=by intro b hb; simpa [Phy.bl] using hb.symm
 refine ⟨.value (.pointer (some ⟨w.heap.size,0,none⟩)),_,w.alloc (.cells (a.eval x).cells T),φ++[.blk w.heap.size],?_,.inl rfl,?_,.new hs hnew ?_⟩
 ·simp only [execOp,Instr.box,Sem.run_bind,Result.andThen_ok,newVar,newRow,run_newObj,Sem.run_pure]
  rfl
 ·simp only [RV]
  exact ⟨w.heap.size,by rw [len_eq,← hs.len]; simp,rfl⟩
 ·simp only [ObOk]
  exact ⟨(a.eval x).cells.toList,heap_alloc_new _ _,h1.mono (keep_new hnew) (.app _ _)⟩

theorem R_ownT {k:List It} {E:Env} {objs:List Ob} (i j e:Nat) {TT:Nat} {l:List AV} (ho:nth objs i=some (.tbox TT l)) (h:nth l j=some (.d (.v (.slice none 0 0)))) (ht:topCode k=true)
  (hr:R g pf Fin k E (setN objs i (.tbox TT (setN l j (.ow (len objs) 0)))++[.byt e 0 []])):R g pf Fin k E objs:=by
 refine R_ghost ht (fun a w hs=>?_) hr
 obtain ⟨φ,h1,h2,h3,h4,h5,h6⟩:=hs
 rw [nth_eq] at ho h
 have hil:=(List.getElem?_eq_some_iff.1 ho).1
 have hst:Stp g.S0 φ w (φ++[Phy.sli 1 0 (.slice none 0 0) none]) (objs++[.byt e 0 []]) w:=Stp.add h1 (Nat.le_refl _) (fun _ _=>rfl) (fun b hb=>by simp [Phy.bl] at hb) rfl rfl rfl fun _=>by
  simp only [ObOk]
  exact ⟨trivial,trivial,rfl,by simpa using World.ownsRow_nil w 0 e 1⟩
 have hph:φ[i]? = some (φ[i]'(by rw [h1.len]; exact hil)):=List.getElem?_eq_getElem _
 generalize φ[i]'(by rw [h1.len]; exact hil)=ph at hph
 have hk:=hst.hs.ok i ph (.tbox TT l) (by rw [List.getElem?_append_left (by rw [h1.len]; exact hil)]; exact hph) (by rw [List.getElem?_append_left hil]; exact ho)
 cases ph <;> try (simp only [ObOk] at hk; done)
 rename_i b
 have hk':=hk
 simp only [ObOk] at hk'
 obtain ⟨cs,hb,hrv⟩:=hk'
 have hst2:Stp g.S0 (φ++[Phy.sli 1 0 (.slice none 0 0) none]) w ((φ++[Phy.sli 1 0 (.slice none 0 0) none]).set i (.blk b)) ((objs++[Ob.byt e 0 []]).set i (.tbox TT (setN l j (.ow (len objs) 0)))) w:=by
  refine Stp.swap hst.hs (by rw [List.getElem?_append_left (by rw [h1.len]; exact hil)]; exact hph) (.inl rfl) (Nat.le_refl _) (fun _ _ _=>rfl) (fun b hb=>.inl hb) rfl rfl rfl fun hkeep hle=>?_
  simp only [ObOk]
  refine ⟨cs,hb,?_⟩
  rw [setN_eq]
  obtain ⟨v,hv1,hv2⟩:=hrv.get j h
  have hcs:cs=cs.set j v:=by
   apply List.ext_getElem?
   intro n
   rw [List.getElem?_set]
   split
   ·rename_i e; subst e; rw [hv1]; simp [(List.getElem?_eq_some_iff.1 hv1).1]
   ·rfl
  rw [hcs]
  refine (hrv.mono hkeep hle).set j ?_
  simp only [RV] at hv2 ⊢
  cases hv2
  refine ⟨⟨_,_,_,rfl⟩,.sli 1 0 (.slice none 0 0) none,?_,fun sz s x ob h=>by cases h; exact ⟨Nat.le_refl _,fun _=>rfl⟩⟩
  rw [List.getElem?_set_ne (by rw [len_eq]; omega),len_eq,← h1.len]; simp
 have e1:(φ++[Phy.sli 1 0 (.slice none 0 0) none]).set i (.blk b)=φ++[Phy.sli 1 0 (.slice none 0 0) none]:=by
  apply List.ext_getElem?
  intro n
  rw [List.getElem?_set]
  split
  ·rename_i e; subst e
   rw [List.getElem?_append_left (by rw [h1.len]; exact hil),hph]; simp; rw [h1.len]; omega
  ·rfl
 have e2:(objs++[Ob.byt e 0 []]).set i (.tbox TT (setN l j (.ow (len objs) 0)))=setN objs i (.tbox TT (setN l j (.ow (len objs) 0)))++[.byt e 0 []]:=by
  rw [List.set_append,if_pos hil]; rw [setN_eq objs i]
 have hhs:=hst2.hs
 rw [e1,e2] at hhs
 refine ⟨_,hhs,fun b hb=>?_,fun u=>(h3 u).mono hst.keep hst.le,h4,h5.stp hst,h6.phs hst.ext (h6.le.trans hst.le)⟩
 rcases hst.own b hb with h | h
 ·exact h2 b h
 ·left; have:=h6.size; omega
end
end PSL

namespace Go.Proofs.YtchhahnajgfeaaaGreatDoor
open Go PSL Go.Proofs

def wrO (u:Bool) (bs:List UInt8):List Ob:=[.tbox 54 [bif u then .lo 0 0 else .d (.v (.pointer none)),.ow 1 bs.length],.byt 5 bs.length bs]

theorem noEsc (v:Value) (w:World):(callFunc 76 #[v]).run Tryz.prog w=.ok (.value v) w:=by
 rw [run_callFunc_extern Tryz.func76 (by kernel_rfl) (by kernel_rfl) (by kernel_rfl) (e:=Extern.AbiNoEscape.same) (by kernel_rfl),Lib.run_noEscape]
 rfl
def pfCv:Nat→Cls:=fun f=>bif Nat.beq f 4000000010 then .turn 90 else .eff

set_option maxRecDepth 100000 in
theorem wrCheck0_ok (Y:YP) (s:Nat) (bs:List UInt8):SCtr Tryz.prog Y 51 [.lo 0 0] [.tbox 54 [.d (.v (.pointer none)),.ow 1 s],.byt 5 s bs] (.tup []) [.tbox 54 [.lo 0 0,.ow 1 s],.byt 5 s bs]:=by
 obtain ⟨j,z,hj,hz,hjs,hjb,_⟩:=(tyOk 52 _ rfl).info
 refine SCtr.of_R (pf:=pfCv) tyOk mixed Tryz.func51 rfl (by kernel_rfl) (by kernel_rfl) (by simp [Tryz.ntmps51]) (by simp []) fun w S φ hg=>?_
 refine R_run hg.ok 1000 rfl rfl ?_
 refine R_loadT hg.ok 0 (by omega) rfl rfl rfl rfl rfl rfl rfl ?_
 refine R_run hg.ok 1000 rfl rfl ?_
 refine R_eqNil0 hg.ok Tryz.underlying49 rfl rfl rfl ?_
 refine R_run hg.ok 1000 rfl rfl ?_
 refine R_if rfl rfl (fun _=>?_) (fun h=>absurd h (by simp)) <;> refine R_run hg.ok 1000 rfl rfl ?_
 refine R_cvtTo hg.ok Tryz.underlying49 Tryz.underlying138 hj (by rw [hjs]; decide) rfl (by show 0<2; omega) rfl rfl rfl rfl ?_
 refine R_run hg.ok 1000 rfl rfl ?_
 refine R_same hg.ok noEsc rfl rfl ?_
 refine R_run hg.ok 1000 rfl rfl ?_
 refine R_cvtFrom hg.ok Tryz.underlying138 Tryz.underlying49 hj rfl (by kernel_rfl) rfl rfl rfl rfl ?_
 refine R_run hg.ok 1000 rfl rfl ?_
 refine R_storeT hg.ok rfl rfl rfl rfl rfl rfl rfl rfl (by show 0+0+1≤2; omega) ?_
 refine R_run hg.ok 1000 rfl rfl ?_
 exact R_endS hg 2 5 (by show (2:Nat)≤2; omega) rfl rfl rfl

set_option maxRecDepth 100000 in
theorem wrCheck1_ok (Y:YP) (s:Nat) (bs:List UInt8):SCtr Tryz.prog Y 51 [.lo 0 0] [.tbox 54 [.lo 0 0,.ow 1 s],.byt 5 s bs] (.tup []) [.tbox 54 [.lo 0 0,.ow 1 s],.byt 5 s bs]:=by
 obtain ⟨j,z,hj,hz,hjs,hjb,_⟩:=(tyOk 52 _ rfl).info
 refine SCtr.of_R (pf:=pfCv) tyOk mixed Tryz.func51 rfl (by kernel_rfl) (by kernel_rfl) (by simp [Tryz.ntmps51]) (by simp []) fun w S φ hg=>?_
 refine R_run hg.ok 1000 rfl rfl ?_
 refine R_loadT hg.ok 0 (by omega) rfl rfl rfl rfl rfl rfl rfl ?_
 refine R_run hg.ok 1000 rfl rfl ?_
 refine R_eqNil hg.ok Tryz.underlying49 rfl rfl rfl ?_
 refine R_run hg.ok 1000 rfl rfl ?_
 refine R_if rfl rfl (fun h=>absurd h (by simp)) (fun _=>?_) <;> refine R_run hg.ok 1000 rfl rfl ?_
 refine R_loadT hg.ok 0 (by omega) rfl rfl rfl rfl rfl rfl rfl ?_
 refine R_run hg.ok 1000 rfl rfl ?_
 refine R_neqSelf hg.ok Tryz.underlying49 hj rfl rfl rfl rfl ?_
 refine R_run hg.ok 1000 rfl rfl ?_
 refine R_if rfl rfl (fun h=>absurd h (by simp)) (fun _=>?_) <;> refine R_run hg.ok 1000 rfl rfl ?_
 exact R_endS hg 2 5 (by show (2:Nat)≤2; omega) rfl rfl rfl

set_option maxRecDepth 100000 in
theorem wrLen_ok (Y:YP) (s:Nat) (x:AV) (bs:List UInt8) (hx:x=.lo 0 0∨x=.d (.v (.pointer none))):SCtr Tryz.prog Y 17 [.lo 0 0] [.tbox 54 [x,.ow 1 s],.byt 5 s bs] (iV bs.length) [.tbox 54 [x,.ow 1 s],.byt 5 s bs]:=by
 rcases hx with rfl | rfl
 ·refine SCtr.of_R (pf:=fun _=>.eff) tyOk mixed Tryz.func17 rfl (by kernel_rfl) (by kernel_rfl) (by simp [Tryz.ntmps17]) (by simp []) fun w S φ hg=>?_
  refine R_run hg.ok 1000 rfl rfl ?_
  refine R_loadT hg.ok 0 (by omega) rfl rfl rfl rfl rfl rfl rfl ?_
  refine R_run hg.ok 1000 rfl rfl ?_
  refine R_lenY hg.ok rfl rfl rfl rfl rfl rfl ?_
  refine R_run hg.ok 1000 rfl rfl ?_
  exact R_retS hg 2 5 (by show (2:Nat)≤2; omega) rfl rfl rfl
 ·refine SCtr.of_R (pf:=fun _=>.eff) tyOk mixed Tryz.func17 rfl (by kernel_rfl) (by kernel_rfl) (by simp [Tryz.ntmps17]) (by simp []) fun w S φ hg=>?_
  refine R_run hg.ok 1000 rfl rfl ?_
  refine R_loadT hg.ok 0 (by omega) rfl rfl rfl rfl rfl rfl rfl ?_
  refine R_run hg.ok 1000 rfl rfl ?_
  refine R_lenY hg.ok rfl rfl rfl rfl rfl rfl ?_
  refine R_run hg.ok 1000 rfl rfl ?_
  exact R_retS hg 2 5 (by show (2:Nat)≤2; omega) rfl rfl rfl

set_option maxRecDepth 100000 in
theorem wrWrite0_ok (Y:YP) (s s1:Nat) (bs:List UInt8) (t:ByteArray) (hs:s<s1) (hmax:bs.length+t.size≤140737488355328):SCtr Tryz.prog Y 39 [.lo 0 0,.d (.v (.string t))] [.tbox 54 [.d (.v (.pointer none)),.ow 1 s],.byt 5 s bs] (.tup [iV t.size,.d (.v .nilIface)]) [.tbox 54 [.lo 0 0,.ow 1 s1],.byt 5 s1 (bs++t.data.toList)]:=by
 obtain ⟨j,z,hj,hz,hjs,hjb,hjz⟩:=(tyOk 5 _ rfl).info
 have hz':j.zero=some (.int .u8 0):=by
  have h:(Tryz.prog.info? 5).bind (·.zero)=some (.int .u8 0):=by kernel_rfl
  rw [hj] at h; exact h
 refine SCtr.of_R (pf:=fun _=>.eff) tyOk mixed Tryz.func39 rfl (by kernel_rfl) (by kernel_rfl) (by simp [Tryz.ntmps39]) (by simp []) fun w S φ hg=>?_
 refine R_run hg.ok 1000 rfl rfl ?_
 refine R_callSO hg.ok hg.gup hg.wide hg.Y [0,1] [.tbox 54 [.lo 0 0,.ow 1 s],.byt 5 s bs] (wrCheck0_ok Y s bs) (fun _=>rfl) rfl rfl rfl rfl rfl rfl rfl rfl ?_
 refine R_run hg.ok 1000 rfl rfl ?_
 refine R_loadT hg.ok 0 (by omega) rfl rfl rfl rfl rfl rfl rfl ?_
 refine R_run hg.ok 1000 rfl rfl ?_
 refine R_appY hg.ok s1 rfl rfl rfl rfl rfl rfl Tryz.underlying9 hj hz' hjs hjb hs hmax ?_
 refine R_run hg.ok 1000 rfl rfl ?_
 refine R_storeT hg.ok rfl rfl rfl rfl rfl rfl rfl rfl (by show 0+1+1≤2; omega) ?_
 refine R_run hg.ok 1000 rfl rfl ?_
 exact R_retS hg 2 5 (by show (2:Nat)≤2; omega) rfl rfl rfl

set_option maxRecDepth 100000 in
theorem wrWrite1_ok (Y:YP) (s s1:Nat) (bs:List UInt8) (t:ByteArray) (hs:s<s1) (hmax:bs.length+t.size≤140737488355328):SCtr Tryz.prog Y 39 [.lo 0 0,.d (.v (.string t))] [.tbox 54 [.lo 0 0,.ow 1 s],.byt 5 s bs] (.tup [iV t.size,.d (.v .nilIface)]) [.tbox 54 [.lo 0 0,.ow 1 s1],.byt 5 s1 (bs++t.data.toList)]:=by
 obtain ⟨j,z,hj,hz,hjs,hjb,hjz⟩:=(tyOk 5 _ rfl).info
 have hz':j.zero=some (.int .u8 0):=by
  have h:(Tryz.prog.info? 5).bind (·.zero)=some (.int .u8 0):=by kernel_rfl
  rw [hj] at h; exact h
 refine SCtr.of_R (pf:=fun _=>.eff) tyOk mixed Tryz.func39 rfl (by kernel_rfl) (by kernel_rfl) (by simp [Tryz.ntmps39]) (by simp []) fun w S φ hg=>?_
 refine R_run hg.ok 1000 rfl rfl ?_
 refine R_callSO hg.ok hg.gup hg.wide hg.Y [0,1] [.tbox 54 [.lo 0 0,.ow 1 s],.byt 5 s bs] (wrCheck1_ok Y s bs) (fun _=>rfl) rfl rfl rfl rfl rfl rfl rfl rfl ?_
 refine R_run hg.ok 1000 rfl rfl ?_
 refine R_loadT hg.ok 0 (by omega) rfl rfl rfl rfl rfl rfl rfl ?_
 refine R_run hg.ok 1000 rfl rfl ?_
 refine R_appY hg.ok s1 rfl rfl rfl rfl rfl rfl Tryz.underlying9 hj hz' hjs hjb hs hmax ?_
 refine R_run hg.ok 1000 rfl rfl ?_
 refine R_storeT hg.ok rfl rfl rfl rfl rfl rfl rfl rfl (by show 0+1+1≤2; omega) ?_
 refine R_run hg.ok 1000 rfl rfl ?_
 exact R_retS hg 2 5 (by show (2:Nat)≤2; omega) rfl rfl rfl

set_option maxRecDepth 100000 in
theorem wrString_ok (Y:YP) (x:AV) (s:Nat) (bs:List UInt8) (hx:x=.lo 0 0∨x=.d (.v (.pointer none))) (h0:bs≠[]) (h63:bs.length≤9223372036854775807):SCtr Tryz.prog Y 18 [.lo 0 0] [.tbox 54 [x,.ow 1 s],.byt 5 s bs] (.d (.v (.string ⟨bs.toArray⟩))) [.tbox 54 [x,.ow 1 s],.dead]:=by
 have hc:Tryz.prog.cellsOf 5=1:=by kernel_rfl
 rcases hx with rfl | rfl
 all_goals
  refine SCtr.of_R (pf:=fun _=>.eff) tyOk mixed Tryz.func18 rfl (by kernel_rfl) (by kernel_rfl) (by simp [Tryz.ntmps18]) (by simp []) fun w S φ hg=>?_
  refine R_run hg.ok 1000 rfl rfl ?_
  refine R_loadT hg.ok 0 (by omega) rfl rfl rfl rfl rfl rfl rfl ?_
  refine R_run hg.ok 1000 rfl rfl ?_
  refine R_sdat hg.ok rfl rfl rfl rfl h0 ?_
  refine R_run hg.ok 1000 rfl rfl ?_
  refine R_loadT hg.ok 0 (by omega) rfl rfl rfl rfl rfl rfl rfl ?_
  refine R_run hg.ok 1000 rfl rfl ?_
  refine R_lenY hg.ok rfl rfl rfl rfl rfl rfl ?_
  refine R_run hg.ok 1000 rfl rfl ?_
  refine R_ustr hg.ok Tryz.underlying74 hc rfl rfl rfl rfl rfl rfl h0 h63 ?_
  refine R_run hg.ok 1000 rfl rfl ?_
  exact R_retS hg 2 5 (by show (2:Nat)≤2; omega) rfl rfl rfl
end Go.Proofs.YtchhahnajgfeaaaGreatDoor

namespace Go.Proofs.YtchhahnajgfeaaaGreatDoor
open Go PSL Go.Proofs

theorem ambTab {S:Nat→Prop} {w:World} (h:AmbOk Tryz.prog S w):Lib.TabIs Tryz.prog w "internal/strconv.uint64pow10" .u64 Lib.pow10Tab:=by
 have hn:∃ i,Tryz.prog.globalNamed "internal/strconv.uint64pow10" = some i:=Option.isSome_iff_exists.1 (by kernel_rfl)
 obtain ⟨i,hi⟩:=hn
 obtain ⟨_,o,ho,_,h1,_⟩:=h _ (.inl rfl) i hi
 obtain ⟨e,k,rfl⟩:=h1 rfl
 simp only [Lib.TabIs,World.var?,hi,Option.bind_some,ho]
 rfl

theorem ambMax {S:Nat→Prop} {w:World} (h:AmbOk Tryz.prog S w):∃ (i:Nat) (m:Int),Tryz.prog.globalNamed "internal/bytealg.MaxLen" = some i∧w.cell? ⟨i,0,none⟩=some (.int .i64 m):=by
 have hn:∃ i,Tryz.prog.globalNamed "internal/bytealg.MaxLen" = some i:=Option.isSome_iff_exists.1 (by kernel_rfl)
 obtain ⟨i,hi⟩:=hn
 obtain ⟨_,o,ho,_,_,h1⟩:=h _ (.inr rfl) i hi
 obtain ⟨m,e,k,rfl⟩:=h1 rfl
 exact ⟨i,m,hi,by simp [World.cell?,ho]⟩

theorem libv1 {S:Nat→Prop} {w:World} {x:Value} {vals:List Value} (h:RVs S w [] [.d (.v x)] vals):vals=[x]:=by
 match vals,h with
 | [v],h=>simp only [RVs,RV,and_true] at h; cases h; rfl
 | [],h=>simp [RVs] at h
 | _::_::_,h=>simp [RVs] at h

theorem itoa_ok (n:Int) (h0:-9223372036854775808≤n) (h1:n≤9223372036854775807):PCtr Tryz.prog 29 [iV n] (.d (.v (.string ⟨(Lib.itoa n).toArray⟩))):=by
 refine ⟨callable_of Tryz.func29 rfl (by kernel_rfl),fun S w vals ha hup hv=>?_⟩
 rw [libv1 hv]
 refine (Tryz.strconv_Itoa n h0 h1 w (ambTab ha)).mono ?_
 rintro e w' ⟨rfl,k,os,rfl⟩
 exact ⟨_,rfl,by simp only [RV]; exact .v _,⟨rfl,rfl,rfl,by show w.heap.size≤(w.heap++os).size; simp,fun b hb=>by show (w.heap++os)[b]? = _; exact Array.getElem?_append_left hb⟩⟩

theorem libv2 {S:Nat→Prop} {w:World} {x y:Value} {vals:List Value} (h:RVs S w [] [.d (.v x),.d (.v y)] vals):vals=[x,y]:=by
 match vals,h with
 | [v,u],h=>simp only [RVs,RV,and_true] at h; obtain ⟨h1,h2⟩:=h; cases h1; cases h2; rfl
 | [],h=>simp [RVs] at h
 | [_],h=>simp [RVs] at h
 | _::_::_::_,h=>simp [RVs] at h

theorem libv3 {S:Nat→Prop} {w:World} {x y z:Value} {vals:List Value} (h:RVs S w [] [.d (.v x),.d (.v y),.d (.v z)] vals):vals=[x,y,z]:=by
 match vals,h with
 | [v,u,t],h=>simp only [RVs,RV,and_true] at h; obtain ⟨h1,h2,h3⟩:=h; cases h1; cases h2; cases h3; rfl
 | [],h=>simp [RVs] at h
 | [_],h=>simp [RVs] at h
 | [_,_],h=>simp [RVs] at h
 | _::_::_::_::_,h=>simp [RVs] at h

theorem contains_ok (s t:ByteArray) (hs:s.size<4294967281):PCtr Tryz.prog 55 [.d (.v (.string s)),.d (.v (.string t))] (.d (.v (.bool (Lib.contains s.data.toList t.data.toList)))):=by
 refine ⟨callable_of Tryz.func55 rfl (by kernel_rfl),fun S w vals ha hup hv=>?_⟩
 rw [libv2 hv]
 obtain ⟨i,m,hi,hm⟩:=ambMax ha
 have h0:Tryz.prog.globalNamed "internal/bytealg.MaxLen" = some 0:=by kernel_rfl
 rw [h0] at hi; cases hi
 refine (Tryz.strings_Contains s t m w hs hm).mono ?_
 rintro e w' ⟨rfl,rfl⟩
 exact ⟨_,rfl,by simp only [RV]; exact .v _,.refl _ _⟩

theorem replaceAll_ok (s old new:ByteArray) (hs:s.size<4294967281) (h1:1≤old.size) (hlen:s.size+Lib.countB s old * new.size≤140737488355328):PCtr Tryz.prog 46 [.d (.v (.string s)),.d (.v (.string old)),.d (.v (.string new))] (.d (.v (.string ⟨(Lib.replaceAll s.data.toList old.data.toList new.data.toList).toArray⟩))):=by
 refine ⟨callable_of Tryz.func46 rfl (by kernel_rfl),fun S w vals ha hup hv=>?_⟩
 rw [libv3 hv]
 obtain ⟨i,m,hi,hm⟩:=ambMax ha
 have h0:Tryz.prog.globalNamed "internal/bytealg.MaxLen" = some 0:=by kernel_rfl
 rw [h0] at hi; cases hi
 refine (Tryz.strings_ReplaceAll s old new m w hs hm h1 hlen).mono ?_
 rintro e w' ⟨rfl,hb⟩
 exact ⟨_,rfl,by simp only [RV]; exact .v _,hb⟩

def txRows (l:List (List UInt8)):List (List D):=l.map fun x=>[.v (.string ⟨x.toArray⟩)]

theorem libvJ {S:Nat→Prop} {w:World} {rows:List (List D)} {y:Value} {vals:List Value} (h:RVs S w [] [.d (.sl rows),.d (.v y)] vals):∃ v,Rd S w (.sl rows) v∧vals=[v,y]:=by
 match vals,h with
 | [v,u],h=>simp only [RVs,RV,and_true] at h; obtain ⟨h1,h2⟩:=h; cases h2; exact ⟨v,h1,rfl⟩
 | [],h=>simp [RVs] at h
 | [_],h=>simp [RVs] at h
 | _::_::_::_,h=>simp [RVs] at h

theorem join_ok (l:List (List UInt8)) (sep:List UInt8) (hN:l.length≤140737488355328) (hlen:(Lib.join l sep).length≤140737488355328):PCtr Tryz.prog 25 [.d (.sl (txRows l)),.d (.v (.string ⟨sep.toArray⟩))] (.d (.v (.string ⟨(Lib.join l sep).toArray⟩))):=by
 refine ⟨callable_of Tryz.func25 rfl (by kernel_rfl),fun S w vals ha hup hv=>?_⟩
 obtain ⟨v,hrd,rfl⟩:=libvJ hv
 have hml:(l.map fun x=>(⟨x.toArray⟩:ByteArray)).map (·.data.toList)=l:=by simp [List.map_map,Function.comp_def]
 clear hv
 generalize hrows:txRows l=rows at hrd
 cases hrd with
 | nil a c =>
  have:l=[]:=by simpa [txRows] using hrows
  subst this
  refine (Tryz.strings_Join_none a c ⟨sep.toArray⟩ w).mono ?_
  rintro e w' ⟨rfl,rfl⟩
  exact ⟨_,rfl,by simp only [RV]; exact .v _,.refl _ _⟩
 | @sl _ b o cap sz cs T fr g hS hb hl hc hsz hg hr =>
  subst hrows
  have hll:(txRows l).length=(l.map fun x=>(⟨x.toArray⟩:ByteArray)).length:=by simp [txRows]
  have hcall:=Tryz.strings_Join b o cap (l.map fun x=>⟨x.toArray⟩) ⟨sep.toArray⟩ w (fun j x hx=>by
   rw [List.getElem?_map] at hx
   obtain ⟨y,hy,rfl⟩:=Option.map_eq_some_iff.1 hx
   have hrow:(txRows l)[j]? = some [.v (.string ⟨y.toArray⟩)]:=by simp [txRows,hy]
   have h1:=hsz j _ hrow
   simp only [List.length_cons,List.length_nil] at h1
   have h2:=hg j _ 0 _ hrow rfl
   have h3:=hr j _ 0 _ hrow rfl
   generalize hgg:g j 0=u at h2 h3
   cases h3
   subst h1
   simp only [Nat.mul_one,Nat.add_zero,Nat.zero_add] at h2
   simp [World.cell?,hb,h2]) (lt_of_some hb) (by simpa using hN) (by rw [← hll]; exact hl) (by rw [hml]; exact hlen)
  rw [hll]
  refine hcall.mono ?_
  rintro e w' ⟨rfl,hb⟩
  rw [hml]
  exact ⟨_,rfl,by simp only [RV]; exact .v _,hb⟩
end Go.Proofs.YtchhahnajgfeaaaGreatDoor

namespace Go.Proofs.YtchhahnajgfeaaaGreatDoor
open Go PSL Go.Proofs

def wrT (bs:Bs):List Ob:=wrO (!bs.isEmpty) bs

theorem wrT_map {f:AV→AV} (h0:f (.lo 0 0)=.lo 0 0) (h1:f (.d (.v (.pointer none)))=.d (.v (.pointer none))) (h2:∀ s,f (.ow 1 s)=.ow 1 s) (bs:Bs):(wrT bs).map (mapOb f)=wrT bs:=by
 cases bs <;> simp [wrT,wrO,mapOb,h0,h1,h2]
theorem wrT_seal (o:List Ob) (bs:Bs):(wrT bs).map (mapOb (sealT false 2 o 5))=wrT bs:=wrT_map rfl rfl (fun _=>rfl) bs

theorem wrT_ren (f:Nat→Nat) (h0:f 0=0) (h1:f 1=1) (bs:Bs):(wrT bs).map (renOb f)=wrT bs:=by
 cases bs <;> simp [wrT,wrO,renOb,renA,renL,h0,h1]

theorem wrT_cons {bs:Bs} (h:bs≠[]):wrT bs=[.tbox 54 [.lo 0 0,.ow 1 bs.length],.byt 5 bs.length bs]:=by
 cases bs with
 | nil=>exact absurd rfl h
 | cons c r=>rfl

theorem wrLenT_ok (Y:YP) (bs:Bs):SCtr Tryz.prog Y 17 [.lo 0 0] (wrT bs) (iV bs.length) (wrT bs):=by
 by_cases h:bs=[]
 ·subst h; exact wrLen_ok Y 0 _ [] (.inr rfl)
 ·rw [wrT_cons h]; exact wrLen_ok Y _ _ bs (.inl rfl)

theorem wrWriteT_ok (Y:YP) (bs s:Bs) (hs:s≠[]) (hmax:bs.length+s.length≤140737488355328):SCtr Tryz.prog Y 39 [.lo 0 0,.d (.v (.string (Tx s)))] (wrT bs) (.tup [iV s.length,.d (.v .nilIface)]) (wrT (bs++s)):=by
 have hsl:0<s.length:=by cases s with
  | nil=>exact absurd rfl hs
  | cons c r=>simp
 have hne:bs++s≠[]:=by simp [hs]
 rw [wrT_cons hne,List.length_append]
 have ht:(Tx s).data.toList=s:=by simp [Tx]
 have hz:((Tx s).size:Int)=s.length:=by rw [Tx_size]
 by_cases h:bs=[]
 ·subst h
  have:=wrWrite0_ok Y 0 (0+s.length) [] (Tx s) (by omega) (by rw [Tx_size]; simpa using hmax)
  rw [ht,hz] at this
  exact this
 ·rw [wrT_cons h]
  have:=wrWrite1_ok Y bs.length (bs.length+s.length) bs (Tx s) (by omega) (by rw [Tx_size]; exact hmax)
  rw [ht,hz] at this
  exact this

set_option maxRecDepth 100000 in
theorem wrPut_ok (Y:YP) (bs s:Bs) (hs:s≠[]) (hl:s.length≤1000000000):SCtr Tryz.prog Y 28 [.lo 0 0,.d (.v (.string (Tx s)))] (wrT bs) (.tup []) (wrT (wput bs s)):=by
 refine SCtr.of_R (pf:=fun _=>.eff) tyOk mixed Tryz.func28 rfl (by kernel_rfl) (by kernel_rfl) (by simp [Tryz.ntmps28]) (by simp [wrT,wrO]) fun w S φ hg=>?_
 refine R_run hg.ok 1000 rfl rfl ?_
 refine R_callSO hg.ok hg.gup hg.wide hg.Y [0,1] (wrT bs) (wrLenT_ok Y bs) (fun _=>rfl) rfl rfl rfl rfl rfl (by rw [wrT_ren _ rfl rfl]; rfl) rfl (by rw [wrT_ren _ rfl rfl]; rfl) ?_
 refine R_run hg.ok 1000 rfl rfl ?_
 refine R_if rfl rfl (fun h=>?_) (fun h=>?_) <;> refine R_run hg.ok 1000 rfl rfl ?_
 ·have hle:bs.length≤8000:=by have:=of_decide_eq_true h; omega
  rw [show wput bs s=bs++s by unfold wput; rw [if_pos hle]]
  refine R_callSO hg.ok hg.gup hg.wide hg.Y [0,1] (wrT (bs++s)) (wrWriteT_ok Y bs s hs (by omega)) (fun _=>rfl) rfl rfl rfl rfl rfl (by rw [wrT_ren _ rfl rfl]; rfl) rfl (by rw [wrT_ren _ rfl rfl]; rfl) ?_
  refine R_run hg.ok 1000 rfl rfl ?_
  exact R_endS hg 2 5 (by show (2:Nat)≤2; omega) rfl rfl (wrT_seal _ _)
 ·have hle:¬ bs.length≤8000:=by have:=of_decide_eq_false h; omega
  rw [show wput bs s=bs by unfold wput; rw [if_neg hle]]
  exact R_endS hg 2 5 (by show (2:Nat)≤2; omega) rfl rfl (wrT_seal _ _)
end Go.Proofs.YtchhahnajgfeaaaGreatDoor

namespace PSL
open Go

theorem index39 (s:Bs):(39 ∉ s∧Lib.index s [39]=-1)∨∃ a r,s=a++39::r∧39 ∉ a∧Lib.index s [39]=a.length:=by
 induction s with
 | nil=>left; exact ⟨by simp,rfl⟩
 | cons b l ih =>
  by_cases hb:b=39
  ·subst hb
   exact .inr ⟨[],l,rfl,by simp,by simp [Lib.index,List.isPrefixOf]⟩
  ·have hp:([39]:Bs).isPrefixOf (b::l)=false:=by simp [List.isPrefixOf] <;> exact fun e=>hb e.symm
   rcases ih with ⟨h1,h2⟩ | ⟨a,r,h1,h2,h3⟩
   ·exact .inl ⟨fun hm=>(List.mem_cons.1 hm).elim (fun e=>hb e.symm) h1,by simp [Lib.index,hp,h2]⟩
   ·refine .inr ⟨b::a,r,by rw [h1]; rfl,by simp [h2] <;> exact fun e=>hb e.symm,?_⟩
    have:¬ ((a.length:Int) == -1)=true:=by simp <;> omega
    simp only [Lib.index,hp,h3,Bool.false_eq_true,if_false,this,List.length_cons]
    omega
theorem dblB_app (a b:Bs):dblB (a++b)=dblB a++dblB b:=by simp [dblB]

theorem dblB_no {a:Bs} (h:39 ∉ a):dblB a=a:=by
 induction a with
 | nil=>rfl
 | cons c r ih =>
  simp only [List.mem_cons,not_or] at h
  have h1:¬ c=39:=fun e=>h.1 e.symm
  simp only [dblB,List.flatMap_cons] at ih ⊢
  rw [ih h.2,if_neg h1]; rfl

theorem replaceK39:∀ (n:Nat) (s:Bs) (f:Nat),s.length≤n→s.length<f→Lib.replaceK [39] [39,39] (Lib.countFrom [39] f s) s=dblB s:=by
 intro n
 induction n with
 | zero =>
  intro s f h hf
  have:s=[]:=List.eq_nil_of_length_eq_zero (by omega)
  subst this
  cases f with
  | zero=>simp at hf
  | succ f=>rfl
 | succ n ih =>
  intro s f h hf
  cases f with
  | zero=>omega
  | succ f =>
   rcases index39 s with ⟨h1,h2⟩ | ⟨a,r,h1,h2,h3⟩
   ·rw [Lib.countFrom,h2,dblB_no h1]; rfl
   ·have hne:¬ (Lib.index s [39] == -1)=true:=by rw [h3]; simp <;> omega
    have hl:s.length=a.length+(r.length+1):=by rw [h1]; simp
    rw [Lib.countFrom,if_neg hne,Nat.add_comm 1,Lib.replaceK_hit _ _ _ s a.length h3,h3]
    have hd:s.drop (a.length+([39]:Bs).length)=r:=by
     rw [h1]; simp [List.drop_append,List.drop_eq_nil_of_le]
    have ht:s.take a.length=a:=by rw [h1]; simp
    simp only [Int.toNat_natCast]
    rw [hd,ht,ih r f (by omega) (by omega),h1,dblB_app,dblB_no h2]
    simp [dblB]

theorem countFrom_le:∀ (f:Nat) (s:Bs),Lib.countFrom [39] f s≤f:=by
 intro f
 induction f with
 | zero=>intro s; simp [Lib.countFrom]
 | succ f ih =>
  intro s
  rw [Lib.countFrom]
  split
  ·omega
  ·have:=ih (s.drop ((Lib.index s [39]).toNat+([39]:Bs).length)); omega

theorem replaceAll39 (s:Bs):Lib.replaceAll s [39] [39,39]=dblB s:=by
 rw [Lib.replaceAll,Lib.replace,if_neg (by decide),Lib.replaceNum,if_pos (.inl (by decide)),Lib.count]
 exact replaceK39 s.length s _ (Nat.le_refl _) (by omega)
theorem count39 (s:Bs):Lib.count s [39]≤s.length+1:=countFrom_le _ _
end PSL

namespace Go.Proofs.YtchhahnajgfeaaaGreatDoor
open Go PSL Go.Proofs

set_option maxRecDepth 100000 in
theorem wrWord_ok (L:Bs) (hL:∀ c∈L,c.toNat<128):PCtr Tryz.prog 44 [txA L] (bV (wordB L)):=by
 refine PCtr.of_R (pf:=fun _=>.eff) tyOk mixed Tryz.func44 rfl (by kernel_rfl) (by kernel_rfl) (by simp [Tryz.ntmps44]) fun w S hg=>?_
 refine R_run hg.ok 1000 rfl rfl ?_
 refine R_rangeS hg.ok rfl rfl rfl rfl ?_
 refine R_run hg.ok 1000 rfl rfl ?_
 refine R_loop (fun k:Nat=>([(0,txA L),(8,.lo 0 0)],[.itr (Tx L) k])) (fun k=>k≤L.length∧wordB L=wlB L k) (fun k=>L.length - k) 0 ⟨Nat.zero_le _,rfl⟩ ⟨.refl _,.refl _,trivial⟩ rfl ?_
 rintro k ⟨hk,hm⟩
 refine R_run hg.ok 1000 rfl rfl ?_
 by_cases hk1:k<L.length
 ·have e1:L[k]? = some L[k]:=List.getElem?_eq_getElem hk1
  have ha:L[k].toNat<128:=hL _ (List.getElem_mem hk1)
  refine R_nextS hg.ok rfl rfl rfl rfl (by rw [Tx_size]; exact hk1) (decode_ascii e1 ha) ?_
  generalize L[k]=c at e1 ha
  refine R_run hg.ok 1000 rfl rfl ?_
  repeat' (refine R_if rfl rfl (fun h=>?_) (fun h=>?_) <;> (first | have h:=of_decide_eq_true h | have h:=of_decide_eq_false h | (simp at h; done) | simp at h | skip) <;> refine R_run hg.ok 1000 rfl rfl ?_)
  all_goals first
   | (refine R_ret hg 5 rfl rfl ?_; exact bvF (wl_no e1 hm (by intro hk0; omega) (by intro hk0; omega)))
   | exact R_next (k+1) ⟨hk1,wl_next e1 hm (by intro hk0; omega) (by intro hk0; omega)⟩ (by omega) ⟨.refl _,.refl _,trivial⟩ rfl
 ·refine R_nextE hg.ok rfl rfl rfl rfl (by rw [Tx_size]; omega) ?_
  refine R_run hg.ok 1000 rfl rfl ?_
  refine R_ret hg 5 rfl rfl ?_
  rw [wl_end (by omega) hm]
  exact bvEq (by rw [show ({ data:=#[] }:ByteArray)=Tx [] from rfl,Tx_eq])

theorem sgW_contains (c:UInt8) (hc:c.toNat<128):Lib.contains sgW (Utf8.encode (c.toNat:Int)).data.toList=sgWC c:=by
 have h:=byte_all (p:=fun c=>!decide (c.toNat<128) || (Lib.contains sgW (Utf8.encode (c.toNat:Int)).data.toList==sgWC c)) (by decide +kernel) c
 simpa [hc] using h

set_option maxRecDepth 100000 in
theorem wrSign_ok (L:Bs) (hL:∀ c∈L,c.toNat<128):PCtr Tryz.prog 45 [txA L] (bV (signB L)):=by
 refine PCtr.of_R (pf:=fun _=>.eff) tyOk mixed Tryz.func45 rfl (by kernel_rfl) (by kernel_rfl) (by simp [Tryz.ntmps45]) fun w S hg=>?_
 refine R_run hg.ok 1000 rfl rfl ?_
 refine R_rangeS hg.ok rfl rfl rfl rfl ?_
 refine R_run hg.ok 1000 rfl rfl ?_
 refine R_loop (fun k:Nat=>([(0,txA L),(6,.lo 0 0)],[.itr (Tx L) k])) (fun k=>k≤L.length∧L.all sgWC=(L.drop k).all sgWC) (fun k=>L.length - k) 0 ⟨Nat.zero_le _,rfl⟩ ⟨.refl _,.refl _,trivial⟩ rfl ?_
 rintro k ⟨hk,hm⟩
 refine R_run hg.ok 1000 rfl rfl ?_
 by_cases hk1:k<L.length
 ·have e1:L[k]? = some L[k]:=List.getElem?_eq_getElem hk1
  have ha:L[k].toNat<128:=hL _ (List.getElem_mem hk1)
  rw [List.drop_eq_getElem_cons hk1,List.all_cons] at hm
  refine R_nextS hg.ok rfl rfl rfl rfl (by rw [Tx_size]; exact hk1) (decode_ascii e1 ha) ?_
  generalize L[k]=c at e1 ha hm
  refine R_run hg.ok 1000 rfl rfl ?_
  refine R_convB hg.ok (Utf8.encode (c.toNat:Int)) rfl rfl rfl rfl rfl rfl ?_
  refine R_run hg.ok 1000 rfl rfl ?_
  refine R_call hg.ok (contains_ok (Tx sgW) (Utf8.encode (c.toNat:Int)) (by decide)) rfl rfl rfl rfl rfl rfl ?_
  refine R_run hg.ok 1000 rfl rfl ?_
  rw [show (Tx sgW).data.toList=sgW from rfl,sgW_contains c ha]
  refine R_if rfl rfl (fun h=>?_) (fun h=>?_) <;> refine R_run hg.ok 1000 rfl rfl ?_
  ·refine R_ret hg 5 rfl rfl ?_
   have h:sgWC c=false:=by simpa using h
   exact bvF (by rw [signB,hm,h]; simp)
  ·have h:sgWC c=true:=by simpa using h
   exact R_next (k+1) ⟨hk1,by rw [hm,h,Bool.true_and]⟩ (by omega) ⟨.refl _,.refl _,trivial⟩ rfl
 ·refine R_nextE hg.ok rfl rfl rfl rfl (by rw [Tx_size]; omega) ?_
  refine R_run hg.ok 1000 rfl rfl ?_
  refine R_ret hg 5 rfl rfl ?_
  rw [List.drop_eq_nil_of_le (by omega)] at hm
  exact bvEq (by rw [show ({ data:=#[] }:ByteArray)=Tx [] from rfl,Tx_eq,signB,hm]; cases L <;> rfl)

set_option maxRecDepth 100000 in
theorem wrName_ok (L:Bs) (hL:∀ c∈L,c.toNat<128) (hl:L.length≤1000000):PCtr Tryz.prog 32 [txA L] (txA (nameB L)):=by
 refine PCtr.of_R (pf:=fun _=>.still) tyOk mixed Tryz.func32 rfl (by kernel_rfl) (by kernel_rfl) (by simp [Tryz.ntmps32]) fun w S hg=>?_
 refine R_run hg.ok 1000 rfl rfl ?_
 refine R_call hg.ok (wrWord_ok L hL) rfl rfl rfl rfl rfl rfl ?_
 refine R_run hg.ok 1000 rfl rfl ?_
 have e1:strEq (Tx L) ⟨#[33]⟩=(L==[33]):=Tx_eq L [33]
 have e2:strEq (Tx L) ⟨#[59]⟩=(L==[59]):=Tx_eq L [59]
 have e3:strEq (Tx L) ⟨#[91,93]⟩=(L==[91,93]):=Tx_eq L [91,93]
 refine R_if rfl rfl (fun h=>?_) (fun h=>?_) <;> refine R_run hg.ok 1000 rfl rfl ?_
 ·refine R_ret hg 5 rfl rfl ?_
  rw [nameB,if_pos (by simp [plainB,h])]; rfl
 refine R_call hg.ok (wrSign_ok L hL) rfl rfl rfl rfl rfl rfl ?_
 refine R_run hg.ok 1000 rfl rfl ?_
 refine R_if rfl rfl (fun h2=>?_) (fun h2=>?_) <;> refine R_run hg.ok 1000 rfl rfl ?_
 ·refine R_ret hg 5 rfl rfl ?_
  rw [nameB,if_pos (by simp [plainB,h2])]; rfl
 refine R_if rfl rfl (fun h3=>?_) (fun h3=>?_) <;> refine R_run hg.ok 1000 rfl rfl ?_
 ·refine R_ret hg 5 rfl rfl ?_
  rw [e1] at h3
  rw [nameB,if_pos (by simp [plainB,h3])]; rfl
 refine R_if rfl rfl (fun h4=>?_) (fun h4=>?_) <;> refine R_run hg.ok 1000 rfl rfl ?_
 ·refine R_ret hg 5 rfl rfl ?_
  rw [e2] at h4
  rw [nameB,if_pos (by simp [plainB,h4])]; rfl
 refine R_if rfl rfl (fun h5=>?_) (fun h5=>?_) <;> refine R_run hg.ok 1000 rfl rfl ?_
 ·refine R_ret hg 5 rfl rfl ?_
  rw [e3] at h5
  rw [nameB,if_pos (by simp [plainB,h5])]; rfl
 rw [e1] at h3
 rw [e2] at h4
 rw [e3] at h5
 have hcnt:=count39 L
 refine R_call hg.ok (replaceAll_ok (Tx L) (Tx [39]) (Tx [39,39]) (by rw [Tx_size]; omega) (by decide) (by rw [Tx_size]; show L.length+Lib.count (Tx L).data.toList [39] * 2≤_; rw [show (Tx L).data.toList=L by simp [Tx]]; omega)) rfl rfl rfl rfl rfl rfl ?_
 refine R_run hg.ok 1000 rfl rfl ?_
 rw [show (Tx L).data.toList=L by simp [Tx],show (Tx [39]).data.toList=[39] from rfl,show (Tx [39,39]).data.toList=[39,39] from rfl,replaceAll39]
 have hdl:=dblB_len L
 refine R_concat hg.ok (Tx (39::dblB L)) rfl rfl rfl rfl (by rw [show (⟨(dblB L).toArray⟩:ByteArray)=Tx (dblB L) from rfl,Tx_size]; show 1+_≤_; omega) (Tx_app [39] (dblB L)) ?_
 refine R_run hg.ok 1000 rfl rfl ?_
 refine R_concat hg.ok (Tx (39::(dblB L++[39]))) rfl rfl rfl rfl (by rw [Tx_size]; show _+1≤_; simp only [List.length_cons]; omega) ((Tx_app (39::dblB L) [39]).trans (by rw [List.cons_append])) ?_
 refine R_run hg.ok 1000 rfl rfl ?_
 refine R_ret hg 5 rfl rfl ?_
 rw [nameB,if_neg (by simp [plainB,h,h2,h3,h4,h5])]; rfl
end Go.Proofs.YtchhahnajgfeaaaGreatDoor

namespace Go.Proofs.YtchhahnajgfeaaaGreatDoor
open Go PSL Go.Proofs

set_option maxRecDepth 100000 in
theorem wrCell_ok (t:Tm):PCtr Tryz.prog 30 [t.av] (bV (cellT t)):=by
 have e1:strEq t.s ⟨#[46]⟩=(t.s.data.toList==[46]):=by
  have:=Tx_eq t.s.data.toList [46]
  rw [Tx_data] at this; exact this
 have hrl:=Tm.rows_length t.l
 refine PCtr.of_R (pf:=fun _=>.still) tyOk mixed Tryz.func30 rfl (by kernel_rfl) (by kernel_rfl) (by simp [Tryz.ntmps30]) fun w S hg=>?_
 refine R_run hg.ok 1000 rfl rfl ?_
 refine R_if rfl rfl (fun h=>?_) (fun h=>?_) <;> refine R_run hg.ok 1000 rfl rfl ?_
 ·have h:=of_decide_eq_true h
  refine R_if rfl rfl (fun h2=>?_) (fun h2=>?_) <;> refine R_run hg.ok 1000 rfl rfl ?_
  ·refine R_ret hg 5 rfl rfl ?_
   rw [e1] at h2
   have hk:decide (t.k=3)=true:=decide_eq_true h
   exact bvEq (by rw [cellT,cellK,hk,h2,Bool.true_and,Bool.true_and,hrl]; by_cases h9:t.l.length=2 <;> simp [h9] <;> omega)
  ·refine R_ret hg 5 rfl rfl ?_
   rw [e1] at h2
   exact bvF (by rw [cellT,cellK,h2,Bool.and_false,Bool.false_and])
 ·have h:=of_decide_eq_false h
  refine R_ret hg 5 rfl rfl ?_
  exact bvF (by rw [cellT,cellK,decide_eq_false h,Bool.false_and,Bool.false_and])
def wbx (t:Tm):Ob:=.box [iV t.k,.d (.v (.string t.s)),iV t.n,.d (.sl (Tm.rows t.l))]
def WrT (t:Tm):Prop:=∀ (Y:YP) (bs:Bs),SCtr Tryz.prog Y 16 [.lo 0 0,t.av] (wrT bs) (.tup []) (wrT (wputs bs (pcs t)))
def WrL (t:Tm):Prop:=∀ (Y:YP) (bs:Bs),SCtr Tryz.prog Y 31 [.lo 0 0,t.av] (wrT bs) (.tup []) (wrT (wputs bs (pcs t)))

theorem wrT_trim3 (b:Bs) (x y:Tm):((wrT b++[wbx x,wbx y]).take 3).map (mapOb (trimA 3))=wrT b++[wbx x]:=by
 cases b <;> rfl

set_option maxRecDepth 100000 in
theorem wrTermStep (t:Tm) (ho:OkW t) (hlist:cellT t=true→WrL t) (hsub:∀ x∈t.l,WrT x):WrT t:=by
 intro Y bs
 obtain ⟨ha,hl,h0,h1,hn0,_⟩:=ho
 have hrl:=Tm.rows_length t.l
 have hi:=itoa_len t.n h0 h1
 refine SCtr.of_R (pf:=fun _=>.eff) tyOk mixed Tryz.func16 rfl (by kernel_rfl) (by kernel_rfl) (by simp [Tryz.ntmps16]) (by simp [wrT,wrO]) fun w S φ hg=>?_
 refine R_run hg.ok 1000 rfl rfl ?_
 refine R_if rfl rfl (fun h=>?_) (fun h=>?_) <;> refine R_run hg.ok 1000 rfl rfl ?_
 ·have h:=of_decide_eq_true h
  have hc:cellT t=false:=by rw [cellT,cellK,h]; rfl
  rw [pcs_atom hc,atomP,if_pos h,wputs_cons,wputs_nil]
  refine R_call hg.ok (itoa_ok t.n h0 h1) rfl rfl rfl rfl rfl rfl ?_
  refine R_run hg.ok 1000 rfl rfl ?_
  refine R_concat hg.ok (Tx (95::Lib.itoa t.n)) rfl rfl rfl rfl (by rw [show (⟨(Lib.itoa t.n).toArray⟩:ByteArray)=Tx (Lib.itoa t.n) from rfl,Tx_size]; show 1+_≤_; omega) (Tx_app [95] (Lib.itoa t.n)) ?_
  refine R_run hg.ok 1000 rfl rfl ?_
  refine R_callSO hg.ok hg.gup hg.wide hg.Y [0,1] (wrT (wput bs (95::Lib.itoa t.n))++[wbx t]) (wrPut_ok Y bs _ (by simp) (by simp only [List.length_cons]; omega)) (fun _=>rfl) rfl rfl rfl rfl rfl (by rw [wrT_ren _ rfl rfl]; rfl) rfl (by rw [wrT_ren _ rfl rfl]; rfl) ?_
  refine R_run hg.ok 1000 rfl rfl ?_
  exact R_endS hg 2 5 (by show (2:Nat)≤2; omega) rfl rfl (wrT_seal _ _)
 have h:=of_decide_eq_false h
 refine R_if rfl rfl (fun h2=>?_) (fun h2=>?_) <;> refine R_run hg.ok 1000 rfl rfl ?_
 ·have h2:=of_decide_eq_true h2
  have hc:cellT t=false:=by rw [cellT,cellK,h2]; rfl
  rw [pcs_atom hc,atomP,if_neg h,if_pos h2,wputs_cons,wputs_nil]
  refine R_call hg.ok (itoa_ok t.n h0 h1) rfl rfl rfl rfl rfl rfl ?_
  refine R_run hg.ok 1000 rfl rfl ?_
  refine R_callSO hg.ok hg.gup hg.wide hg.Y [0,1] (wrT (wput bs (Lib.itoa t.n))++[wbx t]) (wrPut_ok Y bs _ hi.2 (by omega)) (fun _=>rfl) rfl rfl rfl rfl rfl (by rw [wrT_ren _ rfl rfl]; rfl) rfl (by rw [wrT_ren _ rfl rfl]; rfl) ?_
  refine R_run hg.ok 1000 rfl rfl ?_
  exact R_endS hg 2 5 (by show (2:Nat)≤2; omega) rfl rfl (wrT_seal _ _)
 have h2:=of_decide_eq_false h2
 refine R_call hg.ok (wrCell_ok t) rfl rfl rfl rfl rfl rfl ?_
 refine R_run hg.ok 1000 rfl rfl ?_
 refine R_if rfl rfl (fun h3=>?_) (fun h3=>?_) <;> refine R_run hg.ok 1000 rfl rfl ?_
 ·refine R_callSO hg.ok hg.gup hg.wide hg.Y [0,1] (wrT (wputs bs (pcs t))++[wbx t]) (hlist h3 Y bs) (fun _=>rfl) rfl rfl rfl rfl rfl (by rw [wrT_ren _ rfl rfl]; rfl) rfl (by rw [wrT_ren _ rfl rfl]; rfl) ?_
  refine R_run hg.ok 1000 rfl rfl ?_
  exact R_endS hg 2 5 (by show (2:Nat)≤2; omega) rfl rfl (wrT_seal _ _)
 rw [pcs_atom h3,atomP,if_neg h,if_neg h2,wputs_cons]
 have hn:=wrName_ok t.s.data.toList ha (by omega)
 rw [show txA t.s.data.toList=.d (.v (.string t.s)) by rw [txA,Tx_data]] at hn
 have hnl:=nameB_len t.s.data.toList
 refine R_call hg.ok (hn) rfl rfl rfl rfl rfl rfl ?_
 refine R_run hg.ok 1000 rfl rfl ?_
 generalize hb1:wput bs (nameB t.s.data.toList)=b1
 refine R_callSO hg.ok hg.gup hg.wide hg.Y [0,1] (wrT b1++[wbx t]) (hb1 ▸ wrPut_ok Y bs _ (nameB_ne _) (by omega)) (fun _=>rfl) rfl rfl rfl rfl rfl (by rw [wrT_ren _ rfl rfl]; rfl) rfl (by rw [wrT_ren _ rfl rfl]; rfl) ?_
 refine R_run hg.ok 1000 rfl rfl ?_
 refine R_loop (fun q:Nat × Bs=>([(0,.lo 0 0),(3,.lo 2 0),(12,.d (.sl (Tm.rows t.l))),(13,iV t.l.length),(14,iV q.1)],wrT q.2++[wbx t])) (fun q=>q.1≤t.l.length∧wputs q.2 (pcsArgs (q.1==0) (t.l.drop q.1))=wputs b1 (pcsArgs true t.l)) (fun q=>t.l.length - q.1) (0,b1) ⟨Nat.zero_le _,rfl⟩ ⟨.refl _,.refl _,.refl _,by rw [hrl]; exact .refl _,.refl _,trivial⟩ rfl ?_
 rintro ⟨k,b⟩ ⟨hk,hm⟩
 simp only at hk hm
 refine R_run hg.ok 1000 rfl rfl ?_
 refine R_if rfl rfl (fun h=>?_) (fun h=>?_) <;> refine R_run hg.ok 1000 rfl rfl ?_
 ·have hk1:k<t.l.length:=lt_dec h rfl
  have e1:t.l[k]? = some t.l[k]:=List.getElem?_eq_getElem hk1
  refine R_index hg.ok rfl rfl rfl rfl rfl rfl (Int.natCast_nonneg _) (Tm.rows_get e1) rfl ?_
  refine R_run hg.ok 1000 rfl rfl ?_
  refine R_min hg.ok rfl rfl rfl rfl ?_
  have hmin:min (k:Int) 1=((if k=0 then 0 else 1:Nat):Int):=by split <;> omega
  rw [hmin]
  refine R_run hg.ok 1000 rfl rfl ?_
  have hpick:([[D.v (.string ⟨#[40]⟩)],[D.v (.string ⟨#[44]⟩)]]:List (List D))[if k=0 then 0 else 1]? = some [D.v (.string (Tx (if k==0 then [40] else [44])))]:=by
   by_cases h0:k=0 <;> simp [h0] <;> rfl
  refine R_index hg.ok rfl rfl rfl rfl rfl rfl (Int.natCast_nonneg _) hpick rfl ?_
  refine R_run hg.ok 1000 rfl rfl ?_
  have hp0:(if k==0 then [40] else [44]:Bs)≠[]:=by split <;> simp
  have hp1:(if k==0 then [40] else [44]:Bs).length≤1000000000:=by split <;> simp
  rw [wputs_args b _ e1,wputs_cons,wputs_app] at hm
  refine R_callSO hg.ok hg.gup hg.wide hg.Y [0,1] (wrT (wput b (if k==0 then [40] else [44]))++[wbx t,wbx t.l[k]]) (wrPut_ok Y b _ hp0 hp1) (fun _=>rfl) rfl rfl rfl rfl rfl (by rw [wrT_ren _ rfl rfl]; rfl) rfl (by rw [wrT_ren _ rfl rfl]; rfl) ?_
  refine R_run hg.ok 1000 rfl rfl ?_
  refine R_callSO hg.ok hg.gup hg.wide hg.Y [0,1] (wrT (wputs (wput b (if k==0 then [40] else [44])) (pcs t.l[k]))++[wbx t,wbx t.l[k]]) (hsub _ (List.getElem_mem hk1) Y _) (fun _=>rfl) rfl rfl rfl rfl rfl (by rw [wrT_ren _ rfl rfl]; rfl) rfl (by rw [wrT_ren _ rfl rfl]; rfl) ?_
  refine R_run hg.ok 1000 rfl rfl ?_
  refine R_dropO 3 (wrT (wputs (wput b (if k==0 then [40] else [44])) (pcs t.l[k]))++[wbx t]) (by show φ.length≤3; exact Nat.le_succ_of_le (Nat.le_of_eq hg.hs0.len)) rfl (wrT_trim3 _ t t.l[k]) ?_
  refine R_next (k+1,wputs (wput b (if k==0 then [40] else [44])) (pcs t.l[k])) ⟨hk1,?_⟩ (by show t.l.length - (k+1)<t.l.length - k; omega) ⟨.refl _,.refl _,.refl _,.refl _,Ent.wrap (by omega) (by omega) (by omega),trivial⟩ rfl
  rw [← hm]; rfl
 have hk2:t.l.length≤k:=ge_dec h rfl
 rw [List.drop_eq_nil_of_le hk2,pcsArgs,wputs_nil] at hm
 rw [wputs_app,← hm]
 refine R_if rfl rfl (fun h5=>?_) (fun h5=>?_) <;> refine R_run hg.ok 1000 rfl rfl ?_
 ·have h5:=of_decide_eq_true h5
  have he:t.l.isEmpty=false:=by cases hc:t.l with
   | nil=>rw [hrl,hc] at h5; simp at h5
   | cons c r=>rfl
  rw [he]
  refine R_callSO hg.ok hg.gup hg.wide hg.Y [0,1] (wrT (wput b [41])++[wbx t]) (wrPut_ok Y b [41] (by simp) (by simp)) (fun _=>rfl) rfl rfl rfl rfl rfl (by rw [wrT_ren _ rfl rfl]; rfl) rfl (by rw [wrT_ren _ rfl rfl]; rfl) ?_
  refine R_run hg.ok 1000 rfl rfl ?_
  exact R_endS hg 2 5 (by show (2:Nat)≤2; omega) rfl rfl (wrT_seal _ _)
 ·have h5:=of_decide_eq_false h5
  have he:t.l.isEmpty=true:=by cases hc:t.l with
   | nil=>rfl
   | cons c r=>rw [hrl,hc] at h5; simp at h5 <;> omega
  rw [he]
  exact R_endS hg 2 5 (by show (2:Nat)≤2; omega) rfl rfl (wrT_seal _ _)

set_option maxRecDepth 100000 in
theorem wrListStep (t:Tm) (ho:OkW t) (hc:cellT t=true) (hsub:∀ x,OkW x→x.size<t.size→WrT x):WrL t:=by
 intro Y bs
 obtain ⟨a,b,hl⟩:=cellT_l hc
 have hoa:∀ x∈t.l,OkW x:=by cases ho; assumption
 have hsz:∀ x∈t.l,x.size<t.size:=fun x hx=>by have:=Tm.size_mem hx; rw [Tm.size_eq t]; omega
 rw [pcs_cell hc hl,wputs_cons,wputs_app]
 have e0:t.l[0]? = some a:=by rw [hl]; rfl
 have e1:t.l[1]? = some b:=by rw [hl]; rfl
 have ma:a∈t.l:=by rw [hl]; simp
 have mb:b∈t.l:=by rw [hl]; simp
 refine SCtr.of_R (pf:=fun _=>.eff) tyOk mixed Tryz.func31 rfl (by kernel_rfl) (by kernel_rfl) (by simp [Tryz.ntmps31]) (by simp [wrT,wrO]) fun w S φ hg=>?_
 refine R_run hg.ok 1000 rfl rfl ?_
 refine R_callSO hg.ok hg.gup hg.wide hg.Y [0,1] (wrT (wput bs [91])++[wbx t]) (wrPut_ok Y bs [91] (by simp) (by simp)) (fun _=>rfl) rfl rfl rfl rfl rfl (by rw [wrT_ren _ rfl rfl]; rfl) rfl (by rw [wrT_ren _ rfl rfl]; rfl) ?_
 refine R_run hg.ok 1000 rfl rfl ?_
 refine R_index hg.ok rfl rfl rfl rfl rfl rfl (Int.le_refl _) (Tm.rows_get e0) rfl ?_
 refine R_run hg.ok 1000 rfl rfl ?_
 refine R_callSO hg.ok hg.gup hg.wide hg.Y [0,1] (wrT (wputs (wput bs [91]) (pcs a))++[wbx t]) (hsub a (hoa a ma) (hsz a ma) Y _) (fun _=>rfl) rfl rfl rfl rfl rfl (by rw [wrT_ren _ rfl rfl]; rfl) rfl (by rw [wrT_ren _ rfl rfl]; rfl) ?_
 refine R_run hg.ok 1000 rfl rfl ?_
 refine R_index hg.ok rfl rfl rfl rfl rfl rfl (by decide) (Tm.rows_get e1) rfl ?_
 refine R_run hg.ok 1000 rfl rfl ?_
 generalize hb1:wputs (wput bs [91]) (pcs a)=b1
 refine R_loop (fun q:Tm × Bs=>([(0,.lo 0 0),(3,.lo 2 0)],wrT q.2++[wbx q.1])) (fun q=>OkW q.1∧q.1.size<t.size∧wputs q.2 (pcsTl q.1)=wputs b1 (pcsTl b)) (fun q=>q.1.size) (b,b1) ⟨hoa b mb,hsz b mb,rfl⟩ ⟨.refl _,.refl _,trivial⟩ rfl ?_
 rintro ⟨x,c⟩ ⟨ho1,hs1,hm⟩
 simp only at ho1 hs1 hm
 refine R_run hg.ok 1000 rfl rfl ?_
 refine R_call hg.ok (wrCell_ok x) rfl rfl rfl rfl rfl rfl ?_
 refine R_run hg.ok 1000 rfl rfl ?_
 refine R_if rfl rfl (fun h=>?_) (fun h=>?_) <;> refine R_run hg.ok 1000 rfl rfl ?_
 ·obtain ⟨a2,b2,hl2⟩:=cellT_l h
  have f0:x.l[0]? = some a2:=by rw [hl2]; rfl
  have f1:x.l[1]? = some b2:=by rw [hl2]; rfl
  have ma2:a2∈x.l:=by rw [hl2]; simp
  have mb2:b2∈x.l:=by rw [hl2]; simp
  have hoa2:∀ y∈x.l,OkW y:=by cases ho1; assumption
  have hsz2:∀ y∈x.l,y.size<x.size:=fun y hy=>by have:=Tm.size_mem hy; rw [Tm.size_eq x]; omega
  rw [pcsTl_cell h hl2,wputs_cons,wputs_app] at hm
  refine R_callSO hg.ok hg.gup hg.wide hg.Y [0,1] (wrT (wput c [44])++[wbx x]) (wrPut_ok Y c [44] (by simp) (by simp)) (fun _=>rfl) rfl rfl rfl rfl rfl (by rw [wrT_ren _ rfl rfl]; rfl) rfl (by rw [wrT_ren _ rfl rfl]; rfl) ?_
  refine R_run hg.ok 1000 rfl rfl ?_
  refine R_index hg.ok rfl rfl rfl rfl rfl rfl (Int.le_refl _) (Tm.rows_get f0) rfl ?_
  refine R_run hg.ok 1000 rfl rfl ?_
  refine R_callSO hg.ok hg.gup hg.wide hg.Y [0,1] (wrT (wputs (wput c [44]) (pcs a2))++[wbx x]) (hsub a2 (hoa2 a2 ma2) (by have:=hsz2 a2 ma2; omega) Y _) (fun _=>rfl) rfl rfl rfl rfl rfl (by rw [wrT_ren _ rfl rfl]; rfl) rfl (by rw [wrT_ren _ rfl rfl]; rfl) ?_
  refine R_run hg.ok 1000 rfl rfl ?_
  refine R_index hg.ok rfl rfl rfl rfl rfl rfl (by decide) (Tm.rows_get f1) rfl ?_
  refine R_run hg.ok 1000 rfl rfl ?_
  exact R_next (b2,wputs (wput c [44]) (pcs a2)) ⟨hoa2 b2 mb2,by have:=hsz2 b2 mb2; show b2.size<t.size; omega,hm⟩ (hsz2 b2 mb2) ⟨.refl _,.refl _,trivial⟩ rfl
 have hxl:=Tm.rows_length x.l
 have e3:strEq x.s ⟨#[91,93]⟩=(x.s.data.toList==[91,93]):=by
  have:=Tx_eq x.s.data.toList [91,93]
  rw [Tx_data] at this; exact this
 refine R_if rfl rfl (fun h5=>?_) (fun h5=>?_) <;> refine R_run hg.ok 1000 rfl rfl ?_
 ·have hn:nilK x.k x.s x.l=false:=by simp at h5; simp [nilK,h5]
  rw [pcsTl_rest h hn,wputs_cons,wputs_app,wputs_cons,wputs_nil] at hm
  rw [← hm]
  refine R_callSO hg.ok hg.gup hg.wide hg.Y [0,1] (wrT (wput c [124])++[wbx x]) (wrPut_ok Y c [124] (by simp) (by simp)) (fun _=>rfl) rfl rfl rfl rfl rfl (by rw [wrT_ren _ rfl rfl]; rfl) rfl (by rw [wrT_ren _ rfl rfl]; rfl) ?_
  refine R_run hg.ok 1000 rfl rfl ?_
  refine R_callSO hg.ok hg.gup hg.wide hg.Y [0,1] (wrT (wputs (wput c [124]) (pcs x))++[wbx x]) (hsub x ho1 hs1 Y _) (fun _=>rfl) rfl rfl rfl rfl rfl (by rw [wrT_ren _ rfl rfl]; rfl) rfl (by rw [wrT_ren _ rfl rfl]; rfl) ?_
  refine R_run hg.ok 1000 rfl rfl ?_
  refine R_callSO hg.ok hg.gup hg.wide hg.Y [0,1] (wrT (wput (wputs (wput c [124]) (pcs x)) [93])++[wbx x]) (wrPut_ok Y _ [93] (by simp) (by simp)) (fun _=>rfl) rfl rfl rfl rfl rfl (by rw [wrT_ren _ rfl rfl]; rfl) rfl (by rw [wrT_ren _ rfl rfl]; rfl) ?_
  refine R_run hg.ok 1000 rfl rfl ?_
  exact R_endS hg 2 5 (by show (2:Nat)≤2; omega) rfl rfl (wrT_seal _ _)
 have k3:x.k=3:=by simp at h5; omega
 refine R_if rfl rfl (fun h6=>?_) (fun h6=>?_) <;> refine R_run hg.ok 1000 rfl rfl ?_
 ·have hn:nilK x.k x.s x.l=false:=by rw [e3] at h6; simp at h6; simp [nilK,h6]
  rw [pcsTl_rest h hn,wputs_cons,wputs_app,wputs_cons,wputs_nil] at hm
  rw [← hm]
  refine R_callSO hg.ok hg.gup hg.wide hg.Y [0,1] (wrT (wput c [124])++[wbx x]) (wrPut_ok Y c [124] (by simp) (by simp)) (fun _=>rfl) rfl rfl rfl rfl rfl (by rw [wrT_ren _ rfl rfl]; rfl) rfl (by rw [wrT_ren _ rfl rfl]; rfl) ?_
  refine R_run hg.ok 1000 rfl rfl ?_
  refine R_callSO hg.ok hg.gup hg.wide hg.Y [0,1] (wrT (wputs (wput c [124]) (pcs x))++[wbx x]) (hsub x ho1 hs1 Y _) (fun _=>rfl) rfl rfl rfl rfl rfl (by rw [wrT_ren _ rfl rfl]; rfl) rfl (by rw [wrT_ren _ rfl rfl]; rfl) ?_
  refine R_run hg.ok 1000 rfl rfl ?_
  refine R_callSO hg.ok hg.gup hg.wide hg.Y [0,1] (wrT (wput (wputs (wput c [124]) (pcs x)) [93])++[wbx x]) (wrPut_ok Y _ [93] (by simp) (by simp)) (fun _=>rfl) rfl rfl rfl rfl rfl (by rw [wrT_ren _ rfl rfl]; rfl) rfl (by rw [wrT_ren _ rfl rfl]; rfl) ?_
  refine R_run hg.ok 1000 rfl rfl ?_
  exact R_endS hg 2 5 (by show (2:Nat)≤2; omega) rfl rfl (wrT_seal _ _)
 rw [e3] at h6
 refine R_if rfl rfl (fun h7=>?_) (fun h7=>?_) <;> refine R_run hg.ok 1000 rfl rfl ?_
 ·have hn:nilK x.k x.s x.l=false:=by
   have h7:=of_decide_eq_true h7
   rw [hxl] at h7
   cases hc2:x.l with
   | nil=>rw [hc2] at h7; simp at h7
   | cons p q=>simp [nilK]
  rw [pcsTl_rest h hn,wputs_cons,wputs_app,wputs_cons,wputs_nil] at hm
  rw [← hm]
  refine R_callSO hg.ok hg.gup hg.wide hg.Y [0,1] (wrT (wput c [124])++[wbx x]) (wrPut_ok Y c [124] (by simp) (by simp)) (fun _=>rfl) rfl rfl rfl rfl rfl (by rw [wrT_ren _ rfl rfl]; rfl) rfl (by rw [wrT_ren _ rfl rfl]; rfl) ?_
  refine R_run hg.ok 1000 rfl rfl ?_
  refine R_callSO hg.ok hg.gup hg.wide hg.Y [0,1] (wrT (wputs (wput c [124]) (pcs x))++[wbx x]) (hsub x ho1 hs1 Y _) (fun _=>rfl) rfl rfl rfl rfl rfl (by rw [wrT_ren _ rfl rfl]; rfl) rfl (by rw [wrT_ren _ rfl rfl]; rfl) ?_
  refine R_run hg.ok 1000 rfl rfl ?_
  refine R_callSO hg.ok hg.gup hg.wide hg.Y [0,1] (wrT (wput (wputs (wput c [124]) (pcs x)) [93])++[wbx x]) (wrPut_ok Y _ [93] (by simp) (by simp)) (fun _=>rfl) rfl rfl rfl rfl rfl (by rw [wrT_ren _ rfl rfl]; rfl) rfl (by rw [wrT_ren _ rfl rfl]; rfl) ?_
  refine R_run hg.ok 1000 rfl rfl ?_
  exact R_endS hg 2 5 (by show (2:Nat)≤2; omega) rfl rfl (wrT_seal _ _)
 have hn:nilK x.k x.s x.l=true:=by
  have h7:=of_decide_eq_false h7
  rw [hxl] at h7
  cases hc2:x.l with
  | nil=>simp at h6; simp [nilK,k3,h6]
  | cons p q=>rw [hc2] at h7; simp at h7 <;> omega
 rw [pcsTl_nil h hn,wputs_cons,wputs_nil] at hm
 rw [← hm]
 refine R_callSO hg.ok hg.gup hg.wide hg.Y [0,1] (wrT (wput c [93])++[wbx x]) (wrPut_ok Y _ [93] (by simp) (by simp)) (fun _=>rfl) rfl rfl rfl rfl rfl (by rw [wrT_ren _ rfl rfl]; rfl) rfl (by rw [wrT_ren _ rfl rfl]; rfl) ?_
 refine R_run hg.ok 1000 rfl rfl ?_
 exact R_endS hg 2 5 (by show (2:Nat)≤2; omega) rfl rfl (wrT_seal _ _)

theorem wrTerm_all:∀ (n:Nat) (t:Tm),t.size≤n→OkW t→WrT t
 | 0,t,h,_=>by have:=Tm.size_eq t; omega
 | n+1,t,h,ho=>by
  have hoa:∀ x∈t.l,OkW x:=by cases ho; assumption
  refine wrTermStep t ho (fun hc=>wrListStep t ho hc fun x hx hs=>wrTerm_all n x (by omega) hx) fun x hx=>wrTerm_all n x (by have:=Tm.size_mem hx; have:=Tm.size_eq t; omega) (hoa x hx)
theorem wrTerm_ok (t:Tm) (ho:OkW t):WrT t:=wrTerm_all _ t (Nat.le_refl _) ho
end Go.Proofs.YtchhahnajgfeaaaGreatDoor

namespace Go.Proofs.YtchhahnajgfeaaaGreatDoor
open Go PSL Go.Proofs
def wobjs (n:Nat):List Ob:=[.yld n,.box [.yl 0],.box [.clo 53 [] [.lo 1 0,.lo 2 0]]]

set_option maxRecDepth 100000 in
theorem walk_ok (Y:YP) (t:Tm):∀ (d:Int) (n:Nat),0≤d→d+t.size<4611686018427387904→(∀ (i:Nat) (e:Int × Tm),(t.els d)[i]? = some e→Y.ys[n+i]? = some (Tm.enc e))→(n=0∨Y.go n=true) →
  SCtr Tryz.prog Y 53 [t.av,iV d,.lo 1 0,.lo 2 0] (wobjs n) (bV (adv Y t.size n).2) (wobjs (adv Y t.size n).1):=by
 induction t using Tm.ind with
 | _ t ih =>
 intro d n hd0 hd hy hgo
 refine SCtr.of_R (pf:=fun _=>.eff) tyOk mixed Tryz.func53 rfl (by kernel_rfl) (by kernel_rfl) (by simp [Tryz.ntmps53]) (by simp [wobjs]) fun w S φ hg=>?_
 refine R_run hg.ok 1000 rfl rfl ?_
 refine R_yield hg rfl rfl rfl rfl rfl rfl rfl (avs:=[iV d,t.av]) ?_ hgo ?_
 ·exact hy 0 (d,t) (by rw [Tm.els_eq]; rfl)
 refine R_run hg.ok 1000 rfl rfl ?_
 have hsz:=Tm.size_eq t
 have hlen:=Tm.len_le_sizeL t.l
 refine R_if rfl rfl (fun h1=>?_) (fun h1=>?_)
 ·refine R_run hg.ok 1000 rfl rfl ?_
  have h1:(!Y.go (n+1))=true:=h1
  have h2:Y.go (n+1)=false:=by simpa using h1
  have h3:adv Y t.size n=(n+1,false):=by rw [hsz,Nat.add_comm]; simp [adv,h2]
  refine R_retS hg 3 5 (Nat.le_refl _) rfl ?_ ?_
  ·rw [h3]; rfl
  ·rw [h3]; rfl
 have h1:(!Y.go (n+1))=false:=h1
 have h2:Y.go (n+1)=true:=by simpa using h1
 refine R_run hg.ok 1000 rfl rfl ?_
 refine R_loop (fun k:Nat=>([(1,iV d),(2,.lo 1 0),(3,.lo 2 0),(4,.lo 3 0),(15,.d (.sl (Tm.rows t.l))),(16,iV (t.l.length:Int)),(17,iV k)],wobjs (n+(1+Tm.sizeL (t.l.take k)))++[.box [.d (.v (.int .i64 t.k)),.d (.v (.string t.s)),.d (.v (.int .i64 t.n)),.d (.sl (Tm.rows t.l))]]))
  (fun k=>k≤t.l.length∧adv Y (1+Tm.sizeL (t.l.take k)) n=(n+(1+Tm.sizeL (t.l.take k)),true)) (fun k=>t.l.length - k) 0 ?_ ?_ ?_ ?_
 ·refine ⟨Nat.zero_le _,?_⟩
  simp [Tm.sizeL,adv,h2]
 ·exact ⟨.refl _,.refl _,.refl _,.refl _,.refl _,Ent.int (by rw [Tm.rows_length]),.refl _,trivial⟩
 ·rfl
 intro k hk
 refine R_run hg.ok 1000 rfl rfl ?_
 refine R_if rfl rfl (fun h1=>?_) (fun h1=>?_)
 ·have hk1:k<t.l.length:=by have:=of_decide_eq_true h1; omega
  have e1:t.l[k]? = some t.l[k]:=List.getElem?_eq_getElem hk1
  have hszk:=Tm.sizeL_take_succ e1
  have hmem:=Tm.size_mem (List.getElem_mem hk1)
  refine R_run hg.ok 1000 rfl rfl ?_
  refine R_index hg.ok rfl rfl rfl rfl rfl rfl (Int.natCast_nonneg k) (Tm.rows_get e1) rfl ?_
  refine R_run hg.ok 1000 rfl rfl ?_
  refine R_see 24 rfl (Ent.wrap rfl (by omega) (by omega)) ?_
  refine R_callS hg.ok hg.gup hg.wide hg.Y [0,1,2] (ih _ (List.getElem_mem hk1) (d+1) (n+(1+Tm.sizeL (t.l.take k))) (by omega) (by omega) ?_ ?_) (fun _=>rfl) rfl rfl rfl rfl rfl rfl rfl ?_
  ·intro i e he
   have hlt:=(List.getElem?_eq_some_iff.1 he).1
   have:=hy (1+Tm.sizeL (t.l.take k)+i) e (by
    rw [Tm.els_eq,show 1+Tm.sizeL (t.l.take k)+i=Tm.sizeL (t.l.take k)+i+1 by omega,List.getElem?_cons_succ]
    have hsplit:t.l=t.l.take k++(t.l[k]::t.l.drop (k+1)):=by rw [← List.drop_eq_getElem_cons hk1,List.take_append_drop]
    rw [hsplit,Tm.elsL_append,List.getElem?_append_right (by rw [Tm.elsL_len]; rw [← hsplit]; omega),Tm.elsL_len,← hsplit]
    simp only [Tm.elsL]
    rw [List.getElem?_append_left (by omega),show Tm.sizeL (List.take k t.l)+i - Tm.sizeL (List.take k t.l)=i by omega]
    exact he)
   rw [show n+(1+Tm.sizeL (t.l.take k))+i=n+(1+Tm.sizeL (t.l.take k)+i) by omega]; exact this
  ·right
   exact (adv_true (by rw [hk.2])).2 (by omega)
  refine R_run hg.ok 1000 rfl rfl ?_
  have hle:Tm.sizeL t.l=Tm.sizeL (t.l.take k)+(t.l[k].size+Tm.sizeL (t.l.drop (k+1))):=by
   conv=>lhs; rw [← List.take_append_drop k t.l,List.drop_eq_getElem_cons hk1]
   rw [Tm.sizeL_append,Tm.sizeL]
  refine R_if rfl rfl (fun h3=>?_) (fun h3=>?_)
  ·have h3:(!(adv Y t.l[k].size (n+(1+Tm.sizeL (t.l.take k)))).2)=true:=h3
   have h4:(adv Y t.l[k].size (n+(1+Tm.sizeL (t.l.take k)))).2=false:=by simpa using h3
   refine R_run hg.ok 1000 rfl rfl ?_
   have h5:adv Y t.size n=adv Y t.l[k].size (n+(1+Tm.sizeL (t.l.take k))):=by
    rw [hsz,hle,← Nat.add_assoc,adv_add_true hk.2,adv_add,if_neg (by rw [h4]; simp)]
   refine R_retS hg 3 5 (Nat.le_refl _) rfl ?_ ?_
   ·rw [h5,h4]; rfl
   ·rw [h5]; rfl
  have h3:(!(adv Y t.l[k].size (n+(1+Tm.sizeL (t.l.take k)))).2)=false:=h3
  have h4:(adv Y t.l[k].size (n+(1+Tm.sizeL (t.l.take k)))).2=true:=by simpa using h3
  have h6:=adv_eq h4
  refine R_run hg.ok 1000 rfl rfl ?_
  refine R_drop 4 (by rw [hg.hs0.len]; simp [wobjs]) rfl ?_
  have h7:n+(1+Tm.sizeL (t.l.take (k+1)))=n+(1+Tm.sizeL (t.l.take k))+t.l[k].size:=by rw [hszk]; omega
  refine R_next (k+1) ⟨hk1,?_⟩ (by omega) ⟨.refl _,.refl _,.refl _,.refl _,.refl _,.refl _,Ent.wrap (by omega) (by omega) (by omega),trivial⟩ ?_
  ·rw [hszk,← Nat.add_assoc 1,adv_add_true hk.2,h6]; simp only [Nat.add_assoc]
  ·rw [h6]; show _=wobjs (n+(1+Tm.sizeL (t.l.take (k+1))))++_; rw [h7]; rfl
 ·refine R_run hg.ok 1000 rfl rfl ?_
  have h3:¬ ((k:Int)<(t.l.length:Int)):=of_decide_eq_false h1
  have hkl:k=t.l.length:=by omega
  have h4:adv Y t.size n=(n+(1+Tm.sizeL (t.l.take k)),true):=by
   have:=hk.2
   rw [hkl,List.take_length] at this ⊢
   rw [hsz]; exact this
  refine R_retS hg 3 5 (Nat.le_refl _) rfl ?_ ?_
  ·rw [h4]; rfl
  ·rw [h4]; rfl

set_option maxRecDepth 100000 in
theorem all_ok (Y:YP) (t:Tm) (n:Nat) (hd:t.size<1000000000) (hy:∀ (i:Nat) (e:Int × Tm),(t.els 1)[i]? = some e→Y.ys[n+i]? = some (Tm.enc e)) (hgo:n=0∨Y.go n=true) :
  SCtr Tryz.prog Y 41 [t.av,.yl 0] [.yld n] (bV (adv Y t.size n).2) [.yld (adv Y t.size n).1]:=by
 refine SCtr.of_R (pf:=fun _=>.eff) tyOk mixed Tryz.func41 rfl (by kernel_rfl) (by kernel_rfl) (by simp [Tryz.ntmps41]) (by simp) fun w S φ hg=>?_
 refine R_run hg.ok 1000 rfl rfl ?_
 refine R_callS hg.ok hg.gup hg.wide hg.Y [0,2,3] (walk_ok Y t 1 n (by omega) (by omega) hy hgo) (fun _=>rfl) rfl rfl rfl rfl rfl rfl rfl ?_
 refine R_run hg.ok 1000 rfl rfl ?_
 refine R_retS hg 1 5 (Nat.le_refl _) rfl ?_ ?_
 ·rfl
 ·rfl

set_option maxRecDepth 100000 in
theorem each1_ok (Y:YP) (t:Tm) (hd:t.size<1000000000) (hy:∀ (i:Nat) (e:Int × Tm),(t.els 1)[i]? = some e→Y.ys[i]? = some (Tm.enc e)) :
  SCtr Tryz.prog Y 40 [.yl 0,.d (.ptr (Tm.row t))] [.yld 0] (.tup []) [.yld (adv Y t.size 0).1]:=by
 refine SCtr.of_R (pf:=fun _=>.eff) tyOk mixed Tryz.func40 rfl (by kernel_rfl) (by kernel_rfl) (by simp [Tryz.ntmps40]) (by simp) fun w S φ hg=>?_
 refine R_run hg.ok 1000 rfl rfl ?_
 refine R_callS hg.ok hg.gup hg.wide hg.Y [0] (all_ok Y t 0 hd (by simpa using hy) (.inl rfl)) (fun _=>rfl) rfl rfl rfl rfl rfl rfl rfl ?_
 refine R_run hg.ok 1000 rfl rfl ?_
 refine R_endS hg 1 5 (Nat.le_refl _) rfl ?_ ?_
 ·rfl
 ·rfl

set_option maxRecDepth 100000 in
theorem each_ok (t:Tm):PCtr Tryz.prog 26 [t.av] (.clo 40 [] [.d (.ptr (Tm.row t))]):=by
 refine PCtr.of_R (pf:=fun _=>.still) tyOk mixed Tryz.func26 rfl (by kernel_rfl) (by kernel_rfl) (by simp [Tryz.ntmps26]) fun w S hg=>?_
 refine R_run hg.ok 1000 rfl rfl ?_
 refine R_ret hg 5 rfl rfl ?_
 rfl
end Go.Proofs.YtchhahnajgfeaaaGreatDoor

namespace Go.Proofs.YtchhahnajgfeaaaGreatDoor
open Go PSL Go.Proofs
def boxT (t:Tm):Ob:=.box [.d (.v (.int .i64 t.k)),.d (.v (.string t.s)),.d (.v (.int .i64 t.n)),.d (.sl (Tm.rows t.l))]

theorem adv_allT {Y:YP} (h:∀ n,Y.go n=true):∀ (k n:Nat),adv Y k n=(n+k,true)
 | 0,n=>rfl
 | k+1,n=>by simp only [adv,h,if_true]; rw [adv_allT h k]; congr 1; omega
theorem els_ys {t:Tm} {i:Nat} {e:Int × Tm} (h:(t.els 1)[i]? = some e):((t.els 1).map Tm.enc)[i]? = some (Tm.enc e):=by rw [List.getElem?_map,h]; rfl
theorem els_lt {t:Tm} {i:Nat} {e:Int × Tm} (h:(t.els 1)[i]? = some e):i<t.size:=by rw [← Tm.els_len t 1]; exact (List.getElem?_eq_some_iff.1 h).1
end Go.Proofs.YtchhahnajgfeaaaGreatDoor

namespace Go.Proofs.YtchhahnajgfeaaaGreatDoor
open Go PSL Go.Proofs

set_option maxRecDepth 100000 in
theorem named_ok (s:ByteArray) (hs:s.size<1000000000):PCtr Tryz.prog 42 [.d (.v (.string s))] (bV (namedB s)):=by
 refine PCtr.of_R (pf:=fun _=>.still) tyOk mixed Tryz.func42 rfl (by kernel_rfl) (by kernel_rfl) (by simp [Tryz.ntmps42]) fun w S hg=>?_
 refine R_run hg.ok 1000 rfl rfl ?_
 refine R_loop (fun k:Nat=>([(0,.d (.v (.string s))),(5,iV s.size),(6,iV k)],[])) (fun k=>k≤s.size∧∀ i (hi:i<s.size),i<k→byteOk s[i]=true) (fun k=>s.size - k) 0 ?_ ?_ rfl ?_
 ·exact ⟨Nat.zero_le _,fun i _ h=>absurd h (Nat.not_lt_zero _)⟩
 ·exact ⟨.refl _,.refl _,.refl _,trivial⟩
 intro k hk
 refine R_run hg.ok 1000 rfl rfl ?_
 refine R_if rfl rfl (fun h1=>?_) (fun h1=>?_)
 ·have hk1:k<s.size:=by have:=of_decide_eq_true h1; omega
  refine R_run hg.ok 1000 rfl rfl ?_
  refine R_indexS hg.ok rfl rfl rfl rfl rfl (Int.natCast_nonneg k) (byte_atK hk1) ?_
  refine R_run hg.ok 1000 rfl rfl ?_
  refine R_if rfl rfl (fun h2=>?_) (fun h2=>?_)
  ·refine R_run hg.ok 1000 rfl rfl ?_
   refine R_ret hg 5 rfl rfl ?_
   have:byteOk s[k]=false:=by unfold byteOk; rw [h2]; rfl
   simp only [namedB,not_all_bytes hk1 this]; rfl
  refine R_run hg.ok 1000 rfl rfl ?_
  refine R_indexS hg.ok rfl rfl rfl rfl rfl (Int.natCast_nonneg k) (byte_atK hk1) ?_
  refine R_run hg.ok 1000 rfl rfl ?_
  refine R_if rfl rfl (fun h3=>?_) (fun h3=>?_)
  ·refine R_run hg.ok 1000 rfl rfl ?_
   refine R_ret hg 5 rfl rfl ?_
   have:byteOk s[k]=false:=by unfold byteOk; rw [h3]; simp
   simp only [namedB,not_all_bytes hk1 this]; rfl
  refine R_run hg.ok 1000 rfl rfl ?_
  refine R_next (k+1) ⟨hk1,fun i hi hik=>?_⟩ (by omega) ⟨.refl _,.refl _,Ent.wrap (by omega) (by omega) (by omega),trivial⟩ rfl
  rcases Nat.lt_or_ge i k with h | h
  ·exact hk.2 i hi h
  ·have:i=k:=by omega
   subst this
   unfold byteOk; rw [h2,h3]; rfl
 ·have h4:¬ ((k:Int)<(s.size:Int)):=of_decide_eq_false h1
  have hall:s.data.toList.all byteOk=true:=all_bytes fun i hi=>hk.2 i hi (by omega)
  refine R_run hg.ok 1000 rfl rfl ?_
  refine R_if rfl rfl (fun h2=>?_) (fun h2=>?_)
  ·refine R_run hg.ok 1000 rfl rfl ?_
   refine R_ret hg 5 rfl rfl ?_
   simp only [namedB,hall,h2,Bool.true_and]; rfl
  ·refine R_run hg.ok 1000 rfl rfl ?_
   refine R_ret hg 5 rfl rfl ?_
   simp only [namedB,hall,h2,Bool.true_and]; rfl
end Go.Proofs.YtchhahnajgfeaaaGreatDoor

namespace Go.Proofs.YtchhahnajgfeaaaGreatDoor
open Go PSL Go.Proofs

set_option maxRecDepth 100000 in
theorem own_ok (t:Tm) (hs:t.s.size<1000000000):PCtr Tryz.prog 27 [t.av] (bV t.ownT):=by
 refine PCtr.of_R (pf:=fun _=>.still) tyOk mixed Tryz.func27 rfl (by kernel_rfl) (by kernel_rfl) (by simp [Tryz.ntmps27]) fun w S hg=>?_
 refine R_run hg.ok 1000 rfl rfl ?_
 iterate 12
  all_goals try first
   | (refine R_if rfl rfl (fun _=>?_) (fun _=>?_) <;> refine R_run hg.ok 1000 rfl rfl ?_)
   | (refine R_call hg.ok (named_ok t.s hs) rfl rfl rfl rfl rfl rfl ?_; refine R_run hg.ok 1000 rfl rfl ?_)
 all_goals refine R_ret hg 5 rfl rfl ?_
 all_goals (simp only [Tm.rows_length,beq_iff_eq,beq_eq_false_iff_ne,ne_eq,decide_eq_true_eq,decide_eq_false_iff_not] at *)
 all_goals (simp_all [Tm.ownT,bV])
 all_goals (intros; omega)

set_option maxRecDepth 100000 in
theorem right_ok (t:Tm) (hd:t.size<1000000000) (hs:∀ e∈t.els 1,e.2.s.size<1000000000):PCtr Tryz.prog 15 [t.av] (bV (rightT t)):=by
 refine PCtr.of_R (pf:=fun _=>.still) tyOk mixed Tryz.func15 rfl (by kernel_rfl) (by kernel_rfl) (by simp [Tryz.ntmps15]) fun w S hg=>?_
 refine R_run hg.ok 1000 rfl rfl ?_
 refine R_call hg.ok (each_ok t) rfl rfl rfl rfl rfl rfl ?_
 refine R_run hg.ok 1000 rfl rfl ?_
 refine R_range hg.ok hg.gup ⟨rfl,rfl⟩ rfl (t.els 1) Tm.enc ⟨(t.els 1).map Tm.enc,goR t⟩ rfl (fun n=>[boxT t,.box [.d (.v (.bool false))],.box [iV n]]) (fun _ e=>[(2,.lo 1 0),(3,.lo 2 0),(4,iV e.1),(5,.lo 3 0)]) (fun n e=>[boxT t,.box [.d (.v (.bool false))],.box [iV n],boxT e.2]) _ .ret rfl rfl rfl (each1_ok _ t hd fun _ _ h=>els_ys h) rfl (fun _ _=>rfl) rfl ?_ ?_ ?_ rfl rfl ?_
 ·intro n x hx _ l w R0 X φ0 _ hamb
  refine R_run (gRound_ok hg.ok _ _ _ _ _ hamb) 1000 rfl rfl ?_
  exact R_finA ⟨.refl _,.refl _,.refl _,.refl _,trivial⟩ rfl
 ·intro n x hx _ l w R0 X φ0 hφ0 hamb
  have hn:=els_lt hx
  have hg':=gRound_ok hg.ok l w R0 X φ0 hamb
  have hgo:goR t (n+1)=stepR x (n+1):=by simp only [goR,hx]
  have hw:IntKind.i64.wrap ((n:Int)+1)=((n+1:Nat):Int):=wrap_id (by omega) (by omega)
  refine R_run hg' 1000 rfl rfl ?_
  refine R_if rfl rfl (fun h1=>?_) (fun h1=>?_)
  ·refine R_run hg' 1000 rfl rfl ?_
   refine R_drop 3 (by rw [show (gRound _ l w R0 X φ0).φ0=φ0 from rfl,hφ0]; exact Nat.le_refl _) rfl ?_
   refine R_obs [boxT t,.box [.d (.v (.bool false))],.box [iV ((n+1:Nat):Int)]] ⟨ObIn.refl _,⟨Ent.ff,trivial⟩,⟨Ent.int hw,trivial⟩,trivial⟩ rfl ?_
   exact R_retB (by rw [show (YP.go ⟨_,goR t⟩ (n+1))=goR t (n+1) from rfl,hgo]; simp only [stepR,h1,Bool.true_or,Bool.not_true]) rfl rfl
  refine R_run hg' 1000 rfl rfl ?_
  refine R_if rfl rfl (fun h2=>?_) (fun h2=>?_)
  ·refine R_run hg' 1000 rfl rfl ?_
   refine R_drop 3 (by rw [show (gRound _ l w R0 X φ0).φ0=φ0 from rfl,hφ0]; exact Nat.le_refl _) rfl ?_
   refine R_obs [boxT t,.box [.d (.v (.bool false))],.box [iV ((n+1:Nat):Int)]] ⟨ObIn.refl _,⟨Ent.ff,trivial⟩,⟨Ent.int hw,trivial⟩,trivial⟩ rfl ?_
   rw [hw] at h2
   exact R_retB (by rw [show (YP.go ⟨_,goR t⟩ (n+1))=goR t (n+1) from rfl,hgo]; simp only [stepR,h2,Bool.or_true,Bool.true_or,Bool.not_true]) rfl rfl
  refine R_run hg' 1000 rfl rfl ?_
  refine R_call hg' (own_ok x.2 (hs x (List.mem_of_getElem? hx))) rfl rfl rfl rfl rfl rfl ?_
  refine R_run hg' 1000 rfl rfl ?_
  rw [hw] at h2
  refine R_if rfl rfl (fun h3=>?_) (fun h3=>?_)
  ·refine R_run hg' 1000 rfl rfl ?_
   refine R_drop 3 (by rw [show (gRound _ l w R0 X φ0).φ0=φ0 from rfl,hφ0]; exact Nat.le_refl _) rfl ?_
   refine R_obs [boxT t,.box [.d (.v (.bool false))],.box [iV ((n+1:Nat):Int)]] ⟨ObIn.refl _,⟨Ent.ff,trivial⟩,⟨Ent.int hw,trivial⟩,trivial⟩ rfl ?_
   exact R_retB (by rw [show (YP.go ⟨_,goR t⟩ (n+1))=goR t (n+1) from rfl,hgo]; simp only [stepR,h3,Bool.or_true,Bool.not_true]) rfl rfl
  ·refine R_run hg' 1000 rfl rfl ?_
   refine R_drop 3 (by rw [show (gRound _ l w R0 X φ0).φ0=φ0 from rfl,hφ0]; exact Nat.le_refl _) rfl ?_
   refine R_obs [boxT t,.box [.d (.v (.bool false))],.box [iV ((n+1:Nat):Int)]] ⟨ObIn.refl _,⟨.refl _,trivial⟩,⟨Ent.int hw,trivial⟩,trivial⟩ rfl ?_
   exact R_finB (by rw [show (YP.go ⟨_,goR t⟩ (n+1))=goR t (n+1) from rfl,hgo]; simp only [stepR,h1,h2,h3,Bool.or_false,Bool.not_false]) rfl
 ·intro hgo
  refine R_run hg.ok 1000 rfl rfl ?_
  refine R_ret hg 5 rfl rfl ?_
  cases h:rightT t
  ·obtain ⟨h1,h2⟩:=adv_false h
   exact absurd hgo (by rintro (h3 | h3); exact h2 h3; rw [h1] at h3; cases h3)
  ·rfl
 ·intro h0 hgo
  refine R_ret hg 5 rfl rfl ?_
  cases h:rightT t
  ·rfl
  ·have h1:=adv_true h
   rw [h1.1] at h0 hgo
   rw [h1.2 (by omega)] at hgo; cases hgo
end Go.Proofs.YtchhahnajgfeaaaGreatDoor

namespace Go.Proofs.YtchhahnajgfeaaaGreatDoor
open Go PSL Go.Proofs

theorem wputs_ne {b:Bs} (h:b≠[]):∀ (l:List Bs),wputs b l≠[]
 | []=>h
 | x::r=>by
  rw [wputs_cons]
  refine wputs_ne ?_ r
  unfold wput
  split
  ·simp [h]
  ·exact h

theorem pcs_hd {t:Tm} (ho:OkW t):∃ x r,pcs t=x::r∧x≠[]:=by
 obtain ⟨ha,hl,h0,h1,hn,_⟩:=ho
 have hi:=itoa_len t.n h0 h1
 cases hc:cellT t
 ·rw [pcs_atom hc,atomP]
  split
  ·exact ⟨_,_,rfl,by simp⟩
  ·split
   ·exact ⟨_,_,rfl,hi.2⟩
   ·exact ⟨_,_,rfl,nameB_ne _⟩
 ·obtain ⟨a,b,hl⟩:=cellT_l hc
  rw [pcs_cell hc hl]
  exact ⟨_,_,rfl,by simp⟩

theorem wputs_pcs_ne {t:Tm} (ho:OkW t):wputs [] (pcs t)≠[]:=by
 obtain ⟨x,r,h1,h2⟩:=pcs_hd ho
 rw [h1,wputs_cons]
 exact wputs_ne (wput_ne h2) r

def writeT (t:Tm):Bs × Int:=if rightT t then (if (wputs [] (pcs t)).length≤8000 then (wputs [] (pcs t),0) else ([],3)) else ([],1)
def wrT1 (b:Bs):List Ob:=[.tbox 54 [.lo 1 0,.ow 2 b.length],.byt 5 b.length b]

set_option maxRecDepth 100000 in
theorem writeTerm_ok (t:Tm) (hd:t.size<1000000000) (hs:∀ e∈t.els 1,e.2.s.size<1000000000) (ho:rightT t=true→OkW t):PCtr Tryz.prog 7 [t.av] (.tup [txA (writeT t).1,iV (writeT t).2]):=by
 refine PCtr.of_R (pf:=fun _=>.eff) tyOk mixed Tryz.func7 rfl (by kernel_rfl) (by kernel_rfl) (by simp [Tryz.ntmps7]) fun w S hg=>?_
 refine R_run hg.ok 1000 rfl rfl ?_
 refine R_call hg.ok (right_ok t hd hs) rfl rfl rfl rfl rfl rfl ?_
 refine R_run hg.ok 1000 rfl rfl ?_
 refine R_if rfl rfl (fun h=>?_) (fun h=>?_)
 ·refine R_run hg.ok 1000 rfl rfl ?_
  refine R_ret hg 5 rfl rfl ?_
  rw [writeT,if_neg (by simpa using h)]; rfl
 have h:rightT t=true:=by simpa using h
 have ho:=ho h
 have hne:=wputs_pcs_ne ho
 refine R_run hg.ok 4 rfl rfl ?_
 refine R_step hg.ok rfl rfl rfl rfl ?_
 refine R_boxT hg.ok rfl rfl rfl ?_
 refine R_run hg.ok 1 rfl rfl ?_
 refine R_ownT 1 1 5 rfl rfl rfl ?_
 refine R_run hg.ok 1000 rfl rfl ?_
 refine R_callSO hg.ok hg.gup ⟨rfl,rfl⟩ (fun i l I B h=>by simp [gOf] at h) [1,2] ([wbx t]++wrT1 (wputs [] (pcs t))) (wrTerm_ok t ho ⟨[],fun _=>true⟩ []) (fun ⟨i,l,I,B,h⟩=>by simp [gOf] at h) rfl rfl rfl rfl rfl rfl rfl (by rw [wrT_cons hne]; rfl) ?_
 refine R_run hg.ok 1000 rfl rfl ?_
 generalize hR:wputs [] (pcs t)=R at hne
 refine R_callSO hg.ok hg.gup ⟨rfl,rfl⟩ (fun i l I B h=>by simp [gOf] at h) [1,2] ([wbx t]++wrT1 R) (wrLen_ok ⟨[],fun _=>true⟩ R.length (.lo 0 0) R (.inl rfl)) (fun ⟨i,l,I,B,h⟩=>by simp [gOf] at h) rfl rfl rfl rfl rfl rfl rfl rfl ?_
 refine R_run hg.ok 1000 rfl rfl ?_
 refine R_if rfl rfl (fun h2=>?_) (fun h2=>?_) <;> refine R_run hg.ok 1000 rfl rfl ?_
 ·have h2:=of_decide_eq_true h2
  refine R_ret hg 5 rfl rfl ?_
  rw [writeT,if_pos h,hR,if_neg (by omega)]; rfl
 ·have h2:=of_decide_eq_false h2
  refine R_callSO hg.ok hg.gup ⟨rfl,rfl⟩ (fun i l I B h=>by simp [gOf] at h) [1,2] [wbx t,.tbox 54 [.lo 1 0,.ow 2 R.length],.dead] (wrString_ok ⟨[],fun _=>true⟩ (.lo 0 0) R.length R (.inl rfl) hne (by omega)) (fun ⟨i,l,I,B,h⟩=>by simp [gOf] at h) rfl rfl rfl rfl rfl rfl rfl rfl ?_
  refine R_run hg.ok 1000 rfl rfl ?_
  refine R_ret hg 5 rfl rfl ?_
  rw [writeT,if_pos h,hR,if_pos (by omega)]; rfl
end Go.Proofs.YtchhahnajgfeaaaGreatDoor

namespace Go.Proofs.YtchhahnajgfeaaaGreatDoor
open Go PSL Go.Proofs
end Go.Proofs.YtchhahnajgfeaaaGreatDoor

namespace PSL
open Go
def textW (t:Tm):Bs:=(pcs t).flatten

theorem wputs_full:∀ (l:List Bs) {bs:Bs},8000<bs.length→wputs bs l=bs
 | [],_,_=>rfl
 | x::r,bs,h=>by rw [wputs_cons,wput,if_neg (by omega),wputs_full r h]

theorem wputs_all:∀ (l:List Bs) (bs:Bs),((bs++l.flatten).length≤8000→wputs bs l=bs++l.flatten)∧(8000<(bs++l.flatten).length→8000<(wputs bs l).length)
 | [],bs=>by simp [wputs]
 | x::r,bs=>by
  rw [wputs_cons,wput]
  have hl:(bs++(x::r).flatten)=(bs++x)++r.flatten:=by simp
  rw [hl]
  by_cases h:bs.length≤8000
  ·rw [if_pos h]; exact wputs_all r (bs++x)
  ·rw [if_neg h,wputs_full r (by omega)]
   refine ⟨fun h2=>?_,fun _=>by omega⟩
   simp only [List.length_append] at h2; omega

def sureB (t:Tm):Bs:=if t.rightB then (if (textW t).length≤8000 then textW t else [63]) else [63]
theorem sureB_len (t:Tm):(sureB t).length≤8000:=by unfold sureB; split; split; omega; simp; simp

mutual
def goalB:Gl→Bs
 | .mk k t a b c=>if k=1∨k=2 then sureB t else if k=3 then [33] else if k=4 then 40::(goalsB a++([32,45,62,32]++(goalsB b++([32,59,32]++(goalsB c++[41]))))) else if k=5 then [92,43,32,40]++(goalsB a++[41]) else [102,97,105,108]
def goalsB:List Gl→Bs
 | []=>[116,114,117,101]
 | g::r=>goalB g++goalsTl r
def goalsTl:List Gl→Bs
 | []=>[]
 | g::r=>[44,32]++(goalB g++goalsTl r)
end

theorem goalB_eq (g:Gl):goalB g=if g.k=1∨g.k=2 then sureB g.t else if g.k=3 then [33] else if g.k=4 then 40::(goalsB g.a++([32,45,62,32]++(goalsB g.b++([32,59,32]++(goalsB g.c++[41]))))) else if g.k=5 then [92,43,32,40]++(goalsB g.a++[41]) else [102,97,105,108]:=by
 cases g; rw [goalB]; rfl

theorem goals_len (g:Gl):(goalB g).length+2≤9000 * g.size:=by
 induction g using Gl.ind with
 | h g iha ihb ihc =>
  have hsz:=Gl.size_eq g
  have ht:=Gl.tmPos g.t
  have hL:∀ l:List Gl,(∀ x∈l,(goalB x).length+2≤9000 * x.size)→(goalsTl l).length≤9000 * Gl.sizeL l:=by
   intro l
   induction l with
   | nil=>intro _; simp [goalsTl]
   | cons x r ih =>
    intro h
    have h1:=h x (by simp)
    have h2:=ih fun y hy=>h y (by simp [hy])
    simp only [goalsTl,Gl.sizeL,List.length_append,List.length_cons,List.length_nil]; omega
  have hG:∀ l:List Gl,(∀ x∈l,(goalB x).length+2≤9000 * x.size)→(goalsB l).length≤4+9000 * Gl.sizeL l:=by
   intro l h
   cases l with
   | nil=>simp [goalsB]
   | cons x r =>
    have h1:=h x (by simp)
    have h2:=hL r fun y hy=>h y (by simp [hy])
    simp only [goalsB,Gl.sizeL,List.length_append]; omega
  have ga:=hG g.a iha
  have gb:=hG g.b ihb
  have gc:=hG g.c ihc
  have hs:=sureB_len g.t
  rw [goalB_eq]
  split
  ·omega
  ·split
   ·simp; omega
   ·split
    ·simp only [List.length_cons,List.length_append,List.length_nil]; omega
    ·split
     ·simp only [List.length_cons,List.length_append,List.length_nil]; omega
     ·simp; omega

theorem goalsTl_len (l:List Gl):(goalsTl l).length≤9000 * Gl.sizeL l:=by
 induction l with
 | nil=>simp [goalsTl]
 | cons x r ih =>
  have h1:=goals_len x
  simp only [goalsTl,Gl.sizeL,List.length_append,List.length_cons,List.length_nil]; omega

theorem goalsB_len (l:List Gl):(goalsB l).length≤4+9000 * Gl.sizeL l:=by
 cases l with
 | nil=>simp [goalsB]
 | cons x r =>
  have h1:=goals_len x
  have h2:=goalsTl_len r
  simp only [goalsB,Gl.sizeL,List.length_append]; omega

def clauseB (h:Tm) (l:List Gl):Bs:=if l.isEmpty then sureB h++[46] else sureB h++([32,58,45,32]++(goalsB l++[46]))

theorem join_goals (l:List Gl) (hl:l≠[]):Lib.join (l.map goalB) [44,32]=goalsB l:=by
 cases l with
 | nil=>exact absurd rfl hl
 | cons x r =>
  rw [List.map_cons,Lib.join_cons,goalsB]
  congr 1
  induction r with
  | nil=>rfl
  | cons y r ih=>simp only [Lib.joinTail,List.map_cons,List.flatten_cons,goalsTl] at ih ⊢; rw [← ih (by simp)]; simp
end PSL

namespace PSL
open Go
end PSL

namespace PSL
open Go
end PSL
namespace PSL
open Go

mutual
def allG (P:Tm→Prop):Gl→Prop
 | .mk _ t a b c=>P t∧allGL P a∧allGL P b∧allGL P c
def allGL (P:Tm→Prop):List Gl→Prop
 | []=>True
 | g::r=>allG P g∧allGL P r
end
theorem allG_eq (P:Tm→Prop) (g:Gl):allG P g↔P g.t∧allGL P g.a∧allGL P g.b∧allGL P g.c:=by cases g; rw [allG]; rfl

theorem allGL_mem {P:Tm→Prop}:∀ {l:List Gl},allGL P l→∀ g∈l,P g.t∧allGL P g.a∧allGL P g.b∧allGL P g.c
 | [],_,g,h=>by cases h
 | x::r,h,g,hg=>by
  simp only [allGL] at h
  rcases List.mem_cons.1 hg with rfl | hg
  ·exact (allG_eq P g).1 h.1
  ·exact allGL_mem h.2 g hg
end PSL
namespace PSL
open Go
end PSL
namespace PSL
open Go
def FwT (t:Tm):Prop:=∀ x e,e∈t.els x→e.2.s.size≤100
end PSL

namespace Go.Proofs.YtchhahnajgfeaaaGreatDoor
open Go PSL Go.Proofs

theorem okW_right {t:Tm} (hf:t.Fit) (h:rightT t=true):OkW t:=by
 rw [rightT_eq,Tm.rightB,Bool.and_eq_true,Bool.and_eq_true] at h
 exact okW_of t h.1.1 hf

theorem writeT_right {t:Tm} (h:t.rightB=true):writeT t=if (textW t).length≤8000 then (textW t,0) else ([],3):=by
 have hw:=wputs_all (pcs t) []
 rw [List.nil_append] at hw
 rw [writeT,rightT_eq,if_pos h]
 by_cases hl:(textW t).length≤8000
 ·rw [if_pos hl,hw.1 hl]; exact if_pos hl
 ·have:=hw.2 (by simpa [textW] using hl)
  rw [if_neg (by omega),if_neg hl]

theorem writeT_wrong {t:Tm} (h:t.rightB=false):writeT t=([],1):=by
 rw [writeT,rightT_eq,if_neg (by simp [h])]

structure TmW (t:Tm):Prop where
 fit:t.Fit
 fw:FwT t
 size:t.size≤1000000

theorem writeW_ok (t:Tm) (h:TmW t):PCtr Tryz.prog 7 [t.av] (.tup [txA (writeT t).1,iV (writeT t).2]) :=
 writeTerm_ok t (by have:=h.size; omega) (fun e he=>by have:=h.fw 1 e he; omega) (okW_right h.fit)

set_option maxRecDepth 100000 in
theorem sure_ok (t:Tm) (h:TmW t):PCtr Tryz.prog 23 [t.av] (txA (sureB t)):=by
 refine PCtr.of_R (pf:=fun _=>.still) tyOk mixed Tryz.func23 rfl (by kernel_rfl) (by kernel_rfl) (by simp [Tryz.ntmps23]) fun w S hg=>?_
 refine R_run hg.ok 1000 rfl rfl ?_
 refine R_call hg.ok (writeW_ok t h) rfl rfl rfl rfl rfl rfl ?_
 refine R_run hg.ok 1000 rfl rfl ?_
 cases hr:t.rightB with
 | false =>
  rw [writeT_wrong hr]
  refine R_if rfl rfl (fun _=>?_) (fun h=>absurd h (by simp)) <;> refine R_run hg.ok 1000 rfl rfl ?_
  refine R_ret hg 5 rfl rfl ?_
  rw [sureB,hr]; rfl
 | true =>
  rw [writeT_right hr]
  by_cases hl:(textW t).length≤8000
  ·rw [if_pos hl]
   refine R_if rfl rfl (fun h=>absurd h (by simp)) (fun _=>?_) <;> refine R_run hg.ok 1000 rfl rfl ?_
   refine R_ret hg 5 rfl rfl ?_
   rw [sureB,hr,if_pos rfl,if_pos hl]; rfl
  ·rw [if_neg hl]
   refine R_if rfl rfl (fun _=>?_) (fun h=>absurd h (by simp)) <;> refine R_run hg.ok 1000 rfl rfl ?_
   refine R_ret hg 5 rfl rfl ?_
   rw [sureB,hr,if_pos rfl,if_neg hl]; rfl
theorem txRows_snoc (l:List Bs) (x:Bs):txRows l++[[D.v (.string (Tx x))]]=txRows (l++[x]):=by simp [txRows]; rfl
theorem txRows_len (l:List Bs):(txRows l).length=l.length:=by simp [txRows]
def GlW (l:List Gl):Prop:=(∀ g∈l,g.Ok)∧allGL FwT l∧Gl.sizeL l≤20000

theorem GlW.mem {l:List Gl} (h:GlW l) {g:Gl} (hg:g∈l):TmW g.t∧GlW g.a∧GlW g.b∧GlW g.c:=by
 obtain ⟨h1,h2,h3⟩:=h
 obtain ⟨f1,f2,f3,f4⟩:=allGL_mem h2 g hg
 have ho:=h1 g hg
 have hs:=Gl.size_mem hg
 have hse:=Gl.size_eq g
 exact ⟨⟨ho.tm.2,f1,by omega⟩,⟨ho.ma,f2,by omega⟩,⟨ho.mb,f3,by omega⟩,⟨ho.mc,f4,by omega⟩⟩

set_option maxRecDepth 100000 in
theorem goalW_ok (g:Gl) (ht:TmW g.t) (hs:g.size≤20000) (ha:PCtr Tryz.prog 14 [.d (.sl (Gl.rows g.a))] (txA (goalsB g.a))) (hb:PCtr Tryz.prog 14 [.d (.sl (Gl.rows g.b))] (txA (goalsB g.b))) (hc:PCtr Tryz.prog 14 [.d (.sl (Gl.rows g.c))] (txA (goalsB g.c))):PCtr Tryz.prog 24 [g.av] (txA (goalB g)):=by
 have hse:=Gl.size_eq g
 have la:=goalsB_len g.a
 have lb:=goalsB_len g.b
 have lc:=goalsB_len g.c
 refine PCtr.of_R (pf:=fun _=>.still) tyOk mixed Tryz.func24 rfl (by kernel_rfl) (by kernel_rfl) (by simp [Tryz.ntmps24]) fun w S hg=>?_
 refine R_run hg.ok 1000 rfl rfl ?_
 refine R_if rfl rfl (fun h=>?_) (fun h=>?_) <;> refine R_run hg.ok 1000 rfl rfl ?_
 ·have h:=of_decide_eq_true h
  refine R_call hg.ok (sure_ok g.t ht) rfl rfl rfl rfl rfl rfl ?_
  refine R_run hg.ok 1000 rfl rfl ?_
  refine R_ret hg 5 rfl rfl ?_
  rw [goalB_eq,if_pos (.inl h)]; rfl
 have h:=of_decide_eq_false h
 refine R_if rfl rfl (fun h2=>?_) (fun h2=>?_) <;> refine R_run hg.ok 1000 rfl rfl ?_
 ·have h2:=of_decide_eq_true h2
  refine R_call hg.ok (sure_ok g.t ht) rfl rfl rfl rfl rfl rfl ?_
  refine R_run hg.ok 1000 rfl rfl ?_
  refine R_ret hg 5 rfl rfl ?_
  rw [goalB_eq,if_pos (.inr h2)]; rfl
 have h2:=of_decide_eq_false h2
 refine R_if rfl rfl (fun h3=>?_) (fun h3=>?_) <;> refine R_run hg.ok 1000 rfl rfl ?_
 ·have h3:=of_decide_eq_true h3
  refine R_ret hg 5 rfl rfl ?_
  rw [goalB_eq,if_neg (by omega),if_pos h3]; rfl
 have h3:=of_decide_eq_false h3
 refine R_if rfl rfl (fun h4=>?_) (fun h4=>?_) <;> refine R_run hg.ok 1000 rfl rfl ?_
 ·have h4:=of_decide_eq_true h4
  refine R_call hg.ok (ha) rfl rfl rfl rfl rfl rfl ?_
  refine R_run hg.ok 1000 rfl rfl ?_
  refine R_concat hg.ok (Tx (40::goalsB g.a)) rfl rfl rfl rfl (by rw [Tx_size]; show 1+_≤_; omega) (Tx_app [40] _) ?_
  refine R_run hg.ok 1000 rfl rfl ?_
  refine R_concat hg.ok (Tx (40::goalsB g.a++[32,45,62,32])) rfl rfl rfl rfl (by rw [Tx_size]; show _+4≤_; simp only [List.length_cons]; omega) (Tx_app _ [32,45,62,32]) ?_
  refine R_run hg.ok 1000 rfl rfl ?_
  refine R_call hg.ok (hb) rfl rfl rfl rfl rfl rfl ?_
  refine R_run hg.ok 1000 rfl rfl ?_
  refine R_concat hg.ok (Tx (40::goalsB g.a++[32,45,62,32]++goalsB g.b)) rfl rfl rfl rfl (by rw [Tx_size,Tx_size]; simp only [List.length_append,List.length_cons,List.length_nil]; omega) (Tx_app _ _) ?_
  refine R_run hg.ok 1000 rfl rfl ?_
  refine R_concat hg.ok (Tx (40::goalsB g.a++[32,45,62,32]++goalsB g.b++[32,59,32])) rfl rfl rfl rfl (by rw [Tx_size]; show _+3≤_; simp only [List.length_append,List.length_cons,List.length_nil]; omega) (Tx_app _ [32,59,32]) ?_
  refine R_run hg.ok 1000 rfl rfl ?_
  refine R_call hg.ok (hc) rfl rfl rfl rfl rfl rfl ?_
  refine R_run hg.ok 1000 rfl rfl ?_
  refine R_concat hg.ok (Tx (40::goalsB g.a++[32,45,62,32]++goalsB g.b++[32,59,32]++goalsB g.c)) rfl rfl rfl rfl (by rw [Tx_size,Tx_size]; simp only [List.length_append,List.length_cons,List.length_nil]; omega) (Tx_app _ _) ?_
  refine R_run hg.ok 1000 rfl rfl ?_
  refine R_concat hg.ok (Tx (40::goalsB g.a++[32,45,62,32]++goalsB g.b++[32,59,32]++goalsB g.c++[41])) rfl rfl rfl rfl (by rw [Tx_size]; show _+1≤_; simp only [List.length_append,List.length_cons,List.length_nil]; omega) (Tx_app _ [41]) ?_
  refine R_run hg.ok 1000 rfl rfl ?_
  refine R_ret hg 5 rfl rfl ?_
  rw [goalB_eq,if_neg (by omega),if_neg h3,if_pos h4]; simp; rfl
 have h4:=of_decide_eq_false h4
 refine R_if rfl rfl (fun h5=>?_) (fun h5=>?_) <;> refine R_run hg.ok 1000 rfl rfl ?_
 ·have h5:=of_decide_eq_true h5
  refine R_call hg.ok (ha) rfl rfl rfl rfl rfl rfl ?_
  refine R_run hg.ok 1000 rfl rfl ?_
  refine R_concat hg.ok (Tx ([92,43,32,40]++goalsB g.a)) rfl rfl rfl rfl (by rw [Tx_size]; show 4+_≤_; omega) (Tx_app [92,43,32,40] _) ?_
  refine R_run hg.ok 1000 rfl rfl ?_
  refine R_concat hg.ok (Tx ([92,43,32,40]++goalsB g.a++[41])) rfl rfl rfl rfl (by rw [Tx_size]; show _+1≤_; simp only [List.length_append,List.length_cons,List.length_nil]; omega) (Tx_app _ [41]) ?_
  refine R_run hg.ok 1000 rfl rfl ?_
  refine R_ret hg 5 rfl rfl ?_
  rw [goalB_eq,if_neg (by omega),if_neg h3,if_neg h4,if_pos h5]; simp; rfl
 ·have h5:=of_decide_eq_false h5
  refine R_ret hg 5 rfl rfl ?_
  rw [goalB_eq,if_neg (by omega),if_neg h3,if_neg h4,if_neg h5]; rfl

set_option maxRecDepth 100000 in
theorem goalsW_ok (l:List Gl):GlW l→PCtr Tryz.prog 14 [.d (.sl (Gl.rows l))] (txA (goalsB l)):=by
 refine Gl.indL (p:=fun l=>GlW l→PCtr Tryz.prog 14 [.d (.sl (Gl.rows l))] (txA (goalsB l))) (fun l hsub=>?_) l
 intro hw
 have hrl:=Gl.rows_length l
 have hlen:=goalsB_len l
 have hs3:=hw.2.2
 have hls:=Gl.len_size l
 refine PCtr.of_R (pf:=fun _=>.still) tyOk mixed Tryz.func14 rfl (by kernel_rfl) (by kernel_rfl) (by simp [Tryz.ntmps14]) fun w S hg=>?_
 refine R_run hg.ok 1000 rfl rfl ?_
 refine R_if rfl rfl (fun h=>?_) (fun h=>?_) <;> refine R_run hg.ok 1000 rfl rfl ?_
 ·have h:=of_decide_eq_true h
  have h3:l=[]:=by
   rw [hrl] at h
   exact List.eq_nil_of_length_eq_zero (by omega)
  refine R_ret hg 5 rfl rfl ?_
  rw [h3]; rfl
 have h:=of_decide_eq_false h
 have hne:l≠[]:=fun e=>by rw [hrl,e] at h; simp at h
 refine R_own 3 1 rfl rfl ?_
 refine R_loop (fun k:Nat=>([(3,.ow 0 k),(9,.d (.sl (Gl.rows l))),(10,iV l.length),(11,iV k)],[.arr 1 k (txRows ((l.take k).map goalB))])) (fun k=>k≤l.length) (fun k=>l.length - k) 0 (Nat.zero_le _) ⟨.refl _,.refl _,by rw [hrl]; exact .refl _,.refl _,trivial⟩ rfl ?_
 intro k hk
 have hml:(txRows ((l.take k).map goalB)).length=k:=by rw [txRows_len,List.length_map,List.length_take]; omega
 refine R_run hg.ok 1000 rfl rfl ?_
 refine R_if rfl rfl (fun h=>?_) (fun h=>?_)
 ·refine R_run hg.ok 1000 rfl rfl ?_
  have hk1:k<l.length:=lt_dec h rfl
  have e1:l[k]? = some l[k]:=List.getElem?_eq_getElem hk1
  obtain ⟨w1,w2,w3,w4⟩:=hw.mem (List.getElem_mem hk1)
  obtain ⟨s1,s2,s3⟩:=hsub _ (List.getElem_mem hk1)
  have hgs:=Gl.size_mem (List.getElem_mem hk1)
  refine R_index hg.ok rfl rfl rfl rfl rfl rfl (Int.natCast_nonneg _) (Gl.rows_get e1) rfl ?_
  refine R_run hg.ok 1000 rfl rfl ?_
  refine R_call hg.ok (goalW_ok l[k] w1 (by omega) (s1 w2) (s2 w3) (s3 w4)) rfl rfl rfl rfl rfl rfl ?_
  refine R_run hg.ok 1000 rfl rfl ?_
  refine R_appendO hg.ok (txRows ((l.take (k+1)).map goalB)) rfl rfl rfl rfl rfl rfl rfl rfl rfl (by simp) (by simp [one1]) (by rw [txRows_snoc,← List.map_singleton,← List.map_append,List.take_append_getElem hk1]) (by rw [hml]; simp; omega) (by rw [hml]; simp; omega) ?_
  refine R_run hg.ok 1000 rfl rfl ?_
  refine R_dropO 1 [.arr 1 (Nat.succ k) (txRows ((l.take (k+1)).map goalB))] (Nat.zero_le _) rfl rfl ?_
  exact R_next (k+1) hk1 (by omega) ⟨.refl _,.refl _,.refl _,Ent.wrap (by omega) (by omega) (by omega),trivial⟩ rfl
 ·have hk1:l.length≤k:=ge_dec h rfl
  rw [List.take_of_length_le hk1]
  refine R_freezeO hg.gup 0 [(3,.d (.sl (txRows (l.map goalB)))),(12,.ff)] [.dead] rfl rfl ⟨Ent.frz 0 k _,.refl _,trivial⟩ ⟨by simp [ObIn],trivial⟩ ?_
  refine R_run hg.ok 1000 rfl rfl ?_
  refine R_call hg.ok (join_ok (l.map goalB) [44,32] (by rw [List.length_map]; omega) (by rw [join_goals l hne]; omega)) rfl rfl rfl rfl rfl rfl ?_
  refine R_run hg.ok 1000 rfl rfl ?_
  refine R_ret hg 5 rfl rfl ?_
  rw [join_goals l hne]; rfl

set_option maxRecDepth 100000 in
theorem clauseW_ok (h:Tm) (l:List Gl) (v:Int) (hh:TmW h) (hw:GlW l):PCtr Tryz.prog 13 [Cs.av ⟨h,l,v⟩] (txA (clauseB h l)):=by
 have hrl:=Gl.rows_length l
 have hlen:=goalsB_len l
 have hs3:=hw.2.2
 have hsl:=sureB_len h
 refine PCtr.of_R (pf:=fun _=>.still) tyOk mixed Tryz.func13 rfl (by kernel_rfl) (by kernel_rfl) (by simp [Tryz.ntmps13]) fun w S hg=>?_
 refine R_run hg.ok 1000 rfl rfl ?_
 refine R_if rfl rfl (fun h2=>?_) (fun h2=>?_) <;> refine R_run hg.ok 1000 rfl rfl ?_
 ·have h2:=of_decide_eq_true h2
  have h3:l=[]:=by
   rw [hrl] at h2
   exact List.eq_nil_of_length_eq_zero (by omega)
  refine R_call hg.ok (sure_ok h hh) rfl rfl rfl rfl rfl rfl ?_
  refine R_run hg.ok 1000 rfl rfl ?_
  refine R_concat hg.ok (Tx (sureB h++[46])) rfl rfl rfl rfl (by rw [Tx_size]; show _+1≤_; omega) (Tx_app _ [46]) ?_
  refine R_run hg.ok 1000 rfl rfl ?_
  refine R_ret hg 5 rfl rfl ?_
  rw [h3]; rfl
 have h2:=of_decide_eq_false h2
 have hne:l.isEmpty=false:=by cases l with
  | nil=>exact absurd rfl h2
  | cons x r=>rfl
 refine R_call hg.ok (sure_ok h hh) rfl rfl rfl rfl rfl rfl ?_
 refine R_run hg.ok 1000 rfl rfl ?_
 refine R_concat hg.ok (Tx (sureB h++[32,58,45,32])) rfl rfl rfl rfl (by rw [Tx_size]; show _+4≤_; omega) (Tx_app _ [32,58,45,32]) ?_
 refine R_run hg.ok 1000 rfl rfl ?_
 refine R_call hg.ok (goalsW_ok l hw) rfl rfl rfl rfl rfl rfl ?_
 refine R_run hg.ok 1000 rfl rfl ?_
 refine R_concat hg.ok (Tx (sureB h++[32,58,45,32]++goalsB l)) rfl rfl rfl rfl (by rw [Tx_size,Tx_size]; simp only [List.length_append,List.length_cons,List.length_nil]; omega) (Tx_app _ _) ?_
 refine R_run hg.ok 1000 rfl rfl ?_
 refine R_concat hg.ok (Tx (sureB h++[32,58,45,32]++goalsB l++[46])) rfl rfl rfl rfl (by rw [Tx_size]; show _+1≤_; simp only [List.length_append,List.length_cons,List.length_nil]; omega) (Tx_app _ [46]) ?_
 refine R_run hg.ok 1000 rfl rfl ?_
 refine R_ret hg 5 rfl rfl ?_
 rw [clauseB,hne]; simp; rfl
end Go.Proofs.YtchhahnajgfeaaaGreatDoor

namespace Go.Proofs.YtchhahnajgfeaaaGreatDoor
open Go PSL Go.Proofs
end Go.Proofs.YtchhahnajgfeaaaGreatDoor

namespace Go.Proofs.YtchhahnajgfeaaaGreatDoor
open Go PSL Go.Proofs
def boxR (t:Tm):Ob:=.box [.d (.v (.int .i64 t.k)),.d (.v (.string t.s)),.d (.v (.int .i64 t.n)),.d (.sl (Tm.rows t.l))]
end Go.Proofs.YtchhahnajgfeaaaGreatDoor

namespace Go.Proofs.YtchhahnajgfeaaaGreatDoor
open Go PSL Go.Proofs

set_option maxRecDepth 100000 in
theorem refSame_ok (a:Tm):∀ b,a.size<1000000000→PCtr Tryz.prog 10 [a.av,b.av] (bV (a.same b)):=by
 induction a using Tm.ind with
 | _ a ih =>
 intro b hsz
 refine PCtr.of_R (pf:=fun _=>.still) tyOk mixed Tryz.func10 rfl (by kernel_rfl) (by kernel_rfl) (by simp [Tryz.ntmps10]) fun w S hg=>?_
 refine R_run hg.ok 1000 rfl rfl ?_
 iterate 4
  refine R_if rfl rfl (fun _=>?_) (fun _=>?_) <;> refine R_run hg.ok 1000 rfl rfl ?_
  ·refine R_ret hg 5 rfl rfl ?_
   simp_all [Tm.same_eq,bV,Tm.rows_length]
   try exact Tm.sameL_len (by omega)
 refine R_loop (fun k:Nat=>([(2,.lo 0 0),(3,.lo 1 0),(5,iV k)],[boxR a,boxR b])) (fun k=>k≤a.l.length∧a.l.length=b.l.length∧a.same b=Tm.sameL (a.l.drop k) (b.l.drop k)) (fun k=>a.l.length - k) 0 ?_ ⟨.refl _,.refl _,.refl _,trivial⟩ rfl ?_
 ·simp_all [Tm.same_eq,Tm.rows_length]
  omega
 rintro k ⟨hk0,hl,hk⟩
 have hszl:=Tm.len_le_sizeL a.l
 have hsz2:=Tm.size_eq a
 refine R_run hg.ok 1000 rfl rfl ?_
 refine R_if rfl rfl (fun h=>?_) (fun h=>?_) <;> refine R_run hg.ok 1000 rfl rfl ?_
 ·have hk1:=lt_dec (n:=a.l.length) h (by rw [Tm.rows_length])
  have hk2:k<b.l.length:=by omega
  have e1:a.l[k]? = some a.l[k]:=List.getElem?_eq_getElem hk1
  have e2:b.l[k]? = some b.l[k]:=List.getElem?_eq_getElem hk2
  rw [List.drop_eq_getElem_cons hk1,List.drop_eq_getElem_cons hk2,Tm.sameL] at hk
  have hm:=Tm.size_mem (List.getElem_mem hk1)
  refine R_index hg.ok rfl rfl rfl rfl rfl rfl (Int.natCast_nonneg k) (Tm.rows_get e1) rfl ?_
  refine R_run hg.ok 1000 rfl rfl ?_
  refine R_index hg.ok rfl rfl rfl rfl rfl rfl (Int.natCast_nonneg k) (Tm.rows_get e2) rfl ?_
  refine R_run hg.ok 1000 rfl rfl ?_
  refine R_call hg.ok (ih _ (List.getElem_mem hk1) b.l[k] (by omega)) rfl rfl rfl rfl rfl rfl ?_
  refine R_run hg.ok 1000 rfl rfl ?_
  refine R_if rfl rfl (fun h=>?_) (fun h=>?_) <;> refine R_run hg.ok 1000 rfl rfl ?_
  ·refine R_ret hg 5 rfl rfl ?_
   rw [hk]; simp_all [bV]
  ·refine R_next (k+1) ⟨hk1,hl,?_⟩ (by omega) ⟨.refl _,.refl _,Ent.wrap (by omega) (by omega) (by omega),trivial⟩ rfl
   rw [hk]; simp_all
 ·refine R_ret hg 5 rfl rfl ?_
  have hk1:=ge_dec (n:=a.l.length) h (by rw [Tm.rows_length])
  rw [hk,List.drop_eq_nil_of_le (by omega),List.drop_eq_nil_of_le (by omega)]; rfl

set_option maxRecDepth 100000 in
theorem few_ok (t:Tm):t.Ok→∀ m d:Int,PCtr Tryz.prog 11 [t.av,iV m,iV d] (iV (t.few m d)):=by
 induction t using Tm.ind with
 | _ t ih =>
 intro hok m d
 refine PCtr.of_R (pf:=fun _=>.still) tyOk mixed Tryz.func11 rfl (by kernel_rfl) (by kernel_rfl) (by simp [Tryz.ntmps11]) fun w S hg=>?_
 refine R_run hg.ok 1000 rfl rfl ?_
 iterate 3
  refine R_if rfl rfl (fun _=>?_) (fun _=>?_) <;> refine R_run hg.ok 1000 rfl rfl ?_
  ·refine R_ret hg 5 rfl rfl ?_
   rw [Tm.few_eq,if_pos (by simp_all [Tm.fewStep])]; rfl
 have hfs:Tm.fewStep t.s m d=false:=by simp_all [Tm.fewStep]
 have hlen:=hok.len
 refine R_loop (fun x:Nat × Int=>([(1,iV x.2),(2,iV d),(3,.lo 0 0),(7,iV x.1)],[boxR t])) (fun x=>x.1≤t.l.length∧t.few m d=Tm.fewL (t.l.drop x.1) x.2 (IntKind.i64.wrap (d - 1))) (fun x=>t.l.length - x.1) (0,IntKind.i64.wrap (m - 1)) ⟨Nat.zero_le _,by rw [Tm.few_eq,hfs]; rfl⟩ ⟨.refl _,.refl _,.refl _,.refl _,trivial⟩ rfl ?_
 rintro ⟨k,q⟩ ⟨hk,hm⟩
 simp only at hk hm
 refine R_run hg.ok 1000 rfl rfl ?_
 refine R_if rfl rfl (fun h=>?_) (fun h=>?_) <;> refine R_run hg.ok 1000 rfl rfl ?_
 ·have hk1:k<t.l.length:=lt_dec h (by rw [Tm.rows_length])
  have e1:t.l[k]? = some t.l[k]:=List.getElem?_eq_getElem hk1
  rw [List.drop_eq_getElem_cons hk1,Tm.fewL] at hm
  refine R_if rfl rfl (fun h2=>?_) (fun h2=>?_) <;> refine R_run hg.ok 1000 rfl rfl ?_
  ·rw [if_pos (of_decide_eq_true h2)] at hm
   refine R_index hg.ok rfl rfl rfl rfl rfl rfl (Int.natCast_nonneg k) (Tm.rows_get e1) rfl ?_
   refine R_run hg.ok 1000 rfl rfl ?_
   refine R_call hg.ok (ih _ (List.getElem_mem hk1) (hok.sub (List.getElem_mem hk1)) _ _) rfl rfl rfl rfl rfl rfl ?_
   refine R_run hg.ok 1000 rfl rfl ?_
   exact R_next (k+1,t.l[k].few q (IntKind.i64.wrap (d - 1))) ⟨hk1,hm⟩ (by simp only; omega) ⟨.refl _,.refl _,.refl _,Ent.wrap (by simp only; omega) (by simp only; omega) (by simp only; omega),trivial⟩ rfl
  ·rw [if_neg (of_decide_eq_false h2)] at hm
   refine R_ret hg 5 rfl rfl ?_
   rw [hm]; rfl
 ·have hk1:t.l.length≤k:=ge_dec h (by rw [Tm.rows_length])
  refine R_ret hg 5 rfl rfl ?_
  rw [List.drop_eq_nil_of_le hk1,Tm.fewL] at hm
  rw [hm]; rfl

set_option maxRecDepth 100000 in
theorem some_ok (l:List Tm) (hl:∀ t∈l,t.Ok) (hlen:l.length<4611686018427387904):PCtr Tryz.prog 4 [.d (.sl (Tm.rows l))] (bV (Tm.someT l)):=by
 refine PCtr.of_R (pf:=fun _=>.still) tyOk mixed Tryz.func4 rfl (by kernel_rfl) (by kernel_rfl) (by simp [Tryz.ntmps4]) fun w S hg=>?_
 refine R_run hg.ok 1000 rfl rfl ?_
 refine R_loop (fun x:Nat × Int=>([(0,.d (.sl (Tm.rows l))),(3,iV x.2),(4,iV x.1)],[])) (fun x=>x.1≤l.length∧Tm.fewL l 4000 200=Tm.fewL (l.drop x.1) x.2 200) (fun x=>l.length - x.1) (0,4000) ⟨Nat.zero_le _,rfl⟩ ⟨.refl _,.refl _,.refl _,trivial⟩ rfl ?_
 rintro ⟨k,q⟩ ⟨hk,hm⟩
 simp only at hk hm
 refine R_run hg.ok 1000 rfl rfl ?_
 refine R_if rfl rfl (fun h=>?_) (fun h=>?_) <;> refine R_run hg.ok 1000 rfl rfl ?_
 ·have hk1:k<l.length:=lt_dec h (by rw [Tm.rows_length])
  have e1:l[k]? = some l[k]:=List.getElem?_eq_getElem hk1
  rw [List.drop_eq_getElem_cons hk1,Tm.fewL] at hm
  refine R_if rfl rfl (fun h2=>?_) (fun h2=>?_) <;> refine R_run hg.ok 1000 rfl rfl ?_
  ·rw [if_pos (of_decide_eq_true h2)] at hm
   refine R_index hg.ok rfl rfl rfl rfl rfl rfl (Int.natCast_nonneg k) (Tm.rows_get e1) rfl ?_
   refine R_run hg.ok 1000 rfl rfl ?_
   refine R_call hg.ok (few_ok _ (hl _ (List.getElem_mem hk1)) _ _) rfl rfl rfl rfl rfl rfl ?_
   refine R_run hg.ok 1000 rfl rfl ?_
   exact R_next (k+1,l[k].few q 200) ⟨hk1,hm⟩ (by simp only; omega) ⟨.refl _,.refl _,Ent.wrap (by simp only; omega) (by simp only; omega) (by simp only; omega),trivial⟩ rfl
  ·rw [if_neg (of_decide_eq_false h2)] at hm
   refine R_if rfl rfl (fun h3=>?_) (fun h3=>?_) <;> refine R_run hg.ok 1000 rfl rfl ?_
   ·simp_all
   ·refine R_ret hg 5 rfl rfl ?_
    unfold Tm.someT
    rw [hm]; simp_all [bV]
    try (intros; omega)
 ·have hk1:l.length≤k:=ge_dec h (by rw [Tm.rows_length])
  rw [List.drop_eq_nil_of_le hk1,Tm.fewL] at hm
  refine R_if rfl rfl (fun h3=>?_) (fun h3=>?_) <;> refine R_run hg.ok 1000 rfl rfl ?_
  ·refine R_ret hg 5 rfl rfl ?_
   unfold Tm.someT
   rw [hm]; simp_all [bV,Tm.rows_length]
  ·refine R_ret hg 5 rfl rfl ?_
   unfold Tm.someT
   rw [hm]; simp_all [bV]
   try (intros; omega)
end Go.Proofs.YtchhahnajgfeaaaGreatDoor

namespace Go.Proofs.YtchhahnajgfeaaaGreatDoor
open Go PSL Go.Proofs
end Go.Proofs.YtchhahnajgfeaaaGreatDoor

namespace PSL
open Go Go.RowKit
section
variable {g:G} {pf:Nat→Cls} {ops:Array Oper}
end
section
variable {g:G} {pf:Nat→Cls} {ops:Array Oper} {Fin:Exit→Act→World→Prop}
end
end PSL
namespace PSL
open Go Go.RowKit

def DEnt (x y:D):Prop:=∀ (S:Nat→Prop) (w:World) (v:Value),Rd S w x v→Rd S w y v

def RowEnt:List D→List D→Prop
 | [],[]=>True
 | x::r,y::t=>DEnt x y∧RowEnt r t
 | _,_=>False
theorem DEnt.refl (x:D):DEnt x x:=fun _ _ _ h=>h
theorem DEnt.nil:DEnt (.v (.slice none 0 0)) (.sl []):=fun S w v h=>by cases h; exact .nil _ _

theorem RowEnt.len:∀ {r t:List D},RowEnt r t→r.length=t.length
 | [],[],_=>rfl
 | _::_,_::_,h=>by simp [RowEnt.len h.2]
 | [],_::_,h=>h.elim
 | _::_,[],h=>h.elim

theorem RowEnt.get:∀ {r t:List D} {j:Nat} {y:D},RowEnt r t→t[j]? = some y→∃ x,r[j]? = some x∧DEnt x y
 | [],[],j,y,_,hj=>by simp at hj
 | x::r,z::t,0,y,h,hj=>by
  simp only [List.getElem?_cons_zero,Option.some.injEq] at hj
  subst hj; exact ⟨x,rfl,h.1⟩
 | x::r,z::t,j+1,y,h,hj=>by
  simp only [List.getElem?_cons_succ] at hj ⊢
  exact RowEnt.get h.2 hj
 | [],_::_,_,_,h,_=>h.elim
 | _::_,[],_,_,h,_=>h.elim

theorem Ent.row1 {row row':List D} (h:RowEnt row row'):Ent (.fs [row]) (.d (.sl [row'])):=fun S w φ v hv=>by
 have hv:=Ent.fs [row] S w φ v hv
 simp only [RV] at hv ⊢
 cases hv with
 | @sl _ b o cap sz cs T fr g hS hb hl hc hsz hg hr =>
  refine .sl (sz:=sz) g hS hb hl hc (fun i r hi=>?_) (fun i r j x hi hj=>?_) (fun i r j x hi hj=>?_)
  ·cases i with
   | zero=>cases hi; rw [← h.len]; exact hsz 0 row rfl
   | succ i=>simp at hi
  ·cases i with
   | zero =>
    cases hi
    obtain ⟨x',h1,h2⟩:=h.get hj
    exact hg 0 row j x' rfl h1
   | succ i=>simp at hi
  ·cases i with
   | zero =>
    cases hi
    obtain ⟨x',h1,h2⟩:=h.get hj
    exact h2 _ _ _ (hr 0 row j x' rfl h1)
   | succ i=>simp at hi
end PSL

namespace PSL
open Go Go.RowKit
section
variable {g:G} {pf:Nat→Cls} {ops:Array Oper} {Fin:Exit→Act→World→Prop}
end
end PSL

namespace PSL
open Go Go.RowKit
section
variable {g:G} {pf:Nat→Cls} {ops:Array Oper} {Fin:Exit→Act→World→Prop}
end
end PSL

namespace PSL
open Go Go.RowKit
section
variable {g:G} {pf:Nat→Cls} {ops:Array Oper} {Fin:Exit→Act→World→Prop}
end
end PSL

namespace PSL
open Go Go.RowKit
section
variable {g:G} {pf:Nat→Cls} {ops:Array Oper} {Fin:Exit→Act→World→Prop}
end
end PSL

namespace PSL
open Go Go.RowKit

theorem Ent.agg {l m:List AV} (h:EntL l m):Ent (.agg l) (.agg m):=fun S w φ v hv=>by
 simp only [RV] at hv ⊢
 obtain ⟨cs,h1,h2⟩:=hv
 exact ⟨cs,h1,h.rvs h2⟩
section
variable {g:G} {pf:Nat→Cls} {ops:Array Oper} {Fin:Exit→Act→World→Prop}
end
end PSL

namespace PSL
open Go Go.RowKit

def RowsEnt:List (List D)→List (List D)→Prop
 | [],[]=>True
 | x::r,y::t=>RowEnt x y∧RowsEnt r t
 | _,_=>False

theorem RowsEnt.len:∀ {r t:List (List D)},RowsEnt r t→r.length=t.length
 | [],[],_=>rfl
 | _::_,_::_,h=>by simp [RowsEnt.len h.2]
 | [],_::_,h=>h.elim
 | _::_,[],h=>h.elim

theorem RowsEnt.get:∀ {r t:List (List D)} {j:Nat} {y:List D},RowsEnt r t→t[j]? = some y→∃ x,r[j]? = some x∧RowEnt x y
 | [],[],j,y,_,hj=>by simp at hj
 | x::r,z::t,0,y,h,hj=>by
  simp only [List.getElem?_cons_zero,Option.some.injEq] at hj
  subst hj; exact ⟨x,rfl,h.1⟩
 | x::r,z::t,j+1,y,h,hj=>by
  simp only [List.getElem?_cons_succ] at hj ⊢
  exact RowsEnt.get h.2 hj
 | [],_::_,_,_,h,_=>h.elim
 | _::_,[],_,_,h,_=>h.elim

theorem DEnt.sl {rows rows':List (List D)} (h:RowsEnt rows rows'):DEnt (.sl rows) (.sl rows'):=fun S w v hv=>by
 cases hv with
 | nil a c =>
  have:rows'=[]:=by cases rows' with
   | nil=>rfl
   | cons x r=>exact h.elim
  subst this; exact .nil a c
 | @sl _ b o cap sz cs T fr g hS hb hl hc hsz hg hr =>
  have hlen:=h.len
  rw [hlen]
  refine .sl (sz:=sz) g hS hb (by rw [← hlen]; exact hl) hc (fun i r hi=>?_) (fun i r j x hi hj=>?_) (fun i r j x hi hj=>?_)
  ·obtain ⟨x,h1,h2⟩:=h.get hi
   rw [← h2.len]; exact hsz i x h1
  ·obtain ⟨x1,h1,h2⟩:=h.get hi
   obtain ⟨x',h3,h4⟩:=h2.get hj
   exact hg i x1 j x' h1 h3
  ·obtain ⟨x1,h1,h2⟩:=h.get hi
   obtain ⟨x',h3,h4⟩:=h2.get hj
   exact h4 _ _ _ (hr i x1 j x' h1 h3)

theorem Ent.d {x y:D} (h:DEnt x y):Ent (.d x) (.d y):=fun S w φ v hv=>by
 simp only [RV] at hv ⊢; exact h _ _ _ hv
theorem Ent.rows {rows rows':List (List D)} (h:RowsEnt rows rows'):Ent (.fs rows) (.d (.sl rows')):=fun S w φ v hv=>Ent.d (DEnt.sl h) S w φ v (Ent.fs rows S w φ v hv)
end PSL

namespace Go.Proofs.YtchhahnajgfeaaaGreatDoor
open Go PSL Go.Proofs
def vobjs (acc:List Int):List Ob:=[.map (imap (setI acc)),.box [.mp 0],.box [.ow 3 acc.length],.arr 1 acc.length (irows acc)]
def accN (acc:List Int) (t:Tm) (n:Nat):List Int:=((t.els 1).take n).foldl stepV acc
theorem vdrop (f:AV→AV) (h:f .tt=.tt) (a:List Int) (r:List Ob):mapOb f (.map (imap (setI a)))::r=.map (imap (setI a))::r:=by rw [mapOb_set h]
theorem setI_snoc (a:List Int) (n:Int):setI a++[(n,.tt)]=setI (a++[n]):=by simp [setI]
theorem irows_snoc (a:List Int) (n:Int):irows a++[[.v (.int .i64 n)]]=irows (a++[n]):=by simp [irows,irow]
theorem addV_len (l:List Int) (x:Int):(addV l x).length≤l.length+1:=by unfold addV; split <;> simp

theorem foldl_lenV:∀ (l:List (Int × Tm)) (a:List Int),(l.foldl stepV a).length≤a.length+l.length
 | [],a=>by simp
 | e::l,a=>by
  have:=foldl_lenV l (stepV a e)
  have h2:(stepV a e).length≤a.length+1:=by unfold stepV; split; exact addV_len _ _; omega
  simp only [List.foldl_cons,List.length_cons]; omega
def varsF (a:List Int) (l:List Tm):List Int:=l.foldl (fun a t=>(t.els 1).foldl stepV a) a

theorem varsF_len:∀ (l:List Tm) (a:List Int),(varsF a l).length≤a.length+Tm.sizeL l
 | [],a=>by simp [varsF]
 | t::r,a=>by
  have:=varsF_len r ((t.els 1).foldl stepV a)
  have h:=foldl_lenV (t.els 1) a
  rw [Tm.els_len] at h
  simp only [varsF,List.foldl_cons,Tm.sizeL] at this ⊢; omega

set_option maxRecDepth 100000 in
theorem vars_ok (l:List Tm) (hsz:Tm.sizeL l<1000000000):PCtr Tryz.prog 20 [.d (.sl (Tm.rows l))] (.d (.sl (irows (varsT l)))):=by
 refine PCtr.of_R (pf:=fun _=>.eff) tyOk mixed Tryz.func20 rfl (by kernel_rfl) (by kernel_rfl) (by simp [Tryz.ntmps20]) fun w S hg=>?_
 refine R_run hg.ok 1000 rfl rfl ?_
 refine R_makeMap hg.ok rfl rfl ?_
 refine R_run hg.ok 1000 rfl rfl ?_
 refine R_ownB 2 0 1 rfl rfl rfl ?_
 refine R_loop (fun x:Nat × List Int=>([(3,.lo 1 0),(4,.lo 2 0),(10,.d (.sl (Tm.rows l))),(11,iV l.length),(12,iV x.1)],vobjs x.2)) (fun x=>x.1≤l.length∧varsT l=varsF x.2 (l.drop x.1)∧x.2.length+Tm.sizeL (l.drop x.1)≤Tm.sizeL l) (fun x=>l.length - x.1) (0,[]) ⟨Nat.zero_le _,rfl,by simp⟩ ⟨.refl _,.refl _,.refl _,Ent.int (by rw [Tm.rows_length]),.refl _,trivial⟩ rfl ?_
 rintro ⟨k,acc⟩ ⟨hk,hm,hal⟩
 simp only at hk hm hal
 have hl:=Tm.len_le_sizeL l
 refine R_run hg.ok 1000 rfl rfl ?_
 refine R_if rfl rfl (fun h=>?_) (fun h=>?_) <;> refine R_run hg.ok 1000 rfl rfl ?_
 ·have hk1:k<l.length:=lt_dec h rfl
  have e1:l[k]? = some l[k]:=List.getElem?_eq_getElem hk1
  rw [List.drop_eq_getElem_cons hk1] at hm hal
  simp only [Tm.sizeL] at hal
  refine R_index hg.ok rfl rfl rfl rfl rfl rfl (Int.natCast_nonneg k) (Tm.rows_get e1) rfl ?_
  refine R_run hg.ok 1000 rfl rfl ?_
  refine R_call hg.ok (each_ok l[k]) rfl rfl rfl rfl rfl rfl ?_
  refine R_run hg.ok 1000 rfl rfl ?_
  generalize l[k]=t at *
  refine R_range hg.ok hg.gup ⟨rfl,rfl⟩ rfl (t.els 1) Tm.enc ⟨(t.els 1).map Tm.enc,fun _=>true⟩ rfl (fun n=>vobjs (accN acc t n)++[boxR t]) (fun _ _=>[(3,.lo 1 0),(4,.lo 2 0),(8,.lo 5 0)]) (fun n e=>vobjs (accN acc t n)++[boxR t,boxR e.2]) _ .ret rfl rfl rfl (each1_ok _ t (by omega) fun _ _ h=>els_ys h) rfl (fun _ _=>rfl) rfl ?_ ?_ ?_ rfl rfl (fun _ h=>by cases h)
  ·intro n x hx _ L w R0 X φ0 _ hamb
   refine R_run (gRound_ok hg.ok _ _ _ _ _ hamb) 1000 rfl rfl ?_
   exact R_finA ⟨.refl _,.refl _,.refl _,trivial⟩ rfl
  ·intro n x hx _ L w R0 X φ0 hφ0 hamb
   have hg':=gRound_ok hg.ok L w R0 X φ0 hamb
   have hn:=els_lt hx
   have hstep:accN acc t (n+1)=stepV (accN acc t n) x:=by unfold accN; rw [List.take_add_one,hx,List.foldl_append]; rfl
   have hlen:(accN acc t n).length≤acc.length+n:=by
    have:=foldl_lenV ((t.els 1).take n) acc
    unfold accN; rw [List.length_take] at this; omega
   rw [hstep]
   generalize accN acc t n=a at *
   refine R_run hg' 1000 rfl rfl ?_
   refine R_if rfl rfl (fun h1=>?_) (fun h1=>?_) <;> refine R_run hg' 1000 rfl rfl ?_
   ·have hx1:x.2.k=1:=by simpa using h1
    by_cases hmem:a.contains x.2.n=true
    ·refine R_lookupI hg' (setI a) rfl rfl rfl rfl rfl rfl rfl (zv:=.bool false) (by kernel_rfl) (v:=.tt) (by rw [getI_set,if_pos hmem]; rfl) ?_
     refine R_run hg' 1000 rfl rfl ?_
     refine R_dropO 5 _ (by rw [show (gRound _ L w R0 X φ0).φ0=φ0 from rfl,hφ0]; exact Nat.le_refl _) rfl (vdrop (trimA 5) rfl _ _) ?_
     exact R_finB rfl (by unfold stepV addV; rw [if_pos hx1,if_pos hmem]; rfl)
    ·have hmem':a.contains x.2.n=false:=by simpa using hmem
     refine R_lookupI hg' (setI a) rfl rfl rfl rfl rfl rfl rfl (zv:=.bool false) (by kernel_rfl) (v:=.ff) (by rw [getI_set,hmem']; rfl) ?_
     refine R_run hg' 1000 rfl rfl ?_
     refine R_mapAddI hg' (setI a) rfl rfl rfl rfl rfl rfl rfl (by rw [getI_set,hmem']; rfl) ?_
     rw [show ∀ E:Env,ev E (.const (.bool true))=.tt from fun _=>rfl,setI_snoc]
     refine R_run hg' 1000 rfl rfl ?_
     refine R_append hg' rfl rfl rfl rfl rfl rfl rfl rfl rfl (by simp) (by simp [one1]) (by simp [irows_length]; omega) (by simp [irows_length]; omega) ?_
     rw [irows_snoc]
     refine R_run hg' 1000 rfl rfl ?_
     refine R_dropO 5 _ (by rw [show (gRound _ L w R0 X φ0).φ0=φ0 from rfl,hφ0]; exact Nat.le_refl _) rfl (vdrop (trimA 5) rfl _ _) ?_
     refine R_finB rfl ?_
     unfold stepV addV; rw [if_pos hx1,hmem']
     simp only [Bool.false_eq_true,if_false,vobjs,List.length_append,List.length_cons,List.length_nil]; rfl
   ·have hx1:¬ x.2.k=1:=by simpa using h1
    refine R_dropO 5 _ (by rw [show (gRound _ L w R0 X φ0).φ0=φ0 from rfl,hφ0]; exact Nat.le_refl _) rfl (vdrop (trimA 5) rfl _ _) ?_
    exact R_finB rfl (by unfold stepV; rw [if_neg hx1]; rfl)
  ·intro _
   rw [adv_allT (fun _=>rfl)]
   refine R_run hg.ok 1000 rfl rfl ?_
   refine R_dropO 4 _ (Nat.zero_le _) rfl (vdrop (trimA 4) rfl _ _) ?_
   have hA:accN acc t (0+t.size)=(t.els 1).foldl stepV acc:=by unfold accN; rw [List.take_of_length_le (by rw [Tm.els_len]; omega)]
   have hfl:=foldl_lenV (t.els 1) acc
   rw [Tm.els_len] at hfl
   rw [hA]
   refine R_next (k+1,(t.els 1).foldl stepV acc) ⟨hk1,hm,by simp only; omega⟩ (by simp only; omega) ⟨.refl _,.refl _,.refl _,.refl _,Ent.wrap (by simp only; omega) (by simp only; omega) (by simp only; omega),trivial⟩ rfl
 ·have hk1:l.length≤k:=ge_dec h rfl
  refine R_ret hg 5 rfl (sealA_ow rfl) ?_
  rw [hm,List.drop_eq_nil_of_le hk1]; rfl
end Go.Proofs.YtchhahnajgfeaaaGreatDoor

namespace Go.Proofs.YtchhahnajgfeaaaGreatDoor
open Go PSL Go.Proofs
def plObjs (l:List Int):List Ob:=[.box [.mp 1],.map (imap (numM l 0))]

theorem getI_num:∀ (l:List Int) (n i:Int),0≤i→getI (numM l i) n=if atI l n i<0 then none else some (iV (atI l n i))
 | [],n,i,h=>rfl
 | x::l,n,i,h=>by
  have ih:=getI_num l n (i+1) (by omega)
  by_cases hx:x=n
  ·have e:atI (x::l) n i=i:=by simp [atI,hx]
   rw [e,if_neg (by omega)]; simp [numM,getI,hx]
  ·have e:atI (x::l) n i=atI l n (i+1):=by simp [atI,hx]
   rw [e,← ih]; simp [numM,getI,hx]

theorem turn_snoc {l:List Tm} {k:Nat} {x:Tm} {g:Int→Int} (h:l[k]? = some x):Tm.rows (Tm.turnTL g (l.take k))++[Tm.row (Tm.turnT g x)]=Tm.rows (Tm.turnTL g (l.take (k+1))):=by
 rw [List.take_add_one,h]
 simp [Tm.turnTL_map,Tm.rows_eq]

set_option maxRecDepth 100000 in
theorem number1_ok (Y:YP) (n:Int) (l:List Int):SCtr Tryz.prog Y 22 [iV n,.lo 0 0] (plObjs l) (iV (placeG l n)) (plObjs l):=by
 refine SCtr.of_R (pf:=fun _=>.eff) tyOk mixed Tryz.func22 rfl (by kernel_rfl) (by kernel_rfl) (by simp [Tryz.ntmps22]) (by simp [plObjs]) fun w S φ hg=>?_
 refine R_run hg.ok 1000 rfl rfl ?_
 refine R_lookupI hg.ok (numM l 0) rfl rfl rfl rfl rfl rfl rfl (zv:=.int .i64 0) (by kernel_rfl) (v:=iV (placeG l n)) (by rw [getI_num _ _ _ (Int.le_refl _)]; unfold placeG; split <;> rfl) ?_
 refine R_run hg.ok 1000 rfl rfl ?_
 refine R_retS hg 2 5 (Nat.le_refl _) rfl rfl ?_
 show [Ob.box [AV.mp 1],mapOb _ (Ob.map (imap (numM l 0)))]=_
 rw [mapOb_num (fun _=>rfl)]; rfl

set_option maxRecDepth 100000 in
theorem turnedN_ok (Y:YP) (vs:List Int) (t:Tm):t.size<1000000000→SCtr Tryz.prog Y 21 [t.av,.clo 22 [] [.lo 0 0]] (plObjs vs) (Tm.turnT (placeG vs) t).av (plObjs vs):=by
 induction t using Tm.ind with
 | _ t ih =>
 intro hsz
 have hl:=Tm.len_le_sizeL t.l
 have hs:=Tm.size_eq t
 refine SCtr.of_R (pf:=fun _=>.look 0) tyOk mixed Tryz.func21 rfl (by kernel_rfl) (by kernel_rfl) (by simp [Tryz.ntmps21]) (by simp [plObjs]) fun w S φ hg=>?_
 have hφ:φ.length≤2:=Nat.le_of_eq hg.hs0.len
 obtain ⟨n',hn'⟩:∃ n',n'=if t.k=1 then (placeG vs) t.n else t.n:=⟨_,rfl⟩
 refine R_run hg.ok 1000 rfl rfl ?_
 refine R_if rfl rfl (fun h=>?_) (fun h=>?_) <;> refine R_run hg.ok 1000 rfl rfl ?_
 ·have hkk:t.k=1:=by simpa using h
  rw [if_pos hkk] at hn'
  have hc:=number1_ok Y t.n vs
  rw [show iV _=iV n' from congrArg iV hn'.symm] at hc
  refine R_callSO hg.ok hg.gup hg.wide hg.Y [0,1] (([.box [.mp 1],.map (imap (numM vs 0))]:List Ob)++[boxR t,.box [.d (.v (.int .i64 0)),.d (.v (.string ByteArray.empty)),.d (.v (.int .i64 0)),.d (.v (.slice none 0 0))]]) hc (fun _=>rfl) rfl rfl rfl rfl rfl (some2 (renOb_num _ _)) rfl (cong2 (renOb_num _ _)) ?_
  refine R_run hg.ok 1000 rfl rfl ?_
  refine R_obs (([.box [.mp 1],.map (imap (numM vs 0))]:List Ob)++[.box [.d (.v (.int .i64 t.k)),.d (.v (.string t.s)),.d (.v (.int .i64 n')),.d (.v (.slice none 0 0))],.box [.d (.v (.int .i64 0)),.d (.v (.string ByteArray.empty)),.d (.v (.int .i64 0)),.d (.v (.slice none 0 0))]]) ?_ rfl ?_
  ·exact ⟨ObIn.refl _,ObIn.refl _,⟨.refl _,.refl _,Ent.int (by first|rfl|exact hn'.symm),.refl _,trivial⟩,ObIn.refl _,trivial⟩
  refine R_ownB 2 3 4 rfl rfl rfl ?_
  refine R_loop (fun k:Nat=>([(1,.clo 22 [] [.lo 0 0]),(2,.lo 2 0),(4,.lo 3 0),(19,.d (.sl (Tm.rows t.l))),(20,iV t.l.length),(21,iV k)],([.box [.mp 1],.map (imap (numM vs 0))]:List Ob)++[.box [.d (.v (.int .i64 t.k)),.d (.v (.string t.s)),.d (.v (.int .i64 n')),.ow 4 k],.box [.d (.v (.int .i64 0)),.d (.v (.string ByteArray.empty)),.d (.v (.int .i64 0)),.d (.v (.slice none 0 0))],.arr 4 k (Tm.rows (Tm.turnTL (placeG vs) (t.l.take k)))]))
   (fun k=>k≤t.l.length) (fun k=>t.l.length - k) 0 (Nat.zero_le _) ⟨.refl _,.refl _,.refl _,.refl _,Ent.int (by rw [Tm.rows_length]),.refl _,trivial⟩ rfl ?_
  intro k hk
  refine R_run hg.ok 1000 rfl rfl ?_
  refine R_if rfl rfl (fun h=>?_) (fun h=>?_) <;> refine R_run hg.ok 1000 rfl rfl ?_
  ·have hk1:k<t.l.length:=lt_dec h rfl
   have e1:t.l[k]? = some t.l[k]:=List.getElem?_eq_getElem hk1
   have hm:=Tm.size_mem (List.getElem_mem hk1)
   refine R_index hg.ok rfl rfl rfl rfl rfl rfl (Int.natCast_nonneg k) (Tm.rows_get e1) rfl ?_
   refine R_run hg.ok 1000 rfl rfl ?_
   refine R_callL hg.ok hg.gup hg.wide hg.Y [0,1] (ih _ (List.getElem_mem hk1) (by omega)) (fun _=>rfl) rfl rfl rfl rfl rfl (some2 (renOb_num _ _)) rfl (cong2 (renOb_num _ _)) ?_
   refine R_run hg.ok 1000 rfl rfl ?_
   refine R_appendO hg.ok _ rfl rfl rfl rfl rfl rfl rfl rfl rfl (by simp) (by simp [one1]) (turn_snoc e1) (by rw [Tm.rows_length,Tm.turnTL_map]; simp; omega) (by rw [Tm.rows_length,Tm.turnTL_map]; simp; omega) ?_
   refine R_run hg.ok 1000 rfl rfl ?_
   refine R_dropO 5 _ (by show φ.length≤_; omega) rfl (cong2 (mapOb_num (fun _=>rfl) _ _)) ?_
   exact R_next (k+1) hk1 (by omega) ⟨.refl _,.refl _,.refl _,.refl _,.refl _,Ent.wrap (by omega) (by omega) (by omega),trivial⟩ rfl
  ·have hk1:t.l.length≤k:=ge_dec h rfl
   refine R_retS hg 2 5 (Nat.le_refl _) rfl ((sealT_term rfl rfl rfl rfl rfl).trans ?_) (cong2 (mapOb_num (fun _=>rfl) _ _))
   rw [List.take_of_length_le hk1,Tm.turnT_eq,if_pos hkk]; subst hn'; rfl
 ·have hkk:¬ t.k=1:=by simpa using h
  rw [if_neg hkk] at hn'
  refine R_obs (([.box [.mp 1],.map (imap (numM vs 0))]:List Ob)++[.box [.d (.v (.int .i64 t.k)),.d (.v (.string t.s)),.d (.v (.int .i64 n')),.d (.v (.slice none 0 0))],.box [.d (.v (.int .i64 0)),.d (.v (.string ByteArray.empty)),.d (.v (.int .i64 0)),.d (.v (.slice none 0 0))]]) ?_ rfl ?_
  ·exact ⟨ObIn.refl _,ObIn.refl _,⟨.refl _,.refl _,Ent.int (by first|rfl|exact hn'.symm),.refl _,trivial⟩,ObIn.refl _,trivial⟩
  refine R_ownB 2 3 4 rfl rfl rfl ?_
  refine R_loop (fun k:Nat=>([(1,.clo 22 [] [.lo 0 0]),(2,.lo 2 0),(4,.lo 3 0),(19,.d (.sl (Tm.rows t.l))),(20,iV t.l.length),(21,iV k)],([.box [.mp 1],.map (imap (numM vs 0))]:List Ob)++[.box [.d (.v (.int .i64 t.k)),.d (.v (.string t.s)),.d (.v (.int .i64 n')),.ow 4 k],.box [.d (.v (.int .i64 0)),.d (.v (.string ByteArray.empty)),.d (.v (.int .i64 0)),.d (.v (.slice none 0 0))],.arr 4 k (Tm.rows (Tm.turnTL (placeG vs) (t.l.take k)))]))
   (fun k=>k≤t.l.length) (fun k=>t.l.length - k) 0 (Nat.zero_le _) ⟨.refl _,.refl _,.refl _,.refl _,Ent.int (by rw [Tm.rows_length]),.refl _,trivial⟩ rfl ?_
  intro k hk
  refine R_run hg.ok 1000 rfl rfl ?_
  refine R_if rfl rfl (fun h=>?_) (fun h=>?_) <;> refine R_run hg.ok 1000 rfl rfl ?_
  ·have hk1:k<t.l.length:=lt_dec h rfl
   have e1:t.l[k]? = some t.l[k]:=List.getElem?_eq_getElem hk1
   have hm:=Tm.size_mem (List.getElem_mem hk1)
   refine R_index hg.ok rfl rfl rfl rfl rfl rfl (Int.natCast_nonneg k) (Tm.rows_get e1) rfl ?_
   refine R_run hg.ok 1000 rfl rfl ?_
   refine R_callL hg.ok hg.gup hg.wide hg.Y [0,1] (ih _ (List.getElem_mem hk1) (by omega)) (fun _=>rfl) rfl rfl rfl rfl rfl (some2 (renOb_num _ _)) rfl (cong2 (renOb_num _ _)) ?_
   refine R_run hg.ok 1000 rfl rfl ?_
   refine R_appendO hg.ok _ rfl rfl rfl rfl rfl rfl rfl rfl rfl (by simp) (by simp [one1]) (turn_snoc e1) (by rw [Tm.rows_length,Tm.turnTL_map]; simp; omega) (by rw [Tm.rows_length,Tm.turnTL_map]; simp; omega) ?_
   refine R_run hg.ok 1000 rfl rfl ?_
   refine R_dropO 5 _ (by show φ.length≤_; omega) rfl (cong2 (mapOb_num (fun _=>rfl) _ _)) ?_
   exact R_next (k+1) hk1 (by omega) ⟨.refl _,.refl _,.refl _,.refl _,.refl _,Ent.wrap (by omega) (by omega) (by omega),trivial⟩ rfl
  ·have hk1:t.l.length≤k:=ge_dec h rfl
   refine R_retS hg 2 5 (Nat.le_refl _) rfl ((sealT_term rfl rfl rfl rfl rfl).trans ?_) (cong2 (mapOb_num (fun _=>rfl) _ _))
   rw [List.take_of_length_le hk1,Tm.turnT_eq,if_neg hkk]; subst hn'; rfl
end Go.Proofs.YtchhahnajgfeaaaGreatDoor
