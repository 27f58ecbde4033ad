import Derived.Test.YtchhahnajgfeaaaDoorPslB
import Derived.RangeFuncNested
import Derived.MapKept
import Derived.Laws.Strings
import Derived.ProofKit
import Derived.SizedLaws
import Derived.ChangeSame
import Derived.JoinedOf
import Derived.Laws.LoneSync
import Derived.Laws.BytesString
import Derived.Test.YtchhahnajgfeaaaDoorSTy
import Derived.Test.YtchhahnajgfeaaaDoorRows
import Derived.Handed
import Derived.HandedShaped
import Derived.Shelf.Vars
import Derived.OpenShut
import Derived.Lay
import Derived.LaidMore
import Derived.LaidHandle
import Derived.MakeChecks
import Derived.ChangeArms
import Derived.Lib.ItoaNum
namespace PSL
open Go Go.RowKit

def rn (is:List Nat) (base i:Nat):Nat :=
 match nth is i with
 | some j=>j
 | none=>Nat.add base (Nat.sub i (len is))

mutual
def renA (f:Nat→Nat):AV→AV
 | .lo i o=>.lo (f i) o
 | .el i s r j=>.el (f i) s r j
 | .vw i s r=>.vw (f i) s r
 | .ow i s=>.ow (f i) s
 | .mp i=>.mp (f i)
 | .yl i=>.yl (f i)
 | .agg l=>.agg (renL f l)
 | .tup l=>.tup (renL f l)
 | .clo g a c=>.clo g (renL f a) (renL f c)
 | .any=>.any
 | .tt=>.tt
 | .ff=>.ff
 | .d x=>.d x
 | .fs r=>.fs r
def renL (f:Nat→Nat):List AV→List AV
 | []=>[]
 | x::l=>renA f x::renL f l
end

def renOb (f:Nat→Nat):Ob→Ob
 | .box l=>.box (renL f l)
 | .arr sz s rows=>.arr sz s rows
 | .map es=>.map (es.map fun x=>(x.1,renA f x.2))
 | .yld pre=>.yld pre
 | .mat hs rows=>.mat hs rows
 | .itr s pos=>.itr s pos
 | .dead=>.dead
 | .tbox T l=>.tbox T (renL f l)
 | .byt e s bs=>.byt e s bs

theorem renL_map (f:Nat→Nat):∀ (l:List AV),renL f l=l.map (renA f)
 | []=>by simp [renL]
 | x::l=>by simp [renL,renL_map f l]

mutual
theorem RV.ren {S S':Nat→Prop} {w:World} {φ ψ:List Phy} {f:Nat→Nat} (hk:Keep S w S' w) (h:∀ i p,φ[i]? = some p→ψ[f i]? = some p):∀ {x:AV} {v:Value},RV S w φ x v→RV S' w ψ (renA f x) v
 | .any,_,_=>by simp [RV,renA]
 | .tt,_,h=>by simpa [RV,renA] using h
 | .ff,_,h=>by simpa [RV,renA] using h
 | .d x,v,h=>by simp only [RV,renA] at h ⊢; exact h.mono hk
 | .fs rows,v,h=>by simp only [RV,renA] at h ⊢; exact ⟨h.1.mono hk,h.2⟩
 | .agg l,v,hv=>by
  simp only [RV,renA] at hv ⊢
  obtain ⟨cs,h1,h2⟩:=hv
  exact ⟨cs,h1,RVs.ren hk h h2⟩
 | .lo i off,v,hv=>by
  simp only [RV,renA] at hv ⊢
  obtain ⟨b,h1,h2⟩:=hv
  exact ⟨b,h _ _ h1,h2⟩
 | .el i t r j,v,hv=>by
  simp only [RV,renA] at hv ⊢
  obtain ⟨h0,p,h1,h2⟩:=hv
  exact ⟨h0,p,h _ _ h1,h2⟩
 | .vw i t r,v,hv=>by
  simp only [RV,renA] at hv ⊢
  obtain ⟨h0,p,h1,h2⟩:=hv
  exact ⟨h0,p,h _ _ h1,h2⟩
 | .ow i t,v,hv=>by
  simp only [RV,renA] at hv ⊢
  obtain ⟨h0,p,h1,h2⟩:=hv
  exact ⟨h0,p,h _ _ h1,h2⟩
 | .mp i,v,hv=>by
  simp only [RV,renA] at hv ⊢
  obtain ⟨b,h1,h2⟩:=hv
  exact ⟨b,h _ _ h1,h2⟩
 | .yl i,v,hv=>by
  simp only [RV,renA] at hv ⊢
  obtain ⟨l,I,B,h1,h2⟩:=hv
  exact ⟨l,I,B,h _ _ h1,h2⟩
 | .tup l,v,hv=>by
  simp only [RV,renA] at hv ⊢
  obtain ⟨cs,h1,h2⟩:=hv
  exact ⟨cs,h1,RVs.ren hk h h2⟩
 | .clo g a c,v,hv=>by
  simp only [RV,renA] at hv ⊢
  obtain ⟨va,vc,h1,h2,h3⟩:=hv
  exact ⟨va,vc,h1,RVs.ren hk h h2,RVs.ren hk h h3⟩
theorem RVs.ren {S S':Nat→Prop} {w:World} {φ ψ:List Phy} {f:Nat→Nat} (hk:Keep S w S' w) (h:∀ i p,φ[i]? = some p→ψ[f i]? = some p):∀ {l:List AV} {vs:List Value},RVs S w φ l vs→RVs S' w ψ (renL f l) vs
 | [],[],_=>by simp [RVs,renL]
 | [],_::_,h=>by simp [RVs] at h
 | _::_,[],h=>by simp [RVs] at h
 | a::l,v::vs,hv=>by
  simp only [RVs,renL] at hv ⊢
  exact ⟨RV.ren hk h hv.1,RVs.ren hk h hv.2⟩
end

mutual
theorem RV.unren {S S':Nat→Prop} {w:World} {φ ψ:List Phy} {f:Nat→Nat} (hk:Keep S w S' w) (h:∀ i p,φ[f i]? = some p→ψ[i]? = some p):∀ {x:AV} {v:Value},RV S w φ (renA f x) v→RV S' w ψ x v
 | .any,_,_=>by simp [RV]
 | .tt,_,h=>by simpa [RV,renA] using h
 | .ff,_,h=>by simpa [RV,renA] using h
 | .d x,v,h=>by simp only [RV,renA] at h ⊢; exact h.mono hk
 | .fs rows,v,h=>by simp only [RV,renA] at h ⊢; exact ⟨h.1.mono hk,h.2⟩
 | .agg l,v,hv=>by
  simp only [RV,renA] at hv ⊢
  obtain ⟨cs,h1,h2⟩:=hv
  exact ⟨cs,h1,RVs.unren hk h h2⟩
 | .lo i off,v,hv=>by
  simp only [RV,renA] at hv ⊢
  obtain ⟨b,h1,h2⟩:=hv
  exact ⟨b,h _ _ h1,h2⟩
 | .el i t r j,v,hv=>by
  simp only [RV,renA] at hv ⊢
  obtain ⟨h0,p,h1,h2⟩:=hv
  exact ⟨h0,p,h _ _ h1,h2⟩
 | .vw i t r,v,hv=>by
  simp only [RV,renA] at hv ⊢
  obtain ⟨h0,p,h1,h2⟩:=hv
  exact ⟨h0,p,h _ _ h1,h2⟩
 | .ow i t,v,hv=>by
  simp only [RV,renA] at hv ⊢
  obtain ⟨h0,p,h1,h2⟩:=hv
  exact ⟨h0,p,h _ _ h1,h2⟩
 | .mp i,v,hv=>by
  simp only [RV,renA] at hv ⊢
  obtain ⟨b,h1,h2⟩:=hv
  exact ⟨b,h _ _ h1,h2⟩
 | .yl i,v,hv=>by
  simp only [RV,renA] at hv ⊢
  obtain ⟨l,I,B,h1,h2⟩:=hv
  exact ⟨l,I,B,h _ _ h1,h2⟩
 | .tup l,v,hv=>by
  simp only [RV,renA] at hv ⊢
  obtain ⟨cs,h1,h2⟩:=hv
  exact ⟨cs,h1,RVs.unren hk h h2⟩
 | .clo g a c,v,hv=>by
  simp only [RV,renA] at hv ⊢
  obtain ⟨va,vc,h1,h2,h3⟩:=hv
  exact ⟨va,vc,h1,RVs.unren hk h h2,RVs.unren hk h h3⟩
theorem RVs.unren {S S':Nat→Prop} {w:World} {φ ψ:List Phy} {f:Nat→Nat} (hk:Keep S w S' w) (h:∀ i p,φ[f i]? = some p→ψ[i]? = some p):∀ {l:List AV} {vs:List Value},RVs S w φ (renL f l) vs→RVs S' w ψ l vs
 | [],[],_=>by simp [RVs]
 | [],_::_,h=>by simp [RVs,renL] at h
 | _::_,[],h=>by simp [RVs,renL] at h
 | a::l,v::vs,hv=>by
  simp only [RVs,renL] at hv ⊢
  exact ⟨RV.unren hk h hv.1,RVs.unren hk h hv.2⟩
end

theorem ObOk.ren {S S':Nat→Prop} {w:World} {φ ψ:List Phy} {f:Nat→Nat} (hk:Keep S w S' w) (h:∀ i p,φ[i]? = some p→ψ[f i]? = some p) {ph:Phy} {ob:Ob} (ho:ObOk S w φ ph ob):ObOk S' w ψ ph (renOb f ob):=by
 cases ph <;> cases ob <;> simp only [ObOk,renOb] at ho ⊢
 ·obtain ⟨cs,T,h1,h2⟩:=ho
  exact ⟨cs,T,h1,h2.ren hk h⟩
 ·obtain ⟨ents,clk,h1,h2,h3⟩:=ho
  refine ⟨ents,clk,h1,?_,?_⟩
  ·simpa [List.map_map,Function.comp_def] using h2
  ·have:=h3.ren hk h
   rw [renL_map] at this
   simpa [List.map_map,Function.comp_def] using this
 ·exact ho
 ·obtain ⟨cs,h1,h2⟩:=ho
  exact ⟨cs,h1,h2.ren hk h⟩
 ·obtain ⟨h0,h0',h1,h2⟩:=ho
  refine ⟨h0,h0',h1,?_⟩
  rcases h2 with h2 | ⟨b,o,cap,cs,T,h2,h3,h4,h5,h6,h7,h8⟩
  ·exact .inl h2
  ·refine .inr ⟨b,o,cap,cs,T,h2,h3,h4,h5,h6,h7,fun i r j x hi hj=>?_⟩
   obtain ⟨y,h9,h10⟩:=h8 i r j x hi hj
   exact ⟨y,h9,h10.mono hk⟩
 ·exact ho
 ·exact ⟨ho.1,ho.1 _ _ _ _ _ _ (Nat.le_refl _) (fun _ _=>rfl) hk ho.2⟩
 ·obtain ⟨h0,h0',h1,h2⟩:=ho
  refine ⟨h0,h0',h1,fun i x r hi hr=>?_⟩
  obtain ⟨cs,T,h3,h4,h5,h6,h7⟩:=h2 i x r hi hr
  refine ⟨cs,T,h3,h4,h5,h6,fun j d hd=>?_⟩
  obtain ⟨y,h8,h9⟩:=h7 j d hd
  exact ⟨y,h8,h9.mono hk⟩

theorem ObOk.unren {S S':Nat→Prop} {w:World} {φ ψ:List Phy} {f:Nat→Nat} (hk:Keep S w S' w) (h:∀ i p,φ[f i]? = some p→ψ[i]? = some p) {ph:Phy} {ob:Ob} (ho:ObOk S w φ ph (renOb f ob)):ObOk S' w ψ ph ob:=by
 cases ph <;> cases ob <;> simp only [ObOk,renOb] at ho ⊢
 ·obtain ⟨cs,T,h1,h2⟩:=ho
  exact ⟨cs,T,h1,h2.unren hk h⟩
 ·obtain ⟨ents,clk,h1,h2,h3⟩:=ho
  refine ⟨ents,clk,h1,?_,?_⟩
  ·simpa [List.map_map,Function.comp_def] using h2
  ·rename_i es
   have h4:renL f (es.map (·.2))=(es.map fun x=>(x.1,renA f x.2)).map (·.2):=by rw [renL_map]; simp [List.map_map,Function.comp_def]
   rw [← h4] at h3
   exact h3.unren hk h
 ·exact ho
 ·obtain ⟨cs,h1,h2⟩:=ho
  exact ⟨cs,h1,h2.unren hk h⟩
 ·obtain ⟨h0,h0',h1,h2⟩:=ho
  refine ⟨h0,h0',h1,?_⟩
  rcases h2 with h2 | ⟨b,o,cap,cs,T,h2,h3,h4,h5,h6,h7,h8⟩
  ·exact .inl h2
  ·refine .inr ⟨b,o,cap,cs,T,h2,h3,h4,h5,h6,h7,fun i r j x hi hj=>?_⟩
   obtain ⟨y,h9,h10⟩:=h8 i r j x hi hj
   exact ⟨y,h9,h10.mono hk⟩
 ·exact ho
 ·exact ⟨ho.1,ho.1 _ _ _ _ _ _ (Nat.le_refl _) (fun _ _=>rfl) hk ho.2⟩
 ·obtain ⟨h0,h0',h1,h2⟩:=ho
  refine ⟨h0,h0',h1,fun i x r hi hr=>?_⟩
  obtain ⟨cs,T,h3,h4,h5,h6,h7⟩:=h2 i x r hi hr
  refine ⟨cs,T,h3,h4,h5,h6,fun j d hd=>?_⟩
  obtain ⟨y,h8,h9⟩:=h7 j d hd
  exact ⟨y,h8,h9.mono hk⟩

def putAll {α:Type}:List Nat→List α→List α→List α
 | [],new,l=>l++new
 | j::is,o::new,l=>putAll is new (setN l j o)
 | _::_,[],l=>l

def memN (j:Nat):List Nat→Bool
 | []=>false
 | i::is=>bif Nat.beq i j then true else memN j is

def isOk (n:Nat):List Nat→Bool
 | []=>true
 | i::is=>bif Nat.ble (Nat.succ i) n then (bif memN i is then false else isOk n is) else false

theorem memN_iff {j:Nat}:∀ {is:List Nat},memN j is=true↔j∈is
 | []=>by simp [memN]
 | i::is=>by
  simp only [memN]
  cases h:Nat.beq i j
  ·have:i≠j:=fun e=>by subst e; simp at h
   simp only [cond_false,memN_iff,List.mem_cons]
   exact ⟨.inr,fun h=>h.resolve_left fun e=>this e.symm⟩
  ·have:=natBeq h; subst this; simp

theorem isOk_spec {n:Nat}:∀ {is:List Nat},isOk n is=true→is.Nodup∧∀ i∈is,i<n
 | [],_=>by simp
 | i::is,h=>by
  simp only [isOk] at h
  obtain ⟨h1,h2⟩:=bifT h
  have h1:=Nat.le_of_ble_eq_true h1
  cases hm:memN i is
  ·rw [hm] at h2
   obtain ⟨h3,h4⟩:=isOk_spec h2
   refine ⟨List.nodup_cons.2 ⟨fun hi=>?_,h3⟩,fun j hj=>(List.mem_cons.1 hj).elim (fun e=>by rw [e]; exact h1) (h4 j)⟩
   rw [memN_iff.2 hi] at hm; cases hm
  ·rw [hm] at h2; cases h2

theorem putAll_length {α:Type}:∀ {is:List Nat} {new l:List α},is.length≤new.length→(putAll is new l).length=l.length+(new.length - is.length)
 | [],new,l,_=>by simp [putAll]
 | j::is,[],l,h=>by simp at h
 | j::is,o::new,l,h=>by
  simp only [putAll]
  rw [putAll_length (by simpa using h),setN_eq]; simp

theorem putAll_other {α:Type}:∀ {is:List Nat} {new l:List α} {j:Nat},j ∉ is→j<l.length→(putAll is new l)[j]? = l[j]?
 | [],new,l,j,_,h=>by simp only [putAll]; exact List.getElem?_append_left h
 | i::is,[],l,j,_,_=>rfl
 | i::is,o::new,l,j,hj,h=>by
  simp only [List.mem_cons,not_or] at hj
  simp only [putAll]
  rw [putAll_other hj.2 (by rw [setN_eq]; simpa using h),setN_eq,List.getElem?_set_ne (fun e=>hj.1 e.symm)]

theorem putAll_rn {α:Type}:∀ {is:List Nat} {new l:List α} {i:Nat},is.Nodup→(∀ j∈is,j<l.length)→is.length≤new.length→(putAll is new l)[rn is l.length i]? = new[i]?
 | [],new,l,i,_,_,_=>by simp only [putAll,rn,nth,len,Nat.add_eq,Nat.sub_eq]; rw [List.getElem?_append_right (by omega)]; congr 1; omega
 | j::is,[],l,i,_,_,h=>by simp at h
 | j::is,o::new,l,i,hn,hl,h=>by
  have hn':=List.nodup_cons.1 hn
  have hjl:=hl j (by simp)
  simp only [putAll]
  cases i with
  | zero =>
   have:rn (j::is) l.length 0=j:=rfl
   rw [this,putAll_other hn'.1 (by rw [setN_eq]; simpa using hjl),setN_eq,List.getElem?_set_self hjl]; rfl
  | succ i =>
   have:rn (j::is) l.length (i+1)=rn is (setN l j o).length i:=by
    have e:(setN l j o).length=l.length:=by rw [setN_eq]; simp
    simp only [rn,nth,Nat.beq,cond_false,Nat.pred,len,e]
    cases nth is i with
    | some m=>rfl
    | none=>simp only [Nat.add_eq,Nat.sub_eq]; congr 1; omega
   rw [this,putAll_rn hn'.2 (fun m hm=>by rw [setN_eq]; simpa using hl m (by simp [hm])) (by simpa using h)]
   rfl

theorem putAll_cases {α:Type} {is:List Nat} {new l:List α} (h:is.length≤new.length) {j:Nat} {x:α} (hx:(putAll is new l)[j]? = some x):(j ∉ is∧j<l.length)∨∃ i,j=rn is l.length i:=by
 by_cases hj:j∈is
 ·obtain ⟨i,hi⟩:=List.mem_iff_getElem?.1 hj
  exact .inr ⟨i,by simp only [rn,nth_eq,hi]⟩
 ·by_cases hl:j<l.length
  ·exact .inl ⟨hj,hl⟩
  ·refine .inr ⟨is.length+(j - l.length),?_⟩
   have:nth is (is.length+(j - l.length))=none:=by rw [nth_eq]; exact List.getElem?_eq_none (by omega)
   simp only [rn,this,len_eq,Nat.add_eq,Nat.sub_eq]; omega

def pickN {α:Type} (l:List α):List Nat→Option (List α)
 | []=>some []
 | i::is=>match nth l i with
  | some x=>match pickN l is with
   | some r=>some (x::r)
   | none=>none
  | none=>none

theorem pickN_len {α:Type} {l:List α}:∀ {is:List Nat} {r:List α},pickN l is=some r→r.length=is.length
 | [],r,h=>by simp [pickN] at h; subst h; rfl
 | i::is,r,h=>by
  simp only [pickN] at h
  split at h
  case h_2=>cases h
  split at h
  case h_2=>cases h
  rename_i r' hr'
  cases h; simp [pickN_len hr']

theorem pickN_get {α:Type} {l:List α}:∀ {is:List Nat} {r:List α} {i:Nat} {x:α},pickN l is=some r→r[i]? = some x→∃ j,is[i]? = some j∧l[j]? = some x
 | [],r,i,x,h,hx=>by simp [pickN] at h; subst h; simp at hx
 | k::is,r,i,x,h,hx=>by
  simp only [pickN] at h
  split at h
  case h_2=>cases h
  rename_i y hy
  split at h
  case h_2=>cases h
  rename_i r' hr'
  cases h
  cases i with
  | zero=>simp at hx; subst hx; rw [nth_eq] at hy; exact ⟨k,rfl,hy⟩
  | succ i=>simp at hx; obtain ⟨j,h1,h2⟩:=pickN_get hr' hx; exact ⟨j,by simpa using h1,h2⟩

theorem pickN_ex {α:Type} {l:List α}:∀ {is:List Nat},(∀ i∈is,i<l.length)→∃ r,pickN l is=some r
 | [],_=>⟨[],rfl⟩
 | i::is,h=>by
  obtain ⟨r,hr⟩:=pickN_ex (is:=is) (fun j hj=>h j (by simp [hj]))
  have:nth l i=some (l[i]'(h i (by simp))):=by rw [nth_eq]; exact List.getElem?_eq_getElem _
  exact ⟨l[i]'(h i (by simp))::r,by simp only [pickN,this,hr]⟩

theorem pickN_of {α:Type} {l:List α}:∀ {is:List Nat} {r:List α} {i j:Nat},pickN l is=some r→is[i]? = some j→r[i]? = l[j]?
 | [],r,i,j,h,hx=>by simp at hx
 | k::is,r,i,j,h,hx=>by
  simp only [pickN] at h
  split at h
  case h_2=>cases h
  rename_i y hy
  split at h
  case h_2=>cases h
  rename_i r' hr'
  cases h
  cases i with
  | zero=>simp at hx; subst hx; rw [nth_eq] at hy; simp [hy]
  | succ i=>simp at hx; simpa using pickN_of hr' hx
end PSL
namespace PSL
open Go Go.RowKit

def YStep (P:Program) (F:Fence) (d:Nat) (Y:YP) (l:Nat) (I:Nat→(Nat→Prop)→(Nat→Prop)→World→Prop) (S:Nat→Prop):Prop :=
 ∀ (n:Nat) (B:Nat→Prop) (w:World) (R:Nat→Prop) (x:List AV) (vals:List Value),I n B R w→(∀ b,R b→S b∧¬ B b)→AmbOk P R w→(∀ b,w.heap.size≤b→R b)→Y.ys[n]? = some x→(n=0∨Y.go n=true)→RVs R w [] x vals→pureL x=true →
  YieldAt F d P l vals.toArray w fun e w'=>e=.returned (.bool (Y.go (n+1)))∧∃ B',I (n+1) B' (fun b=>R b∧¬ B' b) w'∧w.heap.size≤w'.heap.size∧w'.os=w.os∧w'.tape=w.tape∧w'.output=w.output ∧
   (∀ b,b<w.heap.size→¬ B b→w'.heap[b]? = w.heap[b]?)∧(∀ b,B' b→B b∨(w.heap.size≤b∧b<w'.heap.size))

theorem YStep.sub {P:Program} {F:Fence} {d:Nat} {Y:YP} {l:Nat} {I:Nat→(Nat→Prop)→(Nat→Prop)→World→Prop} {S S':Nat→Prop} (h:YStep P F d Y l I S) (hs:∀ b,S' b→S b):YStep P F d Y l I S' :=
 fun n B w R x vals h1 h2 ha h3 h4 h5 h6 h7=>h n B w R x vals h1 (fun b hb=>⟨hs b (h2 b hb).1,(h2 b hb).2⟩) ha h3 h4 h5 h6 h7

structure SCtr (P:Program) (Y:YP) (f:Nat) (args:List AV) (objs:List Ob) (r:AV) (objs1:List Ob):Prop where
 call:Callable P f
 run:∀ (S:Nat→Prop) (φ:List Phy) (w:World) (vals:List Value),AmbOk P (SS S φ) w→HS S φ objs w→(∀ b,bls φ b→S b)→(∀ (i l:Nat) (I:Nat→(Nat→Prop)→(Nat→Prop)→World→Prop) (B:Nat→Prop),φ[i]? = some (Phy.ext l I B)→YStep P Fence.wide 0 Y l I S)→RVs (SS S φ) w φ args vals →
  Calls P f vals.toArray w fun e w'=>∃ v φ',e=.returned v∧RV (SS S φ') w' φ' r v∧Stp S φ w φ' objs1 w'
 len:objs.length≤objs1.length
section
variable {g:G} {pf:Nat→Cls} {ops:Array Oper} {Fin:Exit→Act→World→Prop}

theorem bls_pick {φ φ0:List Phy} {is:List Nat} (h:pickN φ is=some φ0) {b:Nat} (hb:bls φ0 b):∃ i∈is,∃ p,φ[i]? = some p∧p.bl b:=by
 obtain ⟨i,p,h1,h2⟩:=hb
 obtain ⟨j,h3,h4⟩:=pickN_get h h1
 exact ⟨j,List.mem_of_getElem? h3,p,h4,h2⟩

theorem callS_core {φ:List Phy} {w:World} (hA:AmbOk g.P (SS g.S0 φ) w) (hu:GUp g) (hY:∀ (i l:Nat) (I:Nat→(Nat→Prop)→(Nat→Prop)→World→Prop) (B:Nat→Prop),g.φ0[i]? = some (Phy.ext l I B)→YStep g.P Fence.wide 0 g.Y l I g.S0) (is:List Nat) {Y:YP} {axs:List AV} {objs0 objs1:List Ob} {r:AV} (hcl:objs0.length≤objs1.length) (hcc:(∃ (i l:Nat) (I:Nat→(Nat→Prop)→(Nat→Prop)→World→Prop) (B:Nat→Prop),g.φ0[i]? = some (Phy.ext l I B))→Y=g.Y) {o₁:List Ob} {vals:List Value}
  (hok:isOk (len o₁) is=true) (hpick:pickN o₁ is=some (objs0.map (renOb (rn is (len o₁))))) (h1:HS g.S0 φ o₁ w) (h2:∀ b,bls φ b→g.w0.heap.size≤b∨g.X0 b) (h6:Fr0 g φ w) (hall:RVs (SS g.S0 φ) w φ (renL (rn is (len o₁)) axs) vals) :
  ∃ (S:Nat→Prop) (φ0:List Phy),AmbOk g.P (SS S φ0) w∧HS S φ0 objs0 w∧(∀ b,bls φ0 b→S b)∧(∀ (i l:Nat) (I:Nat→(Nat→Prop)→(Nat→Prop)→World→Prop) (B:Nat→Prop),φ0[i]? = some (Phy.ext l I B)→YStep g.P Fence.wide 0 Y l I S)∧RVs (SS S φ0) w φ0 axs vals ∧
   ∀ (w':World) (φ1:List Phy) (v:Value),RV (SS S φ1) w' φ1 r v→Stp S φ0 w φ1 objs1 w'→∃ φ',Stp g.S0 φ w φ' (putAll is (objs1.map (renOb (rn is (len o₁)))) o₁) w'∧RV (SS g.S0 φ') w' φ' (renA (rn is (len o₁)) r) v:=by
 have hbl0:∀ b,bls φ b→g.S0 b:=fun b hb=>(h2 b hb).elim (hu.up b) (hu.x b)
 obtain ⟨hnd,hlt⟩:=isOk_spec hok
 rw [len_eq,← h1.len] at hlt
 obtain ⟨φ0,hφ0⟩:=pickN_ex hlt
 have hl0:φ0.length=objs0.length:=by rw [pickN_len hφ0,← pickN_len hpick]; simp
 have hisl:is.length=φ0.length:=(pickN_len hφ0).symm
 -- numbers here,numbers there
 have hback:∀ i p,φ[rn is (len o₁) i]? = some p→φ0[i]? = some p:=fun i p hp=>by
  simp only [rn,nth_eq] at hp
  cases hi:is[i]? with
  | some j=>rw [hi] at hp; simp only at hp; rw [pickN_of hφ0 hi]; exact hp
  | none =>
   rw [hi] at hp; simp only [Nat.add_eq] at hp
   have:=(List.getElem?_eq_some_iff.1 hp).1
   rw [h1.len,← len_eq] at this; omega
 have hsub0:∀ b,bls φ0 b→bls φ b:=fun b hb=>by
  obtain ⟨i,_,p,h7,h8⟩:=bls_pick hφ0 hb
  exact ⟨i,p,h7,h8⟩
 have hK0:Keep (SS g.S0 φ) w (SS (fun b=>SS g.S0 φ b∨bls φ0 b) φ0) w:=fun b hb _=>⟨⟨.inl hb,fun hc=>hb.2 (hsub0 b hc)⟩,rfl⟩
 have hHS0:HS (fun b=>SS g.S0 φ b∨bls φ0 b) φ0 objs0 w:=by
  refine ⟨hl0,fun i ph ob hi ho=>?_,fun i j p q b hi hj hp hq=>?_,fun b hb=>h1.lt b (hsub0 b hb),fun b hb=>.inl ⟨h1.up b hb,fun hc=>by have:=h1.lt b hc; omega⟩⟩
  ·obtain ⟨j,hj,hφj⟩:=pickN_get hφ0 hi
   obtain ⟨j',hj',hoj⟩:=pickN_get hpick (i:=i) (x:=renOb (rn is (len o₁)) ob) (by rw [List.getElem?_map,ho]; rfl)
   rw [hj] at hj'; cases hj'
   exact (h1.ok j ph _ hφj hoj).unren hK0 hback
  ·obtain ⟨i',hi',hφi⟩:=pickN_get hφ0 hi
   obtain ⟨j',hj',hφj⟩:=pickN_get hφ0 hj
   have:=h1.dist i' j' p q b hφi hφj hp hq
   subst this
   have h7:=(List.getElem?_inj (List.getElem?_eq_some_iff.1 hi').1 hnd).1 (hi'.trans hj'.symm)
   exact h7
 have hext:∀ (i l:Nat) (I:Nat→(Nat→Prop)→(Nat→Prop)→World→Prop) (B:Nat→Prop),φ0[i]? = some (Phy.ext l I B)→YStep g.P Fence.wide 0 Y l I (fun b=>SS g.S0 φ b∨bls φ0 b):=fun i l I B hi=>by
  obtain ⟨j,_,hφj⟩:=pickN_get hφ0 hi
  obtain ⟨B0,h7⟩:=h6.gen j l I B hφj
  rw [hcc ⟨j,l,I,B0,h7⟩]
  exact (hY j l I B0 h7).sub fun b hb=>hb.elim (fun h=>h.1) (fun h=>hbl0 b (hsub0 b h))
 refine ⟨_,φ0,hA.keep hK0,hHS0,fun b hb=>.inr hb,hext,hall.unren hK0 hback,fun w' φ1 v hv hst=>?_⟩
 have hl1:φ1.length=objs1.length:=hst.hs.len
 have hle1:is.length≤φ1.length:=by rw [hl1,hisl,hl0]; exact hcl
 have hlen:len o₁=φ.length:=by rw [len_eq,h1.len]
 rw [hlen] at hback ⊢
 -- where all lies now
 have hrn:∀ i,(putAll is φ1 φ)[rn is φ.length i]? = φ1[i]? := fun i=>putAll_rn hnd hlt hle1
 have hcases:∀ {j:Nat} {p:Phy},(putAll is φ1 φ)[j]? = some p→(j ∉ is∧φ[j]? = some p)∨∃ i,j=rn is φ.length i∧φ1[i]? = some p:=fun {j p} hj=>by
  rcases putAll_cases hle1 hj with ⟨h7,h8⟩ | ⟨i,rfl⟩
  ·rw [putAll_other h7 h8] at hj; exact .inl ⟨h7,hj⟩
  ·rw [hrn] at hj; exact .inr ⟨i,rfl,hj⟩
 have hblsE:∀ {b:Nat},bls (putAll is φ1 φ) b→(∃ j p,j ∉ is∧φ[j]? = some p∧p.bl b)∨bls φ1 b:=fun {b} hb=>by
  obtain ⟨j,p,h7,h8⟩:=hb
  rcases hcases h7 with ⟨h9,h10⟩ | ⟨i,_,h10⟩
  ·exact .inl ⟨j,p,h9,h10,h8⟩
  ·exact .inr ⟨i,p,h10,h8⟩
 have hout:∀ {j:Nat} {p:Phy} {b:Nat},j ∉ is→φ[j]? = some p→p.bl b→¬ bls φ0 b:=fun {j p b} h7 h8 h9 h10=>by
  obtain ⟨i,hi,q,h11,h12⟩:=bls_pick hφ0 h10
  have:=h1.dist i j q p b h11 h8 h12 h9
  subst this; exact h7 hi
 have hsame:∀ {j:Nat} {p:Phy} {b:Nat},j ∉ is→φ[j]? = some p→p.bl b→w'.heap[b]? = w.heap[b]? := fun {j p b} h7 h8 h9 =>
  hst.fr b (h1.lt b ⟨j,p,h8,h9⟩) (hout h7 h8 h9)
 have hK:Keep (SS g.S0 φ) w (SS g.S0 (putAll is φ1 φ)) w':=.of fun b hb hbs=>by
  have hn0:¬ bls φ0 b:=fun hc=>hb.2 (hsub0 b hc)
  refine ⟨⟨hb.1,fun hc=>?_⟩,hst.fr b hbs hn0⟩
  rcases hblsE hc with ⟨j,p,h7,h8,h9⟩ | h7
  ·exact hb.2 ⟨j,p,h8,h9⟩
  ·rcases hst.own b h7 with h8 | h8
   ·exact hn0 h8
   ·omega
 have hK1:Keep (SS (fun b=>SS g.S0 φ b∨bls φ0 b) φ1) w' (SS g.S0 (putAll is φ1 φ)) w':=fun b hb _=>by
  refine ⟨⟨hb.1.elim (fun h=>h.1) (fun h=>hbl0 b (hsub0 b h)),fun hc=>?_⟩,rfl⟩
  rcases hblsE hc with ⟨j,p,h7,h8,h9⟩ | h7
  ·rcases hb.1 with h10 | h10
   ·exact h10.2 ⟨j,p,h8,h9⟩
   ·exact hout h7 h8 h9 h10
  ·exact hb.2 h7
 have hle:PhsLe φ (putAll is φ1 φ):=fun j p hj=>by
  by_cases hji:j∈is
  ·obtain ⟨i,hi⟩:=List.mem_iff_getElem?.1 hji
   obtain ⟨p',h7,h8⟩:=hst.le i p (by rw [pickN_of hφ0 hi]; exact hj)
   have:j=rn is φ.length i:=by simp only [rn,nth_eq,hi]
   exact ⟨p',by rw [this,hrn]; exact h7,h8⟩
  ·exact ⟨p,by rw [putAll_other hji (List.getElem?_eq_some_iff.1 hj).1]; exact hj,.inl rfl⟩
 have hfwd:∀ i p,φ1[i]? = some p→(putAll is φ1 φ)[rn is φ.length i]? = some p:=fun i p hp=>by rw [hrn]; exact hp
 have hlo:o₁.length=φ.length:=h1.len.symm
 have hcaseO:∀ {j:Nat} {ob:Ob},(putAll is (objs1.map (renOb (rn is φ.length))) o₁)[j]? = some ob→(j ∉ is∧o₁[j]? = some ob)∨∃ i,j=rn is φ.length i∧∃ ob1,objs1[i]? = some ob1∧ob=renOb (rn is φ.length) ob1:=fun {j ob} hj=>by
  have hlO:is.length≤(objs1.map (renOb (rn is φ.length))).length:=by rw [List.length_map,← hl1]; exact hle1
  rcases putAll_cases hlO hj with ⟨h7,h8⟩ | ⟨i,rfl⟩
  ·rw [putAll_other h7 h8] at hj; exact .inl ⟨h7,hj⟩
  ·rw [putAll_rn hnd (by rw [hlo]; exact hlt) hlO,List.getElem?_map] at hj
   rw [hlo]
   cases ho:objs1[i]? with
   | none=>rw [ho] at hj; cases hj
   | some ob1=>rw [ho] at hj; simp at hj; exact .inr ⟨i,rfl,ob1,ho,hj.symm⟩
 have hrninj:∀ {i i':Nat},rn is φ.length i=rn is φ.length i'→i<φ1.length→i'<φ1.length→i=i':=fun {i i'} h7 h8 h9=>by
  simp only [rn,nth_eq,len_eq,Nat.add_eq,Nat.sub_eq] at h7
  cases hi:is[i]? <;> cases hi':is[i']? <;> rw [hi,hi'] at h7 <;> simp only at h7
  ·have:=List.getElem?_eq_none_iff.1 hi
   have:=List.getElem?_eq_none_iff.1 hi'
   omega
  ·have:=hlt _ (List.mem_of_getElem? hi'); omega
  ·have:=hlt _ (List.mem_of_getElem? hi); omega
  ·subst h7
   exact (List.getElem?_inj (List.getElem?_eq_some_iff.1 hi).1 hnd).1 (hi.trans hi'.symm)
 have hstp:Stp g.S0 φ w (putAll is φ1 φ) (putAll is (objs1.map (renOb (rn is φ.length))) o₁) w':=by
  refine ⟨⟨?_,?_,?_,?_,fun b hb=>h1.up b (Nat.le_trans hst.size hb)⟩,hK,hle,hst.size,hst.os,hst.tape,hst.out,fun b hb hn=>hst.fr b hb fun hc=>hn (hsub0 b hc),?_,?_⟩
  ·rw [putAll_length hle1,putAll_length (by rw [List.length_map,← hl1]; exact hle1),List.length_map,hl1,h1.len]
  ·intro j ph ob hj hob
   rcases hcases hj with ⟨h7,h8⟩ | ⟨i,rfl,h8⟩
   ·rcases hcaseO hob with ⟨_,h9⟩ | ⟨i,hji,ob1,h9,_⟩
    ·exact (h1.ok j ph ob h8 h9).mono hK hle hst.size fun b hb=>hsame h7 h8 hb
    ·exfalso
     simp only [rn,nth_eq] at hji
     cases hi:is[i]? with
     | some m=>rw [hi] at hji; simp only at hji; subst hji; exact h7 (List.mem_of_getElem? hi)
     | none =>
      rw [hi] at hji; simp only [Nat.add_eq] at hji
      have:=(List.getElem?_eq_some_iff.1 h8).1
      omega
   ·rcases hcaseO hob with ⟨h7,h9⟩ | ⟨i',hji,ob1,h9,rfl⟩
    ·exfalso
     have hjl:=(List.getElem?_eq_some_iff.1 h9).1
     rw [hlo] at hjl
     simp only [rn,nth_eq] at h7 hjl
     cases hi:is[i]? with
     | some m=>rw [hi] at h7; exact h7 (List.mem_of_getElem? hi)
     | none=>rw [hi] at hjl; simp only [Nat.add_eq] at hjl; omega
    ·have:=hrninj hji (List.getElem?_eq_some_iff.1 h8).1 (by rw [hl1]; exact (List.getElem?_eq_some_iff.1 h9).1)
     subst this
     exact (hst.hs.ok i ph ob1 h8 h9).ren hK1 hfwd
  ·intro i j p q b hi hj hp hq
   rcases hcases hi with ⟨h7,h8⟩ | ⟨i',rfl,h8⟩ <;> rcases hcases hj with ⟨h9,h10⟩ | ⟨j',rfl,h10⟩
   ·exact h1.dist i j p q b h8 h10 hp hq
   ·exfalso
    rcases hst.own b ⟨j',q,h10,hq⟩ with h11 | h11
    ·exact hout h7 h8 hp h11
    ·have:=h1.lt b ⟨i,p,h8,hp⟩; omega
   ·exfalso
    rcases hst.own b ⟨i',p,h8,hp⟩ with h11 | h11
    ·exact hout h9 h10 hq h11
    ·have:=h1.lt b ⟨j,q,h10,hq⟩; omega
   ·rw [hst.hs.dist i' j' p q b h8 h10 hp hq]
  ·intro b hb
   rcases hblsE hb with ⟨j,p,h7,h8,h9⟩ | h7
   ·exact Nat.lt_of_lt_of_le (h1.lt b ⟨j,p,h8,h9⟩) hst.size
   ·exact hst.hs.lt b h7
  ·intro b hb
   rcases hblsE hb with ⟨j,p,h7,h8,h9⟩ | h7
   ·exact .inl ⟨j,p,h8,h9⟩
   ·exact (hst.own b h7).imp (hsub0 b) id
  ·intro j l I B hj
   rcases hcases hj with ⟨h7,h8⟩ | ⟨i,rfl,h8⟩
   ·exact ⟨B,h8⟩
   ·obtain ⟨B0,h9⟩:=hst.ext i l I B h8
    obtain ⟨m,h10,h11⟩:=pickN_get hφ0 h9
    refine ⟨B0,?_⟩
    have:rn is φ.length i=m:=by simp only [rn,nth_eq,h10]
    rw [this]; exact h11
 exact ⟨_,hstp,hv.ren hK1 hfwd⟩

theorem loc_callS (hg:GOk g) (hu:GUp g) (hF:g.F=Fence.wide∧g.dep=0) (hY:∀ (i l:Nat) (I:Nat→(Nat→Prop)→(Nat→Prop)→World→Prop) (B:Nat→Prop),g.φ0[i]? = some (Phy.ext l I B)→YStep g.P Fence.wide 0 g.Y l I g.S0) (is:List Nat) {Y:YP} {f:Nat} {axs:List AV} {objs0 objs1:List Ob} {r:AV} (hc:SCtr g.P Y f axs objs0 r objs1) (hcc:(∃ (i l:Nat) (I:Nat→(Nat→Prop)→(Nat→Prop)→World→Prop) (B:Nat→Prop),g.φ0[i]? = some (Phy.ext l I B))→Y=g.Y) {dst:Option Nat} {x:Operand} {args:Array Operand} {ts:Array Nat} {ty:Nat} {pos:String} {after:Array Edge} {gd:Option (Nat × Bool)}
  {E:Env} {objs:List Ob} {fs cs:List AV}
  (hgd:guardA ops.toList E gd=some true) (hd:dstOk ⟨g.ty,g.N⟩ dst=true) (hx:ev E x=.clo f fs cs) (hok:isOk (len objs) is=true) (hpick:pickN objs is=some (objs0.map (renOb (rn is (len objs)))))
  (has:(fs++args.toList.map (ev E)++cs).map nrm=renL (rn is (len objs)) axs) :
  LocOp g ops ⟨dst,.call { callee:=.value x,args:=args,argTypes:=ts },ty,pos,after,gd⟩ E objs .eff (renA (rn is (len objs)) r) (putAll is (objs1.map (renOb (rn is (len objs)))) objs):=by
 refine ⟨fun h=>absurd rfl (h _),(fun b h hb=>by cases h; omega),fun E₁ o₁ o₁' a w he ho hs Q=>?_⟩
 rcases ho with ⟨h,_⟩ | ⟨_,h,_⟩ | ⟨ho1,ho2⟩
 ·cases h
 ·cases h
 subst ho1; subst ho2
 obtain ⟨φ,h1,h2,h3,h4,h5,h6⟩:=hs
 rw [wanted_of (guardA_ok hgd) he h3]
 simp only [if_true]
 refine ⟨about_ok hg _ w a,?_⟩
 have hρ:=rv_ops (o:=⟨dst,.call { callee:=.value x,args:=args,argTypes:=ts },ty,pos,after,gd⟩) he h3
 simp only [Op.operands,Call.operands] at hρ
 have hxv:=hρ x (by simp)
 rw [hx] at hxv
 simp only [RV] at hxv
 obtain ⟨va,vc,hxv,hfs,hcs⟩:=hxv
 have hargs:RVs (SS g.S0 φ) w φ (args.toList.map (ev E)) (args.toList.map a.eval):=RVs.map _ _ _ fun y hy=>hρ y (by simp [hy])
 have hall:=((hfs.append hargs).append hcs).mapEnt nrm Ent.nrm
 rw [has] at hall
 rw [Oper.semAt_eq _ _ _ (by simp),run_callv rfl hxv hc.call]
 refine ⟨fun h=>by rw [hg.depth] at h; simp at h,?_⟩
 obtain ⟨S,φ0,gA,g1,g2,g3,g4,g5⟩:=callS_core (hg.ambAt h2 h6) hu hY is hc.len hcc hok hpick h1 h2 h6 hall
 have hcall:=hc.run S φ0 w _ gA g1 g2 g3 g4
 refine (callsIn_free hg hcall).mono ?_
 rintro e w' ⟨v,φ1,rfl,hv,hst⟩
 obtain ⟨φ',hstp,hv'⟩:=g5 w' φ1 v hv hst
 exact Sat.stp h2 h3 h4 h5 h6 hstp (dstOk_ok hd) fun _=>hv'

theorem R_callS (hg:GOk g) (hu:GUp g) (hF:g.F=Fence.wide∧g.dep=0) (hY:∀ (i l:Nat) (I:Nat→(Nat→Prop)→(Nat→Prop)→World→Prop) (B:Nat→Prop),g.φ0[i]? = some (Phy.ext l I B)→YStep g.P Fence.wide 0 g.Y l I g.S0) (is:List Nat) {Y:YP} {f:Nat} {axs:List AV} {objs0 objs1:List Ob} {r:AV} (hc:SCtr g.P Y f axs objs0 r objs1) (hcc:(∃ (i l:Nat) (I:Nat→(Nat→Prop)→(Nat→Prop)→World→Prop) (B:Nat→Prop),g.φ0[i]? = some (Phy.ext l I B))→Y=g.Y) {dst:Option Nat} {x:Operand} {args:Array Operand} {ts:Array Nat} {ty:Nat} {pos:String} {after:Array Edge} {gd:Option (Nat × Bool)}
  {rest:List Oper} {k:List It} {E:Env} {objs:List Ob} {fs cs:List AV}
  (hgd:guardA ops.toList E gd=some true) (hd:dstOk ⟨g.ty,g.N⟩ dst=true) (hcl:clsOf pf (.call { callee:=.value x,args:=args,argTypes:=ts })=.eff) (hx:ev E x=.clo f fs cs) (hok:isOk (len objs) is=true) (hpick:pickN objs is=some (objs0.map (renOb (rn is (len objs)))))
  (has:(fs++args.toList.map (ev E)++cs).map nrm=renL (rn is (len objs)) axs)
  (hr:R g pf Fin (.dr ops rest::k) (putO E dst (renA (rn is (len objs)) r)) (putAll is (objs1.map (renOb (rn is (len objs)))) objs)) :
  R g pf Fin (.dr ops (⟨dst,.call { callee:=.value x,args:=args,argTypes:=ts },ty,pos,after,gd⟩::rest)::k) E objs:=by
 refine R_op ?_ hr
 show LocOp g ops _ E objs (clsOf pf (.call { callee:=.value x,args:=args,argTypes:=ts })) _ _
 rw [hcl]
 exact loc_callS hg hu hF hY is hc hcc hgd hd hx hok hpick has

theorem LocOp.as {o:Oper} {E:Env} {objs:List Ob} {v:AV} {c:Cls} (hc:isStill c=false) (h:LocOp g ops o E objs .eff v objs):LocOp g ops o E objs c v objs :=
 ⟨fun _=>rfl,fun _ _ _=>.refl _,fun E₁ o₁ o₁' a w h1 h2 h3=>h.step E₁ o₁ o₁' a w h1 (by
  rcases h2 with ⟨h2,_⟩ | ⟨m,h2,_⟩ | h2
  ·subst h2; simp [isStill] at hc
  ·subst h2
   have:Nat.blt 0 (m+1)=true:=by rw [Nat.blt_eq]; omega
   simp only [isStill] at hc
   rw [this] at hc; cases hc
  ·exact .inr (.inr h2)) h3⟩
end
end PSL
namespace PSL
open Go Go.RowKit

def gOfS (P:Program) (ty:Nat→Option Ty) (N:Nat) (w:World) (S:Nat→Prop) (φ:List Phy) (Y:YP):G :=
 { P:=P,F:=Fence.wide,dep:=0,ty:=ty,N:=N,w0:=w,S0:=S,X0:=bls φ,φ0:=φ,Y:=Y,mks:=true }

structure GS (g:G) (objs0:List Ob):Prop where
 ok:GOk g
 wide:g.F=Fence.wide∧g.dep=0
 hs0:HS g.S0 g.φ0 objs0 g.w0
 x:∀ b,g.X0 b→bls g.φ0 b
 bl:∀ b,bls g.φ0 b→g.S0 b
 Y:∀ (i l:Nat) (I:Nat→(Nat→Prop)→(Nat→Prop)→World→Prop) (B:Nat→Prop),g.φ0[i]? = some (Phy.ext l I B)→YStep g.P Fence.wide 0 g.Y l I g.S0
theorem GS.gup {g:G} {objs0:List Ob} (h:GS g objs0):GUp g:=⟨h.hs0.up,fun b hb=>h.bl b (h.x b hb)⟩

def sealT (nz:Bool) (n0:Nat) (objs:List Ob):Nat→AV→AV
 | 0,_=>.any
 | n+1,x=>match x with
  | .agg l=>.agg (l.map (sealT nz n0 objs n))
  | .tup l=>.tup (l.map (sealT nz n0 objs n))
  | .clo f a c=>.clo f (a.map (sealT nz n0 objs n)) (c.map (sealT nz n0 objs n))
  | .ow i s=>bif Nat.ble (Nat.succ i) n0 then .ow i s else (match nth objs i with
   | some (.arr _ s' rows)=>bif Nat.beq s s' then .d (.sl rows) else .any
   | _=>.any)
  | .lo i off=>bif Nat.ble (Nat.succ i) n0 then .lo i off else (match nth objs i with
   | some (.box l)=>(match toDs (l.map (sealT true n0 objs n)) with
    | some ds=>.d (.ptr (ds.drop off))
    | none=>.any)
   | _=>.any)
  | .mp i=>bif Nat.ble (Nat.succ i) n0 then .mp i else .any
  | .yl i=>bif Nat.ble (Nat.succ i) n0 then .yl i else .any
  | .el i s r j=>bif Nat.ble (Nat.succ i) n0 then .el i s r j else .any
  | .vw i s r=>bif Nat.ble (Nat.succ i) n0 then .vw i s r else .any
  | .tt=>.d (.v (.bool true))
  | .ff=>.d (.v (.bool false))
  | .fs rows=>.d (.sl rows)
  | .d (.v (.slice none 0 0))=>bif nz then .d (.sl []) else .d (.v (.slice none 0 0))
  | .d y=>.d y
  | .any=>.any
section
variable {S0:Nat→Prop} {φ:List Phy} {objs:List Ob} {w:World}

theorem arr_rd' {S:Nat→Prop} {n0 i s sz s':Nat} {rows:List (List D)} {v:Value} (hs:HS S0 φ objs w) (hv:RV S w φ (.ow i s) v) (ho:nth objs i=some (.arr sz s' rows)) (hss:s=s') {φ':List Phy}
  (hin:∀ b p,φ[i]? = some p→p.bl b→SS S0 φ' b) (hk:Keep (SS S0 φ) w (SS S0 φ') w) :
  Rd (SS S0 φ') w (.sl rows) v:=by
 simp only [RV] at hv
 obtain ⟨_,ph,hph,hx⟩:=hv
 have hk1:=obj_at hs hph ho
 cases ph <;> try (simp only [ObOk] at hk1; done)
 rename_i sz2 s2 v2 ob2
 simp only [ObOk] at hk1
 obtain ⟨rfl,he,hlen,hk1⟩:=hk1
 obtain ⟨_,hx⟩:=hx _ _ _ _ rfl
 have hx:=hx (by omega)
 subst hx
 rcases hk1 with ⟨a2,rfl,rfl,_⟩ | ⟨b,o,cap,cs,T,rfl,rfl,hheap,hn,hcap,hle,hrd⟩
 ·exact .nil _ _
 ·refine Rd.sl (sz:=sz) (fun i j=>(cs[o+i * sz+j]?).getD undef) (hin b _ hph rfl) hheap hn hcap (fun i r hi=>hlen r (List.mem_of_getElem? hi)) (fun i r j x hi hj=>?_) (fun i r j x hi hj=>?_)
  ·obtain ⟨y,h1,_⟩:=hrd i r j x hi hj
   simp [h1]
  ·obtain ⟨y,h1,h2⟩:=hrd i r j x hi hj
   rw [h1]; exact h2.mono hk

theorem sealT_ok (hbl:∀ b,bls φ b→S0 b) (hs:HS S0 φ objs w) (n0:Nat):∀ (n:Nat) (nz:Bool) (x:AV) (v:Value),RV (SS S0 φ) w φ x v→RV (SS S0 (φ.take n0)) w (φ.take n0) (sealT nz n0 objs n x) v:=by
 have hp:∀ i,i<n0→(φ.take n0)[i]? = φ[i]? := fun i hi=>List.getElem?_take_of_lt hi
 have hbl':∀ b,bls (φ.take n0) b→∃ j p,j<n0∧φ[j]? = some p∧p.bl b:=by
  rintro b ⟨i,p,g1,g2⟩
  have hi:i<n0:=by
   have:=(List.getElem?_eq_some_iff.1 g1).1
   simp at this; omega
  exact ⟨i,p,hi,by rw [← hp i hi]; exact g1,g2⟩
 have hkeep:Keep (SS S0 φ) w (SS S0 (φ.take n0)) w:=fun b hb _=>⟨⟨hb.1,fun hc=>by
  obtain ⟨j,p,_,h1,h2⟩:=hbl' b hc
  exact hb.2 ⟨j,p,h1,h2⟩⟩,rfl⟩
 have hin:∀ {i:Nat},¬ i<n0→∀ b p,φ[i]? = some p→p.bl b→SS S0 (φ.take n0) b:=fun {i} hi b p h1 h2=>⟨hbl b ⟨i,p,h1,h2⟩,fun hc=>by
  obtain ⟨j,q,h3,h4,h5⟩:=hbl' b hc
  have:=hs.dist i j p q b h1 h4 h2 h5
  omega⟩
 have hnlt:∀ {i:Nat},Nat.ble (Nat.succ i) n0=false→¬ i<n0:=fun {i} h hc=>by
  have:Nat.ble (Nat.succ i) n0=true:=Nat.ble_eq_true_of_le hc
  rw [h] at this; cases this
 intro n
 induction n with
 | zero=>intro nz x v _; simp [sealT,RV]
 | succ n ih =>
  intro nz x v hx
  simp only [sealT]
  split
  case h_1 l =>
   simp only [RV] at hx ⊢
   obtain ⟨cs,h1,h2⟩:=hx
   exact ⟨cs,h1,h2.map' _ fun x v h=>ih nz x v h⟩
  case h_2 l =>
   simp only [RV] at hx ⊢
   obtain ⟨cs,h1,h2⟩:=hx
   exact ⟨cs,h1,h2.map' _ fun x v h=>ih nz x v h⟩
  case h_3 f a c =>
   simp only [RV] at hx ⊢
   obtain ⟨va,vc,h1,h2,h3⟩:=hx
   exact ⟨va,vc,h1,h2.map' _ fun x v h=>ih nz x v h,h3.map' _ fun x v h=>ih nz x v h⟩
  case h_4 i s =>
   cases hi:Nat.ble (Nat.succ i) n0
   ·simp only [cond_false]
    split
    ·rename_i sz s' rows ho
     cases hss:Nat.beq s s'
     ·simp [RV]
     ·simp only [cond_true,RV]
      exact arr_rd' (n0:=n0) hs hx ho (natBeq hss) (hin (hnlt hi)) hkeep
    ·simp [RV]
   ·simp only [cond_true,RV] at hx ⊢
    rw [hp i (Nat.le_of_ble_eq_true hi)]; exact hx
  case h_5 i off =>
   cases hi:Nat.ble (Nat.succ i) n0
   ·simp only [cond_false]
    split
    ·rename_i l ho
     split
     ·rename_i ds hds
      simp only [RV] at hx
      obtain ⟨b,hb,rfl⟩:=hx
      have hk:=obj_at hs hb ho
      simp only [ObOk] at hk
      obtain ⟨cs,T,hheap,hrv⟩:=hk
      have h1:=hrv.map' (sealT true n0 objs n) fun x v h=>ih true x v h
      have h2:=toDs_rvs h1 hds
      simp only [RV]
      refine Rd.ptr (fun j=>(cs[off+j]?).getD undef) (hin (hnlt hi) b _ hb rfl) hheap (fun j x hj=>?_) (fun j x hj=>?_)
      ·obtain ⟨u,h3,_⟩:=h2.get (off+j) (x:=.d x) (by rw [List.getElem?_map]; rw [List.getElem?_drop] at hj; rw [hj]; rfl)
       simp [h3]
      ·obtain ⟨u,h3,h4⟩:=h2.get (off+j) (x:=.d x) (by rw [List.getElem?_map]; rw [List.getElem?_drop] at hj; rw [hj]; rfl)
       rw [h3]; simpa [RV] using h4
     ·simp [RV]
    ·simp [RV]
   ·simp only [cond_true,RV] at hx ⊢
    rw [hp i (Nat.le_of_ble_eq_true hi)]; exact hx
  case h_6 i =>
   cases hi:Nat.ble (Nat.succ i) n0
   ·simp [RV]
   ·simp only [cond_true,RV] at hx ⊢
    rw [hp i (Nat.le_of_ble_eq_true hi)]; exact hx
  case h_7 i =>
   cases hi:Nat.ble (Nat.succ i) n0
   ·simp [RV]
   ·simp only [cond_true,RV] at hx ⊢
    rw [hp i (Nat.le_of_ble_eq_true hi)]; exact hx
  case h_8 i s r j =>
   cases hi:Nat.ble (Nat.succ i) n0
   ·simp [RV]
   ·simp only [cond_true,RV] at hx ⊢
    rw [hp i (Nat.le_of_ble_eq_true hi)]; exact hx
  case h_9 i s r =>
   cases hi:Nat.ble (Nat.succ i) n0
   ·simp [RV]
   ·simp only [cond_true,RV] at hx ⊢
    rw [hp i (Nat.le_of_ble_eq_true hi)]; exact hx
  case h_10=>simp only [RV] at hx ⊢; subst hx; exact .v _
  case h_11=>simp only [RV] at hx ⊢; subst hx; exact .v _
  case h_12=>simp only [RV] at hx ⊢; exact hx.1.mono hkeep
  case h_13 =>
   cases nz
   ·simp only [cond_false,RV] at hx ⊢; exact hx.mono hkeep
   ·simp only [cond_true,RV] at hx ⊢; cases hx; exact .nil _ _
  case h_14=>simp only [RV] at hx ⊢; exact hx.mono hkeep
  case h_15=>simp [RV]
end
section
variable {g:G} {pf:Nat→Cls}

def FinS (g:G) (fn:Func) (r:AV) (objs1:List Ob):Exit→Act→World→Prop :=
 bodyPostM g.F g.dep g.P fn fun e w'=>∃ v φ',e=.returned v∧RV (SS g.S0 φ') w' φ' r v∧Stp g.S0 g.φ0 g.w0 φ' objs1 w'

theorem finS_ok {objs0:List Ob} (hg:GS g objs0) (hdf:g.dfs=[]) {fn:Func} {E:Env} {objs:List Ob} {av:AV} (n0 n:Nat) (hn0:objs0.length≤n0) (hres:resAV g.ty E objs fn.results.toList=some av) {a:Act} {w:World} (hs:Sat g E objs a w) :
  FinS g fn (sealT true n0 objs n av) ((objs.take n0).map (mapOb (sealT false n0 objs n))) .ret a w∧FinS g fn (sealT true n0 objs n av) ((objs.take n0).map (mapOb (sealT false n0 objs n))) .normal a w:=by
 suffices hl:LeavesInM g.F g.dep g.P fn a.tmps (fun e w'=>∃ v φ',e=.returned v∧RV (SS g.S0 φ') w' φ' (sealT true n0 objs n av) v∧Stp g.S0 g.φ0 g.w0 φ' ((objs.take n0).map (mapOb (sealT false n0 objs n))) w') a.defers .returning w from ⟨hl,hl⟩
 refine leaves_ok hdf (E:=E) (objs:=objs) (fun tmps w hs'=>?_) a w hs
 clear hs
 have hs:=hs'
 obtain ⟨φ,h1,h2,h3,h4,h5,h6⟩:=hs
 obtain ⟨vv,h7,h8⟩:=resAV_ok hg.ok.ty h1 h3 hres
 have hbl:∀ b,bls φ b→g.S0 b:=fun b hb=>(h2 b hb).elim (hg.gup.up b) (hg.gup.x b)
 have h9:=sealT_ok hbl h1 n0 n true av vv h8
 have hp:∀ i,i<n0→(φ.take n0)[i]? = φ[i]? := fun i hi=>List.getElem?_take_of_lt hi
 have hbl':∀ b,bls (φ.take n0) b→bls φ b:=by
  rintro b ⟨i,p,g1,g2⟩
  have hi:i<n0:=by
   have:=(List.getElem?_eq_some_iff.1 g1).1
   simp at this; omega
  exact ⟨i,p,by rw [← hp i hi]; exact g1,g2⟩
 have hst:Stp g.S0 g.φ0 g.w0 (φ.take n0) ((objs.take n0).map (mapOb (sealT false n0 objs n))) w:=by
  refine ⟨h1.remap (sealT false n0 objs n) (by simp [h1.len]) (fun i p b hi hb=>⟨p,?_,hb⟩) (fun i ob' hi=>.inr (.inl ?_)) (sealT_ok hbl h1 n0 n false),.of fun b hb hbs=>?_,fun i p hi=>?_,h6.size,h6.os,h6.tape,h6.out,fun b hb hn=>h6.fr b hb fun hc=>hn (hg.x b hc),fun b hb=>?_,fun i l I B hi=>?_⟩
  ·have hin:i<n0:=by
    have:=(List.getElem?_eq_some_iff.1 hi).1
    simp at this; omega
   rw [← hp i hin]; exact hi
  ·have hin:i<n0:=by
    have:=(List.getElem?_eq_some_iff.1 hi).1
    simp at this; omega
   rw [List.getElem?_map,List.getElem?_take_of_lt hin] at hi
   cases ho:objs[i]? with
   | none=>rw [ho] at hi; cases hi
   | some ob=>rw [ho] at hi; exact ⟨ob,rfl,hp i hin,by simpa using hi.symm⟩
  ·refine ⟨⟨hb.1,fun hc=>?_⟩,h6.fr b hbs fun hc=>hb.2 (hg.x b hc)⟩
   rcases h2 b (hbl' b hc) with h | h
   ·omega
   ·exact hb.2 (hg.x b h)
  ·obtain ⟨p',h10,h11⟩:=h6.le i p hi
   exact ⟨p',by rw [hp i (Nat.lt_of_lt_of_le (List.getElem?_eq_some_iff.1 hi).1 (by rw [hg.hs0.len]; exact hn0))]; exact h10,h11⟩
  ·exact (h2 b (hbl' b hb)).symm.imp (hg.x b) id
  ·have hin:i<n0:=by
    have:=(List.getElem?_eq_some_iff.1 hi).1
    simp at this; omega
   rw [hp i hin] at hi
   exact h6.gen i l I B hi
 exact ⟨vv,h7,vv,_,rfl,h9,hst⟩

theorem R_retS {objs0:List Ob} (hg:GS g objs0) {fn:Func} {k:List It} {E:Env} {objs objs1:List Ob} {av r:AV} (n0 n:Nat) (hn0:objs0.length≤n0) (hres:resAV g.ty E objs fn.results.toList=some av) (hr:sealT true n0 objs n av=r) (ho:(objs.take n0).map (mapOb (sealT false n0 objs n))=objs1) (hdf:g.dfs=[]:=by rfl):R g pf (FinS g fn r objs1) (.code .ret::k) E objs:=by
 subst hr; subst ho
 intro _ a w hs
 exact wpIn_ret (KP_ret k (finS_ok hg hdf n0 n hn0 hres hs).1)

theorem R_endS {objs0:List Ob} (hg:GS g objs0) {fn:Func} {E:Env} {objs objs1:List Ob} {av r:AV} (n0 n:Nat) (hn0:objs0.length≤n0) (hres:resAV g.ty E objs fn.results.toList=some av) (hr:sealT true n0 objs n av=r) (ho:(objs.take n0).map (mapOb (sealT false n0 objs n))=objs1) (hdf:g.dfs=[]:=by rfl):R g pf (FinS g fn r objs1) [] E objs:=by
 subst hr; subst ho
 intro _ a w hs
 exact (finS_ok hg hdf n0 n hn0 hres hs).2

theorem SCtr.of_R {P:Program} {ty:Nat→Option Ty} {Y:YP} {f:Nat} {fn:Func} {cd:Code} {args:List AV} {objs objs1:List Ob} {r:AV} (hty:TyOk P ty) (hm:P.follows .mixedOrders=true) (hf:P.funcs[f]? = some fn) (hb:fn.body=some cd)
  (hn:(fn.name == "runtime.NumGoroutine")=false) (hok:codeOk pf cd=true) (hN:args.length≤fn.ntmps) (hlen:objs.length≤objs1.length)
  (h:∀ (w:World) (S:Nat→Prop) (φ:List Phy),GS (gOfS P ty fn.ntmps w S φ Y) objs→R (gOfS P ty fn.ntmps w S φ Y) pf (FinS (gOfS P ty fn.ntmps w S φ Y) fn r objs1) [.code cd] (envOf args 0) objs):SCtr P Y f args objs r objs1:=by
 refine ⟨callable_of hf hb hn,fun S φ w vals ha hhs hbl hY hv=>?_,hlen⟩
 have hg:GS (gOfS P ty fn.ntmps w S φ Y) objs:=⟨⟨fun _=>trivial,(ha.at0 fun _ h=>h.2).keep fun _ h _=>⟨⟨h.1.1,h.2⟩,rfl⟩,rfl,rfl,hty,hm⟩,⟨rfl,rfl⟩,hhs,fun _ h=>h,hbl,hY⟩
 have hlen:=hv.length
 refine callsIn_wide.1 (callsIn_of_wp_marks (F:=Fence.wide) (n:=0) hf hb trivial ?_)
 have hs:Sat (gOfS P ty fn.ntmps w S φ Y) (envOf args 0) objs { tmps:=vals.toArray++Array.replicate (fn.ntmps - vals.toArray.size) undef,defers:=[] } w:=by
  refine ⟨φ,hhs,fun b hb=>.inr hb,fun t=>?_,by simp [gOfS]; omega,.none rfl ⟨fun _=>rfl,.nil,by simp⟩,⟨Nat.le_refl _,rfl,rfl,rfl,fun _ _ _=>rfl,fun i l I B h=>⟨B,h⟩,.refl _⟩⟩
  rw [lk_envOf]
  simp only [Nat.not_lt_zero,if_false,Nat.sub_zero]
  cases ha:args[t]? with
  | none=>simp [RV]
  | some x =>
   obtain ⟨v,h1,h2⟩:=hv.get t ha
   have htl:=(List.getElem?_eq_some_iff.1 h1).1
   simp only [Option.getD_some]
   rw [Array.getD_eq_getD_getElem?,Array.getElem?_append_left (by simpa using htl)]
   simp only [List.getElem?_toArray,h1,Option.getD_some]
   exact h2
 have hR:=RK.of_R (pf:=pf) (k:=[.code cd]) ⟨hok,trivial⟩ (h w S φ hg) (by simp) _ _ hs
 refine wpIn_mono hR ?_
 intro e a' w' hk
 cases e <;> exact hk
end
end PSL
namespace PSL
open Go Go.RowKit

structure DCtr (P:Program) (Y:YP) (f:Nat) (args:List AV) (objs:List Ob) (r:AV) (objs1:List Ob):Prop where
 call:Callable P f
 run:∀ (S:Nat→Prop) (φ:List Phy) (w:World) (vals:List Value) (u:FrameMode),AmbOk P (SS S φ) w→HS S φ objs w→(∀ b,bls φ b→S b)→(∀ (i l:Nat) (I:Nat→(Nat→Prop)→(Nat→Prop)→World→Prop) (B:Nat→Prop),φ[i]? = some (Phy.ext l I B)→YStep P Fence.wide 0 Y l I S)→RVs (SS S φ) w φ args vals →
  CallsDIn Fence.wide 0 P f vals.toArray u w fun e u' w'=>u'=u∧∃ v φ',e=.returned v∧RV (SS S φ') w' φ' r v∧Stp S φ w φ' objs1 w'
 len:objs.length≤objs1.length
section
variable {g:G} {pf:Nat→Cls}

def FinD (g:G) (fn:Func) (r:AV) (objs1:List Ob):Exit→Act→World→Prop:=fun e a w=>FinS g fn r objs1 e a w∧a.defers=[]

def gOfD (P:Program) (ty:Nat→Option Ty) (N:Nat) (w:World) (S:Nat→Prop) (φ:List Phy) (Y:YP):G:={ gOfS P ty N w S φ Y with mks:=false }

theorem DCtr.of_R {P:Program} {ty:Nat→Option Ty} {Y:YP} {f:Nat} {fn:Func} {cd:Code} {args:List AV} {objs objs1:List Ob} {r:AV} (hty:TyOk P ty) (hm:P.follows .mixedOrders=true) (hf:P.funcs[f]? = some fn) (hb:fn.body=some cd)
  (hn:(fn.name == "runtime.NumGoroutine")=false) (hok:codeOk pf cd=true) (hN:args.length≤fn.ntmps) (hlen:objs.length≤objs1.length)
  (h:∀ (w:World) (S:Nat→Prop) (φ:List Phy),GS (gOfD P ty fn.ntmps w S φ Y) objs→R (gOfD P ty fn.ntmps w S φ Y) pf (FinD (gOfD P ty fn.ntmps w S φ Y) fn r objs1) [.code cd] (envOf args 0) objs):DCtr P Y f args objs r objs1:=by
 refine ⟨callable_of hf hb hn,fun S φ w vals u ha hhs hbl hY hv=>?_,hlen⟩
 have hg:GS (gOfD P ty fn.ntmps w S φ Y) objs:=⟨⟨fun _=>trivial,(ha.at0 fun _ h=>h.2).keep fun _ h _=>⟨⟨h.1.1,h.2⟩,rfl⟩,rfl,rfl,hty,hm⟩,⟨rfl,rfl⟩,hhs,fun _ h=>h,hbl,hY⟩
 have hlen:=hv.length
 refine callsDIn_of_wp (F:=Fence.wide) (n:=0) hf hb trivial ?_
 have hs:Sat (gOfD P ty fn.ntmps w S φ Y) (envOf args 0) objs { tmps:=vals.toArray++Array.replicate (fn.ntmps - vals.toArray.size) undef,defers:=[] } w:=by
  refine ⟨φ,hhs,fun b hb=>.inr hb,fun t=>?_,by simp [gOfD,gOfS]; omega,.none rfl ⟨fun _=>rfl,.nil,by simp⟩,⟨Nat.le_refl _,rfl,rfl,rfl,fun _ _ _=>rfl,fun i l I B h=>⟨B,h⟩,.refl _⟩⟩
  rw [lk_envOf]
  simp only [Nat.not_lt_zero,if_false,Nat.sub_zero]
  cases ha:args[t]? with
  | none=>simp [RV]
  | some x =>
   obtain ⟨v,h1,h2⟩:=hv.get t ha
   have htl:=(List.getElem?_eq_some_iff.1 h1).1
   simp only [Option.getD_some]
   rw [Array.getD_eq_getD_getElem?,Array.getElem?_append_left (by simpa using htl)]
   simp only [List.getElem?_toArray,h1,Option.getD_some]
   exact h2
 have hR:=RK.of_R (pf:=pf) (k:=[.code cd]) ⟨hok,trivial⟩ (h w S φ hg) (by simp) _ _ hs
 refine wpIn_mono hR ?_
 intro e a' w' hk
 cases e with
 | normal =>
  have hk:FinD _ fn r objs1 .normal a' w':=hk
  obtain ⟨h1,h2⟩:=hk
  simp only [FinS,bodyPostM,h2,LeavesInM,LeavesIn] at h1
  exact ⟨h2,h1⟩
 | ret =>
  have hk:FinD _ fn r objs1 .ret a' w':=hk
  obtain ⟨h1,h2⟩:=hk
  simp only [FinS,bodyPostM,h2,LeavesInM,LeavesIn] at h1
  exact ⟨h2,h1⟩
 | panic chain =>
  have hk:FinD _ fn r objs1 (.panic chain) a' w':=hk
  obtain ⟨h1,h2⟩:=hk
  simp only [FinS,bodyPostM,h2,LeavesInM,LeavesIn] at h1
  obtain ⟨v,φ',h,_⟩:=h1
  cases h
 | exit i=>exact (hk:FinD _ fn r objs1 (.exit i) a' w').1.elim
 | goto l=>exact (hk:FinD _ fn r objs1 (.goto l) a' w').1.elim
 | outgrown =>
  have hk:FinD _ fn r objs1 .outgrown a' w':=hk
  obtain ⟨v,φ',h,_⟩:=hk.1
  cases h

def swD (g:G) (l:List (Nat × List AV × List AV)):G:={ g with dfs:=l }
theorem GS.sw {objs0:List Ob} (h:GS g objs0) (l:List (Nat × List AV × List AV)):GS (swD g l) objs0:=⟨⟨h.ok.fn,h.ok.amb,h.ok.depth,h.ok.alive,h.ok.ty,h.ok.mixed⟩,h.wide,h.hs0,h.x,h.bl,h.Y⟩

def Lv (g:G) (fn:Func) (r:AV) (objs1:List Ob) (l:List (Nat × List AV × List AV)) (E:Env) (objs:List Ob):Prop :=
 ∀ (ds:List Deferred) (tmps:Array Value) (w:World),SatD (swD g l) E objs tmps [] ds w→LeavesInM g.F g.dep g.P fn tmps (fun e w'=>∃ v φ',e=.returned v∧RV (SS g.S0 φ') w' φ' r v∧Stp g.S0 g.φ0 g.w0 φ' objs1 w') ds .returning w

theorem Lv.nil {objs0:List Ob} (hg:GS g objs0) {fn:Func} {E:Env} {objs objs1:List Ob} {av r:AV} (n0 n:Nat) (hn0:objs0.length≤n0) (hres:resAV g.ty E objs fn.results.toList=some av) (hr:sealT true n0 objs n av=r) (ho:(objs.take n0).map (mapOb (sealT false n0 objs n))=objs1):Lv g fn r objs1 [] E objs:=by
 subst hr; subst ho
 intro ds tmps w hs
 obtain ⟨φ,h1,h2,h3,h4,h5,h6,h7⟩:=hs
 have:=h7.nil
 subst this
 exact (finS_ok (g:=swD g []) (hg.sw []) rfl n0 n hn0 hres (a:={ tmps:=tmps,defers:=[] }) ⟨φ,h1,h2,h3,h4,.none rfl h5,⟨h6.size,h6.os,h6.tape,h6.out,h6.fr,h6.gen,h6.le⟩⟩).1

theorem Lv.cons {objs0:List Ob} (hg:GS g objs0) {fn:Func} {E:Env} {objs objs1 objs':List Ob} {r:AV} {l:List (Nat × List AV × List AV)} {f:Nat} {fs cs:List AV} (is:List Nat) {Y:YP} {axs:List AV} {o0 o1:List Ob} {q:AV} (hc:DCtr g.P Y f axs o0 q o1) (hcc:(∃ (i l:Nat) (I:Nat→(Nat→Prop)→(Nat→Prop)→World→Prop) (B:Nat→Prop),g.φ0[i]? = some (Phy.ext l I B))→Y=g.Y)
  (hok:isOk (len objs) is=true) (hpick:pickN objs is=some (o0.map (renOb (rn is (len objs))))) (has:(fs++cs).map nrm=renL (rn is (len objs)) axs) (ho:putAll is (o1.map (renOb (rn is (len objs)))) objs=objs')
  (hr:Lv g fn r objs1 l E objs'):Lv g fn r objs1 ((f,fs,cs)::l) E objs:=by
 subst ho
 intro ds tmps w hs
 obtain ⟨φ,h1,h2,h3,h4,h5,h6,h7⟩:=hs
 cases ds with
 | nil=>simp [swD,DfOk] at h7
 | cons d ds =>
  have h7:DfOk (SS g.S0 φ) w φ ((f,fs,cs)::l) (d::ds):=h7
  simp only [DfOk] at h7
  obtain ⟨⟨va,vc,rfl,hva,hvc⟩,h8⟩:=h7
  have hall:=(hva.append hvc).mapEnt nrm Ent.nrm
  rw [has] at hall
  have hu:=hg.gup
  obtain ⟨S,φ0,gA,g1,g2,g3,g4,g5⟩:=callS_core (hg.ok.ambAt h2 ⟨h6.size,h6.os,h6.tape,h6.out,h6.fr,h6.gen,h6.le⟩) hu hg.Y is hc.len hcc hok hpick h1 h2 ⟨h6.size,h6.os,h6.tape,h6.out,h6.fr,h6.gen,h6.le⟩ hall
  have hcall:=hc.run S φ0 w _ .returning gA g1 g2 g3 g4
  simp only [LeavesInM]
  have hF:=hg.wide.1
  have hd:=hg.wide.2
  refine ⟨by simp,.inr ⟨fun h=>(by rw [hF] at h; cases h),.func f,vc.toArray,f,(va++vc).toArray,rfl,?_,fun _ _=>hg.ok.fn _,?_⟩⟩
  ·simp only [invoke]
   rw [show va.toArray++vc.toArray=(va++vc).toArray by simp]
   exact hc.call _ _
  ·rw [hF,hd]
   refine hcall.mono ?_
   rintro e u' w' ⟨rfl,v,φ1,rfl,hv,hst⟩
   obtain ⟨φ',hstp,_⟩:=g5 w' φ1 v hv hst
   simp only [settle]
   have:=hr ds tmps w' ⟨φ',hstp.hs,fun b hb=>?_,fun t=>(h3 t).mono hstp.keep hstp.le,h4,h5.stp hstp,⟨Nat.le_trans h6.size hstp.size,hstp.os.trans h6.os,hstp.tape.trans h6.tape,hstp.out.trans h6.out,fun b hb hx=>?_,fun i l I B hi=>?_,h6.le.trans hstp.le⟩,h8.mono hstp.keep hstp.le⟩
   ·rw [hF,hd] at this; exact this
   ·rcases hstp.own b hb with h | h
    ·exact h2 b h
    ·left; have:=h6.size; simp only [swD] at this ⊢; omega
   ·rw [hstp.fr b (Nat.lt_of_lt_of_le hb h6.size) fun hc=>?_]
    ·exact h6.fr b hb hx
    ·rcases h2 b hc with h | h
     ·have:b<g.w0.heap.size:=hb
      simp only [swD] at h; omega
     ·exact hx h
   ·obtain ⟨B0,h⟩:=hstp.ext i l I B hi
    exact h6.gen i l I B0 h
end
end PSL
namespace PSL
open Go Go.RowKit
section
variable {g:G} {pf:Nat→Cls} {ops:Array Oper} {Fin:Exit→Act→World→Prop}

theorem R_yield {objs0:List Ob} (hgs:GS g objs0) {dst:Option Nat} {x:Operand} {args:Array Operand} {ts:Array Nat} {ty:Nat} {pos:String} {after:Array Edge} {gd:Option (Nat × Bool)}
  {rest:List Oper} {k:List It} {E:Env} {objs:List Ob} {i n:Nat} {avs:List AV}
  (hgd:guardA ops.toList E gd=some true) (hd:dstOk ⟨g.ty,g.N⟩ dst=true) (hcl:clsOf pf (.call { callee:=.value x,args:=args,argTypes:=ts })=.eff) (hx:ev E x=.yl i) (ho:nth objs i=some (.yld n))
  (has:(args.toList.map (ev E)).map nrm=avs) (hp:pureL avs=true) (hy:g.Y.ys[n]? = some avs) (hgo:n=0∨g.Y.go n=true)
  (hr:R g pf Fin (.dr ops rest::k) (putO E dst (bV (g.Y.go (n+1)))) (setN objs i (.yld (n+1)))) :
  R g pf Fin (.dr ops (⟨dst,.call { callee:=.value x,args:=args,argTypes:=ts },ty,pos,after,gd⟩::rest)::k) E objs:=by
 refine R_op ?_ hr
 show LocOp g ops _ E objs (clsOf pf (.call { callee:=.value x,args:=args,argTypes:=ts })) _ _
 rw [hcl]
 have hg:=hgs.ok
 refine ⟨fun h=>absurd rfl (h _),(fun b h hb=>by cases h; omega),fun E₁ o₁ o₁' a w he hoo hs Q=>?_⟩
 rcases hoo with ⟨h,_⟩ | ⟨_,h,_⟩ | ⟨ho1,ho2⟩
 ·cases h
 ·cases h
 subst ho1; subst ho2
 obtain ⟨φ,h1,h2,h3,h4,h5,h6⟩:=hs
 rw [wanted_of (guardA_ok hgd) he h3]
 simp only [if_true]
 refine ⟨about_ok hg _ w a,?_⟩
 have hρ:=rv_ops (o:=⟨dst,.call { callee:=.value x,args:=args,argTypes:=ts },ty,pos,after,gd⟩) he h3
 simp only [Op.operands,Call.operands] at hρ
 have hxv:=hρ x (by simp)
 rw [hx] at hxv
 simp only [RV] at hxv
 obtain ⟨l,I,B,hφ,hxv⟩:=hxv
 have hargs:RVs (SS g.S0 φ) w φ (args.toList.map (ev E)) (args.toList.map a.eval):=RVs.map _ _ _ fun y hy=>hρ y (by simp [hy])
 have hall:=hargs.mapEnt nrm Ent.nrm
 rw [has] at hall
 have hall0:=RVs.pure (φ':=[]) (Keep.refl _ _) hp hall
 have hk:=obj_at h1 hφ ho
 simp only [ObOk] at hk
 obtain ⟨B0,hg0⟩:=h6.gen i l I B hφ
 have hbB:∀ b,B b→bls φ b:=fun b hb=>⟨i,_,hφ,hb⟩
 obtain ⟨fn,tmps,assign,body,hyr,hround⟩:=hgs.Y i l I B0 hg0 n B w (SS g.S0 φ) avs _ hk.2 (fun b hb=>⟨hb.1,fun hc=>hb.2 (hbB b hc)⟩) (hg.ambAt h2 h6)
  (fun b hb=>⟨h1.up b hb,fun hc=>by have:=h1.lt b hc; omega⟩) hy hgo hall0 hp
 have hrun:(execOp a.eval ⟨dst,.call { callee:=.value x,args:=args,argTypes:=ts },ty,pos,after,gd⟩).run g.P w=.ok (.round l fn tmps assign body) w:=by
  have h7:(resolve a.eval { callee:=.value x,args:=args,argTypes:=ts } ty).run g.P w=.ok { target:=.fn (.yield l) #[],args:=(args.toList.map a.eval).toArray } w:=by
   simp only [resolve,hxv,Deferred.ofValue,Sem.run_bind,Sem.run_pure,Result.andThen_ok]
   congr 2
   apply Array.toList_inj.1; simp
  simp only [execOp,Sem.run_bind,h7,Result.andThen_ok,invoke]
  exact hyr
 rw [Oper.semAt_eq _ _ _ (by simp),hrun]
 refine ⟨fun h=>by rw [hg.depth] at h; simp at h,?_⟩
 obtain ⟨hF,hd0⟩:=hgs.wide
 rw [hF,hd0]
 refine hround.mono ?_
 rintro e w' ⟨rfl,B',hI,hsz,hos,htape,hout,hfr,hB'⟩
 have hlt:i<φ.length:=(List.getElem?_eq_some_iff.1 hφ).1
 have hst:Stp g.S0 φ w (φ.set i (.ext l I B')) (o₁.set i (.yld (n+1))) w':=by
  refine Stp.swap h1 hφ (.inr (.inr (.inr (.inl ⟨_,_,_,_,rfl,rfl⟩)))) hsz (fun c hc hn=>hfr c hc hn) (fun b hb=>hB' b hb) hos htape hout (fun hkeep _=>?_) (fun l' I' B'' he=>by cases he; exact ⟨B,rfl⟩)
  simp only [ObOk]
  refine ⟨hk.1,hk.1 _ _ _ _ _ _ (Nat.le_refl _) (fun _ _=>rfl) (fun b hb _=>⟨?_,rfl⟩) hI⟩
  refine ⟨hb.1.1,fun hc=>?_⟩
  rcases bls_set hc with ⟨j,q,hj,g1,g2⟩ | g1
  ·exact hb.1.2 ⟨j,q,g1,g2⟩
  ·exact hb.2 g1
 have hfin:=Sat.stp (v:=bV (g.Y.go (n+1))) (vv:=.bool (g.Y.go (n+1))) h2 h3 h4 h5 h6 hst (dstOk_ok hd) fun _=>by simp only [RV,bV]; exact .v _
 rw [setN_eq]
 exact hfin
end
end PSL
namespace PSL
open Go Go.RowKit

structure HC (R:Nat→Prop) (φ:List Phy) (objs:List Ob) (w:World):Prop where
 len:φ.length=objs.length
 ok:∀ (i:Nat) (ph:Phy) (ob:Ob),φ[i]? = some ph→objs[i]? = some ob→ObOk R w φ ph ob
 dist:Dist φ
 lt:∀ b,bls φ b→b<w.heap.size
theorem HS.hc {S0:Nat→Prop} {φ:List Phy} {objs:List Ob} {w:World} (h:HS S0 φ objs w):HC (SS S0 φ) φ objs w:=⟨h.len,h.ok,h.dist,h.lt⟩

theorem HC.mono {R R':Nat→Prop} {φ:List Phy} {objs:List Ob} {w w':World} (h:HC R φ objs w) (hsz:w.heap.size≤w'.heap.size) (hk:Keep R w R' w') (hb:∀ b,bls φ b→w'.heap[b]? = w.heap[b]?):HC R' φ objs w' :=
 ⟨h.len,fun i ph ob h1 h2=>(h.ok i ph ob h1 h2).mono hk (.refl _) hsz fun b hb'=>hb b ⟨i,ph,h1,hb'⟩,h.dist,fun b hb'=>Nat.lt_of_lt_of_le (h.lt b hb') hsz⟩
theorem HC.hs {S0:Nat→Prop} {φ:List Phy} {objs:List Ob} {w:World} (h:HC (SS S0 φ) φ objs w) (hup:∀ b,w.heap.size≤b→S0 b):HS S0 φ objs w:=⟨h.len,h.ok,h.dist,h.lt,hup⟩

def gRound (g:G) (l:Nat) (w:World) (R X:Nat→Prop) (φ0:List Phy):G :=
 { P:=g.P,F:=Fence.wide.inRound l,dep:=0,ty:=g.ty,N:=g.N,w0:=w,S0:=R,X0:=X,φ0:=φ0,Y:=⟨[],fun _=>true⟩,mks:=false }
theorem gRound_ok {g:G} (hg:GOk g) (l:Nat) (w:World) (R X:Nat→Prop) (φ0:List Phy) (ha:AmbOk g.P (fun b=>R b∧¬ X b∧b<w.heap.size) w):GOk (gRound g l w R X φ0):=⟨fun _=>trivial,ha,rfl,rfl,hg.ty,hg.mixed⟩

def EntL:List AV→List AV→Prop
 | [],[]=>True
 | x::l,y::m=>Ent x y∧EntL l m
 | _,_=>False

def ObIn:Ob→Ob→Prop
 | .box l,.box m=>EntL l m
 | _,.dead=>True
 | a,b=>a=b

def ObsIn:List Ob→List Ob→Prop
 | [],[]=>True
 | a::l,b::m=>ObIn a b∧ObsIn l m
 | _,_=>False

theorem EntL.rvs {S:Nat→Prop} {w:World} {φ:List Phy}:∀ {l m:List AV} {vs:List Value},EntL l m→RVs S w φ l vs→RVs S w φ m vs
 | [],[],_,_,h=>h
 | [],_::_,_,h,_=>by simp [EntL] at h
 | _::_,[],_,h,_=>by simp [EntL] at h
 | x::l,y::m,[],_,h=>by simp [RVs] at h
 | x::l,y::m,v::vs,h,hv=>by
  simp only [EntL] at h; simp only [RVs] at hv ⊢
  exact ⟨h.1 _ _ _ _ hv.1,h.2.rvs hv.2⟩

theorem ObIn.ok {S:Nat→Prop} {w:World} {φ:List Phy} {ph:Phy} {a b:Ob} (h:ObIn a b) (ho:ObOk S w φ ph a):ObOk S w φ ph b:=by
 unfold ObIn at h
 split at h
 ·cases ph <;> simp only [ObOk] at ho ⊢
  obtain ⟨cs,T,h1,h2⟩:=ho
  exact ⟨cs,T,h1,h.rvs h2⟩
 ·simp only [ObOk]
 ·subst h; exact ho

theorem ObsIn.get:∀ {l m:List Ob},ObsIn l m→l.length=m.length∧∀ (i:Nat) (b:Ob),m[i]? = some b→∃ a,l[i]? = some a∧ObIn a b
 | [],[],_=>⟨rfl,by simp⟩
 | [],_::_,h=>by simp [ObsIn] at h
 | _::_,[],h=>by simp [ObsIn] at h
 | x::l,y::m,h=>by
  simp only [ObsIn] at h
  obtain ⟨h1,h2⟩:=h.2.get
  refine ⟨by simp [h1],fun i b hb=>?_⟩
  cases i with
  | zero=>simp at hb; subst hb; exact ⟨x,rfl,h.1⟩
  | succ i=>simp at hb; simpa using h2 i b hb

theorem Sat.obs {g:G} {E:Env} {objs objs':List Ob} {a:Act} {w:World} (h:ObsIn objs objs') (hs:Sat g E objs a w):Sat g E objs' a w:=by
 obtain ⟨φ,h1,h2⟩:=hs
 obtain ⟨h3,h4⟩:=h.get
 exact ⟨φ,⟨h1.len.trans h3,fun i ph b hi hb=>by obtain ⟨a,h5,h6⟩:=h4 i b hb; exact h6.ok (h1.ok i ph a hi h5),h1.dist,h1.lt,h1.up⟩,h2⟩

theorem ObIn.refl (a:Ob):ObIn a a:=by
 cases a <;> simp only [ObIn]
 rename_i l
 induction l with
 | nil=>simp [EntL]
 | cons x l ih=>exact ⟨.refl x,ih⟩

theorem R_obs {g:G} {pf:Nat→Cls} {Fin:Exit→Act→World→Prop} {k:List It} {E:Env} {objs:List Ob} (objs':List Ob) (h:ObsIn objs objs') (ht:topCode k=true) (hr:R g pf Fin k E objs'):R g pf Fin k E objs :=
 R_ghost ht (fun _ _ hs=>hs.obs h) hr

def FinA (g:G) (E:Env) (objs:List Ob):Exit→Act→World→Prop
 | .normal,a,w=>Sat g E objs a w
 | _,_,_=>False

def FinB (g:G) (objs:List Ob) (go:Bool) (jmp:Code):Exit→Act→World→Prop
 | .normal,a,w=>go=true∧∃ E,Sat g E objs a w
 | .ret,a,w=>go=false∧jmp=.ret∧∃ E,Sat g E objs a w
 | .exit id,a,w=>go=false∧jmp=.exit id∧∃ E,Sat g E objs a w
 | _,_,_=>False
section
variable {g:G} {pf:Nat→Cls} {Fin:Exit→Act→World→Prop}

theorem R_finA {E E1:Env} {objs objs1:List Ob} (hE:EnvIn E E1) (ho:objs=objs1):R g pf (FinA g E1 objs1) [] E objs:=by
 subst ho
 exact fun _ a w hs=>hs.ent hE.eent

theorem R_finB {E:Env} {objs objs1:List Ob} {go:Bool} {jmp:Code} (hgo:go=true) (ho:objs=objs1):R g pf (FinB g objs1 go jmp) [] E objs:=by
 subst ho
 exact fun _ a w hs=>⟨hgo,E,hs⟩

theorem R_retB {k:List It} {E:Env} {objs objs1:List Ob} {go:Bool} {jmp:Code} (hgo:go=false) (hj:jmp=.ret) (ho:objs=objs1):R g pf (FinB g objs1 go jmp) (.code .ret::k) E objs:=by
 subst ho
 intro _ a w hs
 exact wpIn_ret (KP_ret k ⟨hgo,hj,E,hs⟩)

def putPs (E:Env):List Nat→List AV→Env
 | p::ps,x::xs=>putPs (put E p x) ps xs
 | _,_=>E

theorem putPs_ok {S:Nat→Prop} {w:World} {φ:List Phy}:∀ (ps:List Nat) (xs:List AV) (vs:List Value) (E:Env) (tmps:Array Value),EnvOk S w φ E { tmps:=tmps,defers:=[] }→(∀ p∈ps,p<tmps.size)→ps.length=xs.length→RVs S w φ xs vs →
  EnvOk S w φ (putPs E ps xs) { tmps:=(ps.zip vs).foldl (fun t (p:Nat × Value)=>t.setIfInBounds p.1 p.2) tmps,defers:=[] }∧((ps.zip vs).foldl (fun t (p:Nat × Value)=>t.setIfInBounds p.1 p.2) tmps).size=tmps.size
 | [],xs,vs,E,tmps,h,_,_,_=>by simpa [putPs] using h
 | p::ps,[],vs,E,tmps,h,_,hl,_=>by simp at hl
 | p::ps,x::xs,[],E,tmps,h,_,_,hv=>by simp [RVs] at hv
 | p::ps,x::xs,v::vs,E,tmps,h,hp,hl,hv=>by
  simp only [RVs] at hv
  have h1:EnvOk S w φ (put E p x) { tmps:=tmps.setIfInBounds p v,defers:=[] }:=by
   have:=put_env (d:=some p) (v:=x) (vv:=v) h rfl (fun t ht=>by cases ht; exact hp p (by simp)) (fun _=>hv.1)
   simpa [putO,Act.put] using this
  obtain ⟨h2,h3⟩:=putPs_ok ps xs vs (put E p x) (tmps.setIfInBounds p v) h1 (fun q hq=>by simpa using hp q (by simp [hq])) (by simpa using hl) hv.2
  refine ⟨by simpa [putPs] using h2,?_⟩
  simp only [List.zip_cons_cons,List.foldl_cons]
  rw [h3]; simp

theorem zip_foldl {ps:Array Nat} {vs:List Value} {tmps:Array Value}:(ps.zip vs.toArray).foldl (fun t (p,v)=>t.setIfInBounds p v) tmps=(ps.toList.zip vs).foldl (fun t (p:Nat × Value)=>t.setIfInBounds p.1 p.2) tmps:=by
 rw [← Array.foldl_toList]; simp [Array.toList_zip]

def allLt:List Nat→Nat→Bool
 | [],_=>true
 | x::l,n=>bif Nat.ble (Nat.succ x) n then allLt l n else false

theorem allLt_ok:∀ {l:List Nat} {n:Nat},allLt l n=true→∀ p∈l,p<n
 | [],_,_=>by simp
 | x::l,n,h=>by
  simp only [allLt] at h
  obtain ⟨h1,h2⟩:=bifT h
  intro p hp
  rcases List.mem_cons.1 hp with rfl | hp
  ·exact Nat.le_of_ble_eq_true h1
  ·exact allLt_ok h2 p hp

theorem R_range (hg:GOk g) (hu:GUp g) (hw:g.F=Fence.wide∧g.dep=0) (hm:g.mks=true) {gop:Operand} {ps:Array Nat} {assign body:Code} {k:List It} {E:Env} {objs:List Ob}
  {α:Type} (els:List α) (enc:α→List AV) (Y:YP) (hys:Y.ys=els.map enc) (ob:Nat→List Ob) (E1:Nat→α→Env) (ob1:Nat→α→List Ob) (m:Nat) (jmp:Code) {f:Nat} {cs cs':List AV} {r:AV} (hx:ev E gop=.clo f [] cs) (hcs:cs.map nrm=cs') (hcp:pureL cs'=true)
  (hc:SCtr g.P Y f (.yl 0::cs') [.yld 0] r [.yld m]) (h0:objs=ob 0) (hps:∀ x∈els,(enc x).length=ps.size) (hN':allLt ps.toList g.N=true)
  (hassign:∀ (n:Nat) (x:α),els[n]? = some x→(n=0∨Y.go n=true)→∀ (l:Nat) (w:World) (R0 X:Nat→Prop) (φ0:List Phy),φ0.length=(ob n).length→AmbOk g.P (fun b=>R0 b∧¬ X b∧b<w.heap.size) w →
   R (gRound g l w R0 X φ0) pf (FinA (gRound g l w R0 X φ0) (E1 n x) (ob1 n x)) [.code assign] (putPs E ps.toList (enc x)) (ob n))
  (hbody:∀ (n:Nat) (x:α),els[n]? = some x→(n=0∨Y.go n=true)→∀ (l:Nat) (w:World) (R0 X:Nat→Prop) (φ0:List Phy),φ0.length=(ob n).length→AmbOk g.P (fun b=>R0 b∧¬ X b∧b<w.heap.size) w →
   R (gRound g l w R0 X φ0) pf (FinB (gRound g l w R0 X φ0) (ob (n+1)) (Y.go (n+1)) jmp) [.code body] (E1 n x) (ob1 n x))
  (hk:(m=0∨Y.go m=true)→R g pf Fin k E (ob m)) (hnd:noDr k=true) (hjc:codeOk pf jmp=true) (hj:m≠0→Y.go m=false→R g pf Fin (.code jmp::k) E (ob m)) (hdf:g.dfs=[]:=by rfl) :
  R g pf Fin (.code (.rangeFunc gop ps assign body)::k) E objs:=by
 have hN:=allLt_ok hN'
 rintro ⟨hok,hok'⟩ a w hs
 simp only [codeOk,Bool.and_eq_true] at hok
 subst h0
 simp only [KP]
 obtain ⟨φ,h1,h2,h3,h4,h5,h6⟩:=hs
 obtain ⟨hF,hd0⟩:=hw
 have hxv:=ev_rv h3 gop
 rw [hx] at hxv
 simp only [RV] at hxv
 obtain ⟨va,vc,hxv,hva,hvc⟩:=hxv
 have hva:va=[]:=by
  cases va with
  | nil=>rfl
  | cons _ _=>simp [RVs] at hva
 subst hva
 have hvc':=hvc.mapEnt nrm Ent.nrm
 rw [hcs] at hvc'
 refine wpIn_rangeFunc fun fn hfn=>?_
 rw [hF,hd0]
 obtain ⟨rec,hrec⟩:∃ rec:LoopState→Option Code→Loop,rec=fun st pe=>{ state:=st,pending:=pe,fn,tmps:=a.tmps,params:=ps,assign,body,defers:=w.heap.size }:=⟨_,rfl⟩
 obtain ⟨W1,hW1⟩:∃ W1,(w.alloc (.deferred (some []))).alloc (.loop (rec .ready none))=W1:=⟨_,rfl⟩
 have hsz1:W1.heap.size=w.heap.size+2:=by rw [← hW1]; simp
 have hL1:W1.heap[w.heap.size+1]? = some (.loop (rec .ready none)):=by
  rw [← hW1]; have:=World.alloc_heap_new (w.alloc (.deferred (some []))) (.loop (rec .ready none)); rwa [World.size_alloc] at this
 have hD1:W1.heap[w.heap.size]? = some (.deferred (some [])):=by
  rw [← hW1]; exact (Below.heap_alloc _ _ _ (by simp)).trans (World.alloc_heap_new w _)
 have hold:∀ b,b<w.heap.size→W1.heap[b]? = w.heap[b]? := fun b hb=>by
  rw [← hW1]; exact (Below.heap_alloc _ _ _ (by simp; omega)).trans (Below.heap_alloc _ _ _ hb)
 have hblφ:∀ {b},bls φ b→b<w.heap.size:=fun {b} hb=>h1.lt b hb
 refine ⟨w.heap.size+1,[{ target:=.collected w.heap.size,args:=#[] }],W1,{ target:=.fn (.func f) vc.toArray,args:=#[.func (.yield (w.heap.size+1)) #[] #[]] },W1,f,
  #[.func (.yield (w.heap.size+1)) #[] #[]]++vc.toArray,W1,?_,?_,?_,?_,fun h=>by simp [Fence.wide] at h,?_⟩
 ·rw [← hW1,hrec]; exact run_enterLoop_outer _ _ _ _ _
 ·simp only [resolve,hxv]
  simp [go_sem]
 ·intro f' _; exact trivial
 ·simp only [invoke]; exact hc.call _ _
 -- what the outer function is,behind n rounds
 obtain ⟨st,hst⟩:∃ st:Nat→LoopState × Option Code,st=fun n=>if n=0∨Y.go n=true then (.ready,none) else (.done,some jmp):=⟨_,rfl⟩
 let I:Nat→(Nat→Prop)→(Nat→Prop)→World→Prop:=fun n B Rr W=>∃ φ',HC Rr φ' (ob n) W∧EnvOk Rr W φ' E a∧(∀ b,B b↔bls φ' b∨b=w.heap.size+1∨b=w.heap.size) ∧
  W.heap[w.heap.size]? = some (.deferred (some []))∧W.heap[w.heap.size+1]? = some (.loop (rec (st n).1 (st n).2))∧(∀ b,bls φ' b→b≠w.heap.size∧b≠w.heap.size+1) ∧
  (∀ b,bls φ' b→bls φ b∨w.heap.size≤b)∧PhsLe g.φ0 φ'∧(∀ (i l:Nat) (J:Nat→(Nat→Prop)→(Nat→Prop)→World→Prop) (B:Nat→Prop),φ'[i]? = some (.ext l J B)→∃ B0,g.φ0[i]? = some (.ext l J B0))
 have hstab:Stab I:=by
  rintro n B Rr Rr' W W' hsz hB hkp ⟨φ',e1,e2,e3,e4,e5,e6,e7,e8,e9⟩
  exact ⟨φ',e1.mono hsz hkp fun b hb=>hB b ((e3 b).2 (.inl hb)),fun t=>(e2 t).mono hkp (.refl _),e3,(hB _ ((e3 _).2 (.inr (.inr rfl)))).trans e4,(hB _ ((e3 _).2 (.inr (.inl rfl)))).trans e5,e6,e7,e8,e9⟩
 obtain ⟨B1,hB1⟩:∃ B1:Nat→Prop,B1=fun b=>bls φ b∨b=w.heap.size+1∨b=w.heap.size:=⟨_,rfl⟩
 have hblsE:∀ {B:Nat→Prop} {b:Nat},bls [Phy.ext (w.heap.size+1) I B] b↔B b:=fun {B b}=>by
  constructor
  ·rintro ⟨i,p,h7,h8⟩
   cases i with
   | zero=>simp at h7; subst h7; exact h8
   | succ i=>simp at h7
  ·exact fun h=>⟨0,_,rfl,h⟩
 have hB1S:∀ b,B1 b→g.S0 b:=fun b hb=>by
  rw [hB1] at hb
  rcases hb with hb | hb | hb
  ·exact (h2 b hb).elim (hu.up b) (hu.x b)
  ·exact h1.up b (by omega)
  ·exact h1.up b (by omega)
 have hkp1:Keep (SS g.S0 φ) w (SS g.S0 [Phy.ext (w.heap.size+1) I B1]) W1:=.of fun b hb hbs=>⟨⟨hb.1,fun hc=>by
  rw [hblsE,hB1] at hc
  rcases hc with hc | hc | hc
  ·exact hb.2 hc
  ·omega
  ·omega⟩,hold b hbs⟩
 have hI1:I 0 B1 (SS g.S0 [Phy.ext (w.heap.size+1) I B1]) W1:=by
  refine ⟨φ,h1.hc.mono (by omega) hkp1 fun b hb=>hold b (hblφ hb),fun t=>(h3 t).mono hkp1 (.refl _),fun b=>by rw [hB1],hD1,?_,fun b hb=>by have:=hblφ hb; omega,fun b hb=>.inl hb,h6.le,h6.gen⟩
  rw [hst]; simpa using hL1
 have hHS1:HS g.S0 [Phy.ext (w.heap.size+1) I B1] [.yld 0] W1:=by
  refine ⟨rfl,fun i ph ob' hi ho=>?_,fun i j p q b hi hj _ _=>?_,fun b hb=>?_,fun b hb=>h1.up b (by omega)⟩
  ·cases i with
   | zero=>simp at hi ho; subst hi; subst ho; simp only [ObOk]; exact ⟨hstab,hI1⟩
   | succ i=>simp at hi
  ·have:=(List.getElem?_eq_some_iff.1 hi).1
   have:=(List.getElem?_eq_some_iff.1 hj).1
   simp at *; omega
  ·rw [hblsE,hB1] at hb
   rcases hb with hb | hb | hb
   ·have:=hblφ hb; omega
   ·omega
   ·omega
 have hY:∀ (i l:Nat) (J:Nat→(Nat→Prop)→(Nat→Prop)→World→Prop) (B:Nat→Prop),[Phy.ext (w.heap.size+1) I B1][i]? = some (Phy.ext l J B)→YStep g.P Fence.wide 0 Y l J g.S0:=by
  intro i l J B hi
  cases i with
  | succ i=>simp at hi
  | zero =>
  simp at hi
  obtain ⟨rfl,rfl,rfl⟩:=hi
  rintro n B W Rr x0 vals ⟨φ',e1,e2,e3,e4,e5,e6,e7,e8,e9⟩ hRS hamb hup hy hgo hv hp
  rw [hys,List.getElem?_map] at hy
  obtain ⟨x,hy2,rfl⟩:=Option.map_eq_some_iff.1 hy
  replace hy:=hy2
  have hst0:st n=(.ready,none):=by rw [hst]; simp only [if_pos hgo]
  rw [hst0] at e5
  have hnb:∀ {b},Rr b→¬ bls φ' b:=fun {b} hb hc=>(hRS b hb).2 ((e3 b).2 (.inl hc))
  have hltl:w.heap.size+1<W.heap.size:=(Array.getElem?_eq_some_iff.1 e5).1
  have hvl:vals.length=ps.size:=by rw [← hv.length]; exact hps x (List.mem_of_getElem? hy)
  have hyr:=run_yield (P:=g.P) (args:=vals.toArray) e5 (by rw [hrec]; simpa using hvl)
  rw [hrec] at hyr
  refine ⟨fn,_,assign,body,hyr,roundIn_of_wpIn trivial ?_⟩
  clear hyr
  have hRid:Keep Rr W (SS Rr φ') W:=fun b hb _=>⟨⟨hb,hnb hb⟩,rfl⟩
  have hxs:RVs (SS Rr φ') W φ' (enc x) vals:=RVs.pure hRid hp hv
  have hsatA:Sat (gRound g (w.heap.size+1) W Rr (bls φ') φ') (putPs E ps.toList (enc x)) (ob n) { tmps:=(ps.zip vals.toArray).foldl (fun t (p,v)=>t.setIfInBounds p v) a.tmps,defers:=[] } W:=by
   have:=putPs_ok ps.toList (enc x) vals E a.tmps (fun t=>(e2 t).mono hRid (.refl _)) (fun p hp'=>by rw [h4]; exact hN p hp') (by rw [hps x (List.mem_of_getElem? hy)]; simp) hxs
   rw [zip_foldl]
   refine ⟨φ',(e1.mono (Nat.le_refl _) hRid fun _ _=>rfl).hs hup,fun b hb=>.inr hb,this.1,this.2.trans h4,.none rfl ⟨fun _=>rfl,.nil,by simp⟩,⟨Nat.le_refl _,rfl,rfl,rfl,fun _ _ _=>rfl,fun i l I B h=>⟨B,h⟩,.refl _⟩⟩
  have hambW:AmbOk g.P (fun b=>Rr b∧¬ bls φ' b∧b<W.heap.size) W:=hamb.at0 fun b hb=>hnb hb
  have hRA:=RK.of_R (pf:=pf) (k:=[.code assign]) ⟨hok.1,trivial⟩ (hassign n x hy hgo (w.heap.size+1) W Rr (bls φ') φ' e1.len hambW) (by simp) _ _ hsatA
  simp only [KP] at hRA
  refine wpIn_mono hRA fun e a1 w1 hq=>?_
  cases e <;> try exact hq.elim
  -- the assignments are done
  obtain ⟨φa,f1,f2,f3,f4,f5,f6⟩:Sat (gRound g (w.heap.size+1) W Rr (bls φ') φ') (E1 n x) (ob1 n x) a1 w1:=hq
  have hsame1:∀ b,b<W.heap.size→¬ bls φ' b→w1.heap[b]? = W.heap[b]? := f6.fr
  have hszW1:W.heap.size≤w1.heap.size:=f6.size
  have hl1:=(hsame1 _ hltl fun hc=>(e6 _ hc).2 rfl).trans e5
  have hD1':=(hsame1 _ (by omega) fun hc=>(e6 _ hc).1 rfl).trans e4
  have hba:∀ b,bls φa b→bls φ' b∨W.heap.size≤b:=fun b hb=>(f2 b hb).symm
  have hbaN:∀ b,bls φa b→b≠w.heap.size∧b≠w.heap.size+1:=fun b hb=>(hba b hb).elim (e6 b) fun h=>by omega
  refine ⟨_,run_beginRound hl1 (by rw [hrec]),?_⟩
  obtain ⟨w2,hw2⟩:∃ w2,w2=w1.putObj (w.heap.size+1) (.loop { rec .ready none with state:=.busy }):=⟨_,rfl⟩
  rw [← hw2]
  have hsz2:w2.heap.size=w1.heap.size:=by rw [hw2]; simp
  have hl2:w2.heap[w.heap.size+1]? = some (.loop { rec .ready none with state:=.busy }):=by rw [hw2]; exact World.putObj_heap_same (by omega)
  have hoth2:∀ b,b≠w.heap.size+1→w2.heap[b]? = w1.heap[b]? := fun b hb=>by rw [hw2]; exact World.putObj_heap_other hb
  have hds:a1.defers=[]:=(f5.only rfl).1 rfl
  have hsatB:Sat (gRound g (w.heap.size+1) w2 Rr (bls φa) φ') (E1 n x) (ob1 n x) a1 w2:=by
   refine ⟨φa,?_,fun b hb=>.inr hb,fun t=>?_,f4,.none rfl ⟨fun _=>hds,by rw [hds]; exact .nil,by rw [hds]; simp⟩,⟨Nat.le_refl _,rfl,rfl,rfl,fun _ _ _=>rfl,f6.gen,f6.le⟩⟩
   ·rw [hw2]; exact HS.shut f1 hl1 (fun h=>h) fun hc=>(hbaN _ hc).2 rfl
   ·rw [hw2]; exact (f3 t).mono (keep_shut hl1 (fun h=>h)) (.refl _)
  have hamb2:AmbOk g.P (fun b=>Rr b∧¬ bls φa b∧b<w2.heap.size) w2:=hambW.keep fun b hb _=>by
   have h7:b≠w.heap.size+1:=fun e=>(hRS b hb.1).2 ((e3 b).2 (.inr (.inl e)))
   exact ⟨⟨hb.1,fun hc=>(hba b hc).elim hb.2.1 fun h=>by have:=hb.2.2; omega,by have:=hb.2.2; omega⟩,(hoth2 b h7).trans (hsame1 b hb.2.2 hb.2.1)⟩
  have hRB:=RK.of_R (pf:=pf) (k:=[.code body]) ⟨hok.2,trivial⟩ (hbody n x hy hgo (w.heap.size+1) w2 Rr (bls φa) φ' e1.len hamb2) (by simp) _ _ hsatB
  simp only [KP] at hRB
  refine wpIn_mono hRB fun e a3 w3 hq=>?_
  -- the round's end,in whichever way
  have fin:∀ (jump:Option Code),(st (n+1))=(if jump.isNone then .ready else .done,jump)→(Y.go (n+1)=jump.isNone)→(∃ E',Sat (gRound g (w.heap.size+1) w2 Rr (bls φa) φ') E' (ob (n+1)) a3 w3) →
    ∃ v w',(Instr.endRound (w.heap.size+1) jump).run g.P w3=.ok v w'∧(Ending.returned v=.returned (.bool (Y.go (n+1)))∧∃ B',I (n+1) B' (fun b=>Rr b∧¬ B' b) w'∧W.heap.size≤w'.heap.size∧w'.os=W.os∧w'.tape=W.tape∧w'.output=W.output ∧
     (∀ b,b<W.heap.size→¬ B b→w'.heap[b]? = W.heap[b]?)∧(∀ b,B' b→B b∨(W.heap.size≤b∧b<w'.heap.size))):=by
   rintro jump hstj hgoj ⟨E',φ3,g1,g2,g3,g4,g5,g6⟩
   have hsz3:w2.heap.size≤w3.heap.size:=g6.size
   have hb3:∀ b,bls φ3 b→bls φ' b∨W.heap.size≤b:=fun b hb=>by
    rcases g2 b hb with h | h
    ·have:w2.heap.size≤b:=h
     right; omega
    ·exact hba b h
   have hb3N:∀ b,bls φ3 b→b≠w.heap.size∧b≠w.heap.size+1:=fun b hb=>(hb3 b hb).elim (e6 b) fun h=>by omega
   have hsame3:∀ b,b<w2.heap.size→¬ bls φa b→w3.heap[b]? = w2.heap[b]? := g6.fr
   have hl3:=(hsame3 _ (by omega) fun hc=>(hbaN _ hc).2 rfl).trans hl2
   have hD3:w3.heap[w.heap.size]? = some (.deferred (some [])):=((hsame3 _ (by omega) fun hc=>(hbaN _ hc).1 rfl).trans (hoth2 _ (by omega))).trans hD1'
   obtain ⟨w4,hw4⟩:∃ w4,w4=w3.putObj (w.heap.size+1) (.loop (rec (st (n+1)).1 (st (n+1)).2)):=⟨_,rfl⟩
   have hoth4:∀ b,b≠w.heap.size+1→w4.heap[b]? = w3.heap[b]? := fun b hb=>by rw [hw4]; exact World.putObj_heap_other hb
   have hsz4:w4.heap.size=w3.heap.size:=by rw [hw4]; simp
   have hend:=run_endRound (P:=g.P) jump hl3
   refine ⟨_,w4,?_,by rw [hgoj],fun b=>bls φ3 b∨b=w.heap.size+1∨b=w.heap.size,?_,by omega,?_,?_,?_,fun b hb hB=>?_,fun b hb=>?_⟩
   ·rw [hend,hw4,hstj]; cases jump <;> simp [hrec]
   ·have hsameR:∀ b,b<W.heap.size→¬ bls φ' b→b≠w.heap.size+1→w4.heap[b]? = W.heap[b]? := fun b hb h7 h8=>by
     have hna:¬ bls φa b:=fun hc=>(hba b hc).elim h7 fun h=>by omega
     exact (((hoth4 b h8).trans (hsame3 b (by omega) hna)).trans (hoth2 b h8)).trans (hsame1 b hb h7)
    have hkR:Keep Rr W (fun b=>Rr b∧¬ (bls φ3 b∨b=w.heap.size+1∨b=w.heap.size)) w4:=.of fun b hb hbs=>by
     have hnB:¬ B b:=(hRS b hb).2
     have h7:¬ bls φ' b:=hnb hb
     have h8:b≠w.heap.size+1:=fun e=>hnB ((e3 b).2 (.inr (.inl e)))
     have h9:b≠w.heap.size:=fun e=>hnB ((e3 b).2 (.inr (.inr e)))
     refine ⟨⟨hb,fun hc=>?_⟩,hsameR b hbs h7 h8⟩
     rcases hc with hc | hc | hc
     ·exact (hb3 b hc).elim h7 fun h=>by omega
     ·exact h8 hc
     ·exact h9 hc
    have hkS:Keep (SS Rr φ3) w3 (fun b=>Rr b∧¬ (bls φ3 b∨b=w.heap.size+1∨b=w.heap.size)) w4:=fun b hb _=>by
     have hnB:¬ B b:=(hRS b hb.1).2
     have h8:b≠w.heap.size+1:=fun e=>hnB ((e3 b).2 (.inr (.inl e)))
     have h9:b≠w.heap.size:=fun e=>hnB ((e3 b).2 (.inr (.inr e)))
     exact ⟨⟨hb.1,fun hc=>by
      rcases hc with hc | hc | hc
      ·exact hb.2 hc
      ·exact h8 hc
      ·exact h9 hc⟩,hoth4 b h8⟩
    refine ⟨φ3,g1.hc.mono (by omega) hkS fun b hb=>hoth4 b (hb3N b hb).2,fun t=>(e2 t).mono hkR g6.le,fun b=>Iff.rfl,(hoth4 _ (by omega)).trans hD3,by rw [hw4]; exact World.putObj_heap_same (by omega),hb3N,fun b hb=>?_,e8.trans g6.le,fun i l J B' hi=>?_⟩
    ·exact (hb3 b hb).elim (e7 b) fun h=>.inr (by omega)
    ·obtain ⟨B0,h7⟩:=g6.gen i l J B' hi
     exact e9 i l J B0 h7
   ·rw [hw4]; exact ((g6.os).trans (by rw [show (gRound g (w.heap.size+1) w2 Rr (bls φa) φ').w0=w2 from rfl,hw2]; exact f6.os))
   ·rw [hw4]; exact ((g6.tape).trans (by rw [show (gRound g (w.heap.size+1) w2 Rr (bls φa) φ').w0=w2 from rfl,hw2]; exact f6.tape))
   ·rw [hw4]; exact ((g6.out).trans (by rw [show (gRound g (w.heap.size+1) w2 Rr (bls φa) φ').w0=w2 from rfl,hw2]; exact f6.out))
   ·have h7:¬ bls φ' b:=fun hc=>hB ((e3 b).2 (.inl hc))
    have h8:b≠w.heap.size+1:=fun e=>hB ((e3 b).2 (.inr (.inl e)))
    have hna:¬ bls φa b:=fun hc=>(hba b hc).elim h7 fun h=>by omega
    exact (((hoth4 b h8).trans (hsame3 b (by omega) hna)).trans (hoth2 b h8)).trans (hsame1 b hb h7)
   ·rcases hb with hb | hb | hb
    ·rcases hb3 b hb with h7 | h7
     ·exact .inl ((e3 b).2 (.inl h7))
     ·exact .inr ⟨h7,by have:=g1.lt b hb; omega⟩
    ·exact .inl ((e3 b).2 (.inr (.inl hb)))
    ·exact .inl ((e3 b).2 (.inr (.inr hb)))
  cases e with
  | normal =>
   obtain ⟨hgo1,hsat⟩:Y.go (n+1)=true∧_:=hq
   exact fin none (by rw [hst]; simp [hgo1]) (by rw [hgo1]; rfl) hsat
  | ret =>
   obtain ⟨hgo1,hj,hsat⟩:Y.go (n+1)=false∧_:=hq
   exact fin (some .ret) (by rw [hst]; simp [hgo1,hj]) (by rw [hgo1]; rfl) hsat
  | exit id =>
   obtain ⟨hgo1,hj,hsat⟩:Y.go (n+1)=false∧_:=hq
   exact fin (some (.exit id)) (by rw [hst]; simp [hgo1,hj]) (by rw [hgo1]; rfl) hsat
  | goto t=>exact hq.elim
  | panic ch=>exact hq.elim
  | outgrown=>exact hq.elim
 have hargs:RVs (SS g.S0 [Phy.ext (w.heap.size+1) I B1]) W1 [Phy.ext (w.heap.size+1) I B1] (.yl 0::cs') (.func (.yield (w.heap.size+1)) #[] #[]::vc):=by
  simp only [RVs]
  exact ⟨by simp only [RV]; exact ⟨_,I,B1,rfl,rfl⟩,RVs.pure hkp1 hcp hvc'⟩
 have hcall:=hc.run g.S0 [Phy.ext (w.heap.size+1) I B1] W1 _ ((hg.ambAt h2 h6).keep hkp1) hHS1 (fun b hb=>hB1S b (hblsE.1 hb)) hY hargs
 rw [show (#[Value.func (.yield (w.heap.size+1)) #[] #[]]++vc.toArray)=(Value.func (.yield (w.heap.size+1)) #[] #[]::vc).toArray from by simp]
 refine (callsIn_wide.2 hcall).mono ?_
 rintro e W2 ⟨v,φ1,rfl,_,hstp⟩
 -- behind the iterator
 obtain ⟨p',hp1,hp2⟩:=hstp.le 0 _ rfl
 obtain ⟨B2,hp1⟩:∃ B2,φ1[0]? = some (.ext (w.heap.size+1) I B2):=by
  rcases hp2 with rfl | ⟨_,_,_,_,_,_,_,_,e,_⟩ | ⟨_,_,_,_,e,_⟩ | ⟨l',I',B',B'',e,rfl⟩ | ⟨_,_,e,_⟩
  ·exact ⟨_,hp1⟩
  ·cases e
  ·cases e
  ·cases e; exact ⟨_,hp1⟩
  ·cases e
 have hk2:=hstp.hs.ok 0 _ _ hp1 rfl
 simp only [ObOk] at hk2
 obtain ⟨_,φ',e1,e2,e3,e4,e5,e6,e7,e8,e9⟩:=hk2
 have hltl:w.heap.size+1<W2.heap.size:=(Array.getElem?_eq_some_iff.1 e5).1
 have hbB2:∀ b,B2 b→bls φ1 b:=fun b hb=>⟨0,_,hp1,hb⟩
 have hend:=run_endLoop (P:=g.P) e5 (by rw [hrec,hst]; simp only; split <;> simp)
 obtain ⟨W3,hW3⟩:∃ W3,W3=W2.putObj (w.heap.size+1) (.loop { rec (st m).1 (st m).2 with state:=.exhausted }):=⟨_,rfl⟩
 have hoth:∀ b,b≠w.heap.size+1→W3.heap[b]? = W2.heap[b]? := fun b hb=>by rw [hW3]; exact World.putObj_heap_other hb
 have hsz3:W3.heap.size=W2.heap.size:=by rw [hW3]; simp
 have hszW:W1.heap.size≤W2.heap.size:=hstp.size
 have hkF:Keep (SS g.S0 φ1) W2 (SS g.S0 φ') W3:=fun b hb _=>by
  have hnB:¬ B2 b:=fun hc=>hb.2 (hbB2 b hc)
  exact ⟨⟨hb.1,fun hc=>hnB ((e3 b).2 (.inl hc))⟩,hoth b fun e=>hnB ((e3 b).2 (.inr (.inl e)))⟩
 have hsameO:∀ b,b<w.heap.size→¬ bls φ b→W3.heap[b]? = w.heap[b]? := fun b hb hn=>by
  refine ((hoth b (by omega)).trans (hstp.fr b (by omega) fun hc=>?_)).trans (hold b hb)
  rw [hblsE,hB1] at hc
  rcases hc with hc | hc | hc
  ·exact hn hc
  ·omega
  ·omega
 have h5:=h5.only hdf
 have hsat:Sat g E (ob m) { a with defers:={ target:=.collected w.heap.size,args:=#[] }::a.defers } W3:=by
  refine ⟨φ',(e1.mono (by omega) hkF fun b hb=>hoth b (e6 b hb).2).hs fun b hb=>h1.up b (by omega),fun b hb=>?_,fun t=>?_,h4,.none hdf ⟨fun h=>(by rw [hm] at h; cases h),?_,fun d hd=>?_⟩,⟨?_,?_,?_,?_,fun b hb hx=>?_,e9,e8⟩⟩
  ·rcases e7 b hb with h | h
   ·exact h2 b h
   ·left; have:=h6.size; omega
  ·have:=(e2 t).mono hkF (.refl φ')
   exact this
  ·refine List.nodup_cons.2 ⟨fun hc=>?_,h5.2.1⟩
   obtain ⟨D',h7,_,_,h8⟩:=h5.2.2 _ hc
   simp only [Deferred.mk.injEq,Target.collected.injEq,and_true] at h7
   have:=(Array.getElem?_eq_some_iff.1 h8).1
   omega
  ·rcases List.mem_cons.1 hd with rfl | hd
   ·exact ⟨_,rfl,h6.size,fun hc=>(e6 _ hc).1 rfl,(hoth _ (by omega)).trans e4⟩
   ·obtain ⟨D',h7,h8,h9,h10⟩:=h5.2.2 d hd
    have hDl:=(Array.getElem?_eq_some_iff.1 h10).1
    exact ⟨D',h7,h8,fun hc=>(e7 _ hc).elim h9 fun h=>by omega,(hsameO D' hDl h9).trans h10⟩
  ·have:=h6.size; omega
  ·rw [hW3]; exact (hstp.os.trans (by rw [← hW1]; rfl)).trans h6.os
  ·rw [hW3]; exact (hstp.tape.trans (by rw [← hW1]; rfl)).trans h6.tape
  ·rw [hW3]; exact (hstp.out.trans (by rw [← hW1]; rfl)).trans h6.out
  ·have hbw:b<w.heap.size:=Nat.lt_of_lt_of_le hb h6.size
   rw [hsameO b hbw fun hc=>(h2 b hc).elim (fun h=>by omega) hx]
   exact h6.fr b hb hx
 refine ⟨(st m).2,W3,by rw [hend,hrec] at *; rw [hW3],?_⟩
 by_cases hgo:m=0∨Y.go m=true
 ·have:(st m).2=none:=by rw [hst]; simp only [if_pos hgo]
  rw [this]
  exact RK.of_R (pf:=pf) (k:=k) hok' (hk hgo) (noDr_head hnd) _ _ hsat
 ·have:(st m).2=some jmp:=by rw [hst]; simp only [if_neg hgo]
  rw [this]
  have hm0:m≠0:=fun e=>hgo (.inl e)
  have hgf:Y.go m=false:=by
   cases h:Y.go m
   ·rfl
   ·exact absurd (.inr h) hgo
  have hR:=RK.of_R (pf:=pf) (k:=.code jmp::k) ⟨hjc,hok'⟩ (hj hm0 hgf) (by simp) _ _ hsat
  simp only [KP,hF,hd0] at hR
  exact hR
end
end PSL
namespace PSL
open Go Go.RowKit Go.MapKept
section
variable {g:G} {pf:Nat→Cls} {ops:Array Oper} {Fin:Exit→Act→World→Prop}
end
end PSL
namespace PSL
open Go Go.RowKit Go.MapKept

def getI:List (Int × AV)→Int→Option AV
 | [],_=>none
 | p::r,n=>if p.1=n then some p.2 else getI r n
section
variable {g:G} {pf:Nat→Cls} {ops:Array Oper} {Fin:Exit→Act→World→Prop}
end

theorem R_dropO {g:G} {pf:Nat→Cls} {Fin:Exit→Act→World→Prop} {k:List It} {E:Env} {objs:List Ob} (n:Nat) (objs':List Ob) (hn:g.φ0.length≤n) (ht:topCode k=true) (ho:(objs.take n).map (mapOb (trimA n))=objs')
  (hr:R g pf Fin k (mapE (trimA n) E) objs') (hdf:g.dfs=[]:=by rfl):R g pf Fin k E objs:=by
 subst ho; exact R_drop n hn ht hr hdf

theorem R_callSO {g:G} {pf:Nat→Cls} {ops:Array Oper} {Fin:Exit→Act→World→Prop} (hg:GOk g) (hu:GUp g) (hF:g.F=Fence.wide∧g.dep=0) (hY:∀ (i l:Nat) (I:Nat→(Nat→Prop)→(Nat→Prop)→World→Prop) (B:Nat→Prop),g.φ0[i]? = some (Phy.ext l I B)→YStep g.P Fence.wide 0 g.Y l I g.S0) (is:List Nat) (objs':List Ob) {Y:YP} {f:Nat} {axs:List AV} {objs0 objs1:List Ob} {r:AV} (hc:SCtr g.P Y f axs objs0 r objs1) (hcc:(∃ (i l:Nat) (I:Nat→(Nat→Prop)→(Nat→Prop)→World→Prop) (B:Nat→Prop),g.φ0[i]? = some (Phy.ext l I B))→Y=g.Y) {dst:Option Nat} {x:Operand} {args:Array Operand} {ts:Array Nat} {ty:Nat} {pos:String} {after:Array Edge} {gd:Option (Nat × Bool)}
  {rest:List Oper} {k:List It} {E:Env} {objs:List Ob} {fs cs:List AV}
  (hgd:guardA ops.toList E gd=some true) (hd:dstOk ⟨g.ty,g.N⟩ dst=true) (hcl:clsOf pf (.call { callee:=.value x,args:=args,argTypes:=ts })=.eff) (hx:ev E x=.clo f fs cs) (hok:isOk (len objs) is=true) (hpick:pickN objs is=some (objs0.map (renOb (rn is (len objs)))))
  (has:(fs++args.toList.map (ev E)++cs).map nrm=renL (rn is (len objs)) axs) (ho:putAll is (objs1.map (renOb (rn is (len objs)))) objs=objs')
  (hr:R g pf Fin (.dr ops rest::k) (putO E dst (renA (rn is (len objs)) r)) objs') :
  R g pf Fin (.dr ops (⟨dst,.call { callee:=.value x,args:=args,argTypes:=ts },ty,pos,after,gd⟩::rest)::k) E objs:=by
 subst ho
 exact R_callS hg hu hF hY is hc hcc hgd hd hcl hx hok hpick has hr
end PSL

namespace PSL
open Go

inductive Tm where
 | mk (k:Int) (s:ByteArray) (n:Int) (l:List Tm)
namespace Tm
def k:Tm→Int | mk k _ _ _=>k
def s:Tm→ByteArray | mk _ s _ _=>s
def n:Tm→Int | mk _ _ n _=>n
def l:Tm→List Tm | mk _ _ _ l=>l

theorem ind {p:Tm→Prop} (h:∀ t:Tm,(∀ x∈t.l,p x)→p t) (t:Tm):p t :=
 Tm.rec (motive_1:=p) (motive_2:=fun l=>∀ x∈l,p x) (fun k s n l ih=>h (.mk k s n l) ih) (by simp) (fun x r h1 h2=>by
  intro y hy
  rcases List.mem_cons.1 hy with rfl | hy
  ·exact h1
  ·exact h2 y hy) t

mutual
def rowM:Tm→List D
 | mk k s n l=>[.v (.int .i64 k),.v (.string s),.v (.int .i64 n),.sl (rows l)]
def rows:List Tm→List (List D)
 | []=>[]
 | t::r=>rowM t::rows r
end
def row (t:Tm):List D:=[.v (.int .i64 t.k),.v (.string t.s),.v (.int .i64 t.n),.sl (rows t.l)]
theorem rowM_eq (t:Tm):rowM t=row t:=by cases t; simp only [rowM,row,k,s,n,l]

theorem rows_eq (l:List Tm):rows l=l.map row:=by
 induction l with
 | nil=>rfl
 | cons x r ih=>simp only [rows,rowM_eq,List.map_cons,ih]
theorem rows_length (l:List Tm):(rows l).length=l.length:=by rw [rows_eq]; simp
theorem rows_get {l:List Tm} {i:Nat} {x:Tm} (h:l[i]? = some x):(rows l)[i]? = some (row x):=by rw [rows_eq,List.getElem?_map,h]; rfl
def av (t:Tm):AV:=.agg [.d (.v (.int .i64 t.k)),.d (.v (.string t.s)),.d (.v (.int .i64 t.n)),.d (.sl (rows t.l))]

mutual
def same:Tm→Tm→Bool
 | mk k s n l,mk k' s' n' l'=>k==k'&&n==n'&&strEq s s'&&sameL l l'
def sameL:List Tm→List Tm→Bool
 | [],[]=>true
 | x::r,y::r'=>same x y&&sameL r r'
 | _,_=>false
end
end Tm
end PSL
namespace PSL
open Go
namespace Tm

mutual
def els:Tm→Int→List (Int × Tm)
 | mk k s n l,d=>(d,mk k s n l)::elsL l (d+1)
def elsL:List Tm→Int→List (Int × Tm)
 | [],_=>[]
 | t::r,d=>els t d++elsL r d
end
theorem els_eq (t:Tm) (d:Int):els t d=(d,t)::elsL t.l (d+1):=by cases t; rfl

mutual
def size:Tm→Nat
 | mk _ _ _ l=>1+sizeL l
def sizeL:List Tm→Nat
 | []=>0
 | t::r=>size t+sizeL r
end
theorem size_eq (t:Tm):size t=1+sizeL t.l:=by cases t; simp only [size,l]

mutual
theorem els_len:∀ (t:Tm) (d:Int),(els t d).length=size t
 | mk k s n l,d=>by simp only [els,size,List.length_cons,elsL_len l]; omega
theorem elsL_len:∀ (l:List Tm) (d:Int),(elsL l d).length=sizeL l
 | [],_=>rfl
 | t::r,d=>by simp only [elsL,sizeL,List.length_append,els_len t,elsL_len r]
end

theorem elsL_append:∀ (a b:List Tm) (d:Int),elsL (a++b) d=elsL a d++elsL b d
 | [],b,d=>by simp [elsL]
 | x::a,b,d=>by simp only [List.cons_append,elsL,elsL_append a b d,List.append_assoc]

theorem sizeL_append:∀ (a b:List Tm),sizeL (a++b)=sizeL a+sizeL b
 | [],b=>by simp [sizeL]
 | x::a,b=>by simp only [List.cons_append,sizeL,sizeL_append a b,Nat.add_assoc]

theorem sizeL_take_succ {l:List Tm} {k:Nat} {x:Tm} (h:l[k]? = some x):sizeL (l.take (k+1))=sizeL (l.take k)+size x:=by
 rw [List.take_add_one,h,sizeL_append]; simp [sizeL]

theorem size_mem {l:List Tm} {x:Tm} (h:x∈l):size x≤sizeL l:=by
 induction l with
 | nil=>simp at h
 | cons y l ih =>
  simp only [sizeL]
  rcases List.mem_cons.1 h with rfl | h
  ·omega
  ·have:=ih h; omega

theorem len_le_sizeL:∀ (l:List Tm),l.length≤sizeL l
 | []=>Nat.le_refl _
 | x::l=>by have:=len_le_sizeL l; have:=size_eq x; simp only [sizeL,List.length_cons]; omega
def enc (e:Int × Tm):List AV:=[iV e.1,e.2.av]
end Tm

def adv (Y:YP):Nat→Nat→Nat × Bool
 | 0,n=>(n,true)
 | k+1,n=>if Y.go (n+1)=true then adv Y k (n+1) else (n+1,false)

theorem adv_true {Y:YP}:∀ {k n:Nat},(adv Y k n).2=true→(adv Y k n).1=n+k∧(0<k→Y.go (n+k)=true)
 | 0,n,_=>by simp [adv]
 | k+1,n,h=>by
  simp only [adv] at h ⊢
  split at h
  ·rename_i hg
   rw [if_pos hg]
   obtain ⟨h1,h2⟩:=adv_true h
   refine ⟨by rw [h1]; omega,fun _=>?_⟩
   rcases Nat.eq_zero_or_pos k with h0 | h0
   ·subst h0; exact hg
   ·have:=h2 h0; rw [show n+(k+1)=n+1+k by omega]; exact this
  ·cases h

theorem adv_false {Y:YP}:∀ {k n:Nat},(adv Y k n).2=false→Y.go (adv Y k n).1=false∧(adv Y k n).1≠0
 | 0,n,h=>by simp [adv] at h
 | k+1,n,h=>by
  simp only [adv] at h ⊢
  split at h
  ·rename_i hg; rw [if_pos hg]; exact adv_false h
  ·rename_i hg; rw [if_neg hg]; exact ⟨by simpa using hg,by simp⟩

theorem adv_add {Y:YP}:∀ {a b n:Nat},adv Y (a+b) n=if (adv Y a n).2=true then adv Y b (adv Y a n).1 else adv Y a n
 | 0,b,n=>by simp [adv]
 | a+1,b,n=>by
  rw [show a+1+b=(a+b)+1 by omega]
  simp only [adv]
  split
  ·exact adv_add
  ·simp
theorem adv_add_true {Y:YP} {a b n:Nat} (h:adv Y a n=(n+a,true)):adv Y (a+b) n=adv Y b (n+a):=by rw [adv_add,h]; simp
theorem adv_eq {Y:YP} {k n:Nat} (h:(adv Y k n).2=true):adv Y k n=(n+k,true):=Prod.ext (adv_true h).1 h
end PSL
namespace PSL
open Go
def byteOk (b:UInt8):Bool:=!(decide ((b.toNat:Int)<32) || decide ((b.toNat:Int) > 126))
def namedB (s:ByteArray):Bool:=s.data.toList.all byteOk&&(decide ((s.size:Int) ≥ 1)&&decide ((s.size:Int)≤20))
theorem byte_atK {s:ByteArray} {k:Nat} (h:k<s.size):s[k]? = some s[k]:=getElem?_pos s k h

theorem all_bytes {s:ByteArray} {p:UInt8→Bool} (h:∀ k (hk:k<s.size),p s[k]=true):s.data.toList.all p=true:=by
 rw [List.all_eq_true]
 intro b hb
 obtain ⟨i,hi,rfl⟩:=List.mem_iff_getElem.1 hb
 have:i<s.size:=by simpa using hi
 exact h i this

theorem not_all_bytes {s:ByteArray} {p:UInt8→Bool} {k:Nat} (hk:k<s.size) (h:p s[k]=false):s.data.toList.all p=false:=by
 rw [List.all_eq_false]
 refine ⟨s[k],?_,by simp [h]⟩
 have:s[k]=s.data.toList[k]'(by simpa using hk):=rfl
 rw [this]; exact List.getElem_mem _
namespace Tm

def ownT (t:Tm):Bool :=
 if t.k=1 then decide (t.n ≥ 0)&&decide (t.n<1000000)&&strEq t.s ⟨#[]⟩&&((t.l.length:Int)==0)
 else if t.k=2 then strEq t.s ⟨#[]⟩&&((t.l.length:Int)==0)
 else if t.k=3 then (t.n==0)&&namedB t.s&&decide ((t.l.length:Int)≤8)
 else false
end Tm
end PSL
namespace PSL
open Go

theorem adv_all {Y:YP}:∀ {k n:Nat},(adv Y k n).2=true↔∀ i,i<k→Y.go (n+i+1)=true
 | 0,n=>by simp [adv]
 | k+1,n=>by
  simp only [adv]
  split
  ·rename_i h
   rw [adv_all]
   constructor
   ·intro h1 i hi
    cases i with
    | zero=>exact h
    | succ i=>have:=h1 i (by omega); rw [show n+(i+1)+1=n+1+i+1 by omega]; exact this
   ·intro h1 i hi
    have:=h1 (i+1) (by omega); rw [show n+1+i+1=n+(i+1)+1 by omega]; exact this
  ·rename_i h
   constructor
   ·intro h1; cases h1
   ·intro h1; exact absurd (h1 0 (by omega)) h
theorem lt_dec {k n:Nat} {m:Int} (h:decide ((k:Int)<m)=true) (e:m=n):k<n:=by have:=of_decide_eq_true h; omega
theorem ge_dec {k n:Nat} {m:Int} (h:decide ((k:Int)<m)=false) (e:m=n):n≤k:=by have:=of_decide_eq_false h; omega
theorem w64 {n:Int} (h1:-9223372036854775808≤n) (h2:n<9223372036854775808):IntKind.i64.wrap n=n:=wrap_id h1 h2

def I64 (n:Int):Prop:=-9223372036854775808≤n∧n≤9223372036854775807
namespace Tm

mutual
def depth:Tm→Nat
 | mk _ _ _ l=>depthL l+1
def depthL:List Tm→Nat
 | []=>0
 | t::r=>max (depth t) (depthL r)
end
theorem depth_eq (t:Tm):depth t=depthL t.l+1:=by cases t; simp only [depth,l]

mutual
theorem depth_le_size:∀ (t:Tm),depth t≤size t
 | mk k s n l=>by have:=depthL_le_sizeL l; simp only [depth,size]; omega
theorem depthL_le_sizeL:∀ (l:List Tm),depthL l≤sizeL l
 | []=>Nat.le_refl _
 | t::r=>by have:=depth_le_size t; have:=depthL_le_sizeL r; simp only [depthL,sizeL]; omega
end

def kindR (k:Int) (s:ByteArray) (n:Int) (m:Nat):Bool :=
 if k=1 then decide (n ≥ 0)&&decide (n<1000000)&&strEq s ⟨#[]⟩&&((m:Int)==0)
 else if k=2 then strEq s ⟨#[]⟩&&((m:Int)==0)
 else (k==3)&&(n==0)&&decide ((s.size:Int) ≥ 1)&&decide ((s.size:Int)≤20)&&decide ((m:Int)≤8)

mutual
def fairR:Tm→Bool
 | mk k s n l=>s.data.toList.all byteOk&&fairRL l&&kindR k s n l.length
def fairRL:List Tm→Bool
 | []=>true
 | t::r=>fairR t&&fairRL r
end
theorem fairR_eq (t:Tm):fairR t=(t.s.data.toList.all byteOk&&fairRL t.l&&kindR t.k t.s t.n t.l.length):=by cases t; simp only [fairR,l,k,s,n]

theorem fairRL_iff:∀ {l:List Tm},fairRL l=true↔∀ t∈l,fairR t=true
 | []=>by simp [fairRL]
 | t::r=>by simp [fairRL,fairRL_iff (l:=r)]

theorem els_memL {l:List Tm} {x:Tm} {d:Int} {e:Int × Tm} (h:x∈l) (he:e∈els x d):e∈elsL l d:=by
 induction l with
 | nil=>simp at h
 | cons y l ih =>
  simp only [elsL,List.mem_append]
  rcases List.mem_cons.1 h with rfl | h
  ·exact .inl he
  ·exact .inr (ih h)

theorem elsL_mem {l:List Tm} {d:Int} {e:Int × Tm} (h:e∈elsL l d):∃ x∈l,e∈els x d:=by
 induction l with
 | nil=>simp [elsL] at h
 | cons y l ih =>
  simp only [elsL,List.mem_append] at h
  rcases h with h | h
  ·exact ⟨y,by simp,h⟩
  ·obtain ⟨x,hx,he⟩:=ih h; exact ⟨x,by simp [hx],he⟩

def Ok (t:Tm):Prop:=∀ d e,e∈els t d→e.2.l.length≤140737488355328∧e.2.s.size≤140737488355328
theorem Ok.len {t:Tm} (h:t.Ok):t.l.length≤140737488355328:=(h 0 (0,t) (by rw [els_eq]; simp)).1
theorem Ok.name {t:Tm} (h:t.Ok):t.s.size≤140737488355328:=(h 0 (0,t) (by rw [els_eq]; simp)).2
theorem Ok.sub {t x:Tm} (h:t.Ok) (hx:x∈t.l):x.Ok:=fun d e he=>h (d - 1) e (by rw [els_eq]; exact List.mem_cons_of_mem _ (els_memL hx (by rw [Int.sub_add_cancel]; exact he)))

def fewStep (s:ByteArray) (most deep:Int):Bool:=decide (IntKind.i64.wrap (most - 1)<0) || decide (deep<1) || decide ((s.size:Int) > 100)

mutual
def few:Tm→Int→Int→Int
 | mk _ s _ l,most,deep=>if fewStep s most deep then -1 else fewL l (IntKind.i64.wrap (most - 1)) (IntKind.i64.wrap (deep - 1))
def fewL:List Tm→Int→Int→Int
 | [],most,_=>most
 | t::r,most,deep=>if most ≥ 0 then fewL r (few t most deep) deep else most
end
theorem few_eq (t:Tm) (m d:Int):few t m d=if fewStep t.s m d then -1 else fewL t.l (IntKind.i64.wrap (m - 1)) (IntKind.i64.wrap (d - 1)):=by cases t; simp only [few]; rfl

mutual
theorem few_le:∀ (t:Tm) (m d:Int),0≤m→m<9223372036854775808→d≤1000→few t m d=-1∨(few t m d+size t≤m∧depth t≤d∧t.s.size≤100∧0≤few t m d∧∀ x e,e∈els t x→e.2.s.size≤100)
 | mk k s n l,m,d,h0,h1,h2=>by
  simp only [few]
  split
  ·exact .inl rfl
  ·rename_i hs
   simp only [fewStep,Bool.or_eq_true,decide_eq_true_eq,not_or] at hs
   have e1:IntKind.i64.wrap (m - 1)=m - 1:=w64 (by omega) (by omega)
   rw [e1] at hs ⊢
   have e2:IntKind.i64.wrap (d - 1)=d - 1:=w64 (by omega) (by omega)
   rw [e2]
   rcases fewL_le l (m - 1) (d - 1) (by omega) (by omega) (by omega) with h | ⟨h3,h4,h5,h6⟩
   ·exact .inl h
   ·refine .inr ⟨by simp only [size]; omega,by simp only [depth]; omega,?_,h5,fun x e he=>?_⟩
    ·show s.size≤100; omega
    ·simp only [els,List.mem_cons] at he
     rcases he with rfl | he
     ·show s.size≤100; omega
     ·exact h6 _ _ he
theorem fewL_le:∀ (l:List Tm) (m d:Int),0≤m→m<9223372036854775808→0≤d∧d≤1000→fewL l m d=-1∨(fewL l m d+sizeL l≤m∧depthL l≤d∧0≤fewL l m d∧∀ x e,e∈elsL l x→e.2.s.size≤100)
 | [],m,d,h0,h1,h2=>by simp only [fewL,sizeL,depthL,elsL]; exact .inr ⟨by omega,by omega,h0,by simp⟩
 | t::r,m,d,h0,h1,h2=>by
  simp only [fewL]
  rw [if_pos h0]
  rcases few_le t m d h0 h1 h2.2 with h | ⟨h3,h4,_,h5,h6⟩
  ·rw [h]
   cases r with
   | nil=>exact .inl rfl
   | cons u r=>simp only [fewL]; exact .inl (by rw [if_neg (by omega)])
  ·rcases fewL_le r (few t m d) d h5 (by omega) h2 with h | ⟨h7,h8,h9,h10⟩
   ·exact .inl h
   ·refine .inr ⟨by simp only [sizeL]; omega,by simp only [depthL]; omega,h9,fun x e he=>?_⟩
    simp only [elsL,List.mem_append] at he
    rcases he with he | he
    ·exact h6 _ _ he
    ·exact h10 _ _ he
end
def rightB (t:Tm):Bool:=fairR t&&decide (t.size≤3000)&&decide (t.depth≤100)
theorem toList_data (s:ByteArray):s.toList=s.data.toList:=ByteArray.toList_eq s

theorem strEq_iff {a b:ByteArray}:strEq a b=true↔a=b:=by
 simp only [strEq,beq_iff_eq]
 constructor
 ·intro h
  rw [toList_data,toList_data] at h
  cases a; cases b
  simpa using h
 ·rintro rfl; rfl

theorem ownT_eq (t:Tm):t.ownT=(t.s.data.toList.all byteOk&&kindR t.k t.s t.n t.l.length):=by
 unfold ownT kindR
 split
 ·by_cases h:strEq t.s ⟨#[]⟩=true
  ·have:=strEq_iff.1 h
   rw [this]; simp
  ·simp [h]
 ·split
  ·by_cases h:strEq t.s ⟨#[]⟩=true
   ·have:=strEq_iff.1 h
    rw [this]; simp
   ·simp [h]
  ·split
   ·rename_i h; simp only [h,namedB]
    cases t.s.data.toList.all byteOk <;> simp [Bool.and_assoc]
   ·rename_i h; simp [h]

mutual
theorem fair_els:∀ (t:Tm) (d:Int),(∀ e∈els t d,e.2.ownT=true)↔fairR t=true
 | mk k s n l,d=>by
  have h:=fairL_els l (d+1)
  have h2:(mk k s n l).ownT=(s.data.toList.all byteOk&&kindR k s n l.length):=ownT_eq _
  simp only [els,List.mem_cons,forall_eq_or_imp,h,h2,fairR,Bool.and_eq_true]
  constructor
  ·rintro ⟨⟨h1,h2⟩,h3⟩; exact ⟨⟨h1,h3⟩,h2⟩
  ·rintro ⟨⟨h1,h2⟩,h3⟩; exact ⟨⟨h1,h3⟩,h2⟩
theorem fairL_els:∀ (l:List Tm) (d:Int),(∀ e∈elsL l d,e.2.ownT=true)↔fairRL l=true
 | [],d=>by simp [elsL,fairRL]
 | t::r,d=>by
  simp only [elsL,List.mem_append,fairRL,Bool.and_eq_true,← fair_els t d,← fairL_els r d]
  constructor
  ·intro h; exact ⟨fun e he=>h e (.inl he),fun e he=>h e (.inr he)⟩
  ·rintro ⟨h1,h2⟩ e (he | he)
   ·exact h1 e he
   ·exact h2 e he
end

mutual
theorem deep_els:∀ (t:Tm) (d m:Int),(∀ e∈els t d,e.1≤m)↔d+t.depth - 1≤m
 | mk k s n l,d,m=>by
  simp only [els,List.mem_cons,forall_eq_or_imp,deepL_els l (d+1) m,depth]
  cases hl:l with
  | nil=>simp [depthL]
  | cons x r =>
   have:0<depthL (x::r):=by simp only [depthL]; have:=depth_eq x; omega
   simp only [List.cons_ne_nil,false_or]
   omega
theorem deepL_els:∀ (l:List Tm) (d m:Int),(∀ e∈elsL l d,e.1≤m)↔l=[]∨d+depthL l - 1≤m
 | [],d,m=>by simp [elsL]
 | t::r,d,m=>by
  have h1:=deep_els t d m
  have h2:=deepL_els r d m
  simp only [elsL,List.mem_append,depthL,List.cons_ne_nil,false_or]
  have h3:=depth_eq t
  constructor
  ·intro h
   have h4:=h1.1 fun e he=>h e (.inl he)
   have h5:=h2.1 fun e he=>h e (.inr he)
   rcases h5 with rfl | h5
   ·simp only [depthL]; omega
   ·omega
  ·intro h e he
   rcases he with he | he
   ·exact h1.2 (by omega) e he
   ·refine h2.2 ?_ e he
    right; omega
end
end Tm
def stepR (e:Int × Tm) (n:Nat):Bool:=!(decide (e.1 > 100) || decide ((n:Int) > 3000) || !e.2.ownT)

def goR (t:Tm) (n:Nat):Bool:=match n with
 | 0=>true
 | m+1=>match (t.els 1)[m]? with
  | some e=>stepR e (m+1)
  | none=>true
def rightT (t:Tm):Bool:=(adv ⟨(t.els 1).map Tm.enc,goR t⟩ t.size 0).2

theorem adv_els {t:Tm} {g:Nat→Bool}:(adv ⟨(t.els 1).map Tm.enc,g⟩ t.size 0).2=true↔∀ i,i<t.size→g (i+1)=true:=by
 rw [adv_all]; simp

theorem rightT_eq (t:Tm):rightT t=t.rightB:=by
 rw [Bool.eq_iff_iff]
 unfold rightT
 rw [adv_els]
 unfold Tm.rightB
 simp only [Bool.and_eq_true,decide_eq_true_eq,← Tm.fair_els t 1]
 have hd:=Tm.deep_els t 1 100
 have hl:=Tm.els_len t 1
 have hs:=Tm.size_eq t
 constructor
 ·intro h
  have h1:∀ e∈t.els 1,e.1≤100∧e.2.ownT=true:=fun e he=>by
   obtain ⟨i,hi,rfl⟩:=List.mem_iff_getElem.1 he
   have:=h i (by omega)
   simp only [goR,List.getElem?_eq_getElem hi,stepR,Bool.not_eq_true',Bool.or_eq_false_iff,decide_eq_false_iff_not,Bool.not_eq_false'] at this
   exact ⟨by omega,this.2⟩
  refine ⟨⟨fun e he=>(h1 e he).2,?_⟩,?_⟩
  ·have hi:t.size - 1<(t.els 1).length:=by omega
   have:=h (t.size - 1) (by omega)
   simp only [goR,List.getElem?_eq_getElem hi,stepR,Bool.not_eq_true',Bool.or_eq_false_iff,decide_eq_false_iff_not,Bool.not_eq_false'] at this
   omega
  ·have:=hd.1 fun e he=>(h1 e he).1
   omega
 ·rintro ⟨⟨h1,h2⟩,h3⟩ i hi
  have hi':i<(t.els 1).length:=by omega
  have h4:=hd.2 (by omega) _ (List.getElem_mem hi')
  simp only [goR,List.getElem?_eq_getElem hi',stepR,Bool.not_eq_true',Bool.or_eq_false_iff,decide_eq_false_iff_not,Bool.not_eq_false']
  exact ⟨⟨by omega,by omega⟩,h1 _ (List.getElem_mem hi')⟩
namespace Tm

mutual
def turnT (g:Int→Int):Tm→Tm
 | mk k s n l=>mk k s (if k=1 then g n else n) (turnTL g l)
def turnTL (g:Int→Int):List Tm→List Tm
 | []=>[]
 | t::r=>turnT g t::turnTL g r
end
end Tm

def atI:List Int→Int→Int→Int
 | [],_,_=>-1
 | x::r,n,i=>if x=n then i else atI r n (i+1)
def addV (l:List Int) (x:Int):List Int:=if l.contains x then l else l++[x]
def stepV (l:List Int) (e:Int × Tm):List Int:=if e.2.k=1 then addV l e.2.n else l

def varsT (l:List Tm):List Int:=l.foldl (fun a t=>(t.els 1).foldl stepV a) []
namespace Tm

mutual
def withV:List Int→Tm→List Int
 | a,mk k _ n l=>if k=1 then addV a n else withVL a l
def withVL:List Int→List Tm→List Int
 | a,[]=>a
 | a,t::r=>withVL (withV a t) r
end

mutual
def plain:Tm→Bool
 | mk k _ _ l=>!((k==1) && !l.isEmpty)&&plainL l
def plainL:List Tm→Bool
 | []=>true
 | t::r=>plain t&&plainL r
end
theorem addV_len' (l:List Int) (x:Int):(addV l x).length≤l.length+1:=by unfold addV; split <;> simp

mutual
theorem els_with:∀ (t:Tm) (d:Int) (a:List Int),plain t=true→(els t d).foldl stepV a=withV a t
 | mk k s n l,d,a,h=>by
  simp only [plain,Bool.and_eq_true,Bool.not_eq_true',Bool.and_eq_false_iff] at h
  simp only [els,List.foldl_cons,withV]
  by_cases hk:k=1
  ·have hl:l=[]:=by
    rcases h.1 with h1 | h1
    ·simp [hk] at h1
    ·simpa using h1
   subst hl
   simp only [elsL,List.foldl_nil,hk,if_true]
   rfl
  ·rw [if_neg hk,elsL_with l (d+1) _ h.2]
   simp only [stepV,Tm.k,hk,if_false]
theorem elsL_with:∀ (l:List Tm) (d:Int) (a:List Int),plainL l=true→(elsL l d).foldl stepV a=withVL a l
 | [],d,a,h=>rfl
 | t::r,d,a,h=>by
  simp only [plainL,Bool.and_eq_true] at h
  simp only [elsL,List.foldl_append,withVL,els_with t d a h.1,elsL_with r d _ h.2]
end
end Tm

theorem varsT_with:∀ (l:List Tm),Tm.plainL l=true→varsT l=Tm.withVL [] l:=by
 have key:∀ (l:List Tm) (a:List Int),Tm.plainL l=true→l.foldl (fun a t=>(t.els 1).foldl stepV a) a=Tm.withVL a l:=by
  intro l
  induction l with
  | nil=>intro a _; rfl
  | cons t r ih =>
   intro a h
   simp only [Tm.plainL,Bool.and_eq_true] at h
   simp only [List.foldl_cons,Tm.withVL,Tm.els_with t 1 a h.1,ih _ h.2]
 exact fun l h=>key l [] h
end PSL
namespace PSL
open Go Go.RowKit

def vLe:Value→Value→Bool
 | .int k a,.int k' b=>kEq k k'&&a==b
 | .bool a,.bool b=>a==b
 | .string a,.string b=>strEq a b
 | .slice none 0 0,.slice none 0 0=>true
 | _,_=>false

theorem vLe_ok {a b:Value} (h:vLe a b=true):a=b:=by
 unfold vLe at h
 split at h
 ·simp only [Bool.and_eq_true,beq_iff_eq] at h; rw [kEq_eq h.1,h.2]
 ·simp at h; rw [h]
 ·rename_i x y
  simp only [strEq,beq_iff_eq,ByteArray.toList_eq] at h
  cases x; cases y
  simp at h; rw [h]
 ·rfl
 ·cases h

mutual
def dLe:D→D→Bool
 | .v a,y=>match y with
  | .v b=>vLe a b
  | .sl []=>match a with
   | .slice none 0 0=>true
   | _=>false
  | _=>false
 | .sl r,y=>match y with
  | .sl r'=>rowsLe r r'
  | _=>false
 | .ptr l,y=>match y with
  | .ptr l'=>rowLe l l'
  | _=>false
 | .map _,_=>false
def rowLe:List D→List D→Bool
 | [],[]=>true
 | x::l,y::m=>dLe x y&&rowLe l m
 | _,_=>false
def rowsLe:List (List D)→List (List D)→Bool
 | [],[]=>true
 | x::l,y::m=>rowLe x y&&rowsLe l m
 | _,_=>false
end

theorem rowLe_len:∀ {l m:List D},rowLe l m=true→l.length=m.length
 | [],[],_=>rfl
 | [],_::_,h=>by simp [rowLe] at h
 | _::_,[],h=>by simp [rowLe] at h
 | x::l,y::m,h=>by simp only [rowLe,Bool.and_eq_true] at h; simp [rowLe_len h.2]

theorem rowLe_get:∀ {l m:List D} {j:Nat} {y:D},rowLe l m=true→m[j]? = some y→∃ x,l[j]? = some x∧dLe x y=true
 | [],[],_,_,_,h=>by simp at h
 | [],_::_,_,_,h,_=>by simp [rowLe] at h
 | _::_,[],_,_,h,_=>by simp [rowLe] at h
 | x::l,y::m,0,z,h,hz=>by simp only [rowLe,Bool.and_eq_true] at h; simp at hz; subst hz; exact ⟨x,rfl,h.1⟩
 | x::l,y::m,j+1,z,h,hz=>by simp only [rowLe,Bool.and_eq_true] at h; simpa using rowLe_get h.2 (by simpa using hz)

theorem rowsLe_len:∀ {l m:List (List D)},rowsLe l m=true→l.length=m.length
 | [],[],_=>rfl
 | [],_::_,h=>by simp [rowsLe] at h
 | _::_,[],h=>by simp [rowsLe] at h
 | x::l,y::m,h=>by simp only [rowsLe,Bool.and_eq_true] at h; simp [rowsLe_len h.2]

theorem rowsLe_get:∀ {l m:List (List D)} {j:Nat} {y:List D},rowsLe l m=true→m[j]? = some y→∃ x,l[j]? = some x∧rowLe x y=true
 | [],[],_,_,_,h=>by simp at h
 | [],_::_,_,_,h,_=>by simp [rowsLe] at h
 | _::_,[],_,_,h,_=>by simp [rowsLe] at h
 | x::l,y::m,0,z,h,hz=>by simp only [rowsLe,Bool.and_eq_true] at h; simp at hz; subst hz; exact ⟨x,rfl,h.1⟩
 | x::l,y::m,j+1,z,h,hz=>by simp only [rowsLe,Bool.and_eq_true] at h; simpa using rowsLe_get h.2 (by simpa using hz)

theorem dLe_ok {S:Nat→Prop} {w:World} {x:D} {v:Value} (hr:Rd S w x v):∀ {y:D},dLe x y=true→Rd S w y v:=by
 induction hr with
 | v x =>
  intro y h
  cases y with
  | v b=>simp only [dLe] at h; rw [vLe_ok h]; exact .v _
  | sl r =>
   cases r with
   | nil =>
    simp only [dLe] at h
    split at h
    ·exact .nil _ _
    ·cases h
   | cons _ _=>simp [dLe] at h
  | ptr _=>simp [dLe] at h
  | map _=>simp [dLe] at h
 | nil a c =>
  intro y h
  cases y with
  | v b=>simp [dLe] at h
  | sl r =>
   simp only [dLe] at h
   have:=rowsLe_len h
   have:r=[]:=List.length_eq_zero_iff.1 this.symm
   subst this; exact .nil _ _
  | ptr _=>simp [dLe] at h
  | map _=>simp [dLe] at h
 | @sl rows b o cap sz cs T fr g hS hb hl hc hsz hg _ ih =>
  intro y h
  cases y with
  | v b=>simp [dLe] at h
  | ptr _=>simp [dLe] at h
  | map _=>simp [dLe] at h
  | sl r =>
   simp only [dLe] at h
   have hlen:=rowsLe_len h
   rw [hlen]
   refine .sl (sz:=sz) g hS hb (by omega) hc (fun i row hi=>?_) (fun i row j x hi hj=>?_) (fun i row j x hi hj=>?_)
   ·obtain ⟨row',h1,h2⟩:=rowsLe_get h hi
    rw [← rowLe_len h2]; exact hsz i row' h1
   ·obtain ⟨row',h1,h2⟩:=rowsLe_get h hi
    obtain ⟨x',h3,_⟩:=rowLe_get h2 hj
    exact hg i row' j x' h1 h3
   ·obtain ⟨row',h1,h2⟩:=rowsLe_get h hi
    obtain ⟨x',h3,h4⟩:=rowLe_get h2 hj
    exact ih i row' j x' h1 h3 h4
 | @ptr l b o cs T fr g hS hb hg _ ih =>
  intro y h
  cases y with
  | v b=>simp [dLe] at h
  | sl r=>simp [dLe] at h
  | map _=>simp [dLe] at h
  | ptr m =>
   simp only [dLe] at h
   refine .ptr g hS hb (fun j x hj=>?_) (fun j x hj=>?_)
   ·obtain ⟨x',h3,_⟩:=rowLe_get h hj
    exact hg j x' h3
   ·obtain ⟨x',h3,h4⟩:=rowLe_get h hj
    exact ih j x' h3 h4
 | map g hS hb hk hg _ ih=>intro y h; simp [dLe] at h

mutual
def aLe:AV→AV→Bool
 | .d x,y=>match y with
  | .d y=>dLe x y
  | _=>false
 | .agg l,y=>match y with
  | .agg m=>asLe l m
  | _=>false
 | .tup l,y=>match y with
  | .tup m=>asLe l m
  | _=>false
 | _,_=>false
def asLe:List AV→List AV→Bool
 | [],[]=>true
 | x::l,y::m=>aLe x y&&asLe l m
 | _,_=>false
end

mutual
theorem aLe_ok {S:Nat→Prop} {w:World} {φ:List Phy}:∀ {x y:AV} {v:Value},aLe x y=true→RV S w φ x v→RV S w φ y v
 | .d x,y,v,h,hr=>by
  cases y <;> simp only [aLe] at h <;> try (cases h; done)
  simp only [RV] at hr ⊢
  exact dLe_ok hr h
 | .agg l,y,v,h,hr=>by
  cases y <;> simp only [aLe] at h <;> try (cases h; done)
  simp only [RV] at hr ⊢
  obtain ⟨cs,h1,h2⟩:=hr
  exact ⟨cs,h1,asLe_ok h h2⟩
 | .tup l,y,v,h,hr=>by
  cases y <;> simp only [aLe] at h <;> try (cases h; done)
  simp only [RV] at hr ⊢
  obtain ⟨cs,h1,h2⟩:=hr
  exact ⟨cs,h1,asLe_ok h h2⟩
 | .any,_,_,h,_=>by simp [aLe] at h
 | .tt,_,_,h,_=>by simp [aLe] at h
 | .ff,_,_,h,_=>by simp [aLe] at h
 | .fs _,_,_,h,_=>by simp [aLe] at h
 | .lo _ _,_,_,h,_=>by simp [aLe] at h
 | .el _ _ _ _,_,_,h,_=>by simp [aLe] at h
 | .vw _ _ _,_,_,h,_=>by simp [aLe] at h
 | .ow _ _,_,_,h,_=>by simp [aLe] at h
 | .mp _,_,_,h,_=>by simp [aLe] at h
 | .yl _,_,_,h,_=>by simp [aLe] at h
 | .clo _ _ _,_,_,h,_=>by simp [aLe] at h
theorem asLe_ok {S:Nat→Prop} {w:World} {φ:List Phy}:∀ {l m:List AV} {vs:List Value},asLe l m=true→RVs S w φ l vs→RVs S w φ m vs
 | [],[],_,_,h=>h
 | [],_::_,_,h,_=>by simp [asLe] at h
 | _::_,[],_,h,_=>by simp [asLe] at h
 | x::l,y::m,[],_,h=>by simp [RVs] at h
 | x::l,y::m,v::vs,h,hr=>by
  simp only [asLe,Bool.and_eq_true] at h
  simp only [RVs] at hr ⊢
  exact ⟨aLe_ok h.1 hr.1,asLe_ok h.2 hr.2⟩
end

theorem PCtr.le {P:Program} {f:Nat} {axs as':List AV} {r:AV} (h:PCtr P f axs r) (hl:asLe as' axs=true):PCtr P f as' r :=
 ⟨h.call,fun S w vals ha hS hv=>h.run S w vals ha hS (asLe_ok hl hv)⟩

theorem R_callN {g:G} {pf:Nat→Cls} {ops:Array Oper} {Fin:Exit→Act→World→Prop} (hg:GOk g) {f:Nat} {axs:List AV} {r:AV} (hc:PCtr g.P f axs r) {as':List AV} {dst:Option Nat} {x:Operand} {args:Array Operand} {ts:Array Nat} {ty:Nat} {pos:String} {after:Array Edge} {gd:Option (Nat × Bool)}
  {rest:List Oper} {k:List It} {E:Env} {objs:List Ob} {fs cs:List AV}
  (hgd:guardA ops.toList E gd=some true) (hd:dstOk ⟨g.ty,g.N⟩ dst=true) (hx:ev E x=.clo f fs cs) (has:(fs++args.toList.map (ev E)++cs).map nrm=as') (hle:asLe as' axs=true) (hpa:pureL as'=true) (hpr:pureA r=true)
  (hr:R g pf Fin (.dr ops rest::k) (putO E dst r) objs) :
  R g pf Fin (.dr ops (⟨dst,.call { callee:=.value x,args:=args,argTypes:=ts },ty,pos,after,gd⟩::rest)::k) E objs :=
 R_call hg (hc.le hle) hgd hd hx has hpa hpr hr
end PSL
namespace PSL
open Go Go.RowKit Go.MapKept

theorem R_appendO {g:G} {pf:Nat→Cls} {ops:Array Oper} {Fin:Exit→Act→World→Prop} (hg:GOk g) {dst:Option Nat} {T T':Nat} {x y:Operand} {ty:Nat} {pos:String} {after:Array Edge} {gd:Option (Nat × Bool)} {rest:List Oper} {k:List It} {E:Env} {objs:List Ob}
  {i s sz q q' by_ by' e e':Nat} {z z':List Value} {τ:Ty} {rows news:List (List D)} (rows':List (List D))
  (hgd:guardA ops.toList E gd=some true) (hd:dstOk ⟨g.ty,g.N⟩ dst=true) (hx:ev E x=.ow i s) (ho:nth objs i=some (.arr sz s rows)) (hy:nrm (ev E y)=.d (.sl news))
  (hT:g.ty T=some ⟨q,by_,z,.slice e⟩) (hT':g.ty T'=some ⟨q',by',z',.slice e'⟩) (he:g.ty e=some τ) (hsz:τ.size=sz) (hlen:∀ r∈news,r.length=sz) (hone:∀ r∈news,∀ x∈r,one1 (.d x)=true)
  (hrows:rows++news=rows') (hbytes:(rows.length+news.length) * τ.bytes≤140737488355328) (hmax:rows.length+news.length≤140737488355328)
  (hr:R g pf Fin (.dr ops rest::k) (putO E dst (.ow i (Nat.succ s))) (setN objs i (.arr sz (Nat.succ s) rows'))) :
  R g pf Fin (.dr ops (⟨dst,.call { callee:=.builtin .append,args:=#[x,y],argTypes:=#[T,T'] },ty,pos,after,gd⟩::rest)::k) E objs:=by
 subst hrows
 exact R_append hg hgd hd hx ho hy hT hT' he hsz hlen hone hbytes hmax hr
theorem PCtr.one {P:Program} {f:Nat} {t:Tm} {r:AV} (h:PCtr P f [.d (.sl (Tm.rows [t]))] r):PCtr P f [.d (.sl [Tm.row t])] r:=by rwa [Tm.rows_eq] at h
end PSL
namespace PSL
open Go Go.RowKit
section
variable {g:G} {pf:Nat→Cls} {Fin:Exit→Act→World→Prop}

theorem KP_cut {M:Env→List Ob→Prop} {k:List It} (h:∀ E objs,M E objs→RK g Fin k E objs):∀ (e:Exit) (a:Act) (w:World),KP g Fin (.mark M::k) e a w→KP g Fin k e a w:=fun e a w hk=>by
 cases e with
 | normal=>obtain ⟨E,objs,h1,h2⟩:=hk; exact h E objs h1 a w h2
 | _=>exact hk

theorem KP_under {K1 K2:List It} (h:∀ (e:Exit) (a:Act) (w:World),KP g Fin K1 e a w→KP g Fin K2 e a w) (i:It):∀ (e:Exit) (a:Act) (w:World),KP g Fin (i::K1) e a w→KP g Fin (i::K2) e a w:=fun e a w hk=>by
 cases i with
 | code c =>
  cases e with
  | normal=>exact wpIn_mono hk h
  | _=>exact h _ _ _ hk
 | blk id =>
  cases e with
  | exit j =>
   simp only [KP] at hk ⊢
   split
   ·rename_i hj; rw [if_pos hj] at hk; exact h _ _ _ hk
   ·rename_i hj; rw [if_neg hj] at hk; exact h _ _ _ hk
  | _=>exact h _ _ _ hk
 | mark M =>
  cases e with
  | normal=>exact hk
  | _=>exact h _ _ _ hk
 | dr ops r=>exact h _ _ _ hk

abbrev MarkOf {β:Type} (st:β→Env × List Ob) (inv:β→Prop):Env→List Ob→Prop:=fun E' objs'=>∃ p,inv p∧EnvIn E' (st p).1∧objs'=(st p).2

theorem RK_of_cut {β:Type} {st:β→Env × List Ob} {inv:β→Prop} {k:List It} (ho:ItsOk pf k) (hk:noDr k=true) (h2:∀ p,inv p→R g pf Fin k (st p).1 (st p).2):∀ E objs,MarkOf st inv E objs→RK g Fin k E objs:=by
 rintro E objs ⟨p,h1,h3,rfl⟩
 exact RK.of_R (pf:=pf) (k:=k) ho ((h2 p h1).ent h3.eent) (noDr_head hk)

theorem R_cut1 {β:Type} (st:β→Env × List Ob) (inv:β→Prop) {i:It} {k:List It} {E:Env} {objs:List Ob} (hk:noDr k=true) (h1:R g pf Fin (i :: .mark (MarkOf st inv)::k) E objs) (h2:∀ p,inv p→R g pf Fin k (st p).1 (st p).2):R g pf Fin (i::k) E objs:=by
 intro ho
 have hok:ItsOk pf k:=by
  cases i with
  | code c=>exact ho.2
  | _=>exact ho
 have hc:=KP_cut (RK_of_cut (g:=g) (Fin:=Fin) hok hk h2)
 have ho':ItsOk pf (i :: .mark (MarkOf st inv)::k):=by
  cases i with
  | code c=>exact ho
  | _=>exact ho
 have h:=h1 ho'
 cases i with
 | dr ops rest =>
  exact Dr.monoK (fun E objs hr a w hs=>hc _ _ _ (hr a w hs)) h
 | code c=>exact fun a w hs=>KP_under hc (.code c) _ _ _ (h a w hs)
 | blk id=>exact fun a w hs=>KP_under hc (.blk id) _ _ _ (h a w hs)
 | mark M=>exact fun a w hs=>KP_under hc (.mark M) _ _ _ (h a w hs)

theorem R_to {β:Type} {st:β→Env × List Ob} {inv:β→Prop} {k:List It} {E:Env} {objs:List Ob} (p:β) (h1:inv p) (h3:EnvIn E (st p).1) (h4:objs=(st p).2):R g pf Fin (.mark (MarkOf st inv)::k) E objs:=R_mark ⟨p,h1,h3,h4⟩

theorem R_freezeO (hu:GUp g) {k:List It} {E:Env} {objs:List Ob} (i:Nat) (E':Env) (objs':List Ob) {sz s:Nat} {rows:List (List D)} (ho:nth objs i=some (.arr sz s rows)) (ht:topCode k=true)
  (hE:EnvIn (mapE (frzA i s rows) E) E') (hO:ObsIn (setN (objs.map (mapOb (frzA i s rows))) i .dead) objs') (hr:R g pf Fin k E' objs') (hdf:g.dfs=[]:=by rfl):R g pf Fin k E objs :=
 R_freeze hu i ho ht (R_weak E' hE (R_obs objs' hO ht hr)) hdf

theorem Ent.frz (i s:Nat) (rows:List (List D)):Ent (frzA i s rows (.ow i s)) (.d (.sl rows)):=by
 have:frzA i s rows (.ow i s)=.d (.sl rows):=by simp [frzA]
 rw [this]; exact .refl _
theorem Ent.bool {m n:Bool} (h:m=n):Ent (bV m) (bV n):=by subst h; exact .refl _
end
end PSL
namespace PSL
open Go Go.RowKit
section
variable {g:G} {pf:Nat→Cls} {ops:Array Oper} {Fin:Exit→Act→World→Prop}

theorem R_quo (hg:GOk g) {dst:Option Nat} {T T2:Nat} {x y:Operand} {ty:Nat} {pos:String} {after:Array Edge} {gd:Option (Nat × Bool)} {rest:List Oper} {k:List It} {E:Env} {objs:List Ob} {q:IntKind} {m n:Int}
  (hgd:guardA ops.toList E gd=some true) (hd:dstOk ⟨g.ty,g.N⟩ dst=true) (hx:ev E x=.d (.v (.int q m))) (hy:ev E y=.d (.v (.int q n))) (hn:n≠0)
  (hr:R g pf Fin (.dr ops rest::k) (putO E dst (.d (.v (.int q (q.wrap (m.tdiv n)))))) objs):R g pf Fin (.dr ops (⟨dst,.binOp .quo T x y T2,ty,pos,after,gd⟩::rest)::k) E objs:=by
 refine R_op (LocOp.up (LocOp.quiet hg hgd hd (by simp) fun φ objs a w hρ hs=>?_)) hr
 simp only [Op.operands] at hρ
 have hxv:=hρ x (by simp)
 rw [hx] at hxv
 have hyv:=hρ y (by simp)
 rw [hy] at hyv
 simp only [RV] at hxv hyv
 generalize hvx:a.eval x=vx at hxv
 generalize hvy:a.eval y=vy at hyv
 cases hxv; cases hyv
 refine out_val hs (vv:=.int q (q.wrap (m.tdiv n))) ?_ (by simp only [RV]; exact .v _)
 have hgdd:(eqGuard .quo T x y (.int q m) (.int q n)).run g.P w=.ok () w:=run_eqGuard (by rfl)
 simp only [execOp,hvx,hvy,Sem.run_bind,hgdd,Result.andThen_ok]
 simp [binOp,Op.intArith,Op.intDiv,hn]

theorem R_rem (hg:GOk g) {dst:Option Nat} {T T2:Nat} {x y:Operand} {ty:Nat} {pos:String} {after:Array Edge} {gd:Option (Nat × Bool)} {rest:List Oper} {k:List It} {E:Env} {objs:List Ob} {q:IntKind} {m n:Int}
  (hgd:guardA ops.toList E gd=some true) (hd:dstOk ⟨g.ty,g.N⟩ dst=true) (hx:ev E x=.d (.v (.int q m))) (hy:ev E y=.d (.v (.int q n))) (hn:n≠0)
  (hr:R g pf Fin (.dr ops rest::k) (putO E dst (.d (.v (.int q (m.tmod n))))) objs):R g pf Fin (.dr ops (⟨dst,.binOp .rem T x y T2,ty,pos,after,gd⟩::rest)::k) E objs:=by
 refine R_op (LocOp.up (LocOp.quiet hg hgd hd (by simp) fun φ objs a w hρ hs=>?_)) hr
 simp only [Op.operands] at hρ
 have hxv:=hρ x (by simp)
 rw [hx] at hxv
 have hyv:=hρ y (by simp)
 rw [hy] at hyv
 simp only [RV] at hxv hyv
 generalize hvx:a.eval x=vx at hxv
 generalize hvy:a.eval y=vy at hyv
 cases hxv; cases hyv
 refine out_val hs (vv:=.int q (m.tmod n)) ?_ (by simp only [RV]; exact .v _)
 have hgdd:(eqGuard .rem T x y (.int q m) (.int q n)).run g.P w=.ok () w:=run_eqGuard (by rfl)
 simp only [execOp,hvx,hvy,Sem.run_bind,hgdd,Result.andThen_ok]
 simp [binOp,Op.intArith,Op.intDiv,hn]

theorem R_min (hg:GOk g) {dst:Option Nat} {x y:Operand} {ts:Array Nat} {ty:Nat} {pos:String} {after:Array Edge} {gd:Option (Nat × Bool)} {rest:List Oper} {k:List It} {E:Env} {objs:List Ob} {m n:Int}
  (hgd:guardA ops.toList E gd=some true) (hd:dstOk ⟨g.ty,g.N⟩ dst=true) (hx:ev E x=.d (.v (.int .i64 m))) (hy:ev E y=.d (.v (.int .i64 n)))
  (hr:R g pf Fin (.dr ops rest::k) (putO E dst (iV (min m n))) objs):R g pf Fin (.dr ops (⟨dst,.call { callee:=.builtin .min,args:=#[x,y],argTypes:=ts },ty,pos,after,gd⟩::rest)::k) E objs:=by
 refine R_op (LocOp.effect hg hgd hd (by simp) fun φ a w hρ hs=>?_) hr
 simp only [Op.operands,Call.operands] at hρ
 have hxv:=hρ x (by simp)
 rw [hx] at hxv
 have hyv:=hρ y (by simp)
 rw [hy] at hyv
 simp only [RV] at hxv hyv
 generalize hvx:a.eval x=vx at hxv
 generalize hvy:a.eval y=vy at hyv
 cases hxv; cases hyv
 refine out_val hs (vv:=.int .i64 (min m n)) ?_ (by simp only [RV,iV]; exact .v _)
 simp [execOp,resolve,invoke,builtin,hvx,hvy,Builtin.min_,Builtin.min2]
 omega
end
end PSL
namespace PSL
open Go Go.RowKit Go.MapKept
end PSL

namespace PSL
open Go Go.RowKit Go.ChangeShapes Go.WideShapes

def HasFs (H:Nat→List D→Prop) (ty:Nat→Option Ty):List (Nat × Nat)→List D→Prop
 | [],row=>row=[]
 | (_,t)::fs,row=>∃ (τ:Ty) (a b:List D),ty t=some τ∧row=a++b∧a.length=τ.size∧H t a∧HasFs H ty fs b

def HasTy (ty:Nat→Option Ty) (B:Nat):Nat→Nat→List D→Prop
 | 0,_,_=>False
 | n+1,t,row=>match ty t with
  | none=>False
  | some τ=>match τ.sh with
   | .int k=>∃ m,row=[.v (.int k m)]∧k.min≤m∧m≤k.max
   | .bool=>∃ b,row=[.v (.bool b)]
   | .str=>∃ s:ByteArray,row=[.v (.string s)]∧s.size≤B
   | .struct flds=>HasFs (HasTy ty B n) ty flds row
   | .slice e=>∃ rows:List (List D),row=[.sl rows]∧(∀ τ,ty e=some τ→rows.length * τ.bytes≤B)∧∀ r∈rows,HasTy ty B n e r
   | _=>False

def contig (ty:Nat→Option Ty) (size:Nat):List (Nat × Nat)→Nat→Bool
 | [],o=>o==size
 | (f,t)::fs,o=>match ty t with
  | some τ=>f==o&&contig ty size fs (o+τ.size)
  | none=>false

def dT (ty:Nat→Option Ty) (L:List Nat) (t:Nat):Bool :=
 match ty t with
 | some τ=>match τ.sh with
  | .int _=>true
  | .bool=>true
  | .str=>true
  | .struct flds=>flds.all (fun f=>L.contains f.2)&&contig ty τ.size flds 0
  | .slice e=>L.contains e&&match ty e with | some τ'=>decide (0<τ'.size) | none=>false
  | _=>false
 | none=>false
section
variable {H:Type} {enc:TypeId × Value→H} {P:Program} {w:World} {base:Nat} {held:Bool} {ty:Nat→Option Ty}

theorem cellsOf_ty (hty:TyOk P ty) {t:Nat} {τ:Ty} (h:ty t=some τ):P.cellsOf t=τ.size:=by
 obtain ⟨i,z,h1,_,h3,_⟩:=(hty t τ h).info
 simp [Program.cellsOf,h1,h3]
theorem und_ty (hty:TyOk P ty) {t:Nat} {τ:Ty} (h:ty t=some τ):ShFact P t τ.sh:=(hty t τ h).sh

theorem weightsAll_mem {P:Program} {e:TypeId} {d:DataW H} {m:Nat}:∀ {l:List (DataW H)},d∈l→m∈d.weights P e→m∈DataW.weightsAll P e l
 | x::l,h,hm=>by
  simp only [DataW.weightsAll,List.mem_append]
  rcases List.mem_cons.1 h with rfl | h
  ·exact .inl hm
  ·exact .inr (weightsAll_mem h hm)

theorem choose_lt {α:Type} [Inhabited α] {n:Nat} {p:Nat→α→Prop} (h:∀ i,i<n→∃ x,p i x):∃ f:Nat→α,∀ i,i<n→p i (f i):=by
 classical
 refine ⟨fun i=>if hi:i<n then Classical.choose (h i hi) else default,fun i hi=>?_⟩
 simp only [dif_pos hi]
 exact Classical.choose_spec (h i hi)

theorem trod_rd (hty:TyOk P ty) {L:List Nat} (hL:∀ t∈L,dT ty L t=true) (B:Nat):∀ (n t:Nat) (τ:Ty) (cs:List Value) (x:DataW H × List MemPlace),t∈L→DataW.trod enc P w base (fun _=>true) held n t cs=some x→ty t=some τ→(∀ m∈x.1.weights P t,m≤B) →
  ∃ row,cs.length=τ.size∧row.length=τ.size∧HasTy ty B n t row∧∀ (j:Nat) (d:D),row[j]? = some d→∃ v,cs[j]? = some v∧Rd (fun _=>True) w d v
 | 0,_,_,_,_,_,h,_,_=>by simp [DataW.trod] at h
 | n+1,t,τ,cs,x,htL,h,hτ,hwt=>by
  have hd:=hL t htL
  have hsh:=und_ty hty hτ
  have h1:=(hty t τ hτ).one
  unfold dT at hd
  rw [hτ] at hd
  simp only at hd
  have one:∀ (d:D) (v:Value),τ.size=1→cs=[v]→Rd (fun _=>True) w d v→HasTy ty B (n+1) t [d]→∃ row,cs.length=τ.size∧row.length=τ.size∧HasTy ty B (n+1) t row∧∀ (j:Nat) (d:D),row[j]? = some d→∃ v,cs[j]? = some v∧Rd (fun _=>True) w d v:=by
   intro d v hs hcs hr hh
   refine ⟨[d],by rw [hcs,hs]; rfl,by rw [hs]; rfl,hh,fun j d' hj=>?_⟩
   match j,hj with
   | 0,hj=>simp at hj; subst hj; exact ⟨v,by rw [hcs]; rfl,hr⟩
  cases hs:τ.sh with
  | one=>rw [hs] at hd; cases hd
  | int k =>
   rw [hs] at hsh; simp only [ShFact] at hsh
   obtain ⟨m,hcs,hx,hwf⟩:=DataW.trod_int hsh h
   refine one (.v (.int k m)) _ (h1 (by unfold Ty.agg; rw [hs])) hcs (.v _) ?_
   simp only [HasTy,hτ,hs]
   simp only [Lit.wf,Bool.and_eq_true,decide_eq_true_eq] at hwf
   exact ⟨m,rfl,hwf⟩
  | bool =>
   rw [hs] at hsh; simp only [ShFact] at hsh
   obtain ⟨b,hcs,hx⟩:=DataW.trod_bool hsh h
   refine one (.v (.bool b)) _ (h1 (by unfold Ty.agg; rw [hs])) hcs (.v _) ?_
   simp only [HasTy,hτ,hs]
   exact ⟨b,rfl⟩
  | str =>
   rw [hs] at hsh; simp only [ShFact] at hsh
   obtain ⟨s,hcs,hx,hwf⟩:=DataW.trod_string hsh h
   refine one (.v (.string s)) _ (h1 (by unfold Ty.agg; rw [hs])) hcs (.v _) ?_
   simp only [HasTy,hτ,hs]
   subst hx
   exact ⟨s,rfl,by simpa using hwt s.data.toList.length (by simp [DataW.weights])⟩
  | struct flds =>
   rw [hs] at hsh hd; simp only [ShFact] at hsh
   simp only [Bool.and_eq_true,List.all_eq_true,List.contains_iff_mem] at hd
   obtain ⟨fs,hu,hfl,_⟩:=hsh
   obtain ⟨xs,n',hn,hx,hcl,hxl,hall⟩:=DataW.trod_struct hu h
   cases hn
   rw [cellsOf_ty hty hτ] at hcl
   have hmem:∀ f∈flds,∃ x,DataW.trod enc P w base (fun _=>true) held n f.2 ((cs.drop f.1).take (P.cellsOf f.2))=some x∧∀ m∈x.1.weights P f.2,m≤B:=by
    intro f hf
    rw [← hfl] at hf
    obtain ⟨fl,hfl',rfl⟩:=List.mem_map.1 hf
    obtain ⟨i,hi,hii⟩:=List.mem_iff_getElem.1 hfl'
    have e1:fs[i]? = some fl:=by rw [← Array.getElem?_toList,List.getElem?_eq_getElem hi,hii]
    have hix:i<xs.length:=by rw [hxl]; simpa using hi
    refine ⟨xs[i],by rw [hall i fl e1]; exact List.getElem?_eq_getElem hix,fun m hm=>hwt m ?_⟩
    rw [hx]
    simp only [DataW.weights,hu]
    exact DataW.weights_mem_each (j:=i) (by rw [List.getElem?_map,List.getElem?_eq_getElem hi,hii]; rfl) (by rw [List.getElem?_map,List.getElem?_eq_getElem hix]; rfl) m hm
   have hind:∀ (t:Nat) (τ:Ty) (l:List Value) (x:DataW H × List MemPlace),t∈L→DataW.trod enc P w base (fun _=>true) held n t l=some x→ty t=some τ→(∀ m∈x.1.weights P t,m≤B)→∃ row,l.length=τ.size∧row.length=τ.size∧HasTy ty B n t row∧∀ (j:Nat) (d:D),row[j]? = some d→∃ v,l[j]? = some v∧Rd (fun _=>True) w d v :=
    fun t τ l x ht h h' h''=>trod_rd hty hL B n t τ l x ht h h' h''
   obtain ⟨row,g1,g2,g3⟩:∃ row,0+row.length=τ.size∧HasFs (HasTy ty B n) ty flds row∧∀ (j:Nat) (d:D),row[j]? = some d→∃ v,cs[0+j]? = some v∧Rd (fun _=>True) w d v:=by
    have key:∀ (fs:List (Nat × Nat)) (o:Nat),(∀ f∈fs,f.2∈L)→contig ty τ.size fs o=true→(∀ f∈fs,∃ x,DataW.trod enc P w base (fun _=>true) held n f.2 ((cs.drop f.1).take (P.cellsOf f.2))=some x∧∀ m∈x.1.weights P f.2,m≤B) →
      ∃ row,o+row.length=τ.size∧HasFs (HasTy ty B n) ty fs row∧∀ (j:Nat) (d:D),row[j]? = some d→∃ v,cs[o+j]? = some v∧Rd (fun _=>True) w d v:=by
     intro fs
     induction fs with
     | nil=>intro o _ hc _; simp only [contig,beq_iff_eq] at hc; exact ⟨[],by simpa using hc,rfl,by simp⟩
     | cons ft fs ih =>
      obtain ⟨f,t⟩:=ft
      intro o hm hc hf
      simp only [contig] at hc
      split at hc
      case h_2=>cases hc
      rename_i τ' hτ'
      simp only [Bool.and_eq_true,beq_iff_eq] at hc
      obtain ⟨rfl,hc⟩:=hc
      obtain ⟨row2,h1,h2,h3⟩:=ih (f+τ'.size) (fun g hg=>hm g (List.mem_cons_of_mem _ hg)) hc fun g hg=>hf g (List.mem_cons_of_mem _ hg)
      obtain ⟨x,hx,hxw⟩:=hf (f,t) (List.mem_cons_self ..)
      obtain ⟨row1,g1,g2,g3,g4⟩:=hind t τ' _ x (hm (f,t) (List.mem_cons_self ..)) hx hτ' hxw
      rw [cellsOf_ty hty hτ'] at g1 g4
      refine ⟨row1++row2,by rw [List.length_append]; omega,⟨τ',row1,row2,hτ',rfl,g2,g3,h2⟩,fun j d hj=>?_⟩
      by_cases hlt:j<row1.length
      ·rw [List.getElem?_append_left hlt] at hj
       obtain ⟨v,g5,g6⟩:=g4 j d hj
       rw [List.getElem?_take_of_lt (by omega),List.getElem?_drop] at g5
       exact ⟨v,g5,g6⟩
      ·rw [List.getElem?_append_right (by omega)] at hj
       obtain ⟨v,g5,g6⟩:=h3 _ d hj
       exact ⟨v,by rw [show f+j=f+τ'.size+(j - row1.length) by omega]; exact g5,g6⟩
    exact key flds 0 hd.1 hd.2 hmem
   refine ⟨row,hcl,by omega,?_,fun j d hj=>by simpa using g3 j d hj⟩
   simp only [HasTy,hτ,hs]; exact g2
  | array m e=>rw [hs] at hd; cases hd
  | map k e=>rw [hs] at hd; cases hd
  | slice e =>
   rw [hs] at hsh hd; simp only [ShFact] at hsh
   simp only [Bool.and_eq_true,List.contains_iff_mem] at hd
   obtain ⟨heL,hd⟩:=hd
   split at hd
   case h_2=>cases hd
   rename_i τe hτe
   have hpos:=of_decide_eq_true hd
   have hsz:=h1 (by unfold Ty.agg; rw [hs])
   rcases DataW.trod_slice hsh h with ⟨hcs,_⟩ | ⟨a,len,cap,elems,rest,n',hn,hcs,hx,hb,hl,hm,hlen,hel,hsp,_⟩
   ·refine one (.sl []) _ hsz hcs (.nil _ _) ?_
    simp only [HasTy,hτ,hs]
    exact ⟨[],rfl,fun _ _=>by simp,by simp⟩
   ·cases hn
    rcases Nat.eq_zero_or_pos len with h0 | h0
    ·subst h0
     refine one (.sl []) _ hsz hcs (.nil _ _) ?_
     simp only [HasTy,hτ,hs]
     exact ⟨[],rfl,fun _ _=>by simp,by simp⟩
    have hce:=cellsOf_ty hty hτe
    have hrow:∀ i,i<len→∃ row:List D,∃ l:List Value,w.cells? base (a.add (i * τe.size)) τe.size=some l∧l.length=τe.size∧row.length=τe.size∧HasTy ty B n e row∧∀ (j:Nat) (d:D),row[j]? = some d→∃ v,l[j]? = some v∧Rd (fun _=>True) w d v:=by
     intro i hi
     have h2:=hel i hi
     rw [hce] at h2
     have h3:elems[i]? = some elems[i]:=List.getElem?_eq_getElem (by omega)
     rw [h3] at h2
     obtain ⟨l,h4,h5⟩:=Option.bind_eq_some_iff.1 h2
     obtain ⟨row,g1,g2,g3,g4⟩:=trod_rd hty hL B n e τe l _ heL h5 hτe fun m hm=>hwt m (by
      rw [hx]; simp only [DataW.weights,hsh,List.mem_cons,List.mem_append]
      exact .inr (.inl (weightsAll_mem (List.mem_map.2 ⟨elems[i],List.getElem_mem _,rfl⟩) hm)))
     exact ⟨row,l,h4,g1,g2,g3,g4⟩
    obtain ⟨R,hR⟩:=choose_lt hrow
    obtain ⟨V,hV⟩:=choose_lt (fun i hi=>hR i hi)
    obtain ⟨b,o,sp⟩:=a
    have hcell:∀ i,i<len→∀ j,j<τe.size→w.cell? ((⟨b,o,sp⟩:Addr).add (i * τe.size) |>.add j)=(V i)[j]? := fun i hi j hj=>(World.cells?_some (hV i hi).1).2.2 j hj
    have h00:=hcell 0 h0 0 hpos
    simp only [Nat.zero_mul,Addr.add,if_true] at h00
    have hv0:(V 0)[0]? = some ((V 0)[0]'(by rw [(hV 0 h0).2.1]; exact hpos)):=List.getElem?_eq_getElem _
    rw [hv0] at h00
    simp only [World.cell?] at h00
    split at h00
    case h_2=>cases h00
    rename_i c T fr hheap
    split at h00
    ·cases h00
    rename_i hsp0
    have:sp=none:=by cases sp with
     | none=>rfl
     | some s=>simp at hsp0
    subst this
    have hcell':∀ i,i<len→∀ j,j<τe.size→c[o+i * τe.size+j]? = (V i)[j]? := fun i hi j hj=>by
     have h2:=hcell i hi j hj
     rw [add_none,add_none] at h2
     simp only [World.cell?,hheap] at h2
     simpa using h2
    refine one (.sl ((List.range len).map R)) _ hsz hcs ?_ ?_
    ·have key:=Rd.sl (S:=fun _=>True) (w:=w) (rows:=(List.range len).map R) (b:=b) (o:=o) (cap:=cap) (sz:=τe.size) (cs:=c) (T:=T) (fr:=fr) (fun i j=>((V i)[j]?).getD undef) trivial hheap (by simpa using hl) hm
      (fun i r hi=>?_) (fun i r j x hi hj=>?_) (fun i r j x hi hj=>?_)
     ·simpa using key
     ·have hlt:=(List.getElem?_eq_some_iff.1 hi).1
      simp at hlt
      rw [List.getElem?_map,List.getElem?_range hlt] at hi
      simp at hi; subst hi; exact (hV i hlt).2.2.1
     ·have hlt:=(List.getElem?_eq_some_iff.1 hi).1
      simp at hlt
      rw [List.getElem?_map,List.getElem?_range hlt] at hi
      simp at hi; subst hi
      obtain ⟨v,g1,_⟩:=(hV i hlt).2.2.2.2 j x hj
      have hjl:=(List.getElem?_eq_some_iff.1 hj).1
      rw [(hV i hlt).2.2.1] at hjl
      rw [hcell' i hlt j hjl,g1]; rfl
     ·have hlt:=(List.getElem?_eq_some_iff.1 hi).1
      simp at hlt
      rw [List.getElem?_map,List.getElem?_range hlt] at hi
      simp at hi; subst hi
      obtain ⟨v,g1,g2⟩:=(hV i hlt).2.2.2.2 j x hj
      rw [g1]; exact g2
    ·simp only [HasTy,hτ,hs]
     refine ⟨_,rfl,fun τ' hτ'=>?_,fun r hr=>?_⟩
     ·rw [hτe] at hτ'; cases hτ'
      have h2:=hwt ((elems.length+rest.length) * P.bytesOf e) (by rw [hx]; simp [DataW.weights,hsh])
      have h3:P.bytesOf e=τe.bytes:=by
       obtain ⟨i,z,h1,_,_,h4,_⟩:=(hty e τe hτe).info
       simp [Program.bytesOf,h1,h4]
      rw [h3,hlen,Nat.add_mul] at h2
      simp; omega
     obtain ⟨i,hi,rfl⟩:=List.mem_map.1 hr
     exact (hV i (List.mem_range.1 hi)).2.2.2.1
end
end PSL
namespace PSL
open Go Go.RowKit Go.ChangeShapes Go.WideShapes Go.ChangeAt

def avOf (τ:Ty) (row:List D):AV :=
 match τ.agg with
 | true=>.agg (row.map .d)
 | false=>match row with
  | [x]=>.d x
  | _=>.any

def ArgsAre (ty:Nat→Option Ty) (B:Nat):List Nat→List AV→Prop
 | [],[]=>True
 | t::ts,a::axs=>(∃ (n:Nat) (τ:Ty) (row:List D),ty t=some τ∧HasTy ty B n t row∧row.length=τ.size∧a=avOf τ row)∧ArgsAre ty B ts axs
 | _,_=>False
section
variable {H:Type} {enc:TypeId × Value→H} {P:Program} {ty:Nat→Option Ty}

theorem rvs_ds {S:Nat→Prop} {w:World} {φ:List Phy} {row:List D} {cs:List Value} (hl:row.length=cs.length) (h:∀ (j:Nat) (d:D),row[j]? = some d→∃ v,cs[j]? = some v∧Rd S w d v):RVs S w φ (row.map .d) cs :=
 RVs.of_get (by simpa using hl) fun i x v hx hv=>by
  rw [List.getElem?_map] at hx
  cases hr:row[i]? with
  | none=>rw [hr] at hx; cases hx
  | some d =>
   rw [hr] at hx; simp at hx; subst hx
   obtain ⟨v',h1,h2⟩:=h i d hr
   rw [hv] at h1; cases h1
   simpa only [RV] using h2

theorem open_arg (hty:TyOk P ty) {L:List Nat} (hL:∀ t∈L,dT ty L t=true) {B:Nat} {W:World} {base t:Nat} {τ:Ty} {v:Value} {d:DataW H} {ps:List MemPlace} (ht:t∈L) (hτ:ty t=some τ)
  (hok:Value.okWide P W .any base t v) (h:DataW.Trod enc P W 0 (fun _=>true) true t v d ps) (hw:∀ m∈d.weights P t,m≤B) :
  ∃ (n:Nat) (row:List D),HasTy ty B n t row∧row.length=τ.size∧RV (fun _=>True) W [] (avOf τ row) v:=by
 obtain ⟨n,hn⟩:=h
 obtain ⟨row,h1,h2,h3,h4⟩:=trod_rd hty hL B n t τ _ _ ht hn hτ hw
 refine ⟨n,row,h3,h2,?_⟩
 have hd:=hL t ht
 have hsh:=(hty t τ hτ).sh
 have hone:=(hty t τ hτ).one
 unfold dT at hd
 rw [hτ] at hd
 simp only at hd
 have single:(∃ c,v.cells.toList=[c]∧v=c)→τ.agg=false→RV (fun _=>True) W [] (avOf τ row) v:=by
  rintro ⟨c,hc,rfl⟩ ha
  unfold avOf
  rw [ha]
  have hs:=hone ha
  match row,h2 with
  | [x],_ =>
   simp only
   obtain ⟨v',h5,h6⟩:=h4 0 x rfl
   rw [hc] at h5; simp at h5; subst h5
   simpa only [RV] using h6
  | [],h=>rw [hs] at h; simp at h
  | _::_::_,h=>rw [hs] at h; simp at h
 cases hs:τ.sh with
 | one=>rw [hs] at hd; cases hd
 | array m e=>rw [hs] at hd; cases hd
 | map k e=>rw [hs] at hd; cases hd
 | int k =>
  rw [hs] at hsh; simp only [ShFact] at hsh
  obtain ⟨m,rfl⟩:=okWide_int hsh hok
  exact single ⟨_,rfl,rfl⟩ (by unfold Ty.agg; rw [hs])
 | bool =>
  rw [hs] at hsh; simp only [ShFact] at hsh
  obtain ⟨m,rfl⟩:=okWide_bool hsh hok
  exact single ⟨_,rfl,rfl⟩ (by unfold Ty.agg; rw [hs])
 | str =>
  rw [hs] at hsh; simp only [ShFact] at hsh
  obtain ⟨m,rfl⟩:=okWide_string hsh hok
  exact single ⟨_,rfl,rfl⟩ (by unfold Ty.agg; rw [hs])
 | slice e =>
  rw [hs] at hsh; simp only [ShFact] at hsh
  obtain ⟨a,l,c,rfl⟩:=okWide_slice hsh hok
  exact single ⟨_,rfl,rfl⟩ (by unfold Ty.agg; rw [hs])
 | struct flds =>
  rw [hs] at hsh; simp only [ShFact] at hsh
  obtain ⟨fs,hu,_⟩:=hsh
  obtain ⟨cs,rfl,_⟩:=okWide_struct hu hok
  have ha:τ.agg=true:=by unfold Ty.agg; rw [hs]
  unfold avOf
  rw [ha]
  simp only [Value.cells] at h1 h4
  simp only [RV]
  exact ⟨cs.toList,by simp,rvs_ds (by rw [h1,h2]) h4⟩

theorem open_args (hty:TyOk P ty) {L:List Nat} (hL:∀ t∈L,dT ty L t=true) {B:Nat} {W:World} {base:Nat}:∀ (ts:List Nat) (vs:List Value) (ds:List (DataW H)) (ps:List MemPlace),(∀ t∈ts,t∈L∧(ty t).isSome=true)→DataW.TrodAll enc P W 0 (fun _=>true) true ts vs ds ps →
  (∀ (j:Nat) (t:Nat) (v:Value),ts[j]? = some t→vs[j]? = some v→Value.okWide P W .any base t v)→(∀ m∈DataW.weightsEach P ts ds,m≤B)→∃ axs,RVs (fun _=>True) W [] axs vs∧ArgsAre ty B ts axs∧ds.length=ts.length
 | [],[],[],_,_,_,_,_=>⟨[],by simp [RVs],trivial,rfl⟩
 | [],_::_,_,_,_,h,_,_=>by simp [DataW.TrodAll] at h
 | [],[],_::_,_,_,h,_,_=>by simp [DataW.TrodAll] at h
 | _::_,[],_,_,_,h,_,_=>by simp [DataW.TrodAll] at h
 | _::_,_::_,[],_,_,h,_,_=>by simp [DataW.TrodAll] at h
 | t::ts,v::vs,d::ds,ps,hl,h,hok,hw=>by
  simp only [DataW.TrodAll] at h
  obtain ⟨p,q,h1,h2,rfl⟩:=h
  obtain ⟨htL,htS⟩:=hl t (by simp)
  obtain ⟨τ,hτ⟩:=Option.isSome_iff_exists.1 htS
  simp only [DataW.weightsEach,List.mem_append] at hw
  obtain ⟨n,row,h3,h4,h5⟩:=open_arg hty hL htL hτ (hok 0 t v rfl rfl) h1 fun m hm=>hw m (.inl hm)
  obtain ⟨axs,h6,h7,h8⟩:=open_args hty hL ts vs ds q (fun t ht=>hl t (by simp [ht])) h2 (fun j t v ht hv=>hok (j+1) t v (by simpa using ht) (by simpa using hv)) fun m hm=>hw m (.inr hm)
  exact ⟨avOf τ row::axs,by simp only [RVs]; exact ⟨h5,h6⟩,⟨⟨n,τ,row,hτ,h3,h4,rfl⟩,h7⟩,by simp [h8]⟩

theorem trodAll_stays (hl:laidOutB P=true) {W W':World} (hb:Below W.heap.size W W') {sp:Nat→Bool}:∀ (ts:List Nat) (vs:List Value) (ds:List (DataW H)) (ps:List MemPlace),(∀ t∈ts,P.readableRec t=true∧t<P.types.size)→DataW.TrodAll enc P W 0 (fun _=>true) true ts vs ds ps →
  (∀ p∈ps,p.block<W.heap.size∧sp p.block=true)→DataW.TrodAll enc P W' 0 sp true ts vs ds ps
 | [],[],[],_,_,h,_=>h
 | [],_::_,_,_,_,h,_=>by simp [DataW.TrodAll] at h
 | [],[],_::_,_,_,h,_=>by simp [DataW.TrodAll] at h
 | _::_,[],_,_,_,h,_=>by simp [DataW.TrodAll] at h
 | _::_,_::_,[],_,_,h,_=>by simp [DataW.TrodAll] at h
 | t::ts,v::vs,d::ds,ps,hr,h,hp=>by
  simp only [DataW.TrodAll] at h ⊢
  obtain ⟨p,q,h1,h2,rfl⟩:=h
  obtain ⟨hr1,hr2⟩:=hr t (by simp)
  exact ⟨p,q,WideElems.Trod_stays hl hr1 hr2 h1 (fun x hx=>hb.same (hp x (by simp [hx])).1) (fun x hx=>(hp x (by simp [hx])).2),
   trodAll_stays hl hb ts vs ds q (fun t ht=>hr t (by simp [ht])) h2 (fun x hx=>hp x (by simp [hx])),rfl⟩

theorem law_post {f:Func} {s:ChangeSpec} {apart fresh handsOn again:Bool} {W W':World} {args:Array Value} {v:Value} {ds gs:List (DataW H)} {before pa pv:List MemPlace}
  (hW:DataW.Whole enc P f.params.toList s.vars apart W args.toList ds gs before)
  (hres:∀ (b:Nat) (sp:Nat→Bool) (hd:Bool),DataW.TrodAll enc P W' b sp hd f.resultTypes.toList (v.resultList f.resultTypes.size) (s.fn H (ds++gs)).results [])
  (hargs:∀ sp:Nat→Bool,(∀ p∈before,sp p.block=true)→DataW.TrodAll enc P W' 0 sp true f.params.toList args.toList (s.fn H (ds++gs)).args pa)
  (hvars:∀ sp:Nat→Bool,(∀ p∈before,sp p.block=true)→DataW.TrodVars enc P W' sp s.vars (s.fn H (ds++gs)).vars pv)
  (hps:before=pa++pv) (hb:Below W.heap.size W W')
  (hok:∀ (j:Nat) (t:TypeId) (r:Value),f.resultTypes[j]? = some t→(v.resultList f.resultTypes.size)[j]? = some r→Value.okWide P W' .any 0 t r) :
  s.post enc P f apart fresh handsOn again W args v W':=by
 have hlt:∀ p∈before,p.block<W.heap.size:=fun p hp=>hW.lt p hp
 have hold:∀ p∈before,(fun b=>decide (b<W.heap.size)) p.block=true:=fun p hp=>by simpa using hlt p hp
 refine ⟨ds,gs,before,[],pa,pv,hW,hres _ _ _,hargs _ hold,hvars _ hold,World.keptBut_mono (fun p hp=>⟨hp,?_⟩) (hb.frame (· ∈ before)),fun _=>?_⟩
 ·rw [hps,List.mem_append] at hp
  exact Or.inr hp
 ·obtain ⟨_,_,_,_,_,hz,hn⟩:=hW
  refine ⟨hok,_,_,([]++pa)++pv,⟨[]++pa,pv,trodAll_append (hargs _ (fun _ _=>rfl)) (hres _ _ _),hvars _ (fun _ _=>rfl),rfl,?_,?_⟩,?_⟩
  ·intro b off hp
   have hin:MemPlace.cell b off∈before:=by rw [hps]; simpa using hp
   rw [hb.frozen (hlt _ hin)]
   exact hz b off hin
  ·intro ha
   have:=hn ha
   rw [hps] at this
   simpa using this
  ·intro p hp _
   rw [hps]
   simpa using hp

structure LawSpec (s:ChangeSpec) (n:Nat):Prop where
 vars:s.vars=[]
 fn:∀ (H:Type) (ds:List (DataW H)),ds.length=n→s.fn H ds={ results:=[.lit (.bool true)],args:=ds }

theorem law_calls (hty:TyOk P ty) {L:List Nat} (hL:∀ t∈L,dT ty L t=true) (hl:laidOutB P=true) {f:Nat} {fn:Func} {s:ChangeSpec} {apart fresh handsOn again:Bool} {tb:Nat} (hs:LawSpec s fn.params.size) (hr:fn.resultTypes=#[tb]) (htb:P.underlying tb=some .bool)
  (hpar:∀ t∈fn.params.toList,t∈L∧(ty t).isSome=true) (hrd:∀ t∈fn.params.toList,P.readableRec t=true∧t<P.types.size)
  (hctr:∀ axs,ArgsAre ty reachBytes fn.params.toList axs→PCtr P f axs (bV true)) {W:World} (hamb:AmbOk P (fun _=>True) W) {base:Nat} {args:Array Value} {ds gs:List (DataW H)} {before:List MemPlace} {vt:List Nat}
  (hok:∀ (j:Nat) t v,fn.params[j]? = some t→args[j]? = some v→Value.okWide P W .any base t v) (hW:DataW.Whole enc P fn.params.toList s.vars apart W args.toList ds gs before)
  (hwt:(DataW.weightsEach P (fn.params.toList++vt) (ds++gs)).all (· ≤ reachBytes)=true) :
  Calls P f args W fun e W'=>∃ v,e=.returned v∧s.post enc P fn apart fresh handsOn again W args v W':=by
 have hW':=hW
 obtain ⟨p,q,hA,hV,rfl,_,_⟩:=hW
 rw [hs.vars] at hV
 obtain ⟨rfl,rfl⟩:=trodVars_none hV
 have hdl:∀ {ts:List Nat} {vs:List Value} {ds:List (DataW H)} {ps:List MemPlace},DataW.TrodAll enc P W 0 (fun _=>true) true ts vs ds ps→ds.length=ts.length:=by
  intro ts
  induction ts with
  | nil=>intro vs ds ps h; cases vs <;> cases ds <;> simp [DataW.TrodAll] at h ⊢
  | cons t ts ih=>intro vs ds ps h; cases vs <;> cases ds <;> simp [DataW.TrodAll] at h ⊢; obtain ⟨_,_,_,h,_⟩:=h; exact ih h
 have hlen:=hdl hA
 have hw:∀ m∈DataW.weightsEach P fn.params.toList ds,m≤reachBytes:=fun m hm=>by
  have key:∀ (ts vt:List Nat) (ds:List (DataW H)),ds.length=ts.length→DataW.weightsEach P (ts++vt) (ds++[])=DataW.weightsEach P ts ds:=by
   intro ts
   induction ts with
   | nil=>intro vt ds h; have:ds=[]:=List.length_eq_zero_iff.1 (by simpa using h); subst this; cases vt <;> simp [DataW.weightsEach]
   | cons t ts ih=>intro vt ds h; cases ds with
    | nil=>simp at h
    | cons d ds=>simp only [List.cons_append,DataW.weightsEach]; rw [ih vt ds (by simpa using h)]
  rw [key _ _ _ hlen,List.all_eq_true] at hwt
  simpa using hwt m hm
 obtain ⟨axs,h1,h2,_⟩:=open_args hty hL fn.params.toList args.toList ds p hpar hA (fun j t v ht hv=>hok j t v (by simpa using ht) (by simpa using hv)) hw
 have hc:=(hctr axs h2).run (fun _=>True) W args.toList hamb (fun _ _=>trivial) h1
 rw [show args.toList.toArray=args from by simp] at hc
 refine hc.mono ?_
 rintro e W' ⟨v,rfl,hv,hb⟩
 simp only [bV,RV] at hv
 cases hv
 have hds:ds.length=fn.params.size:=by rw [hlen]; simp
 have hfn:s.fn H (ds++[])={ results:=[.lit (.bool true)],args:=ds }:=by rw [List.append_nil]; exact hs.fn H ds hds
 refine ⟨_,rfl,law_post (pa:=p) (pv:=[]) hW' (fun b sp hd=>?_) (fun sp hsp=>?_) (fun sp hsp=>?_) rfl hb ?_⟩
 ·rw [hfn,hr]
  exact trodAll_mk1 (shut_bool htb true)
 ·rw [hfn]
  exact trodAll_stays hl hb _ _ _ _ hrd hA fun x hx=>⟨hW'.lt x (by simp [hx]),hsp x (by simp [hx])⟩
 ·rw [hfn,hs.vars]; rfl
 ·exact ok_one hr rfl (okWide_bool_mk htb true)
end
end PSL
namespace PSL
open Go Go.RowKit
section
variable {g:G} {pf:Nat→Cls} {ops:Array Oper} {Fin:Exit→Act→World→Prop}
end
end PSL
namespace PSL
open Go Go.RowKit
section
variable {g:G} {pf:Nat→Cls} {ops:Array Oper} {Fin:Exit→Act→World→Prop}
end
end PSL
namespace PSL
open Go Go.RowKit
section
variable {g:G} {pf:Nat→Cls} {ops:Array Oper} {Fin:Exit→Act→World→Prop}
end
end PSL
namespace PSL
open Go Go.RowKit Go.MapKept
section
variable {g:G} {pf:Nat→Cls} {ops:Array Oper} {Fin:Exit→Act→World→Prop}
end
end PSL
namespace PSL
open Go Go.RowKit Go.MapKept
section
variable {g:G} {pf:Nat→Cls} {ops:Array Oper} {Fin:Exit→Act→World→Prop}
end
end PSL
namespace PSL
open Go Go.RowKit
section
variable {g:G} {pf:Nat→Cls} {ops:Array Oper} {Fin:Exit→Act→World→Prop}
end
end PSL
namespace PSL
open Go Go.RowKit
section
variable {g:G} {pf:Nat→Cls} {ops:Array Oper} {Fin:Exit→Act→World→Prop}
end
end PSL
namespace PSL
open Go Go.RowKit
section
variable {g:G} {pf:Nat→Cls} {ops:Array Oper} {Fin:Exit→Act→World→Prop}
end
end PSL
namespace PSL
open Go Go.RowKit
section
variable {pf:Nat→Cls} {ops:Array Oper}
variable {g:G}
end
end PSL
namespace PSL
open Go Go.RowKit
section
variable {g:G} {pf:Nat→Cls} {ops:Array Oper} {Fin:Exit→Act→World→Prop}

theorem R_step (hg:GOk g) {o:Oper} {rest:List Oper} {k:List It} {E:Env} {objs objs':List Ob} {v:AV} (hhe:held (isL4 pf) o.op=false) (hgd:guardA ops.toList E o.guard=some true) (hd:dstOk ⟨g.ty,g.N⟩ o.dst=true)
  (h:stepOp g.ty (ev E) objs o.op=some (v,objs')) (hr:R g pf Fin (.dr ops rest::k) (putO E o.dst v) objs'):R g pf Fin (.dr ops (o::rest)::k) E objs :=
 R_op (.step' hg hhe (guardA_ok hgd) (dstOk_ok hd) h) hr
end

theorem SCtr.nil {P:Program} {Y:YP} {f sz s:Nat} {axs:List AV} {rows:List (List D)} (h:SCtr P Y f (.ow 0 0::axs) [.arr sz 0 []] (.ow 0 s) [.arr sz s rows]) (hp:pureL axs=true):PCtr P f (.d (.v (.slice none 0 0))::axs) (.d (.sl rows)):=by
 refine ⟨h.call,fun S w vals ha hS hv=>?_⟩
 cases vals with
 | nil=>simp [RVs] at hv
 | cons v vs =>
  simp only [RVs,RV] at hv
  obtain ⟨hv1,hv2⟩:=hv
  cases hv1
  have hnb:∀ b,¬ bls [Phy.sli sz 0 (.slice none 0 0) none] b:=by
   rintro b ⟨i,p,h1,h2⟩
   cases i with
   | zero=>simp at h1; subst h1; simp [Phy.bl] at h2
   | succ i=>simp at h1
  have hHS:HS S [Phy.sli sz 0 (.slice none 0 0) none] [.arr sz 0 []] w:=by
   refine ⟨rfl,fun i ph ob h1 h2=>?_,fun i j p q b h1 h2 h3 h4=>absurd ⟨i,p,h1,h3⟩ (hnb b),fun b hb=>absurd hb (hnb b),hS⟩
   cases i with
   | zero=>simp at h1 h2; subst h1; subst h2; simp only [ObOk]; exact ⟨trivial,trivial,by simp,.inl ⟨none,rfl,trivial,trivial⟩⟩
   | succ i=>simp at h1
  have hk:Keep S w (SS S [Phy.sli sz 0 (.slice none 0 0) none]) w:=fun b hb _=>⟨⟨hb,hnb b⟩,rfl⟩
  have hcall:=h.run S _ w (.slice none 0 0::vs) (ha.keep hk) hHS (fun b hb=>absurd hb (hnb b)) (fun i l I B hi=>by
   cases i with
   | zero=>simp at hi
   | succ i=>simp at hi) (by
    simp only [RVs,RV]
    refine ⟨⟨⟨none,0,0,rfl⟩,_,rfl,fun sz' s' x' ob' he=>?_⟩,RVs.pure hk hp hv2⟩
    cases he; exact ⟨Nat.le_refl _,fun _=>rfl⟩)
  refine hcall.mono ?_
  rintro e w' ⟨v,φ',rfl,hr,hst⟩
  have hbl:∀ b,bls φ' b→S b:=fun b hb=>(hst.own b hb).elim (fun h=>absurd h (hnb b)) (hS b)
  refine ⟨v,rfl,?_,⟨hst.os,hst.tape,hst.out,hst.size,fun b hb=>hst.fr b hb (hnb b)⟩⟩
  exact sealA_ok hbl hst.hs 5 hr (by simp [sealA,nth])
end PSL
namespace PSL
open Go Go.RowKit
section
variable {g:G} {pf:Nat→Cls} {ops:Array Oper} {Fin:Exit→Act→World→Prop}

theorem R_concat (hg:GOk g) {dst:Option Nat} {T T':Nat} {x y:Operand} {ty:Nat} {pos:String} {after:Array Edge} {gd:Option (Nat × Bool)} {rest:List Oper} {k:List It} {E:Env} {objs:List Ob}
  {a b:ByteArray} (c:ByteArray)
  (hgd:guardA ops.toList E gd=some true) (hd:dstOk ⟨g.ty,g.N⟩ dst=true) (hx:ev E x=.d (.v (.string a))) (hy:ev E y=.d (.v (.string b))) (hs:a.size+b.size≤1000000000) (hc:a++b=c)
  (hr:R g pf Fin (.dr ops rest::k) (putO E dst (.d (.v (.string c)))) objs):R g pf Fin (.dr ops (⟨dst,.binOp .add T x y T',ty,pos,after,gd⟩::rest)::k) E objs:=by
 subst hc
 refine R_op (LocOp.up (LocOp.quiet hg hgd hd (by simp) fun φ objs w' w hρ hs'=>?_)) hr
 rename_i ac
 simp only [Op.operands] at hρ
 have hxv:=hρ x (by simp)
 rw [hx] at hxv
 have hyv:=hρ y (by simp)
 rw [hy] at hyv
 simp only [RV] at hxv hyv
 generalize hvx:w'.eval x=vx at hxv
 generalize hvy:w'.eval y=vy at hyv
 cases hxv; cases hyv
 refine out_val hs' (vv:=.string (a++b)) ?_ (by simp only [RV]; exact .v _)
 have h1:¬ (((a.size+b.size:Nat):Int) > IntKind.i64.max):=by simp [IntKind.max,IntKind.signed,IntKind.bits]; omega
 have h2:(binOp .add T (.string a) (.string b)).run g.P w=.ok (.string (a++b)) w:=by
  simp only [binOp,Op.stringOp]
  rw [if_neg h1]; rfl
 simp only [execOp,Sem.run_bind,hvx,hvy,run_eqGuard (show plainV (.string a)=true from rfl),Result.andThen_ok,h2,Sem.run_pure]

theorem R_convB (hg:GOk g) {dst:Option Nat} {S D:Nat} {x:Operand} {ty:Nat} {pos:String} {after:Array Edge} {gd:Option (Nat × Bool)} {rest:List Oper} {k:List It} {E:Env} {objs:List Ob}
  {q by_ q' by':Nat} {z z':List Value} {kk k2:IntKind} {n:Int} (c:ByteArray)
  (hgd:guardA ops.toList E gd=some true) (hd:dstOk ⟨g.ty,g.N⟩ dst=true) (hx:ev E x=.d (.v (.int k2 n))) (hS:g.ty S=some ⟨q,by_,z,.int kk⟩) (hD:g.ty D=some ⟨q',by',z',.str⟩) (hc:Utf8.encode n=c)
  (hr:R g pf Fin (.dr ops rest::k) (putO E dst (.d (.v (.string c)))) objs):R g pf Fin (.dr ops (⟨dst,.convert S D x,ty,pos,after,gd⟩::rest)::k) E objs:=by
 subst hc
 refine R_op (LocOp.up (LocOp.quiet hg hgd hd (by simp) fun φ objs w' w hρ hs'=>?_)) hr
 simp only [Op.operands] at hρ
 have hxv:=hρ x (by simp)
 rw [hx] at hxv
 simp only [RV] at hxv
 generalize hvx:w'.eval x=vx at hxv
 cases hxv
 have hu:=(hg.ty _ _ hS).sh
 have hv:=(hg.ty _ _ hD).sh
 simp only [ShFact] at hu hv
 refine out_val hs' (vv:=.string (Utf8.encode n)) ?_ (by simp only [RV]; exact .v _)
 simp [execOp,hvx,convert,run_underlying hu,run_underlying hv,Conv.intToString]
def byRows (l:List UInt8):List (List D):=l.map fun b=>[.v (.int .u8 b.toNat)]

theorem bytes_foldl:∀ (l:List UInt8) (s:ByteArray),(l.map fun b=>(b.toNat:Int)).foldl (fun r n=>r.push (UInt8.ofNat n.toNat)) s=⟨s.data++l.toArray⟩
 | [],s=>by simp
 | b::l,s=>by
  simp only [List.map_cons,List.foldl_cons]
  rw [bytes_foldl l]
  have:UInt8.ofNat ((b.toNat:Int)).toNat=b:=by simp
  rw [this]
  show ByteArray.mk (s.data.push b++l.toArray)=_
  congr 1
  apply Array.ext'
  simp

theorem R_convD (hg:GOk g) {dst:Option Nat} {S D:Nat} {x:Operand} {ty:Nat} {pos:String} {after:Array Edge} {gd:Option (Nat × Bool)} {rest:List Oper} {k:List It} {E:Env} {objs:List Ob}
  {q by_ q' by' q2 by2 e:Nat} {z z' z2:List Value} (l:List UInt8)
  (hgd:guardA ops.toList E gd=some true) (hd:dstOk ⟨g.ty,g.N⟩ dst=true) (hx:nrm (ev E x)=.d (.sl (byRows l))) (hS:g.ty S=some ⟨q,by_,z,.slice e⟩) (he:g.ty e=some ⟨q2,by2,z2,.int .u8⟩) (hD:g.ty D=some ⟨q',by',z',.str⟩)
  (hr:R g pf Fin (.dr ops rest::k) (putO E dst (.d (.v (.string ⟨l.toArray⟩)))) objs):R g pf Fin (.dr ops (⟨dst,.convert S D x,ty,pos,after,gd⟩::rest)::k) E objs:=by
 refine R_op (LocOp.up (LocOp.quiet hg hgd hd (by simp) fun φ objs w' w hρ hs'=>?_)) hr
 simp only [Op.operands] at hρ
 have hxv:=Ent.nrm _ _ _ _ _ (hρ x (by simp))
 rw [hx] at hxv
 simp only [RV] at hxv
 have hu:=(hg.ty _ _ hS).sh
 have hv:=(hg.ty _ _ hD).sh
 have hw:=(hg.ty _ _ he).sh
 simp only [ShFact] at hu hv hw
 obtain ⟨cells,hf⟩:=Fst.of_rd (P:=g.P) hxv (sz:=1) (by intro r hr; obtain ⟨b,_,rfl⟩:=List.mem_map.1 hr; rfl)
 generalize hvx:w'.eval x=vx at hxv hf
 refine out_val hs' (vv:=.string ⟨l.toArray⟩) ?_ (by simp only [RV]; exact .v _)
 obtain ⟨p,c,hvv⟩:=hf.sl
 have hlen:(byRows l).length=l.length:=by simp [byRows]
 have hcells:cells=l.map fun b=>Value.int .u8 (b.toNat:Int):=by
  apply List.ext_getElem?
  intro i
  by_cases hi:i<l.length
  ·have hb:(byRows l)[i]? = some [.v (.int .u8 (l[i]'hi).toNat)]:=by rw [byRows,List.getElem?_map,List.getElem?_eq_getElem hi]; rfl
   obtain ⟨y,h1,h2⟩:=hf.rd i _ 0 _ hb rfl
   cases h2
   rw [Nat.mul_one,Nat.add_zero] at h1
   rw [h1,List.getElem?_map,List.getElem?_eq_getElem hi]; rfl
  ·rw [List.getElem?_eq_none (by rw [hf.len,hlen]; omega),List.getElem?_eq_none (by simp; omega)]
 have hconv:(convert S D vx).run g.P w=.ok (.string ⟨l.toArray⟩) w:=by
  rw [hvv,run_convert_bytes_string w S D e p _ c hu hw hv]
  cases p with
  | none =>
   have h0:l=[]:=by
    rw [hvv] at hxv
    generalize byRows l=R at hxv hlen
    cases hxv
    exact List.length_eq_zero_iff.1 hlen.symm
   subst h0
   simp [Conv.bytesToString]; rfl
  | some ad =>
   rw [hlen]
   rw [run_bytesToString w ad l.length c (l.map fun b=>(b.toNat:Int)) ?_]
   ·rw [bytes_foldl]; simp
   ·have:=hf.run w rfl
    rw [hvv,hlen,hcells] at this
    simp only [Builtin.firstCells,Nat.mul_one] at this
    rw [List.map_map]
    simpa [Function.comp_def] using this
 simp only [execOp,hvx,Sem.run_bind,hconv,Result.andThen_ok,Sem.run_pure]

theorem R_rangeS (hg:GOk g) {dst:Option Nat} {T:Nat} {x:Operand} {ty:Nat} {pos:String} {after:Array Edge} {gd:Option (Nat × Bool)} {rest:List Oper} {k:List It} {E:Env} {objs:List Ob}
  {q by_:Nat} {z:List Value} {s:ByteArray}
  (hgd:guardA ops.toList E gd=some true) (hd:dstOk ⟨g.ty,g.N⟩ dst=true) (hx:ev E x=.d (.v (.string s))) (hT:g.ty T=some ⟨q,by_,z,.str⟩)
  (hr:R g pf Fin (.dr ops rest::k) (putO E dst (.lo (len objs) 0)) (objs++[.itr s 0])):R g pf Fin (.dr ops (⟨dst,.range T x,ty,pos,after,gd⟩::rest)::k) E objs:=by
 refine R_op (LocOp.effect hg hgd hd (by simp) fun φ a w hρ hs=>?_) hr
 simp only [Op.operands] at hρ
 have hxv:=hρ x (by simp)
 rw [hx] at hxv
 simp only [RV] at hxv
 generalize hvx:a.eval x=vx at hxv
 cases hxv
 have hu:=(hg.ty _ _ hT).sh
 simp only [ShFact] at hu
 refine ⟨.value (.pointer (some ⟨w.heap.size,0,none⟩)),.pointer (some ⟨w.heap.size,0,none⟩),w.alloc (.stringIter s 0),φ++[.blk w.heap.size],?_,.inl rfl,?_,?_⟩
 ·simp only [execOp,hvx,Instr.range,Sem.run_bind,run_underlying hu,Result.andThen_ok,Sem.run_pure,run_newObj]
  rfl
 ·simp only [RV]
  exact ⟨w.heap.size,by rw [len_eq,← hs.len]; simp,rfl⟩
 ·refine Stp.new hs (fun b hb=>by simp only [Phy.bl] at hb; exact hb.symm) ?_
  simp only [ObOk]
  exact heap_alloc_new _ _

theorem R_nextS (hg:GOk g) {dst:Option Nat} {x:Operand} {ty:Nat} {pos:String} {after:Array Edge} {gd:Option (Nat × Bool)} {rest:List Oper} {k:List It} {E:Env} {objs:List Ob}
  {i p:Nat} {s:ByteArray} {c wd:Nat}
  (hgd:guardA ops.toList E gd=some true) (hd:dstOk ⟨g.ty,g.N⟩ dst=true) (hx:ev E x=.lo i 0) (ho:nth objs i=some (.itr s p)) (hp:p<s.size) (hc:Utf8.decode s p=(c,wd))
  (hr:R g pf Fin (.dr ops rest::k) (putO E dst (.tup [.tt,iV p,.d (.v (.int .i32 c))])) (setN objs i (.itr s (p+wd)))):R g pf Fin (.dr ops (⟨dst,.next x true,ty,pos,after,gd⟩::rest)::k) E objs:=by
 refine R_op (LocOp.effect hg hgd hd (by simp) fun φ a w hρ hs=>?_) hr
 simp only [Op.operands] at hρ
 have hxv:=hρ x (by simp)
 rw [hx] at hxv
 simp only [RV] at hxv
 obtain ⟨b,hph,hvx⟩:=hxv
 have hk:=obj_at hs hph ho
 simp only [ObOk] at hk
 have hbl:b<w.heap.size:=(Array.getElem?_eq_some_iff.1 hk).1
 refine ⟨.value (.tuple #[.bool true,.int .i64 p,.int .i32 c]),.tuple #[.bool true,.int .i64 p,.int .i32 c],w.putObj b (.stringIter s (p+wd)),φ.set i (.blk b),?_,.inl rfl,?_,?_⟩
 ·have hget:(getObj b).run g.P w=.ok (.stringIter s p) w:=by simp [getObj,Sem.run,hk]
  have hset:(setObj b (.stringIter s (p+wd))).run g.P w=.ok () (w.putObj b (.stringIter s (p+wd))):=by simp [setObj,Sem.run,hk,World.putObj]
  simp only [execOp,hvx,Instr.next,Sem.run_bind,hget,Result.andThen_ok]
  rw [if_pos hp]
  simp only [hc,Sem.run_bind,hset,Result.andThen_ok,Sem.run_pure]
  rfl
 ·simp only [RV,RVs]
  exact ⟨[_,_,_],rfl,rfl,by simp only [iV,RV]; exact .v _,.v _,trivial⟩
 ·rw [setN_eq]
  refine Stp.swap hs hph (.inl rfl) (by simp) (fun c _ hc=>World.putObj_heap_other fun e=>hc (by rw [e]; rfl)) (fun b' hb=>.inl hb) rfl rfl rfl fun _ _=>?_
  simp only [ObOk]
  exact World.putObj_heap_same hbl

theorem R_nextE (hg:GOk g) {dst:Option Nat} {x:Operand} {ty:Nat} {pos:String} {after:Array Edge} {gd:Option (Nat × Bool)} {rest:List Oper} {k:List It} {E:Env} {objs:List Ob}
  {i p:Nat} {s:ByteArray}
  (hgd:guardA ops.toList E gd=some true) (hd:dstOk ⟨g.ty,g.N⟩ dst=true) (hx:ev E x=.lo i 0) (ho:nth objs i=some (.itr s p)) (hp:s.size≤p)
  (hr:R g pf Fin (.dr ops rest::k) (putO E dst (.tup [.ff])) objs):R g pf Fin (.dr ops (⟨dst,.next x true,ty,pos,after,gd⟩::rest)::k) E objs:=by
 refine R_op (LocOp.effect hg hgd hd (by simp) fun φ a w hρ hs=>?_) hr
 simp only [Op.operands] at hρ
 have hxv:=hρ x (by simp)
 rw [hx] at hxv
 simp only [RV] at hxv
 obtain ⟨b,hph,hvx⟩:=hxv
 have hk:=obj_at hs hph ho
 simp only [ObOk] at hk
 refine out_val hs (vv:=.tuple #[.bool false]) ?_ (by simp only [RV,RVs]; exact ⟨[_],rfl,rfl,trivial⟩)
 have hget:(getObj b).run g.P w=.ok (.stringIter s p) w:=by simp [getObj,Sem.run,hk]
 simp only [execOp,hvx,Instr.next,Sem.run_bind,hget,Result.andThen_ok]
 rw [if_neg (by omega)]
 simp only [Sem.run_pure,Result.andThen_ok]
end
end PSL
namespace PSL
open Go Go.RowKit
section
variable {g:G} {pf:Nat→Cls} {ops:Array Oper} {Fin:Exit→Act→World→Prop}
end
end PSL

namespace PSL
open Go
namespace Tm

mutual
def occ:Tm→List Int
 | mk k _ n l=>if k=1 then [n] else occL l
def occL:List Tm→List Int
 | []=>[]
 | t::r=>occ t++occL r
end

mutual
theorem withV_occ:∀ (t:Tm) (a:List Int),withV a t=(occ t).foldl addV a
 | mk k s n l,a=>by
  simp only [withV,occ]
  split
  ·rfl
  ·exact withVL_occ l a
theorem withVL_occ:∀ (l:List Tm) (a:List Int),withVL a l=(occL l).foldl addV a
 | [],a=>rfl
 | t::r,a=>by simp only [withVL,occL,List.foldl_append,withV_occ t a,withVL_occ r]
end

theorem kindR_var {s:ByteArray} {n:Int} {m:Nat} (h:kindR 1 s n m=true):0≤n∧n<1000000∧s=ByteArray.empty∧m=0:=by
 simp only [kindR,if_true,Bool.and_eq_true,decide_eq_true_eq,strEq_iff,beq_iff_eq] at h
 obtain ⟨⟨⟨h1,h2⟩,h3⟩,h4⟩:=h
 exact ⟨h1,h2,h3,by omega⟩

mutual
theorem fair_plain:∀ (t:Tm),fairR t=true→plain t=true
 | mk k s n l,h=>by
  simp only [fairR,Bool.and_eq_true] at h
  simp only [plain,Bool.and_eq_true,fairL_plain l h.1.2,and_true,Bool.not_eq_true',Bool.and_eq_false_iff]
  by_cases hk:k=1
  ·subst hk
   have:=(kindR_var h.2).2.2.2
   right; cases l <;> simp at this ⊢
  ·left; simpa using hk
theorem fairL_plain:∀ (l:List Tm),fairRL l=true→plainL l=true
 | [],_=>rfl
 | t::r,h=>by
  simp only [fairRL,Bool.and_eq_true] at h
  simp only [plainL,fair_plain t h.1,fairL_plain r h.2,Bool.and_self]
end

mutual
theorem turn_self:∀ (t:Tm),turnT (fun n=>n) t=t
 | mk k s n l=>by simp [turnT,turnL_self l]
theorem turnL_self:∀ (l:List Tm),turnTL (fun n=>n) l=l
 | []=>rfl
 | t::r=>by simp only [turnTL,turn_self t,turnL_self r]
end

theorem rightB_iff {t:Tm}:rightB t=true↔fairR t=true∧t.size≤3000∧t.depth≤100:=by
 simp only [rightB,Bool.and_eq_true,decide_eq_true_eq,and_assoc]

def once (l:List Int):List Int:=l.foldl addV []

theorem mem_addV {a:List Int} {x v:Int}:v∈addV a x↔v∈a∨v=x:=by
 unfold addV
 split
 ·rename_i h
  have:x∈a:=by simpa using h
  constructor
  ·exact .inl
  ·rintro (h | rfl)
   ·exact h
   ·exact this
 ·simp

theorem mem_foldl {l:List Int}:∀ {a:List Int} {v:Int},v∈l.foldl addV a↔v∈a∨v∈l:=by
 induction l with
 | nil=>simp
 | cons x l ih=>intro a v; simp only [List.foldl_cons,ih,mem_addV,List.mem_cons,or_assoc]
theorem mem_once {l:List Int} {v:Int}:v∈once l↔v∈l:=by simp [once,mem_foldl]
end Tm

theorem varsT_once {l:List Tm} (h:Tm.fairRL l=true):varsT l=Tm.once (Tm.occL l):=by
 rw [varsT_with l (Tm.fairL_plain l h),Tm.withVL_occ]; rfl
end PSL
namespace PSL
open Go
theorem right_fair {t:Tm} (h:t.rightB=true):t.fairR=true:=(Tm.rightB_iff.1 h).1
theorem one_fair {t:Tm} (h:t.fairR=true):Tm.fairRL [t]=true:=by simp [Tm.fairRL,h]
end PSL
namespace PSL
open Go

structure IsTerm (ty:Nat→Option Ty) (T:Nat):Prop where
 ex:∃ (a b c s:Nat) (τ τa τb τc τs:Ty),ty T=some τ∧τ.sh=.struct [(0,a),(1,b),(2,c),(3,s)]∧τ.size=4∧1≤τ.bytes∧ty a=some τa∧τa.sh=.int .i64∧ty b=some τb∧τb.sh=.str∧ty c=some τc∧τc.sh=.int .i64∧ty s=some τs∧τs.sh=.slice T

def isTermB (ty:Nat→Option Ty) (T:Nat):Bool :=
 match ty T with
 | some ⟨4,by_,_,.struct [(0,a),(1,b),(2,c),(3,s)]⟩=>Nat.ble 1 by_&&(match ty a with | some ⟨_,_,_,.int .i64⟩=>true | _=>false)&&(match ty b with | some ⟨_,_,_,.str⟩=>true | _=>false) &&
   (match ty c with | some ⟨_,_,_,.int .i64⟩=>true | _=>false)&&(match ty s with | some ⟨_,_,_,.slice T'⟩=>Nat.beq T' T | _=>false)
 | _=>false

theorem isTermB_ok {ty:Nat→Option Ty} {T:Nat} (h:isTermB ty T=true):IsTerm ty T:=by
 unfold isTermB at h
 split at h
 case h_2=>cases h
 rename_i by_ z a b c s hT
 simp only [Bool.and_eq_true] at h
 obtain ⟨⟨⟨⟨h0,h1⟩,h2⟩,h3⟩,h4⟩:=h
 split at h1
 case h_2=>cases h1
 rename_i ha
 split at h2
 case h_2=>cases h2
 rename_i hb
 split at h3
 case h_2=>cases h3
 rename_i hc
 split at h4
 case h_2=>cases h4
 rename_i hs
 have:=natBeq h4
 subst this
 exact ⟨a,b,c,s,_,_,_,_,_,hT,rfl,rfl,Nat.le_of_ble_eq_true h0,ha,rfl,hb,rfl,hc,rfl,hs,rfl⟩

theorem has_int {ty:Nat→Option Ty} {B n t:Nat} {τ:Ty} {row:List D} {k:IntKind} (hτ:ty t=some τ) (hs:τ.sh=.int k) (h:HasTy ty B n t row):∃ m,row=[.v (.int k m)]∧k.min≤m∧m≤k.max:=by
 cases n with
 | zero=>simp [HasTy] at h
 | succ n=>simpa only [HasTy,hτ,hs] using h

theorem has_str {ty:Nat→Option Ty} {B n t:Nat} {τ:Ty} {row:List D} (hτ:ty t=some τ) (hs:τ.sh=.str) (h:HasTy ty B n t row):∃ s:ByteArray,row=[.v (.string s)]∧s.size≤B:=by
 cases n with
 | zero=>simp [HasTy] at h
 | succ n=>simpa only [HasTy,hτ,hs] using h

theorem has_slice {ty:Nat→Option Ty} {B n t e:Nat} {τ:Ty} {row:List D} (hτ:ty t=some τ) (hs:τ.sh=.slice e) (h:HasTy ty B (n+1) t row):∃ rows:List (List D),row=[.sl rows]∧(∀ τ,ty e=some τ→rows.length * τ.bytes≤B)∧∀ r∈rows,HasTy ty B n e r:=by
 simpa only [HasTy,hτ,hs] using h

def Tm.Fit (t:Tm):Prop:=∀ d e,e∈t.els d→I64 e.2.k∧I64 e.2.n

theorem tm_of {ty:Nat→Option Ty} {T B:Nat} (hT:IsTerm ty T) (hB:B≤140737488355328):∀ (n:Nat) (row:List D),HasTy ty B n T row→∃ t:Tm,row=t.row∧t.Ok∧t.Fit:=by
 obtain ⟨a,b,c,s,τ,τa,τb,τc,τs,h1,h2,h3,hby,ha,ha',hb,hb',hc,hc',hs,hs'⟩:=hT.ex
 intro n
 induction n using Nat.strongRecOn with
 | _ n ih =>
 intro row h
 cases n with
 | zero=>simp [HasTy] at h
 | succ n =>
  simp only [HasTy,h1,h2,HasFs] at h
  obtain ⟨_,ra,_,g1,rfl,g2,g3,_,rb,_,g4,rfl,g5,g6,_,rc,_,g7,rfl,g8,g9,_,rs,_,g10,rfl,g11,g12,rfl⟩:=h
  rw [ha] at g1; cases g1
  rw [hb] at g4; cases g4
  rw [hc] at g7; cases g7
  rw [hs] at g10; cases g10
  obtain ⟨k,rfl,hk⟩:=has_int ha ha' g3
  obtain ⟨nm,rfl,hnm⟩:=has_str hb hb' g6
  obtain ⟨m,rfl,hm⟩:=has_int hc hc' g9
  cases n with
  | zero=>simp [HasTy] at g12
  | succ n =>
   obtain ⟨rows,rfl,hlen,hrows⟩:=has_slice hs hs' g12
   have hch:∃ l:List Tm,rows=l.map Tm.row∧∀ x∈l,x.Ok∧x.Fit:=by
    clear hlen g11 g12
    induction rows with
    | nil=>exact ⟨[],rfl,by simp⟩
    | cons r rows ihr =>
     obtain ⟨t,ht1,ht2⟩:=ih n (by omega) r (hrows r (by simp))
     obtain ⟨l,hl1,hl2⟩:=ihr fun r hr=>hrows r (by simp [hr])
     exact ⟨t::l,by simp [ht1,hl1],by simpa using ⟨ht2,hl2⟩⟩
   obtain ⟨l,rfl,hl⟩:=hch
   have hll:l.length≤B:=by
    have:=hlen τ h1
    rw [List.length_map] at this
    exact Nat.le_trans (Nat.le_mul_of_pos_right _ hby) this
   refine ⟨.mk k nm m l,by simp [Tm.row,Tm.k,Tm.s,Tm.n,Tm.l,Tm.rows_eq],?_,?_⟩
   ·intro d e he
    simp only [Tm.els,List.mem_cons] at he
    rcases he with rfl | he
    ·exact ⟨show l.length≤_ by omega,show nm.size≤_ by omega⟩
    ·obtain ⟨x,hx,hex⟩:=Tm.elsL_mem he
     exact (hl x hx).1 _ _ hex
   ·intro d e he
    simp only [Tm.els,List.mem_cons] at he
    rcases he with rfl | he
    ·exact ⟨hk,hm⟩
    ·obtain ⟨x,hx,hex⟩:=Tm.elsL_mem he
     exact (hl x hx).2 _ _ hex

theorem arg_tm {ty:Nat→Option Ty} {T B:Nat} (hT:IsTerm ty T) (hB:B≤140737488355328) {n:Nat} {τ:Ty} {row:List D} {a:AV} (hτ:ty T=some τ) (h:HasTy ty B n T row) (ha:a=avOf τ row):∃ t:Tm,a=t.av∧t.Ok∧t.Fit:=by
 obtain ⟨t,rfl,h1⟩:=tm_of hT hB n row h
 refine ⟨t,?_,h1⟩
 obtain ⟨a',b,c,s,τ',τa,τb,τc,τs,g1,g2,_⟩:=hT.ex
 rw [hτ] at g1; cases g1
 rw [ha]; unfold avOf Ty.agg
 rw [g2]; rfl
theorem sh_of {ty:Nat→Option Ty} {t:Nat} {τ:Ty} {sh:Sh} (h:ty t=some τ) (h2:(ty t).map Ty.sh=some sh):τ.sh=sh:=by rw [h] at h2; simpa using h2

theorem argsC {ty:Nat→Option Ty} {B t:Nat} {ts:List Nat} {axs:List AV} (h:ArgsAre ty B (t::ts) axs):∃ (n:Nat) (τ:Ty) (row:List D) (a:AV) (as':List AV),axs=a::as'∧ty t=some τ∧HasTy ty B n t row∧a=avOf τ row∧ArgsAre ty B ts as':=by
 match axs,h with
 | a::axs,h=>simp only [ArgsAre] at h; obtain ⟨⟨n,τ,row,h1,h2,_,h3⟩,h4⟩:=h; exact ⟨n,τ,row,a,axs,rfl,h1,h2,h3,h4⟩
 | [],h=>simp [ArgsAre] at h

theorem args0 {ty:Nat→Option Ty} {B:Nat} {axs:List AV} (h:ArgsAre ty B [] axs):axs=[]:=by
 cases axs with
 | nil=>rfl
 | cons _ _=>simp [ArgsAre] at h
end PSL
namespace PSL
open Go
namespace Tm
end Tm
namespace Tm
end Tm
end PSL
namespace PSL
open Go
namespace Tm
end Tm
end PSL
namespace PSL
open Go
namespace Tm

theorem fairR_mk {k:Int} {s:ByteArray} {n:Int} {l:List Tm} (h:fairR (mk k s n l)=true):fairRL l=true∧(k=1→s=ByteArray.empty∧l=[]):=by
 simp only [fairR,Bool.and_eq_true] at h
 refine ⟨h.1.2,fun hk=>?_⟩
 subst hk
 have:=kindR_var h.2
 exact ⟨this.2.2.1,List.length_eq_zero_iff.1 this.2.2.2⟩
end Tm
end PSL

namespace PSL
open Go

abbrev Binds:=List (Int × Tm)

def placeB (l:Binds) (v:Int):Int:=atI (l.map (·.1)) v 0
def findB (l:Binds) (v:Int):Option Tm:=(l.find? (fun b=>b.1==v)).map (·.2)

theorem atI_find:∀ (l:Binds) (v:Int) (i:Int),0≤i→(atI (l.map (·.1)) v i<0∧findB l v=none)∨(∃ (k:Nat) (t:Tm),atI (l.map (·.1)) v i=i+k∧l[k]? = some (v,t)∧findB l v=some t)
 | [],v,i,h=>.inl ⟨by simp [atI],rfl⟩
 | b::l,v,i,h=>by
  by_cases hb:b.1=v
  ·refine .inr ⟨0,b.2,by simp [atI,hb],by simp [← hb],by simp [findB,hb]⟩
  ·have hf:findB (b::l) v=findB l v:=by
    simp only [findB,List.find?_cons,show (b.1==v)=false by simpa using hb]
   simp only [List.map_cons,atI,if_neg hb,hf]
   rcases atI_find l v (i+1) (by omega) with ⟨h1,h2⟩ | ⟨k,t,h1,h2,h3⟩
   ·exact .inl ⟨h1,h2⟩
   ·exact .inr ⟨k+1,t,by rw [h1]; omega,by simpa using h2,h3⟩

theorem placeB_find (l:Binds) (v:Int):(placeB l v<0∧findB l v=none)∨(∃ (k:Nat) (t:Tm),placeB l v=k∧l[k]? = some (v,t)∧findB l v=some t):=by
 rcases atI_find l v 0 (Int.le_refl _) with h | ⟨k,t,h1,h2,h3⟩
 ·exact .inl h
 ·exact .inr ⟨k,t,by unfold placeB; omega,h2,h3⟩
namespace Tm
end Tm
namespace Tm
end Tm
namespace Tm
end Tm
namespace Tm
end Tm
end PSL
namespace PSL
open Go
namespace Tm
end Tm
end PSL
namespace PSL
open Go
namespace Tm

theorem findB_mem {B:Binds} {n:Int} {t:Tm} (h:findB B n=some t):(n,t)∈B:=by
 unfold findB at h
 obtain ⟨z,hz,rfl⟩:=Option.map_eq_some_iff.1 h
 have h1:=List.find?_some hz
 have h2:z.1=n:=by simpa using h1
 subst h2; exact List.mem_of_find?_eq_some hz
end Tm
end PSL
namespace PSL
open Go
namespace Tm

mutual
def putF (σ:Int→Tm):Tm→Tm
 | mk k s n l=>if k=1 then σ n else mk k s n (putFL σ l)
def putFL (σ:Int→Tm):List Tm→List Tm
 | []=>[]
 | x::r=>putF σ x::putFL σ r
end

mutual
theorem putF_congr {σ τ:Int→Tm}:∀ (p:Tm),(∀ v∈occ p,σ v=τ v)→putF σ p=putF τ p
 | mk k s n l,h=>by
  simp only [putF]
  simp only [occ] at h
  by_cases hk:k=1
  ·simp only [if_pos hk] at h ⊢; exact h n (by simp)
  ·simp only [if_neg hk] at h ⊢; rw [putFL_congr l h]
theorem putFL_congr {σ τ:Int→Tm}:∀ (l:List Tm),(∀ v∈occL l,σ v=τ v)→putFL σ l=putFL τ l
 | [],_=>rfl
 | x::r,h=>by
  simp only [occL,List.mem_append] at h
  simp only [putFL,putF_congr x (fun v hv=>h v (.inl hv)),putFL_congr r (fun v hv=>h v (.inr hv))]
end

def vT (n:Int):Tm:=mk 1 ByteArray.empty n []
end Tm
end PSL
namespace PSL
open Go
namespace Tm

mutual
theorem turn_put (g:Int→Int):∀ (p:Tm),fairR p=true→turnT g p=putF (fun v=>vT (g v)) p
 | mk k s n l,h=>by
  have hl:=fairR_mk h
  simp only [turnT,putF]
  by_cases hk:k=1
  ·obtain ⟨rfl,rfl⟩:=hl.2 hk
   subst hk
   simp [turnTL,vT]
  ·rw [if_neg hk,if_neg hk,turnL_put g l hl.1]
theorem turnL_put (g:Int→Int):∀ (l:List Tm),fairRL l=true→turnTL g l=putFL (fun v=>vT (g v)) l
 | [],_=>rfl
 | x::r,h=>by
  simp only [fairRL,Bool.and_eq_true] at h
  simp only [turnTL,putFL,turn_put g x h.1,turnL_put g r h.2]
end

theorem put_self (p:Tm) (h:fairR p=true):putF vT p=p:=by
 have:=turn_put (fun n=>n) p h
 rw [turn_self] at this; exact this.symm
end Tm
end PSL
namespace PSL
open Go
namespace Tm
end Tm
end PSL
namespace PSL
open Go
namespace Tm
end Tm
end PSL

namespace PSL
open Go

def ixGo:List Int→Int→List (Int × AV)→List (Int × AV)
 | [],_,A=>A
 | v::r,i,A=>ixGo r (i+1) (if (getI A v).isSome then A else A++[(v,iV i)])
def ixM (V:List Int):List (Int × AV):=ixGo V 0 []

theorem ixGo_keys:∀ (V:List Int) (i:Int) (A:List (Int × AV)),(ixGo V i A).map (·.1)=V.foldl addV (A.map (·.1))
 | [],i,A=>rfl
 | u::V,i,A=>by
  simp only [ixGo,List.foldl_cons]
  rw [ixGo_keys V (i+1)]
  congr 1
  have key:∀ (A:List (Int × AV)),(getI A u).isSome=(A.map (·.1)).contains u:=by
   intro A
   induction A with
   | nil=>rfl
   | cons p A ih =>
    simp only [getI,List.map_cons,List.contains_cons]
    by_cases h:p.1=u
    ·rw [if_pos h]; simp [h]
    ·rw [if_neg h,ih]
     have:(u==p.1)=false:=by simp; exact fun e=>h e.symm
     rw [this,Bool.false_or]
  unfold addV
  rw [← key A]
  split <;> simp

theorem ixM_len (V:List Int):(ixM V).length=(Tm.once V).length:=by
 have:=congrArg List.length (ixGo_keys V 0 [])
 simpa [ixM,Tm.once] using this

theorem foldl_len:∀ (l a:List Int),(l.foldl addV a).length≤a.length+l.length∧((l.foldl addV a).length=a.length+l.length→l.Nodup∧∀ x∈l,x ∉ a)
 | [],a=>by simp
 | x::l,a=>by
  have h:=foldl_len l (addV a x)
  have h2:=Tm.addV_len' a x
  simp only [List.foldl_cons,List.length_cons]
  refine ⟨by omega,fun he=>?_⟩
  have h3:(addV a x).length=a.length+1:=by omega
  have hx:x ∉ a:=fun hm=>by
   unfold addV at h3; rw [if_pos (by simpa using hm)] at h3; omega
  obtain ⟨h4,h5⟩:=h.2 (by omega)
  have h6:addV a x=a++[x]:=by unfold addV; rw [if_neg (by simpa using hx)]
  rw [h6] at h5
  refine ⟨List.nodup_cons.2 ⟨fun hm=>by have:=h5 x hm; simp at this,h4⟩,fun y hy=>?_⟩
  rcases List.mem_cons.1 hy with rfl | hy
  ·exact hx
  ·have:=h5 y hy; simp at this; exact this.1

theorem once_len {V:List Int}:((Tm.once V).length<V.length)↔¬ V.Nodup:=by
 have h:=foldl_len V []
 unfold Tm.once
 constructor
 ·intro h1 h2
  have key:∀ (l a:List Int),l.Nodup→(∀ x∈l,x ∉ a)→(l.foldl addV a).length=a.length+l.length:=by
   intro l
   induction l with
   | nil=>intro a _ _; simp
   | cons x l ih =>
    intro a hn hd
    have hx:addV a x=a++[x]:=by unfold addV; rw [if_neg (by simpa using hd x (by simp))]
    rw [List.foldl_cons,hx,ih _ (List.nodup_cons.1 hn).2 fun y hy=>?_]
    ·simp; omega
    ·simp only [List.mem_append,List.mem_singleton,not_or]
     exact ⟨hd y (by simp [hy]),fun e=>(List.nodup_cons.1 hn).1 (e ▸ hy)⟩
  have:=key V [] h2 (by simp)
  simp at this; omega
 ·intro h1
  rcases Nat.lt_or_ge (V.foldl addV []).length V.length with h2 | h2
  ·exact h2
  ·exact absurd (h.2 (by simp; have:=h.1; simp at this; omega)).1 h1

def dfsL (g:Nat→List Int→Bool × List Int):List Nat→List Int→Bool × List Int
 | [],st=>(true,st)
 | k::r,st=>if (g k st).1 then dfsL g r (g k st).2 else (false,(g k st).2)

def dfsF (adj:Nat→List Nat):Nat→Nat→List Int→Bool × List Int
 | 0,_,st=>(false,st)
 | f+1,i,st=>if st.getD i 0≠0 then (decide (st.getD i 0=2),st) else
   if (dfsL (dfsF adj f) (adj i) (st.set i 1)).1 then (true,(dfsL (dfsF adj f) (adj i) (st.set i 1)).2.set i 2) else (false,(dfsL (dfsF adj f) (adj i) (st.set i 1)).2)

inductive Okn (adj:Nat→List Nat):Nat→Nat→Prop
 | mk {m i:Nat} (h:∀ k∈adj i,Okn adj m k):Okn adj (m+1) i

theorem Okn.mono {adj:Nat→List Nat}:∀ {m i:Nat},Okn adj m i→∀ {m':Nat},m≤m'→Okn adj m' i:=by
 intro m
 induction m with
 | zero=>intro i h; cases h
 | succ m ih =>
  intro i h m' hm
  cases h with
  | mk h =>
   obtain ⟨q,rfl⟩:∃ q,m'=q+1:=⟨m' - 1,by omega⟩
   exact .mk fun k hk=>ih (h k hk) (by omega)

theorem Okn.all {adj:Nat→List Nat}:∀ {L:List Nat},(∀ k∈L,∃ m,Okn adj m k)→∃ m,∀ k∈L,Okn adj m k
 | [],_=>⟨0,by simp⟩
 | k::L,h=>by
  obtain ⟨m,h1⟩:=h k (by simp)
  obtain ⟨m',h2⟩:=Okn.all (L:=L) fun k hk=>h k (by simp [hk])
  refine ⟨m+m',fun x hx=>?_⟩
  rcases List.mem_cons.1 hx with rfl | hx
  ·exact h1.mono (by omega)
  ·exact (h2 x hx).mono (by omega)

theorem dfs_sound (adj:Nat→List Nat):∀ (f i:Nat) (st:List Int),(∀ j,st.getD j 0=2→∃ m,Okn adj m j)→(∀ j,(dfsF adj f i st).2.getD j 0=2→∃ m,Okn adj m j)∧((dfsF adj f i st).1=true→∃ m,Okn adj m i):=by
 intro f
 induction f with
 | zero=>intro i st h; exact ⟨h,fun h=>by cases h⟩
 | succ f ih =>
  intro i st h
  have hL:∀ (L:List Nat) (st:List Int),(∀ j,st.getD j 0=2→∃ m,Okn adj m j)→(∀ j,(dfsL (dfsF adj f) L st).2.getD j 0=2→∃ m,Okn adj m j)∧((dfsL (dfsF adj f) L st).1=true→∀ k∈L,∃ m,Okn adj m k):=by
   intro L
   induction L with
   | nil=>intro st h; exact ⟨h,by simp⟩
   | cons k r ihr =>
    intro st h
    obtain ⟨h1,h2⟩:=ih k st h
    obtain ⟨h3,h4⟩:=ihr _ h1
    simp only [dfsL]
    split
    ·rename_i hk
     refine ⟨h3,fun hr x hx=>?_⟩
     rcases List.mem_cons.1 hx with rfl | hx
     ·exact h2 hk
     ·exact h4 hr x hx
    ·exact ⟨h1,fun h=>by cases h⟩
  have hset:∀ (st:List Int) (x:Int),(∀ j,st.getD j 0=2→∃ m,Okn adj m j)→(x=2→∃ m,Okn adj m i)→∀ j,(st.set i x).getD j 0=2→∃ m,Okn adj m j:=fun st x hst hx j hj=>by
   by_cases e:j=i
   ·subst e
    rcases Nat.lt_or_ge j st.length with hl | hl
    ·rw [List.getD_eq_getElem?_getD,List.getElem?_set_self hl] at hj
     exact hx (by simpa using hj)
    ·rw [List.getD_eq_getElem?_getD,List.getElem?_eq_none (by simpa using hl)] at hj
     simp at hj
   ·rw [List.getD_eq_getElem?_getD,List.getElem?_set_ne (fun h=>e h.symm),← List.getD_eq_getElem?_getD] at hj
    exact hst j hj
  obtain ⟨h1,h2⟩:=hL (adj i) (st.set i 1) (hset st 1 h (by omega))
  have hi:(dfsL (dfsF adj f) (adj i) (st.set i 1)).1=true→∃ m,Okn adj m i:=fun hr=>by
   obtain ⟨m,hm⟩:=Okn.all (h2 hr)
   exact ⟨m+1,.mk hm⟩
  simp only [dfsF]
  split
  ·exact ⟨h,fun hd=>h i (by simpa using hd)⟩
  ·split
   ·rename_i hr
    exact ⟨hset _ 2 h1 fun _=>hi hr,fun _=>hi hr⟩
   ·exact ⟨h1,fun h=>by cases h⟩

def adjB (l:Binds) (i:Nat):List Nat:=match l[i]? with
 | some b=>(varsT [b.2]).filterMap fun v=>if placeB l v<0 then none else some (placeB l v).toNat
 | none=>[]

def dfsAll (adj:Nat→List Nat) (n:Nat):List Nat→List Int→Bool
 | [],_=>true
 | i::r,st=>if (dfsF adj (n+1) i st).1 then dfsAll adj n r (dfsF adj (n+1) i st).2 else false
def fineB (l:Binds):Bool:=l.all fun b=>decide (0≤b.1)&&decide (b.1<1000000)&&b.2.rightB

def rightS (l:Binds):Bool:=!decide ((ixM (l.map (·.1))).length<l.length)&&fineB l&&dfsAll (adjB l) l.length (List.range l.length) (List.replicate l.length 0)

theorem dfsAll_sound {adj:Nat→List Nat} {n:Nat}:∀ (L:List Nat) (st:List Int),(∀ j,st.getD j 0=2→∃ m,Okn adj m j)→dfsAll adj n L st=true→∀ i∈L,∃ m,Okn adj m i
 | [],st,_,_=>by simp
 | i::r,st,h,hr=>by
  simp only [dfsAll] at hr
  obtain ⟨h1,h2⟩:=dfs_sound adj (n+1) i st h
  split at hr
  ·rename_i hi
   have h3:=dfsAll_sound r _ h1 hr
   intro x hx
   rcases List.mem_cons.1 hx with rfl | hx
   ·exact h2 hi
   ·exact h3 x hx
  ·cases hr

theorem rightS_spec {l:Binds} (h:rightS l=true):(l.map (·.1)).Nodup∧(∀ b∈l,0≤b.1∧b.1<1000000∧b.2.rightB=true)∧∃ M,∀ i<l.length,Okn (adjB l) M i:=by
 simp only [rightS,Bool.and_eq_true,Bool.not_eq_true',decide_eq_false_iff_not] at h
 obtain ⟨⟨h1,h2⟩,h3⟩:=h
 refine ⟨?_,fun b hb=>?_,?_⟩
 ·rw [ixM_len] at h1
  have:=once_len (V:=l.map (·.1))
  rw [List.length_map] at this
  exact Classical.byContradiction fun hn=>h1 (this.2 hn)
 ·have:=List.all_eq_true.1 h2 b hb
  simp only [Bool.and_eq_true,decide_eq_true_eq] at this
  exact ⟨this.1.1,this.1.2,this.2⟩
 ·have h4:=dfsAll_sound _ _ (fun j hj=>by
   rw [List.getD_eq_getElem?_getD,List.getElem?_replicate] at hj
   split at hj <;> simp at hj) h3
  obtain ⟨M,hM⟩:=Okn.all h4
  exact ⟨M,fun i hi=>hM i (by simpa using hi)⟩
end PSL
namespace PSL
open Go
end PSL
namespace PSL
open Go
end PSL

namespace PSL
open Go
namespace Tm

mutual
theorem occ_putF {σ:Int→Tm}:∀ (p:Tm) (u:Int),u∈occ (putF σ p)→∃ v∈occ p,u∈occ (σ v)
 | mk k s n l,u,h=>by
  simp only [putF] at h
  simp only [occ]
  by_cases hk:k=1
  ·rw [if_pos hk] at h ⊢; exact ⟨n,by simp,h⟩
  ·rw [if_neg hk] at h ⊢
   simp only [occ,if_neg hk] at h
   exact occL_putF l u h
theorem occL_putF {σ:Int→Tm}:∀ (l:List Tm) (u:Int),u∈occL (putFL σ l)→∃ v∈occL l,u∈occ (σ v)
 | [],u,h=>by simp [putFL,occL] at h
 | x::l,u,h=>by
  simp only [putFL,occL,List.mem_append] at h
  simp only [occL,List.mem_append]
  rcases h with h | h
  ·obtain ⟨v,h1,h2⟩:=occ_putF x u h; exact ⟨v,.inl h1,h2⟩
  ·obtain ⟨v,h1,h2⟩:=occL_putF l u h; exact ⟨v,.inr h1,h2⟩
end

theorem putFL_map (σ:Int→Tm):∀ l,putFL σ l=l.map (putF σ)
 | []=>rfl
 | x::l=>by simp only [putFL,List.map_cons,putFL_map σ l]

theorem put_id {σ:Int→Tm} (p:Tm) (h:fairR p=true) (hs:∀ v∈occ p,σ v=vT v):putF σ p=p:=by
 rw [putF_congr p hs,put_self p h]
end Tm

def fullS (B:Binds):Nat→Tm→Tm
 | 0,t=>t
 | m+1,t=>Tm.putF (fun v=>match findB B v with | some x=>fullS B m x | none=>Tm.vT v) t

def levT (B:Binds) (m:Nat) (t:Tm):Prop:=∀ v∈Tm.occ t,0≤placeB B v→Okn (adjB B) m (placeB B v).toNat

theorem lev_bind {B:Binds} {m:Nat} {v:Int} {x:Tm} (hx:x.fairR=true) (h:findB B v=some x) (ho:Okn (adjB B) m (placeB B v).toNat):∃ q,m=q+1∧levT B q x:=by
 cases ho with
 | @mk q _ ho =>
  refine ⟨q,rfl,fun u hu hp=>ho _ ?_⟩
  rcases placeB_find B v with ⟨_,h2⟩ | ⟨k,t,h1,h2,h3⟩
  ·rw [h2] at h; cases h
  ·rw [h3] at h; cases h
   rw [h1]
   simp only [Int.toNat_natCast,adjB,h2,List.mem_filterMap]
   refine ⟨u,?_,by rw [if_neg (by omega)]⟩
   rw [varsT_once (one_fair hx)]
   simp [Tm.occL,Tm.mem_once,hu]
section
variable {B:Binds} (hB:∀ b∈B,b.2.fairR=true)
include hB
theorem findB_fair {v:Int} {x:Tm} (h:findB B v=some x):x.fairR=true:=hB _ (Tm.findB_mem h)

theorem lev_find {m:Nat} {t:Tm} (h:levT B m t) {v:Int} (hv:v∈Tm.occ t) {x:Tm} (hx:findB B v=some x):∃ q,m=q+1∧levT B q x:=by
 refine lev_bind (findB_fair hB hx) hx (h v hv ?_)
 rcases placeB_find B v with ⟨_,h2⟩ | ⟨k,t,h1,h2,h3⟩
 ·rw [h2] at hx; cases hx
 ·omega

theorem full_stable:∀ (m:Nat) (t:Tm),t.fairR=true→levT B m t→∀ m',m≤m'→fullS B m' t=fullS B m t:=by
 intro m
 induction m with
 | zero =>
  intro t hf hl m' _
  have hn:∀ v∈Tm.occ t,findB B v=none:=fun v hv=>by
   cases h:findB B v with
   | none=>rfl
   | some x=>obtain ⟨q,hq,_⟩:=lev_find hB hl hv h; omega
  cases m' with
  | zero=>rfl
  | succ m' =>
   simp only [fullS]
   exact Tm.put_id t hf fun v hv=>by rw [hn v hv]
 | succ m ih =>
  intro t hf hl m' hm
  obtain ⟨q,rfl⟩:∃ q,m'=q+1:=⟨m' - 1,by omega⟩
  simp only [fullS]
  refine Tm.putF_congr t fun v hv=>?_
  cases h:findB B v with
  | none=>rfl
  | some x =>
   obtain ⟨r,hr,h2⟩:=lev_find hB hl hv h
   cases hr
   exact ih x (findB_fair hB h) h2 q (by omega)

theorem full_free:∀ (m:Nat) (t:Tm),levT B m t→∀ u∈Tm.occ (fullS B m t),findB B u=none:=by
 intro m
 induction m with
 | zero =>
  intro t hl u hu
  cases h:findB B u with
  | none=>rfl
  | some x=>obtain ⟨q,hq,_⟩:=lev_find hB hl hu h; omega
 | succ m ih =>
  intro t hl u hu
  obtain ⟨v,hv,h2⟩:=Tm.occ_putF t u hu
  cases h:findB B v with
  | none =>
   rw [h] at h2
   simp [Tm.vT,Tm.occ] at h2
   rw [h2]; exact h
  | some x =>
   rw [h] at h2
   obtain ⟨r,hr,h3⟩:=lev_find hB hl hv h
   cases hr
   exact ih x h3 u h2
end

structure Sub (B:Binds) (M:Nat):Prop where
 fair:∀ b∈B,b.2.fairR=true
 okn:∀ i<B.length,Okn (adjB B) M i

theorem Sub.lev {B:Binds} {M:Nat} (h:Sub B M) (t:Tm):levT B M t:=fun v _ hp=>h.okn _ (by
 rcases placeB_find B v with ⟨h1,_⟩ | ⟨k,t,h1,h2,h3⟩
 ·omega
 ·have:=(List.getElem?_eq_some_iff.1 h2).1; omega)

theorem Sub.of {B:Binds} (h:rightS B=true):∃ M,Sub B M:=by
 obtain ⟨_,h2,M,h3⟩:=rightS_spec h
 exact ⟨M,fun b hb=>right_fair (h2 b hb).2.2,h3⟩

theorem Sub.fix {B:Binds} {M:Nat} (h:Sub B M) {t:Tm} (hf:t.fairR=true):fullS B M t=Tm.putF (fun v=>match findB B v with | some x=>fullS B M x | none=>Tm.vT v) t :=
 (full_stable h.fair M t hf (h.lev t) (M+1) (by omega)).symm

theorem Sub.head {B:Binds} {M:Nat} (h:Sub B M) {t:Tm} (hf:t.fairR=true) (hx:t.k=1→findB B t.n=none):fullS B M t=.mk t.k t.s t.n (t.l.map (fullS B M)):=by
 rw [h.fix hf]
 obtain ⟨k,s,n,l⟩:=t
 have h1:=Tm.fairR_mk hf
 by_cases hk:k=1
 ·obtain ⟨rfl,rfl⟩:=h1.2 hk
  have:=hx hk
  simp only [Tm.n] at this
  subst hk
  simp [Tm.putF,this,Tm.vT,Tm.k,Tm.s,Tm.n,Tm.l]
 ·simp only [Tm.putF,if_neg hk,Tm.k,Tm.s,Tm.n,Tm.l,Tm.putFL_map]
  congr 1
  refine List.map_congr_left fun x hx=>?_
  exact (h.fix (Tm.fairRL_iff.1 h1.1 x hx)).symm
theorem Sub.free {B:Binds} {M:Nat} (h:Sub B M) (t:Tm):∀ u∈Tm.occ (fullS B M t),findB B u=none:=full_free h.fair M t (h.lev t)

theorem Sub.same {B:Binds} {M:Nat} (h:Sub B M) {t:Tm} (hf:t.fairR=true) (hn:∀ u∈Tm.occ t,findB B u=none):fullS B M t=t:=by
 rw [h.fix hf]
 exact Tm.put_id t hf fun v hv=>by rw [hn v hv]
namespace Tm
end Tm
end PSL
namespace PSL
open Go
end PSL
namespace PSL
open Go
end PSL
namespace PSL
open Go
namespace Tm
end Tm
end PSL
namespace PSL
open Go
end PSL

namespace PSL
open Go

inductive Way (C:Nat→Nat→Bool):Nat→Nat→Prop
 | one {i j:Nat} (h:C i j=true):Way C i j
 | snoc {i j k:Nat} (h:Way C i j) (h2:C j k=true):Way C i k

theorem Way.trans {C:Nat→Nat→Bool} {i j k:Nat} (h:Way C i j) (h2:Way C j k):Way C i k:=by
 induction h2 with
 | one h3=>exact .snoc h h3
 | snoc _ h3 ih=>exact .snoc ih h3
end PSL

namespace PSL
open Go
namespace Tm
end Tm
end PSL
namespace PSL
open Go
end PSL

namespace PSL
open Go
namespace Tm
end Tm
abbrev Pt:=Tm × List Nat
namespace Tm

def Good (P:List Pt):Prop:=∀ (k:Nat) (y:Tm) (at_:List Nat),P[k]? = some (y,at_)→y.fairR=true∧at_.length=y.l.length∧∀ (j:Nat) (z:Tm),y.l[j]? = some z→∃ (a:Nat) (b:List Nat),at_[j]? = some a∧a<k∧P[a]? = some (z,b)

def Pre (P Q:List Pt):Prop:=∃ R,Q=P++R

theorem Pre.get {P Q:List Pt} (h:Pre P Q) {i:Nat} {x:Pt} (hx:P[i]? = some x):Q[i]? = some x:=by
 obtain ⟨R,rfl⟩:=h
 rw [List.getElem?_append_left (List.getElem?_eq_some_iff.1 hx).1]; exact hx
theorem Pre.refl (P:List Pt):Pre P P:=⟨[],by simp⟩

theorem Pre.trans {P Q R:List Pt} (h:Pre P Q) (k:Pre Q R):Pre P R:=by
 obtain ⟨A,rfl⟩:=h; obtain ⟨B,rfl⟩:=k
 exact ⟨A++B,by simp⟩
theorem Good.nil:Good []:=fun k y b h=>by simp at h
end Tm
end PSL

namespace PSL
open Go
def gd (at_:List Nat) (j:Nat):Int:=((at_.getD j 0:Nat):Int)
end PSL
namespace PSL
open Go
end PSL
namespace PSL
open Go
end PSL
namespace PSL
open Go
end PSL
namespace PSL
open Go

theorem few_neg {t:Tm} {m d:Int} (h:-1≤m∧m<0):t.few m d=-1:=by
 rw [Tm.few_eq,if_pos]
 simp only [Tm.fewStep]
 rw [show IntKind.i64.wrap (m - 1)=m - 1 from w64 (by omega) (by omega),decide_eq_true (by omega:m - 1<0)]
 rfl

theorem few_bound (t:Tm) {m d:Int} (h0:-1≤m) (h1:m<9223372036854775808) (h2:d≤1000):-1≤t.few m d∧t.few m d≤m∧(0≤t.few m d→t.few m d+t.size≤m∧∀ x e,e∈t.els x→e.2.s.size≤100):=by
 by_cases h:m<0
 ·rw [few_neg ⟨h0,h⟩]; exact ⟨by omega,by omega,fun h=>by omega⟩
 ·rcases Tm.few_le t m d (by omega) h1 h2 with h3 | ⟨h3,_,_,h4,h5⟩
  ·rw [h3]; exact ⟨by omega,by omega,fun h=>by omega⟩
  ·exact ⟨by omega,by omega,fun _=>⟨h3,h5⟩⟩
end PSL

namespace PSL
open Go Go.RowKit Go.MapKept
section
variable {g:G} {pf:Nat→Cls} {ops:Array Oper} {Fin:Exit→Act→World→Prop}
end
end PSL

namespace PSL
open Go

inductive Gl where
 | mk (k:Int) (t:Tm) (a b c:List Gl)
namespace Gl
def k:Gl→Int | mk k _ _ _ _=>k
def t:Gl→Tm | mk _ t _ _ _=>t
def a:Gl→List Gl | mk _ _ a _ _=>a
def b:Gl→List Gl | mk _ _ _ b _=>b
def c:Gl→List Gl | mk _ _ _ _ c=>c

theorem ind {p:Gl→Prop} (h:∀ g:Gl,(∀ x∈g.a,p x)→(∀ x∈g.b,p x)→(∀ x∈g.c,p x)→p g) (g:Gl):p g :=
 Gl.rec (motive_1:=p) (motive_2:=fun l=>∀ x∈l,p x) (fun k t a b c ha hb hc=>h (.mk k t a b c) ha hb hc) (by simp) (fun x r h1 h2=>by
  intro y hy
  rcases List.mem_cons.1 hy with rfl | hy
  ·exact h1
  ·exact h2 y hy) g

theorem indL {p:List Gl→Prop} (h:∀ l:List Gl,(∀ x∈l,p x.a∧p x.b∧p x.c)→p l) (l:List Gl):p l:=by
 have key:∀ g:Gl,p g.a∧p g.b∧p g.c:=fun g=>ind (p:=fun g=>p g.a∧p g.b∧p g.c) (fun g h1 h2 h3=>⟨h _ h1,h _ h2,h _ h3⟩) g
 exact h l fun x _=>key x

mutual
def rowM:Gl→List D
 | mk k t a b c=>[.v (.int .i64 k),.v (.int .i64 t.k),.v (.string t.s),.v (.int .i64 t.n),.sl (Tm.rows t.l),.sl (rows a),.sl (rows b),.sl (rows c)]
def rows:List Gl→List (List D)
 | []=>[]
 | g::r=>rowM g::rows r
end
def row (g:Gl):List D:=[.v (.int .i64 g.k),.v (.int .i64 g.t.k),.v (.string g.t.s),.v (.int .i64 g.t.n),.sl (Tm.rows g.t.l),.sl (rows g.a),.sl (rows g.b),.sl (rows g.c)]
theorem rowM_eq (g:Gl):rowM g=row g:=by cases g; simp only [rowM,row,k,t,a,b,c]

theorem rows_eq (l:List Gl):rows l=l.map row:=by
 induction l with
 | nil=>rfl
 | cons x r ih=>simp only [rows,rowM_eq,List.map_cons,ih]
theorem rows_length (l:List Gl):(rows l).length=l.length:=by rw [rows_eq]; simp
theorem rows_get {l:List Gl} {i:Nat} {x:Gl} (h:l[i]? = some x):(rows l)[i]? = some (row x):=by rw [rows_eq,List.getElem?_map,h]; rfl
def av (g:Gl):AV:=.agg [.d (.v (.int .i64 g.k)),.d (.v (.int .i64 g.t.k)),.d (.v (.string g.t.s)),.d (.v (.int .i64 g.t.n)),.d (.sl (Tm.rows g.t.l)),.d (.sl (rows g.a)),.d (.sl (rows g.b)),.d (.sl (rows g.c))]

mutual
def size:Gl→Nat
 | mk _ t a b c=>t.size+sizeL a+sizeL b+sizeL c
def sizeL:List Gl→Nat
 | []=>0
 | g::r=>size g+sizeL r
end
theorem size_eq (g:Gl):g.size=g.t.size+sizeL g.a+sizeL g.b+sizeL g.c:=by cases g; simp only [size,t,a,b,c]
theorem tmPos (t:Tm):1≤t.size:=by cases t; simp only [Tm.size]; omega
theorem size_pos (g:Gl):1≤g.size:=by rw [size_eq]; have:=tmPos g.t; omega

theorem len_size (l:List Gl):l.length≤sizeL l:=by
 induction l with
 | nil=>simp
 | cons x r ih=>simp only [sizeL,List.length_cons]; have:=size_pos x; omega

theorem size_mem {l:List Gl} {x:Gl} (h:x∈l):x.size≤sizeL l:=by
 induction l with
 | nil=>cases h
 | cons y r ih =>
  simp only [sizeL]
  rcases List.mem_cons.1 h with rfl | h
  ·omega
  ·have:=ih h; omega

inductive Ok:Gl→Prop
 | mk {k:Int} {t:Tm} {a b c:List Gl}:I64 k→t.Ok∧t.Fit→a.length≤140737488355328→b.length≤140737488355328→c.length≤140737488355328→(∀ x∈a,Ok x)→(∀ x∈b,Ok x)→(∀ x∈c,Ok x)→Ok (.mk k t a b c)
theorem Ok.tm {g:Gl} (h:g.Ok):g.t.Ok∧g.t.Fit:=by cases h; assumption
theorem Ok.la {g:Gl} (h:g.Ok):g.a.length≤140737488355328:=by cases h; assumption
theorem Ok.lb {g:Gl} (h:g.Ok):g.b.length≤140737488355328:=by cases h; assumption
theorem Ok.lc {g:Gl} (h:g.Ok):g.c.length≤140737488355328:=by cases h; assumption
theorem Ok.ma {g:Gl} (h:g.Ok):∀ x∈g.a,Ok x:=by cases h; assumption
theorem Ok.mb {g:Gl} (h:g.Ok):∀ x∈g.b,Ok x:=by cases h; assumption
theorem Ok.mc {g:Gl} (h:g.Ok):∀ x∈g.c,Ok x:=by cases h; assumption
end Gl

structure Cs where
 head:Tm
 body:List Gl
 vars:Int
namespace Cs
def row (x:Cs):List D:=[.v (.int .i64 x.head.k),.v (.string x.head.s),.v (.int .i64 x.head.n),.sl (Tm.rows x.head.l),.sl (Gl.rows x.body),.v (.int .i64 x.vars)]
def rows (l:List Cs):List (List D):=l.map row
theorem rows_get {l:List Cs} {i:Nat} {x:Cs} (h:l[i]? = some x):(rows l)[i]? = some (row x):=by simp [rows,h]
def av (x:Cs):AV:=.agg [.d (.v (.int .i64 x.head.k)),.d (.v (.string x.head.s)),.d (.v (.int .i64 x.head.n)),.d (.sl (Tm.rows x.head.l)),.d (.sl (Gl.rows x.body)),.d (.v (.int .i64 x.vars))]
def size (x:Cs):Nat:=x.head.size+Gl.sizeL x.body

def sizeL:List Cs→Nat
 | []=>0
 | x::r=>size x+sizeL r

structure Ok (x:Cs):Prop where
 head:x.head.Ok∧x.head.Fit
 vars:I64 x.vars
 len:x.body.length≤140737488355328
 body:∀ g∈x.body,g.Ok
end Cs

structure IsGoal (ty:Nat→Option Ty) (T TT:Nat):Prop where
 ex:∃ (a s:Nat) (τ τa τs:Ty),ty T=some τ∧τ.sh=.struct [(0,a),(1,TT),(5,s),(6,s),(7,s)]∧τ.size=8∧1≤τ.bytes∧ty a=some τa∧τa.sh=.int .i64∧ty s=some τs∧τs.sh=.slice T

def isGoalB (ty:Nat→Option Ty) (T TT:Nat):Bool :=
 match ty T with
 | some ⟨8,by_,_,.struct [(0,a),(1,T'),(5,s),(6,s'),(7,s'')]⟩=>Nat.ble 1 by_&&(match ty a with | some ⟨_,_,_,.int .i64⟩=>true | _=>false)&&(match ty s with | some ⟨_,_,_,.slice T2⟩=>Nat.beq T2 T | _=>false)&&Nat.beq T' TT&&Nat.beq s' s&&Nat.beq s'' s
 | _=>false

theorem isGoalB_ok {ty:Nat→Option Ty} {T TT:Nat} (h:isGoalB ty T TT=true):IsGoal ty T TT:=by
 unfold isGoalB at h
 split at h
 case h_2=>cases h
 rename_i by_ z a T' s s' s'' hT
 simp only [Bool.and_eq_true] at h
 obtain ⟨⟨⟨⟨⟨h0,h1⟩,h2⟩,h3⟩,h4⟩,h5⟩:=h
 split at h1
 case h_2=>cases h1
 rename_i ha
 split at h2
 case h_2=>cases h2
 rename_i hs
 have:=natBeq h2
 subst this
 have:=natBeq h3
 subst this
 have:=natBeq h4
 subst this
 have:=natBeq h5
 subst this
 exact ⟨a,_,_,_,_,hT,rfl,rfl,Nat.le_of_ble_eq_true h0,ha,rfl,hs,rfl⟩

theorem gls_of {ty:Nat→Option Ty} {T S B:Nat} {τ τs:Ty} (hτ:ty T=some τ) (hby:1≤τ.bytes) (hs:ty S=some τs) (hs':τs.sh=.slice T) (hB:B≤140737488355328) (n:Nat) (ih:∀ m,m≤n→∀ row,HasTy ty B m T row→∃ g:Gl,row=g.row∧g.Ok) (row:List D) (h:HasTy ty B (n+1) S row) :
  ∃ l:List Gl,row=[.sl (Gl.rows l)]∧l.length≤140737488355328∧∀ x∈l,x.Ok:=by
 obtain ⟨rows,rfl,hlen,hrows⟩:=has_slice hs hs' h
 have hch:∃ l:List Gl,rows=l.map Gl.row∧∀ x∈l,x.Ok:=by
  clear hlen h
  induction rows with
  | nil=>exact ⟨[],rfl,by simp⟩
  | cons r rows ihr =>
   obtain ⟨g,h1,h2⟩:=ih n (Nat.le_refl _) r (hrows r (by simp))
   obtain ⟨l,hl1,hl2⟩:=ihr fun r hr=>hrows r (by simp [hr])
   exact ⟨g::l,by simp [h1,hl1],by simpa using ⟨h2,hl2⟩⟩
 obtain ⟨l,rfl,hl⟩:=hch
 refine ⟨l,by rw [Gl.rows_eq],?_,hl⟩
 have:=hlen τ hτ
 rw [List.length_map] at this
 exact Nat.le_trans (Nat.le_mul_of_pos_right _ hby) (Nat.le_trans this hB)

theorem gl_of {ty:Nat→Option Ty} {T TT B:Nat} (hT:IsTerm ty TT) (hG:IsGoal ty T TT) (hB:B≤140737488355328):∀ (n:Nat) (row:List D),HasTy ty B n T row→∃ g:Gl,row=g.row∧g.Ok:=by
 obtain ⟨a,s,τ,τa,τs,h1,h2,h3,hby,ha,ha',hs,hs'⟩:=hG.ex
 intro n
 induction n using Nat.strongRecOn with
 | _ n ih =>
 intro row h
 cases n with
 | zero=>simp [HasTy] at h
 | succ n =>
  simp only [HasTy,h1,h2,HasFs] at h
  obtain ⟨_,ra,_,g1,rfl,g2,g3,_,rb,_,g4,rfl,g5,g6,_,rc,_,g7,rfl,g8,g9,_,rd,_,g10,rfl,g11,g12,_,re,_,g13,rfl,g14,g15,rfl⟩:=h
  rw [ha] at g1; cases g1
  rw [hs] at g7; cases g7
  rw [hs] at g10; cases g10
  rw [hs] at g13; cases g13
  obtain ⟨k,rfl,hk⟩:=has_int ha ha' g3
  obtain ⟨t,rfl,ht⟩:=tm_of hT hB n rb g6
  cases n with
  | zero=>simp [HasTy] at g9
  | succ n =>
   have ih':∀ m,m≤n→∀ row,HasTy ty B m T row→∃ g:Gl,row=g.row∧g.Ok:=fun m hm=>ih m (by omega)
   obtain ⟨la,rfl,a1,a2⟩:=gls_of h1 hby hs hs' hB n ih' rc g9
   obtain ⟨lb,rfl,b1,b2⟩:=gls_of h1 hby hs hs' hB n ih' rd g12
   obtain ⟨lc,rfl,c1,c2⟩:=gls_of h1 hby hs hs' hB n ih' re g15
   refine ⟨.mk k t la lb lc,by simp [Gl.row,Tm.row,Gl.k,Gl.t,Gl.a,Gl.b,Gl.c],.mk hk ht a1 b1 c1 a2 b2 c2⟩
section
variable {ty:Nat→Option Ty} {T TT TG TS B:Nat} {n:Nat} {τ:Ty} {row:List D} {a:AV}

theorem arg_gls (hT:IsTerm ty TT) (hG:IsGoal ty TG TT) (hB:B≤140737488355328) (hτ:ty TS=some τ) (hs:τ.sh=.slice TG) (h:HasTy ty B n TS row) (ha:a=avOf τ row):∃ l:List Gl,a=.d (.sl (Gl.rows l))∧(∀ x∈l,x.Ok)∧l.length≤140737488355328:=by
 obtain ⟨_,_,τg,_,_,q1,_,_,q4,_⟩:=hG.ex
 cases n with
 | zero=>simp [HasTy] at h
 | succ n =>
  obtain ⟨l,rfl,l1,l2⟩:=gls_of q1 q4 hτ hs hB n (fun m _ row h=>gl_of hT hG hB m row h) row h
  refine ⟨l,?_,l2,l1⟩
  rw [ha]; unfold avOf Ty.agg; rw [hs]
end
end PSL

namespace Go.Proofs.YtchhahnajgfeaaaDoor
open Go PSL Go.Proofs Go.ChangeShapes Go.WideShapes Go.ChangeAt Go.RowKit
theorem ownK:ownKnob Tryd.prog.godebug=none:=by kernel_rfl
theorem laidK:laidOutB Tryd.prog=true:=by kernel_rfl
theorem isTerm:IsTerm tyT.get 24:=isTermB_ok (by kernel_rfl)
theorem isGoal:IsGoal tyT.get 42 24:=isGoalB_ok (by kernel_rfl)

def lawTys:List Nat:=[3,9,4,24,22,5,42,32,38]

theorem lawTysOk:∀ t∈lawTys,dT tyT.get lawTys t=true:=by
 have h:lawTys.all (fun t=>dT tyT.get lawTys t)=true:=by kernel_rfl
 exact fun t ht=>List.all_eq_true.1 h t ht
theorem reach47:reachBytes≤140737488355328:=by decide
end Go.Proofs.YtchhahnajgfeaaaDoor

namespace PSL
open Go Go.Proofs Go.RowKit

theorem returns_of_change_door {H:Type} {enc:TypeId × Value→H} {a:Assume} {C:Checked} {os:Os} {f:FuncId} {fn:Func} {s:ChangeSpec} {conds:List PathCond} {apart fresh handsOn again:Bool} {X:World→Array Value→Prop}
  (hX:∀ (w w':World) (args:Array Value),w.heap=w'.heap→X w args→X w' args)
  (own:ownKnob C.prog.godebug=none) (started:os.Started) (noInit:C.prog.inits.idxOf? f=none) (hfn:C.prog.funcs[f]? = some fn)
  (witness:∃ (w:World) (tape:Tape) (i:Input),w.os=os∧(w.forCall tape i).Shaped C.prog∧i.vars=[]∧Input.okWide C.prog (w.forCall tape i) .any w.heap.size f i ∧
   ((s.pre enc C.prog fn conds apart (w.forCall tape i).memory i.args∧X (w.forCall tape i).memory i.args)∧sizedMet enc C.prog fn (OpenSpec.ofChange s) apart (w.forCall tape i).memory i.args)∧a.holds C.prog (lone (Frame.enter C.prog f i.args .normal) [] (w.forCall tape i)))
  (contract:∀ (W:World) (base:Nat) (args:Array Value) (ds gs:List (DataW H)) (before:List MemPlace),
   (∀ (j:Nat) t v,fn.params[j]? = some t→args[j]? = some v→Value.okWide C.prog W .any base t v) →
   DataW.Whole enc C.prog fn.params.toList s.vars apart W args.toList ds gs before →
   (DataW.weightsEach C.prog (fn.params.toList++s.plain.varTypes C.prog) (ds++gs)).all (· ≤ reachBytes)=true→X W args→W.ShapedOpen C.prog →
   Calls C.prog f args W fun e W'=>∃ v,e=.returned v∧s.post enc C.prog fn apart fresh handsOn again W args v W') :
  ReturnsInHanded a C os f .any (fun w args=>(s.pre enc C.prog fn conds apart w args∧X w args)∧sizedMet enc C.prog fn (OpenSpec.ofChange s) apart w args) (s.post enc C.prog fn apart fresh handsOn again):=by
 refine returnsInHanded_of_calls own started noInit witness ?_
 intro w tape i _ hsh _ hok hpre _
 obtain ⟨_,_,_,fn',hfn',_,_,_,_,hval⟩:=hok
 have e:fn'=fn:=Option.some.inj (hfn'.symm.trans hfn)
 subst e
 obtain ⟨⟨⟨ds,gs,before,hw,_⟩,hx⟩,hz⟩:=hpre
 have hw':=DataW.Whole.of_heap (w':=w.forCall tape i) (by rfl) hw
 refine (contract (w.forCall tape i) w.heap.size i.args ds gs before hval hw' (hz.weights hw) (hX _ _ _ (by rfl) hx) hsh).mono fun e W' ⟨v,he,hp⟩=>?_
 subst he
 exact ChangeSpec.post_blind hp

theorem laid_ints {P:Program} {W:World} {x:String} {zs:List Int} {k:IntKind} {i t e n:Nat}
  (hg:P.globalNamed x=some i) (hi:(P.globals[i]?).map (·.type)=some t) (ht:P.underlying t=some (.array n e)) (he:P.underlying e=some (.int k)) (hc:P.cellsOf e=1) (hct:P.cellsOf t=n) :
  ∀ {l:List (String × DataW Unit)} {ps:List MemPlace},DataW.LaidVars P W l ps→(x,DataW.agg (zs.map fun z=>.lit (.int k z)))∈l→W.var? P x=some (zs.map fun z=>Value.int k z).toArray:=by
 intro l
 induction l with
 | nil=>intro ps _ hm; cases hm
 | cons y r ih =>
  intro ps h hm
  obtain ⟨nm,d⟩:=y
  obtain ⟨g,t',cs,fuel,p,q,a1,a2,a3,a4,a5,_⟩:=h
  rcases List.mem_cons.1 hm with hm | hm
  ·obtain ⟨rfl,rfl⟩:=Prod.mk.inj hm
   obtain rfl:=Option.some.inj (hg.symm.trans a1)
   obtain rfl:=Option.some.inj (hi.symm.trans a2)
   obtain ⟨xs,m,_,ex,hlen,hl,hel⟩:=DataW.trod_array ht a4
   rw [hct] at hlen
   have e3:xs.map (·.1)=zs.map fun z=>DataW.lit (.int k z):=(DataW.agg.inj (Prod.mk.inj ex).1).symm
   have hzl:zs.length=n:=by have:=congrArg List.length e3; simp at this; omega
   rw [a3]
   congr 1
   obtain ⟨cl⟩:=cs
   congr 1
   have hlen:cl.length=n:=hlen
   refine List.ext_getElem (by simp; omega) fun j h1 h2=>?_
   have h3:j<n:=by omega
   have hE:=hel j h3
   rw [hc,Nat.mul_one,List.getElem?_eq_getElem (by omega)] at hE
   obtain ⟨z,e1,e2,_⟩:=DataW.trod_int he hE
   have e4:(xs.map (·.1))[j]? = (zs.map fun z=>(DataW.lit (.int k z):DataW Unit))[j]? := by rw [e3]
   rw [List.getElem?_map,List.getElem?_map,List.getElem?_eq_getElem (by omega:j<xs.length),List.getElem?_eq_getElem (by omega:j<zs.length),e2] at e4
   simp only [Option.map_some,Option.some.injEq,DataW.lit.injEq,Lit.int.injEq,true_and] at e4
   have:cl[j]? = some (.int k z):=by
    have h0:((cl.drop j).take 1)[0]? = some (.int k z):=by rw [e1]; rfl
    simpa using h0
   rw [List.getElem?_eq_getElem (by omega)] at this
   rw [Option.some.inj this,List.getElem_map,e4]
  ·exact ih a5 hm

theorem amb_door {P:Program} {W:World} {l:List (String × DataW Unit)} {i t e n j tj:Nat} {zero:Array Value} (h:laidMet P l W) (hs:W.ShapedOpen P)
  (hm:("internal/strconv.uint64pow10",DataW.agg (((List.range 20).map fun i=>((10 ^ i:Nat):Int)).map fun z=>.lit (.int .u64 z)))∈l)
  (hg:P.globalNamed "internal/strconv.uint64pow10" = some i) (hi:(P.globals[i]?).map (·.type)=some t) (ht:P.underlying t=some (.array n e)) (he:P.underlying e=some (.int .u64)) (hc:P.cellsOf e=1) (hct:P.cellsOf t=n)
  (hg2:P.globalNamed "internal/bytealg.MaxLen" = some j) (hj:j<P.globals.size) (h0:((begin P (fun _ _=>0) default).world.heap[j]?).bind Obj.row? = some (zero,tj)) (hz:zero.size=1)
  (hb:P.buildable tj=true) (hcj:P.cellTypes P.depth tj=some [tj]) (hu:P.underlying tj=some (.int .i64)):AmbOk P (fun _=>True) W:=by
 obtain ⟨ps,hl,_,_⟩:=h
 intro x hx k hk
 refine ⟨trivial,?_⟩
 rcases hx with rfl | rfl
 ·have hv:=laid_ints hg hi ht he hc hct hl hm
  obtain rfl:=Option.some.inj (hg.symm.trans hk)
  unfold World.var? at hv
  rw [hg,Option.bind_some] at hv
  split at hv
  ·rename_i cs ee kk ho
   cases hv
   exact ⟨_,ho,trivial,fun _=>⟨_,_,rfl⟩,fun h=>by simp at h⟩
  ·cases hv
 ·obtain rfl:=Option.some.inj (hg2.symm.trans hk)
  obtain ⟨cs,hh,hs2,hr⟩:=hs.1 j zero tj hj h0
  obtain ⟨ts,hts,_,hall⟩:=hr hb
  rw [hcj] at hts
  cases hts
  have h1:0<cs.size:=by omega
  obtain ⟨u,hu',hok⟩:=hall 0 cs[0] (by simp [h1])
  have:u=tj:=by simpa using hu'.symm
  subst this
  unfold Cell.ok at hok
  rw [hu] at hok
  refine ⟨_,hh,trivial,fun h=>by simp at h,fun _=>?_⟩
  cases hv:cs[0] <;> rw [hv] at hok <;> simp at hok
  case int k' m =>
   obtain ⟨rfl,_⟩:=hok
   have hcs:cs=#[.int .i64 m]:=by
    refine Array.ext (by simp; omega) fun a ha1 ha2=>?_
    have:a=0:=by omega
    subst this
    simpa using hv
   subst hcs
   exact ⟨m,_,_,rfl⟩
end PSL

namespace PSL
open Go
abbrev Bs:=List UInt8
def Tx (l:Bs):ByteArray:=⟨l.toArray⟩
theorem Tx_data (s:ByteArray):Tx s.data.toList=s:=by simp [Tx]
theorem Tx_size (l:Bs):(Tx l).size=l.length:=by simp [Tx,ByteArray.size]

theorem Tx_get (l:Bs) (n:Nat):(Tx l)[n]? = l[n]? := by
 show (if h:n<(Tx l).size then some ((Tx l)[n]) else none)=l[n]?
 by_cases h:n<l.length
 ·rw [dif_pos (by rw [Tx_size]; exact h),List.getElem?_eq_getElem h]; rfl
 ·rw [dif_neg (by rw [Tx_size]; exact h),List.getElem?_eq_none (by omega)]

theorem Tx_app (a b:Bs):Tx a++Tx b=Tx (a++b):=by
 apply ByteArray.ext
 show (Tx a++Tx b).data=_
 rw [ByteArray.data_append]; simp [Tx]

theorem Tx_cut (l:Bs) (i j:Nat):(Tx l).extract i j=Tx ((l.drop i).take (j - i)):=by
 apply ByteArray.ext
 rw [ByteArray.data_extract]
 apply Array.ext'
 simp [Tx,List.take_drop,List.extract_eq_take_drop]
theorem Tx_list (l:Bs):(Tx l).toList=l:=by rw [Tm.toList_data]; simp [Tx]
theorem Tx_eq (a b:Bs):strEq (Tx a) (Tx b)=(a==b):=by unfold strEq; rw [Tx_list,Tx_list]
def dgC (c:UInt8):Bool:=decide (48≤c.toNat)&&decide (c.toNat≤57)
def lowC (c:UInt8):Bool:=decide (97≤c.toNat)&&decide (c.toNat≤122)
def grtC (c:UInt8):Bool:=(decide (65≤c.toNat)&&decide (c.toNat≤90)) || decide (c.toNat=95)
def folC (c:UInt8):Bool:=dgC c || lowC c || grtC c

theorem byte_all {p:UInt8→Bool} (h:(List.range 256).all (fun n=>p (UInt8.ofNat n))=true) (c:UInt8):p c=true:=by
 have h1:=List.all_eq_true.1 h c.toNat (by simp; exact c.toNat_lt)
 simpa using h1

def quo:Bs→Option (Bs × Nat)
 | []=>none
 | [c]=>if c.toNat=39 then some ([],1) else none
 | c::d::r=>if c.toNat<32∨126<c.toNat then none else if c.toNat=39 then (if d.toNat=39 then (quo r).map fun x=>(39::x.1,x.2+2) else some ([],1)) else (quo (d::r)).map fun x=>(c::x.1,x.2+1)
end PSL

namespace PSL
open Go
def sgW:Bs:=[43,45,42,47,92,94,60,62,61,126,58,63,64,35,38,36]
def sgWC (c:UInt8):Bool:=sgW.contains c

def wordB:Bs→Bool
 | []=>false
 | c::r=>lowC c&&r.all folC
def signB (l:Bs):Bool:=!l.isEmpty&&l.all sgWC
def dblB (l:Bs):Bs:=l.flatMap fun c=>if c=39 then [39,39] else [c]
def plainB (l:Bs):Bool:=wordB l || signB l || l==[33] || l==[59] || l==[91,93]
def nameB (l:Bs):Bs:=if plainB l then l else 39::(dblB l++[39])

def wput (bs s:Bs):Bs:=if bs.length≤8000 then bs++s else bs

theorem nameB_ne (l:Bs):nameB l≠[]:=by
 unfold nameB
 split
 ·rename_i h
  intro e; subst e
  simp [plainB,wordB,signB] at h
 ·simp

theorem dblB_len (l:Bs):(dblB l).length≤2 * l.length:=by
 induction l with
 | nil=>simp [dblB]
 | cons c r ih =>
  simp only [dblB,List.flatMap_cons,List.length_append,List.length_cons] at ih ⊢
  split <;> simp only [List.length_cons,List.length_nil] <;> omega

theorem nameB_len (l:Bs):(nameB l).length≤2 * l.length+2:=by
 have:=dblB_len l
 unfold nameB
 split
 ·omega
 ·simp only [List.length_cons,List.length_append,List.length_nil]; omega

theorem wput_ne {bs s:Bs} (h:s≠[]):wput bs s≠[]:=by
 unfold wput
 split
 ·simp [h]
 ·rename_i hl; intro e; rw [e] at hl; simp at hl
theorem lowC_iff (c:UInt8):lowC c=true↔97≤c.toNat∧c.toNat≤122:=by simp [lowC]

theorem folC_iff (c:UInt8):folC c=true↔(48≤c.toNat∧c.toNat≤57)∨(97≤c.toNat∧c.toNat≤122)∨(65≤c.toNat∧c.toNat≤90)∨c.toNat=95:=by
 simp only [folC,dgC,lowC,grtC,Bool.or_eq_true,Bool.and_eq_true,decide_eq_true_eq]
 omega
def wlB (L:Bs) (k:Nat):Bool:=if k=0 then wordB L else (L.drop k).all folC

theorem wl_no {L:Bs} {k:Nat} {c:UInt8} (hc:L[k]? = some c) (h:wordB L=wlB L k) (h0:k=0→¬ (97≤c.toNat∧c.toNat≤122)) (h1:k≠0→¬ ((48≤c.toNat∧c.toNat≤57)∨(97≤c.toNat∧c.toNat≤122)∨(65≤c.toNat∧c.toNat≤90)∨c.toNat=95)):wordB L=false:=by
 have hl:=(List.getElem?_eq_some_iff.1 hc).1
 have hcc:=(List.getElem?_eq_some_iff.1 hc).2
 by_cases hk:k=0
 ·subst hk
  cases L with
  | nil=>simp at hl
  | cons d r =>
   simp only [List.getElem_cons_zero] at hcc
   subst hcc
   have:lowC d=false:=by
    cases hd:lowC d
    ·rfl
    ·exact absurd ((lowC_iff d).1 hd) (h0 rfl)
   simp [wordB,this]
 ·rw [h,wlB,if_neg hk,List.drop_eq_getElem_cons hl,List.all_cons,hcc]
  have:folC c=false:=by
   cases hd:folC c
   ·rfl
   ·exact absurd ((folC_iff c).1 hd) (h1 hk)
  rw [this,Bool.false_and]

theorem wl_next {L:Bs} {k:Nat} {c:UInt8} (hc:L[k]? = some c) (h:wordB L=wlB L k) (h0:k=0→97≤c.toNat∧c.toNat≤122) (h1:k≠0→(48≤c.toNat∧c.toNat≤57)∨(97≤c.toNat∧c.toNat≤122)∨(65≤c.toNat∧c.toNat≤90)∨c.toNat=95):wordB L=wlB L (k+1):=by
 have hl:=(List.getElem?_eq_some_iff.1 hc).1
 have hcc:=(List.getElem?_eq_some_iff.1 hc).2
 rw [wlB,if_neg (by omega)]
 by_cases hk:k=0
 ·subst hk
  cases L with
  | nil=>simp at hl
  | cons d r =>
   simp only [List.getElem_cons_zero] at hcc
   subst hcc
   simp [wordB,(lowC_iff d).2 (h0 rfl)]
 ·rw [h,wlB,if_neg hk,List.drop_eq_getElem_cons hl,List.all_cons,hcc,(folC_iff c).2 (h1 hk),Bool.true_and]

theorem wl_end {L:Bs} {k:Nat} (hk:L.length≤k) (h:wordB L=wlB L k):wordB L = !(L==[]):=by
 cases L with
 | nil=>rfl
 | cons c r =>
  rw [h,wlB,if_neg (by simp at hk; omega),List.drop_eq_nil_of_le hk]; rfl
end PSL

namespace PSL
open Go
def cellK (k:Int) (s:ByteArray) (l:List Tm):Bool:=decide (k=3)&&(s.data.toList==[46])&&decide (l.length=2)
def nilK (k:Int) (s:ByteArray) (l:List Tm):Bool:=decide (k=3)&&(s.data.toList==[91,93])&&l.isEmpty

def atomP (k:Int) (s:ByteArray) (n:Int) (e:Bool) (axs:List Bs):List Bs :=
 if k=1 then [95::Lib.itoa n] else if k=2 then [Lib.itoa n] else nameB s.data.toList::(axs++if e then [] else [[41]])

mutual
def pcs:Tm→List Bs
 | .mk k s n l=>if cellK k s l then [91]::pcsCell l else atomP k s n l.isEmpty (pcsArgs true l)
def pcsTl:Tm→List Bs
 | .mk k s n l=>if cellK k s l then [44]::pcsCell l else if nilK k s l then [[93]] else [124]::(atomP k s n l.isEmpty (pcsArgs true l)++[[93]])
def pcsCell:List Tm→List Bs
 | []=>[]
 | a::r=>pcs a++pcsCell2 r
def pcsCell2:List Tm→List Bs
 | []=>[]
 | b::_=>pcsTl b
def pcsArgs:Bool→List Tm→List Bs
 | _,[]=>[]
 | f,x::r=>(if f then [40] else [44])::(pcs x++pcsArgs false r)
end

def wputs (bs:Bs) (l:List Bs):Bs:=l.foldl wput bs
theorem wputs_app (bs:Bs) (a b:List Bs):wputs bs (a++b)=wputs (wputs bs a) b:=by simp [wputs]
theorem wputs_cons (bs:Bs) (x:Bs) (r:List Bs):wputs bs (x::r)=wputs (wput bs x) r:=rfl
theorem wputs_nil (bs:Bs):wputs bs []=bs:=rfl
def cellT (t:Tm):Bool:=cellK t.k t.s t.l

theorem pcs_cell {t a b:Tm} (h:cellT t=true) (hl:t.l=[a,b]):pcs t=[91]::(pcs a++pcsTl b):=by
 cases t with
 | mk k s n l =>
  simp only [Tm.l] at hl
  subst hl
  simp only [cellT,Tm.k,Tm.s,Tm.l] at h
  simp only [pcs,h,if_true,pcsCell,pcsCell2]

theorem pcsTl_cell {t a b:Tm} (h:cellT t=true) (hl:t.l=[a,b]):pcsTl t=[44]::(pcs a++pcsTl b):=by
 cases t with
 | mk k s n l =>
  simp only [Tm.l] at hl
  subst hl
  simp only [cellT,Tm.k,Tm.s,Tm.l] at h
  simp only [pcsTl,h,if_true,pcsCell,pcsCell2]

theorem pcsTl_nil {t:Tm} (h:cellT t=false) (hn:nilK t.k t.s t.l=true):pcsTl t=[[93]]:=by
 cases t with
 | mk k s n l =>
  simp only [cellT,Tm.k,Tm.s,Tm.l] at h hn
  simp only [pcsTl,h,hn,Bool.false_eq_true,if_false,if_true]

theorem pcs_atom {t:Tm} (h:cellT t=false):pcs t=atomP t.k t.s t.n t.l.isEmpty (pcsArgs true t.l):=by
 cases t with
 | mk k s n l =>
  simp only [cellT,Tm.k,Tm.s,Tm.l] at h
  simp only [pcs,h,Bool.false_eq_true,if_false,Tm.k,Tm.s,Tm.l,Tm.n]

theorem pcsTl_rest {t:Tm} (h:cellT t=false) (hn:nilK t.k t.s t.l=false):pcsTl t=[124]::(pcs t++[[93]]):=by
 rw [pcs_atom h]
 cases t with
 | mk k s n l =>
  simp only [cellT,Tm.k,Tm.s,Tm.l] at h hn
  simp only [pcsTl,h,hn,Bool.false_eq_true,if_false,Tm.k,Tm.s,Tm.l,Tm.n]

theorem cellT_l {t:Tm} (h:cellT t=true):∃ a b,t.l=[a,b]:=by
 simp only [cellT,cellK,Bool.and_eq_true,decide_eq_true_eq] at h
 match hl:t.l,h.2 with
 | [a,b],_=>exact ⟨a,b,rfl⟩

theorem wputs_args {l:List Tm} {k:Nat} {x:Tm} (bs:Bs) (f:Bool) (h:l[k]? = some x):pcsArgs f (l.drop k)=(if f then [40] else [44])::(pcs x++pcsArgs false (l.drop (k+1))):=by
 have hl:=(List.getElem?_eq_some_iff.1 h).1
 rw [List.drop_eq_getElem_cons hl,(List.getElem?_eq_some_iff.1 h).2,pcsArgs]

inductive OkW:Tm→Prop
 | mk {t:Tm} (ha:∀ c∈t.s.data.toList,c.toNat<128) (hl:t.s.data.toList.length≤1000) (h0:-9223372036854775808≤t.n) (h1:t.n≤9223372036854775807) (hn:t.l.length≤1000000) (hs:∀ x∈t.l,OkW x):OkW t

theorem itoa_len (n:Int) (h0:-9223372036854775808≤n) (h1:n≤9223372036854775807):(Lib.itoa n).length≤1000∧Lib.itoa n≠[]:=by
 have hd:∀ (k u:Nat),u<10 ^ (k+1)→(Lib.decDigits u).length≤k+1:=by
  intro k
  induction k with
  | zero=>intro u hu; rw [Lib.decDigits,dif_pos (by omega)]; simp
  | succ k ih =>
   intro u hu
   rw [Lib.decDigits]
   split
   ·simp
   ·have:=ih (u / 10) (by rw [Nat.pow_succ] at hu; omega)
    simp only [List.length_append,List.length_cons,List.length_nil]; omega
 have hne:∀ u,Lib.decDigits u≠[]:=by
  intro u; rw [Lib.decDigits]; split <;> simp
 unfold Lib.itoa
 split
 ·have:=hd 19 n.natAbs (by omega)
  exact ⟨by simp only [List.length_cons]; omega,by simp⟩
 ·have:=hd 19 n.toNat (by omega)
  exact ⟨by omega,hne _⟩
end PSL

namespace PSL
open Go
end PSL
namespace PSL
open Go
end PSL
namespace PSL
open Go
end PSL

namespace Go.Proofs.YtchhahnajgfeaaaDoor
open Go PSL Go.Proofs
def u8A (c:UInt8):AV:=.d (.v (.int .u8 c.toNat))
def txA (L:Bs):AV:=.d (.v (.string (Tx L)))
theorem bvEq {a b:Bool} (h:a=true↔b=true):bV a=bV b:=by rw [Bool.eq_iff_iff.2 h]
theorem bvF {b:Bool} (h:b=false):AV.d (.v (.bool false))=bV b:=by rw [h]; rfl

theorem decode_ascii {L:Bs} {i:Nat} {c:UInt8} (h:L[i]? = some c) (hc:c.toNat<128):Utf8.decode (Tx L) i=(c.toNat,1):=by
 have hl:=(List.getElem?_eq_some_iff.1 h).1
 have e:(Tx L).get! (i+0)=c:=by
  show (Tx L).data[i]! = c
  have:=(List.getElem?_eq_some_iff.1 h).2
  simp [Tx,hl,this]
 unfold Utf8.decode
 simp only [e]
 rw [if_pos (by omega)]
end Go.Proofs.YtchhahnajgfeaaaDoor

namespace Go.Proofs.YtchhahnajgfeaaaDoor
open Go PSL Go.Proofs
def sgW2:Bs:=[43,45,42,47,94,60,62,61,126,58,63,64,35,38,36]
def sortW (c:UInt8):Int:=if lowC c then 1 else if grtC c || dgC c then 2 else if sgWC c then 3 else 0

theorem sgW2_eq (c:UInt8):sgWC c=(sgW2.contains c || decide (c.toNat=92)):=by
 have:=byte_all (p:=fun c=>sgWC c==(sgW2.contains c || decide (c.toNat=92))) (by decide +kernel) c
 simpa using this

set_option maxRecDepth 100000 in
theorem refSortW_ok (c:UInt8):PCtr Tryd.prog 38 [u8A c] (iV (sortW c)):=by
 have hg2:grtC c=true∨dgC c=true↔(65≤c.toNat∧c.toNat≤90)∨(48≤c.toNat∧c.toNat≤57)∨c.toNat=95:=by
  simp only [grtC,dgC,Bool.or_eq_true,Bool.and_eq_true,decide_eq_true_eq]; omega
 have hl2:=lowC_iff c
 have hsz:(Tx sgW2).size=15:=by rw [Tx_size]; rfl
 refine PCtr.of_R (pf:=fun _=>.still) tyOk mixed Tryd.func38 rfl (by kernel_rfl) (by kernel_rfl) (by simp [Tryd.ntmps38]) fun w S hg=>?_
 refine R_run hg.ok 1000 rfl rfl ?_
 by_cases hl:lowC c=true
 ·have h9:=hl2.1 hl
  repeat' (refine R_if rfl rfl (fun h=>?_) (fun h=>?_) <;> (first | have h:=of_decide_eq_true h | have h:=of_decide_eq_false h | (simp at h; done) | simp at h | skip) <;> refine R_run hg.ok 1000 rfl rfl ?_)
  all_goals first
   | (exfalso; omega)
   | (refine R_ret hg 5 rfl rfl ?_; rw [sortW,if_pos hl]; rfl)
 have h8:¬ (97≤c.toNat∧c.toNat≤122):=fun h=>hl (hl2.2 h)
 by_cases hg3:(grtC c || dgC c)=true
 ·have h9:=hg2.1 (by simpa using hg3)
  repeat' (refine R_if rfl rfl (fun h=>?_) (fun h=>?_) <;> (first | have h:=of_decide_eq_true h | have h:=of_decide_eq_false h | (simp at h; done) | simp at h | skip) <;> refine R_run hg.ok 1000 rfl rfl ?_)
  all_goals first
   | (exfalso; omega)
   | (refine R_ret hg 5 rfl rfl ?_; rw [sortW,if_neg hl,if_pos hg3]; rfl)
 have h9:¬ ((65≤c.toNat∧c.toNat≤90)∨(48≤c.toNat∧c.toNat≤57)∨c.toNat=95):=fun h=>hg3 (by simpa using hg2.2 h)
 repeat' (refine R_if rfl rfl (fun h=>?_) (fun h=>?_) <;> (first | have h:=of_decide_eq_true h | have h:=of_decide_eq_false h | (simp at h; done) | simp at h | skip) <;> refine R_run hg.ok 1000 rfl rfl ?_)
 all_goals first
  | (exfalso; omega)
  | skip
 all_goals
  refine R_loop (fun k:Nat=>([(0,u8A c),(3,txA sgW2),(4,iV k)],[])) (fun k=>k≤15∧sgW2.contains c=(sgW2.drop k).contains c) (fun k=>15 - k) 0 ⟨Nat.zero_le _,rfl⟩ ⟨.refl _,.refl _,.refl _,trivial⟩ rfl ?_
  rintro k ⟨hk,hm⟩
  refine R_run hg.ok 1000 rfl rfl ?_
  refine R_if rfl rfl (fun h=>?_) (fun h=>?_) <;> refine R_run hg.ok 1000 rfl rfl ?_
  ·have hk1:k<sgW2.length:=by have h0:=of_decide_eq_true h; have h1:(k:Int)<((Tx sgW2).size:Int):=h0; rw [hsz] at h1; show k<15; omega
   have e1:sgW2[k]? = some sgW2[k]:=List.getElem?_eq_getElem hk1
   rw [List.drop_eq_getElem_cons hk1,List.contains_cons] at hm
   refine R_indexS hg.ok rfl rfl rfl rfl rfl (Int.natCast_nonneg k) (b:=sgW2[k]) (by rw [Tx_get]; exact e1) ?_
   refine R_run hg.ok 1000 rfl rfl ?_
   refine R_if rfl rfl (fun h=>?_) (fun h=>?_) <;> refine R_run hg.ok 1000 rfl rfl ?_
   ·have h:sgW2[k]=c:=UInt8.toNat_inj.1 (by simp at h; omega)
    refine R_ret hg 5 rfl rfl ?_
    rw [sortW,if_neg hl,if_neg hg3,sgW2_eq,hm,h]; simp; rfl
   ·have h:¬ sgW2[k]=c:=fun e=>by rw [e] at h; simp at h
    refine R_next (k+1) ⟨hk1,?_⟩ (by have:k<15:=hk1; omega) ⟨.refl _,.refl _,Ent.wrap (by omega) (by omega) (by omega),trivial⟩ rfl
    rw [hm,show (c==sgW2[k])=false by simp; exact fun e=>h e.symm,Bool.false_or]
  ·have hk1:sgW2.length≤k:=by have h0:=of_decide_eq_false h; have h1:¬ (k:Int)<((Tx sgW2).size:Int):=h0; rw [hsz] at h1; show 15≤k; omega
   rw [List.drop_eq_nil_of_le hk1] at hm
   refine R_if rfl rfl (fun h=>?_) (fun h=>?_) <;> refine R_run hg.ok 1000 rfl rfl ?_
   ·have h:c.toNat=92:=by simp at h; omega
    refine R_ret hg 5 rfl rfl ?_
    rw [sortW,if_neg hl,if_neg hg3,sgW2_eq]; simp [h]; rfl
   ·have h:¬ c.toNat=92:=by simp at h; omega
    refine R_ret hg 5 rfl rfl ?_
    rw [sortW,if_neg hl,if_neg hg3,sgW2_eq,hm]; simp [h]; rfl
end Go.Proofs.YtchhahnajgfeaaaDoor

namespace PSL
open Go Go.RowKit Go.MapKept
def inR (x:Int):Bool:=decide (-9223372036854775808≤x)&&decide (x≤9223372036854775807)
def chk (x:Int):Int × Bool:=if inR x then (x,true) else (0,false)
namespace Tm
theorem Fit.sub {t x:Tm} (h:t.Fit) (hx:x∈t.l):x.Fit:=fun d e he=>h (d - 1) e (by rw [els_eq]; exact List.mem_cons_of_mem _ (els_memL hx (by rw [Int.sub_add_cancel]; exact he)))
end Tm
end PSL
namespace PSL
open Go
end PSL
namespace PSL
open Go Go.RowKit
end PSL
namespace PSL
open Go Go.RowKit
end PSL

namespace PSL
open Go

theorem okW_of (t:Tm):Tm.fairR t=true→t.Fit→OkW t:=by
 induction t using Tm.ind with
 | h t ih =>
  intro hf hn
  rw [Tm.fairR_eq] at hf
  simp only [Bool.and_eq_true] at hf
  obtain ⟨⟨h1,h2⟩,h3⟩:=hf
  have hb:∀ c∈t.s.data.toList,c.toNat<128:=fun c hc=>by
   have:=List.all_eq_true.1 h1 c hc
   simp [byteOk] at this
   omega
  have hi:=hn 0 (0,t) (by rw [Tm.els_eq]; simp)
  have hsub:∀ x∈t.l,OkW x:=fun x hx=>ih x hx (Tm.fairRL_iff.1 h2 x hx) (Tm.Fit.sub hn hx)
  have hss:t.s.data.toList.length=t.s.size:=rfl
  have hk:t.s.size≤1000∧t.l.length≤1000000:=by
   unfold Tm.kindR at h3
   have he:strEq t.s ⟨#[]⟩=true→t.s.size=0:=fun h=>by rw [Tm.strEq_iff.1 h]; rfl
   split at h3
   ·simp only [Bool.and_eq_true,beq_iff_eq] at h3
    have:=he h3.1.2
    have:=h3.2
    omega
   ·split at h3
    ·simp only [Bool.and_eq_true,beq_iff_eq] at h3
     have:=he h3.1
     have:=h3.2
     omega
    ·simp only [Bool.and_eq_true,decide_eq_true_eq] at h3
     omega
  exact ⟨hb,by omega,hi.2.1,hi.2.2,hk.2,hsub⟩
end PSL

namespace Go.Proofs.YtchhahnajgfeaaaDoor
open Go PSL Go.Proofs

theorem sortW1 (c:UInt8):(sortW c==1)=lowC c:=by
 have:=byte_all (p:=fun c=>(sortW c==1)==lowC c) (by decide +kernel) c
 simpa using this

theorem sortW12 (c:UInt8):((sortW c==1) || (sortW c==2))=folC c:=by
 have:=byte_all (p:=fun c=>((sortW c==1) || (sortW c==2))==folC c) (by decide +kernel) c
 simpa using this

theorem sortW3 (c:UInt8):(sortW c==3)=sgWC c:=by
 have:=byte_all (p:=fun c=>(sortW c==3)==sgWC c) (by decide +kernel) c
 simpa using this

theorem wordB_alt (L:Bs):wordB L=((match L with | []=>false | c::_=>lowC c)&&L.all folC):=by
 cases L with
 | nil=>rfl
 | cons c r =>
  simp only [wordB,List.all_cons]
  cases h:lowC c
  ·simp
  ·have:folC c=true:=by simp [folC,h]
   rw [this]; simp

theorem nameLoop_step {L:Bs} {k:Nat} {c:UInt8} {a b:Bool} (hc:L[k]? = some c) (h1:wordB L=(a&&(L.drop k).all folC)) (h2:signB L=(b&&(L.drop k).all sgWC)) :
  wordB L=((a&&((sortW c==1) || (sortW c==2)))&&(L.drop (k+1)).all folC)∧signB L=((b&&(sortW c==3))&&(L.drop (k+1)).all sgWC):=by
 have hk:=(List.getElem?_eq_some_iff.1 hc).1
 rw [List.drop_eq_getElem_cons hk,(List.getElem?_eq_some_iff.1 hc).2,List.all_cons] at h1 h2
 rw [sortW12,sortW3,h1,h2,Bool.and_assoc,Bool.and_assoc]
 exact ⟨rfl,rfl⟩

set_option maxRecDepth 100000 in
theorem refName_ok (L:Bs) (hl:L.length≤1000000):PCtr Tryd.prog 25 [txA L] (txA (nameB L)):=by
 have hz:((Tx L).size:Int)=L.length:=by rw [Tx_size]
 have e1:strEq (Tx L) ⟨#[33]⟩=(L==[33]):=Tx_eq L [33]
 have e2:strEq (Tx L) ⟨#[59]⟩=(L==[59]):=Tx_eq L [59]
 have e3:strEq (Tx L) ⟨#[91,93]⟩=(L==[91,93]):=Tx_eq L [91,93]
 refine PCtr.of_R (pf:=fun _=>.eff) tyOk mixed Tryd.func25 rfl (by kernel_rfl) (by kernel_rfl) (by simp [Tryd.ntmps25]) fun w S hg=>?_
 refine R_run hg.ok 1000 rfl rfl ?_
 refine R_cut1 (fun a:Bool=>([(0,txA L),(3,bV a)],[])) (fun a=>wordB L=(a&&L.all folC)) rfl ?_ ?_
 ·refine R_if rfl rfl (fun h=>?_) (fun h=>?_) <;> refine R_run hg.ok 1000 rfl rfl ?_
  ·have hk1:0<L.length:=lt_dec h (by rw [Tx_size])
   have e1:L[0]? = some L[0]:=List.getElem?_eq_getElem hk1
   refine R_indexS hg.ok rfl rfl rfl rfl rfl (by decide) (b:=L[0]) (by rw [Tx_get]; exact e1) ?_
   refine R_run hg.ok 1000 rfl rfl ?_
   refine R_call hg.ok (refSortW_ok L[0]) rfl rfl rfl rfl rfl rfl ?_
   refine R_run hg.ok 1000 rfl rfl ?_
   refine R_mark ⟨_,?_,⟨.refl _,.refl _,trivial⟩,rfl⟩
   rw [wordB_alt L]
   cases L with
   | nil=>simp at hk1
   | cons c r=>exact congrArg (· && _) (sortW1 c).symm
  ·have hk1:L.length≤0:=ge_dec h (by rw [Tx_size])
   refine R_mark ⟨false,?_,⟨.refl _,.ff,trivial⟩,rfl⟩
   cases L with
   | nil=>rfl
   | cons c r=>simp at hk1
 rintro a ha
 refine R_run hg.ok 1000 rfl rfl ?_
 refine R_loop (fun x:Nat × Bool × Bool=>([(0,txA L),(3,bV x.2.1),(4,bV x.2.2),(5,iV x.1)],[])) (fun x=>x.1≤L.length∧wordB L=(x.2.1&&(L.drop x.1).all folC)∧signB L=(x.2.2&&(L.drop x.1).all sgWC)) (fun x=>L.length - x.1) (0,a,decide (0<L.length)) ⟨Nat.zero_le _,ha,?_⟩ ⟨.refl _,.refl _,?_,.refl _,trivial⟩ rfl ?_
 ·cases L <;> simp [signB]
 ·rw [show decide (0<L.length)=decide (((Tx L).size:Int) > 0) by rw [hz]; congr 1; simp]; exact .refl _
 ·rintro ⟨k,a,b⟩ ⟨hk,hm1,hm2⟩
  simp only at hk hm1 hm2
  refine R_run hg.ok 1000 rfl rfl ?_
  refine R_if rfl rfl (fun h=>?_) (fun h=>?_) <;> refine R_run hg.ok 1000 rfl rfl ?_
  ·have hk1:k<L.length:=lt_dec h (by rw [Tx_size])
   have e1:L[k]? = some L[k]:=List.getElem?_eq_getElem hk1
   obtain ⟨n1,n2⟩:=nameLoop_step e1 hm1 hm2
   refine R_cut1 (fun _:Unit=>([(0,txA L),(3,bV (a&&((sortW L[k]==1) || (sortW L[k]==2)))),(4,bV b),(5,iV k)],[])) (fun _=>True) rfl ?_ ?_
   ·refine R_if rfl rfl (fun h=>?_) (fun h=>?_) <;> refine R_run hg.ok 1000 rfl rfl ?_
    ·subst h
     refine R_indexS hg.ok rfl rfl rfl rfl rfl (Int.natCast_nonneg k) (b:=L[k]) (by rw [Tx_get]; exact e1) ?_
     refine R_run hg.ok 1000 rfl rfl ?_
     refine R_call hg.ok (refSortW_ok L[k]) rfl rfl rfl rfl rfl rfl ?_
     refine R_run hg.ok 1000 rfl rfl ?_
     refine R_if rfl rfl (fun h=>?_) (fun h=>?_) <;> refine R_run hg.ok 1000 rfl rfl ?_
     ·exact R_mark ⟨(),trivial,⟨.refl _,by rw [h]; exact .tt,.refl _,.refl _,trivial⟩,rfl⟩
     ·refine R_indexS hg.ok rfl rfl rfl rfl rfl (Int.natCast_nonneg k) (b:=L[k]) (by rw [Tx_get]; exact e1) ?_
      refine R_run hg.ok 1000 rfl rfl ?_
      refine R_call hg.ok (refSortW_ok L[k]) rfl rfl rfl rfl rfl rfl ?_
      refine R_run hg.ok 1000 rfl rfl ?_
      exact R_mark ⟨(),trivial,⟨.refl _,by rw [h]; exact .refl _,.refl _,.refl _,trivial⟩,rfl⟩
    ·subst h
     exact R_mark ⟨(),trivial,⟨.refl _,.ff,.refl _,.refl _,trivial⟩,rfl⟩
   rintro _ _
   refine R_run hg.ok 1000 rfl rfl ?_
   refine R_cut1 (fun _:Unit=>([(0,txA L),(3,bV (a&&((sortW L[k]==1) || (sortW L[k]==2)))),(4,bV (b&&(sortW L[k]==3))),(5,iV k)],[])) (fun _=>True) rfl ?_ ?_
   ·refine R_if rfl rfl (fun h=>?_) (fun h=>?_) <;> refine R_run hg.ok 1000 rfl rfl ?_
    ·subst h
     refine R_indexS hg.ok rfl rfl rfl rfl rfl (Int.natCast_nonneg k) (b:=L[k]) (by rw [Tx_get]; exact e1) ?_
     refine R_run hg.ok 1000 rfl rfl ?_
     refine R_call hg.ok (refSortW_ok L[k]) rfl rfl rfl rfl rfl rfl ?_
     refine R_run hg.ok 1000 rfl rfl ?_
     exact R_mark ⟨(),trivial,⟨.refl _,.refl _,.refl _,.refl _,trivial⟩,rfl⟩
    ·subst h
     exact R_mark ⟨(),trivial,⟨.refl _,.refl _,.ff,.refl _,trivial⟩,rfl⟩
   rintro _ _
   refine R_run hg.ok 1000 rfl rfl ?_
   exact R_next (k+1,_,_) ⟨hk1,n1,n2⟩ (by show L.length - (k+1)<L.length - k; omega) ⟨.refl _,.refl _,.refl _,Ent.wrap (by omega) (by omega) (by omega),trivial⟩ rfl
  have hk1:L.length≤k:=ge_dec h (by rw [Tx_size])
  rw [List.drop_eq_nil_of_le hk1] at hm1 hm2
  simp only [List.all_nil,Bool.and_true] at hm1 hm2
  subst hm1; subst hm2
  refine R_cut1 (fun _:Unit=>([(0,txA L),(64,bV (plainB L))],[])) (fun _=>True) rfl ?_ ?_
  ·refine R_if rfl rfl (fun h=>?_) (fun h=>?_) <;> refine R_run hg.ok 1000 rfl rfl ?_
   ·exact R_mark ⟨(),trivial,⟨.refl _,by have h:wordB L=true:=h; rw [show plainB L=true by simp [plainB,h]]; exact .tt,trivial⟩,rfl⟩
   refine R_if rfl rfl (fun h2=>?_) (fun h2=>?_) <;> refine R_run hg.ok 1000 rfl rfl ?_
   ·exact R_mark ⟨(),trivial,⟨.refl _,by have h:signB L=true:=h2; rw [show plainB L=true by simp [plainB,h]]; exact .tt,trivial⟩,rfl⟩
   refine R_if rfl rfl (fun h3=>?_) (fun h3=>?_) <;> refine R_run hg.ok 1000 rfl rfl ?_
   ·rw [e1] at h3
    exact R_mark ⟨(),trivial,⟨.refl _,by rw [show plainB L=true by simp [plainB,h3]]; exact .tt,trivial⟩,rfl⟩
   refine R_if rfl rfl (fun h4=>?_) (fun h4=>?_) <;> refine R_run hg.ok 1000 rfl rfl ?_
   ·rw [e2] at h4
    exact R_mark ⟨(),trivial,⟨.refl _,by rw [show plainB L=true by simp [plainB,h4]]; exact .tt,trivial⟩,rfl⟩
   rw [e1] at h3
   rw [e2] at h4
   exact R_mark ⟨(),trivial,⟨.refl _,by have h:wordB L=false:=h; have h2:signB L=false:=h2; rw [show plainB L=strEq (Tx L) ⟨#[91,93]⟩ by rw [plainB,h,h2,h3,h4,e3]; rfl]; exact .refl _,trivial⟩,rfl⟩
  rintro _ _
  refine R_run hg.ok 1000 rfl rfl ?_
  refine R_if rfl rfl (fun h=>?_) (fun h=>?_) <;> refine R_run hg.ok 1000 rfl rfl ?_
  ·refine R_ret hg 5 rfl rfl ?_
   rw [nameB,if_pos h]; rfl
  have hnb:nameB L=39::(dblB L++[39]):=by rw [nameB,if_neg (by simp [h])]
  refine R_loop (fun x:Nat × Bs=>([(0,txA L),(6,txA x.2),(7,iV x.1)],[])) (fun x=>x.1≤L.length∧x.2.length≤1+2 * x.1∧39::dblB L=x.2++dblB (L.drop x.1)) (fun x=>L.length - x.1) (0,[39]) ⟨Nat.zero_le _,by simp,rfl⟩ ⟨.refl _,.refl _,.refl _,trivial⟩ rfl ?_
  rintro ⟨k,o⟩ ⟨hk,hol,hm⟩
  simp only at hk hol hm
  refine R_run hg.ok 1000 rfl rfl ?_
  refine R_if rfl rfl (fun h=>?_) (fun h=>?_) <;> refine R_run hg.ok 1000 rfl rfl ?_
  ·have hk1:k<L.length:=lt_dec h (by rw [Tx_size])
   have f1:L[k]? = some L[k]:=List.getElem?_eq_getElem hk1
   rw [List.drop_eq_getElem_cons hk1] at hm
   have hcut:(Tx L).extract k (k+1)=Tx [L[k]]:=by
    rw [Tx_cut,List.drop_eq_getElem_cons hk1,Nat.add_sub_cancel_left]; rfl
   refine R_indexS hg.ok rfl rfl rfl rfl rfl (Int.natCast_nonneg k) (b:=L[k]) (by rw [Tx_get]; exact f1) ?_
   refine R_run hg.ok 1000 rfl rfl ?_
   refine R_if rfl rfl (fun h=>?_) (fun h=>?_) <;> refine R_run hg.ok 1000 rfl rfl ?_
   ·have h:L[k].toNat=39:=by simp at h; omega
    have hc:L[k]=39:=UInt8.toNat_inj.1 h
    rw [hc,show dblB (39::L.drop (k+1))=39::39::dblB (L.drop (k+1)) by simp [dblB]] at hm
    refine R_concat hg.ok (Tx (o++[39])) rfl rfl rfl rfl (by rw [Tx_size]; show o.length+1≤_; omega) (Tx_app o [39]) ?_
    refine R_run hg.ok 1000 rfl rfl ?_
    refine R_sliceS hg.ok rfl rfl rfl (l:=(k:Int)) (h:=(((k+1:Nat):Int))) rfl (by rw [show ((k+1:Nat):Int)=IntKind.i64.wrap ((k:Int)+1) by rw [w64 (by omega) (by omega)]; omega]; rfl) rfl (Int.natCast_nonneg k) (by omega) (by rw [Tx_size]; omega) ?_
    rw [Int.toNat_natCast,Int.toNat_natCast,hcut,hc]
    refine R_run hg.ok 1000 rfl rfl ?_
    refine R_concat hg.ok (Tx (o++[39]++[39])) rfl rfl rfl rfl (by rw [Tx_size,Tx_size]; simp only [List.length_append,List.length_cons,List.length_nil]; omega) (Tx_app (o++[39]) [39]) ?_
    refine R_run hg.ok 1000 rfl rfl ?_
    exact R_next (k+1,o++[39]++[39]) ⟨hk1,by simp; omega,by rw [hm]; simp⟩ (by show L.length - (k+1)<L.length - k; omega) ⟨.refl _,.refl _,Ent.wrap (by omega) (by omega) (by omega),trivial⟩ rfl
   ·have hc:¬ L[k]=39:=fun e=>by rw [e] at h; simp at h
    rw [show dblB (L[k]::L.drop (k+1))=L[k]::dblB (L.drop (k+1)) by rw [dblB,List.flatMap_cons,if_neg hc]; rfl] at hm
    refine R_sliceS hg.ok rfl rfl rfl (l:=(k:Int)) (h:=(((k+1:Nat):Int))) rfl (by rw [show ((k+1:Nat):Int)=IntKind.i64.wrap ((k:Int)+1) by rw [w64 (by omega) (by omega)]; omega]; rfl) rfl (Int.natCast_nonneg k) (by omega) (by rw [Tx_size]; omega) ?_
    rw [Int.toNat_natCast,Int.toNat_natCast,hcut]
    refine R_run hg.ok 1000 rfl rfl ?_
    refine R_concat hg.ok (Tx (o++[L[k]])) rfl rfl rfl rfl (by rw [Tx_size,Tx_size]; simp only [List.length_append,List.length_cons,List.length_nil]; omega) (Tx_app o [L[k]]) ?_
    refine R_run hg.ok 1000 rfl rfl ?_
    exact R_next (k+1,o++[L[k]]) ⟨hk1,by simp; omega,by rw [hm]; simp⟩ (by show L.length - (k+1)<L.length - k; omega) ⟨.refl _,.refl _,Ent.wrap (by omega) (by omega) (by omega),trivial⟩ rfl
  ·have hk1:L.length≤k:=ge_dec h (by rw [Tx_size])
   rw [List.drop_eq_nil_of_le hk1] at hm
   simp only [dblB,List.flatMap_nil,List.append_nil] at hm
   refine R_concat hg.ok (Tx (o++[39])) rfl rfl rfl rfl (by rw [Tx_size]; show o.length+1≤_; omega) (Tx_app o [39]) ?_
   refine R_run hg.ok 1000 rfl rfl ?_
   refine R_ret hg 5 rfl rfl ?_
   rw [hnb,← List.cons_append,dblB,hm]; rfl
theorem decD_low {m:Nat} (h:m<10):Lib.decDigits m=[UInt8.ofNat (48+m)]:=by rw [Lib.decDigits,dif_pos h]
theorem decD_cut {m:Nat} (h:¬ m<10):Lib.decDigits m=Lib.decDigits (m / 10)++[UInt8.ofNat (48+m % 10)]:=by rw [Lib.decDigits,dif_neg h]

theorem decD_len:∀ (k m:Nat),m<10 ^ (k+1)→(Lib.decDigits m).length≤k+1:=by
 intro k
 induction k with
 | zero=>intro m h; rw [decD_low (by omega)]; simp
 | succ k ih =>
  intro m h
  by_cases h9:m<10
  ·rw [decD_low h9]; simp
  ·rw [decD_cut h9]
   have:=ih (m / 10) (by rw [Nat.pow_succ] at h; omega)
   simp only [List.length_append,List.length_cons,List.length_nil]; omega

set_option maxRecDepth 100000 in
theorem refDigits_ok (n0:Int) (h0:-9223372036854775808≤n0) (h1:n0≤9223372036854775807):PCtr Tryd.prog 24 [iV n0] (txA (Lib.itoa n0)):=by
 have hlen:=decD_len 19 n0.natAbs (by omega)
 refine PCtr.of_R (pf:=fun _=>.eff) tyOk mixed Tryd.func24 rfl (by kernel_rfl) (by kernel_rfl) (by simp [Tryd.ntmps24]) fun w S hg=>?_
 refine R_run hg.ok 1000 rfl rfl ?_
 refine R_loop (fun x:Int × Bs=>([(0,iV x.1),(3,txA x.2),(4,bV (decide (n0<0)))],[])) (fun x=>-9223372036854775808≤x.1∧x.1≤9223372036854775807∧Lib.decDigits n0.natAbs=Lib.decDigits x.1.natAbs++x.2) (fun x=>x.1.natAbs) (n0,[]) ⟨h0,h1,by simp⟩ ⟨.refl _,.refl _,.refl _,trivial⟩ rfl ?_
 rintro ⟨n,s⟩ ⟨ha,hb,hm⟩
 simp only at ha hb hm
 refine R_run hg.ok 1000 rfl rfl ?_
 refine R_rem hg.ok rfl rfl rfl rfl (by decide) ?_
 refine R_run hg.ok 1000 rfl rfl ?_
 have hq:n.tdiv 10=if n<0 then -((n.natAbs / 10:Nat):Int) else ((n.natAbs / 10:Nat):Int):=by
  rcases Int.le_total 0 n with h | h
  ·obtain ⟨m,rfl⟩:=Int.eq_ofNat_of_zero_le h
   rw [if_neg (by omega),Int.natAbs_natCast]; rfl
  ·obtain ⟨m,rfl⟩:=Int.exists_eq_neg_ofNat h
   rw [Int.neg_tdiv,Int.natAbs_neg,Int.natAbs_natCast]
   by_cases hm:m=0
   ·subst hm; rfl
   ·rw [if_pos (by omega)]; rfl
 have hr:n.tmod 10=if n<0 then -((n.natAbs % 10:Nat):Int) else ((n.natAbs % 10:Nat):Int):=by
  rcases Int.le_total 0 n with h | h
  ·obtain ⟨m,rfl⟩:=Int.eq_ofNat_of_zero_le h
   rw [if_neg (by omega),Int.natAbs_natCast]; rfl
  ·obtain ⟨m,rfl⟩:=Int.exists_eq_neg_ofNat h
   rw [Int.neg_tmod,Int.natAbs_neg,Int.natAbs_natCast]
   by_cases hm:m=0
   ·subst hm; rfl
   ·rw [if_pos (by omega)]; rfl
 have hd10:n.natAbs % 10<10:=Nat.mod_lt _ (by decide)
 refine R_cut1 (fun _:Unit=>([(0,iV n),(3,txA s),(4,bV (decide (n0<0))),(5,iV (n.natAbs % 10:Nat))],[])) (fun _=>True) rfl ?_ ?_
 ·refine R_if rfl rfl (fun h=>?_) (fun h=>?_) <;> refine R_run hg.ok 1000 rfl rfl ?_
  ·have h:n.tmod 10<0:=of_decide_eq_true h
   refine R_mark ⟨(),trivial,⟨.refl _,.refl _,.refl _,?_,trivial⟩,rfl⟩
   show Ent (iV (IntKind.i64.wrap (0 - (n.tmod 10)))) _
   rw [show IntKind.i64.wrap (0 - (n.tmod 10))=((n.natAbs % 10:Nat):Int) by rw [w64 (by split at hr <;> omega) (by split at hr <;> omega)]; split at hr <;> omega]
   exact .refl _
  ·have h:¬ n.tmod 10<0:=of_decide_eq_false h
   refine R_mark ⟨(),trivial,⟨.refl _,.refl _,.refl _,?_,trivial⟩,rfl⟩
   show Ent (iV (n.tmod 10)) _
   rw [show n.tmod 10=((n.natAbs % 10:Nat):Int) by split at hr <;> omega]
   exact .refl _
 rintro _ _
 refine R_run hg.ok 1000 rfl rfl ?_
 have hby:IntKind.u8.wrap (IntKind.i64.wrap (48+((n.natAbs % 10:Nat):Int)))=((UInt8.ofNat (48+n.natAbs % 10)).toNat:Int):=by
  have:n.natAbs % 10=0∨n.natAbs % 10=1∨n.natAbs % 10=2∨n.natAbs % 10=3∨n.natAbs % 10=4∨n.natAbs % 10=5∨n.natAbs % 10=6∨n.natAbs % 10=7∨n.natAbs % 10=8∨n.natAbs % 10=9:=by omega
  rcases this with h | h | h | h | h | h | h | h | h | h <;> rw [h] <;> rfl
 refine R_convD hg.ok [UInt8.ofNat (48+n.natAbs % 10)] rfl rfl (by show AV.d (.sl [[.v (.int .u8 (IntKind.u8.wrap (IntKind.i64.wrap (48+((n.natAbs % 10:Nat):Int)))))]])=_; rw [hby]; rfl) rfl rfl rfl ?_
 refine R_run hg.ok 1000 rfl rfl ?_
 have hm2:(if n.natAbs<10 then [] else Lib.decDigits (n.natAbs / 10))++(UInt8.ofNat (48+n.natAbs % 10)::s)=Lib.decDigits n0.natAbs:=by
  rw [hm]
  by_cases h9:n.natAbs<10
  ·rw [if_pos h9,decD_low h9,Nat.mod_eq_of_lt h9]; rfl
  ·rw [if_neg h9,decD_cut h9]; simp
 have hsl:s.length≤19:=by
  have:=congrArg List.length hm2
  simp only [List.length_append,List.length_cons] at this; omega
 refine R_concat hg.ok (Tx (UInt8.ofNat (48+n.natAbs % 10)::s)) rfl rfl rfl rfl (by rw [show (⟨[UInt8.ofNat (48+n.natAbs % 10)].toArray⟩:ByteArray)=Tx [UInt8.ofNat (48+n.natAbs % 10)] from rfl,Tx_size,Tx_size]; show 1+s.length≤_; omega) (Tx_app [UInt8.ofNat (48+n.natAbs % 10)] s) ?_
 refine R_run hg.ok 1000 rfl rfl ?_
 refine R_quo hg.ok rfl rfl rfl rfl (by decide) ?_
 refine R_run hg.ok 1000 rfl rfl ?_
 have hqb:-9223372036854775808≤n.tdiv 10∧n.tdiv 10≤9223372036854775807∧(n.tdiv 10).natAbs=n.natAbs / 10:=by
  split at hq <;> omega
 rw [w64 hqb.1 (by omega)]
 refine R_if rfl rfl (fun h=>?_) (fun h=>?_) <;> refine R_run hg.ok 1000 rfl rfl ?_
 ·have h:n.tdiv 10=0:=by simpa using h
  rw [if_pos (by omega),List.nil_append] at hm2
  refine R_if rfl rfl (fun h2=>?_) (fun h2=>?_) <;> refine R_run hg.ok 1000 rfl rfl ?_
  ·have h2:=of_decide_eq_true h2
   refine R_concat hg.ok (Tx (45::UInt8.ofNat (48+n.natAbs % 10)::s)) rfl rfl rfl rfl (by rw [Tx_size]; show 1+(s.length+1)≤_; omega) (Tx_app [45] _) ?_
   refine R_run hg.ok 1000 rfl rfl ?_
   refine R_ret hg 5 rfl rfl ?_
   rw [hm2,Lib.itoa,if_pos h2]; rfl
  ·have h2:=of_decide_eq_false h2
   refine R_ret hg 5 rfl rfl ?_
   rw [hm2,Lib.itoa,if_neg h2,show n0.natAbs=n0.toNat by omega]; rfl
 ·have h:¬ n.tdiv 10=0:=by simpa using h
  rw [if_neg (by omega)] at hm2
  exact R_next (n.tdiv 10,_) ⟨hqb.1,hqb.2.1,by rw [hqb.2.2]; exact hm2.symm⟩ (by show (n.tdiv 10).natAbs<n.natAbs; omega) ⟨.refl _,.refl _,.refl _,trivial⟩ rfl
end Go.Proofs.YtchhahnajgfeaaaDoor

namespace PSL
open Go Go.RowKit Go.MapKept
section
variable {g:G} {pf:Nat→Cls} {ops:Array Oper} {Fin:Exit→Act→World→Prop}
end
end PSL

namespace PSL
open Go Go.RowKit
section
variable {g:G} {pf:Nat→Cls} {ops:Array Oper} {Fin:Exit→Act→World→Prop}

theorem R_eqNil (hg:GOk g) {dst:Option Nat} {T T':Nat} {x:Operand} {ty:Nat} {pos:String} {after:Array Edge} {gd:Option (Nat × Bool)} {rest:List Oper} {k:List It} {E:Env} {objs:List Ob} {i off:Nat} {e:TypeId}
  (hu:g.P.underlying T=some (.pointer e)) (hgd:guardA ops.toList E gd=some true) (hd:dstOk ⟨g.ty,g.N⟩ dst=true) (hx:ev E x=.lo i off)
  (hr:R g pf Fin (.dr ops rest::k) (putO E dst (.d (.v (.bool false)))) objs):R g pf Fin (.dr ops (⟨dst,.binOp .eql T x (.const (.pointer none)) T',ty,pos,after,gd⟩::rest)::k) E objs:=by
 refine R_op (LocOp.up (LocOp.quiet hg hgd hd (by simp) fun φ objs w' w hρ hs'=>?_)) hr
 simp only [Op.operands] at hρ
 have hxv:=hρ x (by simp)
 rw [hx] at hxv
 simp only [RV] at hxv
 obtain ⟨b,_,hvx⟩:=hxv
 refine out_val hs' (vv:=.bool false) ?_ (by simp only [RV]; exact .v _)
 have h1:∀ d,(Op.equalIn (d+1) T (.pointer (some ⟨b,off,none⟩)) (.pointer none)).run g.P w=.ok false w:=fun d=>by
  simp [Op.equalIn,run_underlying hu]
 have h2:(Op.equal T (.pointer (some ⟨b,off,none⟩)) (.pointer none)).run g.P w=.ok false w:=h1 9999
 have h3:(eqGuard .eql T x (.const (.pointer none)) (.pointer (some ⟨b,off,none⟩)) (.pointer none)).run g.P w=.ok () w:=by simp [eqGuard]
 have h4:w'.eval (.const (.pointer none))=.pointer none:=rfl
 simp only [execOp,Sem.run_bind,hvx,h4,h3,Result.andThen_ok,binOp,h2,Sem.run_pure]
end
end PSL

namespace PSL
open Go Go.RowKit Go.MapKept
section
variable {g:G} {pf:Nat→Cls} {ops:Array Oper} {Fin:Exit→Act→World→Prop}
end
end PSL
