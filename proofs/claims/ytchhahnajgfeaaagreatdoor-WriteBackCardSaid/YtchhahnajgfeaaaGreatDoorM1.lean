import Derived.Test.YtchhahnajgfeaaaGreatDoorPslB
import Derived.RangeFuncNested
import Derived.MapKept
import Derived.Laws.Strings
import Derived.ProofKit
import Derived.SizedLaws
import Derived.ChangeSame
import Derived.JoinedOf
import Derived.Laws.LoneSync
import Derived.Laws.BytesString
namespace PSL
open Go Go.RowKit

def rn (is:List Nat) (base i:Nat):Nat :=
 match nth is i with
 | some j=>j
 | none=>Nat.add base (Nat.sub i (len is))

mutual
def renA (f:Nat→Nat):AV→AV
 | .lo i o=>.lo (f i) o
 | .el i s r j=>.el (f i) s r j
 | .vw i s r=>.vw (f i) s r
 | .ow i s=>.ow (f i) s
 | .mp i=>.mp (f i)
 | .yl i=>.yl (f i)
 | .agg l=>.agg (renL f l)
 | .tup l=>.tup (renL f l)
 | .clo g a c=>.clo g (renL f a) (renL f c)
 | .any=>.any
 | .tt=>.tt
 | .ff=>.ff
 | .d x=>.d x
 | .fs r=>.fs r
def renL (f:Nat→Nat):List AV→List AV
 | []=>[]
 | x::l=>renA f x::renL f l
end

def renOb (f:Nat→Nat):Ob→Ob
 | .box l=>.box (renL f l)
 | .arr sz s rows=>.arr sz s rows
 | .map es=>.map (es.map fun x=>(x.1,renA f x.2))
 | .yld pre=>.yld pre
 | .mat hs rows=>.mat hs rows
 | .itr s pos=>.itr s pos
 | .dead=>.dead
 | .tbox T l=>.tbox T (renL f l)
 | .byt e s bs=>.byt e s bs

theorem renL_map (f:Nat→Nat):∀ (l:List AV),renL f l=l.map (renA f)
 | []=>by simp [renL]
 | x::l=>by simp [renL,renL_map f l]

mutual
theorem RV.ren {S S':Nat→Prop} {w:World} {φ ψ:List Phy} {f:Nat→Nat} (hk:Keep S w S' w) (h:∀ i p,φ[i]? = some p→ψ[f i]? = some p):∀ {x:AV} {v:Value},RV S w φ x v→RV S' w ψ (renA f x) v
 | .any,_,_=>by simp [RV,renA]
 | .tt,_,h=>by simpa [RV,renA] using h
 | .ff,_,h=>by simpa [RV,renA] using h
 | .d x,v,h=>by simp only [RV,renA] at h ⊢; exact h.mono hk
 | .fs rows,v,h=>by simp only [RV,renA] at h ⊢; exact ⟨h.1.mono hk,h.2⟩
 | .agg l,v,hv=>by
  simp only [RV,renA] at hv ⊢
  obtain ⟨cs,h1,h2⟩:=hv
  exact ⟨cs,h1,RVs.ren hk h h2⟩
 | .lo i off,v,hv=>by
  simp only [RV,renA] at hv ⊢
  obtain ⟨b,h1,h2⟩:=hv
  exact ⟨b,h _ _ h1,h2⟩
 | .el i t r j,v,hv=>by
  simp only [RV,renA] at hv ⊢
  obtain ⟨h0,p,h1,h2⟩:=hv
  exact ⟨h0,p,h _ _ h1,h2⟩
 | .vw i t r,v,hv=>by
  simp only [RV,renA] at hv ⊢
  obtain ⟨h0,p,h1,h2⟩:=hv
  exact ⟨h0,p,h _ _ h1,h2⟩
 | .ow i t,v,hv=>by
  simp only [RV,renA] at hv ⊢
  obtain ⟨h0,p,h1,h2⟩:=hv
  exact ⟨h0,p,h _ _ h1,h2⟩
 | .mp i,v,hv=>by
  simp only [RV,renA] at hv ⊢
  obtain ⟨b,h1,h2⟩:=hv
  exact ⟨b,h _ _ h1,h2⟩
 | .yl i,v,hv=>by
  simp only [RV,renA] at hv ⊢
  obtain ⟨l,I,B,h1,h2⟩:=hv
  exact ⟨l,I,B,h _ _ h1,h2⟩
 | .tup l,v,hv=>by
  simp only [RV,renA] at hv ⊢
  obtain ⟨cs,h1,h2⟩:=hv
  exact ⟨cs,h1,RVs.ren hk h h2⟩
 | .clo g a c,v,hv=>by
  simp only [RV,renA] at hv ⊢
  obtain ⟨va,vc,h1,h2,h3⟩:=hv
  exact ⟨va,vc,h1,RVs.ren hk h h2,RVs.ren hk h h3⟩
theorem RVs.ren {S S':Nat→Prop} {w:World} {φ ψ:List Phy} {f:Nat→Nat} (hk:Keep S w S' w) (h:∀ i p,φ[i]? = some p→ψ[f i]? = some p):∀ {l:List AV} {vs:List Value},RVs S w φ l vs→RVs S' w ψ (renL f l) vs
 | [],[],_=>by simp [RVs,renL]
 | [],_::_,h=>by simp [RVs] at h
 | _::_,[],h=>by simp [RVs] at h
 | a::l,v::vs,hv=>by
  simp only [RVs,renL] at hv ⊢
  exact ⟨RV.ren hk h hv.1,RVs.ren hk h hv.2⟩
end

mutual
theorem RV.unren {S S':Nat→Prop} {w:World} {φ ψ:List Phy} {f:Nat→Nat} (hk:Keep S w S' w) (h:∀ i p,φ[f i]? = some p→ψ[i]? = some p):∀ {x:AV} {v:Value},RV S w φ (renA f x) v→RV S' w ψ x v
 | .any,_,_=>by simp [RV]
 | .tt,_,h=>by simpa [RV,renA] using h
 | .ff,_,h=>by simpa [RV,renA] using h
 | .d x,v,h=>by simp only [RV,renA] at h ⊢; exact h.mono hk
 | .fs rows,v,h=>by simp only [RV,renA] at h ⊢; exact ⟨h.1.mono hk,h.2⟩
 | .agg l,v,hv=>by
  simp only [RV,renA] at hv ⊢
  obtain ⟨cs,h1,h2⟩:=hv
  exact ⟨cs,h1,RVs.unren hk h h2⟩
 | .lo i off,v,hv=>by
  simp only [RV,renA] at hv ⊢
  obtain ⟨b,h1,h2⟩:=hv
  exact ⟨b,h _ _ h1,h2⟩
 | .el i t r j,v,hv=>by
  simp only [RV,renA] at hv ⊢
  obtain ⟨h0,p,h1,h2⟩:=hv
  exact ⟨h0,p,h _ _ h1,h2⟩
 | .vw i t r,v,hv=>by
  simp only [RV,renA] at hv ⊢
  obtain ⟨h0,p,h1,h2⟩:=hv
  exact ⟨h0,p,h _ _ h1,h2⟩
 | .ow i t,v,hv=>by
  simp only [RV,renA] at hv ⊢
  obtain ⟨h0,p,h1,h2⟩:=hv
  exact ⟨h0,p,h _ _ h1,h2⟩
 | .mp i,v,hv=>by
  simp only [RV,renA] at hv ⊢
  obtain ⟨b,h1,h2⟩:=hv
  exact ⟨b,h _ _ h1,h2⟩
 | .yl i,v,hv=>by
  simp only [RV,renA] at hv ⊢
  obtain ⟨l,I,B,h1,h2⟩:=hv
  exact ⟨l,I,B,h _ _ h1,h2⟩
 | .tup l,v,hv=>by
  simp only [RV,renA] at hv ⊢
  obtain ⟨cs,h1,h2⟩:=hv
  exact ⟨cs,h1,RVs.unren hk h h2⟩
 | .clo g a c,v,hv=>by
  simp only [RV,renA] at hv ⊢
  obtain ⟨va,vc,h1,h2,h3⟩:=hv
  exact ⟨va,vc,h1,RVs.unren hk h h2,RVs.unren hk h h3⟩
theorem RVs.unren {S S':Nat→Prop} {w:World} {φ ψ:List Phy} {f:Nat→Nat} (hk:Keep S w S' w) (h:∀ i p,φ[f i]? = some p→ψ[i]? = some p):∀ {l:List AV} {vs:List Value},RVs S w φ (renL f l) vs→RVs S' w ψ l vs
 | [],[],_=>by simp [RVs]
 | [],_::_,h=>by simp [RVs,renL] at h
 | _::_,[],h=>by simp [RVs,renL] at h
 | a::l,v::vs,hv=>by
  simp only [RVs,renL] at hv ⊢
  exact ⟨RV.unren hk h hv.1,RVs.unren hk h hv.2⟩
end

theorem ObOk.ren {S S':Nat→Prop} {w:World} {φ ψ:List Phy} {f:Nat→Nat} (hk:Keep S w S' w) (h:∀ i p,φ[i]? = some p→ψ[f i]? = some p) {ph:Phy} {ob:Ob} (ho:ObOk S w φ ph ob):ObOk S' w ψ ph (renOb f ob):=by
 cases ph <;> cases ob <;> simp only [ObOk,renOb] at ho ⊢
 ·obtain ⟨cs,T,h1,h2⟩:=ho
  exact ⟨cs,T,h1,h2.ren hk h⟩
 ·obtain ⟨ents,clk,h1,h2,h3⟩:=ho
  refine ⟨ents,clk,h1,?_,?_⟩
  ·simpa [List.map_map,Function.comp_def] using h2
  ·have:=h3.ren hk h
   rw [renL_map] at this
   simpa [List.map_map,Function.comp_def] using this
 ·exact ho
 ·obtain ⟨cs,h1,h2⟩:=ho
  exact ⟨cs,h1,h2.ren hk h⟩
 ·obtain ⟨h0,h0',h1,h2⟩:=ho
  refine ⟨h0,h0',h1,?_⟩
  rcases h2 with h2 | ⟨b,o,cap,cs,T,h2,h3,h4,h5,h6,h7,h8⟩
  ·exact .inl h2
  ·refine .inr ⟨b,o,cap,cs,T,h2,h3,h4,h5,h6,h7,fun i r j x hi hj=>?_⟩
   obtain ⟨y,h9,h10⟩:=h8 i r j x hi hj
   exact ⟨y,h9,h10.mono hk⟩
 ·exact ho
 ·exact ⟨ho.1,ho.1 _ _ _ _ _ _ (Nat.le_refl _) (fun _ _=>rfl) hk ho.2⟩
 ·obtain ⟨h0,h0',h1,h2⟩:=ho
  refine ⟨h0,h0',h1,fun i x r hi hr=>?_⟩
  obtain ⟨cs,T,h3,h4,h5,h6,h7⟩:=h2 i x r hi hr
  refine ⟨cs,T,h3,h4,h5,h6,fun j d hd=>?_⟩
  obtain ⟨y,h8,h9⟩:=h7 j d hd
  exact ⟨y,h8,h9.mono hk⟩

theorem ObOk.unren {S S':Nat→Prop} {w:World} {φ ψ:List Phy} {f:Nat→Nat} (hk:Keep S w S' w) (h:∀ i p,φ[f i]? = some p→ψ[i]? = some p) {ph:Phy} {ob:Ob} (ho:ObOk S w φ ph (renOb f ob)):ObOk S' w ψ ph ob:=by
 cases ph <;> cases ob <;> simp only [ObOk,renOb] at ho ⊢
 ·obtain ⟨cs,T,h1,h2⟩:=ho
  exact ⟨cs,T,h1,h2.unren hk h⟩
 ·obtain ⟨ents,clk,h1,h2,h3⟩:=ho
  refine ⟨ents,clk,h1,?_,?_⟩
  ·simpa [List.map_map,Function.comp_def] using h2
  ·rename_i es
   have h4:renL f (es.map (·.2))=(es.map fun x=>(x.1,renA f x.2)).map (·.2):=by rw [renL_map]; simp [List.map_map,Function.comp_def]
   rw [← h4] at h3
   exact h3.unren hk h
 ·exact ho
 ·obtain ⟨cs,h1,h2⟩:=ho
  exact ⟨cs,h1,h2.unren hk h⟩
 ·obtain ⟨h0,h0',h1,h2⟩:=ho
  refine ⟨h0,h0',h1,?_⟩
  rcases h2 with h2 | ⟨b,o,cap,cs,T,h2,h3,h4,h5,h6,h7,h8⟩
  ·exact .inl h2
  ·refine .inr ⟨b,o,cap,cs,T,h2,h3,h4,h5,h6,h7,fun i r j x hi hj=>?_⟩
   obtain ⟨y,h9,h10⟩:=h8 i r j x hi hj
   exact ⟨y,h9,h10.mono hk⟩
 ·exact ho
 ·exact ⟨ho.1,ho.1 _ _ _ _ _ _ (Nat.le_refl _) (fun _ _=>rfl) hk ho.2⟩
 ·obtain ⟨h0,h0',h1,h2⟩:=ho
  refine ⟨h0,h0',h1,fun i x r hi hr=>?_⟩
  obtain ⟨cs,T,h3,h4,h5,h6,h7⟩:=h2 i x r hi hr
  refine ⟨cs,T,h3,h4,h5,h6,fun j d hd=>?_⟩
  obtain ⟨y,h8,h9⟩:=h7 j d hd
  exact ⟨y,h8,h9.mono hk⟩

def putAll {α:Type}:List Nat→List α→List α→List α
 | [],new,l=>l++new
 | j::is,o::new,l=>putAll is new (setN l j o)
 | _::_,[],l=>l

def memN (j:Nat):List Nat→Bool
 | []=>false
 | i::is=>bif Nat.beq i j then true else memN j is

def isOk (n:Nat):List Nat→Bool
 | []=>true
 | i::is=>bif Nat.ble (Nat.succ i) n then (bif memN i is then false else isOk n is) else false

theorem memN_iff {j:Nat}:∀ {is:List Nat},memN j is=true↔j∈is
 | []=>by simp [memN]
 | i::is=>by
  simp only [memN]
  cases h:Nat.beq i j
  ·have:i≠j:=fun e=>by subst e; simp at h
   simp only [cond_false,memN_iff,List.mem_cons]
   exact ⟨.inr,fun h=>h.resolve_left fun e=>this e.symm⟩
  ·have:=natBeq h; subst this; simp

theorem isOk_spec {n:Nat}:∀ {is:List Nat},isOk n is=true→is.Nodup∧∀ i∈is,i<n
 | [],_=>by simp
 | i::is,h=>by
  simp only [isOk] at h
  obtain ⟨h1,h2⟩:=bifT h
  have h1:=Nat.le_of_ble_eq_true h1
  cases hm:memN i is
  ·rw [hm] at h2
   obtain ⟨h3,h4⟩:=isOk_spec h2
   refine ⟨List.nodup_cons.2 ⟨fun hi=>?_,h3⟩,fun j hj=>(List.mem_cons.1 hj).elim (fun e=>by rw [e]; exact h1) (h4 j)⟩
   rw [memN_iff.2 hi] at hm; cases hm
  ·rw [hm] at h2; cases h2

theorem putAll_length {α:Type}:∀ {is:List Nat} {new l:List α},is.length≤new.length→(putAll is new l).length=l.length+(new.length - is.length)
 | [],new,l,_=>by simp [putAll]
 | j::is,[],l,h=>by simp at h
 | j::is,o::new,l,h=>by
  simp only [putAll]
  rw [putAll_length (by simpa using h),setN_eq]; simp

theorem putAll_other {α:Type}:∀ {is:List Nat} {new l:List α} {j:Nat},j ∉ is→j<l.length→(putAll is new l)[j]? = l[j]?
 | [],new,l,j,_,h=>by simp only [putAll]; exact List.getElem?_append_left h
 | i::is,[],l,j,_,_=>rfl
 | i::is,o::new,l,j,hj,h=>by
  simp only [List.mem_cons,not_or] at hj
  simp only [putAll]
  rw [putAll_other hj.2 (by rw [setN_eq]; simpa using h),setN_eq,List.getElem?_set_ne (fun e=>hj.1 e.symm)]

theorem putAll_rn {α:Type}:∀ {is:List Nat} {new l:List α} {i:Nat},is.Nodup→(∀ j∈is,j<l.length)→is.length≤new.length→(putAll is new l)[rn is l.length i]? = new[i]?
 | [],new,l,i,_,_,_=>by simp only [putAll,rn,nth,len,Nat.add_eq,Nat.sub_eq]; rw [List.getElem?_append_right (by omega)]; congr 1; omega
 | j::is,[],l,i,_,_,h=>by simp at h
 | j::is,o::new,l,i,hn,hl,h=>by
  have hn':=List.nodup_cons.1 hn
  have hjl:=hl j (by simp)
  simp only [putAll]
  cases i with
  | zero =>
   have:rn (j::is) l.length 0=j:=rfl
   rw [this,putAll_other hn'.1 (by rw [setN_eq]; simpa using hjl),setN_eq,List.getElem?_set_self hjl]; rfl
  | succ i =>
   have:rn (j::is) l.length (i+1)=rn is (setN l j o).length i:=by
    have e:(setN l j o).length=l.length:=by rw [setN_eq]; simp
    simp only [rn,nth,Nat.beq,cond_false,Nat.pred,len,e]
    cases nth is i with
    | some m=>rfl
    | none=>simp only [Nat.add_eq,Nat.sub_eq]; congr 1; omega
   rw [this,putAll_rn hn'.2 (fun m hm=>by rw [setN_eq]; simpa using hl m (by simp [hm])) (by simpa using h)]
   rfl

theorem putAll_cases {α:Type} {is:List Nat} {new l:List α} (h:is.length≤new.length) {j:Nat} {x:α} (hx:(putAll is new l)[j]? = some x):(j ∉ is∧j<l.length)∨∃ i,j=rn is l.length i:=by
 by_cases hj:j∈is
 ·obtain ⟨i,hi⟩:=List.mem_iff_getElem?.1 hj
  exact .inr ⟨i,by simp only [rn,nth_eq,hi]⟩
 ·by_cases hl:j<l.length
  ·exact .inl ⟨hj,hl⟩
  ·refine .inr ⟨is.length+(j - l.length),?_⟩
   have:nth is (is.length+(j - l.length))=none:=by rw [nth_eq]; exact List.getElem?_eq_none (by omega)
   simp only [rn,this,len_eq,Nat.add_eq,Nat.sub_eq]; omega

def pickN {α:Type} (l:List α):List Nat→Option (List α)
 | []=>some []
 | i::is=>match nth l i with
  | some x=>match pickN l is with
   | some r=>some (x::r)
   | none=>none
  | none=>none

theorem pickN_len {α:Type} {l:List α}:∀ {is:List Nat} {r:List α},pickN l is=some r→r.length=is.length
 | [],r,h=>by simp [pickN] at h; subst h; rfl
 | i::is,r,h=>by
  simp only [pickN] at h
  split at h
  case h_2=>cases h
  split at h
  case h_2=>cases h
  rename_i r' hr'
  cases h; simp [pickN_len hr']

theorem pickN_get {α:Type} {l:List α}:∀ {is:List Nat} {r:List α} {i:Nat} {x:α},pickN l is=some r→r[i]? = some x→∃ j,is[i]? = some j∧l[j]? = some x
 | [],r,i,x,h,hx=>by simp [pickN] at h; subst h; simp at hx
 | k::is,r,i,x,h,hx=>by
  simp only [pickN] at h
  split at h
  case h_2=>cases h
  rename_i y hy
  split at h
  case h_2=>cases h
  rename_i r' hr'
  cases h
  cases i with
  | zero=>simp at hx; subst hx; rw [nth_eq] at hy; exact ⟨k,rfl,hy⟩
  | succ i=>simp at hx; obtain ⟨j,h1,h2⟩:=pickN_get hr' hx; exact ⟨j,by simpa using h1,h2⟩

theorem pickN_ex {α:Type} {l:List α}:∀ {is:List Nat},(∀ i∈is,i<l.length)→∃ r,pickN l is=some r
 | [],_=>⟨[],rfl⟩
 | i::is,h=>by
  obtain ⟨r,hr⟩:=pickN_ex (is:=is) (fun j hj=>h j (by simp [hj]))
  have:nth l i=some (l[i]'(h i (by simp))):=by rw [nth_eq]; exact List.getElem?_eq_getElem _
  exact ⟨l[i]'(h i (by simp))::r,by simp only [pickN,this,hr]⟩

theorem pickN_of {α:Type} {l:List α}:∀ {is:List Nat} {r:List α} {i j:Nat},pickN l is=some r→is[i]? = some j→r[i]? = l[j]?
 | [],r,i,j,h,hx=>by simp at hx
 | k::is,r,i,j,h,hx=>by
  simp only [pickN] at h
  split at h
  case h_2=>cases h
  rename_i y hy
  split at h
  case h_2=>cases h
  rename_i r' hr'
  cases h
  cases i with
  | zero=>simp at hx; subst hx; rw [nth_eq] at hy; simp [hy]
  | succ i=>simp at hx; simpa using pickN_of hr' hx
end PSL
namespace PSL
open Go Go.RowKit

def YStep (P:Program) (F:Fence) (d:Nat) (Y:YP) (l:Nat) (I:Nat→(Nat→Prop)→(Nat→Prop)→World→Prop) (S:Nat→Prop):Prop :=
 ∀ (n:Nat) (B:Nat→Prop) (w:World) (R:Nat→Prop) (x:List AV) (vals:List Value),I n B R w→(∀ b,R b→S b∧¬ B b)→AmbOk P R w→(∀ b,w.heap.size≤b→R b)→Y.ys[n]? = some x→(n=0∨Y.go n=true)→RVs R w [] x vals→pureL x=true →
  YieldAt F d P l vals.toArray w fun e w'=>e=.returned (.bool (Y.go (n+1)))∧∃ B',I (n+1) B' (fun b=>R b∧¬ B' b) w'∧w.heap.size≤w'.heap.size∧w'.os=w.os∧w'.tape=w.tape∧w'.output=w.output ∧
   (∀ b,b<w.heap.size→¬ B b→w'.heap[b]? = w.heap[b]?)∧(∀ b,B' b→B b∨(w.heap.size≤b∧b<w'.heap.size))

theorem YStep.sub {P:Program} {F:Fence} {d:Nat} {Y:YP} {l:Nat} {I:Nat→(Nat→Prop)→(Nat→Prop)→World→Prop} {S S':Nat→Prop} (h:YStep P F d Y l I S) (hs:∀ b,S' b→S b):YStep P F d Y l I S' :=
 fun n B w R x vals h1 h2 ha h3 h4 h5 h6 h7=>h n B w R x vals h1 (fun b hb=>⟨hs b (h2 b hb).1,(h2 b hb).2⟩) ha h3 h4 h5 h6 h7

structure SCtr (P:Program) (Y:YP) (f:Nat) (args:List AV) (objs:List Ob) (r:AV) (objs1:List Ob):Prop where
 call:Callable P f
 run:∀ (S:Nat→Prop) (φ:List Phy) (w:World) (vals:List Value),AmbOk P (SS S φ) w→HS S φ objs w→(∀ b,bls φ b→S b)→(∀ (i l:Nat) (I:Nat→(Nat→Prop)→(Nat→Prop)→World→Prop) (B:Nat→Prop),φ[i]? = some (Phy.ext l I B)→YStep P Fence.wide 0 Y l I S)→RVs (SS S φ) w φ args vals →
  Calls P f vals.toArray w fun e w'=>∃ v φ',e=.returned v∧RV (SS S φ') w' φ' r v∧Stp S φ w φ' objs1 w'
 len:objs.length≤objs1.length
section
variable {g:G} {pf:Nat→Cls} {ops:Array Oper} {Fin:Exit→Act→World→Prop}

theorem bls_pick {φ φ0:List Phy} {is:List Nat} (h:pickN φ is=some φ0) {b:Nat} (hb:bls φ0 b):∃ i∈is,∃ p,φ[i]? = some p∧p.bl b:=by
 obtain ⟨i,p,h1,h2⟩:=hb
 obtain ⟨j,h3,h4⟩:=pickN_get h h1
 exact ⟨j,List.mem_of_getElem? h3,p,h4,h2⟩

theorem callS_core {φ:List Phy} {w:World} (hA:AmbOk g.P (SS g.S0 φ) w) (hu:GUp g) (hY:∀ (i l:Nat) (I:Nat→(Nat→Prop)→(Nat→Prop)→World→Prop) (B:Nat→Prop),g.φ0[i]? = some (Phy.ext l I B)→YStep g.P Fence.wide 0 g.Y l I g.S0) (is:List Nat) {Y:YP} {axs:List AV} {objs0 objs1:List Ob} {r:AV} (hcl:objs0.length≤objs1.length) (hcc:(∃ (i l:Nat) (I:Nat→(Nat→Prop)→(Nat→Prop)→World→Prop) (B:Nat→Prop),g.φ0[i]? = some (Phy.ext l I B))→Y=g.Y) {o₁:List Ob} {vals:List Value}
  (hok:isOk (len o₁) is=true) (hpick:pickN o₁ is=some (objs0.map (renOb (rn is (len o₁))))) (h1:HS g.S0 φ o₁ w) (h2:∀ b,bls φ b→g.w0.heap.size≤b∨g.X0 b) (h6:Fr0 g φ w) (hall:RVs (SS g.S0 φ) w φ (renL (rn is (len o₁)) axs) vals) :
  ∃ (S:Nat→Prop) (φ0:List Phy),AmbOk g.P (SS S φ0) w∧HS S φ0 objs0 w∧(∀ b,bls φ0 b→S b)∧(∀ (i l:Nat) (I:Nat→(Nat→Prop)→(Nat→Prop)→World→Prop) (B:Nat→Prop),φ0[i]? = some (Phy.ext l I B)→YStep g.P Fence.wide 0 Y l I S)∧RVs (SS S φ0) w φ0 axs vals ∧
   ∀ (w':World) (φ1:List Phy) (v:Value),RV (SS S φ1) w' φ1 r v→Stp S φ0 w φ1 objs1 w'→∃ φ',Stp g.S0 φ w φ' (putAll is (objs1.map (renOb (rn is (len o₁)))) o₁) w'∧RV (SS g.S0 φ') w' φ' (renA (rn is (len o₁)) r) v:=by
 have hbl0:∀ b,bls φ b→g.S0 b:=fun b hb=>(h2 b hb).elim (hu.up b) (hu.x b)
 obtain ⟨hnd,hlt⟩:=isOk_spec hok
 rw [len_eq,← h1.len] at hlt
 obtain ⟨φ0,hφ0⟩:=pickN_ex hlt
 have hl0:φ0.length=objs0.length:=by rw [pickN_len hφ0,← pickN_len hpick]; simp
 have hisl:is.length=φ0.length:=(pickN_len hφ0).symm
 -- numbers here,numbers there
 have hback:∀ i p,φ[rn is (len o₁) i]? = some p→φ0[i]? = some p:=fun i p hp=>by
  simp only [rn,nth_eq] at hp
  cases hi:is[i]? with
  | some j=>rw [hi] at hp; simp only at hp; rw [pickN_of hφ0 hi]; exact hp
  | none =>
   rw [hi] at hp; simp only [Nat.add_eq] at hp
   have:=(List.getElem?_eq_some_iff.1 hp).1
   rw [h1.len,← len_eq] at this; omega
 have hsub0:∀ b,bls φ0 b→bls φ b:=fun b hb=>by
  obtain ⟨i,_,p,h7,h8⟩:=bls_pick hφ0 hb
  exact ⟨i,p,h7,h8⟩
 have hK0:Keep (SS g.S0 φ) w (SS (fun b=>SS g.S0 φ b∨bls φ0 b) φ0) w:=fun b hb _=>⟨⟨.inl hb,fun hc=>hb.2 (hsub0 b hc)⟩,rfl⟩
 have hHS0:HS (fun b=>SS g.S0 φ b∨bls φ0 b) φ0 objs0 w:=by
  refine ⟨hl0,fun i ph ob hi ho=>?_,fun i j p q b hi hj hp hq=>?_,fun b hb=>h1.lt b (hsub0 b hb),fun b hb=>.inl ⟨h1.up b hb,fun hc=>by have:=h1.lt b hc; omega⟩⟩
  ·obtain ⟨j,hj,hφj⟩:=pickN_get hφ0 hi
   obtain ⟨j',hj',hoj⟩:=pickN_get hpick (i:=i) (x:=renOb (rn is (len o₁)) ob) (by rw [List.getElem?_map,ho]; rfl)
   rw [hj] at hj'; cases hj'
   exact (h1.ok j ph _ hφj hoj).unren hK0 hback
  ·obtain ⟨i',hi',hφi⟩:=pickN_get hφ0 hi
   obtain ⟨j',hj',hφj⟩:=pickN_get hφ0 hj
   have:=h1.dist i' j' p q b hφi hφj hp hq
   subst this
   have h7:=(List.getElem?_inj (List.getElem?_eq_some_iff.1 hi').1 hnd).1 (hi'.trans hj'.symm)
   exact h7
 have hext:∀ (i l:Nat) (I:Nat→(Nat→Prop)→(Nat→Prop)→World→Prop) (B:Nat→Prop),φ0[i]? = some (Phy.ext l I B)→YStep g.P Fence.wide 0 Y l I (fun b=>SS g.S0 φ b∨bls φ0 b):=fun i l I B hi=>by
  obtain ⟨j,_,hφj⟩:=pickN_get hφ0 hi
  obtain ⟨B0,h7⟩:=h6.gen j l I B hφj
  rw [hcc ⟨j,l,I,B0,h7⟩]
  exact (hY j l I B0 h7).sub fun b hb=>hb.elim (fun h=>h.1) (fun h=>hbl0 b (hsub0 b h))
 refine ⟨_,φ0,hA.keep hK0,hHS0,fun b hb=>.inr hb,hext,hall.unren hK0 hback,fun w' φ1 v hv hst=>?_⟩
 have hl1:φ1.length=objs1.length:=hst.hs.len
 have hle1:is.length≤φ1.length:=by rw [hl1,hisl,hl0]; exact hcl
 have hlen:len o₁=φ.length:=by rw [len_eq,h1.len]
 rw [hlen] at hback ⊢
 -- where all lies now
 have hrn:∀ i,(putAll is φ1 φ)[rn is φ.length i]? = φ1[i]? := fun i=>putAll_rn hnd hlt hle1
 have hcases:∀ {j:Nat} {p:Phy},(putAll is φ1 φ)[j]? = some p→(j ∉ is∧φ[j]? = some p)∨∃ i,j=rn is φ.length i∧φ1[i]? = some p:=fun {j p} hj=>by
  rcases putAll_cases hle1 hj with ⟨h7,h8⟩ | ⟨i,rfl⟩
  ·rw [putAll_other h7 h8] at hj; exact .inl ⟨h7,hj⟩
  ·rw [hrn] at hj; exact .inr ⟨i,rfl,hj⟩
 have hblsE:∀ {b:Nat},bls (putAll is φ1 φ) b→(∃ j p,j ∉ is∧φ[j]? = some p∧p.bl b)∨bls φ1 b:=fun {b} hb=>by
  obtain ⟨j,p,h7,h8⟩:=hb
  rcases hcases h7 with ⟨h9,h10⟩ | ⟨i,_,h10⟩
  ·exact .inl ⟨j,p,h9,h10,h8⟩
  ·exact .inr ⟨i,p,h10,h8⟩
 have hout:∀ {j:Nat} {p:Phy} {b:Nat},j ∉ is→φ[j]? = some p→p.bl b→¬ bls φ0 b:=fun {j p b} h7 h8 h9 h10=>by
  obtain ⟨i,hi,q,h11,h12⟩:=bls_pick hφ0 h10
  have:=h1.dist i j q p b h11 h8 h12 h9
  subst this; exact h7 hi
 have hsame:∀ {j:Nat} {p:Phy} {b:Nat},j ∉ is→φ[j]? = some p→p.bl b→w'.heap[b]? = w.heap[b]? := fun {j p b} h7 h8 h9 =>
  hst.fr b (h1.lt b ⟨j,p,h8,h9⟩) (hout h7 h8 h9)
 have hK:Keep (SS g.S0 φ) w (SS g.S0 (putAll is φ1 φ)) w':=.of fun b hb hbs=>by
  have hn0:¬ bls φ0 b:=fun hc=>hb.2 (hsub0 b hc)
  refine ⟨⟨hb.1,fun hc=>?_⟩,hst.fr b hbs hn0⟩
  rcases hblsE hc with ⟨j,p,h7,h8,h9⟩ | h7
  ·exact hb.2 ⟨j,p,h8,h9⟩
  ·rcases hst.own b h7 with h8 | h8
   ·exact hn0 h8
   ·omega
 have hK1:Keep (SS (fun b=>SS g.S0 φ b∨bls φ0 b) φ1) w' (SS g.S0 (putAll is φ1 φ)) w':=fun b hb _=>by
  refine ⟨⟨hb.1.elim (fun h=>h.1) (fun h=>hbl0 b (hsub0 b h)),fun hc=>?_⟩,rfl⟩
  rcases hblsE hc with ⟨j,p,h7,h8,h9⟩ | h7
  ·rcases hb.1 with h10 | h10
   ·exact h10.2 ⟨j,p,h8,h9⟩
   ·exact hout h7 h8 h9 h10
  ·exact hb.2 h7
 have hle:PhsLe φ (putAll is φ1 φ):=fun j p hj=>by
  by_cases hji:j∈is
  ·obtain ⟨i,hi⟩:=List.mem_iff_getElem?.1 hji
   obtain ⟨p',h7,h8⟩:=hst.le i p (by rw [pickN_of hφ0 hi]; exact hj)
   have:j=rn is φ.length i:=by simp only [rn,nth_eq,hi]
   exact ⟨p',by rw [this,hrn]; exact h7,h8⟩
  ·exact ⟨p,by rw [putAll_other hji (List.getElem?_eq_some_iff.1 hj).1]; exact hj,.inl rfl⟩
 have hfwd:∀ i p,φ1[i]? = some p→(putAll is φ1 φ)[rn is φ.length i]? = some p:=fun i p hp=>by rw [hrn]; exact hp
 have hlo:o₁.length=φ.length:=h1.len.symm
 have hcaseO:∀ {j:Nat} {ob:Ob},(putAll is (objs1.map (renOb (rn is φ.length))) o₁)[j]? = some ob→(j ∉ is∧o₁[j]? = some ob)∨∃ i,j=rn is φ.length i∧∃ ob1,objs1[i]? = some ob1∧ob=renOb (rn is φ.length) ob1:=fun {j ob} hj=>by
  have hlO:is.length≤(objs1.map (renOb (rn is φ.length))).length:=by rw [List.length_map,← hl1]; exact hle1
  rcases putAll_cases hlO hj with ⟨h7,h8⟩ | ⟨i,rfl⟩
  ·rw [putAll_other h7 h8] at hj; exact .inl ⟨h7,hj⟩
  ·rw [putAll_rn hnd (by rw [hlo]; exact hlt) hlO,List.getElem?_map] at hj
   rw [hlo]
   cases ho:objs1[i]? with
   | none=>rw [ho] at hj; cases hj
   | some ob1=>rw [ho] at hj; simp at hj; exact .inr ⟨i,rfl,ob1,ho,hj.symm⟩
 have hrninj:∀ {i i':Nat},rn is φ.length i=rn is φ.length i'→i<φ1.length→i'<φ1.length→i=i':=fun {i i'} h7 h8 h9=>by
  simp only [rn,nth_eq,len_eq,Nat.add_eq,Nat.sub_eq] at h7
  cases hi:is[i]? <;> cases hi':is[i']? <;> rw [hi,hi'] at h7 <;> simp only at h7
  ·have:=List.getElem?_eq_none_iff.1 hi
   have:=List.getElem?_eq_none_iff.1 hi'
   omega
  ·have:=hlt _ (List.mem_of_getElem? hi'); omega
  ·have:=hlt _ (List.mem_of_getElem? hi); omega
  ·subst h7
   exact (List.getElem?_inj (List.getElem?_eq_some_iff.1 hi).1 hnd).1 (hi.trans hi'.symm)
 have hstp:Stp g.S0 φ w (putAll is φ1 φ) (putAll is (objs1.map (renOb (rn is φ.length))) o₁) w':=by
  refine ⟨⟨?_,?_,?_,?_,fun b hb=>h1.up b (Nat.le_trans hst.size hb)⟩,hK,hle,hst.size,hst.os,hst.tape,hst.out,fun b hb hn=>hst.fr b hb fun hc=>hn (hsub0 b hc),?_,?_⟩
  ·rw [putAll_length hle1,putAll_length (by rw [List.length_map,← hl1]; exact hle1),List.length_map,hl1,h1.len]
  ·intro j ph ob hj hob
   rcases hcases hj with ⟨h7,h8⟩ | ⟨i,rfl,h8⟩
   ·rcases hcaseO hob with ⟨_,h9⟩ | ⟨i,hji,ob1,h9,_⟩
    ·exact (h1.ok j ph ob h8 h9).mono hK hle hst.size fun b hb=>hsame h7 h8 hb
    ·exfalso
     simp only [rn,nth_eq] at hji
     cases hi:is[i]? with
     | some m=>rw [hi] at hji; simp only at hji; subst hji; exact h7 (List.mem_of_getElem? hi)
     | none =>
      rw [hi] at hji; simp only [Nat.add_eq] at hji
      have:=(List.getElem?_eq_some_iff.1 h8).1
      omega
   ·rcases hcaseO hob with ⟨h7,h9⟩ | ⟨i',hji,ob1,h9,rfl⟩
    ·exfalso
     have hjl:=(List.getElem?_eq_some_iff.1 h9).1
     rw [hlo] at hjl
     simp only [rn,nth_eq] at h7 hjl
     cases hi:is[i]? with
     | some m=>rw [hi] at h7; exact h7 (List.mem_of_getElem? hi)
     | none=>rw [hi] at hjl; simp only [Nat.add_eq] at hjl; omega
    ·have:=hrninj hji (List.getElem?_eq_some_iff.1 h8).1 (by rw [hl1]; exact (List.getElem?_eq_some_iff.1 h9).1)
     subst this
     exact (hst.hs.ok i ph ob1 h8 h9).ren hK1 hfwd
  ·intro i j p q b hi hj hp hq
   rcases hcases hi with ⟨h7,h8⟩ | ⟨i',rfl,h8⟩ <;> rcases hcases hj with ⟨h9,h10⟩ | ⟨j',rfl,h10⟩
   ·exact h1.dist i j p q b h8 h10 hp hq
   ·exfalso
    rcases hst.own b ⟨j',q,h10,hq⟩ with h11 | h11
    ·exact hout h7 h8 hp h11
    ·have:=h1.lt b ⟨i,p,h8,hp⟩; omega
   ·exfalso
    rcases hst.own b ⟨i',p,h8,hp⟩ with h11 | h11
    ·exact hout h9 h10 hq h11
    ·have:=h1.lt b ⟨j,q,h10,hq⟩; omega
   ·rw [hst.hs.dist i' j' p q b h8 h10 hp hq]
  ·intro b hb
   rcases hblsE hb with ⟨j,p,h7,h8,h9⟩ | h7
   ·exact Nat.lt_of_lt_of_le (h1.lt b ⟨j,p,h8,h9⟩) hst.size
   ·exact hst.hs.lt b h7
  ·intro b hb
   rcases hblsE hb with ⟨j,p,h7,h8,h9⟩ | h7
   ·exact .inl ⟨j,p,h8,h9⟩
   ·exact (hst.own b h7).imp (hsub0 b) id
  ·intro j l I B hj
   rcases hcases hj with ⟨h7,h8⟩ | ⟨i,rfl,h8⟩
   ·exact ⟨B,h8⟩
   ·obtain ⟨B0,h9⟩:=hst.ext i l I B h8
    obtain ⟨m,h10,h11⟩:=pickN_get hφ0 h9
    refine ⟨B0,?_⟩
    have:rn is φ.length i=m:=by simp only [rn,nth_eq,h10]
    rw [this]; exact h11
 exact ⟨_,hstp,hv.ren hK1 hfwd⟩

theorem loc_callS (hg:GOk g) (hu:GUp g) (hF:g.F=Fence.wide∧g.dep=0) (hY:∀ (i l:Nat) (I:Nat→(Nat→Prop)→(Nat→Prop)→World→Prop) (B:Nat→Prop),g.φ0[i]? = some (Phy.ext l I B)→YStep g.P Fence.wide 0 g.Y l I g.S0) (is:List Nat) {Y:YP} {f:Nat} {axs:List AV} {objs0 objs1:List Ob} {r:AV} (hc:SCtr g.P Y f axs objs0 r objs1) (hcc:(∃ (i l:Nat) (I:Nat→(Nat→Prop)→(Nat→Prop)→World→Prop) (B:Nat→Prop),g.φ0[i]? = some (Phy.ext l I B))→Y=g.Y) {dst:Option Nat} {x:Operand} {args:Array Operand} {ts:Array Nat} {ty:Nat} {pos:String} {after:Array Edge} {gd:Option (Nat × Bool)}
  {E:Env} {objs:List Ob} {fs cs:List AV}
  (hgd:guardA ops.toList E gd=some true) (hd:dstOk ⟨g.ty,g.N⟩ dst=true) (hx:ev E x=.clo f fs cs) (hok:isOk (len objs) is=true) (hpick:pickN objs is=some (objs0.map (renOb (rn is (len objs)))))
  (has:(fs++args.toList.map (ev E)++cs).map nrm=renL (rn is (len objs)) axs) :
  LocOp g ops ⟨dst,.call { callee:=.value x,args:=args,argTypes:=ts },ty,pos,after,gd⟩ E objs .eff (renA (rn is (len objs)) r) (putAll is (objs1.map (renOb (rn is (len objs)))) objs):=by
 refine ⟨fun h=>absurd rfl (h _),(fun b h hb=>by cases h; omega),fun E₁ o₁ o₁' a w he ho hs Q=>?_⟩
 rcases ho with ⟨h,_⟩ | ⟨_,h,_⟩ | ⟨ho1,ho2⟩
 ·cases h
 ·cases h
 subst ho1; subst ho2
 obtain ⟨φ,h1,h2,h3,h4,h5,h6⟩:=hs
 rw [wanted_of (guardA_ok hgd) he h3]
 simp only [if_true]
 refine ⟨about_ok hg _ w a,?_⟩
 have hρ:=rv_ops (o:=⟨dst,.call { callee:=.value x,args:=args,argTypes:=ts },ty,pos,after,gd⟩) he h3
 simp only [Op.operands,Call.operands] at hρ
 have hxv:=hρ x (by simp)
 rw [hx] at hxv
 simp only [RV] at hxv
 obtain ⟨va,vc,hxv,hfs,hcs⟩:=hxv
 have hargs:RVs (SS g.S0 φ) w φ (args.toList.map (ev E)) (args.toList.map a.eval):=RVs.map _ _ _ fun y hy=>hρ y (by simp [hy])
 have hall:=((hfs.append hargs).append hcs).mapEnt nrm Ent.nrm
 rw [has] at hall
 rw [Oper.semAt_eq _ _ _ (by simp),run_callv rfl hxv hc.call]
 refine ⟨fun h=>by rw [hg.depth] at h; simp at h,?_⟩
 obtain ⟨S,φ0,gA,g1,g2,g3,g4,g5⟩:=callS_core (hg.ambAt h2 h6) hu hY is hc.len hcc hok hpick h1 h2 h6 hall
 have hcall:=hc.run S φ0 w _ gA g1 g2 g3 g4
 refine (callsIn_free hg hcall).mono ?_
 rintro e w' ⟨v,φ1,rfl,hv,hst⟩
 obtain ⟨φ',hstp,hv'⟩:=g5 w' φ1 v hv hst
 exact Sat.stp h2 h3 h4 h5 h6 hstp (dstOk_ok hd) fun _=>hv'

theorem R_callS (hg:GOk g) (hu:GUp g) (hF:g.F=Fence.wide∧g.dep=0) (hY:∀ (i l:Nat) (I:Nat→(Nat→Prop)→(Nat→Prop)→World→Prop) (B:Nat→Prop),g.φ0[i]? = some (Phy.ext l I B)→YStep g.P Fence.wide 0 g.Y l I g.S0) (is:List Nat) {Y:YP} {f:Nat} {axs:List AV} {objs0 objs1:List Ob} {r:AV} (hc:SCtr g.P Y f axs objs0 r objs1) (hcc:(∃ (i l:Nat) (I:Nat→(Nat→Prop)→(Nat→Prop)→World→Prop) (B:Nat→Prop),g.φ0[i]? = some (Phy.ext l I B))→Y=g.Y) {dst:Option Nat} {x:Operand} {args:Array Operand} {ts:Array Nat} {ty:Nat} {pos:String} {after:Array Edge} {gd:Option (Nat × Bool)}
  {rest:List Oper} {k:List It} {E:Env} {objs:List Ob} {fs cs:List AV}
  (hgd:guardA ops.toList E gd=some true) (hd:dstOk ⟨g.ty,g.N⟩ dst=true) (hcl:clsOf pf (.call { callee:=.value x,args:=args,argTypes:=ts })=.eff) (hx:ev E x=.clo f fs cs) (hok:isOk (len objs) is=true) (hpick:pickN objs is=some (objs0.map (renOb (rn is (len objs)))))
  (has:(fs++args.toList.map (ev E)++cs).map nrm=renL (rn is (len objs)) axs)
  (hr:R g pf Fin (.dr ops rest::k) (putO E dst (renA (rn is (len objs)) r)) (putAll is (objs1.map (renOb (rn is (len objs)))) objs)) :
  R g pf Fin (.dr ops (⟨dst,.call { callee:=.value x,args:=args,argTypes:=ts },ty,pos,after,gd⟩::rest)::k) E objs:=by
 refine R_op ?_ hr
 show LocOp g ops _ E objs (clsOf pf (.call { callee:=.value x,args:=args,argTypes:=ts })) _ _
 rw [hcl]
 exact loc_callS hg hu hF hY is hc hcc hgd hd hx hok hpick has

theorem LocOp.as {o:Oper} {E:Env} {objs:List Ob} {v:AV} {c:Cls} (hc:isStill c=false) (h:LocOp g ops o E objs .eff v objs):LocOp g ops o E objs c v objs :=
 ⟨fun _=>rfl,fun _ _ _=>.refl _,fun E₁ o₁ o₁' a w h1 h2 h3=>h.step E₁ o₁ o₁' a w h1 (by
  rcases h2 with ⟨h2,_⟩ | ⟨m,h2,_⟩ | h2
  ·subst h2; simp [isStill] at hc
  ·subst h2
   have:Nat.blt 0 (m+1)=true:=by rw [Nat.blt_eq]; omega
   simp only [isStill] at hc
   rw [this] at hc; cases hc
  ·exact .inr (.inr h2)) h3⟩

theorem R_callL (hg:GOk g) (hu:GUp g) (hF:g.F=Fence.wide∧g.dep=0) (hY:∀ (i l:Nat) (I:Nat→(Nat→Prop)→(Nat→Prop)→World→Prop) (B:Nat→Prop),g.φ0[i]? = some (Phy.ext l I B)→YStep g.P Fence.wide 0 g.Y l I g.S0) (is:List Nat) {Y:YP} {f:Nat} {axs:List AV} {objs0 objs1:List Ob} {r:AV} (hc:SCtr g.P Y f axs objs0 r objs1) (hcc:(∃ (i l:Nat) (I:Nat→(Nat→Prop)→(Nat→Prop)→World→Prop) (B:Nat→Prop),g.φ0[i]? = some (Phy.ext l I B))→Y=g.Y) {dst:Option Nat} {x:Operand} {args:Array Operand} {ts:Array Nat} {ty:Nat} {pos:String} {after:Array Edge} {gd:Option (Nat × Bool)}
  {rest:List Oper} {k:List It} {E:Env} {objs:List Ob} {fs cs:List AV}
  (hgd:guardA ops.toList E gd=some true) (hd:dstOk ⟨g.ty,g.N⟩ dst=true) (hcl:isStill (clsOf pf (.call { callee:=.value x,args:=args,argTypes:=ts }))=false) (hx:ev E x=.clo f fs cs) (hok:isOk (len objs) is=true) (hpick:pickN objs is=some (objs0.map (renOb (rn is (len objs)))))
  (has:(fs++args.toList.map (ev E)++cs).map nrm=renL (rn is (len objs)) axs)
  (hput:putAll is (objs1.map (renOb (rn is (len objs)))) objs=objs)
  (hr:R g pf Fin (.dr ops rest::k) (putO E dst (renA (rn is (len objs)) r)) objs) :
  R g pf Fin (.dr ops (⟨dst,.call { callee:=.value x,args:=args,argTypes:=ts },ty,pos,after,gd⟩::rest)::k) E objs:=by
 refine R_op (LocOp.as hcl ?_) hr
 have h:=loc_callS (ops:=ops) (after:=after) (pos:=pos) (ty:=ty) (ts:=ts) (dst:=dst) hg hu hF hY is hc hcc hgd hd hx hok hpick has
 rw [hput] at h
 exact h
end
end PSL
namespace PSL
open Go Go.RowKit

def gOfS (P:Program) (ty:Nat→Option Ty) (N:Nat) (w:World) (S:Nat→Prop) (φ:List Phy) (Y:YP):G :=
 { P:=P,F:=Fence.wide,dep:=0,ty:=ty,N:=N,w0:=w,S0:=S,X0:=bls φ,φ0:=φ,Y:=Y,mks:=true }

structure GS (g:G) (objs0:List Ob):Prop where
 ok:GOk g
 wide:g.F=Fence.wide∧g.dep=0
 hs0:HS g.S0 g.φ0 objs0 g.w0
 x:∀ b,g.X0 b→bls g.φ0 b
 bl:∀ b,bls g.φ0 b→g.S0 b
 Y:∀ (i l:Nat) (I:Nat→(Nat→Prop)→(Nat→Prop)→World→Prop) (B:Nat→Prop),g.φ0[i]? = some (Phy.ext l I B)→YStep g.P Fence.wide 0 g.Y l I g.S0
theorem GS.gup {g:G} {objs0:List Ob} (h:GS g objs0):GUp g:=⟨h.hs0.up,fun b hb=>h.bl b (h.x b hb)⟩

def sealT (nz:Bool) (n0:Nat) (objs:List Ob):Nat→AV→AV
 | 0,_=>.any
 | n+1,x=>match x with
  | .agg l=>.agg (l.map (sealT nz n0 objs n))
  | .tup l=>.tup (l.map (sealT nz n0 objs n))
  | .clo f a c=>.clo f (a.map (sealT nz n0 objs n)) (c.map (sealT nz n0 objs n))
  | .ow i s=>bif Nat.ble (Nat.succ i) n0 then .ow i s else (match nth objs i with
   | some (.arr _ s' rows)=>bif Nat.beq s s' then .d (.sl rows) else .any
   | _=>.any)
  | .lo i off=>bif Nat.ble (Nat.succ i) n0 then .lo i off else (match nth objs i with
   | some (.box l)=>(match toDs (l.map (sealT true n0 objs n)) with
    | some ds=>.d (.ptr (ds.drop off))
    | none=>.any)
   | _=>.any)
  | .mp i=>bif Nat.ble (Nat.succ i) n0 then .mp i else .any
  | .yl i=>bif Nat.ble (Nat.succ i) n0 then .yl i else .any
  | .el i s r j=>bif Nat.ble (Nat.succ i) n0 then .el i s r j else .any
  | .vw i s r=>bif Nat.ble (Nat.succ i) n0 then .vw i s r else .any
  | .tt=>.d (.v (.bool true))
  | .ff=>.d (.v (.bool false))
  | .fs rows=>.d (.sl rows)
  | .d (.v (.slice none 0 0))=>bif nz then .d (.sl []) else .d (.v (.slice none 0 0))
  | .d y=>.d y
  | .any=>.any
section
variable {S0:Nat→Prop} {φ:List Phy} {objs:List Ob} {w:World}

theorem arr_rd' {S:Nat→Prop} {n0 i s sz s':Nat} {rows:List (List D)} {v:Value} (hs:HS S0 φ objs w) (hv:RV S w φ (.ow i s) v) (ho:nth objs i=some (.arr sz s' rows)) (hss:s=s') {φ':List Phy}
  (hin:∀ b p,φ[i]? = some p→p.bl b→SS S0 φ' b) (hk:Keep (SS S0 φ) w (SS S0 φ') w) :
  Rd (SS S0 φ') w (.sl rows) v:=by
 simp only [RV] at hv
 obtain ⟨_,ph,hph,hx⟩:=hv
 have hk1:=obj_at hs hph ho
 cases ph <;> try (simp only [ObOk] at hk1; done)
 rename_i sz2 s2 v2 ob2
 simp only [ObOk] at hk1
 obtain ⟨rfl,he,hlen,hk1⟩:=hk1
 obtain ⟨_,hx⟩:=hx _ _ _ _ rfl
 have hx:=hx (by omega)
 subst hx
 rcases hk1 with ⟨a2,rfl,rfl,_⟩ | ⟨b,o,cap,cs,T,rfl,rfl,hheap,hn,hcap,hle,hrd⟩
 ·exact .nil _ _
 ·refine Rd.sl (sz:=sz) (fun i j=>(cs[o+i * sz+j]?).getD undef) (hin b _ hph rfl) hheap hn hcap (fun i r hi=>hlen r (List.mem_of_getElem? hi)) (fun i r j x hi hj=>?_) (fun i r j x hi hj=>?_)
  ·obtain ⟨y,h1,_⟩:=hrd i r j x hi hj
   simp [h1]
  ·obtain ⟨y,h1,h2⟩:=hrd i r j x hi hj
   rw [h1]; exact h2.mono hk

theorem sealT_ok (hbl:∀ b,bls φ b→S0 b) (hs:HS S0 φ objs w) (n0:Nat):∀ (n:Nat) (nz:Bool) (x:AV) (v:Value),RV (SS S0 φ) w φ x v→RV (SS S0 (φ.take n0)) w (φ.take n0) (sealT nz n0 objs n x) v:=by
 have hp:∀ i,i<n0→(φ.take n0)[i]? = φ[i]? := fun i hi=>List.getElem?_take_of_lt hi
 have hbl':∀ b,bls (φ.take n0) b→∃ j p,j<n0∧φ[j]? = some p∧p.bl b:=by
  rintro b ⟨i,p,g1,g2⟩
  have hi:i<n0:=by
   have:=(List.getElem?_eq_some_iff.1 g1).1
   simp at this; omega
  exact ⟨i,p,hi,by rw [← hp i hi]; exact g1,g2⟩
 have hkeep:Keep (SS S0 φ) w (SS S0 (φ.take n0)) w:=fun b hb _=>⟨⟨hb.1,fun hc=>by
  obtain ⟨j,p,_,h1,h2⟩:=hbl' b hc
  exact hb.2 ⟨j,p,h1,h2⟩⟩,rfl⟩
 have hin:∀ {i:Nat},¬ i<n0→∀ b p,φ[i]? = some p→p.bl b→SS S0 (φ.take n0) b:=fun {i} hi b p h1 h2=>⟨hbl b ⟨i,p,h1,h2⟩,fun hc=>by
  obtain ⟨j,q,h3,h4,h5⟩:=hbl' b hc
  have:=hs.dist i j p q b h1 h4 h2 h5
  omega⟩
 have hnlt:∀ {i:Nat},Nat.ble (Nat.succ i) n0=false→¬ i<n0:=fun {i} h hc=>by
  have:Nat.ble (Nat.succ i) n0=true:=Nat.ble_eq_true_of_le hc
  rw [h] at this; cases this
 intro n
 induction n with
 | zero=>intro nz x v _; simp [sealT,RV]
 | succ n ih =>
  intro nz x v hx
  simp only [sealT]
  split
  case h_1 l =>
   simp only [RV] at hx ⊢
   obtain ⟨cs,h1,h2⟩:=hx
   exact ⟨cs,h1,h2.map' _ fun x v h=>ih nz x v h⟩
  case h_2 l =>
   simp only [RV] at hx ⊢
   obtain ⟨cs,h1,h2⟩:=hx
   exact ⟨cs,h1,h2.map' _ fun x v h=>ih nz x v h⟩
  case h_3 f a c =>
   simp only [RV] at hx ⊢
   obtain ⟨va,vc,h1,h2,h3⟩:=hx
   exact ⟨va,vc,h1,h2.map' _ fun x v h=>ih nz x v h,h3.map' _ fun x v h=>ih nz x v h⟩
  case h_4 i s =>
   cases hi:Nat.ble (Nat.succ i) n0
   ·simp only [cond_false]
    split
    ·rename_i sz s' rows ho
     cases hss:Nat.beq s s'
     ·simp [RV]
     ·simp only [cond_true,RV]
      exact arr_rd' (n0:=n0) hs hx ho (natBeq hss) (hin (hnlt hi)) hkeep
    ·simp [RV]
   ·simp only [cond_true,RV] at hx ⊢
    rw [hp i (Nat.le_of_ble_eq_true hi)]; exact hx
  case h_5 i off =>
   cases hi:Nat.ble (Nat.succ i) n0
   ·simp only [cond_false]
    split
    ·rename_i l ho
     split
     ·rename_i ds hds
      simp only [RV] at hx
      obtain ⟨b,hb,rfl⟩:=hx
      have hk:=obj_at hs hb ho
      simp only [ObOk] at hk
      obtain ⟨cs,T,hheap,hrv⟩:=hk
      have h1:=hrv.map' (sealT true n0 objs n) fun x v h=>ih true x v h
      have h2:=toDs_rvs h1 hds
      simp only [RV]
      refine Rd.ptr (fun j=>(cs[off+j]?).getD undef) (hin (hnlt hi) b _ hb rfl) hheap (fun j x hj=>?_) (fun j x hj=>?_)
      ·obtain ⟨u,h3,_⟩:=h2.get (off+j) (x:=.d x) (by rw [List.getElem?_map]; rw [List.getElem?_drop] at hj; rw [hj]; rfl)
       simp [h3]
      ·obtain ⟨u,h3,h4⟩:=h2.get (off+j) (x:=.d x) (by rw [List.getElem?_map]; rw [List.getElem?_drop] at hj; rw [hj]; rfl)
       rw [h3]; simpa [RV] using h4
     ·simp [RV]
    ·simp [RV]
   ·simp only [cond_true,RV] at hx ⊢
    rw [hp i (Nat.le_of_ble_eq_true hi)]; exact hx
  case h_6 i =>
   cases hi:Nat.ble (Nat.succ i) n0
   ·simp [RV]
   ·simp only [cond_true,RV] at hx ⊢
    rw [hp i (Nat.le_of_ble_eq_true hi)]; exact hx
  case h_7 i =>
   cases hi:Nat.ble (Nat.succ i) n0
   ·simp [RV]
   ·simp only [cond_true,RV] at hx ⊢
    rw [hp i (Nat.le_of_ble_eq_true hi)]; exact hx
  case h_8 i s r j =>
   cases hi:Nat.ble (Nat.succ i) n0
   ·simp [RV]
   ·simp only [cond_true,RV] at hx ⊢
    rw [hp i (Nat.le_of_ble_eq_true hi)]; exact hx
  case h_9 i s r =>
   cases hi:Nat.ble (Nat.succ i) n0
   ·simp [RV]
   ·simp only [cond_true,RV] at hx ⊢
    rw [hp i (Nat.le_of_ble_eq_true hi)]; exact hx
  case h_10=>simp only [RV] at hx ⊢; subst hx; exact .v _
  case h_11=>simp only [RV] at hx ⊢; subst hx; exact .v _
  case h_12=>simp only [RV] at hx ⊢; exact hx.1.mono hkeep
  case h_13 =>
   cases nz
   ·simp only [cond_false,RV] at hx ⊢; exact hx.mono hkeep
   ·simp only [cond_true,RV] at hx ⊢; cases hx; exact .nil _ _
  case h_14=>simp only [RV] at hx ⊢; exact hx.mono hkeep
  case h_15=>simp [RV]
end
section
variable {g:G} {pf:Nat→Cls}

def FinS (g:G) (fn:Func) (r:AV) (objs1:List Ob):Exit→Act→World→Prop :=
 bodyPostM g.F g.dep g.P fn fun e w'=>∃ v φ',e=.returned v∧RV (SS g.S0 φ') w' φ' r v∧Stp g.S0 g.φ0 g.w0 φ' objs1 w'

theorem finS_ok {objs0:List Ob} (hg:GS g objs0) (hdf:g.dfs=[]) {fn:Func} {E:Env} {objs:List Ob} {av:AV} (n0 n:Nat) (hn0:objs0.length≤n0) (hres:resAV g.ty E objs fn.results.toList=some av) {a:Act} {w:World} (hs:Sat g E objs a w) :
  FinS g fn (sealT true n0 objs n av) ((objs.take n0).map (mapOb (sealT false n0 objs n))) .ret a w∧FinS g fn (sealT true n0 objs n av) ((objs.take n0).map (mapOb (sealT false n0 objs n))) .normal a w:=by
 suffices hl:LeavesInM g.F g.dep g.P fn a.tmps (fun e w'=>∃ v φ',e=.returned v∧RV (SS g.S0 φ') w' φ' (sealT true n0 objs n av) v∧Stp g.S0 g.φ0 g.w0 φ' ((objs.take n0).map (mapOb (sealT false n0 objs n))) w') a.defers .returning w from ⟨hl,hl⟩
 refine leaves_ok hdf (E:=E) (objs:=objs) (fun tmps w hs'=>?_) a w hs
 clear hs
 have hs:=hs'
 obtain ⟨φ,h1,h2,h3,h4,h5,h6⟩:=hs
 obtain ⟨vv,h7,h8⟩:=resAV_ok hg.ok.ty h1 h3 hres
 have hbl:∀ b,bls φ b→g.S0 b:=fun b hb=>(h2 b hb).elim (hg.gup.up b) (hg.gup.x b)
 have h9:=sealT_ok hbl h1 n0 n true av vv h8
 have hp:∀ i,i<n0→(φ.take n0)[i]? = φ[i]? := fun i hi=>List.getElem?_take_of_lt hi
 have hbl':∀ b,bls (φ.take n0) b→bls φ b:=by
  rintro b ⟨i,p,g1,g2⟩
  have hi:i<n0:=by
   have:=(List.getElem?_eq_some_iff.1 g1).1
   simp at this; omega
  exact ⟨i,p,by rw [← hp i hi]; exact g1,g2⟩
 have hst:Stp g.S0 g.φ0 g.w0 (φ.take n0) ((objs.take n0).map (mapOb (sealT false n0 objs n))) w:=by
  refine ⟨h1.remap (sealT false n0 objs n) (by simp [h1.len]) (fun i p b hi hb=>⟨p,?_,hb⟩) (fun i ob' hi=>.inr (.inl ?_)) (sealT_ok hbl h1 n0 n false),.of fun b hb hbs=>?_,fun i p hi=>?_,h6.size,h6.os,h6.tape,h6.out,fun b hb hn=>h6.fr b hb fun hc=>hn (hg.x b hc),fun b hb=>?_,fun i l I B hi=>?_⟩
  ·have hin:i<n0:=by
    have:=(List.getElem?_eq_some_iff.1 hi).1
    simp at this; omega
   rw [← hp i hin]; exact hi
  ·have hin:i<n0:=by
    have:=(List.getElem?_eq_some_iff.1 hi).1
    simp at this; omega
   rw [List.getElem?_map,List.getElem?_take_of_lt hin] at hi
   cases ho:objs[i]? with
   | none=>rw [ho] at hi; cases hi
   | some ob=>rw [ho] at hi; exact ⟨ob,rfl,hp i hin,by simpa using hi.symm⟩
  ·refine ⟨⟨hb.1,fun hc=>?_⟩,h6.fr b hbs fun hc=>hb.2 (hg.x b hc)⟩
   rcases h2 b (hbl' b hc) with h | h
   ·omega
   ·exact hb.2 (hg.x b h)
  ·obtain ⟨p',h10,h11⟩:=h6.le i p hi
   exact ⟨p',by rw [hp i (Nat.lt_of_lt_of_le (List.getElem?_eq_some_iff.1 hi).1 (by rw [hg.hs0.len]; exact hn0))]; exact h10,h11⟩
  ·exact (h2 b (hbl' b hb)).symm.imp (hg.x b) id
  ·have hin:i<n0:=by
    have:=(List.getElem?_eq_some_iff.1 hi).1
    simp at this; omega
   rw [hp i hin] at hi
   exact h6.gen i l I B hi
 exact ⟨vv,h7,vv,_,rfl,h9,hst⟩

theorem R_retS {objs0:List Ob} (hg:GS g objs0) {fn:Func} {k:List It} {E:Env} {objs objs1:List Ob} {av r:AV} (n0 n:Nat) (hn0:objs0.length≤n0) (hres:resAV g.ty E objs fn.results.toList=some av) (hr:sealT true n0 objs n av=r) (ho:(objs.take n0).map (mapOb (sealT false n0 objs n))=objs1) (hdf:g.dfs=[]:=by rfl):R g pf (FinS g fn r objs1) (.code .ret::k) E objs:=by
 subst hr; subst ho
 intro _ a w hs
 exact wpIn_ret (KP_ret k (finS_ok hg hdf n0 n hn0 hres hs).1)

theorem R_endS {objs0:List Ob} (hg:GS g objs0) {fn:Func} {E:Env} {objs objs1:List Ob} {av r:AV} (n0 n:Nat) (hn0:objs0.length≤n0) (hres:resAV g.ty E objs fn.results.toList=some av) (hr:sealT true n0 objs n av=r) (ho:(objs.take n0).map (mapOb (sealT false n0 objs n))=objs1) (hdf:g.dfs=[]:=by rfl):R g pf (FinS g fn r objs1) [] E objs:=by
 subst hr; subst ho
 intro _ a w hs
 exact (finS_ok hg hdf n0 n hn0 hres hs).2

theorem SCtr.of_R {P:Program} {ty:Nat→Option Ty} {Y:YP} {f:Nat} {fn:Func} {cd:Code} {args:List AV} {objs objs1:List Ob} {r:AV} (hty:TyOk P ty) (hm:P.follows .mixedOrders=true) (hf:P.funcs[f]? = some fn) (hb:fn.body=some cd)
  (hn:(fn.name == "runtime.NumGoroutine")=false) (hok:codeOk pf cd=true) (hN:args.length≤fn.ntmps) (hlen:objs.length≤objs1.length)
  (h:∀ (w:World) (S:Nat→Prop) (φ:List Phy),GS (gOfS P ty fn.ntmps w S φ Y) objs→R (gOfS P ty fn.ntmps w S φ Y) pf (FinS (gOfS P ty fn.ntmps w S φ Y) fn r objs1) [.code cd] (envOf args 0) objs):SCtr P Y f args objs r objs1:=by
 refine ⟨callable_of hf hb hn,fun S φ w vals ha hhs hbl hY hv=>?_,hlen⟩
 have hg:GS (gOfS P ty fn.ntmps w S φ Y) objs:=⟨⟨fun _=>trivial,(ha.at0 fun _ h=>h.2).keep fun _ h _=>⟨⟨h.1.1,h.2⟩,rfl⟩,rfl,rfl,hty,hm⟩,⟨rfl,rfl⟩,hhs,fun _ h=>h,hbl,hY⟩
 have hlen:=hv.length
 refine callsIn_wide.1 (callsIn_of_wp_marks (F:=Fence.wide) (n:=0) hf hb trivial ?_)
 have hs:Sat (gOfS P ty fn.ntmps w S φ Y) (envOf args 0) objs { tmps:=vals.toArray++Array.replicate (fn.ntmps - vals.toArray.size) undef,defers:=[] } w:=by
  refine ⟨φ,hhs,fun b hb=>.inr hb,fun t=>?_,by simp [gOfS]; omega,.none rfl ⟨fun _=>rfl,.nil,by simp⟩,⟨Nat.le_refl _,rfl,rfl,rfl,fun _ _ _=>rfl,fun i l I B h=>⟨B,h⟩,.refl _⟩⟩
  rw [lk_envOf]
  simp only [Nat.not_lt_zero,if_false,Nat.sub_zero]
  cases ha:args[t]? with
  | none=>simp [RV]
  | some x =>
   obtain ⟨v,h1,h2⟩:=hv.get t ha
   have htl:=(List.getElem?_eq_some_iff.1 h1).1
   simp only [Option.getD_some]
   rw [Array.getD_eq_getD_getElem?,Array.getElem?_append_left (by simpa using htl)]
   simp only [List.getElem?_toArray,h1,Option.getD_some]
   exact h2
 have hR:=RK.of_R (pf:=pf) (k:=[.code cd]) ⟨hok,trivial⟩ (h w S φ hg) (by simp) _ _ hs
 refine wpIn_mono hR ?_
 intro e a' w' hk
 cases e <;> exact hk
end
end PSL
namespace PSL
open Go Go.RowKit

structure DCtr (P:Program) (Y:YP) (f:Nat) (args:List AV) (objs:List Ob) (r:AV) (objs1:List Ob):Prop where
 call:Callable P f
 run:∀ (S:Nat→Prop) (φ:List Phy) (w:World) (vals:List Value) (u:FrameMode),AmbOk P (SS S φ) w→HS S φ objs w→(∀ b,bls φ b→S b)→(∀ (i l:Nat) (I:Nat→(Nat→Prop)→(Nat→Prop)→World→Prop) (B:Nat→Prop),φ[i]? = some (Phy.ext l I B)→YStep P Fence.wide 0 Y l I S)→RVs (SS S φ) w φ args vals →
  CallsDIn Fence.wide 0 P f vals.toArray u w fun e u' w'=>u'=u∧∃ v φ',e=.returned v∧RV (SS S φ') w' φ' r v∧Stp S φ w φ' objs1 w'
 len:objs.length≤objs1.length
section
variable {g:G} {pf:Nat→Cls}

def FinD (g:G) (fn:Func) (r:AV) (objs1:List Ob):Exit→Act→World→Prop:=fun e a w=>FinS g fn r objs1 e a w∧a.defers=[]

theorem finD_ok {objs0:List Ob} (hg:GS g objs0) (hdf:g.dfs=[]) (hm:g.mks=false) {fn:Func} {E:Env} {objs:List Ob} {av:AV} (n0 n:Nat) (hn0:objs0.length≤n0) (hres:resAV g.ty E objs fn.results.toList=some av) {a:Act} {w:World} (hs:Sat g E objs a w) :
  FinD g fn (sealT true n0 objs n av) ((objs.take n0).map (mapOb (sealT false n0 objs n))) .ret a w∧FinD g fn (sealT true n0 objs n av) ((objs.take n0).map (mapOb (sealT false n0 objs n))) .normal a w:=by
 have h:=finS_ok hg hdf n0 n hn0 hres hs
 have hd:a.defers=[]:=by
  obtain ⟨φ,h1,h2,h3,h4,h5,h6⟩:=hs
  exact (h5.only hdf).1 hm
 exact ⟨⟨h.1,hd⟩,⟨h.2,hd⟩⟩

theorem R_endD {objs0:List Ob} (hg:GS g objs0) {fn:Func} {E:Env} {objs objs1:List Ob} {av r:AV} (n0 n:Nat) (hn0:objs0.length≤n0) (hres:resAV g.ty E objs fn.results.toList=some av) (hr:sealT true n0 objs n av=r) (ho:(objs.take n0).map (mapOb (sealT false n0 objs n))=objs1) (hdf:g.dfs=[]:=by rfl) (hm:g.mks=false:=by rfl):R g pf (FinD g fn r objs1) [] E objs:=by
 subst hr; subst ho
 intro _ a w hs
 exact (finD_ok hg hdf hm n0 n hn0 hres hs).2

def gOfD (P:Program) (ty:Nat→Option Ty) (N:Nat) (w:World) (S:Nat→Prop) (φ:List Phy) (Y:YP):G:={ gOfS P ty N w S φ Y with mks:=false }

theorem DCtr.of_R {P:Program} {ty:Nat→Option Ty} {Y:YP} {f:Nat} {fn:Func} {cd:Code} {args:List AV} {objs objs1:List Ob} {r:AV} (hty:TyOk P ty) (hm:P.follows .mixedOrders=true) (hf:P.funcs[f]? = some fn) (hb:fn.body=some cd)
  (hn:(fn.name == "runtime.NumGoroutine")=false) (hok:codeOk pf cd=true) (hN:args.length≤fn.ntmps) (hlen:objs.length≤objs1.length)
  (h:∀ (w:World) (S:Nat→Prop) (φ:List Phy),GS (gOfD P ty fn.ntmps w S φ Y) objs→R (gOfD P ty fn.ntmps w S φ Y) pf (FinD (gOfD P ty fn.ntmps w S φ Y) fn r objs1) [.code cd] (envOf args 0) objs):DCtr P Y f args objs r objs1:=by
 refine ⟨callable_of hf hb hn,fun S φ w vals u ha hhs hbl hY hv=>?_,hlen⟩
 have hg:GS (gOfD P ty fn.ntmps w S φ Y) objs:=⟨⟨fun _=>trivial,(ha.at0 fun _ h=>h.2).keep fun _ h _=>⟨⟨h.1.1,h.2⟩,rfl⟩,rfl,rfl,hty,hm⟩,⟨rfl,rfl⟩,hhs,fun _ h=>h,hbl,hY⟩
 have hlen:=hv.length
 refine callsDIn_of_wp (F:=Fence.wide) (n:=0) hf hb trivial ?_
 have hs:Sat (gOfD P ty fn.ntmps w S φ Y) (envOf args 0) objs { tmps:=vals.toArray++Array.replicate (fn.ntmps - vals.toArray.size) undef,defers:=[] } w:=by
  refine ⟨φ,hhs,fun b hb=>.inr hb,fun t=>?_,by simp [gOfD,gOfS]; omega,.none rfl ⟨fun _=>rfl,.nil,by simp⟩,⟨Nat.le_refl _,rfl,rfl,rfl,fun _ _ _=>rfl,fun i l I B h=>⟨B,h⟩,.refl _⟩⟩
  rw [lk_envOf]
  simp only [Nat.not_lt_zero,if_false,Nat.sub_zero]
  cases ha:args[t]? with
  | none=>simp [RV]
  | some x =>
   obtain ⟨v,h1,h2⟩:=hv.get t ha
   have htl:=(List.getElem?_eq_some_iff.1 h1).1
   simp only [Option.getD_some]
   rw [Array.getD_eq_getD_getElem?,Array.getElem?_append_left (by simpa using htl)]
   simp only [List.getElem?_toArray,h1,Option.getD_some]
   exact h2
 have hR:=RK.of_R (pf:=pf) (k:=[.code cd]) ⟨hok,trivial⟩ (h w S φ hg) (by simp) _ _ hs
 refine wpIn_mono hR ?_
 intro e a' w' hk
 cases e with
 | normal =>
  have hk:FinD _ fn r objs1 .normal a' w':=hk
  obtain ⟨h1,h2⟩:=hk
  simp only [FinS,bodyPostM,h2,LeavesInM,LeavesIn] at h1
  exact ⟨h2,h1⟩
 | ret =>
  have hk:FinD _ fn r objs1 .ret a' w':=hk
  obtain ⟨h1,h2⟩:=hk
  simp only [FinS,bodyPostM,h2,LeavesInM,LeavesIn] at h1
  exact ⟨h2,h1⟩
 | panic chain =>
  have hk:FinD _ fn r objs1 (.panic chain) a' w':=hk
  obtain ⟨h1,h2⟩:=hk
  simp only [FinS,bodyPostM,h2,LeavesInM,LeavesIn] at h1
  obtain ⟨v,φ',h,_⟩:=h1
  cases h
 | exit i=>exact (hk:FinD _ fn r objs1 (.exit i) a' w').1.elim
 | goto l=>exact (hk:FinD _ fn r objs1 (.goto l) a' w').1.elim
 | outgrown =>
  have hk:FinD _ fn r objs1 .outgrown a' w':=hk
  obtain ⟨v,φ',h,_⟩:=hk.1
  cases h

theorem SCtr.of_RD {P:Program} {ty:Nat→Option Ty} {Y:YP} {f:Nat} {fn:Func} {cd:Code} {args:List AV} {objs objs1:List Ob} {r:AV} (hty:TyOk P ty) (hm:P.follows .mixedOrders=true) (hf:P.funcs[f]? = some fn) (hb:fn.body=some cd)
  (hn:(fn.name == "runtime.NumGoroutine")=false) (hok:codeOk pf cd=true) (hN:args.length≤fn.ntmps) (hlen:objs.length≤objs1.length)
  (h:∀ (w:World) (S:Nat→Prop) (φ:List Phy),GS (gOfD P ty fn.ntmps w S φ Y) objs→R (gOfD P ty fn.ntmps w S φ Y) pf (FinS (gOfD P ty fn.ntmps w S φ Y) fn r objs1) [.code cd] (envOf args 0) objs):SCtr P Y f args objs r objs1:=by
 refine ⟨callable_of hf hb hn,fun S φ w vals ha hhs hbl hY hv=>?_,hlen⟩
 have hg:GS (gOfD P ty fn.ntmps w S φ Y) objs:=⟨⟨fun _=>trivial,(ha.at0 fun _ h=>h.2).keep fun _ h _=>⟨⟨h.1.1,h.2⟩,rfl⟩,rfl,rfl,hty,hm⟩,⟨rfl,rfl⟩,hhs,fun _ h=>h,hbl,hY⟩
 have hlen:=hv.length
 refine callsIn_wide.1 (callsIn_of_wp_marks (F:=Fence.wide) (n:=0) hf hb trivial ?_)
 have hs:Sat (gOfD P ty fn.ntmps w S φ Y) (envOf args 0) objs { tmps:=vals.toArray++Array.replicate (fn.ntmps - vals.toArray.size) undef,defers:=[] } w:=by
  refine ⟨φ,hhs,fun b hb=>.inr hb,fun t=>?_,by simp [gOfD,gOfS]; omega,.none rfl ⟨fun _=>rfl,.nil,by simp⟩,⟨Nat.le_refl _,rfl,rfl,rfl,fun _ _ _=>rfl,fun i l I B h=>⟨B,h⟩,.refl _⟩⟩
  rw [lk_envOf]
  simp only [Nat.not_lt_zero,if_false,Nat.sub_zero]
  cases ha:args[t]? with
  | none=>simp [RV]
  | some x =>
   obtain ⟨v,h1,h2⟩:=hv.get t ha
   have htl:=(List.getElem?_eq_some_iff.1 h1).1
   simp only [Option.getD_some]
   rw [Array.getD_eq_getD_getElem?,Array.getElem?_append_left (by simpa using htl)]
   simp only [List.getElem?_toArray,h1,Option.getD_some]
   exact h2
 have hR:=RK.of_R (pf:=pf) (k:=[.code cd]) ⟨hok,trivial⟩ (h w S φ hg) (by simp) _ _ hs
 refine wpIn_mono hR ?_
 intro e a' w' hk
 cases e <;> exact hk

def swD (g:G) (l:List (Nat × List AV × List AV)):G:={ g with dfs:=l }
theorem GS.sw {objs0:List Ob} (h:GS g objs0) (l:List (Nat × List AV × List AV)):GS (swD g l) objs0:=⟨⟨h.ok.fn,h.ok.amb,h.ok.depth,h.ok.alive,h.ok.ty,h.ok.mixed⟩,h.wide,h.hs0,h.x,h.bl,h.Y⟩

def Lv (g:G) (fn:Func) (r:AV) (objs1:List Ob) (l:List (Nat × List AV × List AV)) (E:Env) (objs:List Ob):Prop :=
 ∀ (ds:List Deferred) (tmps:Array Value) (w:World),SatD (swD g l) E objs tmps [] ds w→LeavesInM g.F g.dep g.P fn tmps (fun e w'=>∃ v φ',e=.returned v∧RV (SS g.S0 φ') w' φ' r v∧Stp g.S0 g.φ0 g.w0 φ' objs1 w') ds .returning w

theorem Lv.nil {objs0:List Ob} (hg:GS g objs0) {fn:Func} {E:Env} {objs objs1:List Ob} {av r:AV} (n0 n:Nat) (hn0:objs0.length≤n0) (hres:resAV g.ty E objs fn.results.toList=some av) (hr:sealT true n0 objs n av=r) (ho:(objs.take n0).map (mapOb (sealT false n0 objs n))=objs1):Lv g fn r objs1 [] E objs:=by
 subst hr; subst ho
 intro ds tmps w hs
 obtain ⟨φ,h1,h2,h3,h4,h5,h6,h7⟩:=hs
 have:=h7.nil
 subst this
 exact (finS_ok (g:=swD g []) (hg.sw []) rfl n0 n hn0 hres (a:={ tmps:=tmps,defers:=[] }) ⟨φ,h1,h2,h3,h4,.none rfl h5,⟨h6.size,h6.os,h6.tape,h6.out,h6.fr,h6.gen,h6.le⟩⟩).1

theorem Lv.cons {objs0:List Ob} (hg:GS g objs0) {fn:Func} {E:Env} {objs objs1 objs':List Ob} {r:AV} {l:List (Nat × List AV × List AV)} {f:Nat} {fs cs:List AV} (is:List Nat) {Y:YP} {axs:List AV} {o0 o1:List Ob} {q:AV} (hc:DCtr g.P Y f axs o0 q o1) (hcc:(∃ (i l:Nat) (I:Nat→(Nat→Prop)→(Nat→Prop)→World→Prop) (B:Nat→Prop),g.φ0[i]? = some (Phy.ext l I B))→Y=g.Y)
  (hok:isOk (len objs) is=true) (hpick:pickN objs is=some (o0.map (renOb (rn is (len objs))))) (has:(fs++cs).map nrm=renL (rn is (len objs)) axs) (ho:putAll is (o1.map (renOb (rn is (len objs)))) objs=objs')
  (hr:Lv g fn r objs1 l E objs'):Lv g fn r objs1 ((f,fs,cs)::l) E objs:=by
 subst ho
 intro ds tmps w hs
 obtain ⟨φ,h1,h2,h3,h4,h5,h6,h7⟩:=hs
 cases ds with
 | nil=>simp [swD,DfOk] at h7
 | cons d ds =>
  have h7:DfOk (SS g.S0 φ) w φ ((f,fs,cs)::l) (d::ds):=h7
  simp only [DfOk] at h7
  obtain ⟨⟨va,vc,rfl,hva,hvc⟩,h8⟩:=h7
  have hall:=(hva.append hvc).mapEnt nrm Ent.nrm
  rw [has] at hall
  have hu:=hg.gup
  obtain ⟨S,φ0,gA,g1,g2,g3,g4,g5⟩:=callS_core (hg.ok.ambAt h2 ⟨h6.size,h6.os,h6.tape,h6.out,h6.fr,h6.gen,h6.le⟩) hu hg.Y is hc.len hcc hok hpick h1 h2 ⟨h6.size,h6.os,h6.tape,h6.out,h6.fr,h6.gen,h6.le⟩ hall
  have hcall:=hc.run S φ0 w _ .returning gA g1 g2 g3 g4
  simp only [LeavesInM]
  have hF:=hg.wide.1
  have hd:=hg.wide.2
  refine ⟨by simp,.inr ⟨fun h=>(by rw [hF] at h; cases h),.func f,vc.toArray,f,(va++vc).toArray,rfl,?_,fun _ _=>hg.ok.fn _,?_⟩⟩
  ·simp only [invoke]
   rw [show va.toArray++vc.toArray=(va++vc).toArray by simp]
   exact hc.call _ _
  ·rw [hF,hd]
   refine hcall.mono ?_
   rintro e u' w' ⟨rfl,v,φ1,rfl,hv,hst⟩
   obtain ⟨φ',hstp,_⟩:=g5 w' φ1 v hv hst
   simp only [settle]
   have:=hr ds tmps w' ⟨φ',hstp.hs,fun b hb=>?_,fun t=>(h3 t).mono hstp.keep hstp.le,h4,h5.stp hstp,⟨Nat.le_trans h6.size hstp.size,hstp.os.trans h6.os,hstp.tape.trans h6.tape,hstp.out.trans h6.out,fun b hb hx=>?_,fun i l I B hi=>?_,h6.le.trans hstp.le⟩,h8.mono hstp.keep hstp.le⟩
   ·rw [hF,hd] at this; exact this
   ·rcases hstp.own b hb with h | h
    ·exact h2 b h
    ·left; have:=h6.size; simp only [swD] at this ⊢; omega
   ·rw [hstp.fr b (Nat.lt_of_lt_of_le hb h6.size) fun hc=>?_]
    ·exact h6.fr b hb hx
    ·rcases h2 b hc with h | h
     ·have:b<g.w0.heap.size:=hb
      simp only [swD] at h; omega
     ·exact hx h
   ·obtain ⟨B0,h⟩:=hstp.ext i l I B hi
    exact h6.gen i l I B0 h

theorem R_retL {fn:Func} {k:List It} {E:Env} {objs objs1:List Ob} {r:AV} (hl:Lv g fn r objs1 g.dfs E objs):R g pf (FinS g fn r objs1) (.code .ret::k) E objs:=by
 intro _ a w hs
 refine wpIn_ret (KP_ret k ?_)
 obtain ⟨ds,ds2,e,hs⟩:=hs.told
 show LeavesInM _ _ _ _ _ _ a.defers _ _
 rw [e]
 exact leaves_all (fun ds2 tmps w h=>hl ds2 tmps w h) ds ds2 a.tmps w hs

theorem R_endL {fn:Func} {E:Env} {objs objs1:List Ob} {r:AV} (hl:Lv g fn r objs1 g.dfs E objs):R g pf (FinS g fn r objs1) [] E objs:=by
 intro _ a w hs
 obtain ⟨ds,ds2,e,hs⟩:=hs.told
 show LeavesInM _ _ _ _ _ _ a.defers _ _
 rw [e]
 exact leaves_all (fun ds2 tmps w h=>hl ds2 tmps w h) ds ds2 a.tmps w hs
end
end PSL
namespace PSL
open Go Go.RowKit
section
variable {g:G} {pf:Nat→Cls} {ops:Array Oper} {Fin:Exit→Act→World→Prop}

theorem R_yield {objs0:List Ob} (hgs:GS g objs0) {dst:Option Nat} {x:Operand} {args:Array Operand} {ts:Array Nat} {ty:Nat} {pos:String} {after:Array Edge} {gd:Option (Nat × Bool)}
  {rest:List Oper} {k:List It} {E:Env} {objs:List Ob} {i n:Nat} {avs:List AV}
  (hgd:guardA ops.toList E gd=some true) (hd:dstOk ⟨g.ty,g.N⟩ dst=true) (hcl:clsOf pf (.call { callee:=.value x,args:=args,argTypes:=ts })=.eff) (hx:ev E x=.yl i) (ho:nth objs i=some (.yld n))
  (has:(args.toList.map (ev E)).map nrm=avs) (hp:pureL avs=true) (hy:g.Y.ys[n]? = some avs) (hgo:n=0∨g.Y.go n=true)
  (hr:R g pf Fin (.dr ops rest::k) (putO E dst (bV (g.Y.go (n+1)))) (setN objs i (.yld (n+1)))) :
  R g pf Fin (.dr ops (⟨dst,.call { callee:=.value x,args:=args,argTypes:=ts },ty,pos,after,gd⟩::rest)::k) E objs:=by
 refine R_op ?_ hr
 show LocOp g ops _ E objs (clsOf pf (.call { callee:=.value x,args:=args,argTypes:=ts })) _ _
 rw [hcl]
 have hg:=hgs.ok
 refine ⟨fun h=>absurd rfl (h _),(fun b h hb=>by cases h; omega),fun E₁ o₁ o₁' a w he hoo hs Q=>?_⟩
 rcases hoo with ⟨h,_⟩ | ⟨_,h,_⟩ | ⟨ho1,ho2⟩
 ·cases h
 ·cases h
 subst ho1; subst ho2
 obtain ⟨φ,h1,h2,h3,h4,h5,h6⟩:=hs
 rw [wanted_of (guardA_ok hgd) he h3]
 simp only [if_true]
 refine ⟨about_ok hg _ w a,?_⟩
 have hρ:=rv_ops (o:=⟨dst,.call { callee:=.value x,args:=args,argTypes:=ts },ty,pos,after,gd⟩) he h3
 simp only [Op.operands,Call.operands] at hρ
 have hxv:=hρ x (by simp)
 rw [hx] at hxv
 simp only [RV] at hxv
 obtain ⟨l,I,B,hφ,hxv⟩:=hxv
 have hargs:RVs (SS g.S0 φ) w φ (args.toList.map (ev E)) (args.toList.map a.eval):=RVs.map _ _ _ fun y hy=>hρ y (by simp [hy])
 have hall:=hargs.mapEnt nrm Ent.nrm
 rw [has] at hall
 have hall0:=RVs.pure (φ':=[]) (Keep.refl _ _) hp hall
 have hk:=obj_at h1 hφ ho
 simp only [ObOk] at hk
 obtain ⟨B0,hg0⟩:=h6.gen i l I B hφ
 have hbB:∀ b,B b→bls φ b:=fun b hb=>⟨i,_,hφ,hb⟩
 obtain ⟨fn,tmps,assign,body,hyr,hround⟩:=hgs.Y i l I B0 hg0 n B w (SS g.S0 φ) avs _ hk.2 (fun b hb=>⟨hb.1,fun hc=>hb.2 (hbB b hc)⟩) (hg.ambAt h2 h6)
  (fun b hb=>⟨h1.up b hb,fun hc=>by have:=h1.lt b hc; omega⟩) hy hgo hall0 hp
 have hrun:(execOp a.eval ⟨dst,.call { callee:=.value x,args:=args,argTypes:=ts },ty,pos,after,gd⟩).run g.P w=.ok (.round l fn tmps assign body) w:=by
  have h7:(resolve a.eval { callee:=.value x,args:=args,argTypes:=ts } ty).run g.P w=.ok { target:=.fn (.yield l) #[],args:=(args.toList.map a.eval).toArray } w:=by
   simp only [resolve,hxv,Deferred.ofValue,Sem.run_bind,Sem.run_pure,Result.andThen_ok]
   congr 2
   apply Array.toList_inj.1; simp
  simp only [execOp,Sem.run_bind,h7,Result.andThen_ok,invoke]
  exact hyr
 rw [Oper.semAt_eq _ _ _ (by simp),hrun]
 refine ⟨fun h=>by rw [hg.depth] at h; simp at h,?_⟩
 obtain ⟨hF,hd0⟩:=hgs.wide
 rw [hF,hd0]
 refine hround.mono ?_
 rintro e w' ⟨rfl,B',hI,hsz,hos,htape,hout,hfr,hB'⟩
 have hlt:i<φ.length:=(List.getElem?_eq_some_iff.1 hφ).1
 have hst:Stp g.S0 φ w (φ.set i (.ext l I B')) (o₁.set i (.yld (n+1))) w':=by
  refine Stp.swap h1 hφ (.inr (.inr (.inr (.inl ⟨_,_,_,_,rfl,rfl⟩)))) hsz (fun c hc hn=>hfr c hc hn) (fun b hb=>hB' b hb) hos htape hout (fun hkeep _=>?_) (fun l' I' B'' he=>by cases he; exact ⟨B,rfl⟩)
  simp only [ObOk]
  refine ⟨hk.1,hk.1 _ _ _ _ _ _ (Nat.le_refl _) (fun _ _=>rfl) (fun b hb _=>⟨?_,rfl⟩) hI⟩
  refine ⟨hb.1.1,fun hc=>?_⟩
  rcases bls_set hc with ⟨j,q,hj,g1,g2⟩ | g1
  ·exact hb.1.2 ⟨j,q,g1,g2⟩
  ·exact hb.2 g1
 have hfin:=Sat.stp (v:=bV (g.Y.go (n+1))) (vv:=.bool (g.Y.go (n+1))) h2 h3 h4 h5 h6 hst (dstOk_ok hd) fun _=>by simp only [RV,bV]; exact .v _
 rw [setN_eq]
 exact hfin
end
end PSL
namespace PSL
open Go Go.RowKit

structure HC (R:Nat→Prop) (φ:List Phy) (objs:List Ob) (w:World):Prop where
 len:φ.length=objs.length
 ok:∀ (i:Nat) (ph:Phy) (ob:Ob),φ[i]? = some ph→objs[i]? = some ob→ObOk R w φ ph ob
 dist:Dist φ
 lt:∀ b,bls φ b→b<w.heap.size
theorem HS.hc {S0:Nat→Prop} {φ:List Phy} {objs:List Ob} {w:World} (h:HS S0 φ objs w):HC (SS S0 φ) φ objs w:=⟨h.len,h.ok,h.dist,h.lt⟩

theorem HC.mono {R R':Nat→Prop} {φ:List Phy} {objs:List Ob} {w w':World} (h:HC R φ objs w) (hsz:w.heap.size≤w'.heap.size) (hk:Keep R w R' w') (hb:∀ b,bls φ b→w'.heap[b]? = w.heap[b]?):HC R' φ objs w' :=
 ⟨h.len,fun i ph ob h1 h2=>(h.ok i ph ob h1 h2).mono hk (.refl _) hsz fun b hb'=>hb b ⟨i,ph,h1,hb'⟩,h.dist,fun b hb'=>Nat.lt_of_lt_of_le (h.lt b hb') hsz⟩
theorem HC.hs {S0:Nat→Prop} {φ:List Phy} {objs:List Ob} {w:World} (h:HC (SS S0 φ) φ objs w) (hup:∀ b,w.heap.size≤b→S0 b):HS S0 φ objs w:=⟨h.len,h.ok,h.dist,h.lt,hup⟩

def gRound (g:G) (l:Nat) (w:World) (R X:Nat→Prop) (φ0:List Phy):G :=
 { P:=g.P,F:=Fence.wide.inRound l,dep:=0,ty:=g.ty,N:=g.N,w0:=w,S0:=R,X0:=X,φ0:=φ0,Y:=⟨[],fun _=>true⟩,mks:=false }
theorem gRound_ok {g:G} (hg:GOk g) (l:Nat) (w:World) (R X:Nat→Prop) (φ0:List Phy) (ha:AmbOk g.P (fun b=>R b∧¬ X b∧b<w.heap.size) w):GOk (gRound g l w R X φ0):=⟨fun _=>trivial,ha,rfl,rfl,hg.ty,hg.mixed⟩

def EntL:List AV→List AV→Prop
 | [],[]=>True
 | x::l,y::m=>Ent x y∧EntL l m
 | _,_=>False

def ObIn:Ob→Ob→Prop
 | .box l,.box m=>EntL l m
 | _,.dead=>True
 | a,b=>a=b

def ObsIn:List Ob→List Ob→Prop
 | [],[]=>True
 | a::l,b::m=>ObIn a b∧ObsIn l m
 | _,_=>False

theorem EntL.rvs {S:Nat→Prop} {w:World} {φ:List Phy}:∀ {l m:List AV} {vs:List Value},EntL l m→RVs S w φ l vs→RVs S w φ m vs
 | [],[],_,_,h=>h
 | [],_::_,_,h,_=>by simp [EntL] at h
 | _::_,[],_,h,_=>by simp [EntL] at h
 | x::l,y::m,[],_,h=>by simp [RVs] at h
 | x::l,y::m,v::vs,h,hv=>by
  simp only [EntL] at h; simp only [RVs] at hv ⊢
  exact ⟨h.1 _ _ _ _ hv.1,h.2.rvs hv.2⟩

theorem ObIn.ok {S:Nat→Prop} {w:World} {φ:List Phy} {ph:Phy} {a b:Ob} (h:ObIn a b) (ho:ObOk S w φ ph a):ObOk S w φ ph b:=by
 unfold ObIn at h
 split at h
 ·cases ph <;> simp only [ObOk] at ho ⊢
  obtain ⟨cs,T,h1,h2⟩:=ho
  exact ⟨cs,T,h1,h.rvs h2⟩
 ·simp only [ObOk]
 ·subst h; exact ho

theorem ObsIn.get:∀ {l m:List Ob},ObsIn l m→l.length=m.length∧∀ (i:Nat) (b:Ob),m[i]? = some b→∃ a,l[i]? = some a∧ObIn a b
 | [],[],_=>⟨rfl,by simp⟩
 | [],_::_,h=>by simp [ObsIn] at h
 | _::_,[],h=>by simp [ObsIn] at h
 | x::l,y::m,h=>by
  simp only [ObsIn] at h
  obtain ⟨h1,h2⟩:=h.2.get
  refine ⟨by simp [h1],fun i b hb=>?_⟩
  cases i with
  | zero=>simp at hb; subst hb; exact ⟨x,rfl,h.1⟩
  | succ i=>simp at hb; simpa using h2 i b hb

theorem Sat.obs {g:G} {E:Env} {objs objs':List Ob} {a:Act} {w:World} (h:ObsIn objs objs') (hs:Sat g E objs a w):Sat g E objs' a w:=by
 obtain ⟨φ,h1,h2⟩:=hs
 obtain ⟨h3,h4⟩:=h.get
 exact ⟨φ,⟨h1.len.trans h3,fun i ph b hi hb=>by obtain ⟨a,h5,h6⟩:=h4 i b hb; exact h6.ok (h1.ok i ph a hi h5),h1.dist,h1.lt,h1.up⟩,h2⟩

theorem ObIn.refl (a:Ob):ObIn a a:=by
 cases a <;> simp only [ObIn]
 rename_i l
 induction l with
 | nil=>simp [EntL]
 | cons x l ih=>exact ⟨.refl x,ih⟩

theorem R_obs {g:G} {pf:Nat→Cls} {Fin:Exit→Act→World→Prop} {k:List It} {E:Env} {objs:List Ob} (objs':List Ob) (h:ObsIn objs objs') (ht:topCode k=true) (hr:R g pf Fin k E objs'):R g pf Fin k E objs :=
 R_ghost ht (fun _ _ hs=>hs.obs h) hr

def FinA (g:G) (E:Env) (objs:List Ob):Exit→Act→World→Prop
 | .normal,a,w=>Sat g E objs a w
 | _,_,_=>False

def FinB (g:G) (objs:List Ob) (go:Bool) (jmp:Code):Exit→Act→World→Prop
 | .normal,a,w=>go=true∧∃ E,Sat g E objs a w
 | .ret,a,w=>go=false∧jmp=.ret∧∃ E,Sat g E objs a w
 | .exit id,a,w=>go=false∧jmp=.exit id∧∃ E,Sat g E objs a w
 | _,_,_=>False
section
variable {g:G} {pf:Nat→Cls} {Fin:Exit→Act→World→Prop}

theorem R_finA {E E1:Env} {objs objs1:List Ob} (hE:EnvIn E E1) (ho:objs=objs1):R g pf (FinA g E1 objs1) [] E objs:=by
 subst ho
 exact fun _ a w hs=>hs.ent hE.eent

theorem R_finB {E:Env} {objs objs1:List Ob} {go:Bool} {jmp:Code} (hgo:go=true) (ho:objs=objs1):R g pf (FinB g objs1 go jmp) [] E objs:=by
 subst ho
 exact fun _ a w hs=>⟨hgo,E,hs⟩

theorem R_retB {k:List It} {E:Env} {objs objs1:List Ob} {go:Bool} {jmp:Code} (hgo:go=false) (hj:jmp=.ret) (ho:objs=objs1):R g pf (FinB g objs1 go jmp) (.code .ret::k) E objs:=by
 subst ho
 intro _ a w hs
 exact wpIn_ret (KP_ret k ⟨hgo,hj,E,hs⟩)

def putPs (E:Env):List Nat→List AV→Env
 | p::ps,x::xs=>putPs (put E p x) ps xs
 | _,_=>E

theorem putPs_ok {S:Nat→Prop} {w:World} {φ:List Phy}:∀ (ps:List Nat) (xs:List AV) (vs:List Value) (E:Env) (tmps:Array Value),EnvOk S w φ E { tmps:=tmps,defers:=[] }→(∀ p∈ps,p<tmps.size)→ps.length=xs.length→RVs S w φ xs vs →
  EnvOk S w φ (putPs E ps xs) { tmps:=(ps.zip vs).foldl (fun t (p:Nat × Value)=>t.setIfInBounds p.1 p.2) tmps,defers:=[] }∧((ps.zip vs).foldl (fun t (p:Nat × Value)=>t.setIfInBounds p.1 p.2) tmps).size=tmps.size
 | [],xs,vs,E,tmps,h,_,_,_=>by simpa [putPs] using h
 | p::ps,[],vs,E,tmps,h,_,hl,_=>by simp at hl
 | p::ps,x::xs,[],E,tmps,h,_,_,hv=>by simp [RVs] at hv
 | p::ps,x::xs,v::vs,E,tmps,h,hp,hl,hv=>by
  simp only [RVs] at hv
  have h1:EnvOk S w φ (put E p x) { tmps:=tmps.setIfInBounds p v,defers:=[] }:=by
   have:=put_env (d:=some p) (v:=x) (vv:=v) h rfl (fun t ht=>by cases ht; exact hp p (by simp)) (fun _=>hv.1)
   simpa [putO,Act.put] using this
  obtain ⟨h2,h3⟩:=putPs_ok ps xs vs (put E p x) (tmps.setIfInBounds p v) h1 (fun q hq=>by simpa using hp q (by simp [hq])) (by simpa using hl) hv.2
  refine ⟨by simpa [putPs] using h2,?_⟩
  simp only [List.zip_cons_cons,List.foldl_cons]
  rw [h3]; simp

theorem zip_foldl {ps:Array Nat} {vs:List Value} {tmps:Array Value}:(ps.zip vs.toArray).foldl (fun t (p,v)=>t.setIfInBounds p v) tmps=(ps.toList.zip vs).foldl (fun t (p:Nat × Value)=>t.setIfInBounds p.1 p.2) tmps:=by
 rw [← Array.foldl_toList]; simp [Array.toList_zip]

def allLt:List Nat→Nat→Bool
 | [],_=>true
 | x::l,n=>bif Nat.ble (Nat.succ x) n then allLt l n else false

theorem allLt_ok:∀ {l:List Nat} {n:Nat},allLt l n=true→∀ p∈l,p<n
 | [],_,_=>by simp
 | x::l,n,h=>by
  simp only [allLt] at h
  obtain ⟨h1,h2⟩:=bifT h
  intro p hp
  rcases List.mem_cons.1 hp with rfl | hp
  ·exact Nat.le_of_ble_eq_true h1
  ·exact allLt_ok h2 p hp

theorem R_range (hg:GOk g) (hu:GUp g) (hw:g.F=Fence.wide∧g.dep=0) (hm:g.mks=true) {gop:Operand} {ps:Array Nat} {assign body:Code} {k:List It} {E:Env} {objs:List Ob}
  {α:Type} (els:List α) (enc:α→List AV) (Y:YP) (hys:Y.ys=els.map enc) (ob:Nat→List Ob) (E1:Nat→α→Env) (ob1:Nat→α→List Ob) (m:Nat) (jmp:Code) {f:Nat} {cs cs':List AV} {r:AV} (hx:ev E gop=.clo f [] cs) (hcs:cs.map nrm=cs') (hcp:pureL cs'=true)
  (hc:SCtr g.P Y f (.yl 0::cs') [.yld 0] r [.yld m]) (h0:objs=ob 0) (hps:∀ x∈els,(enc x).length=ps.size) (hN':allLt ps.toList g.N=true)
  (hassign:∀ (n:Nat) (x:α),els[n]? = some x→(n=0∨Y.go n=true)→∀ (l:Nat) (w:World) (R0 X:Nat→Prop) (φ0:List Phy),φ0.length=(ob n).length→AmbOk g.P (fun b=>R0 b∧¬ X b∧b<w.heap.size) w →
   R (gRound g l w R0 X φ0) pf (FinA (gRound g l w R0 X φ0) (E1 n x) (ob1 n x)) [.code assign] (putPs E ps.toList (enc x)) (ob n))
  (hbody:∀ (n:Nat) (x:α),els[n]? = some x→(n=0∨Y.go n=true)→∀ (l:Nat) (w:World) (R0 X:Nat→Prop) (φ0:List Phy),φ0.length=(ob n).length→AmbOk g.P (fun b=>R0 b∧¬ X b∧b<w.heap.size) w →
   R (gRound g l w R0 X φ0) pf (FinB (gRound g l w R0 X φ0) (ob (n+1)) (Y.go (n+1)) jmp) [.code body] (E1 n x) (ob1 n x))
  (hk:(m=0∨Y.go m=true)→R g pf Fin k E (ob m)) (hnd:noDr k=true) (hjc:codeOk pf jmp=true) (hj:m≠0→Y.go m=false→R g pf Fin (.code jmp::k) E (ob m)) (hdf:g.dfs=[]:=by rfl) :
  R g pf Fin (.code (.rangeFunc gop ps assign body)::k) E objs:=by
 have hN:=allLt_ok hN'
 rintro ⟨hok,hok'⟩ a w hs
 simp only [codeOk,Bool.and_eq_true] at hok
 subst h0
 simp only [KP]
 obtain ⟨φ,h1,h2,h3,h4,h5,h6⟩:=hs
 obtain ⟨hF,hd0⟩:=hw
 have hxv:=ev_rv h3 gop
 rw [hx] at hxv
 simp only [RV] at hxv
 obtain ⟨va,vc,hxv,hva,hvc⟩:=hxv
 have hva:va=[]:=by
  cases va with
  | nil=>rfl
  | cons _ _=>simp [RVs] at hva
 subst hva
 have hvc':=hvc.mapEnt nrm Ent.nrm
 rw [hcs] at hvc'
 refine wpIn_rangeFunc fun fn hfn=>?_
 rw [hF,hd0]
 obtain ⟨rec,hrec⟩:∃ rec:LoopState→Option Code→Loop,rec=fun st pe=>{ state:=st,pending:=pe,fn,tmps:=a.tmps,params:=ps,assign,body,defers:=w.heap.size }:=⟨_,rfl⟩
 obtain ⟨W1,hW1⟩:∃ W1,(w.alloc (.deferred (some []))).alloc (.loop (rec .ready none))=W1:=⟨_,rfl⟩
 have hsz1:W1.heap.size=w.heap.size+2:=by rw [← hW1]; simp
 have hL1:W1.heap[w.heap.size+1]? = some (.loop (rec .ready none)):=by
  rw [← hW1]; have:=World.alloc_heap_new (w.alloc (.deferred (some []))) (.loop (rec .ready none)); rwa [World.size_alloc] at this
 have hD1:W1.heap[w.heap.size]? = some (.deferred (some [])):=by
  rw [← hW1]; exact (Below.heap_alloc _ _ _ (by simp)).trans (World.alloc_heap_new w _)
 have hold:∀ b,b<w.heap.size→W1.heap[b]? = w.heap[b]? := fun b hb=>by
  rw [← hW1]; exact (Below.heap_alloc _ _ _ (by simp; omega)).trans (Below.heap_alloc _ _ _ hb)
 have hblφ:∀ {b},bls φ b→b<w.heap.size:=fun {b} hb=>h1.lt b hb
 refine ⟨w.heap.size+1,[{ target:=.collected w.heap.size,args:=#[] }],W1,{ target:=.fn (.func f) vc.toArray,args:=#[.func (.yield (w.heap.size+1)) #[] #[]] },W1,f,
  #[.func (.yield (w.heap.size+1)) #[] #[]]++vc.toArray,W1,?_,?_,?_,?_,fun h=>by simp [Fence.wide] at h,?_⟩
 ·rw [← hW1,hrec]; exact run_enterLoop_outer _ _ _ _ _
 ·simp only [resolve,hxv]
  simp [go_sem]
 ·intro f' _; exact trivial
 ·simp only [invoke]; exact hc.call _ _
 -- what the outer function is,behind n rounds
 obtain ⟨st,hst⟩:∃ st:Nat→LoopState × Option Code,st=fun n=>if n=0∨Y.go n=true then (.ready,none) else (.done,some jmp):=⟨_,rfl⟩
 let I:Nat→(Nat→Prop)→(Nat→Prop)→World→Prop:=fun n B Rr W=>∃ φ',HC Rr φ' (ob n) W∧EnvOk Rr W φ' E a∧(∀ b,B b↔bls φ' b∨b=w.heap.size+1∨b=w.heap.size) ∧
  W.heap[w.heap.size]? = some (.deferred (some []))∧W.heap[w.heap.size+1]? = some (.loop (rec (st n).1 (st n).2))∧(∀ b,bls φ' b→b≠w.heap.size∧b≠w.heap.size+1) ∧
  (∀ b,bls φ' b→bls φ b∨w.heap.size≤b)∧PhsLe g.φ0 φ'∧(∀ (i l:Nat) (J:Nat→(Nat→Prop)→(Nat→Prop)→World→Prop) (B:Nat→Prop),φ'[i]? = some (.ext l J B)→∃ B0,g.φ0[i]? = some (.ext l J B0))
 have hstab:Stab I:=by
  rintro n B Rr Rr' W W' hsz hB hkp ⟨φ',e1,e2,e3,e4,e5,e6,e7,e8,e9⟩
  exact ⟨φ',e1.mono hsz hkp fun b hb=>hB b ((e3 b).2 (.inl hb)),fun t=>(e2 t).mono hkp (.refl _),e3,(hB _ ((e3 _).2 (.inr (.inr rfl)))).trans e4,(hB _ ((e3 _).2 (.inr (.inl rfl)))).trans e5,e6,e7,e8,e9⟩
 obtain ⟨B1,hB1⟩:∃ B1:Nat→Prop,B1=fun b=>bls φ b∨b=w.heap.size+1∨b=w.heap.size:=⟨_,rfl⟩
 have hblsE:∀ {B:Nat→Prop} {b:Nat},bls [Phy.ext (w.heap.size+1) I B] b↔B b:=fun {B b}=>by
  constructor
  ·rintro ⟨i,p,h7,h8⟩
   cases i with
   | zero=>simp at h7; subst h7; exact h8
   | succ i=>simp at h7
  ·exact fun h=>⟨0,_,rfl,h⟩
 have hB1S:∀ b,B1 b→g.S0 b:=fun b hb=>by
  rw [hB1] at hb
  rcases hb with hb | hb | hb
  ·exact (h2 b hb).elim (hu.up b) (hu.x b)
  ·exact h1.up b (by omega)
  ·exact h1.up b (by omega)
 have hkp1:Keep (SS g.S0 φ) w (SS g.S0 [Phy.ext (w.heap.size+1) I B1]) W1:=.of fun b hb hbs=>⟨⟨hb.1,fun hc=>by
  rw [hblsE,hB1] at hc
  rcases hc with hc | hc | hc
  ·exact hb.2 hc
  ·omega
  ·omega⟩,hold b hbs⟩
 have hI1:I 0 B1 (SS g.S0 [Phy.ext (w.heap.size+1) I B1]) W1:=by
  refine ⟨φ,h1.hc.mono (by omega) hkp1 fun b hb=>hold b (hblφ hb),fun t=>(h3 t).mono hkp1 (.refl _),fun b=>by rw [hB1],hD1,?_,fun b hb=>by have:=hblφ hb; omega,fun b hb=>.inl hb,h6.le,h6.gen⟩
  rw [hst]; simpa using hL1
 have hHS1:HS g.S0 [Phy.ext (w.heap.size+1) I B1] [.yld 0] W1:=by
  refine ⟨rfl,fun i ph ob' hi ho=>?_,fun i j p q b hi hj _ _=>?_,fun b hb=>?_,fun b hb=>h1.up b (by omega)⟩
  ·cases i with
   | zero=>simp at hi ho; subst hi; subst ho; simp only [ObOk]; exact ⟨hstab,hI1⟩
   | succ i=>simp at hi
  ·have:=(List.getElem?_eq_some_iff.1 hi).1
   have:=(List.getElem?_eq_some_iff.1 hj).1
   simp at *; omega
  ·rw [hblsE,hB1] at hb
   rcases hb with hb | hb | hb
   ·have:=hblφ hb; omega
   ·omega
   ·omega
 have hY:∀ (i l:Nat) (J:Nat→(Nat→Prop)→(Nat→Prop)→World→Prop) (B:Nat→Prop),[Phy.ext (w.heap.size+1) I B1][i]? = some (Phy.ext l J B)→YStep g.P Fence.wide 0 Y l J g.S0:=by
  intro i l J B hi
  cases i with
  | succ i=>simp at hi
  | zero =>
  simp at hi
  obtain ⟨rfl,rfl,rfl⟩:=hi
  rintro n B W Rr x0 vals ⟨φ',e1,e2,e3,e4,e5,e6,e7,e8,e9⟩ hRS hamb hup hy hgo hv hp
  rw [hys,List.getElem?_map] at hy
  obtain ⟨x,hy2,rfl⟩:=Option.map_eq_some_iff.1 hy
  replace hy:=hy2
  have hst0:st n=(.ready,none):=by rw [hst]; simp only [if_pos hgo]
  rw [hst0] at e5
  have hnb:∀ {b},Rr b→¬ bls φ' b:=fun {b} hb hc=>(hRS b hb).2 ((e3 b).2 (.inl hc))
  have hltl:w.heap.size+1<W.heap.size:=(Array.getElem?_eq_some_iff.1 e5).1
  have hvl:vals.length=ps.size:=by rw [← hv.length]; exact hps x (List.mem_of_getElem? hy)
  have hyr:=run_yield (P:=g.P) (args:=vals.toArray) e5 (by rw [hrec]; simpa using hvl)
  rw [hrec] at hyr
  refine ⟨fn,_,assign,body,hyr,roundIn_of_wpIn trivial ?_⟩
  clear hyr
  have hRid:Keep Rr W (SS Rr φ') W:=fun b hb _=>⟨⟨hb,hnb hb⟩,rfl⟩
  have hxs:RVs (SS Rr φ') W φ' (enc x) vals:=RVs.pure hRid hp hv
  have hsatA:Sat (gRound g (w.heap.size+1) W Rr (bls φ') φ') (putPs E ps.toList (enc x)) (ob n) { tmps:=(ps.zip vals.toArray).foldl (fun t (p,v)=>t.setIfInBounds p v) a.tmps,defers:=[] } W:=by
   have:=putPs_ok ps.toList (enc x) vals E a.tmps (fun t=>(e2 t).mono hRid (.refl _)) (fun p hp'=>by rw [h4]; exact hN p hp') (by rw [hps x (List.mem_of_getElem? hy)]; simp) hxs
   rw [zip_foldl]
   refine ⟨φ',(e1.mono (Nat.le_refl _) hRid fun _ _=>rfl).hs hup,fun b hb=>.inr hb,this.1,this.2.trans h4,.none rfl ⟨fun _=>rfl,.nil,by simp⟩,⟨Nat.le_refl _,rfl,rfl,rfl,fun _ _ _=>rfl,fun i l I B h=>⟨B,h⟩,.refl _⟩⟩
  have hambW:AmbOk g.P (fun b=>Rr b∧¬ bls φ' b∧b<W.heap.size) W:=hamb.at0 fun b hb=>hnb hb
  have hRA:=RK.of_R (pf:=pf) (k:=[.code assign]) ⟨hok.1,trivial⟩ (hassign n x hy hgo (w.heap.size+1) W Rr (bls φ') φ' e1.len hambW) (by simp) _ _ hsatA
  simp only [KP] at hRA
  refine wpIn_mono hRA fun e a1 w1 hq=>?_
  cases e <;> try exact hq.elim
  -- the assignments are done
  obtain ⟨φa,f1,f2,f3,f4,f5,f6⟩:Sat (gRound g (w.heap.size+1) W Rr (bls φ') φ') (E1 n x) (ob1 n x) a1 w1:=hq
  have hsame1:∀ b,b<W.heap.size→¬ bls φ' b→w1.heap[b]? = W.heap[b]? := f6.fr
  have hszW1:W.heap.size≤w1.heap.size:=f6.size
  have hl1:=(hsame1 _ hltl fun hc=>(e6 _ hc).2 rfl).trans e5
  have hD1':=(hsame1 _ (by omega) fun hc=>(e6 _ hc).1 rfl).trans e4
  have hba:∀ b,bls φa b→bls φ' b∨W.heap.size≤b:=fun b hb=>(f2 b hb).symm
  have hbaN:∀ b,bls φa b→b≠w.heap.size∧b≠w.heap.size+1:=fun b hb=>(hba b hb).elim (e6 b) fun h=>by omega
  refine ⟨_,run_beginRound hl1 (by rw [hrec]),?_⟩
  obtain ⟨w2,hw2⟩:∃ w2,w2=w1.putObj (w.heap.size+1) (.loop { rec .ready none with state:=.busy }):=⟨_,rfl⟩
  rw [← hw2]
  have hsz2:w2.heap.size=w1.heap.size:=by rw [hw2]; simp
  have hl2:w2.heap[w.heap.size+1]? = some (.loop { rec .ready none with state:=.busy }):=by rw [hw2]; exact World.putObj_heap_same (by omega)
  have hoth2:∀ b,b≠w.heap.size+1→w2.heap[b]? = w1.heap[b]? := fun b hb=>by rw [hw2]; exact World.putObj_heap_other hb
  have hds:a1.defers=[]:=(f5.only rfl).1 rfl
  have hsatB:Sat (gRound g (w.heap.size+1) w2 Rr (bls φa) φ') (E1 n x) (ob1 n x) a1 w2:=by
   refine ⟨φa,?_,fun b hb=>.inr hb,fun t=>?_,f4,.none rfl ⟨fun _=>hds,by rw [hds]; exact .nil,by rw [hds]; simp⟩,⟨Nat.le_refl _,rfl,rfl,rfl,fun _ _ _=>rfl,f6.gen,f6.le⟩⟩
   ·rw [hw2]; exact HS.shut f1 hl1 (fun h=>h) fun hc=>(hbaN _ hc).2 rfl
   ·rw [hw2]; exact (f3 t).mono (keep_shut hl1 (fun h=>h)) (.refl _)
  have hamb2:AmbOk g.P (fun b=>Rr b∧¬ bls φa b∧b<w2.heap.size) w2:=hambW.keep fun b hb _=>by
   have h7:b≠w.heap.size+1:=fun e=>(hRS b hb.1).2 ((e3 b).2 (.inr (.inl e)))
   exact ⟨⟨hb.1,fun hc=>(hba b hc).elim hb.2.1 fun h=>by have:=hb.2.2; omega,by have:=hb.2.2; omega⟩,(hoth2 b h7).trans (hsame1 b hb.2.2 hb.2.1)⟩
  have hRB:=RK.of_R (pf:=pf) (k:=[.code body]) ⟨hok.2,trivial⟩ (hbody n x hy hgo (w.heap.size+1) w2 Rr (bls φa) φ' e1.len hamb2) (by simp) _ _ hsatB
  simp only [KP] at hRB
  refine wpIn_mono hRB fun e a3 w3 hq=>?_
  -- the round's end,in whichever way
  have fin:∀ (jump:Option Code),(st (n+1))=(if jump.isNone then .ready else .done,jump)→(Y.go (n+1)=jump.isNone)→(∃ E',Sat (gRound g (w.heap.size+1) w2 Rr (bls φa) φ') E' (ob (n+1)) a3 w3) →
    ∃ v w',(Instr.endRound (w.heap.size+1) jump).run g.P w3=.ok v w'∧(Ending.returned v=.returned (.bool (Y.go (n+1)))∧∃ B',I (n+1) B' (fun b=>Rr b∧¬ B' b) w'∧W.heap.size≤w'.heap.size∧w'.os=W.os∧w'.tape=W.tape∧w'.output=W.output ∧
     (∀ b,b<W.heap.size→¬ B b→w'.heap[b]? = W.heap[b]?)∧(∀ b,B' b→B b∨(W.heap.size≤b∧b<w'.heap.size))):=by
   rintro jump hstj hgoj ⟨E',φ3,g1,g2,g3,g4,g5,g6⟩
   have hsz3:w2.heap.size≤w3.heap.size:=g6.size
   have hb3:∀ b,bls φ3 b→bls φ' b∨W.heap.size≤b:=fun b hb=>by
    rcases g2 b hb with h | h
    ·have:w2.heap.size≤b:=h
     right; omega
    ·exact hba b h
   have hb3N:∀ b,bls φ3 b→b≠w.heap.size∧b≠w.heap.size+1:=fun b hb=>(hb3 b hb).elim (e6 b) fun h=>by omega
   have hsame3:∀ b,b<w2.heap.size→¬ bls φa b→w3.heap[b]? = w2.heap[b]? := g6.fr
   have hl3:=(hsame3 _ (by omega) fun hc=>(hbaN _ hc).2 rfl).trans hl2
   have hD3:w3.heap[w.heap.size]? = some (.deferred (some [])):=((hsame3 _ (by omega) fun hc=>(hbaN _ hc).1 rfl).trans (hoth2 _ (by omega))).trans hD1'
   obtain ⟨w4,hw4⟩:∃ w4,w4=w3.putObj (w.heap.size+1) (.loop (rec (st (n+1)).1 (st (n+1)).2)):=⟨_,rfl⟩
   have hoth4:∀ b,b≠w.heap.size+1→w4.heap[b]? = w3.heap[b]? := fun b hb=>by rw [hw4]; exact World.putObj_heap_other hb
   have hsz4:w4.heap.size=w3.heap.size:=by rw [hw4]; simp
   have hend:=run_endRound (P:=g.P) jump hl3
   refine ⟨_,w4,?_,by rw [hgoj],fun b=>bls φ3 b∨b=w.heap.size+1∨b=w.heap.size,?_,by omega,?_,?_,?_,fun b hb hB=>?_,fun b hb=>?_⟩
   ·rw [hend,hw4,hstj]; cases jump <;> simp [hrec]
   ·have hsameR:∀ b,b<W.heap.size→¬ bls φ' b→b≠w.heap.size+1→w4.heap[b]? = W.heap[b]? := fun b hb h7 h8=>by
     have hna:¬ bls φa b:=fun hc=>(hba b hc).elim h7 fun h=>by omega
     exact (((hoth4 b h8).trans (hsame3 b (by omega) hna)).trans (hoth2 b h8)).trans (hsame1 b hb h7)
    have hkR:Keep Rr W (fun b=>Rr b∧¬ (bls φ3 b∨b=w.heap.size+1∨b=w.heap.size)) w4:=.of fun b hb hbs=>by
     have hnB:¬ B b:=(hRS b hb).2
     have h7:¬ bls φ' b:=hnb hb
     have h8:b≠w.heap.size+1:=fun e=>hnB ((e3 b).2 (.inr (.inl e)))
     have h9:b≠w.heap.size:=fun e=>hnB ((e3 b).2 (.inr (.inr e)))
     refine ⟨⟨hb,fun hc=>?_⟩,hsameR b hbs h7 h8⟩
     rcases hc with hc | hc | hc
     ·exact (hb3 b hc).elim h7 fun h=>by omega
     ·exact h8 hc
     ·exact h9 hc
    have hkS:Keep (SS Rr φ3) w3 (fun b=>Rr b∧¬ (bls φ3 b∨b=w.heap.size+1∨b=w.heap.size)) w4:=fun b hb _=>by
     have hnB:¬ B b:=(hRS b hb.1).2
     have h8:b≠w.heap.size+1:=fun e=>hnB ((e3 b).2 (.inr (.inl e)))
     have h9:b≠w.heap.size:=fun e=>hnB ((e3 b).2 (.inr (.inr e)))
     exact ⟨⟨hb.1,fun hc=>by
      rcases hc with hc | hc | hc
      ·exact hb.2 hc
      ·exact h8 hc
      ·exact h9 hc⟩,hoth4 b h8⟩
    refine ⟨φ3,g1.hc.mono (by omega) hkS fun b hb=>hoth4 b (hb3N b hb).2,fun t=>(e2 t).mono hkR g6.le,fun b=>Iff.rfl,(hoth4 _ (by omega)).trans hD3,by rw [hw4]; exact World.putObj_heap_same (by omega),hb3N,fun b hb=>?_,e8.trans g6.le,fun i l J B' hi=>?_⟩
    ·exact (hb3 b hb).elim (e7 b) fun h=>.inr (by omega)
    ·obtain ⟨B0,h7⟩:=g6.gen i l J B' hi
     exact e9 i l J B0 h7
   ·rw [hw4]; exact ((g6.os).trans (by rw [show (gRound g (w.heap.size+1) w2 Rr (bls φa) φ').w0=w2 from rfl,hw2]; exact f6.os))
   ·rw [hw4]; exact ((g6.tape).trans (by rw [show (gRound g (w.heap.size+1) w2 Rr (bls φa) φ').w0=w2 from rfl,hw2]; exact f6.tape))
   ·rw [hw4]; exact ((g6.out).trans (by rw [show (gRound g (w.heap.size+1) w2 Rr (bls φa) φ').w0=w2 from rfl,hw2]; exact f6.out))
   ·have h7:¬ bls φ' b:=fun hc=>hB ((e3 b).2 (.inl hc))
    have h8:b≠w.heap.size+1:=fun e=>hB ((e3 b).2 (.inr (.inl e)))
    have hna:¬ bls φa b:=fun hc=>(hba b hc).elim h7 fun h=>by omega
    exact (((hoth4 b h8).trans (hsame3 b (by omega) hna)).trans (hoth2 b h8)).trans (hsame1 b hb h7)
   ·rcases hb with hb | hb | hb
    ·rcases hb3 b hb with h7 | h7
     ·exact .inl ((e3 b).2 (.inl h7))
     ·exact .inr ⟨h7,by have:=g1.lt b hb; omega⟩
    ·exact .inl ((e3 b).2 (.inr (.inl hb)))
    ·exact .inl ((e3 b).2 (.inr (.inr hb)))
  cases e with
  | normal =>
   obtain ⟨hgo1,hsat⟩:Y.go (n+1)=true∧_:=hq
   exact fin none (by rw [hst]; simp [hgo1]) (by rw [hgo1]; rfl) hsat
  | ret =>
   obtain ⟨hgo1,hj,hsat⟩:Y.go (n+1)=false∧_:=hq
   exact fin (some .ret) (by rw [hst]; simp [hgo1,hj]) (by rw [hgo1]; rfl) hsat
  | exit id =>
   obtain ⟨hgo1,hj,hsat⟩:Y.go (n+1)=false∧_:=hq
   exact fin (some (.exit id)) (by rw [hst]; simp [hgo1,hj]) (by rw [hgo1]; rfl) hsat
  | goto t=>exact hq.elim
  | panic ch=>exact hq.elim
  | outgrown=>exact hq.elim
 have hargs:RVs (SS g.S0 [Phy.ext (w.heap.size+1) I B1]) W1 [Phy.ext (w.heap.size+1) I B1] (.yl 0::cs') (.func (.yield (w.heap.size+1)) #[] #[]::vc):=by
  simp only [RVs]
  exact ⟨by simp only [RV]; exact ⟨_,I,B1,rfl,rfl⟩,RVs.pure hkp1 hcp hvc'⟩
 have hcall:=hc.run g.S0 [Phy.ext (w.heap.size+1) I B1] W1 _ ((hg.ambAt h2 h6).keep hkp1) hHS1 (fun b hb=>hB1S b (hblsE.1 hb)) hY hargs
 rw [show (#[Value.func (.yield (w.heap.size+1)) #[] #[]]++vc.toArray)=(Value.func (.yield (w.heap.size+1)) #[] #[]::vc).toArray from by simp]
 refine (callsIn_wide.2 hcall).mono ?_
 rintro e W2 ⟨v,φ1,rfl,_,hstp⟩
 -- behind the iterator
 obtain ⟨p',hp1,hp2⟩:=hstp.le 0 _ rfl
 obtain ⟨B2,hp1⟩:∃ B2,φ1[0]? = some (.ext (w.heap.size+1) I B2):=by
  rcases hp2 with rfl | ⟨_,_,_,_,_,_,_,_,e,_⟩ | ⟨_,_,_,_,e,_⟩ | ⟨l',I',B',B'',e,rfl⟩ | ⟨_,_,e,_⟩
  ·exact ⟨_,hp1⟩
  ·cases e
  ·cases e
  ·cases e; exact ⟨_,hp1⟩
  ·cases e
 have hk2:=hstp.hs.ok 0 _ _ hp1 rfl
 simp only [ObOk] at hk2
 obtain ⟨_,φ',e1,e2,e3,e4,e5,e6,e7,e8,e9⟩:=hk2
 have hltl:w.heap.size+1<W2.heap.size:=(Array.getElem?_eq_some_iff.1 e5).1
 have hbB2:∀ b,B2 b→bls φ1 b:=fun b hb=>⟨0,_,hp1,hb⟩
 have hend:=run_endLoop (P:=g.P) e5 (by rw [hrec,hst]; simp only; split <;> simp)
 obtain ⟨W3,hW3⟩:∃ W3,W3=W2.putObj (w.heap.size+1) (.loop { rec (st m).1 (st m).2 with state:=.exhausted }):=⟨_,rfl⟩
 have hoth:∀ b,b≠w.heap.size+1→W3.heap[b]? = W2.heap[b]? := fun b hb=>by rw [hW3]; exact World.putObj_heap_other hb
 have hsz3:W3.heap.size=W2.heap.size:=by rw [hW3]; simp
 have hszW:W1.heap.size≤W2.heap.size:=hstp.size
 have hkF:Keep (SS g.S0 φ1) W2 (SS g.S0 φ') W3:=fun b hb _=>by
  have hnB:¬ B2 b:=fun hc=>hb.2 (hbB2 b hc)
  exact ⟨⟨hb.1,fun hc=>hnB ((e3 b).2 (.inl hc))⟩,hoth b fun e=>hnB ((e3 b).2 (.inr (.inl e)))⟩
 have hsameO:∀ b,b<w.heap.size→¬ bls φ b→W3.heap[b]? = w.heap[b]? := fun b hb hn=>by
  refine ((hoth b (by omega)).trans (hstp.fr b (by omega) fun hc=>?_)).trans (hold b hb)
  rw [hblsE,hB1] at hc
  rcases hc with hc | hc | hc
  ·exact hn hc
  ·omega
  ·omega
 have h5:=h5.only hdf
 have hsat:Sat g E (ob m) { a with defers:={ target:=.collected w.heap.size,args:=#[] }::a.defers } W3:=by
  refine ⟨φ',(e1.mono (by omega) hkF fun b hb=>hoth b (e6 b hb).2).hs fun b hb=>h1.up b (by omega),fun b hb=>?_,fun t=>?_,h4,.none hdf ⟨fun h=>(by rw [hm] at h; cases h),?_,fun d hd=>?_⟩,⟨?_,?_,?_,?_,fun b hb hx=>?_,e9,e8⟩⟩
  ·rcases e7 b hb with h | h
   ·exact h2 b h
   ·left; have:=h6.size; omega
  ·have:=(e2 t).mono hkF (.refl φ')
   exact this
  ·refine List.nodup_cons.2 ⟨fun hc=>?_,h5.2.1⟩
   obtain ⟨D',h7,_,_,h8⟩:=h5.2.2 _ hc
   simp only [Deferred.mk.injEq,Target.collected.injEq,and_true] at h7
   have:=(Array.getElem?_eq_some_iff.1 h8).1
   omega
  ·rcases List.mem_cons.1 hd with rfl | hd
   ·exact ⟨_,rfl,h6.size,fun hc=>(e6 _ hc).1 rfl,(hoth _ (by omega)).trans e4⟩
   ·obtain ⟨D',h7,h8,h9,h10⟩:=h5.2.2 d hd
    have hDl:=(Array.getElem?_eq_some_iff.1 h10).1
    exact ⟨D',h7,h8,fun hc=>(e7 _ hc).elim h9 fun h=>by omega,(hsameO D' hDl h9).trans h10⟩
  ·have:=h6.size; omega
  ·rw [hW3]; exact (hstp.os.trans (by rw [← hW1]; rfl)).trans h6.os
  ·rw [hW3]; exact (hstp.tape.trans (by rw [← hW1]; rfl)).trans h6.tape
  ·rw [hW3]; exact (hstp.out.trans (by rw [← hW1]; rfl)).trans h6.out
  ·have hbw:b<w.heap.size:=Nat.lt_of_lt_of_le hb h6.size
   rw [hsameO b hbw fun hc=>(h2 b hc).elim (fun h=>by omega) hx]
   exact h6.fr b hb hx
 refine ⟨(st m).2,W3,by rw [hend,hrec] at *; rw [hW3],?_⟩
 by_cases hgo:m=0∨Y.go m=true
 ·have:(st m).2=none:=by rw [hst]; simp only [if_pos hgo]
  rw [this]
  exact RK.of_R (pf:=pf) (k:=k) hok' (hk hgo) (noDr_head hnd) _ _ hsat
 ·have:(st m).2=some jmp:=by rw [hst]; simp only [if_neg hgo]
  rw [this]
  have hm0:m≠0:=fun e=>hgo (.inl e)
  have hgf:Y.go m=false:=by
   cases h:Y.go m
   ·rfl
   ·exact absurd (.inr h) hgo
  have hR:=RK.of_R (pf:=pf) (k:=.code jmp::k) ⟨hjc,hok'⟩ (hj hm0 hgf) (by simp) _ _ hsat
  simp only [KP,hF,hd0] at hR
  exact hR
end
end PSL
namespace PSL
open Go Go.RowKit Go.MapKept

def findA (kd:TypeDesc) (k:Value):List (Value × AV)→Nat→Option (Option (Nat × AV))
 | [],_=>some none
 | e::es,i=>match Instr.sameNow kd k e.1 with
  | some true=>some (some (i,e.2))
  | some false=>findA kd k es (i+1)
  | none=>none

theorem findA_ok {S:Nat→Prop} {w:World} {φ:List Phy} {kd:TypeDesc} {k:Value}:∀ {es:List (Value × AV)} {ents:List MapEntry} {i:Nat} {r:Option (Nat × AV)},EntsOk S w φ es ents→findA kd k es i=some r →
  match r with
  | none=>Instr.findNow kd k ents i=some none
  | some (j,x)=>∃ v,Instr.findNow kd k ents i=some (some (j,v))∧RV S w φ x v∧i≤j∧j<i+es.length∧(∃ e,ents[j - i]? = some e∧Instr.sameNow kd k e.key=some true)
 | [],ents,i,r,h,hf=>by
  simp only [findA,Option.some.injEq] at hf; subst hf
  cases ents with
  | nil=>rfl
  | cons _ _=>have:=h.1; simp at this
 | (k',x)::es,ents,i,r,h,hf=>by
  cases ents with
  | nil=>have:=h.1; simp at this
  | cons e ents =>
   obtain ⟨h1,h2⟩:=h
   simp only [List.map_cons,List.cons.injEq] at h1
   obtain ⟨rfl,h1⟩:=h1
   simp only [List.map_cons,RVs] at h2
   simp only [findA] at hf
   split at hf
   ·rename_i hs
    simp only [Option.some.injEq] at hf; subst hf
    exact ⟨e.val,by simp only [Instr.findNow,hs],h2.1,Nat.le_refl _,by simp,e,by simp,hs⟩
   ·rename_i hs
    have:=findA_ok (i:=i+1) ⟨h1,h2.2⟩ hf
    cases r with
    | none=>simp only [Instr.findNow,hs]; exact this
    | some p =>
     obtain ⟨j,y⟩:=p
     obtain ⟨v,g1,g2,g3,g4,e',g5,g6⟩:=this
     refine ⟨v,by simp only [Instr.findNow,hs]; exact g1,g2,by omega,by simp; omega,e',?_,g6⟩
     rw [show j - i=(j - (i+1))+1 by omega,List.getElem?_cons_succ]; exact g5
   ·cases hf
section
variable {g:G} {pf:Nat→Cls} {ops:Array Oper} {Fin:Exit→Act→World→Prop}

theorem R_makeMap (hg:GOk g) {dst:Option Nat} {T:Nat} {ty:Nat} {pos:String} {after:Array Edge} {gd:Option (Nat × Bool)} {rest:List Oper} {k:List It} {E:Env} {objs:List Ob}
  (hgd:guardA ops.toList E gd=some true) (hd:dstOk ⟨g.ty,g.N⟩ dst=true)
  (hr:R g pf Fin (.dr ops rest::k) (putO E dst (.mp (len objs))) (objs++[.map []])):R g pf Fin (.dr ops (⟨dst,.makeMap T none,ty,pos,after,gd⟩::rest)::k) E objs:=by
 refine R_op (LocOp.turning hg (.add _ _) hgd hd (by simp) fun φ a w hρ hs=>?_) hr
 refine ⟨.value (.map (some w.heap.size)),.map (some w.heap.size),w.alloc (.map #[] 0),φ++[.blk w.heap.size],?_,.inl rfl,?_,?_⟩
 ·simp [execOp,Instr.makeMap,run_newObj]
 ·simp only [RV]; exact ⟨w.heap.size,by rw [len_eq,← hs.len]; simp,rfl⟩
 ·refine Stp.new hs (fun b hb=>by simp only [Phy.bl] at hb; exact hb.symm) ?_
  simp only [ObOk]
  exact ⟨#[],0,heap_alloc_new _ _,by simp [EntsOk],by simp [RVs]⟩

def lookA (ok:Bool) (z:AV):Option (Nat × AV)→AV
 | some (_,v)=>if ok then .tup [v,bV true] else v
 | none=>if ok then .tup [z,bV false] else z

theorem R_lookup (hg:GOk g) {dst:Option Nat} {T:Nat} {x y:Operand} {ok:Bool} {ty:Nat} {pos:String} {after:Array Edge} {gd:Option (Nat × Bool)} {rest:List Oper} {k:List It} {E:Env} {objs:List Ob}
  {i q by_ kt et:Nat} {z:List Value} {es:List (Value × AV)} {kv zv:Value} {kd:TypeDesc} {r:Option (Nat × AV)}
  (hgd:guardA ops.toList E gd=some true) (hd:dstOk ⟨g.ty,g.N⟩ dst=true) (hx:ev E x=.mp i) (ho:nth objs i=some (.map es)) (hy:ev E y=.d (.v kv)) (hT:g.ty T=some ⟨q,by_,z,.map kt et⟩)
  (hkt:g.P.underlying kt=some kd) (hkey:IsKey kd kv) (hf:findA kd kv es 0=some r) (hz:(g.P.info? et).bind (·.zero)=some zv)
  (hr:R g pf Fin (.dr ops rest::k) (putO E dst (lookA ok (cstV zv) r)) objs):R g pf Fin (.dr ops (⟨dst,.lookup T x y ok,ty,pos,after,gd⟩::rest)::k) E objs:=by
 refine R_op (LocOp.lookingM hg 1 hgd hd (by simp) fun φ a w objs₁ hgr hρ hs=>?_) hr
 simp only [Op.operands] at hρ
 have hxv:=hρ x (by simp)
 rw [hx] at hxv
 have hyv:=hρ y (by simp)
 rw [hy] at hyv
 simp only [RV] at hxv hyv
 obtain ⟨b,hb,hxv⟩:=hxv
 generalize hvy:a.eval y=vy at hyv
 cases hyv
 have ho:nth objs₁ i=some (.map es):=by
  rw [nth_eq] at ho ⊢
  exact Gr.same hgr ho (by rw [← hs.len]; exact (List.getElem?_eq_some_iff.1 hb).1) (by simp [Ob.lvl])
 have hk:=obj_at hs hb ho
 simp only [ObOk] at hk
 obtain ⟨ents,clk,hheap,hents⟩:=hk
 have hT':g.P.underlying T=some (.map kt et):=by have:=(hg.ty _ _ hT).sh; simpa only [ShFact] using this
 have hzero:(zeroValue et).run g.P w=.ok zv w:=by
  obtain ⟨inf,h1,h2⟩:=Option.bind_eq_some_iff.1 hz
  simp [zeroValue,typeInfo,h1,h2]
 have hzR:RV (SS g.S0 φ) w φ (cstV zv) zv:=rv_restr (l:=[]) (E:=[]) (E₁:=[]) (a:={ tmps:=#[],defers:=[] }) (by simp) (fun t=>by simp [lk,RV]) (.const zv)
 have hfind:=findA_ok hents hf
 cases r with
 | none =>
  simp only at hfind
  refine out_val hs (vv:=if ok then .tuple #[zv,.bool false] else zv) ?_ ?_
  ·simp [execOp,Instr.lookup,run_underlying hT',hxv,run_getObj_map hheap,hvy,run_checkKey hkt hkey,run_findKey hkt hfind,hzero]
  ·simp only [lookA]
   cases ok
   ·simpa using hzR
   ·simp only [if_true,RV]
    exact ⟨[zv,.bool false],rfl,by simp only [RVs,RV,bV,and_true]; exact ⟨hzR,.v _⟩⟩
 | some p =>
  obtain ⟨j,v⟩:=p
  obtain ⟨vv,h1,h2,_⟩:=hfind
  refine out_val hs (vv:=if ok then .tuple #[vv,.bool true] else vv) ?_ ?_
  ·simp [execOp,Instr.lookup,run_underlying hT',hxv,run_getObj_map hheap,hvy,run_checkKey hkt hkey,run_findKey hkt h1]
  ·simp only [lookA]
   cases ok
   ·simpa using h2
   ·simp only [if_true,RV]
    exact ⟨[vv,.bool true],rfl,by simp only [RVs,RV,bV,and_true]; exact ⟨h2,.v _⟩⟩

theorem grow_map {n0:Nat} {objs:List Ob} {i:Nat} {es es':List (Value × AV)} (ho:nth objs i=some (.map es)):Gr n0 2 objs (setN objs i (.map es')):=fun j x hj=>by
 rw [nth_eq] at ho
 rw [setN_eq]
 by_cases e:j=i
 ·subst e
  rw [ho] at hj; cases hj
  exact ⟨_,List.getElem?_set_self (List.getElem?_eq_some_iff.1 ho).1,.inr ⟨.inl ⟨by omega,Nat.le_refl _⟩,.inl ⟨by omega,Nat.le_refl _⟩⟩⟩
 ·exact ⟨x,by rw [List.getElem?_set_ne (fun h=>e h.symm)]; exact hj,.inl rfl⟩

theorem R_mapAdd (hg:GOk g) {dst:Option Nat} {T:Nat} {x y v:Operand} {ty:Nat} {pos:String} {after:Array Edge} {gd:Option (Nat × Bool)} {rest:List Oper} {k:List It} {E:Env} {objs:List Ob}
  {i q by_ kt et:Nat} {z:List Value} {es:List (Value × AV)} {kv:Value} {kd:TypeDesc}
  (hgd:guardA ops.toList E gd=some true) (hd:dstOk ⟨g.ty,g.N⟩ dst=true) (hx:ev E x=.mp i) (ho:nth objs i=some (.map es)) (hy:ev E y=.d (.v kv)) (hT:g.ty T=some ⟨q,by_,z,.map kt et⟩)
  (hkt:g.P.underlying kt=some kd) (hkey:IsKey kd kv) (hf:findA kd kv es 0=some none)
  (hr:R g pf Fin (.dr ops rest::k) (putO E dst .any) (setN objs i (.map (es++[(kv,ev E v)])))):R g pf Fin (.dr ops (⟨dst,.mapUpdate T x y v,ty,pos,after,gd⟩::rest)::k) E objs:=by
 refine R_op (LocOp.turning hg (grow_map ho) hgd hd (by simp) fun φ a w hρ hs=>?_) hr
 simp only [Op.operands] at hρ
 have hxv:=hρ x (by simp)
 rw [hx] at hxv
 have hyv:=hρ y (by simp)
 rw [hy] at hyv
 have hvv:=hρ v (by simp)
 simp only [RV] at hxv hyv
 obtain ⟨b,hb,hxv⟩:=hxv
 generalize hvy:a.eval y=vy at hyv
 cases hyv
 have hk:=obj_at hs hb ho
 simp only [ObOk] at hk
 obtain ⟨ents,clk,hheap,hents⟩:=hk
 have hT':g.P.underlying T=some (.map kt et):=by have:=(hg.ty _ _ hT).sh; simpa only [ShFact] using this
 have hfind:=findA_ok hents hf
 simp only at hfind
 have hset:=heap_set (o':=.map (ents.push { key:=kv,val:=a.eval v,born:=clk }) (clk+1)) hheap
 rw [setN_eq]
 refine ⟨.skip,undef,{ w with heap:=w.heap.setIfInBounds b (.map (ents.push { key:=kv,val:=a.eval v,born:=clk }) (clk+1)) },φ.set i (.blk b),?_,.inr ⟨rfl,rfl⟩,by simp [RV],?_⟩
 ·simp [execOp,Instr.mapUpdate,run_underlying hT',hxv,run_getObj_map hheap,hvy,run_checkKey hkt hkey,run_findKey hkt hfind,run_setObj_map _ hheap]
 ·refine Stp.swap hs hb (.inl rfl) (by simp) (fun c _ hc=>hset.2 c fun e=>hc (by rw [e]; rfl)) (fun b' hb=>.inl hb) rfl rfl rfl fun hkeep hle=>?_
  simp only [ObOk]
  refine ⟨_,_,hset.1,?_,?_⟩
  ·simp [hents.1]
  ·have:=(hents.2.mono hkeep hle).append (l':=[ev E v]) (vs':=[a.eval v]) (by simp only [RVs,and_true]; exact hvv.mono hkeep hle)
   simpa using this
end
def imap (l:List (Int × AV)):List (Value × AV):=l.map fun p=>(.int .i64 p.1,p.2)
end PSL
namespace PSL
open Go Go.RowKit Go.MapKept

def getI:List (Int × AV)→Int→Option AV
 | [],_=>none
 | p::r,n=>if p.1=n then some p.2 else getI r n

theorem findA_getI {k':IntKind} {n:Int}:∀ {l:List (Int × AV)} {i:Nat},∃ r,findA (.int k') (.int .i64 n) (imap l) i=some r∧r.map (·.2)=getI l n
 | [],i=>⟨none,rfl,rfl⟩
 | p::l,i=>by
  simp only [getI]
  by_cases h:p.1=n
  ·have h1:(n==p.1)=true:=by simp [h]
   refine ⟨some (i,p.2),?_,by simp [h]⟩
   simp only [imap,List.map_cons,findA,Instr.sameNow,if_true,h1]
  ·have h1:(n==p.1)=false:=by simp; exact fun e=>h e.symm
   obtain ⟨r,h2,h3⟩:=findA_getI (k':=k') (n:=n) (l:=l) (i:=i+1)
   refine ⟨r,?_,by rw [if_neg h]; exact h3⟩
   simp only [imap,List.map_cons,findA,Instr.sameNow,if_true,h1]
   exact h2

def lookI' (ok:Bool) (z:AV):Option AV→AV
 | some v=>if ok then .tup [v,bV true] else v
 | none=>if ok then .tup [z,bV false] else z
section
variable {g:G} {pf:Nat→Cls} {ops:Array Oper} {Fin:Exit→Act→World→Prop}

theorem R_lookupI (hg:GOk g) {dst:Option Nat} {T:Nat} {x y:Operand} {ok:Bool} {ty:Nat} {pos:String} {after:Array Edge} {gd:Option (Nat × Bool)} {rest:List Oper} {k:List It} {E:Env} {objs:List Ob}
  {i q by_ q' by' kt et:Nat} {z z':List Value} {n:Int} {zv:Value} (l:List (Int × AV))
  (hgd:guardA ops.toList E gd=some true) (hd:dstOk ⟨g.ty,g.N⟩ dst=true) (hx:ev E x=.mp i) (ho:nth objs i=some (.map (imap l))) (hy:ev E y=.d (.v (.int .i64 n))) (hT:g.ty T=some ⟨q,by_,z,.map kt et⟩)
  (hkt:g.ty kt=some ⟨q',by',z',.int .i64⟩) (hz:(g.P.info? et).bind (·.zero)=some zv) {v:AV} (hv:lookI' ok (cstV zv) (getI l n)=v)
  (hr:R g pf Fin (.dr ops rest::k) (putO E dst v) objs):R g pf Fin (.dr ops (⟨dst,.lookup T x y ok,ty,pos,after,gd⟩::rest)::k) E objs:=by
 subst hv
 have hu:=(hg.ty _ _ hkt).sh
 simp only [ShFact] at hu
 obtain ⟨r,h1,h2⟩:=findA_getI (k':=.i64) (n:=n) (l:=l) (i:=0)
 refine R_lookup hg hgd hd hx ho hy hT hu (by simp [IsKey]) h1 hz ?_
 have:lookA ok (cstV zv) r=lookI' ok (cstV zv) (getI l n):=by rw [← h2]; cases r <;> rfl
 rw [this]; exact hr

theorem R_mapAddI (hg:GOk g) {dst:Option Nat} {T:Nat} {x y v:Operand} {ty:Nat} {pos:String} {after:Array Edge} {gd:Option (Nat × Bool)} {rest:List Oper} {k:List It} {E:Env} {objs:List Ob}
  {i q by_ q' by' kt et:Nat} {z z':List Value} {n:Int} (l:List (Int × AV))
  (hgd:guardA ops.toList E gd=some true) (hd:dstOk ⟨g.ty,g.N⟩ dst=true) (hx:ev E x=.mp i) (ho:nth objs i=some (.map (imap l))) (hy:ev E y=.d (.v (.int .i64 n))) (hT:g.ty T=some ⟨q,by_,z,.map kt et⟩)
  (hkt:g.ty kt=some ⟨q',by',z',.int .i64⟩) (hf:getI l n=none)
  (hr:R g pf Fin (.dr ops rest::k) (putO E dst .any) (setN objs i (.map (imap (l++[(n,ev E v)]))))):R g pf Fin (.dr ops (⟨dst,.mapUpdate T x y v,ty,pos,after,gd⟩::rest)::k) E objs:=by
 have hu:=(hg.ty _ _ hkt).sh
 simp only [ShFact] at hu
 obtain ⟨r,h1,h2⟩:=findA_getI (k':=.i64) (n:=n) (l:=l) (i:=0)
 have:r=none:=by rw [hf] at h2; cases r with
  | none=>rfl
  | some _=>simp at h2
 subst this
 refine R_mapAdd hg hgd hd hx ho hy hT hu (by simp [IsKey]) h1 ?_
 have e:imap l++[(Value.int .i64 n,ev E v)]=imap (l++[(n,ev E v)]):=by simp [imap]
 rw [e]; exact hr
end

theorem R_dropO {g:G} {pf:Nat→Cls} {Fin:Exit→Act→World→Prop} {k:List It} {E:Env} {objs:List Ob} (n:Nat) (objs':List Ob) (hn:g.φ0.length≤n) (ht:topCode k=true) (ho:(objs.take n).map (mapOb (trimA n))=objs')
  (hr:R g pf Fin k (mapE (trimA n) E) objs') (hdf:g.dfs=[]:=by rfl):R g pf Fin k E objs:=by
 subst ho; exact R_drop n hn ht hr hdf
theorem sealA_ow {objs:List Ob} {n i s sz:Nat} {rows:List (List D)} (h:nth objs i=some (.arr sz s rows)):sealA objs (n+1) (.ow i s)=some (.d (.sl rows)):=by simp [sealA,h]

def setI (l:List Int):List (Int × AV):=l.map fun n=>(n,AV.tt)

theorem mapOb_set {f:AV→AV} (h:f .tt=.tt) (l:List Int):mapOb f (.map (imap (setI l)))=.map (imap (setI l)):=by
 simp [mapOb,imap,setI,Function.comp_def,h]

theorem getI_set {n:Int}:∀ {l:List Int},getI (setI l) n=if l.contains n then some .tt else none
 | []=>rfl
 | x::l=>by
  have:=getI_set (n:=n) (l:=l)
  simp only [setI,List.map_cons,getI] at this ⊢
  by_cases h:x=n
  ·simp [h]
  ·rw [if_neg h,this]
   have:¬ n=x:=fun e=>h e.symm
   simp [this]

def numM:List Int→Int→List (Int × AV)
 | [],_=>[]
 | x::r,i=>(x,iV i)::numM r (i+1)

theorem numM_snoc:∀ (l:List Int) (i x:Int),numM l i++[(x,iV (i+l.length))]=numM (l++[x]) i
 | [],i,x=>by simp [numM]
 | y::l,i,x=>by
  have:=numM_snoc l (i+1) x
  simp only [numM,List.cons_append,List.length_cons] at this ⊢
  rw [← this,show i+1+(l.length:Int)=i+((l.length+1:Nat):Int) by omega]

theorem numM_len:∀ (l:List Int) (i:Int),(numM l i).length=l.length
 | [],_=>rfl
 | x::l,i=>by simp [numM,numM_len l]

theorem mapOb_num {f:AV→AV} (h:∀ n,f (iV n)=iV n) (l:List Int) (i:Int):mapOb f (.map (imap (numM l i)))=.map (imap (numM l i)):=by
 have key:∀ (l:List Int) (i:Int),(imap (numM l i)).map (fun x=>(x.1,f x.2))=imap (numM l i):=by
  intro l
  induction l with
  | nil=>intro i; rfl
  | cons x l ih =>
   intro i
   have:=ih (i+1)
   simp only [imap,numM,List.map_cons,h] at this ⊢
   rw [this]
 simp only [mapOb,key]

theorem renOb_num {f:Nat→Nat} (l:List Int) (i:Int):renOb f (.map (imap (numM l i)))=.map (imap (numM l i)):=by
 have h:=mapOb_num (f:=renA f) (fun n=>rfl) l i
 simpa only [mapOb,renOb] using h

theorem R_callSO {g:G} {pf:Nat→Cls} {ops:Array Oper} {Fin:Exit→Act→World→Prop} (hg:GOk g) (hu:GUp g) (hF:g.F=Fence.wide∧g.dep=0) (hY:∀ (i l:Nat) (I:Nat→(Nat→Prop)→(Nat→Prop)→World→Prop) (B:Nat→Prop),g.φ0[i]? = some (Phy.ext l I B)→YStep g.P Fence.wide 0 g.Y l I g.S0) (is:List Nat) (objs':List Ob) {Y:YP} {f:Nat} {axs:List AV} {objs0 objs1:List Ob} {r:AV} (hc:SCtr g.P Y f axs objs0 r objs1) (hcc:(∃ (i l:Nat) (I:Nat→(Nat→Prop)→(Nat→Prop)→World→Prop) (B:Nat→Prop),g.φ0[i]? = some (Phy.ext l I B))→Y=g.Y) {dst:Option Nat} {x:Operand} {args:Array Operand} {ts:Array Nat} {ty:Nat} {pos:String} {after:Array Edge} {gd:Option (Nat × Bool)}
  {rest:List Oper} {k:List It} {E:Env} {objs:List Ob} {fs cs:List AV}
  (hgd:guardA ops.toList E gd=some true) (hd:dstOk ⟨g.ty,g.N⟩ dst=true) (hcl:clsOf pf (.call { callee:=.value x,args:=args,argTypes:=ts })=.eff) (hx:ev E x=.clo f fs cs) (hok:isOk (len objs) is=true) (hpick:pickN objs is=some (objs0.map (renOb (rn is (len objs)))))
  (has:(fs++args.toList.map (ev E)++cs).map nrm=renL (rn is (len objs)) axs) (ho:putAll is (objs1.map (renOb (rn is (len objs)))) objs=objs')
  (hr:R g pf Fin (.dr ops rest::k) (putO E dst (renA (rn is (len objs)) r)) objs') :
  R g pf Fin (.dr ops (⟨dst,.call { callee:=.value x,args:=args,argTypes:=ts },ty,pos,after,gd⟩::rest)::k) E objs:=by
 subst ho
 exact R_callS hg hu hF hY is hc hcc hgd hd hcl hx hok hpick has hr
theorem sealT_ow {nz:Bool} {n0:Nat} {objs:List Ob} {n i s sz:Nat} {rows:List (List D)} (hn:Nat.ble (Nat.succ i) n0=false) (h:nth objs i=some (.arr sz s rows)):sealT nz n0 objs (n+1) (.ow i s)=.d (.sl rows):=by simp [sealT,h,hn]

theorem sealT_term {nz:Bool} {n0:Nat} {objs:List Ob} {n i s sz:Nat} {rows:List (List D)} {a b c:D} {a' b' c':AV} (hn:Nat.ble (Nat.succ i) n0=false) (h1:sealT nz n0 objs (n+1) (.d a)=a') (h2:sealT nz n0 objs (n+1) (.d b)=b') (h3:sealT nz n0 objs (n+1) (.d c)=c') (h:nth objs i=some (.arr sz s rows)) :
  sealT nz n0 objs (n+2) (.agg [.d a,.d b,.d c,.ow i s])=.agg [a',b',c',.d (.sl rows)]:=by
 have h4:=sealT_ow (nz:=nz) (n:=n) hn h
 rw [sealT]
 simp only [List.map_cons,List.map_nil,h1,h2,h3,h4]
end PSL

namespace PSL
open Go

inductive Tm where
 | mk (k:Int) (s:ByteArray) (n:Int) (l:List Tm)
namespace Tm
def k:Tm→Int | mk k _ _ _=>k
def s:Tm→ByteArray | mk _ s _ _=>s
def n:Tm→Int | mk _ _ n _=>n
def l:Tm→List Tm | mk _ _ _ l=>l

theorem ind {p:Tm→Prop} (h:∀ t:Tm,(∀ x∈t.l,p x)→p t) (t:Tm):p t :=
 Tm.rec (motive_1:=p) (motive_2:=fun l=>∀ x∈l,p x) (fun k s n l ih=>h (.mk k s n l) ih) (by simp) (fun x r h1 h2=>by
  intro y hy
  rcases List.mem_cons.1 hy with rfl | hy
  ·exact h1
  ·exact h2 y hy) t

mutual
def rowM:Tm→List D
 | mk k s n l=>[.v (.int .i64 k),.v (.string s),.v (.int .i64 n),.sl (rows l)]
def rows:List Tm→List (List D)
 | []=>[]
 | t::r=>rowM t::rows r
end
def row (t:Tm):List D:=[.v (.int .i64 t.k),.v (.string t.s),.v (.int .i64 t.n),.sl (rows t.l)]
theorem rowM_eq (t:Tm):rowM t=row t:=by cases t; simp only [rowM,row,k,s,n,l]

theorem rows_eq (l:List Tm):rows l=l.map row:=by
 induction l with
 | nil=>rfl
 | cons x r ih=>simp only [rows,rowM_eq,List.map_cons,ih]
theorem rows_length (l:List Tm):(rows l).length=l.length:=by rw [rows_eq]; simp
theorem rows_get {l:List Tm} {i:Nat} {x:Tm} (h:l[i]? = some x):(rows l)[i]? = some (row x):=by rw [rows_eq,List.getElem?_map,h]; rfl
def av (t:Tm):AV:=.agg [.d (.v (.int .i64 t.k)),.d (.v (.string t.s)),.d (.v (.int .i64 t.n)),.d (.sl (rows t.l))]

mutual
def same:Tm→Tm→Bool
 | mk k s n l,mk k' s' n' l'=>k==k'&&n==n'&&strEq s s'&&sameL l l'
def sameL:List Tm→List Tm→Bool
 | [],[]=>true
 | x::r,y::r'=>same x y&&sameL r r'
 | _,_=>false
end

theorem same_eq (a b:Tm):same a b=(a.k==b.k&&a.n==b.n&&strEq a.s b.s&&sameL a.l b.l):=by
 cases a; cases b; simp only [same,k,s,n,l]

theorem sameL_iff:∀ (a b:List Tm),sameL a b=true↔a.length=b.length∧∀ (i:Nat) (x y:Tm),a[i]? = some x→b[i]? = some y→same x y=true
 | [],[]=>by simp [sameL]
 | [],_::_=>by simp [sameL]
 | _::_,[]=>by simp [sameL]
 | x::a,y::b=>by
  simp only [sameL,Bool.and_eq_true,sameL_iff a b,List.length_cons,Nat.add_right_cancel_iff]
  constructor
  ·rintro ⟨h1,h2,h3⟩
   refine ⟨h2,fun i u v hu hv=>?_⟩
   cases i with
   | zero=>simp at hu hv; subst hu; subst hv; exact h1
   | succ i=>simp at hu hv; exact h3 i u v hu hv
  ·rintro ⟨h2,h3⟩
   exact ⟨h3 0 x y rfl rfl,h2,fun i u v hu hv=>h3 (i+1) u v (by simpa using hu) (by simpa using hv)⟩
end Tm
end PSL
namespace PSL
open Go
namespace Tm

mutual
def els:Tm→Int→List (Int × Tm)
 | mk k s n l,d=>(d,mk k s n l)::elsL l (d+1)
def elsL:List Tm→Int→List (Int × Tm)
 | [],_=>[]
 | t::r,d=>els t d++elsL r d
end
theorem els_eq (t:Tm) (d:Int):els t d=(d,t)::elsL t.l (d+1):=by cases t; rfl

mutual
def size:Tm→Nat
 | mk _ _ _ l=>1+sizeL l
def sizeL:List Tm→Nat
 | []=>0
 | t::r=>size t+sizeL r
end
theorem size_eq (t:Tm):size t=1+sizeL t.l:=by cases t; simp only [size,l]

mutual
theorem els_len:∀ (t:Tm) (d:Int),(els t d).length=size t
 | mk k s n l,d=>by simp only [els,size,List.length_cons,elsL_len l]; omega
theorem elsL_len:∀ (l:List Tm) (d:Int),(elsL l d).length=sizeL l
 | [],_=>rfl
 | t::r,d=>by simp only [elsL,sizeL,List.length_append,els_len t,elsL_len r]
end

theorem elsL_append:∀ (a b:List Tm) (d:Int),elsL (a++b) d=elsL a d++elsL b d
 | [],b,d=>by simp [elsL]
 | x::a,b,d=>by simp only [List.cons_append,elsL,elsL_append a b d,List.append_assoc]

theorem sizeL_append:∀ (a b:List Tm),sizeL (a++b)=sizeL a+sizeL b
 | [],b=>by simp [sizeL]
 | x::a,b=>by simp only [List.cons_append,sizeL,sizeL_append a b,Nat.add_assoc]

theorem sizeL_take_succ {l:List Tm} {k:Nat} {x:Tm} (h:l[k]? = some x):sizeL (l.take (k+1))=sizeL (l.take k)+size x:=by
 rw [List.take_add_one,h,sizeL_append]; simp [sizeL]

theorem size_mem {l:List Tm} {x:Tm} (h:x∈l):size x≤sizeL l:=by
 induction l with
 | nil=>simp at h
 | cons y l ih =>
  simp only [sizeL]
  rcases List.mem_cons.1 h with rfl | h
  ·omega
  ·have:=ih h; omega

theorem len_le_sizeL:∀ (l:List Tm),l.length≤sizeL l
 | []=>Nat.le_refl _
 | x::l=>by have:=len_le_sizeL l; have:=size_eq x; simp only [sizeL,List.length_cons]; omega
def enc (e:Int × Tm):List AV:=[iV e.1,e.2.av]
end Tm

def adv (Y:YP):Nat→Nat→Nat × Bool
 | 0,n=>(n,true)
 | k+1,n=>if Y.go (n+1)=true then adv Y k (n+1) else (n+1,false)

theorem adv_true {Y:YP}:∀ {k n:Nat},(adv Y k n).2=true→(adv Y k n).1=n+k∧(0<k→Y.go (n+k)=true)
 | 0,n,_=>by simp [adv]
 | k+1,n,h=>by
  simp only [adv] at h ⊢
  split at h
  ·rename_i hg
   rw [if_pos hg]
   obtain ⟨h1,h2⟩:=adv_true h
   refine ⟨by rw [h1]; omega,fun _=>?_⟩
   rcases Nat.eq_zero_or_pos k with h0 | h0
   ·subst h0; exact hg
   ·have:=h2 h0; rw [show n+(k+1)=n+1+k by omega]; exact this
  ·cases h

theorem adv_false {Y:YP}:∀ {k n:Nat},(adv Y k n).2=false→Y.go (adv Y k n).1=false∧(adv Y k n).1≠0
 | 0,n,h=>by simp [adv] at h
 | k+1,n,h=>by
  simp only [adv] at h ⊢
  split at h
  ·rename_i hg; rw [if_pos hg]; exact adv_false h
  ·rename_i hg; rw [if_neg hg]; exact ⟨by simpa using hg,by simp⟩

theorem adv_add {Y:YP}:∀ {a b n:Nat},adv Y (a+b) n=if (adv Y a n).2=true then adv Y b (adv Y a n).1 else adv Y a n
 | 0,b,n=>by simp [adv]
 | a+1,b,n=>by
  rw [show a+1+b=(a+b)+1 by omega]
  simp only [adv]
  split
  ·exact adv_add
  ·simp
theorem adv_add_true {Y:YP} {a b n:Nat} (h:adv Y a n=(n+a,true)):adv Y (a+b) n=adv Y b (n+a):=by rw [adv_add,h]; simp
theorem adv_eq {Y:YP} {k n:Nat} (h:(adv Y k n).2=true):adv Y k n=(n+k,true):=Prod.ext (adv_true h).1 h
end PSL
namespace PSL
open Go
def byteOk (b:UInt8):Bool:=!(decide ((b.toNat:Int)<32) || decide ((b.toNat:Int) > 126))
def namedB (s:ByteArray):Bool:=s.data.toList.all byteOk&&(decide ((s.size:Int) ≥ 1)&&decide ((s.size:Int)≤20))
theorem byte_atK {s:ByteArray} {k:Nat} (h:k<s.size):s[k]? = some s[k]:=getElem?_pos s k h

theorem all_bytes {s:ByteArray} {p:UInt8→Bool} (h:∀ k (hk:k<s.size),p s[k]=true):s.data.toList.all p=true:=by
 rw [List.all_eq_true]
 intro b hb
 obtain ⟨i,hi,rfl⟩:=List.mem_iff_getElem.1 hb
 have:i<s.size:=by simpa using hi
 exact h i this

theorem not_all_bytes {s:ByteArray} {p:UInt8→Bool} {k:Nat} (hk:k<s.size) (h:p s[k]=false):s.data.toList.all p=false:=by
 rw [List.all_eq_false]
 refine ⟨s[k],?_,by simp [h]⟩
 have:s[k]=s.data.toList[k]'(by simpa using hk):=rfl
 rw [this]; exact List.getElem_mem _
namespace Tm

def ownT (t:Tm):Bool :=
 if t.k=1 then decide (t.n ≥ 0)&&decide (t.n<1000000)&&strEq t.s ⟨#[]⟩&&((t.l.length:Int)==0)
 else if t.k=2 then strEq t.s ⟨#[]⟩&&((t.l.length:Int)==0)
 else if t.k=3 then (t.n==0)&&namedB t.s&&decide ((t.l.length:Int)≤8)
 else false
end Tm
end PSL
namespace PSL
open Go

theorem adv_all {Y:YP}:∀ {k n:Nat},(adv Y k n).2=true↔∀ i,i<k→Y.go (n+i+1)=true
 | 0,n=>by simp [adv]
 | k+1,n=>by
  simp only [adv]
  split
  ·rename_i h
   rw [adv_all]
   constructor
   ·intro h1 i hi
    cases i with
    | zero=>exact h
    | succ i=>have:=h1 i (by omega); rw [show n+(i+1)+1=n+1+i+1 by omega]; exact this
   ·intro h1 i hi
    have:=h1 (i+1) (by omega); rw [show n+1+i+1=n+(i+1)+1 by omega]; exact this
  ·rename_i h
   constructor
   ·intro h1; cases h1
   ·intro h1; exact absurd (h1 0 (by omega)) h
theorem lt_dec {k n:Nat} {m:Int} (h:decide ((k:Int)<m)=true) (e:m=n):k<n:=by have:=of_decide_eq_true h; omega
theorem ge_dec {k n:Nat} {m:Int} (h:decide ((k:Int)<m)=false) (e:m=n):n≤k:=by have:=of_decide_eq_false h; omega
theorem w64 {n:Int} (h1:-9223372036854775808≤n) (h2:n<9223372036854775808):IntKind.i64.wrap n=n:=wrap_id h1 h2

def I64 (n:Int):Prop:=-9223372036854775808≤n∧n≤9223372036854775807

def irow (n:Int):List D:=[.v (.int .i64 n)]
def irows (l:List Int):List (List D):=l.map irow
theorem irows_length (l:List Int):(irows l).length=l.length:=by simp [irows]
theorem irows_get {l:List Int} {i:Nat} {x:Int} (h:l[i]? = some x):(irows l)[i]? = some (irow x):=by simp [irows,h]
namespace Tm

mutual
def depth:Tm→Nat
 | mk _ _ _ l=>depthL l+1
def depthL:List Tm→Nat
 | []=>0
 | t::r=>max (depth t) (depthL r)
end
theorem depth_eq (t:Tm):depth t=depthL t.l+1:=by cases t; simp only [depth,l]

def kindR (k:Int) (s:ByteArray) (n:Int) (m:Nat):Bool :=
 if k=1 then decide (n ≥ 0)&&decide (n<1000000)&&strEq s ⟨#[]⟩&&((m:Int)==0)
 else if k=2 then strEq s ⟨#[]⟩&&((m:Int)==0)
 else (k==3)&&(n==0)&&decide ((s.size:Int) ≥ 1)&&decide ((s.size:Int)≤20)&&decide ((m:Int)≤8)

mutual
def fairR:Tm→Bool
 | mk k s n l=>s.data.toList.all byteOk&&fairRL l&&kindR k s n l.length
def fairRL:List Tm→Bool
 | []=>true
 | t::r=>fairR t&&fairRL r
end
theorem fairR_eq (t:Tm):fairR t=(t.s.data.toList.all byteOk&&fairRL t.l&&kindR t.k t.s t.n t.l.length):=by cases t; simp only [fairR,l,k,s,n]

theorem fairRL_iff:∀ {l:List Tm},fairRL l=true↔∀ t∈l,fairR t=true
 | []=>by simp [fairRL]
 | t::r=>by simp [fairRL,fairRL_iff (l:=r)]

theorem els_memL {l:List Tm} {x:Tm} {d:Int} {e:Int × Tm} (h:x∈l) (he:e∈els x d):e∈elsL l d:=by
 induction l with
 | nil=>simp at h
 | cons y l ih =>
  simp only [elsL,List.mem_append]
  rcases List.mem_cons.1 h with rfl | h
  ·exact .inl he
  ·exact .inr (ih h)

theorem elsL_mem {l:List Tm} {d:Int} {e:Int × Tm} (h:e∈elsL l d):∃ x∈l,e∈els x d:=by
 induction l with
 | nil=>simp [elsL] at h
 | cons y l ih =>
  simp only [elsL,List.mem_append] at h
  rcases h with h | h
  ·exact ⟨y,by simp,h⟩
  ·obtain ⟨x,hx,he⟩:=ih h; exact ⟨x,by simp [hx],he⟩

def Ok (t:Tm):Prop:=∀ d e,e∈els t d→e.2.l.length≤140737488355328∧e.2.s.size≤140737488355328
theorem Ok.len {t:Tm} (h:t.Ok):t.l.length≤140737488355328:=(h 0 (0,t) (by rw [els_eq]; simp)).1
theorem Ok.name {t:Tm} (h:t.Ok):t.s.size≤140737488355328:=(h 0 (0,t) (by rw [els_eq]; simp)).2
theorem Ok.sub {t x:Tm} (h:t.Ok) (hx:x∈t.l):x.Ok:=fun d e he=>h (d - 1) e (by rw [els_eq]; exact List.mem_cons_of_mem _ (els_memL hx (by rw [Int.sub_add_cancel]; exact he)))

def fewStep (s:ByteArray) (most deep:Int):Bool:=decide (IntKind.i64.wrap (most - 1)<0) || decide (deep<1) || decide ((s.size:Int) > 100)

mutual
def few:Tm→Int→Int→Int
 | mk _ s _ l,most,deep=>if fewStep s most deep then -1 else fewL l (IntKind.i64.wrap (most - 1)) (IntKind.i64.wrap (deep - 1))
def fewL:List Tm→Int→Int→Int
 | [],most,_=>most
 | t::r,most,deep=>if most ≥ 0 then fewL r (few t most deep) deep else most
end
theorem few_eq (t:Tm) (m d:Int):few t m d=if fewStep t.s m d then -1 else fewL t.l (IntKind.i64.wrap (m - 1)) (IntKind.i64.wrap (d - 1)):=by cases t; simp only [few]; rfl
def someT (l:List Tm):Bool:=decide (fewL l 4000 200 ≥ 0)&&decide ((l.length:Int)≤100)

mutual
theorem few_le:∀ (t:Tm) (m d:Int),0≤m→m<9223372036854775808→d≤1000→few t m d=-1∨(few t m d+size t≤m∧depth t≤d∧t.s.size≤100∧0≤few t m d∧∀ x e,e∈els t x→e.2.s.size≤100)
 | mk k s n l,m,d,h0,h1,h2=>by
  simp only [few]
  split
  ·exact .inl rfl
  ·rename_i hs
   simp only [fewStep,Bool.or_eq_true,decide_eq_true_eq,not_or] at hs
   have e1:IntKind.i64.wrap (m - 1)=m - 1:=w64 (by omega) (by omega)
   rw [e1] at hs ⊢
   have e2:IntKind.i64.wrap (d - 1)=d - 1:=w64 (by omega) (by omega)
   rw [e2]
   rcases fewL_le l (m - 1) (d - 1) (by omega) (by omega) (by omega) with h | ⟨h3,h4,h5,h6⟩
   ·exact .inl h
   ·refine .inr ⟨by simp only [size]; omega,by simp only [depth]; omega,?_,h5,fun x e he=>?_⟩
    ·show s.size≤100; omega
    ·simp only [els,List.mem_cons] at he
     rcases he with rfl | he
     ·show s.size≤100; omega
     ·exact h6 _ _ he
theorem fewL_le:∀ (l:List Tm) (m d:Int),0≤m→m<9223372036854775808→0≤d∧d≤1000→fewL l m d=-1∨(fewL l m d+sizeL l≤m∧depthL l≤d∧0≤fewL l m d∧∀ x e,e∈elsL l x→e.2.s.size≤100)
 | [],m,d,h0,h1,h2=>by simp only [fewL,sizeL,depthL,elsL]; exact .inr ⟨by omega,by omega,h0,by simp⟩
 | t::r,m,d,h0,h1,h2=>by
  simp only [fewL]
  rw [if_pos h0]
  rcases few_le t m d h0 h1 h2.2 with h | ⟨h3,h4,_,h5,h6⟩
  ·rw [h]
   cases r with
   | nil=>exact .inl rfl
   | cons u r=>simp only [fewL]; exact .inl (by rw [if_neg (by omega)])
  ·rcases fewL_le r (few t m d) d h5 (by omega) h2 with h | ⟨h7,h8,h9,h10⟩
   ·exact .inl h
   ·refine .inr ⟨by simp only [sizeL]; omega,by simp only [depthL]; omega,h9,fun x e he=>?_⟩
    simp only [elsL,List.mem_append] at he
    rcases he with he | he
    ·exact h6 _ _ he
    ·exact h10 _ _ he
end

theorem someT_ok {l:List Tm} (h:someT l=true):sizeL l≤4000∧depthL l≤200∧l.length≤100∧∀ x e,e∈elsL l x→e.2.s.size≤100:=by
 simp only [someT,Bool.and_eq_true,decide_eq_true_eq] at h
 rcases fewL_le l 4000 200 (by omega) (by omega) (by omega) with h1 | ⟨h2,h3,h4,h5⟩
 ·omega
 ·exact ⟨by omega,by omega,by omega,h5⟩
def rightB (t:Tm):Bool:=fairR t&&decide (t.size≤3000)&&decide (t.depth≤100)
theorem toList_data (s:ByteArray):s.toList=s.data.toList:=ByteArray.toList_eq s

theorem strEq_iff {a b:ByteArray}:strEq a b=true↔a=b:=by
 simp only [strEq,beq_iff_eq]
 constructor
 ·intro h
  rw [toList_data,toList_data] at h
  cases a; cases b
  simpa using h
 ·rintro rfl; rfl

theorem ownT_eq (t:Tm):t.ownT=(t.s.data.toList.all byteOk&&kindR t.k t.s t.n t.l.length):=by
 unfold ownT kindR
 split
 ·by_cases h:strEq t.s ⟨#[]⟩=true
  ·have:=strEq_iff.1 h
   rw [this]; simp
  ·simp [h]
 ·split
  ·by_cases h:strEq t.s ⟨#[]⟩=true
   ·have:=strEq_iff.1 h
    rw [this]; simp
   ·simp [h]
  ·split
   ·rename_i h; simp only [h,namedB]
    cases t.s.data.toList.all byteOk <;> simp [Bool.and_assoc]
   ·rename_i h; simp [h]

mutual
theorem fair_els:∀ (t:Tm) (d:Int),(∀ e∈els t d,e.2.ownT=true)↔fairR t=true
 | mk k s n l,d=>by
  have h:=fairL_els l (d+1)
  have h2:(mk k s n l).ownT=(s.data.toList.all byteOk&&kindR k s n l.length):=ownT_eq _
  simp only [els,List.mem_cons,forall_eq_or_imp,h,h2,fairR,Bool.and_eq_true]
  constructor
  ·rintro ⟨⟨h1,h2⟩,h3⟩; exact ⟨⟨h1,h3⟩,h2⟩
  ·rintro ⟨⟨h1,h2⟩,h3⟩; exact ⟨⟨h1,h3⟩,h2⟩
theorem fairL_els:∀ (l:List Tm) (d:Int),(∀ e∈elsL l d,e.2.ownT=true)↔fairRL l=true
 | [],d=>by simp [elsL,fairRL]
 | t::r,d=>by
  simp only [elsL,List.mem_append,fairRL,Bool.and_eq_true,← fair_els t d,← fairL_els r d]
  constructor
  ·intro h; exact ⟨fun e he=>h e (.inl he),fun e he=>h e (.inr he)⟩
  ·rintro ⟨h1,h2⟩ e (he | he)
   ·exact h1 e he
   ·exact h2 e he
end

mutual
theorem deep_els:∀ (t:Tm) (d m:Int),(∀ e∈els t d,e.1≤m)↔d+t.depth - 1≤m
 | mk k s n l,d,m=>by
  simp only [els,List.mem_cons,forall_eq_or_imp,deepL_els l (d+1) m,depth]
  cases hl:l with
  | nil=>simp [depthL]
  | cons x r =>
   have:0<depthL (x::r):=by simp only [depthL]; have:=depth_eq x; omega
   simp only [List.cons_ne_nil,false_or]
   omega
theorem deepL_els:∀ (l:List Tm) (d m:Int),(∀ e∈elsL l d,e.1≤m)↔l=[]∨d+depthL l - 1≤m
 | [],d,m=>by simp [elsL]
 | t::r,d,m=>by
  have h1:=deep_els t d m
  have h2:=deepL_els r d m
  simp only [elsL,List.mem_append,depthL,List.cons_ne_nil,false_or]
  have h3:=depth_eq t
  constructor
  ·intro h
   have h4:=h1.1 fun e he=>h e (.inl he)
   have h5:=h2.1 fun e he=>h e (.inr he)
   rcases h5 with rfl | h5
   ·simp only [depthL]; omega
   ·omega
  ·intro h e he
   rcases he with he | he
   ·exact h1.2 (by omega) e he
   ·refine h2.2 ?_ e he
    right; omega
end

mutual
theorem same_iff:∀ (a b:Tm),same a b=true↔a=b
 | mk k s n l,mk k' s' n' l'=>by
  simp only [same,Bool.and_eq_true,beq_iff_eq,strEq_iff,sameL_eq l l',mk.injEq]
  constructor
  ·rintro ⟨⟨⟨h1,h2⟩,h3⟩,h4⟩; exact ⟨h1,h3,h2,h4⟩
  ·rintro ⟨h1,h3,h2,h4⟩; exact ⟨⟨⟨h1,h2⟩,h3⟩,h4⟩
theorem sameL_eq:∀ (a b:List Tm),sameL a b=true↔a=b
 | [],[]=>by simp [sameL]
 | [],_::_=>by simp [sameL]
 | _::_,[]=>by simp [sameL]
 | x::a,y::b=>by simp only [sameL,Bool.and_eq_true,same_iff x y,sameL_eq a b,List.cons.injEq]
end
theorem same_refl (a:Tm):same a a=true:=(same_iff a a).2 rfl

theorem sameL_len {a b:List Tm} (h:¬ a.length=b.length):sameL a b=false:=by
 cases hs:sameL a b
 ·rfl
 ·exact absurd ((sameL_iff _ _).1 hs).1 h
end Tm
def stepR (e:Int × Tm) (n:Nat):Bool:=!(decide (e.1 > 100) || decide ((n:Int) > 3000) || !e.2.ownT)

def goR (t:Tm) (n:Nat):Bool:=match n with
 | 0=>true
 | m+1=>match (t.els 1)[m]? with
  | some e=>stepR e (m+1)
  | none=>true
def rightT (t:Tm):Bool:=(adv ⟨(t.els 1).map Tm.enc,goR t⟩ t.size 0).2

theorem adv_els {t:Tm} {g:Nat→Bool}:(adv ⟨(t.els 1).map Tm.enc,g⟩ t.size 0).2=true↔∀ i,i<t.size→g (i+1)=true:=by
 rw [adv_all]; simp

theorem rightT_eq (t:Tm):rightT t=t.rightB:=by
 rw [Bool.eq_iff_iff]
 unfold rightT
 rw [adv_els]
 unfold Tm.rightB
 simp only [Bool.and_eq_true,decide_eq_true_eq,← Tm.fair_els t 1]
 have hd:=Tm.deep_els t 1 100
 have hl:=Tm.els_len t 1
 have hs:=Tm.size_eq t
 constructor
 ·intro h
  have h1:∀ e∈t.els 1,e.1≤100∧e.2.ownT=true:=fun e he=>by
   obtain ⟨i,hi,rfl⟩:=List.mem_iff_getElem.1 he
   have:=h i (by omega)
   simp only [goR,List.getElem?_eq_getElem hi,stepR,Bool.not_eq_true',Bool.or_eq_false_iff,decide_eq_false_iff_not,Bool.not_eq_false'] at this
   exact ⟨by omega,this.2⟩
  refine ⟨⟨fun e he=>(h1 e he).2,?_⟩,?_⟩
  ·have hi:t.size - 1<(t.els 1).length:=by omega
   have:=h (t.size - 1) (by omega)
   simp only [goR,List.getElem?_eq_getElem hi,stepR,Bool.not_eq_true',Bool.or_eq_false_iff,decide_eq_false_iff_not,Bool.not_eq_false'] at this
   omega
  ·have:=hd.1 fun e he=>(h1 e he).1
   omega
 ·rintro ⟨⟨h1,h2⟩,h3⟩ i hi
  have hi':i<(t.els 1).length:=by omega
  have h4:=hd.2 (by omega) _ (List.getElem_mem hi')
  simp only [goR,List.getElem?_eq_getElem hi',stepR,Bool.not_eq_true',Bool.or_eq_false_iff,decide_eq_false_iff_not,Bool.not_eq_false']
  exact ⟨⟨by omega,by omega⟩,h1 _ (List.getElem_mem hi')⟩
namespace Tm

mutual
def turnT (g:Int→Int):Tm→Tm
 | mk k s n l=>mk k s (if k=1 then g n else n) (turnTL g l)
def turnTL (g:Int→Int):List Tm→List Tm
 | []=>[]
 | t::r=>turnT g t::turnTL g r
end
theorem turnT_eq (g:Int→Int) (t:Tm):turnT g t=mk t.k t.s (if t.k=1 then g t.n else t.n) (turnTL g t.l):=by cases t; simp only [turnT]; rfl

theorem turnTL_map (g:Int→Int):∀ l,turnTL g l=l.map (turnT g)
 | []=>rfl
 | t::r=>by simp only [turnTL,List.map_cons,turnTL_map g r]
end Tm

def atI:List Int→Int→Int→Int
 | [],_,_=>-1
 | x::r,n,i=>if x=n then i else atI r n (i+1)
def addV (l:List Int) (x:Int):List Int:=if l.contains x then l else l++[x]
def stepV (l:List Int) (e:Int × Tm):List Int:=if e.2.k=1 then addV l e.2.n else l

def varsT (l:List Tm):List Int:=l.foldl (fun a t=>(t.els 1).foldl stepV a) []
namespace Tm

mutual
def withV:List Int→Tm→List Int
 | a,mk k _ n l=>if k=1 then addV a n else withVL a l
def withVL:List Int→List Tm→List Int
 | a,[]=>a
 | a,t::r=>withVL (withV a t) r
end

mutual
def plain:Tm→Bool
 | mk k _ _ l=>!((k==1) && !l.isEmpty)&&plainL l
def plainL:List Tm→Bool
 | []=>true
 | t::r=>plain t&&plainL r
end
theorem withV_eq (a:List Int) (t:Tm):withV a t=if t.k=1 then addV a t.n else withVL a t.l:=by cases t; simp only [withV]; rfl
theorem addV_len' (l:List Int) (x:Int):(addV l x).length≤l.length+1:=by unfold addV; split <;> simp

mutual
theorem withV_len:∀ (t:Tm) (a:List Int),(withV a t).length≤a.length+size t
 | mk k s n l,a=>by
  simp only [withV,size]
  split
  ·have:=addV_len' a n; omega
  ·have:=withVL_len l a; omega
theorem withVL_len:∀ (l:List Tm) (a:List Int),(withVL a l).length≤a.length+sizeL l
 | [],a=>by simp [withVL]
 | t::r,a=>by have h1:=withV_len t a; have h2:=withVL_len r (withV a t); simp only [withVL,sizeL]; omega
end

mutual
theorem els_with:∀ (t:Tm) (d:Int) (a:List Int),plain t=true→(els t d).foldl stepV a=withV a t
 | mk k s n l,d,a,h=>by
  simp only [plain,Bool.and_eq_true,Bool.not_eq_true',Bool.and_eq_false_iff] at h
  simp only [els,List.foldl_cons,withV]
  by_cases hk:k=1
  ·have hl:l=[]:=by
    rcases h.1 with h1 | h1
    ·simp [hk] at h1
    ·simpa using h1
   subst hl
   simp only [elsL,List.foldl_nil,hk,if_true]
   rfl
  ·rw [if_neg hk,elsL_with l (d+1) _ h.2]
   simp only [stepV,Tm.k,hk,if_false]
theorem elsL_with:∀ (l:List Tm) (d:Int) (a:List Int),plainL l=true→(elsL l d).foldl stepV a=withVL a l
 | [],d,a,h=>rfl
 | t::r,d,a,h=>by
  simp only [plainL,Bool.and_eq_true] at h
  simp only [elsL,List.foldl_append,withVL,els_with t d a h.1,elsL_with r d _ h.2]
end
end Tm

theorem varsT_with:∀ (l:List Tm),Tm.plainL l=true→varsT l=Tm.withVL [] l:=by
 have key:∀ (l:List Tm) (a:List Int),Tm.plainL l=true→l.foldl (fun a t=>(t.els 1).foldl stepV a) a=Tm.withVL a l:=by
  intro l
  induction l with
  | nil=>intro a _; rfl
  | cons t r ih =>
   intro a h
   simp only [Tm.plainL,Bool.and_eq_true] at h
   simp only [List.foldl_cons,Tm.withVL,Tm.els_with t 1 a h.1,ih _ h.2]
 exact fun l h=>key l [] h
end PSL
namespace PSL
open Go Go.RowKit

def vLe:Value→Value→Bool
 | .int k a,.int k' b=>kEq k k'&&a==b
 | .bool a,.bool b=>a==b
 | .string a,.string b=>strEq a b
 | .slice none 0 0,.slice none 0 0=>true
 | _,_=>false

theorem vLe_ok {a b:Value} (h:vLe a b=true):a=b:=by
 unfold vLe at h
 split at h
 ·simp only [Bool.and_eq_true,beq_iff_eq] at h; rw [kEq_eq h.1,h.2]
 ·simp at h; rw [h]
 ·rename_i x y
  simp only [strEq,beq_iff_eq,ByteArray.toList_eq] at h
  cases x; cases y
  simp at h; rw [h]
 ·rfl
 ·cases h

mutual
def dLe:D→D→Bool
 | .v a,y=>match y with
  | .v b=>vLe a b
  | .sl []=>match a with
   | .slice none 0 0=>true
   | _=>false
  | _=>false
 | .sl r,y=>match y with
  | .sl r'=>rowsLe r r'
  | _=>false
 | .ptr l,y=>match y with
  | .ptr l'=>rowLe l l'
  | _=>false
 | .map _,_=>false
def rowLe:List D→List D→Bool
 | [],[]=>true
 | x::l,y::m=>dLe x y&&rowLe l m
 | _,_=>false
def rowsLe:List (List D)→List (List D)→Bool
 | [],[]=>true
 | x::l,y::m=>rowLe x y&&rowsLe l m
 | _,_=>false
end

theorem rowLe_len:∀ {l m:List D},rowLe l m=true→l.length=m.length
 | [],[],_=>rfl
 | [],_::_,h=>by simp [rowLe] at h
 | _::_,[],h=>by simp [rowLe] at h
 | x::l,y::m,h=>by simp only [rowLe,Bool.and_eq_true] at h; simp [rowLe_len h.2]

theorem rowLe_get:∀ {l m:List D} {j:Nat} {y:D},rowLe l m=true→m[j]? = some y→∃ x,l[j]? = some x∧dLe x y=true
 | [],[],_,_,_,h=>by simp at h
 | [],_::_,_,_,h,_=>by simp [rowLe] at h
 | _::_,[],_,_,h,_=>by simp [rowLe] at h
 | x::l,y::m,0,z,h,hz=>by simp only [rowLe,Bool.and_eq_true] at h; simp at hz; subst hz; exact ⟨x,rfl,h.1⟩
 | x::l,y::m,j+1,z,h,hz=>by simp only [rowLe,Bool.and_eq_true] at h; simpa using rowLe_get h.2 (by simpa using hz)

theorem rowsLe_len:∀ {l m:List (List D)},rowsLe l m=true→l.length=m.length
 | [],[],_=>rfl
 | [],_::_,h=>by simp [rowsLe] at h
 | _::_,[],h=>by simp [rowsLe] at h
 | x::l,y::m,h=>by simp only [rowsLe,Bool.and_eq_true] at h; simp [rowsLe_len h.2]

theorem rowsLe_get:∀ {l m:List (List D)} {j:Nat} {y:List D},rowsLe l m=true→m[j]? = some y→∃ x,l[j]? = some x∧rowLe x y=true
 | [],[],_,_,_,h=>by simp at h
 | [],_::_,_,_,h,_=>by simp [rowsLe] at h
 | _::_,[],_,_,h,_=>by simp [rowsLe] at h
 | x::l,y::m,0,z,h,hz=>by simp only [rowsLe,Bool.and_eq_true] at h; simp at hz; subst hz; exact ⟨x,rfl,h.1⟩
 | x::l,y::m,j+1,z,h,hz=>by simp only [rowsLe,Bool.and_eq_true] at h; simpa using rowsLe_get h.2 (by simpa using hz)

theorem dLe_ok {S:Nat→Prop} {w:World} {x:D} {v:Value} (hr:Rd S w x v):∀ {y:D},dLe x y=true→Rd S w y v:=by
 induction hr with
 | v x =>
  intro y h
  cases y with
  | v b=>simp only [dLe] at h; rw [vLe_ok h]; exact .v _
  | sl r =>
   cases r with
   | nil =>
    simp only [dLe] at h
    split at h
    ·exact .nil _ _
    ·cases h
   | cons _ _=>simp [dLe] at h
  | ptr _=>simp [dLe] at h
  | map _=>simp [dLe] at h
 | nil a c =>
  intro y h
  cases y with
  | v b=>simp [dLe] at h
  | sl r =>
   simp only [dLe] at h
   have:=rowsLe_len h
   have:r=[]:=List.length_eq_zero_iff.1 this.symm
   subst this; exact .nil _ _
  | ptr _=>simp [dLe] at h
  | map _=>simp [dLe] at h
 | @sl rows b o cap sz cs T fr g hS hb hl hc hsz hg _ ih =>
  intro y h
  cases y with
  | v b=>simp [dLe] at h
  | ptr _=>simp [dLe] at h
  | map _=>simp [dLe] at h
  | sl r =>
   simp only [dLe] at h
   have hlen:=rowsLe_len h
   rw [hlen]
   refine .sl (sz:=sz) g hS hb (by omega) hc (fun i row hi=>?_) (fun i row j x hi hj=>?_) (fun i row j x hi hj=>?_)
   ·obtain ⟨row',h1,h2⟩:=rowsLe_get h hi
    rw [← rowLe_len h2]; exact hsz i row' h1
   ·obtain ⟨row',h1,h2⟩:=rowsLe_get h hi
    obtain ⟨x',h3,_⟩:=rowLe_get h2 hj
    exact hg i row' j x' h1 h3
   ·obtain ⟨row',h1,h2⟩:=rowsLe_get h hi
    obtain ⟨x',h3,h4⟩:=rowLe_get h2 hj
    exact ih i row' j x' h1 h3 h4
 | @ptr l b o cs T fr g hS hb hg _ ih =>
  intro y h
  cases y with
  | v b=>simp [dLe] at h
  | sl r=>simp [dLe] at h
  | map _=>simp [dLe] at h
  | ptr m =>
   simp only [dLe] at h
   refine .ptr g hS hb (fun j x hj=>?_) (fun j x hj=>?_)
   ·obtain ⟨x',h3,_⟩:=rowLe_get h hj
    exact hg j x' h3
   ·obtain ⟨x',h3,h4⟩:=rowLe_get h hj
    exact ih j x' h3 h4
 | map g hS hb hk hg _ ih=>intro y h; simp [dLe] at h

mutual
def aLe:AV→AV→Bool
 | .d x,y=>match y with
  | .d y=>dLe x y
  | _=>false
 | .agg l,y=>match y with
  | .agg m=>asLe l m
  | _=>false
 | .tup l,y=>match y with
  | .tup m=>asLe l m
  | _=>false
 | _,_=>false
def asLe:List AV→List AV→Bool
 | [],[]=>true
 | x::l,y::m=>aLe x y&&asLe l m
 | _,_=>false
end

mutual
theorem aLe_ok {S:Nat→Prop} {w:World} {φ:List Phy}:∀ {x y:AV} {v:Value},aLe x y=true→RV S w φ x v→RV S w φ y v
 | .d x,y,v,h,hr=>by
  cases y <;> simp only [aLe] at h <;> try (cases h; done)
  simp only [RV] at hr ⊢
  exact dLe_ok hr h
 | .agg l,y,v,h,hr=>by
  cases y <;> simp only [aLe] at h <;> try (cases h; done)
  simp only [RV] at hr ⊢
  obtain ⟨cs,h1,h2⟩:=hr
  exact ⟨cs,h1,asLe_ok h h2⟩
 | .tup l,y,v,h,hr=>by
  cases y <;> simp only [aLe] at h <;> try (cases h; done)
  simp only [RV] at hr ⊢
  obtain ⟨cs,h1,h2⟩:=hr
  exact ⟨cs,h1,asLe_ok h h2⟩
 | .any,_,_,h,_=>by simp [aLe] at h
 | .tt,_,_,h,_=>by simp [aLe] at h
 | .ff,_,_,h,_=>by simp [aLe] at h
 | .fs _,_,_,h,_=>by simp [aLe] at h
 | .lo _ _,_,_,h,_=>by simp [aLe] at h
 | .el _ _ _ _,_,_,h,_=>by simp [aLe] at h
 | .vw _ _ _,_,_,h,_=>by simp [aLe] at h
 | .ow _ _,_,_,h,_=>by simp [aLe] at h
 | .mp _,_,_,h,_=>by simp [aLe] at h
 | .yl _,_,_,h,_=>by simp [aLe] at h
 | .clo _ _ _,_,_,h,_=>by simp [aLe] at h
theorem asLe_ok {S:Nat→Prop} {w:World} {φ:List Phy}:∀ {l m:List AV} {vs:List Value},asLe l m=true→RVs S w φ l vs→RVs S w φ m vs
 | [],[],_,_,h=>h
 | [],_::_,_,h,_=>by simp [asLe] at h
 | _::_,[],_,h,_=>by simp [asLe] at h
 | x::l,y::m,[],_,h=>by simp [RVs] at h
 | x::l,y::m,v::vs,h,hr=>by
  simp only [asLe,Bool.and_eq_true] at h
  simp only [RVs] at hr ⊢
  exact ⟨aLe_ok h.1 hr.1,asLe_ok h.2 hr.2⟩
end

theorem PCtr.le {P:Program} {f:Nat} {axs as':List AV} {r:AV} (h:PCtr P f axs r) (hl:asLe as' axs=true):PCtr P f as' r :=
 ⟨h.call,fun S w vals ha hS hv=>h.run S w vals ha hS (asLe_ok hl hv)⟩

theorem R_callN {g:G} {pf:Nat→Cls} {ops:Array Oper} {Fin:Exit→Act→World→Prop} (hg:GOk g) {f:Nat} {axs:List AV} {r:AV} (hc:PCtr g.P f axs r) {as':List AV} {dst:Option Nat} {x:Operand} {args:Array Operand} {ts:Array Nat} {ty:Nat} {pos:String} {after:Array Edge} {gd:Option (Nat × Bool)}
  {rest:List Oper} {k:List It} {E:Env} {objs:List Ob} {fs cs:List AV}
  (hgd:guardA ops.toList E gd=some true) (hd:dstOk ⟨g.ty,g.N⟩ dst=true) (hx:ev E x=.clo f fs cs) (has:(fs++args.toList.map (ev E)++cs).map nrm=as') (hle:asLe as' axs=true) (hpa:pureL as'=true) (hpr:pureA r=true)
  (hr:R g pf Fin (.dr ops rest::k) (putO E dst r) objs) :
  R g pf Fin (.dr ops (⟨dst,.call { callee:=.value x,args:=args,argTypes:=ts },ty,pos,after,gd⟩::rest)::k) E objs :=
 R_call hg (hc.le hle) hgd hd hx has hpa hpr hr
end PSL
namespace PSL
open Go Go.RowKit Go.MapKept
theorem cong1 {α:Type} {a c:α} {l:List α} (h:a=c):a::l=c::l:=by rw [h]
theorem cong2 {α:Type} {a b c:α} {l:List α} (h:b=c):a::b::l=a::c::l:=by rw [h]
theorem some2 {α:Type} {a b c:α} (h:c=b):some [a,b]=some [a,c]:=by rw [h]

theorem R_appendO {g:G} {pf:Nat→Cls} {ops:Array Oper} {Fin:Exit→Act→World→Prop} (hg:GOk g) {dst:Option Nat} {T T':Nat} {x y:Operand} {ty:Nat} {pos:String} {after:Array Edge} {gd:Option (Nat × Bool)} {rest:List Oper} {k:List It} {E:Env} {objs:List Ob}
  {i s sz q q' by_ by' e e':Nat} {z z':List Value} {τ:Ty} {rows news:List (List D)} (rows':List (List D))
  (hgd:guardA ops.toList E gd=some true) (hd:dstOk ⟨g.ty,g.N⟩ dst=true) (hx:ev E x=.ow i s) (ho:nth objs i=some (.arr sz s rows)) (hy:nrm (ev E y)=.d (.sl news))
  (hT:g.ty T=some ⟨q,by_,z,.slice e⟩) (hT':g.ty T'=some ⟨q',by',z',.slice e'⟩) (he:g.ty e=some τ) (hsz:τ.size=sz) (hlen:∀ r∈news,r.length=sz) (hone:∀ r∈news,∀ x∈r,one1 (.d x)=true)
  (hrows:rows++news=rows') (hbytes:(rows.length+news.length) * τ.bytes≤140737488355328) (hmax:rows.length+news.length≤140737488355328)
  (hr:R g pf Fin (.dr ops rest::k) (putO E dst (.ow i (Nat.succ s))) (setN objs i (.arr sz (Nat.succ s) rows'))) :
  R g pf Fin (.dr ops (⟨dst,.call { callee:=.builtin .append,args:=#[x,y],argTypes:=#[T,T'] },ty,pos,after,gd⟩::rest)::k) E objs:=by
 subst hrows
 exact R_append hg hgd hd hx ho hy hT hT' he hsz hlen hone hbytes hmax hr

theorem R_mapAddO {g:G} {pf:Nat→Cls} {ops:Array Oper} {Fin:Exit→Act→World→Prop} (hg:GOk g) {dst:Option Nat} {T:Nat} {x y v:Operand} {ty:Nat} {pos:String} {after:Array Edge} {gd:Option (Nat × Bool)} {rest:List Oper} {k:List It} {E:Env} {objs:List Ob}
  {i q by_ q' by' kt et:Nat} {z z':List Value} {n:Int} {v':AV} (l l':List (Int × AV))
  (hgd:guardA ops.toList E gd=some true) (hd:dstOk ⟨g.ty,g.N⟩ dst=true) (hx:ev E x=.mp i) (ho:nth objs i=some (.map (imap l))) (hy:ev E y=.d (.v (.int .i64 n))) (hT:g.ty T=some ⟨q,by_,z,.map kt et⟩)
  (hkt:g.ty kt=some ⟨q',by',z',.int .i64⟩) (hf:getI l n=none) (hv:ev E v=v') (hl:l++[(n,v')]=l')
  (hr:R g pf Fin (.dr ops rest::k) (putO E dst .any) (setN objs i (.map (imap l')))):R g pf Fin (.dr ops (⟨dst,.mapUpdate T x y v,ty,pos,after,gd⟩::rest)::k) E objs:=by
 subst hl; subst hv
 exact R_mapAddI hg l hgd hd hx ho hy hT hkt hf hr
theorem mapO_cons {f:AV→Option AV} {x y:AV} {l l':List AV} (h:f x=some y) (h2:mapO f l=some l'):mapO f (x::l)=some (y::l'):=by simp only [mapO,h,h2]
theorem sealA_tup {objs:List Ob} {n:Nat} {l l':List AV} (h:mapO (sealA objs n) l=some l'):sealA objs (n+1) (.tup l)=some (.tup l'):=by simp only [sealA,h]
theorem PCtr.one {P:Program} {f:Nat} {t:Tm} {r:AV} (h:PCtr P f [.d (.sl (Tm.rows [t]))] r):PCtr P f [.d (.sl [Tm.row t])] r:=by rwa [Tm.rows_eq] at h
end PSL
namespace PSL
open Go Go.RowKit
section
variable {g:G} {pf:Nat→Cls} {Fin:Exit→Act→World→Prop}

theorem KP_cut {M:Env→List Ob→Prop} {k:List It} (h:∀ E objs,M E objs→RK g Fin k E objs):∀ (e:Exit) (a:Act) (w:World),KP g Fin (.mark M::k) e a w→KP g Fin k e a w:=fun e a w hk=>by
 cases e with
 | normal=>obtain ⟨E,objs,h1,h2⟩:=hk; exact h E objs h1 a w h2
 | _=>exact hk

theorem KP_under {K1 K2:List It} (h:∀ (e:Exit) (a:Act) (w:World),KP g Fin K1 e a w→KP g Fin K2 e a w) (i:It):∀ (e:Exit) (a:Act) (w:World),KP g Fin (i::K1) e a w→KP g Fin (i::K2) e a w:=fun e a w hk=>by
 cases i with
 | code c =>
  cases e with
  | normal=>exact wpIn_mono hk h
  | _=>exact h _ _ _ hk
 | blk id =>
  cases e with
  | exit j =>
   simp only [KP] at hk ⊢
   split
   ·rename_i hj; rw [if_pos hj] at hk; exact h _ _ _ hk
   ·rename_i hj; rw [if_neg hj] at hk; exact h _ _ _ hk
  | _=>exact h _ _ _ hk
 | mark M =>
  cases e with
  | normal=>exact hk
  | _=>exact h _ _ _ hk
 | dr ops r=>exact h _ _ _ hk

abbrev MarkOf {β:Type} (st:β→Env × List Ob) (inv:β→Prop):Env→List Ob→Prop:=fun E' objs'=>∃ p,inv p∧EnvIn E' (st p).1∧objs'=(st p).2

theorem RK_of_cut {β:Type} {st:β→Env × List Ob} {inv:β→Prop} {k:List It} (ho:ItsOk pf k) (hk:noDr k=true) (h2:∀ p,inv p→R g pf Fin k (st p).1 (st p).2):∀ E objs,MarkOf st inv E objs→RK g Fin k E objs:=by
 rintro E objs ⟨p,h1,h3,rfl⟩
 exact RK.of_R (pf:=pf) (k:=k) ho ((h2 p h1).ent h3.eent) (noDr_head hk)

theorem R_cut1 {β:Type} (st:β→Env × List Ob) (inv:β→Prop) {i:It} {k:List It} {E:Env} {objs:List Ob} (hk:noDr k=true) (h1:R g pf Fin (i :: .mark (MarkOf st inv)::k) E objs) (h2:∀ p,inv p→R g pf Fin k (st p).1 (st p).2):R g pf Fin (i::k) E objs:=by
 intro ho
 have hok:ItsOk pf k:=by
  cases i with
  | code c=>exact ho.2
  | _=>exact ho
 have hc:=KP_cut (RK_of_cut (g:=g) (Fin:=Fin) hok hk h2)
 have ho':ItsOk pf (i :: .mark (MarkOf st inv)::k):=by
  cases i with
  | code c=>exact ho
  | _=>exact ho
 have h:=h1 ho'
 cases i with
 | dr ops rest =>
  exact Dr.monoK (fun E objs hr a w hs=>hc _ _ _ (hr a w hs)) h
 | code c=>exact fun a w hs=>KP_under hc (.code c) _ _ _ (h a w hs)
 | blk id=>exact fun a w hs=>KP_under hc (.blk id) _ _ _ (h a w hs)
 | mark M=>exact fun a w hs=>KP_under hc (.mark M) _ _ _ (h a w hs)

theorem its_cut {M:Env→List Ob→Prop}:∀ (pre:List It) {k:List It},ItsOk pf (pre++k)→ItsOk pf (pre ++ .mark M::k)∧ItsOk pf k
 | [],_,h=>⟨h,h⟩
 | i::pre,k,h=>by
  cases i with
  | code c=>exact ⟨⟨h.1,(its_cut pre h.2).1⟩,(its_cut (M:=M) pre h.2).2⟩
  | _=>exact its_cut (M:=M) pre h

theorem KP_cutN {M:Env→List Ob→Prop} {k:List It} (h:∀ E objs,M E objs→RK g Fin k E objs):∀ (pre:List It) (e:Exit) (a:Act) (w:World),KP g Fin (pre ++ .mark M::k) e a w→KP g Fin (pre++k) e a w
 | []=>KP_cut h
 | i::pre=>KP_under (KP_cutN h pre) i

theorem R_cutN {β:Type} (pre:List It) (st:β→Env × List Ob) (inv:β→Prop) {i:It} {k:List It} {E:Env} {objs:List Ob} (hk:noDr k=true) (h1:R g pf Fin (i::(pre ++ .mark (MarkOf st inv)::k)) E objs) (h2:∀ p,inv p→R g pf Fin k (st p).1 (st p).2):R g pf Fin (i::(pre++k)) E objs:=by
 intro ho
 have hi:=its_cut (pf:=pf) (M:=MarkOf st inv) (i::pre) (k:=k) ho
 have hc:=KP_cutN (RK_of_cut (g:=g) (Fin:=Fin) hi.2 hk h2) pre
 have h:=h1 hi.1
 cases i with
 | dr ops rest=>exact Dr.monoK (fun E objs hr a w hs=>hc _ _ _ (hr a w hs)) h
 | code c=>exact fun a w hs=>KP_under hc (.code c) _ _ _ (h a w hs)
 | blk id=>exact fun a w hs=>KP_under hc (.blk id) _ _ _ (h a w hs)
 | mark M=>exact fun a w hs=>KP_under hc (.mark M) _ _ _ (h a w hs)
theorem R_cut2 {β:Type} (st:β→Env × List Ob) (inv:β→Prop) {i j:It} {k:List It} {E:Env} {objs:List Ob} (hk:noDr k=true) (h1:R g pf Fin (i::j :: .mark (MarkOf st inv)::k) E objs) (h2:∀ p,inv p→R g pf Fin k (st p).1 (st p).2):R g pf Fin (i::j::k) E objs:=R_cutN [j] st inv hk h1 h2

theorem R_to {β:Type} {st:β→Env × List Ob} {inv:β→Prop} {k:List It} {E:Env} {objs:List Ob} (p:β) (h1:inv p) (h3:EnvIn E (st p).1) (h4:objs=(st p).2):R g pf Fin (.mark (MarkOf st inv)::k) E objs:=R_mark ⟨p,h1,h3,h4⟩

theorem R_freezeO (hu:GUp g) {k:List It} {E:Env} {objs:List Ob} (i:Nat) (E':Env) (objs':List Ob) {sz s:Nat} {rows:List (List D)} (ho:nth objs i=some (.arr sz s rows)) (ht:topCode k=true)
  (hE:EnvIn (mapE (frzA i s rows) E) E') (hO:ObsIn (setN (objs.map (mapOb (frzA i s rows))) i .dead) objs') (hr:R g pf Fin k E' objs') (hdf:g.dfs=[]:=by rfl):R g pf Fin k E objs :=
 R_freeze hu i ho ht (R_weak E' hE (R_obs objs' hO ht hr)) hdf

theorem Ent.frz (i s:Nat) (rows:List (List D)):Ent (frzA i s rows (.ow i s)) (.d (.sl rows)):=by
 have:frzA i s rows (.ow i s)=.d (.sl rows):=by simp [frzA]
 rw [this]; exact .refl _
theorem Ent.bool {m n:Bool} (h:m=n):Ent (bV m) (bV n):=by subst h; exact .refl _
end
end PSL
namespace PSL
open Go Go.RowKit
section
variable {g:G} {pf:Nat→Cls} {ops:Array Oper} {Fin:Exit→Act→World→Prop}

theorem R_quo (hg:GOk g) {dst:Option Nat} {T T2:Nat} {x y:Operand} {ty:Nat} {pos:String} {after:Array Edge} {gd:Option (Nat × Bool)} {rest:List Oper} {k:List It} {E:Env} {objs:List Ob} {q:IntKind} {m n:Int}
  (hgd:guardA ops.toList E gd=some true) (hd:dstOk ⟨g.ty,g.N⟩ dst=true) (hx:ev E x=.d (.v (.int q m))) (hy:ev E y=.d (.v (.int q n))) (hn:n≠0)
  (hr:R g pf Fin (.dr ops rest::k) (putO E dst (.d (.v (.int q (q.wrap (m.tdiv n)))))) objs):R g pf Fin (.dr ops (⟨dst,.binOp .quo T x y T2,ty,pos,after,gd⟩::rest)::k) E objs:=by
 refine R_op (LocOp.up (LocOp.quiet hg hgd hd (by simp) fun φ objs a w hρ hs=>?_)) hr
 simp only [Op.operands] at hρ
 have hxv:=hρ x (by simp)
 rw [hx] at hxv
 have hyv:=hρ y (by simp)
 rw [hy] at hyv
 simp only [RV] at hxv hyv
 generalize hvx:a.eval x=vx at hxv
 generalize hvy:a.eval y=vy at hyv
 cases hxv; cases hyv
 refine out_val hs (vv:=.int q (q.wrap (m.tdiv n))) ?_ (by simp only [RV]; exact .v _)
 have hgdd:(eqGuard .quo T x y (.int q m) (.int q n)).run g.P w=.ok () w:=run_eqGuard (by rfl)
 simp only [execOp,hvx,hvy,Sem.run_bind,hgdd,Result.andThen_ok]
 simp [binOp,Op.intArith,Op.intDiv,hn]

theorem R_min (hg:GOk g) {dst:Option Nat} {x y:Operand} {ts:Array Nat} {ty:Nat} {pos:String} {after:Array Edge} {gd:Option (Nat × Bool)} {rest:List Oper} {k:List It} {E:Env} {objs:List Ob} {m n:Int}
  (hgd:guardA ops.toList E gd=some true) (hd:dstOk ⟨g.ty,g.N⟩ dst=true) (hx:ev E x=.d (.v (.int .i64 m))) (hy:ev E y=.d (.v (.int .i64 n)))
  (hr:R g pf Fin (.dr ops rest::k) (putO E dst (iV (min m n))) objs):R g pf Fin (.dr ops (⟨dst,.call { callee:=.builtin .min,args:=#[x,y],argTypes:=ts },ty,pos,after,gd⟩::rest)::k) E objs:=by
 refine R_op (LocOp.effect hg hgd hd (by simp) fun φ a w hρ hs=>?_) hr
 simp only [Op.operands,Call.operands] at hρ
 have hxv:=hρ x (by simp)
 rw [hx] at hxv
 have hyv:=hρ y (by simp)
 rw [hy] at hyv
 simp only [RV] at hxv hyv
 generalize hvx:a.eval x=vx at hxv
 generalize hvy:a.eval y=vy at hyv
 cases hxv; cases hyv
 refine out_val hs (vv:=.int .i64 (min m n)) ?_ (by simp only [RV,iV]; exact .v _)
 simp [execOp,resolve,invoke,builtin,hvx,hvy,Builtin.min_,Builtin.min2]
 omega
end
end PSL
namespace PSL
open Go Go.RowKit Go.MapKept
end PSL

namespace PSL
open Go Go.RowKit Go.ChangeShapes Go.WideShapes

def HasFs (H:Nat→List D→Prop) (ty:Nat→Option Ty):List (Nat × Nat)→List D→Prop
 | [],row=>row=[]
 | (_,t)::fs,row=>∃ (τ:Ty) (a b:List D),ty t=some τ∧row=a++b∧a.length=τ.size∧H t a∧HasFs H ty fs b

def HasTy (ty:Nat→Option Ty) (B:Nat):Nat→Nat→List D→Prop
 | 0,_,_=>False
 | n+1,t,row=>match ty t with
  | none=>False
  | some τ=>match τ.sh with
   | .int k=>∃ m,row=[.v (.int k m)]∧k.min≤m∧m≤k.max
   | .bool=>∃ b,row=[.v (.bool b)]
   | .str=>∃ s:ByteArray,row=[.v (.string s)]∧s.size≤B
   | .struct flds=>HasFs (HasTy ty B n) ty flds row
   | .slice e=>∃ rows:List (List D),row=[.sl rows]∧(∀ τ,ty e=some τ→rows.length * τ.bytes≤B)∧∀ r∈rows,HasTy ty B n e r
   | _=>False

def contig (ty:Nat→Option Ty) (size:Nat):List (Nat × Nat)→Nat→Bool
 | [],o=>o==size
 | (f,t)::fs,o=>match ty t with
  | some τ=>f==o&&contig ty size fs (o+τ.size)
  | none=>false

def dT (ty:Nat→Option Ty) (L:List Nat) (t:Nat):Bool :=
 match ty t with
 | some τ=>match τ.sh with
  | .int _=>true
  | .bool=>true
  | .str=>true
  | .struct flds=>flds.all (fun f=>L.contains f.2)&&contig ty τ.size flds 0
  | .slice e=>L.contains e&&match ty e with | some τ'=>decide (0<τ'.size) | none=>false
  | _=>false
 | none=>false
section
variable {H:Type} {enc:TypeId × Value→H} {P:Program} {w:World} {base:Nat} {held:Bool} {ty:Nat→Option Ty}

theorem cellsOf_ty (hty:TyOk P ty) {t:Nat} {τ:Ty} (h:ty t=some τ):P.cellsOf t=τ.size:=by
 obtain ⟨i,z,h1,_,h3,_⟩:=(hty t τ h).info
 simp [Program.cellsOf,h1,h3]
theorem und_ty (hty:TyOk P ty) {t:Nat} {τ:Ty} (h:ty t=some τ):ShFact P t τ.sh:=(hty t τ h).sh

theorem weightsAll_mem {P:Program} {e:TypeId} {d:DataW H} {m:Nat}:∀ {l:List (DataW H)},d∈l→m∈d.weights P e→m∈DataW.weightsAll P e l
 | x::l,h,hm=>by
  simp only [DataW.weightsAll,List.mem_append]
  rcases List.mem_cons.1 h with rfl | h
  ·exact .inl hm
  ·exact .inr (weightsAll_mem h hm)

theorem choose_lt {α:Type} [Inhabited α] {n:Nat} {p:Nat→α→Prop} (h:∀ i,i<n→∃ x,p i x):∃ f:Nat→α,∀ i,i<n→p i (f i):=by
 classical
 refine ⟨fun i=>if hi:i<n then Classical.choose (h i hi) else default,fun i hi=>?_⟩
 simp only [dif_pos hi]
 exact Classical.choose_spec (h i hi)

theorem trod_rd (hty:TyOk P ty) {L:List Nat} (hL:∀ t∈L,dT ty L t=true) (B:Nat):∀ (n t:Nat) (τ:Ty) (cs:List Value) (x:DataW H × List MemPlace),t∈L→DataW.trod enc P w base (fun _=>true) held n t cs=some x→ty t=some τ→(∀ m∈x.1.weights P t,m≤B) →
  ∃ row,cs.length=τ.size∧row.length=τ.size∧HasTy ty B n t row∧∀ (j:Nat) (d:D),row[j]? = some d→∃ v,cs[j]? = some v∧Rd (fun _=>True) w d v
 | 0,_,_,_,_,_,h,_,_=>by simp [DataW.trod] at h
 | n+1,t,τ,cs,x,htL,h,hτ,hwt=>by
  have hd:=hL t htL
  have hsh:=und_ty hty hτ
  have h1:=(hty t τ hτ).one
  unfold dT at hd
  rw [hτ] at hd
  simp only at hd
  have one:∀ (d:D) (v:Value),τ.size=1→cs=[v]→Rd (fun _=>True) w d v→HasTy ty B (n+1) t [d]→∃ row,cs.length=τ.size∧row.length=τ.size∧HasTy ty B (n+1) t row∧∀ (j:Nat) (d:D),row[j]? = some d→∃ v,cs[j]? = some v∧Rd (fun _=>True) w d v:=by
   intro d v hs hcs hr hh
   refine ⟨[d],by rw [hcs,hs]; rfl,by rw [hs]; rfl,hh,fun j d' hj=>?_⟩
   match j,hj with
   | 0,hj=>simp at hj; subst hj; exact ⟨v,by rw [hcs]; rfl,hr⟩
  cases hs:τ.sh with
  | one=>rw [hs] at hd; cases hd
  | int k =>
   rw [hs] at hsh; simp only [ShFact] at hsh
   obtain ⟨m,hcs,hx,hwf⟩:=DataW.trod_int hsh h
   refine one (.v (.int k m)) _ (h1 (by unfold Ty.agg; rw [hs])) hcs (.v _) ?_
   simp only [HasTy,hτ,hs]
   simp only [Lit.wf,Bool.and_eq_true,decide_eq_true_eq] at hwf
   exact ⟨m,rfl,hwf⟩
  | bool =>
   rw [hs] at hsh; simp only [ShFact] at hsh
   obtain ⟨b,hcs,hx⟩:=DataW.trod_bool hsh h
   refine one (.v (.bool b)) _ (h1 (by unfold Ty.agg; rw [hs])) hcs (.v _) ?_
   simp only [HasTy,hτ,hs]
   exact ⟨b,rfl⟩
  | str =>
   rw [hs] at hsh; simp only [ShFact] at hsh
   obtain ⟨s,hcs,hx,hwf⟩:=DataW.trod_string hsh h
   refine one (.v (.string s)) _ (h1 (by unfold Ty.agg; rw [hs])) hcs (.v _) ?_
   simp only [HasTy,hτ,hs]
   subst hx
   exact ⟨s,rfl,by simpa using hwt s.data.toList.length (by simp [DataW.weights])⟩
  | struct flds =>
   rw [hs] at hsh hd; simp only [ShFact] at hsh
   simp only [Bool.and_eq_true,List.all_eq_true,List.contains_iff_mem] at hd
   obtain ⟨fs,hu,hfl,_⟩:=hsh
   obtain ⟨xs,n',hn,hx,hcl,hxl,hall⟩:=DataW.trod_struct hu h
   cases hn
   rw [cellsOf_ty hty hτ] at hcl
   have hmem:∀ f∈flds,∃ x,DataW.trod enc P w base (fun _=>true) held n f.2 ((cs.drop f.1).take (P.cellsOf f.2))=some x∧∀ m∈x.1.weights P f.2,m≤B:=by
    intro f hf
    rw [← hfl] at hf
    obtain ⟨fl,hfl',rfl⟩:=List.mem_map.1 hf
    obtain ⟨i,hi,hii⟩:=List.mem_iff_getElem.1 hfl'
    have e1:fs[i]? = some fl:=by rw [← Array.getElem?_toList,List.getElem?_eq_getElem hi,hii]
    have hix:i<xs.length:=by rw [hxl]; simpa using hi
    refine ⟨xs[i],by rw [hall i fl e1]; exact List.getElem?_eq_getElem hix,fun m hm=>hwt m ?_⟩
    rw [hx]
    simp only [DataW.weights,hu]
    exact DataW.weights_mem_each (j:=i) (by rw [List.getElem?_map,List.getElem?_eq_getElem hi,hii]; rfl) (by rw [List.getElem?_map,List.getElem?_eq_getElem hix]; rfl) m hm
   have hind:∀ (t:Nat) (τ:Ty) (l:List Value) (x:DataW H × List MemPlace),t∈L→DataW.trod enc P w base (fun _=>true) held n t l=some x→ty t=some τ→(∀ m∈x.1.weights P t,m≤B)→∃ row,l.length=τ.size∧row.length=τ.size∧HasTy ty B n t row∧∀ (j:Nat) (d:D),row[j]? = some d→∃ v,l[j]? = some v∧Rd (fun _=>True) w d v :=
    fun t τ l x ht h h' h''=>trod_rd hty hL B n t τ l x ht h h' h''
   obtain ⟨row,g1,g2,g3⟩:∃ row,0+row.length=τ.size∧HasFs (HasTy ty B n) ty flds row∧∀ (j:Nat) (d:D),row[j]? = some d→∃ v,cs[0+j]? = some v∧Rd (fun _=>True) w d v:=by
    have key:∀ (fs:List (Nat × Nat)) (o:Nat),(∀ f∈fs,f.2∈L)→contig ty τ.size fs o=true→(∀ f∈fs,∃ x,DataW.trod enc P w base (fun _=>true) held n f.2 ((cs.drop f.1).take (P.cellsOf f.2))=some x∧∀ m∈x.1.weights P f.2,m≤B) →
      ∃ row,o+row.length=τ.size∧HasFs (HasTy ty B n) ty fs row∧∀ (j:Nat) (d:D),row[j]? = some d→∃ v,cs[o+j]? = some v∧Rd (fun _=>True) w d v:=by
     intro fs
     induction fs with
     | nil=>intro o _ hc _; simp only [contig,beq_iff_eq] at hc; exact ⟨[],by simpa using hc,rfl,by simp⟩
     | cons ft fs ih =>
      obtain ⟨f,t⟩:=ft
      intro o hm hc hf
      simp only [contig] at hc
      split at hc
      case h_2=>cases hc
      rename_i τ' hτ'
      simp only [Bool.and_eq_true,beq_iff_eq] at hc
      obtain ⟨rfl,hc⟩:=hc
      obtain ⟨row2,h1,h2,h3⟩:=ih (f+τ'.size) (fun g hg=>hm g (List.mem_cons_of_mem _ hg)) hc fun g hg=>hf g (List.mem_cons_of_mem _ hg)
      obtain ⟨x,hx,hxw⟩:=hf (f,t) (List.mem_cons_self ..)
      obtain ⟨row1,g1,g2,g3,g4⟩:=hind t τ' _ x (hm (f,t) (List.mem_cons_self ..)) hx hτ' hxw
      rw [cellsOf_ty hty hτ'] at g1 g4
      refine ⟨row1++row2,by rw [List.length_append]; omega,⟨τ',row1,row2,hτ',rfl,g2,g3,h2⟩,fun j d hj=>?_⟩
      by_cases hlt:j<row1.length
      ·rw [List.getElem?_append_left hlt] at hj
       obtain ⟨v,g5,g6⟩:=g4 j d hj
       rw [List.getElem?_take_of_lt (by omega),List.getElem?_drop] at g5
       exact ⟨v,g5,g6⟩
      ·rw [List.getElem?_append_right (by omega)] at hj
       obtain ⟨v,g5,g6⟩:=h3 _ d hj
       exact ⟨v,by rw [show f+j=f+τ'.size+(j - row1.length) by omega]; exact g5,g6⟩
    exact key flds 0 hd.1 hd.2 hmem
   refine ⟨row,hcl,by omega,?_,fun j d hj=>by simpa using g3 j d hj⟩
   simp only [HasTy,hτ,hs]; exact g2
  | array m e=>rw [hs] at hd; cases hd
  | map k e=>rw [hs] at hd; cases hd
  | slice e =>
   rw [hs] at hsh hd; simp only [ShFact] at hsh
   simp only [Bool.and_eq_true,List.contains_iff_mem] at hd
   obtain ⟨heL,hd⟩:=hd
   split at hd
   case h_2=>cases hd
   rename_i τe hτe
   have hpos:=of_decide_eq_true hd
   have hsz:=h1 (by unfold Ty.agg; rw [hs])
   rcases DataW.trod_slice hsh h with ⟨hcs,_⟩ | ⟨a,len,cap,elems,rest,n',hn,hcs,hx,hb,hl,hm,hlen,hel,hsp,_⟩
   ·refine one (.sl []) _ hsz hcs (.nil _ _) ?_
    simp only [HasTy,hτ,hs]
    exact ⟨[],rfl,fun _ _=>by simp,by simp⟩
   ·cases hn
    rcases Nat.eq_zero_or_pos len with h0 | h0
    ·subst h0
     refine one (.sl []) _ hsz hcs (.nil _ _) ?_
     simp only [HasTy,hτ,hs]
     exact ⟨[],rfl,fun _ _=>by simp,by simp⟩
    have hce:=cellsOf_ty hty hτe
    have hrow:∀ i,i<len→∃ row:List D,∃ l:List Value,w.cells? base (a.add (i * τe.size)) τe.size=some l∧l.length=τe.size∧row.length=τe.size∧HasTy ty B n e row∧∀ (j:Nat) (d:D),row[j]? = some d→∃ v,l[j]? = some v∧Rd (fun _=>True) w d v:=by
     intro i hi
     have h2:=hel i hi
     rw [hce] at h2
     have h3:elems[i]? = some elems[i]:=List.getElem?_eq_getElem (by omega)
     rw [h3] at h2
     obtain ⟨l,h4,h5⟩:=Option.bind_eq_some_iff.1 h2
     obtain ⟨row,g1,g2,g3,g4⟩:=trod_rd hty hL B n e τe l _ heL h5 hτe fun m hm=>hwt m (by
      rw [hx]; simp only [DataW.weights,hsh,List.mem_cons,List.mem_append]
      exact .inr (.inl (weightsAll_mem (List.mem_map.2 ⟨elems[i],List.getElem_mem _,rfl⟩) hm)))
     exact ⟨row,l,h4,g1,g2,g3,g4⟩
    obtain ⟨R,hR⟩:=choose_lt hrow
    obtain ⟨V,hV⟩:=choose_lt (fun i hi=>hR i hi)
    obtain ⟨b,o,sp⟩:=a
    have hcell:∀ i,i<len→∀ j,j<τe.size→w.cell? ((⟨b,o,sp⟩:Addr).add (i * τe.size) |>.add j)=(V i)[j]? := fun i hi j hj=>(World.cells?_some (hV i hi).1).2.2 j hj
    have h00:=hcell 0 h0 0 hpos
    simp only [Nat.zero_mul,Addr.add,if_true] at h00
    have hv0:(V 0)[0]? = some ((V 0)[0]'(by rw [(hV 0 h0).2.1]; exact hpos)):=List.getElem?_eq_getElem _
    rw [hv0] at h00
    simp only [World.cell?] at h00
    split at h00
    case h_2=>cases h00
    rename_i c T fr hheap
    split at h00
    ·cases h00
    rename_i hsp0
    have:sp=none:=by cases sp with
     | none=>rfl
     | some s=>simp at hsp0
    subst this
    have hcell':∀ i,i<len→∀ j,j<τe.size→c[o+i * τe.size+j]? = (V i)[j]? := fun i hi j hj=>by
     have h2:=hcell i hi j hj
     rw [add_none,add_none] at h2
     simp only [World.cell?,hheap] at h2
     simpa using h2
    refine one (.sl ((List.range len).map R)) _ hsz hcs ?_ ?_
    ·have key:=Rd.sl (S:=fun _=>True) (w:=w) (rows:=(List.range len).map R) (b:=b) (o:=o) (cap:=cap) (sz:=τe.size) (cs:=c) (T:=T) (fr:=fr) (fun i j=>((V i)[j]?).getD undef) trivial hheap (by simpa using hl) hm
      (fun i r hi=>?_) (fun i r j x hi hj=>?_) (fun i r j x hi hj=>?_)
     ·simpa using key
     ·have hlt:=(List.getElem?_eq_some_iff.1 hi).1
      simp at hlt
      rw [List.getElem?_map,List.getElem?_range hlt] at hi
      simp at hi; subst hi; exact (hV i hlt).2.2.1
     ·have hlt:=(List.getElem?_eq_some_iff.1 hi).1
      simp at hlt
      rw [List.getElem?_map,List.getElem?_range hlt] at hi
      simp at hi; subst hi
      obtain ⟨v,g1,_⟩:=(hV i hlt).2.2.2.2 j x hj
      have hjl:=(List.getElem?_eq_some_iff.1 hj).1
      rw [(hV i hlt).2.2.1] at hjl
      rw [hcell' i hlt j hjl,g1]; rfl
     ·have hlt:=(List.getElem?_eq_some_iff.1 hi).1
      simp at hlt
      rw [List.getElem?_map,List.getElem?_range hlt] at hi
      simp at hi; subst hi
      obtain ⟨v,g1,g2⟩:=(hV i hlt).2.2.2.2 j x hj
      rw [g1]; exact g2
    ·simp only [HasTy,hτ,hs]
     refine ⟨_,rfl,fun τ' hτ'=>?_,fun r hr=>?_⟩
     ·rw [hτe] at hτ'; cases hτ'
      have h2:=hwt ((elems.length+rest.length) * P.bytesOf e) (by rw [hx]; simp [DataW.weights,hsh])
      have h3:P.bytesOf e=τe.bytes:=by
       obtain ⟨i,z,h1,_,_,h4,_⟩:=(hty e τe hτe).info
       simp [Program.bytesOf,h1,h4]
      rw [h3,hlen,Nat.add_mul] at h2
      simp; omega
     obtain ⟨i,hi,rfl⟩:=List.mem_map.1 hr
     exact (hV i (List.mem_range.1 hi)).2.2.2.1
end
end PSL
namespace PSL
open Go Go.RowKit Go.ChangeShapes Go.WideShapes Go.ChangeAt

def avOf (τ:Ty) (row:List D):AV :=
 match τ.agg with
 | true=>.agg (row.map .d)
 | false=>match row with
  | [x]=>.d x
  | _=>.any

def ArgsAre (ty:Nat→Option Ty) (B:Nat):List Nat→List AV→Prop
 | [],[]=>True
 | t::ts,a::axs=>(∃ (n:Nat) (τ:Ty) (row:List D),ty t=some τ∧HasTy ty B n t row∧row.length=τ.size∧a=avOf τ row)∧ArgsAre ty B ts axs
 | _,_=>False
section
variable {H:Type} {enc:TypeId × Value→H} {P:Program} {ty:Nat→Option Ty}

theorem rvs_ds {S:Nat→Prop} {w:World} {φ:List Phy} {row:List D} {cs:List Value} (hl:row.length=cs.length) (h:∀ (j:Nat) (d:D),row[j]? = some d→∃ v,cs[j]? = some v∧Rd S w d v):RVs S w φ (row.map .d) cs :=
 RVs.of_get (by simpa using hl) fun i x v hx hv=>by
  rw [List.getElem?_map] at hx
  cases hr:row[i]? with
  | none=>rw [hr] at hx; cases hx
  | some d =>
   rw [hr] at hx; simp at hx; subst hx
   obtain ⟨v',h1,h2⟩:=h i d hr
   rw [hv] at h1; cases h1
   simpa only [RV] using h2

theorem open_arg (hty:TyOk P ty) {L:List Nat} (hL:∀ t∈L,dT ty L t=true) {B:Nat} {W:World} {base t:Nat} {τ:Ty} {v:Value} {d:DataW H} {ps:List MemPlace} (ht:t∈L) (hτ:ty t=some τ)
  (hok:Value.okWide P W .any base t v) (h:DataW.Trod enc P W 0 (fun _=>true) true t v d ps) (hw:∀ m∈d.weights P t,m≤B) :
  ∃ (n:Nat) (row:List D),HasTy ty B n t row∧row.length=τ.size∧RV (fun _=>True) W [] (avOf τ row) v:=by
 obtain ⟨n,hn⟩:=h
 obtain ⟨row,h1,h2,h3,h4⟩:=trod_rd hty hL B n t τ _ _ ht hn hτ hw
 refine ⟨n,row,h3,h2,?_⟩
 have hd:=hL t ht
 have hsh:=(hty t τ hτ).sh
 have hone:=(hty t τ hτ).one
 unfold dT at hd
 rw [hτ] at hd
 simp only at hd
 have single:(∃ c,v.cells.toList=[c]∧v=c)→τ.agg=false→RV (fun _=>True) W [] (avOf τ row) v:=by
  rintro ⟨c,hc,rfl⟩ ha
  unfold avOf
  rw [ha]
  have hs:=hone ha
  match row,h2 with
  | [x],_ =>
   simp only
   obtain ⟨v',h5,h6⟩:=h4 0 x rfl
   rw [hc] at h5; simp at h5; subst h5
   simpa only [RV] using h6
  | [],h=>rw [hs] at h; simp at h
  | _::_::_,h=>rw [hs] at h; simp at h
 cases hs:τ.sh with
 | one=>rw [hs] at hd; cases hd
 | array m e=>rw [hs] at hd; cases hd
 | map k e=>rw [hs] at hd; cases hd
 | int k =>
  rw [hs] at hsh; simp only [ShFact] at hsh
  obtain ⟨m,rfl⟩:=okWide_int hsh hok
  exact single ⟨_,rfl,rfl⟩ (by unfold Ty.agg; rw [hs])
 | bool =>
  rw [hs] at hsh; simp only [ShFact] at hsh
  obtain ⟨m,rfl⟩:=okWide_bool hsh hok
  exact single ⟨_,rfl,rfl⟩ (by unfold Ty.agg; rw [hs])
 | str =>
  rw [hs] at hsh; simp only [ShFact] at hsh
  obtain ⟨m,rfl⟩:=okWide_string hsh hok
  exact single ⟨_,rfl,rfl⟩ (by unfold Ty.agg; rw [hs])
 | slice e =>
  rw [hs] at hsh; simp only [ShFact] at hsh
  obtain ⟨a,l,c,rfl⟩:=okWide_slice hsh hok
  exact single ⟨_,rfl,rfl⟩ (by unfold Ty.agg; rw [hs])
 | struct flds =>
  rw [hs] at hsh; simp only [ShFact] at hsh
  obtain ⟨fs,hu,_⟩:=hsh
  obtain ⟨cs,rfl,_⟩:=okWide_struct hu hok
  have ha:τ.agg=true:=by unfold Ty.agg; rw [hs]
  unfold avOf
  rw [ha]
  simp only [Value.cells] at h1 h4
  simp only [RV]
  exact ⟨cs.toList,by simp,rvs_ds (by rw [h1,h2]) h4⟩

theorem open_args (hty:TyOk P ty) {L:List Nat} (hL:∀ t∈L,dT ty L t=true) {B:Nat} {W:World} {base:Nat}:∀ (ts:List Nat) (vs:List Value) (ds:List (DataW H)) (ps:List MemPlace),(∀ t∈ts,t∈L∧(ty t).isSome=true)→DataW.TrodAll enc P W 0 (fun _=>true) true ts vs ds ps →
  (∀ (j:Nat) (t:Nat) (v:Value),ts[j]? = some t→vs[j]? = some v→Value.okWide P W .any base t v)→(∀ m∈DataW.weightsEach P ts ds,m≤B)→∃ axs,RVs (fun _=>True) W [] axs vs∧ArgsAre ty B ts axs∧ds.length=ts.length
 | [],[],[],_,_,_,_,_=>⟨[],by simp [RVs],trivial,rfl⟩
 | [],_::_,_,_,_,h,_,_=>by simp [DataW.TrodAll] at h
 | [],[],_::_,_,_,h,_,_=>by simp [DataW.TrodAll] at h
 | _::_,[],_,_,_,h,_,_=>by simp [DataW.TrodAll] at h
 | _::_,_::_,[],_,_,h,_,_=>by simp [DataW.TrodAll] at h
 | t::ts,v::vs,d::ds,ps,hl,h,hok,hw=>by
  simp only [DataW.TrodAll] at h
  obtain ⟨p,q,h1,h2,rfl⟩:=h
  obtain ⟨htL,htS⟩:=hl t (by simp)
  obtain ⟨τ,hτ⟩:=Option.isSome_iff_exists.1 htS
  simp only [DataW.weightsEach,List.mem_append] at hw
  obtain ⟨n,row,h3,h4,h5⟩:=open_arg hty hL htL hτ (hok 0 t v rfl rfl) h1 fun m hm=>hw m (.inl hm)
  obtain ⟨axs,h6,h7,h8⟩:=open_args hty hL ts vs ds q (fun t ht=>hl t (by simp [ht])) h2 (fun j t v ht hv=>hok (j+1) t v (by simpa using ht) (by simpa using hv)) fun m hm=>hw m (.inr hm)
  exact ⟨avOf τ row::axs,by simp only [RVs]; exact ⟨h5,h6⟩,⟨⟨n,τ,row,hτ,h3,h4,rfl⟩,h7⟩,by simp [h8]⟩

theorem trodAll_stays (hl:laidOutB P=true) {W W':World} (hb:Below W.heap.size W W') {sp:Nat→Bool}:∀ (ts:List Nat) (vs:List Value) (ds:List (DataW H)) (ps:List MemPlace),(∀ t∈ts,P.readableRec t=true∧t<P.types.size)→DataW.TrodAll enc P W 0 (fun _=>true) true ts vs ds ps →
  (∀ p∈ps,p.block<W.heap.size∧sp p.block=true)→DataW.TrodAll enc P W' 0 sp true ts vs ds ps
 | [],[],[],_,_,h,_=>h
 | [],_::_,_,_,_,h,_=>by simp [DataW.TrodAll] at h
 | [],[],_::_,_,_,h,_=>by simp [DataW.TrodAll] at h
 | _::_,[],_,_,_,h,_=>by simp [DataW.TrodAll] at h
 | _::_,_::_,[],_,_,h,_=>by simp [DataW.TrodAll] at h
 | t::ts,v::vs,d::ds,ps,hr,h,hp=>by
  simp only [DataW.TrodAll] at h ⊢
  obtain ⟨p,q,h1,h2,rfl⟩:=h
  obtain ⟨hr1,hr2⟩:=hr t (by simp)
  exact ⟨p,q,WideElems.Trod_stays hl hr1 hr2 h1 (fun x hx=>hb.same (hp x (by simp [hx])).1) (fun x hx=>(hp x (by simp [hx])).2),
   trodAll_stays hl hb ts vs ds q (fun t ht=>hr t (by simp [ht])) h2 (fun x hx=>hp x (by simp [hx])),rfl⟩

theorem law_post {f:Func} {s:ChangeSpec} {apart fresh handsOn again:Bool} {W W':World} {args:Array Value} {v:Value} {ds gs:List (DataW H)} {before pa pv:List MemPlace}
  (hW:DataW.Whole enc P f.params.toList s.vars apart W args.toList ds gs before)
  (hres:∀ (b:Nat) (sp:Nat→Bool) (hd:Bool),DataW.TrodAll enc P W' b sp hd f.resultTypes.toList (v.resultList f.resultTypes.size) (s.fn H (ds++gs)).results [])
  (hargs:∀ sp:Nat→Bool,(∀ p∈before,sp p.block=true)→DataW.TrodAll enc P W' 0 sp true f.params.toList args.toList (s.fn H (ds++gs)).args pa)
  (hvars:∀ sp:Nat→Bool,(∀ p∈before,sp p.block=true)→DataW.TrodVars enc P W' sp s.vars (s.fn H (ds++gs)).vars pv)
  (hps:before=pa++pv) (hb:Below W.heap.size W W')
  (hok:∀ (j:Nat) (t:TypeId) (r:Value),f.resultTypes[j]? = some t→(v.resultList f.resultTypes.size)[j]? = some r→Value.okWide P W' .any 0 t r) :
  s.post enc P f apart fresh handsOn again W args v W':=by
 have hlt:∀ p∈before,p.block<W.heap.size:=fun p hp=>hW.lt p hp
 have hold:∀ p∈before,(fun b=>decide (b<W.heap.size)) p.block=true:=fun p hp=>by simpa using hlt p hp
 refine ⟨ds,gs,before,[],pa,pv,hW,hres _ _ _,hargs _ hold,hvars _ hold,World.keptBut_mono (fun p hp=>⟨hp,?_⟩) (hb.frame (· ∈ before)),fun _=>?_⟩
 ·rw [hps,List.mem_append] at hp
  exact Or.inr hp
 ·obtain ⟨_,_,_,_,_,hz,hn⟩:=hW
  refine ⟨hok,_,_,([]++pa)++pv,⟨[]++pa,pv,trodAll_append (hargs _ (fun _ _=>rfl)) (hres _ _ _),hvars _ (fun _ _=>rfl),rfl,?_,?_⟩,?_⟩
  ·intro b off hp
   have hin:MemPlace.cell b off∈before:=by rw [hps]; simpa using hp
   rw [hb.frozen (hlt _ hin)]
   exact hz b off hin
  ·intro ha
   have:=hn ha
   rw [hps] at this
   simpa using this
  ·intro p hp _
   rw [hps]
   simpa using hp

structure LawSpec (s:ChangeSpec) (n:Nat):Prop where
 vars:s.vars=[]
 fn:∀ (H:Type) (ds:List (DataW H)),ds.length=n→s.fn H ds={ results:=[.lit (.bool true)],args:=ds }

theorem law_calls (hty:TyOk P ty) {L:List Nat} (hL:∀ t∈L,dT ty L t=true) (hl:laidOutB P=true) {f:Nat} {fn:Func} {s:ChangeSpec} {apart fresh handsOn again:Bool} {tb:Nat} (hs:LawSpec s fn.params.size) (hr:fn.resultTypes=#[tb]) (htb:P.underlying tb=some .bool)
  (hpar:∀ t∈fn.params.toList,t∈L∧(ty t).isSome=true) (hrd:∀ t∈fn.params.toList,P.readableRec t=true∧t<P.types.size)
  (hctr:∀ axs,ArgsAre ty reachBytes fn.params.toList axs→PCtr P f axs (bV true)) {W:World} (hamb:AmbOk P (fun _=>True) W) {base:Nat} {args:Array Value} {ds gs:List (DataW H)} {before:List MemPlace} {vt:List Nat}
  (hok:∀ (j:Nat) t v,fn.params[j]? = some t→args[j]? = some v→Value.okWide P W .any base t v) (hW:DataW.Whole enc P fn.params.toList s.vars apart W args.toList ds gs before)
  (hwt:(DataW.weightsEach P (fn.params.toList++vt) (ds++gs)).all (· ≤ reachBytes)=true) :
  Calls P f args W fun e W'=>∃ v,e=.returned v∧s.post enc P fn apart fresh handsOn again W args v W':=by
 have hW':=hW
 obtain ⟨p,q,hA,hV,rfl,_,_⟩:=hW
 rw [hs.vars] at hV
 obtain ⟨rfl,rfl⟩:=trodVars_none hV
 have hdl:∀ {ts:List Nat} {vs:List Value} {ds:List (DataW H)} {ps:List MemPlace},DataW.TrodAll enc P W 0 (fun _=>true) true ts vs ds ps→ds.length=ts.length:=by
  intro ts
  induction ts with
  | nil=>intro vs ds ps h; cases vs <;> cases ds <;> simp [DataW.TrodAll] at h ⊢
  | cons t ts ih=>intro vs ds ps h; cases vs <;> cases ds <;> simp [DataW.TrodAll] at h ⊢; obtain ⟨_,_,_,h,_⟩:=h; exact ih h
 have hlen:=hdl hA
 have hw:∀ m∈DataW.weightsEach P fn.params.toList ds,m≤reachBytes:=fun m hm=>by
  have key:∀ (ts vt:List Nat) (ds:List (DataW H)),ds.length=ts.length→DataW.weightsEach P (ts++vt) (ds++[])=DataW.weightsEach P ts ds:=by
   intro ts
   induction ts with
   | nil=>intro vt ds h; have:ds=[]:=List.length_eq_zero_iff.1 (by simpa using h); subst this; cases vt <;> simp [DataW.weightsEach]
   | cons t ts ih=>intro vt ds h; cases ds with
    | nil=>simp at h
    | cons d ds=>simp only [List.cons_append,DataW.weightsEach]; rw [ih vt ds (by simpa using h)]
  rw [key _ _ _ hlen,List.all_eq_true] at hwt
  simpa using hwt m hm
 obtain ⟨axs,h1,h2,_⟩:=open_args hty hL fn.params.toList args.toList ds p hpar hA (fun j t v ht hv=>hok j t v (by simpa using ht) (by simpa using hv)) hw
 have hc:=(hctr axs h2).run (fun _=>True) W args.toList hamb (fun _ _=>trivial) h1
 rw [show args.toList.toArray=args from by simp] at hc
 refine hc.mono ?_
 rintro e W' ⟨v,rfl,hv,hb⟩
 simp only [bV,RV] at hv
 cases hv
 have hds:ds.length=fn.params.size:=by rw [hlen]; simp
 have hfn:s.fn H (ds++[])={ results:=[.lit (.bool true)],args:=ds }:=by rw [List.append_nil]; exact hs.fn H ds hds
 refine ⟨_,rfl,law_post (pa:=p) (pv:=[]) hW' (fun b sp hd=>?_) (fun sp hsp=>?_) (fun sp hsp=>?_) rfl hb ?_⟩
 ·rw [hfn,hr]
  exact trodAll_mk1 (shut_bool htb true)
 ·rw [hfn]
  exact trodAll_stays hl hb _ _ _ _ hrd hA fun x hx=>⟨hW'.lt x (by simp [hx]),hsp x (by simp [hx])⟩
 ·rw [hfn,hs.vars]; rfl
 ·exact ok_one hr rfl (okWide_bool_mk htb true)
end
end PSL
namespace PSL
open Go Go.RowKit
section
variable {g:G} {pf:Nat→Cls} {ops:Array Oper} {Fin:Exit→Act→World→Prop}

open Classical in
theorem R_loadJ (hg:GOk g) (m:Nat) {dst:Option Nat} {T:Nat} {x:Operand} {ty:Nat} {pos:String} {after:Array Edge} {gd:Option (Nat × Bool)} {rest:List Oper} {k:List It} {E:Env} {objs:List Ob}
  {i off:Nat} {l:List AV} {τ:Ty} {v:AV} (hi:¬ mayO g.φ0.length m i (.box l))
  (hgd:guardA ops.toList E gd=some true) (hd:dstOk ⟨g.ty,g.N⟩ dst=true) (hcl:ldClsAt pf x=.look (m+1)) (hx:ev E x=.lo i off) (ho:nth objs i=some (.box l)) (hT:g.ty T=some τ) (hp:packA τ l off=some v)
  (hr:R g pf Fin (.dr ops rest::k) (putO E dst v) objs):R g pf Fin (.dr ops (⟨dst,.load T x,ty,pos,after,gd⟩::rest)::k) E objs:=by
 refine R_op ?_ hr
 simp only [clsOf,hcl]
 refine LocOp.lookingM hg m hgd hd (by simp) fun φ a w objs₁ hgr hρ hs=>?_
 simp only [Op.operands] at hρ
 have hxv:=hρ x (by simp)
 rw [hx] at hxv
 have hxv':=hxv
 simp only [RV] at hxv'
 obtain ⟨b,hb,_⟩:=hxv'
 have ho:nth objs₁ i=some (.box l):=by
  rw [nth_eq] at ho ⊢
  exact Gr.same' hgr ho (by rw [← hs.len]; exact (List.getElem?_eq_some_iff.1 hb).1) hi
 refine stepOp_ok (ρA:=fun y=>if y=x then .lo i off else .any) hg.ty hs (fun y=>?_) ?_
 ·split
  ·rename_i h; rw [h]; exact hxv
  ·simp [RV]
 ·simp only [stepOp,stepS,stepL,hT,if_true,ho,hp]

theorem R_load4 (hg:GOk g) {dst:Option Nat} {T:Nat} {x:Operand} {ty:Nat} {pos:String} {after:Array Edge} {gd:Option (Nat × Bool)} {rest:List Oper} {k:List It} {E:Env} {objs:List Ob}
  {i off:Nat} {l:List AV} {τ:Ty} {v:AV} (hi:g.φ0.length≤i)
  (hgd:guardA ops.toList E gd=some true) (hd:dstOk ⟨g.ty,g.N⟩ dst=true) (hcl:ldClsAt pf x=.look 4) (hx:ev E x=.lo i off) (ho:nth objs i=some (.box l)) (hT:g.ty T=some τ) (hp:packA τ l off=some v)
  (hr:R g pf Fin (.dr ops rest::k) (putO E dst v) objs):R g pf Fin (.dr ops (⟨dst,.load T x,ty,pos,after,gd⟩::rest)::k) E objs :=
 R_loadJ hg 3 (by unfold mayO Ob.lvl; simp only; rw [if_neg (by omega)]; omega) hgd hd hcl hx ho hT hp hr

open Classical in
theorem R_storeJ (hg:GOk g) {dst:Option Nat} {T:Nat} {d x:Operand} {ty:Nat} {pos:String} {after:Array Edge} {gd:Option (Nat × Bool)} {rest:List Oper} {k:List It} {E:Env} {objs:List Ob}
  {i off:Nat} {l new:List AV} {τ:Ty}
  (hgd:guardA ops.toList E gd=some true) (hd:dstOk ⟨g.ty,g.N⟩ dst=true) (hcl:stClsAt pf d=.turn (Nat.add 100 i)) (hx:ev E d=.lo i off) (ho:nth objs i=some (.box l)) (hT:g.ty T=some τ) (hc:cellsO (ev E x)=some new)
  (hl:Nat.beq (len new) τ.size=true) (hfit:Nat.ble (Nat.add off τ.size) (len l)=true)
  (hr:R g pf Fin (.dr ops rest::k) (putO E dst .any) (setN objs i (.box (spliceA l off new)))):R g pf Fin (.dr ops (⟨dst,.store T d x,ty,pos,after,gd⟩::rest)::k) E objs:=by
 refine R_op ?_ hr
 simp only [clsOf,hcl]
 refine .of_out hg (guardA_ok hgd) (dstOk_ok hd) (by simp) (fun h=>absurd rfl (h _)) (fun b hb _=>?_) fun φ o₁ o₁' a w E₁ hent hv ho' hs=>?_
 ·cases hb
  intro j y hj
  rw [nth_eq] at ho
  rw [setN_eq]
  by_cases e:j=i
  ·subst e
   exact ⟨_,List.getElem?_set_self (List.getElem?_eq_some_iff.1 ho).1,.inr ⟨.inr (.inl rfl),.inr (.inl rfl)⟩⟩
  ·exact ⟨y,by rw [List.getElem?_set_ne (fun h=>e h.symm)]; exact hj,.inl rfl⟩
 ·rcases ho' with ⟨h,_⟩ | ⟨_,h,_⟩ | ⟨rfl,rfl⟩
  ·cases h
  ·cases h
  have hρ:=rv_ops hent hv
  simp only [Op.operands] at hρ
  refine stepOp_ok (ρA:=fun y=>if y=d then .lo i off else if y=x then ev E x else .any) hg.ty hs (fun y=>?_) ?_
  ·split
   ·rename_i h; rw [h,← hx]; exact hρ d (by simp)
   ·split
    ·rename_i h; rw [h]; exact hρ x (by simp)
    ·simp [RV]
  ·have hxx:(if x=d then AV.lo i off else if x=x then ev E x else .any)=ev E x:=by
    split
    ·rename_i h; rw [h,hx]
    ·rw [if_pos rfl]
   have hxx':(if x=d then AV.lo i off else ev E x)=ev E x:=by rw [if_pos rfl] at hxx; exact hxx
   simp only [stepOp,stepS,stepL,stepE,hT,if_true,ho,hxx',hc,hl,hfit,cond_true]

theorem R_callS3 (hg:GOk g) (hu:GUp g) (hF:g.F=Fence.wide∧g.dep=0) (hY:∀ (i l:Nat) (I:Nat→(Nat→Prop)→(Nat→Prop)→World→Prop) (B:Nat→Prop),g.φ0[i]? = some (Phy.ext l I B)→YStep g.P Fence.wide 0 g.Y l I g.S0) (is:List Nat) (objs':List Ob) {Y:YP} {f:Nat} {axs:List AV} {objs0 objs1:List Ob} {r:AV} (hc:SCtr g.P Y f axs objs0 r objs1) (hcc:(∃ (i l:Nat) (I:Nat→(Nat→Prop)→(Nat→Prop)→World→Prop) (B:Nat→Prop),g.φ0[i]? = some (Phy.ext l I B))→Y=g.Y) {dst:Option Nat} {x:Operand} {args:Array Operand} {ts:Array Nat} {ty:Nat} {pos:String} {after:Array Edge} {gd:Option (Nat × Bool)}
  {rest:List Oper} {k:List It} {E:Env} {objs:List Ob} {fs cs:List AV} (hlt:∀ i∈is,i<g.φ0.length)
  (hgd:guardA ops.toList E gd=some true) (hd:dstOk ⟨g.ty,g.N⟩ dst=true) (hcl:clsOf pf (.call { callee:=.value x,args:=args,argTypes:=ts })=.turn 3) (hx:ev E x=.clo f fs cs) (hok:isOk (len objs) is=true) (hpick:pickN objs is=some (objs0.map (renOb (rn is (len objs)))))
  (has:(fs++args.toList.map (ev E)++cs).map nrm=renL (rn is (len objs)) axs) (ho:putAll is (objs1.map (renOb (rn is (len objs)))) objs=objs')
  (hr:R g pf Fin (.dr ops rest::k) (putO E dst (renA (rn is (len objs)) r)) objs') :
  R g pf Fin (.dr ops (⟨dst,.call { callee:=.value x,args:=args,argTypes:=ts },ty,pos,after,gd⟩::rest)::k) E objs:=by
 subst ho
 refine R_op ?_ hr
 show LocOp g ops _ E objs (clsOf pf (.call { callee:=.value x,args:=args,argTypes:=ts })) _ _
 rw [hcl]
 have h:=loc_callS (ops:=ops) (after:=after) (pos:=pos) (ty:=ty) (ts:=ts) (dst:=dst) hg hu hF hY is hc hcc hgd hd hx hok hpick has
 obtain ⟨hnd,hlo⟩:=isOk_spec hok
 rw [len_eq] at hlo
 have hl0:is.length≤objs1.length:=by
  have h1:=pickN_len hpick
  have h2:=hc.len
  simp at h1; omega
 refine ⟨fun hn=>absurd rfl (hn 3),fun b hb _=>?_,fun E₁ o₁ o₁' a w h1 h2 h3=>h.step E₁ o₁ o₁' a w h1 (by
  rcases h2 with ⟨h2,_⟩ | ⟨m,h2,_⟩ | h2
  ·cases h2
  ·cases h2
  ·exact .inr (.inr h2)) h3⟩
 cases hb
 intro i y hi
 have hil:=(List.getElem?_eq_some_iff.1 hi).1
 by_cases hm:i∈is
 ·have hil2:=hlt i hm
  have:i<(putAll is (objs1.map (renOb (rn is (len objs)))) objs).length:=by
   rw [putAll_length (by simpa using hl0)]; omega
  refine ⟨_,List.getElem?_eq_getElem this,.inr ⟨?_,?_⟩⟩
  ·exact .inl ⟨by omega,by unfold Ob.lvl; split <;> (try split) <;> omega⟩
  ·exact .inl ⟨by omega,by unfold Ob.lvl; split <;> (try split) <;> omega⟩
 ·exact ⟨y,by rw [putAll_other hm hil]; exact hi,.inl rfl⟩
end
end PSL
namespace PSL
open Go Go.RowKit
section
variable {g:G} {pf:Nat→Cls} {ops:Array Oper} {Fin:Exit→Act→World→Prop}
end
end PSL
namespace PSL
open Go Go.RowKit
section
variable {g:G} {pf:Nat→Cls} {ops:Array Oper} {Fin:Exit→Act→World→Prop}
end
end PSL
namespace PSL
open Go Go.RowKit Go.MapKept

mutual
def frzM (i:Nat) (ds:List (Value × D)):AV→AV
 | .ow j t=>bif Nat.beq j i then .any else .ow j t
 | .el j t r o=>bif Nat.beq j i then .any else .el j t r o
 | .vw j t r=>bif Nat.beq j i then .any else .vw j t r
 | .lo j o=>bif Nat.beq j i then .any else .lo j o
 | .mp j=>bif Nat.beq j i then .d (.map ds) else .mp j
 | .yl j=>bif Nat.beq j i then .any else .yl j
 | .agg l=>.agg (frzN i ds l)
 | .tup l=>.tup (frzN i ds l)
 | .clo f a c=>.clo f (frzN i ds a) (frzN i ds c)
 | .any=>.any
 | .tt=>.tt
 | .ff=>.ff
 | .d x=>.d x
 | .fs r=>.fs r
def frzN (i:Nat) (ds:List (Value × D)):List AV→List AV
 | []=>[]
 | x::l=>frzM i ds x::frzN i ds l
end

mutual
theorem frzM_ok {S S':Nat→Prop} {w:World} {φ φ':List Phy} {i:Nat} {ds:List (Value × D)} (hk:Keep S w S' w) (hp:∀ j,j≠i→φ'[j]? = φ[j]?) (ho:∀ v,RV S w φ (.mp i) v→Rd S' w (.map ds) v) :
  ∀ (x:AV) (v:Value),RV S w φ x v→RV S' w φ' (frzM i ds x) v
 | .any,_,_=>by simp [RV,frzM]
 | .tt,_,h=>by simpa [RV,frzM] using h
 | .ff,_,h=>by simpa [RV,frzM] using h
 | .d x,v,h=>by simp only [RV,frzM] at h ⊢; exact h.mono hk
 | .fs rows,v,h=>by simp only [RV,frzM] at h ⊢; exact ⟨h.1.mono hk,h.2⟩
 | .agg l,v,h=>by
  simp only [RV,frzM] at h ⊢
  obtain ⟨cs,h1,h2⟩:=h
  exact ⟨cs,h1,frzN_ok hk hp ho l cs h2⟩
 | .lo j off,v,h=>by
  simp only [frzM]
  cases hj:Nat.beq j i
  ·have:j≠i:=fun e=>by subst e; simp at hj
   simp only [RV,cond_false] at h ⊢; rw [hp j this]; exact h
  ·simp [RV]
 | .el j t r o,v,h=>by
  simp only [frzM]
  cases hj:Nat.beq j i
  ·have:j≠i:=fun e=>by subst e; simp at hj
   simp only [RV,cond_false] at h ⊢; rw [hp j this]; exact h
  ·simp [RV]
 | .vw j t r,v,h=>by
  simp only [frzM]
  cases hj:Nat.beq j i
  ·have:j≠i:=fun e=>by subst e; simp at hj
   simp only [RV,cond_false] at h ⊢; rw [hp j this]; exact h
  ·simp [RV]
 | .mp j,v,h=>by
  simp only [frzM]
  cases hj:Nat.beq j i
  ·have:j≠i:=fun e=>by subst e; simp at hj
   simp only [cond_false]
   simp only [RV] at h ⊢; rw [hp j this]; exact h
  ·have:=natBeq hj; subst this
   simp only [cond_true]
   have:=ho v h
   simpa only [RV] using this
 | .yl j,v,h=>by
  simp only [frzM]
  cases hj:Nat.beq j i
  ·have:j≠i:=fun e=>by subst e; simp at hj
   simp only [RV,cond_false] at h ⊢; rw [hp j this]; exact h
  ·simp [RV]
 | .ow j t,v,h=>by
  simp only [frzM]
  cases hj:Nat.beq j i
  ·have:j≠i:=fun e=>by subst e; simp at hj
   simp only [RV,cond_false] at h ⊢; rw [hp j this]; exact h
  ·simp [RV]
 | .tup l,v,h=>by
  simp only [RV,frzM] at h ⊢
  obtain ⟨cs,h1,h2⟩:=h
  exact ⟨cs,h1,frzN_ok hk hp ho l cs h2⟩
 | .clo f a c,v,h=>by
  simp only [RV,frzM] at h ⊢
  obtain ⟨va,vc,h1,h2,h3⟩:=h
  exact ⟨va,vc,h1,frzN_ok hk hp ho a va h2,frzN_ok hk hp ho c vc h3⟩
theorem frzN_ok {S S':Nat→Prop} {w:World} {φ φ':List Phy} {i:Nat} {ds:List (Value × D)} (hk:Keep S w S' w) (hp:∀ j,j≠i→φ'[j]? = φ[j]?) (ho:∀ v,RV S w φ (.mp i) v→Rd S' w (.map ds) v) :
  ∀ (l:List AV) (vs:List Value),RVs S w φ l vs→RVs S' w φ' (frzN i ds l) vs
 | [],[],_=>by simp [RVs,frzN]
 | [],_::_,h=>by simp [RVs] at h
 | _::_,[],h=>by simp [RVs] at h
 | a::l,v::vs,h=>by
  simp only [RVs,frzN] at h ⊢
  exact ⟨frzM_ok hk hp ho a v h.1,frzN_ok hk hp ho l vs h.2⟩
end
section
variable {g:G} {pf:Nat→Cls} {ops:Array Oper} {Fin:Exit→Act→World→Prop}

theorem R_freezeM (hu:GUp g) {k:List It} {E:Env} {objs:List Ob} (i:Nat) (ds:List (Value × D)) (hn:g.φ0.length≤i) (ho:nth objs i=some (.map (ds.map fun p=>(p.1,AV.d p.2)))) (ht:topCode k=true)
  (hr:R g pf Fin k (mapE (frzM i ds) E) (setN (objs.map (mapOb (frzM i ds))) i .dead)) (hdf:g.dfs=[]:=by rfl):R g pf Fin k E objs:=by
 refine R_ghost ht (fun a w hs=>?_) hr
 obtain ⟨φ,h1,h2,h3,h4,h5,h6⟩:=hs
 rw [nth_eq] at ho
 have hil:=(List.getElem?_eq_some_iff.1 ho).1
 have hiφ:i<φ.length:=by rw [h1.len]; exact hil
 have hbl0:∀ b,bls φ b→g.S0 b:=fun b hb=>(h2 b hb).elim (hu.up b) (hu.x b)
 have hbl:∀ b,bls (φ.set i .no) b→bls φ b:=fun b hb=>by
  rcases bls_set hb with ⟨j,q,_,g1,g2⟩ | g1
  ·exact ⟨j,q,g1,g2⟩
  ·simp [Phy.bl] at g1
 have hp:∀ j,j≠i→(φ.set i .no)[j]? = φ[j]? := fun j hj=>List.getElem?_set_ne (fun e=>hj e.symm)
 have hkeep:Keep (SS g.S0 φ) w (SS g.S0 (φ.set i .no)) w:=fun b hb _=>⟨⟨hb.1,fun hc=>hb.2 (hbl b hc)⟩,rfl⟩
 have hph:φ[i]? = some φ[i]:=List.getElem?_eq_getElem hiφ
 -- the object's block is free of objects from now on
 have hrd:∀ v,RV (SS g.S0 φ) w φ (.mp i) v→Rd (SS g.S0 (φ.set i .no)) w (.map ds) v:=fun v hv=>by
  simp only [RV] at hv
  obtain ⟨b,hph,rfl⟩:=hv
  have hk:=h1.ok i _ _ hph ho
  simp only [ObOk] at hk
  obtain ⟨ents,clk,hheap,hkeys,hvals⟩:=hk
  have hb:bls φ b:=⟨i,_,hph,rfl⟩
  have hnb:¬ bls (φ.set i .no) b:=fun hc=>by
   rcases bls_set hc with ⟨j,q,hj,g1,g2⟩ | g1
   ·exact hj (h1.dist _ _ _ _ _ g1 hph g2 rfl)
   ·simp [Phy.bl] at g1
  have key:∀ (j:Nat) (x:Value × D),ds[j]? = some x→∃ e,ents[j]? = some e∧Rd (SS g.S0 φ) w x.2 e.val:=fun j x hj=>by
   obtain ⟨u,g1,g2⟩:=hvals.get j (x:=.d x.2) (by simp [hj])
   rw [List.getElem?_map,Array.getElem?_toList] at g1
   cases he:ents[j]? with
   | none=>rw [he] at g1; cases g1
   | some e=>rw [he] at g1; simp at g1; subst g1; exact ⟨e,rfl,by simpa only [RV] using g2⟩
  refine Rd.map (fun j=>((ents[j]?).map (·.val)).getD undef) ⟨hbl0 b hb,hnb⟩ hheap (by simpa [List.map_map,Function.comp_def] using hkeys) (fun j x hj=>?_) (fun j x hj=>?_)
  ·obtain ⟨e,g1,_⟩:=key j x hj
   simp [g1]
  ·obtain ⟨e,g1,g2⟩:=key j x hj
   simp only [g1,Option.map_some,Option.getD_some]; exact g2.mono hkeep
 have hf:=frzM_ok (ds:=ds) hkeep hp hrd
 refine ⟨φ.set i .no,h1.remap (frzM i ds) (by rw [setN_eq]; simp [h1.len]) (fun j p b hj hb=>?_) (fun j ob' hj=>?_) hf,fun b hb=>h2 b (hbl b hb),fun u=>?_,h4,Mks.phs hdf h5 hbl,h6.phs (fun j l I B h=>⟨B,by
  by_cases hji:j=i
  ·subst hji; rw [List.getElem?_set_self hiφ] at h; cases h
  ·rw [hp j hji] at h; exact h⟩) (fun j p hi=>by
  obtain ⟨p',h7,h8⟩:=h6.le j p hi
  by_cases hji:j=i
  ·subst hji
   have:=(List.getElem?_eq_some_iff.1 hi).1
   omega
  ·exact ⟨p',by rw [hp j hji]; exact h7,h8⟩)⟩
 ·by_cases hji:j=i
  ·subst hji; rw [List.getElem?_set_self hiφ] at hj; cases hj; exact hb.elim
  ·rw [hp j hji] at hj; exact ⟨p,hj,hb⟩
 ·rw [setN_eq] at hj
  by_cases hji:j=i
  ·subst hji; rw [List.getElem?_set_self (by simpa using hil)] at hj; cases hj; exact .inl rfl
  ·rw [List.getElem?_set_ne (fun e=>hji e.symm),List.getElem?_map] at hj
   cases ho:objs[j]? with
   | none=>rw [ho] at hj; cases hj
   | some ob=>rw [ho] at hj; exact .inr (.inl ⟨ob,rfl,hp j hji,by simpa using hj.symm⟩)
 ·rcases lk_mapE (f:=frzM i ds) E u with h | h
  ·rw [h]; exact hf _ _ (h3 u)
  ·rw [h]; simp [RV]

theorem R_lookupD (hg:GOk g) {dst:Option Nat} {T:Nat} {x y:Operand} {ok:Bool} {ty:Nat} {pos:String} {after:Array Edge} {gd:Option (Nat × Bool)} {rest:List Oper} {k:List It} {E:Env} {objs:List Ob}
  {q by_ kt et:Nat} {ds:List (Value × D)} {z:List Value} {kv zv:Value} {kd:TypeDesc} {r:Option (Nat × AV)}
  (hgd:guardA ops.toList E gd=some true) (hd:dstOk ⟨g.ty,g.N⟩ dst=true) (hx:ev E x=.d (.map ds)) (hy:ev E y=.d (.v kv)) (hT:g.ty T=some ⟨q,by_,z,.map kt et⟩)
  (hkt:g.P.underlying kt=some kd) (hkey:IsKey kd kv) (hf:findA kd kv (ds.map fun p=>(p.1,AV.d p.2)) 0=some r) (hz:(g.P.info? et).bind (·.zero)=some zv)
  (hr:R g pf Fin (.dr ops rest::k) (putO E dst (lookA ok (cstV zv) r)) objs):R g pf Fin (.dr ops (⟨dst,.lookup T x y ok,ty,pos,after,gd⟩::rest)::k) E objs:=by
 refine R_op (LocOp.quiet hg hgd hd (by simp) fun φ objs₁ a w hρ hs=>?_) hr
 simp only [Op.operands] at hρ
 have hxv:=hρ x (by simp)
 rw [hx] at hxv
 have hyv:=hρ y (by simp)
 rw [hy] at hyv
 simp only [RV] at hxv hyv
 generalize hvy:a.eval y=vy at hyv
 cases hyv
 generalize hxe:a.eval x=vx at hxv
 obtain ⟨b,ents,clk,rfl,hheap,hents⟩:∃ (b:Nat) (ents:Array MapEntry) (clk:Nat),vx=.map (some b)∧w.heap[b]? = some (.map ents clk)∧EntsOk (SS g.S0 φ) w φ (ds.map fun p=>(p.1,AV.d p.2)) ents.toList:=by
  cases hxv with
  | map g' hS hb hk hg' hr' =>
   refine ⟨_,_,_,rfl,hb,by simpa [List.map_map,Function.comp_def] using hk,?_⟩
   have hlen:=congrArg List.length hk
   simp only [List.length_map,Array.length_toList] at hlen
   refine RVs.of_get (by simpa using hlen) fun j u v hu hv=>?_
   rw [List.getElem?_map,List.getElem?_map] at hu
   cases hj:ds[j]? with
   | none=>rw [hj] at hu; cases hu
   | some x =>
    rw [hj] at hu; simp at hu; subst hu
    rw [List.getElem?_map,Array.getElem?_toList,hg' j x hj] at hv
    cases hv
    simpa only [RV] using hr' j x hj
 have hT':g.P.underlying T=some (.map kt et):=by have:=(hg.ty _ _ hT).sh; simpa only [ShFact] using this
 have hzero:(zeroValue et).run g.P w=.ok zv w:=by
  obtain ⟨inf,h1,h2⟩:=Option.bind_eq_some_iff.1 hz
  simp [zeroValue,typeInfo,h1,h2]
 have hzR:RV (SS g.S0 φ) w φ (cstV zv) zv:=rv_restr (l:=[]) (E:=[]) (E₁:=[]) (a:={ tmps:=#[],defers:=[] }) (by simp) (fun t=>by simp [lk,RV]) (.const zv)
 have hfind:=findA_ok hents hf
 cases r with
 | none =>
  simp only at hfind
  refine out_val hs (vv:=if ok then .tuple #[zv,.bool false] else zv) ?_ ?_
  ·simp [execOp,Instr.lookup,run_underlying hT',hxe,run_getObj_map hheap,hvy,run_checkKey hkt hkey,run_findKey hkt hfind,hzero]
  ·simp only [lookA]
   cases ok
   ·simpa using hzR
   ·simp only [if_true,RV]
    exact ⟨[zv,.bool false],rfl,by simp only [RVs,RV,bV,and_true]; exact ⟨hzR,.v _⟩⟩
 | some p =>
  obtain ⟨j,v⟩:=p
  obtain ⟨vv,h1,h2,_⟩:=hfind
  refine out_val hs (vv:=if ok then .tuple #[vv,.bool true] else vv) ?_ ?_
  ·simp [execOp,Instr.lookup,run_underlying hT',hxe,run_getObj_map hheap,hvy,run_checkKey hkt hkey,run_findKey hkt h1]
  ·simp only [lookA]
   cases ok
   ·simpa using h2
   ·simp only [if_true,RV]
    exact ⟨[vv,.bool true],rfl,by simp only [RVs,RV,bV,and_true]; exact ⟨h2,.v _⟩⟩
end
end PSL
namespace PSL
open Go Go.RowKit Go.MapKept
section
variable {g:G} {pf:Nat→Cls} {ops:Array Oper} {Fin:Exit→Act→World→Prop}
end
end PSL
namespace PSL
open Go Go.RowKit
section
variable {g:G} {pf:Nat→Cls} {ops:Array Oper} {Fin:Exit→Act→World→Prop}

theorem wp_ops2 {K:Env→List Ob→Prop} {Q:Exit→Act→World→Prop} {more:List Nat} (hQ:∀ E objs a w,K E objs→Sat g E objs a w→wpOpsIn g.F g.dep g.P ops Q more a w) :
  ∀ (l:List Oper) (k:Nat) (E:Env) (objs:List Ob) (a:Act) (w:World),(∀ j,j<l.length→l[j]? = ops[k+j]?)→Dr g pf ops l E objs K→Sat g E objs a w →
   wpOpsIn g.F g.dep g.P ops Q (List.range' k l.length++more) a w
 | [],k,E,objs,a,w,_,hd,hs=>by simpa using hQ E objs a w hd hs
 | o::l,k,E,objs,a,w,hl,hd,hs=>by
  obtain ⟨v,objs',h1,h2⟩:=hd
  have h0:ops[k]? = some o:=by simpa using (hl 0 (by simp)).symm
  have hstep:=h1.step E objs objs' a w (fun t _=>.refl _) (.inr (.inr ⟨rfl,rfl⟩)) hs Q
  rw [List.length_cons,List.range'_succ,List.cons_append,wpOpsIn_cons]
  refine wpOpIn_mono (K:=fun a' w'=>Sat g (putO E o.dst v) objs' a' w') (fun a' w' hs'=>?_) (by unfold wpOpIn; rw [h0]; exact hstep)
  exact wp_ops2 hQ l (k+1) _ objs' a' w' (fun j hj=>by have:=hl (j+1) (by simpa using hj); simpa [Nat.add_assoc,Nat.add_comm 1 j] using this) h2 hs'
end
end PSL
namespace PSL
open Go Go.RowKit
section
variable {g:G} {pf:Nat→Cls} {ops:Array Oper} {Fin:Exit→Act→World→Prop}

theorem rv_eval {S:Nat→Prop} {w:World} {φ:List Phy} {E:Env} {a:Act} (hv:EnvOk S w φ E a) (x:Operand):RV S w φ (ev E x) (a.eval x):=by
 cases x with
 | tmp t=>exact hv t
 | const v=>simpa [restr] using rv_restr (l:=[]) (E:=E) (fun t ht=>by cases ht) hv (.const v)
 | global n=>simp [ev,RV]
 | func f=>simp only [ev,Act.eval,RV]; exact ⟨[],[],rfl,by simp [RVs],by simp [RVs]⟩

def noMk:List It→Bool
 | []=>true
 | .code _::k=>noMk k
 | .blk _::k=>noMk k
 | _::_=>false

theorem KP_sw {l:List (Nat × List AV × List AV)}:∀ (k:List It),noMk k=true→∀ e a w,KP (swD g l) Fin k e a w=KP g Fin k e a w
 | [],_,_,_,_=>rfl
 | .code c::k,h,e,a,w=>by
  have ih:KP (swD g l) Fin k=KP g Fin k:=by funext e a w; exact KP_sw k h e a w
  simp only [KP,ih]; rfl
 | .blk i::k,h,e,a,w=>by
  have ih:KP (swD g l) Fin k=KP g Fin k:=by funext e a w; exact KP_sw k h e a w
  simp only [KP,ih]
 | .mark _::_,h,_,_,_=>by simp [noMk] at h
 | .dr _ _::_,h,_,_,_=>by simp [noMk] at h

theorem R_defer (hg:GOk g) (hmk:g.mks=false) (hw:g.F=Fence.wide∧g.dep=0) {id:Nat} {k:List It} {E:Env} {objs:List Ob} (n:Nat) {x:Operand} {args:Array Operand} {ts:Array Nat} {ty:Nat} {pos:String} {after:Array Edge}
  (hn:ops.toList.drop n=[⟨none,.defer { callee:=.value x,args:=args,argTypes:=ts },ty,pos,after,none⟩])
  (h:R g pf Fin (.dr ops (ops.toList.take n) :: .mark (fun E1 objs1=>∃ f fs cs,ev E1 x=.clo f fs cs∧R (swD g ((f,fs++args.toList.map (ev E1),cs)::g.dfs)) pf Fin k E1 objs1)::k) E objs) (hnd:noDr k=true:=by rfl) (hnm:noMk k=true:=by rfl):R g pf Fin (.code (.region id ops false)::k) E objs:=by
 rintro ⟨ho1,ho⟩
 have h:=h ho
 simp only at h
 intro a w hs
 simp only [KP]
 refine wpIn_region ?_
 have hle:n≤ops.toList.length:=by
  rcases Nat.le_total n ops.toList.length with h | h
  ·exact h
  ·rw [List.drop_eq_nil_of_le h] at hn; cases hn
 have hsz:ops.toList.length=n+1:=by
  have:=congrArg List.length hn
  rw [List.length_drop] at this
  simp only [List.length_singleton] at this
  omega
 have hsplit:List.range ops.size=List.range' 0 (ops.toList.take n).length++[n]:=by
  have e:ops.size=n+1:=by rw [← hsz]; simp
  rw [e,List.length_take,Nat.min_eq_left hle,List.range_eq_range',← List.range'_append]; simp
 rw [hsplit]
 refine wp_ops2 (pf:=pf) (K:=fun E' objs'=>RK g Fin (.mark (fun E1 objs1=>∃ f fs cs,ev E1 x=.clo f fs cs∧R (swD g ((f,fs++args.toList.map (ev E1),cs)::g.dfs)) pf Fin k E1 objs1)::k) E' objs') (fun E1 objs1 a1 w1 hk hs1=>?_) _ 0 E objs a w (fun j hj=>?_) h hs
 ·have hk:=hk a1 w1 hs1
  simp only [KP] at hk
  obtain ⟨E2,objs2,⟨f,fs,cs,hx,hM⟩,hs2⟩:=hk
  rw [wpOpsIn_cons]
  have h0:ops[n]? = some ⟨none,.defer { callee:=.value x,args:=args,argTypes:=ts },ty,pos,after,none⟩:=by
   have:(ops.toList.drop n)[0]? = some ⟨none,.defer { callee:=.value x,args:=args,argTypes:=ts },ty,pos,after,none⟩:=by rw [hn]; rfl
   simpa using this
  unfold wpOpIn
  rw [h0]
  simp only [Region.wanted,if_true]
  refine ⟨fun f _=>hg.fn f,?_⟩
  obtain ⟨φ,h1,h2,h3,h4,⟨ds1,ds2,e5,h5,h7⟩,h6⟩:=hs2
  have hxv:=rv_eval (E:=E2) h3 x
  rw [hx] at hxv
  simp only [RV] at hxv
  obtain ⟨va,vc,hxv,hfs,hcs⟩:=hxv
  have hargs:RVs (SS g.S0 φ) w1 φ (args.toList.map (ev E2)) (args.toList.map a1.eval):=RVs.map _ _ _ fun y _=>rv_eval h3 y
  have hr:(execOp a1.eval ⟨none,.defer { callee:=.value x,args:=args,argTypes:=ts },ty,pos,after,none⟩).run g.P w1=.ok (.defer { target:=.fn (.func f) vc.toArray,args:=(va++args.toList.map a1.eval).toArray }) w1:=by
   have:va.toArray++Array.map a1.eval args=(va++args.toList.map a1.eval).toArray:=by apply Array.toList_inj.1; simp
   simp [execOp,resolve,hxv,Deferred.ofValue,this]
  rw [show g.F.round=none by rw [hw.1]; rfl,Oper.semAt_none,hr,Oper.uponIn_defer]
  have hds:ds1=[]:=h5.1 hmk
  subst hds
  have:=RK.of_R (pf:=pf) (k:=k) ho hM (noDr_head hnd) { a1 with defers:={ target:=.fn (.func f) vc.toArray,args:=(va++args.toList.map a1.eval).toArray }::a1.defers } w1 ⟨φ,h1,h2,h3,h4,⟨[],{ target:=.fn (.func f) vc.toArray,args:=(va++args.toList.map a1.eval).toArray }::ds2,by rw [e5]; rfl,⟨fun _=>rfl,.nil,by simp⟩,⟨_,_,rfl,hfs.append hargs,hcs⟩,h7⟩,⟨h6.size,h6.os,h6.tape,h6.out,h6.fr,h6.gen,h6.le⟩⟩
  rw [KP_sw k hnm] at this
  exact this
 ·rw [Nat.zero_add,List.getElem?_take_of_lt (by simp at hj; omega)]; simp
end
end PSL
namespace PSL
open Go Go.RowKit
section
variable {g:G} {pf:Nat→Cls} {ops:Array Oper} {Fin:Exit→Act→World→Prop}

theorem run_callx {P:Program} {w:World} {a:Act} {f:Nat} {args:Array Operand} {ts:Array Nat} {dst:Option Nat} {ty:Nat} {pos:String} {after:Array Edge} {gd:Option (Nat × Bool)} :
  (execOp a.eval ⟨dst,.call { callee:=.value (.func f),args:=args,argTypes:=ts },ty,pos,after,gd⟩).run P w=(callFunc f (args.map a.eval)).run P w:=by
 simp [execOp,resolve,Act.eval,Deferred.ofValue,invoke]

theorem R_extV (hg:GOk g) {f:Nat} {r:AV} {dst:Option Nat} {args:Array Operand} {ts:Array Nat} {ty:Nat} {pos:String} {after:Array Edge} {gd:Option (Nat × Bool)} {rest:List Oper} {k:List It} {E:Env} {objs:List Ob}
  (hgd:guardA ops.toList E gd=some true) (hd:dstOk ⟨g.ty,g.N⟩ dst=true) (hcl:pf f=.eff)
  (hrun:∀ (φ:List Phy) (a:Act) (w:World),HS g.S0 φ objs w→(∀ y∈args.toList,RV (SS g.S0 φ) w φ (ev E y) (a.eval y))→∃ v,(callFunc f (args.map a.eval)).run g.P w=.ok (.value v) w∧RV (SS g.S0 φ) w φ r v)
  (hr:R g pf Fin (.dr ops rest::k) (putO E dst r) objs):R g pf Fin (.dr ops (⟨dst,.call { callee:=.value (.func f),args:=args,argTypes:=ts },ty,pos,after,gd⟩::rest)::k) E objs:=by
 refine R_op ?_ hr
 simp only [clsOf,hcl]
 refine .of_out hg (guardA_ok hgd) (dstOk_ok hd) (by simp) (fun _=>rfl) (fun b hb h9=>by cases hb; exact absurd rfl h9) fun φ o₁ o₁' a w E₁ he hv ho hs=>?_
 have e:o₁=objs∧o₁'=objs:=by
  rcases ho with ⟨h,_⟩ | ⟨_,h,_⟩ | h
  ·cases h
  ·cases h
  ·exact h
 obtain ⟨rfl,rfl⟩:=e
 have hρ:=rv_ops (o:=⟨dst,.call { callee:=.value (.func f),args:=args,argTypes:=ts },ty,pos,after,gd⟩) he hv
 simp only [Op.operands,Call.operands] at hρ
 obtain ⟨v,h1,h2⟩:=hrun φ a w hs fun y hy=>hρ y (by simp [hy])
 exact out_val hs (vv:=v) (by rw [run_callx,h1]) h2

theorem R_extB (hg:GOk g) {f:Nat} {r:AV} {dst:Option Nat} {args:Array Operand} {ts:Array Nat} {ty:Nat} {pos:String} {after:Array Edge} {gd:Option (Nat × Bool)} {rest:List Oper} {k:List It} {E:Env} {objs:List Ob} {i off:Nat} {l:List AV} {old new:Value} {x:Operand}
  (hgd:guardA ops.toList E gd=some true) (hd:dstOk ⟨g.ty,g.N⟩ dst=true) (hcl:pf f=.eff) (hx:ev E x=.lo i off) (hxa:x∈args.toList) (ho:nth objs i=some (.box l)) (hl:nth l off=some (.d (.v old)))
  (hrun:∀ (φ:List Phy) (a:Act) (w:World) (b:Nat),a.eval x=.pointer (some ⟨b,off,none⟩)→w.cell? ⟨b,off,none⟩=some old→w.frozen? ⟨b,off,none⟩=false→HS g.S0 φ objs w→(∀ y∈args.toList,RV (SS g.S0 φ) w φ (ev E y) (a.eval y))→∃ v,(callFunc f (args.map a.eval)).run g.P w=.ok (.value v) (w.setCell ⟨b,off,none⟩ new)∧∀ w',RV (SS g.S0 φ) w' φ r v)
  (hr:R g pf Fin (.dr ops rest::k) (putO E dst r) (setN objs i (.box (setN l off (.d (.v new)))))):R g pf Fin (.dr ops (⟨dst,.call { callee:=.value (.func f),args:=args,argTypes:=ts },ty,pos,after,gd⟩::rest)::k) E objs:=by
 refine R_op ?_ hr
 simp only [clsOf,hcl]
 refine .of_out hg (guardA_ok hgd) (dstOk_ok hd) (by simp) (fun h=>absurd rfl (h _)) (fun b hb h9=>by cases hb; exact absurd rfl h9) fun φ o₁ o₁' a w E₁ he hv ho1 hs=>?_
 have e:o₁=objs∧o₁'=setN objs i (.box (setN l off (.d (.v new)))):=by
  rcases ho1 with ⟨h,_⟩ | ⟨_,h,_⟩ | h
  ·cases h
  ·cases h
  ·exact h
 obtain ⟨rfl,rfl⟩:=e
 have hρ:=rv_ops (o:=⟨dst,.call { callee:=.value (.func f),args:=args,argTypes:=ts },ty,pos,after,gd⟩) he hv
 simp only [Op.operands,Call.operands] at hρ
 have hρ':∀ y∈args.toList,RV (SS g.S0 φ) w φ (ev E y) (a.eval y):=fun y hy=>hρ y (by simp [hy])
 have hxv:=hρ' x hxa
 rw [hx] at hxv
 simp only [RV] at hxv
 obtain ⟨b,hb,hxv⟩:=hxv
 have hok:=obj_at hs hb ho
 simp only [ObOk] at hok
 obtain ⟨cs,T',hheap,hrv⟩:=hok
 rw [nth_eq] at hl
 obtain ⟨u,hu,huv⟩:=hrv.get off hl
 simp only [RV] at huv
 cases huv
 have hcell:w.cell? ⟨b,off,none⟩=some old:=by simp [World.cell?,hheap,hu]
 have hfz:w.frozen? ⟨b,off,none⟩=false:=by simp [World.frozen?,hheap]
 obtain ⟨v,h1,h2⟩:=hrun φ a w b hxv hcell hfz hs hρ'
 have hother:∀ c,c≠b→(w.setCell ⟨b,off,none⟩ new).heap[c]? = w.heap[c]? := fun c hc=>Below.heap_setCell _ _ _ _ hc
 have hbl:(Phy.blk b).bl b:=rfl
 have hk:=keep_turn (S0:=g.S0) hb hbl hother
 refine ⟨.value v,v,w.setCell ⟨b,off,none⟩ new,φ,by rw [run_callx,h1],.inl rfl,h2 _,?_⟩
 refine ⟨?_,hk,.refl _,by simp,rfl,rfl,rfl,fun c hc hn=>hother c fun e=>hn ⟨i,_,hb,by rw [e]; rfl⟩,fun _ h=>.inl h,fun _ _ _ B h=>⟨B,h⟩⟩
 rw [setN_eq]
 refine hs.turn hb hbl (by simp) hother ?_
 simp only [ObOk]
 refine ⟨cs.set off new,T',setCell_heap hheap _ _,?_⟩
 have h3:=hrv.mono hk (PhsLe.refl φ)
 rw [setN_eq]
 refine RVs.of_get (by rw [List.length_set,List.length_set]; exact h3.length) fun j y u hy hu=>?_
 rw [List.getElem?_set] at hy hu
 by_cases hj:off=j
 ·subst hj
  rw [if_pos rfl] at hy hu
  have hlt:=(List.getElem?_eq_some_iff.1 hl).1
  have hlc:off<cs.length:=by rw [← h3.length]; exact hlt
  rw [if_pos hlt] at hy
  rw [if_pos hlc] at hu
  cases hy; cases hu
  simp only [RV]; exact .v _
 ·rw [if_neg hj] at hy hu
  obtain ⟨u',h4,h5⟩:=h3.get j hy
  rw [hu] at h4; cases h4
  exact h5

theorem rv_const {S:Nat→Prop} {w:World} {φ:List Phy} {c v:Value} (h:RV S w φ (.d (.v c)) v):v=c:=by
 simp only [RV] at h; cases h; rfl

theorem hs_cell {S0:Nat→Prop} {φ:List Phy} {objs:List Ob} {w:World} (hs:HS S0 φ objs w) {i off:Nat} {l:List AV} {c v:Value} (ho:nth objs i=some (.box l)) (hl:nth l off=some (.d (.v c))) (hv:RV (SS S0 φ) w φ (.lo i off) v) :
  ∃ b,v=.pointer (some ⟨b,off,none⟩)∧w.cell? ⟨b,off,none⟩=some c:=by
 simp only [RV] at hv
 obtain ⟨b,hb,hv⟩:=hv
 have hok:=obj_at hs hb ho
 simp only [ObOk] at hok
 obtain ⟨cs,T',hheap,hrv⟩:=hok
 rw [nth_eq] at hl
 obtain ⟨u,hu,huv⟩:=hrv.get off hl
 have:=rv_const huv
 subst this
 exact ⟨b,hv,by simp [World.cell?,hheap,hu]⟩

theorem R_ext0 (hg:GOk g) {f:Nat} {dst:Option Nat} {ts:Array Nat} {ty:Nat} {pos:String} {after:Array Edge} {gd:Option (Nat × Bool)} {rest:List Oper} {k:List It} {E:Env} {objs:List Ob}
  (hf:∀ w,(callFunc f #[]).run g.P w=.ok (.value (.tuple #[])) w) (hgd:guardA ops.toList E gd=some true) (hd:dstOk ⟨g.ty,g.N⟩ dst=true) (hcl:pf f=.eff)
  (hr:R g pf Fin (.dr ops rest::k) (putO E dst (.tup [])) objs):R g pf Fin (.dr ops (⟨dst,.call { callee:=.value (.func f),args:=#[],argTypes:=ts },ty,pos,after,gd⟩::rest)::k) E objs :=
 R_extV hg hgd hd hcl (fun φ a w _ _=>⟨.tuple #[],by simpa using hf w,by simp [RV,RVs]⟩) hr

theorem R_extM (hg:GOk g) {f:Nat} {dst:Option Nat} {x:Operand} {ts:Array Nat} {ty:Nat} {pos:String} {after:Array Edge} {gd:Option (Nat × Bool)} {rest:List Oper} {k:List It} {E:Env} {objs:List Ob} {i off:Nat}
  (hf:∀ a w,(callFunc f #[.pointer (some a)]).run g.P w=.ok (.value (.tuple #[])) w) (hgd:guardA ops.toList E gd=some true) (hd:dstOk ⟨g.ty,g.N⟩ dst=true) (hcl:pf f=.eff) (hx:ev E x=.lo i off)
  (hr:R g pf Fin (.dr ops rest::k) (putO E dst (.tup [])) objs):R g pf Fin (.dr ops (⟨dst,.call { callee:=.value (.func f),args:=#[x],argTypes:=ts },ty,pos,after,gd⟩::rest)::k) E objs :=
 R_extV hg hgd hd hcl (fun φ a w _ hρ=>by
  have h:=hρ x (by simp)
  rw [hx] at h
  simp only [RV] at h
  obtain ⟨b,_,h⟩:=h
  exact ⟨.tuple #[],by simpa [h] using hf ⟨b,off,none⟩ w,by simp [RV,RVs]⟩) hr

theorem R_extL (hg:GOk g) {f:Nat} {dst:Option Nat} {x:Operand} {ts:Array Nat} {ty:Nat} {pos:String} {after:Array Edge} {gd:Option (Nat × Bool)} {rest:List Oper} {k:List It} {E:Env} {objs:List Ob} {i off:Nat} {l:List AV} {c:IntKind} {n:Int}
  (hf:∀ a x w,w.cell? a=some (.int c x)→(callFunc f #[.pointer (some a)]).run g.P w=.ok (.value (.int c x)) w) (hgd:guardA ops.toList E gd=some true) (hd:dstOk ⟨g.ty,g.N⟩ dst=true) (hcl:pf f=.eff) (hx:ev E x=.lo i off) (ho:nth objs i=some (.box l)) (hl:nth l off=some (.d (.v (.int c n))))
  (hr:R g pf Fin (.dr ops rest::k) (putO E dst (.d (.v (.int c n)))) objs):R g pf Fin (.dr ops (⟨dst,.call { callee:=.value (.func f),args:=#[x],argTypes:=ts },ty,pos,after,gd⟩::rest)::k) E objs :=
 R_extV hg hgd hd hcl (fun φ a w hs hρ=>by
  have h:=hρ x (by simp)
  rw [hx] at h
  obtain ⟨b,h,hc⟩:=hs_cell hs ho hl h
  exact ⟨.int c n,by simpa [h] using hf _ _ w hc,by simp only [RV]; exact .v _⟩) hr

theorem R_extW (hg:GOk g) {f:Nat} {dst:Option Nat} {x:Operand} {ys:Array Operand} {ts:Array Nat} {ty:Nat} {pos:String} {after:Array Edge} {gd:Option (Nat × Bool)} {rest:List Oper} {k:List It} {E:Env} {objs:List Ob} {i off:Nat} {l:List AV} {old new v:Value} (vs:List Value)
  (hf:∀ a w,w.cell? a=some old→w.frozen? a=false→(callFunc f (Value.pointer (some a)::vs).toArray).run g.P w=.ok (.value v) (w.setCell a new)) (hgd:guardA ops.toList E gd=some true) (hd:dstOk ⟨g.ty,g.N⟩ dst=true) (hcl:pf f=.eff) (hx:ev E x=.lo i off) (hys:ys.toList.map (ev E)=vs.map fun c=>AV.d (.v c)) (ho:nth objs i=some (.box l)) (hl:nth l off=some (.d (.v old)))
  (hr:R g pf Fin (.dr ops rest::k) (putO E dst (.d (.v v))) (setN objs i (.box (setN l off (.d (.v new)))))):R g pf Fin (.dr ops (⟨dst,.call { callee:=.value (.func f),args:=(x::ys.toList).toArray,argTypes:=ts },ty,pos,after,gd⟩::rest)::k) E objs :=
 R_extB hg (x:=x) hgd hd hcl hx (by simp) ho hl (fun φ a w b hb hc hz _ hρ=>⟨v,by
  have key:∀ (zs:List Operand) (us:List Value),(∀ y∈zs,RV (SS g.S0 φ) w φ (ev E y) (a.eval y))→zs.map (ev E)=us.map (fun c=>AV.d (.v c))→zs.map a.eval=us:=by
   intro zs
   induction zs with
   | nil=>intro us _ h; cases us with
    | nil=>rfl
    | cons _ _=>simp at h
   | cons z zs ih =>
    intro us hz h
    cases us with
    | nil=>simp at h
    | cons u us =>
     simp only [List.map_cons,List.cons.injEq] at h ⊢
     have h1:=hz z (by simp)
     rw [h.1] at h1
     exact ⟨rv_const h1,ih us (fun y hy=>hz y (by simp [hy])) h.2⟩
  have he:=key ys.toList vs (fun y hy=>hρ y (by simp [hy])) hys
  have:=hf ⟨b,off,none⟩ w hc hz
  rw [← he,← hb] at this
  simpa using this,fun w'=>by simp only [RV]; exact .v _⟩) hr

theorem R_convU (hg:GOk g) {src dst' t:Nat} {dst:Option Nat} {x:Operand} {ty:Nat} {pos:String} {after:Array Edge} {gd:Option (Nat × Bool)} {rest:List Oper} {k:List It} {E:Env} {objs:List Ob} {i off:Nat} {l:List AV} {c:Value}
  (hs:g.P.underlying src=some (.pointer t)) (hdt:g.P.underlying dst'=some .unsafePointer) (hsz:(g.P.info? t).map (fun i=>decide (i.size=0))=some false) (hcl:pf 4000000010=.turn 90) (hgd:guardA ops.toList E gd=some true) (hd:dstOk ⟨g.ty,g.N⟩ dst=true) (hx:ev E x=.lo i off) (ho:nth objs i=some (.box l)) (hl:nth l off=some (.d (.v c)))
  (hr:R g pf Fin (.dr ops rest::k) (putO E dst (.lo i off)) objs):R g pf Fin (.dr ops (⟨dst,.convert src dst' x,ty,pos,after,gd⟩::rest)::k) E objs:=by
 refine R_op ?_ hr
 simp only [clsOf,cnvCls,hcl]
 refine .of_out hg (guardA_ok hgd) (dstOk_ok hd) (by simp) (fun _=>rfl) (fun b hb h9=>by cases hb; exact absurd rfl h9) fun φ o₁ o₁' a w E₁ he hv ho1 hs'=>?_
 have e:o₁=objs∧o₁'=objs:=by
  rcases ho1 with ⟨h,_⟩ | ⟨_,h,_⟩ | h
  ·cases h
  ·cases h
  ·exact h
 obtain ⟨rfl,rfl⟩:=e
 have hρ:=rv_ops (o:=⟨dst,.convert src dst' x,ty,pos,after,gd⟩) he hv
 simp only [Op.operands] at hρ
 have hxv:=hρ x (by simp)
 rw [hx] at hxv
 obtain ⟨b,hb,hc⟩:=hs_cell hs' ho hl hxv
 refine out_val hs' (vv:=a.eval x) ?_ hxv
 simp only [execOp,Sem.run_bind,hb,run_convert_to_unsafe hs hdt hsz hc,Result.andThen_ok,Sem.run_pure]

theorem R_fieldZ (hg:GOk g) {T n:Nat} {fs:Array Field} {fl:Field} {dst:Option Nat} {x:Operand} {ty:Nat} {pos:String} {after:Array Edge} {gd:Option (Nat × Bool)} {rest:List Oper} {k:List It} {E:Env} {objs:List Ob} {i off:Nat}
  (hT:g.P.underlying T=some (.struct fs)) (hf:fs[n]? = some fl) (hsz:((g.P.info? fl.type).map fun i=>decide (i.size=0))=some false) (hgd:guardA ops.toList E gd=some true) (hd:dstOk ⟨g.ty,g.N⟩ dst=true) (hx:ev E x=.lo i off)
  (hr:R g pf Fin (.dr ops rest::k) (putO E dst (.lo i (off+fl.offset))) objs):R g pf Fin (.dr ops (⟨dst,.fieldAddr T x n,ty,pos,after,gd⟩::rest)::k) E objs:=by
 refine R_op (LocOp.up (LocOp.quiet hg hgd hd (by simp) fun φ o₁ a w hρ hs=>?_)) hr
 simp only [Op.operands] at hρ
 have hxv:=hρ x (by simp)
 rw [hx] at hxv
 simp only [RV] at hxv
 obtain ⟨b,hb,hv⟩:=hxv
 have h3:∃ i,g.P.info? fl.type=some i∧i.size≠0:=by
  obtain ⟨i,h1,h2⟩:=Option.map_eq_some_iff.1 hsz
  exact ⟨i,h1,by simpa using h2⟩
 refine out_val hs (vv:=.pointer (some ⟨b,off+fl.offset,none⟩)) ?_ (by simp only [RV]; exact ⟨b,hb,rfl⟩)
 simp only [execOp,Sem.run_bind,hv,run_fieldAt hT hf h3,Result.andThen_ok,Sem.run_pure]
end
end PSL
namespace PSL
open Go Go.RowKit
section
variable {pf:Nat→Cls} {ops:Array Oper}

def ordGo3 (p q:Nat) (pf:Nat→Cls) (ops:Array Oper):List Oper→List Nat→List Oper→Bool
 | _,_,[]=>true
 | prev,acc,o::r =>
  (o.after.toList.all fun e=>!Region.binds .any e || Nat.blt e.on (len prev)) &&
  (prev.zipIdx.all fun x=>!conf pf ops x.1 o || (maskOf acc o).testBit x.2 || (Nat.beq x.2 p&&Nat.beq (len prev) q)) &&
  (Nat.ble (len prev) p || Nat.beq (len prev) q || (maskOf acc o).testBit p || (Nat.blt q (len prev)&&(maskOf acc o).testBit q)) &&
  ordGo3 p q pf ops (prev++[o]) (acc++[maskOf acc o]) r

theorem ordGo3_spec {p q:Nat} (hpq:p<q):∀ (rest prev:List Oper) (acc:List Nat),ops.toList=prev++rest→acc.length=prev.length→(∀ j i m,acc[j]? = some m→m.testBit i=true→Reach ops i j)→ordGo3 p q pf ops prev acc rest=true →
  ∀ (j:Nat) (o:Oper),prev.length≤j→ops[j]? = some o→(∀ e∈o.after.toList,Region.binds .any e=true→e.on<j)∧(∀ (i:Nat) (x:Oper),i<j→ops[i]? = some x→conf pf ops x o=true→Reach ops i j∨(i=p∧j=q))∧(p<j→j<q→Reach ops p j)∧(q<j→Reach ops p j∨Reach ops q j)
 | [],prev,acc,h,_,_,_,j,o,hj,ho=>by
  have:j<ops.size:=(Array.getElem?_eq_some_iff.1 ho).1
  have:ops.size=prev.length:=by rw [← Array.length_toList,h]; simp
  omega
 | o'::r,prev,acc,h,hl,hr,hg,j,o,hj,ho=>by
  simp only [ordGo3,Bool.and_eq_true] at hg
  obtain ⟨⟨⟨h1,h2⟩,h4⟩,h3⟩:=hg
  have hcur:ops[prev.length]? = some o':=by rw [← Array.getElem?_toList,h]; simp
  have hm:∀ i,(maskOf acc o').testBit i=true→Reach ops i prev.length:=fun i hi=>by
   obtain ⟨e,e1,e2,e3⟩:=maskOf_bit hi
   rcases e3 with e3 | ⟨m,e3,e4⟩
   ·exact .one hcur e1 e2 e3
   ·exact .step hcur e1 e2 rfl (hr _ _ _ e3 e4)
  rcases Nat.eq_or_lt_of_le hj with hj | hj
  ·subst hj
   rw [hcur] at ho; cases ho
   refine ⟨fun e he hbd=>?_,fun i x hi hx hc=>?_,fun hq hq2=>?_,fun hq=>?_⟩
   ·have:=List.all_eq_true.1 h1 e he
    rw [len_eq] at this
    simpa [Nat.blt_eq,hbd] using this
   ·have hmem:(x,i)∈prev.zipIdx:=by
     rw [List.mem_zipIdx_iff_getElem?]
     rw [← Array.getElem?_toList,h,List.getElem?_append_left hi] at hx
     exact hx
    have:=List.all_eq_true.1 h2 _ hmem
    simp only [hc,Bool.not_true,Bool.false_or,Bool.or_eq_true,Bool.and_eq_true] at this
    rcases this with this | ⟨g1,g2⟩
    ·exact .inl (hm i this)
    ·rw [len_eq] at g2; exact .inr ⟨natBeq g1,natBeq g2⟩
   ·simp only [Bool.or_eq_true,Bool.and_eq_true,len_eq,Nat.ble_eq,Nat.blt_eq] at h4
    rcases h4 with ((h4 | h4) | h4) | h4
    ·omega
    ·have:=natBeq h4; omega
    ·exact hm _ h4
    ·omega
   ·simp only [Bool.or_eq_true,Bool.and_eq_true,len_eq,Nat.ble_eq,Nat.blt_eq] at h4
    rcases h4 with ((h4 | h4) | h4) | h4
    ·omega
    ·have:=natBeq h4; omega
    ·exact .inl (hm _ h4)
    ·exact .inr (hm _ h4.2)
  ·refine ordGo3_spec hpq r (prev++[o']) (acc++[maskOf acc o']) (by rw [h]; simp) (by simp [hl]) (fun j i m hj hi=>?_) h3 j o (by simp; omega) ho
   rcases Nat.lt_or_ge j acc.length with hlt | hge
   ·rw [List.getElem?_append_left hlt] at hj; exact hr j i m hj hi
   ·rw [List.getElem?_append_right hge] at hj
    have:j - acc.length=0:=by
     rcases Nat.eq_zero_or_pos (j - acc.length) with h | h
     ·exact h
     ·rw [List.getElem?_eq_none (by simp; omega)] at hj; cases hj
    rw [this] at hj; simp at hj; subst hj
    have:j=prev.length:=by omega
    subst this
    exact hm i hi
variable {g:G}

theorem any_of_dr3 {p q:Nat} (hpq:p<q) (hok:∀ (j:Nat) (o:Oper),ops[j]? = some o→(∀ e∈o.after.toList,Region.binds .any e=true→e.on<j)∧(∀ (i:Nat) (x:Oper),i<j→ops[i]? = some x→conf pf ops x o=true→Reach ops i j∨(i=p∧j=q))∧(p<j→j<q→Reach ops p j)∧(q<j→Reach ops p j∨Reach ops q j))
  {K:Env→List Ob→Prop} (hK:KC K) {Q:Exit→Act→World→Prop} (hQ:∀ E objs a w,K E objs→Sat g E objs a w→Q .normal a w) {oa ob:Oper} (hoa:ops[p]? = some oa) (hob:ops[q]? = some ob) (mid post:List Nat) :
  ∀ (fuel:Nat) (listed:Array Bool) (pre:List Nat) (E E2:Env) (objs objs2:List Ob) (a:Act) (w:World),(∀ i∈pre,∀ o,ops[i]? = some o→plainOp o.op=true)→listed.size=ops.size→Cl ops listed→(∀ i,i∈pre++p::(mid++q::post)↔i<ops.size∧listed.getD i true=false)→(pre++p::(mid++q::post)).Pairwise (· < ·)→(pre++p::(mid++q::post)).length≤fuel →
   Dr g pf ops (pre.filterMap (ops[·]?)++oa::(mid.filterMap (ops[·]?)++ob::post.filterMap (ops[·]?))) E objs K→Sat g E objs a w→Dr g pf ops (pre.filterMap (ops[·]?)++ob::oa::(mid.filterMap (ops[·]?)++post.filterMap (ops[·]?))) E2 objs2 K→Sat g E2 objs2 a w→wpAnyIn g.F g.dep g.P .any ops Q fuel listed a w:=by
 have hokX:∀ (j:Nat) (o:Oper),ops[j]? = some o→(∀ e∈o.after.toList,Region.binds .any e=true→e.on<j)∧∀ (i:Nat) (x:Oper),i<j→ops[i]? = some x→conf pf ops x o=true→Reach ops i j∨(i=p∧j=q):=fun j o ho=>⟨(hok j o ho).1,(hok j o ho).2.1⟩
 intro fuel
 induction fuel with
 | zero=>intro listed pre E E2 objs objs2 a w _ hls hc hR _ hf hd hs _ _; simp at hf
 | succ fuel ih =>
  intro listed pre E E2 objs objs2 a w hpl hls hc hR hp hf hd hs hd2 hs2
  obtain ⟨pp1,pp2,pp3⟩:=List.pairwise_append.1 hp
  have hprep:∀ k∈pre,k<p:=fun k hk=>pp3 k hk p (by simp)
  have pp4:=(List.pairwise_cons.1 pp2).2
  have hmidp:∀ k∈mid,p<k:=fun k hk=>(List.pairwise_cons.1 pp2).1 k (by simp [hk])
  have hmidq:∀ k∈mid,k<q:=fun k hk=>(List.pairwise_append.1 pp4).2.2 k hk q (by simp)
  have hpost:∀ k∈post,q<k:=fun k hk=>(List.pairwise_cons.1 (List.pairwise_append.1 pp4).2.1).1 k hk
  have unl:∀ k,k∈pre++p::(mid++q::post)→listed.getD k false=false:=fun k hk=>by
   obtain ⟨h1,h2⟩:=(hR k).1 hk
   have hsz:k<listed.size:=by omega
   simp only [Array.getD,hsz,dif_pos] at h2 ⊢
   exact h2
  refine ⟨fun hnil=>?_,fun i hi=>?_⟩
  ·exfalso
   obtain ⟨k,R',hkR⟩:∃ k R',pre++p::(mid++q::post)=k::R':=by
    cases pre with
    | nil=>exact ⟨p,_,rfl⟩
    | cons k r=>exact ⟨k,_,rfl⟩
   rw [hkR] at hR hp
   obtain ⟨hk1,hk2⟩:=(hR k).1 (by simp)
   have ho:ops[k]? = some ops[k]:=Array.getElem?_eq_getElem hk1
   have:k∈Region.ready .any ops listed:=by
    refine mem_ready.2 ⟨hk1,hk2,ops[k],ho,fun e he hb=>?_⟩
    have hlt:=(hok k _ ho).1 e he hb
    have hnot:e.on ∉ (k::R'):=fun hm=>by
     rcases List.mem_cons.1 hm with hm | hm
     ·omega
     ·have:=(List.pairwise_cons.1 hp).1 _ hm; omega
    have hsz:e.on<listed.size:=by omega
    have h2:¬ (listed.getD e.on true=false):=fun h2=>hnot ((hR e.on).2 ⟨by omega,h2⟩)
    simp only [Array.getD,hsz,dif_pos] at h2 ⊢
    simpa using h2
   rw [hnil] at this; cases this
  ·obtain ⟨hi1,hi2,o,ho,hdeps⟩:=mem_ready.1 hi
   have hreachF:∀ k,k∈pre++p::(mid++q::post)→Reach ops k i→False:=fun k hk hr=>by
    have hl:=reach_listed hc hr (fun o' ho' e he hb=>by rw [ho] at ho'; cases ho'; exact hdeps e he hb)
    rw [unl k hk] at hl; cases hl
   have hconf:∀ k x,k∈pre++p::(mid++q::post)→k<i→ops[k]? = some x→¬ (k=p∧i=q)→conf pf ops x o=false:=fun k x hk hki hkx hne=>by
    cases hcf:conf pf ops x o
    ·rfl
    ·exfalso
     rcases (hok i o ho).2.1 k x hki hkx hcf with h | h
     ·exact hreachF k hk h
     ·exact hne h
   have hmem:=(hR i).2 ⟨hi1,hi2⟩
   rcases List.mem_append.1 hmem with hmem | hmem
   ·obtain ⟨preA,preB,rfl⟩:=List.append_of_mem hmem
    have e1:(preA++i::preB).filterMap (ops[·]?)=preA.filterMap (ops[·]?)++o::preB.filterMap (ops[·]?):=by
     rw [List.filterMap_append,List.filterMap_cons,ho]
    rw [e1] at hd hd2
    have hpreA:∀ k∈preA,k<i:=fun k hk=>(List.pairwise_append.1 pp1).2.2 k hk i (by simp)
    have hcf:∀ x∈preA.filterMap (ops[·]?),conf pf ops x o=false:=fun x hx=>by
     obtain ⟨k,hk,hkx⟩:=List.mem_filterMap.1 hx
     exact hconf k x (by simp [hk]) (hpreA k hk) hkx (fun ⟨h1,h2⟩=>by have:=hprep i (by simp); omega)
    rw [List.append_assoc,List.cons_append] at hd hd2
    obtain ⟨v,objs',hloc,hrest⟩:=Dr.front hK hcf hd
    obtain ⟨v2,objs2',hloc2,hrest2⟩:=Dr.front hK hcf hd2
    have hstep:=hloc.step E objs objs' a w (fun t _=>.refl _) (.inr (.inr ⟨rfl,rfl⟩)) hs Q
    have hstep2:=hloc2.step E2 objs2 objs2' a w (fun t _=>.refl _) (.inr (.inr ⟨rfl,rfl⟩)) hs2 Q
    have hboth:=wpOpIn_and (F:=g.F) (n:=g.dep) (P:=g.P) (Q:=Q) ho (hpl i (by simp) o ho) (K:=fun a' w'=>Sat g (putO E o.dst v) objs' a' w') (K':=fun a' w'=>Sat g (putO E2 o.dst v2) objs2' a' w') (by unfold wpOpIn; rw [ho]; exact hstep) (by unfold wpOpIn; rw [ho]; exact hstep2)
    refine wpOpIn_mono (fun a' w' hs'=>?_) hboth
    have hds:=draw_step (pre:=preA) (post:=preB++p::(mid++q::post)) hls hc (by intro k; rw [← hR k]; simp) (by simpa using hp) hi1 ho hdeps
    refine ih _ (preA++preB) _ _ objs' objs2' a' w' (fun j hj o' ho'=>hpl j (by simp only [List.mem_append,List.mem_cons] at hj ⊢; exact hj.imp id .inr) o' ho') hds.1 hds.2.1 (by intro k; rw [← hds.2.2.1 k]; simp) (by simpa using hds.2.2.2) (by simp at hf ⊢; omega) (by rw [List.filterMap_append,List.append_assoc]; exact hrest) hs'.1 (by rw [List.filterMap_append,List.append_assoc]; exact hrest2) hs'.2
   ·rcases List.mem_cons.1 hmem with hip | hmem
    ·subst hip
     rw [hoa] at ho; cases ho
     have hd1:=hd
     obtain ⟨v,objs',hloc,hrest⟩:=Dr.front hK (fun x hx=>by
      obtain ⟨k,hk,hkx⟩:=List.mem_filterMap.1 hx
      exact hconf k x (by simp [hk]) (hprep k hk) hkx (fun ⟨_,h2⟩=>by omega)) hd1
     have hstep:=hloc.step E objs objs' a w (fun t _=>.refl _) (.inr (.inr ⟨rfl,rfl⟩)) hs Q
     refine wpOpIn_mono (K:=fun a' w'=>Sat g (putO E oa.dst v) objs' a' w') (fun a' w' hs'=>?_) (by unfold wpOpIn; rw [hoa]; exact hstep)
     have hds:=draw_step (pre:=pre) (post:=mid++q::post) hls hc hR hp hi1 hoa hdeps
     refine any_of_drX hokX hK hQ fuel _ (pre++(mid++q::post)) _ objs' a' w' hds.1 hds.2.1 hds.2.2.1 hds.2.2.2 (by simp at hf ⊢; omega) (.inl fun h=>?_) (by rw [List.filterMap_append,List.filterMap_append,List.filterMap_cons,hob]; exact hrest) hs'
     rcases List.mem_append.1 h with h | h
     ·have:=hprep _ h; omega
     ·rcases List.mem_append.1 h with h | h
      ·have:=hmidp _ h; omega
      ·rcases List.mem_cons.1 h with h | h
       ·omega
       ·have:=hpost _ h; omega
    ·rcases List.mem_append.1 hmem with hmem | hmem
     ·exact (hreachF p (by simp) ((hok i o ho).2.2.1 (hmidp i hmem) (hmidq i hmem))).elim
     rcases List.mem_cons.1 hmem with hiq | hmem
     ·subst hiq
      rw [hob] at ho; cases ho
      have hd1:=hd2
      obtain ⟨v,objs',hloc,hrest⟩:=Dr.front hK (fun x hx=>by
       obtain ⟨k,hk,hkx⟩:=List.mem_filterMap.1 hx
       exact hconf k x (by simp [hk]) (by have:=hprep k hk; omega) hkx (fun ⟨h1,_⟩=>by have:=hprep k hk; omega)) hd1
      have hstep:=hloc.step E2 objs2 objs' a w (fun t _=>.refl _) (.inr (.inr ⟨rfl,rfl⟩)) hs2 Q
      refine wpOpIn_mono (K:=fun a' w'=>Sat g (putO E2 ob.dst v) objs' a' w') (fun a' w' hs'=>?_) (by unfold wpOpIn; rw [hob]; exact hstep)
      have hds:=draw_step (pre:=pre++p::mid) (post:=post) hls hc (by intro k; rw [← hR k]; simp) (by simpa using hp) hi1 hob hdeps
      refine any_of_drX hokX hK hQ fuel _ (pre++p::(mid++post)) _ objs' a' w' hds.1 hds.2.1 (by intro k; rw [← hds.2.2.1 k]; simp) (by simpa using hds.2.2.2) (by simp at hf ⊢; omega) (.inr fun h=>?_) (by rw [List.filterMap_append,List.filterMap_cons,hoa,List.filterMap_append]; exact hrest) hs'
      rcases List.mem_append.1 h with h | h
      ·have:=hprep _ h; omega
      ·rcases List.mem_cons.1 h with h | h
       ·omega
       ·rcases List.mem_append.1 h with h | h
        ·have:=hmidq _ h; omega
        ·have:=hpost _ h; omega
     ·exfalso
      rcases (hok i o ho).2.2.2 (hpost i hmem) with h | h
      ·exact hreachF p (by simp) h
      ·exact hreachF q (by simp) h

def moveL {α:Type} (p q:Nat) (l:List α):List α:=l.take p++((l.drop q).take 1++((l.drop p).take (q - p)++l.drop (q+1)))
def ord3 (p q:Nat) (pf:Nat→Cls) (ops:Array Oper):Bool:=Nat.blt p q&&Nat.blt q (len ops.toList)&&ordGo3 p q pf ops [] [] ops.toList

theorem fm_range {α:Type} (l:List α) (a n:Nat) (h:a+n≤l.length):(List.range' a n).filterMap (l[·]?)=(l.drop a).take n:=by
 induction n generalizing a with
 | zero=>simp
 | succ n ih =>
  rw [List.range'_succ,List.filterMap_cons,List.getElem?_eq_getElem (by omega)]
  simp only
  rw [ih (a+1) (by omega),List.drop_eq_getElem_cons (by omega:a<l.length),List.take_succ_cons]

theorem wp_draw3 (hg:GOk g) {p q:Nat} (hok:ord3 p q pf ops=true) {K:Env→List Ob→Prop} (hK:KC K) {Q:Exit→Act→World→Prop} (hQ:∀ E objs a w,K E objs→Sat g E objs a w→Q .normal a w)
  {E:Env} {objs:List Ob} (hpl:((ops.toList.take p).all fun o=>plainOp o.op)=true) (hd:Dr g pf ops ops.toList E objs K) (hd2:Dr g pf ops (moveL p q ops.toList) E objs K) {a:Act} {w:World} (hs:Sat g E objs a w) (id:Nat):(Code.region id ops true).wpIn g.F g.dep g.P Q a w:=by
 refine wpIn_region_any hg.mixed ?_
 simp only [ord3,Bool.and_eq_true,Nat.blt_eq,len_eq] at hok
 obtain ⟨⟨h1,h2⟩,h3⟩:=hok
 have hsz:ops.toList.length=ops.size:=by simp
 have hoa:ops[p]? = some ops[p]:=Array.getElem?_eq_getElem (by omega)
 have hob:ops[q]? = some ops[q]:=Array.getElem?_eq_getElem (by omega)
 have hrange:List.range ops.size=List.range' 0 p++p::(List.range' (p+1) (q - (p+1))++q::List.range' (q+1) (ops.size - (q+1))):=by
  obtain ⟨m,hm⟩:∃ m,ops.size=p+(1+((q - (p+1))+(1+m))):=⟨ops.size - (q+1),by omega⟩
  have e1:ops.size - (q+1)=m:=by omega
  rw [e1,List.range_eq_range',hm,← List.range'_append,← List.range'_append,← List.range'_append,← List.range'_append]
  have e2:0+1 * p=p:=by omega
  have e3:p+1 * 1=p+1:=by omega
  have e4:p+1+1 * (q - (p+1))=q:=by omega
  have e5:q+1 * 1=q+1:=by omega
  rw [e2,e3,e4,e5]
  simp [List.range'_succ]
 have f:∀ a n,a+n≤ops.size→(List.range' a n).filterMap (ops[·]?)=(ops.toList.drop a).take n:=fun a n h=>by
  have:=fm_range ops.toList a n (by omega)
  simpa using this
 have hpre:=f 0 p (by omega)
 have hmid:=f (p+1) (q - (p+1)) (by omega)
 have hpost:=f (q+1) (ops.size - (q+1)) (by omega)
 rw [List.drop_zero] at hpre
 have hpost':(List.range' (q+1) (ops.size - (q+1))).filterMap (ops[·]?)=ops.toList.drop (q+1):=by
  rw [hpost,List.take_of_length_le (by simp)]
 have ga:ops.toList=ops.toList.take p++ops[p]::((ops.toList.drop (p+1)).take (q - (p+1))++ops[q]::ops.toList.drop (q+1)):=by
  have h7:ops.toList=ops.toList.take p++ops.toList.drop p:=(List.take_append_drop _ _).symm
  have h8:ops.toList.drop p=ops[p]::ops.toList.drop (p+1):=by rw [List.drop_eq_getElem_cons (by omega)]; simp
  have h9:ops.toList.drop (p+1)=(ops.toList.drop (p+1)).take (q - (p+1))++ops.toList.drop q:=by
   conv=>lhs; rw [← List.take_append_drop (q - (p+1)) (ops.toList.drop (p+1))]
   rw [List.drop_drop,show p+1+(q - (p+1))=q by omega]
  have h10:ops.toList.drop q=ops[q]::ops.toList.drop (q+1):=by rw [List.drop_eq_getElem_cons (by omega)]; simp
  conv=>lhs; rw [h7,h8,h9,h10]
 have gb:moveL p q ops.toList=ops.toList.take p++ops[q]::ops[p]::((ops.toList.drop (p+1)).take (q - (p+1))++ops.toList.drop (q+1)):=by
  unfold moveL
  have h8:ops.toList.drop p=ops[p]::ops.toList.drop (p+1):=by rw [List.drop_eq_getElem_cons (by omega)]; simp
  have h10:ops.toList.drop q=ops[q]::ops.toList.drop (q+1):=by rw [List.drop_eq_getElem_cons (by omega)]; simp
  rw [h8,h10,show q - p=(q - (p+1))+1 by omega]
  simp
 rw [gb] at hd2
 rw [ga] at hd
 refine any_of_dr3 h1 (ops:=ops) (fun j o ho=>ordGo3_spec h1 (ops:=ops) ops.toList [] [] rfl rfl (by simp) h3 j o (Nat.zero_le _) ho) hK hQ hoa hob (List.range' (p+1) (q - (p+1))) (List.range' (q+1) (ops.size - (q+1))) ops.size (Array.replicate ops.size false) (List.range' 0 p) E E objs objs a _ ?_ (by simp) ?_ ?_ ?_ ?_ ?_ hs.drew ?_ hs.drew
 ·intro j hj o ho
  have hj:j<p:=by have:=List.mem_range'.1 hj; omega
  have:=List.all_eq_true.1 hpl o (List.mem_iff_getElem?.2 ⟨j,by rw [List.getElem?_take_of_lt hj,Array.getElem?_toList]; exact ho⟩)
  exact this
 ·intro k o hk
  simp [Array.getD] at hk
 ·intro i
  rw [← hrange]
  simp only [List.mem_range,Array.getD,Array.size_replicate]
  constructor
  ·intro h; simp [h]
  ·intro h; exact h.1
 ·rw [← hrange]; exact List.pairwise_lt_range
 ·rw [← hrange]; simp
 ·rw [hpre,hmid,hpost']; exact hd
 ·rw [hpre,hmid,hpost']; exact hd2

theorem R_pair3 {Fin:Exit→Act→World→Prop} (hg:GOk g) (p q:Nat) {id:Nat} {k:List It} {E:Env} {objs:List Ob} (hx:ord3 p q pf ops=true) (hpl:((ops.toList.take p).all fun o=>plainOp o.op)=true) (h1:R g pf Fin (.dr ops ops.toList::k) E objs) (h2:R g pf Fin (.dr ops (moveL p q ops.toList)::k) E objs):R g pf Fin (.code (.region id ops true)::k) E objs:=by
 rintro ⟨ho1,ho⟩
 have h1:=h1 ho
 have h2:=h2 ho
 simp only at h1 h2
 intro a w hs
 simp only [KP]
 have hQ:∀ E objs a w,RK g Fin k E objs→Sat g E objs a w→KP g Fin k .normal a w:=fun _ _ a w hr hs=>hr a w hs
 exact wp_draw3 hg hx (RK_kc k) hQ hpl h1 h2 hs id
end
end PSL
namespace PSL
open Go Go.RowKit
section
variable {g:G} {pf:Nat→Cls} {ops:Array Oper} {Fin:Exit→Act→World→Prop}

theorem R_step (hg:GOk g) {o:Oper} {rest:List Oper} {k:List It} {E:Env} {objs objs':List Ob} {v:AV} (hhe:held (isL4 pf) o.op=false) (hgd:guardA ops.toList E o.guard=some true) (hd:dstOk ⟨g.ty,g.N⟩ o.dst=true)
  (h:stepOp g.ty (ev E) objs o.op=some (v,objs')) (hr:R g pf Fin (.dr ops rest::k) (putO E o.dst v) objs'):R g pf Fin (.dr ops (o::rest)::k) E objs :=
 R_op (.step' hg hhe (guardA_ok hgd) (dstOk_ok hd) h) hr
end

theorem SCtr.nil {P:Program} {Y:YP} {f sz s:Nat} {axs:List AV} {rows:List (List D)} (h:SCtr P Y f (.ow 0 0::axs) [.arr sz 0 []] (.ow 0 s) [.arr sz s rows]) (hp:pureL axs=true):PCtr P f (.d (.v (.slice none 0 0))::axs) (.d (.sl rows)):=by
 refine ⟨h.call,fun S w vals ha hS hv=>?_⟩
 cases vals with
 | nil=>simp [RVs] at hv
 | cons v vs =>
  simp only [RVs,RV] at hv
  obtain ⟨hv1,hv2⟩:=hv
  cases hv1
  have hnb:∀ b,¬ bls [Phy.sli sz 0 (.slice none 0 0) none] b:=by
   rintro b ⟨i,p,h1,h2⟩
   cases i with
   | zero=>simp at h1; subst h1; simp [Phy.bl] at h2
   | succ i=>simp at h1
  have hHS:HS S [Phy.sli sz 0 (.slice none 0 0) none] [.arr sz 0 []] w:=by
   refine ⟨rfl,fun i ph ob h1 h2=>?_,fun i j p q b h1 h2 h3 h4=>absurd ⟨i,p,h1,h3⟩ (hnb b),fun b hb=>absurd hb (hnb b),hS⟩
   cases i with
   | zero=>simp at h1 h2; subst h1; subst h2; simp only [ObOk]; exact ⟨trivial,trivial,by simp,.inl ⟨none,rfl,trivial,trivial⟩⟩
   | succ i=>simp at h1
  have hk:Keep S w (SS S [Phy.sli sz 0 (.slice none 0 0) none]) w:=fun b hb _=>⟨⟨hb,hnb b⟩,rfl⟩
  have hcall:=h.run S _ w (.slice none 0 0::vs) (ha.keep hk) hHS (fun b hb=>absurd hb (hnb b)) (fun i l I B hi=>by
   cases i with
   | zero=>simp at hi
   | succ i=>simp at hi) (by
    simp only [RVs,RV]
    refine ⟨⟨⟨none,0,0,rfl⟩,_,rfl,fun sz' s' x' ob' he=>?_⟩,RVs.pure hk hp hv2⟩
    cases he; exact ⟨Nat.le_refl _,fun _=>rfl⟩)
  refine hcall.mono ?_
  rintro e w' ⟨v,φ',rfl,hr,hst⟩
  have hbl:∀ b,bls φ' b→S b:=fun b hb=>(hst.own b hb).elim (fun h=>absurd h (hnb b)) (hS b)
  refine ⟨v,rfl,?_,⟨hst.os,hst.tape,hst.out,hst.size,fun b hb=>hst.fr b hb (hnb b)⟩⟩
  exact sealA_ok hbl hst.hs 5 hr (by simp [sealA,nth])
end PSL
namespace PSL
open Go Go.RowKit
section
variable {g:G} {pf:Nat→Cls} {ops:Array Oper} {Fin:Exit→Act→World→Prop}

theorem R_concat (hg:GOk g) {dst:Option Nat} {T T':Nat} {x y:Operand} {ty:Nat} {pos:String} {after:Array Edge} {gd:Option (Nat × Bool)} {rest:List Oper} {k:List It} {E:Env} {objs:List Ob}
  {a b:ByteArray} (c:ByteArray)
  (hgd:guardA ops.toList E gd=some true) (hd:dstOk ⟨g.ty,g.N⟩ dst=true) (hx:ev E x=.d (.v (.string a))) (hy:ev E y=.d (.v (.string b))) (hs:a.size+b.size≤1000000000) (hc:a++b=c)
  (hr:R g pf Fin (.dr ops rest::k) (putO E dst (.d (.v (.string c)))) objs):R g pf Fin (.dr ops (⟨dst,.binOp .add T x y T',ty,pos,after,gd⟩::rest)::k) E objs:=by
 subst hc
 refine R_op (LocOp.up (LocOp.quiet hg hgd hd (by simp) fun φ objs w' w hρ hs'=>?_)) hr
 rename_i ac
 simp only [Op.operands] at hρ
 have hxv:=hρ x (by simp)
 rw [hx] at hxv
 have hyv:=hρ y (by simp)
 rw [hy] at hyv
 simp only [RV] at hxv hyv
 generalize hvx:w'.eval x=vx at hxv
 generalize hvy:w'.eval y=vy at hyv
 cases hxv; cases hyv
 refine out_val hs' (vv:=.string (a++b)) ?_ (by simp only [RV]; exact .v _)
 have h1:¬ (((a.size+b.size:Nat):Int) > IntKind.i64.max):=by simp [IntKind.max,IntKind.signed,IntKind.bits]; omega
 have h2:(binOp .add T (.string a) (.string b)).run g.P w=.ok (.string (a++b)) w:=by
  simp only [binOp,Op.stringOp]
  rw [if_neg h1]; rfl
 simp only [execOp,Sem.run_bind,hvx,hvy,run_eqGuard (show plainV (.string a)=true from rfl),Result.andThen_ok,h2,Sem.run_pure]

theorem R_convB (hg:GOk g) {dst:Option Nat} {S D:Nat} {x:Operand} {ty:Nat} {pos:String} {after:Array Edge} {gd:Option (Nat × Bool)} {rest:List Oper} {k:List It} {E:Env} {objs:List Ob}
  {q by_ q' by':Nat} {z z':List Value} {kk k2:IntKind} {n:Int} (c:ByteArray)
  (hgd:guardA ops.toList E gd=some true) (hd:dstOk ⟨g.ty,g.N⟩ dst=true) (hx:ev E x=.d (.v (.int k2 n))) (hS:g.ty S=some ⟨q,by_,z,.int kk⟩) (hD:g.ty D=some ⟨q',by',z',.str⟩) (hc:Utf8.encode n=c)
  (hr:R g pf Fin (.dr ops rest::k) (putO E dst (.d (.v (.string c)))) objs):R g pf Fin (.dr ops (⟨dst,.convert S D x,ty,pos,after,gd⟩::rest)::k) E objs:=by
 subst hc
 refine R_op (LocOp.up (LocOp.quiet hg hgd hd (by simp) fun φ objs w' w hρ hs'=>?_)) hr
 simp only [Op.operands] at hρ
 have hxv:=hρ x (by simp)
 rw [hx] at hxv
 simp only [RV] at hxv
 generalize hvx:w'.eval x=vx at hxv
 cases hxv
 have hu:=(hg.ty _ _ hS).sh
 have hv:=(hg.ty _ _ hD).sh
 simp only [ShFact] at hu hv
 refine out_val hs' (vv:=.string (Utf8.encode n)) ?_ (by simp only [RV]; exact .v _)
 simp [execOp,hvx,convert,run_underlying hu,run_underlying hv,Conv.intToString]
def byRows (l:List UInt8):List (List D):=l.map fun b=>[.v (.int .u8 b.toNat)]

theorem bytes_foldl:∀ (l:List UInt8) (s:ByteArray),(l.map fun b=>(b.toNat:Int)).foldl (fun r n=>r.push (UInt8.ofNat n.toNat)) s=⟨s.data++l.toArray⟩
 | [],s=>by simp
 | b::l,s=>by
  simp only [List.map_cons,List.foldl_cons]
  rw [bytes_foldl l]
  have:UInt8.ofNat ((b.toNat:Int)).toNat=b:=by simp
  rw [this]
  show ByteArray.mk (s.data.push b++l.toArray)=_
  congr 1
  apply Array.ext'
  simp

theorem R_convD (hg:GOk g) {dst:Option Nat} {S D:Nat} {x:Operand} {ty:Nat} {pos:String} {after:Array Edge} {gd:Option (Nat × Bool)} {rest:List Oper} {k:List It} {E:Env} {objs:List Ob}
  {q by_ q' by' q2 by2 e:Nat} {z z' z2:List Value} (l:List UInt8)
  (hgd:guardA ops.toList E gd=some true) (hd:dstOk ⟨g.ty,g.N⟩ dst=true) (hx:nrm (ev E x)=.d (.sl (byRows l))) (hS:g.ty S=some ⟨q,by_,z,.slice e⟩) (he:g.ty e=some ⟨q2,by2,z2,.int .u8⟩) (hD:g.ty D=some ⟨q',by',z',.str⟩)
  (hr:R g pf Fin (.dr ops rest::k) (putO E dst (.d (.v (.string ⟨l.toArray⟩)))) objs):R g pf Fin (.dr ops (⟨dst,.convert S D x,ty,pos,after,gd⟩::rest)::k) E objs:=by
 refine R_op (LocOp.up (LocOp.quiet hg hgd hd (by simp) fun φ objs w' w hρ hs'=>?_)) hr
 simp only [Op.operands] at hρ
 have hxv:=Ent.nrm _ _ _ _ _ (hρ x (by simp))
 rw [hx] at hxv
 simp only [RV] at hxv
 have hu:=(hg.ty _ _ hS).sh
 have hv:=(hg.ty _ _ hD).sh
 have hw:=(hg.ty _ _ he).sh
 simp only [ShFact] at hu hv hw
 obtain ⟨cells,hf⟩:=Fst.of_rd (P:=g.P) hxv (sz:=1) (by intro r hr; obtain ⟨b,_,rfl⟩:=List.mem_map.1 hr; rfl)
 generalize hvx:w'.eval x=vx at hxv hf
 refine out_val hs' (vv:=.string ⟨l.toArray⟩) ?_ (by simp only [RV]; exact .v _)
 obtain ⟨p,c,hvv⟩:=hf.sl
 have hlen:(byRows l).length=l.length:=by simp [byRows]
 have hcells:cells=l.map fun b=>Value.int .u8 (b.toNat:Int):=by
  apply List.ext_getElem?
  intro i
  by_cases hi:i<l.length
  ·have hb:(byRows l)[i]? = some [.v (.int .u8 (l[i]'hi).toNat)]:=by rw [byRows,List.getElem?_map,List.getElem?_eq_getElem hi]; rfl
   obtain ⟨y,h1,h2⟩:=hf.rd i _ 0 _ hb rfl
   cases h2
   rw [Nat.mul_one,Nat.add_zero] at h1
   rw [h1,List.getElem?_map,List.getElem?_eq_getElem hi]; rfl
  ·rw [List.getElem?_eq_none (by rw [hf.len,hlen]; omega),List.getElem?_eq_none (by simp; omega)]
 have hconv:(convert S D vx).run g.P w=.ok (.string ⟨l.toArray⟩) w:=by
  rw [hvv,run_convert_bytes_string w S D e p _ c hu hw hv]
  cases p with
  | none =>
   have h0:l=[]:=by
    rw [hvv] at hxv
    generalize byRows l=R at hxv hlen
    cases hxv
    exact List.length_eq_zero_iff.1 hlen.symm
   subst h0
   simp [Conv.bytesToString]; rfl
  | some ad =>
   rw [hlen]
   rw [run_bytesToString w ad l.length c (l.map fun b=>(b.toNat:Int)) ?_]
   ·rw [bytes_foldl]; simp
   ·have:=hf.run w rfl
    rw [hvv,hlen,hcells] at this
    simp only [Builtin.firstCells,Nat.mul_one] at this
    rw [List.map_map]
    simpa [Function.comp_def] using this
 simp only [execOp,hvx,Sem.run_bind,hconv,Result.andThen_ok,Sem.run_pure]

theorem R_rangeS (hg:GOk g) {dst:Option Nat} {T:Nat} {x:Operand} {ty:Nat} {pos:String} {after:Array Edge} {gd:Option (Nat × Bool)} {rest:List Oper} {k:List It} {E:Env} {objs:List Ob}
  {q by_:Nat} {z:List Value} {s:ByteArray}
  (hgd:guardA ops.toList E gd=some true) (hd:dstOk ⟨g.ty,g.N⟩ dst=true) (hx:ev E x=.d (.v (.string s))) (hT:g.ty T=some ⟨q,by_,z,.str⟩)
  (hr:R g pf Fin (.dr ops rest::k) (putO E dst (.lo (len objs) 0)) (objs++[.itr s 0])):R g pf Fin (.dr ops (⟨dst,.range T x,ty,pos,after,gd⟩::rest)::k) E objs:=by
 refine R_op (LocOp.effect hg hgd hd (by simp) fun φ a w hρ hs=>?_) hr
 simp only [Op.operands] at hρ
 have hxv:=hρ x (by simp)
 rw [hx] at hxv
 simp only [RV] at hxv
 generalize hvx:a.eval x=vx at hxv
 cases hxv
 have hu:=(hg.ty _ _ hT).sh
 simp only [ShFact] at hu
 refine ⟨.value (.pointer (some ⟨w.heap.size,0,none⟩)),.pointer (some ⟨w.heap.size,0,none⟩),w.alloc (.stringIter s 0),φ++[.blk w.heap.size],?_,.inl rfl,?_,?_⟩
 ·simp only [execOp,hvx,Instr.range,Sem.run_bind,run_underlying hu,Result.andThen_ok,Sem.run_pure,run_newObj]
  rfl
 ·simp only [RV]
  exact ⟨w.heap.size,by rw [len_eq,← hs.len]; simp,rfl⟩
 ·refine Stp.new hs (fun b hb=>by simp only [Phy.bl] at hb; exact hb.symm) ?_
  simp only [ObOk]
  exact heap_alloc_new _ _

theorem R_nextS (hg:GOk g) {dst:Option Nat} {x:Operand} {ty:Nat} {pos:String} {after:Array Edge} {gd:Option (Nat × Bool)} {rest:List Oper} {k:List It} {E:Env} {objs:List Ob}
  {i p:Nat} {s:ByteArray} {c wd:Nat}
  (hgd:guardA ops.toList E gd=some true) (hd:dstOk ⟨g.ty,g.N⟩ dst=true) (hx:ev E x=.lo i 0) (ho:nth objs i=some (.itr s p)) (hp:p<s.size) (hc:Utf8.decode s p=(c,wd))
  (hr:R g pf Fin (.dr ops rest::k) (putO E dst (.tup [.tt,iV p,.d (.v (.int .i32 c))])) (setN objs i (.itr s (p+wd)))):R g pf Fin (.dr ops (⟨dst,.next x true,ty,pos,after,gd⟩::rest)::k) E objs:=by
 refine R_op (LocOp.effect hg hgd hd (by simp) fun φ a w hρ hs=>?_) hr
 simp only [Op.operands] at hρ
 have hxv:=hρ x (by simp)
 rw [hx] at hxv
 simp only [RV] at hxv
 obtain ⟨b,hph,hvx⟩:=hxv
 have hk:=obj_at hs hph ho
 simp only [ObOk] at hk
 have hbl:b<w.heap.size:=(Array.getElem?_eq_some_iff.1 hk).1
 refine ⟨.value (.tuple #[.bool true,.int .i64 p,.int .i32 c]),.tuple #[.bool true,.int .i64 p,.int .i32 c],w.putObj b (.stringIter s (p+wd)),φ.set i (.blk b),?_,.inl rfl,?_,?_⟩
 ·have hget:(getObj b).run g.P w=.ok (.stringIter s p) w:=by simp [getObj,Sem.run,hk]
  have hset:(setObj b (.stringIter s (p+wd))).run g.P w=.ok () (w.putObj b (.stringIter s (p+wd))):=by simp [setObj,Sem.run,hk,World.putObj]
  simp only [execOp,hvx,Instr.next,Sem.run_bind,hget,Result.andThen_ok]
  rw [if_pos hp]
  simp only [hc,Sem.run_bind,hset,Result.andThen_ok,Sem.run_pure]
  rfl
 ·simp only [RV,RVs]
  exact ⟨[_,_,_],rfl,rfl,by simp only [iV,RV]; exact .v _,.v _,trivial⟩
 ·rw [setN_eq]
  refine Stp.swap hs hph (.inl rfl) (by simp) (fun c _ hc=>World.putObj_heap_other fun e=>hc (by rw [e]; rfl)) (fun b' hb=>.inl hb) rfl rfl rfl fun _ _=>?_
  simp only [ObOk]
  exact World.putObj_heap_same hbl

theorem R_nextE (hg:GOk g) {dst:Option Nat} {x:Operand} {ty:Nat} {pos:String} {after:Array Edge} {gd:Option (Nat × Bool)} {rest:List Oper} {k:List It} {E:Env} {objs:List Ob}
  {i p:Nat} {s:ByteArray}
  (hgd:guardA ops.toList E gd=some true) (hd:dstOk ⟨g.ty,g.N⟩ dst=true) (hx:ev E x=.lo i 0) (ho:nth objs i=some (.itr s p)) (hp:s.size≤p)
  (hr:R g pf Fin (.dr ops rest::k) (putO E dst (.tup [.ff])) objs):R g pf Fin (.dr ops (⟨dst,.next x true,ty,pos,after,gd⟩::rest)::k) E objs:=by
 refine R_op (LocOp.effect hg hgd hd (by simp) fun φ a w hρ hs=>?_) hr
 simp only [Op.operands] at hρ
 have hxv:=hρ x (by simp)
 rw [hx] at hxv
 simp only [RV] at hxv
 obtain ⟨b,hph,hvx⟩:=hxv
 have hk:=obj_at hs hph ho
 simp only [ObOk] at hk
 refine out_val hs (vv:=.tuple #[.bool false]) ?_ (by simp only [RV,RVs]; exact ⟨[_],rfl,rfl,trivial⟩)
 have hget:(getObj b).run g.P w=.ok (.stringIter s p) w:=by simp [getObj,Sem.run,hk]
 simp only [execOp,hvx,Instr.next,Sem.run_bind,hget,Result.andThen_ok]
 rw [if_neg (by omega)]
 simp only [Sem.run_pure,Result.andThen_ok]

theorem R_lenStr (hg:GOk g) {dst:Option Nat} {T:Nat} {x:Operand} {ty:Nat} {pos:String} {after:Array Edge} {gd:Option (Nat × Bool)} {rest:List Oper} {k:List It} {E:Env} {objs:List Ob}
  {q by_:Nat} {z:List Value} {s:ByteArray} {n:Int}
  (hgd:guardA ops.toList E gd=some true) (hd:dstOk ⟨g.ty,g.N⟩ dst=true) (hx:ev E x=.d (.v (.string s))) (hT:g.ty T=some ⟨q,by_,z,.str⟩) (hn:(s.size:Int)=n)
  (hr:R g pf Fin (.dr ops rest::k) (putO E dst (iV n)) objs):R g pf Fin (.dr ops (⟨dst,.call { callee:=.builtin .len,args:=#[x],argTypes:=#[T] },ty,pos,after,gd⟩::rest)::k) E objs:=by
 subst hn
 refine R_op (LocOp.up (LocOp.quiet hg hgd hd (by simp) fun φ objs a w hρ hs=>?_)) hr
 simp only [Op.operands,Call.operands] at hρ
 have hxv:=hρ x (by simp)
 rw [hx] at hxv
 simp only [RV] at hxv
 generalize hvx:a.eval x=vx at hxv
 cases hxv
 have hu:=(hg.ty _ _ hT).sh
 simp only [ShFact] at hu
 refine out_val hs (vv:=.int .i64 s.size) ?_ (by simp only [RV,iV]; exact .v _)
 simp [execOp,resolve,invoke,builtin,Builtin.len_,hvx,run_underlying hu,Result.andThen]
 rfl
end
end PSL
namespace PSL
open Go Go.RowKit
section
variable {g:G} {pf:Nat→Cls} {ops:Array Oper} {Fin:Exit→Act→World→Prop}
end
end PSL
