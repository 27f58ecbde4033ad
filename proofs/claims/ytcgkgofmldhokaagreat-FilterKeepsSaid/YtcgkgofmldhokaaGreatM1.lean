import Derived.Test.YtcgkgofmldhokaaGreatPslB
import Derived.RangeFuncNested
import Derived.MapKept
import Derived.Laws.Strings
set_option maxRecDepth 100000
set_option maxHeartbeats 4000000
namespace PSL
open Go Go.RowKit

def rn (is:List Nat)(base i:Nat):Nat :=
 match nth is i with
 |some j=>j
 |none=>Nat.add base (Nat.sub i (len is))

mutual
def renA (f:Nat→Nat):AV→AV
 | .lo i o=>.lo (f i) o
 | .el i s r j=>.el (f i) s r j
 | .vw i s r=>.vw (f i) s r
 | .ow i s=>.ow (f i) s
 | .mp i=>.mp (f i)
 | .yl i=>.yl (f i)
 | .agg l=>.agg (renL f l)
 | .tup l=>.tup (renL f l)
 | .clo g a c=>.clo g (renL f a) (renL f c)
 | .any=>.any
 | .tt=>.tt
 | .ff=>.ff
 | .d x=>.d x
 | .fs r=>.fs r
def renL (f:Nat→Nat):List AV→List AV
 |[]=>[]
 |x::l=>renA f x::renL f l
end

def renOb (f:Nat→Nat):Ob→Ob
 | .box l=>.box (renL f l)
 | .arr sz s rows=>.arr sz s rows
 | .map es=>.map (es.map fun x=>(x.1,renA f x.2))
 | .yld pre=>.yld pre
 | .mat hs rows=>.mat hs rows
 | .itr s pos=>.itr s pos
 | .dead=>.dead
 | .tbox T l=>.tbox T (renL f l)
 | .byt e s bs=>.byt e s bs

theorem renL_map (f:Nat→Nat):∀ (l:List AV),renL f l=l.map (renA f)
 |[]=>by simp[renL]
 |x::l=>by simp[renL,renL_map f l]

mutual
theorem RV.ren {S S':Nat→Prop}{w:World}{φ ψ:List Phy}{f:Nat→Nat}(hk:Keep S w S' w)(h:∀i p,φ[i]? = some p→ψ[f i]? = some p):∀ {x:AV} {v:Value},RV S w φ x v→RV S' w ψ (renA f x) v
 | .any,_,_=>by simp[RV,renA]
 | .tt,_,h=>by simpa[RV,renA]using h
 | .ff,_,h=>by simpa[RV,renA]using h
 | .d x,v,h=>by simp only[RV,renA]at h ⊢;exact h.mono hk
 | .fs rows,v,h=>by simp only[RV,renA]at h ⊢;exact⟨h.1.mono hk,h.2⟩
 | .agg l,v,hv=>by
  simp only[RV,renA]at hv ⊢
  obtain⟨cs,h1,h2⟩:=hv
  exact⟨cs,h1,RVs.ren hk h h2⟩
 | .lo i off,v,hv=>by
  simp only[RV,renA]at hv ⊢
  obtain⟨b,h1,h2⟩:=hv
  exact⟨b,h _ _ h1,h2⟩
 | .el i t r j,v,hv=>by
  simp only[RV,renA]at hv ⊢
  obtain⟨h0,p,h1,h2⟩:=hv
  exact⟨h0,p,h _ _ h1,h2⟩
 | .vw i t r,v,hv=>by
  simp only[RV,renA]at hv ⊢
  obtain⟨h0,p,h1,h2⟩:=hv
  exact⟨h0,p,h _ _ h1,h2⟩
 | .ow i t,v,hv=>by
  simp only[RV,renA]at hv ⊢
  obtain⟨h0,p,h1,h2⟩:=hv
  exact⟨h0,p,h _ _ h1,h2⟩
 | .mp i,v,hv=>by
  simp only[RV,renA]at hv ⊢
  obtain⟨b,h1,h2⟩:=hv
  exact⟨b,h _ _ h1,h2⟩
 | .yl i,v,hv=>by
  simp only[RV,renA]at hv ⊢
  obtain⟨l,I,B,h1,h2⟩:=hv
  exact⟨l,I,B,h _ _ h1,h2⟩
 | .tup l,v,hv=>by
  simp only[RV,renA]at hv ⊢
  obtain⟨cs,h1,h2⟩:=hv
  exact⟨cs,h1,RVs.ren hk h h2⟩
 | .clo g a c,v,hv=>by
  simp only[RV,renA]at hv ⊢
  obtain⟨va,vc,h1,h2,h3⟩:=hv
  exact⟨va,vc,h1,RVs.ren hk h h2,RVs.ren hk h h3⟩
theorem RVs.ren {S S':Nat→Prop}{w:World}{φ ψ:List Phy}{f:Nat→Nat}(hk:Keep S w S' w)(h:∀i p,φ[i]? = some p→ψ[f i]? = some p):∀ {l:List AV} {vs:List Value},RVs S w φ l vs→RVs S' w ψ (renL f l) vs
 |[],[],_=>by simp[RVs,renL]
 |[],_::_,h=>by simp[RVs]at h
 |_::_,[],h=>by simp[RVs]at h
 |a::l,v::vs,hv=>by
  simp only[RVs,renL]at hv ⊢
  exact⟨RV.ren hk h hv.1,RVs.ren hk h hv.2⟩
end

mutual
theorem RV.unren {S S':Nat→Prop}{w:World}{φ ψ:List Phy}{f:Nat→Nat}(hk:Keep S w S' w)(h:∀i p,φ[f i]? = some p→ψ[i]? = some p):∀ {x:AV} {v:Value},RV S w φ (renA f x) v→RV S' w ψ x v
 | .any,_,_=>by simp[RV]
 | .tt,_,h=>by simpa[RV,renA]using h
 | .ff,_,h=>by simpa[RV,renA]using h
 | .d x,v,h=>by simp only[RV,renA]at h ⊢;exact h.mono hk
 | .fs rows,v,h=>by simp only[RV,renA]at h ⊢;exact⟨h.1.mono hk,h.2⟩
 | .agg l,v,hv=>by
  simp only[RV,renA]at hv ⊢
  obtain⟨cs,h1,h2⟩:=hv
  exact⟨cs,h1,RVs.unren hk h h2⟩
 | .lo i off,v,hv=>by
  simp only[RV,renA]at hv ⊢
  obtain⟨b,h1,h2⟩:=hv
  exact⟨b,h _ _ h1,h2⟩
 | .el i t r j,v,hv=>by
  simp only[RV,renA]at hv ⊢
  obtain⟨h0,p,h1,h2⟩:=hv
  exact⟨h0,p,h _ _ h1,h2⟩
 | .vw i t r,v,hv=>by
  simp only[RV,renA]at hv ⊢
  obtain⟨h0,p,h1,h2⟩:=hv
  exact⟨h0,p,h _ _ h1,h2⟩
 | .ow i t,v,hv=>by
  simp only[RV,renA]at hv ⊢
  obtain⟨h0,p,h1,h2⟩:=hv
  exact⟨h0,p,h _ _ h1,h2⟩
 | .mp i,v,hv=>by
  simp only[RV,renA]at hv ⊢
  obtain⟨b,h1,h2⟩:=hv
  exact⟨b,h _ _ h1,h2⟩
 | .yl i,v,hv=>by
  simp only[RV,renA]at hv ⊢
  obtain⟨l,I,B,h1,h2⟩:=hv
  exact⟨l,I,B,h _ _ h1,h2⟩
 | .tup l,v,hv=>by
  simp only[RV,renA]at hv ⊢
  obtain⟨cs,h1,h2⟩:=hv
  exact⟨cs,h1,RVs.unren hk h h2⟩
 | .clo g a c,v,hv=>by
  simp only[RV,renA]at hv ⊢
  obtain⟨va,vc,h1,h2,h3⟩:=hv
  exact⟨va,vc,h1,RVs.unren hk h h2,RVs.unren hk h h3⟩
theorem RVs.unren {S S':Nat→Prop}{w:World}{φ ψ:List Phy}{f:Nat→Nat}(hk:Keep S w S' w)(h:∀i p,φ[f i]? = some p→ψ[i]? = some p):∀ {l:List AV} {vs:List Value},RVs S w φ (renL f l) vs→RVs S' w ψ l vs
 |[],[],_=>by simp[RVs]
 |[],_::_,h=>by simp[RVs,renL]at h
 |_::_,[],h=>by simp[RVs,renL]at h
 |a::l,v::vs,hv=>by
  simp only[RVs,renL]at hv ⊢
  exact⟨RV.unren hk h hv.1,RVs.unren hk h hv.2⟩
end

theorem ObOk.ren {S S':Nat→Prop}{w:World}{φ ψ:List Phy}{f:Nat→Nat}(hk:Keep S w S' w)(h:∀i p,φ[i]? = some p→ψ[f i]? = some p){ph:Phy}{ob:Ob}(ho:ObOk S w φ ph ob):ObOk S' w ψ ph (renOb f ob):=by
 cases ph<;>cases ob<;>simp only[ObOk,renOb]at ho ⊢
 ·obtain ⟨cs,T,h1,h2⟩:=ho
  exact⟨cs,T,h1,h2.ren hk h⟩
 ·obtain ⟨ents,clk,h1,h2,h3⟩:=ho
  refine⟨ents,clk,h1,?_,?_⟩
  ·simpa[List.map_map,Function.comp_def]using h2
  ·have:=h3.ren hk h
   rw[renL_map]at this
   simpa[List.map_map,Function.comp_def]using this
 ·exact ho
 ·obtain ⟨cs,h1,h2⟩:=ho
  exact⟨cs,h1,h2.ren hk h⟩
 ·obtain ⟨h0,h0',h1,h2⟩:=ho
  refine⟨h0,h0',h1,?_⟩
  rcases h2 with h2 |⟨b,o,cap,cs,T,h2,h3,h4,h5,h6,h7,h8⟩
  ·exact .inl h2
  ·refine .inr ⟨b,o,cap,cs,T,h2,h3,h4,h5,h6,h7,fun i r j x hi hj=>?_⟩
   obtain⟨y,h9,h10⟩:=h8 i r j x hi hj
   exact⟨y,h9,h10.mono hk⟩
 ·exact ho
 ·exact⟨ho.1,ho.1 _ _ _ _ _ _ (Nat.le_refl _) (fun _ _=>rfl) hk ho.2⟩
 ·obtain ⟨h0,h0',h1,h2⟩:=ho
  refine⟨h0,h0',h1,fun i x r hi hr=>?_⟩
  obtain⟨cs,T,h3,h4,h5,h6,h7⟩:=h2 i x r hi hr
  refine⟨cs,T,h3,h4,h5,h6,fun j d hd=>?_⟩
  obtain⟨y,h8,h9⟩:=h7 j d hd
  exact⟨y,h8,h9.mono hk⟩

theorem ObOk.unren {S S':Nat→Prop}{w:World}{φ ψ:List Phy}{f:Nat→Nat}(hk:Keep S w S' w)(h:∀i p,φ[f i]? = some p→ψ[i]? = some p){ph:Phy}{ob:Ob}(ho:ObOk S w φ ph (renOb f ob)):ObOk S' w ψ ph ob:=by
 cases ph<;>cases ob<;>simp only[ObOk,renOb]at ho ⊢
 ·obtain ⟨cs,T,h1,h2⟩:=ho
  exact⟨cs,T,h1,h2.unren hk h⟩
 ·obtain ⟨ents,clk,h1,h2,h3⟩:=ho
  refine⟨ents,clk,h1,?_,?_⟩
  ·simpa[List.map_map,Function.comp_def]using h2
  ·rename_i es
   have h4:renL f (es.map (·.2))=(es.map fun x=>(x.1,renA f x.2)).map (·.2):=by rw[renL_map];simp[List.map_map,Function.comp_def]
   rw[← h4]at h3
   exact h3.unren hk h
 ·exact ho
 ·obtain ⟨cs,h1,h2⟩:=ho
  exact⟨cs,h1,h2.unren hk h⟩
 ·obtain ⟨h0,h0',h1,h2⟩:=ho
  refine⟨h0,h0',h1,?_⟩
  rcases h2 with h2 |⟨b,o,cap,cs,T,h2,h3,h4,h5,h6,h7,h8⟩
  ·exact .inl h2
  ·refine .inr ⟨b,o,cap,cs,T,h2,h3,h4,h5,h6,h7,fun i r j x hi hj=>?_⟩
   obtain⟨y,h9,h10⟩:=h8 i r j x hi hj
   exact⟨y,h9,h10.mono hk⟩
 ·exact ho
 ·exact⟨ho.1,ho.1 _ _ _ _ _ _ (Nat.le_refl _) (fun _ _=>rfl) hk ho.2⟩
 ·obtain ⟨h0,h0',h1,h2⟩:=ho
  refine⟨h0,h0',h1,fun i x r hi hr=>?_⟩
  obtain⟨cs,T,h3,h4,h5,h6,h7⟩:=h2 i x r hi hr
  refine⟨cs,T,h3,h4,h5,h6,fun j d hd=>?_⟩
  obtain⟨y,h8,h9⟩:=h7 j d hd
  exact⟨y,h8,h9.mono hk⟩

def putAll {α:Type}:List Nat→List α→List α→List α
 |[],new,l=>l++new
 |j::is,o::new,l=>putAll is new (setN l j o)
 |_::_,[],l=>l

def memN (j:Nat):List Nat→Bool
 |[]=>false
 |i::is=>bif Nat.beq i j then true else memN j is

def isOk (n:Nat):List Nat→Bool
 |[]=>true
 |i::is=>bif Nat.ble (Nat.succ i) n then (bif memN i is then false else isOk n is) else false

theorem memN_iff {j:Nat}:∀ {is:List Nat},memN j is=true↔j∈is
 |[]=>by simp[memN]
 |i::is=>by
  simp only[memN]
  cases h:Nat.beq i j
  ·have:i≠j:=fun e=>by subst e; simp at h
   simp only[cond_false,memN_iff,List.mem_cons]
   exact⟨.inr,fun h=>h.resolve_left fun e=>this e.symm⟩
  ·have:=natBeq h;subst this;simp

theorem isOk_spec {n:Nat}:∀ {is:List Nat},isOk n is=true→is.Nodup∧∀i∈is,i<n
 |[],_=>by simp
 |i::is,h=>by
  simp only[isOk]at h
  obtain⟨h1,h2⟩:=bifT h
  have h1:=Nat.le_of_ble_eq_true h1
  cases hm:memN i is
  ·rw [hm] at h2
   obtain⟨h3,h4⟩:=isOk_spec h2
   refine⟨List.nodup_cons.2 ⟨fun hi=>?_,h3⟩,fun j hj=>(List.mem_cons.1 hj).elim (fun e=>by rw[e];exact h1) (h4 j)⟩
   rw[memN_iff.2 hi]at hm;cases hm
  ·rw[hm]at h2;cases h2

theorem putAll_length {α:Type}:∀ {is:List Nat} {new l:List α},is.length≤new.length→(putAll is new l).length=l.length+(new.length - is.length)
 |[],new,l,_=>by simp[putAll]
 |j::is,[],l,h=>by simp at h
 |j::is,o::new,l,h=>by
  simp only[putAll]
  rw[putAll_length (by simpa using h),setN_eq];simp

theorem putAll_other {α:Type}:∀ {is:List Nat} {new l:List α} {j:Nat},j ∉ is→j<l.length→(putAll is new l)[j]? = l[j]?
 |[],new,l,j,_,h=>by simp only[putAll];exact List.getElem?_append_left h
 |i::is,[],l,j,_,_=>rfl
 |i::is,o::new,l,j,hj,h=>by
  simp only[List.mem_cons,not_or]at hj
  simp only[putAll]
  rw[putAll_other hj.2 (by rw[setN_eq];simpa using h),setN_eq,List.getElem?_set_ne (fun e=>hj.1 e.symm)]

theorem putAll_rn {α:Type}:∀ {is:List Nat} {new l:List α} {i:Nat},is.Nodup→(∀j∈is,j<l.length)→is.length≤new.length→(putAll is new l)[rn is l.length i]? = new[i]?
 |[],new,l,i,_,_,_=>by simp only[putAll,rn,nth,len,Nat.add_eq,Nat.sub_eq];rw[List.getElem?_append_right (by omega)];congr 1;omega
 |j::is,[],l,i,_,_,h=>by simp at h
 |j::is,o::new,l,i,hn,hl,h=>by
  have hn':=List.nodup_cons.1 hn
  have hjl:=hl j (by simp)
  simp only[putAll]
  cases i with
  |zero =>
   have:rn (j::is) l.length 0=j:=rfl
   rw[this,putAll_other hn'.1 (by rw[setN_eq];simpa using hjl),setN_eq,List.getElem?_set_self hjl];rfl
  |succ i =>
   have:rn (j::is) l.length (i+1)=rn is (setN l j o).length i:=by
    have e:(setN l j o).length=l.length:=by rw[setN_eq];simp
    simp only[rn,nth,Nat.beq,cond_false,Nat.pred,len,e]
    cases nth is i with
    |some m=>rfl
    |none=>simp only[Nat.add_eq,Nat.sub_eq];congr 1;omega
   rw[this,putAll_rn hn'.2 (fun m hm=>by rw[setN_eq];simpa using hl m (by simp[hm])) (by simpa using h)]
   rfl

theorem putAll_cases {α:Type}{is:List Nat}{new l:List α}(h:is.length≤new.length){j:Nat}{x:α}(hx:(putAll is new l)[j]? = some x):(j ∉ is∧j<l.length)∨∃i,j=rn is l.length i:=by
 by_cases hj:j∈is
 ·obtain ⟨i,hi⟩:=List.mem_iff_getElem?.1 hj
  exact .inr ⟨i,by simp only[rn,nth_eq,hi]⟩
 ·by_cases hl:j<l.length
  ·exact .inl ⟨hj,hl⟩
  ·refine .inr ⟨is.length+(j - l.length),?_⟩
   have:nth is (is.length+(j - l.length))=none:=by rw[nth_eq];exact List.getElem?_eq_none (by omega)
   simp only[rn,this,len_eq,Nat.add_eq,Nat.sub_eq];omega

def pickN {α:Type} (l:List α):List Nat→Option (List α)
 |[]=>some []
 |i::is=>match nth l i with
  |some x=>match pickN l is with
   |some r=>some (x::r)
   |none=>none
  |none=>none

theorem pickN_len {α:Type}{l:List α}:∀ {is:List Nat} {r:List α},pickN l is=some r→r.length=is.length
 |[],r,h=>by simp[pickN]at h;subst h;rfl
 |i::is,r,h=>by
  simp only[pickN]at h
  split at h
  case h_2=>cases h
  split at h
  case h_2=>cases h
  rename_i r' hr'
  cases h;simp[pickN_len hr']

theorem pickN_get {α:Type}{l:List α}:∀ {is:List Nat} {r:List α} {i:Nat} {x:α},pickN l is=some r→r[i]? = some x→∃j,is[i]? = some j∧l[j]? = some x
 |[],r,i,x,h,hx=>by simp[pickN]at h;subst h;simp at hx
 |k::is,r,i,x,h,hx=>by
  simp only[pickN]at h
  split at h
  case h_2=>cases h
  rename_i y hy
  split at h
  case h_2=>cases h
  rename_i r' hr'
  cases h
  cases i with
  |zero=>simp at hx;subst hx;rw[nth_eq]at hy;exact⟨k,rfl,hy⟩
  |succ i=>simp at hx;obtain⟨j,h1,h2⟩:=pickN_get hr' hx;exact⟨j,by simpa using h1,h2⟩

theorem pickN_ex {α:Type}{l:List α}:∀ {is:List Nat},(∀i∈is,i<l.length)→∃r,pickN l is=some r
 |[],_=>⟨[],rfl⟩
 |i::is,h=>by
  obtain⟨r,hr⟩:=pickN_ex (is:=is) (fun j hj=>h j (by simp[hj]))
  have:nth l i=some (l[i]'(h i (by simp))):=by rw[nth_eq];exact List.getElem?_eq_getElem _
  exact⟨l[i]'(h i (by simp))::r,by simp only[pickN,this,hr]⟩

theorem pickN_of {α:Type}{l:List α}:∀ {is:List Nat} {r:List α} {i j:Nat},pickN l is=some r→is[i]? = some j→r[i]? = l[j]?
 |[],r,i,j,h,hx=>by simp at hx
 |k::is,r,i,j,h,hx=>by
  simp only[pickN]at h
  split at h
  case h_2=>cases h
  rename_i y hy
  split at h
  case h_2=>cases h
  rename_i r' hr'
  cases h
  cases i with
  |zero=>simp at hx;subst hx;rw[nth_eq]at hy;simp[hy]
  |succ i=>simp at hx;simpa using pickN_of hr' hx
end PSL
namespace PSL
open Go Go.RowKit

def YStep (P:Program)(F:Fence)(d:Nat)(Y:YP)(l:Nat)(I:Nat→(Nat→Prop)→(Nat→Prop)→World→Prop)(S:Nat→Prop):Prop :=
 ∀ (n:Nat) (B:Nat→Prop) (w:World) (R:Nat→Prop) (x:List AV) (vals:List Value),I n B R w→(∀ b,R b→S b∧¬ B b)→AmbOk P R w→(∀ b,w.heap.size≤b→R b)→Y.ys[n]? = some x→(n=0∨Y.go n=true)→RVs R w [] x vals→pureL x=true →
  YieldAt F d P l vals.toArray w fun e w'=>e=.returned (.bool (Y.go (n+1)))∧∃ B',I (n+1) B' (fun b=>R b∧¬ B' b) w'∧w.heap.size≤w'.heap.size∧w'.os=w.os∧w'.tape=w.tape∧w'.output=w.output ∧
   (∀b,b<w.heap.size→¬ B b→w'.heap[b]? = w.heap[b]?)∧(∀b,B' b→B b∨(w.heap.size≤b∧b<w'.heap.size))

theorem YStep.sub {P:Program}{F:Fence}{d:Nat}{Y:YP}{l:Nat}{I:Nat→(Nat→Prop)→(Nat→Prop)→World→Prop}{S S':Nat→Prop}(h:YStep P F d Y l I S)(hs:∀b,S' b→S b):YStep P F d Y l I S' :=
 fun n B w R x vals h1 h2 ha h3 h4 h5 h6 h7=>h n B w R x vals h1 (fun b hb=>⟨hs b (h2 b hb).1,(h2 b hb).2⟩) ha h3 h4 h5 h6 h7

structure SCtr (P:Program) (Y:YP) (f:Nat) (args:List AV) (objs:List Ob) (r:AV) (objs1:List Ob):Prop where
 call:Callable P f
 run:∀ (S:Nat→Prop) (φ:List Phy) (w:World) (vals:List Value),AmbOk P (SS S φ) w→HS S φ objs w→(∀ b,bls φ b→S b)→(∀ (i l:Nat) (I:Nat→(Nat→Prop)→(Nat→Prop)→World→Prop) (B:Nat→Prop),φ[i]? = some (Phy.ext l I B)→YStep P Fence.wide 0 Y l I S)→RVs (SS S φ) w φ args vals →
  Calls P f vals.toArray w fun e w'=>∃v φ',e=.returned v∧RV (SS S φ') w' φ' r v∧Stp S φ w φ' objs1 w'
 len:objs.length≤objs1.length
section
variable {g:G} {pf:Nat→Cls} {ops:Array Oper} {Fin:Exit→Act→World→Prop}

theorem bls_pick {φ φ0:List Phy}{is:List Nat}(h:pickN φ is=some φ0){b:Nat}(hb:bls φ0 b):∃i∈is,∃p,φ[i]? = some p∧p.bl b:=by
 obtain⟨i,p,h1,h2⟩:=hb
 obtain⟨j,h3,h4⟩:=pickN_get h h1
 exact⟨j,List.mem_of_getElem? h3,p,h4,h2⟩

theorem callS_core {φ:List Phy}{w:World}(hA:AmbOk g.P (SS g.S0 φ) w)(hu:GUp g)(hY:∀ (i l:Nat) (I:Nat→(Nat→Prop)→(Nat→Prop)→World→Prop) (B:Nat→Prop),g.φ0[i]? = some (Phy.ext l I B)→YStep g.P Fence.wide 0 g.Y l I g.S0)(is:List Nat){Y:YP}{axs:List AV}{objs0 objs1:List Ob}{r:AV}(hcl:objs0.length≤objs1.length)(hcc:(∃ (i l:Nat) (I:Nat→(Nat→Prop)→(Nat→Prop)→World→Prop) (B:Nat→Prop),g.φ0[i]? = some (Phy.ext l I B))→Y=g.Y){o₁:List Ob}{vals:List Value}
  (hok:isOk (len o₁) is=true) (hpick:pickN o₁ is=some (objs0.map (renOb (rn is (len o₁))))) (h1:HS g.S0 φ o₁ w) (h2:∀b,bls φ b→g.w0.heap.size≤b∨g.X0 b) (h6:Fr0 g φ w) (hall:RVs (SS g.S0 φ) w φ (renL (rn is (len o₁)) axs) vals) :
  ∃ (S:Nat→Prop) (φ0:List Phy),AmbOk g.P (SS S φ0) w∧HS S φ0 objs0 w∧(∀ b,bls φ0 b→S b)∧(∀ (i l:Nat) (I:Nat→(Nat→Prop)→(Nat→Prop)→World→Prop) (B:Nat→Prop),φ0[i]? = some (Phy.ext l I B)→YStep g.P Fence.wide 0 Y l I S)∧RVs (SS S φ0) w φ0 axs vals ∧
   ∀ (w':World) (φ1:List Phy) (v:Value),RV (SS S φ1) w' φ1 r v→Stp S φ0 w φ1 objs1 w'→∃φ',Stp g.S0 φ w φ' (putAll is (objs1.map (renOb (rn is (len o₁)))) o₁) w'∧RV (SS g.S0 φ') w' φ' (renA (rn is (len o₁)) r) v:=by
 have hbl0:∀b,bls φ b→g.S0 b:=fun b hb=>(h2 b hb).elim (hu.up b) (hu.x b)
 obtain⟨hnd,hlt⟩:=isOk_spec hok
 rw[len_eq,← h1.len]at hlt
 obtain⟨φ0,hφ0⟩:=pickN_ex hlt
 have hl0:φ0.length=objs0.length:=by rw[pickN_len hφ0,← pickN_len hpick];simp
 have hisl:is.length=φ0.length:=(pickN_len hφ0).symm
 -- numbers here,numbers there
 have hback:∀i p,φ[rn is (len o₁) i]? = some p→φ0[i]? = some p:=fun i p hp=>by
  simp only[rn,nth_eq]at hp
  cases hi:is[i]? with
  |some j=>rw[hi]at hp;simp only at hp;rw[pickN_of hφ0 hi];exact hp
  |none =>
   rw[hi]at hp;simp only[Nat.add_eq]at hp
   have:=(List.getElem?_eq_some_iff.1 hp).1
   rw[h1.len,← len_eq]at this;omega
 have hsub0:∀b,bls φ0 b→bls φ b:=fun b hb=>by
  obtain⟨i,_,p,h7,h8⟩:=bls_pick hφ0 hb
  exact⟨i,p,h7,h8⟩
 have hK0:Keep (SS g.S0 φ) w (SS (fun b=>SS g.S0 φ b∨bls φ0 b) φ0) w:=fun b hb _=>⟨⟨.inl hb,fun hc=>hb.2 (hsub0 b hc)⟩,rfl⟩
 have hHS0:HS (fun b=>SS g.S0 φ b∨bls φ0 b) φ0 objs0 w:=by
  refine⟨hl0,fun i ph ob hi ho=>?_,fun i j p q b hi hj hp hq=>?_,fun b hb=>h1.lt b (hsub0 b hb),fun b hb=>.inl ⟨h1.up b hb,fun hc=>by have:=h1.lt b hc;omega⟩⟩
  ·obtain ⟨j,hj,hφj⟩:=pickN_get hφ0 hi
   obtain⟨j',hj',hoj⟩:=pickN_get hpick (i:=i) (x:=renOb (rn is (len o₁)) ob) (by rw[List.getElem?_map,ho];rfl)
   rw[hj]at hj';cases hj'
   exact(h1.ok j ph _ hφj hoj).unren hK0 hback
  ·obtain ⟨i',hi',hφi⟩:=pickN_get hφ0 hi
   obtain⟨j',hj',hφj⟩:=pickN_get hφ0 hj
   have:=h1.dist i' j' p q b hφi hφj hp hq
   subst this
   have h7:=(List.getElem?_inj (List.getElem?_eq_some_iff.1 hi').1 hnd).1 (hi'.trans hj'.symm)
   exact h7
 have hext:∀ (i l:Nat) (I:Nat→(Nat→Prop)→(Nat→Prop)→World→Prop) (B:Nat→Prop),φ0[i]? = some (Phy.ext l I B)→YStep g.P Fence.wide 0 Y l I (fun b=>SS g.S0 φ b∨bls φ0 b):=fun i l I B hi=>by
  obtain⟨j,_,hφj⟩:=pickN_get hφ0 hi
  obtain⟨B0,h7⟩:=h6.gen j l I B hφj
  rw[hcc ⟨j,l,I,B0,h7⟩]
  exact(hY j l I B0 h7).sub fun b hb=>hb.elim (fun h=>h.1) (fun h=>hbl0 b (hsub0 b h))
 refine⟨_,φ0,hA.keep hK0,hHS0,fun b hb=>.inr hb,hext,hall.unren hK0 hback,fun w' φ1 v hv hst=>?_⟩
 have hl1:φ1.length=objs1.length:=hst.hs.len
 have hle1:is.length≤φ1.length:=by rw[hl1,hisl,hl0];exact hcl
 have hlen:len o₁=φ.length:=by rw[len_eq,h1.len]
 rw[hlen]at hback ⊢
 -- where all lies now
 have hrn:∀i,(putAll is φ1 φ)[rn is φ.length i]? = φ1[i]? := fun i=>putAll_rn hnd hlt hle1
 have hcases:∀ {j:Nat} {p:Phy},(putAll is φ1 φ)[j]? = some p→(j ∉ is∧φ[j]? = some p)∨∃i,j=rn is φ.length i∧φ1[i]? = some p:=fun {j p} hj=>by
  rcases putAll_cases hle1 hj with ⟨h7,h8⟩ |⟨i,rfl⟩
  ·rw[putAll_other h7 h8]at hj;exact .inl ⟨h7,hj⟩
  ·rw[hrn]at hj;exact .inr ⟨i,rfl,hj⟩
 have hblsE:∀ {b:Nat},bls (putAll is φ1 φ) b→(∃j p,j ∉ is∧φ[j]? = some p∧p.bl b)∨bls φ1 b:=fun {b} hb=>by
  obtain⟨j,p,h7,h8⟩:=hb
  rcases hcases h7 with ⟨h9,h10⟩ |⟨i,_,h10⟩
  ·exact .inl ⟨j,p,h9,h10,h8⟩
  ·exact .inr ⟨i,p,h10,h8⟩
 have hout:∀ {j:Nat} {p:Phy} {b:Nat},j ∉ is→φ[j]? = some p→p.bl b→¬ bls φ0 b:=fun {j p b} h7 h8 h9 h10=>by
  obtain⟨i,hi,q,h11,h12⟩:=bls_pick hφ0 h10
  have:=h1.dist i j q p b h11 h8 h12 h9
  subst this;exact h7 hi
 have hsame:∀ {j:Nat} {p:Phy} {b:Nat},j ∉ is→φ[j]? = some p→p.bl b→w'.heap[b]? = w.heap[b]? := fun {j p b} h7 h8 h9 =>
  hst.fr b (h1.lt b ⟨j,p,h8,h9⟩) (hout h7 h8 h9)
 have hK:Keep (SS g.S0 φ) w (SS g.S0 (putAll is φ1 φ)) w':=.of fun b hb hbs=>by
  have hn0:¬ bls φ0 b:=fun hc=>hb.2 (hsub0 b hc)
  refine⟨⟨hb.1,fun hc=>?_⟩,hst.fr b hbs hn0⟩
  rcases hblsE hc with ⟨j,p,h7,h8,h9⟩ |h7
  ·exact hb.2 ⟨j,p,h8,h9⟩
  ·rcases hst.own b h7 with h8 | h8
   ·exact hn0 h8
   ·omega
 have hK1:Keep (SS (fun b=>SS g.S0 φ b∨bls φ0 b) φ1) w' (SS g.S0 (putAll is φ1 φ)) w':=fun b hb _=>by
  refine⟨⟨hb.1.elim (fun h=>h.1) (fun h=>hbl0 b (hsub0 b h)),fun hc=>?_⟩,rfl⟩
  rcases hblsE hc with ⟨j,p,h7,h8,h9⟩ |h7
  ·rcases hb.1 with h10 | h10
   ·exact h10.2 ⟨j,p,h8,h9⟩
   ·exact hout h7 h8 h9 h10
  ·exact hb.2 h7
 have hle:PhsLe φ (putAll is φ1 φ):=fun j p hj=>by
  by_cases hji:j∈is
  ·obtain ⟨i,hi⟩:=List.mem_iff_getElem?.1 hji
   obtain⟨p',h7,h8⟩:=hst.le i p (by rw[pickN_of hφ0 hi];exact hj)
   have:j=rn is φ.length i:=by simp only[rn,nth_eq,hi]
   exact⟨p',by rw[this,hrn];exact h7,h8⟩
  ·exact⟨p,by rw[putAll_other hji (List.getElem?_eq_some_iff.1 hj).1];exact hj,.inl rfl⟩
 have hfwd:∀i p,φ1[i]? = some p→(putAll is φ1 φ)[rn is φ.length i]? = some p:=fun i p hp=>by rw[hrn];exact hp
 have hlo:o₁.length=φ.length:=h1.len.symm
 have hcaseO:∀ {j:Nat} {ob:Ob},(putAll is (objs1.map (renOb (rn is φ.length))) o₁)[j]? = some ob→(j ∉ is∧o₁[j]? = some ob)∨∃i,j=rn is φ.length i∧∃ob1,objs1[i]? = some ob1∧ob=renOb (rn is φ.length) ob1:=fun {j ob} hj=>by
  have hlO:is.length≤(objs1.map (renOb (rn is φ.length))).length:=by rw[List.length_map,← hl1];exact hle1
  rcases putAll_cases hlO hj with ⟨h7,h8⟩ |⟨i,rfl⟩
  ·rw[putAll_other h7 h8]at hj;exact .inl ⟨h7,hj⟩
  ·rw [putAll_rn hnd (by rw [hlo]; exact hlt) hlO,List.getElem?_map] at hj
   rw[hlo]
   cases ho:objs1[i]? with
   |none=>rw[ho]at hj;cases hj
   |some ob1=>rw[ho]at hj;simp at hj;exact .inr ⟨i,rfl,ob1,ho,hj.symm⟩
 have hrninj:∀ {i i':Nat},rn is φ.length i=rn is φ.length i'→i<φ1.length→i'<φ1.length→i=i':=fun {i i'} h7 h8 h9=>by
  simp only[rn,nth_eq,len_eq,Nat.add_eq,Nat.sub_eq]at h7
  cases hi:is[i]?<;>cases hi':is[i']?<;>rw[hi,hi']at h7<;>simp only at h7
  ·have:=List.getElem?_eq_none_iff.1 hi
   have:=List.getElem?_eq_none_iff.1 hi'
   omega
  ·have:=hlt _ (List.mem_of_getElem? hi');omega
  ·have:=hlt _ (List.mem_of_getElem? hi);omega
  ·subst h7
   exact(List.getElem?_inj (List.getElem?_eq_some_iff.1 hi).1 hnd).1 (hi.trans hi'.symm)
 have hstp:Stp g.S0 φ w (putAll is φ1 φ) (putAll is (objs1.map (renOb (rn is φ.length))) o₁) w':=by
  refine⟨⟨?_,?_,?_,?_,fun b hb=>h1.up b (Nat.le_trans hst.size hb)⟩,hK,hle,hst.size,hst.os,hst.tape,hst.out,fun b hb hn=>hst.fr b hb fun hc=>hn (hsub0 b hc),?_,?_⟩
  ·rw[putAll_length hle1,putAll_length (by rw[List.length_map,← hl1];exact hle1),List.length_map,hl1,h1.len]
  ·intro j ph ob hj hob
   rcases hcases hj with ⟨h7,h8⟩ |⟨i,rfl,h8⟩
   ·rcases hcaseO hob with ⟨_,h9⟩ | ⟨i,hji,ob1,h9,_⟩
    ·exact(h1.ok j ph ob h8 h9).mono hK hle hst.size fun b hb=>hsame h7 h8 hb
    ·exfalso
     simp only[rn,nth_eq]at hji
     cases hi:is[i]? with
     |some m=>rw[hi]at hji;simp only at hji;subst hji;exact h7 (List.mem_of_getElem? hi)
     |none =>
      rw[hi]at hji;simp only[Nat.add_eq]at hji
      have:=(List.getElem?_eq_some_iff.1 h8).1
      omega
   ·rcases hcaseO hob with ⟨h7,h9⟩ | ⟨i',hji,ob1,h9,rfl⟩
    ·exfalso
     have hjl:=(List.getElem?_eq_some_iff.1 h9).1
     rw[hlo]at hjl
     simp only[rn,nth_eq]at h7 hjl
     cases hi:is[i]? with
     |some m=>rw[hi]at h7;exact h7 (List.mem_of_getElem? hi)
     |none=>rw[hi]at hjl;simp only[Nat.add_eq]at hjl;omega
    ·have:=hrninj hji (List.getElem?_eq_some_iff.1 h8).1 (by rw [hl1]; exact (List.getElem?_eq_some_iff.1 h9).1)
     subst this
     exact(hst.hs.ok i ph ob1 h8 h9).ren hK1 hfwd
  ·intro i j p q b hi hj hp hq
   rcases hcases hi with ⟨h7,h8⟩ |⟨i',rfl,h8⟩<;>rcases hcases hj with ⟨h9,h10⟩ |⟨j',rfl,h10⟩
   ·exact h1.dist i j p q b h8 h10 hp hq
   ·exfalso
    rcases hst.own b ⟨j',q,h10,hq⟩ with h11 |h11
    ·exact hout h7 h8 hp h11
    ·have:=h1.lt b ⟨i,p,h8,hp⟩;omega
   ·exfalso
    rcases hst.own b ⟨i',p,h8,hp⟩ with h11 |h11
    ·exact hout h9 h10 hq h11
    ·have:=h1.lt b ⟨j,q,h10,hq⟩;omega
   ·rw[hst.hs.dist i' j' p q b h8 h10 hp hq]
  ·intro b hb
   rcases hblsE hb with ⟨j,p,h7,h8,h9⟩ |h7
   ·exact Nat.lt_of_lt_of_le (h1.lt b ⟨j,p,h8,h9⟩) hst.size
   ·exact hst.hs.lt b h7
  ·intro b hb
   rcases hblsE hb with ⟨j,p,h7,h8,h9⟩ |h7
   ·exact .inl ⟨j,p,h8,h9⟩
   ·exact(hst.own b h7).imp (hsub0 b) id
  ·intro j l I B hj
   rcases hcases hj with ⟨h7,h8⟩ |⟨i,rfl,h8⟩
   ·exact⟨B,h8⟩
   ·obtain ⟨B0,h9⟩:=hst.ext i l I B h8
    obtain⟨m,h10,h11⟩:=pickN_get hφ0 h9
    refine⟨B0,?_⟩
    have:rn is φ.length i=m:=by simp only[rn,nth_eq,h10]
    rw[this];exact h11
 exact⟨_,hstp,hv.ren hK1 hfwd⟩

theorem loc_callS (hg:GOk g)(hu:GUp g)(hF:g.F=Fence.wide∧g.dep=0)(hY:∀ (i l:Nat) (I:Nat→(Nat→Prop)→(Nat→Prop)→World→Prop) (B:Nat→Prop),g.φ0[i]? = some (Phy.ext l I B)→YStep g.P Fence.wide 0 g.Y l I g.S0)(is:List Nat){Y:YP}{f:Nat}{axs:List AV}{objs0 objs1:List Ob}{r:AV}(hc:SCtr g.P Y f axs objs0 r objs1)(hcc:(∃ (i l:Nat) (I:Nat→(Nat→Prop)→(Nat→Prop)→World→Prop) (B:Nat→Prop),g.φ0[i]? = some (Phy.ext l I B))→Y=g.Y){dst:Option Nat}{x:Operand}{args:Array Operand}{ts:Array Nat}{ty:Nat}{pos:String}{after:Array Edge}{gd:Option (Nat × Bool)}
  {E:Env} {objs:List Ob} {fs cs:List AV}
  (hgd:guardA ops.toList E gd=some true) (hd:dstOk ⟨g.ty,g.N⟩ dst=true) (hx:ev E x=.clo f fs cs) (hok:isOk (len objs) is=true) (hpick:pickN objs is=some (objs0.map (renOb (rn is (len objs)))))
  (has:(fs++args.toList.map (ev E)++cs).map nrm=renL (rn is (len objs)) axs) :
  LocOp g ops ⟨dst,.call { callee:=.value x,args:=args,argTypes:=ts },ty,pos,after,gd⟩ E objs .eff (renA (rn is (len objs)) r) (putAll is (objs1.map (renOb (rn is (len objs)))) objs):=by
 refine⟨fun h=>absurd rfl (h _),(fun b h hb=>by cases h;omega),fun E₁ o₁ o₁' a w he ho hs Q=>?_⟩
 rcases ho with ⟨h,_⟩ |⟨_,h,_⟩ |⟨ho1,ho2⟩
 ·cases h
 ·cases h
 subst ho1;subst ho2
 obtain⟨φ,h1,h2,h3,h4,h5,h6⟩:=hs
 rw[wanted_of (guardA_ok hgd) he h3]
 simp only[if_true]
 refine⟨about_ok hg _ w a,?_⟩
 have hρ:=rv_ops (o:=⟨dst,.call { callee:=.value x,args:=args,argTypes:=ts },ty,pos,after,gd⟩) he h3
 simp only[Op.operands,Call.operands]at hρ
 have hxv:=hρ x (by simp)
 rw[hx]at hxv
 simp only[RV]at hxv
 obtain⟨va,vc,hxv,hfs,hcs⟩:=hxv
 have hargs:RVs (SS g.S0 φ) w φ (args.toList.map (ev E)) (args.toList.map a.eval):=RVs.map _ _ _ fun y hy=>hρ y (by simp[hy])
 have hall:=((hfs.append hargs).append hcs).mapEnt nrm Ent.nrm
 rw[has]at hall
 rw[Oper.semAt_eq _ _ _ (by simp),run_callv rfl hxv hc.call]
 refine⟨fun h=>by rw[hg.depth]at h;simp at h,?_⟩
 obtain⟨S,φ0,gA,g1,g2,g3,g4,g5⟩:=callS_core (hg.ambAt h2 h6) hu hY is hc.len hcc hok hpick h1 h2 h6 hall
 have hcall:=hc.run S φ0 w _ gA g1 g2 g3 g4
 refine(callsIn_free hg hcall).mono ?_
 rintro e w' ⟨v,φ1,rfl,hv,hst⟩
 obtain⟨φ',hstp,hv'⟩:=g5 w' φ1 v hv hst
 exact Sat.stp h2 h3 h4 h5 h6 hstp (dstOk_ok hd) fun _=>hv'

theorem R_callS (hg:GOk g)(hu:GUp g)(hF:g.F=Fence.wide∧g.dep=0)(hY:∀ (i l:Nat) (I:Nat→(Nat→Prop)→(Nat→Prop)→World→Prop) (B:Nat→Prop),g.φ0[i]? = some (Phy.ext l I B)→YStep g.P Fence.wide 0 g.Y l I g.S0)(is:List Nat){Y:YP}{f:Nat}{axs:List AV}{objs0 objs1:List Ob}{r:AV}(hc:SCtr g.P Y f axs objs0 r objs1)(hcc:(∃ (i l:Nat) (I:Nat→(Nat→Prop)→(Nat→Prop)→World→Prop) (B:Nat→Prop),g.φ0[i]? = some (Phy.ext l I B))→Y=g.Y){dst:Option Nat}{x:Operand}{args:Array Operand}{ts:Array Nat}{ty:Nat}{pos:String}{after:Array Edge}{gd:Option (Nat × Bool)}
  {rest:List Oper} {k:List It} {E:Env} {objs:List Ob} {fs cs:List AV}
  (hgd:guardA ops.toList E gd=some true) (hd:dstOk ⟨g.ty,g.N⟩ dst=true) (hcl:clsOf pf (.call { callee:=.value x,args:=args,argTypes:=ts })=.eff) (hx:ev E x=.clo f fs cs) (hok:isOk (len objs) is=true) (hpick:pickN objs is=some (objs0.map (renOb (rn is (len objs)))))
  (has:(fs++args.toList.map (ev E)++cs).map nrm=renL (rn is (len objs)) axs)
  (hr:R g pf Fin (.dr ops rest::k) (putO E dst (renA (rn is (len objs)) r)) (putAll is (objs1.map (renOb (rn is (len objs)))) objs)) :
  R g pf Fin (.dr ops (⟨dst,.call { callee:=.value x,args:=args,argTypes:=ts },ty,pos,after,gd⟩::rest)::k) E objs:=by
 refine R_op ?_ hr
 show LocOp g ops _ E objs (clsOf pf (.call { callee:=.value x,args:=args,argTypes:=ts })) _ _
 rw[hcl]
 exact loc_callS hg hu hF hY is hc hcc hgd hd hx hok hpick has

theorem LocOp.as {o:Oper}{E:Env}{objs:List Ob}{v:AV}{c:Cls}(hc:isStill c=false)(h:LocOp g ops o E objs .eff v objs):LocOp g ops o E objs c v objs :=
 ⟨fun _=>rfl,fun _ _ _=>.refl _,fun E₁ o₁ o₁' a w h1 h2 h3=>h.step E₁ o₁ o₁' a w h1 (by
  rcases h2 with ⟨h2,_⟩ |⟨m,h2,_⟩ |h2
  ·subst h2;simp[isStill]at hc
  ·subst h2
   have:Nat.blt 0 (m+1)=true:=by rw[Nat.blt_eq];omega
   simp only[isStill]at hc
   rw[this]at hc;cases hc
  ·exact .inr (.inr h2)) h3⟩

theorem R_callL (hg:GOk g)(hu:GUp g)(hF:g.F=Fence.wide∧g.dep=0)(hY:∀ (i l:Nat) (I:Nat→(Nat→Prop)→(Nat→Prop)→World→Prop) (B:Nat→Prop),g.φ0[i]? = some (Phy.ext l I B)→YStep g.P Fence.wide 0 g.Y l I g.S0)(is:List Nat){Y:YP}{f:Nat}{axs:List AV}{objs0 objs1:List Ob}{r:AV}(hc:SCtr g.P Y f axs objs0 r objs1)(hcc:(∃ (i l:Nat) (I:Nat→(Nat→Prop)→(Nat→Prop)→World→Prop) (B:Nat→Prop),g.φ0[i]? = some (Phy.ext l I B))→Y=g.Y){dst:Option Nat}{x:Operand}{args:Array Operand}{ts:Array Nat}{ty:Nat}{pos:String}{after:Array Edge}{gd:Option (Nat × Bool)}
  {rest:List Oper} {k:List It} {E:Env} {objs:List Ob} {fs cs:List AV}
  (hgd:guardA ops.toList E gd=some true) (hd:dstOk ⟨g.ty,g.N⟩ dst=true) (hcl:isStill (clsOf pf (.call { callee:=.value x,args:=args,argTypes:=ts }))=false) (hx:ev E x=.clo f fs cs) (hok:isOk (len objs) is=true) (hpick:pickN objs is=some (objs0.map (renOb (rn is (len objs)))))
  (has:(fs++args.toList.map (ev E)++cs).map nrm=renL (rn is (len objs)) axs)
  (hput:putAll is (objs1.map (renOb (rn is (len objs)))) objs=objs)
  (hr:R g pf Fin (.dr ops rest::k) (putO E dst (renA (rn is (len objs)) r)) objs) :
  R g pf Fin (.dr ops (⟨dst,.call { callee:=.value x,args:=args,argTypes:=ts },ty,pos,after,gd⟩::rest)::k) E objs:=by
 refine R_op (LocOp.as hcl ?_) hr
 have h:=loc_callS (ops:=ops) (after:=after) (pos:=pos) (ty:=ty) (ts:=ts) (dst:=dst) hg hu hF hY is hc hcc hgd hd hx hok hpick has
 rw[hput]at h
 exact h
end
end PSL
namespace PSL
open Go Go.RowKit

def gOfS (P:Program)(ty:Nat→Option Ty)(N:Nat)(w:World)(S:Nat→Prop)(φ:List Phy)(Y:YP):G :=
 { P:=P,F:=Fence.wide,dep:=0,ty:=ty,N:=N,w0:=w,S0:=S,X0:=bls φ,φ0:=φ,Y:=Y,mks:=true }

structure GS (g:G) (objs0:List Ob):Prop where
 ok:GOk g
 wide:g.F=Fence.wide∧g.dep=0
 hs0:HS g.S0 g.φ0 objs0 g.w0
 x:∀b,g.X0 b→bls g.φ0 b
 bl:∀b,bls g.φ0 b→g.S0 b
 Y:∀ (i l:Nat) (I:Nat→(Nat→Prop)→(Nat→Prop)→World→Prop) (B:Nat→Prop),g.φ0[i]? = some (Phy.ext l I B)→YStep g.P Fence.wide 0 g.Y l I g.S0
theorem GS.gup {g:G}{objs0:List Ob}(h:GS g objs0):GUp g:=⟨h.hs0.up,fun b hb=>h.bl b (h.x b hb)⟩

def sealT (nz:Bool) (n0:Nat) (objs:List Ob):Nat→AV→AV
 |0,_=>.any
 |n+1,x=>match x with
  | .agg l=>.agg (l.map (sealT nz n0 objs n))
  | .tup l=>.tup (l.map (sealT nz n0 objs n))
  | .clo f a c=>.clo f (a.map (sealT nz n0 objs n)) (c.map (sealT nz n0 objs n))
  | .ow i s=>bif Nat.ble (Nat.succ i) n0 then .ow i s else (match nth objs i with
   |some (.arr _ s' rows)=>bif Nat.beq s s' then .d (.sl rows) else .any
   |_=>.any)
  | .lo i off=>bif Nat.ble (Nat.succ i) n0 then .lo i off else (match nth objs i with
   |some (.box l)=>(match toDs (l.map (sealT true n0 objs n)) with
    |some ds=>.d (.ptr (ds.drop off))
    |none=>.any)
   |_=>.any)
  | .mp i=>bif Nat.ble (Nat.succ i) n0 then .mp i else .any
  | .yl i=>bif Nat.ble (Nat.succ i) n0 then .yl i else .any
  | .el i s r j=>bif Nat.ble (Nat.succ i) n0 then .el i s r j else .any
  | .vw i s r=>bif Nat.ble (Nat.succ i) n0 then .vw i s r else .any
  | .tt=>.d (.v (.bool true))
  | .ff=>.d (.v (.bool false))
  | .fs rows=>.d (.sl rows)
  | .d (.v (.slice none 0 0))=>bif nz then .d (.sl []) else .d (.v (.slice none 0 0))
  | .d y=>.d y
  | .any=>.any
section
variable {S0:Nat→Prop} {φ:List Phy} {objs:List Ob} {w:World}

theorem arr_rd' {S:Nat→Prop}{n0 i s sz s':Nat}{rows:List (List D)}{v:Value}(hs:HS S0 φ objs w)(hv:RV S w φ (.ow i s) v)(ho:nth objs i=some (.arr sz s' rows))(hss:s=s'){φ':List Phy}
  (hin:∀b p,φ[i]? = some p→p.bl b→SS S0 φ' b) (hk:Keep (SS S0 φ) w (SS S0 φ') w) :
  Rd (SS S0 φ') w (.sl rows) v:=by
 simp only[RV]at hv
 obtain⟨_,ph,hph,hx⟩:=hv
 have hk1:=obj_at hs hph ho
 cases ph<;>try (simp only[ObOk]at hk1;done)
 rename_i sz2 s2 v2 ob2
 simp only[ObOk]at hk1
 obtain⟨rfl,he,hlen,hk1⟩:=hk1
 obtain⟨_,hx⟩:=hx _ _ _ _ rfl
 have hx:=hx (by omega)
 subst hx
 rcases hk1 with ⟨a2,rfl,rfl,_⟩ |⟨b,o,cap,cs,T,rfl,rfl,hheap,hn,hcap,hle,hrd⟩
 ·exact .nil _ _
 ·refine Rd.sl (sz:=sz) (fun i j=>(cs[o+i * sz+j]?).getD undef) (hin b _ hph rfl) hheap hn hcap (fun i r hi=>hlen r (List.mem_of_getElem? hi)) (fun i r j x hi hj=>?_) (fun i r j x hi hj=>?_)
  ·obtain ⟨y,h1,_⟩:=hrd i r j x hi hj
   simp[h1]
  ·obtain ⟨y,h1,h2⟩:=hrd i r j x hi hj
   rw[h1];exact h2.mono hk

theorem sealT_ok (hbl:∀b,bls φ b→S0 b)(hs:HS S0 φ objs w)(n0:Nat):∀ (n:Nat) (nz:Bool) (x:AV) (v:Value),RV (SS S0 φ) w φ x v→RV (SS S0 (φ.take n0)) w (φ.take n0) (sealT nz n0 objs n x) v:=by
 have hp:∀i,i<n0→(φ.take n0)[i]? = φ[i]? := fun i hi=>List.getElem?_take_of_lt hi
 have hbl':∀b,bls (φ.take n0) b→∃j p,j<n0∧φ[j]? = some p∧p.bl b:=by
  rintro b ⟨i,p,g1,g2⟩
  have hi:i<n0:=by
   have:=(List.getElem?_eq_some_iff.1 g1).1
   simp at this;omega
  exact⟨i,p,hi,by rw[← hp i hi];exact g1,g2⟩
 have hkeep:Keep (SS S0 φ) w (SS S0 (φ.take n0)) w:=fun b hb _=>⟨⟨hb.1,fun hc=>by
  obtain⟨j,p,_,h1,h2⟩:=hbl' b hc
  exact hb.2 ⟨j,p,h1,h2⟩⟩,rfl⟩
 have hin:∀ {i:Nat},¬ i<n0→∀b p,φ[i]? = some p→p.bl b→SS S0 (φ.take n0) b:=fun {i} hi b p h1 h2=>⟨hbl b ⟨i,p,h1,h2⟩,fun hc=>by
  obtain⟨j,q,h3,h4,h5⟩:=hbl' b hc
  have:=hs.dist i j p q b h1 h4 h2 h5
  omega⟩
 have hnlt:∀ {i:Nat},Nat.ble (Nat.succ i) n0=false→¬ i<n0:=fun {i} h hc=>by
  have:Nat.ble (Nat.succ i) n0=true:=Nat.ble_eq_true_of_le hc
  rw[h]at this;cases this
 intro n
 induction n with
 |zero=>intro nz x v _;simp[sealT,RV]
 |succ n ih =>
  intro nz x v hx
  simp only[sealT]
  split
  case h_1 l =>
   simp only[RV]at hx ⊢
   obtain⟨cs,h1,h2⟩:=hx
   exact⟨cs,h1,h2.map' _ fun x v h=>ih nz x v h⟩
  case h_2 l =>
   simp only[RV]at hx ⊢
   obtain⟨cs,h1,h2⟩:=hx
   exact⟨cs,h1,h2.map' _ fun x v h=>ih nz x v h⟩
  case h_3 f a c =>
   simp only[RV]at hx ⊢
   obtain⟨va,vc,h1,h2,h3⟩:=hx
   exact⟨va,vc,h1,h2.map' _ fun x v h=>ih nz x v h,h3.map' _ fun x v h=>ih nz x v h⟩
  case h_4 i s =>
   cases hi:Nat.ble (Nat.succ i) n0
   ·simp only [cond_false]
    split
    ·rename_i sz s' rows ho
     cases hss:Nat.beq s s'
     ·simp[RV]
     ·simp only [cond_true,RV]
      exact arr_rd' (n0:=n0) hs hx ho (natBeq hss) (hin (hnlt hi)) hkeep
    ·simp[RV]
   ·simp only [cond_true,RV] at hx ⊢
    rw[hp i (Nat.le_of_ble_eq_true hi)];exact hx
  case h_5 i off =>
   cases hi:Nat.ble (Nat.succ i) n0
   ·simp only [cond_false]
    split
    ·rename_i l ho
     split
     ·rename_i ds hds
      simp only[RV]at hx
      obtain⟨b,hb,rfl⟩:=hx
      have hk:=obj_at hs hb ho
      simp only[ObOk]at hk
      obtain⟨cs,T,hheap,hrv⟩:=hk
      have h1:=hrv.map' (sealT true n0 objs n) fun x v h=>ih true x v h
      have h2:=toDs_rvs h1 hds
      simp only[RV]
      refine Rd.ptr (fun j=>(cs[off+j]?).getD undef) (hin (hnlt hi) b _ hb rfl) hheap (fun j x hj=>?_) (fun j x hj=>?_)
      ·obtain ⟨u,h3,_⟩:=h2.get (off+j) (x:=.d x) (by rw [List.getElem?_map]; rw [List.getElem?_drop] at hj; rw [hj]; rfl)
       simp[h3]
      ·obtain ⟨u,h3,h4⟩:=h2.get (off+j) (x:=.d x) (by rw [List.getElem?_map]; rw [List.getElem?_drop] at hj; rw [hj]; rfl)
       rw[h3];simpa[RV]using h4
     ·simp[RV]
    ·simp[RV]
   ·simp only [cond_true,RV] at hx ⊢
    rw[hp i (Nat.le_of_ble_eq_true hi)];exact hx
  case h_6 i =>
   cases hi:Nat.ble (Nat.succ i) n0
   ·simp[RV]
   ·simp only [cond_true,RV] at hx ⊢
    rw[hp i (Nat.le_of_ble_eq_true hi)];exact hx
  case h_7 i =>
   cases hi:Nat.ble (Nat.succ i) n0
   ·simp[RV]
   ·simp only [cond_true,RV] at hx ⊢
    rw[hp i (Nat.le_of_ble_eq_true hi)];exact hx
  case h_8 i s r j =>
   cases hi:Nat.ble (Nat.succ i) n0
   ·simp[RV]
   ·simp only [cond_true,RV] at hx ⊢
    rw[hp i (Nat.le_of_ble_eq_true hi)];exact hx
  case h_9 i s r =>
   cases hi:Nat.ble (Nat.succ i) n0
   ·simp[RV]
   ·simp only [cond_true,RV] at hx ⊢
    rw[hp i (Nat.le_of_ble_eq_true hi)];exact hx
  case h_10=>simp only[RV]at hx ⊢;subst hx;exact .v _
  case h_11=>simp only[RV]at hx ⊢;subst hx;exact .v _
  case h_12=>simp only[RV]at hx ⊢;exact hx.1.mono hkeep
  case h_13 =>
   cases nz
   ·simp only[cond_false,RV]at hx ⊢;exact hx.mono hkeep
   ·simp only[cond_true,RV]at hx ⊢;cases hx;exact .nil _ _
  case h_14=>simp only[RV]at hx ⊢;exact hx.mono hkeep
  case h_15=>simp[RV]
end
section
variable {g:G} {pf:Nat→Cls}

def FinS (g:G)(fn:Func)(r:AV)(objs1:List Ob):Exit→Act→World→Prop :=
 bodyPostM g.F g.dep g.P fn fun e w'=>∃v φ',e=.returned v∧RV (SS g.S0 φ') w' φ' r v∧Stp g.S0 g.φ0 g.w0 φ' objs1 w'

theorem finS_ok {objs0:List Ob}(hg:GS g objs0)(hdf:g.dfs=[]){fn:Func}{E:Env}{objs:List Ob}{av:AV}(n0 n:Nat)(hn0:objs0.length≤n0)(hres:resAV g.ty E objs fn.results.toList=some av){a:Act}{w:World}(hs:Sat g E objs a w) :
  FinS g fn (sealT true n0 objs n av) ((objs.take n0).map (mapOb (sealT false n0 objs n))) .ret a w∧FinS g fn (sealT true n0 objs n av) ((objs.take n0).map (mapOb (sealT false n0 objs n))) .normal a w:=by
 suffices hl:LeavesInM g.F g.dep g.P fn a.tmps (fun e w'=>∃v φ',e=.returned v∧RV (SS g.S0 φ') w' φ' (sealT true n0 objs n av) v∧Stp g.S0 g.φ0 g.w0 φ' ((objs.take n0).map (mapOb (sealT false n0 objs n))) w') a.defers .returning w from⟨hl,hl⟩
 refine leaves_ok hdf (E:=E) (objs:=objs) (fun tmps w hs'=>?_) a w hs
 clear hs
 have hs:=hs'
 obtain⟨φ,h1,h2,h3,h4,h5,h6⟩:=hs
 obtain⟨vv,h7,h8⟩:=resAV_ok hg.ok.ty h1 h3 hres
 have hbl:∀b,bls φ b→g.S0 b:=fun b hb=>(h2 b hb).elim (hg.gup.up b) (hg.gup.x b)
 have h9:=sealT_ok hbl h1 n0 n true av vv h8
 have hp:∀i,i<n0→(φ.take n0)[i]? = φ[i]? := fun i hi=>List.getElem?_take_of_lt hi
 have hbl':∀b,bls (φ.take n0) b→bls φ b:=by
  rintro b ⟨i,p,g1,g2⟩
  have hi:i<n0:=by
   have:=(List.getElem?_eq_some_iff.1 g1).1
   simp at this;omega
  exact⟨i,p,by rw[← hp i hi];exact g1,g2⟩
 have hst:Stp g.S0 g.φ0 g.w0 (φ.take n0) ((objs.take n0).map (mapOb (sealT false n0 objs n))) w:=by
  refine⟨h1.remap (sealT false n0 objs n) (by simp[h1.len]) (fun i p b hi hb=>⟨p,?_,hb⟩) (fun i ob' hi=>.inr (.inl ?_)) (sealT_ok hbl h1 n0 n false),.of fun b hb hbs=>?_,fun i p hi=>?_,h6.size,h6.os,h6.tape,h6.out,fun b hb hn=>h6.fr b hb fun hc=>hn (hg.x b hc),fun b hb=>?_,fun i l I B hi=>?_⟩
  ·have hin:i<n0:=by
    have:=(List.getElem?_eq_some_iff.1 hi).1
    simp at this;omega
   rw[← hp i hin];exact hi
  ·have hin:i<n0:=by
    have:=(List.getElem?_eq_some_iff.1 hi).1
    simp at this;omega
   rw[List.getElem?_map,List.getElem?_take_of_lt hin]at hi
   cases ho:objs[i]? with
   |none=>rw[ho]at hi;cases hi
   |some ob=>rw[ho]at hi;exact⟨ob,rfl,hp i hin,by simpa using hi.symm⟩
  ·refine ⟨⟨hb.1,fun hc=>?_⟩,h6.fr b hbs fun hc=>hb.2 (hg.x b hc)⟩
   rcases h2 b (hbl' b hc) with h |h
   ·omega
   ·exact hb.2 (hg.x b h)
  ·obtain ⟨p',h10,h11⟩:=h6.le i p hi
   exact⟨p',by rw[hp i (Nat.lt_of_lt_of_le (List.getElem?_eq_some_iff.1 hi).1 (by rw[hg.hs0.len];exact hn0))];exact h10,h11⟩
  ·exact(h2 b (hbl' b hb)).symm.imp (hg.x b) id
  ·have hin:i<n0:=by
    have:=(List.getElem?_eq_some_iff.1 hi).1
    simp at this;omega
   rw[hp i hin]at hi
   exact h6.gen i l I B hi
 exact⟨vv,h7,vv,_,rfl,h9,hst⟩

theorem R_retS {objs0:List Ob}(hg:GS g objs0){fn:Func}{k:List It}{E:Env}{objs objs1:List Ob}{av r:AV}(n0 n:Nat)(hn0:objs0.length≤n0)(hres:resAV g.ty E objs fn.results.toList=some av)(hr:sealT true n0 objs n av=r)(ho:(objs.take n0).map (mapOb (sealT false n0 objs n))=objs1)(hdf:g.dfs=[]:=by rfl):R g pf (FinS g fn r objs1) (.code .ret::k) E objs:=by
 subst hr;subst ho
 intro _ a w hs
 exact wpIn_ret (KP_ret k (finS_ok hg hdf n0 n hn0 hres hs).1)

theorem R_endS {objs0:List Ob}(hg:GS g objs0){fn:Func}{E:Env}{objs objs1:List Ob}{av r:AV}(n0 n:Nat)(hn0:objs0.length≤n0)(hres:resAV g.ty E objs fn.results.toList=some av)(hr:sealT true n0 objs n av=r)(ho:(objs.take n0).map (mapOb (sealT false n0 objs n))=objs1)(hdf:g.dfs=[]:=by rfl):R g pf (FinS g fn r objs1) [] E objs:=by
 subst hr;subst ho
 intro _ a w hs
 exact(finS_ok hg hdf n0 n hn0 hres hs).2

theorem SCtr.of_R {P:Program}{ty:Nat→Option Ty}{Y:YP}{f:Nat}{fn:Func}{cd:Code}{args:List AV}{objs objs1:List Ob}{r:AV}(hty:TyOk P ty)(hm:P.follows .mixedOrders=true)(hf:P.funcs[f]? = some fn)(hb:fn.body=some cd)
  (hn:(fn.name == "runtime.NumGoroutine")=false) (hok:codeOk pf cd=true) (hN:args.length≤fn.ntmps) (hlen:objs.length≤objs1.length)
  (h:∀ (w:World) (S:Nat→Prop) (φ:List Phy),GS (gOfS P ty fn.ntmps w S φ Y) objs→R (gOfS P ty fn.ntmps w S φ Y) pf (FinS (gOfS P ty fn.ntmps w S φ Y) fn r objs1) [.code cd] (envOf args 0) objs):SCtr P Y f args objs r objs1:=by
 refine⟨callable_of hf hb hn,fun S φ w vals ha hhs hbl hY hv=>?_,hlen⟩
 have hg:GS (gOfS P ty fn.ntmps w S φ Y) objs:=⟨⟨fun _=>trivial,(ha.at0 fun _ h=>h.2).keep fun _ h _=>⟨⟨h.1.1,h.2⟩,rfl⟩,rfl,rfl,hty,hm⟩,⟨rfl,rfl⟩,hhs,fun _ h=>h,hbl,hY⟩
 have hlen:=hv.length
 refine callsIn_wide.1 (callsIn_of_wp_marks (F:=Fence.wide) (n:=0) hf hb trivial ?_)
 have hs:Sat (gOfS P ty fn.ntmps w S φ Y) (envOf args 0) objs { tmps:=vals.toArray++Array.replicate (fn.ntmps - vals.toArray.size) undef,defers:=[] } w:=by
  refine⟨φ,hhs,fun b hb=>.inr hb,fun t=>?_,by simp[gOfS];omega,.none rfl ⟨fun _=>rfl,.nil,by simp⟩,⟨Nat.le_refl _,rfl,rfl,rfl,fun _ _ _=>rfl,fun i l I B h=>⟨B,h⟩,.refl _⟩⟩
  rw[lk_envOf]
  simp only[Nat.not_lt_zero,if_false,Nat.sub_zero]
  cases ha:args[t]? with
  |none=>simp[RV]
  |some x =>
   obtain⟨v,h1,h2⟩:=hv.get t ha
   have htl:=(List.getElem?_eq_some_iff.1 h1).1
   simp only[Option.getD_some]
   rw[Array.getD_eq_getD_getElem?,Array.getElem?_append_left (by simpa using htl)]
   simp only[List.getElem?_toArray,h1,Option.getD_some]
   exact h2
 have hR:=RK.of_R (pf:=pf) (k:=[.code cd]) ⟨hok,trivial⟩ (h w S φ hg) (by simp) _ _ hs
 refine wpIn_mono hR ?_
 intro e a' w' hk
 cases e<;>exact hk
end
end PSL
namespace PSL
open Go Go.RowKit

structure DCtr (P:Program) (Y:YP) (f:Nat) (args:List AV) (objs:List Ob) (r:AV) (objs1:List Ob):Prop where
 call:Callable P f
 run:∀ (S:Nat→Prop) (φ:List Phy) (w:World) (vals:List Value) (u:FrameMode),AmbOk P (SS S φ) w→HS S φ objs w→(∀ b,bls φ b→S b)→(∀ (i l:Nat) (I:Nat→(Nat→Prop)→(Nat→Prop)→World→Prop) (B:Nat→Prop),φ[i]? = some (Phy.ext l I B)→YStep P Fence.wide 0 Y l I S)→RVs (SS S φ) w φ args vals →
  CallsDIn Fence.wide 0 P f vals.toArray u w fun e u' w'=>u'=u∧∃v φ',e=.returned v∧RV (SS S φ') w' φ' r v∧Stp S φ w φ' objs1 w'
 len:objs.length≤objs1.length
section
variable {g:G} {pf:Nat→Cls}

def FinD (g:G)(fn:Func)(r:AV)(objs1:List Ob):Exit→Act→World→Prop:=fun e a w=>FinS g fn r objs1 e a w∧a.defers=[]

theorem finD_ok {objs0:List Ob}(hg:GS g objs0)(hdf:g.dfs=[])(hm:g.mks=false){fn:Func}{E:Env}{objs:List Ob}{av:AV}(n0 n:Nat)(hn0:objs0.length≤n0)(hres:resAV g.ty E objs fn.results.toList=some av){a:Act}{w:World}(hs:Sat g E objs a w) :
  FinD g fn (sealT true n0 objs n av) ((objs.take n0).map (mapOb (sealT false n0 objs n))) .ret a w∧FinD g fn (sealT true n0 objs n av) ((objs.take n0).map (mapOb (sealT false n0 objs n))) .normal a w:=by
 have h:=finS_ok hg hdf n0 n hn0 hres hs
 have hd:a.defers=[]:=by
  obtain⟨φ,h1,h2,h3,h4,h5,h6⟩:=hs
  exact(h5.only hdf).1 hm
 exact⟨⟨h.1,hd⟩,⟨h.2,hd⟩⟩

theorem R_endD {objs0:List Ob}(hg:GS g objs0){fn:Func}{E:Env}{objs objs1:List Ob}{av r:AV}(n0 n:Nat)(hn0:objs0.length≤n0)(hres:resAV g.ty E objs fn.results.toList=some av)(hr:sealT true n0 objs n av=r)(ho:(objs.take n0).map (mapOb (sealT false n0 objs n))=objs1)(hdf:g.dfs=[]:=by rfl)(hm:g.mks=false:=by rfl):R g pf (FinD g fn r objs1) [] E objs:=by
 subst hr;subst ho
 intro _ a w hs
 exact(finD_ok hg hdf hm n0 n hn0 hres hs).2

def gOfD (P:Program)(ty:Nat→Option Ty)(N:Nat)(w:World)(S:Nat→Prop)(φ:List Phy)(Y:YP):G:={ gOfS P ty N w S φ Y with mks:=false }

theorem DCtr.of_R {P:Program}{ty:Nat→Option Ty}{Y:YP}{f:Nat}{fn:Func}{cd:Code}{args:List AV}{objs objs1:List Ob}{r:AV}(hty:TyOk P ty)(hm:P.follows .mixedOrders=true)(hf:P.funcs[f]? = some fn)(hb:fn.body=some cd)
  (hn:(fn.name == "runtime.NumGoroutine")=false) (hok:codeOk pf cd=true) (hN:args.length≤fn.ntmps) (hlen:objs.length≤objs1.length)
  (h:∀ (w:World) (S:Nat→Prop) (φ:List Phy),GS (gOfD P ty fn.ntmps w S φ Y) objs→R (gOfD P ty fn.ntmps w S φ Y) pf (FinD (gOfD P ty fn.ntmps w S φ Y) fn r objs1) [.code cd] (envOf args 0) objs):DCtr P Y f args objs r objs1:=by
 refine⟨callable_of hf hb hn,fun S φ w vals u ha hhs hbl hY hv=>?_,hlen⟩
 have hg:GS (gOfD P ty fn.ntmps w S φ Y) objs:=⟨⟨fun _=>trivial,(ha.at0 fun _ h=>h.2).keep fun _ h _=>⟨⟨h.1.1,h.2⟩,rfl⟩,rfl,rfl,hty,hm⟩,⟨rfl,rfl⟩,hhs,fun _ h=>h,hbl,hY⟩
 have hlen:=hv.length
 refine callsDIn_of_wp (F:=Fence.wide) (n:=0) hf hb trivial ?_
 have hs:Sat (gOfD P ty fn.ntmps w S φ Y) (envOf args 0) objs { tmps:=vals.toArray++Array.replicate (fn.ntmps - vals.toArray.size) undef,defers:=[] } w:=by
  refine⟨φ,hhs,fun b hb=>.inr hb,fun t=>?_,by simp[gOfD,gOfS];omega,.none rfl ⟨fun _=>rfl,.nil,by simp⟩,⟨Nat.le_refl _,rfl,rfl,rfl,fun _ _ _=>rfl,fun i l I B h=>⟨B,h⟩,.refl _⟩⟩
  rw[lk_envOf]
  simp only[Nat.not_lt_zero,if_false,Nat.sub_zero]
  cases ha:args[t]? with
  |none=>simp[RV]
  |some x =>
   obtain⟨v,h1,h2⟩:=hv.get t ha
   have htl:=(List.getElem?_eq_some_iff.1 h1).1
   simp only[Option.getD_some]
   rw[Array.getD_eq_getD_getElem?,Array.getElem?_append_left (by simpa using htl)]
   simp only[List.getElem?_toArray,h1,Option.getD_some]
   exact h2
 have hR:=RK.of_R (pf:=pf) (k:=[.code cd]) ⟨hok,trivial⟩ (h w S φ hg) (by simp) _ _ hs
 refine wpIn_mono hR ?_
 intro e a' w' hk
 cases e with
 |normal =>
  have hk:FinD _ fn r objs1 .normal a' w':=hk
  obtain⟨h1,h2⟩:=hk
  simp only[FinS,bodyPostM,h2,LeavesInM,LeavesIn]at h1
  exact⟨h2,h1⟩
 |ret =>
  have hk:FinD _ fn r objs1 .ret a' w':=hk
  obtain⟨h1,h2⟩:=hk
  simp only[FinS,bodyPostM,h2,LeavesInM,LeavesIn]at h1
  exact⟨h2,h1⟩
 |panic chain =>
  have hk:FinD _ fn r objs1 (.panic chain) a' w':=hk
  obtain⟨h1,h2⟩:=hk
  simp only[FinS,bodyPostM,h2,LeavesInM,LeavesIn]at h1
  obtain⟨v,φ',h,_⟩:=h1
  cases h
 |exit i=>exact(hk:FinD _ fn r objs1 (.exit i) a' w').1.elim
 |goto l=>exact(hk:FinD _ fn r objs1 (.goto l) a' w').1.elim
 |outgrown =>
  have hk:FinD _ fn r objs1 .outgrown a' w':=hk
  obtain⟨v,φ',h,_⟩:=hk.1
  cases h

theorem SCtr.of_RD {P:Program}{ty:Nat→Option Ty}{Y:YP}{f:Nat}{fn:Func}{cd:Code}{args:List AV}{objs objs1:List Ob}{r:AV}(hty:TyOk P ty)(hm:P.follows .mixedOrders=true)(hf:P.funcs[f]? = some fn)(hb:fn.body=some cd)
  (hn:(fn.name == "runtime.NumGoroutine")=false) (hok:codeOk pf cd=true) (hN:args.length≤fn.ntmps) (hlen:objs.length≤objs1.length)
  (h:∀ (w:World) (S:Nat→Prop) (φ:List Phy),GS (gOfD P ty fn.ntmps w S φ Y) objs→R (gOfD P ty fn.ntmps w S φ Y) pf (FinS (gOfD P ty fn.ntmps w S φ Y) fn r objs1) [.code cd] (envOf args 0) objs):SCtr P Y f args objs r objs1:=by
 refine⟨callable_of hf hb hn,fun S φ w vals ha hhs hbl hY hv=>?_,hlen⟩
 have hg:GS (gOfD P ty fn.ntmps w S φ Y) objs:=⟨⟨fun _=>trivial,(ha.at0 fun _ h=>h.2).keep fun _ h _=>⟨⟨h.1.1,h.2⟩,rfl⟩,rfl,rfl,hty,hm⟩,⟨rfl,rfl⟩,hhs,fun _ h=>h,hbl,hY⟩
 have hlen:=hv.length
 refine callsIn_wide.1 (callsIn_of_wp_marks (F:=Fence.wide) (n:=0) hf hb trivial ?_)
 have hs:Sat (gOfD P ty fn.ntmps w S φ Y) (envOf args 0) objs { tmps:=vals.toArray++Array.replicate (fn.ntmps - vals.toArray.size) undef,defers:=[] } w:=by
  refine⟨φ,hhs,fun b hb=>.inr hb,fun t=>?_,by simp[gOfD,gOfS];omega,.none rfl ⟨fun _=>rfl,.nil,by simp⟩,⟨Nat.le_refl _,rfl,rfl,rfl,fun _ _ _=>rfl,fun i l I B h=>⟨B,h⟩,.refl _⟩⟩
  rw[lk_envOf]
  simp only[Nat.not_lt_zero,if_false,Nat.sub_zero]
  cases ha:args[t]? with
  |none=>simp[RV]
  |some x =>
   obtain⟨v,h1,h2⟩:=hv.get t ha
   have htl:=(List.getElem?_eq_some_iff.1 h1).1
   simp only[Option.getD_some]
   rw[Array.getD_eq_getD_getElem?,Array.getElem?_append_left (by simpa using htl)]
   simp only[List.getElem?_toArray,h1,Option.getD_some]
   exact h2
 have hR:=RK.of_R (pf:=pf) (k:=[.code cd]) ⟨hok,trivial⟩ (h w S φ hg) (by simp) _ _ hs
 refine wpIn_mono hR ?_
 intro e a' w' hk
 cases e<;>exact hk

def swD (g:G)(l:List (Nat × List AV × List AV)):G:={ g with dfs:=l }
theorem GS.sw {objs0:List Ob}(h:GS g objs0)(l:List (Nat × List AV × List AV)):GS (swD g l) objs0:=⟨⟨h.ok.fn,h.ok.amb,h.ok.depth,h.ok.alive,h.ok.ty,h.ok.mixed⟩,h.wide,h.hs0,h.x,h.bl,h.Y⟩

def Lv (g:G)(fn:Func)(r:AV)(objs1:List Ob)(l:List (Nat × List AV × List AV))(E:Env)(objs:List Ob):Prop :=
 ∀ (ds:List Deferred) (tmps:Array Value) (w:World),SatD (swD g l) E objs tmps [] ds w→LeavesInM g.F g.dep g.P fn tmps (fun e w'=>∃v φ',e=.returned v∧RV (SS g.S0 φ') w' φ' r v∧Stp g.S0 g.φ0 g.w0 φ' objs1 w') ds .returning w

theorem Lv.nil {objs0:List Ob}(hg:GS g objs0){fn:Func}{E:Env}{objs objs1:List Ob}{av r:AV}(n0 n:Nat)(hn0:objs0.length≤n0)(hres:resAV g.ty E objs fn.results.toList=some av)(hr:sealT true n0 objs n av=r)(ho:(objs.take n0).map (mapOb (sealT false n0 objs n))=objs1):Lv g fn r objs1 [] E objs:=by
 subst hr;subst ho
 intro ds tmps w hs
 obtain⟨φ,h1,h2,h3,h4,h5,h6,h7⟩:=hs
 have:=h7.nil
 subst this
 exact(finS_ok (g:=swD g []) (hg.sw []) rfl n0 n hn0 hres (a:={ tmps:=tmps,defers:=[] }) ⟨φ,h1,h2,h3,h4,.none rfl h5,⟨h6.size,h6.os,h6.tape,h6.out,h6.fr,h6.gen,h6.le⟩⟩).1

theorem Lv.cons {objs0:List Ob}(hg:GS g objs0){fn:Func}{E:Env}{objs objs1 objs':List Ob}{r:AV}{l:List (Nat × List AV × List AV)}{f:Nat}{fs cs:List AV}(is:List Nat){Y:YP}{axs:List AV}{o0 o1:List Ob}{q:AV}(hc:DCtr g.P Y f axs o0 q o1)(hcc:(∃ (i l:Nat) (I:Nat→(Nat→Prop)→(Nat→Prop)→World→Prop) (B:Nat→Prop),g.φ0[i]? = some (Phy.ext l I B))→Y=g.Y)
  (hok:isOk (len objs) is=true) (hpick:pickN objs is=some (o0.map (renOb (rn is (len objs))))) (has:(fs++cs).map nrm=renL (rn is (len objs)) axs) (ho:putAll is (o1.map (renOb (rn is (len objs)))) objs=objs')
  (hr:Lv g fn r objs1 l E objs'):Lv g fn r objs1 ((f,fs,cs)::l) E objs:=by
 subst ho
 intro ds tmps w hs
 obtain⟨φ,h1,h2,h3,h4,h5,h6,h7⟩:=hs
 cases ds with
 |nil=>simp[swD,DfOk]at h7
 |cons d ds =>
  have h7:DfOk (SS g.S0 φ) w φ ((f,fs,cs)::l) (d::ds):=h7
  simp only[DfOk]at h7
  obtain⟨⟨va,vc,rfl,hva,hvc⟩,h8⟩:=h7
  have hall:=(hva.append hvc).mapEnt nrm Ent.nrm
  rw[has]at hall
  have hu:=hg.gup
  obtain⟨S,φ0,gA,g1,g2,g3,g4,g5⟩:=callS_core (hg.ok.ambAt h2 ⟨h6.size,h6.os,h6.tape,h6.out,h6.fr,h6.gen,h6.le⟩) hu hg.Y is hc.len hcc hok hpick h1 h2 ⟨h6.size,h6.os,h6.tape,h6.out,h6.fr,h6.gen,h6.le⟩ hall
  have hcall:=hc.run S φ0 w _ .returning gA g1 g2 g3 g4
  simp only[LeavesInM]
  have hF:=hg.wide.1
  have hd:=hg.wide.2
  refine⟨by simp,.inr ⟨fun h=>(by rw[hF]at h;cases h),.func f,vc.toArray,f,(va++vc).toArray,rfl,?_,fun _ _=>hg.ok.fn _,?_⟩⟩
  ·simp only [invoke]
   rw[show va.toArray++vc.toArray=(va++vc).toArray by simp]
   exact hc.call _ _
  ·rw [hF,hd]
   refine hcall.mono ?_
   rintro e u' w' ⟨rfl,v,φ1,rfl,hv,hst⟩
   obtain⟨φ',hstp,_⟩:=g5 w' φ1 v hv hst
   simp only[settle]
   have:=hr ds tmps w' ⟨φ',hstp.hs,fun b hb=>?_,fun t=>(h3 t).mono hstp.keep hstp.le,h4,h5.stp hstp,⟨Nat.le_trans h6.size hstp.size,hstp.os.trans h6.os,hstp.tape.trans h6.tape,hstp.out.trans h6.out,fun b hb hx=>?_,fun i l I B hi=>?_,h6.le.trans hstp.le⟩,h8.mono hstp.keep hstp.le⟩
   ·rw[hF,hd]at this;exact this
   ·rcases hstp.own b hb with h | h
    ·exact h2 b h
    ·left;have:=h6.size;simp only[swD]at this ⊢;omega
   ·rw [hstp.fr b (Nat.lt_of_lt_of_le hb h6.size) fun hc=>?_]
    ·exact h6.fr b hb hx
    ·rcases h2 b hc with h | h
     ·have:b<g.w0.heap.size:=hb
      simp only[swD]at h;omega
     ·exact hx h
   ·obtain ⟨B0,h⟩:=hstp.ext i l I B hi
    exact h6.gen i l I B0 h

theorem R_retL {fn:Func}{k:List It}{E:Env}{objs objs1:List Ob}{r:AV}(hl:Lv g fn r objs1 g.dfs E objs):R g pf (FinS g fn r objs1) (.code .ret::k) E objs:=by
 intro _ a w hs
 refine wpIn_ret (KP_ret k ?_)
 obtain⟨ds,ds2,e,hs⟩:=hs.told
 show LeavesInM _ _ _ _ _ _ a.defers _ _
 rw[e]
 exact leaves_all (fun ds2 tmps w h=>hl ds2 tmps w h) ds ds2 a.tmps w hs

theorem R_endL {fn:Func}{E:Env}{objs objs1:List Ob}{r:AV}(hl:Lv g fn r objs1 g.dfs E objs):R g pf (FinS g fn r objs1) [] E objs:=by
 intro _ a w hs
 obtain⟨ds,ds2,e,hs⟩:=hs.told
 show LeavesInM _ _ _ _ _ _ a.defers _ _
 rw[e]
 exact leaves_all (fun ds2 tmps w h=>hl ds2 tmps w h) ds ds2 a.tmps w hs
end
end PSL
namespace PSL
open Go Go.RowKit
section
variable {g:G} {pf:Nat→Cls} {ops:Array Oper} {Fin:Exit→Act→World→Prop}

theorem R_yield {objs0:List Ob}(hgs:GS g objs0){dst:Option Nat}{x:Operand}{args:Array Operand}{ts:Array Nat}{ty:Nat}{pos:String}{after:Array Edge}{gd:Option (Nat × Bool)}
  {rest:List Oper} {k:List It} {E:Env} {objs:List Ob} {i n:Nat} {avs:List AV}
  (hgd:guardA ops.toList E gd=some true) (hd:dstOk ⟨g.ty,g.N⟩ dst=true) (hcl:clsOf pf (.call { callee:=.value x,args:=args,argTypes:=ts })=.eff) (hx:ev E x=.yl i) (ho:nth objs i=some (.yld n))
  (has:(args.toList.map (ev E)).map nrm=avs) (hp:pureL avs=true) (hy:g.Y.ys[n]? = some avs) (hgo:n=0∨g.Y.go n=true)
  (hr:R g pf Fin (.dr ops rest::k) (putO E dst (bV (g.Y.go (n+1)))) (setN objs i (.yld (n+1)))) :
  R g pf Fin (.dr ops (⟨dst,.call { callee:=.value x,args:=args,argTypes:=ts },ty,pos,after,gd⟩::rest)::k) E objs:=by
 refine R_op ?_ hr
 show LocOp g ops _ E objs (clsOf pf (.call { callee:=.value x,args:=args,argTypes:=ts })) _ _
 rw[hcl]
 have hg:=hgs.ok
 refine⟨fun h=>absurd rfl (h _),(fun b h hb=>by cases h;omega),fun E₁ o₁ o₁' a w he hoo hs Q=>?_⟩
 rcases hoo with ⟨h,_⟩ |⟨_,h,_⟩ |⟨ho1,ho2⟩
 ·cases h
 ·cases h
 subst ho1;subst ho2
 obtain⟨φ,h1,h2,h3,h4,h5,h6⟩:=hs
 rw[wanted_of (guardA_ok hgd) he h3]
 simp only[if_true]
 refine⟨about_ok hg _ w a,?_⟩
 have hρ:=rv_ops (o:=⟨dst,.call { callee:=.value x,args:=args,argTypes:=ts },ty,pos,after,gd⟩) he h3
 simp only[Op.operands,Call.operands]at hρ
 have hxv:=hρ x (by simp)
 rw[hx]at hxv
 simp only[RV]at hxv
 obtain⟨l,I,B,hφ,hxv⟩:=hxv
 have hargs:RVs (SS g.S0 φ) w φ (args.toList.map (ev E)) (args.toList.map a.eval):=RVs.map _ _ _ fun y hy=>hρ y (by simp[hy])
 have hall:=hargs.mapEnt nrm Ent.nrm
 rw[has]at hall
 have hall0:=RVs.pure (φ':=[]) (Keep.refl _ _) hp hall
 have hk:=obj_at h1 hφ ho
 simp only[ObOk]at hk
 obtain⟨B0,hg0⟩:=h6.gen i l I B hφ
 have hbB:∀b,B b→bls φ b:=fun b hb=>⟨i,_,hφ,hb⟩
 obtain ⟨fn,tmps,assign,body,hyr,hround⟩:=hgs.Y i l I B0 hg0 n B w (SS g.S0 φ) avs _ hk.2 (fun b hb=>⟨hb.1,fun hc=>hb.2 (hbB b hc)⟩) (hg.ambAt h2 h6)
  (fun b hb=>⟨h1.up b hb,fun hc=>by have:=h1.lt b hc;omega⟩) hy hgo hall0 hp
 have hrun:(execOp a.eval ⟨dst,.call { callee:=.value x,args:=args,argTypes:=ts },ty,pos,after,gd⟩).run g.P w=.ok (.round l fn tmps assign body) w:=by
  have h7:(resolve a.eval { callee:=.value x,args:=args,argTypes:=ts } ty).run g.P w=.ok { target:=.fn (.yield l) #[],args:=(args.toList.map a.eval).toArray } w:=by
   simp only[resolve,hxv,Deferred.ofValue,Sem.run_bind,Sem.run_pure,Result.andThen_ok]
   congr 2
   apply Array.toList_inj.1;simp
  simp only[execOp,Sem.run_bind,h7,Result.andThen_ok,invoke]
  exact hyr
 rw[Oper.semAt_eq _ _ _ (by simp),hrun]
 refine⟨fun h=>by rw[hg.depth]at h;simp at h,?_⟩
 obtain⟨hF,hd0⟩:=hgs.wide
 rw[hF,hd0]
 refine hround.mono ?_
 rintro e w' ⟨rfl,B',hI,hsz,hos,htape,hout,hfr,hB'⟩
 have hlt:i<φ.length:=(List.getElem?_eq_some_iff.1 hφ).1
 have hst:Stp g.S0 φ w (φ.set i (.ext l I B')) (o₁.set i (.yld (n+1))) w':=by
  refine Stp.swap h1 hφ (.inr (.inr (.inr (.inl ⟨_,_,_,_,rfl,rfl⟩)))) hsz (fun c hc hn=>hfr c hc hn) (fun b hb=>hB' b hb) hos htape hout (fun hkeep _=>?_) (fun l' I' B'' he=>by cases he;exact⟨B,rfl⟩)
  simp only[ObOk]
  refine⟨hk.1,hk.1 _ _ _ _ _ _ (Nat.le_refl _) (fun _ _=>rfl) (fun b hb _=>⟨?_,rfl⟩) hI⟩
  refine⟨hb.1.1,fun hc=>?_⟩
  rcases bls_set hc with ⟨j,q,hj,g1,g2⟩ |g1
  ·exact hb.1.2 ⟨j,q,g1,g2⟩
  ·exact hb.2 g1
 have hfin:=Sat.stp (v:=bV (g.Y.go (n+1))) (vv:=.bool (g.Y.go (n+1))) h2 h3 h4 h5 h6 hst (dstOk_ok hd) fun _=>by simp only[RV,bV];exact .v _
 rw[setN_eq]
 exact hfin
end
end PSL
namespace PSL
open Go Go.RowKit

structure HC (R:Nat→Prop) (φ:List Phy) (objs:List Ob) (w:World):Prop where
 len:φ.length=objs.length
 ok:∀ (i:Nat) (ph:Phy) (ob:Ob),φ[i]? = some ph→objs[i]? = some ob→ObOk R w φ ph ob
 dist:Dist φ
 lt:∀b,bls φ b→b<w.heap.size
theorem HS.hc {S0:Nat→Prop}{φ:List Phy}{objs:List Ob}{w:World}(h:HS S0 φ objs w):HC (SS S0 φ) φ objs w:=⟨h.len,h.ok,h.dist,h.lt⟩

theorem HC.mono {R R':Nat→Prop}{φ:List Phy}{objs:List Ob}{w w':World}(h:HC R φ objs w)(hsz:w.heap.size≤w'.heap.size)(hk:Keep R w R' w')(hb:∀b,bls φ b→w'.heap[b]? = w.heap[b]?):HC R' φ objs w' :=
 ⟨h.len,fun i ph ob h1 h2=>(h.ok i ph ob h1 h2).mono hk (.refl _) hsz fun b hb'=>hb b ⟨i,ph,h1,hb'⟩,h.dist,fun b hb'=>Nat.lt_of_lt_of_le (h.lt b hb') hsz⟩
theorem HC.hs {S0:Nat→Prop}{φ:List Phy}{objs:List Ob}{w:World}(h:HC (SS S0 φ) φ objs w)(hup:∀b,w.heap.size≤b→S0 b):HS S0 φ objs w:=⟨h.len,h.ok,h.dist,h.lt,hup⟩

def gRound (g:G)(l:Nat)(w:World)(R X:Nat→Prop)(φ0:List Phy):G :=
 { P:=g.P,F:=Fence.wide.inRound l,dep:=0,ty:=g.ty,N:=g.N,w0:=w,S0:=R,X0:=X,φ0:=φ0,Y:=⟨[],fun _=>true⟩,mks:=false }
theorem gRound_ok {g:G}(hg:GOk g)(l:Nat)(w:World)(R X:Nat→Prop)(φ0:List Phy)(ha:AmbOk g.P (fun b=>R b∧¬ X b∧b<w.heap.size) w):GOk (gRound g l w R X φ0):=⟨fun _=>trivial,ha,rfl,rfl,hg.ty,hg.mixed⟩

def EntL:List AV→List AV→Prop
 |[],[]=>True
 |x::l,y::m=>Ent x y∧EntL l m
 |_,_=>False

def ObIn:Ob→Ob→Prop
 | .box l,.box m=>EntL l m
 |_,.dead=>True
 |a,b=>a=b

def ObsIn:List Ob→List Ob→Prop
 |[],[]=>True
 |a::l,b::m=>ObIn a b∧ObsIn l m
 |_,_=>False

theorem EntL.rvs {S:Nat→Prop}{w:World}{φ:List Phy}:∀ {l m:List AV} {vs:List Value},EntL l m→RVs S w φ l vs→RVs S w φ m vs
 |[],[],_,_,h=>h
 |[],_::_,_,h,_=>by simp[EntL]at h
 |_::_,[],_,h,_=>by simp[EntL]at h
 |x::l,y::m,[],_,h=>by simp[RVs]at h
 |x::l,y::m,v::vs,h,hv=>by
  simp only[EntL]at h;simp only[RVs]at hv ⊢
  exact⟨h.1 _ _ _ _ hv.1,h.2.rvs hv.2⟩

theorem ObIn.ok {S:Nat→Prop}{w:World}{φ:List Phy}{ph:Phy}{a b:Ob}(h:ObIn a b)(ho:ObOk S w φ ph a):ObOk S w φ ph b:=by
 unfold ObIn at h
 split at h
 ·cases ph <;> simp only [ObOk] at ho ⊢
  obtain⟨cs,T,h1,h2⟩:=ho
  exact⟨cs,T,h1,h.rvs h2⟩
 ·simp only[ObOk]
 ·subst h;exact ho

theorem ObsIn.get:∀ {l m:List Ob},ObsIn l m→l.length=m.length∧∀ (i:Nat) (b:Ob),m[i]? = some b→∃a,l[i]? = some a∧ObIn a b
 |[],[],_=>⟨rfl,by simp⟩
 |[],_::_,h=>by simp[ObsIn]at h
 |_::_,[],h=>by simp[ObsIn]at h
 |x::l,y::m,h=>by
  simp only[ObsIn]at h
  obtain⟨h1,h2⟩:=h.2.get
  refine⟨by simp[h1],fun i b hb=>?_⟩
  cases i with
  |zero=>simp at hb;subst hb;exact⟨x,rfl,h.1⟩
  |succ i=>simp at hb;simpa using h2 i b hb

theorem Sat.obs {g:G}{E:Env}{objs objs':List Ob}{a:Act}{w:World}(h:ObsIn objs objs')(hs:Sat g E objs a w):Sat g E objs' a w:=by
 obtain⟨φ,h1,h2⟩:=hs
 obtain⟨h3,h4⟩:=h.get
 exact⟨φ,⟨h1.len.trans h3,fun i ph b hi hb=>by obtain⟨a,h5,h6⟩:=h4 i b hb;exact h6.ok (h1.ok i ph a hi h5),h1.dist,h1.lt,h1.up⟩,h2⟩

theorem ObIn.refl (a:Ob):ObIn a a:=by
 cases a<;>simp only[ObIn]
 rename_i l
 induction l with
 |nil=>simp[EntL]
 |cons x l ih=>exact⟨.refl x,ih⟩

theorem R_obs {g:G}{pf:Nat→Cls}{Fin:Exit→Act→World→Prop}{k:List It}{E:Env}{objs:List Ob}(objs':List Ob)(h:ObsIn objs objs')(ht:topCode k=true)(hr:R g pf Fin k E objs'):R g pf Fin k E objs :=
 R_ghost ht (fun _ _ hs=>hs.obs h) hr

def FinA (g:G) (E:Env) (objs:List Ob):Exit→Act→World→Prop
 | .normal,a,w=>Sat g E objs a w
 |_,_,_=>False

def FinB (g:G) (objs:List Ob) (go:Bool) (jmp:Code):Exit→Act→World→Prop
 | .normal,a,w=>go=true∧∃E,Sat g E objs a w
 | .ret,a,w=>go=false∧jmp=.ret∧∃E,Sat g E objs a w
 | .exit id,a,w=>go=false∧jmp=.exit id∧∃E,Sat g E objs a w
 |_,_,_=>False
section
variable {g:G} {pf:Nat→Cls} {Fin:Exit→Act→World→Prop}

theorem R_finA {E E1:Env}{objs objs1:List Ob}(hE:EnvIn E E1)(ho:objs=objs1):R g pf (FinA g E1 objs1) [] E objs:=by
 subst ho
 exact fun _ a w hs=>hs.ent hE.eent

theorem R_finB {E:Env}{objs objs1:List Ob}{go:Bool}{jmp:Code}(hgo:go=true)(ho:objs=objs1):R g pf (FinB g objs1 go jmp) [] E objs:=by
 subst ho
 exact fun _ a w hs=>⟨hgo,E,hs⟩

theorem R_retB {k:List It}{E:Env}{objs objs1:List Ob}{go:Bool}{jmp:Code}(hgo:go=false)(hj:jmp=.ret)(ho:objs=objs1):R g pf (FinB g objs1 go jmp) (.code .ret::k) E objs:=by
 subst ho
 intro _ a w hs
 exact wpIn_ret (KP_ret k ⟨hgo,hj,E,hs⟩)

def putPs (E:Env):List Nat→List AV→Env
 |p::ps,x::xs=>putPs (put E p x) ps xs
 |_,_=>E

theorem putPs_ok {S:Nat→Prop}{w:World}{φ:List Phy}:∀ (ps:List Nat) (xs:List AV) (vs:List Value) (E:Env) (tmps:Array Value),EnvOk S w φ E { tmps:=tmps,defers:=[] }→(∀p∈ps,p<tmps.size)→ps.length=xs.length→RVs S w φ xs vs →
  EnvOk S w φ (putPs E ps xs) { tmps:=(ps.zip vs).foldl (fun t (p:Nat × Value)=>t.setIfInBounds p.1 p.2) tmps,defers:=[] }∧((ps.zip vs).foldl (fun t (p:Nat × Value)=>t.setIfInBounds p.1 p.2) tmps).size=tmps.size
 |[],xs,vs,E,tmps,h,_,_,_=>by simpa[putPs]using h
 |p::ps,[],vs,E,tmps,h,_,hl,_=>by simp at hl
 |p::ps,x::xs,[],E,tmps,h,_,_,hv=>by simp[RVs]at hv
 |p::ps,x::xs,v::vs,E,tmps,h,hp,hl,hv=>by
  simp only[RVs]at hv
  have h1:EnvOk S w φ (put E p x) { tmps:=tmps.setIfInBounds p v,defers:=[] }:=by
   have:=put_env (d:=some p) (v:=x) (vv:=v) h rfl (fun t ht=>by cases ht;exact hp p (by simp)) (fun _=>hv.1)
   simpa[putO,Act.put]using this
  obtain⟨h2,h3⟩:=putPs_ok ps xs vs (put E p x) (tmps.setIfInBounds p v) h1 (fun q hq=>by simpa using hp q (by simp[hq])) (by simpa using hl) hv.2
  refine⟨by simpa[putPs]using h2,?_⟩
  simp only[List.zip_cons_cons,List.foldl_cons]
  rw[h3];simp

theorem zip_foldl {ps:Array Nat}{vs:List Value}{tmps:Array Value}:(ps.zip vs.toArray).foldl (fun t (p,v)=>t.setIfInBounds p v) tmps=(ps.toList.zip vs).foldl (fun t (p:Nat × Value)=>t.setIfInBounds p.1 p.2) tmps:=by
 rw[← Array.foldl_toList];simp[Array.toList_zip]

def allLt:List Nat→Nat→Bool
 |[],_=>true
 |x::l,n=>bif Nat.ble (Nat.succ x) n then allLt l n else false

theorem allLt_ok:∀ {l:List Nat} {n:Nat},allLt l n=true→∀p∈l,p<n
 |[],_,_=>by simp
 |x::l,n,h=>by
  simp only[allLt]at h
  obtain⟨h1,h2⟩:=bifT h
  intro p hp
  rcases List.mem_cons.1 hp with rfl |hp
  ·exact Nat.le_of_ble_eq_true h1
  ·exact allLt_ok h2 p hp

theorem R_range (hg:GOk g)(hu:GUp g)(hw:g.F=Fence.wide∧g.dep=0)(hm:g.mks=true){gop:Operand}{ps:Array Nat}{assign body:Code}{k:List It}{E:Env}{objs:List Ob}
  {α:Type} (els:List α) (enc:α→List AV) (Y:YP) (hys:Y.ys=els.map enc) (ob:Nat→List Ob) (E1:Nat→α→Env) (ob1:Nat→α→List Ob) (m:Nat) (jmp:Code) {f:Nat} {cs cs':List AV} {r:AV} (hx:ev E gop=.clo f [] cs) (hcs:cs.map nrm=cs') (hcp:pureL cs'=true)
  (hc:SCtr g.P Y f (.yl 0::cs') [.yld 0] r [.yld m]) (h0:objs=ob 0) (hps:∀x∈els,(enc x).length=ps.size) (hN':allLt ps.toList g.N=true)
  (hassign:∀ (n:Nat) (x:α),els[n]? = some x→(n=0∨Y.go n=true)→∀ (l:Nat) (w:World) (R0 X:Nat→Prop) (φ0:List Phy),φ0.length=(ob n).length→AmbOk g.P (fun b=>R0 b∧¬ X b∧b<w.heap.size) w →
   R (gRound g l w R0 X φ0) pf (FinA (gRound g l w R0 X φ0) (E1 n x) (ob1 n x)) [.code assign] (putPs E ps.toList (enc x)) (ob n))
  (hbody:∀ (n:Nat) (x:α),els[n]? = some x→(n=0∨Y.go n=true)→∀ (l:Nat) (w:World) (R0 X:Nat→Prop) (φ0:List Phy),φ0.length=(ob n).length→AmbOk g.P (fun b=>R0 b∧¬ X b∧b<w.heap.size) w →
   R (gRound g l w R0 X φ0) pf (FinB (gRound g l w R0 X φ0) (ob (n+1)) (Y.go (n+1)) jmp) [.code body] (E1 n x) (ob1 n x))
  (hk:(m=0∨Y.go m=true)→R g pf Fin k E (ob m)) (hnd:noDr k=true) (hjc:codeOk pf jmp=true) (hj:m≠0→Y.go m=false→R g pf Fin (.code jmp::k) E (ob m)) (hdf:g.dfs=[]:=by rfl) :
  R g pf Fin (.code (.rangeFunc gop ps assign body)::k) E objs:=by
 have hN:=allLt_ok hN'
 rintro⟨hok,hok'⟩ a w hs
 simp only[codeOk,Bool.and_eq_true]at hok
 subst h0
 simp only[KP]
 obtain⟨φ,h1,h2,h3,h4,h5,h6⟩:=hs
 obtain⟨hF,hd0⟩:=hw
 have hxv:=ev_rv h3 gop
 rw[hx]at hxv
 simp only[RV]at hxv
 obtain⟨va,vc,hxv,hva,hvc⟩:=hxv
 have hva:va=[]:=by
  cases va with
  |nil=>rfl
  |cons _ _=>simp[RVs]at hva
 subst hva
 have hvc':=hvc.mapEnt nrm Ent.nrm
 rw[hcs]at hvc'
 refine wpIn_rangeFunc fun fn hfn=>?_
 rw[hF,hd0]
 obtain⟨rec,hrec⟩:∃rec:LoopState→Option Code→Loop,rec=fun st pe=>{ state:=st,pending:=pe,fn,tmps:=a.tmps,params:=ps,assign,body,defers:=w.heap.size }:=⟨_,rfl⟩
 obtain⟨W1,hW1⟩:∃W1,(w.alloc (.deferred (some []))).alloc (.loop (rec .ready none))=W1:=⟨_,rfl⟩
 have hsz1:W1.heap.size=w.heap.size+2:=by rw[← hW1];simp
 have hL1:W1.heap[w.heap.size+1]? = some (.loop (rec .ready none)):=by
  rw[← hW1];have:=World.alloc_heap_new (w.alloc (.deferred (some []))) (.loop (rec .ready none));rwa [World.size_alloc]at this
 have hD1:W1.heap[w.heap.size]? = some (.deferred (some [])):=by
  rw[← hW1];exact(Below.heap_alloc _ _ _ (by simp)).trans (World.alloc_heap_new w _)
 have hold:∀b,b<w.heap.size→W1.heap[b]? = w.heap[b]? := fun b hb=>by
  rw[← hW1];exact(Below.heap_alloc _ _ _ (by simp;omega)).trans (Below.heap_alloc _ _ _ hb)
 have hblφ:∀ {b},bls φ b→b<w.heap.size:=fun {b} hb=>h1.lt b hb
 refine⟨w.heap.size+1,[{ target:=.collected w.heap.size,args:=#[] }],W1,{ target:=.fn (.func f) vc.toArray,args:=#[.func (.yield (w.heap.size+1)) #[] #[]] },W1,f,
  #[.func (.yield (w.heap.size+1)) #[] #[]]++vc.toArray,W1,?_,?_,?_,?_,fun h=>by simp[Fence.wide]at h,?_⟩
 ·rw[← hW1,hrec];exact run_enterLoop_outer _ _ _ _ _
 ·simp only [resolve,hxv]
  simp[go_sem]
 ·intro f' _;exact trivial
 ·simp only[invoke];exact hc.call _ _
 -- what the outer function is,behind n rounds
 obtain⟨st,hst⟩:∃st:Nat→LoopState × Option Code,st=fun n=>if n=0∨Y.go n=true then (.ready,none) else (.done,some jmp):=⟨_,rfl⟩
 let I:Nat→(Nat→Prop)→(Nat→Prop)→World→Prop:=fun n B Rr W=>∃ φ',HC Rr φ' (ob n) W∧EnvOk Rr W φ' E a∧(∀ b,B b↔bls φ' b∨b=w.heap.size+1∨b=w.heap.size) ∧
  W.heap[w.heap.size]? = some (.deferred (some []))∧W.heap[w.heap.size+1]? = some (.loop (rec (st n).1 (st n).2))∧(∀b,bls φ' b→b≠w.heap.size∧b≠w.heap.size+1) ∧
  (∀b,bls φ' b→bls φ b∨w.heap.size≤b)∧PhsLe g.φ0 φ'∧(∀ (i l:Nat) (J:Nat→(Nat→Prop)→(Nat→Prop)→World→Prop) (B:Nat→Prop),φ'[i]? = some (.ext l J B)→∃B0,g.φ0[i]? = some (.ext l J B0))
 have hstab:Stab I:=by
  rintro n B Rr Rr' W W' hsz hB hkp ⟨φ',e1,e2,e3,e4,e5,e6,e7,e8,e9⟩
  exact⟨φ',e1.mono hsz hkp fun b hb=>hB b ((e3 b).2 (.inl hb)),fun t=>(e2 t).mono hkp (.refl _),e3,(hB _ ((e3 _).2 (.inr (.inr rfl)))).trans e4,(hB _ ((e3 _).2 (.inr (.inl rfl)))).trans e5,e6,e7,e8,e9⟩
 obtain⟨B1,hB1⟩:∃B1:Nat→Prop,B1=fun b=>bls φ b∨b=w.heap.size+1∨b=w.heap.size:=⟨_,rfl⟩
 have hblsE:∀ {B:Nat→Prop} {b:Nat},bls [Phy.ext (w.heap.size+1) I B] b↔B b:=fun {B b}=>by
  constructor
  ·rintro ⟨i,p,h7,h8⟩
   cases i with
   |zero=>simp at h7;subst h7;exact h8
   |succ i=>simp at h7
  ·exact fun h=>⟨0,_,rfl,h⟩
 have hB1S:∀b,B1 b→g.S0 b:=fun b hb=>by
  rw[hB1]at hb
  rcases hb with hb |hb |hb
  ·exact(h2 b hb).elim (hu.up b) (hu.x b)
  ·exact h1.up b (by omega)
  ·exact h1.up b (by omega)
 have hkp1:Keep (SS g.S0 φ) w (SS g.S0 [Phy.ext (w.heap.size+1) I B1]) W1:=.of fun b hb hbs=>⟨⟨hb.1,fun hc=>by
  rw[hblsE,hB1]at hc
  rcases hc with hc |hc |hc
  ·exact hb.2 hc
  ·omega
  ·omega⟩,hold b hbs⟩
 have hI1:I 0 B1 (SS g.S0 [Phy.ext (w.heap.size+1) I B1]) W1:=by
  refine⟨φ,h1.hc.mono (by omega) hkp1 fun b hb=>hold b (hblφ hb),fun t=>(h3 t).mono hkp1 (.refl _),fun b=>by rw[hB1],hD1,?_,fun b hb=>by have:=hblφ hb;omega,fun b hb=>.inl hb,h6.le,h6.gen⟩
  rw[hst];simpa using hL1
 have hHS1:HS g.S0 [Phy.ext (w.heap.size+1) I B1] [.yld 0] W1:=by
  refine⟨rfl,fun i ph ob' hi ho=>?_,fun i j p q b hi hj _ _=>?_,fun b hb=>?_,fun b hb=>h1.up b (by omega)⟩
  ·cases i with
   |zero=>simp at hi ho;subst hi;subst ho;simp only[ObOk];exact⟨hstab,hI1⟩
   |succ i=>simp at hi
  ·have:=(List.getElem?_eq_some_iff.1 hi).1
   have:=(List.getElem?_eq_some_iff.1 hj).1
   simp at *;omega
  ·rw [hblsE,hB1] at hb
   rcases hb with hb |hb |hb
   ·have:=hblφ hb;omega
   ·omega
   ·omega
 have hY:∀ (i l:Nat) (J:Nat→(Nat→Prop)→(Nat→Prop)→World→Prop) (B:Nat→Prop),[Phy.ext (w.heap.size+1) I B1][i]? = some (Phy.ext l J B)→YStep g.P Fence.wide 0 Y l J g.S0:=by
  intro i l J B hi
  cases i with
  |succ i=>simp at hi
  |zero =>
  simp at hi
  obtain⟨rfl,rfl,rfl⟩:=hi
  rintro n B W Rr x0 vals ⟨φ',e1,e2,e3,e4,e5,e6,e7,e8,e9⟩ hRS hamb hup hy hgo hv hp
  rw[hys,List.getElem?_map]at hy
  obtain⟨x,hy2,rfl⟩:=Option.map_eq_some_iff.1 hy
  replace hy:=hy2
  have hst0:st n=(.ready,none):=by rw[hst];simp only[if_pos hgo]
  rw[hst0]at e5
  have hnb:∀ {b},Rr b→¬ bls φ' b:=fun {b} hb hc=>(hRS b hb).2 ((e3 b).2 (.inl hc))
  have hltl:w.heap.size+1<W.heap.size:=(Array.getElem?_eq_some_iff.1 e5).1
  have hvl:vals.length=ps.size:=by rw[← hv.length];exact hps x (List.mem_of_getElem? hy)
  have hyr:=run_yield (P:=g.P) (args:=vals.toArray) e5 (by rw[hrec];simpa using hvl)
  rw[hrec]at hyr
  refine⟨fn,_,assign,body,hyr,roundIn_of_wpIn trivial ?_⟩
  clear hyr
  have hRid:Keep Rr W (SS Rr φ') W:=fun b hb _=>⟨⟨hb,hnb hb⟩,rfl⟩
  have hxs:RVs (SS Rr φ') W φ' (enc x) vals:=RVs.pure hRid hp hv
  have hsatA:Sat (gRound g (w.heap.size+1) W Rr (bls φ') φ') (putPs E ps.toList (enc x)) (ob n) { tmps:=(ps.zip vals.toArray).foldl (fun t (p,v)=>t.setIfInBounds p v) a.tmps,defers:=[] } W:=by
   have:=putPs_ok ps.toList (enc x) vals E a.tmps (fun t=>(e2 t).mono hRid (.refl _)) (fun p hp'=>by rw[h4];exact hN p hp') (by rw[hps x (List.mem_of_getElem? hy)];simp) hxs
   rw[zip_foldl]
   refine⟨φ',(e1.mono (Nat.le_refl _) hRid fun _ _=>rfl).hs hup,fun b hb=>.inr hb,this.1,this.2.trans h4,.none rfl ⟨fun _=>rfl,.nil,by simp⟩,⟨Nat.le_refl _,rfl,rfl,rfl,fun _ _ _=>rfl,fun i l I B h=>⟨B,h⟩,.refl _⟩⟩
  have hambW:AmbOk g.P (fun b=>Rr b∧¬ bls φ' b∧b<W.heap.size) W:=hamb.at0 fun b hb=>hnb hb
  have hRA:=RK.of_R (pf:=pf) (k:=[.code assign]) ⟨hok.1,trivial⟩ (hassign n x hy hgo (w.heap.size+1) W Rr (bls φ') φ' e1.len hambW) (by simp) _ _ hsatA
  simp only[KP]at hRA
  refine wpIn_mono hRA fun e a1 w1 hq=>?_
  cases e<;>try exact hq.elim
  -- the assignments are done
  obtain⟨φa,f1,f2,f3,f4,f5,f6⟩:Sat (gRound g (w.heap.size+1) W Rr (bls φ') φ') (E1 n x) (ob1 n x) a1 w1:=hq
  have hsame1:∀b,b<W.heap.size→¬ bls φ' b→w1.heap[b]? = W.heap[b]? := f6.fr
  have hszW1:W.heap.size≤w1.heap.size:=f6.size
  have hl1:=(hsame1 _ hltl fun hc=>(e6 _ hc).2 rfl).trans e5
  have hD1':=(hsame1 _ (by omega) fun hc=>(e6 _ hc).1 rfl).trans e4
  have hba:∀b,bls φa b→bls φ' b∨W.heap.size≤b:=fun b hb=>(f2 b hb).symm
  have hbaN:∀b,bls φa b→b≠w.heap.size∧b≠w.heap.size+1:=fun b hb=>(hba b hb).elim (e6 b) fun h=>by omega
  refine⟨_,run_beginRound hl1 (by rw[hrec]),?_⟩
  obtain⟨w2,hw2⟩:∃w2,w2=w1.putObj (w.heap.size+1) (.loop { rec .ready none with state:=.busy }):=⟨_,rfl⟩
  rw[← hw2]
  have hsz2:w2.heap.size=w1.heap.size:=by rw[hw2];simp
  have hl2:w2.heap[w.heap.size+1]? = some (.loop { rec .ready none with state:=.busy }):=by rw[hw2];exact World.putObj_heap_same (by omega)
  have hoth2:∀b,b≠w.heap.size+1→w2.heap[b]? = w1.heap[b]? := fun b hb=>by rw[hw2];exact World.putObj_heap_other hb
  have hds:a1.defers=[]:=(f5.only rfl).1 rfl
  have hsatB:Sat (gRound g (w.heap.size+1) w2 Rr (bls φa) φ') (E1 n x) (ob1 n x) a1 w2:=by
   refine⟨φa,?_,fun b hb=>.inr hb,fun t=>?_,f4,.none rfl ⟨fun _=>hds,by rw[hds];exact .nil,by rw[hds];simp⟩,⟨Nat.le_refl _,rfl,rfl,rfl,fun _ _ _=>rfl,f6.gen,f6.le⟩⟩
   ·rw[hw2];exact HS.shut f1 hl1 (fun h=>h) fun hc=>(hbaN _ hc).2 rfl
   ·rw[hw2];exact(f3 t).mono (keep_shut hl1 (fun h=>h)) (.refl _)
  have hamb2:AmbOk g.P (fun b=>Rr b∧¬ bls φa b∧b<w2.heap.size) w2:=hambW.keep fun b hb _=>by
   have h7:b≠w.heap.size+1:=fun e=>(hRS b hb.1).2 ((e3 b).2 (.inr (.inl e)))
   exact⟨⟨hb.1,fun hc=>(hba b hc).elim hb.2.1 fun h=>by have:=hb.2.2;omega,by have:=hb.2.2;omega⟩,(hoth2 b h7).trans (hsame1 b hb.2.2 hb.2.1)⟩
  have hRB:=RK.of_R (pf:=pf) (k:=[.code body]) ⟨hok.2,trivial⟩ (hbody n x hy hgo (w.heap.size+1) w2 Rr (bls φa) φ' e1.len hamb2) (by simp) _ _ hsatB
  simp only[KP]at hRB
  refine wpIn_mono hRB fun e a3 w3 hq=>?_
  -- the round's end,in whichever way
  have fin:∀ (jump:Option Code),(st (n+1))=(if jump.isNone then .ready else .done,jump)→(Y.go (n+1)=jump.isNone)→(∃ E',Sat (gRound g (w.heap.size+1) w2 Rr (bls φa) φ') E' (ob (n+1)) a3 w3) →
    ∃ v w',(Instr.endRound (w.heap.size+1) jump).run g.P w3=.ok v w'∧(Ending.returned v=.returned (.bool (Y.go (n+1)))∧∃ B',I (n+1) B' (fun b=>Rr b∧¬ B' b) w'∧W.heap.size≤w'.heap.size∧w'.os=W.os∧w'.tape=W.tape∧w'.output=W.output ∧
     (∀b,b<W.heap.size→¬ B b→w'.heap[b]? = W.heap[b]?)∧(∀b,B' b→B b∨(W.heap.size≤b∧b<w'.heap.size))):=by
   rintro jump hstj hgoj ⟨E',φ3,g1,g2,g3,g4,g5,g6⟩
   have hsz3:w2.heap.size≤w3.heap.size:=g6.size
   have hb3:∀b,bls φ3 b→bls φ' b∨W.heap.size≤b:=fun b hb=>by
    rcases g2 b hb with h |h
    ·have:w2.heap.size≤b:=h
     right;omega
    ·exact hba b h
   have hb3N:∀b,bls φ3 b→b≠w.heap.size∧b≠w.heap.size+1:=fun b hb=>(hb3 b hb).elim (e6 b) fun h=>by omega
   have hsame3:∀b,b<w2.heap.size→¬ bls φa b→w3.heap[b]? = w2.heap[b]? := g6.fr
   have hl3:=(hsame3 _ (by omega) fun hc=>(hbaN _ hc).2 rfl).trans hl2
   have hD3:w3.heap[w.heap.size]? = some (.deferred (some [])):=((hsame3 _ (by omega) fun hc=>(hbaN _ hc).1 rfl).trans (hoth2 _ (by omega))).trans hD1'
   obtain⟨w4,hw4⟩:∃w4,w4=w3.putObj (w.heap.size+1) (.loop (rec (st (n+1)).1 (st (n+1)).2)):=⟨_,rfl⟩
   have hoth4:∀b,b≠w.heap.size+1→w4.heap[b]? = w3.heap[b]? := fun b hb=>by rw[hw4];exact World.putObj_heap_other hb
   have hsz4:w4.heap.size=w3.heap.size:=by rw[hw4];simp
   have hend:=run_endRound (P:=g.P) jump hl3
   refine⟨_,w4,?_,by rw[hgoj],fun b=>bls φ3 b∨b=w.heap.size+1∨b=w.heap.size,?_,by omega,?_,?_,?_,fun b hb hB=>?_,fun b hb=>?_⟩
   ·rw[hend,hw4,hstj];cases jump<;>simp[hrec]
   ·have hsameR:∀b,b<W.heap.size→¬ bls φ' b→b≠w.heap.size+1→w4.heap[b]? = W.heap[b]? := fun b hb h7 h8=>by
     have hna:¬ bls φa b:=fun hc=>(hba b hc).elim h7 fun h=>by omega
     exact(((hoth4 b h8).trans (hsame3 b (by omega) hna)).trans (hoth2 b h8)).trans (hsame1 b hb h7)
    have hkR:Keep Rr W (fun b=>Rr b∧¬ (bls φ3 b∨b=w.heap.size+1∨b=w.heap.size)) w4:=.of fun b hb hbs=>by
     have hnB:¬ B b:=(hRS b hb).2
     have h7:¬ bls φ' b:=hnb hb
     have h8:b≠w.heap.size+1:=fun e=>hnB ((e3 b).2 (.inr (.inl e)))
     have h9:b≠w.heap.size:=fun e=>hnB ((e3 b).2 (.inr (.inr e)))
     refine⟨⟨hb,fun hc=>?_⟩,hsameR b hbs h7 h8⟩
     rcases hc with hc |hc |hc
     ·exact(hb3 b hc).elim h7 fun h=>by omega
     ·exact h8 hc
     ·exact h9 hc
    have hkS:Keep (SS Rr φ3) w3 (fun b=>Rr b∧¬ (bls φ3 b∨b=w.heap.size+1∨b=w.heap.size)) w4:=fun b hb _=>by
     have hnB:¬ B b:=(hRS b hb.1).2
     have h8:b≠w.heap.size+1:=fun e=>hnB ((e3 b).2 (.inr (.inl e)))
     have h9:b≠w.heap.size:=fun e=>hnB ((e3 b).2 (.inr (.inr e)))
     exact⟨⟨hb.1,fun hc=>by
      rcases hc with hc |hc |hc
      ·exact hb.2 hc
      ·exact h8 hc
      ·exact h9 hc⟩,hoth4 b h8⟩
    refine⟨φ3,g1.hc.mono (by omega) hkS fun b hb=>hoth4 b (hb3N b hb).2,fun t=>(e2 t).mono hkR g6.le,fun b=>Iff.rfl,(hoth4 _ (by omega)).trans hD3,by rw[hw4];exact World.putObj_heap_same (by omega),hb3N,fun b hb=>?_,e8.trans g6.le,fun i l J B' hi=>?_⟩
    ·exact(hb3 b hb).elim (e7 b) fun h=>.inr (by omega)
    ·obtain ⟨B0,h7⟩:=g6.gen i l J B' hi
     exact e9 i l J B0 h7
   ·rw[hw4];exact((g6.os).trans (by rw[show (gRound g (w.heap.size+1) w2 Rr (bls φa) φ').w0=w2 from rfl,hw2];exact f6.os))
   ·rw[hw4];exact((g6.tape).trans (by rw[show (gRound g (w.heap.size+1) w2 Rr (bls φa) φ').w0=w2 from rfl,hw2];exact f6.tape))
   ·rw[hw4];exact((g6.out).trans (by rw[show (gRound g (w.heap.size+1) w2 Rr (bls φa) φ').w0=w2 from rfl,hw2];exact f6.out))
   ·have h7:¬ bls φ' b:=fun hc=>hB ((e3 b).2 (.inl hc))
    have h8:b≠w.heap.size+1:=fun e=>hB ((e3 b).2 (.inr (.inl e)))
    have hna:¬ bls φa b:=fun hc=>(hba b hc).elim h7 fun h=>by omega
    exact(((hoth4 b h8).trans (hsame3 b (by omega) hna)).trans (hoth2 b h8)).trans (hsame1 b hb h7)
   ·rcases hb with hb | hb | hb
    ·rcases hb3 b hb with h7 | h7
     ·exact .inl ((e3 b).2 (.inl h7))
     ·exact .inr ⟨h7,by have:=g1.lt b hb;omega⟩
    ·exact .inl ((e3 b).2 (.inr (.inl hb)))
    ·exact .inl ((e3 b).2 (.inr (.inr hb)))
  cases e with
  |normal =>
   obtain⟨hgo1,hsat⟩:Y.go (n+1)=true∧_:=hq
   exact fin none (by rw[hst];simp[hgo1]) (by rw[hgo1];rfl) hsat
  |ret =>
   obtain⟨hgo1,hj,hsat⟩:Y.go (n+1)=false∧_:=hq
   exact fin (some .ret) (by rw[hst];simp[hgo1,hj]) (by rw[hgo1];rfl) hsat
  |exit id =>
   obtain⟨hgo1,hj,hsat⟩:Y.go (n+1)=false∧_:=hq
   exact fin (some (.exit id)) (by rw[hst];simp[hgo1,hj]) (by rw[hgo1];rfl) hsat
  |goto t=>exact hq.elim
  |panic ch=>exact hq.elim
  |outgrown=>exact hq.elim
 have hargs:RVs (SS g.S0 [Phy.ext (w.heap.size+1) I B1]) W1 [Phy.ext (w.heap.size+1) I B1] (.yl 0::cs') (.func (.yield (w.heap.size+1)) #[] #[]::vc):=by
  simp only[RVs]
  exact⟨by simp only[RV];exact⟨_,I,B1,rfl,rfl⟩,RVs.pure hkp1 hcp hvc'⟩
 have hcall:=hc.run g.S0 [Phy.ext (w.heap.size+1) I B1] W1 _ ((hg.ambAt h2 h6).keep hkp1) hHS1 (fun b hb=>hB1S b (hblsE.1 hb)) hY hargs
 rw[show (#[Value.func (.yield (w.heap.size+1)) #[] #[]]++vc.toArray)=(Value.func (.yield (w.heap.size+1)) #[] #[]::vc).toArray from by simp]
 refine(callsIn_wide.2 hcall).mono ?_
 rintro e W2 ⟨v,φ1,rfl,_,hstp⟩
 -- behind the iterator
 obtain⟨p',hp1,hp2⟩:=hstp.le 0 _ rfl
 obtain⟨B2,hp1⟩:∃B2,φ1[0]? = some (.ext (w.heap.size+1) I B2):=by
  rcases hp2 with rfl |⟨_,_,_,_,_,_,_,_,e,_⟩ |⟨_,_,_,_,e,_⟩ |⟨l',I',B',B'',e,rfl⟩ |⟨_,_,e,_⟩
  ·exact⟨_,hp1⟩
  ·cases e
  ·cases e
  ·cases e;exact⟨_,hp1⟩
  ·cases e
 have hk2:=hstp.hs.ok 0 _ _ hp1 rfl
 simp only[ObOk]at hk2
 obtain⟨_,φ',e1,e2,e3,e4,e5,e6,e7,e8,e9⟩:=hk2
 have hltl:w.heap.size+1<W2.heap.size:=(Array.getElem?_eq_some_iff.1 e5).1
 have hbB2:∀b,B2 b→bls φ1 b:=fun b hb=>⟨0,_,hp1,hb⟩
 have hend:=run_endLoop (P:=g.P) e5 (by rw[hrec,hst];simp only;split<;>simp)
 obtain⟨W3,hW3⟩:∃W3,W3=W2.putObj (w.heap.size+1) (.loop { rec (st m).1 (st m).2 with state:=.exhausted }):=⟨_,rfl⟩
 have hoth:∀b,b≠w.heap.size+1→W3.heap[b]? = W2.heap[b]? := fun b hb=>by rw[hW3];exact World.putObj_heap_other hb
 have hsz3:W3.heap.size=W2.heap.size:=by rw[hW3];simp
 have hszW:W1.heap.size≤W2.heap.size:=hstp.size
 have hkF:Keep (SS g.S0 φ1) W2 (SS g.S0 φ') W3:=fun b hb _=>by
  have hnB:¬ B2 b:=fun hc=>hb.2 (hbB2 b hc)
  exact⟨⟨hb.1,fun hc=>hnB ((e3 b).2 (.inl hc))⟩,hoth b fun e=>hnB ((e3 b).2 (.inr (.inl e)))⟩
 have hsameO:∀b,b<w.heap.size→¬ bls φ b→W3.heap[b]? = w.heap[b]? := fun b hb hn=>by
  refine((hoth b (by omega)).trans (hstp.fr b (by omega) fun hc=>?_)).trans (hold b hb)
  rw[hblsE,hB1]at hc
  rcases hc with hc |hc |hc
  ·exact hn hc
  ·omega
  ·omega
 have h5:=h5.only hdf
 have hsat:Sat g E (ob m) { a with defers:={ target:=.collected w.heap.size,args:=#[] }::a.defers } W3:=by
  refine⟨φ',(e1.mono (by omega) hkF fun b hb=>hoth b (e6 b hb).2).hs fun b hb=>h1.up b (by omega),fun b hb=>?_,fun t=>?_,h4,.none hdf ⟨fun h=>(by rw[hm]at h;cases h),?_,fun d hd=>?_⟩,⟨?_,?_,?_,?_,fun b hb hx=>?_,e9,e8⟩⟩
  ·rcases e7 b hb with h | h
   ·exact h2 b h
   ·left;have:=h6.size;omega
  ·have:=(e2 t).mono hkF (.refl φ')
   exact this
  ·refine List.nodup_cons.2 ⟨fun hc=>?_,h5.2.1⟩
   obtain⟨D',h7,_,_,h8⟩:=h5.2.2 _ hc
   simp only[Deferred.mk.injEq,Target.collected.injEq,and_true]at h7
   have:=(Array.getElem?_eq_some_iff.1 h8).1
   omega
  ·rcases List.mem_cons.1 hd with rfl | hd
   ·exact⟨_,rfl,h6.size,fun hc=>(e6 _ hc).1 rfl,(hoth _ (by omega)).trans e4⟩
   ·obtain ⟨D',h7,h8,h9,h10⟩:=h5.2.2 d hd
    have hDl:=(Array.getElem?_eq_some_iff.1 h10).1
    exact⟨D',h7,h8,fun hc=>(e7 _ hc).elim h9 fun h=>by omega,(hsameO D' hDl h9).trans h10⟩
  ·have:=h6.size;omega
  ·rw[hW3];exact(hstp.os.trans (by rw[← hW1];rfl)).trans h6.os
  ·rw[hW3];exact(hstp.tape.trans (by rw[← hW1];rfl)).trans h6.tape
  ·rw[hW3];exact(hstp.out.trans (by rw[← hW1];rfl)).trans h6.out
  ·have hbw:b<w.heap.size:=Nat.lt_of_lt_of_le hb h6.size
   rw[hsameO b hbw fun hc=>(h2 b hc).elim (fun h=>by omega) hx]
   exact h6.fr b hb hx
 refine⟨(st m).2,W3,by rw[hend,hrec]at *;rw[hW3],?_⟩
 by_cases hgo:m=0∨Y.go m=true
 ·have:(st m).2=none:=by rw [hst]; simp only [if_pos hgo]
  rw[this]
  exact RK.of_R (pf:=pf) (k:=k) hok' (hk hgo) (noDr_head hnd) _ _ hsat
 ·have:(st m).2=some jmp:=by rw [hst]; simp only [if_neg hgo]
  rw[this]
  have hm0:m≠0:=fun e=>hgo (.inl e)
  have hgf:Y.go m=false:=by
   cases h:Y.go m
   ·rfl
   ·exact absurd (.inr h) hgo
  have hR:=RK.of_R (pf:=pf) (k:=.code jmp::k) ⟨hjc,hok'⟩ (hj hm0 hgf) (by simp) _ _ hsat
  simp only[KP,hF,hd0]at hR
  exact hR
end
end PSL
namespace PSL
open Go Go.RowKit Go.MapKept

def findA (kd:TypeDesc) (k:Value):List (Value × AV)→Nat→Option (Option (Nat × AV))
 |[],_=>some none
 |e::es,i=>match Instr.sameNow kd k e.1 with
  |some true=>some (some (i,e.2))
  |some false=>findA kd k es (i+1)
  |none=>none

theorem findA_ok {S:Nat→Prop}{w:World}{φ:List Phy}{kd:TypeDesc}{k:Value}:∀ {es:List (Value × AV)} {ents:List MapEntry} {i:Nat} {r:Option (Nat × AV)},EntsOk S w φ es ents→findA kd k es i=some r →
  match r with
  |none=>Instr.findNow kd k ents i=some none
  |some (j,x)=>∃v,Instr.findNow kd k ents i=some (some (j,v))∧RV S w φ x v∧i≤j∧j<i+es.length∧(∃e,ents[j - i]? = some e∧Instr.sameNow kd k e.key=some true)
 |[],ents,i,r,h,hf=>by
  simp only[findA,Option.some.injEq]at hf;subst hf
  cases ents with
  |nil=>rfl
  |cons _ _=>have:=h.1;simp at this
 |(k',x)::es,ents,i,r,h,hf=>by
  cases ents with
  |nil=>have:=h.1;simp at this
  |cons e ents =>
   obtain⟨h1,h2⟩:=h
   simp only[List.map_cons,List.cons.injEq]at h1
   obtain⟨rfl,h1⟩:=h1
   simp only[List.map_cons,RVs]at h2
   simp only[findA]at hf
   split at hf
   ·rename_i hs
    simp only[Option.some.injEq]at hf;subst hf
    exact⟨e.val,by simp only[Instr.findNow,hs],h2.1,Nat.le_refl _,by simp,e,by simp,hs⟩
   ·rename_i hs
    have:=findA_ok (i:=i+1) ⟨h1,h2.2⟩ hf
    cases r with
    |none=>simp only[Instr.findNow,hs];exact this
    |some p =>
     obtain⟨j,y⟩:=p
     obtain⟨v,g1,g2,g3,g4,e',g5,g6⟩:=this
     refine⟨v,by simp only[Instr.findNow,hs];exact g1,g2,by omega,by simp;omega,e',?_,g6⟩
     rw[show j - i=(j - (i+1))+1 by omega,List.getElem?_cons_succ];exact g5
   ·cases hf
section
variable {g:G} {pf:Nat→Cls} {ops:Array Oper} {Fin:Exit→Act→World→Prop}

theorem R_makeMap (hg:GOk g){dst:Option Nat}{T:Nat}{ty:Nat}{pos:String}{after:Array Edge}{gd:Option (Nat × Bool)}{rest:List Oper}{k:List It}{E:Env}{objs:List Ob}
  (hgd:guardA ops.toList E gd=some true) (hd:dstOk ⟨g.ty,g.N⟩ dst=true)
  (hr:R g pf Fin (.dr ops rest::k) (putO E dst (.mp (len objs))) (objs++[.map []])):R g pf Fin (.dr ops (⟨dst,.makeMap T none,ty,pos,after,gd⟩::rest)::k) E objs:=by
 refine R_op (LocOp.turning hg (.add _ _) hgd hd (by simp) fun φ a w hρ hs=>?_) hr
 refine⟨.value (.map (some w.heap.size)),.map (some w.heap.size),w.alloc (.map #[] 0),φ++[.blk w.heap.size],?_,.inl rfl,?_,?_⟩
 ·simp[execOp,Instr.makeMap,run_newObj]
 ·simp only[RV];exact⟨w.heap.size,by rw[len_eq,← hs.len];simp,rfl⟩
 ·refine Stp.new hs (fun b hb=>by simp only [Phy.bl] at hb; exact hb.symm) ?_
  simp only[ObOk]
  exact⟨#[],0,heap_alloc_new _ _,by simp[EntsOk],by simp[RVs]⟩

def lookA (ok:Bool) (z:AV):Option (Nat × AV)→AV
 |some (_,v)=>if ok then .tup [v,bV true] else v
 |none=>if ok then .tup [z,bV false] else z

theorem R_lookup (hg:GOk g){dst:Option Nat}{T:Nat}{x y:Operand}{ok:Bool}{ty:Nat}{pos:String}{after:Array Edge}{gd:Option (Nat × Bool)}{rest:List Oper}{k:List It}{E:Env}{objs:List Ob}
  {i q by_ kt et:Nat} {z:List Value} {es:List (Value × AV)} {kv zv:Value} {kd:TypeDesc} {r:Option (Nat × AV)}
  (hgd:guardA ops.toList E gd=some true) (hd:dstOk ⟨g.ty,g.N⟩ dst=true) (hx:ev E x=.mp i) (ho:nth objs i=some (.map es)) (hy:ev E y=.d (.v kv)) (hT:g.ty T=some ⟨q,by_,z,.map kt et⟩)
  (hkt:g.P.underlying kt=some kd) (hkey:IsKey kd kv) (hf:findA kd kv es 0=some r) (hz:(g.P.info? et).bind (·.zero)=some zv)
  (hr:R g pf Fin (.dr ops rest::k) (putO E dst (lookA ok (cstV zv) r)) objs):R g pf Fin (.dr ops (⟨dst,.lookup T x y ok,ty,pos,after,gd⟩::rest)::k) E objs:=by
 refine R_op (LocOp.lookingM hg 1 hgd hd (by simp) fun φ a w objs₁ hgr hρ hs=>?_) hr
 simp only[Op.operands]at hρ
 have hxv:=hρ x (by simp)
 rw[hx]at hxv
 have hyv:=hρ y (by simp)
 rw[hy]at hyv
 simp only[RV]at hxv hyv
 obtain⟨b,hb,hxv⟩:=hxv
 generalize hvy:a.eval y=vy at hyv
 cases hyv
 have ho:nth objs₁ i=some (.map es):=by
  rw[nth_eq]at ho ⊢
  exact Gr.same hgr ho (by rw[← hs.len];exact(List.getElem?_eq_some_iff.1 hb).1) (by simp[Ob.lvl])
 have hk:=obj_at hs hb ho
 simp only[ObOk]at hk
 obtain⟨ents,clk,hheap,hents⟩:=hk
 have hT':g.P.underlying T=some (.map kt et):=by have:=(hg.ty _ _ hT).sh;simpa only[ShFact]using this
 have hzero:(zeroValue et).run g.P w=.ok zv w:=by
  obtain⟨inf,h1,h2⟩:=Option.bind_eq_some_iff.1 hz
  simp[zeroValue,typeInfo,h1,h2]
 have hzR:RV (SS g.S0 φ) w φ (cstV zv) zv:=rv_restr (l:=[]) (E:=[]) (E₁:=[]) (a:={ tmps:=#[],defers:=[] }) (by simp) (fun t=>by simp[lk,RV]) (.const zv)
 have hfind:=findA_ok hents hf
 cases r with
 |none =>
  simp only at hfind
  refine out_val hs (vv:=if ok then .tuple #[zv,.bool false] else zv) ?_ ?_
  ·simp[execOp,Instr.lookup,run_underlying hT',hxv,run_getObj_map hheap,hvy,run_checkKey hkt hkey,run_findKey hkt hfind,hzero]
  ·simp only [lookA]
   cases ok
   ·simpa using hzR
   ·simp only [if_true,RV]
    exact⟨[zv,.bool false],rfl,by simp only[RVs,RV,bV,and_true];exact⟨hzR,.v _⟩⟩
 |some p =>
  obtain⟨j,v⟩:=p
  obtain⟨vv,h1,h2,_⟩:=hfind
  refine out_val hs (vv:=if ok then .tuple #[vv,.bool true] else vv) ?_ ?_
  ·simp[execOp,Instr.lookup,run_underlying hT',hxv,run_getObj_map hheap,hvy,run_checkKey hkt hkey,run_findKey hkt h1]
  ·simp only [lookA]
   cases ok
   ·simpa using h2
   ·simp only [if_true,RV]
    exact⟨[vv,.bool true],rfl,by simp only[RVs,RV,bV,and_true];exact⟨h2,.v _⟩⟩

theorem grow_map {n0:Nat}{objs:List Ob}{i:Nat}{es es':List (Value × AV)}(ho:nth objs i=some (.map es)):Gr n0 2 objs (setN objs i (.map es')):=fun j x hj=>by
 rw[nth_eq]at ho
 rw[setN_eq]
 by_cases e:j=i
 ·subst e
  rw[ho]at hj;cases hj
  exact⟨_,List.getElem?_set_self (List.getElem?_eq_some_iff.1 ho).1,.inr ⟨.inl ⟨by omega,Nat.le_refl _⟩,.inl ⟨by omega,Nat.le_refl _⟩⟩⟩
 ·exact⟨x,by rw[List.getElem?_set_ne (fun h=>e h.symm)];exact hj,.inl rfl⟩

theorem R_mapAdd (hg:GOk g){dst:Option Nat}{T:Nat}{x y v:Operand}{ty:Nat}{pos:String}{after:Array Edge}{gd:Option (Nat × Bool)}{rest:List Oper}{k:List It}{E:Env}{objs:List Ob}
  {i q by_ kt et:Nat} {z:List Value} {es:List (Value × AV)} {kv:Value} {kd:TypeDesc}
  (hgd:guardA ops.toList E gd=some true) (hd:dstOk ⟨g.ty,g.N⟩ dst=true) (hx:ev E x=.mp i) (ho:nth objs i=some (.map es)) (hy:ev E y=.d (.v kv)) (hT:g.ty T=some ⟨q,by_,z,.map kt et⟩)
  (hkt:g.P.underlying kt=some kd) (hkey:IsKey kd kv) (hf:findA kd kv es 0=some none)
  (hr:R g pf Fin (.dr ops rest::k) (putO E dst .any) (setN objs i (.map (es++[(kv,ev E v)])))):R g pf Fin (.dr ops (⟨dst,.mapUpdate T x y v,ty,pos,after,gd⟩::rest)::k) E objs:=by
 refine R_op (LocOp.turning hg (grow_map ho) hgd hd (by simp) fun φ a w hρ hs=>?_) hr
 simp only[Op.operands]at hρ
 have hxv:=hρ x (by simp)
 rw[hx]at hxv
 have hyv:=hρ y (by simp)
 rw[hy]at hyv
 have hvv:=hρ v (by simp)
 simp only[RV]at hxv hyv
 obtain⟨b,hb,hxv⟩:=hxv
 generalize hvy:a.eval y=vy at hyv
 cases hyv
 have hk:=obj_at hs hb ho
 simp only[ObOk]at hk
 obtain⟨ents,clk,hheap,hents⟩:=hk
 have hT':g.P.underlying T=some (.map kt et):=by have:=(hg.ty _ _ hT).sh;simpa only[ShFact]using this
 have hfind:=findA_ok hents hf
 simp only at hfind
 have hset:=heap_set (o':=.map (ents.push { key:=kv,val:=a.eval v,born:=clk }) (clk+1)) hheap
 rw[setN_eq]
 refine⟨.skip,undef,{ w with heap:=w.heap.setIfInBounds b (.map (ents.push { key:=kv,val:=a.eval v,born:=clk }) (clk+1)) },φ.set i (.blk b),?_,.inr ⟨rfl,rfl⟩,by simp[RV],?_⟩
 ·simp[execOp,Instr.mapUpdate,run_underlying hT',hxv,run_getObj_map hheap,hvy,run_checkKey hkt hkey,run_findKey hkt hfind,run_setObj_map _ hheap]
 ·refine Stp.swap hs hb (.inl rfl) (by simp) (fun c _ hc=>hset.2 c fun e=>hc (by rw [e]; rfl)) (fun b' hb=>.inl hb) rfl rfl rfl fun hkeep hle=>?_
  simp only[ObOk]
  refine⟨_,_,hset.1,?_,?_⟩
  ·simp[hents.1]
  ·have:=(hents.2.mono hkeep hle).append (l':=[ev E v]) (vs':=[a.eval v]) (by simp only [RVs,and_true]; exact hvv.mono hkeep hle)
   simpa using this
end
def imap (l:List (Int × AV)):List (Value × AV):=l.map fun p=>(.int .i64 p.1,p.2)
end PSL
namespace PSL
open Go Go.RowKit Go.MapKept

def getI:List (Int × AV)→Int→Option AV
 |[],_=>none
 |p::r,n=>if p.1=n then some p.2 else getI r n

theorem findA_getI {k':IntKind}{n:Int}:∀ {l:List (Int × AV)} {i:Nat},∃r,findA (.int k') (.int .i64 n) (imap l) i=some r∧r.map (·.2)=getI l n
 |[],i=>⟨none,rfl,rfl⟩
 |p::l,i=>by
  simp only[getI]
  by_cases h:p.1=n
  ·have h1:(n==p.1)=true:=by simp [h]
   refine⟨some (i,p.2),?_,by simp[h]⟩
   simp only[imap,List.map_cons,findA,Instr.sameNow,if_true,h1]
  ·have h1:(n==p.1)=false:=by simp; exact fun e=>h e.symm
   obtain⟨r,h2,h3⟩:=findA_getI (k':=k') (n:=n) (l:=l) (i:=i+1)
   refine⟨r,?_,by rw[if_neg h];exact h3⟩
   simp only[imap,List.map_cons,findA,Instr.sameNow,if_true,h1]
   exact h2

def lookI (ok:Bool) (z:AV):Option AV→AV
 |some v=>if ok then .tup [v,.tt] else v
 |none=>if ok then .tup [z,.ff] else z

def lookI' (ok:Bool) (z:AV):Option AV→AV
 |some v=>if ok then .tup [v,bV true] else v
 |none=>if ok then .tup [z,bV false] else z
section
variable {g:G} {pf:Nat→Cls} {ops:Array Oper} {Fin:Exit→Act→World→Prop}

theorem R_lookupI (hg:GOk g){dst:Option Nat}{T:Nat}{x y:Operand}{ok:Bool}{ty:Nat}{pos:String}{after:Array Edge}{gd:Option (Nat × Bool)}{rest:List Oper}{k:List It}{E:Env}{objs:List Ob}
  {i q by_ q' by' kt et:Nat} {z z':List Value} {n:Int} {zv:Value} (l:List (Int × AV))
  (hgd:guardA ops.toList E gd=some true) (hd:dstOk ⟨g.ty,g.N⟩ dst=true) (hx:ev E x=.mp i) (ho:nth objs i=some (.map (imap l))) (hy:ev E y=.d (.v (.int .i64 n))) (hT:g.ty T=some ⟨q,by_,z,.map kt et⟩)
  (hkt:g.ty kt=some ⟨q',by',z',.int .i64⟩) (hz:(g.P.info? et).bind (·.zero)=some zv) {v:AV} (hv:lookI' ok (cstV zv) (getI l n)=v)
  (hr:R g pf Fin (.dr ops rest::k) (putO E dst v) objs):R g pf Fin (.dr ops (⟨dst,.lookup T x y ok,ty,pos,after,gd⟩::rest)::k) E objs:=by
 subst hv
 have hu:=(hg.ty _ _ hkt).sh
 simp only[ShFact]at hu
 obtain⟨r,h1,h2⟩:=findA_getI (k':=.i64) (n:=n) (l:=l) (i:=0)
 refine R_lookup hg hgd hd hx ho hy hT hu (by simp[IsKey]) h1 hz ?_
 have:lookA ok (cstV zv) r=lookI' ok (cstV zv) (getI l n):=by rw[← h2];cases r<;>rfl
 rw[this];exact hr

theorem R_mapAddI (hg:GOk g){dst:Option Nat}{T:Nat}{x y v:Operand}{ty:Nat}{pos:String}{after:Array Edge}{gd:Option (Nat × Bool)}{rest:List Oper}{k:List It}{E:Env}{objs:List Ob}
  {i q by_ q' by' kt et:Nat} {z z':List Value} {n:Int} (l:List (Int × AV))
  (hgd:guardA ops.toList E gd=some true) (hd:dstOk ⟨g.ty,g.N⟩ dst=true) (hx:ev E x=.mp i) (ho:nth objs i=some (.map (imap l))) (hy:ev E y=.d (.v (.int .i64 n))) (hT:g.ty T=some ⟨q,by_,z,.map kt et⟩)
  (hkt:g.ty kt=some ⟨q',by',z',.int .i64⟩) (hf:getI l n=none)
  (hr:R g pf Fin (.dr ops rest::k) (putO E dst .any) (setN objs i (.map (imap (l++[(n,ev E v)]))))):R g pf Fin (.dr ops (⟨dst,.mapUpdate T x y v,ty,pos,after,gd⟩::rest)::k) E objs:=by
 have hu:=(hg.ty _ _ hkt).sh
 simp only[ShFact]at hu
 obtain⟨r,h1,h2⟩:=findA_getI (k':=.i64) (n:=n) (l:=l) (i:=0)
 have:r=none:=by rw[hf]at h2;cases r with
  |none=>rfl
  |some _=>simp at h2
 subst this
 refine R_mapAdd hg hgd hd hx ho hy hT hu (by simp[IsKey]) h1 ?_
 have e:imap l++[(Value.int .i64 n,ev E v)]=imap (l++[(n,ev E v)]):=by simp[imap]
 rw[e];exact hr
end

theorem R_dropO {g:G}{pf:Nat→Cls}{Fin:Exit→Act→World→Prop}{k:List It}{E:Env}{objs:List Ob}(n:Nat)(objs':List Ob)(hn:g.φ0.length≤n)(ht:topCode k=true)(ho:(objs.take n).map (mapOb (trimA n))=objs')
  (hr:R g pf Fin k (mapE (trimA n) E) objs') (hdf:g.dfs=[]:=by rfl):R g pf Fin k E objs:=by
 subst ho;exact R_drop n hn ht hr hdf
theorem sealA_ow {objs:List Ob}{n i s sz:Nat}{rows:List (List D)}(h:nth objs i=some (.arr sz s rows)):sealA objs (n+1) (.ow i s)=some (.d (.sl rows)):=by simp[sealA,h]

theorem sealA_term {objs:List Ob}{n i s sz:Nat}{rows:List (List D)}{a b c:D}{a' b' c':AV}(h1:sealA objs (n+1) (.d a)=some a')(h2:sealA objs (n+1) (.d b)=some b')(h3:sealA objs (n+1) (.d c)=some c')(h:nth objs i=some (.arr sz s rows)) :
  sealA objs (n+2) (.agg [.d a,.d b,.d c,.ow i s])=some (.agg [a',b',c',.d (.sl rows)]):=by
 have h4:=sealA_ow (n:=n) h
 simp only[sealA,mapO]at *
 simp[h1,h2,h3,h]

def setI (l:List Int):List (Int × AV):=l.map fun n=>(n,AV.tt)

theorem mapOb_set {f:AV→AV}(h:f .tt=.tt)(l:List Int):mapOb f (.map (imap (setI l)))=.map (imap (setI l)):=by
 simp[mapOb,imap,setI,Function.comp_def,h]

theorem getI_set {n:Int}:∀ {l:List Int},getI (setI l) n=if l.contains n then some .tt else none
 |[]=>rfl
 |x::l=>by
  have:=getI_set (n:=n) (l:=l)
  simp only[setI,List.map_cons,getI]at this ⊢
  by_cases h:x=n
  ·simp[h]
  ·rw [if_neg h,this]
   have:¬ n=x:=fun e=>h e.symm
   simp[this]

def numM:List Int→Int→List (Int × AV)
 |[],_=>[]
 |x::r,i=>(x,iV i)::numM r (i+1)

theorem numM_snoc:∀ (l:List Int) (i x:Int),numM l i++[(x,iV (i+l.length))]=numM (l++[x]) i
 |[],i,x=>by simp[numM]
 |y::l,i,x=>by
  have:=numM_snoc l (i+1) x
  simp only[numM,List.cons_append,List.length_cons]at this ⊢
  rw[← this,show i+1+(l.length:Int)=i+((l.length+1:Nat):Int) by omega]

theorem numM_len:∀ (l:List Int) (i:Int),(numM l i).length=l.length
 |[],_=>rfl
 |x::l,i=>by simp[numM,numM_len l]

theorem mapOb_num {f:AV→AV}(h:∀n,f (iV n)=iV n)(l:List Int)(i:Int):mapOb f (.map (imap (numM l i)))=.map (imap (numM l i)):=by
 have key:∀ (l:List Int) (i:Int),(imap (numM l i)).map (fun x=>(x.1,f x.2))=imap (numM l i):=by
  intro l
  induction l with
  |nil=>intro i;rfl
  |cons x l ih =>
   intro i
   have:=ih (i+1)
   simp only[imap,numM,List.map_cons,h]at this ⊢
   rw[this]
 simp only[mapOb,key]

theorem renOb_num {f:Nat→Nat}(l:List Int)(i:Int):renOb f (.map (imap (numM l i)))=.map (imap (numM l i)):=by
 have h:=mapOb_num (f:=renA f) (fun n=>rfl) l i
 simpa only[mapOb,renOb]using h

theorem R_callSO {g:G}{pf:Nat→Cls}{ops:Array Oper}{Fin:Exit→Act→World→Prop}(hg:GOk g)(hu:GUp g)(hF:g.F=Fence.wide∧g.dep=0)(hY:∀ (i l:Nat) (I:Nat→(Nat→Prop)→(Nat→Prop)→World→Prop) (B:Nat→Prop),g.φ0[i]? = some (Phy.ext l I B)→YStep g.P Fence.wide 0 g.Y l I g.S0)(is:List Nat)(objs':List Ob){Y:YP}{f:Nat}{axs:List AV}{objs0 objs1:List Ob}{r:AV}(hc:SCtr g.P Y f axs objs0 r objs1)(hcc:(∃ (i l:Nat) (I:Nat→(Nat→Prop)→(Nat→Prop)→World→Prop) (B:Nat→Prop),g.φ0[i]? = some (Phy.ext l I B))→Y=g.Y){dst:Option Nat}{x:Operand}{args:Array Operand}{ts:Array Nat}{ty:Nat}{pos:String}{after:Array Edge}{gd:Option (Nat × Bool)}
  {rest:List Oper} {k:List It} {E:Env} {objs:List Ob} {fs cs:List AV}
  (hgd:guardA ops.toList E gd=some true) (hd:dstOk ⟨g.ty,g.N⟩ dst=true) (hcl:clsOf pf (.call { callee:=.value x,args:=args,argTypes:=ts })=.eff) (hx:ev E x=.clo f fs cs) (hok:isOk (len objs) is=true) (hpick:pickN objs is=some (objs0.map (renOb (rn is (len objs)))))
  (has:(fs++args.toList.map (ev E)++cs).map nrm=renL (rn is (len objs)) axs) (ho:putAll is (objs1.map (renOb (rn is (len objs)))) objs=objs')
  (hr:R g pf Fin (.dr ops rest::k) (putO E dst (renA (rn is (len objs)) r)) objs') :
  R g pf Fin (.dr ops (⟨dst,.call { callee:=.value x,args:=args,argTypes:=ts },ty,pos,after,gd⟩::rest)::k) E objs:=by
 subst ho
 exact R_callS hg hu hF hY is hc hcc hgd hd hcl hx hok hpick has hr
theorem sealT_ow {nz:Bool}{n0:Nat}{objs:List Ob}{n i s sz:Nat}{rows:List (List D)}(hn:Nat.ble (Nat.succ i) n0=false)(h:nth objs i=some (.arr sz s rows)):sealT nz n0 objs (n+1) (.ow i s)=.d (.sl rows):=by simp[sealT,h,hn]

theorem sealT_term {nz:Bool}{n0:Nat}{objs:List Ob}{n i s sz:Nat}{rows:List (List D)}{a b c:D}{a' b' c':AV}(hn:Nat.ble (Nat.succ i) n0=false)(h1:sealT nz n0 objs (n+1) (.d a)=a')(h2:sealT nz n0 objs (n+1) (.d b)=b')(h3:sealT nz n0 objs (n+1) (.d c)=c')(h:nth objs i=some (.arr sz s rows)) :
  sealT nz n0 objs (n+2) (.agg [.d a,.d b,.d c,.ow i s])=.agg [a',b',c',.d (.sl rows)]:=by
 have h4:=sealT_ow (nz:=nz) (n:=n) hn h
 rw[sealT]
 simp only[List.map_cons,List.map_nil,h1,h2,h3,h4]
end PSL

namespace PSL
open Go

inductive Tm where
 |mk (k:Int) (s:ByteArray) (n:Int) (l:List Tm)
namespace Tm
def k:Tm→Int |mk k _ _ _=>k
def s:Tm→ByteArray |mk _ s _ _=>s
def n:Tm→Int |mk _ _ n _=>n
def l:Tm→List Tm |mk _ _ _ l=>l

theorem ind {p:Tm→Prop}(h:∀t:Tm,(∀x∈t.l,p x)→p t)(t:Tm):p t :=
 Tm.rec (motive_1:=p) (motive_2:=fun l=>∀x∈l,p x) (fun k s n l ih=>h (.mk k s n l) ih) (by simp) (fun x r h1 h2=>by
  intro y hy
  rcases List.mem_cons.1 hy with rfl |hy
  ·exact h1
  ·exact h2 y hy) t

mutual
def rowM:Tm→List D
 |mk k s n l=>[.v (.int .i64 k),.v (.string s),.v (.int .i64 n),.sl (rows l)]
def rows:List Tm→List (List D)
 |[]=>[]
 |t::r=>rowM t::rows r
end
def row (t:Tm):List D:=[.v (.int .i64 t.k),.v (.string t.s),.v (.int .i64 t.n),.sl (rows t.l)]
theorem rowM_eq (t:Tm):rowM t=row t:=by cases t;simp only[rowM,row,k,s,n,l]

theorem rows_eq (l:List Tm):rows l=l.map row:=by
 induction l with
 |nil=>rfl
 |cons x r ih=>simp only[rows,rowM_eq,List.map_cons,ih]
theorem rows_length (l:List Tm):(rows l).length=l.length:=by rw[rows_eq];simp
theorem rows_get {l:List Tm}{i:Nat}{x:Tm}(h:l[i]? = some x):(rows l)[i]? = some (row x):=by rw[rows_eq,List.getElem?_map,h];rfl
def av (t:Tm):AV:=.agg [.d (.v (.int .i64 t.k)),.d (.v (.string t.s)),.d (.v (.int .i64 t.n)),.d (.sl (rows t.l))]

mutual
def same:Tm→Tm→Bool
 |mk k s n l,mk k' s' n' l'=>k==k'&&n==n'&&strEq s s'&&sameL l l'
def sameL:List Tm→List Tm→Bool
 |[],[]=>true
 |x::r,y::r'=>same x y&&sameL r r'
 |_,_=>false
end

theorem same_eq (a b:Tm):same a b=(a.k==b.k&&a.n==b.n&&strEq a.s b.s&&sameL a.l b.l):=by
 cases a;cases b;simp only[same,k,s,n,l]

theorem sameL_iff:∀ (a b:List Tm),sameL a b=true↔a.length=b.length∧∀ (i:Nat) (x y:Tm),a[i]? = some x→b[i]? = some y→same x y=true
 |[],[]=>by simp[sameL]
 |[],_::_=>by simp[sameL]
 |_::_,[]=>by simp[sameL]
 |x::a,y::b=>by
  simp only[sameL,Bool.and_eq_true,sameL_iff a b,List.length_cons,Nat.add_right_cancel_iff]
  constructor
  ·rintro ⟨h1,h2,h3⟩
   refine⟨h2,fun i u v hu hv=>?_⟩
   cases i with
   |zero=>simp at hu hv;subst hu;subst hv;exact h1
   |succ i=>simp at hu hv;exact h3 i u v hu hv
  ·rintro ⟨h2,h3⟩
   exact⟨h3 0 x y rfl rfl,h2,fun i u v hu hv=>h3 (i+1) u v (by simpa using hu) (by simpa using hv)⟩
end Tm
end PSL
namespace PSL
open Go
namespace Tm

mutual
def els:Tm→Int→List (Int × Tm)
 |mk k s n l,d=>(d,mk k s n l)::elsL l (d+1)
def elsL:List Tm→Int→List (Int × Tm)
 |[],_=>[]
 |t::r,d=>els t d++elsL r d
end
theorem els_eq (t:Tm)(d:Int):els t d=(d,t)::elsL t.l (d+1):=by cases t;rfl

mutual
def size:Tm→Nat
 |mk _ _ _ l=>1+sizeL l
def sizeL:List Tm→Nat
 |[]=>0
 |t::r=>size t+sizeL r
end
theorem size_eq (t:Tm):size t=1+sizeL t.l:=by cases t;simp only[size,l]

mutual
theorem els_len:∀ (t:Tm) (d:Int),(els t d).length=size t
 |mk k s n l,d=>by simp only[els,size,List.length_cons,elsL_len l];omega
theorem elsL_len:∀ (l:List Tm) (d:Int),(elsL l d).length=sizeL l
 |[],_=>rfl
 |t::r,d=>by simp only[elsL,sizeL,List.length_append,els_len t,elsL_len r]
end

theorem elsL_append:∀ (a b:List Tm) (d:Int),elsL (a++b) d=elsL a d++elsL b d
 |[],b,d=>by simp[elsL]
 |x::a,b,d=>by simp only[List.cons_append,elsL,elsL_append a b d,List.append_assoc]

theorem sizeL_append:∀ (a b:List Tm),sizeL (a++b)=sizeL a+sizeL b
 |[],b=>by simp[sizeL]
 |x::a,b=>by simp only[List.cons_append,sizeL,sizeL_append a b,Nat.add_assoc]

theorem sizeL_take_succ {l:List Tm}{k:Nat}{x:Tm}(h:l[k]? = some x):sizeL (l.take (k+1))=sizeL (l.take k)+size x:=by
 rw[List.take_add_one,h,sizeL_append];simp[sizeL]

theorem size_mem {l:List Tm}{x:Tm}(h:x∈l):size x≤sizeL l:=by
 induction l with
 |nil=>simp at h
 |cons y l ih =>
  simp only[sizeL]
  rcases List.mem_cons.1 h with rfl |h
  ·omega
  ·have:=ih h;omega

theorem len_le_sizeL:∀ (l:List Tm),l.length≤sizeL l
 |[]=>Nat.le_refl _
 |x::l=>by have:=len_le_sizeL l;have:=size_eq x;simp only[sizeL,List.length_cons];omega
def enc (e:Int × Tm):List AV:=[iV e.1,e.2.av]
end Tm

def adv (Y:YP):Nat→Nat→Nat × Bool
 |0,n=>(n,true)
 |k+1,n=>if Y.go (n+1)=true then adv Y k (n+1) else (n+1,false)

theorem adv_true {Y:YP}:∀ {k n:Nat},(adv Y k n).2=true→(adv Y k n).1=n+k∧(0<k→Y.go (n+k)=true)
 |0,n,_=>by simp[adv]
 |k+1,n,h=>by
  simp only[adv]at h ⊢
  split at h
  ·rename_i hg
   rw[if_pos hg]
   obtain⟨h1,h2⟩:=adv_true h
   refine⟨by rw[h1];omega,fun _=>?_⟩
   rcases Nat.eq_zero_or_pos k with h0 |h0
   ·subst h0;exact hg
   ·have:=h2 h0;rw[show n+(k+1)=n+1+k by omega];exact this
  ·cases h

theorem adv_false {Y:YP}:∀ {k n:Nat},(adv Y k n).2=false→Y.go (adv Y k n).1=false∧(adv Y k n).1≠0
 |0,n,h=>by simp[adv]at h
 |k+1,n,h=>by
  simp only[adv]at h ⊢
  split at h
  ·rename_i hg;rw[if_pos hg];exact adv_false h
  ·rename_i hg;rw[if_neg hg];exact⟨by simpa using hg,by simp⟩

theorem adv_add {Y:YP}:∀ {a b n:Nat},adv Y (a+b) n=if (adv Y a n).2=true then adv Y b (adv Y a n).1 else adv Y a n
 |0,b,n=>by simp[adv]
 |a+1,b,n=>by
  rw[show a+1+b=(a+b)+1 by omega]
  simp only[adv]
  split
  ·exact adv_add
  ·simp
theorem adv_add_true {Y:YP}{a b n:Nat}(h:adv Y a n=(n+a,true)):adv Y (a+b) n=adv Y b (n+a):=by rw[adv_add,h];simp
theorem adv_eq {Y:YP}{k n:Nat}(h:(adv Y k n).2=true):adv Y k n=(n+k,true):=Prod.ext (adv_true h).1 h
end PSL
namespace PSL
open Go
def byteOk (b:UInt8):Bool:=!(decide ((b.toNat:Int)<32) || decide ((b.toNat:Int) > 126))
def namedB (s:ByteArray):Bool:=s.data.toList.all byteOk&&(decide ((s.size:Int) ≥ 1)&&decide ((s.size:Int)≤20))
theorem byte_atK {s:ByteArray}{k:Nat}(h:k<s.size):s[k]? = some s[k]:=getElem?_pos s k h

theorem all_bytes {s:ByteArray}{p:UInt8→Bool}(h:∀k (hk:k<s.size),p s[k]=true):s.data.toList.all p=true:=by
 rw[List.all_eq_true]
 intro b hb
 obtain⟨i,hi,rfl⟩:=List.mem_iff_getElem.1 hb
 have:i<s.size:=by simpa using hi
 exact h i this

theorem not_all_bytes {s:ByteArray}{p:UInt8→Bool}{k:Nat}(hk:k<s.size)(h:p s[k]=false):s.data.toList.all p=false:=by
 rw[List.all_eq_false]
 refine⟨s[k],?_,by simp[h]⟩
 have:s[k]=s.data.toList[k]'(by simpa using hk):=rfl
 rw[this];exact List.getElem_mem _
namespace Tm

def ownT (t:Tm):Bool :=
 if t.k=1 then decide (t.n ≥ 0)&&decide (t.n<1000000)&&strEq t.s ⟨#[]⟩&&((t.l.length:Int)==0)
 else if t.k=2 then strEq t.s ⟨#[]⟩&&((t.l.length:Int)==0)
 else if t.k=3 then (t.n==0)&&namedB t.s&&decide ((t.l.length:Int)≤8)
 else false
end Tm
end PSL
namespace PSL
open Go

theorem adv_all {Y:YP}:∀ {k n:Nat},(adv Y k n).2=true↔∀i,i<k→Y.go (n+i+1)=true
 |0,n=>by simp[adv]
 |k+1,n=>by
  simp only[adv]
  split
  ·rename_i h
   rw[adv_all]
   constructor
   ·intro h1 i hi
    cases i with
    |zero=>exact h
    |succ i=>have:=h1 i (by omega);rw[show n+(i+1)+1=n+1+i+1 by omega];exact this
   ·intro h1 i hi
    have:=h1 (i+1) (by omega);rw[show n+1+i+1=n+(i+1)+1 by omega];exact this
  ·rename_i h
   constructor
   ·intro h1;cases h1
   ·intro h1;exact absurd (h1 0 (by omega)) h
theorem lt_dec {k n:Nat}{m:Int}(h:decide ((k:Int)<m)=true)(e:m=n):k<n:=by have:=of_decide_eq_true h;omega
theorem ge_dec {k n:Nat}{m:Int}(h:decide ((k:Int)<m)=false)(e:m=n):n≤k:=by have:=of_decide_eq_false h;omega
theorem w64 {n:Int}(h1:-9223372036854775808≤n)(h2:n<9223372036854775808):IntKind.i64.wrap n=n:=wrap_id h1 h2

def I64 (n:Int):Prop:=-9223372036854775808≤n∧n≤9223372036854775807

def irow (n:Int):List D:=[.v (.int .i64 n)]
def irows (l:List Int):List (List D):=l.map irow
theorem irows_length (l:List Int):(irows l).length=l.length:=by simp[irows]
theorem irows_get {l:List Int}{i:Nat}{x:Int}(h:l[i]? = some x):(irows l)[i]? = some (irow x):=by simp[irows,h]
namespace Tm

mutual
def depth:Tm→Nat
 |mk _ _ _ l=>depthL l+1
def depthL:List Tm→Nat
 |[]=>0
 |t::r=>max (depth t) (depthL r)
end
theorem depth_eq (t:Tm):depth t=depthL t.l+1:=by cases t;simp only[depth,l]

mutual
theorem depth_le_size:∀ (t:Tm),depth t≤size t
 |mk k s n l=>by have:=depthL_le_sizeL l;simp only[depth,size];omega
theorem depthL_le_sizeL:∀ (l:List Tm),depthL l≤sizeL l
 |[]=>Nat.le_refl _
 |t::r=>by have:=depth_le_size t;have:=depthL_le_sizeL r;simp only[depthL,sizeL];omega
end

def kindR (k:Int)(s:ByteArray)(n:Int)(m:Nat):Bool :=
 if k=1 then decide (n ≥ 0)&&decide (n<1000000)&&strEq s ⟨#[]⟩&&((m:Int)==0)
 else if k=2 then strEq s ⟨#[]⟩&&((m:Int)==0)
 else (k==3)&&(n==0)&&decide ((s.size:Int) ≥ 1)&&decide ((s.size:Int)≤20)&&decide ((m:Int)≤8)

mutual
def fairR:Tm→Bool
 |mk k s n l=>s.data.toList.all byteOk&&fairRL l&&kindR k s n l.length
def fairRL:List Tm→Bool
 |[]=>true
 |t::r=>fairR t&&fairRL r
end
theorem fairR_eq (t:Tm):fairR t=(t.s.data.toList.all byteOk&&fairRL t.l&&kindR t.k t.s t.n t.l.length):=by cases t;simp only[fairR,l,k,s,n]

theorem fairRL_iff:∀ {l:List Tm},fairRL l=true↔∀t∈l,fairR t=true
 |[]=>by simp[fairRL]
 |t::r=>by simp[fairRL,fairRL_iff (l:=r)]

theorem els_memL {l:List Tm}{x:Tm}{d:Int}{e:Int × Tm}(h:x∈l)(he:e∈els x d):e∈elsL l d:=by
 induction l with
 |nil=>simp at h
 |cons y l ih =>
  simp only[elsL,List.mem_append]
  rcases List.mem_cons.1 h with rfl |h
  ·exact .inl he
  ·exact .inr (ih h)

theorem elsL_mem {l:List Tm}{d:Int}{e:Int × Tm}(h:e∈elsL l d):∃x∈l,e∈els x d:=by
 induction l with
 |nil=>simp[elsL]at h
 |cons y l ih =>
  simp only[elsL,List.mem_append]at h
  rcases h with h |h
  ·exact⟨y,by simp,h⟩
  ·obtain⟨x,hx,he⟩:=ih h;exact⟨x,by simp[hx],he⟩

def Ok (t:Tm):Prop:=∀d e,e∈els t d→e.2.l.length≤140737488355328∧e.2.s.size≤140737488355328
theorem Ok.len {t:Tm}(h:t.Ok):t.l.length≤140737488355328:=(h 0 (0,t) (by rw[els_eq];simp)).1
theorem Ok.sub {t x:Tm}(h:t.Ok)(hx:x∈t.l):x.Ok:=fun d e he=>h (d - 1) e (by rw[els_eq];exact List.mem_cons_of_mem _ (els_memL hx (by rw[Int.sub_add_cancel];exact he)))

def fewStep (s:ByteArray)(most deep:Int):Bool:=decide (IntKind.i64.wrap (most - 1)<0) || decide (deep<1) || decide ((s.size:Int) > 100)

mutual
def few:Tm→Int→Int→Int
 |mk _ s _ l,most,deep=>if fewStep s most deep then -1 else fewL l (IntKind.i64.wrap (most - 1)) (IntKind.i64.wrap (deep - 1))
def fewL:List Tm→Int→Int→Int
 |[],most,_=>most
 |t::r,most,deep=>if most ≥ 0 then fewL r (few t most deep) deep else most
end
theorem few_eq (t:Tm)(m d:Int):few t m d=if fewStep t.s m d then -1 else fewL t.l (IntKind.i64.wrap (m - 1)) (IntKind.i64.wrap (d - 1)):=by cases t;simp only[few];rfl

mutual
theorem few_le:∀ (t:Tm) (m d:Int),0≤m→m<9223372036854775808→d≤1000→few t m d=-1∨(few t m d+size t≤m∧depth t≤d∧t.s.size≤100∧0≤few t m d∧∀x e,e∈els t x→e.2.s.size≤100)
 |mk k s n l,m,d,h0,h1,h2=>by
  simp only[few]
  split
  ·exact .inl rfl
  ·rename_i hs
   simp only[fewStep,Bool.or_eq_true,decide_eq_true_eq,not_or]at hs
   have e1:IntKind.i64.wrap (m - 1)=m - 1:=w64 (by omega) (by omega)
   rw[e1]at hs ⊢
   have e2:IntKind.i64.wrap (d - 1)=d - 1:=w64 (by omega) (by omega)
   rw[e2]
   rcases fewL_le l (m - 1) (d - 1) (by omega) (by omega) (by omega) with h |⟨h3,h4,h5,h6⟩
   ·exact .inl h
   ·refine .inr ⟨by simp only [size]; omega,by simp only [depth]; omega,?_,h5,fun x e he=>?_⟩
    ·show s.size≤100;omega
    ·simp only [els,List.mem_cons] at he
     rcases he with rfl |he
     ·show s.size≤100;omega
     ·exact h6 _ _ he
theorem fewL_le:∀ (l:List Tm) (m d:Int),0≤m→m<9223372036854775808→0≤d∧d≤1000→fewL l m d=-1∨(fewL l m d+sizeL l≤m∧depthL l≤d∧0≤fewL l m d∧∀x e,e∈elsL l x→e.2.s.size≤100)
 |[],m,d,h0,h1,h2=>by simp only[fewL,sizeL,depthL,elsL];exact .inr ⟨by omega,by omega,h0,by simp⟩
 |t::r,m,d,h0,h1,h2=>by
  simp only[fewL]
  rw[if_pos h0]
  rcases few_le t m d h0 h1 h2.2 with h |⟨h3,h4,_,h5,h6⟩
  ·rw [h]
   cases r with
   |nil=>exact .inl rfl
   |cons u r=>simp only[fewL];exact .inl (by rw[if_neg (by omega)])
  ·rcases fewL_le r (few t m d) d h5 (by omega) h2 with h | ⟨h7,h8,h9,h10⟩
   ·exact .inl h
   ·refine .inr ⟨by simp only [sizeL]; omega,by simp only [depthL]; omega,h9,fun x e he=>?_⟩
    simp only[elsL,List.mem_append]at he
    rcases he with he |he
    ·exact h6 _ _ he
    ·exact h10 _ _ he
end
def rightB (t:Tm):Bool:=fairR t&&decide (t.size≤3000)&&decide (t.depth≤100)
theorem toList_data (s:ByteArray):s.toList=s.data.toList:=ByteArray.toList_eq s

theorem strEq_iff {a b:ByteArray}:strEq a b=true↔a=b:=by
 simp only[strEq,beq_iff_eq]
 constructor
 ·intro h
  rw[toList_data,toList_data]at h
  cases a;cases b
  simpa using h
 ·rintro rfl;rfl

theorem ownT_eq (t:Tm):t.ownT=(t.s.data.toList.all byteOk&&kindR t.k t.s t.n t.l.length):=by
 unfold ownT kindR
 split
 ·by_cases h:strEq t.s ⟨#[]⟩=true
  ·have:=strEq_iff.1 h
   rw[this];simp
  ·simp[h]
 ·split
  ·by_cases h:strEq t.s ⟨#[]⟩=true
   ·have:=strEq_iff.1 h
    rw[this];simp
   ·simp[h]
  ·split
   ·rename_i h; simp only [h,namedB]
    cases t.s.data.toList.all byteOk<;>simp[Bool.and_assoc]
   ·rename_i h;simp[h]

mutual
theorem fair_els:∀ (t:Tm) (d:Int),(∀e∈els t d,e.2.ownT=true)↔fairR t=true
 |mk k s n l,d=>by
  have h:=fairL_els l (d+1)
  have h2:(mk k s n l).ownT=(s.data.toList.all byteOk&&kindR k s n l.length):=ownT_eq _
  simp only[els,List.mem_cons,forall_eq_or_imp,h,h2,fairR,Bool.and_eq_true]
  constructor
  ·rintro⟨⟨h1,h2⟩,h3⟩;exact⟨⟨h1,h3⟩,h2⟩
  ·rintro⟨⟨h1,h2⟩,h3⟩;exact⟨⟨h1,h3⟩,h2⟩
theorem fairL_els:∀ (l:List Tm) (d:Int),(∀e∈elsL l d,e.2.ownT=true)↔fairRL l=true
 |[],d=>by simp[elsL,fairRL]
 |t::r,d=>by
  simp only[elsL,List.mem_append,fairRL,Bool.and_eq_true,← fair_els t d,← fairL_els r d]
  constructor
  ·intro h;exact⟨fun e he=>h e (.inl he),fun e he=>h e (.inr he)⟩
  ·rintro ⟨h1,h2⟩ e (he | he)
   ·exact h1 e he
   ·exact h2 e he
end

mutual
theorem deep_els:∀ (t:Tm) (d m:Int),(∀e∈els t d,e.1≤m)↔d+t.depth - 1≤m
 |mk k s n l,d,m=>by
  simp only[els,List.mem_cons,forall_eq_or_imp,deepL_els l (d+1) m,depth]
  cases hl:l with
  |nil=>simp[depthL]
  |cons x r =>
   have:0<depthL (x::r):=by simp only[depthL];have:=depth_eq x;omega
   simp only[List.cons_ne_nil,false_or]
   omega
theorem deepL_els:∀ (l:List Tm) (d m:Int),(∀e∈elsL l d,e.1≤m)↔l=[]∨d+depthL l - 1≤m
 |[],d,m=>by simp[elsL]
 |t::r,d,m=>by
  have h1:=deep_els t d m
  have h2:=deepL_els r d m
  simp only[elsL,List.mem_append,depthL,List.cons_ne_nil,false_or]
  have h3:=depth_eq t
  constructor
  ·intro h
   have h4:=h1.1 fun e he=>h e (.inl he)
   have h5:=h2.1 fun e he=>h e (.inr he)
   rcases h5 with rfl |h5
   ·simp only[depthL];omega
   ·omega
  ·intro h e he
   rcases he with he |he
   ·exact h1.2 (by omega) e he
   ·refine h2.2 ?_ e he
    right;omega
end

theorem sameL_len {a b:List Tm}(h:¬ a.length=b.length):sameL a b=false:=by
 cases hs:sameL a b
 ·rfl
 ·exact absurd ((sameL_iff _ _).1 hs).1 h
end Tm
def stepR (e:Int × Tm)(n:Nat):Bool:=!(decide (e.1 > 100) || decide ((n:Int) > 3000) || !e.2.ownT)

def goR (t:Tm)(n:Nat):Bool:=match n with
 |0=>true
 |m+1=>match (t.els 1)[m]? with
  |some e=>stepR e (m+1)
  |none=>true
def rightT (t:Tm):Bool:=(adv ⟨(t.els 1).map Tm.enc,goR t⟩ t.size 0).2

theorem adv_els {t:Tm}{g:Nat→Bool}:(adv ⟨(t.els 1).map Tm.enc,g⟩ t.size 0).2=true↔∀i,i<t.size→g (i+1)=true:=by
 rw[adv_all];simp

theorem rightT_eq (t:Tm):rightT t=t.rightB:=by
 rw[Bool.eq_iff_iff]
 unfold rightT
 rw[adv_els]
 unfold Tm.rightB
 simp only[Bool.and_eq_true,decide_eq_true_eq,← Tm.fair_els t 1]
 have hd:=Tm.deep_els t 1 100
 have hl:=Tm.els_len t 1
 have hs:=Tm.size_eq t
 constructor
 ·intro h
  have h1:∀e∈t.els 1,e.1≤100∧e.2.ownT=true:=fun e he=>by
   obtain⟨i,hi,rfl⟩:=List.mem_iff_getElem.1 he
   have:=h i (by omega)
   simp only[goR,List.getElem?_eq_getElem hi,stepR,Bool.not_eq_true',Bool.or_eq_false_iff,decide_eq_false_iff_not,Bool.not_eq_false']at this
   exact⟨by omega,this.2⟩
  refine⟨⟨fun e he=>(h1 e he).2,?_⟩,?_⟩
  ·have hi:t.size - 1<(t.els 1).length:=by omega
   have:=h (t.size - 1) (by omega)
   simp only[goR,List.getElem?_eq_getElem hi,stepR,Bool.not_eq_true',Bool.or_eq_false_iff,decide_eq_false_iff_not,Bool.not_eq_false']at this
   omega
  ·have:=hd.1 fun e he=>(h1 e he).1
   omega
 ·rintro ⟨⟨h1,h2⟩,h3⟩ i hi
  have hi':i<(t.els 1).length:=by omega
  have h4:=hd.2 (by omega) _ (List.getElem_mem hi')
  simp only[goR,List.getElem?_eq_getElem hi',stepR,Bool.not_eq_true',Bool.or_eq_false_iff,decide_eq_false_iff_not,Bool.not_eq_false']
  exact⟨⟨by omega,by omega⟩,h1 _ (List.getElem_mem hi')⟩
namespace Tm

mutual
def turnT (g:Int→Int):Tm→Tm
 |mk k s n l=>mk k s (if k=1 then g n else n) (turnTL g l)
def turnTL (g:Int→Int):List Tm→List Tm
 |[]=>[]
 |t::r=>turnT g t::turnTL g r
end
theorem turnT_eq (g:Int→Int)(t:Tm):turnT g t=mk t.k t.s (if t.k=1 then g t.n else t.n) (turnTL g t.l):=by cases t;simp only[turnT];rfl

theorem turnTL_map (g:Int→Int):∀l,turnTL g l=l.map (turnT g)
 |[]=>rfl
 |t::r=>by simp only[turnTL,List.map_cons,turnTL_map g r]
end Tm

def atI:List Int→Int→Int→Int
 |[],_,_=>-1
 |x::r,n,i=>if x=n then i else atI r n (i+1)
def addV (l:List Int)(x:Int):List Int:=if l.contains x then l else l++[x]
def stepV (l:List Int)(e:Int × Tm):List Int:=if e.2.k=1 then addV l e.2.n else l

def varsT (l:List Tm):List Int:=l.foldl (fun a t=>(t.els 1).foldl stepV a) []
namespace Tm

mutual
def withV:List Int→Tm→List Int
 |a,mk k _ n l=>if k=1 then addV a n else withVL a l
def withVL:List Int→List Tm→List Int
 |a,[]=>a
 |a,t::r=>withVL (withV a t) r
end

mutual
def plain:Tm→Bool
 |mk k _ _ l=>!((k==1) && !l.isEmpty)&&plainL l
def plainL:List Tm→Bool
 |[]=>true
 |t::r=>plain t&&plainL r
end
theorem withV_eq (a:List Int)(t:Tm):withV a t=if t.k=1 then addV a t.n else withVL a t.l:=by cases t;simp only[withV];rfl
theorem addV_len' (l:List Int)(x:Int):(addV l x).length≤l.length+1:=by unfold addV;split<;>simp

mutual
theorem withV_len:∀ (t:Tm) (a:List Int),(withV a t).length≤a.length+size t
 |mk k s n l,a=>by
  simp only[withV,size]
  split
  ·have:=addV_len' a n;omega
  ·have:=withVL_len l a;omega
theorem withVL_len:∀ (l:List Tm) (a:List Int),(withVL a l).length≤a.length+sizeL l
 |[],a=>by simp[withVL]
 |t::r,a=>by have h1:=withV_len t a;have h2:=withVL_len r (withV a t);simp only[withVL,sizeL];omega
end

mutual
theorem els_with:∀ (t:Tm) (d:Int) (a:List Int),plain t=true→(els t d).foldl stepV a=withV a t
 |mk k s n l,d,a,h=>by
  simp only[plain,Bool.and_eq_true,Bool.not_eq_true',Bool.and_eq_false_iff]at h
  simp only[els,List.foldl_cons,withV]
  by_cases hk:k=1
  ·have hl:l=[]:=by
    rcases h.1 with h1 |h1
    ·simp[hk]at h1
    ·simpa using h1
   subst hl
   simp only[elsL,List.foldl_nil,hk,if_true]
   rfl
  ·rw [if_neg hk,elsL_with l (d+1) _ h.2]
   simp only[stepV,Tm.k,hk,if_false]
theorem elsL_with:∀ (l:List Tm) (d:Int) (a:List Int),plainL l=true→(elsL l d).foldl stepV a=withVL a l
 |[],d,a,h=>rfl
 |t::r,d,a,h=>by
  simp only[plainL,Bool.and_eq_true]at h
  simp only[elsL,List.foldl_append,withVL,els_with t d a h.1,elsL_with r d _ h.2]
end
end Tm

theorem varsT_with:∀ (l:List Tm),Tm.plainL l=true→varsT l=Tm.withVL [] l:=by
 have key:∀ (l:List Tm) (a:List Int),Tm.plainL l=true→l.foldl (fun a t=>(t.els 1).foldl stepV a) a=Tm.withVL a l:=by
  intro l
  induction l with
  |nil=>intro a _;rfl
  |cons t r ih =>
   intro a h
   simp only[Tm.plainL,Bool.and_eq_true]at h
   simp only[List.foldl_cons,Tm.withVL,Tm.els_with t 1 a h.1,ih _ h.2]
 exact fun l h=>key l [] h
end PSL
namespace PSL
open Go Go.RowKit

def vLe:Value→Value→Bool
 | .int k a,.int k' b=>kEq k k'&&a==b
 | .bool a,.bool b=>a==b
 | .string a,.string b=>strEq a b
 | .slice none 0 0,.slice none 0 0=>true
 |_,_=>false

theorem vLe_ok {a b:Value}(h:vLe a b=true):a=b:=by
 unfold vLe at h
 split at h
 ·simp only[Bool.and_eq_true,beq_iff_eq]at h;rw[kEq_eq h.1,h.2]
 ·simp at h;rw[h]
 ·rename_i x y
  simp only[strEq,beq_iff_eq,ByteArray.toList_eq]at h
  cases x;cases y
  simp at h;rw[h]
 ·rfl
 ·cases h

mutual
def dLe:D→D→Bool
 | .v a,y=>match y with
  | .v b=>vLe a b
  | .sl []=>match a with
   | .slice none 0 0=>true
   |_=>false
  |_=>false
 | .sl r,y=>match y with
  | .sl r'=>rowsLe r r'
  |_=>false
 | .ptr l,y=>match y with
  | .ptr l'=>rowLe l l'
  |_=>false
 | .map _,_=>false
def rowLe:List D→List D→Bool
 |[],[]=>true
 |x::l,y::m=>dLe x y&&rowLe l m
 |_,_=>false
def rowsLe:List (List D)→List (List D)→Bool
 |[],[]=>true
 |x::l,y::m=>rowLe x y&&rowsLe l m
 |_,_=>false
end

theorem rowLe_len:∀ {l m:List D},rowLe l m=true→l.length=m.length
 |[],[],_=>rfl
 |[],_::_,h=>by simp[rowLe]at h
 |_::_,[],h=>by simp[rowLe]at h
 |x::l,y::m,h=>by simp only[rowLe,Bool.and_eq_true]at h;simp[rowLe_len h.2]

theorem rowLe_get:∀ {l m:List D} {j:Nat} {y:D},rowLe l m=true→m[j]? = some y→∃x,l[j]? = some x∧dLe x y=true
 |[],[],_,_,_,h=>by simp at h
 |[],_::_,_,_,h,_=>by simp[rowLe]at h
 |_::_,[],_,_,h,_=>by simp[rowLe]at h
 |x::l,y::m,0,z,h,hz=>by simp only[rowLe,Bool.and_eq_true]at h;simp at hz;subst hz;exact⟨x,rfl,h.1⟩
 |x::l,y::m,j+1,z,h,hz=>by simp only[rowLe,Bool.and_eq_true]at h;simpa using rowLe_get h.2 (by simpa using hz)

theorem rowsLe_len:∀ {l m:List (List D)},rowsLe l m=true→l.length=m.length
 |[],[],_=>rfl
 |[],_::_,h=>by simp[rowsLe]at h
 |_::_,[],h=>by simp[rowsLe]at h
 |x::l,y::m,h=>by simp only[rowsLe,Bool.and_eq_true]at h;simp[rowsLe_len h.2]

theorem rowsLe_get:∀ {l m:List (List D)} {j:Nat} {y:List D},rowsLe l m=true→m[j]? = some y→∃x,l[j]? = some x∧rowLe x y=true
 |[],[],_,_,_,h=>by simp at h
 |[],_::_,_,_,h,_=>by simp[rowsLe]at h
 |_::_,[],_,_,h,_=>by simp[rowsLe]at h
 |x::l,y::m,0,z,h,hz=>by simp only[rowsLe,Bool.and_eq_true]at h;simp at hz;subst hz;exact⟨x,rfl,h.1⟩
 |x::l,y::m,j+1,z,h,hz=>by simp only[rowsLe,Bool.and_eq_true]at h;simpa using rowsLe_get h.2 (by simpa using hz)

theorem dLe_ok {S:Nat→Prop}{w:World}{x:D}{v:Value}(hr:Rd S w x v):∀ {y:D},dLe x y=true→Rd S w y v:=by
 induction hr with
 |v x =>
  intro y h
  cases y with
  |v b=>simp only[dLe]at h;rw[vLe_ok h];exact .v _
  |sl r =>
   cases r with
   |nil =>
    simp only[dLe]at h
    split at h
    ·exact .nil _ _
    ·cases h
   |cons _ _=>simp[dLe]at h
  |ptr _=>simp[dLe]at h
  |map _=>simp[dLe]at h
 |nil a c =>
  intro y h
  cases y with
  |v b=>simp[dLe]at h
  |sl r =>
   simp only[dLe]at h
   have:=rowsLe_len h
   have:r=[]:=List.length_eq_zero_iff.1 this.symm
   subst this;exact .nil _ _
  |ptr _=>simp[dLe]at h
  |map _=>simp[dLe]at h
 |@sl rows b o cap sz cs T fr g hS hb hl hc hsz hg _ ih =>
  intro y h
  cases y with
  |v b=>simp[dLe]at h
  |ptr _=>simp[dLe]at h
  |map _=>simp[dLe]at h
  |sl r =>
   simp only[dLe]at h
   have hlen:=rowsLe_len h
   rw[hlen]
   refine .sl (sz:=sz) g hS hb (by omega) hc (fun i row hi=>?_) (fun i row j x hi hj=>?_) (fun i row j x hi hj=>?_)
   ·obtain ⟨row',h1,h2⟩:=rowsLe_get h hi
    rw[← rowLe_len h2];exact hsz i row' h1
   ·obtain ⟨row',h1,h2⟩:=rowsLe_get h hi
    obtain⟨x',h3,_⟩:=rowLe_get h2 hj
    exact hg i row' j x' h1 h3
   ·obtain ⟨row',h1,h2⟩:=rowsLe_get h hi
    obtain⟨x',h3,h4⟩:=rowLe_get h2 hj
    exact ih i row' j x' h1 h3 h4
 |@ptr l b o cs T fr g hS hb hg _ ih =>
  intro y h
  cases y with
  |v b=>simp[dLe]at h
  |sl r=>simp[dLe]at h
  |map _=>simp[dLe]at h
  |ptr m =>
   simp only[dLe]at h
   refine .ptr g hS hb (fun j x hj=>?_) (fun j x hj=>?_)
   ·obtain ⟨x',h3,_⟩:=rowLe_get h hj
    exact hg j x' h3
   ·obtain ⟨x',h3,h4⟩:=rowLe_get h hj
    exact ih j x' h3 h4
 |map g hS hb hk hg _ ih=>intro y h;simp[dLe]at h

mutual
def aLe:AV→AV→Bool
 | .d x,y=>match y with
  | .d y=>dLe x y
  |_=>false
 | .agg l,y=>match y with
  | .agg m=>asLe l m
  |_=>false
 | .tup l,y=>match y with
  | .tup m=>asLe l m
  |_=>false
 |_,_=>false
def asLe:List AV→List AV→Bool
 |[],[]=>true
 |x::l,y::m=>aLe x y&&asLe l m
 |_,_=>false
end

mutual
theorem aLe_ok {S:Nat→Prop}{w:World}{φ:List Phy}:∀ {x y:AV} {v:Value},aLe x y=true→RV S w φ x v→RV S w φ y v
 | .d x,y,v,h,hr=>by
  cases y<;>simp only[aLe]at h<;>try (cases h;done)
  simp only[RV]at hr ⊢
  exact dLe_ok hr h
 | .agg l,y,v,h,hr=>by
  cases y<;>simp only[aLe]at h<;>try (cases h;done)
  simp only[RV]at hr ⊢
  obtain⟨cs,h1,h2⟩:=hr
  exact⟨cs,h1,asLe_ok h h2⟩
 | .tup l,y,v,h,hr=>by
  cases y<;>simp only[aLe]at h<;>try (cases h;done)
  simp only[RV]at hr ⊢
  obtain⟨cs,h1,h2⟩:=hr
  exact⟨cs,h1,asLe_ok h h2⟩
 | .any,_,_,h,_=>by simp[aLe]at h
 | .tt,_,_,h,_=>by simp[aLe]at h
 | .ff,_,_,h,_=>by simp[aLe]at h
 | .fs _,_,_,h,_=>by simp[aLe]at h
 | .lo _ _,_,_,h,_=>by simp[aLe]at h
 | .el _ _ _ _,_,_,h,_=>by simp[aLe]at h
 | .vw _ _ _,_,_,h,_=>by simp[aLe]at h
 | .ow _ _,_,_,h,_=>by simp[aLe]at h
 | .mp _,_,_,h,_=>by simp[aLe]at h
 | .yl _,_,_,h,_=>by simp[aLe]at h
 | .clo _ _ _,_,_,h,_=>by simp[aLe]at h
theorem asLe_ok {S:Nat→Prop}{w:World}{φ:List Phy}:∀ {l m:List AV} {vs:List Value},asLe l m=true→RVs S w φ l vs→RVs S w φ m vs
 |[],[],_,_,h=>h
 |[],_::_,_,h,_=>by simp[asLe]at h
 |_::_,[],_,h,_=>by simp[asLe]at h
 |x::l,y::m,[],_,h=>by simp[RVs]at h
 |x::l,y::m,v::vs,h,hr=>by
  simp only[asLe,Bool.and_eq_true]at h
  simp only[RVs]at hr ⊢
  exact⟨aLe_ok h.1 hr.1,asLe_ok h.2 hr.2⟩
end

theorem PCtr.le {P:Program}{f:Nat}{axs as':List AV}{r:AV}(h:PCtr P f axs r)(hl:asLe as' axs=true):PCtr P f as' r :=
 ⟨h.call,fun S w vals ha hS hv=>h.run S w vals ha hS (asLe_ok hl hv)⟩

theorem R_callN {g:G}{pf:Nat→Cls}{ops:Array Oper}{Fin:Exit→Act→World→Prop}(hg:GOk g){f:Nat}{axs:List AV}{r:AV}(hc:PCtr g.P f axs r){as':List AV}{dst:Option Nat}{x:Operand}{args:Array Operand}{ts:Array Nat}{ty:Nat}{pos:String}{after:Array Edge}{gd:Option (Nat × Bool)}
  {rest:List Oper} {k:List It} {E:Env} {objs:List Ob} {fs cs:List AV}
  (hgd:guardA ops.toList E gd=some true) (hd:dstOk ⟨g.ty,g.N⟩ dst=true) (hx:ev E x=.clo f fs cs) (has:(fs++args.toList.map (ev E)++cs).map nrm=as') (hle:asLe as' axs=true) (hpa:pureL as'=true) (hpr:pureA r=true)
  (hr:R g pf Fin (.dr ops rest::k) (putO E dst r) objs) :
  R g pf Fin (.dr ops (⟨dst,.call { callee:=.value x,args:=args,argTypes:=ts },ty,pos,after,gd⟩::rest)::k) E objs :=
 R_call hg (hc.le hle) hgd hd hx has hpa hpr hr
end PSL
namespace PSL
open Go Go.RowKit Go.MapKept

def pfB:Nat→Cls:=fun f=>bif Nat.beq f 4000000007 then .loadB else .still
theorem cong1 {α:Type}{a c:α}{l:List α}(h:a=c):a::l=c::l:=by rw[h]
theorem cong2 {α:Type}{a b c:α}{l:List α}(h:b=c):a::b::l=a::c::l:=by rw[h]
theorem some2 {α:Type}{a b c:α}(h:c=b):some [a,b]=some [a,c]:=by rw[h]

theorem R_appendO {g:G}{pf:Nat→Cls}{ops:Array Oper}{Fin:Exit→Act→World→Prop}(hg:GOk g){dst:Option Nat}{T T':Nat}{x y:Operand}{ty:Nat}{pos:String}{after:Array Edge}{gd:Option (Nat × Bool)}{rest:List Oper}{k:List It}{E:Env}{objs:List Ob}
  {i s sz q q' by_ by' e e':Nat} {z z':List Value} {τ:Ty} {rows news:List (List D)} (rows':List (List D))
  (hgd:guardA ops.toList E gd=some true) (hd:dstOk ⟨g.ty,g.N⟩ dst=true) (hx:ev E x=.ow i s) (ho:nth objs i=some (.arr sz s rows)) (hy:nrm (ev E y)=.d (.sl news))
  (hT:g.ty T=some ⟨q,by_,z,.slice e⟩) (hT':g.ty T'=some ⟨q',by',z',.slice e'⟩) (he:g.ty e=some τ) (hsz:τ.size=sz) (hlen:∀r∈news,r.length=sz) (hone:∀r∈news,∀x∈r,one1 (.d x)=true)
  (hrows:rows++news=rows') (hbytes:(rows.length+news.length) * τ.bytes≤140737488355328) (hmax:rows.length+news.length≤140737488355328)
  (hr:R g pf Fin (.dr ops rest::k) (putO E dst (.ow i (Nat.succ s))) (setN objs i (.arr sz (Nat.succ s) rows'))) :
  R g pf Fin (.dr ops (⟨dst,.call { callee:=.builtin .append,args:=#[x,y],argTypes:=#[T,T'] },ty,pos,after,gd⟩::rest)::k) E objs:=by
 subst hrows
 exact R_append hg hgd hd hx ho hy hT hT' he hsz hlen hone hbytes hmax hr

theorem R_mapAddO {g:G}{pf:Nat→Cls}{ops:Array Oper}{Fin:Exit→Act→World→Prop}(hg:GOk g){dst:Option Nat}{T:Nat}{x y v:Operand}{ty:Nat}{pos:String}{after:Array Edge}{gd:Option (Nat × Bool)}{rest:List Oper}{k:List It}{E:Env}{objs:List Ob}
  {i q by_ q' by' kt et:Nat} {z z':List Value} {n:Int} {v':AV} (l l':List (Int × AV))
  (hgd:guardA ops.toList E gd=some true) (hd:dstOk ⟨g.ty,g.N⟩ dst=true) (hx:ev E x=.mp i) (ho:nth objs i=some (.map (imap l))) (hy:ev E y=.d (.v (.int .i64 n))) (hT:g.ty T=some ⟨q,by_,z,.map kt et⟩)
  (hkt:g.ty kt=some ⟨q',by',z',.int .i64⟩) (hf:getI l n=none) (hv:ev E v=v') (hl:l++[(n,v')]=l')
  (hr:R g pf Fin (.dr ops rest::k) (putO E dst .any) (setN objs i (.map (imap l')))):R g pf Fin (.dr ops (⟨dst,.mapUpdate T x y v,ty,pos,after,gd⟩::rest)::k) E objs:=by
 subst hl;subst hv
 exact R_mapAddI hg l hgd hd hx ho hy hT hkt hf hr
theorem mapO_cons {f:AV→Option AV}{x y:AV}{l l':List AV}(h:f x=some y)(h2:mapO f l=some l'):mapO f (x::l)=some (y::l'):=by simp only[mapO,h,h2]
theorem sealA_tup {objs:List Ob}{n:Nat}{l l':List AV}(h:mapO (sealA objs n) l=some l'):sealA objs (n+1) (.tup l)=some (.tup l'):=by simp only[sealA,h]
theorem sealA_agg {objs:List Ob}{n:Nat}{l l':List AV}(h:mapO (sealA objs n) l=some l'):sealA objs (n+1) (.agg l)=some (.agg l'):=by simp only[sealA,h]
theorem PCtr.one {P:Program}{f:Nat}{t:Tm}{r:AV}(h:PCtr P f [.d (.sl (Tm.rows [t]))] r):PCtr P f [.d (.sl [Tm.row t])] r:=by rwa [Tm.rows_eq]at h
end PSL
namespace PSL
open Go Go.RowKit
section
variable {g:G} {pf:Nat→Cls} {Fin:Exit→Act→World→Prop}

theorem KP_cut {M:Env→List Ob→Prop}{k:List It}(h:∀E objs,M E objs→RK g Fin k E objs):∀ (e:Exit) (a:Act) (w:World),KP g Fin (.mark M::k) e a w→KP g Fin k e a w:=fun e a w hk=>by
 cases e with
 |normal=>obtain⟨E,objs,h1,h2⟩:=hk;exact h E objs h1 a w h2
 |_=>exact hk

theorem KP_under {K1 K2:List It}(h:∀ (e:Exit) (a:Act) (w:World),KP g Fin K1 e a w→KP g Fin K2 e a w)(i:It):∀ (e:Exit) (a:Act) (w:World),KP g Fin (i::K1) e a w→KP g Fin (i::K2) e a w:=fun e a w hk=>by
 cases i with
 |code c =>
  cases e with
  |normal=>exact wpIn_mono hk h
  |_=>exact h _ _ _ hk
 |blk id =>
  cases e with
  |exit j =>
   simp only[KP]at hk ⊢
   split
   ·rename_i hj;rw[if_pos hj]at hk;exact h _ _ _ hk
   ·rename_i hj;rw[if_neg hj]at hk;exact h _ _ _ hk
  |_=>exact h _ _ _ hk
 |mark M =>
  cases e with
  |normal=>exact hk
  |_=>exact h _ _ _ hk
 |dr ops r=>exact h _ _ _ hk

abbrev MarkOf {β:Type} (st:β→Env × List Ob) (inv:β→Prop):Env→List Ob→Prop:=fun E' objs'=>∃p,inv p∧EnvIn E' (st p).1∧objs'=(st p).2

theorem RK_of_cut {β:Type}{st:β→Env × List Ob}{inv:β→Prop}{k:List It}(ho:ItsOk pf k)(hk:noDr k=true)(h2:∀p,inv p→R g pf Fin k (st p).1 (st p).2):∀E objs,MarkOf st inv E objs→RK g Fin k E objs:=by
 rintro E objs ⟨p,h1,h3,rfl⟩
 exact RK.of_R (pf:=pf) (k:=k) ho ((h2 p h1).ent h3.eent) (noDr_head hk)

theorem R_cut1 {β:Type}(st:β→Env × List Ob)(inv:β→Prop){i:It}{k:List It}{E:Env}{objs:List Ob}(hk:noDr k=true)(h1:R g pf Fin (i :: .mark (MarkOf st inv)::k) E objs)(h2:∀p,inv p→R g pf Fin k (st p).1 (st p).2):R g pf Fin (i::k) E objs:=by
 intro ho
 have hok:ItsOk pf k:=by
  cases i with
  |code c=>exact ho.2
  |_=>exact ho
 have hc:=KP_cut (RK_of_cut (g:=g) (Fin:=Fin) hok hk h2)
 have ho':ItsOk pf (i :: .mark (MarkOf st inv)::k):=by
  cases i with
  |code c=>exact ho
  |_=>exact ho
 have h:=h1 ho'
 cases i with
 |dr ops rest =>
  exact Dr.monoK (fun E objs hr a w hs=>hc _ _ _ (hr a w hs)) h
 |code c=>exact fun a w hs=>KP_under hc (.code c) _ _ _ (h a w hs)
 |blk id=>exact fun a w hs=>KP_under hc (.blk id) _ _ _ (h a w hs)
 |mark M=>exact fun a w hs=>KP_under hc (.mark M) _ _ _ (h a w hs)

theorem its_cut {M:Env→List Ob→Prop}:∀ (pre:List It) {k:List It},ItsOk pf (pre++k)→ItsOk pf (pre ++ .mark M::k)∧ItsOk pf k
 |[],_,h=>⟨h,h⟩
 |i::pre,k,h=>by
  cases i with
  |code c=>exact⟨⟨h.1,(its_cut pre h.2).1⟩,(its_cut (M:=M) pre h.2).2⟩
  |_=>exact its_cut (M:=M) pre h

theorem KP_cutN {M:Env→List Ob→Prop}{k:List It}(h:∀E objs,M E objs→RK g Fin k E objs):∀ (pre:List It) (e:Exit) (a:Act) (w:World),KP g Fin (pre ++ .mark M::k) e a w→KP g Fin (pre++k) e a w
 |[]=>KP_cut h
 |i::pre=>KP_under (KP_cutN h pre) i

theorem R_cutN {β:Type}(pre:List It)(st:β→Env × List Ob)(inv:β→Prop){i:It}{k:List It}{E:Env}{objs:List Ob}(hk:noDr k=true)(h1:R g pf Fin (i::(pre ++ .mark (MarkOf st inv)::k)) E objs)(h2:∀p,inv p→R g pf Fin k (st p).1 (st p).2):R g pf Fin (i::(pre++k)) E objs:=by
 intro ho
 have hi:=its_cut (pf:=pf) (M:=MarkOf st inv) (i::pre) (k:=k) ho
 have hc:=KP_cutN (RK_of_cut (g:=g) (Fin:=Fin) hi.2 hk h2) pre
 have h:=h1 hi.1
 cases i with
 |dr ops rest=>exact Dr.monoK (fun E objs hr a w hs=>hc _ _ _ (hr a w hs)) h
 |code c=>exact fun a w hs=>KP_under hc (.code c) _ _ _ (h a w hs)
 |blk id=>exact fun a w hs=>KP_under hc (.blk id) _ _ _ (h a w hs)
 |mark M=>exact fun a w hs=>KP_under hc (.mark M) _ _ _ (h a w hs)
theorem R_cut2 {β:Type}(st:β→Env × List Ob)(inv:β→Prop){i j:It}{k:List It}{E:Env}{objs:List Ob}(hk:noDr k=true)(h1:R g pf Fin (i::j :: .mark (MarkOf st inv)::k) E objs)(h2:∀p,inv p→R g pf Fin k (st p).1 (st p).2):R g pf Fin (i::j::k) E objs:=R_cutN [j] st inv hk h1 h2

theorem R_to {β:Type}{st:β→Env × List Ob}{inv:β→Prop}{k:List It}{E:Env}{objs:List Ob}(p:β)(h1:inv p)(h3:EnvIn E (st p).1)(h4:objs=(st p).2):R g pf Fin (.mark (MarkOf st inv)::k) E objs:=R_mark ⟨p,h1,h3,h4⟩

theorem R_freezeO (hu:GUp g){k:List It}{E:Env}{objs:List Ob}(i:Nat)(E':Env)(objs':List Ob){sz s:Nat}{rows:List (List D)}(ho:nth objs i=some (.arr sz s rows))(ht:topCode k=true)
  (hE:EnvIn (mapE (frzA i s rows) E) E') (hO:ObsIn (setN (objs.map (mapOb (frzA i s rows))) i .dead) objs') (hr:R g pf Fin k E' objs') (hdf:g.dfs=[]:=by rfl):R g pf Fin k E objs :=
 R_freeze hu i ho ht (R_weak E' hE (R_obs objs' hO ht hr)) hdf

theorem Ent.frz (i s:Nat)(rows:List (List D)):Ent (frzA i s rows (.ow i s)) (.d (.sl rows)):=by
 have:frzA i s rows (.ow i s)=.d (.sl rows):=by simp[frzA]
 rw[this];exact .refl _
end

theorem R_storeEO {g:G}{pf:Nat→Cls}{ops:Array Oper}{Fin:Exit→Act→World→Prop}(hg:GOk g){dst:Option Nat}{T:Nat}{d x:Operand}{ty:Nat}{pos:String}{after:Array Edge}{gd:Option (Nat × Bool)}{rest:List Oper}{k:List It}{E:Env}{objs:List Ob}
  {id s sz r j:Nat} {τ:Ty} {rows:List (List D)} {row:List D} {l:List AV} {ds:List D} (rows':List (List D))
  (hgd:guardA ops.toList E gd=some true) (hd:dstOk ⟨g.ty,g.N⟩ dst=true) (hx:ev E d=.el id s r j) (ho:nth objs id=some (.arr sz s rows)) (hT:g.ty T=some τ) (hrow:rows[r]? = some row) (hc:cellsO (ev E x)=some l) (hds:toDs l=some ds) (hl:ds.length=τ.size) (hfit:j+τ.size≤sz)
  (hrows:rows.set r (spliceD row j ds)=rows')
  (hr:R g pf Fin (.dr ops rest::k) (putO E dst .any) (setN objs id (.arr sz s rows'))) (hcl:stClsAt pf d=.eff:=by rfl):R g pf Fin (.dr ops (⟨dst,.store T d x,ty,pos,after,gd⟩::rest)::k) E objs:=by
 subst hrows
 exact R_storeE hg hgd hd hx ho hT hrow hc hds hl hfit hr hcl
end PSL
namespace PSL
open Go Go.RowKit
section
variable {g:G} {pf:Nat→Cls} {ops:Array Oper} {Fin:Exit→Act→World→Prop}

theorem R_quo (hg:GOk g){dst:Option Nat}{T T2:Nat}{x y:Operand}{ty:Nat}{pos:String}{after:Array Edge}{gd:Option (Nat × Bool)}{rest:List Oper}{k:List It}{E:Env}{objs:List Ob}{q:IntKind}{m n:Int}
  (hgd:guardA ops.toList E gd=some true) (hd:dstOk ⟨g.ty,g.N⟩ dst=true) (hx:ev E x=.d (.v (.int q m))) (hy:ev E y=.d (.v (.int q n))) (hn:n≠0)
  (hr:R g pf Fin (.dr ops rest::k) (putO E dst (.d (.v (.int q (q.wrap (m.tdiv n)))))) objs):R g pf Fin (.dr ops (⟨dst,.binOp .quo T x y T2,ty,pos,after,gd⟩::rest)::k) E objs:=by
 refine R_op (LocOp.up (LocOp.quiet hg hgd hd (by simp) fun φ objs a w hρ hs=>?_)) hr
 simp only[Op.operands]at hρ
 have hxv:=hρ x (by simp)
 rw[hx]at hxv
 have hyv:=hρ y (by simp)
 rw[hy]at hyv
 simp only[RV]at hxv hyv
 generalize hvx:a.eval x=vx at hxv
 generalize hvy:a.eval y=vy at hyv
 cases hxv;cases hyv
 refine out_val hs (vv:=.int q (q.wrap (m.tdiv n))) ?_ (by simp only[RV];exact .v _)
 have hgdd:(eqGuard .quo T x y (.int q m) (.int q n)).run g.P w=.ok () w:=run_eqGuard (by rfl)
 simp only[execOp,hvx,hvy,Sem.run_bind,hgdd,Result.andThen_ok]
 simp[binOp,Op.intArith,Op.intDiv,hn]
end
end PSL
namespace PSL
open Go Go.RowKit Go.MapKept
end PSL
