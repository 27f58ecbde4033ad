import Derived.Test.YtcgkgofmldhokaaGreatM1
import Derived.ProofKit
import Derived.SizedLaws
import Derived.ChangeSame
import Derived.JoinedOf
import Derived.Laws.LoneSync
import Derived.Laws.BytesString
import Derived.Test.YtcgkgofmldhokaaGreatSTy
import Derived.Test.YtcgkgofmldhokaaGreatRows
set_option maxRecDepth 100000
set_option maxHeartbeats 4000000
namespace PSL
open Go Go.RowKit Go.ChangeShapes Go.WideShapes

def HasFs (H:Nat→List D→Prop) (ty:Nat→Option Ty):List (Nat × Nat)→List D→Prop
 |[],row=>row=[]
 |(_,t)::fs,row=>∃ (τ:Ty) (a b:List D),ty t=some τ∧row=a++b∧a.length=τ.size∧H t a∧HasFs H ty fs b

def HasTy (ty:Nat→Option Ty) (B:Nat):Nat→Nat→List D→Prop
 |0,_,_=>False
 |n+1,t,row=>match ty t with
  |none=>False
  |some τ=>match τ.sh with
   | .int k=>∃m,row=[.v (.int k m)]∧k.min≤m∧m≤k.max
   | .bool=>∃b,row=[.v (.bool b)]
   | .str=>∃s:ByteArray,row=[.v (.string s)]∧s.size≤B
   | .struct flds=>HasFs (HasTy ty B n) ty flds row
   | .slice e=>∃rows:List (List D),row=[.sl rows]∧(∀τ,ty e=some τ→rows.length * τ.bytes≤B)∧∀r∈rows,HasTy ty B n e r
   |_=>False

def contig (ty:Nat→Option Ty) (size:Nat):List (Nat × Nat)→Nat→Bool
 |[],o=>o==size
 |(f,t)::fs,o=>match ty t with
  |some τ=>f==o&&contig ty size fs (o+τ.size)
  |none=>false

def dT (ty:Nat→Option Ty)(L:List Nat)(t:Nat):Bool :=
 match ty t with
 |some τ=>match τ.sh with
  | .int _=>true
  | .bool=>true
  | .str=>true
  | .struct flds=>flds.all (fun f=>L.contains f.2)&&contig ty τ.size flds 0
  | .slice e=>L.contains e&&match ty e with |some τ'=>decide (0<τ'.size) |none=>false
  |_=>false
 |none=>false
section
variable {H:Type} {enc:TypeId × Value→H} {P:Program} {w:World} {base:Nat} {held:Bool} {ty:Nat→Option Ty}

theorem cellsOf_ty (hty:TyOk P ty){t:Nat}{τ:Ty}(h:ty t=some τ):P.cellsOf t=τ.size:=by
 obtain⟨i,z,h1,_,h3,_⟩:=(hty t τ h).info
 simp[Program.cellsOf,h1,h3]
theorem und_ty (hty:TyOk P ty){t:Nat}{τ:Ty}(h:ty t=some τ):ShFact P t τ.sh:=(hty t τ h).sh

theorem weightsAll_mem {P:Program}{e:TypeId}{d:DataW H}{m:Nat}:∀ {l:List (DataW H)},d∈l→m∈d.weights P e→m∈DataW.weightsAll P e l
 |x::l,h,hm=>by
  simp only[DataW.weightsAll,List.mem_append]
  rcases List.mem_cons.1 h with rfl |h
  ·exact .inl hm
  ·exact .inr (weightsAll_mem h hm)

theorem choose_lt {α:Type}[Inhabited α]{n:Nat}{p:Nat→α→Prop}(h:∀i,i<n→∃x,p i x):∃f:Nat→α,∀i,i<n→p i (f i):=by
 classical
 refine⟨fun i=>if hi:i<n then Classical.choose (h i hi) else default,fun i hi=>?_⟩
 simp only[dif_pos hi]
 exact Classical.choose_spec (h i hi)

theorem trod_rd (hty:TyOk P ty){L:List Nat}(hL:∀t∈L,dT ty L t=true)(B:Nat):∀ (n t:Nat) (τ:Ty) (cs:List Value) (x:DataW H × List MemPlace),t∈L→DataW.trod enc P w base (fun _=>true) held n t cs=some x→ty t=some τ→(∀m∈x.1.weights P t,m≤B) →
  ∃row,cs.length=τ.size∧row.length=τ.size∧HasTy ty B n t row∧∀ (j:Nat) (d:D),row[j]? = some d→∃v,cs[j]? = some v∧Rd (fun _=>True) w d v
 |0,_,_,_,_,_,h,_,_=>by simp[DataW.trod]at h
 |n+1,t,τ,cs,x,htL,h,hτ,hwt=>by
  have hd:=hL t htL
  have hsh:=und_ty hty hτ
  have h1:=(hty t τ hτ).one
  unfold dT at hd
  rw[hτ]at hd
  simp only at hd
  have one:∀ (d:D) (v:Value),τ.size=1→cs=[v]→Rd (fun _=>True) w d v→HasTy ty B (n+1) t [d]→∃row,cs.length=τ.size∧row.length=τ.size∧HasTy ty B (n+1) t row∧∀ (j:Nat) (d:D),row[j]? = some d→∃v,cs[j]? = some v∧Rd (fun _=>True) w d v:=by
   intro d v hs hcs hr hh
   refine⟨[d],by rw[hcs,hs];rfl,by rw[hs];rfl,hh,fun j d' hj=>?_⟩
   match j,hj with
   |0,hj=>simp at hj;subst hj;exact⟨v,by rw[hcs];rfl,hr⟩
  cases hs:τ.sh with
  |one=>rw[hs]at hd;cases hd
  |int k =>
   rw[hs]at hsh;simp only[ShFact]at hsh
   obtain⟨m,hcs,hx,hwf⟩:=DataW.trod_int hsh h
   refine one (.v (.int k m)) _ (h1 (by unfold Ty.agg;rw[hs])) hcs (.v _) ?_
   simp only[HasTy,hτ,hs]
   simp only[Lit.wf,Bool.and_eq_true,decide_eq_true_eq]at hwf
   exact⟨m,rfl,hwf⟩
  |bool =>
   rw[hs]at hsh;simp only[ShFact]at hsh
   obtain⟨b,hcs,hx⟩:=DataW.trod_bool hsh h
   refine one (.v (.bool b)) _ (h1 (by unfold Ty.agg;rw[hs])) hcs (.v _) ?_
   simp only[HasTy,hτ,hs]
   exact⟨b,rfl⟩
  |str =>
   rw[hs]at hsh;simp only[ShFact]at hsh
   obtain⟨s,hcs,hx,hwf⟩:=DataW.trod_string hsh h
   refine one (.v (.string s)) _ (h1 (by unfold Ty.agg;rw[hs])) hcs (.v _) ?_
   simp only[HasTy,hτ,hs]
   subst hx
   exact⟨s,rfl,by simpa using hwt s.data.toList.length (by simp[DataW.weights])⟩
  |struct flds =>
   rw[hs]at hsh hd;simp only[ShFact]at hsh
   simp only[Bool.and_eq_true,List.all_eq_true,List.contains_iff_mem]at hd
   obtain⟨fs,hu,hfl,_⟩:=hsh
   obtain⟨xs,n',hn,hx,hcl,hxl,hall⟩:=DataW.trod_struct hu h
   cases hn
   rw[cellsOf_ty hty hτ]at hcl
   have hmem:∀f∈flds,∃x,DataW.trod enc P w base (fun _=>true) held n f.2 ((cs.drop f.1).take (P.cellsOf f.2))=some x∧∀m∈x.1.weights P f.2,m≤B:=by
    intro f hf
    rw[← hfl]at hf
    obtain⟨fl,hfl',rfl⟩:=List.mem_map.1 hf
    obtain⟨i,hi,hii⟩:=List.mem_iff_getElem.1 hfl'
    have e1:fs[i]? = some fl:=by rw[← Array.getElem?_toList,List.getElem?_eq_getElem hi,hii]
    have hix:i<xs.length:=by rw[hxl];simpa using hi
    refine⟨xs[i],by rw[hall i fl e1];exact List.getElem?_eq_getElem hix,fun m hm=>hwt m ?_⟩
    rw[hx]
    simp only[DataW.weights,hu]
    exact DataW.weights_mem_each (j:=i) (by rw[List.getElem?_map,List.getElem?_eq_getElem hi,hii];rfl) (by rw[List.getElem?_map,List.getElem?_eq_getElem hix];rfl) m hm
   have hind:∀ (t:Nat) (τ:Ty) (l:List Value) (x:DataW H × List MemPlace),t∈L→DataW.trod enc P w base (fun _=>true) held n t l=some x→ty t=some τ→(∀m∈x.1.weights P t,m≤B)→∃row,l.length=τ.size∧row.length=τ.size∧HasTy ty B n t row∧∀ (j:Nat) (d:D),row[j]? = some d→∃v,l[j]? = some v∧Rd (fun _=>True) w d v :=
    fun t τ l x ht h h' h''=>trod_rd hty hL B n t τ l x ht h h' h''
   obtain⟨row,g1,g2,g3⟩:∃row,0+row.length=τ.size∧HasFs (HasTy ty B n) ty flds row∧∀ (j:Nat) (d:D),row[j]? = some d→∃v,cs[0+j]? = some v∧Rd (fun _=>True) w d v:=by
    have key:∀ (fs:List (Nat × Nat)) (o:Nat),(∀ f∈fs,f.2∈L)→contig ty τ.size fs o=true→(∀ f∈fs,∃ x,DataW.trod enc P w base (fun _=>true) held n f.2 ((cs.drop f.1).take (P.cellsOf f.2))=some x∧∀ m∈x.1.weights P f.2,m≤B) →
      ∃row,o+row.length=τ.size∧HasFs (HasTy ty B n) ty fs row∧∀ (j:Nat) (d:D),row[j]? = some d→∃v,cs[o+j]? = some v∧Rd (fun _=>True) w d v:=by
     intro fs
     induction fs with
     |nil=>intro o _ hc _;simp only[contig,beq_iff_eq]at hc;exact⟨[],by simpa using hc,rfl,by simp⟩
     |cons ft fs ih =>
      obtain⟨f,t⟩:=ft
      intro o hm hc hf
      simp only[contig]at hc
      split at hc
      case h_2=>cases hc
      rename_i τ' hτ'
      simp only[Bool.and_eq_true,beq_iff_eq]at hc
      obtain⟨rfl,hc⟩:=hc
      obtain⟨row2,h1,h2,h3⟩:=ih (f+τ'.size) (fun g hg=>hm g (List.mem_cons_of_mem _ hg)) hc fun g hg=>hf g (List.mem_cons_of_mem _ hg)
      obtain⟨x,hx,hxw⟩:=hf (f,t) (List.mem_cons_self ..)
      obtain⟨row1,g1,g2,g3,g4⟩:=hind t τ' _ x (hm (f,t) (List.mem_cons_self ..)) hx hτ' hxw
      rw[cellsOf_ty hty hτ']at g1 g4
      refine⟨row1++row2,by rw[List.length_append];omega,⟨τ',row1,row2,hτ',rfl,g2,g3,h2⟩,fun j d hj=>?_⟩
      by_cases hlt:j<row1.length
      ·rw [List.getElem?_append_left hlt] at hj
       obtain⟨v,g5,g6⟩:=g4 j d hj
       rw[List.getElem?_take_of_lt (by omega),List.getElem?_drop]at g5
       exact⟨v,g5,g6⟩
      ·rw [List.getElem?_append_right (by omega)] at hj
       obtain⟨v,g5,g6⟩:=h3 _ d hj
       exact⟨v,by rw[show f+j=f+τ'.size+(j - row1.length) by omega];exact g5,g6⟩
    exact key flds 0 hd.1 hd.2 hmem
   refine⟨row,hcl,by omega,?_,fun j d hj=>by simpa using g3 j d hj⟩
   simp only[HasTy,hτ,hs];exact g2
  |array m e=>rw[hs]at hd;cases hd
  |map k e=>rw[hs]at hd;cases hd
  |slice e =>
   rw[hs]at hsh hd;simp only[ShFact]at hsh
   simp only[Bool.and_eq_true,List.contains_iff_mem]at hd
   obtain⟨heL,hd⟩:=hd
   split at hd
   case h_2=>cases hd
   rename_i τe hτe
   have hpos:=of_decide_eq_true hd
   have hsz:=h1 (by unfold Ty.agg;rw[hs])
   rcases DataW.trod_slice hsh h with ⟨hcs,_⟩ |⟨a,len,cap,elems,rest,n',hn,hcs,hx,hb,hl,hm,hlen,hel,hsp,_⟩
   ·refine one (.sl []) _ hsz hcs (.nil _ _) ?_
    simp only[HasTy,hτ,hs]
    exact⟨[],rfl,fun _ _=>by simp,by simp⟩
   ·cases hn
    rcases Nat.eq_zero_or_pos len with h0 |h0
    ·subst h0
     refine one (.sl []) _ hsz hcs (.nil _ _) ?_
     simp only[HasTy,hτ,hs]
     exact⟨[],rfl,fun _ _=>by simp,by simp⟩
    have hce:=cellsOf_ty hty hτe
    have hrow:∀i,i<len→∃row:List D,∃l:List Value,w.cells? base (a.add (i * τe.size)) τe.size=some l∧l.length=τe.size∧row.length=τe.size∧HasTy ty B n e row∧∀ (j:Nat) (d:D),row[j]? = some d→∃v,l[j]? = some v∧Rd (fun _=>True) w d v:=by
     intro i hi
     have h2:=hel i hi
     rw[hce]at h2
     have h3:elems[i]? = some elems[i]:=List.getElem?_eq_getElem (by omega)
     rw[h3]at h2
     obtain⟨l,h4,h5⟩:=Option.bind_eq_some_iff.1 h2
     obtain⟨row,g1,g2,g3,g4⟩:=trod_rd hty hL B n e τe l _ heL h5 hτe fun m hm=>hwt m (by
      rw[hx];simp only[DataW.weights,hsh,List.mem_cons,List.mem_append]
      exact .inr (.inl (weightsAll_mem (List.mem_map.2 ⟨elems[i],List.getElem_mem _,rfl⟩) hm)))
     exact⟨row,l,h4,g1,g2,g3,g4⟩
    obtain⟨R,hR⟩:=choose_lt hrow
    obtain⟨V,hV⟩:=choose_lt (fun i hi=>hR i hi)
    obtain⟨b,o,sp⟩:=a
    have hcell:∀i,i<len→∀j,j<τe.size→w.cell? ((⟨b,o,sp⟩:Addr).add (i * τe.size) |>.add j)=(V i)[j]? := fun i hi j hj=>(World.cells?_some (hV i hi).1).2.2 j hj
    have h00:=hcell 0 h0 0 hpos
    simp only[Nat.zero_mul,Addr.add,if_true]at h00
    have hv0:(V 0)[0]? = some ((V 0)[0]'(by rw[(hV 0 h0).2.1];exact hpos)):=List.getElem?_eq_getElem _
    rw[hv0]at h00
    simp only[World.cell?]at h00
    split at h00
    case h_2=>cases h00
    rename_i c T fr hheap
    split at h00
    ·cases h00
    rename_i hsp0
    have:sp=none:=by cases sp with
     |none=>rfl
     |some s=>simp at hsp0
    subst this
    have hcell':∀i,i<len→∀j,j<τe.size→c[o+i * τe.size+j]? = (V i)[j]? := fun i hi j hj=>by
     have h2:=hcell i hi j hj
     rw[add_none,add_none]at h2
     simp only[World.cell?,hheap]at h2
     simpa using h2
    refine one (.sl ((List.range len).map R)) _ hsz hcs ?_ ?_
    ·have key:=Rd.sl (S:=fun _=>True) (w:=w) (rows:=(List.range len).map R) (b:=b) (o:=o) (cap:=cap) (sz:=τe.size) (cs:=c) (T:=T) (fr:=fr) (fun i j=>((V i)[j]?).getD undef) trivial hheap (by simpa using hl) hm
      (fun i r hi=>?_) (fun i r j x hi hj=>?_) (fun i r j x hi hj=>?_)
     ·simpa using key
     ·have hlt:=(List.getElem?_eq_some_iff.1 hi).1
      simp at hlt
      rw[List.getElem?_map,List.getElem?_range hlt]at hi
      simp at hi;subst hi;exact(hV i hlt).2.2.1
     ·have hlt:=(List.getElem?_eq_some_iff.1 hi).1
      simp at hlt
      rw[List.getElem?_map,List.getElem?_range hlt]at hi
      simp at hi;subst hi
      obtain⟨v,g1,_⟩:=(hV i hlt).2.2.2.2 j x hj
      have hjl:=(List.getElem?_eq_some_iff.1 hj).1
      rw[(hV i hlt).2.2.1]at hjl
      rw[hcell' i hlt j hjl,g1];rfl
     ·have hlt:=(List.getElem?_eq_some_iff.1 hi).1
      simp at hlt
      rw[List.getElem?_map,List.getElem?_range hlt]at hi
      simp at hi;subst hi
      obtain⟨v,g1,g2⟩:=(hV i hlt).2.2.2.2 j x hj
      rw[g1];exact g2
    ·simp only [HasTy,hτ,hs]
     refine⟨_,rfl,fun τ' hτ'=>?_,fun r hr=>?_⟩
     ·rw [hτe] at hτ'; cases hτ'
      have h2:=hwt ((elems.length+rest.length) * P.bytesOf e) (by rw[hx];simp[DataW.weights,hsh])
      have h3:P.bytesOf e=τe.bytes:=by
       obtain⟨i,z,h1,_,_,h4,_⟩:=(hty e τe hτe).info
       simp[Program.bytesOf,h1,h4]
      rw[h3,hlen,Nat.add_mul]at h2
      simp;omega
     obtain⟨i,hi,rfl⟩:=List.mem_map.1 hr
     exact(hV i (List.mem_range.1 hi)).2.2.2.1
end
end PSL
namespace PSL
open Go Go.RowKit Go.ChangeShapes Go.WideShapes Go.ChangeAt

def avOf (τ:Ty)(row:List D):AV :=
 match τ.agg with
 |true=>.agg (row.map .d)
 |false=>match row with
  |[x]=>.d x
  |_=>.any

def ArgsAre (ty:Nat→Option Ty) (B:Nat):List Nat→List AV→Prop
 |[],[]=>True
 |t::ts,a::axs=>(∃ (n:Nat) (τ:Ty) (row:List D),ty t=some τ∧HasTy ty B n t row∧row.length=τ.size∧a=avOf τ row)∧ArgsAre ty B ts axs
 |_,_=>False
section
variable {H:Type} {enc:TypeId × Value→H} {P:Program} {ty:Nat→Option Ty}

theorem rvs_ds {S:Nat→Prop}{w:World}{φ:List Phy}{row:List D}{cs:List Value}(hl:row.length=cs.length)(h:∀ (j:Nat) (d:D),row[j]? = some d→∃v,cs[j]? = some v∧Rd S w d v):RVs S w φ (row.map .d) cs :=
 RVs.of_get (by simpa using hl) fun i x v hx hv=>by
  rw[List.getElem?_map]at hx
  cases hr:row[i]? with
  |none=>rw[hr]at hx;cases hx
  |some d =>
   rw[hr]at hx;simp at hx;subst hx
   obtain⟨v',h1,h2⟩:=h i d hr
   rw[hv]at h1;cases h1
   simpa only[RV]using h2

theorem open_arg (hty:TyOk P ty){L:List Nat}(hL:∀t∈L,dT ty L t=true){B:Nat}{W:World}{base t:Nat}{τ:Ty}{v:Value}{d:DataW H}{ps:List MemPlace}(ht:t∈L)(hτ:ty t=some τ)
  (hok:Value.okWide P W .any base t v) (h:DataW.Trod enc P W 0 (fun _=>true) true t v d ps) (hw:∀m∈d.weights P t,m≤B) :
  ∃ (n:Nat) (row:List D),HasTy ty B n t row∧row.length=τ.size∧RV (fun _=>True) W [] (avOf τ row) v:=by
 obtain⟨n,hn⟩:=h
 obtain⟨row,h1,h2,h3,h4⟩:=trod_rd hty hL B n t τ _ _ ht hn hτ hw
 refine⟨n,row,h3,h2,?_⟩
 have hd:=hL t ht
 have hsh:=(hty t τ hτ).sh
 have hone:=(hty t τ hτ).one
 unfold dT at hd
 rw[hτ]at hd
 simp only at hd
 have single:(∃c,v.cells.toList=[c]∧v=c)→τ.agg=false→RV (fun _=>True) W [] (avOf τ row) v:=by
  rintro⟨c,hc,rfl⟩ ha
  unfold avOf
  rw[ha]
  have hs:=hone ha
  match row,h2 with
  |[x],_ =>
   simp only
   obtain⟨v',h5,h6⟩:=h4 0 x rfl
   rw[hc]at h5;simp at h5;subst h5
   simpa only[RV]using h6
  |[],h=>rw[hs]at h;simp at h
  |_::_::_,h=>rw[hs]at h;simp at h
 cases hs:τ.sh with
 |one=>rw[hs]at hd;cases hd
 |array m e=>rw[hs]at hd;cases hd
 |map k e=>rw[hs]at hd;cases hd
 |int k =>
  rw[hs]at hsh;simp only[ShFact]at hsh
  obtain⟨m,rfl⟩:=okWide_int hsh hok
  exact single ⟨_,rfl,rfl⟩ (by unfold Ty.agg;rw[hs])
 |bool =>
  rw[hs]at hsh;simp only[ShFact]at hsh
  obtain⟨m,rfl⟩:=okWide_bool hsh hok
  exact single ⟨_,rfl,rfl⟩ (by unfold Ty.agg;rw[hs])
 |str =>
  rw[hs]at hsh;simp only[ShFact]at hsh
  obtain⟨m,rfl⟩:=okWide_string hsh hok
  exact single ⟨_,rfl,rfl⟩ (by unfold Ty.agg;rw[hs])
 |slice e =>
  rw[hs]at hsh;simp only[ShFact]at hsh
  obtain⟨a,l,c,rfl⟩:=okWide_slice hsh hok
  exact single ⟨_,rfl,rfl⟩ (by unfold Ty.agg;rw[hs])
 |struct flds =>
  rw[hs]at hsh;simp only[ShFact]at hsh
  obtain⟨fs,hu,_⟩:=hsh
  obtain⟨cs,rfl,_⟩:=okWide_struct hu hok
  have ha:τ.agg=true:=by unfold Ty.agg;rw[hs]
  unfold avOf
  rw[ha]
  simp only[Value.cells]at h1 h4
  simp only[RV]
  exact⟨cs.toList,by simp,rvs_ds (by rw[h1,h2]) h4⟩

theorem open_args (hty:TyOk P ty){L:List Nat}(hL:∀t∈L,dT ty L t=true){B:Nat}{W:World}{base:Nat}:∀ (ts:List Nat) (vs:List Value) (ds:List (DataW H)) (ps:List MemPlace),(∀t∈ts,t∈L∧(ty t).isSome=true)→DataW.TrodAll enc P W 0 (fun _=>true) true ts vs ds ps →
  (∀ (j:Nat) (t:Nat) (v:Value),ts[j]? = some t→vs[j]? = some v→Value.okWide P W .any base t v)→(∀m∈DataW.weightsEach P ts ds,m≤B)→∃axs,RVs (fun _=>True) W [] axs vs∧ArgsAre ty B ts axs∧ds.length=ts.length
 |[],[],[],_,_,_,_,_=>⟨[],by simp[RVs],trivial,rfl⟩
 |[],_::_,_,_,_,h,_,_=>by simp[DataW.TrodAll]at h
 |[],[],_::_,_,_,h,_,_=>by simp[DataW.TrodAll]at h
 |_::_,[],_,_,_,h,_,_=>by simp[DataW.TrodAll]at h
 |_::_,_::_,[],_,_,h,_,_=>by simp[DataW.TrodAll]at h
 |t::ts,v::vs,d::ds,ps,hl,h,hok,hw=>by
  simp only[DataW.TrodAll]at h
  obtain⟨p,q,h1,h2,rfl⟩:=h
  obtain⟨htL,htS⟩:=hl t (by simp)
  obtain⟨τ,hτ⟩:=Option.isSome_iff_exists.1 htS
  simp only[DataW.weightsEach,List.mem_append]at hw
  obtain⟨n,row,h3,h4,h5⟩:=open_arg hty hL htL hτ (hok 0 t v rfl rfl) h1 fun m hm=>hw m (.inl hm)
  obtain⟨axs,h6,h7,h8⟩:=open_args hty hL ts vs ds q (fun t ht=>hl t (by simp[ht])) h2 (fun j t v ht hv=>hok (j+1) t v (by simpa using ht) (by simpa using hv)) fun m hm=>hw m (.inr hm)
  exact⟨avOf τ row::axs,by simp only[RVs];exact⟨h5,h6⟩,⟨⟨n,τ,row,hτ,h3,h4,rfl⟩,h7⟩,by simp[h8]⟩

theorem trodAll_stays (hl:laidOutB P=true){W W':World}(hb:Below W.heap.size W W'){sp:Nat→Bool}:∀ (ts:List Nat) (vs:List Value) (ds:List (DataW H)) (ps:List MemPlace),(∀t∈ts,P.readableRec t=true∧t<P.types.size)→DataW.TrodAll enc P W 0 (fun _=>true) true ts vs ds ps →
  (∀p∈ps,p.block<W.heap.size∧sp p.block=true)→DataW.TrodAll enc P W' 0 sp true ts vs ds ps
 |[],[],[],_,_,h,_=>h
 |[],_::_,_,_,_,h,_=>by simp[DataW.TrodAll]at h
 |[],[],_::_,_,_,h,_=>by simp[DataW.TrodAll]at h
 |_::_,[],_,_,_,h,_=>by simp[DataW.TrodAll]at h
 |_::_,_::_,[],_,_,h,_=>by simp[DataW.TrodAll]at h
 |t::ts,v::vs,d::ds,ps,hr,h,hp=>by
  simp only[DataW.TrodAll]at h ⊢
  obtain⟨p,q,h1,h2,rfl⟩:=h
  obtain⟨hr1,hr2⟩:=hr t (by simp)
  exact⟨p,q,WideElems.Trod_stays hl hr1 hr2 h1 (fun x hx=>hb.same (hp x (by simp[hx])).1) (fun x hx=>(hp x (by simp[hx])).2),
   trodAll_stays hl hb ts vs ds q (fun t ht=>hr t (by simp[ht])) h2 (fun x hx=>hp x (by simp[hx])),rfl⟩

theorem law_post {f:Func}{s:ChangeSpec}{apart fresh handsOn again:Bool}{W W':World}{args:Array Value}{v:Value}{ds gs:List (DataW H)}{before pa pv:List MemPlace}
  (hW:DataW.Whole enc P f.params.toList s.vars apart W args.toList ds gs before)
  (hres:∀ (b:Nat) (sp:Nat→Bool) (hd:Bool),DataW.TrodAll enc P W' b sp hd f.resultTypes.toList (v.resultList f.resultTypes.size) (s.fn H (ds++gs)).results [])
  (hargs:∀sp:Nat→Bool,(∀p∈before,sp p.block=true)→DataW.TrodAll enc P W' 0 sp true f.params.toList args.toList (s.fn H (ds++gs)).args pa)
  (hvars:∀sp:Nat→Bool,(∀p∈before,sp p.block=true)→DataW.TrodVars enc P W' sp s.vars (s.fn H (ds++gs)).vars pv)
  (hps:before=pa++pv) (hb:Below W.heap.size W W')
  (hok:∀ (j:Nat) (t:TypeId) (r:Value),f.resultTypes[j]? = some t→(v.resultList f.resultTypes.size)[j]? = some r→Value.okWide P W' .any 0 t r) :
  s.post enc P f apart fresh handsOn again W args v W':=by
 have hlt:∀p∈before,p.block<W.heap.size:=fun p hp=>hW.lt p hp
 have hold:∀p∈before,(fun b=>decide (b<W.heap.size)) p.block=true:=fun p hp=>by simpa using hlt p hp
 refine⟨ds,gs,before,[],pa,pv,hW,hres _ _ _,hargs _ hold,hvars _ hold,World.keptBut_mono (fun p hp=>⟨hp,?_⟩) (hb.frame (· ∈ before)),fun _=>?_⟩
 ·rw [hps,List.mem_append] at hp
  exact Or.inr hp
 ·obtain ⟨_,_,_,_,_,hz,hn⟩:=hW
  refine⟨hok,_,_,([]++pa)++pv,⟨[]++pa,pv,trodAll_append (hargs _ (fun _ _=>rfl)) (hres _ _ _),hvars _ (fun _ _=>rfl),rfl,?_,?_⟩,?_⟩
  ·intro b off hp
   have hin:MemPlace.cell b off∈before:=by rw[hps];simpa using hp
   rw[hb.frozen (hlt _ hin)]
   exact hz b off hin
  ·intro ha
   have:=hn ha
   rw[hps]at this
   simpa using this
  ·intro p hp _
   rw[hps]
   simpa using hp

structure LawSpec (s:ChangeSpec) (n:Nat):Prop where
 vars:s.vars=[]
 fn:∀ (H:Type) (ds:List (DataW H)),ds.length=n→s.fn H ds={ results:=[.lit (.bool true)],args:=ds }

theorem law_calls (hty:TyOk P ty){L:List Nat}(hL:∀t∈L,dT ty L t=true)(hl:laidOutB P=true){f:Nat}{fn:Func}{s:ChangeSpec}{apart fresh handsOn again:Bool}{tb:Nat}(hs:LawSpec s fn.params.size)(hr:fn.resultTypes=#[tb])(htb:P.underlying tb=some .bool)
  (hpar:∀t∈fn.params.toList,t∈L∧(ty t).isSome=true) (hrd:∀t∈fn.params.toList,P.readableRec t=true∧t<P.types.size)
  (hctr:∀axs,ArgsAre ty reachBytes fn.params.toList axs→PCtr P f axs (bV true)) {W:World} (hamb:AmbOk P (fun _=>True) W) {base:Nat} {args:Array Value} {ds gs:List (DataW H)} {before:List MemPlace} {vt:List Nat}
  (hok:∀ (j:Nat) t v,fn.params[j]? = some t→args[j]? = some v→Value.okWide P W .any base t v) (hW:DataW.Whole enc P fn.params.toList s.vars apart W args.toList ds gs before)
  (hwt:(DataW.weightsEach P (fn.params.toList++vt) (ds++gs)).all (· ≤ reachBytes)=true) :
  Calls P f args W fun e W'=>∃v,e=.returned v∧s.post enc P fn apart fresh handsOn again W args v W':=by
 have hW':=hW
 obtain⟨p,q,hA,hV,rfl,_,_⟩:=hW
 rw[hs.vars]at hV
 obtain⟨rfl,rfl⟩:=trodVars_none hV
 have hdl:∀ {ts:List Nat} {vs:List Value} {ds:List (DataW H)} {ps:List MemPlace},DataW.TrodAll enc P W 0 (fun _=>true) true ts vs ds ps→ds.length=ts.length:=by
  intro ts
  induction ts with
  |nil=>intro vs ds ps h;cases vs<;>cases ds<;>simp[DataW.TrodAll]at h ⊢
  |cons t ts ih=>intro vs ds ps h;cases vs<;>cases ds<;>simp[DataW.TrodAll]at h ⊢;obtain⟨_,_,_,h,_⟩:=h;exact ih h
 have hlen:=hdl hA
 have hw:∀m∈DataW.weightsEach P fn.params.toList ds,m≤reachBytes:=fun m hm=>by
  have key:∀ (ts vt:List Nat) (ds:List (DataW H)),ds.length=ts.length→DataW.weightsEach P (ts++vt) (ds++[])=DataW.weightsEach P ts ds:=by
   intro ts
   induction ts with
   |nil=>intro vt ds h;have:ds=[]:=List.length_eq_zero_iff.1 (by simpa using h);subst this;cases vt<;>simp[DataW.weightsEach]
   |cons t ts ih=>intro vt ds h;cases ds with
    |nil=>simp at h
    |cons d ds=>simp only[List.cons_append,DataW.weightsEach];rw[ih vt ds (by simpa using h)]
  rw[key _ _ _ hlen,List.all_eq_true]at hwt
  simpa using hwt m hm
 obtain⟨axs,h1,h2,_⟩:=open_args hty hL fn.params.toList args.toList ds p hpar hA (fun j t v ht hv=>hok j t v (by simpa using ht) (by simpa using hv)) hw
 have hc:=(hctr axs h2).run (fun _=>True) W args.toList hamb (fun _ _=>trivial) h1
 rw[show args.toList.toArray=args from by simp]at hc
 refine hc.mono ?_
 rintro e W' ⟨v,rfl,hv,hb⟩
 simp only[bV,RV]at hv
 cases hv
 have hds:ds.length=fn.params.size:=by rw[hlen];simp
 have hfn:s.fn H (ds++[])={ results:=[.lit (.bool true)],args:=ds }:=by rw[List.append_nil];exact hs.fn H ds hds
 refine⟨_,rfl,law_post (pa:=p) (pv:=[]) hW' (fun b sp hd=>?_) (fun sp hsp=>?_) (fun sp hsp=>?_) rfl hb ?_⟩
 ·rw [hfn,hr]
  exact trodAll_mk1 (shut_bool htb true)
 ·rw [hfn]
  exact trodAll_stays hl hb _ _ _ _ hrd hA fun x hx=>⟨hW'.lt x (by simp[hx]),hsp x (by simp[hx])⟩
 ·rw[hfn,hs.vars];rfl
 ·exact ok_one hr rfl (okWide_bool_mk htb true)
end
end PSL
namespace PSL
open Go Go.RowKit
section
variable {g:G} {pf:Nat→Cls} {ops:Array Oper} {Fin:Exit→Act→World→Prop}

open Classical in
theorem R_loadD (hg:GOk g){dst:Option Nat}{T:Nat}{x:Operand}{ty:Nat}{pos:String}{after:Array Edge}{gd:Option (Nat × Bool)}{rest:List Oper}{k:List It}{E:Env}{objs:List Ob}
  {l:List D} {τ:Ty} {v:AV}
  (hgd:guardA ops.toList E gd=some true) (hd:dstOk ⟨g.ty,g.N⟩ dst=true) (hx:ev E x=.d (.ptr l)) (hT:g.ty T=some τ) (hp:packA τ (l.map .d) 0=some v)
  (hr:R g pf Fin (.dr ops rest::k) (putO E dst v) objs):R g pf Fin (.dr ops (⟨dst,.load T x,ty,pos,after,gd⟩::rest)::k) E objs:=by
 refine R_op (LocOp.quiet hg hgd hd (by simp) fun φ o₁ a w hρ hs=>?_) hr
 simp only[Op.operands]at hρ
 have hxv:=hρ x (by simp)
 rw[hx]at hxv
 refine stepOp_ok (ρA:=fun y=>if y=x then .d (.ptr l) else .any) hg.ty hs (fun y=>?_) ?_
 ·split
  ·rename_i h;rw[h];exact hxv
  ·simp[RV]
 ·simp only[stepOp,stepS,stepL,hT,if_true,hp]

open Classical in
theorem R_loadJ (hg:GOk g)(m:Nat){dst:Option Nat}{T:Nat}{x:Operand}{ty:Nat}{pos:String}{after:Array Edge}{gd:Option (Nat × Bool)}{rest:List Oper}{k:List It}{E:Env}{objs:List Ob}
  {i off:Nat} {l:List AV} {τ:Ty} {v:AV} (hi:¬ mayO g.φ0.length m i (.box l))
  (hgd:guardA ops.toList E gd=some true) (hd:dstOk ⟨g.ty,g.N⟩ dst=true) (hcl:ldClsAt pf x=.look (m+1)) (hx:ev E x=.lo i off) (ho:nth objs i=some (.box l)) (hT:g.ty T=some τ) (hp:packA τ l off=some v)
  (hr:R g pf Fin (.dr ops rest::k) (putO E dst v) objs):R g pf Fin (.dr ops (⟨dst,.load T x,ty,pos,after,gd⟩::rest)::k) E objs:=by
 refine R_op ?_ hr
 simp only[clsOf,hcl]
 refine LocOp.lookingM hg m hgd hd (by simp) fun φ a w objs₁ hgr hρ hs=>?_
 simp only[Op.operands]at hρ
 have hxv:=hρ x (by simp)
 rw[hx]at hxv
 have hxv':=hxv
 simp only[RV]at hxv'
 obtain⟨b,hb,_⟩:=hxv'
 have ho:nth objs₁ i=some (.box l):=by
  rw[nth_eq]at ho ⊢
  exact Gr.same' hgr ho (by rw[← hs.len];exact(List.getElem?_eq_some_iff.1 hb).1) hi
 refine stepOp_ok (ρA:=fun y=>if y=x then .lo i off else .any) hg.ty hs (fun y=>?_) ?_
 ·split
  ·rename_i h;rw[h];exact hxv
  ·simp[RV]
 ·simp only[stepOp,stepS,stepL,hT,if_true,ho,hp]

theorem R_load4 (hg:GOk g){dst:Option Nat}{T:Nat}{x:Operand}{ty:Nat}{pos:String}{after:Array Edge}{gd:Option (Nat × Bool)}{rest:List Oper}{k:List It}{E:Env}{objs:List Ob}
  {i off:Nat} {l:List AV} {τ:Ty} {v:AV} (hi:g.φ0.length≤i)
  (hgd:guardA ops.toList E gd=some true) (hd:dstOk ⟨g.ty,g.N⟩ dst=true) (hcl:ldClsAt pf x=.look 4) (hx:ev E x=.lo i off) (ho:nth objs i=some (.box l)) (hT:g.ty T=some τ) (hp:packA τ l off=some v)
  (hr:R g pf Fin (.dr ops rest::k) (putO E dst v) objs):R g pf Fin (.dr ops (⟨dst,.load T x,ty,pos,after,gd⟩::rest)::k) E objs :=
 R_loadJ hg 3 (by unfold mayO Ob.lvl;simp only;rw[if_neg (by omega)];omega) hgd hd hcl hx ho hT hp hr

open Classical in
theorem R_storeJ (hg:GOk g){dst:Option Nat}{T:Nat}{d x:Operand}{ty:Nat}{pos:String}{after:Array Edge}{gd:Option (Nat × Bool)}{rest:List Oper}{k:List It}{E:Env}{objs:List Ob}
  {i off:Nat} {l new:List AV} {τ:Ty}
  (hgd:guardA ops.toList E gd=some true) (hd:dstOk ⟨g.ty,g.N⟩ dst=true) (hcl:stClsAt pf d=.turn (Nat.add 100 i)) (hx:ev E d=.lo i off) (ho:nth objs i=some (.box l)) (hT:g.ty T=some τ) (hc:cellsO (ev E x)=some new)
  (hl:Nat.beq (len new) τ.size=true) (hfit:Nat.ble (Nat.add off τ.size) (len l)=true)
  (hr:R g pf Fin (.dr ops rest::k) (putO E dst .any) (setN objs i (.box (spliceA l off new)))):R g pf Fin (.dr ops (⟨dst,.store T d x,ty,pos,after,gd⟩::rest)::k) E objs:=by
 refine R_op ?_ hr
 simp only[clsOf,hcl]
 refine .of_out hg (guardA_ok hgd) (dstOk_ok hd) (by simp) (fun h=>absurd rfl (h _)) (fun b hb _=>?_) fun φ o₁ o₁' a w E₁ hent hv ho' hs=>?_
 ·cases hb
  intro j y hj
  rw[nth_eq]at ho
  rw[setN_eq]
  by_cases e:j=i
  ·subst e
   exact⟨_,List.getElem?_set_self (List.getElem?_eq_some_iff.1 ho).1,.inr ⟨.inr (.inl rfl),.inr (.inl rfl)⟩⟩
  ·exact⟨y,by rw[List.getElem?_set_ne (fun h=>e h.symm)];exact hj,.inl rfl⟩
 ·rcases ho' with ⟨h,_⟩ | ⟨_,h,_⟩ | ⟨rfl,rfl⟩
  ·cases h
  ·cases h
  have hρ:=rv_ops hent hv
  simp only[Op.operands]at hρ
  refine stepOp_ok (ρA:=fun y=>if y=d then .lo i off else if y=x then ev E x else .any) hg.ty hs (fun y=>?_) ?_
  ·split
   ·rename_i h;rw[h,← hx];exact hρ d (by simp)
   ·split
    ·rename_i h;rw[h];exact hρ x (by simp)
    ·simp[RV]
  ·have hxx:(if x=d then AV.lo i off else if x=x then ev E x else .any)=ev E x:=by
    split
    ·rename_i h;rw[h,hx]
    ·rw[if_pos rfl]
   have hxx':(if x=d then AV.lo i off else ev E x)=ev E x:=by rw[if_pos rfl]at hxx;exact hxx
   simp only[stepOp,stepS,stepL,stepE,hT,if_true,ho,hxx',hc,hl,hfit,cond_true]

theorem R_callS3 (hg:GOk g)(hu:GUp g)(hF:g.F=Fence.wide∧g.dep=0)(hY:∀ (i l:Nat) (I:Nat→(Nat→Prop)→(Nat→Prop)→World→Prop) (B:Nat→Prop),g.φ0[i]? = some (Phy.ext l I B)→YStep g.P Fence.wide 0 g.Y l I g.S0)(is:List Nat)(objs':List Ob){Y:YP}{f:Nat}{axs:List AV}{objs0 objs1:List Ob}{r:AV}(hc:SCtr g.P Y f axs objs0 r objs1)(hcc:(∃ (i l:Nat) (I:Nat→(Nat→Prop)→(Nat→Prop)→World→Prop) (B:Nat→Prop),g.φ0[i]? = some (Phy.ext l I B))→Y=g.Y){dst:Option Nat}{x:Operand}{args:Array Operand}{ts:Array Nat}{ty:Nat}{pos:String}{after:Array Edge}{gd:Option (Nat × Bool)}
  {rest:List Oper} {k:List It} {E:Env} {objs:List Ob} {fs cs:List AV} (hlt:∀i∈is,i<g.φ0.length)
  (hgd:guardA ops.toList E gd=some true) (hd:dstOk ⟨g.ty,g.N⟩ dst=true) (hcl:clsOf pf (.call { callee:=.value x,args:=args,argTypes:=ts })=.turn 3) (hx:ev E x=.clo f fs cs) (hok:isOk (len objs) is=true) (hpick:pickN objs is=some (objs0.map (renOb (rn is (len objs)))))
  (has:(fs++args.toList.map (ev E)++cs).map nrm=renL (rn is (len objs)) axs) (ho:putAll is (objs1.map (renOb (rn is (len objs)))) objs=objs')
  (hr:R g pf Fin (.dr ops rest::k) (putO E dst (renA (rn is (len objs)) r)) objs') :
  R g pf Fin (.dr ops (⟨dst,.call { callee:=.value x,args:=args,argTypes:=ts },ty,pos,after,gd⟩::rest)::k) E objs:=by
 subst ho
 refine R_op ?_ hr
 show LocOp g ops _ E objs (clsOf pf (.call { callee:=.value x,args:=args,argTypes:=ts })) _ _
 rw[hcl]
 have h:=loc_callS (ops:=ops) (after:=after) (pos:=pos) (ty:=ty) (ts:=ts) (dst:=dst) hg hu hF hY is hc hcc hgd hd hx hok hpick has
 obtain⟨hnd,hlo⟩:=isOk_spec hok
 rw[len_eq]at hlo
 have hl0:is.length≤objs1.length:=by
  have h1:=pickN_len hpick
  have h2:=hc.len
  simp at h1;omega
 refine⟨fun hn=>absurd rfl (hn 3),fun b hb _=>?_,fun E₁ o₁ o₁' a w h1 h2 h3=>h.step E₁ o₁ o₁' a w h1 (by
  rcases h2 with ⟨h2,_⟩ |⟨m,h2,_⟩ |h2
  ·cases h2
  ·cases h2
  ·exact .inr (.inr h2)) h3⟩
 cases hb
 intro i y hi
 have hil:=(List.getElem?_eq_some_iff.1 hi).1
 by_cases hm:i∈is
 ·have hil2:=hlt i hm
  have:i<(putAll is (objs1.map (renOb (rn is (len objs)))) objs).length:=by
   rw[putAll_length (by simpa using hl0)];omega
  refine⟨_,List.getElem?_eq_getElem this,.inr ⟨?_,?_⟩⟩
  ·exact .inl ⟨by omega,by unfold Ob.lvl;split<;>(try split)<;>omega⟩
  ·exact .inl ⟨by omega,by unfold Ob.lvl;split<;>(try split)<;>omega⟩
 ·exact⟨y,by rw[putAll_other hm hil];exact hi,.inl rfl⟩
end
end PSL
namespace PSL
open Go Go.RowKit
section
variable {g:G} {pf:Nat→Cls} {ops:Array Oper} {Fin:Exit→Act→World→Prop}

theorem R_buildA (hg:GOk g){dst:Option Nat}{T:Nat}{parts:Array (Nat × Operand)}{ty:Nat}{pos:String}{after:Array Edge}{gd:Option (Nat × Bool)}{rest:List Oper}{k:List It}{E:Env}{objs:List Ob}
  {n sz by_ e:Nat} {z:List Value} {τ:Ty} {rows:List (List D)} (l:List AV)
  (hgd:guardA ops.toList E gd=some true) (hd:dstOk ⟨g.ty,g.N⟩ dst=true) (hT:g.ty T=some ⟨sz,by_,z,.array n e⟩) (he:g.ty e=some τ)
  (hrows:rowsOf (parts.toList.map fun p=>(p.1,ev E p.2)) 0 τ.size=some rows) (hn:parts.size=n) (hsz:sz=n * τ.size) (hl:rows.flatten.map AV.d=l)
  (hr:R g pf Fin (.dr ops rest::k) (putO E dst (.agg l)) objs):R g pf Fin (.dr ops (⟨dst,.build T parts,ty,pos,after,gd⟩::rest)::k) E objs:=by
 subst hl
 refine R_op (LocOp.quiet hg hgd hd (by simp) fun φ o₁ a w hρ hs=>?_) hr
 simp only[Op.operands]at hρ
 have hτ:=hg.ty _ _ hT
 have hτe:=hg.ty _ _ he
 have hsh:=hτ.sh
 simp only[ShFact]at hsh
 obtain⟨zv,hz1,hz2⟩:=run_zeroValue hτ w
 have hzl:=hτ.zl
 have hzs:zv.cells.toList.length=n * τ.size:=by rw[hz2,hzl];exact hsz
 have hpm:(parts.map fun (i,x)=>(i,a.eval x)).toList=parts.toList.map fun p=>(p.1,a.eval p.2):=by simp[Array.toList_map]
 have hev:∀p∈parts.toList,RV (SS g.S0 φ) w φ (ev E p.2) (a.eval p.2):=fun p hp=>hρ p.2 (by simp at hp ⊢;exact⟨p.1,hp⟩)
 obtain ⟨cells,h1,h2,h2',h3⟩:=rows_fill (S0:=g.S0) (φ:=φ) (w:=w) hτe (parts.toList.map fun p=>(p.1,ev E p.2)) (parts.toList.map fun p=>(p.1,a.eval p.2)) 0 rows [] zv.cells.toList
  (by simp[List.map_map,Function.comp_def]) (by simp only[List.map_map];exact RVs.map _ _ _ fun p hp=>hev p hp) hrows (by simp) (by rw[hzs,← hn];simp)
 simp only[List.nil_append]at h1
 refine out_val hs (vv:=.agg cells.toArray) ?_ ?_
 ·have hrun:(Instr.build T (parts.map fun (i,x)=>(i,a.eval x))).run g.P w=.ok (.agg cells.toArray) w:=by
   have hzc:zv.cells=zv.cells.toList.toArray:=by simp
   simp only[Instr.build,Sem.run_bind,hz1,Result.andThen_ok,underlying,run_program,hsh,Sem.run_pure,run_sizeOf hτe,hpm]
   rw[hzc,h1]
   simp
  simp only[execOp,Sem.run_bind,hrun,Result.andThen_ok,Sem.run_pure]
 ·simp only [RV]
  refine⟨cells,rfl,?_⟩
  have hfl:∀ (rs:List (List D)) (cs:List Value),cs.length=rs.length * τ.size→(∀ (i:Nat) (r:List D),rs[i]? = some r→r.length=τ.size∧∀ (j:Nat) (x:D),r[j]? = some x→∃v,cs[i * τ.size+j]? = some v∧Rd (SS g.S0 φ) w x v)→RVs (SS g.S0 φ) w φ (rs.flatten.map AV.d) cs:=by
   intro rs
   induction rs with
   |nil=>intro cs hc _;have:cs=[]:=List.length_eq_zero_iff.1 (by simpa using hc);subst this;simp[RVs]
   |cons r rs ih =>
    intro cs hc hg
    obtain⟨g1,g2⟩:=hg 0 r rfl
    have hlen:τ.size≤cs.length:=by rw[hc,List.length_cons,Nat.succ_mul];omega
    rw[List.flatten_cons,List.map_append,← List.take_append_drop τ.size cs]
    refine RVs.append (RVs.of_get (by simp[g1];omega) fun j u v hu hv=>?_) (ih _ (by rw[List.length_drop,hc,List.length_cons,Nat.succ_mul];omega) fun i r' hi=>?_)
    ·rw [List.getElem?_map] at hu
     cases hj:r[j]? with
     |none=>rw[hj]at hu;cases hu
     |some x =>
      rw[hj]at hu;simp only[Option.map_some,Option.some.injEq]at hu;subst hu
      obtain⟨v',h4,h5⟩:=g2 j x hj
      have hjl:=(List.getElem?_eq_some_iff.1 hj).1
      rw[List.getElem?_take_of_lt (by omega)]at hv
      rw[Nat.zero_mul,Nat.zero_add,hv]at h4;cases h4
      simpa only[RV]using h5
    ·obtain ⟨g3,g4⟩:=hg (i+1) r' (by simpa using hi)
     refine⟨g3,fun j x hj=>?_⟩
     obtain⟨v,h4,h5⟩:=g4 j x hj
     refine⟨v,?_,h5⟩
     rw[List.getElem?_drop,← h4];congr 1;rw[Nat.succ_mul];omega
  exact hfl rows cells h2 h3
end
end PSL
namespace PSL
open Go Go.RowKit
section
variable {g:G} {pf:Nat→Cls} {ops:Array Oper} {Fin:Exit→Act→World→Prop}
end
end PSL
namespace PSL
open Go Go.RowKit Go.MapKept

mutual
def frzM (i:Nat) (ds:List (Value × D)):AV→AV
 | .ow j t=>bif Nat.beq j i then .any else .ow j t
 | .el j t r o=>bif Nat.beq j i then .any else .el j t r o
 | .vw j t r=>bif Nat.beq j i then .any else .vw j t r
 | .lo j o=>bif Nat.beq j i then .any else .lo j o
 | .mp j=>bif Nat.beq j i then .d (.map ds) else .mp j
 | .yl j=>bif Nat.beq j i then .any else .yl j
 | .agg l=>.agg (frzN i ds l)
 | .tup l=>.tup (frzN i ds l)
 | .clo f a c=>.clo f (frzN i ds a) (frzN i ds c)
 | .any=>.any
 | .tt=>.tt
 | .ff=>.ff
 | .d x=>.d x
 | .fs r=>.fs r
def frzN (i:Nat) (ds:List (Value × D)):List AV→List AV
 |[]=>[]
 |x::l=>frzM i ds x::frzN i ds l
end

mutual
theorem frzM_ok {S S':Nat→Prop}{w:World}{φ φ':List Phy}{i:Nat}{ds:List (Value × D)}(hk:Keep S w S' w)(hp:∀j,j≠i→φ'[j]? = φ[j]?)(ho:∀v,RV S w φ (.mp i) v→Rd S' w (.map ds) v) :
  ∀ (x:AV) (v:Value),RV S w φ x v→RV S' w φ' (frzM i ds x) v
 | .any,_,_=>by simp[RV,frzM]
 | .tt,_,h=>by simpa[RV,frzM]using h
 | .ff,_,h=>by simpa[RV,frzM]using h
 | .d x,v,h=>by simp only[RV,frzM]at h ⊢;exact h.mono hk
 | .fs rows,v,h=>by simp only[RV,frzM]at h ⊢;exact⟨h.1.mono hk,h.2⟩
 | .agg l,v,h=>by
  simp only[RV,frzM]at h ⊢
  obtain⟨cs,h1,h2⟩:=h
  exact⟨cs,h1,frzN_ok hk hp ho l cs h2⟩
 | .lo j off,v,h=>by
  simp only[frzM]
  cases hj:Nat.beq j i
  ·have:j≠i:=fun e=>by subst e; simp at hj
   simp only[RV,cond_false]at h ⊢;rw[hp j this];exact h
  ·simp[RV]
 | .el j t r o,v,h=>by
  simp only[frzM]
  cases hj:Nat.beq j i
  ·have:j≠i:=fun e=>by subst e; simp at hj
   simp only[RV,cond_false]at h ⊢;rw[hp j this];exact h
  ·simp[RV]
 | .vw j t r,v,h=>by
  simp only[frzM]
  cases hj:Nat.beq j i
  ·have:j≠i:=fun e=>by subst e; simp at hj
   simp only[RV,cond_false]at h ⊢;rw[hp j this];exact h
  ·simp[RV]
 | .mp j,v,h=>by
  simp only[frzM]
  cases hj:Nat.beq j i
  ·have:j≠i:=fun e=>by subst e; simp at hj
   simp only[cond_false]
   simp only[RV]at h ⊢;rw[hp j this];exact h
  ·have:=natBeq hj; subst this
   simp only[cond_true]
   have:=ho v h
   simpa only[RV]using this
 | .yl j,v,h=>by
  simp only[frzM]
  cases hj:Nat.beq j i
  ·have:j≠i:=fun e=>by subst e; simp at hj
   simp only[RV,cond_false]at h ⊢;rw[hp j this];exact h
  ·simp[RV]
 | .ow j t,v,h=>by
  simp only[frzM]
  cases hj:Nat.beq j i
  ·have:j≠i:=fun e=>by subst e; simp at hj
   simp only[RV,cond_false]at h ⊢;rw[hp j this];exact h
  ·simp[RV]
 | .tup l,v,h=>by
  simp only[RV,frzM]at h ⊢
  obtain⟨cs,h1,h2⟩:=h
  exact⟨cs,h1,frzN_ok hk hp ho l cs h2⟩
 | .clo f a c,v,h=>by
  simp only[RV,frzM]at h ⊢
  obtain⟨va,vc,h1,h2,h3⟩:=h
  exact⟨va,vc,h1,frzN_ok hk hp ho a va h2,frzN_ok hk hp ho c vc h3⟩
theorem frzN_ok {S S':Nat→Prop}{w:World}{φ φ':List Phy}{i:Nat}{ds:List (Value × D)}(hk:Keep S w S' w)(hp:∀j,j≠i→φ'[j]? = φ[j]?)(ho:∀v,RV S w φ (.mp i) v→Rd S' w (.map ds) v) :
  ∀ (l:List AV) (vs:List Value),RVs S w φ l vs→RVs S' w φ' (frzN i ds l) vs
 |[],[],_=>by simp[RVs,frzN]
 |[],_::_,h=>by simp[RVs]at h
 |_::_,[],h=>by simp[RVs]at h
 |a::l,v::vs,h=>by
  simp only[RVs,frzN]at h ⊢
  exact⟨frzM_ok hk hp ho a v h.1,frzN_ok hk hp ho l vs h.2⟩
end
section
variable {g:G} {pf:Nat→Cls} {ops:Array Oper} {Fin:Exit→Act→World→Prop}

theorem R_freezeM (hu:GUp g){k:List It}{E:Env}{objs:List Ob}(i:Nat)(ds:List (Value × D))(hn:g.φ0.length≤i)(ho:nth objs i=some (.map (ds.map fun p=>(p.1,AV.d p.2))))(ht:topCode k=true)
  (hr:R g pf Fin k (mapE (frzM i ds) E) (setN (objs.map (mapOb (frzM i ds))) i .dead)) (hdf:g.dfs=[]:=by rfl):R g pf Fin k E objs:=by
 refine R_ghost ht (fun a w hs=>?_) hr
 obtain⟨φ,h1,h2,h3,h4,h5,h6⟩:=hs
 rw[nth_eq]at ho
 have hil:=(List.getElem?_eq_some_iff.1 ho).1
 have hiφ:i<φ.length:=by rw[h1.len];exact hil
 have hbl0:∀b,bls φ b→g.S0 b:=fun b hb=>(h2 b hb).elim (hu.up b) (hu.x b)
 have hbl:∀b,bls (φ.set i .no) b→bls φ b:=fun b hb=>by
  rcases bls_set hb with ⟨j,q,_,g1,g2⟩ |g1
  ·exact⟨j,q,g1,g2⟩
  ·simp[Phy.bl]at g1
 have hp:∀j,j≠i→(φ.set i .no)[j]? = φ[j]? := fun j hj=>List.getElem?_set_ne (fun e=>hj e.symm)
 have hkeep:Keep (SS g.S0 φ) w (SS g.S0 (φ.set i .no)) w:=fun b hb _=>⟨⟨hb.1,fun hc=>hb.2 (hbl b hc)⟩,rfl⟩
 have hph:φ[i]? = some φ[i]:=List.getElem?_eq_getElem hiφ
 -- the object's block is free of objects from now on
 have hrd:∀v,RV (SS g.S0 φ) w φ (.mp i) v→Rd (SS g.S0 (φ.set i .no)) w (.map ds) v:=fun v hv=>by
  simp only[RV]at hv
  obtain⟨b,hph,rfl⟩:=hv
  have hk:=h1.ok i _ _ hph ho
  simp only[ObOk]at hk
  obtain⟨ents,clk,hheap,hkeys,hvals⟩:=hk
  have hb:bls φ b:=⟨i,_,hph,rfl⟩
  have hnb:¬ bls (φ.set i .no) b:=fun hc=>by
   rcases bls_set hc with ⟨j,q,hj,g1,g2⟩ |g1
   ·exact hj (h1.dist _ _ _ _ _ g1 hph g2 rfl)
   ·simp[Phy.bl]at g1
  have key:∀ (j:Nat) (x:Value × D),ds[j]? = some x→∃e,ents[j]? = some e∧Rd (SS g.S0 φ) w x.2 e.val:=fun j x hj=>by
   obtain⟨u,g1,g2⟩:=hvals.get j (x:=.d x.2) (by simp[hj])
   rw[List.getElem?_map,Array.getElem?_toList]at g1
   cases he:ents[j]? with
   |none=>rw[he]at g1;cases g1
   |some e=>rw[he]at g1;simp at g1;subst g1;exact⟨e,rfl,by simpa only[RV]using g2⟩
  refine Rd.map (fun j=>((ents[j]?).map (·.val)).getD undef) ⟨hbl0 b hb,hnb⟩ hheap (by simpa[List.map_map,Function.comp_def]using hkeys) (fun j x hj=>?_) (fun j x hj=>?_)
  ·obtain ⟨e,g1,_⟩:=key j x hj
   simp[g1]
  ·obtain ⟨e,g1,g2⟩:=key j x hj
   simp only[g1,Option.map_some,Option.getD_some];exact g2.mono hkeep
 have hf:=frzM_ok (ds:=ds) hkeep hp hrd
 refine⟨φ.set i .no,h1.remap (frzM i ds) (by rw[setN_eq];simp[h1.len]) (fun j p b hj hb=>?_) (fun j ob' hj=>?_) hf,fun b hb=>h2 b (hbl b hb),fun u=>?_,h4,Mks.phs hdf h5 hbl,h6.phs (fun j l I B h=>⟨B,by
  by_cases hji:j=i
  ·subst hji;rw[List.getElem?_set_self hiφ]at h;cases h
  ·rw[hp j hji]at h;exact h⟩) (fun j p hi=>by
  obtain⟨p',h7,h8⟩:=h6.le j p hi
  by_cases hji:j=i
  ·subst hji
   have:=(List.getElem?_eq_some_iff.1 hi).1
   omega
  ·exact⟨p',by rw[hp j hji];exact h7,h8⟩)⟩
 ·by_cases hji:j=i
  ·subst hji;rw[List.getElem?_set_self hiφ]at hj;cases hj;exact hb.elim
  ·rw[hp j hji]at hj;exact⟨p,hj,hb⟩
 ·rw [setN_eq] at hj
  by_cases hji:j=i
  ·subst hji;rw[List.getElem?_set_self (by simpa using hil)]at hj;cases hj;exact .inl rfl
  ·rw [List.getElem?_set_ne (fun e=>hji e.symm),List.getElem?_map] at hj
   cases ho:objs[j]? with
   |none=>rw[ho]at hj;cases hj
   |some ob=>rw[ho]at hj;exact .inr (.inl ⟨ob,rfl,hp j hji,by simpa using hj.symm⟩)
 ·rcases lk_mapE (f:=frzM i ds) E u with h | h
  ·rw[h];exact hf _ _ (h3 u)
  ·rw[h];simp[RV]

theorem R_lookupD (hg:GOk g){dst:Option Nat}{T:Nat}{x y:Operand}{ok:Bool}{ty:Nat}{pos:String}{after:Array Edge}{gd:Option (Nat × Bool)}{rest:List Oper}{k:List It}{E:Env}{objs:List Ob}
  {q by_ kt et:Nat} {ds:List (Value × D)} {z:List Value} {kv zv:Value} {kd:TypeDesc} {r:Option (Nat × AV)}
  (hgd:guardA ops.toList E gd=some true) (hd:dstOk ⟨g.ty,g.N⟩ dst=true) (hx:ev E x=.d (.map ds)) (hy:ev E y=.d (.v kv)) (hT:g.ty T=some ⟨q,by_,z,.map kt et⟩)
  (hkt:g.P.underlying kt=some kd) (hkey:IsKey kd kv) (hf:findA kd kv (ds.map fun p=>(p.1,AV.d p.2)) 0=some r) (hz:(g.P.info? et).bind (·.zero)=some zv)
  (hr:R g pf Fin (.dr ops rest::k) (putO E dst (lookA ok (cstV zv) r)) objs):R g pf Fin (.dr ops (⟨dst,.lookup T x y ok,ty,pos,after,gd⟩::rest)::k) E objs:=by
 refine R_op (LocOp.quiet hg hgd hd (by simp) fun φ objs₁ a w hρ hs=>?_) hr
 simp only[Op.operands]at hρ
 have hxv:=hρ x (by simp)
 rw[hx]at hxv
 have hyv:=hρ y (by simp)
 rw[hy]at hyv
 simp only[RV]at hxv hyv
 generalize hvy:a.eval y=vy at hyv
 cases hyv
 generalize hxe:a.eval x=vx at hxv
 obtain⟨b,ents,clk,rfl,hheap,hents⟩:∃ (b:Nat) (ents:Array MapEntry) (clk:Nat),vx=.map (some b)∧w.heap[b]? = some (.map ents clk)∧EntsOk (SS g.S0 φ) w φ (ds.map fun p=>(p.1,AV.d p.2)) ents.toList:=by
  cases hxv with
  |map g' hS hb hk hg' hr' =>
   refine⟨_,_,_,rfl,hb,by simpa[List.map_map,Function.comp_def]using hk,?_⟩
   have hlen:=congrArg List.length hk
   simp only[List.length_map,Array.length_toList]at hlen
   refine RVs.of_get (by simpa using hlen) fun j u v hu hv=>?_
   rw[List.getElem?_map,List.getElem?_map]at hu
   cases hj:ds[j]? with
   |none=>rw[hj]at hu;cases hu
   |some x =>
    rw[hj]at hu;simp at hu;subst hu
    rw[List.getElem?_map,Array.getElem?_toList,hg' j x hj]at hv
    cases hv
    simpa only[RV]using hr' j x hj
 have hT':g.P.underlying T=some (.map kt et):=by have:=(hg.ty _ _ hT).sh;simpa only[ShFact]using this
 have hzero:(zeroValue et).run g.P w=.ok zv w:=by
  obtain⟨inf,h1,h2⟩:=Option.bind_eq_some_iff.1 hz
  simp[zeroValue,typeInfo,h1,h2]
 have hzR:RV (SS g.S0 φ) w φ (cstV zv) zv:=rv_restr (l:=[]) (E:=[]) (E₁:=[]) (a:={ tmps:=#[],defers:=[] }) (by simp) (fun t=>by simp[lk,RV]) (.const zv)
 have hfind:=findA_ok hents hf
 cases r with
 |none =>
  simp only at hfind
  refine out_val hs (vv:=if ok then .tuple #[zv,.bool false] else zv) ?_ ?_
  ·simp[execOp,Instr.lookup,run_underlying hT',hxe,run_getObj_map hheap,hvy,run_checkKey hkt hkey,run_findKey hkt hfind,hzero]
  ·simp only [lookA]
   cases ok
   ·simpa using hzR
   ·simp only [if_true,RV]
    exact⟨[zv,.bool false],rfl,by simp only[RVs,RV,bV,and_true];exact⟨hzR,.v _⟩⟩
 |some p =>
  obtain⟨j,v⟩:=p
  obtain⟨vv,h1,h2,_⟩:=hfind
  refine out_val hs (vv:=if ok then .tuple #[vv,.bool true] else vv) ?_ ?_
  ·simp[execOp,Instr.lookup,run_underlying hT',hxe,run_getObj_map hheap,hvy,run_checkKey hkt hkey,run_findKey hkt h1]
  ·simp only [lookA]
   cases ok
   ·simpa using h2
   ·simp only [if_true,RV]
    exact⟨[vv,.bool true],rfl,by simp only[RVs,RV,bV,and_true];exact⟨h2,.v _⟩⟩
end
end PSL
namespace PSL
open Go Go.RowKit Go.MapKept
section
variable {g:G} {pf:Nat→Cls} {ops:Array Oper} {Fin:Exit→Act→World→Prop}
end
end PSL
namespace PSL
open Go Go.RowKit
def elV (x:Nat × Nat × Nat)(j:Nat):Value:=.pointer (some ⟨x.1,x.2.1+j,none⟩)
section
variable {g:G} {pf:Nat→Cls} {ops:Array Oper} {Fin:Exit→Act→World→Prop}

theorem matHS {S0:Nat→Prop}{φ:List Phy}{objs:List Ob}{w:World}(hs:HS S0 φ objs w){id:Nat}{hds:List (Nat × Nat × Nat)}{rows:List (List D)}(ho:nth objs id=some (.mat hds rows)) :
  φ[id]? = some (.mat (hds.map (·.1)))∧(hds.map (·.1)).Nodup∧rows.length=hds.length∧∀ (i:Nat) (x:Nat × Nat × Nat) (r:List D),hds[i]? = some x→rows[i]? = some r →
   ∃ (cs:List Value) (T:Nat),w.heap[x.1]? = some (.cells cs.toArray T (0,0))∧r.length≤x.2.2∧x.2.2≤maxLen∧x.2.1+r.length≤cs.length∧∀ (j:Nat) (d:D),r[j]? = some d→∃y,cs[x.2.1+j]? = some y∧Rd (SS S0 φ) w d y:=by
 rw[nth_eq]at ho
 have hil:=(List.getElem?_eq_some_iff.1 ho).1
 have hphi:φ[id]? = some (φ[id]'(by rw[hs.len];exact hil)):=List.getElem?_eq_getElem _
 generalize φ[id]'(by rw[hs.len];exact hil)=pi at hphi
 have hki:=hs.ok id pi _ hphi ho
 cases pi<;>try (simp only[ObOk]at hki;done)
 simp only[ObOk]at hki
 obtain⟨hbs,hnd,hrl,hki⟩:=hki
 subst hbs
 exact⟨hphi,hnd,hrl,hki⟩

theorem R_storeM (hg:GOk g){dst:Option Nat}{T:Nat}{p x:Operand}{ty:Nat}{pos:String}{after:Array Edge}{gd:Option (Nat × Bool)}{rest:List Oper}{k:List It}{E:Env}{objs:List Ob}
  (id r:Nat) {j:Nat} {y:Nat × Nat × Nat} {τ:Ty} {hds:List (Nat × Nat × Nat)} {rows:List (List D)} {row:List D} (d:D)
  (hgd:guardA ops.toList E gd=some true) (hd:dstOk ⟨g.ty,g.N⟩ dst=true) (hx:ev E p=.d (.v (elV y j))) (ho:nth objs id=some (.mat hds rows)) (hT:g.ty T=some τ) (hsz:τ.size=1) (hy:hds[r]? = some y) (hrow:rows[r]? = some row) (hjl:j<row.length) {l:List AV} (hc:cellsO (ev E x)=some l) (hdd:toDs l=some [d])
  (hr:R g pf Fin (.dr ops rest::k) (putO E dst .any) (setN objs id (.mat hds (rows.set r (row.set j d))))) (hcl:stClsAt pf p=.eff:=by rfl):R g pf Fin (.dr ops (⟨dst,.store T p x,ty,pos,after,gd⟩::rest)::k) E objs:=by
 refine R_op ?_ hr
 simp only[clsOf,hcl]
 refine LocOp.effect hg hgd hd (by simp) fun φ a w hρ hs=>?_
 simp only[Op.operands]at hρ
 have hxv:=hρ p (by simp)
 rw[hx]at hxv
 have hyv:=hρ x (by simp)
 simp only[RV]at hxv
 generalize hvx:a.eval p=vx at hxv
 cases hxv
 obtain⟨hph,hnd,hrl,hk⟩:=matHS hs ho
 obtain⟨cs,T',hheap,h1,h2,h3,h4⟩:=hk r y row hy hrow
 have hτ:=hg.ty _ _ hT
 obtain⟨hc1,hc2⟩:=cellsO_val hyv hc
 have hc1:=toDs_rvs hc1 hdd
 obtain⟨c,hcl1,hcl2⟩:=hc1.get 0 rfl
 have hc1l:=hc1.length
 simp only[List.length_map,List.length_cons,List.length_nil]at hc1l
 obtain⟨w',hrun,hst⟩:=run_storeVar (P:=g.P) hτ (y.2.1+j) hheap rfl hc2 (by omega) (by omega)
 refine⟨.skip,undef,w',φ.set id (.mat (hds.map (·.1))),?_,.inr ⟨rfl,rfl⟩,by simp[RV],?_⟩
 ·simp only[execOp,Instr.storeAt,Instr.sureAddr,hvx,elV,Sem.run_bind,Sem.run_pure,Result.andThen_ok,hrun]
 rw[setN_eq]
 have hrll:=(List.getElem?_eq_some_iff.1 hrow).1
 refine Stp.swap hs hph (.inl rfl) (by rw[hst.size];exact Nat.le_refl _) (fun c _ hc=>hst.other c fun e=>hc (by rw[e];simp only[Phy.bl,List.mem_map];exact⟨y,List.mem_of_getElem? hy,rfl⟩)) (fun b' hb=>.inl hb) hst.os hst.tape hst.out fun hkeep _=>?_
 simp only[ObOk]
 refine⟨trivial,hnd,by rw[List.length_set];exact hrl,fun i x' r' hi hr'=>?_⟩
 by_cases hir:r=i
 ·subst hir
  rw[List.getElem?_set_self hrll]at hr'
  cases hr'
  rw[hy]at hi;cases hi
  refine⟨splice cs (y.2.1+j) (a.eval x).cells.toList,T',hst.at_,by rw[List.length_set];exact h1,h2,by rw[List.length_set,splice_length];exact h3,fun j' d' hd'=>?_⟩
  rw[splice_get _ _ _ (by omega)]
  by_cases hjj:j=j'
  ·subst hjj
   rw[List.getElem?_set_self hjl]at hd'
   cases hd'
   refine⟨c,?_,?_⟩
   ·rw[if_pos (by omega),Nat.sub_self];exact hcl1
   ·simp only[RV]at hcl2;exact hcl2.mono hkeep
  ·rw [List.getElem?_set_ne hjj] at hd'
   obtain⟨v,h5,h6⟩:=h4 j' d' hd'
   exact⟨v,by rw[if_neg (by omega)];exact h5,h6.mono hkeep⟩
 ·rw [List.getElem?_set_ne hir] at hr'
  obtain⟨cs',T2,g1,g2,g3,g4,g5⟩:=hk i x' r' hi hr'
  have hne:x'.1≠y.1:=fun e=>hir (by
   have e1:(hds.map (·.1))[r]? = some y.1:=by rw[List.getElem?_map,hy];rfl
   have e2:(hds.map (·.1))[i]? = some x'.1:=by rw[List.getElem?_map,hi];rfl
   obtain⟨l1,e1⟩:=List.getElem?_eq_some_iff.1 e1
   obtain⟨l2,e2⟩:=List.getElem?_eq_some_iff.1 e2
   exact(List.getElem_inj hnd).1 (by rw[e1,e2,e]))
  refine⟨cs',T2,(hst.other _ hne).trans g1,g2,g3,g4,fun j' d' hd'=>?_⟩
  obtain⟨v,h5,h6⟩:=g5 j' d' hd'
  exact⟨v,h5,h6.mono hkeep⟩

theorem wp_ops2 {K:Env→List Ob→Prop}{Q:Exit→Act→World→Prop}{more:List Nat}(hQ:∀E objs a w,K E objs→Sat g E objs a w→wpOpsIn g.F g.dep g.P ops Q more a w) :
  ∀ (l:List Oper) (k:Nat) (E:Env) (objs:List Ob) (a:Act) (w:World),(∀ j,j<l.length→l[j]? = ops[k+j]?)→Dr g pf ops l E objs K→Sat g E objs a w →
   wpOpsIn g.F g.dep g.P ops Q (List.range' k l.length++more) a w
 |[],k,E,objs,a,w,_,hd,hs=>by simpa using hQ E objs a w hd hs
 |o::l,k,E,objs,a,w,hl,hd,hs=>by
  obtain⟨v,objs',h1,h2⟩:=hd
  have h0:ops[k]? = some o:=by simpa using (hl 0 (by simp)).symm
  have hstep:=h1.step E objs objs' a w (fun t _=>.refl _) (.inr (.inr ⟨rfl,rfl⟩)) hs Q
  rw[List.length_cons,List.range'_succ,List.cons_append,wpOpsIn_cons]
  refine wpOpIn_mono (K:=fun a' w'=>Sat g (putO E o.dst v) objs' a' w') (fun a' w' hs'=>?_) (by unfold wpOpIn;rw[h0];exact hstep)
  exact wp_ops2 hQ l (k+1) _ objs' a' w' (fun j hj=>by have:=hl (j+1) (by simpa using hj);simpa[Nat.add_assoc,Nat.add_comm 1 j]using this) h2 hs'
end
end PSL
namespace PSL
open Go Go.RowKit
section
variable {g:G} {pf:Nat→Cls} {ops:Array Oper} {Fin:Exit→Act→World→Prop}

theorem rv_eval {S:Nat→Prop}{w:World}{φ:List Phy}{E:Env}{a:Act}(hv:EnvOk S w φ E a)(x:Operand):RV S w φ (ev E x) (a.eval x):=by
 cases x with
 |tmp t=>exact hv t
 |const v=>simpa[restr]using rv_restr (l:=[]) (E:=E) (fun t ht=>by cases ht) hv (.const v)
 |global n=>simp[ev,RV]
 |func f=>simp only[ev,Act.eval,RV];exact⟨[],[],rfl,by simp[RVs],by simp[RVs]⟩

def noMk:List It→Bool
 |[]=>true
 | .code _::k=>noMk k
 | .blk _::k=>noMk k
 |_::_=>false

theorem KP_sw {l:List (Nat × List AV × List AV)}:∀ (k:List It),noMk k=true→∀e a w,KP (swD g l) Fin k e a w=KP g Fin k e a w
 |[],_,_,_,_=>rfl
 | .code c::k,h,e,a,w=>by
  have ih:KP (swD g l) Fin k=KP g Fin k:=by funext e a w;exact KP_sw k h e a w
  simp only[KP,ih];rfl
 | .blk i::k,h,e,a,w=>by
  have ih:KP (swD g l) Fin k=KP g Fin k:=by funext e a w;exact KP_sw k h e a w
  simp only[KP,ih]
 | .mark _::_,h,_,_,_=>by simp[noMk]at h
 | .dr _ _::_,h,_,_,_=>by simp[noMk]at h

theorem R_defer (hg:GOk g)(hmk:g.mks=false)(hw:g.F=Fence.wide∧g.dep=0){id:Nat}{k:List It}{E:Env}{objs:List Ob}(n:Nat){x:Operand}{args:Array Operand}{ts:Array Nat}{ty:Nat}{pos:String}{after:Array Edge}
  (hn:ops.toList.drop n=[⟨none,.defer { callee:=.value x,args:=args,argTypes:=ts },ty,pos,after,none⟩])
  (h:R g pf Fin (.dr ops (ops.toList.take n) :: .mark (fun E1 objs1=>∃f fs cs,ev E1 x=.clo f fs cs∧R (swD g ((f,fs++args.toList.map (ev E1),cs)::g.dfs)) pf Fin k E1 objs1)::k) E objs) (hnd:noDr k=true:=by rfl) (hnm:noMk k=true:=by rfl):R g pf Fin (.code (.region id ops false)::k) E objs:=by
 rintro⟨ho1,ho⟩
 have h:=h ho
 simp only at h
 intro a w hs
 simp only[KP]
 refine wpIn_region ?_
 have hle:n≤ops.toList.length:=by
  rcases Nat.le_total n ops.toList.length with h |h
  ·exact h
  ·rw[List.drop_eq_nil_of_le h]at hn;cases hn
 have hsz:ops.toList.length=n+1:=by
  have:=congrArg List.length hn
  rw[List.length_drop]at this
  simp only[List.length_singleton]at this
  omega
 have hsplit:List.range ops.size=List.range' 0 (ops.toList.take n).length++[n]:=by
  have e:ops.size=n+1:=by rw[← hsz];simp
  rw[e,List.length_take,Nat.min_eq_left hle,List.range_eq_range',← List.range'_append];simp
 rw[hsplit]
 refine wp_ops2 (pf:=pf) (K:=fun E' objs'=>RK g Fin (.mark (fun E1 objs1=>∃f fs cs,ev E1 x=.clo f fs cs∧R (swD g ((f,fs++args.toList.map (ev E1),cs)::g.dfs)) pf Fin k E1 objs1)::k) E' objs') (fun E1 objs1 a1 w1 hk hs1=>?_) _ 0 E objs a w (fun j hj=>?_) h hs
 ·have hk:=hk a1 w1 hs1
  simp only[KP]at hk
  obtain⟨E2,objs2,⟨f,fs,cs,hx,hM⟩,hs2⟩:=hk
  rw[wpOpsIn_cons]
  have h0:ops[n]? = some ⟨none,.defer { callee:=.value x,args:=args,argTypes:=ts },ty,pos,after,none⟩:=by
   have:(ops.toList.drop n)[0]? = some ⟨none,.defer { callee:=.value x,args:=args,argTypes:=ts },ty,pos,after,none⟩:=by rw[hn];rfl
   simpa using this
  unfold wpOpIn
  rw[h0]
  simp only[Region.wanted,if_true]
  refine⟨fun f _=>hg.fn f,?_⟩
  obtain⟨φ,h1,h2,h3,h4,⟨ds1,ds2,e5,h5,h7⟩,h6⟩:=hs2
  have hxv:=rv_eval (E:=E2) h3 x
  rw[hx]at hxv
  simp only[RV]at hxv
  obtain⟨va,vc,hxv,hfs,hcs⟩:=hxv
  have hargs:RVs (SS g.S0 φ) w1 φ (args.toList.map (ev E2)) (args.toList.map a1.eval):=RVs.map _ _ _ fun y _=>rv_eval h3 y
  have hr:(execOp a1.eval ⟨none,.defer { callee:=.value x,args:=args,argTypes:=ts },ty,pos,after,none⟩).run g.P w1=.ok (.defer { target:=.fn (.func f) vc.toArray,args:=(va++args.toList.map a1.eval).toArray }) w1:=by
   have:va.toArray++Array.map a1.eval args=(va++args.toList.map a1.eval).toArray:=by apply Array.toList_inj.1;simp
   simp[execOp,resolve,hxv,Deferred.ofValue,this]
  rw[show g.F.round=none by rw[hw.1];rfl,Oper.semAt_none,hr,Oper.uponIn_defer]
  have hds:ds1=[]:=h5.1 hmk
  subst hds
  have:=RK.of_R (pf:=pf) (k:=k) ho hM (noDr_head hnd) { a1 with defers:={ target:=.fn (.func f) vc.toArray,args:=(va++args.toList.map a1.eval).toArray }::a1.defers } w1 ⟨φ,h1,h2,h3,h4,⟨[],{ target:=.fn (.func f) vc.toArray,args:=(va++args.toList.map a1.eval).toArray }::ds2,by rw[e5];rfl,⟨fun _=>rfl,.nil,by simp⟩,⟨_,_,rfl,hfs.append hargs,hcs⟩,h7⟩,⟨h6.size,h6.os,h6.tape,h6.out,h6.fr,h6.gen,h6.le⟩⟩
  rw[KP_sw k hnm]at this
  exact this
 ·rw[Nat.zero_add,List.getElem?_take_of_lt (by simp at hj;omega)];simp
end
end PSL
namespace PSL
open Go Go.RowKit
section
variable {g:G} {pf:Nat→Cls} {ops:Array Oper} {Fin:Exit→Act→World→Prop}

theorem run_callx {P:Program}{w:World}{a:Act}{f:Nat}{args:Array Operand}{ts:Array Nat}{dst:Option Nat}{ty:Nat}{pos:String}{after:Array Edge}{gd:Option (Nat × Bool)} :
  (execOp a.eval ⟨dst,.call { callee:=.value (.func f),args:=args,argTypes:=ts },ty,pos,after,gd⟩).run P w=(callFunc f (args.map a.eval)).run P w:=by
 simp[execOp,resolve,Act.eval,Deferred.ofValue,invoke]

theorem R_extV (hg:GOk g){f:Nat}{r:AV}{dst:Option Nat}{args:Array Operand}{ts:Array Nat}{ty:Nat}{pos:String}{after:Array Edge}{gd:Option (Nat × Bool)}{rest:List Oper}{k:List It}{E:Env}{objs:List Ob}
  (hgd:guardA ops.toList E gd=some true) (hd:dstOk ⟨g.ty,g.N⟩ dst=true) (hcl:pf f=.eff)
  (hrun:∀ (φ:List Phy) (a:Act) (w:World),HS g.S0 φ objs w→(∀y∈args.toList,RV (SS g.S0 φ) w φ (ev E y) (a.eval y))→∃v,(callFunc f (args.map a.eval)).run g.P w=.ok (.value v) w∧RV (SS g.S0 φ) w φ r v)
  (hr:R g pf Fin (.dr ops rest::k) (putO E dst r) objs):R g pf Fin (.dr ops (⟨dst,.call { callee:=.value (.func f),args:=args,argTypes:=ts },ty,pos,after,gd⟩::rest)::k) E objs:=by
 refine R_op ?_ hr
 simp only[clsOf,hcl]
 refine .of_out hg (guardA_ok hgd) (dstOk_ok hd) (by simp) (fun _=>rfl) (fun b hb h9=>by cases hb;exact absurd rfl h9) fun φ o₁ o₁' a w E₁ he hv ho hs=>?_
 have e:o₁=objs∧o₁'=objs:=by
  rcases ho with ⟨h,_⟩ |⟨_,h,_⟩ |h
  ·cases h
  ·cases h
  ·exact h
 obtain⟨rfl,rfl⟩:=e
 have hρ:=rv_ops (o:=⟨dst,.call { callee:=.value (.func f),args:=args,argTypes:=ts },ty,pos,after,gd⟩) he hv
 simp only[Op.operands,Call.operands]at hρ
 obtain⟨v,h1,h2⟩:=hrun φ a w hs fun y hy=>hρ y (by simp[hy])
 exact out_val hs (vv:=v) (by rw[run_callx,h1]) h2

theorem R_extB (hg:GOk g){f:Nat}{r:AV}{dst:Option Nat}{args:Array Operand}{ts:Array Nat}{ty:Nat}{pos:String}{after:Array Edge}{gd:Option (Nat × Bool)}{rest:List Oper}{k:List It}{E:Env}{objs:List Ob}{i off:Nat}{l:List AV}{old new:Value}{x:Operand}
  (hgd:guardA ops.toList E gd=some true) (hd:dstOk ⟨g.ty,g.N⟩ dst=true) (hcl:pf f=.eff) (hx:ev E x=.lo i off) (hxa:x∈args.toList) (ho:nth objs i=some (.box l)) (hl:nth l off=some (.d (.v old)))
  (hrun:∀ (φ:List Phy) (a:Act) (w:World) (b:Nat),a.eval x=.pointer (some ⟨b,off,none⟩)→w.cell? ⟨b,off,none⟩=some old→w.frozen? ⟨b,off,none⟩=false→HS g.S0 φ objs w→(∀y∈args.toList,RV (SS g.S0 φ) w φ (ev E y) (a.eval y))→∃v,(callFunc f (args.map a.eval)).run g.P w=.ok (.value v) (w.setCell ⟨b,off,none⟩ new)∧∀w',RV (SS g.S0 φ) w' φ r v)
  (hr:R g pf Fin (.dr ops rest::k) (putO E dst r) (setN objs i (.box (setN l off (.d (.v new)))))):R g pf Fin (.dr ops (⟨dst,.call { callee:=.value (.func f),args:=args,argTypes:=ts },ty,pos,after,gd⟩::rest)::k) E objs:=by
 refine R_op ?_ hr
 simp only[clsOf,hcl]
 refine .of_out hg (guardA_ok hgd) (dstOk_ok hd) (by simp) (fun h=>absurd rfl (h _)) (fun b hb h9=>by cases hb;exact absurd rfl h9) fun φ o₁ o₁' a w E₁ he hv ho1 hs=>?_
 have e:o₁=objs∧o₁'=setN objs i (.box (setN l off (.d (.v new)))):=by
  rcases ho1 with ⟨h,_⟩ |⟨_,h,_⟩ |h
  ·cases h
  ·cases h
  ·exact h
 obtain⟨rfl,rfl⟩:=e
 have hρ:=rv_ops (o:=⟨dst,.call { callee:=.value (.func f),args:=args,argTypes:=ts },ty,pos,after,gd⟩) he hv
 simp only[Op.operands,Call.operands]at hρ
 have hρ':∀y∈args.toList,RV (SS g.S0 φ) w φ (ev E y) (a.eval y):=fun y hy=>hρ y (by simp[hy])
 have hxv:=hρ' x hxa
 rw[hx]at hxv
 simp only[RV]at hxv
 obtain⟨b,hb,hxv⟩:=hxv
 have hok:=obj_at hs hb ho
 simp only[ObOk]at hok
 obtain⟨cs,T',hheap,hrv⟩:=hok
 rw[nth_eq]at hl
 obtain⟨u,hu,huv⟩:=hrv.get off hl
 simp only[RV]at huv
 cases huv
 have hcell:w.cell? ⟨b,off,none⟩=some old:=by simp[World.cell?,hheap,hu]
 have hfz:w.frozen? ⟨b,off,none⟩=false:=by simp[World.frozen?,hheap]
 obtain⟨v,h1,h2⟩:=hrun φ a w b hxv hcell hfz hs hρ'
 have hother:∀c,c≠b→(w.setCell ⟨b,off,none⟩ new).heap[c]? = w.heap[c]? := fun c hc=>Below.heap_setCell _ _ _ _ hc
 have hbl:(Phy.blk b).bl b:=rfl
 have hk:=keep_turn (S0:=g.S0) hb hbl hother
 refine⟨.value v,v,w.setCell ⟨b,off,none⟩ new,φ,by rw[run_callx,h1],.inl rfl,h2 _,?_⟩
 refine⟨?_,hk,.refl _,by simp,rfl,rfl,rfl,fun c hc hn=>hother c fun e=>hn ⟨i,_,hb,by rw[e];rfl⟩,fun _ h=>.inl h,fun _ _ _ B h=>⟨B,h⟩⟩
 rw[setN_eq]
 refine hs.turn hb hbl (by simp) hother ?_
 simp only[ObOk]
 refine⟨cs.set off new,T',setCell_heap hheap _ _,?_⟩
 have h3:=hrv.mono hk (PhsLe.refl φ)
 rw[setN_eq]
 refine RVs.of_get (by rw[List.length_set,List.length_set];exact h3.length) fun j y u hy hu=>?_
 rw[List.getElem?_set]at hy hu
 by_cases hj:off=j
 ·subst hj
  rw[if_pos rfl]at hy hu
  have hlt:=(List.getElem?_eq_some_iff.1 hl).1
  have hlc:off<cs.length:=by rw[← h3.length];exact hlt
  rw[if_pos hlt]at hy
  rw[if_pos hlc]at hu
  cases hy;cases hu
  simp only[RV];exact .v _
 ·rw [if_neg hj] at hy hu
  obtain⟨u',h4,h5⟩:=h3.get j hy
  rw[hu]at h4;cases h4
  exact h5

theorem rv_const {S:Nat→Prop}{w:World}{φ:List Phy}{c v:Value}(h:RV S w φ (.d (.v c)) v):v=c:=by
 simp only[RV]at h;cases h;rfl

theorem hs_cell {S0:Nat→Prop}{φ:List Phy}{objs:List Ob}{w:World}(hs:HS S0 φ objs w){i off:Nat}{l:List AV}{c v:Value}(ho:nth objs i=some (.box l))(hl:nth l off=some (.d (.v c)))(hv:RV (SS S0 φ) w φ (.lo i off) v) :
  ∃b,v=.pointer (some ⟨b,off,none⟩)∧w.cell? ⟨b,off,none⟩=some c:=by
 simp only[RV]at hv
 obtain⟨b,hb,hv⟩:=hv
 have hok:=obj_at hs hb ho
 simp only[ObOk]at hok
 obtain⟨cs,T',hheap,hrv⟩:=hok
 rw[nth_eq]at hl
 obtain⟨u,hu,huv⟩:=hrv.get off hl
 have:=rv_const huv
 subst this
 exact⟨b,hv,by simp[World.cell?,hheap,hu]⟩

theorem R_ext0 (hg:GOk g){f:Nat}{dst:Option Nat}{ts:Array Nat}{ty:Nat}{pos:String}{after:Array Edge}{gd:Option (Nat × Bool)}{rest:List Oper}{k:List It}{E:Env}{objs:List Ob}
  (hf:∀w,(callFunc f #[]).run g.P w=.ok (.value (.tuple #[])) w) (hgd:guardA ops.toList E gd=some true) (hd:dstOk ⟨g.ty,g.N⟩ dst=true) (hcl:pf f=.eff)
  (hr:R g pf Fin (.dr ops rest::k) (putO E dst (.tup [])) objs):R g pf Fin (.dr ops (⟨dst,.call { callee:=.value (.func f),args:=#[],argTypes:=ts },ty,pos,after,gd⟩::rest)::k) E objs :=
 R_extV hg hgd hd hcl (fun φ a w _ _=>⟨.tuple #[],by simpa using hf w,by simp[RV,RVs]⟩) hr

theorem R_extM (hg:GOk g){f:Nat}{dst:Option Nat}{x:Operand}{ts:Array Nat}{ty:Nat}{pos:String}{after:Array Edge}{gd:Option (Nat × Bool)}{rest:List Oper}{k:List It}{E:Env}{objs:List Ob}{i off:Nat}
  (hf:∀a w,(callFunc f #[.pointer (some a)]).run g.P w=.ok (.value (.tuple #[])) w) (hgd:guardA ops.toList E gd=some true) (hd:dstOk ⟨g.ty,g.N⟩ dst=true) (hcl:pf f=.eff) (hx:ev E x=.lo i off)
  (hr:R g pf Fin (.dr ops rest::k) (putO E dst (.tup [])) objs):R g pf Fin (.dr ops (⟨dst,.call { callee:=.value (.func f),args:=#[x],argTypes:=ts },ty,pos,after,gd⟩::rest)::k) E objs :=
 R_extV hg hgd hd hcl (fun φ a w _ hρ=>by
  have h:=hρ x (by simp)
  rw[hx]at h
  simp only[RV]at h
  obtain⟨b,_,h⟩:=h
  exact⟨.tuple #[],by simpa[h]using hf ⟨b,off,none⟩ w,by simp[RV,RVs]⟩) hr

theorem R_extL (hg:GOk g){f:Nat}{dst:Option Nat}{x:Operand}{ts:Array Nat}{ty:Nat}{pos:String}{after:Array Edge}{gd:Option (Nat × Bool)}{rest:List Oper}{k:List It}{E:Env}{objs:List Ob}{i off:Nat}{l:List AV}{c:IntKind}{n:Int}
  (hf:∀a x w,w.cell? a=some (.int c x)→(callFunc f #[.pointer (some a)]).run g.P w=.ok (.value (.int c x)) w) (hgd:guardA ops.toList E gd=some true) (hd:dstOk ⟨g.ty,g.N⟩ dst=true) (hcl:pf f=.eff) (hx:ev E x=.lo i off) (ho:nth objs i=some (.box l)) (hl:nth l off=some (.d (.v (.int c n))))
  (hr:R g pf Fin (.dr ops rest::k) (putO E dst (.d (.v (.int c n)))) objs):R g pf Fin (.dr ops (⟨dst,.call { callee:=.value (.func f),args:=#[x],argTypes:=ts },ty,pos,after,gd⟩::rest)::k) E objs :=
 R_extV hg hgd hd hcl (fun φ a w hs hρ=>by
  have h:=hρ x (by simp)
  rw[hx]at h
  obtain⟨b,h,hc⟩:=hs_cell hs ho hl h
  exact⟨.int c n,by simpa[h]using hf _ _ w hc,by simp only[RV];exact .v _⟩) hr

theorem R_extW (hg:GOk g){f:Nat}{dst:Option Nat}{x:Operand}{ys:Array Operand}{ts:Array Nat}{ty:Nat}{pos:String}{after:Array Edge}{gd:Option (Nat × Bool)}{rest:List Oper}{k:List It}{E:Env}{objs:List Ob}{i off:Nat}{l:List AV}{old new v:Value}(vs:List Value)
  (hf:∀a w,w.cell? a=some old→w.frozen? a=false→(callFunc f (Value.pointer (some a)::vs).toArray).run g.P w=.ok (.value v) (w.setCell a new)) (hgd:guardA ops.toList E gd=some true) (hd:dstOk ⟨g.ty,g.N⟩ dst=true) (hcl:pf f=.eff) (hx:ev E x=.lo i off) (hys:ys.toList.map (ev E)=vs.map fun c=>AV.d (.v c)) (ho:nth objs i=some (.box l)) (hl:nth l off=some (.d (.v old)))
  (hr:R g pf Fin (.dr ops rest::k) (putO E dst (.d (.v v))) (setN objs i (.box (setN l off (.d (.v new)))))):R g pf Fin (.dr ops (⟨dst,.call { callee:=.value (.func f),args:=(x::ys.toList).toArray,argTypes:=ts },ty,pos,after,gd⟩::rest)::k) E objs :=
 R_extB hg (x:=x) hgd hd hcl hx (by simp) ho hl (fun φ a w b hb hc hz _ hρ=>⟨v,by
  have key:∀ (zs:List Operand) (us:List Value),(∀y∈zs,RV (SS g.S0 φ) w φ (ev E y) (a.eval y))→zs.map (ev E)=us.map (fun c=>AV.d (.v c))→zs.map a.eval=us:=by
   intro zs
   induction zs with
   |nil=>intro us _ h;cases us with
    |nil=>rfl
    |cons _ _=>simp at h
   |cons z zs ih =>
    intro us hz h
    cases us with
    |nil=>simp at h
    |cons u us =>
     simp only[List.map_cons,List.cons.injEq]at h ⊢
     have h1:=hz z (by simp)
     rw[h.1]at h1
     exact⟨rv_const h1,ih us (fun y hy=>hz y (by simp[hy])) h.2⟩
  have he:=key ys.toList vs (fun y hy=>hρ y (by simp[hy])) hys
  have:=hf ⟨b,off,none⟩ w hc hz
  rw[← he,← hb]at this
  simpa using this,fun w'=>by simp only[RV];exact .v _⟩) hr

theorem R_convU (hg:GOk g){src dst' t:Nat}{dst:Option Nat}{x:Operand}{ty:Nat}{pos:String}{after:Array Edge}{gd:Option (Nat × Bool)}{rest:List Oper}{k:List It}{E:Env}{objs:List Ob}{i off:Nat}{l:List AV}{c:Value}
  (hs:g.P.underlying src=some (.pointer t)) (hdt:g.P.underlying dst'=some .unsafePointer) (hsz:(g.P.info? t).map (fun i=>decide (i.size=0))=some false) (hcl:pf 4000000010=.turn 90) (hgd:guardA ops.toList E gd=some true) (hd:dstOk ⟨g.ty,g.N⟩ dst=true) (hx:ev E x=.lo i off) (ho:nth objs i=some (.box l)) (hl:nth l off=some (.d (.v c)))
  (hr:R g pf Fin (.dr ops rest::k) (putO E dst (.lo i off)) objs):R g pf Fin (.dr ops (⟨dst,.convert src dst' x,ty,pos,after,gd⟩::rest)::k) E objs:=by
 refine R_op ?_ hr
 simp only[clsOf,cnvCls,hcl]
 refine .of_out hg (guardA_ok hgd) (dstOk_ok hd) (by simp) (fun _=>rfl) (fun b hb h9=>by cases hb;exact absurd rfl h9) fun φ o₁ o₁' a w E₁ he hv ho1 hs'=>?_
 have e:o₁=objs∧o₁'=objs:=by
  rcases ho1 with ⟨h,_⟩ |⟨_,h,_⟩ |h
  ·cases h
  ·cases h
  ·exact h
 obtain⟨rfl,rfl⟩:=e
 have hρ:=rv_ops (o:=⟨dst,.convert src dst' x,ty,pos,after,gd⟩) he hv
 simp only[Op.operands]at hρ
 have hxv:=hρ x (by simp)
 rw[hx]at hxv
 obtain⟨b,hb,hc⟩:=hs_cell hs' ho hl hxv
 refine out_val hs' (vv:=a.eval x) ?_ hxv
 simp only[execOp,Sem.run_bind,hb,run_convert_to_unsafe hs hdt hsz hc,Result.andThen_ok,Sem.run_pure]

theorem R_fieldZ (hg:GOk g){T n:Nat}{fs:Array Field}{fl:Field}{dst:Option Nat}{x:Operand}{ty:Nat}{pos:String}{after:Array Edge}{gd:Option (Nat × Bool)}{rest:List Oper}{k:List It}{E:Env}{objs:List Ob}{i off:Nat}
  (hT:g.P.underlying T=some (.struct fs)) (hf:fs[n]? = some fl) (hsz:((g.P.info? fl.type).map fun i=>decide (i.size=0))=some false) (hgd:guardA ops.toList E gd=some true) (hd:dstOk ⟨g.ty,g.N⟩ dst=true) (hx:ev E x=.lo i off)
  (hr:R g pf Fin (.dr ops rest::k) (putO E dst (.lo i (off+fl.offset))) objs):R g pf Fin (.dr ops (⟨dst,.fieldAddr T x n,ty,pos,after,gd⟩::rest)::k) E objs:=by
 refine R_op (LocOp.up (LocOp.quiet hg hgd hd (by simp) fun φ o₁ a w hρ hs=>?_)) hr
 simp only[Op.operands]at hρ
 have hxv:=hρ x (by simp)
 rw[hx]at hxv
 simp only[RV]at hxv
 obtain⟨b,hb,hv⟩:=hxv
 have h3:∃i,g.P.info? fl.type=some i∧i.size≠0:=by
  obtain⟨i,h1,h2⟩:=Option.map_eq_some_iff.1 hsz
  exact⟨i,h1,by simpa using h2⟩
 refine out_val hs (vv:=.pointer (some ⟨b,off+fl.offset,none⟩)) ?_ (by simp only[RV];exact⟨b,hb,rfl⟩)
 simp only[execOp,Sem.run_bind,hv,run_fieldAt hT hf h3,Result.andThen_ok,Sem.run_pure]
end
end PSL
namespace PSL
open Go Go.RowKit
section
variable {pf:Nat→Cls} {ops:Array Oper}

def ordGo3 (p q:Nat) (pf:Nat→Cls) (ops:Array Oper):List Oper→List Nat→List Oper→Bool
 |_,_,[]=>true
 |prev,acc,o::r =>
  (o.after.toList.all fun e=>!Region.binds .any e || Nat.blt e.on (len prev)) &&
  (prev.zipIdx.all fun x=>!conf pf ops x.1 o || (maskOf acc o).testBit x.2 || (Nat.beq x.2 p&&Nat.beq (len prev) q)) &&
  (Nat.ble (len prev) p || Nat.beq (len prev) q || (maskOf acc o).testBit p || (Nat.blt q (len prev)&&(maskOf acc o).testBit q)) &&
  ordGo3 p q pf ops (prev++[o]) (acc++[maskOf acc o]) r

theorem ordGo3_spec {p q:Nat}(hpq:p<q):∀ (rest prev:List Oper) (acc:List Nat),ops.toList=prev++rest→acc.length=prev.length→(∀j i m,acc[j]? = some m→m.testBit i=true→Reach ops i j)→ordGo3 p q pf ops prev acc rest=true →
  ∀ (j:Nat) (o:Oper),prev.length≤j→ops[j]? = some o→(∀e∈o.after.toList,Region.binds .any e=true→e.on<j)∧(∀ (i:Nat) (x:Oper),i<j→ops[i]? = some x→conf pf ops x o=true→Reach ops i j∨(i=p∧j=q))∧(p<j→j<q→Reach ops p j)∧(q<j→Reach ops p j∨Reach ops q j)
 |[],prev,acc,h,_,_,_,j,o,hj,ho=>by
  have:j<ops.size:=(Array.getElem?_eq_some_iff.1 ho).1
  have:ops.size=prev.length:=by rw[← Array.length_toList,h];simp
  omega
 |o'::r,prev,acc,h,hl,hr,hg,j,o,hj,ho=>by
  simp only[ordGo3,Bool.and_eq_true]at hg
  obtain⟨⟨⟨h1,h2⟩,h4⟩,h3⟩:=hg
  have hcur:ops[prev.length]? = some o':=by rw[← Array.getElem?_toList,h];simp
  have hm:∀i,(maskOf acc o').testBit i=true→Reach ops i prev.length:=fun i hi=>by
   obtain⟨e,e1,e2,e3⟩:=maskOf_bit hi
   rcases e3 with e3 |⟨m,e3,e4⟩
   ·exact .one hcur e1 e2 e3
   ·exact .step hcur e1 e2 rfl (hr _ _ _ e3 e4)
  rcases Nat.eq_or_lt_of_le hj with hj |hj
  ·subst hj
   rw[hcur]at ho;cases ho
   refine⟨fun e he hbd=>?_,fun i x hi hx hc=>?_,fun hq hq2=>?_,fun hq=>?_⟩
   ·have:=List.all_eq_true.1 h1 e he
    rw[len_eq]at this
    simpa[Nat.blt_eq,hbd]using this
   ·have hmem:(x,i)∈prev.zipIdx:=by
     rw[List.mem_zipIdx_iff_getElem?]
     rw[← Array.getElem?_toList,h,List.getElem?_append_left hi]at hx
     exact hx
    have:=List.all_eq_true.1 h2 _ hmem
    simp only[hc,Bool.not_true,Bool.false_or,Bool.or_eq_true,Bool.and_eq_true]at this
    rcases this with this |⟨g1,g2⟩
    ·exact .inl (hm i this)
    ·rw[len_eq]at g2;exact .inr ⟨natBeq g1,natBeq g2⟩
   ·simp only [Bool.or_eq_true,Bool.and_eq_true,len_eq,Nat.ble_eq,Nat.blt_eq] at h4
    rcases h4 with ((h4 |h4) |h4) |h4
    ·omega
    ·have:=natBeq h4;omega
    ·exact hm _ h4
    ·omega
   ·simp only [Bool.or_eq_true,Bool.and_eq_true,len_eq,Nat.ble_eq,Nat.blt_eq] at h4
    rcases h4 with ((h4 |h4) |h4) |h4
    ·omega
    ·have:=natBeq h4;omega
    ·exact .inl (hm _ h4)
    ·exact .inr (hm _ h4.2)
  ·refine ordGo3_spec hpq r (prev++[o']) (acc++[maskOf acc o']) (by rw [h]; simp) (by simp [hl]) (fun j i m hj hi=>?_) h3 j o (by simp; omega) ho
   rcases Nat.lt_or_ge j acc.length with hlt |hge
   ·rw[List.getElem?_append_left hlt]at hj;exact hr j i m hj hi
   ·rw [List.getElem?_append_right hge] at hj
    have:j - acc.length=0:=by
     rcases Nat.eq_zero_or_pos (j - acc.length) with h |h
     ·exact h
     ·rw[List.getElem?_eq_none (by simp;omega)]at hj;cases hj
    rw[this]at hj;simp at hj;subst hj
    have:j=prev.length:=by omega
    subst this
    exact hm i hi
variable {g:G}

theorem any_of_dr3 {p q:Nat}(hpq:p<q)(hok:∀ (j:Nat) (o:Oper),ops[j]? = some o→(∀e∈o.after.toList,Region.binds .any e=true→e.on<j)∧(∀ (i:Nat) (x:Oper),i<j→ops[i]? = some x→conf pf ops x o=true→Reach ops i j∨(i=p∧j=q))∧(p<j→j<q→Reach ops p j)∧(q<j→Reach ops p j∨Reach ops q j))
  {K:Env→List Ob→Prop} (hK:KC K) {Q:Exit→Act→World→Prop} (hQ:∀E objs a w,K E objs→Sat g E objs a w→Q .normal a w) {oa ob:Oper} (hoa:ops[p]? = some oa) (hob:ops[q]? = some ob) (mid post:List Nat) :
  ∀ (fuel:Nat) (listed:Array Bool) (pre:List Nat) (E E2:Env) (objs objs2:List Ob) (a:Act) (w:World),(∀ i∈pre,∀ o,ops[i]? = some o→plainOp o.op=true)→listed.size=ops.size→Cl ops listed→(∀ i,i∈pre++p::(mid++q::post)↔i<ops.size∧listed.getD i true=false)→(pre++p::(mid++q::post)).Pairwise (· < ·)→(pre++p::(mid++q::post)).length≤fuel →
   Dr g pf ops (pre.filterMap (ops[·]?)++oa::(mid.filterMap (ops[·]?)++ob::post.filterMap (ops[·]?))) E objs K→Sat g E objs a w→Dr g pf ops (pre.filterMap (ops[·]?)++ob::oa::(mid.filterMap (ops[·]?)++post.filterMap (ops[·]?))) E2 objs2 K→Sat g E2 objs2 a w→wpAnyIn g.F g.dep g.P .any ops Q fuel listed a w:=by
 have hokX:∀ (j:Nat) (o:Oper),ops[j]? = some o→(∀e∈o.after.toList,Region.binds .any e=true→e.on<j)∧∀ (i:Nat) (x:Oper),i<j→ops[i]? = some x→conf pf ops x o=true→Reach ops i j∨(i=p∧j=q):=fun j o ho=>⟨(hok j o ho).1,(hok j o ho).2.1⟩
 intro fuel
 induction fuel with
 |zero=>intro listed pre E E2 objs objs2 a w _ hls hc hR _ hf hd hs _ _;simp at hf
 |succ fuel ih =>
  intro listed pre E E2 objs objs2 a w hpl hls hc hR hp hf hd hs hd2 hs2
  obtain⟨pp1,pp2,pp3⟩:=List.pairwise_append.1 hp
  have hprep:∀k∈pre,k<p:=fun k hk=>pp3 k hk p (by simp)
  have pp4:=(List.pairwise_cons.1 pp2).2
  have hmidp:∀k∈mid,p<k:=fun k hk=>(List.pairwise_cons.1 pp2).1 k (by simp[hk])
  have hmidq:∀k∈mid,k<q:=fun k hk=>(List.pairwise_append.1 pp4).2.2 k hk q (by simp)
  have hpost:∀k∈post,q<k:=fun k hk=>(List.pairwise_cons.1 (List.pairwise_append.1 pp4).2.1).1 k hk
  have unl:∀k,k∈pre++p::(mid++q::post)→listed.getD k false=false:=fun k hk=>by
   obtain⟨h1,h2⟩:=(hR k).1 hk
   have hsz:k<listed.size:=by omega
   simp only[Array.getD,hsz,dif_pos]at h2 ⊢
   exact h2
  refine⟨fun hnil=>?_,fun i hi=>?_⟩
  ·exfalso
   obtain⟨k,R',hkR⟩:∃k R',pre++p::(mid++q::post)=k::R':=by
    cases pre with
    |nil=>exact⟨p,_,rfl⟩
    |cons k r=>exact⟨k,_,rfl⟩
   rw[hkR]at hR hp
   obtain⟨hk1,hk2⟩:=(hR k).1 (by simp)
   have ho:ops[k]? = some ops[k]:=Array.getElem?_eq_getElem hk1
   have:k∈Region.ready .any ops listed:=by
    refine mem_ready.2 ⟨hk1,hk2,ops[k],ho,fun e he hb=>?_⟩
    have hlt:=(hok k _ ho).1 e he hb
    have hnot:e.on ∉ (k::R'):=fun hm=>by
     rcases List.mem_cons.1 hm with hm |hm
     ·omega
     ·have:=(List.pairwise_cons.1 hp).1 _ hm;omega
    have hsz:e.on<listed.size:=by omega
    have h2:¬ (listed.getD e.on true=false):=fun h2=>hnot ((hR e.on).2 ⟨by omega,h2⟩)
    simp only[Array.getD,hsz,dif_pos]at h2 ⊢
    simpa using h2
   rw[hnil]at this;cases this
  ·obtain ⟨hi1,hi2,o,ho,hdeps⟩:=mem_ready.1 hi
   have hreachF:∀k,k∈pre++p::(mid++q::post)→Reach ops k i→False:=fun k hk hr=>by
    have hl:=reach_listed hc hr (fun o' ho' e he hb=>by rw[ho]at ho';cases ho';exact hdeps e he hb)
    rw[unl k hk]at hl;cases hl
   have hconf:∀k x,k∈pre++p::(mid++q::post)→k<i→ops[k]? = some x→¬ (k=p∧i=q)→conf pf ops x o=false:=fun k x hk hki hkx hne=>by
    cases hcf:conf pf ops x o
    ·rfl
    ·exfalso
     rcases (hok i o ho).2.1 k x hki hkx hcf with h |h
     ·exact hreachF k hk h
     ·exact hne h
   have hmem:=(hR i).2 ⟨hi1,hi2⟩
   rcases List.mem_append.1 hmem with hmem |hmem
   ·obtain ⟨preA,preB,rfl⟩:=List.append_of_mem hmem
    have e1:(preA++i::preB).filterMap (ops[·]?)=preA.filterMap (ops[·]?)++o::preB.filterMap (ops[·]?):=by
     rw[List.filterMap_append,List.filterMap_cons,ho]
    rw[e1]at hd hd2
    have hpreA:∀k∈preA,k<i:=fun k hk=>(List.pairwise_append.1 pp1).2.2 k hk i (by simp)
    have hcf:∀x∈preA.filterMap (ops[·]?),conf pf ops x o=false:=fun x hx=>by
     obtain⟨k,hk,hkx⟩:=List.mem_filterMap.1 hx
     exact hconf k x (by simp[hk]) (hpreA k hk) hkx (fun ⟨h1,h2⟩=>by have:=hprep i (by simp);omega)
    rw[List.append_assoc,List.cons_append]at hd hd2
    obtain⟨v,objs',hloc,hrest⟩:=Dr.front hK hcf hd
    obtain⟨v2,objs2',hloc2,hrest2⟩:=Dr.front hK hcf hd2
    have hstep:=hloc.step E objs objs' a w (fun t _=>.refl _) (.inr (.inr ⟨rfl,rfl⟩)) hs Q
    have hstep2:=hloc2.step E2 objs2 objs2' a w (fun t _=>.refl _) (.inr (.inr ⟨rfl,rfl⟩)) hs2 Q
    have hboth:=wpOpIn_and (F:=g.F) (n:=g.dep) (P:=g.P) (Q:=Q) ho (hpl i (by simp) o ho) (K:=fun a' w'=>Sat g (putO E o.dst v) objs' a' w') (K':=fun a' w'=>Sat g (putO E2 o.dst v2) objs2' a' w') (by unfold wpOpIn;rw[ho];exact hstep) (by unfold wpOpIn;rw[ho];exact hstep2)
    refine wpOpIn_mono (fun a' w' hs'=>?_) hboth
    have hds:=draw_step (pre:=preA) (post:=preB++p::(mid++q::post)) hls hc (by intro k;rw[← hR k];simp) (by simpa using hp) hi1 ho hdeps
    refine ih _ (preA++preB) _ _ objs' objs2' a' w' (fun j hj o' ho'=>hpl j (by simp only[List.mem_append,List.mem_cons]at hj ⊢;exact hj.imp id .inr) o' ho') hds.1 hds.2.1 (by intro k;rw[← hds.2.2.1 k];simp) (by simpa using hds.2.2.2) (by simp at hf ⊢;omega) (by rw[List.filterMap_append,List.append_assoc];exact hrest) hs'.1 (by rw[List.filterMap_append,List.append_assoc];exact hrest2) hs'.2
   ·rcases List.mem_cons.1 hmem with hip | hmem
    ·subst hip
     rw[hoa]at ho;cases ho
     have hd1:=hd
     obtain⟨v,objs',hloc,hrest⟩:=Dr.front hK (fun x hx=>by
      obtain⟨k,hk,hkx⟩:=List.mem_filterMap.1 hx
      exact hconf k x (by simp[hk]) (hprep k hk) hkx (fun ⟨_,h2⟩=>by omega)) hd1
     have hstep:=hloc.step E objs objs' a w (fun t _=>.refl _) (.inr (.inr ⟨rfl,rfl⟩)) hs Q
     refine wpOpIn_mono (K:=fun a' w'=>Sat g (putO E oa.dst v) objs' a' w') (fun a' w' hs'=>?_) (by unfold wpOpIn;rw[hoa];exact hstep)
     have hds:=draw_step (pre:=pre) (post:=mid++q::post) hls hc hR hp hi1 hoa hdeps
     refine any_of_drX hokX hK hQ fuel _ (pre++(mid++q::post)) _ objs' a' w' hds.1 hds.2.1 hds.2.2.1 hds.2.2.2 (by simp at hf ⊢;omega) (.inl fun h=>?_) (by rw[List.filterMap_append,List.filterMap_append,List.filterMap_cons,hob];exact hrest) hs'
     rcases List.mem_append.1 h with h |h
     ·have:=hprep _ h;omega
     ·rcases List.mem_append.1 h with h | h
      ·have:=hmidp _ h;omega
      ·rcases List.mem_cons.1 h with h | h
       ·omega
       ·have:=hpost _ h;omega
    ·rcases List.mem_append.1 hmem with hmem | hmem
     ·exact(hreachF p (by simp) ((hok i o ho).2.2.1 (hmidp i hmem) (hmidq i hmem))).elim
     rcases List.mem_cons.1 hmem with hiq |hmem
     ·subst hiq
      rw[hob]at ho;cases ho
      have hd1:=hd2
      obtain⟨v,objs',hloc,hrest⟩:=Dr.front hK (fun x hx=>by
       obtain⟨k,hk,hkx⟩:=List.mem_filterMap.1 hx
       exact hconf k x (by simp[hk]) (by have:=hprep k hk;omega) hkx (fun ⟨h1,_⟩=>by have:=hprep k hk;omega)) hd1
      have hstep:=hloc.step E2 objs2 objs' a w (fun t _=>.refl _) (.inr (.inr ⟨rfl,rfl⟩)) hs2 Q
      refine wpOpIn_mono (K:=fun a' w'=>Sat g (putO E2 ob.dst v) objs' a' w') (fun a' w' hs'=>?_) (by unfold wpOpIn;rw[hob];exact hstep)
      have hds:=draw_step (pre:=pre++p::mid) (post:=post) hls hc (by intro k;rw[← hR k];simp) (by simpa using hp) hi1 hob hdeps
      refine any_of_drX hokX hK hQ fuel _ (pre++p::(mid++post)) _ objs' a' w' hds.1 hds.2.1 (by intro k;rw[← hds.2.2.1 k];simp) (by simpa using hds.2.2.2) (by simp at hf ⊢;omega) (.inr fun h=>?_) (by rw[List.filterMap_append,List.filterMap_cons,hoa,List.filterMap_append];exact hrest) hs'
      rcases List.mem_append.1 h with h |h
      ·have:=hprep _ h;omega
      ·rcases List.mem_cons.1 h with h | h
       ·omega
       ·rcases List.mem_append.1 h with h | h
        ·have:=hmidq _ h;omega
        ·have:=hpost _ h;omega
     ·exfalso
      rcases (hok i o ho).2.2.2 (hpost i hmem) with h |h
      ·exact hreachF p (by simp) h
      ·exact hreachF q (by simp) h

def moveL {α:Type}(p q:Nat)(l:List α):List α:=l.take p++((l.drop q).take 1++((l.drop p).take (q - p)++l.drop (q+1)))
def ord3 (p q:Nat)(pf:Nat→Cls)(ops:Array Oper):Bool:=Nat.blt p q&&Nat.blt q (len ops.toList)&&ordGo3 p q pf ops [] [] ops.toList

theorem fm_range {α:Type}(l:List α)(a n:Nat)(h:a+n≤l.length):(List.range' a n).filterMap (l[·]?)=(l.drop a).take n:=by
 induction n generalizing a with
 |zero=>simp
 |succ n ih =>
  rw[List.range'_succ,List.filterMap_cons,List.getElem?_eq_getElem (by omega)]
  simp only
  rw[ih (a+1) (by omega),List.drop_eq_getElem_cons (by omega:a<l.length),List.take_succ_cons]

theorem wp_draw3 (hg:GOk g){p q:Nat}(hok:ord3 p q pf ops=true){K:Env→List Ob→Prop}(hK:KC K){Q:Exit→Act→World→Prop}(hQ:∀E objs a w,K E objs→Sat g E objs a w→Q .normal a w)
  {E:Env} {objs:List Ob} (hpl:((ops.toList.take p).all fun o=>plainOp o.op)=true) (hd:Dr g pf ops ops.toList E objs K) (hd2:Dr g pf ops (moveL p q ops.toList) E objs K) {a:Act} {w:World} (hs:Sat g E objs a w) (id:Nat):(Code.region id ops true).wpIn g.F g.dep g.P Q a w:=by
 refine wpIn_region_any hg.mixed ?_
 simp only[ord3,Bool.and_eq_true,Nat.blt_eq,len_eq]at hok
 obtain⟨⟨h1,h2⟩,h3⟩:=hok
 have hsz:ops.toList.length=ops.size:=by simp
 have hoa:ops[p]? = some ops[p]:=Array.getElem?_eq_getElem (by omega)
 have hob:ops[q]? = some ops[q]:=Array.getElem?_eq_getElem (by omega)
 have hrange:List.range ops.size=List.range' 0 p++p::(List.range' (p+1) (q - (p+1))++q::List.range' (q+1) (ops.size - (q+1))):=by
  obtain⟨m,hm⟩:∃m,ops.size=p+(1+((q - (p+1))+(1+m))):=⟨ops.size - (q+1),by omega⟩
  have e1:ops.size - (q+1)=m:=by omega
  rw[e1,List.range_eq_range',hm,← List.range'_append,← List.range'_append,← List.range'_append,← List.range'_append]
  have e2:0+1 * p=p:=by omega
  have e3:p+1 * 1=p+1:=by omega
  have e4:p+1+1 * (q - (p+1))=q:=by omega
  have e5:q+1 * 1=q+1:=by omega
  rw[e2,e3,e4,e5]
  simp[List.range'_succ]
 have f:∀a n,a+n≤ops.size→(List.range' a n).filterMap (ops[·]?)=(ops.toList.drop a).take n:=fun a n h=>by
  have:=fm_range ops.toList a n (by omega)
  simpa using this
 have hpre:=f 0 p (by omega)
 have hmid:=f (p+1) (q - (p+1)) (by omega)
 have hpost:=f (q+1) (ops.size - (q+1)) (by omega)
 rw[List.drop_zero]at hpre
 have hpost':(List.range' (q+1) (ops.size - (q+1))).filterMap (ops[·]?)=ops.toList.drop (q+1):=by
  rw[hpost,List.take_of_length_le (by simp)]
 have ga:ops.toList=ops.toList.take p++ops[p]::((ops.toList.drop (p+1)).take (q - (p+1))++ops[q]::ops.toList.drop (q+1)):=by
  have h7:ops.toList=ops.toList.take p++ops.toList.drop p:=(List.take_append_drop _ _).symm
  have h8:ops.toList.drop p=ops[p]::ops.toList.drop (p+1):=by rw[List.drop_eq_getElem_cons (by omega)];simp
  have h9:ops.toList.drop (p+1)=(ops.toList.drop (p+1)).take (q - (p+1))++ops.toList.drop q:=by
   conv=>lhs;rw[← List.take_append_drop (q - (p+1)) (ops.toList.drop (p+1))]
   rw[List.drop_drop,show p+1+(q - (p+1))=q by omega]
  have h10:ops.toList.drop q=ops[q]::ops.toList.drop (q+1):=by rw[List.drop_eq_getElem_cons (by omega)];simp
  conv=>lhs;rw[h7,h8,h9,h10]
 have gb:moveL p q ops.toList=ops.toList.take p++ops[q]::ops[p]::((ops.toList.drop (p+1)).take (q - (p+1))++ops.toList.drop (q+1)):=by
  unfold moveL
  have h8:ops.toList.drop p=ops[p]::ops.toList.drop (p+1):=by rw[List.drop_eq_getElem_cons (by omega)];simp
  have h10:ops.toList.drop q=ops[q]::ops.toList.drop (q+1):=by rw[List.drop_eq_getElem_cons (by omega)];simp
  rw[h8,h10,show q - p=(q - (p+1))+1 by omega]
  simp
 rw[gb]at hd2
 rw[ga]at hd
 refine any_of_dr3 h1 (ops:=ops) (fun j o ho=>ordGo3_spec h1 (ops:=ops) ops.toList [] [] rfl rfl (by simp) h3 j o (Nat.zero_le _) ho) hK hQ hoa hob (List.range' (p+1) (q - (p+1))) (List.range' (q+1) (ops.size - (q+1))) ops.size (Array.replicate ops.size false) (List.range' 0 p) E E objs objs a _ ?_ (by simp) ?_ ?_ ?_ ?_ ?_ hs.drew ?_ hs.drew
 ·intro j hj o ho
  have hj:j<p:=by have:=List.mem_range'.1 hj;omega
  have:=List.all_eq_true.1 hpl o (List.mem_iff_getElem?.2 ⟨j,by rw[List.getElem?_take_of_lt hj,Array.getElem?_toList];exact ho⟩)
  exact this
 ·intro k o hk
  simp[Array.getD]at hk
 ·intro i
  rw[← hrange]
  simp only[List.mem_range,Array.getD,Array.size_replicate]
  constructor
  ·intro h;simp[h]
  ·intro h;exact h.1
 ·rw[← hrange];exact List.pairwise_lt_range
 ·rw[← hrange];simp
 ·rw[hpre,hmid,hpost'];exact hd
 ·rw[hpre,hmid,hpost'];exact hd2

theorem R_pair3 {Fin:Exit→Act→World→Prop}(hg:GOk g)(p q:Nat){id:Nat}{k:List It}{E:Env}{objs:List Ob}(hx:ord3 p q pf ops=true)(hpl:((ops.toList.take p).all fun o=>plainOp o.op)=true)(h1:R g pf Fin (.dr ops ops.toList::k) E objs)(h2:R g pf Fin (.dr ops (moveL p q ops.toList)::k) E objs):R g pf Fin (.code (.region id ops true)::k) E objs:=by
 rintro⟨ho1,ho⟩
 have h1:=h1 ho
 have h2:=h2 ho
 simp only at h1 h2
 intro a w hs
 simp only[KP]
 have hQ:∀E objs a w,RK g Fin k E objs→Sat g E objs a w→KP g Fin k .normal a w:=fun _ _ a w hr hs=>hr a w hs
 exact wp_draw3 hg hx (RK_kc k) hQ hpl h1 h2 hs id
end
end PSL
namespace PSL
open Go Go.RowKit
section
variable {g:G} {pf:Nat→Cls} {ops:Array Oper} {Fin:Exit→Act→World→Prop}
end
end PSL
namespace PSL
open Go Go.RowKit
section
variable {g:G} {pf:Nat→Cls} {ops:Array Oper} {Fin:Exit→Act→World→Prop}

theorem R_convB (hg:GOk g){dst:Option Nat}{S D:Nat}{x:Operand}{ty:Nat}{pos:String}{after:Array Edge}{gd:Option (Nat × Bool)}{rest:List Oper}{k:List It}{E:Env}{objs:List Ob}
  {q by_ q' by':Nat} {z z':List Value} {kk k2:IntKind} {n:Int} (c:ByteArray)
  (hgd:guardA ops.toList E gd=some true) (hd:dstOk ⟨g.ty,g.N⟩ dst=true) (hx:ev E x=.d (.v (.int k2 n))) (hS:g.ty S=some ⟨q,by_,z,.int kk⟩) (hD:g.ty D=some ⟨q',by',z',.str⟩) (hc:Utf8.encode n=c)
  (hr:R g pf Fin (.dr ops rest::k) (putO E dst (.d (.v (.string c)))) objs):R g pf Fin (.dr ops (⟨dst,.convert S D x,ty,pos,after,gd⟩::rest)::k) E objs:=by
 subst hc
 refine R_op (LocOp.up (LocOp.quiet hg hgd hd (by simp) fun φ objs w' w hρ hs'=>?_)) hr
 simp only[Op.operands]at hρ
 have hxv:=hρ x (by simp)
 rw[hx]at hxv
 simp only[RV]at hxv
 generalize hvx:w'.eval x=vx at hxv
 cases hxv
 have hu:=(hg.ty _ _ hS).sh
 have hv:=(hg.ty _ _ hD).sh
 simp only[ShFact]at hu hv
 refine out_val hs' (vv:=.string (Utf8.encode n)) ?_ (by simp only[RV];exact .v _)
 simp[execOp,hvx,convert,run_underlying hu,run_underlying hv,Conv.intToString]
def byRows (l:List UInt8):List (List D):=l.map fun b=>[.v (.int .u8 b.toNat)]

theorem bytes_foldl:∀ (l:List UInt8) (s:ByteArray),(l.map fun b=>(b.toNat:Int)).foldl (fun r n=>r.push (UInt8.ofNat n.toNat)) s=⟨s.data++l.toArray⟩
 |[],s=>by simp
 |b::l,s=>by
  simp only[List.map_cons,List.foldl_cons]
  rw[bytes_foldl l]
  have:UInt8.ofNat ((b.toNat:Int)).toNat=b:=by simp
  rw[this]
  show ByteArray.mk (s.data.push b++l.toArray)=_
  congr 1
  apply Array.ext'
  simp

theorem R_convD (hg:GOk g){dst:Option Nat}{S D:Nat}{x:Operand}{ty:Nat}{pos:String}{after:Array Edge}{gd:Option (Nat × Bool)}{rest:List Oper}{k:List It}{E:Env}{objs:List Ob}
  {q by_ q' by' q2 by2 e:Nat} {z z' z2:List Value} (l:List UInt8)
  (hgd:guardA ops.toList E gd=some true) (hd:dstOk ⟨g.ty,g.N⟩ dst=true) (hx:nrm (ev E x)=.d (.sl (byRows l))) (hS:g.ty S=some ⟨q,by_,z,.slice e⟩) (he:g.ty e=some ⟨q2,by2,z2,.int .u8⟩) (hD:g.ty D=some ⟨q',by',z',.str⟩)
  (hr:R g pf Fin (.dr ops rest::k) (putO E dst (.d (.v (.string ⟨l.toArray⟩)))) objs):R g pf Fin (.dr ops (⟨dst,.convert S D x,ty,pos,after,gd⟩::rest)::k) E objs:=by
 refine R_op (LocOp.up (LocOp.quiet hg hgd hd (by simp) fun φ objs w' w hρ hs'=>?_)) hr
 simp only[Op.operands]at hρ
 have hxv:=Ent.nrm _ _ _ _ _ (hρ x (by simp))
 rw[hx]at hxv
 simp only[RV]at hxv
 have hu:=(hg.ty _ _ hS).sh
 have hv:=(hg.ty _ _ hD).sh
 have hw:=(hg.ty _ _ he).sh
 simp only[ShFact]at hu hv hw
 obtain⟨cells,hf⟩:=Fst.of_rd (P:=g.P) hxv (sz:=1) (by intro r hr;obtain⟨b,_,rfl⟩:=List.mem_map.1 hr;rfl)
 generalize hvx:w'.eval x=vx at hxv hf
 refine out_val hs' (vv:=.string ⟨l.toArray⟩) ?_ (by simp only[RV];exact .v _)
 obtain⟨p,c,hvv⟩:=hf.sl
 have hlen:(byRows l).length=l.length:=by simp[byRows]
 have hcells:cells=l.map fun b=>Value.int .u8 (b.toNat:Int):=by
  apply List.ext_getElem?
  intro i
  by_cases hi:i<l.length
  ·have hb:(byRows l)[i]? = some [.v (.int .u8 (l[i]'hi).toNat)]:=by rw [byRows,List.getElem?_map,List.getElem?_eq_getElem hi]; rfl
   obtain⟨y,h1,h2⟩:=hf.rd i _ 0 _ hb rfl
   cases h2
   rw[Nat.mul_one,Nat.add_zero]at h1
   rw[h1,List.getElem?_map,List.getElem?_eq_getElem hi];rfl
  ·rw[List.getElem?_eq_none (by rw[hf.len,hlen];omega),List.getElem?_eq_none (by simp;omega)]
 have hconv:(convert S D vx).run g.P w=.ok (.string ⟨l.toArray⟩) w:=by
  rw[hvv,run_convert_bytes_string w S D e p _ c hu hw hv]
  cases p with
  |none =>
   have h0:l=[]:=by
    rw[hvv]at hxv
    generalize byRows l=R at hxv hlen
    cases hxv
    exact List.length_eq_zero_iff.1 hlen.symm
   subst h0
   simp[Conv.bytesToString];rfl
  |some ad =>
   rw[hlen]
   rw[run_bytesToString w ad l.length c (l.map fun b=>(b.toNat:Int)) ?_]
   ·rw[bytes_foldl];simp
   ·have:=hf.run w rfl
    rw[hvv,hlen,hcells]at this
    simp only[Builtin.firstCells,Nat.mul_one]at this
    rw[List.map_map]
    simpa[Function.comp_def]using this
 simp only[execOp,hvx,Sem.run_bind,hconv,Result.andThen_ok,Sem.run_pure]

theorem R_rangeS (hg:GOk g){dst:Option Nat}{T:Nat}{x:Operand}{ty:Nat}{pos:String}{after:Array Edge}{gd:Option (Nat × Bool)}{rest:List Oper}{k:List It}{E:Env}{objs:List Ob}
  {q by_:Nat} {z:List Value} {s:ByteArray}
  (hgd:guardA ops.toList E gd=some true) (hd:dstOk ⟨g.ty,g.N⟩ dst=true) (hx:ev E x=.d (.v (.string s))) (hT:g.ty T=some ⟨q,by_,z,.str⟩)
  (hr:R g pf Fin (.dr ops rest::k) (putO E dst (.lo (len objs) 0)) (objs++[.itr s 0])):R g pf Fin (.dr ops (⟨dst,.range T x,ty,pos,after,gd⟩::rest)::k) E objs:=by
 refine R_op (LocOp.effect hg hgd hd (by simp) fun φ a w hρ hs=>?_) hr
 simp only[Op.operands]at hρ
 have hxv:=hρ x (by simp)
 rw[hx]at hxv
 simp only[RV]at hxv
 generalize hvx:a.eval x=vx at hxv
 cases hxv
 have hu:=(hg.ty _ _ hT).sh
 simp only[ShFact]at hu
 refine⟨.value (.pointer (some ⟨w.heap.size,0,none⟩)),.pointer (some ⟨w.heap.size,0,none⟩),w.alloc (.stringIter s 0),φ++[.blk w.heap.size],?_,.inl rfl,?_,?_⟩
 ·simp only [execOp,hvx,Instr.range,Sem.run_bind,run_underlying hu,Result.andThen_ok,Sem.run_pure,run_newObj]
  rfl
 ·simp only [RV]
  exact⟨w.heap.size,by rw[len_eq,← hs.len];simp,rfl⟩
 ·refine Stp.new hs (fun b hb=>by simp only [Phy.bl] at hb; exact hb.symm) ?_
  simp only[ObOk]
  exact heap_alloc_new _ _

theorem R_nextS (hg:GOk g){dst:Option Nat}{x:Operand}{ty:Nat}{pos:String}{after:Array Edge}{gd:Option (Nat × Bool)}{rest:List Oper}{k:List It}{E:Env}{objs:List Ob}
  {i p:Nat} {s:ByteArray} {c wd:Nat}
  (hgd:guardA ops.toList E gd=some true) (hd:dstOk ⟨g.ty,g.N⟩ dst=true) (hx:ev E x=.lo i 0) (ho:nth objs i=some (.itr s p)) (hp:p<s.size) (hc:Utf8.decode s p=(c,wd))
  (hr:R g pf Fin (.dr ops rest::k) (putO E dst (.tup [.tt,iV p,.d (.v (.int .i32 c))])) (setN objs i (.itr s (p+wd)))):R g pf Fin (.dr ops (⟨dst,.next x true,ty,pos,after,gd⟩::rest)::k) E objs:=by
 refine R_op (LocOp.effect hg hgd hd (by simp) fun φ a w hρ hs=>?_) hr
 simp only[Op.operands]at hρ
 have hxv:=hρ x (by simp)
 rw[hx]at hxv
 simp only[RV]at hxv
 obtain⟨b,hph,hvx⟩:=hxv
 have hk:=obj_at hs hph ho
 simp only[ObOk]at hk
 have hbl:b<w.heap.size:=(Array.getElem?_eq_some_iff.1 hk).1
 refine⟨.value (.tuple #[.bool true,.int .i64 p,.int .i32 c]),.tuple #[.bool true,.int .i64 p,.int .i32 c],w.putObj b (.stringIter s (p+wd)),φ.set i (.blk b),?_,.inl rfl,?_,?_⟩
 ·have hget:(getObj b).run g.P w=.ok (.stringIter s p) w:=by simp [getObj,Sem.run,hk]
  have hset:(setObj b (.stringIter s (p+wd))).run g.P w=.ok () (w.putObj b (.stringIter s (p+wd))):=by simp[setObj,Sem.run,hk,World.putObj]
  simp only[execOp,hvx,Instr.next,Sem.run_bind,hget,Result.andThen_ok]
  rw[if_pos hp]
  simp only[hc,Sem.run_bind,hset,Result.andThen_ok,Sem.run_pure]
  rfl
 ·simp only [RV,RVs]
  exact⟨[_,_,_],rfl,rfl,by simp only[iV,RV];exact .v _,.v _,trivial⟩
 ·rw [setN_eq]
  refine Stp.swap hs hph (.inl rfl) (by simp) (fun c _ hc=>World.putObj_heap_other fun e=>hc (by rw[e];rfl)) (fun b' hb=>.inl hb) rfl rfl rfl fun _ _=>?_
  simp only[ObOk]
  exact World.putObj_heap_same hbl

theorem R_nextE (hg:GOk g){dst:Option Nat}{x:Operand}{ty:Nat}{pos:String}{after:Array Edge}{gd:Option (Nat × Bool)}{rest:List Oper}{k:List It}{E:Env}{objs:List Ob}
  {i p:Nat} {s:ByteArray}
  (hgd:guardA ops.toList E gd=some true) (hd:dstOk ⟨g.ty,g.N⟩ dst=true) (hx:ev E x=.lo i 0) (ho:nth objs i=some (.itr s p)) (hp:s.size≤p)
  (hr:R g pf Fin (.dr ops rest::k) (putO E dst (.tup [.ff])) objs):R g pf Fin (.dr ops (⟨dst,.next x true,ty,pos,after,gd⟩::rest)::k) E objs:=by
 refine R_op (LocOp.effect hg hgd hd (by simp) fun φ a w hρ hs=>?_) hr
 simp only[Op.operands]at hρ
 have hxv:=hρ x (by simp)
 rw[hx]at hxv
 simp only[RV]at hxv
 obtain⟨b,hph,hvx⟩:=hxv
 have hk:=obj_at hs hph ho
 simp only[ObOk]at hk
 refine out_val hs (vv:=.tuple #[.bool false]) ?_ (by simp only[RV,RVs];exact⟨[_],rfl,rfl,trivial⟩)
 have hget:(getObj b).run g.P w=.ok (.stringIter s p) w:=by simp[getObj,Sem.run,hk]
 simp only[execOp,hvx,Instr.next,Sem.run_bind,hget,Result.andThen_ok]
 rw[if_neg (by omega)]
 simp only[Sem.run_pure,Result.andThen_ok]

theorem R_lenStr (hg:GOk g){dst:Option Nat}{T:Nat}{x:Operand}{ty:Nat}{pos:String}{after:Array Edge}{gd:Option (Nat × Bool)}{rest:List Oper}{k:List It}{E:Env}{objs:List Ob}
  {q by_:Nat} {z:List Value} {s:ByteArray} {n:Int}
  (hgd:guardA ops.toList E gd=some true) (hd:dstOk ⟨g.ty,g.N⟩ dst=true) (hx:ev E x=.d (.v (.string s))) (hT:g.ty T=some ⟨q,by_,z,.str⟩) (hn:(s.size:Int)=n)
  (hr:R g pf Fin (.dr ops rest::k) (putO E dst (iV n)) objs):R g pf Fin (.dr ops (⟨dst,.call { callee:=.builtin .len,args:=#[x],argTypes:=#[T] },ty,pos,after,gd⟩::rest)::k) E objs:=by
 subst hn
 refine R_op (LocOp.up (LocOp.quiet hg hgd hd (by simp) fun φ objs a w hρ hs=>?_)) hr
 simp only[Op.operands,Call.operands]at hρ
 have hxv:=hρ x (by simp)
 rw[hx]at hxv
 simp only[RV]at hxv
 generalize hvx:a.eval x=vx at hxv
 cases hxv
 have hu:=(hg.ty _ _ hT).sh
 simp only[ShFact]at hu
 refine out_val hs (vv:=.int .i64 s.size) ?_ (by simp only[RV,iV];exact .v _)
 simp[execOp,resolve,invoke,builtin,Builtin.len_,hvx,run_underlying hu,Result.andThen]
 rfl
end
end PSL
namespace PSL
open Go Go.RowKit
section
variable {g:G} {pf:Nat→Cls} {ops:Array Oper} {Fin:Exit→Act→World→Prop}

theorem R_buildO (hg:GOk g){dst:Option Nat}{T n:Nat}{parts:Array (Nat × Operand)}{ty:Nat}{pos:String}{after:Array Edge}{gd:Option (Nat × Bool)}{rest:List Oper}{k:List It}{E:Env}{objs:List Ob}
  {q by_ e sz:Nat} {z:List Value} {τ:Ty} (rows:List (List D))
  (hgd:guardA ops.toList E gd=some true) (hd:dstOk ⟨g.ty,g.N⟩ dst=true) (hcl:bsCls pf=.turn 0) (hT:g.ty T=some ⟨q,by_,z,.slice e⟩) (he:g.ty e=some τ) (hrows:rowsOf (parts.toList.map fun p=>(p.1,ev E p.2)) 0 τ.size=some rows) (hn:rows.length=n) (hsz:τ.size=sz) (hb:n * sz≤100000) (hb2:n≤100000)
  (hr:R g pf Fin (.dr ops rest::k) (putO E dst (.ow (len objs) 0)) (objs++[.arr sz 0 rows])):R g pf Fin (.dr ops (⟨dst,.buildSlice T n parts,ty,pos,after,gd⟩::rest)::k) E objs:=by
 subst hsz
 refine R_op ?_ hr
 simp only[clsOf,hcl]
 refine LocOp.turning hg (.add _ _) hgd hd (by simp) fun φ a w hρ hs=>?_
 have hsl:=(hg.ty _ _ hT).sh
 simp only[ShFact]at hsl
 have hτ:=hg.ty _ _ he
 have hρ':∀p∈parts.toList,RV (SS g.S0 φ) w φ (ev E p.2) (a.eval p.2):=fun p hp=>hρ p.2 (by
  simp only[Op.operands,Array.toList_map,List.mem_map]
  exact⟨p,hp,rfl⟩)
 have hlp:rows.length=parts.size:=by
  have key:∀ (l:List (Nat × AV)) (k:Nat) (rs:List (List D)),rowsOf l k τ.size=some rs→rs.length=l.length:=by
   intro l
   induction l with
   |nil=>intro k rs h;simp[rowsOf]at h;subst h;rfl
   |cons x l ih =>
    intro k rs h
    obtain⟨i,x⟩:=x
    simp only[rowsOf]at h
    obtain⟨_,h⟩:=bifO h
    split at h
    ·cases h
    split at h
    ·obtain ⟨_,h⟩:=bifO h
     split at h
     ·rename_i hl;cases h;simp[ih _ _ hl]
     ·cases h
    ·cases h
  simpa using key _ _ _ hrows
 obtain⟨zv,hz1,hz2⟩:=run_zeroValue hτ w
 have hzl:=hτ.zl
 have hzs:zv.cells.size=τ.size:=by rw[← hz2]at hzl;simpa using hzl
 generalize hrest:(if n * τ.size=0 then ([]:List Value) else ((List.range (n * τ.size)).map fun i=>zv.cells[i % zv.cells.size]!))=rest
 have hrl:rest.length=n * τ.size:=by
  rw[← hrest]
  split
  ·rename_i h0;rw[h0];rfl
  ·simp only[List.length_map,List.length_range]
 obtain ⟨cells,h1,h2,h2',h3⟩:=rows_fill (S0:=g.S0) (φ:=φ) (w:=w) hτ (parts.toList.map fun p=>(p.1,ev E p.2)) (parts.toList.map fun p=>(p.1,a.eval p.2)) 0 rows [] rest
  (by simp[List.map_map,Function.comp_def]) (by simp only[List.map_map];exact RVs.map _ _ _ fun p hp=>hρ' p hp) hrows (by simp) (by rw[hrl,← hn,hlp];simp)
 simp only[List.nil_append]at h1
 have hpm:(parts.map fun (i,x)=>(i,a.eval x)).toList=parts.toList.map fun p=>(p.1,a.eval p.2):=by simp[Array.toList_map]
 have hrun:(Instr.buildSlice T n (parts.map fun (i,x)=>(i,a.eval x))).run g.P w=.ok (.slice (some ⟨w.heap.size,0,none⟩) n n) (w.alloc (.cells cells.toArray e)):=by
  have h0:¬ (n * τ.size > 2 ^ 24):=by omega
  simp only[Instr.buildSlice,underlying,Sem.run_bind,run_program,Result.andThen_ok,hsl,Sem.run_pure,run_sizeOf hτ]
  rw[Sem.run_ite]
  rw[if_neg h0]
  by_cases hz0:n * τ.size=0
  ·rw [Sem.run_ite,if_pos hz0]
   have hr0:rest=[]:=List.length_eq_zero_iff.1 (by omega)
   rw[hr0]at h1
   simp only[Sem.run_pure,Result.andThen_ok,hz0,hpm,newRow,Sem.run_bind]
   simp only[show (Array.map (fun x=>(#[]:Array Value)[x % (#[]:Array Value).size]!) (Array.range 0))=([]:List Value).toArray from by simp,h1,Sem.run_bind,run_newObj,Result.andThen_ok,Sem.run_pure]
   rfl
  ·rw [Sem.run_ite,if_neg hz0]
   have:(Array.range (n * τ.size)).map (fun x=>zv.cells[x % zv.cells.size]!)=rest.toArray:=by
    rw[← hrest,if_neg hz0];apply Array.toList_inj.1;simp[Array.toList_range]
   simp only[Sem.run_bind,hz1,Sem.run_pure,Result.andThen_ok,this,hpm,h1,newRow,run_newObj]
   rfl
 refine⟨.value (.slice (some ⟨w.heap.size,0,none⟩) n n),.slice (some ⟨w.heap.size,0,none⟩) n n,w.alloc (.cells cells.toArray e),φ++[.sli τ.size 0 (.slice (some ⟨w.heap.size,0,none⟩) n n) (some w.heap.size)],?_,.inl rfl,?_,?_⟩
 ·simp only[execOp,Sem.run_bind,hrun,Result.andThen_ok,Sem.run_pure]
 ·simp only [RV]
  refine⟨⟨_,_,_,rfl⟩,.sli τ.size 0 (.slice (some ⟨w.heap.size,0,none⟩) n n) (some w.heap.size),by rw[len_eq,← hs.len];simp,fun sz' s' x' ob' he=>?_⟩
  cases he
  exact⟨Nat.le_refl _,fun _=>rfl⟩
 ·refine Stp.new hs (fun b hb=>by simp only [Phy.bl] at hb; cases hb; rfl) ?_
  simp only[ObOk]
  refine⟨trivial,trivial,fun r hr=>?_,.inr ⟨w.heap.size,0,n,cells,e,by rw[hn],rfl,heap_alloc_new _ _,by omega,by unfold maxLen;omega,by rw[h2,hn];omega,fun i r j x hi hj=>?_⟩⟩
  ·obtain ⟨i,hi⟩:=List.mem_iff_getElem?.1 hr
   exact(h3 i r hi).1
  ·obtain ⟨u,hu1,hu2⟩:=(h3 i r hi).2 j x hj
   exact⟨u,by rw[Nat.zero_add];exact hu1,hu2.mono (keep_new (fun b hb=>by simp only[Phy.bl]at hb;cases hb;rfl))⟩

theorem R_indexOJ (hg:GOk g)(m:Nat){dst:Option Nat}{T:Nat}{x i:Operand}{ty:Nat}{pos:String}{after:Array Edge}{gd:Option (Nat × Bool)}{rest:List Oper}{k:List It}{E:Env}{objs:List Ob}
  {id s sz q by_ e:Nat} {z:List Value} {τ:Ty} {rows:List (List D)} {n:Int}
  (hgd:guardA ops.toList E gd=some true) (hd:dstOk ⟨g.ty,g.N⟩ dst=true) (hcl:ixCls pf=.look (m+1)) (hmay:¬ mayO g.φ0.length m id (.arr sz s rows)) (hx:ev E x=.ow id s) (ho:nth objs id=some (.arr sz s rows)) (hi:ev E i=.d (.v (.int .i64 n))) (hT:g.ty T=some ⟨q,by_,z,.slice e⟩) (he:g.ty e=some τ) (hsz:τ.size=sz)
  (h0:0≤n) (hlt:n.toNat<rows.length)
  (hr:R g pf Fin (.dr ops rest::k) (putO E dst (.el id s n.toNat 0)) objs):R g pf Fin (.dr ops (⟨dst,.indexAddr T x i,ty,pos,after,gd⟩::rest)::k) E objs:=by
 refine R_op ?_ hr
 simp only[clsOf,hcl]
 refine LocOp.lookingM hg m hgd hd (by simp) fun φ a w objs₁ hgr hρ hs=>?_
 simp only[Op.operands]at hρ
 have hxv:=hρ x (by simp)
 rw[hx]at hxv
 have hiv:=hρ i (by simp)
 rw[hi]at hiv
 simp only[RV]at hiv
 generalize hvi:a.eval i=vi at hiv
 cases hiv
 have ho:nth objs₁ id=some (.arr sz s rows):=by
  have h:=hxv
  simp only[RV]at h
  obtain⟨_,ph,hph,_⟩:=h
  rw[nth_eq]at ho ⊢
  exact Gr.same' hgr ho (by rw[← hs.len];exact(List.getElem?_eq_some_iff.1 hph).1) hmay
 obtain⟨_,h1⟩:=own_slice hs hxv ho
 rcases h1 with h1 |⟨b,o,cap,cs,T',h1,h2,h3,_⟩
 ·subst h1;simp at hlt
 refine out_val hs (vv:=.pointer (some ⟨b,o+n.toNat * sz,none⟩)) ?_ ?_
 ·have hrun:(Instr.indexAt T (a.eval x) (a.eval i)).run g.P w=.ok (.pointer (some ⟨b,o+n.toNat * sz,none⟩)) w:=by
   simp only[Instr.indexAt,h1,hvi,asIntOf,underlying,Sem.run_bind,Sem.run_pure,run_program,Result.andThen_ok,und_slice hg hT]
   rw[Sem.run_ite,if_pos ⟨h0,by omega⟩]
   simp only[Sem.run_bind,run_sizeOf (hg.ty _ _ he),Result.andThen_ok,Sem.run_pure,add_none,hsz]
  simp only[execOp,Sem.run_bind,hrun,Result.andThen_ok,Sem.run_pure]
 ·simp only [RV]
  refine⟨⟨_,_,rfl⟩,_,h2,fun sz' s' x' ob' h=>?_⟩
  cases h
  exact⟨Nat.le_refl _,fun _=>⟨b,o,_,_,h1,rfl⟩⟩

open Classical in
theorem R_storeB (hg:GOk g){dst:Option Nat}{T:Nat}{d x:Operand}{ty:Nat}{pos:String}{after:Array Edge}{gd:Option (Nat × Bool)}{rest:List Oper}{k:List It}{E:Env}{objs:List Ob}
  {i off:Nat} {l new:List AV} {τ:Ty}
  (hgd:guardA ops.toList E gd=some true) (hd:dstOk ⟨g.ty,g.N⟩ dst=true) (hcl:stClsAt pf d=.turn 10000) (hx:ev E d=.lo i off) (ho:nth objs i=some (.box l)) (hT:g.ty T=some τ) (hc:cellsO (ev E x)=some new)
  (hl:Nat.beq (len new) τ.size=true) (hfit:Nat.ble (Nat.add off τ.size) (len l)=true)
  (hr:R g pf Fin (.dr ops rest::k) (putO E dst .any) (setN objs i (.box (spliceA l off new)))):R g pf Fin (.dr ops (⟨dst,.store T d x,ty,pos,after,gd⟩::rest)::k) E objs:=by
 refine R_op ?_ hr
 simp only[clsOf,hcl]
 refine .of_out hg (guardA_ok hgd) (dstOk_ok hd) (by simp) (fun h=>absurd rfl (h _)) (fun b hb _=>?_) fun φ o₁ o₁' a w E₁ hent hv ho' hs=>?_
 ·cases hb
  intro j y hj
  rw[nth_eq]at ho
  rw[setN_eq]
  by_cases e:j=i
  ·subst e
   exact⟨_,List.getElem?_set_self (List.getElem?_eq_some_iff.1 ho).1,.inr ⟨.inr (.inr ⟨rfl,by rw[ho]at hj;cases hj;rfl⟩),.inr (.inr ⟨rfl,rfl⟩)⟩⟩
  ·exact⟨y,by rw[List.getElem?_set_ne (fun h=>e h.symm)];exact hj,.inl rfl⟩
 ·rcases ho' with ⟨h,_⟩ | ⟨_,h,_⟩ | ⟨rfl,rfl⟩
  ·cases h
  ·cases h
  have hρ:=rv_ops hent hv
  simp only[Op.operands]at hρ
  refine stepOp_ok (ρA:=fun y=>if y=d then .lo i off else if y=x then ev E x else .any) hg.ty hs (fun y=>?_) ?_
  ·split
   ·rename_i h;rw[h,← hx];exact hρ d (by simp)
   ·split
    ·rename_i h;rw[h];exact hρ x (by simp)
    ·simp[RV]
  ·have hxx:(if x=d then AV.lo i off else if x=x then ev E x else .any)=ev E x:=by
    split
    ·rename_i h;rw[h,hx]
    ·rw[if_pos rfl]
   have hxx':(if x=d then AV.lo i off else ev E x)=ev E x:=by rw[if_pos rfl]at hxx;exact hxx
   simp only[stepOp,stepS,stepL,stepE,hT,if_true,ho,hxx',hc,hl,hfit,cond_true]
end
end PSL

namespace PSL
open Go
namespace Tm

mutual
def occ:Tm→List Int
 |mk k _ n l=>if k=1 then [n] else occL l
def occL:List Tm→List Int
 |[]=>[]
 |t::r=>occ t++occL r
end

mutual
theorem withV_occ:∀ (t:Tm) (a:List Int),withV a t=(occ t).foldl addV a
 |mk k s n l,a=>by
  simp only[withV,occ]
  split
  ·rfl
  ·exact withVL_occ l a
theorem withVL_occ:∀ (l:List Tm) (a:List Int),withVL a l=(occL l).foldl addV a
 |[],a=>rfl
 |t::r,a=>by simp only[withVL,occL,List.foldl_append,withV_occ t a,withVL_occ r]
end

mutual
theorem occ_of:∀ {t:Tm} {d:Int} {e:Int × Tm},e∈els t d→e.2.k=1→plain t=true→e.2.n∈occ t
 |mk k s n l,d,e,he,hk,hp=>by
  simp only[els,List.mem_cons]at he
  simp only[plain,Bool.and_eq_true]at hp
  rcases he with rfl |he
  ·have hk:k=1:=hk
   simp only[occ,if_pos hk]
   show n∈[n];simp
  ·have hl:=occL_of he hk hp.2
   by_cases h1:k=1
   ·have:l=[]:=by
     have h2:=hp.1
     simp only[h1,beq_self_eq_true,Bool.true_and,Bool.not_not]at h2
     simpa using h2
    subst this
    simp[elsL]at he
   ·simp only[occ,if_neg h1];exact hl
theorem occL_of:∀ {l:List Tm} {d:Int} {e:Int × Tm},e∈elsL l d→e.2.k=1→plainL l=true→e.2.n∈occL l
 |[],_,_,he,_,_=>by simp[elsL]at he
 |t::r,d,e,he,hk,hp=>by
  simp only[elsL,List.mem_append]at he
  simp only[plainL,Bool.and_eq_true]at hp
  simp only[occL,List.mem_append]
  rcases he with he |he
  ·exact .inl (occ_of he hk hp.1)
  ·exact .inr (occL_of he hk hp.2)
end

theorem kindR_var {s:ByteArray}{n:Int}{m:Nat}(h:kindR 1 s n m=true):0≤n∧n<1000000∧s=ByteArray.empty∧m=0:=by
 simp only[kindR,if_true,Bool.and_eq_true,decide_eq_true_eq,strEq_iff,beq_iff_eq]at h
 obtain⟨⟨⟨h1,h2⟩,h3⟩,h4⟩:=h
 exact⟨h1,h2,h3,by omega⟩

mutual
theorem fair_plain:∀ (t:Tm),fairR t=true→plain t=true
 |mk k s n l,h=>by
  simp only[fairR,Bool.and_eq_true]at h
  simp only[plain,Bool.and_eq_true,fairL_plain l h.1.2,and_true,Bool.not_eq_true',Bool.and_eq_false_iff]
  by_cases hk:k=1
  ·subst hk
   have:=(kindR_var h.2).2.2.2
   right;cases l<;>simp at this ⊢
  ·left;simpa using hk
theorem fairL_plain:∀ (l:List Tm),fairRL l=true→plainL l=true
 |[],_=>rfl
 |t::r,h=>by
  simp only[fairRL,Bool.and_eq_true]at h
  simp only[plainL,fair_plain t h.1,fairL_plain r h.2,Bool.and_self]
end

mutual
theorem occ_turn (g:Int→Int):∀ (t:Tm),occ (turnT g t)=(occ t).map g
 |mk k s n l=>by
  simp only[turnT,occ]
  split
  ·rfl
  ·exact occL_turn g l
theorem occL_turn (g:Int→Int):∀ (l:List Tm),occL (turnTL g l)=(occL l).map g
 |[]=>rfl
 |t::r=>by simp only[turnTL,occL,List.map_append,occ_turn g t,occL_turn g r]
end

mutual
theorem turn_congr {g g':Int→Int}:∀ (t:Tm),fairR t=true→(∀v∈occ t,g v=g' v)→turnT g t=turnT g' t
 |mk k s n l,h,hv=>by
  simp only[fairR,Bool.and_eq_true]at h
  simp only[turnT]
  by_cases hk:k=1
  ·subst hk
   have hl:=(kindR_var h.2).2.2.2
   have hl:l=[]:=List.length_eq_zero_iff.1 hl
   subst hl
   rw[if_pos rfl,if_pos rfl,hv n (by simp[occ])]
   rfl
  ·rw[if_neg hk,if_neg hk,turnL_congr l h.1.2 fun v h'=>hv v (by simp only[occ,if_neg hk];exact h')]
theorem turnL_congr {g g':Int→Int}:∀ (l:List Tm),fairRL l=true→(∀v∈occL l,g v=g' v)→turnTL g l=turnTL g' l
 |[],_,_=>rfl
 |t::r,h,hv=>by
  simp only[fairRL,Bool.and_eq_true]at h
  simp only[turnTL]
  rw[turn_congr t h.1 fun v h'=>hv v (by simp[occL,h']),turnL_congr r h.2 fun v h'=>hv v (by simp[occL,h'])]
end

mutual
theorem turn_self:∀ (t:Tm),turnT (fun n=>n) t=t
 |mk k s n l=>by simp[turnT,turnL_self l]
theorem turnL_self:∀ (l:List Tm),turnTL (fun n=>n) l=l
 |[]=>rfl
 |t::r=>by simp only[turnTL,turn_self t,turnL_self r]
end

theorem rightB_iff {t:Tm}:rightB t=true↔fairR t=true∧t.size≤3000∧t.depth≤100:=by
 simp only[rightB,Bool.and_eq_true,decide_eq_true_eq,and_assoc]

def once (l:List Int):List Int:=l.foldl addV []
end Tm

theorem varsT_once {l:List Tm}(h:Tm.fairRL l=true):varsT l=Tm.once (Tm.occL l):=by
 rw[varsT_with l (Tm.fairL_plain l h),Tm.withVL_occ];rfl
def placeG (l:List Int)(n:Int):Int:=if atI l n 0<0 then 0 else atI l n 0

theorem atI_not_mem:∀ {l:List Int} {n i:Int},n ∉ l→atI l n i=-1
 |[],_,_,_=>rfl
 |x::l,n,i,h=>by
  simp only[List.mem_cons,not_or]at h
  simp only[atI]
  rw[if_neg (fun e=>h.1 e.symm)]
  exact atI_not_mem h.2
end PSL
namespace PSL
open Go

theorem fair_names {t:Tm}(h:t.fairR=true):∀d e,e∈t.els d→e.2.s.size<1000000000:=fun d e he=>by
 have h1:=(Tm.fair_els t d).2 h e he
 rw[Tm.ownT_eq]at h1
 simp only[Bool.and_eq_true,Tm.kindR]at h1
 have h2:=h1.2
 split at h2
 ·simp only [Bool.and_eq_true,Tm.strEq_iff] at h2
  rw[h2.1.2];decide
 ·split at h2
  ·simp only [Bool.and_eq_true,Tm.strEq_iff] at h2
   rw[h2.1];decide
  ·simp only [Bool.and_eq_true,decide_eq_true_eq] at h2
   have:=h2.1.2;omega
theorem right_fair {t:Tm}(h:t.rightB=true):t.fairR=true:=(Tm.rightB_iff.1 h).1
def zeroT:Tm:=.mk 0 ByteArray.empty 0 []

def numberT (l:List Tm):List Tm × Int × Int :=
 if l.all rightT then (Tm.turnTL (placeG (varsT l)) l,(varsT l).length,0) else ([],0,1)
theorem fairL_of {l:List Tm}(h:∀t∈l,t.rightB=true):Tm.fairRL l=true:=Tm.fairRL_iff.2 fun t ht=>right_fair (h t ht)
end PSL
namespace PSL
open Go

structure IsTerm (ty:Nat→Option Ty) (T:Nat):Prop where
 ex:∃ (a b c s:Nat) (τ τa τb τc τs:Ty),ty T=some τ∧τ.sh=.struct [(0,a),(1,b),(2,c),(3,s)]∧τ.size=4∧1≤τ.bytes∧ty a=some τa∧τa.sh=.int .i64∧ty b=some τb∧τb.sh=.str∧ty c=some τc∧τc.sh=.int .i64∧ty s=some τs∧τs.sh=.slice T

def isTermB (ty:Nat→Option Ty)(T:Nat):Bool :=
 match ty T with
 | some ⟨4,by_,_,.struct [(0,a),(1,b),(2,c),(3,s)]⟩=>Nat.ble 1 by_&&(match ty a with | some ⟨_,_,_,.int .i64⟩=>true | _=>false)&&(match ty b with | some ⟨_,_,_,.str⟩=>true | _=>false) &&
   (match ty c with |some ⟨_,_,_,.int .i64⟩=>true |_=>false)&&(match ty s with |some ⟨_,_,_,.slice T'⟩=>Nat.beq T' T |_=>false)
 |_=>false

theorem isTermB_ok {ty:Nat→Option Ty}{T:Nat}(h:isTermB ty T=true):IsTerm ty T:=by
 unfold isTermB at h
 split at h
 case h_2=>cases h
 rename_i by_ z a b c s hT
 simp only[Bool.and_eq_true]at h
 obtain⟨⟨⟨⟨h0,h1⟩,h2⟩,h3⟩,h4⟩:=h
 split at h1
 case h_2=>cases h1
 rename_i ha
 split at h2
 case h_2=>cases h2
 rename_i hb
 split at h3
 case h_2=>cases h3
 rename_i hc
 split at h4
 case h_2=>cases h4
 rename_i hs
 have:=natBeq h4
 subst this
 exact⟨a,b,c,s,_,_,_,_,_,hT,rfl,rfl,Nat.le_of_ble_eq_true h0,ha,rfl,hb,rfl,hc,rfl,hs,rfl⟩

theorem has_int {ty:Nat→Option Ty}{B n t:Nat}{τ:Ty}{row:List D}{k:IntKind}(hτ:ty t=some τ)(hs:τ.sh=.int k)(h:HasTy ty B n t row):∃m,row=[.v (.int k m)]∧k.min≤m∧m≤k.max:=by
 cases n with
 |zero=>simp[HasTy]at h
 |succ n=>simpa only[HasTy,hτ,hs]using h

theorem has_str {ty:Nat→Option Ty}{B n t:Nat}{τ:Ty}{row:List D}(hτ:ty t=some τ)(hs:τ.sh=.str)(h:HasTy ty B n t row):∃s:ByteArray,row=[.v (.string s)]∧s.size≤B:=by
 cases n with
 |zero=>simp[HasTy]at h
 |succ n=>simpa only[HasTy,hτ,hs]using h

theorem has_slice {ty:Nat→Option Ty}{B n t e:Nat}{τ:Ty}{row:List D}(hτ:ty t=some τ)(hs:τ.sh=.slice e)(h:HasTy ty B (n+1) t row):∃rows:List (List D),row=[.sl rows]∧(∀τ,ty e=some τ→rows.length * τ.bytes≤B)∧∀r∈rows,HasTy ty B n e r:=by
 simpa only[HasTy,hτ,hs]using h

def Tm.Fit (t:Tm):Prop:=∀d e,e∈t.els d→I64 e.2.k∧I64 e.2.n

theorem tm_of {ty:Nat→Option Ty}{T B:Nat}(hT:IsTerm ty T)(hB:B≤140737488355328):∀ (n:Nat) (row:List D),HasTy ty B n T row→∃t:Tm,row=t.row∧t.Ok∧t.Fit:=by
 obtain⟨a,b,c,s,τ,τa,τb,τc,τs,h1,h2,h3,hby,ha,ha',hb,hb',hc,hc',hs,hs'⟩:=hT.ex
 intro n
 induction n using Nat.strongRecOn with
 |_ n ih =>
 intro row h
 cases n with
 |zero=>simp[HasTy]at h
 |succ n =>
  simp only[HasTy,h1,h2,HasFs]at h
  obtain⟨_,ra,_,g1,rfl,g2,g3,_,rb,_,g4,rfl,g5,g6,_,rc,_,g7,rfl,g8,g9,_,rs,_,g10,rfl,g11,g12,rfl⟩:=h
  rw[ha]at g1;cases g1
  rw[hb]at g4;cases g4
  rw[hc]at g7;cases g7
  rw[hs]at g10;cases g10
  obtain⟨k,rfl,hk⟩:=has_int ha ha' g3
  obtain⟨nm,rfl,hnm⟩:=has_str hb hb' g6
  obtain⟨m,rfl,hm⟩:=has_int hc hc' g9
  cases n with
  |zero=>simp[HasTy]at g12
  |succ n =>
   obtain⟨rows,rfl,hlen,hrows⟩:=has_slice hs hs' g12
   have hch:∃l:List Tm,rows=l.map Tm.row∧∀x∈l,x.Ok∧x.Fit:=by
    clear hlen g11 g12
    induction rows with
    |nil=>exact⟨[],rfl,by simp⟩
    |cons r rows ihr =>
     obtain⟨t,ht1,ht2⟩:=ih n (by omega) r (hrows r (by simp))
     obtain⟨l,hl1,hl2⟩:=ihr fun r hr=>hrows r (by simp[hr])
     exact⟨t::l,by simp[ht1,hl1],by simpa using ⟨ht2,hl2⟩⟩
   obtain⟨l,rfl,hl⟩:=hch
   have hll:l.length≤B:=by
    have:=hlen τ h1
    rw[List.length_map]at this
    exact Nat.le_trans (Nat.le_mul_of_pos_right _ hby) this
   refine⟨.mk k nm m l,by simp[Tm.row,Tm.k,Tm.s,Tm.n,Tm.l,Tm.rows_eq],?_,?_⟩
   ·intro d e he
    simp only[Tm.els,List.mem_cons]at he
    rcases he with rfl |he
    ·exact⟨show l.length≤_ by omega,show nm.size≤_ by omega⟩
    ·obtain ⟨x,hx,hex⟩:=Tm.elsL_mem he
     exact(hl x hx).1 _ _ hex
   ·intro d e he
    simp only[Tm.els,List.mem_cons]at he
    rcases he with rfl |he
    ·exact⟨hk,hm⟩
    ·obtain ⟨x,hx,hex⟩:=Tm.elsL_mem he
     exact(hl x hx).2 _ _ hex
theorem sh_of {ty:Nat→Option Ty}{t:Nat}{τ:Ty}{sh:Sh}(h:ty t=some τ)(h2:(ty t).map Ty.sh=some sh):τ.sh=sh:=by rw[h]at h2;simpa using h2

theorem argsC {ty:Nat→Option Ty}{B t:Nat}{ts:List Nat}{axs:List AV}(h:ArgsAre ty B (t::ts) axs):∃ (n:Nat) (τ:Ty) (row:List D) (a:AV) (as':List AV),axs=a::as'∧ty t=some τ∧HasTy ty B n t row∧a=avOf τ row∧ArgsAre ty B ts as':=by
 match axs,h with
 |a::axs,h=>simp only[ArgsAre]at h;obtain⟨⟨n,τ,row,h1,h2,_,h3⟩,h4⟩:=h;exact⟨n,τ,row,a,axs,rfl,h1,h2,h3,h4⟩
 |[],h=>simp[ArgsAre]at h

theorem args0 {ty:Nat→Option Ty}{B:Nat}{axs:List AV}(h:ArgsAre ty B [] axs):axs=[]:=by
 cases axs with
 |nil=>rfl
 |cons _ _=>simp[ArgsAre]at h
end PSL
namespace PSL
open Go
namespace Tm
end Tm
namespace Tm
end Tm
end PSL
namespace PSL
open Go
namespace Tm
end Tm
end PSL
namespace PSL
open Go
namespace Tm
end Tm
end PSL

namespace PSL
open Go

abbrev Binds:=List (Int × Tm)
def findB (l:Binds)(v:Int):Option Tm:=(l.find? (fun b=>b.1==v)).map (·.2)
namespace Tm
end Tm
namespace Tm
end Tm
namespace Tm
end Tm
namespace Tm
end Tm
end PSL
namespace PSL
open Go
namespace Tm
end Tm
end PSL
namespace PSL
open Go
namespace Tm
end Tm
end PSL
namespace PSL
open Go
namespace Tm

def vT (n:Int):Tm:=mk 1 ByteArray.empty n []
end Tm
end PSL
namespace PSL
open Go
namespace Tm
end Tm
end PSL
namespace PSL
open Go
namespace Tm
end Tm
end PSL
namespace PSL
open Go
namespace Tm
end Tm

inductive Okn (adj:Nat→List Nat):Nat→Nat→Prop
 |mk {m i:Nat} (h:∀k∈adj i,Okn adj m k):Okn adj (m+1) i
end PSL
namespace PSL
open Go
end PSL
namespace PSL
open Go
end PSL

namespace PSL
open Go
namespace Tm
end Tm
section
variable {B:Binds} (hB:∀b∈B,b.2.fairR=true)
include hB
end
namespace Tm
end Tm
end PSL
namespace PSL
open Go
end PSL
namespace PSL
open Go
end PSL
namespace PSL
open Go
namespace Tm
end Tm
end PSL
namespace PSL
open Go
end PSL

namespace PSL
open Go
namespace Tm
end Tm
end PSL
namespace PSL
open Go
namespace Tm
end Tm
namespace Tm
end Tm
def gd (at_:List Nat)(j:Nat):Int:=((at_.getD j 0:Nat):Int)
end PSL
namespace PSL
open Go
end PSL
namespace PSL
open Go
end PSL
namespace PSL
open Go
end PSL
namespace PSL
open Go

theorem few_neg {t:Tm}{m d:Int}(h:-1≤m∧m<0):t.few m d=-1:=by
 rw[Tm.few_eq,if_pos]
 simp only[Tm.fewStep]
 rw[show IntKind.i64.wrap (m - 1)=m - 1 from w64 (by omega) (by omega),decide_eq_true (by omega:m - 1<0)]
 rfl

theorem few_bound (t:Tm){m d:Int}(h0:-1≤m)(h1:m<9223372036854775808)(h2:d≤1000):-1≤t.few m d∧t.few m d≤m∧(0≤t.few m d→t.few m d+t.size≤m∧∀x e,e∈t.els x→e.2.s.size≤100):=by
 by_cases h:m<0
 ·rw[few_neg ⟨h0,h⟩];exact⟨by omega,by omega,fun h=>by omega⟩
 ·rcases Tm.few_le t m d (by omega) h1 h2 with h3 | ⟨h3,_,_,h4,h5⟩
  ·rw[h3];exact⟨by omega,by omega,fun h=>by omega⟩
  ·exact⟨by omega,by omega,fun _=>⟨h3,h5⟩⟩
end PSL

namespace PSL
open Go Go.RowKit Go.MapKept
abbrev Sg:=ByteArray × Int
def skV (p:Sg):Value:=.agg #[.string p.1,.int .i64 p.2]
def sgA (p:Sg):AV:=.agg [.d (.v (.string p.1)),.d (.v (.int .i64 p.2))]
def kmap (l:List (Sg × AV)):List (Value × AV):=l.map fun e=>(skV e.1,e.2)

def getK:List (Sg × AV)→Sg→Option AV
 |[],_=>none
 |e::r,p=>if e.1=p then some e.2 else getK r p

def setK:List (Sg × AV)→Sg→AV→List (Sg × AV)
 |[],p,v=>[(p,v)]
 |e::r,p,v=>if e.1=p then (p,v)::r else e::setK r p v

structure SKey (P:Program) (kt:TypeId):Prop where
 und:∃fs,P.underlying kt=some (.struct fs)
 eq:∀p q w,(Op.equal kt (skV p) (skV q)).run P w=.ok (decide (p=q)) w
 ck:∀b p w,(Instr.checkKey b 10000 kt (skV p)).run P w=.ok () w

theorem findK_ok {P:Program}{kt:TypeId}(hk:SKey P kt){S:Nat→Prop}{w:World}{φ:List Phy}(p:Sg):∀ {l:List (Sg × AV)} {ents:List MapEntry} {i:Nat},EntsOk S w φ (kmap l) ents →
  match getK l p with
  |none=>(Instr.findAsking kt (skV p) ents i).run P w=.ok none w∧∀v,setK l p v=l++[(p,v)]
  |some x=>∃j v,(Instr.findAsking kt (skV p) ents i).run P w=.ok (some (i+j,v)) w∧RV S w φ x v∧(∃f,ents[j]? = some f∧f.key=skV p)∧j<l.length∧∀v,setK l p v=l.set j (p,v)
 |[],ents,i,h=>by
  cases ents with
  |nil=>simp[getK,Instr.findAsking,setK]
  |cons _ _=>have:=h.1;simp[kmap]at this
 |e::l,ents,i,h=>by
  cases ents with
  |nil=>have:=h.1;simp[kmap]at this
  |cons f ents =>
   obtain⟨h1,h2⟩:=h
   simp only[kmap,List.map_cons,List.cons.injEq]at h1
   obtain⟨hf,h1⟩:=h1
   simp only[kmap,List.map_cons,RVs]at h2
   simp only[getK]
   by_cases he:e.1=p
   ·rw [if_pos he]
    refine⟨0,f.val,?_,h2.1,⟨f,rfl,by rw[← hf,he]⟩,by simp,fun v=>by simp only[setK];rw[if_pos he];rfl⟩
    simp only[Instr.findAsking,Sem.run_bind,← hf,hk.eq,Result.andThen_ok]
    simp[he]
   ·rw [if_neg he]
    have hd:decide (p=e.1)=false:=decide_eq_false fun h=>he h.symm
    have:=findK_ok hk p (l:=l) (ents:=ents) (i:=i+1) ⟨by simpa[kmap]using h1,by simpa[kmap]using h2.2⟩
    have hstep:(Instr.findAsking kt (skV p) (f::ents) i).run P w=(Instr.findAsking kt (skV p) ents (i+1)).run P w:=by
     simp only[Instr.findAsking,Sem.run_bind,← hf,hk.eq,Result.andThen_ok,hd]
     simp
    cases hg:getK l p with
    |none =>
     rw[hg]at this;simp only at this ⊢
     exact⟨by rw[hstep];exact this.1,fun v=>by simp only[setK];rw[if_neg he,this.2];rfl⟩
    |some x =>
     rw[hg]at this;simp only at this ⊢
     obtain⟨j,v,g1,g2,⟨f',g3,g4⟩,g5,g6⟩:=this
     refine⟨j+1,v,by rw[hstep,g1,Nat.add_assoc,Nat.add_comm 1 j],g2,⟨f',by rw[List.getElem?_cons_succ];exact g3,g4⟩,by simp only[List.length_cons];omega,fun v=>by simp only[setK];rw[if_neg he,g6];rfl⟩

theorem run_findKeyK {P:Program}{kt:TypeId}(hk:SKey P kt){w:World}(p:Sg){ents:List MapEntry}(h:ents=[]∨∃q,∃f r,ents=f::r∧f.key=skV q):(Instr.findKey kt (skV p) ents).run P w=(Instr.findAsking kt (skV p) ents 0).run P w:=by
 obtain⟨fs,hu⟩:=hk.und
 rcases h with rfl |⟨q,f,r,rfl,hf⟩
 ·simp[Instr.findKey,run_underlying hu,Instr.findNow,Instr.findAsking]
 ·simp[Instr.findKey,run_underlying hu,Instr.findNow,Instr.sameNow,skV]

theorem entsK_head {S:Nat→Prop}{w:World}{φ:List Phy}{l:List (Sg × AV)}{ents:List MapEntry}(h:EntsOk S w φ (kmap l) ents):ents=[]∨∃q,∃f r,ents=f::r∧f.key=skV q:=by
 cases ents with
 |nil=>exact .inl rfl
 |cons f r =>
  cases l with
  |nil=>have:=h.1;simp[kmap]at this
  |cons e l =>
   have:=h.1
   simp only[kmap,List.map_cons,List.cons.injEq]at this
   exact .inr ⟨e.1,f,r,rfl,this.1.symm⟩

theorem sk_bits (p:Sg):Instr.sameBits 10000 (skV p) (skV p)=true:=by
 simp[skV,Instr.sameBits,bytes_beq]

theorem run_keyStaysK {P:Program}{w:World}(p:Sg):(Instr.keyThatStays (skV p) (skV p)).run P w=.ok (skV p) w:=by
 simp[Instr.keyThatStays,sk_bits]
section
variable {g:G} {pf:Nat→Cls} {ops:Array Oper} {Fin:Exit→Act→World→Prop}

theorem sg_rv {S:Nat→Prop}{w:World}{φ:List Phy}{p:Sg}{v:Value}(h:RV S w φ (sgA p) v):v=skV p:=by
 simp only[sgA,RV]at h
 obtain⟨cs,rfl,h⟩:=h
 match cs,h with
 |[x,y],h =>
  simp only[RVs,RV,and_true]at h
  obtain⟨h1,h2⟩:=h
  cases h1;cases h2
  rfl
 |[],h=>simp[RVs]at h
 |[_],h=>simp[RVs]at h
 |_::_::_::_,h=>simp[RVs]at h

theorem R_lookupK (hg:GOk g){dst:Option Nat}{T:Nat}{x y:Operand}{ok:Bool}{ty:Nat}{pos:String}{after:Array Edge}{gd:Option (Nat × Bool)}{rest:List Oper}{k:List It}{E:Env}{objs:List Ob}
  {i q by_ kt et:Nat} {z:List Value} {zv:Value} (p:Sg) (l:List (Sg × AV)) (hk:SKey g.P kt)
  (hgd:guardA ops.toList E gd=some true) (hd:dstOk ⟨g.ty,g.N⟩ dst=true) (hx:ev E x=.mp i) (ho:nth objs i=some (.map (kmap l))) (hy:ev E y=sgA p) (hT:g.ty T=some ⟨q,by_,z,.map kt et⟩)
  (hz:(g.P.info? et).bind (·.zero)=some zv) {v:AV} (hv:lookI' ok (cstV zv) (getK l p)=v)
  (hr:R g pf Fin (.dr ops rest::k) (putO E dst v) objs):R g pf Fin (.dr ops (⟨dst,.lookup T x y ok,ty,pos,after,gd⟩::rest)::k) E objs:=by
 subst hv
 refine R_op (LocOp.lookingM hg 1 hgd hd (by simp) fun φ a' w objs₁ hgr hρ hs=>?_) hr
 simp only[Op.operands]at hρ
 have hxv:=hρ x (by simp)
 rw[hx]at hxv
 have hyv:=hρ y (by simp)
 rw[hy]at hyv
 have hvy:=sg_rv hyv
 simp only[RV]at hxv
 obtain⟨b',hb,hxv⟩:=hxv
 have ho:nth objs₁ i=some (.map (kmap l)):=by
  rw[nth_eq]at ho ⊢
  exact Gr.same hgr ho (by rw[← hs.len];exact(List.getElem?_eq_some_iff.1 hb).1) (by simp[Ob.lvl])
 have hko:=obj_at hs hb ho
 simp only[ObOk]at hko
 obtain⟨ents,clk,hheap,hents⟩:=hko
 have hT':g.P.underlying T=some (.map kt et):=by have:=(hg.ty _ _ hT).sh;simpa only[ShFact]using this
 have hzero:(zeroValue et).run g.P w=.ok zv w:=by
  obtain⟨inf,h1,h2⟩:=Option.bind_eq_some_iff.1 hz
  simp[zeroValue,typeInfo,h1,h2]
 have hzR:RV (SS g.S0 φ) w φ (cstV zv) zv:=rv_restr (l:=[]) (E:=[]) (E₁:=[]) (a:={ tmps:=#[],defers:=[] }) (by simp) (fun t=>by simp[lk,RV]) (.const zv)
 have hfind:=findK_ok hk p (i:=0) hents
 have hfk:=run_findKeyK hk (w:=w) p (entsK_head hents)
 cases hg':getK l p with
 |none =>
  rw[hg']at hfind
  simp only at hfind
  refine out_val hs (vv:=if ok then .tuple #[zv,.bool false] else zv) ?_ ?_
  ·simp[execOp,Instr.lookup,run_underlying hT',hxv,run_getObj_map hheap,hvy,hk.ck,hfk,hfind.1,hzero]
  ·simp only [lookI']
   cases ok
   ·simpa using hzR
   ·simp only [if_true,RV]
    exact⟨[zv,.bool false],rfl,by simp only[RVs,RV,bV,and_true];exact⟨hzR,.v _⟩⟩
 |some x =>
  rw[hg']at hfind
  simp only at hfind
  obtain⟨j,vv,h1,h2,_⟩:=hfind
  refine out_val hs (vv:=if ok then .tuple #[vv,.bool true] else vv) ?_ ?_
  ·simp[execOp,Instr.lookup,run_underlying hT',hxv,run_getObj_map hheap,hvy,hk.ck,hfk,h1]
  ·simp only [lookI']
   cases ok
   ·simpa using h2
   ·simp only [if_true,RV]
    exact⟨[vv,.bool true],rfl,by simp only[RVs,RV,bV,and_true];exact⟨h2,.v _⟩⟩

theorem rvs_set {S:Nat→Prop}{w:World}{φ:List Phy}{x:AV}{u:Value}:∀ {l:List AV} {vs:List Value} (j:Nat),RVs S w φ l vs→RV S w φ x u→RVs S w φ (l.set j x) (vs.set j u)
 |[],[],_,_,_=>by simp[RVs]
 |[],_::_,_,h,_=>by simp[RVs]at h
 |_::_,[],_,h,_=>by simp[RVs]at h
 |a::l,b::vs,0,h,hx=>by simp only[RVs,List.set_cons_zero]at h ⊢;exact⟨hx,h.2⟩
 |a::l,b::vs,j+1,h,hx=>by simp only[RVs,List.set_cons_succ]at h ⊢;exact⟨h.1,rvs_set j h.2 hx⟩

theorem list_modify_set {α:Type}(f:α→α):∀ (l:List α) (j:Nat) (x:α),l[j]? = some x→l.modify j f=l.set j (f x)
 |[],j,x,h=>by simp at h
 |a::l,0,x,h=>by simp at h;subst h;rfl
 |a::l,j+1,x,h=>by
  simp at h
  simp only[List.modify_succ_cons,List.set_cons_succ]
  rw[list_modify_set f l j x h]

theorem R_setK (hg:GOk g){dst:Option Nat}{T:Nat}{x y v:Operand}{ty:Nat}{pos:String}{after:Array Edge}{gd:Option (Nat × Bool)}{rest:List Oper}{k:List It}{E:Env}{objs:List Ob}
  {i q by_ kt et:Nat} {z:List Value} {v':AV} (p:Sg) (l l':List (Sg × AV)) (hk:SKey g.P kt)
  (hgd:guardA ops.toList E gd=some true) (hd:dstOk ⟨g.ty,g.N⟩ dst=true) (hx:ev E x=.mp i) (ho:nth objs i=some (.map (kmap l))) (hy:ev E y=sgA p) (hT:g.ty T=some ⟨q,by_,z,.map kt et⟩)
  (hv:Ent (ev E v) v') (hl:setK l p v'=l')
  (hr:R g pf Fin (.dr ops rest::k) (putO E dst .any) (setN objs i (.map (kmap l')))):R g pf Fin (.dr ops (⟨dst,.mapUpdate T x y v,ty,pos,after,gd⟩::rest)::k) E objs:=by
 subst hl
 refine R_op (LocOp.turning hg (grow_map ho) hgd hd (by simp) fun φ a' w hρ hs=>?_) hr
 simp only[Op.operands]at hρ
 have hxv:=hρ x (by simp)
 rw[hx]at hxv
 have hyv:=hρ y (by simp)
 rw[hy]at hyv
 have hvy:=sg_rv hyv
 have hvv:=hv _ _ _ _ (hρ v (by simp))
 simp only[RV]at hxv
 obtain⟨b',hb,hxv⟩:=hxv
 have hko:=obj_at hs hb ho
 simp only[ObOk]at hko
 obtain⟨ents,clk,hheap,hents⟩:=hko
 have hT':g.P.underlying T=some (.map kt et):=by have:=(hg.ty _ _ hT).sh;simpa only[ShFact]using this
 have hfind:=findK_ok hk p (i:=0) hents
 have hfk:=run_findKeyK hk (w:=w) p (entsK_head hents)
 rw[setN_eq]
 cases hg':getK l p with
 |none =>
  rw[hg']at hfind
  simp only at hfind
  obtain⟨hfind,hset'⟩:=hfind
  rw[hset']
  have hset:=heap_set (o':=.map (ents.push { key:=skV p,val:=a'.eval v,born:=clk }) (clk+1)) hheap
  refine⟨.skip,undef,{ w with heap:=w.heap.setIfInBounds b' (.map (ents.push { key:=skV p,val:=a'.eval v,born:=clk }) (clk+1)) },φ.set i (.blk b'),?_,.inr ⟨rfl,rfl⟩,by simp[RV],?_⟩
  ·simp[execOp,Instr.mapUpdate,run_underlying hT',hxv,run_getObj_map hheap,hvy,hk.ck,hfk,hfind,run_setObj_map _ hheap]
  ·refine Stp.swap hs hb (.inl rfl) (by simp) (fun c _ hc=>hset.2 c fun e=>hc (by rw [e]; rfl)) (fun b' hb=>.inl hb) rfl rfl rfl fun hkeep hle=>?_
   simp only[ObOk]
   refine⟨_,_,hset.1,?_,?_⟩
   ·have:=hents.1
    simp only[kmap,List.map_append,List.map_map,List.map_cons,List.map_nil,Array.toList_push]at this ⊢
    rw[this]
   ·have:=(hents.2.mono hkeep hle).append (l':=[v']) (vs':=[a'.eval v]) (by simp only [RVs,and_true]; exact hvv.mono hkeep hle)
    simpa[kmap]using this
 |some x0 =>
  rw[hg']at hfind
  simp only at hfind
  obtain⟨j,vv,h1,h2,⟨f,h3,h4⟩,h5,h6⟩:=hfind
  rw[Nat.zero_add]at h1
  rw[h6]
  obtain⟨f',hf'⟩:∃f':MapEntry→MapEntry,f'=fun e=>{ e with key:=skV p,val:=a'.eval v }:=⟨_,rfl⟩
  have hset:=heap_set (o':=.map (ents.modify j f') clk) hheap
  have h3':ents[j]? = some f:=by simpa using h3
  refine⟨.skip,undef,{ w with heap:=w.heap.setIfInBounds b' (.map (ents.modify j f') clk) },φ.set i (.blk b'),?_,.inr ⟨rfl,rfl⟩,by simp[RV],?_⟩
  ·simp[execOp,Instr.mapUpdate,run_underlying hT',hxv,run_getObj_map hheap,hvy,hk.ck,hfk,h1,h3',h4,run_keyStaysK,run_setObj_map _ hheap,hf']
  ·refine Stp.swap hs hb (.inl rfl) (by simp) (fun c _ hc=>hset.2 c fun e=>hc (by rw [e]; rfl)) (fun b' hb=>.inl hb) rfl rfl rfl fun hkeep hle=>?_
   simp only[ObOk]
   have hml:(ents.modify j f').toList=ents.toList.set j (f' f):=by
    rw[Array.toList_modify,list_modify_set f' _ _ f h3]
   refine⟨_,_,hset.1,?_,?_⟩
   ·have:=hents.1
    rw[hml]
    simp only[kmap,List.map_map,List.map_set]at this ⊢
    rw[this,hf']
   ·have:=rvs_set j (hents.2.mono hkeep hle) (hvv.mono hkeep hle)
    rw[hml]
    simp only[kmap,List.map_map,List.map_set]at this ⊢
    rw[show (f' f).val=a'.eval v by rw[hf']]
    exact this

structure SCmp (P:Program) (T:Nat):Prop where
 eql:∀ (x y:Operand) (p q:Sg) (w:World),((do eqGuard .eql T x y (skV p) (skV q);binOp .eql T (skV p) (skV q)):Sem Value).run P w=.ok (.bool (decide (p=q))) w
 neq:∀ (x y:Operand) (p q:Sg) (w:World),((do eqGuard .neq T x y (skV p) (skV q);binOp .neq T (skV p) (skV q)):Sem Value).run P w=.ok (.bool (!decide (p=q))) w

theorem R_eqK (hg:GOk g)(p q:Sg){dst:Option Nat}{T T':Nat}{x y:Operand}{ty:Nat}{pos:String}{after:Array Edge}{gd:Option (Nat × Bool)}{rest:List Oper}{k:List It}{E:Env}{objs:List Ob}(hc:SCmp g.P T)
  (hgd:guardA ops.toList E gd=some true) (hd:dstOk ⟨g.ty,g.N⟩ dst=true) (hx:ev E x=sgA p) (hy:ev E y=sgA q)
  (hr:R g pf Fin (.dr ops rest::k) (putO E dst (bV (decide (p=q)))) objs):R g pf Fin (.dr ops (⟨dst,.binOp .eql T x y T',ty,pos,after,gd⟩::rest)::k) E objs:=by
 refine R_op (LocOp.up (LocOp.quiet hg hgd hd (by simp) fun φ objs w' w hρ hs'=>?_)) hr
 simp only[Op.operands]at hρ
 have hxv:=hρ x (by simp)
 rw[hx]at hxv
 have hyv:=hρ y (by simp)
 rw[hy]at hyv
 have ex:=sg_rv hxv
 have ey:=sg_rv hyv
 refine out_val hs' (vv:=.bool (decide (p=q))) ?_ (by simp only[bV,RV];exact .v _)
 have h2:=hc.eql x y p q w
 simp only[Sem.run_bind]at h2
 simp only[execOp,Sem.run_bind,ex,ey]
 have e:∀ (r1:Result Unit) (f:Unit→World→Result Value),(r1.andThen f).andThen (fun v w'=>.ok (Next.value v) w')=r1.andThen fun u w'=>(f u w').andThen (fun v w'=>.ok (Next.value v) w'):=fun r1 f=>by cases r1<;>rfl
 rw[h2];rfl

theorem R_lookupKD (hg:GOk g){dst:Option Nat}{T:Nat}{x y:Operand}{ok:Bool}{ty:Nat}{pos:String}{after:Array Edge}{gd:Option (Nat × Bool)}{rest:List Oper}{k:List It}{E:Env}{objs:List Ob}
  {q by_ kt et:Nat} {ds:List (Value × D)} {z:List Value} {zv:Value} (p:Sg) (l:List (Sg × AV)) (hl:ds.map (fun p=>(p.1,AV.d p.2))=kmap l) (hk:SKey g.P kt)
  (hgd:guardA ops.toList E gd=some true) (hd:dstOk ⟨g.ty,g.N⟩ dst=true) (hx:ev E x=.d (.map ds)) (hy:ev E y=sgA p) (hT:g.ty T=some ⟨q,by_,z,.map kt et⟩)
  (hz:(g.P.info? et).bind (·.zero)=some zv) {v:AV} (hv:lookI' ok (cstV zv) (getK l p)=v)
  (hr:R g pf Fin (.dr ops rest::k) (putO E dst v) objs):R g pf Fin (.dr ops (⟨dst,.lookup T x y ok,ty,pos,after,gd⟩::rest)::k) E objs:=by
 subst hv
 refine R_op (LocOp.quiet hg hgd hd (by simp) fun φ objs₁ a w hρ hs=>?_) hr
 simp only[Op.operands]at hρ
 have hxv:=hρ x (by simp)
 rw[hx]at hxv
 have hyv:=hρ y (by simp)
 rw[hy]at hyv
 have hvy:=sg_rv hyv
 simp only[RV]at hxv
 generalize hxe:a.eval x=vx at hxv
 obtain⟨b,ents,clk,rfl,hheap,hents⟩:∃ (b:Nat) (ents:Array MapEntry) (clk:Nat),vx=.map (some b)∧w.heap[b]? = some (.map ents clk)∧EntsOk (SS g.S0 φ) w φ (ds.map fun p=>(p.1,AV.d p.2)) ents.toList:=by
  cases hxv with
  |map g' hS hb hk hg' hr' =>
   refine⟨_,_,_,rfl,hb,by simpa[List.map_map,Function.comp_def]using hk,?_⟩
   have hlen:=congrArg List.length hk
   simp only[List.length_map,Array.length_toList]at hlen
   refine RVs.of_get (by simpa using hlen) fun j u v hu hv=>?_
   rw[List.getElem?_map,List.getElem?_map]at hu
   cases hj:ds[j]? with
   |none=>rw[hj]at hu;cases hu
   |some x =>
    rw[hj]at hu;simp at hu;subst hu
    rw[List.getElem?_map,Array.getElem?_toList,hg' j x hj]at hv
    cases hv
    simpa only[RV]using hr' j x hj
 rw[hl]at hents
 have hT':g.P.underlying T=some (.map kt et):=by have:=(hg.ty _ _ hT).sh;simpa only[ShFact]using this
 have hzero:(zeroValue et).run g.P w=.ok zv w:=by
  obtain⟨inf,h1,h2⟩:=Option.bind_eq_some_iff.1 hz
  simp[zeroValue,typeInfo,h1,h2]
 have hzR:RV (SS g.S0 φ) w φ (cstV zv) zv:=rv_restr (l:=[]) (E:=[]) (E₁:=[]) (a:={ tmps:=#[],defers:=[] }) (by simp) (fun t=>by simp[lk,RV]) (.const zv)
 have hfind:=findK_ok hk p (i:=0) hents
 have hfk:=run_findKeyK hk (w:=w) p (entsK_head hents)
 cases hg':getK l p with
 |none =>
  rw[hg']at hfind
  simp only at hfind
  refine out_val hs (vv:=if ok then .tuple #[zv,.bool false] else zv) ?_ ?_
  ·simp[execOp,Instr.lookup,run_underlying hT',hxe,run_getObj_map hheap,hvy,hk.ck,hfk,hfind.1,hzero]
  ·simp only [lookI']
   cases ok
   ·simpa using hzR
   ·simp only [if_true,RV]
    exact⟨[zv,.bool false],rfl,by simp only[RVs,RV,bV,and_true];exact⟨hzR,.v _⟩⟩
 |some x =>
  rw[hg']at hfind
  simp only at hfind
  obtain⟨j,vv,h1,h2,_⟩:=hfind
  refine out_val hs (vv:=if ok then .tuple #[vv,.bool true] else vv) ?_ ?_
  ·simp[execOp,Instr.lookup,run_underlying hT',hxe,run_getObj_map hheap,hvy,hk.ck,hfk,h1]
  ·simp only [lookI']
   cases ok
   ·simpa using h2
   ·simp only [if_true,RV]
    exact⟨[vv,.bool true],rfl,by simp only[RVs,RV,bV,and_true];exact⟨h2,.v _⟩⟩
end
end PSL

namespace PSL
open Go

inductive Gl where
 |mk (k:Int) (t:Tm) (a b c:List Gl)
namespace Gl
def k:Gl→Int |mk k _ _ _ _=>k
def t:Gl→Tm |mk _ t _ _ _=>t
def a:Gl→List Gl |mk _ _ a _ _=>a
def b:Gl→List Gl |mk _ _ _ b _=>b
def c:Gl→List Gl |mk _ _ _ _ c=>c

theorem ind {p:Gl→Prop}(h:∀g:Gl,(∀x∈g.a,p x)→(∀x∈g.b,p x)→(∀x∈g.c,p x)→p g)(g:Gl):p g :=
 Gl.rec (motive_1:=p) (motive_2:=fun l=>∀x∈l,p x) (fun k t a b c ha hb hc=>h (.mk k t a b c) ha hb hc) (by simp) (fun x r h1 h2=>by
  intro y hy
  rcases List.mem_cons.1 hy with rfl |hy
  ·exact h1
  ·exact h2 y hy) g

theorem indL {p:List Gl→Prop}(h:∀l:List Gl,(∀x∈l,p x.a∧p x.b∧p x.c)→p l)(l:List Gl):p l:=by
 have key:∀g:Gl,p g.a∧p g.b∧p g.c:=fun g=>ind (p:=fun g=>p g.a∧p g.b∧p g.c) (fun g h1 h2 h3=>⟨h _ h1,h _ h2,h _ h3⟩) g
 exact h l fun x _=>key x

mutual
def rowM:Gl→List D
 |mk k t a b c=>[.v (.int .i64 k),.v (.int .i64 t.k),.v (.string t.s),.v (.int .i64 t.n),.sl (Tm.rows t.l),.sl (rows a),.sl (rows b),.sl (rows c)]
def rows:List Gl→List (List D)
 |[]=>[]
 |g::r=>rowM g::rows r
end
def row (g:Gl):List D:=[.v (.int .i64 g.k),.v (.int .i64 g.t.k),.v (.string g.t.s),.v (.int .i64 g.t.n),.sl (Tm.rows g.t.l),.sl (rows g.a),.sl (rows g.b),.sl (rows g.c)]
theorem rowM_eq (g:Gl):rowM g=row g:=by cases g;simp only[rowM,row,k,t,a,b,c]

theorem rows_eq (l:List Gl):rows l=l.map row:=by
 induction l with
 |nil=>rfl
 |cons x r ih=>simp only[rows,rowM_eq,List.map_cons,ih]
theorem rows_length (l:List Gl):(rows l).length=l.length:=by rw[rows_eq];simp
theorem rows_get {l:List Gl}{i:Nat}{x:Gl}(h:l[i]? = some x):(rows l)[i]? = some (row x):=by rw[rows_eq,List.getElem?_map,h];rfl
def av (g:Gl):AV:=.agg [.d (.v (.int .i64 g.k)),.d (.v (.int .i64 g.t.k)),.d (.v (.string g.t.s)),.d (.v (.int .i64 g.t.n)),.d (.sl (Tm.rows g.t.l)),.d (.sl (rows g.a)),.d (.sl (rows g.b)),.d (.sl (rows g.c))]

mutual
def size:Gl→Nat
 |mk _ t a b c=>t.size+sizeL a+sizeL b+sizeL c
def sizeL:List Gl→Nat
 |[]=>0
 |g::r=>size g+sizeL r
end
theorem size_eq (g:Gl):g.size=g.t.size+sizeL g.a+sizeL g.b+sizeL g.c:=by cases g;simp only[size,t,a,b,c]
theorem tmPos (t:Tm):1≤t.size:=by cases t;simp only[Tm.size];omega
theorem size_pos (g:Gl):1≤g.size:=by rw[size_eq];have:=tmPos g.t;omega

theorem len_size (l:List Gl):l.length≤sizeL l:=by
 induction l with
 |nil=>simp
 |cons x r ih=>simp only[sizeL,List.length_cons];have:=size_pos x;omega

theorem size_mem {l:List Gl}{x:Gl}(h:x∈l):x.size≤sizeL l:=by
 induction l with
 |nil=>cases h
 |cons y r ih =>
  simp only[sizeL]
  rcases List.mem_cons.1 h with rfl |h
  ·omega
  ·have:=ih h;omega

theorem sizeL_app (l m:List Gl):sizeL (l++m)=sizeL l+sizeL m:=by
 induction l with
 |nil=>simp[sizeL]
 |cons x r ih=>simp only[List.cons_append,sizeL,ih];omega

inductive Ok:Gl→Prop
 |mk {k:Int} {t:Tm} {a b c:List Gl}:I64 k→t.Ok∧t.Fit→a.length≤140737488355328→b.length≤140737488355328→c.length≤140737488355328→(∀x∈a,Ok x)→(∀x∈b,Ok x)→(∀x∈c,Ok x)→Ok (.mk k t a b c)
theorem Ok.tm {g:Gl}(h:g.Ok):g.t.Ok∧g.t.Fit:=by cases h;assumption
theorem Ok.la {g:Gl}(h:g.Ok):g.a.length≤140737488355328:=by cases h;assumption
theorem Ok.lb {g:Gl}(h:g.Ok):g.b.length≤140737488355328:=by cases h;assumption
theorem Ok.lc {g:Gl}(h:g.Ok):g.c.length≤140737488355328:=by cases h;assumption
theorem Ok.ma {g:Gl}(h:g.Ok):∀x∈g.a,Ok x:=by cases h;assumption
theorem Ok.mb {g:Gl}(h:g.Ok):∀x∈g.b,Ok x:=by cases h;assumption
theorem Ok.mc {g:Gl}(h:g.Ok):∀x∈g.c,Ok x:=by cases h;assumption
end Gl

structure Cs where
 head:Tm
 body:List Gl
 vars:Int
namespace Cs
def row (x:Cs):List D:=[.v (.int .i64 x.head.k),.v (.string x.head.s),.v (.int .i64 x.head.n),.sl (Tm.rows x.head.l),.sl (Gl.rows x.body),.v (.int .i64 x.vars)]
def rows (l:List Cs):List (List D):=l.map row
theorem rows_len (l:List Cs):(rows l).length=l.length:=by simp[rows]
theorem rows_get {l:List Cs}{i:Nat}{x:Cs}(h:l[i]? = some x):(rows l)[i]? = some (row x):=by simp[rows,h]
def av (x:Cs):AV:=.agg [.d (.v (.int .i64 x.head.k)),.d (.v (.string x.head.s)),.d (.v (.int .i64 x.head.n)),.d (.sl (Tm.rows x.head.l)),.d (.sl (Gl.rows x.body)),.d (.v (.int .i64 x.vars))]
def size (x:Cs):Nat:=x.head.size+Gl.sizeL x.body

def sizeL:List Cs→Nat
 |[]=>0
 |x::r=>size x+sizeL r

structure Ok (x:Cs):Prop where
 head:x.head.Ok∧x.head.Fit
 vars:I64 x.vars
 len:x.body.length≤140737488355328
 body:∀g∈x.body,g.Ok
end Cs

def prV (l:List Cs):AV:=.agg [.d (.sl (Cs.rows l))]

structure IsGoal (ty:Nat→Option Ty) (T TT:Nat):Prop where
 ex:∃ (a s:Nat) (τ τa τs:Ty),ty T=some τ∧τ.sh=.struct [(0,a),(1,TT),(5,s),(6,s),(7,s)]∧τ.size=8∧1≤τ.bytes∧ty a=some τa∧τa.sh=.int .i64∧ty s=some τs∧τs.sh=.slice T

def isGoalB (ty:Nat→Option Ty)(T TT:Nat):Bool :=
 match ty T with
 |some ⟨8,by_,_,.struct [(0,a),(1,T'),(5,s),(6,s'),(7,s'')]⟩=>Nat.ble 1 by_&&(match ty a with |some ⟨_,_,_,.int .i64⟩=>true |_=>false)&&(match ty s with |some ⟨_,_,_,.slice T2⟩=>Nat.beq T2 T |_=>false)&&Nat.beq T' TT&&Nat.beq s' s&&Nat.beq s'' s
 |_=>false

theorem isGoalB_ok {ty:Nat→Option Ty}{T TT:Nat}(h:isGoalB ty T TT=true):IsGoal ty T TT:=by
 unfold isGoalB at h
 split at h
 case h_2=>cases h
 rename_i by_ z a T' s s' s'' hT
 simp only[Bool.and_eq_true]at h
 obtain⟨⟨⟨⟨⟨h0,h1⟩,h2⟩,h3⟩,h4⟩,h5⟩:=h
 split at h1
 case h_2=>cases h1
 rename_i ha
 split at h2
 case h_2=>cases h2
 rename_i hs
 have:=natBeq h2
 subst this
 have:=natBeq h3
 subst this
 have:=natBeq h4
 subst this
 have:=natBeq h5
 subst this
 exact⟨a,_,_,_,_,hT,rfl,rfl,Nat.le_of_ble_eq_true h0,ha,rfl,hs,rfl⟩

theorem gls_of {ty:Nat→Option Ty}{T S B:Nat}{τ τs:Ty}(hτ:ty T=some τ)(hby:1≤τ.bytes)(hs:ty S=some τs)(hs':τs.sh=.slice T)(hB:B≤140737488355328)(n:Nat)(ih:∀m,m≤n→∀row,HasTy ty B m T row→∃g:Gl,row=g.row∧g.Ok)(row:List D)(h:HasTy ty B (n+1) S row) :
  ∃l:List Gl,row=[.sl (Gl.rows l)]∧l.length≤140737488355328∧∀x∈l,x.Ok:=by
 obtain⟨rows,rfl,hlen,hrows⟩:=has_slice hs hs' h
 have hch:∃l:List Gl,rows=l.map Gl.row∧∀x∈l,x.Ok:=by
  clear hlen h
  induction rows with
  |nil=>exact⟨[],rfl,by simp⟩
  |cons r rows ihr =>
   obtain⟨g,h1,h2⟩:=ih n (Nat.le_refl _) r (hrows r (by simp))
   obtain⟨l,hl1,hl2⟩:=ihr fun r hr=>hrows r (by simp[hr])
   exact⟨g::l,by simp[h1,hl1],by simpa using ⟨h2,hl2⟩⟩
 obtain⟨l,rfl,hl⟩:=hch
 refine⟨l,by rw[Gl.rows_eq],?_,hl⟩
 have:=hlen τ hτ
 rw[List.length_map]at this
 exact Nat.le_trans (Nat.le_mul_of_pos_right _ hby) (Nat.le_trans this hB)

theorem gl_of {ty:Nat→Option Ty}{T TT B:Nat}(hT:IsTerm ty TT)(hG:IsGoal ty T TT)(hB:B≤140737488355328):∀ (n:Nat) (row:List D),HasTy ty B n T row→∃g:Gl,row=g.row∧g.Ok:=by
 obtain⟨a,s,τ,τa,τs,h1,h2,h3,hby,ha,ha',hs,hs'⟩:=hG.ex
 intro n
 induction n using Nat.strongRecOn with
 |_ n ih =>
 intro row h
 cases n with
 |zero=>simp[HasTy]at h
 |succ n =>
  simp only[HasTy,h1,h2,HasFs]at h
  obtain⟨_,ra,_,g1,rfl,g2,g3,_,rb,_,g4,rfl,g5,g6,_,rc,_,g7,rfl,g8,g9,_,rd,_,g10,rfl,g11,g12,_,re,_,g13,rfl,g14,g15,rfl⟩:=h
  rw[ha]at g1;cases g1
  rw[hs]at g7;cases g7
  rw[hs]at g10;cases g10
  rw[hs]at g13;cases g13
  obtain⟨k,rfl,hk⟩:=has_int ha ha' g3
  obtain⟨t,rfl,ht⟩:=tm_of hT hB n rb g6
  cases n with
  |zero=>simp[HasTy]at g9
  |succ n =>
   have ih':∀m,m≤n→∀row,HasTy ty B m T row→∃g:Gl,row=g.row∧g.Ok:=fun m hm=>ih m (by omega)
   obtain⟨la,rfl,a1,a2⟩:=gls_of h1 hby hs hs' hB n ih' rc g9
   obtain⟨lb,rfl,b1,b2⟩:=gls_of h1 hby hs hs' hB n ih' rd g12
   obtain⟨lc,rfl,c1,c2⟩:=gls_of h1 hby hs hs' hB n ih' re g15
   refine⟨.mk k t la lb lc,by simp[Gl.row,Tm.row,Gl.k,Gl.t,Gl.a,Gl.b,Gl.c],.mk hk ht a1 b1 c1 a2 b2 c2⟩

structure IsClause (ty:Nat→Option Ty) (T TT TG:Nat):Prop where
 ex:∃ (s a:Nat) (τ τs τa:Ty),ty T=some τ∧τ.sh=.struct [(0,TT),(4,s),(5,a)]∧τ.size=6∧1≤τ.bytes∧ty a=some τa∧τa.sh=.int .i64∧ty s=some τs∧τs.sh=.slice TG

def isClauseB (ty:Nat→Option Ty)(T TT TG:Nat):Bool :=
 match ty T with
 |some ⟨6,by_,_,.struct [(0,T'),(4,s),(5,a)]⟩=>Nat.ble 1 by_&&(match ty a with |some ⟨_,_,_,.int .i64⟩=>true |_=>false)&&(match ty s with |some ⟨_,_,_,.slice T2⟩=>Nat.beq T2 TG |_=>false)&&Nat.beq T' TT
 |_=>false

theorem isClauseB_ok {ty:Nat→Option Ty}{T TT TG:Nat}(h:isClauseB ty T TT TG=true):IsClause ty T TT TG:=by
 unfold isClauseB at h
 split at h
 case h_2=>cases h
 rename_i by_ z T' s a hT
 simp only[Bool.and_eq_true]at h
 obtain⟨⟨⟨h0,h1⟩,h2⟩,h3⟩:=h
 split at h1
 case h_2=>cases h1
 rename_i ha
 split at h2
 case h_2=>cases h2
 rename_i hs
 have:=natBeq h2
 subst this
 have:=natBeq h3
 subst this
 exact⟨_,_,_,_,_,hT,rfl,rfl,Nat.le_of_ble_eq_true h0,ha,rfl,hs,rfl⟩

theorem cs_of {ty:Nat→Option Ty}{T TT TG B:Nat}(hT:IsTerm ty TT)(hG:IsGoal ty TG TT)(hC:IsClause ty T TT TG)(hB:B≤140737488355328)(n:Nat)(row:List D)(h:HasTy ty B n T row):∃x:Cs,row=x.row∧x.Ok:=by
 obtain⟨s,a,τ,τs,τa,h1,h2,h3,hby,ha,ha',hs,hs'⟩:=hC.ex
 obtain⟨_,_,τg,_,_,q1,_,_,q4,_⟩:=hG.ex
 cases n with
 |zero=>simp[HasTy]at h
 |succ n =>
  simp only[HasTy,h1,h2,HasFs]at h
  obtain⟨_,ra,_,g1,rfl,g2,g3,_,rb,_,g4,rfl,g5,g6,_,rc,_,g7,rfl,g8,g9,rfl⟩:=h
  rw[ha]at g7;cases g7
  obtain⟨t,rfl,ht⟩:=tm_of hT hB n ra g3
  obtain⟨v,rfl,hv⟩:=has_int ha ha' g9
  cases n with
  |zero=>simp[HasTy]at g6
  |succ n =>
   obtain⟨l,rfl,l1,l2⟩:=gls_of q1 q4 hs hs' hB n (fun m _ row h=>gl_of hT hG hB m row h) rb g6
   exact⟨⟨t,l,v⟩,by simp[Cs.row,Tm.row],⟨ht,hv,l1,l2⟩⟩
section
variable {ty:Nat→Option Ty} {T TT TG TS B:Nat} {n:Nat} {τ:Ty} {row:List D} {a:AV}

theorem arg_prog {TC TP s:Nat}{τs:Ty}(hT:IsTerm ty TT)(hG:IsGoal ty TG TT)(hC:IsClause ty TC TT TG)(hB:B≤140737488355328)(hτ:ty TP=some τ)(hsh:τ.sh=.struct [(0,s)])(hs:ty s=some τs)(hss:τs.sh=.slice TC)(h:HasTy ty B n TP row)(ha:a=avOf τ row):∃l:List Cs,a=prV l∧(∀x∈l,x.Ok)∧l.length≤140737488355328:=by
 obtain⟨_,_,τc,_,_,q1,_,_,q4,_⟩:=hC.ex
 cases n with
 |zero=>simp[HasTy]at h
 |succ n =>
  simp only[HasTy,hτ,hsh,HasFs]at h
  obtain⟨_,ra,_,g1,rfl,g2,g3,rfl⟩:=h
  rw[hs]at g1;cases g1
  cases n with
  |zero=>simp[HasTy]at g3
  |succ n =>
   obtain⟨rows,rfl,hlen,hrows⟩:=has_slice hs hss g3
   have hch:∃l:List Cs,rows=Cs.rows l∧∀x∈l,x.Ok:=by
    clear hlen g3 g2 ha
    induction rows with
    |nil=>exact⟨[],rfl,by simp⟩
    |cons r rows ihr =>
     obtain⟨g,h1,h2⟩:=cs_of hT hG hC hB n r (hrows r (by simp))
     obtain⟨l,hl1,hl2⟩:=ihr fun r hr=>hrows r (by simp[hr])
     exact⟨g::l,by simp[Cs.rows,h1,hl1],by simpa using ⟨h2,hl2⟩⟩
   obtain⟨l,rfl,hl⟩:=hch
   refine⟨l,?_,hl,?_⟩
   ·rw[ha];unfold avOf Ty.agg;rw[hsh];rfl
   ·have:=hlen τc q1
    rw[Cs.rows_len]at this
    exact Nat.le_trans (Nat.le_mul_of_pos_right _ q4) (Nat.le_trans this hB)
end
end PSL

namespace Go.Proofs.YtcgkgofmldhokaaGreat
open Go PSL Go.Proofs Go.ChangeShapes Go.WideShapes Go.ChangeAt Go.RowKit
theorem ownK:ownKnob Tryz.prog.godebug=none:=by kernel_rfl
theorem laidK:laidOutB Tryz.prog=true:=by kernel_rfl
theorem isTerm:IsTerm tyT.get 27:=isTermB_ok (by kernel_rfl)
theorem isGoal:IsGoal tyT.get 62 27:=isGoalB_ok (by kernel_rfl)
theorem isClause:IsClause tyT.get 30 27 62:=isClauseB_ok (by kernel_rfl)

def lawTys:List Nat:=[3,9,4,27,25,152,63,5,62,28,30,22,24,48]

theorem lawTysOk:∀t∈lawTys,dT tyT.get lawTys t=true:=by
 have h:lawTys.all (fun t=>dT tyT.get lawTys t)=true:=by kernel_rfl
 exact fun t ht=>List.all_eq_true.1 h t ht
theorem reach47:reachBytes≤140737488355328:=by decide
end Go.Proofs.YtcgkgofmldhokaaGreat

namespace Go.Proofs.YtcgkgofmldhokaaGreat
open Go PSL Go.Proofs
def wobjs (n:Nat):List Ob:=[.yld n,.box [.yl 0],.box [.clo 152 [] [.lo 1 0,.lo 2 0]]]

theorem walk_ok (Y:YP)(t:Tm):∀ (d:Int) (n:Nat),0≤d→d+t.size<4611686018427387904→(∀ (i:Nat) (e:Int × Tm),(t.els d)[i]? = some e→Y.ys[n+i]? = some (Tm.enc e))→(n=0∨Y.go n=true) →
  SCtr Tryz.prog Y 152 [t.av,iV d,.lo 1 0,.lo 2 0] (wobjs n) (bV (adv Y t.size n).2) (wobjs (adv Y t.size n).1):=by
 induction t using Tm.ind with
 |_ t ih =>
 intro d n hd0 hd hy hgo
 refine SCtr.of_R (pf:=fun _=>.eff) tyOk mixed Tryz.func152 rfl (by kernel_rfl) (by kernel_rfl) (by simp[Tryz.ntmps152]) (by simp[wobjs]) fun w S φ hg=>?_
 refine R_k hg.ok rfl rfl ?_
 refine R_yield hg rfl rfl rfl rfl rfl rfl rfl (avs:=[iV d,t.av]) ?_ hgo ?_
 ·exact hy 0 (d,t) (by rw[Tm.els_eq];rfl)
 refine R_k hg.ok rfl rfl ?_
 have hsz:=Tm.size_eq t
 have hlen:=Tm.len_le_sizeL t.l
 refine R_if rfl rfl (fun h1=>?_) (fun h1=>?_)
 ·refine R_run hg.ok 1000 rfl rfl ?_
  have h1:(!Y.go (n+1))=true:=h1
  have h2:Y.go (n+1)=false:=by simpa using h1
  have h3:adv Y t.size n=(n+1,false):=by rw[hsz,Nat.add_comm];simp[adv,h2]
  refine R_retS hg 3 5 (Nat.le_refl _) rfl ?_ ?_
  ·rw[h3];rfl
  ·rw[h3];rfl
 have h1:(!Y.go (n+1))=false:=h1
 have h2:Y.go (n+1)=true:=by simpa using h1
 refine R_k hg.ok rfl rfl ?_
 refine R_loop (fun k:Nat=>([(1,iV d),(2,.lo 1 0),(3,.lo 2 0),(4,.lo 3 0),(15,.d (.sl (Tm.rows t.l))),(16,iV (t.l.length:Int)),(17,iV k)],wobjs (n+(1+Tm.sizeL (t.l.take k)))++[.box [.d (.v (.int .i64 t.k)),.d (.v (.string t.s)),.d (.v (.int .i64 t.n)),.d (.sl (Tm.rows t.l))]]))
  (fun k=>k≤t.l.length∧adv Y (1+Tm.sizeL (t.l.take k)) n=(n+(1+Tm.sizeL (t.l.take k)),true)) (fun k=>t.l.length - k) 0 ?_ ?_ ?_ ?_
 ·refine ⟨Nat.zero_le _,?_⟩
  simp[Tm.sizeL,adv,h2]
 ·exact⟨.refl _,.refl _,.refl _,.refl _,.refl _,Ent.int (by rw[Tm.rows_length]),.refl _,trivial⟩
 ·rfl
 intro k hk
 refine R_k hg.ok rfl rfl ?_
 refine R_if rfl rfl (fun h1=>?_) (fun h1=>?_)
 ·have hk1:k<t.l.length:=by have:=of_decide_eq_true h1; omega
  have e1:t.l[k]? = some t.l[k]:=List.getElem?_eq_getElem hk1
  have hszk:=Tm.sizeL_take_succ e1
  have hmem:=Tm.size_mem (List.getElem_mem hk1)
  refine R_k hg.ok rfl rfl ?_
  refine R_index hg.ok rfl rfl rfl rfl rfl rfl (Int.natCast_nonneg k) (Tm.rows_get e1) rfl ?_
  refine R_k hg.ok rfl rfl ?_
  refine R_see 24 rfl (Ent.wrap rfl (by omega) (by omega)) ?_
  refine R_callS hg.ok hg.gup hg.wide hg.Y [0,1,2] (ih _ (List.getElem_mem hk1) (d+1) (n+(1+Tm.sizeL (t.l.take k))) (by omega) (by omega) ?_ ?_) (fun _=>rfl) rfl rfl rfl rfl rfl rfl rfl ?_
  ·intro i e he
   have hlt:=(List.getElem?_eq_some_iff.1 he).1
   have:=hy (1+Tm.sizeL (t.l.take k)+i) e (by
    rw[Tm.els_eq,show 1+Tm.sizeL (t.l.take k)+i=Tm.sizeL (t.l.take k)+i+1 by omega,List.getElem?_cons_succ]
    have hsplit:t.l=t.l.take k++(t.l[k]::t.l.drop (k+1)):=by rw[← List.drop_eq_getElem_cons hk1,List.take_append_drop]
    rw[hsplit,Tm.elsL_append,List.getElem?_append_right (by rw[Tm.elsL_len];rw[← hsplit];omega),Tm.elsL_len,← hsplit]
    simp only[Tm.elsL]
    rw[List.getElem?_append_left (by omega),show Tm.sizeL (List.take k t.l)+i - Tm.sizeL (List.take k t.l)=i by omega]
    exact he)
   rw[show n+(1+Tm.sizeL (t.l.take k))+i=n+(1+Tm.sizeL (t.l.take k)+i) by omega];exact this
  ·right
   exact(adv_true (by rw[hk.2])).2 (by omega)
  refine R_k hg.ok rfl rfl ?_
  have hle:Tm.sizeL t.l=Tm.sizeL (t.l.take k)+(t.l[k].size+Tm.sizeL (t.l.drop (k+1))):=by
   conv=>lhs;rw[← List.take_append_drop k t.l,List.drop_eq_getElem_cons hk1]
   rw[Tm.sizeL_append,Tm.sizeL]
  refine R_if rfl rfl (fun h3=>?_) (fun h3=>?_)
  ·have h3:(!(adv Y t.l[k].size (n+(1+Tm.sizeL (t.l.take k)))).2)=true:=h3
   have h4:(adv Y t.l[k].size (n+(1+Tm.sizeL (t.l.take k)))).2=false:=by simpa using h3
   refine R_k hg.ok rfl rfl ?_
   have h5:adv Y t.size n=adv Y t.l[k].size (n+(1+Tm.sizeL (t.l.take k))):=by
    rw[hsz,hle,← Nat.add_assoc,adv_add_true hk.2,adv_add,if_neg (by rw[h4];simp)]
   refine R_retS hg 3 5 (Nat.le_refl _) rfl ?_ ?_
   ·rw[h5,h4];rfl
   ·rw[h5];rfl
  have h3:(!(adv Y t.l[k].size (n+(1+Tm.sizeL (t.l.take k)))).2)=false:=h3
  have h4:(adv Y t.l[k].size (n+(1+Tm.sizeL (t.l.take k)))).2=true:=by simpa using h3
  have h6:=adv_eq h4
  refine R_k hg.ok rfl rfl ?_
  refine R_drop 4 (by rw[hg.hs0.len];simp[wobjs]) rfl ?_
  have h7:n+(1+Tm.sizeL (t.l.take (k+1)))=n+(1+Tm.sizeL (t.l.take k))+t.l[k].size:=by rw[hszk];omega
  refine R_next (k+1) ⟨hk1,?_⟩ (by omega) ⟨.refl _,.refl _,.refl _,.refl _,.refl _,.refl _,Ent.wrap (by omega) (by omega) (by omega),trivial⟩ ?_
  ·rw[hszk,← Nat.add_assoc 1,adv_add_true hk.2,h6];simp only[Nat.add_assoc]
  ·rw[h6];show _=wobjs (n+(1+Tm.sizeL (t.l.take (k+1))))++_;rw[h7];rfl
 ·refine R_run hg.ok 1000 rfl rfl ?_
  have h3:¬ ((k:Int)<(t.l.length:Int)):=of_decide_eq_false h1
  have hkl:k=t.l.length:=by omega
  have h4:adv Y t.size n=(n+(1+Tm.sizeL (t.l.take k)),true):=by
   have:=hk.2
   rw[hkl,List.take_length]at this ⊢
   rw[hsz];exact this
  refine R_retS hg 3 5 (Nat.le_refl _) rfl ?_ ?_
  ·rw[h4];rfl
  ·rw[h4];rfl

theorem all_ok (Y:YP)(t:Tm)(n:Nat)(hd:t.size<1000000000)(hy:∀ (i:Nat) (e:Int × Tm),(t.els 1)[i]? = some e→Y.ys[n+i]? = some (Tm.enc e))(hgo:n=0∨Y.go n=true) :
  SCtr Tryz.prog Y 126 [t.av,.yl 0] [.yld n] (bV (adv Y t.size n).2) [.yld (adv Y t.size n).1]:=by
 refine SCtr.of_R (pf:=fun _=>.eff) tyOk mixed Tryz.func126 rfl (by kernel_rfl) (by kernel_rfl) (by simp[Tryz.ntmps126]) (by simp) fun w S φ hg=>?_
 refine R_k hg.ok rfl rfl ?_
 refine R_callS hg.ok hg.gup hg.wide hg.Y [0,2,3] (walk_ok Y t 1 n (by omega) (by omega) hy hgo) (fun _=>rfl) rfl rfl rfl rfl rfl rfl rfl ?_
 refine R_k hg.ok rfl rfl ?_
 refine R_retS hg 1 5 (Nat.le_refl _) rfl ?_ ?_
 ·rfl
 ·rfl

theorem each1_ok (Y:YP)(t:Tm)(hd:t.size<1000000000)(hy:∀ (i:Nat) (e:Int × Tm),(t.els 1)[i]? = some e→Y.ys[i]? = some (Tm.enc e)) :
  SCtr Tryz.prog Y 125 [.yl 0,.d (.ptr (Tm.row t))] [.yld 0] (.tup []) [.yld (adv Y t.size 0).1]:=by
 refine SCtr.of_R (pf:=fun _=>.eff) tyOk mixed Tryz.func125 rfl (by kernel_rfl) (by kernel_rfl) (by simp[Tryz.ntmps125]) (by simp) fun w S φ hg=>?_
 refine R_k hg.ok rfl rfl ?_
 refine R_callS hg.ok hg.gup hg.wide hg.Y [0] (all_ok Y t 0 hd (by simpa using hy) (.inl rfl)) (fun _=>rfl) rfl rfl rfl rfl rfl rfl rfl ?_
 refine R_k hg.ok rfl rfl ?_
 refine R_endS hg 1 5 (Nat.le_refl _) rfl ?_ ?_
 ·rfl
 ·rfl

theorem each_ok (t:Tm):PCtr Tryz.prog 101 [t.av] (.clo 125 [] [.d (.ptr (Tm.row t))]):=by
 refine PCtr.of_R (pf:=fun _=>.still) tyOk mixed Tryz.func101 rfl (by kernel_rfl) (by kernel_rfl) (by simp[Tryz.ntmps101]) fun w S hg=>?_
 refine R_k hg.ok rfl rfl ?_
 refine R_ret hg 5 rfl rfl ?_
 rfl
def boxT (t:Tm):Ob:=.box [.d (.v (.int .i64 t.k)),.d (.v (.string t.s)),.d (.v (.int .i64 t.n)),.d (.sl (Tm.rows t.l))]

theorem adv_allT {Y:YP}(h:∀n,Y.go n=true):∀ (k n:Nat),adv Y k n=(n+k,true)
 |0,n=>rfl
 |k+1,n=>by simp only[adv,h,if_true];rw[adv_allT h k];congr 1;omega
theorem els_ys {t:Tm}{i:Nat}{e:Int × Tm}(h:(t.els 1)[i]? = some e):((t.els 1).map Tm.enc)[i]? = some (Tm.enc e):=by rw[List.getElem?_map,h];rfl
theorem els_lt {t:Tm}{i:Nat}{e:Int × Tm}(h:(t.els 1)[i]? = some e):i<t.size:=by rw[← Tm.els_len t 1];exact(List.getElem?_eq_some_iff.1 h).1

theorem named_ok (s:ByteArray)(hs:s.size<1000000000):PCtr Tryz.prog 127 [.d (.v (.string s))] (bV (namedB s)):=by
 refine PCtr.of_R (pf:=fun _=>.still) tyOk mixed Tryz.func127 rfl (by kernel_rfl) (by kernel_rfl) (by simp[Tryz.ntmps127]) fun w S hg=>?_
 refine R_k hg.ok rfl rfl ?_
 refine R_loop (fun k:Nat=>([(0,.d (.v (.string s))),(5,iV s.size),(6,iV k)],[])) (fun k=>k≤s.size∧∀i (hi:i<s.size),i<k→byteOk s[i]=true) (fun k=>s.size - k) 0 ?_ ?_ rfl ?_
 ·exact⟨Nat.zero_le _,fun i _ h=>absurd h (Nat.not_lt_zero _)⟩
 ·exact⟨.refl _,.refl _,.refl _,trivial⟩
 intro k hk
 refine R_k hg.ok rfl rfl ?_
 refine R_if rfl rfl (fun h1=>?_) (fun h1=>?_)
 ·have hk1:k<s.size:=by have:=of_decide_eq_true h1; omega
  refine R_k hg.ok rfl rfl ?_
  refine R_indexS hg.ok rfl rfl rfl rfl rfl (Int.natCast_nonneg k) (byte_atK hk1) ?_
  refine R_k hg.ok rfl rfl ?_
  refine R_if rfl rfl (fun h2=>?_) (fun h2=>?_)
  ·refine R_run hg.ok 1000 rfl rfl ?_
   refine R_ret hg 5 rfl rfl ?_
   have:byteOk s[k]=false:=by unfold byteOk;rw[h2];rfl
   simp only[namedB,not_all_bytes hk1 this];rfl
  refine R_k hg.ok rfl rfl ?_
  refine R_indexS hg.ok rfl rfl rfl rfl rfl (Int.natCast_nonneg k) (byte_atK hk1) ?_
  refine R_k hg.ok rfl rfl ?_
  refine R_if rfl rfl (fun h3=>?_) (fun h3=>?_)
  ·refine R_run hg.ok 1000 rfl rfl ?_
   refine R_ret hg 5 rfl rfl ?_
   have:byteOk s[k]=false:=by unfold byteOk;rw[h3];simp
   simp only[namedB,not_all_bytes hk1 this];rfl
  refine R_k hg.ok rfl rfl ?_
  refine R_next (k+1) ⟨hk1,fun i hi hik=>?_⟩ (by omega) ⟨.refl _,.refl _,Ent.wrap (by omega) (by omega) (by omega),trivial⟩ rfl
  rcases Nat.lt_or_ge i k with h |h
  ·exact hk.2 i hi h
  ·have:i=k:=by omega
   subst this
   unfold byteOk;rw[h2,h3];rfl
 ·have h4:¬ ((k:Int)<(s.size:Int)):=of_decide_eq_false h1
  have hall:s.data.toList.all byteOk=true:=all_bytes fun i hi=>hk.2 i hi (by omega)
  refine R_k hg.ok rfl rfl ?_
  refine R_if rfl rfl (fun h2=>?_) (fun h2=>?_)
  ·refine R_run hg.ok 1000 rfl rfl ?_
   refine R_ret hg 5 rfl rfl ?_
   simp only[namedB,hall,h2,Bool.true_and];rfl
  ·refine R_run hg.ok 1000 rfl rfl ?_
   refine R_ret hg 5 rfl rfl ?_
   simp only[namedB,hall,h2,Bool.true_and];rfl

theorem own_ok (t:Tm)(hs:t.s.size<1000000000):PCtr Tryz.prog 102 [t.av] (bV t.ownT):=by
 refine PCtr.of_R (pf:=fun _=>.still) tyOk mixed Tryz.func102 rfl (by kernel_rfl) (by kernel_rfl) (by simp[Tryz.ntmps102]) fun w S hg=>?_
 refine R_k hg.ok rfl rfl ?_
 iterate 12
  all_goals try first
   |(refine R_if rfl rfl (fun _=>?_) (fun _=>?_)<;>refine R_k hg.ok rfl rfl ?_)
   |(refine R_call hg.ok (named_ok t.s hs) rfl rfl rfl rfl rfl rfl ?_;refine R_k hg.ok rfl rfl ?_)
 all_goals refine R_ret hg 5 rfl rfl ?_
 all_goals (simp only[Tm.rows_length,beq_iff_eq,beq_eq_false_iff_ne,ne_eq,decide_eq_true_eq,decide_eq_false_iff_not]at *)
 all_goals (simp_all[Tm.ownT,bV])
 all_goals (intros;omega)

theorem right_ok (t:Tm)(hd:t.size<1000000000)(hs:∀e∈t.els 1,e.2.s.size<1000000000):PCtr Tryz.prog 69 [t.av] (bV (rightT t)):=by
 refine PCtr.of_R (pf:=fun _=>.still) tyOk mixed Tryz.func69 rfl (by kernel_rfl) (by kernel_rfl) (by simp[Tryz.ntmps69]) fun w S hg=>?_
 refine R_k hg.ok rfl rfl ?_
 refine R_call hg.ok (each_ok t) rfl rfl rfl rfl rfl rfl ?_
 refine R_k hg.ok rfl rfl ?_
 refine R_range hg.ok hg.gup ⟨rfl,rfl⟩ rfl (t.els 1) Tm.enc ⟨(t.els 1).map Tm.enc,goR t⟩ rfl (fun n=>[boxT t,.box [.d (.v (.bool false))],.box [iV n]]) (fun _ e=>[(2,.lo 1 0),(3,.lo 2 0),(4,iV e.1),(5,.lo 3 0)]) (fun n e=>[boxT t,.box [.d (.v (.bool false))],.box [iV n],boxT e.2]) _ .ret rfl rfl rfl (each1_ok _ t hd fun _ _ h=>els_ys h) rfl (fun _ _=>rfl) rfl ?_ ?_ ?_ rfl rfl ?_
 ·intro n x hx _ l w R0 X φ0 _ hamb
  refine R_run (gRound_ok hg.ok _ _ _ _ _ hamb) 1000 rfl rfl ?_
  exact R_finA ⟨.refl _,.refl _,.refl _,.refl _,trivial⟩ rfl
 ·intro n x hx _ l w R0 X φ0 hφ0 hamb
  have hn:=els_lt hx
  have hg':=gRound_ok hg.ok l w R0 X φ0 hamb
  have hgo:goR t (n+1)=stepR x (n+1):=by simp only[goR,hx]
  have hw:IntKind.i64.wrap ((n:Int)+1)=((n+1:Nat):Int):=wrap_id (by omega) (by omega)
  refine R_run hg' 1000 rfl rfl ?_
  refine R_if rfl rfl (fun h1=>?_) (fun h1=>?_)
  ·refine R_run hg' 1000 rfl rfl ?_
   refine R_drop 3 (by rw[show (gRound _ l w R0 X φ0).φ0=φ0 from rfl,hφ0];exact Nat.le_refl _) rfl ?_
   refine R_obs [boxT t,.box [.d (.v (.bool false))],.box [iV ((n+1:Nat):Int)]] ⟨ObIn.refl _,⟨Ent.ff,trivial⟩,⟨Ent.int hw,trivial⟩,trivial⟩ rfl ?_
   exact R_retB (by rw[show (YP.go ⟨_,goR t⟩ (n+1))=goR t (n+1) from rfl,hgo];simp only[stepR,h1,Bool.true_or,Bool.not_true]) rfl rfl
  refine R_run hg' 1000 rfl rfl ?_
  refine R_if rfl rfl (fun h2=>?_) (fun h2=>?_)
  ·refine R_run hg' 1000 rfl rfl ?_
   refine R_drop 3 (by rw[show (gRound _ l w R0 X φ0).φ0=φ0 from rfl,hφ0];exact Nat.le_refl _) rfl ?_
   refine R_obs [boxT t,.box [.d (.v (.bool false))],.box [iV ((n+1:Nat):Int)]] ⟨ObIn.refl _,⟨Ent.ff,trivial⟩,⟨Ent.int hw,trivial⟩,trivial⟩ rfl ?_
   rw[hw]at h2
   exact R_retB (by rw[show (YP.go ⟨_,goR t⟩ (n+1))=goR t (n+1) from rfl,hgo];simp only[stepR,h2,Bool.or_true,Bool.true_or,Bool.not_true]) rfl rfl
  refine R_run hg' 1000 rfl rfl ?_
  refine R_call hg' (own_ok x.2 (hs x (List.mem_of_getElem? hx))) rfl rfl rfl rfl rfl rfl ?_
  refine R_run hg' 1000 rfl rfl ?_
  rw[hw]at h2
  refine R_if rfl rfl (fun h3=>?_) (fun h3=>?_)
  ·refine R_run hg' 1000 rfl rfl ?_
   refine R_drop 3 (by rw[show (gRound _ l w R0 X φ0).φ0=φ0 from rfl,hφ0];exact Nat.le_refl _) rfl ?_
   refine R_obs [boxT t,.box [.d (.v (.bool false))],.box [iV ((n+1:Nat):Int)]] ⟨ObIn.refl _,⟨Ent.ff,trivial⟩,⟨Ent.int hw,trivial⟩,trivial⟩ rfl ?_
   exact R_retB (by rw[show (YP.go ⟨_,goR t⟩ (n+1))=goR t (n+1) from rfl,hgo];simp only[stepR,h3,Bool.or_true,Bool.not_true]) rfl rfl
  ·refine R_run hg' 1000 rfl rfl ?_
   refine R_drop 3 (by rw[show (gRound _ l w R0 X φ0).φ0=φ0 from rfl,hφ0];exact Nat.le_refl _) rfl ?_
   refine R_obs [boxT t,.box [.d (.v (.bool false))],.box [iV ((n+1:Nat):Int)]] ⟨ObIn.refl _,⟨.refl _,trivial⟩,⟨Ent.int hw,trivial⟩,trivial⟩ rfl ?_
   exact R_finB (by rw[show (YP.go ⟨_,goR t⟩ (n+1))=goR t (n+1) from rfl,hgo];simp only[stepR,h1,h2,h3,Bool.or_false,Bool.not_false]) rfl
 ·intro hgo
  refine R_k hg.ok rfl rfl ?_
  refine R_ret hg 5 rfl rfl ?_
  cases h:rightT t
  ·obtain ⟨h1,h2⟩:=adv_false h
   exact absurd hgo (by rintro(h3 |h3);exact h2 h3;rw[h1]at h3;cases h3)
  ·rfl
 ·intro h0 hgo
  refine R_ret hg 5 rfl rfl ?_
  cases h:rightT t
  ·rfl
  ·have h1:=adv_true h
   rw[h1.1]at h0 hgo
   rw[h1.2 (by omega)]at hgo;cases hgo
def boxR (t:Tm):Ob:=.box [.d (.v (.int .i64 t.k)),.d (.v (.string t.s)),.d (.v (.int .i64 t.n)),.d (.sl (Tm.rows t.l))]
end Go.Proofs.YtcgkgofmldhokaaGreat

namespace PSL
open Go
abbrev Bs:=List UInt8
def Tx (l:Bs):ByteArray:=⟨l.toArray⟩
theorem Tx_size (l:Bs):(Tx l).size=l.length:=by simp[Tx,ByteArray.size]

theorem Tx_get (l:Bs)(n:Nat):(Tx l)[n]? = l[n]? := by
 show (if h:n<(Tx l).size then some ((Tx l)[n]) else none)=l[n]?
 by_cases h:n<l.length
 ·rw[dif_pos (by rw[Tx_size];exact h),List.getElem?_eq_getElem h];rfl
 ·rw[dif_neg (by rw[Tx_size];exact h),List.getElem?_eq_none (by omega)]

theorem Tx_cut (l:Bs)(i j:Nat):(Tx l).extract i j=Tx ((l.drop i).take (j - i)):=by
 apply ByteArray.ext
 rw[ByteArray.data_extract]
 apply Array.ext'
 simp[Tx,List.take_drop,List.extract_eq_take_drop]
theorem Tx_list (l:Bs):(Tx l).toList=l:=by rw[Tm.toList_data];simp[Tx]
theorem Tx_inj {a b:Bs}(h:Tx a=Tx b):a=b:=by rw[← Tx_list a,h,Tx_list]
theorem Tx_eq (a b:Bs):strEq (Tx a) (Tx b)=(a==b):=by unfold strEq;rw[Tx_list,Tx_list]
def dgC (c:UInt8):Bool:=decide (48≤c.toNat)&&decide (c.toNat≤57)
def lowC (c:UInt8):Bool:=decide (97≤c.toNat)&&decide (c.toNat≤122)
def grtC (c:UInt8):Bool:=(decide (65≤c.toNat)&&decide (c.toNat≤90)) || decide (c.toNat=95)
def folC (c:UInt8):Bool:=dgC c || lowC c || grtC c
def blkC (c:UInt8):Bool:=decide (c.toNat=32) || decide (c.toNat=9) || decide (c.toNat=10)
def sgnL:Bs:=[43,45,42,47,92,94,60,62,61,126,58,46,63,64,35,38,36]
def mrkL:Bs:=[40,41,91,93,124,44]
def sgnC (c:UInt8):Bool:=sgnL.contains c
def mrkC (c:UInt8):Bool:=mrkL.contains c

theorem byte_all {p:UInt8→Bool}(h:(List.range 256).all (fun n=>p (UInt8.ofNat n))=true)(c:UInt8):p c=true:=by
 have h1:=List.all_eq_true.1 h c.toNat (by simp;exact c.toNat_lt)
 simpa using h1

def runB (p:UInt8→Bool)(L:Bs)(i:Nat):Nat:=i+((L.drop i).takeWhile p).length

theorem runB_step {p:UInt8→Bool}{L:Bs}{i:Nat}{c:UInt8}(h:L[i]? = some c)(hp:p c=true):runB p L i=runB p L (i+1):=by
 have hi:=(List.getElem?_eq_some_iff.1 h).1
 have he:=(List.getElem?_eq_some_iff.1 h).2
 unfold runB
 rw[List.drop_eq_getElem_cons hi,he,List.takeWhile_cons_of_pos hp,List.length_cons];omega

theorem runB_stop {p:UInt8→Bool}{L:Bs}{i:Nat}{c:UInt8}(h:L[i]? = some c)(hp:p c=false):runB p L i=i:=by
 have hi:=(List.getElem?_eq_some_iff.1 h).1
 have he:=(List.getElem?_eq_some_iff.1 h).2
 unfold runB
 rw[List.drop_eq_getElem_cons hi,he,List.takeWhile_cons_of_neg (by rw[hp];simp)];rfl

theorem runB_end {p:UInt8→Bool}{L:Bs}{i:Nat}(h:L.length≤i):runB p L i=i:=by
 unfold runB;rw[List.drop_eq_nil_of_le h];rfl

theorem runB_le {p:UInt8→Bool}{L:Bs}{i:Nat}(h:i≤L.length):i≤runB p L i∧runB p L i≤L.length:=by
 have:((L.drop i).takeWhile p).length≤(L.drop i).length:=(List.takeWhile_sublist p).length_le
 rw[List.length_drop]at this
 unfold runB;omega

structure Tk where
 kind:Int
 text:Bs
 n:Int
 at_:Int
 opn:Bool
 deriving DecidableEq
def cutB (L:Bs)(i j:Nat):Bs:=(L.drop i).take (j - i)
def opnB (L:Bs)(to:Nat):Bool:=match L[to]? with |some c=>decide (c.toNat=40) |none=>false
def nameT (L:Bs)(kind:Int)(text:Bs)(i to:Nat):Option (Tk × Nat):=if 1≤text.length∧text.length≤20 then some (⟨kind,text,0,i,opnB L to⟩,to) else none
def valN (n:Nat)(D:Bs):Nat:=D.foldl (fun n c=>10 * n+(c.toNat - 48)) n
def numT (D:Bs):Option Nat:=if (1<D.length∧(D[0]?.map UInt8.toNat)=some 48)∨9223372036854775807<valN 0 D then none else some (valN 0 D)

def quo:Bs→Option (Bs × Nat)
 |[]=>none
 |[c]=>if c.toNat=39 then some ([],1) else none
 |c::d::r=>if c.toNat<32∨126<c.toNat then none else if c.toNat=39 then (if d.toNat=39 then (quo r).map fun x=>(39::x.1,x.2+2) else some ([],1)) else (quo (d::r)).map fun x=>(c::x.1,x.2+1)
def endAft (L:Bs)(to:Nat):Bool:=match L[to]? with |some c=>blkC c || decide (c.toNat=37) |none=>true

def oneT (L:Bs)(i:Nat):Option (Tk × Nat):=match L[i]? with
 |none=>none
 |some c =>
  if lowC c then nameT L 1 (cutB L i (runB folC L i)) i (runB folC L i)
  else if grtC c then nameT L 2 (cutB L i (runB folC L i)) i (runB folC L i)
  else if dgC c then (numT (cutB L i (runB dgC L i))).map fun n=>(⟨3,cutB L i (runB dgC L i),n,i,false⟩,runB dgC L i)
  else if c.toNat=39 then (match quo (L.drop (i+1)) with |some (t,k)=>nameT L 1 t i (i+1+k) |none=>none)
  else if c.toNat=91∧(L[i+1]?.map UInt8.toNat)=some 93 then nameT L 1 [91,93] i (i+2)
  else if c.toNat=33∨c.toNat=59 then nameT L 1 [c] i (i+1)
  else if mrkC c then some (⟨4,[c],0,i,false⟩,i+1)
  else if runB sgnC L i=i+1∧c.toNat=46∧endAft L (i+1) then some (⟨5,[46],0,i,false⟩,i+1)
  else nameT L 1 (cutB L i (runB sgnC L i)) i (runB sgnC L i)

def skipL:Bool→Bs→Nat
 |_,[]=>0
 |true,c::r=>1+skipL (!decide (c.toNat=10)) r
 |false,c::r=>if c.toNat=37 then 1+skipL true r else if blkC c then 1+skipL false r else 0

theorem skipL_le:∀ (b:Bool) (L:Bs),skipL b L≤L.length
 |_,[]=>by simp[skipL]
 |true,c::r=>by simp only[skipL,List.length_cons];have:=skipL_le (!decide (c.toNat=10)) r;omega
 |false,c::r=>by
  simp only[skipL,List.length_cons]
  split
  ·have:=skipL_le true r;omega
  ·split
   ·have:=skipL_le false r;omega
   ·omega
def passN (L:Bs)(i:Nat):Nat:=i+skipL false (L.drop i)

def toks:Nat→Bs→Nat→Except Nat (List Tk)
 |0,_,_=>.ok []
 |f+1,L,i=>if passN L i<L.length then (match oneT L (passN L i) with
   |none=>.error (passN L i)
   |some (t,to)=>match toks f L to with
    | .ok l=>.ok (t::l)
    | .error j=>.error j) else .ok []

def tokT (L:Bs):List Tk × Int × Int:=if 8000<L.length then ([],0,3) else match toks (L.length+1) L 0 with
 | .ok l=>(l,0,0)
 | .error j=>([],j,2)
theorem cutB_len {L:Bs}{i j:Nat}(h:i≤j)(hj:j≤L.length):(cutB L i j).length=j - i:=by simp[cutB];omega

theorem quo_bad {c:UInt8}{r:Bs}(h:c.toNat<32∨126<c.toNat):quo (c::r)=none:=by
 cases r with
 |nil=>simp only[quo];rw[if_neg (by omega)]
 |cons d r=>simp only[quo];rw[if_pos h]

theorem quo_two {c d:UInt8}{r:Bs}(h:c.toNat=39)(h2:d.toNat=39):quo (c::d::r)=(quo r).map fun x=>(39::x.1,x.2+2):=by
 simp only[quo];rw[if_neg (by omega),if_pos h,if_pos h2]

theorem quo_one {c:UInt8}{r:Bs}(h:c.toNat=39)(h2:∀d,r[0]? = some d→d.toNat≠39):quo (c::r)=some ([],1):=by
 cases r with
 |nil=>simp only[quo];rw[if_pos h]
 |cons d r=>simp only[quo];rw[if_neg (by omega),if_pos h,if_neg (h2 d rfl)]

theorem quo_any {c:UInt8}{r:Bs}(h0:¬ (c.toNat<32∨126<c.toNat))(h:c.toNat≠39):quo (c::r)=(quo r).map fun x=>(c::x.1,x.2+1):=by
 cases r with
 |nil=>simp only[quo];rw[if_neg h];rfl
 |cons d r=>simp only[quo];rw[if_neg h0,if_neg h]

theorem quo_len:∀ (n:Nat) (L:Bs),L.length≤n→∀t k,quo L=some (t,k)→1≤k∧k≤L.length∧t.length<k
 |0,L,h,t,k,hq=>by
  have:L=[]:=List.length_eq_zero_iff.1 (by omega)
  subst this;cases hq
 |n+1,[],_,t,k,hq=>by cases hq
 |n+1,c::r,h,t,k,hq=>by
  simp only[List.length_cons]at h ⊢
  by_cases hb:c.toNat<32∨126<c.toNat
  ·rw[quo_bad hb]at hq;cases hq
  by_cases h39:c.toNat=39
  ·by_cases h2:∀ d,r[0]? = some d→d.toNat≠39
   ·rw[quo_one h39 h2]at hq;cases hq;simp
   ·cases r with
    |nil=>exact absurd (fun d h=>by simp at h) h2
    |cons d r' =>
     have hd:d.toNat=39:=Classical.byContradiction fun hd=>h2 fun e he=>by simp at he;subst he;exact hd
     rw[quo_two h39 hd]at hq
     simp only[List.length_cons]at h ⊢
     cases hr:quo r' with
     |none=>rw[hr]at hq;cases hq
     |some x =>
      rw[hr]at hq
      cases hq
      have:=quo_len n r' (by omega) x.1 x.2 hr
      simp only[List.length_cons];omega
  ·rw [quo_any hb h39] at hq
   cases hr:quo r with
   |none=>rw[hr]at hq;cases hq
   |some x =>
    rw[hr]at hq
    cases hq
    have:=quo_len n r (by omega) x.1 x.2 hr
    simp only[List.length_cons];omega

theorem nameT_to {L:Bs}{kind:Int}{text:Bs}{i to:Nat}{t:Tk}{j:Nat}(h:nameT L kind text i to=some (t,j)):j=to∧t=⟨kind,text,0,i,opnB L to⟩∧1≤text.length∧text.length≤20:=by
 unfold nameT at h
 split at h
 ·rename_i hh
  simp only[Option.some.injEq,Prod.mk.injEq]at h
  exact⟨h.2.symm,h.1.symm,hh.1,hh.2⟩
 ·cases h

theorem oneT_to {L:Bs}{i:Nat}{t:Tk}{j:Nat}(h:oneT L i=some (t,j)):i<j∧j≤L.length:=by
 unfold oneT at h
 split at h
 ·cases h
 rename_i c hc
 have hi:=(List.getElem?_eq_some_iff.1 hc).1
 have run:∀ (p:UInt8→Bool) (kind:Int),nameT L kind (cutB L i (runB p L i)) i (runB p L i)=some (t,j)→i<j∧j≤L.length:=fun p kind h=>by
  obtain⟨h1,_,h2,_⟩:=nameT_to h
  have hr:=runB_le (p:=p) (L:=L) (i:=i) (by omega)
  rw[cutB_len hr.1 hr.2]at h2
  subst h1;omega
 split at h
 ·exact run folC 1 h
 ·split at h
  ·exact run folC 2 h
  ·split at h
   ·rename_i hd
    cases hn:numT (cutB L i (runB dgC L i)) with
    |none=>rw[hn]at h;cases h
    |some n =>
     rw[hn]at h
     cases h
     have hr:=runB_le (p:=dgC) (L:=L) (i:=i+1) (by omega)
     rw[runB_step hc hd];omega
   ·split at h
    ·split at h
     ·rename_i t' k hq
      obtain⟨h1,_,_,_⟩:=nameT_to h
      have:=quo_len _ _ (Nat.le_refl _) _ _ hq
      rw[List.length_drop]at this
      subst h1;omega
     ·cases h
    ·split at h
     ·rename_i h91
      obtain⟨h1,_,_,_⟩:=nameT_to h
      cases h2:L[i+1]? with
      |none=>rw[h2]at h91;simp at h91
      |some d=>have:=(List.getElem?_eq_some_iff.1 h2).1;subst h1;omega
     ·split at h
      ·obtain⟨h1,_,_,_⟩:=nameT_to h;subst h1;omega
      ·split at h
       ·simp only[Option.some.injEq,Prod.mk.injEq]at h;obtain⟨_,rfl⟩:=h;omega
       ·split at h
        ·simp only[Option.some.injEq,Prod.mk.injEq]at h;obtain⟨_,rfl⟩:=h;omega
        ·exact run sgnC 1 h
end PSL

namespace PSL
open Go
def sgOf (t:Tm):Sg:=(t.s,(t.l.length:Int))
def twoL:List Bs:=[[61],[92,61],[61,61],[92,61,61],[64,60],[64,62],[64,61,60],[64,62,61],[105,115],[61,58,61],[61,92,61],[60],[62],[61,60],[62,61],[61,46,46]]
def oneL:List (Bs × Int):=[([102,97,105,108],0),([110,108],0),([118,97,114],1),([110,111,110,118,97,114],1),([97,116,111,109],1),([105,110,116,101,103,101,114],1),([119,114,105,116,101],1),([102,117,110,99,116,111,114],3),([97,114,103],3)]
def ctlL (n:Int):List (Bs × Int):=[([116,114,117,101],0),([33],0),([44],2),([59],2),([45,62],2),([92,43],1),([58,45],2),([63],n)]
def anyS (l:List (Bs × Int))(p:Sg):Bool:=l.any fun x=>decide ((Tx x.1,x.2)=p)
def bltB (p:Sg):Bool:=anyS (twoL.map fun s=>(s,2)) p || anyS oneL p
def ctlB (p:Sg):Bool:=anyS (ctlL p.2) p
def ownB (t:Tm):Bool:=(t.k==3) && !bltB (sgOf t) && !ctlB (sgOf t)
def nothB (t:Tm):Bool:=(t.k==0)&&strEq t.s ⟨#[]⟩&&(t.n==0)&&decide (t.l.length=0)

theorem noth_zero (t:Tm):t.same zeroT=nothB t:=by
 rw[Tm.same_eq]
 unfold nothB zeroT
 have h1:Tm.sameL t.l []=decide (t.l.length=0):=by cases t.l<;>simp[Tm.sameL]
 show ((t.k==0)&&(t.n==0)&&strEq t.s ⟨#[]⟩&&Tm.sameL t.l [])=_
 rw[h1]
 show ((t.k==0)&&(t.n==0)&&strEq t.s ⟨#[]⟩&&_)=_
 rw[Bool.and_assoc (t.k==0),Bool.and_comm (t.n==0),← Bool.and_assoc]
def chkT (v:Int)(t:Tm):Bool:=rightT t&&(varsT [t]).all fun x=>decide (x<v)
def noneG (a b c:List Gl):Bool:=decide (a.length+b.length+c.length=0)

mutual
def chk1 (v:Int):Gl→Int→Int→Bool→Bool × Int
 | .mk k t a b c,left,deep,cuts =>
  if k=1 then (noneG a b c&&chkT v t&&ownB t,left)
  else if k=2 then (noneG a b c&&chkT v t&&(t.k==3)&&bltB (sgOf t),left)
  else if k=3 then (noneG a b c&&nothB t&&cuts,left)
  else if k=4 then
   if nothB t then
    if (chkL v a left (deep+1) false).1 then
     if (chkL v b (chkL v a left (deep+1) false).2 (deep+1) cuts).1 then chkL v c (chkL v b (chkL v a left (deep+1) false).2 (deep+1) cuts).2 (deep+1) cuts
     else (false,(chkL v b (chkL v a left (deep+1) false).2 (deep+1) cuts).2)
    else (false,(chkL v a left (deep+1) false).2)
   else (false,left)
  else if k=5 then (if nothB t&&decide (b.length+c.length=0) then chkL v a left (deep+1) false else (false,left))
  else (false,left)
def chkL (v:Int):List Gl→Int→Int→Bool→Bool × Int
 |[],left,_,_=>(true,left)
 |g::r,left,deep,cuts=>if !(chk1 v g (left - 1) deep cuts).1 || decide ((chk1 v g (left - 1) deep cuts).2<0) || decide (10<deep) then (false,(chk1 v g (left - 1) deep cuts).2) else chkL v r (chk1 v g (left - 1) deep cuts).2 deep cuts
end
def clsB (x:Cs):Bool:=decide (0≤x.vars)&&decide (x.vars≤1000)&&chkT x.vars x.head&&ownB x.head&&(chkL x.vars x.body 20 1 true).1

mutual
def there1 (has:Sg→Bool):Gl→Bool
 | .mk k t a b c=>!((k==1) && !has (sgOf t))&&thereL has a&&thereL has b&&thereL has c
def thereL (has:Sg→Bool):List Gl→Bool
 |[]=>true
 |g::r=>there1 has g&&thereL has r
end
def hasH (l:List Cs)(p:Sg):Bool:=l.any fun c=>decide (sgOf c.head=p)

def firstN {α:Type} (p:α→Bool):List α→Nat→Option Nat
 |[],_=>none
 |x::r,i=>if p x then firstN p r (i+1) else some i

def checkR (l:List Cs):Int × Int :=
 if 200<l.length then (200,3)
 else match firstN clsB l 0 with
  |some i=>((i:Int),1)
  |none=>match firstN (fun c=>thereL (hasH l) c.body) l 0 with
   |some i=>((i:Int),9)
   |none=>(0,0)
def varsB (v:Int)(t:Tm):Bool:=(varsT [t]).all (fun x=>decide (x<v))&&t.rightB

def fairB (v:Int):Gl→Bool
 | .mk k t a b c =>
  if k=1 then noneG a b c&&ownB t&&varsB v t
  else if k=2 then noneG a b c&&(t.k==3)&&bltB (sgOf t)&&varsB v t
  else if k=3 then noneG a b c&&nothB t
  else nothB t&&((k==4) || (k==5)&&decide (b.length+c.length=0))

mutual
def cnt1 (v:Int):Gl→Int→Bool→Int
 | .mk k t a b c,deep,cuts =>
  if !fairB v (.mk k t a b c) || ((k==3) && !cuts) then -1
  else if (if a.length≠0∧10<deep+1 then -1 else cntG v a (deep+1) false)<0∨(if b.length≠0∧10<deep+1 then -1 else cntG v b (deep+1) cuts)<0∨(if c.length≠0∧10<deep+1 then -1 else cntG v c (deep+1) cuts)<0 then -1
  else 1+(if a.length≠0∧10<deep+1 then -1 else cntG v a (deep+1) false)+(if b.length≠0∧10<deep+1 then -1 else cntG v b (deep+1) cuts)+(if c.length≠0∧10<deep+1 then -1 else cntG v c (deep+1) cuts)
def cntG (v:Int):List Gl→Int→Bool→Int
 |[],_,_=>0
 |g::r,deep,cuts=>if cnt1 v g deep cuts<0 then -1 else if cntG v r deep cuts<0 then -1 else cnt1 v g deep cuts+cntG v r deep cuts
end
def cntL (v:Int)(l:List Gl)(deep:Int)(cuts:Bool):Int:=if l.length≠0∧10<deep then -1 else cntG v l deep cuts

theorem cnt1_eq (v:Int)(g:Gl)(deep:Int)(cuts:Bool):cnt1 v g deep cuts=if !fairB v g || ((g.k==3) && !cuts) then -1 else if cntL v g.a (deep+1) false<0∨cntL v g.b (deep+1) cuts<0∨cntL v g.c (deep+1) cuts<0 then -1 else 1+cntL v g.a (deep+1) false+cntL v g.b (deep+1) cuts+cntL v g.c (deep+1) cuts:=by
 cases g;rw[cnt1];rfl

theorem chk1_eq (v:Int)(g:Gl)(left deep:Int)(cuts:Bool):chk1 v g left deep cuts =
  if g.k=1 then (noneG g.a g.b g.c&&chkT v g.t&&ownB g.t,left)
  else if g.k=2 then (noneG g.a g.b g.c&&chkT v g.t&&(g.t.k==3)&&bltB (sgOf g.t),left)
  else if g.k=3 then (noneG g.a g.b g.c&&nothB g.t&&cuts,left)
  else if g.k=4 then
   if nothB g.t then
    if (chkL v g.a left (deep+1) false).1 then
     if (chkL v g.b (chkL v g.a left (deep+1) false).2 (deep+1) cuts).1 then chkL v g.c (chkL v g.b (chkL v g.a left (deep+1) false).2 (deep+1) cuts).2 (deep+1) cuts
     else (false,(chkL v g.b (chkL v g.a left (deep+1) false).2 (deep+1) cuts).2)
    else (false,(chkL v g.a left (deep+1) false).2)
   else (false,left)
  else if g.k=5 then (if nothB g.t&&decide (g.b.length+g.c.length=0) then chkL v g.a left (deep+1) false else (false,left))
  else (false,left):=by
 cases g;rw[chk1];rfl
def clsD (x:Cs):Bool:=decide (0≤x.vars)&&decide (x.vars≤1000)&&varsB x.vars x.head&&ownB x.head&&decide (0≤cntL x.vars x.body 1 true)&&decide (cntL x.vars x.body 1 true≤20)
theorem chk_vars (v:Int)(t:Tm):chkT v t=varsB v t:=by unfold chkT varsB;rw[rightT_eq,Bool.and_comm]

theorem cnt_ge (v:Int):∀ (l:List Gl) (deep:Int) (cuts:Bool),-1≤cntL v l deep cuts:=by
 have h1:∀ (g:Gl) (deep:Int) (cuts:Bool),-1≤cnt1 v g deep cuts:=fun g deep cuts=>by
  rw[cnt1_eq]
  split
  ·omega
  ·split
   ·omega
   ·omega
 have h2:∀ (l:List Gl) (deep:Int) (cuts:Bool),-1≤cntG v l deep cuts:=fun l=>by
  induction l with
  |nil=>intro _ _;simp[cntG]
  |cons g r ih =>
   intro deep cuts
   simp only[cntG]
   split
   ·omega
   ·split
    ·omega
    ·omega
 intro l deep cuts
 unfold cntL
 split
 ·omega
 ·exact h2 l deep cuts

def Both (v:Int)(l:List Gl):Prop:=∀ (left deep:Int) (cuts:Bool),((chkL v l left deep cuts).1=true↔0≤cntL v l deep cuts∧(l.length=0∨cntL v l deep cuts≤left))∧((chkL v l left deep cuts).1=true→(chkL v l left deep cuts).2=left - cntL v l deep cuts)∧(chkL v l left deep cuts).2≤left

theorem cnt_nil {v:Int}{l:List Gl}{deep:Int}{cuts:Bool}(h:l.length=0):cntL v l deep cuts=0:=by
 have:l=[]:=List.length_eq_zero_iff.1 h
 subst this
 simp[cntL,cntG]

theorem both1 {v:Int}{g:Gl}(ha:Both v g.a)(hb:Both v g.b)(hc:Both v g.c)(left deep:Int)(cuts:Bool) :
  ((chk1 v g left deep cuts).1=true∧0≤(chk1 v g left deep cuts).2↔0≤cnt1 v g deep cuts∧cnt1 v g deep cuts≤left+1)∧((chk1 v g left deep cuts).1=true→0≤(chk1 v g left deep cuts).2→(chk1 v g left deep cuts).2=left+1 - cnt1 v g deep cuts)∧(chk1 v g left deep cuts).2≤left:=by
 rw[chk1_eq,cnt1_eq]
 have hne:noneG g.a g.b g.c=true→g.a.length=0∧g.b.length=0∧g.c.length=0:=fun h=>by
  unfold noneG at h;have:=of_decide_eq_true h;omega
 by_cases h1:g.k=1
 ·have hf:fairB v g=(noneG g.a g.b g.c&&ownB g.t&&varsB v g.t):=by cases g; simp only [Gl.k] at h1; simp [fairB,h1,Gl.a,Gl.b,Gl.c,Gl.t]
  rw[if_pos h1,hf,h1,chk_vars]
  cases hn:noneG g.a g.b g.c with
  |false=>simp
  |true =>
   obtain⟨n1,n2,n3⟩:=hne hn
   rw[cnt_nil n1,cnt_nil n2,cnt_nil n3]
   cases ownB g.t<;>cases varsB v g.t<;>simp<;>omega
 rw[if_neg h1]
 by_cases h2:g.k=2
 ·have hf:fairB v g=(noneG g.a g.b g.c&&(g.t.k==3)&&bltB (sgOf g.t)&&varsB v g.t):=by cases g; simp only [Gl.k] at h2; simp [fairB,h2,Gl.a,Gl.b,Gl.c,Gl.t]
  rw[if_pos h2,hf,h2,chk_vars]
  cases hn:noneG g.a g.b g.c with
  |false=>simp
  |true =>
   obtain⟨n1,n2,n3⟩:=hne hn
   rw[cnt_nil n1,cnt_nil n2,cnt_nil n3]
   cases (g.t.k==3)<;>cases bltB (sgOf g.t)<;>cases varsB v g.t<;>simp<;>omega
 rw[if_neg h2]
 by_cases h3:g.k=3
 ·have hf:fairB v g=(noneG g.a g.b g.c&&nothB g.t):=by cases g; simp only [Gl.k] at h3; simp [fairB,h3,Gl.a,Gl.b,Gl.c,Gl.t]
  rw[if_pos h3,hf,h3]
  cases hn:noneG g.a g.b g.c with
  |false=>simp
  |true =>
   obtain⟨n1,n2,n3⟩:=hne hn
   rw[cnt_nil n1,cnt_nil n2,cnt_nil n3]
   cases nothB g.t<;>cases cuts<;>simp<;>omega
 rw[if_neg h3]
 have hf:fairB v g=(nothB g.t&&((g.k==4) || (g.k==5)&&decide (g.b.length+g.c.length=0))):=by cases g;simp only[Gl.k]at h1 h2 h3;simp[fairB,h1,h2,h3,Gl.k,Gl.b,Gl.c,Gl.t]
 rw[hf]
 have h3':(g.k==3)=false:=by simpa using h3
 have ga:=cnt_ge v g.a (deep+1) false
 have gb:=cnt_ge v g.b (deep+1) cuts
 have gc:=cnt_ge v g.c (deep+1) cuts
 by_cases h4:g.k=4
 ·rw [if_pos h4,h3',h4]
  cases hn:nothB g.t with
  |false=>simp
  |true =>
   obtain⟨a1,a2,a3⟩:=ha left (deep+1) false
   simp only[if_true,Bool.true_and,Bool.false_and,Bool.or_false,show ((4:Int)==4)=true from rfl,Bool.true_or,Bool.not_true,Bool.false_eq_true,if_false]
   generalize cntL v g.a (deep+1) false=ca at *
   cases hA:(chkL v g.a left (deep+1) false).1 with
   |false =>
    rw[hA]at a1
    simp only[Bool.false_eq_true,false_iff,if_false,false_and]at a1 ⊢
    refine⟨fun h=>?_,fun h=>h.elim,by omega⟩
    split at h
    ·omega
    ·omega
   |true =>
    rw[hA]at a1
    simp only[if_true,true_iff]at a1 ⊢
    have a2:=a2 hA
    rw[a2]
    obtain⟨b1,b2,b3⟩:=hb (left - ca) (deep+1) cuts
    generalize cntL v g.b (deep+1) cuts=cb at *
    cases hB:(chkL v g.b (left - ca) (deep+1) cuts).1 with
    |false =>
     rw[hB]at b1
     simp only[Bool.false_eq_true,false_iff,if_false,false_and]at b1 ⊢
     refine⟨fun h=>?_,fun h=>h.elim,by omega⟩
     split at h
     ·omega
     ·omega
    |true =>
     rw[hB]at b1
     simp only[if_true,true_iff]at b1 ⊢
     have b2:=b2 hB
     rw[b2]
     obtain⟨c1,c2,c3⟩:=hc (left - ca - cb) (deep+1) cuts
     generalize cntL v g.c (deep+1) cuts=cc at *
     cases hC:(chkL v g.c (left - ca - cb) (deep+1) cuts).1 with
     |false =>
      rw[hC]at c1
      simp only[Bool.false_eq_true,false_iff,false_and]at c1 ⊢
      refine⟨fun h=>?_,fun h=>h.elim,by omega⟩
      split at h
      ·omega
      ·omega
     |true =>
      rw[hC]at c1
      simp only[true_iff,true_and]at c1 ⊢
      have c2:=c2 hC
      rw[c2]
      rw[if_neg (by omega)]
      exact⟨by omega,fun _ _=>by omega,by omega⟩
 rw[if_neg h4]
 have h4':(g.k==4)=false:=by simpa using h4
 rw[h4',h3']
 by_cases h5:g.k=5
 ·rw [if_pos h5,h5]
  cases hn:nothB g.t with
  |false=>simp
  |true =>
   by_cases hbc:g.b.length+g.c.length=0
   ·obtain ⟨a1,a2,a3⟩:=ha left (deep+1) false
    rw[cnt_nil (l:=g.b) (by omega),cnt_nil (l:=g.c) (by omega)]
    simp only[hbc,decide_true,Bool.and_true,Bool.true_and,Bool.false_or,show ((5:Int)==5)=true from rfl,Bool.not_true,Bool.false_and,if_true,Bool.false_eq_true,if_false]
    generalize cntL v g.a (deep+1) false=ca at *
    cases hA:(chkL v g.a left (deep+1) false).1 with
    |false =>
     rw[hA]at a1
     simp only[Bool.false_eq_true,false_iff,false_and]at a1 ⊢
     refine⟨fun h=>?_,fun h=>h.elim,by omega⟩
     split at h
     ·omega
     ·omega
    |true =>
     rw[hA]at a1
     simp only[true_iff,true_and]at a1 ⊢
     have a2:=a2 hA
     rw[a2,if_neg (by omega)]
     exact⟨by omega,fun _ _=>by omega,by omega⟩
   ·have hd:decide (g.b.length+g.c.length=0)=false:=decide_eq_false hbc
    rw[hd];simp
 ·rw [if_neg h5]
  have h5':(g.k==5)=false:=by simpa using h5
  rw[h5']
  simp

theorem bothL (v:Int)(l:List Gl):Both v l:=by
 refine Gl.indL (p:=Both v) (fun l=>?_) l
 intro hsub
 induction l with
 |nil=>intro left deep cuts;simp[chkL,cnt_nil]
 |cons g r ih =>
  obtain⟨ga,gb,gc⟩:=hsub g (by simp)
  have ih:=ih fun x hx=>hsub x (by simp[hx])
  intro left deep cuts
  obtain⟨p1,p2,p3⟩:=both1 ga gb gc (left - 1) deep cuts
  have hn:(g::r).length≠0:=by simp
  simp only[chkL]
  have hcnt:cntL v (g::r) deep cuts=if 10<deep then -1 else if cnt1 v g deep cuts<0 then -1 else if cntG v r deep cuts<0 then -1 else cnt1 v g deep cuts+cntG v r deep cuts:=by
   unfold cntL
   by_cases hd:10<deep
   ·rw[if_pos ⟨hn,hd⟩,if_pos hd]
   ·rw[if_neg (fun h=>hd h.2),if_neg hd];simp only[cntG]
  have hr:¬ 10<deep→cntL v r deep cuts=cntG v r deep cuts:=fun hd=>by unfold cntL;rw[if_neg (fun h=>hd h.2)]
  have h1pos:0≤cnt1 v g deep cuts→1≤cnt1 v g deep cuts:=fun h=>by
   rw[cnt1_eq]at h ⊢
   split at h
   ·omega
   ·rename_i hf
    rw[if_neg hf]
    split at h
    ·omega
    ·rename_i hq
     rw[if_neg hq]
     have:=cnt_ge v g.a (deep+1) false
     have:=cnt_ge v g.b (deep+1) cuts
     have:=cnt_ge v g.c (deep+1) cuts
     omega
  rw[hcnt]
  generalize cnt1 v g deep cuts=cg at *
  obtain⟨q1,q2,q3⟩:=ih (chk1 v g (left - 1) deep cuts).2 deep cuts
  generalize chk1 v g (left - 1) deep cuts=x at *
  obtain⟨xb,xl⟩:=x
  simp only at p1 p2 p3 q1 q2 q3 ⊢
  have hgr:=cnt_ge v r deep cuts
  by_cases hd:10<deep
  ·have:(!xb || decide (xl<0) || decide (10<deep))=true:=by simp [hd]
   rw[if_pos this,if_pos hd]
   exact⟨⟨(fun h=>by cases h),fun h=>by omega⟩,(fun h=>by cases h),by simp only;omega⟩
  rw[if_neg hd]
  rw[hr hd]at q1 q2 hgr
  generalize cntG v r deep cuts=cr at *
  by_cases hx:xb=true∧0≤xl
  ·have:(!xb || decide (xl<0) || decide (10<deep))=false:=by simp [hd,hx.1]; omega
   rw[if_neg (by rw[this];simp)]
   have hp:=p1.1 hx
   have hp2:=p2 hx.1 hx.2
   have hp3:=h1pos hp.1
   rw[if_neg (by omega)]
   refine⟨q1.trans ⟨fun h=>?_,fun h=>?_⟩,fun h=>?_,by omega⟩
   ·rw [if_neg (by omega)]
    refine⟨by omega,.inr ?_⟩
    rcases h.2 with h2 |h2
    ·have:cr=0:=by
      have h4:=hr hd
      have:r=[]:=List.length_eq_zero_iff.1 h2
      subst this
      rw[cnt_nil rfl]at h4
      exact h4.symm
     omega
    ·omega
   ·split at h
    ·omega
    ·refine⟨by omega,.inr (by omega)⟩
   ·have h2:=q2 h
    have h3:=(q1.1 h).1
    rw[if_neg (by omega)]
    omega
  ·have:(!xb || decide (xl<0) || decide (10<deep))=true:=by
    cases xb with
    |false=>rfl
    |true=>simp only[true_and]at hx;simp;left;omega
   rw[if_pos this]
   refine⟨⟨(fun h=>by cases h),fun h=>?_⟩,(fun h=>by cases h),by simp only;omega⟩
   refine absurd (p1.2 ?_) hx
   split at h
   ·omega
   ·split at h
    ·omega
    ·rcases h.2 with h2 | h2
     ·exact absurd h2 hn
     ·omega

theorem cls_same (x:Cs):clsB x=clsD x:=by
 unfold clsB clsD
 rw[chk_vars]
 obtain⟨h,_⟩:=bothL x.vars x.body 20 1 true
 have:(chkL x.vars x.body 20 1 true).1=(decide (0≤cntL x.vars x.body 1 true)&&decide (cntL x.vars x.body 1 true≤20)):=by
  rw[Bool.eq_iff_iff,h]
  simp only[Bool.and_eq_true,decide_eq_true_eq]
  constructor
  ·rintro ⟨h1,h2⟩
   refine⟨h1,?_⟩
   rcases h2 with h2 |h2
   ·rw[cnt_nil h2];omega
   ·exact h2
  ·rintro ⟨h1,h2⟩
   exact⟨h1,.inr h2⟩
 rw[this,Bool.and_assoc,Bool.and_assoc,Bool.and_assoc,Bool.and_assoc,Bool.and_assoc,Bool.and_assoc,Bool.and_assoc]
end PSL

namespace PSL
open Go

theorem valN_acc:∀ (D:Bs) (n:Nat),valN n D=n * 10 ^ D.length+valN 0 D
 |[],n=>by simp[valN]
 |c::D,n=>by
  show valN (10 * n+(c.toNat - 48)) D=n * 10 ^ (D.length+1)+valN (10 * 0+(c.toNat - 48)) D
  rw[valN_acc D,valN_acc D (10 * 0+(c.toNat - 48)),Nat.pow_succ]
  have:(10 * n+(c.toNat - 48)) * 10 ^ D.length=n * (10 ^ D.length * 10)+(c.toNat - 48) * 10 ^ D.length:=by
   rw[Nat.add_mul];congr 1
   rw[Nat.mul_comm 10 n,Nat.mul_assoc,Nat.mul_comm 10]
  rw[this,show 10 * 0+(c.toNat - 48)=c.toNat - 48 by omega];omega
theorem valN_snoc (D:Bs)(c:UInt8)(n:Nat):valN n (D++[c])=10 * valN n D+(c.toNat - 48):=by simp[valN,List.foldl_append]

theorem valN_mono (D E:Bs):valN 0 D≤valN 0 (D++E):=by
 have e:valN 0 (D++E)=valN (valN 0 D) E:=by simp[valN,List.foldl_append]
 rw[e,valN_acc E (valN 0 D)]
 have:1≤10 ^ E.length:=Nat.one_le_pow _ _ (by omega)
 have:valN 0 D * 1≤valN 0 D * 10 ^ E.length:=Nat.mul_le_mul_left _ this
 omega
end PSL
namespace PSL
open Go
def nlC (c:UInt8):Bool:=!decide (c.toNat=10)

theorem skip_line:∀ (r:Bs),skipL true r=(r.takeWhile nlC).length+skipL false (r.dropWhile nlC)
 |[]=>by simp[skipL]
 |c::r=>by
  by_cases h:c.toNat=10
  ·have hn:nlC c=false:=by simp [nlC,h]
   have hb:blkC c=true:=by simp[blkC,h]
   rw[List.takeWhile_cons_of_neg (by rw[hn];simp),List.dropWhile_cons_of_neg (by rw[hn];simp)]
   simp[skipL,h,hb]
  ·have hn:nlC c=true:=by simp [nlC,h]
   rw[List.takeWhile_cons_of_pos hn,List.dropWhile_cons_of_pos hn]
   simp only[skipL,List.length_cons]
   rw[decide_eq_false h,Bool.not_false,skip_line r];omega

theorem drop_run (p:UInt8→Bool)(l:Bs):l.drop (l.takeWhile p).length=l.dropWhile p:=by
 induction l with
 |nil=>rfl
 |cons c l ih =>
  by_cases h:p c=true
  ·rw[List.takeWhile_cons_of_pos h,List.dropWhile_cons_of_pos h];simpa using ih
  ·rw[List.takeWhile_cons_of_neg h,List.dropWhile_cons_of_neg h];rfl
theorem pass_end {L:Bs}{i:Nat}(h:L.length≤i):passN L i=i:=by unfold passN;rw[List.drop_eq_nil_of_le h];simp[skipL]

theorem pass_blank {L:Bs}{i:Nat}{c:UInt8}(h:L[i]? = some c)(hb:blkC c=true):passN L i=passN L (i+1):=by
 have hi:=(List.getElem?_eq_some_iff.1 h).1
 have he:=(List.getElem?_eq_some_iff.1 h).2
 have hne:¬ c.toNat=37:=by simp[blkC]at hb;omega
 unfold passN
 rw[List.drop_eq_getElem_cons hi,he]
 simp only[skipL]
 rw[if_neg hne,if_pos hb];omega

theorem pass_line {L:Bs}{i:Nat}{c:UInt8}(h:L[i]? = some c)(hc:c.toNat=37):passN L i=passN L (runB nlC L i)∧i<runB nlC L i:=by
 have hi:=(List.getElem?_eq_some_iff.1 h).1
 have he:=(List.getElem?_eq_some_iff.1 h).2
 have hn:nlC c=true:=by simp[nlC,hc]
 have hr:=runB_step h hn
 have hl:=(runB_le (p:=nlC) (L:=L) (i:=i+1) (by omega)).1
 refine⟨?_,by omega⟩
 have hd:L.drop (runB nlC L (i+1))=(L.drop (i+1)).dropWhile nlC:=by rw[← drop_run nlC (L.drop (i+1)),List.drop_drop];rfl
 unfold passN
 rw[hr,hd,List.drop_eq_getElem_cons hi,he]
 simp only[skipL]
 rw[if_pos hc,skip_line]
 unfold runB
 omega

theorem pass_stop {L:Bs}{i:Nat}{c:UInt8}(h:L[i]? = some c)(hb:blkC c=false)(hc:¬ c.toNat=37):passN L i=i:=by
 have hi:=(List.getElem?_eq_some_iff.1 h).1
 have he:=(List.getElem?_eq_some_iff.1 h).2
 unfold passN
 rw[List.drop_eq_getElem_cons hi,he]
 simp only[skipL]
 rw[if_neg hc,if_neg (by rw[hb];simp)];rfl

theorem pass_le {L:Bs}{i:Nat}(h:i≤L.length):i≤passN L i∧passN L i≤L.length:=by
 have:=skipL_le false (L.drop i)
 rw[List.length_drop]at this
 unfold passN;omega
end PSL
namespace PSL
open Go

theorem oneT_at {L:Bs}{i:Nat}{t:Tk}{j:Nat}(h:oneT L i=some (t,j)):t.at_=i:=by
 have nm:∀ {kind:Int} {text:Bs} {to:Nat},nameT L kind text i to=some (t,j)→t.at_=i:=fun h=>by
  obtain⟨_,rfl,_⟩:=nameT_to h;rfl
 unfold oneT at h
 split at h
 ·cases h
 split at h
 ·exact nm h
 split at h
 ·exact nm h
 split at h
 ·cases hn:numT (cutB L i (runB dgC L i)) with
  |none=>rw[hn]at h;cases h
  |some n=>rw[hn]at h;cases h;rfl
 split at h
 ·split at h
  ·exact nm h
  ·cases h
 split at h
 ·exact nm h
 split at h
 ·exact nm h
 split at h
 ·cases h;rfl
 split at h
 ·cases h;rfl
 ·exact nm h

theorem toks_len:∀ (f:Nat) (L:Bs) (i:Nat) (l:List Tk),toks f L i=.ok l→l.length≤L.length - i
 |0,L,i,l,h=>by simp only[toks,Except.ok.injEq]at h;subst h;simp
 |f+1,L,i,l,h=>by
  simp only[toks]at h
  have hle:i≤passN L i:=by unfold passN;omega
  split at h
  ·rename_i hlt
   cases hone:oneT L (passN L i) with
   |none=>rw[hone]at h;cases h
   |some x =>
    obtain⟨u,to⟩:=x
    rw[hone]at h
    have hto:=oneT_to hone
    simp only at h
    cases hr:toks f L to with
    |error j=>rw[hr]at h;cases h
    |ok r =>
     rw[hr]at h
     simp only[Except.ok.injEq]at h
     subst h
     have:=toks_len f L to r hr
     simp only[List.length_cons];omega
  ·simp only[Except.ok.injEq]at h;subst h;simp

theorem tw_app {p:UInt8→Bool}{c:UInt8}(hc:p c=false)(r:Bs):∀l:Bs,(l++c::r).takeWhile p=l.takeWhile p
 |[]=>by rw[List.nil_append,List.takeWhile_cons_of_neg (by rw[hc];simp)];rfl
 |x::l=>by
  rw[List.cons_append]
  by_cases h:p x=true
  ·rw[List.takeWhile_cons_of_pos h,List.takeWhile_cons_of_pos h,tw_app hc r l]
  ·rw[List.takeWhile_cons_of_neg h,List.takeWhile_cons_of_neg h]
end PSL
namespace PSL
open Go

theorem toks_bad:∀ (f:Nat) (L:Bs) (i j:Nat),toks f L i=.error j→j<L.length
 |0,L,i,j,h=>by simp[toks]at h
 |f+1,L,i,j,h=>by
  simp only[toks]at h
  by_cases hp:passN L i<L.length
  ·rw [if_pos hp] at h
   cases hone:oneT L (passN L i) with
   |none=>rw[hone]at h;simp only[Except.error.injEq]at h;omega
   |some x =>
    obtain⟨t,to⟩:=x
    rw[hone]at h
    simp only at h
    cases hr:toks f L to with
    |error k=>rw[hr]at h;simp only[Except.error.injEq]at h;rw[← h];exact toks_bad f L to k hr
    |ok r=>rw[hr]at h;cases h
  ·rw[if_neg hp]at h;cases h

theorem tw_self {p:UInt8→Bool}:∀ {l:Bs},l.all p=true→l.takeWhile p=l
 |[],_=>rfl
 |x::l,h=>by
  simp only[List.all_cons,Bool.and_eq_true]at h
  rw[List.takeWhile_cons_of_pos h.1,tw_self h.2]

theorem tw_all (p:UInt8→Bool):∀l:Bs,(l.takeWhile p).all p=true
 |[]=>rfl
 |x::l=>by
  by_cases h:p x=true
  ·rw[List.takeWhile_cons_of_pos h,List.all_cons,h,tw_all p l];rfl
  ·rw[List.takeWhile_cons_of_neg h];rfl

theorem tw_take (p:UInt8→Bool):∀l:Bs,l.take (l.takeWhile p).length=l.takeWhile p
 |[]=>by simp
 |x::l=>by
  by_cases h:p x=true
  ·rw[List.takeWhile_cons_of_pos h,List.length_cons,List.take_succ_cons,tw_take p l]
  ·rw[List.takeWhile_cons_of_neg h];rfl

theorem cut_run (p:UInt8→Bool)(L:Bs)(i:Nat):cutB L i (runB p L i)=(L.drop i).takeWhile p:=by
 unfold cutB runB;rw[Nat.add_sub_cancel_left,tw_take]

theorem run_alone {p:UInt8→Bool}(h32:p 32=false){x:Bs}(hx:x.all p=true):runB p (x++[32]) 0=x.length:=by
 unfold runB;rw[List.drop_zero,tw_app h32,tw_self hx];omega
theorem cut_alone (x r:Bs):cutB (x++r) 0 x.length=x:=by unfold cutB;simp

theorem name_alone {kind:Int}{x:Bs}(h1:1≤x.length)(h2:x.length≤20):nameT (x++[32]) kind x 0 x.length=some (⟨kind,x,0,0,false⟩,x.length):=by
 unfold nameT
 rw[if_pos ⟨h1,h2⟩]
 have:opnB (x++[32]) x.length=false:=by unfold opnB;simp
 rw[this];rfl
def goodC (c:UInt8):Bool:=lowC c || grtC c || dgC c || mrkC c || sgnC c || decide (c.toNat=33) || decide (c.toNat=59) || decide (c.toNat=39)

theorem good_nb {c:UInt8}(h:goodC c=true):blkC c=false∧c.toNat≠37:=by
 have:=byte_all (p:=fun c=>!goodC c || (!blkC c && !decide (c.toNat=37))) (by decide +kernel) c
 simp only[h,Bool.not_true,Bool.false_or,Bool.and_eq_true,Bool.not_eq_true',decide_eq_false_iff_not]at this
 exact this

theorem tok_alone {x:Bs}{c:UInt8}{r:Bs}{u:Tk}(hx:x=c::r)(hg:goodC c=true)(hl:x.length≤3000)(h:oneT (x++[32]) 0=some (u,x.length)):tokT (x++[32])=([u],0,0):=by
 obtain⟨hb,h37⟩:=good_nb hg
 have hl2:(x++[32]).length=x.length+1:=by simp
 have h0:(x++[32])[0]? = some c:=by rw[hx];rfl
 have p0:passN (x++[32]) 0=0:=pass_stop h0 hb h37
 have p1:passN (x++[32]) x.length=x.length+1:=by
  unfold passN;simp[skipL,blkC]
 have ht:toks ((x++[32]).length+1) (x++[32]) 0=.ok [u]:=by
  rw[hl2]
  simp only[toks]
  rw[p0,hl2,if_pos (by omega),h]
  simp only
  rw[p1,if_neg (by omega)]
 unfold tokT
 rw[if_neg (by omega),ht]

theorem one_alone {L:Bs}{i:Nat}{t:Tk}{to:Nat}{c:UInt8}(h:oneT L i=some (t,to))(hc:L[i]? = some c)(h39:c.toNat≠39) :
  t.text=cutB L i to∧i+t.text.length=to∧goodC c=true∧(t.kind=5∨t.text=[46]∨oneT (t.text++[32]) 0=some (⟨t.kind,t.text,t.n,0,false⟩,t.text.length)):=by
 have hto:=oneT_to h
 have hi:=(List.getElem?_eq_some_iff.1 hc).1
 have he:=(List.getElem?_eq_some_iff.1 hc).2
 have hd:L.drop i=c::L.drop (i+1):=by rw[List.drop_eq_getElem_cons hi,he]
 have rl:=fun (p:UInt8→Bool)=>(runB_le (p:=p) (L:=L) (i:=i) (by omega))
 have head:∀p:UInt8→Bool,p c=true→cutB L i (runB p L i)=c::(L.drop (i+1)).takeWhile p:=fun p hp=>by
  rw[cut_run,hd,List.takeWhile_cons_of_pos hp]
 have first:∀ {x r:Bs},x=c::r→(x++[32])[0]? = some c:=fun h=>by rw[h];rfl
 have clen:∀p:UInt8→Bool,i+(cutB L i (runB p L i)).length=runB p L i:=fun p=>by
  rw[cutB_len (rl p).1 (rl p).2];have:=(rl p).1;omega
 unfold oneT at h
 rw[hc]at h
 simp only at h
 by_cases g1:lowC c=true
 ·rw [if_pos g1] at h
  obtain⟨rfl,rfl,l1,l2⟩:=nameT_to h
  have hf:folC c=true:=by simp[folC,g1]
  refine⟨rfl,clen folC,by simp[goodC,g1],.inr (.inr ?_)⟩
  simp only
  have hh:=head folC hf
  have hall:(cutB L i (runB folC L i)).all folC=true:=by rw[cut_run];exact tw_all _ _
  generalize cutB L i (runB folC L i)=x at *
  unfold oneT
  rw[first hh]
  simp only
  rw[if_pos g1,run_alone (by decide) hall,cut_alone,name_alone l1 l2]
 rw[if_neg g1]at h
 by_cases g2:grtC c=true
 ·rw [if_pos g2] at h
  obtain⟨rfl,rfl,l1,l2⟩:=nameT_to h
  have hf:folC c=true:=by simp[folC,g2]
  refine⟨rfl,clen folC,by simp[goodC,g2],.inr (.inr ?_)⟩
  simp only
  have hh:=head folC hf
  have hall:(cutB L i (runB folC L i)).all folC=true:=by rw[cut_run];exact tw_all _ _
  generalize cutB L i (runB folC L i)=x at *
  unfold oneT
  rw[first hh]
  simp only
  rw[if_neg g1,if_pos g2,run_alone (by decide) hall,cut_alone,name_alone l1 l2]
 rw[if_neg g2]at h
 by_cases g3:dgC c=true
 ·rw [if_pos g3] at h
  cases hn:numT (cutB L i (runB dgC L i)) with
  |none=>rw[hn]at h;cases h
  |some n =>
   rw[hn]at h
   cases h
   refine⟨rfl,clen dgC,by simp[goodC,g3],.inr (.inr ?_)⟩
   simp only
   have hh:=head dgC g3
   have hall:(cutB L i (runB dgC L i)).all dgC=true:=by rw[cut_run];exact tw_all _ _
   generalize cutB L i (runB dgC L i)=x at *
   unfold oneT
   rw[first hh]
   simp only
   rw[if_neg g1,if_neg g2,if_pos g3,run_alone (by decide) hall,cut_alone,hn]
   rfl
 rw[if_neg g3,if_neg h39]at h
 by_cases g5:c.toNat=91∧(L[i+1]?.map UInt8.toNat)=some 93
 ·rw [if_pos g5] at h
  obtain⟨rfl,rfl,l1,l2⟩:=nameT_to h
  have e91:c=91:=UInt8.toNat_inj.1 g5.1
  obtain⟨d,hdd,hd93⟩:∃d,L[i+1]? = some d∧d.toNat=93:=by
   have:=g5.2
   cases hx:L[i+1]? with
   |none=>rw[hx]at this;simp at this
   |some d=>rw[hx]at this;exact⟨d,rfl,by simpa using this⟩
  have e93:d=93:=UInt8.toNat_inj.1 hd93
  have hi1:=(List.getElem?_eq_some_iff.1 hdd).1
  have he1:=(List.getElem?_eq_some_iff.1 hdd).2
  have hd1:L.drop (i+1)=d::L.drop (i+1+1):=by rw[List.drop_eq_getElem_cons hi1,he1]
  refine⟨?_,rfl,by rw[e91];decide,.inr (.inr (by simp only;decide +kernel))⟩
  simp only
  unfold cutB
  rw[hd,hd1,e91,e93,Nat.add_sub_cancel_left];rfl
 rw[if_neg g5]at h
 have hc1:cutB L i (i+1)=[c]:=by unfold cutB;rw[hd,Nat.add_sub_cancel_left];rfl
 by_cases g6:c.toNat=33∨c.toNat=59
 ·rw [if_pos g6] at h
  obtain⟨rfl,rfl,l1,l2⟩:=nameT_to h
  refine⟨hc1.symm,rfl,by simp[goodC];omega,.inr (.inr ?_)⟩
  rcases g6 with g |g
  ·have e:c=33:=UInt8.toNat_inj.1 g
   subst e;simp only;decide +kernel
  ·have e:c=59:=UInt8.toNat_inj.1 g
   subst e;simp only;decide +kernel
 rw[if_neg g6]at h
 by_cases g7:mrkC c=true
 ·rw [if_pos g7] at h
  cases h
  refine⟨hc1.symm,rfl,by simp[goodC,g7],.inr (.inr ?_)⟩
  have:=byte_all (p:=fun c=>!mrkC c || decide (oneT ([c]++[32]) 0=some (⟨4,[c],0,0,false⟩,1))) (by decide +kernel) c
  rw[g7]at this
  simpa using this
 rw[if_neg g7]at h
 by_cases g8:runB sgnC L i=i+1∧c.toNat=46∧endAft L (i+1)=true
 ·rw [if_pos g8] at h
  cases h
  have e46:c=46:=UInt8.toNat_inj.1 g8.2.1
  exact⟨by rw[hc1,e46],rfl,by rw[e46];decide,.inl rfl⟩
 rw[if_neg g8]at h
 obtain⟨rfl,rfl,l1,l2⟩:=nameT_to h
 have hs:sgnC c=true:=by
  cases hs:sgnC c with
  |true=>rfl
  |false =>
   rw[cut_run,hd,List.takeWhile_cons_of_neg (by rw[hs];simp)]at l1
   simp at l1
 have n91:c.toNat≠91:=by
  have:=byte_all (p:=fun c=>!sgnC c || !decide (c.toNat=91)) (by decide +kernel) c
  rw[hs]at this;simpa using this
 refine⟨rfl,clen sgnC,by simp[goodC,hs],?_⟩
 simp only
 have hh:=head sgnC hs
 have hall:(cutB L i (runB sgnC L i)).all sgnC=true:=by rw[cut_run];exact tw_all _ _
 generalize cutB L i (runB sgnC L i)=x at *
 by_cases hdot:x=[46]
 ·exact .inr (.inl hdot)
 refine .inr (.inr ?_)
 unfold oneT
 rw[first hh]
 simp only
 rw[if_neg g1,if_neg g2,if_neg g3,if_neg h39,if_neg (fun g=>n91 g.1),if_neg g6,if_neg g7,run_alone (by decide) hall,if_neg,cut_alone,name_alone l1 l2]
 rintro⟨k1,k2,_⟩
 have e46:c=46:=UInt8.toNat_inj.1 k2
 apply hdot
 rw[hh,e46]at k1 ⊢
 simp only[List.length_cons]at k1
 rw[List.length_eq_zero_iff.1 (show ((L.drop (i+1)).takeWhile sgnC).length=0 by omega)]

theorem one_opn {L:Bs}{i:Nat}{t:Tk}{to:Nat}(h:oneT L i=some (t,to)):t.opn=true→t.kind≤2:=by
 intro ho
 have nm:∀ {kind:Int} {text:Bs} {e:Nat},kind≤2→nameT L kind text i e=some (t,to)→t.kind≤2:=fun hk h=>by
  obtain⟨_,rfl,_⟩:=nameT_to h;exact hk
 unfold oneT at h
 split at h
 ·cases h
 split at h
 ·exact nm (by decide) h
 split at h
 ·exact nm (by decide) h
 split at h
 ·rename_i c _ _ _ _
  cases hn:numT (cutB L i (runB dgC L i)) with
  |none=>rw[hn]at h;cases h
  |some n=>rw[hn]at h;cases h;cases ho
 split at h
 ·split at h
  ·exact nm (by decide) h
  ·cases h
 split at h
 ·exact nm (by decide) h
 split at h
 ·exact nm (by decide) h
 split at h
 ·cases h;cases ho
 split at h
 ·cases h;cases ho
 ·exact nm (by decide) h

structure PlaceT (L:Bs) (lo:Nat) (t:Tk):Prop where
 lo:(lo:Int)≤t.at_
 hi:t.at_<L.length
 opn:t.opn=true→t.kind≤2
 cut:∀c,L[t.at_.toNat]? = some c→c.toNat≠39→t.kind≠5→t.at_.toNat+t.text.length≤L.length∧cutB L t.at_.toNat (t.at_.toNat+t.text.length)=t.text∧(t.text≠[46]→L.length≤3000→tokT (t.text++[32])=([⟨t.kind,t.text,t.n,0,false⟩],0,0))

theorem toks_place:∀ (f:Nat) (L:Bs) (i:Nat) (l:List Tk),toks f L i=.ok l→(∀t∈l,PlaceT L i t)∧∀k t u,l[k]? = some t→l[k+1]? = some u→t.at_<u.at_
 |0,L,i,l,h=>by simp only[toks,Except.ok.injEq]at h;subst h;exact⟨by simp,by simp⟩
 |f+1,L,i,l,h=>by
  simp only[toks]at h
  by_cases hp:passN L i<L.length
  ·rw [if_pos hp] at h
   have hle:i≤passN L i:=by unfold passN;omega
   cases hone:oneT L (passN L i) with
   |none=>rw[hone]at h;cases h
   |some x =>
    obtain⟨t,to⟩:=x
    rw[hone]at h
    have hto:=oneT_to hone
    have hat:=oneT_at hone
    simp only at h
    cases hr:toks f L to with
    |error j=>rw[hr]at h;cases h
    |ok r =>
     rw[hr]at h
     simp only[Except.ok.injEq]at h
     subst h
     obtain⟨h1,h2⟩:=toks_place f L to r hr
     refine⟨fun u hu=>?_,fun k u v hu hv=>?_⟩
     ·rcases List.mem_cons.1 hu with e | e
      ·subst e
       refine⟨by omega,by omega,one_opn hone,fun c hc h39 h5=>?_⟩
       rw[hat,Int.toNat_natCast]at hc ⊢
       obtain⟨g1,g2,g3,g4⟩:=one_alone hone hc h39
       refine⟨by omega,by rw[g2,← g1],fun hd h3=>?_⟩
       rcases g4 with g4 |g4 |g4
       ·exact absurd g4 h5
       ·exact absurd g4 hd
       ·have hi:=(List.getElem?_eq_some_iff.1 hc).1
        have he:=(List.getElem?_eq_some_iff.1 hc).2
        have hx:∃r,u.text=c::r:=by
         rw[g1];unfold cutB
         rw[List.drop_eq_getElem_cons hi,he]
         obtain⟨n,hn⟩:∃n,to - passN L i=n+1:=⟨to - passN L i - 1,by omega⟩
         rw[hn];exact⟨_,rfl⟩
        obtain⟨r',hx⟩:=hx
        exact tok_alone hx g3 (by omega) g4
      ·have hq:=h1 u e
       exact⟨by have:=hq.lo;omega,hq.hi,hq.opn,hq.cut⟩
     ·cases k with
      |zero =>
       simp only[List.getElem?_cons_zero,Option.some.injEq,Nat.zero_add,List.getElem?_cons_succ]at hu hv
       subst hu
       have:=(h1 v (List.mem_iff_getElem?.2 ⟨0,hv⟩)).lo
       omega
      |succ k =>
       simp only[List.getElem?_cons_succ]at hu hv
       exact h2 k u v hu hv
  ·rw [if_neg hp] at h
   simp only[Except.ok.injEq]at h;subst h;exact⟨by simp,by simp⟩

structure RSt where
 at_:Nat
 names:List Bs
 bad:Int
 e:Int
 lay:Bool
 deriving DecidableEq
def zeroTk:Tk:=⟨0,[],0,0,false⟩
def plcR (L:List Tk)(n:Nat)(i:Nat):Int:=match L[i]? with |some t=>t.at_ |none=>n
def failR (L:List Tk)(n:Nat)(st:RSt)(c:Int):RSt:=if st.e=0 then { st with e:=c,bad:=plcR L n st.at_ } else st
def peekR (L:List Tk)(st:RSt):Tk:=if st.e≠0 then zeroTk else (L[st.at_]?).getD zeroTk
def nxR (st:RSt):RSt:={ st with at_:=st.at_+1 }
def isMk (t:Tk)(s:Bs):Bool:=decide (t.kind=4)&&(t.text==s)
def mustR (L:List Tk)(n:Nat)(st:RSt)(s:Bs):RSt:=if isMk (peekR L st) s then nxR st else failR L n st 2
def op700:List Bs:=[[61],[92,61],[61,61],[92,61,61],[64,60],[64,62],[64,61,60],[64,62,61],[105,115],[61,58,61],[61,92,61],[60],[62],[61,60],[62,61]]
def op500:List Bs:=[[43],[45]]
def op400:List Bs:=[[42],[47,47],[109,111,100]]
def opTab:List (Bs × Int × Int × Int):=[([58,45],1200,1199,1199),([59],1100,1099,1100),([45,62],1050,1049,1050),([44],1000,999,1000)]++op700.map (fun s=>(s,700,699,699))++op500.map (fun s=>(s,500,500,499))++op400.map (fun s=>(s,400,400,399))
def infT (s:Bs):Option (Int × Int × Int):=opTab.lookup s
def preT (s:Bs):Int:=if s=[92,43] then 900 else if s=[45] then 200 else 0
def inT (t:Tk):Option (Int × Int × Int):=if t.kind≠1∧(t.kind≠4∨t.text≠[44]) then none else infT t.text

def idxV:List Bs→Bs→Nat→Option Nat
 |[],_,_=>none
 |x::r,s,i=>if x=s then some i else idxV r s (i+1)

def varR (st:RSt)(s:Bs):Int × RSt:=match (if s=[95] then none else idxV st.names s 0) with
 |some i=>(i,st)
 |none=>(st.names.length,{ st with names:=st.names++[if s=[95] then [] else s] })

def mkR (st:RSt):RSt:={ st with lay:=true }
def inS (L:List Tk)(st:RSt):RSt:=if (peekR L st).kind≠1∧((peekR L st).kind≠4∨(peekR L st).text≠[44]) then st else mkR st
def begS (L:List Tk)(st:RSt):RSt:=if (peekR L st).kind=1 then mkR st else st

def begR (L:List Tk)(st:RSt):Bool :=
 let t:=peekR L st
 decide (t.kind=3) || decide (t.kind=2) || (decide (t.kind=4)&&(t.text==[40] || t.text==[91])) || (decide (t.kind=1)&&(infT t.text).isNone)
def fnT (s:Bs)(l:List Tm):Tm:=.mk 3 (Tx s) 0 l
def nmT (n:Int):Tm:=.mk 2 ByteArray.empty n []
abbrev TF:=Nat→Int→RSt→Option (Tm × RSt)

def manyR (L:List Tk) (T:TF):Nat→Nat→RSt→List Tm→Option (List Tm × RSt)
 |0,_,_,_=>none
 |f+1,deep,st,acc=>if isMk (peekR L st) [44] then (T deep 999 (nxR st)).bind fun x=>manyR L T f deep x.2 (acc++[x.1]) else some (acc,st)
def rowR (L:List Tk)(T:TF)(deep:Nat)(st:RSt):Option (List Tm × RSt):=(T deep 999 st).bind fun x=>manyR L T (L.length+2) deep x.2 [x.1]
def minR (S:Bs)(t next:Tk):Bool:=(t.text==[45])&&decide (S[t.at_.toNat]? = some 45)&&decide (next.kind=3)&&decide (next.at_=t.at_+1)

def namedR (S:Bs)(L:List Tk)(T:TF)(deep:Nat)(p:Int)(t:Tk)(st:RSt):Option (Tm × Int × RSt) :=
 if minR S t (peekR L (nxR st)) then some (nmT (-(peekR L (nxR st)).n),0,nxR (nxR st))
 else if t.opn then (rowR L T deep (mustR L S.length (nxR st) [40])).map fun x=>(fnT t.text x.1,0,mustR L S.length x.2 [41])
 else if 0<preT t.text then (
  if begR L (nxR st) then (if preT t.text > p then some (zeroT,0,failR L S.length { begS L (nxR st) with at_:=st.at_ } 2) else (T deep (preT t.text) (begS L (nxR st))).map fun x=>(fnT t.text [x.1],preT t.text,x.2))
  else some (fnT t.text [],0,begS L (nxR st)))
 else some (fnT t.text [],0,nxR st)
def consT (l:List Tm)(t:Tm):Tm:=l.foldr (fun x t=>fnT [46] [x,t]) t

def listR (S:Bs)(L:List Tk)(T:TF)(deep:Nat)(st:RSt):Option (Tm × RSt) :=
 (rowR L T deep st).bind fun x =>
  if isMk (peekR L x.2) [124] then (T deep 999 (nxR x.2)).map fun y=>(consT x.1 y.1,mustR L S.length y.2 [93])
  else some (consT x.1 (fnT [91,93] []),mustR L S.length x.2 [93])

def opndR (sw:Bool)(S:Bs)(L:List Tk)(T:TF)(deep:Nat)(p:Int)(st:RSt):Option (Tm × Int × RSt) :=
 if 1000≤deep then some (zeroT,0,failR L S.length st 3)
 else if (peekR L st).kind=3 then some (nmT (peekR L st).n,0,nxR st)
 else if (peekR L st).kind=2 then some (Tm.vT (varR (nxR st) (peekR L st).text).1,0,(varR (nxR st) (peekR L st).text).2)
 else if (peekR L st).kind=1 then (namedR S L T (deep+1) p (peekR L st) st).map fun x=>if sw&&decide (x.2.2.e≠0) then (zeroT,0,x.2.2) else x
 else if isMk (peekR L st) [40] then (T (deep+1) 1200 (nxR st)).map fun x=>(x.1,0,mustR L S.length x.2 [41])
 else if isMk (peekR L st) [91] then (listR S L T (deep+1) (nxR st)).map fun x=>(x.1,0,x.2)
 else some (zeroT,0,failR L S.length st 2)

def restR (L:List Tk) (T:TF):Nat→Nat→Int→Tm→Int→RSt→Option (Tm × RSt)
 |0,_,_,_,_,_=>none
 |f+1,deep,p,out,now,st =>
  if st.e≠0 then some (out,st)
  else match inT (peekR L st) with
   |none=>some (out,inS L st)
   |some (q,l,r)=>if q > p∨now > l then some (out,inS L st) else (T deep r (nxR (inS L st))).bind fun x=>restR L T f deep p (fnT (peekR L st).text [out,x.1]) q x.2

def termR (sw:Bool) (S:Bs) (L:List Tk):Nat→TF
 |0,_,_,_=>none
 |n+1,deep,p,st=>(opndR sw S L (termR sw S L n) deep p st).bind fun x=>restR L (termR sw S L n) (L.length+2) deep p x.1 x.2.1 x.2.2
end PSL

namespace Go.Proofs.YtcgkgofmldhokaaGreat
open Go PSL Go.Proofs
def u8A (c:UInt8):AV:=.d (.v (.int .u8 c.toNat))
def txA (L:Bs):AV:=.d (.v (.string (Tx L)))
theorem bvEq {a b:Bool}(h:a=true↔b=true):bV a=bV b:=by rw[Bool.eq_iff_iff.2 h]
theorem bvT {b:Bool}(h:b=true):AV.d (.v (.bool true))=bV b:=by rw[h];rfl
theorem bvF {b:Bool}(h:b=false):AV.d (.v (.bool false))=bV b:=by rw[h];rfl

theorem low_ok (c:UInt8):PCtr Tryz.prog 136 [u8A c] (bV (lowC c)):=by
 refine PCtr.of_R (pf:=fun _=>.still) tyOk mixed Tryz.func136 rfl (by kernel_rfl) (by kernel_rfl) (by simp[Tryz.ntmps136]) fun w S hg=>?_
 refine R_k hg.ok rfl rfl ?_
 refine R_if rfl rfl (fun h=>?_) (fun h=>?_)<;>refine R_k hg.ok rfl rfl ?_
 ·have h:=of_decide_eq_true h
  refine R_ret hg 5 rfl rfl ?_
  exact bvEq (by simp[lowC];omega)
 ·have h:=of_decide_eq_false h
  refine R_ret hg 5 rfl rfl ?_
  exact bvF (by simp[lowC];omega)

theorem digit_ok (c:UInt8):PCtr Tryz.prog 140 [u8A c] (bV (dgC c)):=by
 refine PCtr.of_R (pf:=fun _=>.still) tyOk mixed Tryz.func140 rfl (by kernel_rfl) (by kernel_rfl) (by simp[Tryz.ntmps140]) fun w S hg=>?_
 refine R_k hg.ok rfl rfl ?_
 refine R_if rfl rfl (fun h=>?_) (fun h=>?_)<;>refine R_k hg.ok rfl rfl ?_
 ·have h:=of_decide_eq_true h
  refine R_ret hg 5 rfl rfl ?_
  exact bvEq (by simp[dgC];omega)
 ·have h:=of_decide_eq_false h
  refine R_ret hg 5 rfl rfl ?_
  exact bvF (by simp[dgC];omega)

theorem great_ok (c:UInt8):PCtr Tryz.prog 137 [u8A c] (bV (grtC c)):=by
 refine PCtr.of_R (pf:=fun _=>.still) tyOk mixed Tryz.func137 rfl (by kernel_rfl) (by kernel_rfl) (by simp[Tryz.ntmps137]) fun w S hg=>?_
 refine R_k hg.ok rfl rfl ?_
 refine R_if rfl rfl (fun h=>?_) (fun h=>?_)<;>refine R_k hg.ok rfl rfl ?_
 ·have h:=of_decide_eq_true h
  refine R_if rfl rfl (fun h2=>?_) (fun h2=>?_)<;>refine R_k hg.ok rfl rfl ?_
  ·have h2:=of_decide_eq_true h2
   refine R_ret hg 5 rfl rfl ?_
   exact bvT (by simp[grtC];omega)
  ·have h2:=of_decide_eq_false h2
   refine R_ret hg 5 rfl rfl ?_
   exact bvEq (by simp[grtC];omega)
 ·have h:=of_decide_eq_false h
  refine R_ret hg 5 rfl rfl ?_
  exact bvEq (by simp[grtC];omega)

theorem blank_ok (c:UInt8):PCtr Tryz.prog 133 [u8A c] (bV (blkC c)):=by
 refine PCtr.of_R (pf:=fun _=>.still) tyOk mixed Tryz.func133 rfl (by kernel_rfl) (by kernel_rfl) (by simp[Tryz.ntmps133]) fun w S hg=>?_
 refine R_k hg.ok rfl rfl ?_
 refine R_if rfl rfl (fun h=>?_) (fun h=>?_)<;>refine R_k hg.ok rfl rfl ?_
 ·refine R_ret hg 5 rfl rfl ?_
  exact bvT (by simp at h;simp[blkC];omega)
 refine R_if rfl rfl (fun h2=>?_) (fun h2=>?_)<;>refine R_k hg.ok rfl rfl ?_
 ·refine R_ret hg 5 rfl rfl ?_
  exact bvT (by simp at h2;simp[blkC];omega)
 ·refine R_ret hg 5 rfl rfl ?_
  exact bvEq (by simp at h h2;simp[blkC];omega)

theorem follows_ok (c:UInt8):PCtr Tryz.prog 138 [u8A c] (bV (folC c)):=by
 refine PCtr.of_R (pf:=fun _=>.still) tyOk mixed Tryz.func138 rfl (by kernel_rfl) (by kernel_rfl) (by simp[Tryz.ntmps138]) fun w S hg=>?_
 refine R_k hg.ok rfl rfl ?_
 refine R_call hg.ok (digit_ok c) rfl rfl rfl rfl rfl rfl ?_
 refine R_k hg.ok rfl rfl ?_
 refine R_if rfl rfl (fun h=>?_) (fun h=>?_)<;>refine R_k hg.ok rfl rfl ?_
 ·refine R_ret hg 5 rfl rfl ?_
  exact bvT (by simp[folC,h])
 refine R_call hg.ok (low_ok c) rfl rfl rfl rfl rfl rfl ?_
 refine R_k hg.ok rfl rfl ?_
 refine R_if rfl rfl (fun h2=>?_) (fun h2=>?_)<;>refine R_k hg.ok rfl rfl ?_
 ·refine R_ret hg 5 rfl rfl ?_
  exact bvT (by simp[folC,h2])
 refine R_call hg.ok (great_ok c) rfl rfl rfl rfl rfl rfl ?_
 refine R_k hg.ok rfl rfl ?_
 refine R_ret hg 5 rfl rfl ?_
 exact bvEq (by simp[folC,h,h2])

theorem w8 (c:UInt8):IntKind.u8.wrap (c.toNat:Int)=c.toNat:=by
 have:=c.toNat_lt
 simp[IntKind.wrap,IntKind.signed,IntKind.bits];omega

theorem decode_ascii {L:Bs}{i:Nat}{c:UInt8}(h:L[i]? = some c)(hc:c.toNat<128):Utf8.decode (Tx L) i=(c.toNat,1):=by
 have hl:=(List.getElem?_eq_some_iff.1 h).1
 have e:(Tx L).get! (i+0)=c:=by
  show (Tx L).data[i]! = c
  have:=(List.getElem?_eq_some_iff.1 h).2
  simp[Tx,hl,this]
 unfold Utf8.decode
 simp only[e]
 rw[if_pos (by omega)]

theorem among_ok (R:Bs)(hR:R.all (fun c=>decide (c.toNat<128))=true)(c:UInt8):PCtr Tryz.prog 143 [txA R,u8A c] (bV (R.contains c)):=by
 refine PCtr.of_R (pf:=fun _=>.eff) tyOk mixed Tryz.func143 rfl (by kernel_rfl) (by kernel_rfl) (by simp[Tryz.ntmps143]) fun w S hg=>?_
 refine R_k hg.ok rfl rfl ?_
 refine R_rangeS hg.ok rfl rfl rfl rfl ?_
 refine R_k hg.ok rfl rfl ?_
 refine R_loop (fun k:Nat=>([(1,u8A c),(8,.lo 0 0)],[.itr (Tx R) k])) (fun k=>k≤R.length∧R.contains c=(R.drop k).contains c) (fun k=>R.length - k) 0 ⟨Nat.zero_le _,by simp⟩ ⟨.refl _,.refl _,trivial⟩ rfl ?_
 rintro k ⟨hk,hm⟩
 refine R_k hg.ok rfl rfl ?_
 by_cases hk1:k<R.length
 ·have e1:R[k]? = some R[k]:=List.getElem?_eq_getElem hk1
  have ha:R[k].toNat<128:=by simpa using List.all_eq_true.1 hR _ (List.getElem_mem hk1)
  rw[List.drop_eq_getElem_cons hk1,List.contains_cons]at hm
  refine R_nextS hg.ok rfl rfl rfl rfl (by rw[Tx_size];exact hk1) (decode_ascii e1 ha) ?_
  refine R_k hg.ok rfl rfl ?_
  rw[w8 R[k]]
  refine R_if rfl rfl (fun h=>?_) (fun h=>?_)<;>refine R_k hg.ok rfl rfl ?_
  ·refine R_ret hg 5 rfl rfl ?_
   refine bvT ?_
   have h:R[k]=c:=UInt8.toNat_inj.1 (by simp at h;omega)
   rw[hm,h];simp
  ·refine R_next (k+1) ⟨hk1,?_⟩ (by omega) ⟨.refl _,.refl _,trivial⟩ rfl
   have h:¬ R[k]=c:=fun e=>by rw[e]at h;simp at h
   rw[hm,show (c==R[k])=false by simp;exact fun e=>h e.symm,Bool.false_or]
 ·refine R_nextE hg.ok rfl rfl rfl rfl (by rw [Tx_size]; omega) ?_
  refine R_k hg.ok rfl rfl ?_
  refine R_ret hg 5 rfl rfl ?_
  rw[hm,List.drop_eq_nil_of_le (by omega)];rfl

theorem sign1_ok (c:UInt8):PCtr Tryz.prog 144 [u8A c] (bV (sgnC c)):=by
 have h:=among_ok sgnL (by decide) c
 refine PCtr.of_R (pf:=fun _=>.still) tyOk mixed Tryz.func144 rfl (by kernel_rfl) (by kernel_rfl) (by simp[Tryz.ntmps144]) fun w S hg=>?_
 refine R_k hg.ok rfl rfl ?_
 refine R_call hg.ok (h) rfl rfl rfl rfl rfl rfl ?_
 refine R_k hg.ok rfl rfl ?_
 refine R_ret hg 5 rfl rfl ?_
 rfl

theorem line_ok (c:UInt8):PCtr Tryz.prog 135 [u8A c] (bV (!decide (c.toNat=10))):=by
 refine PCtr.of_R (pf:=fun _=>.still) tyOk mixed Tryz.func135 rfl (by kernel_rfl) (by kernel_rfl) (by simp[Tryz.ntmps135]) fun w S hg=>?_
 refine R_k hg.ok rfl rfl ?_
 refine R_ret hg 5 rfl rfl ?_
 exact bvEq (by simp;omega)
def cutO (L:Bs)(i:Nat):List Ob:=[.box [txA L,iV i]]

theorem run_walk (Y:YP)(f:Nat)(p:UInt8→Bool)(hp:∀c,PCtr Tryz.prog f [u8A c] (bV (p c)))(L:Bs)(j i:Nat)(hi:i≤L.length)(hL:L.length≤9000):SCtr Tryz.prog Y 134 [.lo 0 0,iV i,.clo f [] []] (cutO L j) (iV (runB p L i)) (cutO L j):=by
 refine SCtr.of_R (pf:=fun _=>.eff) tyOk mixed Tryz.func134 rfl (by kernel_rfl) (by kernel_rfl) (by simp[Tryz.ntmps134]) (by simp[cutO]) fun w S φ hg=>?_
 have hφ:φ.length=1:=hg.hs0.len
 refine R_k hg.ok rfl rfl ?_
 refine R_loop (fun k:Nat=>([(0,.lo 0 0),(1,iV k),(2,.clo f [] [])],cutO L j)) (fun k=>k≤L.length∧runB p L i=runB p L k) (fun k=>L.length - k) i ⟨hi,rfl⟩ ⟨.refl _,.refl _,.refl _,trivial⟩ rfl ?_
 rintro k ⟨hk,hm⟩
 refine R_k hg.ok rfl rfl ?_
 refine R_if rfl rfl (fun h=>?_) (fun h=>?_)<;>refine R_k hg.ok rfl rfl ?_
 ·have hk1:k<L.length:=lt_dec h (by rw [Tx_size])
  have e1:L[k]? = some L[k]:=List.getElem?_eq_getElem hk1
  refine R_indexS hg.ok rfl rfl rfl rfl rfl (Int.natCast_nonneg k) (b:=L[k]) (by rw[Tx_get];exact e1) ?_
  refine R_k hg.ok rfl rfl ?_
  refine R_call hg.ok (hp L[k]) rfl rfl rfl rfl rfl rfl ?_
  refine R_k hg.ok rfl rfl ?_
  refine R_if rfl rfl (fun h2=>?_) (fun h2=>?_)<;>refine R_k hg.ok rfl rfl ?_
  ·exact R_next (k+1) ⟨hk1,by rw[hm,runB_step e1 h2]⟩ (by omega) ⟨.refl _,Ent.wrap (by omega) (by omega) (by omega),.refl _,trivial⟩ rfl
  ·rw [hm,runB_stop e1 h2]
   exact R_retS hg 1 5 (Nat.le_refl _) rfl rfl rfl
 ·have hk1:L.length≤k:=ge_dec h (by rw [Tx_size])
  rw[hm,runB_end hk1]
  exact R_retS hg 1 5 (Nat.le_refl _) rfl rfl rfl

theorem pass_walk (Y:YP)(L:Bs)(i:Nat)(hi:i≤L.length)(hL:L.length≤9000):SCtr Tryz.prog Y 115 [.lo 0 0] (cutO L i) (.tup []) (cutO L (passN L i)):=by
 refine SCtr.of_R (pf:=fun _=>.eff) tyOk mixed Tryz.func115 rfl (by kernel_rfl) (by kernel_rfl) (by simp[Tryz.ntmps115]) (by simp[cutO]) fun w S φ hg=>?_
 have hφ:φ.length=1:=hg.hs0.len
 refine R_k hg.ok rfl rfl ?_
 refine R_loop (fun k:Nat=>([(0,.lo 0 0)],cutO L k)) (fun k=>k≤L.length∧passN L i=passN L k) (fun k=>L.length - k) i ⟨hi,rfl⟩ ⟨.refl _,trivial⟩ rfl ?_
 rintro k ⟨hk,hm⟩
 refine R_k hg.ok rfl rfl ?_
 refine R_if rfl rfl (fun h=>?_) (fun h=>?_)<;>refine R_k hg.ok rfl rfl ?_
 ·have hk1:k<L.length:=lt_dec h (by rw [Tx_size])
  have e1:L[k]? = some L[k]:=List.getElem?_eq_getElem hk1
  refine R_indexS hg.ok rfl rfl rfl rfl rfl (Int.natCast_nonneg k) (b:=L[k]) (by rw[Tx_get];exact e1) ?_
  refine R_k hg.ok rfl rfl ?_
  refine R_call hg.ok (blank_ok L[k]) rfl rfl rfl rfl rfl rfl ?_
  refine R_k hg.ok rfl rfl ?_
  refine R_if rfl rfl (fun h2=>?_) (fun h2=>?_)<;>refine R_k hg.ok rfl rfl ?_
  ·rw [w64 (n:=(k:Int)+1) (by omega) (by omega)]
   exact R_next (k+1) ⟨hk1,by rw[hm,pass_blank e1 h2]⟩ (by omega) ⟨.refl _,trivial⟩ rfl
  ·refine R_indexS hg.ok rfl rfl rfl rfl rfl (Int.natCast_nonneg k) (b:=L[k]) (by rw [Tx_get]; exact e1) ?_
   refine R_k hg.ok rfl rfl ?_
   refine R_if rfl rfl (fun h3=>?_) (fun h3=>?_)<;>refine R_k hg.ok rfl rfl ?_
   ·have h3:L[k].toNat=37:=by simp at h3; omega
    obtain⟨g1,g2⟩:=pass_line e1 h3
    have g3:=(runB_le (p:=nlC) (L:=L) (i:=k) (by omega)).2
    have hcall:=run_walk Y 135 nlC line_ok L k k hk hL
    refine R_callSO hg.ok hg.gup hg.wide hg.Y [0] (cutO L k) hcall (fun _=>rfl) rfl rfl rfl rfl rfl rfl rfl rfl ?_
    refine R_k hg.ok rfl rfl ?_
    exact R_next (runB nlC L k) ⟨g3,by rw[hm,g1]⟩ (by omega) ⟨.refl _,trivial⟩ rfl
   ·have h3:¬ L[k].toNat=37:=by simp at h3; omega
    rw[hm,pass_stop e1 h2 h3]
    exact R_retS hg 1 5 (Nat.le_refl _) rfl rfl rfl
 ·have hk1:L.length≤k:=ge_dec h (by rw [Tx_size])
  rw[hm,pass_end hk1]
  exact R_endS hg 1 5 (Nat.le_refl _) rfl rfl rfl
def tkD (t:Tk):List D:=[.v (.int .i64 t.kind),.v (.string (Tx t.text)),.v (.int .i64 t.n),.v (.int .i64 t.at_),.v (.bool t.opn)]
def tkA (t:Tk):AV:=.agg [.d (.v (.int .i64 t.kind)),.d (.v (.string (Tx t.text))),.d (.v (.int .i64 t.n)),.d (.v (.int .i64 t.at_)),.d (.v (.bool t.opn))]
def namB (text:Bs):Bool:=decide (1≤text.length)&&decide (text.length≤20)
def pfNamed:Nat→Cls:=fun f=>bif Nat.beq f 4000200008 then .turn 101 else bif Nat.beq f 4000300035 then .look 102 else bif Nat.beq f 4000300039 then .look 102 else .eff

theorem named_walk (Y:YP)(L:Bs)(i:Nat)(kind:Int)(text:Bs)(to:Nat)(hto:to≤L.length)(hL:L.length≤9000)(hi:i≤9000):SCtr Tryz.prog Y 139 [.lo 0 0,iV kind,txA text,iV to] (cutO L i) (.tup [tkA ⟨kind,text,0,i,opnB L to⟩,iV to,bV (namB text)]) (cutO L i):=by
 refine SCtr.of_R (pf:=pfNamed) tyOk mixed Tryz.func139 rfl (by kernel_rfl) (by kernel_rfl) (by simp[Tryz.ntmps139]) (by simp[cutO]) fun w S φ hg=>?_
 have hφ:φ.length=1:=hg.hs0.len
 refine R_k hg.ok rfl rfl ?_
 refine R_if rfl rfl (fun h=>?_) (fun h=>?_)<;>refine R_k hg.ok rfl rfl ?_
 ·have hk1:to<L.length:=lt_dec h (by rw [Tx_size])
  have e1:L[to]? = some L[to]:=List.getElem?_eq_getElem hk1
  have ho:(((L[to].toNat:Int))==40)=opnB L to:=by
   rw[opnB,e1,Bool.eq_iff_iff,beq_iff_eq,decide_eq_true_eq];omega
  refine R_indexS hg.ok rfl rfl rfl rfl rfl (Int.natCast_nonneg to) (b:=L[to]) (by rw[Tx_get];exact e1) ?_
  refine R_k hg.ok rfl rfl ?_
  rw[ho]
  refine R_lenStr hg.ok rfl rfl rfl rfl (n:=(text.length:Int)) (by rw[Tx_size]) ?_
  refine R_k hg.ok rfl rfl ?_
  refine R_if rfl rfl (fun h2=>?_) (fun h2=>?_)<;>refine R_k hg.ok rfl rfl ?_
  ·refine R_lenStr hg.ok rfl rfl rfl rfl (n:=(text.length:Int)) (by rw [Tx_size]) ?_
   refine R_k hg.ok rfl rfl ?_
   refine R_storeJ hg.ok rfl rfl rfl rfl rfl rfl rfl rfl rfl ?_
   refine R_k hg.ok rfl rfl ?_
   rw[show decide ((text.length:Int)≤20)=namB text by rw[namB,decide_eq_true (by have:=of_decide_eq_true h2;omega:1≤text.length),Bool.true_and,Bool.eq_iff_iff,decide_eq_true_eq,decide_eq_true_eq];omega]
   exact R_retS hg 1 5 (Nat.le_refl _) rfl rfl rfl
  ·refine R_storeJ hg.ok rfl rfl rfl rfl rfl rfl rfl rfl rfl ?_
   refine R_k hg.ok rfl rfl ?_
   rw[show namB text=false by rw[namB,decide_eq_false (by have:=of_decide_eq_false h2;omega:¬ 1≤text.length),Bool.false_and]]
   exact R_retS hg 1 5 (Nat.le_refl _) rfl rfl rfl
 ·have hk1:L.length≤to:=ge_dec h (by rw [Tx_size])
  have ho:opnB L to=false:=by rw[opnB,List.getElem?_eq_none hk1]
  rw[ho]
  refine R_lenStr hg.ok rfl rfl rfl rfl (n:=(text.length:Int)) (by rw[Tx_size]) ?_
  refine R_k hg.ok rfl rfl ?_
  refine R_if rfl rfl (fun h2=>?_) (fun h2=>?_)<;>refine R_k hg.ok rfl rfl ?_
  ·refine R_lenStr hg.ok rfl rfl rfl rfl (n:=(text.length:Int)) (by rw [Tx_size]) ?_
   refine R_k hg.ok rfl rfl ?_
   refine R_storeJ hg.ok rfl rfl rfl rfl rfl rfl rfl rfl rfl ?_
   refine R_k hg.ok rfl rfl ?_
   rw[show decide ((text.length:Int)≤20)=namB text by rw[namB,decide_eq_true (by have:=of_decide_eq_true h2;omega:1≤text.length),Bool.true_and,Bool.eq_iff_iff,decide_eq_true_eq,decide_eq_true_eq];omega]
   exact R_retS hg 1 5 (Nat.le_refl _) rfl rfl rfl
  ·refine R_storeJ hg.ok rfl rfl rfl rfl rfl rfl rfl rfl rfl ?_
   refine R_k hg.ok rfl rfl ?_
   rw[show namB text=false by rw[namB,decide_eq_false (by have:=of_decide_eq_false h2;omega:¬ 1≤text.length),Bool.false_and]]
   exact R_retS hg 1 5 (Nat.le_refl _) rfl rfl rfl

def quoR (L:Bs)(i:Nat):Bs × Nat × Bool:=match quo (L.drop (i+1)) with
 |some (t,k)=>(t,i+1+k,true)
 |none=>([],0,false)
theorem byRows_snoc (l:Bs)(c:UInt8):byRows l++[[.v (.int .u8 c.toNat)]]=byRows (l++[c]):=by simp[byRows]
theorem byRows_len (l:Bs):(byRows l).length=l.length:=by simp[byRows]

theorem quoted_walk (Y:YP)(L:Bs)(i:Nat)(hi:i<L.length)(hL:L.length≤9000):SCtr Tryz.prog Y 142 [.lo 0 0] (cutO L i) (.tup [txA (quoR L i).1,iV (quoR L i).2.1,bV (quoR L i).2.2]) (cutO L i):=by
 refine SCtr.of_R (pf:=fun _=>.eff) tyOk mixed Tryz.func142 rfl (by kernel_rfl) (by kernel_rfl) (by simp[Tryz.ntmps142]) (by simp[cutO]) fun w S φ hg=>?_
 have hφ:φ.length=1:=hg.hs0.len
 have bad:quo (L.drop (i+1))=none→AV.tup [.d (.v (.string ByteArray.empty)),iV 0,.d (.v (.bool false))]=.tup [txA (quoR L i).1,iV (quoR L i).2.1,bV (quoR L i).2.2]:=fun h=>by
  unfold quoR;rw[h];rfl
 refine R_k hg.ok rfl rfl ?_
 rw[w64 (n:=(i:Int)+1) (by omega) (by omega),show (i:Int)+1=((i+1:Nat):Int) by omega]
 refine R_own 5 1 rfl rfl ?_
 refine R_loop (fun x:Nat × Bs=>([(0,.lo 0 0),(5,.ow 1 x.2.length),(6,iV x.1)],cutO L i++[.arr 1 x.2.length (byRows x.2)])) (fun x=>i+1≤x.1∧x.1≤L.length∧x.2.length≤x.1∧quo (L.drop (i+1))=(quo (L.drop x.1)).map fun y=>(x.2++y.1,y.2+(x.1 - (i+1)))) (fun x=>L.length - x.1) (i+1,[]) ⟨Nat.le_refl _,hi,Nat.zero_le _,by simp⟩ ⟨.refl _,.refl _,.refl _,trivial⟩ rfl ?_
 rintro⟨k,out⟩ ⟨hk0,hk,ho,hm⟩
 simp only at hk0 hk ho hm
 refine R_k hg.ok rfl rfl ?_
 refine R_if rfl rfl (fun h=>?_) (fun h=>?_)<;>refine R_k hg.ok rfl rfl ?_
 ·have hk1:k<L.length:=lt_dec h (by rw [Tx_size])
  have e1:L[k]? = some L[k]:=List.getElem?_eq_getElem hk1
  rw[List.drop_eq_getElem_cons hk1]at hm
  refine R_indexS hg.ok rfl rfl rfl rfl rfl (Int.natCast_nonneg k) (b:=L[k]) (by rw[Tx_get];exact e1) ?_
  generalize L[k]=x at hm e1
  refine R_k hg.ok rfl rfl ?_
  refine R_if rfl rfl (fun g1=>?_) (fun g1=>?_)<;>refine R_k hg.ok rfl rfl ?_
  ·have g1:¬ x.toNat=39:=by simp at g1; omega
   refine R_if rfl rfl (fun g2=>?_) (fun g2=>?_)<;>refine R_k hg.ok rfl rfl ?_
   ·have g2:=of_decide_eq_true g2
    rw[← bad (by rw[hm,quo_bad (.inl (by omega))];rfl)]
    exact R_retS hg 1 5 (Nat.le_refl _) rfl rfl rfl
   have g2:=of_decide_eq_false g2
   refine R_if rfl rfl (fun g3=>?_) (fun g3=>?_)<;>refine R_k hg.ok rfl rfl ?_
   ·have g3:=of_decide_eq_true g3
    rw[← bad (by rw[hm,quo_bad (.inr (by omega))];rfl)]
    exact R_retS hg 1 5 (Nat.le_refl _) rfl rfl rfl
   have g3:=of_decide_eq_false g3
   refine R_if rfl rfl (fun _=>?_) (fun h=>absurd h (by simp;omega))<;>refine R_k hg.ok rfl rfl ?_
   refine R_appendO hg.ok (byRows (out++[x])) rfl rfl rfl rfl rfl rfl rfl rfl rfl (by simp) (by simp[one1]) (byRows_snoc out x) (by rw[byRows_len];simp;omega) (by rw[byRows_len];simp;omega) ?_
   refine R_k hg.ok rfl rfl ?_
   refine R_next (k+1,out++[x]) ⟨by simp only;omega,hk1,by simp;omega,?_⟩ (by simp only;omega) ⟨.refl _,by simp only[List.length_append,List.length_singleton];exact .refl _,Ent.wrap (by simp only;omega) (by simp only;omega) (by simp only;omega),trivial⟩ (by simp only[List.length_append,List.length_singleton];rfl)
   simp only
   rw[hm,quo_any (by omega) g1,Option.map_map]
   congr 1
   funext y
   simp;omega
  ·have g1:x.toNat=39:=by simp at g1; omega
   refine R_if rfl rfl (fun h=>absurd h (by simp;omega)) (fun _=>?_)<;>refine R_k hg.ok rfl rfl ?_
   rw[w64 (n:=(k:Int)+1) (by omega) (by omega),show (k:Int)+1=((k+1:Nat):Int) by omega]
   have last:(∀d,(L.drop (k+1))[0]? = some d→d.toNat≠39)→quoR L i=(out,k+1,true):=fun h=>by
    unfold quoR
    rw[hm,quo_one g1 h]
    simp;omega
   refine R_if rfl rfl (fun g2=>?_) (fun g2=>?_)
   ·refine R_run hg.ok 1000 rfl rfl ?_
    have hk2:k+1<L.length:=lt_dec g2 (by rw[Tx_size])
    have e2:L[k+1]? = some L[k+1]:=List.getElem?_eq_getElem hk2
    rw[w64 (n:=(k:Int)+1) (by omega) (by omega),show (k:Int)+1=((k+1:Nat):Int) by omega]
    refine R_indexS hg.ok rfl rfl rfl rfl rfl (Int.natCast_nonneg (k+1)) (b:=L[k+1]) (by rw[Tx_get];exact e2) ?_
    refine R_k hg.ok rfl rfl ?_
    refine R_if rfl rfl (fun g3=>?_) (fun g3=>?_)
    ·refine R_run hg.ok 1000 rfl rfl ?_
     have g3:L[k+1].toNat=39:=by simp at g3;omega
     have g4:L[k+1]=39:=UInt8.toNat_inj.1 g3
     rw[List.drop_eq_getElem_cons hk2,quo_two g1 g3]at hm
     refine R_appendO hg.ok (byRows (out++[39])) rfl rfl rfl rfl rfl rfl rfl rfl rfl (by simp) (by simp[one1]) (byRows_snoc out 39) (by rw[byRows_len];simp;omega) (by rw[byRows_len];simp;omega) ?_
     refine R_k hg.ok rfl rfl ?_
     rw[w64 (n:=(k:Int)+1) (by omega) (by omega)]
     refine R_next (k+2,out++[39]) ⟨by simp only;omega,hk2,by simp;omega,?_⟩ (by simp only;omega) ⟨.refl _,by simp only[List.length_append,List.length_singleton];exact .refl _,Ent.wrap (by simp only;omega) (by simp only;omega) (by simp only;omega),trivial⟩ (by simp only[List.length_append,List.length_singleton];rfl)
     simp only
     rw[hm,Option.map_map]
     congr 1
     funext y
     simp;omega
    ·have g3:¬ L[k+1].toNat=39:=by simp at g3; omega
     refine R_run hg.ok 1 rfl rfl ?_
     refine R_freezeO hg.gup 1 [(0,.lo 0 0),(5,.d (.sl (byRows out))),(6,iV k)] [.box [txA L,iV i],.dead] rfl rfl ⟨.refl _,Ent.frz 1 out.length (byRows out),.refl _,trivial⟩ ⟨⟨.refl _,.refl _,trivial⟩,by simp[ObIn],trivial⟩ ?_
     refine R_k hg.ok rfl rfl ?_
     refine R_convD hg.ok out rfl rfl rfl rfl rfl rfl ?_
     refine R_k hg.ok rfl rfl ?_
     rw[w64 (n:=(k:Int)+1) (by omega) (by omega),show (k:Int)+1=((k+1:Nat):Int) by omega,last (fun d hd=>by rw[List.getElem?_drop]at hd;simp only[Nat.add_zero]at hd;rw[e2]at hd;cases hd;exact g3)]
     exact R_retS hg 1 5 (Nat.le_refl _) rfl rfl rfl
   ·refine R_run hg.ok 2 rfl rfl ?_
    have hk2:L.length≤k+1:=ge_dec g2 (by rw[Tx_size])
    refine R_freezeO hg.gup 1 [(0,.lo 0 0),(5,.d (.sl (byRows out))),(6,iV k)] [.box [txA L,iV i],.dead] rfl rfl ⟨.refl _,Ent.frz 1 out.length (byRows out),.refl _,trivial⟩ ⟨⟨.refl _,.refl _,trivial⟩,by simp[ObIn],trivial⟩ ?_
    refine R_k hg.ok rfl rfl ?_
    refine R_convD hg.ok out rfl rfl rfl rfl rfl rfl ?_
    refine R_k hg.ok rfl rfl ?_
    rw[w64 (n:=(k:Int)+1) (by omega) (by omega),show (k:Int)+1=((k+1:Nat):Int) by omega,last (fun d hd=>by rw[List.drop_eq_nil_of_le hk2]at hd;simp at hd)]
    exact R_retS hg 1 5 (Nat.le_refl _) rfl rfl rfl
 ·have hk1:L.length≤k:=ge_dec h (by rw [Tx_size])
  rw[List.drop_eq_nil_of_le hk1]at hm
  rw[← bad (by rw[hm];rfl)]
  exact R_retS hg 1 5 (Nat.le_refl _) rfl rfl rfl

def numP (D:Bs):Nat × Bool:=match numT D with
 |some n=>(n,true)
 |none=>(0,false)

theorem w8sub {c:UInt8}(h:dgC c=true):IntKind.u8.wrap ((c.toNat:Int) - 48)=((c.toNat - 48:Nat):Int):=by
 have h1:=c.toNat_lt
 simp only[dgC,Bool.and_eq_true,decide_eq_true_eq]at h
 simp[IntKind.wrap,IntKind.signed,IntKind.bits];omega

theorem number_ok (D:Bs)(hd:D.all dgC=true)(hl:D.length≤9000):PCtr Tryz.prog 141 [txA D] (.tup [iV (numP D).1,bV (numP D).2]):=by
 have bad:numT D=none→AV.tup [iV 0,.d (.v (.bool false))]=.tup [iV (numP D).1,bV (numP D).2]:=fun h=>by unfold numP;rw[h];rfl
 have ok:∀n:Nat,numT D=some n→AV.tup [iV n,.d (.v (.bool true))]=.tup [iV (numP D).1,bV (numP D).2]:=fun n h=>by unfold numP;rw[h];rfl
 refine PCtr.of_R (pf:=fun _=>.still) tyOk mixed Tryz.func141 rfl (by kernel_rfl) (by kernel_rfl) (by simp[Tryz.ntmps141]) fun w S hg=>?_
 refine R_k hg.ok rfl rfl ?_
 by_cases h0:1<D.length∧(D[0]?.map UInt8.toNat)=some 48
 ·have hb:=bad (by unfold numT; rw [if_pos (.inl h0)])
  have e0:D[0]? = some D[0]:=List.getElem?_eq_getElem (by omega)
  have h48:D[0].toNat=48:=by have:=h0.2;rw[e0]at this;simpa using this
  refine R_if rfl rfl (fun _=>?_) (fun h=>absurd h (by simp[Tx_size];omega))<;>refine R_k hg.ok rfl rfl ?_
  refine R_indexS hg.ok rfl rfl rfl rfl rfl (by decide) (b:=D[0]) (by rw[Tx_get];exact e0) ?_
  refine R_k hg.ok rfl rfl ?_
  refine R_if rfl rfl (fun _=>?_) (fun h=>absurd h (by simp;omega))<;>refine R_k hg.ok rfl rfl ?_
  refine R_ret hg 5 rfl rfl ?_
  exact hb
 refine R_if rfl rfl (fun h1=>?_) (fun h1=>?_)<;>refine R_k hg.ok rfl rfl ?_
 all_goals
  try
   have h1:1<D.length:=by have:=of_decide_eq_true h1;rw[Tx_size]at this;omega
   have e0:D[0]? = some D[0]:=List.getElem?_eq_getElem (by omega)
   have h48:¬ D[0].toNat=48:=fun e=>h0 ⟨h1,by rw[e0];simp[e]⟩
   refine R_indexS hg.ok rfl rfl rfl rfl rfl (by decide) (b:=D[0]) (by rw[Tx_get];exact e0) ?_
   refine R_k hg.ok rfl rfl ?_
   refine R_if rfl rfl (fun h=>absurd h (by simp;omega)) (fun _=>?_)<;>refine R_k hg.ok rfl rfl ?_
 all_goals
  refine R_loop (fun x:Nat × Nat=>([(0,txA D),(4,iV x.2),(16,iV D.length),(17,iV x.1)],[])) (fun x=>x.1≤D.length∧x.2=valN 0 (D.take x.1)∧x.2≤9223372036854775807) (fun x=>D.length - x.1) (0,0) ⟨Nat.zero_le _,rfl,by simp⟩ ⟨.refl _,.refl _,Ent.int (by rw[Tx_size]),.refl _,trivial⟩ rfl ?_
  rintro⟨k,n⟩ ⟨hk,hn,hb⟩
  simp only at hk hn hb
  refine R_k hg.ok rfl rfl ?_
  refine R_if rfl rfl (fun h=>?_) (fun h=>?_)<;>refine R_k hg.ok rfl rfl ?_
  ·have hk1:k<D.length:=lt_dec h rfl
   have e1:D[k]? = some D[k]:=List.getElem?_eq_getElem hk1
   have hdk:dgC D[k]=true:=List.all_eq_true.1 hd _ (List.getElem_mem hk1)
   have htk:D.take (k+1)=D.take k++[D[k]]:=by rw[List.take_add_one,e1];rfl
   have hv:valN 0 (D.take (k+1))=10 * n+(D[k].toNat - 48):=by rw[htk,valN_snoc,hn]
   have hmono:valN 0 (D.take (k+1))≤valN 0 D:=by
    have:=valN_mono (D.take (k+1)) (D.drop (k+1))
    rwa [List.take_append_drop]at this
   have hd9:D[k].toNat - 48≤9:=by simp only[dgC,Bool.and_eq_true,decide_eq_true_eq]at hdk;omega
   refine R_indexS hg.ok rfl rfl rfl rfl rfl (Int.natCast_nonneg k) (b:=D[k]) (by rw[Tx_get];exact e1) ?_
   refine R_k hg.ok rfl rfl ?_
   rw[w8sub hdk]
   generalize D[k].toNat - 48=d at hv hd9
   rw[w64 (n:=((d:Nat):Int)) (by omega) (by omega),w64 (n:=9223372036854775807 - (d:Int)) (by omega) (by omega)]
   refine R_quo hg.ok rfl rfl rfl rfl (by decide) ?_
   refine R_k hg.ok rfl rfl ?_
   rw[Int.tdiv_eq_ediv_of_nonneg (by omega),w64 (n:=(9223372036854775807 - (d:Int)) / 10) (by omega) (by omega)]
   refine R_if rfl rfl (fun h2=>?_) (fun h2=>?_)<;>refine R_k hg.ok rfl rfl ?_
   ·have h2:=of_decide_eq_true h2
    refine R_ret hg 5 rfl rfl ?_
    refine bad ?_
    unfold numT
    rw[if_pos (.inr (by omega))]
   ·have h2:=of_decide_eq_false h2
    rw[w64 (n:=10 * (n:Int)) (by omega) (by omega),w64 (n:=10 * (n:Int)+(d:Int)) (by omega) (by omega),show 10 * (n:Int)+(d:Int)=((10 * n+d:Nat):Int) by omega]
    exact R_next (k+1,10 * n+d) ⟨hk1,hv.symm,by simp only;omega⟩ (by simp only;omega) ⟨.refl _,.refl _,.refl _,Ent.wrap (by simp only;omega) (by simp only;omega) (by simp only;omega),trivial⟩ rfl
  ·have hk1:D.length≤k:=ge_dec h rfl
   rw[List.take_of_length_le hk1]at hn
   refine R_ret hg 5 rfl rfl ?_
   refine ok n ?_
   unfold numT
   rw[if_neg (by rw[← hn];rintro(g |g);exact h0 g;omega),hn]
end Go.Proofs.YtcgkgofmldhokaaGreat
