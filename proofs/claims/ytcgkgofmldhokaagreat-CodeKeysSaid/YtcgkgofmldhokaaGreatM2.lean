import Derived.Test.YtcgkgofmldhokaaGreatM1
import Derived.ProofKit
import Derived.SizedLaws
import Derived.ChangeSame
import Derived.JoinedOf
import Derived.Laws.LoneSync
import Derived.Laws.BytesString
import Derived.Test.YtcgkgofmldhokaaGreatSTy
import Derived.Test.YtcgkgofmldhokaaGreatRows
namespace PSL
open Go Go.RowKit Go.ChangeShapes Go.WideShapes

def HasFs (H:Nat→List D→Prop) (ty:Nat→Option Ty):List (Nat × Nat)→List D→Prop
 | [],row=>row=[]
 | (_,t)::fs,row=>∃ (τ:Ty) (a b:List D),ty t=some τ∧row=a++b∧a.length=τ.size∧H t a∧HasFs H ty fs b

def HasTy (ty:Nat→Option Ty) (B:Nat):Nat→Nat→List D→Prop
 | 0,_,_=>False
 | n+1,t,row=>match ty t with
  | none=>False
  | some τ=>match τ.sh with
   | .int k=>∃ m,row=[.v (.int k m)]∧k.min≤m∧m≤k.max
   | .bool=>∃ b,row=[.v (.bool b)]
   | .str=>∃ s:ByteArray,row=[.v (.string s)]∧s.size≤B
   | .struct flds=>HasFs (HasTy ty B n) ty flds row
   | .slice e=>∃ rows:List (List D),row=[.sl rows]∧(∀ τ,ty e=some τ→rows.length * τ.bytes≤B)∧∀ r∈rows,HasTy ty B n e r
   | _=>False

def contig (ty:Nat→Option Ty) (size:Nat):List (Nat × Nat)→Nat→Bool
 | [],o=>o==size
 | (f,t)::fs,o=>match ty t with
  | some τ=>f==o&&contig ty size fs (o+τ.size)
  | none=>false

def dT (ty:Nat→Option Ty) (L:List Nat) (t:Nat):Bool :=
 match ty t with
 | some τ=>match τ.sh with
  | .int _=>true
  | .bool=>true
  | .str=>true
  | .struct flds=>flds.all (fun f=>L.contains f.2)&&contig ty τ.size flds 0
  | .slice e=>L.contains e&&match ty e with | some τ'=>decide (0<τ'.size) | none=>false
  | _=>false
 | none=>false
section
variable {H:Type} {enc:TypeId × Value→H} {P:Program} {w:World} {base:Nat} {held:Bool} {ty:Nat→Option Ty}

theorem cellsOf_ty (hty:TyOk P ty) {t:Nat} {τ:Ty} (h:ty t=some τ):P.cellsOf t=τ.size:=by
 obtain ⟨i,z,h1,_,h3,_⟩:=(hty t τ h).info
 simp [Program.cellsOf,h1,h3]
theorem und_ty (hty:TyOk P ty) {t:Nat} {τ:Ty} (h:ty t=some τ):ShFact P t τ.sh:=(hty t τ h).sh

theorem weightsAll_mem {P:Program} {e:TypeId} {d:DataW H} {m:Nat}:∀ {l:List (DataW H)},d∈l→m∈d.weights P e→m∈DataW.weightsAll P e l
 | x::l,h,hm=>by
  simp only [DataW.weightsAll,List.mem_append]
  rcases List.mem_cons.1 h with rfl | h
  ·exact .inl hm
  ·exact .inr (weightsAll_mem h hm)

theorem choose_lt {α:Type} [Inhabited α] {n:Nat} {p:Nat→α→Prop} (h:∀ i,i<n→∃ x,p i x):∃ f:Nat→α,∀ i,i<n→p i (f i):=by
 classical
 refine ⟨fun i=>if hi:i<n then Classical.choose (h i hi) else default,fun i hi=>?_⟩
 simp only [dif_pos hi]
 exact Classical.choose_spec (h i hi)

theorem trod_rd (hty:TyOk P ty) {L:List Nat} (hL:∀ t∈L,dT ty L t=true) (B:Nat):∀ (n t:Nat) (τ:Ty) (cs:List Value) (x:DataW H × List MemPlace),t∈L→DataW.trod enc P w base (fun _=>true) held n t cs=some x→ty t=some τ→(∀ m∈x.1.weights P t,m≤B) →
  ∃ row,cs.length=τ.size∧row.length=τ.size∧HasTy ty B n t row∧∀ (j:Nat) (d:D),row[j]? = some d→∃ v,cs[j]? = some v∧Rd (fun _=>True) w d v
 | 0,_,_,_,_,_,h,_,_=>by simp [DataW.trod] at h
 | n+1,t,τ,cs,x,htL,h,hτ,hwt=>by
  have hd:=hL t htL
  have hsh:=und_ty hty hτ
  have h1:=(hty t τ hτ).one
  unfold dT at hd
  rw [hτ] at hd
  simp only at hd
  have one:∀ (d:D) (v:Value),τ.size=1→cs=[v]→Rd (fun _=>True) w d v→HasTy ty B (n+1) t [d]→∃ row,cs.length=τ.size∧row.length=τ.size∧HasTy ty B (n+1) t row∧∀ (j:Nat) (d:D),row[j]? = some d→∃ v,cs[j]? = some v∧Rd (fun _=>True) w d v:=by
   intro d v hs hcs hr hh
   refine ⟨[d],by rw [hcs,hs]; rfl,by rw [hs]; rfl,hh,fun j d' hj=>?_⟩
   match j,hj with
   | 0,hj=>simp at hj; subst hj; exact ⟨v,by rw [hcs]; rfl,hr⟩
  cases hs:τ.sh with
  | one=>rw [hs] at hd; cases hd
  | int k =>
   rw [hs] at hsh; simp only [ShFact] at hsh
   obtain ⟨m,hcs,hx,hwf⟩:=DataW.trod_int hsh h
   refine one (.v (.int k m)) _ (h1 (by unfold Ty.agg; rw [hs])) hcs (.v _) ?_
   simp only [HasTy,hτ,hs]
   simp only [Lit.wf,Bool.and_eq_true,decide_eq_true_eq] at hwf
   exact ⟨m,rfl,hwf⟩
  | bool =>
   rw [hs] at hsh; simp only [ShFact] at hsh
   obtain ⟨b,hcs,hx⟩:=DataW.trod_bool hsh h
   refine one (.v (.bool b)) _ (h1 (by unfold Ty.agg; rw [hs])) hcs (.v _) ?_
   simp only [HasTy,hτ,hs]
   exact ⟨b,rfl⟩
  | str =>
   rw [hs] at hsh; simp only [ShFact] at hsh
   obtain ⟨s,hcs,hx,hwf⟩:=DataW.trod_string hsh h
   refine one (.v (.string s)) _ (h1 (by unfold Ty.agg; rw [hs])) hcs (.v _) ?_
   simp only [HasTy,hτ,hs]
   subst hx
   exact ⟨s,rfl,by simpa using hwt s.data.toList.length (by simp [DataW.weights])⟩
  | struct flds =>
   rw [hs] at hsh hd; simp only [ShFact] at hsh
   simp only [Bool.and_eq_true,List.all_eq_true,List.contains_iff_mem] at hd
   obtain ⟨fs,hu,hfl,_⟩:=hsh
   obtain ⟨xs,n',hn,hx,hcl,hxl,hall⟩:=DataW.trod_struct hu h
   cases hn
   rw [cellsOf_ty hty hτ] at hcl
   have hmem:∀ f∈flds,∃ x,DataW.trod enc P w base (fun _=>true) held n f.2 ((cs.drop f.1).take (P.cellsOf f.2))=some x∧∀ m∈x.1.weights P f.2,m≤B:=by
    intro f hf
    rw [← hfl] at hf
    obtain ⟨fl,hfl',rfl⟩:=List.mem_map.1 hf
    obtain ⟨i,hi,hii⟩:=List.mem_iff_getElem.1 hfl'
    have e1:fs[i]? = some fl:=by rw [← Array.getElem?_toList,List.getElem?_eq_getElem hi,hii]
    have hix:i<xs.length:=by rw [hxl]; simpa using hi
    refine ⟨xs[i],by rw [hall i fl e1]; exact List.getElem?_eq_getElem hix,fun m hm=>hwt m ?_⟩
    rw [hx]
    simp only [DataW.weights,hu]
    exact DataW.weights_mem_each (j:=i) (by rw [List.getElem?_map,List.getElem?_eq_getElem hi,hii]; rfl) (by rw [List.getElem?_map,List.getElem?_eq_getElem hix]; rfl) m hm
   have hind:∀ (t:Nat) (τ:Ty) (l:List Value) (x:DataW H × List MemPlace),t∈L→DataW.trod enc P w base (fun _=>true) held n t l=some x→ty t=some τ→(∀ m∈x.1.weights P t,m≤B)→∃ row,l.length=τ.size∧row.length=τ.size∧HasTy ty B n t row∧∀ (j:Nat) (d:D),row[j]? = some d→∃ v,l[j]? = some v∧Rd (fun _=>True) w d v :=
    fun t τ l x ht h h' h''=>trod_rd hty hL B n t τ l x ht h h' h''
   obtain ⟨row,g1,g2,g3⟩:∃ row,0+row.length=τ.size∧HasFs (HasTy ty B n) ty flds row∧∀ (j:Nat) (d:D),row[j]? = some d→∃ v,cs[0+j]? = some v∧Rd (fun _=>True) w d v:=by
    have key:∀ (fs:List (Nat × Nat)) (o:Nat),(∀ f∈fs,f.2∈L)→contig ty τ.size fs o=true→(∀ f∈fs,∃ x,DataW.trod enc P w base (fun _=>true) held n f.2 ((cs.drop f.1).take (P.cellsOf f.2))=some x∧∀ m∈x.1.weights P f.2,m≤B) →
      ∃ row,o+row.length=τ.size∧HasFs (HasTy ty B n) ty fs row∧∀ (j:Nat) (d:D),row[j]? = some d→∃ v,cs[o+j]? = some v∧Rd (fun _=>True) w d v:=by
     intro fs
     induction fs with
     | nil=>intro o _ hc _; simp only [contig,beq_iff_eq] at hc; exact ⟨[],by simpa using hc,rfl,by simp⟩
     | cons ft fs ih =>
      obtain ⟨f,t⟩:=ft
      intro o hm hc hf
      simp only [contig] at hc
      split at hc
      case h_2=>cases hc
      rename_i τ' hτ'
      simp only [Bool.and_eq_true,beq_iff_eq] at hc
      obtain ⟨rfl,hc⟩:=hc
      obtain ⟨row2,h1,h2,h3⟩:=ih (f+τ'.size) (fun g hg=>hm g (List.mem_cons_of_mem _ hg)) hc fun g hg=>hf g (List.mem_cons_of_mem _ hg)
      obtain ⟨x,hx,hxw⟩:=hf (f,t) (List.mem_cons_self ..)
      obtain ⟨row1,g1,g2,g3,g4⟩:=hind t τ' _ x (hm (f,t) (List.mem_cons_self ..)) hx hτ' hxw
      rw [cellsOf_ty hty hτ'] at g1 g4
      refine ⟨row1++row2,by rw [List.length_append]; omega,⟨τ',row1,row2,hτ',rfl,g2,g3,h2⟩,fun j d hj=>?_⟩
      by_cases hlt:j<row1.length
      ·rw [List.getElem?_append_left hlt] at hj
       obtain ⟨v,g5,g6⟩:=g4 j d hj
       rw [List.getElem?_take_of_lt (by omega),List.getElem?_drop] at g5
       exact ⟨v,g5,g6⟩
      ·rw [List.getElem?_append_right (by omega)] at hj
       obtain ⟨v,g5,g6⟩:=h3 _ d hj
       exact ⟨v,by rw [show f+j=f+τ'.size+(j - row1.length) by omega]; exact g5,g6⟩
    exact key flds 0 hd.1 hd.2 hmem
   refine ⟨row,hcl,by omega,?_,fun j d hj=>by simpa using g3 j d hj⟩
   simp only [HasTy,hτ,hs]; exact g2
  | array m e=>rw [hs] at hd; cases hd
  | map k e=>rw [hs] at hd; cases hd
  | slice e =>
   rw [hs] at hsh hd; simp only [ShFact] at hsh
   simp only [Bool.and_eq_true,List.contains_iff_mem] at hd
   obtain ⟨heL,hd⟩:=hd
   split at hd
   case h_2=>cases hd
   rename_i τe hτe
   have hpos:=of_decide_eq_true hd
   have hsz:=h1 (by unfold Ty.agg; rw [hs])
   rcases DataW.trod_slice hsh h with ⟨hcs,_⟩ | ⟨a,len,cap,elems,rest,n',hn,hcs,hx,hb,hl,hm,hlen,hel,hsp,_⟩
   ·refine one (.sl []) _ hsz hcs (.nil _ _) ?_
    simp only [HasTy,hτ,hs]
    exact ⟨[],rfl,fun _ _=>by simp,by simp⟩
   ·cases hn
    rcases Nat.eq_zero_or_pos len with h0 | h0
    ·subst h0
     refine one (.sl []) _ hsz hcs (.nil _ _) ?_
     simp only [HasTy,hτ,hs]
     exact ⟨[],rfl,fun _ _=>by simp,by simp⟩
    have hce:=cellsOf_ty hty hτe
    have hrow:∀ i,i<len→∃ row:List D,∃ l:List Value,w.cells? base (a.add (i * τe.size)) τe.size=some l∧l.length=τe.size∧row.length=τe.size∧HasTy ty B n e row∧∀ (j:Nat) (d:D),row[j]? = some d→∃ v,l[j]? = some v∧Rd (fun _=>True) w d v:=by
     intro i hi
     have h2:=hel i hi
     rw [hce] at h2
     have h3:elems[i]? = some elems[i]:=List.getElem?_eq_getElem (by omega)
     rw [h3] at h2
     obtain ⟨l,h4,h5⟩:=Option.bind_eq_some_iff.1 h2
     obtain ⟨row,g1,g2,g3,g4⟩:=trod_rd hty hL B n e τe l _ heL h5 hτe fun m hm=>hwt m (by
      rw [hx]; simp only [DataW.weights,hsh,List.mem_cons,List.mem_append]
      exact .inr (.inl (weightsAll_mem (List.mem_map.2 ⟨elems[i],List.getElem_mem _,rfl⟩) hm)))
     exact ⟨row,l,h4,g1,g2,g3,g4⟩
    obtain ⟨R,hR⟩:=choose_lt hrow
    obtain ⟨V,hV⟩:=choose_lt (fun i hi=>hR i hi)
    obtain ⟨b,o,sp⟩:=a
    have hcell:∀ i,i<len→∀ j,j<τe.size→w.cell? ((⟨b,o,sp⟩:Addr).add (i * τe.size) |>.add j)=(V i)[j]? := fun i hi j hj=>(World.cells?_some (hV i hi).1).2.2 j hj
    have h00:=hcell 0 h0 0 hpos
    simp only [Nat.zero_mul,Addr.add,if_true] at h00
    have hv0:(V 0)[0]? = some ((V 0)[0]'(by rw [(hV 0 h0).2.1]; exact hpos)):=List.getElem?_eq_getElem _
    rw [hv0] at h00
    simp only [World.cell?] at h00
    split at h00
    case h_2=>cases h00
    rename_i c T fr hheap
    split at h00
    ·cases h00
    rename_i hsp0
    have:sp=none:=by cases sp with
     | none=>rfl
     | some s=>simp at hsp0
    subst this
    have hcell':∀ i,i<len→∀ j,j<τe.size→c[o+i * τe.size+j]? = (V i)[j]? := fun i hi j hj=>by
     have h2:=hcell i hi j hj
     rw [add_none,add_none] at h2
     simp only [World.cell?,hheap] at h2
     simpa using h2
    refine one (.sl ((List.range len).map R)) _ hsz hcs ?_ ?_
    ·have key:=Rd.sl (S:=fun _=>True) (w:=w) (rows:=(List.range len).map R) (b:=b) (o:=o) (cap:=cap) (sz:=τe.size) (cs:=c) (T:=T) (fr:=fr) (fun i j=>((V i)[j]?).getD undef) trivial hheap (by simpa using hl) hm
      (fun i r hi=>?_) (fun i r j x hi hj=>?_) (fun i r j x hi hj=>?_)
     ·simpa using key
     ·have hlt:=(List.getElem?_eq_some_iff.1 hi).1
      simp at hlt
      rw [List.getElem?_map,List.getElem?_range hlt] at hi
      simp at hi; subst hi; exact (hV i hlt).2.2.1
     ·have hlt:=(List.getElem?_eq_some_iff.1 hi).1
      simp at hlt
      rw [List.getElem?_map,List.getElem?_range hlt] at hi
      simp at hi; subst hi
      obtain ⟨v,g1,_⟩:=(hV i hlt).2.2.2.2 j x hj
      have hjl:=(List.getElem?_eq_some_iff.1 hj).1
      rw [(hV i hlt).2.2.1] at hjl
      rw [hcell' i hlt j hjl,g1]; rfl
     ·have hlt:=(List.getElem?_eq_some_iff.1 hi).1
      simp at hlt
      rw [List.getElem?_map,List.getElem?_range hlt] at hi
      simp at hi; subst hi
      obtain ⟨v,g1,g2⟩:=(hV i hlt).2.2.2.2 j x hj
      rw [g1]; exact g2
    ·simp only [HasTy,hτ,hs]
     refine ⟨_,rfl,fun τ' hτ'=>?_,fun r hr=>?_⟩
     ·rw [hτe] at hτ'; cases hτ'
      have h2:=hwt ((elems.length+rest.length) * P.bytesOf e) (by rw [hx]; simp [DataW.weights,hsh])
      have h3:P.bytesOf e=τe.bytes:=by
       obtain ⟨i,z,h1,_,_,h4,_⟩:=(hty e τe hτe).info
       simp [Program.bytesOf,h1,h4]
      rw [h3,hlen,Nat.add_mul] at h2
      simp; omega
     obtain ⟨i,hi,rfl⟩:=List.mem_map.1 hr
     exact (hV i (List.mem_range.1 hi)).2.2.2.1
end
end PSL
namespace PSL
open Go Go.RowKit Go.ChangeShapes Go.WideShapes Go.ChangeAt

def avOf (τ:Ty) (row:List D):AV :=
 match τ.agg with
 | true=>.agg (row.map .d)
 | false=>match row with
  | [x]=>.d x
  | _=>.any

def ArgsAre (ty:Nat→Option Ty) (B:Nat):List Nat→List AV→Prop
 | [],[]=>True
 | t::ts,a::axs=>(∃ (n:Nat) (τ:Ty) (row:List D),ty t=some τ∧HasTy ty B n t row∧row.length=τ.size∧a=avOf τ row)∧ArgsAre ty B ts axs
 | _,_=>False
section
variable {H:Type} {enc:TypeId × Value→H} {P:Program} {ty:Nat→Option Ty}

theorem rvs_ds {S:Nat→Prop} {w:World} {φ:List Phy} {row:List D} {cs:List Value} (hl:row.length=cs.length) (h:∀ (j:Nat) (d:D),row[j]? = some d→∃ v,cs[j]? = some v∧Rd S w d v):RVs S w φ (row.map .d) cs :=
 RVs.of_get (by simpa using hl) fun i x v hx hv=>by
  rw [List.getElem?_map] at hx
  cases hr:row[i]? with
  | none=>rw [hr] at hx; cases hx
  | some d =>
   rw [hr] at hx; simp at hx; subst hx
   obtain ⟨v',h1,h2⟩:=h i d hr
   rw [hv] at h1; cases h1
   simpa only [RV] using h2

theorem open_arg (hty:TyOk P ty) {L:List Nat} (hL:∀ t∈L,dT ty L t=true) {B:Nat} {W:World} {base t:Nat} {τ:Ty} {v:Value} {d:DataW H} {ps:List MemPlace} (ht:t∈L) (hτ:ty t=some τ)
  (hok:Value.okWide P W .any base t v) (h:DataW.Trod enc P W 0 (fun _=>true) true t v d ps) (hw:∀ m∈d.weights P t,m≤B) :
  ∃ (n:Nat) (row:List D),HasTy ty B n t row∧row.length=τ.size∧RV (fun _=>True) W [] (avOf τ row) v:=by
 obtain ⟨n,hn⟩:=h
 obtain ⟨row,h1,h2,h3,h4⟩:=trod_rd hty hL B n t τ _ _ ht hn hτ hw
 refine ⟨n,row,h3,h2,?_⟩
 have hd:=hL t ht
 have hsh:=(hty t τ hτ).sh
 have hone:=(hty t τ hτ).one
 unfold dT at hd
 rw [hτ] at hd
 simp only at hd
 have single:(∃ c,v.cells.toList=[c]∧v=c)→τ.agg=false→RV (fun _=>True) W [] (avOf τ row) v:=by
  rintro ⟨c,hc,rfl⟩ ha
  unfold avOf
  rw [ha]
  have hs:=hone ha
  match row,h2 with
  | [x],_ =>
   simp only
   obtain ⟨v',h5,h6⟩:=h4 0 x rfl
   rw [hc] at h5; simp at h5; subst h5
   simpa only [RV] using h6
  | [],h=>rw [hs] at h; simp at h
  | _::_::_,h=>rw [hs] at h; simp at h
 cases hs:τ.sh with
 | one=>rw [hs] at hd; cases hd
 | array m e=>rw [hs] at hd; cases hd
 | map k e=>rw [hs] at hd; cases hd
 | int k =>
  rw [hs] at hsh; simp only [ShFact] at hsh
  obtain ⟨m,rfl⟩:=okWide_int hsh hok
  exact single ⟨_,rfl,rfl⟩ (by unfold Ty.agg; rw [hs])
 | bool =>
  rw [hs] at hsh; simp only [ShFact] at hsh
  obtain ⟨m,rfl⟩:=okWide_bool hsh hok
  exact single ⟨_,rfl,rfl⟩ (by unfold Ty.agg; rw [hs])
 | str =>
  rw [hs] at hsh; simp only [ShFact] at hsh
  obtain ⟨m,rfl⟩:=okWide_string hsh hok
  exact single ⟨_,rfl,rfl⟩ (by unfold Ty.agg; rw [hs])
 | slice e =>
  rw [hs] at hsh; simp only [ShFact] at hsh
  obtain ⟨a,l,c,rfl⟩:=okWide_slice hsh hok
  exact single ⟨_,rfl,rfl⟩ (by unfold Ty.agg; rw [hs])
 | struct flds =>
  rw [hs] at hsh; simp only [ShFact] at hsh
  obtain ⟨fs,hu,_⟩:=hsh
  obtain ⟨cs,rfl,_⟩:=okWide_struct hu hok
  have ha:τ.agg=true:=by unfold Ty.agg; rw [hs]
  unfold avOf
  rw [ha]
  simp only [Value.cells] at h1 h4
  simp only [RV]
  exact ⟨cs.toList,by simp,rvs_ds (by rw [h1,h2]) h4⟩

theorem open_args (hty:TyOk P ty) {L:List Nat} (hL:∀ t∈L,dT ty L t=true) {B:Nat} {W:World} {base:Nat}:∀ (ts:List Nat) (vs:List Value) (ds:List (DataW H)) (ps:List MemPlace),(∀ t∈ts,t∈L∧(ty t).isSome=true)→DataW.TrodAll enc P W 0 (fun _=>true) true ts vs ds ps →
  (∀ (j:Nat) (t:Nat) (v:Value),ts[j]? = some t→vs[j]? = some v→Value.okWide P W .any base t v)→(∀ m∈DataW.weightsEach P ts ds,m≤B)→∃ axs,RVs (fun _=>True) W [] axs vs∧ArgsAre ty B ts axs∧ds.length=ts.length
 | [],[],[],_,_,_,_,_=>⟨[],by simp [RVs],trivial,rfl⟩
 | [],_::_,_,_,_,h,_,_=>by simp [DataW.TrodAll] at h
 | [],[],_::_,_,_,h,_,_=>by simp [DataW.TrodAll] at h
 | _::_,[],_,_,_,h,_,_=>by simp [DataW.TrodAll] at h
 | _::_,_::_,[],_,_,h,_,_=>by simp [DataW.TrodAll] at h
 | t::ts,v::vs,d::ds,ps,hl,h,hok,hw=>by
  simp only [DataW.TrodAll] at h
  obtain ⟨p,q,h1,h2,rfl⟩:=h
  obtain ⟨htL,htS⟩:=hl t (by simp)
  obtain ⟨τ,hτ⟩:=Option.isSome_iff_exists.1 htS
  simp only [DataW.weightsEach,List.mem_append] at hw
  obtain ⟨n,row,h3,h4,h5⟩:=open_arg hty hL htL hτ (hok 0 t v rfl rfl) h1 fun m hm=>hw m (.inl hm)
  obtain ⟨axs,h6,h7,h8⟩:=open_args hty hL ts vs ds q (fun t ht=>hl t (by simp [ht])) h2 (fun j t v ht hv=>hok (j+1) t v (by simpa using ht) (by simpa using hv)) fun m hm=>hw m (.inr hm)
  exact ⟨avOf τ row::axs,by simp only [RVs]; exact ⟨h5,h6⟩,⟨⟨n,τ,row,hτ,h3,h4,rfl⟩,h7⟩,by simp [h8]⟩

theorem trodAll_stays (hl:laidOutB P=true) {W W':World} (hb:Below W.heap.size W W') {sp:Nat→Bool}:∀ (ts:List Nat) (vs:List Value) (ds:List (DataW H)) (ps:List MemPlace),(∀ t∈ts,P.readableRec t=true∧t<P.types.size)→DataW.TrodAll enc P W 0 (fun _=>true) true ts vs ds ps →
  (∀ p∈ps,p.block<W.heap.size∧sp p.block=true)→DataW.TrodAll enc P W' 0 sp true ts vs ds ps
 | [],[],[],_,_,h,_=>h
 | [],_::_,_,_,_,h,_=>by simp [DataW.TrodAll] at h
 | [],[],_::_,_,_,h,_=>by simp [DataW.TrodAll] at h
 | _::_,[],_,_,_,h,_=>by simp [DataW.TrodAll] at h
 | _::_,_::_,[],_,_,h,_=>by simp [DataW.TrodAll] at h
 | t::ts,v::vs,d::ds,ps,hr,h,hp=>by
  simp only [DataW.TrodAll] at h ⊢
  obtain ⟨p,q,h1,h2,rfl⟩:=h
  obtain ⟨hr1,hr2⟩:=hr t (by simp)
  exact ⟨p,q,WideElems.Trod_stays hl hr1 hr2 h1 (fun x hx=>hb.same (hp x (by simp [hx])).1) (fun x hx=>(hp x (by simp [hx])).2),
   trodAll_stays hl hb ts vs ds q (fun t ht=>hr t (by simp [ht])) h2 (fun x hx=>hp x (by simp [hx])),rfl⟩

theorem law_post {f:Func} {s:ChangeSpec} {apart fresh handsOn again:Bool} {W W':World} {args:Array Value} {v:Value} {ds gs:List (DataW H)} {before pa pv:List MemPlace}
  (hW:DataW.Whole enc P f.params.toList s.vars apart W args.toList ds gs before)
  (hres:∀ (b:Nat) (sp:Nat→Bool) (hd:Bool),DataW.TrodAll enc P W' b sp hd f.resultTypes.toList (v.resultList f.resultTypes.size) (s.fn H (ds++gs)).results [])
  (hargs:∀ sp:Nat→Bool,(∀ p∈before,sp p.block=true)→DataW.TrodAll enc P W' 0 sp true f.params.toList args.toList (s.fn H (ds++gs)).args pa)
  (hvars:∀ sp:Nat→Bool,(∀ p∈before,sp p.block=true)→DataW.TrodVars enc P W' sp s.vars (s.fn H (ds++gs)).vars pv)
  (hps:before=pa++pv) (hb:Below W.heap.size W W')
  (hok:∀ (j:Nat) (t:TypeId) (r:Value),f.resultTypes[j]? = some t→(v.resultList f.resultTypes.size)[j]? = some r→Value.okWide P W' .any 0 t r) :
  s.post enc P f apart fresh handsOn again W args v W':=by
 have hlt:∀ p∈before,p.block<W.heap.size:=fun p hp=>hW.lt p hp
 have hold:∀ p∈before,(fun b=>decide (b<W.heap.size)) p.block=true:=fun p hp=>by simpa using hlt p hp
 refine ⟨ds,gs,before,[],pa,pv,hW,hres _ _ _,hargs _ hold,hvars _ hold,World.keptBut_mono (fun p hp=>⟨hp,?_⟩) (hb.frame (· ∈ before)),fun _=>?_⟩
 ·rw [hps,List.mem_append] at hp
  exact Or.inr hp
 ·obtain ⟨_,_,_,_,_,hz,hn⟩:=hW
  refine ⟨hok,_,_,([]++pa)++pv,⟨[]++pa,pv,trodAll_append (hargs _ (fun _ _=>rfl)) (hres _ _ _),hvars _ (fun _ _=>rfl),rfl,?_,?_⟩,?_⟩
  ·intro b off hp
   have hin:MemPlace.cell b off∈before:=by rw [hps]; simpa using hp
   rw [hb.frozen (hlt _ hin)]
   exact hz b off hin
  ·intro ha
   have:=hn ha
   rw [hps] at this
   simpa using this
  ·intro p hp _
   rw [hps]
   simpa using hp

structure LawSpec (s:ChangeSpec) (n:Nat):Prop where
 vars:s.vars=[]
 fn:∀ (H:Type) (ds:List (DataW H)),ds.length=n→s.fn H ds={ results:=[.lit (.bool true)],args:=ds }

theorem law_calls (hty:TyOk P ty) {L:List Nat} (hL:∀ t∈L,dT ty L t=true) (hl:laidOutB P=true) {f:Nat} {fn:Func} {s:ChangeSpec} {apart fresh handsOn again:Bool} {tb:Nat} (hs:LawSpec s fn.params.size) (hr:fn.resultTypes=#[tb]) (htb:P.underlying tb=some .bool)
  (hpar:∀ t∈fn.params.toList,t∈L∧(ty t).isSome=true) (hrd:∀ t∈fn.params.toList,P.readableRec t=true∧t<P.types.size)
  (hctr:∀ axs,ArgsAre ty reachBytes fn.params.toList axs→PCtr P f axs (bV true)) {W:World} (hamb:AmbOk P (fun _=>True) W) {base:Nat} {args:Array Value} {ds gs:List (DataW H)} {before:List MemPlace} {vt:List Nat}
  (hok:∀ (j:Nat) t v,fn.params[j]? = some t→args[j]? = some v→Value.okWide P W .any base t v) (hW:DataW.Whole enc P fn.params.toList s.vars apart W args.toList ds gs before)
  (hwt:(DataW.weightsEach P (fn.params.toList++vt) (ds++gs)).all (· ≤ reachBytes)=true) :
  Calls P f args W fun e W'=>∃ v,e=.returned v∧s.post enc P fn apart fresh handsOn again W args v W':=by
 have hW':=hW
 obtain ⟨p,q,hA,hV,rfl,_,_⟩:=hW
 rw [hs.vars] at hV
 obtain ⟨rfl,rfl⟩:=trodVars_none hV
 have hdl:∀ {ts:List Nat} {vs:List Value} {ds:List (DataW H)} {ps:List MemPlace},DataW.TrodAll enc P W 0 (fun _=>true) true ts vs ds ps→ds.length=ts.length:=by
  intro ts
  induction ts with
  | nil=>intro vs ds ps h; cases vs <;> cases ds <;> simp [DataW.TrodAll] at h ⊢
  | cons t ts ih=>intro vs ds ps h; cases vs <;> cases ds <;> simp [DataW.TrodAll] at h ⊢; obtain ⟨_,_,_,h,_⟩:=h; exact ih h
 have hlen:=hdl hA
 have hw:∀ m∈DataW.weightsEach P fn.params.toList ds,m≤reachBytes:=fun m hm=>by
  have key:∀ (ts vt:List Nat) (ds:List (DataW H)),ds.length=ts.length→DataW.weightsEach P (ts++vt) (ds++[])=DataW.weightsEach P ts ds:=by
   intro ts
   induction ts with
   | nil=>intro vt ds h; have:ds=[]:=List.length_eq_zero_iff.1 (by simpa using h); subst this; cases vt <;> simp [DataW.weightsEach]
   | cons t ts ih=>intro vt ds h; cases ds with
    | nil=>simp at h
    | cons d ds=>simp only [List.cons_append,DataW.weightsEach]; rw [ih vt ds (by simpa using h)]
  rw [key _ _ _ hlen,List.all_eq_true] at hwt
  simpa using hwt m hm
 obtain ⟨axs,h1,h2,_⟩:=open_args hty hL fn.params.toList args.toList ds p hpar hA (fun j t v ht hv=>hok j t v (by simpa using ht) (by simpa using hv)) hw
 have hc:=(hctr axs h2).run (fun _=>True) W args.toList hamb (fun _ _=>trivial) h1
 rw [show args.toList.toArray=args from by simp] at hc
 refine hc.mono ?_
 rintro e W' ⟨v,rfl,hv,hb⟩
 simp only [bV,RV] at hv
 cases hv
 have hds:ds.length=fn.params.size:=by rw [hlen]; simp
 have hfn:s.fn H (ds++[])={ results:=[.lit (.bool true)],args:=ds }:=by rw [List.append_nil]; exact hs.fn H ds hds
 refine ⟨_,rfl,law_post (pa:=p) (pv:=[]) hW' (fun b sp hd=>?_) (fun sp hsp=>?_) (fun sp hsp=>?_) rfl hb ?_⟩
 ·rw [hfn,hr]
  exact trodAll_mk1 (shut_bool htb true)
 ·rw [hfn]
  exact trodAll_stays hl hb _ _ _ _ hrd hA fun x hx=>⟨hW'.lt x (by simp [hx]),hsp x (by simp [hx])⟩
 ·rw [hfn,hs.vars]; rfl
 ·exact ok_one hr rfl (okWide_bool_mk htb true)
end
end PSL
namespace PSL
open Go Go.RowKit
section
variable {g:G} {pf:Nat→Cls} {ops:Array Oper} {Fin:Exit→Act→World→Prop}

open Classical in
theorem R_loadJ (hg:GOk g) (m:Nat) {dst:Option Nat} {T:Nat} {x:Operand} {ty:Nat} {pos:String} {after:Array Edge} {gd:Option (Nat × Bool)} {rest:List Oper} {k:List It} {E:Env} {objs:List Ob}
  {i off:Nat} {l:List AV} {τ:Ty} {v:AV} (hi:¬ mayO g.φ0.length m i (.box l))
  (hgd:guardA ops.toList E gd=some true) (hd:dstOk ⟨g.ty,g.N⟩ dst=true) (hcl:ldClsAt pf x=.look (m+1)) (hx:ev E x=.lo i off) (ho:nth objs i=some (.box l)) (hT:g.ty T=some τ) (hp:packA τ l off=some v)
  (hr:R g pf Fin (.dr ops rest::k) (putO E dst v) objs):R g pf Fin (.dr ops (⟨dst,.load T x,ty,pos,after,gd⟩::rest)::k) E objs:=by
 refine R_op ?_ hr
 simp only [clsOf,hcl]
 refine LocOp.lookingM hg m hgd hd (by simp) fun φ a w objs₁ hgr hρ hs=>?_
 simp only [Op.operands] at hρ
 have hxv:=hρ x (by simp)
 rw [hx] at hxv
 have hxv':=hxv
 simp only [RV] at hxv'
 obtain ⟨b,hb,_⟩:=hxv'
 have ho:nth objs₁ i=some (.box l):=by
  rw [nth_eq] at ho ⊢
  exact Gr.same' hgr ho (by rw [← hs.len]; exact (List.getElem?_eq_some_iff.1 hb).1) hi
 refine stepOp_ok (ρA:=fun y=>if y=x then .lo i off else .any) hg.ty hs (fun y=>?_) ?_
 ·split
  ·rename_i h; rw [h]; exact hxv
  ·simp [RV]
 ·simp only [stepOp,stepS,stepL,hT,if_true,ho,hp]

theorem R_load4 (hg:GOk g) {dst:Option Nat} {T:Nat} {x:Operand} {ty:Nat} {pos:String} {after:Array Edge} {gd:Option (Nat × Bool)} {rest:List Oper} {k:List It} {E:Env} {objs:List Ob}
  {i off:Nat} {l:List AV} {τ:Ty} {v:AV} (hi:g.φ0.length≤i)
  (hgd:guardA ops.toList E gd=some true) (hd:dstOk ⟨g.ty,g.N⟩ dst=true) (hcl:ldClsAt pf x=.look 4) (hx:ev E x=.lo i off) (ho:nth objs i=some (.box l)) (hT:g.ty T=some τ) (hp:packA τ l off=some v)
  (hr:R g pf Fin (.dr ops rest::k) (putO E dst v) objs):R g pf Fin (.dr ops (⟨dst,.load T x,ty,pos,after,gd⟩::rest)::k) E objs :=
 R_loadJ hg 3 (by unfold mayO Ob.lvl; simp only; rw [if_neg (by omega)]; omega) hgd hd hcl hx ho hT hp hr

open Classical in
theorem R_storeJ (hg:GOk g) {dst:Option Nat} {T:Nat} {d x:Operand} {ty:Nat} {pos:String} {after:Array Edge} {gd:Option (Nat × Bool)} {rest:List Oper} {k:List It} {E:Env} {objs:List Ob}
  {i off:Nat} {l new:List AV} {τ:Ty}
  (hgd:guardA ops.toList E gd=some true) (hd:dstOk ⟨g.ty,g.N⟩ dst=true) (hcl:stClsAt pf d=.turn (Nat.add 100 i)) (hx:ev E d=.lo i off) (ho:nth objs i=some (.box l)) (hT:g.ty T=some τ) (hc:cellsO (ev E x)=some new)
  (hl:Nat.beq (len new) τ.size=true) (hfit:Nat.ble (Nat.add off τ.size) (len l)=true)
  (hr:R g pf Fin (.dr ops rest::k) (putO E dst .any) (setN objs i (.box (spliceA l off new)))):R g pf Fin (.dr ops (⟨dst,.store T d x,ty,pos,after,gd⟩::rest)::k) E objs:=by
 refine R_op ?_ hr
 simp only [clsOf,hcl]
 refine .of_out hg (guardA_ok hgd) (dstOk_ok hd) (by simp) (fun h=>absurd rfl (h _)) (fun b hb _=>?_) fun φ o₁ o₁' a w E₁ hent hv ho' hs=>?_
 ·cases hb
  intro j y hj
  rw [nth_eq] at ho
  rw [setN_eq]
  by_cases e:j=i
  ·subst e
   exact ⟨_,List.getElem?_set_self (List.getElem?_eq_some_iff.1 ho).1,.inr ⟨.inr (.inl rfl),.inr (.inl rfl)⟩⟩
  ·exact ⟨y,by rw [List.getElem?_set_ne (fun h=>e h.symm)]; exact hj,.inl rfl⟩
 ·rcases ho' with ⟨h,_⟩ | ⟨_,h,_⟩ | ⟨rfl,rfl⟩
  ·cases h
  ·cases h
  have hρ:=rv_ops hent hv
  simp only [Op.operands] at hρ
  refine stepOp_ok (ρA:=fun y=>if y=d then .lo i off else if y=x then ev E x else .any) hg.ty hs (fun y=>?_) ?_
  ·split
   ·rename_i h; rw [h,← hx]; exact hρ d (by simp)
   ·split
    ·rename_i h; rw [h]; exact hρ x (by simp)
    ·simp [RV]
  ·have hxx:(if x=d then AV.lo i off else if x=x then ev E x else .any)=ev E x:=by
    split
    ·rename_i h; rw [h,hx]
    ·rw [if_pos rfl]
   have hxx':(if x=d then AV.lo i off else ev E x)=ev E x:=by rw [if_pos rfl] at hxx; exact hxx
   simp only [stepOp,stepS,stepL,stepE,hT,if_true,ho,hxx',hc,hl,hfit,cond_true]

theorem R_callS3 (hg:GOk g) (hu:GUp g) (hF:g.F=Fence.wide∧g.dep=0) (hY:∀ (i l:Nat) (I:Nat→(Nat→Prop)→(Nat→Prop)→World→Prop) (B:Nat→Prop),g.φ0[i]? = some (Phy.ext l I B)→YStep g.P Fence.wide 0 g.Y l I g.S0) (is:List Nat) (objs':List Ob) {Y:YP} {f:Nat} {axs:List AV} {objs0 objs1:List Ob} {r:AV} (hc:SCtr g.P Y f axs objs0 r objs1) (hcc:(∃ (i l:Nat) (I:Nat→(Nat→Prop)→(Nat→Prop)→World→Prop) (B:Nat→Prop),g.φ0[i]? = some (Phy.ext l I B))→Y=g.Y) {dst:Option Nat} {x:Operand} {args:Array Operand} {ts:Array Nat} {ty:Nat} {pos:String} {after:Array Edge} {gd:Option (Nat × Bool)}
  {rest:List Oper} {k:List It} {E:Env} {objs:List Ob} {fs cs:List AV} (hlt:∀ i∈is,i<g.φ0.length)
  (hgd:guardA ops.toList E gd=some true) (hd:dstOk ⟨g.ty,g.N⟩ dst=true) (hcl:clsOf pf (.call { callee:=.value x,args:=args,argTypes:=ts })=.turn 3) (hx:ev E x=.clo f fs cs) (hok:isOk (len objs) is=true) (hpick:pickN objs is=some (objs0.map (renOb (rn is (len objs)))))
  (has:(fs++args.toList.map (ev E)++cs).map nrm=renL (rn is (len objs)) axs) (ho:putAll is (objs1.map (renOb (rn is (len objs)))) objs=objs')
  (hr:R g pf Fin (.dr ops rest::k) (putO E dst (renA (rn is (len objs)) r)) objs') :
  R g pf Fin (.dr ops (⟨dst,.call { callee:=.value x,args:=args,argTypes:=ts },ty,pos,after,gd⟩::rest)::k) E objs:=by
 subst ho
 refine R_op ?_ hr
 show LocOp g ops _ E objs (clsOf pf (.call { callee:=.value x,args:=args,argTypes:=ts })) _ _
 rw [hcl]
 have h:=loc_callS (ops:=ops) (after:=after) (pos:=pos) (ty:=ty) (ts:=ts) (dst:=dst) hg hu hF hY is hc hcc hgd hd hx hok hpick has
 obtain ⟨hnd,hlo⟩:=isOk_spec hok
 rw [len_eq] at hlo
 have hl0:is.length≤objs1.length:=by
  have h1:=pickN_len hpick
  have h2:=hc.len
  simp at h1; omega
 refine ⟨fun hn=>absurd rfl (hn 3),fun b hb _=>?_,fun E₁ o₁ o₁' a w h1 h2 h3=>h.step E₁ o₁ o₁' a w h1 (by
  rcases h2 with ⟨h2,_⟩ | ⟨m,h2,_⟩ | h2
  ·cases h2
  ·cases h2
  ·exact .inr (.inr h2)) h3⟩
 cases hb
 intro i y hi
 have hil:=(List.getElem?_eq_some_iff.1 hi).1
 by_cases hm:i∈is
 ·have hil2:=hlt i hm
  have:i<(putAll is (objs1.map (renOb (rn is (len objs)))) objs).length:=by
   rw [putAll_length (by simpa using hl0)]; omega
  refine ⟨_,List.getElem?_eq_getElem this,.inr ⟨?_,?_⟩⟩
  ·exact .inl ⟨by omega,by unfold Ob.lvl; split <;> (try split) <;> omega⟩
  ·exact .inl ⟨by omega,by unfold Ob.lvl; split <;> (try split) <;> omega⟩
 ·exact ⟨y,by rw [putAll_other hm hil]; exact hi,.inl rfl⟩
end
end PSL
namespace PSL
open Go Go.RowKit
section
variable {g:G} {pf:Nat→Cls} {ops:Array Oper} {Fin:Exit→Act→World→Prop}
end
end PSL
namespace PSL
open Go Go.RowKit
section
variable {g:G} {pf:Nat→Cls} {ops:Array Oper} {Fin:Exit→Act→World→Prop}
end
end PSL
namespace PSL
open Go Go.RowKit Go.MapKept

mutual
def frzM (i:Nat) (ds:List (Value × D)):AV→AV
 | .ow j t=>bif Nat.beq j i then .any else .ow j t
 | .el j t r o=>bif Nat.beq j i then .any else .el j t r o
 | .vw j t r=>bif Nat.beq j i then .any else .vw j t r
 | .lo j o=>bif Nat.beq j i then .any else .lo j o
 | .mp j=>bif Nat.beq j i then .d (.map ds) else .mp j
 | .yl j=>bif Nat.beq j i then .any else .yl j
 | .agg l=>.agg (frzN i ds l)
 | .tup l=>.tup (frzN i ds l)
 | .clo f a c=>.clo f (frzN i ds a) (frzN i ds c)
 | .any=>.any
 | .tt=>.tt
 | .ff=>.ff
 | .d x=>.d x
 | .fs r=>.fs r
def frzN (i:Nat) (ds:List (Value × D)):List AV→List AV
 | []=>[]
 | x::l=>frzM i ds x::frzN i ds l
end

mutual
theorem frzM_ok {S S':Nat→Prop} {w:World} {φ φ':List Phy} {i:Nat} {ds:List (Value × D)} (hk:Keep S w S' w) (hp:∀ j,j≠i→φ'[j]? = φ[j]?) (ho:∀ v,RV S w φ (.mp i) v→Rd S' w (.map ds) v) :
  ∀ (x:AV) (v:Value),RV S w φ x v→RV S' w φ' (frzM i ds x) v
 | .any,_,_=>by simp [RV,frzM]
 | .tt,_,h=>by simpa [RV,frzM] using h
 | .ff,_,h=>by simpa [RV,frzM] using h
 | .d x,v,h=>by simp only [RV,frzM] at h ⊢; exact h.mono hk
 | .fs rows,v,h=>by simp only [RV,frzM] at h ⊢; exact ⟨h.1.mono hk,h.2⟩
 | .agg l,v,h=>by
  simp only [RV,frzM] at h ⊢
  obtain ⟨cs,h1,h2⟩:=h
  exact ⟨cs,h1,frzN_ok hk hp ho l cs h2⟩
 | .lo j off,v,h=>by
  simp only [frzM]
  cases hj:Nat.beq j i
  ·have:j≠i:=fun e=>by subst e; simp at hj
   simp only [RV,cond_false] at h ⊢; rw [hp j this]; exact h
  ·simp [RV]
 | .el j t r o,v,h=>by
  simp only [frzM]
  cases hj:Nat.beq j i
  ·have:j≠i:=fun e=>by subst e; simp at hj
   simp only [RV,cond_false] at h ⊢; rw [hp j this]; exact h
  ·simp [RV]
 | .vw j t r,v,h=>by
  simp only [frzM]
  cases hj:Nat.beq j i
  ·have:j≠i:=fun e=>by subst e; simp at hj
   simp only [RV,cond_false] at h ⊢; rw [hp j this]; exact h
  ·simp [RV]
 | .mp j,v,h=>by
  simp only [frzM]
  cases hj:Nat.beq j i
  ·have:j≠i:=fun e=>by subst e; simp at hj
   simp only [cond_false]
   simp only [RV] at h ⊢; rw [hp j this]; exact h
  ·have:=natBeq hj; subst this
   simp only [cond_true]
   have:=ho v h
   simpa only [RV] using this
 | .yl j,v,h=>by
  simp only [frzM]
  cases hj:Nat.beq j i
  ·have:j≠i:=fun e=>by subst e; simp at hj
   simp only [RV,cond_false] at h ⊢; rw [hp j this]; exact h
  ·simp [RV]
 | .ow j t,v,h=>by
  simp only [frzM]
  cases hj:Nat.beq j i
  ·have:j≠i:=fun e=>by subst e; simp at hj
   simp only [RV,cond_false] at h ⊢; rw [hp j this]; exact h
  ·simp [RV]
 | .tup l,v,h=>by
  simp only [RV,frzM] at h ⊢
  obtain ⟨cs,h1,h2⟩:=h
  exact ⟨cs,h1,frzN_ok hk hp ho l cs h2⟩
 | .clo f a c,v,h=>by
  simp only [RV,frzM] at h ⊢
  obtain ⟨va,vc,h1,h2,h3⟩:=h
  exact ⟨va,vc,h1,frzN_ok hk hp ho a va h2,frzN_ok hk hp ho c vc h3⟩
theorem frzN_ok {S S':Nat→Prop} {w:World} {φ φ':List Phy} {i:Nat} {ds:List (Value × D)} (hk:Keep S w S' w) (hp:∀ j,j≠i→φ'[j]? = φ[j]?) (ho:∀ v,RV S w φ (.mp i) v→Rd S' w (.map ds) v) :
  ∀ (l:List AV) (vs:List Value),RVs S w φ l vs→RVs S' w φ' (frzN i ds l) vs
 | [],[],_=>by simp [RVs,frzN]
 | [],_::_,h=>by simp [RVs] at h
 | _::_,[],h=>by simp [RVs] at h
 | a::l,v::vs,h=>by
  simp only [RVs,frzN] at h ⊢
  exact ⟨frzM_ok hk hp ho a v h.1,frzN_ok hk hp ho l vs h.2⟩
end
section
variable {g:G} {pf:Nat→Cls} {ops:Array Oper} {Fin:Exit→Act→World→Prop}

theorem R_freezeM (hu:GUp g) {k:List It} {E:Env} {objs:List Ob} (i:Nat) (ds:List (Value × D)) (hn:g.φ0.length≤i) (ho:nth objs i=some (.map (ds.map fun p=>(p.1,AV.d p.2)))) (ht:topCode k=true)
  (hr:R g pf Fin k (mapE (frzM i ds) E) (setN (objs.map (mapOb (frzM i ds))) i .dead)) (hdf:g.dfs=[]:=by rfl):R g pf Fin k E objs:=by
 refine R_ghost ht (fun a w hs=>?_) hr
 obtain ⟨φ,h1,h2,h3,h4,h5,h6⟩:=hs
 rw [nth_eq] at ho
 have hil:=(List.getElem?_eq_some_iff.1 ho).1
 have hiφ:i<φ.length:=by rw [h1.len]; exact hil
 have hbl0:∀ b,bls φ b→g.S0 b:=fun b hb=>(h2 b hb).elim (hu.up b) (hu.x b)
 have hbl:∀ b,bls (φ.set i .no) b→bls φ b:=fun b hb=>by
  rcases bls_set hb with ⟨j,q,_,g1,g2⟩ | g1
  ·exact ⟨j,q,g1,g2⟩
  ·simp [Phy.bl] at g1
 have hp:∀ j,j≠i→(φ.set i .no)[j]? = φ[j]? := fun j hj=>List.getElem?_set_ne (fun e=>hj e.symm)
 have hkeep:Keep (SS g.S0 φ) w (SS g.S0 (φ.set i .no)) w:=fun b hb _=>⟨⟨hb.1,fun hc=>hb.2 (hbl b hc)⟩,rfl⟩
 have hph:φ[i]? = some φ[i]:=List.getElem?_eq_getElem hiφ
 -- the object's block is free of objects from now on
 have hrd:∀ v,RV (SS g.S0 φ) w φ (.mp i) v→Rd (SS g.S0 (φ.set i .no)) w (.map ds) v:=fun v hv=>by
  simp only [RV] at hv
  obtain ⟨b,hph,rfl⟩:=hv
  have hk:=h1.ok i _ _ hph ho
  simp only [ObOk] at hk
  obtain ⟨ents,clk,hheap,hkeys,hvals⟩:=hk
  have hb:bls φ b:=⟨i,_,hph,rfl⟩
  have hnb:¬ bls (φ.set i .no) b:=fun hc=>by
   rcases bls_set hc with ⟨j,q,hj,g1,g2⟩ | g1
   ·exact hj (h1.dist _ _ _ _ _ g1 hph g2 rfl)
   ·simp [Phy.bl] at g1
  have key:∀ (j:Nat) (x:Value × D),ds[j]? = some x→∃ e,ents[j]? = some e∧Rd (SS g.S0 φ) w x.2 e.val:=fun j x hj=>by
   obtain ⟨u,g1,g2⟩:=hvals.get j (x:=.d x.2) (by simp [hj])
   rw [List.getElem?_map,Array.getElem?_toList] at g1
   cases he:ents[j]? with
   | none=>rw [he] at g1; cases g1
   | some e=>rw [he] at g1; simp at g1; subst g1; exact ⟨e,rfl,by simpa only [RV] using g2⟩
  refine Rd.map (fun j=>((ents[j]?).map (·.val)).getD undef) ⟨hbl0 b hb,hnb⟩ hheap (by simpa [List.map_map,Function.comp_def] using hkeys) (fun j x hj=>?_) (fun j x hj=>?_)
  ·obtain ⟨e,g1,_⟩:=key j x hj
   simp [g1]
  ·obtain ⟨e,g1,g2⟩:=key j x hj
   simp only [g1,Option.map_some,Option.getD_some]; exact g2.mono hkeep
 have hf:=frzM_ok (ds:=ds) hkeep hp hrd
 refine ⟨φ.set i .no,h1.remap (frzM i ds) (by rw [setN_eq]; simp [h1.len]) (fun j p b hj hb=>?_) (fun j ob' hj=>?_) hf,fun b hb=>h2 b (hbl b hb),fun u=>?_,h4,Mks.phs hdf h5 hbl,h6.phs (fun j l I B h=>⟨B,by
  by_cases hji:j=i
  ·subst hji; rw [List.getElem?_set_self hiφ] at h; cases h
  ·rw [hp j hji] at h; exact h⟩) (fun j p hi=>by
  obtain ⟨p',h7,h8⟩:=h6.le j p hi
  by_cases hji:j=i
  ·subst hji
   have:=(List.getElem?_eq_some_iff.1 hi).1
   omega
  ·exact ⟨p',by rw [hp j hji]; exact h7,h8⟩)⟩
 ·by_cases hji:j=i
  ·subst hji; rw [List.getElem?_set_self hiφ] at hj; cases hj; exact hb.elim
  ·rw [hp j hji] at hj; exact ⟨p,hj,hb⟩
 ·rw [setN_eq] at hj
  by_cases hji:j=i
  ·subst hji; rw [List.getElem?_set_self (by simpa using hil)] at hj; cases hj; exact .inl rfl
  ·rw [List.getElem?_set_ne (fun e=>hji e.symm),List.getElem?_map] at hj
   cases ho:objs[j]? with
   | none=>rw [ho] at hj; cases hj
   | some ob=>rw [ho] at hj; exact .inr (.inl ⟨ob,rfl,hp j hji,by simpa using hj.symm⟩)
 ·rcases lk_mapE (f:=frzM i ds) E u with h | h
  ·rw [h]; exact hf _ _ (h3 u)
  ·rw [h]; simp [RV]

theorem R_lookupD (hg:GOk g) {dst:Option Nat} {T:Nat} {x y:Operand} {ok:Bool} {ty:Nat} {pos:String} {after:Array Edge} {gd:Option (Nat × Bool)} {rest:List Oper} {k:List It} {E:Env} {objs:List Ob}
  {q by_ kt et:Nat} {ds:List (Value × D)} {z:List Value} {kv zv:Value} {kd:TypeDesc} {r:Option (Nat × AV)}
  (hgd:guardA ops.toList E gd=some true) (hd:dstOk ⟨g.ty,g.N⟩ dst=true) (hx:ev E x=.d (.map ds)) (hy:ev E y=.d (.v kv)) (hT:g.ty T=some ⟨q,by_,z,.map kt et⟩)
  (hkt:g.P.underlying kt=some kd) (hkey:IsKey kd kv) (hf:findA kd kv (ds.map fun p=>(p.1,AV.d p.2)) 0=some r) (hz:(g.P.info? et).bind (·.zero)=some zv)
  (hr:R g pf Fin (.dr ops rest::k) (putO E dst (lookA ok (cstV zv) r)) objs):R g pf Fin (.dr ops (⟨dst,.lookup T x y ok,ty,pos,after,gd⟩::rest)::k) E objs:=by
 refine R_op (LocOp.quiet hg hgd hd (by simp) fun φ objs₁ a w hρ hs=>?_) hr
 simp only [Op.operands] at hρ
 have hxv:=hρ x (by simp)
 rw [hx] at hxv
 have hyv:=hρ y (by simp)
 rw [hy] at hyv
 simp only [RV] at hxv hyv
 generalize hvy:a.eval y=vy at hyv
 cases hyv
 generalize hxe:a.eval x=vx at hxv
 obtain ⟨b,ents,clk,rfl,hheap,hents⟩:∃ (b:Nat) (ents:Array MapEntry) (clk:Nat),vx=.map (some b)∧w.heap[b]? = some (.map ents clk)∧EntsOk (SS g.S0 φ) w φ (ds.map fun p=>(p.1,AV.d p.2)) ents.toList:=by
  cases hxv with
  | map g' hS hb hk hg' hr' =>
   refine ⟨_,_,_,rfl,hb,by simpa [List.map_map,Function.comp_def] using hk,?_⟩
   have hlen:=congrArg List.length hk
   simp only [List.length_map,Array.length_toList] at hlen
   refine RVs.of_get (by simpa using hlen) fun j u v hu hv=>?_
   rw [List.getElem?_map,List.getElem?_map] at hu
   cases hj:ds[j]? with
   | none=>rw [hj] at hu; cases hu
   | some x =>
    rw [hj] at hu; simp at hu; subst hu
    rw [List.getElem?_map,Array.getElem?_toList,hg' j x hj] at hv
    cases hv
    simpa only [RV] using hr' j x hj
 have hT':g.P.underlying T=some (.map kt et):=by have:=(hg.ty _ _ hT).sh; simpa only [ShFact] using this
 have hzero:(zeroValue et).run g.P w=.ok zv w:=by
  obtain ⟨inf,h1,h2⟩:=Option.bind_eq_some_iff.1 hz
  simp [zeroValue,typeInfo,h1,h2]
 have hzR:RV (SS g.S0 φ) w φ (cstV zv) zv:=rv_restr (l:=[]) (E:=[]) (E₁:=[]) (a:={ tmps:=#[],defers:=[] }) (by simp) (fun t=>by simp [lk,RV]) (.const zv)
 have hfind:=findA_ok hents hf
 cases r with
 | none =>
  simp only at hfind
  refine out_val hs (vv:=if ok then .tuple #[zv,.bool false] else zv) ?_ ?_
  ·simp [execOp,Instr.lookup,run_underlying hT',hxe,run_getObj_map hheap,hvy,run_checkKey hkt hkey,run_findKey hkt hfind,hzero]
  ·simp only [lookA]
   cases ok
   ·simpa using hzR
   ·simp only [if_true,RV]
    exact ⟨[zv,.bool false],rfl,by simp only [RVs,RV,bV,and_true]; exact ⟨hzR,.v _⟩⟩
 | some p =>
  obtain ⟨j,v⟩:=p
  obtain ⟨vv,h1,h2,_⟩:=hfind
  refine out_val hs (vv:=if ok then .tuple #[vv,.bool true] else vv) ?_ ?_
  ·simp [execOp,Instr.lookup,run_underlying hT',hxe,run_getObj_map hheap,hvy,run_checkKey hkt hkey,run_findKey hkt h1]
  ·simp only [lookA]
   cases ok
   ·simpa using h2
   ·simp only [if_true,RV]
    exact ⟨[vv,.bool true],rfl,by simp only [RVs,RV,bV,and_true]; exact ⟨h2,.v _⟩⟩
end
end PSL
namespace PSL
open Go Go.RowKit Go.MapKept
section
variable {g:G} {pf:Nat→Cls} {ops:Array Oper} {Fin:Exit→Act→World→Prop}
end
end PSL
namespace PSL
open Go Go.RowKit
section
variable {g:G} {pf:Nat→Cls} {ops:Array Oper} {Fin:Exit→Act→World→Prop}

theorem wp_ops2 {K:Env→List Ob→Prop} {Q:Exit→Act→World→Prop} {more:List Nat} (hQ:∀ E objs a w,K E objs→Sat g E objs a w→wpOpsIn g.F g.dep g.P ops Q more a w) :
  ∀ (l:List Oper) (k:Nat) (E:Env) (objs:List Ob) (a:Act) (w:World),(∀ j,j<l.length→l[j]? = ops[k+j]?)→Dr g pf ops l E objs K→Sat g E objs a w →
   wpOpsIn g.F g.dep g.P ops Q (List.range' k l.length++more) a w
 | [],k,E,objs,a,w,_,hd,hs=>by simpa using hQ E objs a w hd hs
 | o::l,k,E,objs,a,w,hl,hd,hs=>by
  obtain ⟨v,objs',h1,h2⟩:=hd
  have h0:ops[k]? = some o:=by simpa using (hl 0 (by simp)).symm
  have hstep:=h1.step E objs objs' a w (fun t _=>.refl _) (.inr (.inr ⟨rfl,rfl⟩)) hs Q
  rw [List.length_cons,List.range'_succ,List.cons_append,wpOpsIn_cons]
  refine wpOpIn_mono (K:=fun a' w'=>Sat g (putO E o.dst v) objs' a' w') (fun a' w' hs'=>?_) (by unfold wpOpIn; rw [h0]; exact hstep)
  exact wp_ops2 hQ l (k+1) _ objs' a' w' (fun j hj=>by have:=hl (j+1) (by simpa using hj); simpa [Nat.add_assoc,Nat.add_comm 1 j] using this) h2 hs'
end
end PSL
namespace PSL
open Go Go.RowKit
section
variable {g:G} {pf:Nat→Cls} {ops:Array Oper} {Fin:Exit→Act→World→Prop}

theorem rv_eval {S:Nat→Prop} {w:World} {φ:List Phy} {E:Env} {a:Act} (hv:EnvOk S w φ E a) (x:Operand):RV S w φ (ev E x) (a.eval x):=by
 cases x with
 | tmp t=>exact hv t
 | const v=>simpa [restr] using rv_restr (l:=[]) (E:=E) (fun t ht=>by cases ht) hv (.const v)
 | global n=>simp [ev,RV]
 | func f=>simp only [ev,Act.eval,RV]; exact ⟨[],[],rfl,by simp [RVs],by simp [RVs]⟩

def noMk:List It→Bool
 | []=>true
 | .code _::k=>noMk k
 | .blk _::k=>noMk k
 | _::_=>false

theorem KP_sw {l:List (Nat × List AV × List AV)}:∀ (k:List It),noMk k=true→∀ e a w,KP (swD g l) Fin k e a w=KP g Fin k e a w
 | [],_,_,_,_=>rfl
 | .code c::k,h,e,a,w=>by
  have ih:KP (swD g l) Fin k=KP g Fin k:=by funext e a w; exact KP_sw k h e a w
  simp only [KP,ih]; rfl
 | .blk i::k,h,e,a,w=>by
  have ih:KP (swD g l) Fin k=KP g Fin k:=by funext e a w; exact KP_sw k h e a w
  simp only [KP,ih]
 | .mark _::_,h,_,_,_=>by simp [noMk] at h
 | .dr _ _::_,h,_,_,_=>by simp [noMk] at h

theorem R_defer (hg:GOk g) (hmk:g.mks=false) (hw:g.F=Fence.wide∧g.dep=0) {id:Nat} {k:List It} {E:Env} {objs:List Ob} (n:Nat) {x:Operand} {args:Array Operand} {ts:Array Nat} {ty:Nat} {pos:String} {after:Array Edge}
  (hn:ops.toList.drop n=[⟨none,.defer { callee:=.value x,args:=args,argTypes:=ts },ty,pos,after,none⟩])
  (h:R g pf Fin (.dr ops (ops.toList.take n) :: .mark (fun E1 objs1=>∃ f fs cs,ev E1 x=.clo f fs cs∧R (swD g ((f,fs++args.toList.map (ev E1),cs)::g.dfs)) pf Fin k E1 objs1)::k) E objs) (hnd:noDr k=true:=by rfl) (hnm:noMk k=true:=by rfl):R g pf Fin (.code (.region id ops false)::k) E objs:=by
 rintro ⟨ho1,ho⟩
 have h:=h ho
 simp only at h
 intro a w hs
 simp only [KP]
 refine wpIn_region ?_
 have hle:n≤ops.toList.length:=by
  rcases Nat.le_total n ops.toList.length with h | h
  ·exact h
  ·rw [List.drop_eq_nil_of_le h] at hn; cases hn
 have hsz:ops.toList.length=n+1:=by
  have:=congrArg List.length hn
  rw [List.length_drop] at this
  simp only [List.length_singleton] at this
  omega
 have hsplit:List.range ops.size=List.range' 0 (ops.toList.take n).length++[n]:=by
  have e:ops.size=n+1:=by rw [← hsz]; simp
  rw [e,List.length_take,Nat.min_eq_left hle,List.range_eq_range',← List.range'_append]; simp
 rw [hsplit]
 refine wp_ops2 (pf:=pf) (K:=fun E' objs'=>RK g Fin (.mark (fun E1 objs1=>∃ f fs cs,ev E1 x=.clo f fs cs∧R (swD g ((f,fs++args.toList.map (ev E1),cs)::g.dfs)) pf Fin k E1 objs1)::k) E' objs') (fun E1 objs1 a1 w1 hk hs1=>?_) _ 0 E objs a w (fun j hj=>?_) h hs
 ·have hk:=hk a1 w1 hs1
  simp only [KP] at hk
  obtain ⟨E2,objs2,⟨f,fs,cs,hx,hM⟩,hs2⟩:=hk
  rw [wpOpsIn_cons]
  have h0:ops[n]? = some ⟨none,.defer { callee:=.value x,args:=args,argTypes:=ts },ty,pos,after,none⟩:=by
   have:(ops.toList.drop n)[0]? = some ⟨none,.defer { callee:=.value x,args:=args,argTypes:=ts },ty,pos,after,none⟩:=by rw [hn]; rfl
   simpa using this
  unfold wpOpIn
  rw [h0]
  simp only [Region.wanted,if_true]
  refine ⟨fun f _=>hg.fn f,?_⟩
  obtain ⟨φ,h1,h2,h3,h4,⟨ds1,ds2,e5,h5,h7⟩,h6⟩:=hs2
  have hxv:=rv_eval (E:=E2) h3 x
  rw [hx] at hxv
  simp only [RV] at hxv
  obtain ⟨va,vc,hxv,hfs,hcs⟩:=hxv
  have hargs:RVs (SS g.S0 φ) w1 φ (args.toList.map (ev E2)) (args.toList.map a1.eval):=RVs.map _ _ _ fun y _=>rv_eval h3 y
  have hr:(execOp a1.eval ⟨none,.defer { callee:=.value x,args:=args,argTypes:=ts },ty,pos,after,none⟩).run g.P w1=.ok (.defer { target:=.fn (.func f) vc.toArray,args:=(va++args.toList.map a1.eval).toArray }) w1:=by
   have:va.toArray++Array.map a1.eval args=(va++args.toList.map a1.eval).toArray:=by apply Array.toList_inj.1; simp
   simp [execOp,resolve,hxv,Deferred.ofValue,this]
  rw [show g.F.round=none by rw [hw.1]; rfl,Oper.semAt_none,hr,Oper.uponIn_defer]
  have hds:ds1=[]:=h5.1 hmk
  subst hds
  have:=RK.of_R (pf:=pf) (k:=k) ho hM (noDr_head hnd) { a1 with defers:={ target:=.fn (.func f) vc.toArray,args:=(va++args.toList.map a1.eval).toArray }::a1.defers } w1 ⟨φ,h1,h2,h3,h4,⟨[],{ target:=.fn (.func f) vc.toArray,args:=(va++args.toList.map a1.eval).toArray }::ds2,by rw [e5]; rfl,⟨fun _=>rfl,.nil,by simp⟩,⟨_,_,rfl,hfs.append hargs,hcs⟩,h7⟩,⟨h6.size,h6.os,h6.tape,h6.out,h6.fr,h6.gen,h6.le⟩⟩
  rw [KP_sw k hnm] at this
  exact this
 ·rw [Nat.zero_add,List.getElem?_take_of_lt (by simp at hj; omega)]; simp
end
end PSL
namespace PSL
open Go Go.RowKit
section
variable {g:G} {pf:Nat→Cls} {ops:Array Oper} {Fin:Exit→Act→World→Prop}

theorem run_callx {P:Program} {w:World} {a:Act} {f:Nat} {args:Array Operand} {ts:Array Nat} {dst:Option Nat} {ty:Nat} {pos:String} {after:Array Edge} {gd:Option (Nat × Bool)} :
  (execOp a.eval ⟨dst,.call { callee:=.value (.func f),args:=args,argTypes:=ts },ty,pos,after,gd⟩).run P w=(callFunc f (args.map a.eval)).run P w:=by
 simp [execOp,resolve,Act.eval,Deferred.ofValue,invoke]

theorem R_extV (hg:GOk g) {f:Nat} {r:AV} {dst:Option Nat} {args:Array Operand} {ts:Array Nat} {ty:Nat} {pos:String} {after:Array Edge} {gd:Option (Nat × Bool)} {rest:List Oper} {k:List It} {E:Env} {objs:List Ob}
  (hgd:guardA ops.toList E gd=some true) (hd:dstOk ⟨g.ty,g.N⟩ dst=true) (hcl:pf f=.eff)
  (hrun:∀ (φ:List Phy) (a:Act) (w:World),HS g.S0 φ objs w→(∀ y∈args.toList,RV (SS g.S0 φ) w φ (ev E y) (a.eval y))→∃ v,(callFunc f (args.map a.eval)).run g.P w=.ok (.value v) w∧RV (SS g.S0 φ) w φ r v)
  (hr:R g pf Fin (.dr ops rest::k) (putO E dst r) objs):R g pf Fin (.dr ops (⟨dst,.call { callee:=.value (.func f),args:=args,argTypes:=ts },ty,pos,after,gd⟩::rest)::k) E objs:=by
 refine R_op ?_ hr
 simp only [clsOf,hcl]
 refine .of_out hg (guardA_ok hgd) (dstOk_ok hd) (by simp) (fun _=>rfl) (fun b hb h9=>by cases hb; exact absurd rfl h9) fun φ o₁ o₁' a w E₁ he hv ho hs=>?_
 have e:o₁=objs∧o₁'=objs:=by
  rcases ho with ⟨h,_⟩ | ⟨_,h,_⟩ | h
  ·cases h
  ·cases h
  ·exact h
 obtain ⟨rfl,rfl⟩:=e
 have hρ:=rv_ops (o:=⟨dst,.call { callee:=.value (.func f),args:=args,argTypes:=ts },ty,pos,after,gd⟩) he hv
 simp only [Op.operands,Call.operands] at hρ
 obtain ⟨v,h1,h2⟩:=hrun φ a w hs fun y hy=>hρ y (by simp [hy])
 exact out_val hs (vv:=v) (by rw [run_callx,h1]) h2

theorem R_extB (hg:GOk g) {f:Nat} {r:AV} {dst:Option Nat} {args:Array Operand} {ts:Array Nat} {ty:Nat} {pos:String} {after:Array Edge} {gd:Option (Nat × Bool)} {rest:List Oper} {k:List It} {E:Env} {objs:List Ob} {i off:Nat} {l:List AV} {old new:Value} {x:Operand}
  (hgd:guardA ops.toList E gd=some true) (hd:dstOk ⟨g.ty,g.N⟩ dst=true) (hcl:pf f=.eff) (hx:ev E x=.lo i off) (hxa:x∈args.toList) (ho:nth objs i=some (.box l)) (hl:nth l off=some (.d (.v old)))
  (hrun:∀ (φ:List Phy) (a:Act) (w:World) (b:Nat),a.eval x=.pointer (some ⟨b,off,none⟩)→w.cell? ⟨b,off,none⟩=some old→w.frozen? ⟨b,off,none⟩=false→HS g.S0 φ objs w→(∀ y∈args.toList,RV (SS g.S0 φ) w φ (ev E y) (a.eval y))→∃ v,(callFunc f (args.map a.eval)).run g.P w=.ok (.value v) (w.setCell ⟨b,off,none⟩ new)∧∀ w',RV (SS g.S0 φ) w' φ r v)
  (hr:R g pf Fin (.dr ops rest::k) (putO E dst r) (setN objs i (.box (setN l off (.d (.v new)))))):R g pf Fin (.dr ops (⟨dst,.call { callee:=.value (.func f),args:=args,argTypes:=ts },ty,pos,after,gd⟩::rest)::k) E objs:=by
 refine R_op ?_ hr
 simp only [clsOf,hcl]
 refine .of_out hg (guardA_ok hgd) (dstOk_ok hd) (by simp) (fun h=>absurd rfl (h _)) (fun b hb h9=>by cases hb; exact absurd rfl h9) fun φ o₁ o₁' a w E₁ he hv ho1 hs=>?_
 have e:o₁=objs∧o₁'=setN objs i (.box (setN l off (.d (.v new)))):=by
  rcases ho1 with ⟨h,_⟩ | ⟨_,h,_⟩ | h
  ·cases h
  ·cases h
  ·exact h
 obtain ⟨rfl,rfl⟩:=e
 have hρ:=rv_ops (o:=⟨dst,.call { callee:=.value (.func f),args:=args,argTypes:=ts },ty,pos,after,gd⟩) he hv
 simp only [Op.operands,Call.operands] at hρ
 have hρ':∀ y∈args.toList,RV (SS g.S0 φ) w φ (ev E y) (a.eval y):=fun y hy=>hρ y (by simp [hy])
 have hxv:=hρ' x hxa
 rw [hx] at hxv
 simp only [RV] at hxv
 obtain ⟨b,hb,hxv⟩:=hxv
 have hok:=obj_at hs hb ho
 simp only [ObOk] at hok
 obtain ⟨cs,T',hheap,hrv⟩:=hok
 rw [nth_eq] at hl
 obtain ⟨u,hu,huv⟩:=hrv.get off hl
 simp only [RV] at huv
 cases huv
 have hcell:w.cell? ⟨b,off,none⟩=some old:=by simp [World.cell?,hheap,hu]
 have hfz:w.frozen? ⟨b,off,none⟩=false:=by simp [World.frozen?,hheap]
 obtain ⟨v,h1,h2⟩:=hrun φ a w b hxv hcell hfz hs hρ'
 have hother:∀ c,c≠b→(w.setCell ⟨b,off,none⟩ new).heap[c]? = w.heap[c]? := fun c hc=>Below.heap_setCell _ _ _ _ hc
 have hbl:(Phy.blk b).bl b:=rfl
 have hk:=keep_turn (S0:=g.S0) hb hbl hother
 refine ⟨.value v,v,w.setCell ⟨b,off,none⟩ new,φ,by rw [run_callx,h1],.inl rfl,h2 _,?_⟩
 refine ⟨?_,hk,.refl _,by simp,rfl,rfl,rfl,fun c hc hn=>hother c fun e=>hn ⟨i,_,hb,by rw [e]; rfl⟩,fun _ h=>.inl h,fun _ _ _ B h=>⟨B,h⟩⟩
 rw [setN_eq]
 refine hs.turn hb hbl (by simp) hother ?_
 simp only [ObOk]
 refine ⟨cs.set off new,T',setCell_heap hheap _ _,?_⟩
 have h3:=hrv.mono hk (PhsLe.refl φ)
 rw [setN_eq]
 refine RVs.of_get (by rw [List.length_set,List.length_set]; exact h3.length) fun j y u hy hu=>?_
 rw [List.getElem?_set] at hy hu
 by_cases hj:off=j
 ·subst hj
  rw [if_pos rfl] at hy hu
  have hlt:=(List.getElem?_eq_some_iff.1 hl).1
  have hlc:off<cs.length:=by rw [← h3.length]; exact hlt
  rw [if_pos hlt] at hy
  rw [if_pos hlc] at hu
  cases hy; cases hu
  simp only [RV]; exact .v _
 ·rw [if_neg hj] at hy hu
  obtain ⟨u',h4,h5⟩:=h3.get j hy
  rw [hu] at h4; cases h4
  exact h5

theorem rv_const {S:Nat→Prop} {w:World} {φ:List Phy} {c v:Value} (h:RV S w φ (.d (.v c)) v):v=c:=by
 simp only [RV] at h; cases h; rfl

theorem hs_cell {S0:Nat→Prop} {φ:List Phy} {objs:List Ob} {w:World} (hs:HS S0 φ objs w) {i off:Nat} {l:List AV} {c v:Value} (ho:nth objs i=some (.box l)) (hl:nth l off=some (.d (.v c))) (hv:RV (SS S0 φ) w φ (.lo i off) v) :
  ∃ b,v=.pointer (some ⟨b,off,none⟩)∧w.cell? ⟨b,off,none⟩=some c:=by
 simp only [RV] at hv
 obtain ⟨b,hb,hv⟩:=hv
 have hok:=obj_at hs hb ho
 simp only [ObOk] at hok
 obtain ⟨cs,T',hheap,hrv⟩:=hok
 rw [nth_eq] at hl
 obtain ⟨u,hu,huv⟩:=hrv.get off hl
 have:=rv_const huv
 subst this
 exact ⟨b,hv,by simp [World.cell?,hheap,hu]⟩

theorem R_ext0 (hg:GOk g) {f:Nat} {dst:Option Nat} {ts:Array Nat} {ty:Nat} {pos:String} {after:Array Edge} {gd:Option (Nat × Bool)} {rest:List Oper} {k:List It} {E:Env} {objs:List Ob}
  (hf:∀ w,(callFunc f #[]).run g.P w=.ok (.value (.tuple #[])) w) (hgd:guardA ops.toList E gd=some true) (hd:dstOk ⟨g.ty,g.N⟩ dst=true) (hcl:pf f=.eff)
  (hr:R g pf Fin (.dr ops rest::k) (putO E dst (.tup [])) objs):R g pf Fin (.dr ops (⟨dst,.call { callee:=.value (.func f),args:=#[],argTypes:=ts },ty,pos,after,gd⟩::rest)::k) E objs :=
 R_extV hg hgd hd hcl (fun φ a w _ _=>⟨.tuple #[],by simpa using hf w,by simp [RV,RVs]⟩) hr

theorem R_extM (hg:GOk g) {f:Nat} {dst:Option Nat} {x:Operand} {ts:Array Nat} {ty:Nat} {pos:String} {after:Array Edge} {gd:Option (Nat × Bool)} {rest:List Oper} {k:List It} {E:Env} {objs:List Ob} {i off:Nat}
  (hf:∀ a w,(callFunc f #[.pointer (some a)]).run g.P w=.ok (.value (.tuple #[])) w) (hgd:guardA ops.toList E gd=some true) (hd:dstOk ⟨g.ty,g.N⟩ dst=true) (hcl:pf f=.eff) (hx:ev E x=.lo i off)
  (hr:R g pf Fin (.dr ops rest::k) (putO E dst (.tup [])) objs):R g pf Fin (.dr ops (⟨dst,.call { callee:=.value (.func f),args:=#[x],argTypes:=ts },ty,pos,after,gd⟩::rest)::k) E objs :=
 R_extV hg hgd hd hcl (fun φ a w _ hρ=>by
  have h:=hρ x (by simp)
  rw [hx] at h
  simp only [RV] at h
  obtain ⟨b,_,h⟩:=h
  exact ⟨.tuple #[],by simpa [h] using hf ⟨b,off,none⟩ w,by simp [RV,RVs]⟩) hr

theorem R_extL (hg:GOk g) {f:Nat} {dst:Option Nat} {x:Operand} {ts:Array Nat} {ty:Nat} {pos:String} {after:Array Edge} {gd:Option (Nat × Bool)} {rest:List Oper} {k:List It} {E:Env} {objs:List Ob} {i off:Nat} {l:List AV} {c:IntKind} {n:Int}
  (hf:∀ a x w,w.cell? a=some (.int c x)→(callFunc f #[.pointer (some a)]).run g.P w=.ok (.value (.int c x)) w) (hgd:guardA ops.toList E gd=some true) (hd:dstOk ⟨g.ty,g.N⟩ dst=true) (hcl:pf f=.eff) (hx:ev E x=.lo i off) (ho:nth objs i=some (.box l)) (hl:nth l off=some (.d (.v (.int c n))))
  (hr:R g pf Fin (.dr ops rest::k) (putO E dst (.d (.v (.int c n)))) objs):R g pf Fin (.dr ops (⟨dst,.call { callee:=.value (.func f),args:=#[x],argTypes:=ts },ty,pos,after,gd⟩::rest)::k) E objs :=
 R_extV hg hgd hd hcl (fun φ a w hs hρ=>by
  have h:=hρ x (by simp)
  rw [hx] at h
  obtain ⟨b,h,hc⟩:=hs_cell hs ho hl h
  exact ⟨.int c n,by simpa [h] using hf _ _ w hc,by simp only [RV]; exact .v _⟩) hr

theorem R_extW (hg:GOk g) {f:Nat} {dst:Option Nat} {x:Operand} {ys:Array Operand} {ts:Array Nat} {ty:Nat} {pos:String} {after:Array Edge} {gd:Option (Nat × Bool)} {rest:List Oper} {k:List It} {E:Env} {objs:List Ob} {i off:Nat} {l:List AV} {old new v:Value} (vs:List Value)
  (hf:∀ a w,w.cell? a=some old→w.frozen? a=false→(callFunc f (Value.pointer (some a)::vs).toArray).run g.P w=.ok (.value v) (w.setCell a new)) (hgd:guardA ops.toList E gd=some true) (hd:dstOk ⟨g.ty,g.N⟩ dst=true) (hcl:pf f=.eff) (hx:ev E x=.lo i off) (hys:ys.toList.map (ev E)=vs.map fun c=>AV.d (.v c)) (ho:nth objs i=some (.box l)) (hl:nth l off=some (.d (.v old)))
  (hr:R g pf Fin (.dr ops rest::k) (putO E dst (.d (.v v))) (setN objs i (.box (setN l off (.d (.v new)))))):R g pf Fin (.dr ops (⟨dst,.call { callee:=.value (.func f),args:=(x::ys.toList).toArray,argTypes:=ts },ty,pos,after,gd⟩::rest)::k) E objs :=
 R_extB hg (x:=x) hgd hd hcl hx (by simp) ho hl (fun φ a w b hb hc hz _ hρ=>⟨v,by
  have key:∀ (zs:List Operand) (us:List Value),(∀ y∈zs,RV (SS g.S0 φ) w φ (ev E y) (a.eval y))→zs.map (ev E)=us.map (fun c=>AV.d (.v c))→zs.map a.eval=us:=by
   intro zs
   induction zs with
   | nil=>intro us _ h; cases us with
    | nil=>rfl
    | cons _ _=>simp at h
   | cons z zs ih =>
    intro us hz h
    cases us with
    | nil=>simp at h
    | cons u us =>
     simp only [List.map_cons,List.cons.injEq] at h ⊢
     have h1:=hz z (by simp)
     rw [h.1] at h1
     exact ⟨rv_const h1,ih us (fun y hy=>hz y (by simp [hy])) h.2⟩
  have he:=key ys.toList vs (fun y hy=>hρ y (by simp [hy])) hys
  have:=hf ⟨b,off,none⟩ w hc hz
  rw [← he,← hb] at this
  simpa using this,fun w'=>by simp only [RV]; exact .v _⟩) hr

theorem R_convU (hg:GOk g) {src dst' t:Nat} {dst:Option Nat} {x:Operand} {ty:Nat} {pos:String} {after:Array Edge} {gd:Option (Nat × Bool)} {rest:List Oper} {k:List It} {E:Env} {objs:List Ob} {i off:Nat} {l:List AV} {c:Value}
  (hs:g.P.underlying src=some (.pointer t)) (hdt:g.P.underlying dst'=some .unsafePointer) (hsz:(g.P.info? t).map (fun i=>decide (i.size=0))=some false) (hcl:pf 4000000010=.turn 90) (hgd:guardA ops.toList E gd=some true) (hd:dstOk ⟨g.ty,g.N⟩ dst=true) (hx:ev E x=.lo i off) (ho:nth objs i=some (.box l)) (hl:nth l off=some (.d (.v c)))
  (hr:R g pf Fin (.dr ops rest::k) (putO E dst (.lo i off)) objs):R g pf Fin (.dr ops (⟨dst,.convert src dst' x,ty,pos,after,gd⟩::rest)::k) E objs:=by
 refine R_op ?_ hr
 simp only [clsOf,cnvCls,hcl]
 refine .of_out hg (guardA_ok hgd) (dstOk_ok hd) (by simp) (fun _=>rfl) (fun b hb h9=>by cases hb; exact absurd rfl h9) fun φ o₁ o₁' a w E₁ he hv ho1 hs'=>?_
 have e:o₁=objs∧o₁'=objs:=by
  rcases ho1 with ⟨h,_⟩ | ⟨_,h,_⟩ | h
  ·cases h
  ·cases h
  ·exact h
 obtain ⟨rfl,rfl⟩:=e
 have hρ:=rv_ops (o:=⟨dst,.convert src dst' x,ty,pos,after,gd⟩) he hv
 simp only [Op.operands] at hρ
 have hxv:=hρ x (by simp)
 rw [hx] at hxv
 obtain ⟨b,hb,hc⟩:=hs_cell hs' ho hl hxv
 refine out_val hs' (vv:=a.eval x) ?_ hxv
 simp only [execOp,Sem.run_bind,hb,run_convert_to_unsafe hs hdt hsz hc,Result.andThen_ok,Sem.run_pure]

theorem R_fieldZ (hg:GOk g) {T n:Nat} {fs:Array Field} {fl:Field} {dst:Option Nat} {x:Operand} {ty:Nat} {pos:String} {after:Array Edge} {gd:Option (Nat × Bool)} {rest:List Oper} {k:List It} {E:Env} {objs:List Ob} {i off:Nat}
  (hT:g.P.underlying T=some (.struct fs)) (hf:fs[n]? = some fl) (hsz:((g.P.info? fl.type).map fun i=>decide (i.size=0))=some false) (hgd:guardA ops.toList E gd=some true) (hd:dstOk ⟨g.ty,g.N⟩ dst=true) (hx:ev E x=.lo i off)
  (hr:R g pf Fin (.dr ops rest::k) (putO E dst (.lo i (off+fl.offset))) objs):R g pf Fin (.dr ops (⟨dst,.fieldAddr T x n,ty,pos,after,gd⟩::rest)::k) E objs:=by
 refine R_op (LocOp.up (LocOp.quiet hg hgd hd (by simp) fun φ o₁ a w hρ hs=>?_)) hr
 simp only [Op.operands] at hρ
 have hxv:=hρ x (by simp)
 rw [hx] at hxv
 simp only [RV] at hxv
 obtain ⟨b,hb,hv⟩:=hxv
 have h3:∃ i,g.P.info? fl.type=some i∧i.size≠0:=by
  obtain ⟨i,h1,h2⟩:=Option.map_eq_some_iff.1 hsz
  exact ⟨i,h1,by simpa using h2⟩
 refine out_val hs (vv:=.pointer (some ⟨b,off+fl.offset,none⟩)) ?_ (by simp only [RV]; exact ⟨b,hb,rfl⟩)
 simp only [execOp,Sem.run_bind,hv,run_fieldAt hT hf h3,Result.andThen_ok,Sem.run_pure]
end
end PSL
namespace PSL
open Go Go.RowKit
section
variable {pf:Nat→Cls} {ops:Array Oper}

def ordGo3 (p q:Nat) (pf:Nat→Cls) (ops:Array Oper):List Oper→List Nat→List Oper→Bool
 | _,_,[]=>true
 | prev,acc,o::r =>
  (o.after.toList.all fun e=>!Region.binds .any e || Nat.blt e.on (len prev)) &&
  (prev.zipIdx.all fun x=>!conf pf ops x.1 o || (maskOf acc o).testBit x.2 || (Nat.beq x.2 p&&Nat.beq (len prev) q)) &&
  (Nat.ble (len prev) p || Nat.beq (len prev) q || (maskOf acc o).testBit p || (Nat.blt q (len prev)&&(maskOf acc o).testBit q)) &&
  ordGo3 p q pf ops (prev++[o]) (acc++[maskOf acc o]) r

theorem ordGo3_spec {p q:Nat} (hpq:p<q):∀ (rest prev:List Oper) (acc:List Nat),ops.toList=prev++rest→acc.length=prev.length→(∀ j i m,acc[j]? = some m→m.testBit i=true→Reach ops i j)→ordGo3 p q pf ops prev acc rest=true →
  ∀ (j:Nat) (o:Oper),prev.length≤j→ops[j]? = some o→(∀ e∈o.after.toList,Region.binds .any e=true→e.on<j)∧(∀ (i:Nat) (x:Oper),i<j→ops[i]? = some x→conf pf ops x o=true→Reach ops i j∨(i=p∧j=q))∧(p<j→j<q→Reach ops p j)∧(q<j→Reach ops p j∨Reach ops q j)
 | [],prev,acc,h,_,_,_,j,o,hj,ho=>by
  have:j<ops.size:=(Array.getElem?_eq_some_iff.1 ho).1
  have:ops.size=prev.length:=by rw [← Array.length_toList,h]; simp
  omega
 | o'::r,prev,acc,h,hl,hr,hg,j,o,hj,ho=>by
  simp only [ordGo3,Bool.and_eq_true] at hg
  obtain ⟨⟨⟨h1,h2⟩,h4⟩,h3⟩:=hg
  have hcur:ops[prev.length]? = some o':=by rw [← Array.getElem?_toList,h]; simp
  have hm:∀ i,(maskOf acc o').testBit i=true→Reach ops i prev.length:=fun i hi=>by
   obtain ⟨e,e1,e2,e3⟩:=maskOf_bit hi
   rcases e3 with e3 | ⟨m,e3,e4⟩
   ·exact .one hcur e1 e2 e3
   ·exact .step hcur e1 e2 rfl (hr _ _ _ e3 e4)
  rcases Nat.eq_or_lt_of_le hj with hj | hj
  ·subst hj
   rw [hcur] at ho; cases ho
   refine ⟨fun e he hbd=>?_,fun i x hi hx hc=>?_,fun hq hq2=>?_,fun hq=>?_⟩
   ·have:=List.all_eq_true.1 h1 e he
    rw [len_eq] at this
    simpa [Nat.blt_eq,hbd] using this
   ·have hmem:(x,i)∈prev.zipIdx:=by
     rw [List.mem_zipIdx_iff_getElem?]
     rw [← Array.getElem?_toList,h,List.getElem?_append_left hi] at hx
     exact hx
    have:=List.all_eq_true.1 h2 _ hmem
    simp only [hc,Bool.not_true,Bool.false_or,Bool.or_eq_true,Bool.and_eq_true] at this
    rcases this with this | ⟨g1,g2⟩
    ·exact .inl (hm i this)
    ·rw [len_eq] at g2; exact .inr ⟨natBeq g1,natBeq g2⟩
   ·simp only [Bool.or_eq_true,Bool.and_eq_true,len_eq,Nat.ble_eq,Nat.blt_eq] at h4
    rcases h4 with ((h4 | h4) | h4) | h4
    ·omega
    ·have:=natBeq h4; omega
    ·exact hm _ h4
    ·omega
   ·simp only [Bool.or_eq_true,Bool.and_eq_true,len_eq,Nat.ble_eq,Nat.blt_eq] at h4
    rcases h4 with ((h4 | h4) | h4) | h4
    ·omega
    ·have:=natBeq h4; omega
    ·exact .inl (hm _ h4)
    ·exact .inr (hm _ h4.2)
  ·refine ordGo3_spec hpq r (prev++[o']) (acc++[maskOf acc o']) (by rw [h]; simp) (by simp [hl]) (fun j i m hj hi=>?_) h3 j o (by simp; omega) ho
   rcases Nat.lt_or_ge j acc.length with hlt | hge
   ·rw [List.getElem?_append_left hlt] at hj; exact hr j i m hj hi
   ·rw [List.getElem?_append_right hge] at hj
    have:j - acc.length=0:=by
     rcases Nat.eq_zero_or_pos (j - acc.length) with h | h
     ·exact h
     ·rw [List.getElem?_eq_none (by simp; omega)] at hj; cases hj
    rw [this] at hj; simp at hj; subst hj
    have:j=prev.length:=by omega
    subst this
    exact hm i hi
variable {g:G}

theorem any_of_dr3 {p q:Nat} (hpq:p<q) (hok:∀ (j:Nat) (o:Oper),ops[j]? = some o→(∀ e∈o.after.toList,Region.binds .any e=true→e.on<j)∧(∀ (i:Nat) (x:Oper),i<j→ops[i]? = some x→conf pf ops x o=true→Reach ops i j∨(i=p∧j=q))∧(p<j→j<q→Reach ops p j)∧(q<j→Reach ops p j∨Reach ops q j))
  {K:Env→List Ob→Prop} (hK:KC K) {Q:Exit→Act→World→Prop} (hQ:∀ E objs a w,K E objs→Sat g E objs a w→Q .normal a w) {oa ob:Oper} (hoa:ops[p]? = some oa) (hob:ops[q]? = some ob) (mid post:List Nat) :
  ∀ (fuel:Nat) (listed:Array Bool) (pre:List Nat) (E E2:Env) (objs objs2:List Ob) (a:Act) (w:World),(∀ i∈pre,∀ o,ops[i]? = some o→plainOp o.op=true)→listed.size=ops.size→Cl ops listed→(∀ i,i∈pre++p::(mid++q::post)↔i<ops.size∧listed.getD i true=false)→(pre++p::(mid++q::post)).Pairwise (· < ·)→(pre++p::(mid++q::post)).length≤fuel →
   Dr g pf ops (pre.filterMap (ops[·]?)++oa::(mid.filterMap (ops[·]?)++ob::post.filterMap (ops[·]?))) E objs K→Sat g E objs a w→Dr g pf ops (pre.filterMap (ops[·]?)++ob::oa::(mid.filterMap (ops[·]?)++post.filterMap (ops[·]?))) E2 objs2 K→Sat g E2 objs2 a w→wpAnyIn g.F g.dep g.P .any ops Q fuel listed a w:=by
 have hokX:∀ (j:Nat) (o:Oper),ops[j]? = some o→(∀ e∈o.after.toList,Region.binds .any e=true→e.on<j)∧∀ (i:Nat) (x:Oper),i<j→ops[i]? = some x→conf pf ops x o=true→Reach ops i j∨(i=p∧j=q):=fun j o ho=>⟨(hok j o ho).1,(hok j o ho).2.1⟩
 intro fuel
 induction fuel with
 | zero=>intro listed pre E E2 objs objs2 a w _ hls hc hR _ hf hd hs _ _; simp at hf
 | succ fuel ih =>
  intro listed pre E E2 objs objs2 a w hpl hls hc hR hp hf hd hs hd2 hs2
  obtain ⟨pp1,pp2,pp3⟩:=List.pairwise_append.1 hp
  have hprep:∀ k∈pre,k<p:=fun k hk=>pp3 k hk p (by simp)
  have pp4:=(List.pairwise_cons.1 pp2).2
  have hmidp:∀ k∈mid,p<k:=fun k hk=>(List.pairwise_cons.1 pp2).1 k (by simp [hk])
  have hmidq:∀ k∈mid,k<q:=fun k hk=>(List.pairwise_append.1 pp4).2.2 k hk q (by simp)
  have hpost:∀ k∈post,q<k:=fun k hk=>(List.pairwise_cons.1 (List.pairwise_append.1 pp4).2.1).1 k hk
  have unl:∀ k,k∈pre++p::(mid++q::post)→listed.getD k false=false:=fun k hk=>by
   obtain ⟨h1,h2⟩:=(hR k).1 hk
   have hsz:k<listed.size:=by omega
   simp only [Array.getD,hsz,dif_pos] at h2 ⊢
   exact h2
  refine ⟨fun hnil=>?_,fun i hi=>?_⟩
  ·exfalso
   obtain ⟨k,R',hkR⟩:∃ k R',pre++p::(mid++q::post)=k::R':=by
    cases pre with
    | nil=>exact ⟨p,_,rfl⟩
    | cons k r=>exact ⟨k,_,rfl⟩
   rw [hkR] at hR hp
   obtain ⟨hk1,hk2⟩:=(hR k).1 (by simp)
   have ho:ops[k]? = some ops[k]:=Array.getElem?_eq_getElem hk1
   have:k∈Region.ready .any ops listed:=by
    refine mem_ready.2 ⟨hk1,hk2,ops[k],ho,fun e he hb=>?_⟩
    have hlt:=(hok k _ ho).1 e he hb
    have hnot:e.on ∉ (k::R'):=fun hm=>by
     rcases List.mem_cons.1 hm with hm | hm
     ·omega
     ·have:=(List.pairwise_cons.1 hp).1 _ hm; omega
    have hsz:e.on<listed.size:=by omega
    have h2:¬ (listed.getD e.on true=false):=fun h2=>hnot ((hR e.on).2 ⟨by omega,h2⟩)
    simp only [Array.getD,hsz,dif_pos] at h2 ⊢
    simpa using h2
   rw [hnil] at this; cases this
  ·obtain ⟨hi1,hi2,o,ho,hdeps⟩:=mem_ready.1 hi
   have hreachF:∀ k,k∈pre++p::(mid++q::post)→Reach ops k i→False:=fun k hk hr=>by
    have hl:=reach_listed hc hr (fun o' ho' e he hb=>by rw [ho] at ho'; cases ho'; exact hdeps e he hb)
    rw [unl k hk] at hl; cases hl
   have hconf:∀ k x,k∈pre++p::(mid++q::post)→k<i→ops[k]? = some x→¬ (k=p∧i=q)→conf pf ops x o=false:=fun k x hk hki hkx hne=>by
    cases hcf:conf pf ops x o
    ·rfl
    ·exfalso
     rcases (hok i o ho).2.1 k x hki hkx hcf with h | h
     ·exact hreachF k hk h
     ·exact hne h
   have hmem:=(hR i).2 ⟨hi1,hi2⟩
   rcases List.mem_append.1 hmem with hmem | hmem
   ·obtain ⟨preA,preB,rfl⟩:=List.append_of_mem hmem
    have e1:(preA++i::preB).filterMap (ops[·]?)=preA.filterMap (ops[·]?)++o::preB.filterMap (ops[·]?):=by
     rw [List.filterMap_append,List.filterMap_cons,ho]
    rw [e1] at hd hd2
    have hpreA:∀ k∈preA,k<i:=fun k hk=>(List.pairwise_append.1 pp1).2.2 k hk i (by simp)
    have hcf:∀ x∈preA.filterMap (ops[·]?),conf pf ops x o=false:=fun x hx=>by
     obtain ⟨k,hk,hkx⟩:=List.mem_filterMap.1 hx
     exact hconf k x (by simp [hk]) (hpreA k hk) hkx (fun ⟨h1,h2⟩=>by have:=hprep i (by simp); omega)
    rw [List.append_assoc,List.cons_append] at hd hd2
    obtain ⟨v,objs',hloc,hrest⟩:=Dr.front hK hcf hd
    obtain ⟨v2,objs2',hloc2,hrest2⟩:=Dr.front hK hcf hd2
    have hstep:=hloc.step E objs objs' a w (fun t _=>.refl _) (.inr (.inr ⟨rfl,rfl⟩)) hs Q
    have hstep2:=hloc2.step E2 objs2 objs2' a w (fun t _=>.refl _) (.inr (.inr ⟨rfl,rfl⟩)) hs2 Q
    have hboth:=wpOpIn_and (F:=g.F) (n:=g.dep) (P:=g.P) (Q:=Q) ho (hpl i (by simp) o ho) (K:=fun a' w'=>Sat g (putO E o.dst v) objs' a' w') (K':=fun a' w'=>Sat g (putO E2 o.dst v2) objs2' a' w') (by unfold wpOpIn; rw [ho]; exact hstep) (by unfold wpOpIn; rw [ho]; exact hstep2)
    refine wpOpIn_mono (fun a' w' hs'=>?_) hboth
    have hds:=draw_step (pre:=preA) (post:=preB++p::(mid++q::post)) hls hc (by intro k; rw [← hR k]; simp) (by simpa using hp) hi1 ho hdeps
    refine ih _ (preA++preB) _ _ objs' objs2' a' w' (fun j hj o' ho'=>hpl j (by simp only [List.mem_append,List.mem_cons] at hj ⊢; exact hj.imp id .inr) o' ho') hds.1 hds.2.1 (by intro k; rw [← hds.2.2.1 k]; simp) (by simpa using hds.2.2.2) (by simp at hf ⊢; omega) (by rw [List.filterMap_append,List.append_assoc]; exact hrest) hs'.1 (by rw [List.filterMap_append,List.append_assoc]; exact hrest2) hs'.2
   ·rcases List.mem_cons.1 hmem with hip | hmem
    ·subst hip
     rw [hoa] at ho; cases ho
     have hd1:=hd
     obtain ⟨v,objs',hloc,hrest⟩:=Dr.front hK (fun x hx=>by
      obtain ⟨k,hk,hkx⟩:=List.mem_filterMap.1 hx
      exact hconf k x (by simp [hk]) (hprep k hk) hkx (fun ⟨_,h2⟩=>by omega)) hd1
     have hstep:=hloc.step E objs objs' a w (fun t _=>.refl _) (.inr (.inr ⟨rfl,rfl⟩)) hs Q
     refine wpOpIn_mono (K:=fun a' w'=>Sat g (putO E oa.dst v) objs' a' w') (fun a' w' hs'=>?_) (by unfold wpOpIn; rw [hoa]; exact hstep)
     have hds:=draw_step (pre:=pre) (post:=mid++q::post) hls hc hR hp hi1 hoa hdeps
     refine any_of_drX hokX hK hQ fuel _ (pre++(mid++q::post)) _ objs' a' w' hds.1 hds.2.1 hds.2.2.1 hds.2.2.2 (by simp at hf ⊢; omega) (.inl fun h=>?_) (by rw [List.filterMap_append,List.filterMap_append,List.filterMap_cons,hob]; exact hrest) hs'
     rcases List.mem_append.1 h with h | h
     ·have:=hprep _ h; omega
     ·rcases List.mem_append.1 h with h | h
      ·have:=hmidp _ h; omega
      ·rcases List.mem_cons.1 h with h | h
       ·omega
       ·have:=hpost _ h; omega
    ·rcases List.mem_append.1 hmem with hmem | hmem
     ·exact (hreachF p (by simp) ((hok i o ho).2.2.1 (hmidp i hmem) (hmidq i hmem))).elim
     rcases List.mem_cons.1 hmem with hiq | hmem
     ·subst hiq
      rw [hob] at ho; cases ho
      have hd1:=hd2
      obtain ⟨v,objs',hloc,hrest⟩:=Dr.front hK (fun x hx=>by
       obtain ⟨k,hk,hkx⟩:=List.mem_filterMap.1 hx
       exact hconf k x (by simp [hk]) (by have:=hprep k hk; omega) hkx (fun ⟨h1,_⟩=>by have:=hprep k hk; omega)) hd1
      have hstep:=hloc.step E2 objs2 objs' a w (fun t _=>.refl _) (.inr (.inr ⟨rfl,rfl⟩)) hs2 Q
      refine wpOpIn_mono (K:=fun a' w'=>Sat g (putO E2 ob.dst v) objs' a' w') (fun a' w' hs'=>?_) (by unfold wpOpIn; rw [hob]; exact hstep)
      have hds:=draw_step (pre:=pre++p::mid) (post:=post) hls hc (by intro k; rw [← hR k]; simp) (by simpa using hp) hi1 hob hdeps
      refine any_of_drX hokX hK hQ fuel _ (pre++p::(mid++post)) _ objs' a' w' hds.1 hds.2.1 (by intro k; rw [← hds.2.2.1 k]; simp) (by simpa using hds.2.2.2) (by simp at hf ⊢; omega) (.inr fun h=>?_) (by rw [List.filterMap_append,List.filterMap_cons,hoa,List.filterMap_append]; exact hrest) hs'
      rcases List.mem_append.1 h with h | h
      ·have:=hprep _ h; omega
      ·rcases List.mem_cons.1 h with h | h
       ·omega
       ·rcases List.mem_append.1 h with h | h
        ·have:=hmidq _ h; omega
        ·have:=hpost _ h; omega
     ·exfalso
      rcases (hok i o ho).2.2.2 (hpost i hmem) with h | h
      ·exact hreachF p (by simp) h
      ·exact hreachF q (by simp) h

def moveL {α:Type} (p q:Nat) (l:List α):List α:=l.take p++((l.drop q).take 1++((l.drop p).take (q - p)++l.drop (q+1)))
def ord3 (p q:Nat) (pf:Nat→Cls) (ops:Array Oper):Bool:=Nat.blt p q&&Nat.blt q (len ops.toList)&&ordGo3 p q pf ops [] [] ops.toList

theorem fm_range {α:Type} (l:List α) (a n:Nat) (h:a+n≤l.length):(List.range' a n).filterMap (l[·]?)=(l.drop a).take n:=by
 induction n generalizing a with
 | zero=>simp
 | succ n ih =>
  rw [List.range'_succ,List.filterMap_cons,List.getElem?_eq_getElem (by omega)]
  simp only
  rw [ih (a+1) (by omega),List.drop_eq_getElem_cons (by omega:a<l.length),List.take_succ_cons]

theorem wp_draw3 (hg:GOk g) {p q:Nat} (hok:ord3 p q pf ops=true) {K:Env→List Ob→Prop} (hK:KC K) {Q:Exit→Act→World→Prop} (hQ:∀ E objs a w,K E objs→Sat g E objs a w→Q .normal a w)
  {E:Env} {objs:List Ob} (hpl:((ops.toList.take p).all fun o=>plainOp o.op)=true) (hd:Dr g pf ops ops.toList E objs K) (hd2:Dr g pf ops (moveL p q ops.toList) E objs K) {a:Act} {w:World} (hs:Sat g E objs a w) (id:Nat):(Code.region id ops true).wpIn g.F g.dep g.P Q a w:=by
 refine wpIn_region_any hg.mixed ?_
 simp only [ord3,Bool.and_eq_true,Nat.blt_eq,len_eq] at hok
 obtain ⟨⟨h1,h2⟩,h3⟩:=hok
 have hsz:ops.toList.length=ops.size:=by simp
 have hoa:ops[p]? = some ops[p]:=Array.getElem?_eq_getElem (by omega)
 have hob:ops[q]? = some ops[q]:=Array.getElem?_eq_getElem (by omega)
 have hrange:List.range ops.size=List.range' 0 p++p::(List.range' (p+1) (q - (p+1))++q::List.range' (q+1) (ops.size - (q+1))):=by
  obtain ⟨m,hm⟩:∃ m,ops.size=p+(1+((q - (p+1))+(1+m))):=⟨ops.size - (q+1),by omega⟩
  have e1:ops.size - (q+1)=m:=by omega
  rw [e1,List.range_eq_range',hm,← List.range'_append,← List.range'_append,← List.range'_append,← List.range'_append]
  have e2:0+1 * p=p:=by omega
  have e3:p+1 * 1=p+1:=by omega
  have e4:p+1+1 * (q - (p+1))=q:=by omega
  have e5:q+1 * 1=q+1:=by omega
  rw [e2,e3,e4,e5]
  simp [List.range'_succ]
 have f:∀ a n,a+n≤ops.size→(List.range' a n).filterMap (ops[·]?)=(ops.toList.drop a).take n:=fun a n h=>by
  have:=fm_range ops.toList a n (by omega)
  simpa using this
 have hpre:=f 0 p (by omega)
 have hmid:=f (p+1) (q - (p+1)) (by omega)
 have hpost:=f (q+1) (ops.size - (q+1)) (by omega)
 rw [List.drop_zero] at hpre
 have hpost':(List.range' (q+1) (ops.size - (q+1))).filterMap (ops[·]?)=ops.toList.drop (q+1):=by
  rw [hpost,List.take_of_length_le (by simp)]
 have ga:ops.toList=ops.toList.take p++ops[p]::((ops.toList.drop (p+1)).take (q - (p+1))++ops[q]::ops.toList.drop (q+1)):=by
  have h7:ops.toList=ops.toList.take p++ops.toList.drop p:=(List.take_append_drop _ _).symm
  have h8:ops.toList.drop p=ops[p]::ops.toList.drop (p+1):=by rw [List.drop_eq_getElem_cons (by omega)]; simp
  have h9:ops.toList.drop (p+1)=(ops.toList.drop (p+1)).take (q - (p+1))++ops.toList.drop q:=by
   conv=>lhs; rw [← List.take_append_drop (q - (p+1)) (ops.toList.drop (p+1))]
   rw [List.drop_drop,show p+1+(q - (p+1))=q by omega]
  have h10:ops.toList.drop q=ops[q]::ops.toList.drop (q+1):=by rw [List.drop_eq_getElem_cons (by omega)]; simp
  conv=>lhs; rw [h7,h8,h9,h10]
 have gb:moveL p q ops.toList=ops.toList.take p++ops[q]::ops[p]::((ops.toList.drop (p+1)).take (q - (p+1))++ops.toList.drop (q+1)):=by
  unfold moveL
  have h8:ops.toList.drop p=ops[p]::ops.toList.drop (p+1):=by rw [List.drop_eq_getElem_cons (by omega)]; simp
  have h10:ops.toList.drop q=ops[q]::ops.toList.drop (q+1):=by rw [List.drop_eq_getElem_cons (by omega)]; simp
  rw [h8,h10,show q - p=(q - (p+1))+1 by omega]
  simp
 rw [gb] at hd2
 rw [ga] at hd
 refine any_of_dr3 h1 (ops:=ops) (fun j o ho=>ordGo3_spec h1 (ops:=ops) ops.toList [] [] rfl rfl (by simp) h3 j o (Nat.zero_le _) ho) hK hQ hoa hob (List.range' (p+1) (q - (p+1))) (List.range' (q+1) (ops.size - (q+1))) ops.size (Array.replicate ops.size false) (List.range' 0 p) E E objs objs a _ ?_ (by simp) ?_ ?_ ?_ ?_ ?_ hs.drew ?_ hs.drew
 ·intro j hj o ho
  have hj:j<p:=by have:=List.mem_range'.1 hj; omega
  have:=List.all_eq_true.1 hpl o (List.mem_iff_getElem?.2 ⟨j,by rw [List.getElem?_take_of_lt hj,Array.getElem?_toList]; exact ho⟩)
  exact this
 ·intro k o hk
  simp [Array.getD] at hk
 ·intro i
  rw [← hrange]
  simp only [List.mem_range,Array.getD,Array.size_replicate]
  constructor
  ·intro h; simp [h]
  ·intro h; exact h.1
 ·rw [← hrange]; exact List.pairwise_lt_range
 ·rw [← hrange]; simp
 ·rw [hpre,hmid,hpost']; exact hd
 ·rw [hpre,hmid,hpost']; exact hd2

theorem R_pair3 {Fin:Exit→Act→World→Prop} (hg:GOk g) (p q:Nat) {id:Nat} {k:List It} {E:Env} {objs:List Ob} (hx:ord3 p q pf ops=true) (hpl:((ops.toList.take p).all fun o=>plainOp o.op)=true) (h1:R g pf Fin (.dr ops ops.toList::k) E objs) (h2:R g pf Fin (.dr ops (moveL p q ops.toList)::k) E objs):R g pf Fin (.code (.region id ops true)::k) E objs:=by
 rintro ⟨ho1,ho⟩
 have h1:=h1 ho
 have h2:=h2 ho
 simp only at h1 h2
 intro a w hs
 simp only [KP]
 have hQ:∀ E objs a w,RK g Fin k E objs→Sat g E objs a w→KP g Fin k .normal a w:=fun _ _ a w hr hs=>hr a w hs
 exact wp_draw3 hg hx (RK_kc k) hQ hpl h1 h2 hs id
end
end PSL
namespace PSL
open Go Go.RowKit
section
variable {g:G} {pf:Nat→Cls} {ops:Array Oper} {Fin:Exit→Act→World→Prop}

theorem R_callV (hg:GOk g) (hu:GUp g) {f:Nat} {axs:List AV} {r:AV} (hc:PCtr g.P f axs r) {dst:Option Nat} {x:Operand} {args:Array Operand} {ts:Array Nat} {ty:Nat} {pos:String} {after:Array Edge} {gd:Option (Nat × Bool)}
  {rest:List Oper} {k:List It} {E:Env} {objs:List Ob} {fs cs:List AV}
  (hgd:guardA ops.toList E gd=some true) (hd:dstOk ⟨g.ty,g.N⟩ dst=true) (hx:ev E x=.clo f fs cs) (has:fs++args.toList.map (ev E)++cs=axs) (hpa:pureL axs=true) (hpr:pureA r=true)
  (hr:R g pf Fin (.dr ops rest::k) (putO E dst r) objs) :
  R g pf Fin (.dr ops (⟨dst,.call { callee:=.value x,args:=args,argTypes:=ts },ty,pos,after,gd⟩::rest)::k) E objs:=by
 refine R_op (LocOp.up (c:=clsOf pf (.call { callee:=.value x,args:=args,argTypes:=ts })) ?_) hr
 refine ⟨fun _=>rfl,fun _ _ _=>.refl _,fun E₁ o₁ o₁' a w he ho' hs Q=>?_⟩
 have e:o₁'=o₁:=by
  rcases ho' with ⟨_,h⟩ | ⟨_,_,_,h⟩ | ⟨h,h'⟩
  ·exact h
  ·exact h
  ·rw [h,h']
 subst e
 obtain ⟨φ,h1,h2,h3,h4,h5,h6⟩:=hs
 rw [wanted_of (guardA_ok hgd) he h3]
 simp only [if_true]
 refine ⟨about_ok hg _ w a,?_⟩
 have hρ:=rv_ops (o:=⟨dst,.call { callee:=.value x,args:=args,argTypes:=ts },ty,pos,after,gd⟩) he h3
 simp only [Op.operands,Call.operands] at hρ
 have hxv:=hρ x (by simp)
 rw [hx] at hxv
 simp only [RV] at hxv
 obtain ⟨va,vc,hxv,hfs,hcs⟩:=hxv
 have hargs:RVs (SS g.S0 φ) w φ (args.toList.map (ev E)) (args.toList.map a.eval):=RVs.map _ _ _ fun y hy=>hρ y (by simp [hy])
 have hall:=(hfs.append hargs).append hcs
 rw [has] at hall
 have hall:RVs (SS g.S0 φ) w [] axs _:=RVs.pure (fun b hb _=>⟨hb,rfl⟩) hpa hall
 rw [Oper.semAt_eq _ _ _ (by simp),run_callv rfl hxv hc.call]
 refine ⟨fun h=>by rw [hg.depth] at h; simp at h,?_⟩
 have hcall:=hc.run (SS g.S0 φ) w _ (hg.ambAt h2 h6) (fun b hb=>⟨h1.up b hb,fun hc=>by have:=h1.lt b hc; omega⟩) hall
 refine (callsIn_free hg hcall).mono ?_
 rintro e w' ⟨v,rfl,hv,hb⟩
 have hst:Stp g.S0 φ w φ _ w':=⟨h1.later hb.size (fun b hb'=>hb.block b hb'),.of fun b hb' hl=>⟨hb',hb.block b hl⟩,.refl _,hb.size,hb.os,hb.tape,hb.output,fun b hb' _=>hb.block b hb',fun _ h=>.inl h,fun _ _ _ B h=>⟨B,h⟩⟩
 exact Sat.stp h2 h3 h4 h5 h6 hst (dstOk_ok hd) fun _=>RV.pure (.of fun b hb _=>⟨hb,rfl⟩) hpr hv
end

theorem SCtr.nil {P:Program} {Y:YP} {f sz s:Nat} {axs:List AV} {rows:List (List D)} (h:SCtr P Y f (.ow 0 0::axs) [.arr sz 0 []] (.ow 0 s) [.arr sz s rows]) (hp:pureL axs=true):PCtr P f (.d (.v (.slice none 0 0))::axs) (.d (.sl rows)):=by
 refine ⟨h.call,fun S w vals ha hS hv=>?_⟩
 cases vals with
 | nil=>simp [RVs] at hv
 | cons v vs =>
  simp only [RVs,RV] at hv
  obtain ⟨hv1,hv2⟩:=hv
  cases hv1
  have hnb:∀ b,¬ bls [Phy.sli sz 0 (.slice none 0 0) none] b:=by
   rintro b ⟨i,p,h1,h2⟩
   cases i with
   | zero=>simp at h1; subst h1; simp [Phy.bl] at h2
   | succ i=>simp at h1
  have hHS:HS S [Phy.sli sz 0 (.slice none 0 0) none] [.arr sz 0 []] w:=by
   refine ⟨rfl,fun i ph ob h1 h2=>?_,fun i j p q b h1 h2 h3 h4=>absurd ⟨i,p,h1,h3⟩ (hnb b),fun b hb=>absurd hb (hnb b),hS⟩
   cases i with
   | zero=>simp at h1 h2; subst h1; subst h2; simp only [ObOk]; exact ⟨trivial,trivial,by simp,.inl ⟨none,rfl,trivial,trivial⟩⟩
   | succ i=>simp at h1
  have hk:Keep S w (SS S [Phy.sli sz 0 (.slice none 0 0) none]) w:=fun b hb _=>⟨⟨hb,hnb b⟩,rfl⟩
  have hcall:=h.run S _ w (.slice none 0 0::vs) (ha.keep hk) hHS (fun b hb=>absurd hb (hnb b)) (fun i l I B hi=>by
   cases i with
   | zero=>simp at hi
   | succ i=>simp at hi) (by
    simp only [RVs,RV]
    refine ⟨⟨⟨none,0,0,rfl⟩,_,rfl,fun sz' s' x' ob' he=>?_⟩,RVs.pure hk hp hv2⟩
    cases he; exact ⟨Nat.le_refl _,fun _=>rfl⟩)
  refine hcall.mono ?_
  rintro e w' ⟨v,φ',rfl,hr,hst⟩
  have hbl:∀ b,bls φ' b→S b:=fun b hb=>(hst.own b hb).elim (fun h=>absurd h (hnb b)) (hS b)
  refine ⟨v,rfl,?_,⟨hst.os,hst.tape,hst.out,hst.size,fun b hb=>hst.fr b hb (hnb b)⟩⟩
  exact sealA_ok hbl hst.hs 5 hr (by simp [sealA,nth])
end PSL
namespace PSL
open Go Go.RowKit
section
variable {g:G} {pf:Nat→Cls} {ops:Array Oper} {Fin:Exit→Act→World→Prop}

theorem R_convB (hg:GOk g) {dst:Option Nat} {S D:Nat} {x:Operand} {ty:Nat} {pos:String} {after:Array Edge} {gd:Option (Nat × Bool)} {rest:List Oper} {k:List It} {E:Env} {objs:List Ob}
  {q by_ q' by':Nat} {z z':List Value} {kk k2:IntKind} {n:Int} (c:ByteArray)
  (hgd:guardA ops.toList E gd=some true) (hd:dstOk ⟨g.ty,g.N⟩ dst=true) (hx:ev E x=.d (.v (.int k2 n))) (hS:g.ty S=some ⟨q,by_,z,.int kk⟩) (hD:g.ty D=some ⟨q',by',z',.str⟩) (hc:Utf8.encode n=c)
  (hr:R g pf Fin (.dr ops rest::k) (putO E dst (.d (.v (.string c)))) objs):R g pf Fin (.dr ops (⟨dst,.convert S D x,ty,pos,after,gd⟩::rest)::k) E objs:=by
 subst hc
 refine R_op (LocOp.up (LocOp.quiet hg hgd hd (by simp) fun φ objs w' w hρ hs'=>?_)) hr
 simp only [Op.operands] at hρ
 have hxv:=hρ x (by simp)
 rw [hx] at hxv
 simp only [RV] at hxv
 generalize hvx:w'.eval x=vx at hxv
 cases hxv
 have hu:=(hg.ty _ _ hS).sh
 have hv:=(hg.ty _ _ hD).sh
 simp only [ShFact] at hu hv
 refine out_val hs' (vv:=.string (Utf8.encode n)) ?_ (by simp only [RV]; exact .v _)
 simp [execOp,hvx,convert,run_underlying hu,run_underlying hv,Conv.intToString]
def byRows (l:List UInt8):List (List D):=l.map fun b=>[.v (.int .u8 b.toNat)]

theorem bytes_foldl:∀ (l:List UInt8) (s:ByteArray),(l.map fun b=>(b.toNat:Int)).foldl (fun r n=>r.push (UInt8.ofNat n.toNat)) s=⟨s.data++l.toArray⟩
 | [],s=>by simp
 | b::l,s=>by
  simp only [List.map_cons,List.foldl_cons]
  rw [bytes_foldl l]
  have:UInt8.ofNat ((b.toNat:Int)).toNat=b:=by simp
  rw [this]
  show ByteArray.mk (s.data.push b++l.toArray)=_
  congr 1
  apply Array.ext'
  simp

theorem R_convD (hg:GOk g) {dst:Option Nat} {S D:Nat} {x:Operand} {ty:Nat} {pos:String} {after:Array Edge} {gd:Option (Nat × Bool)} {rest:List Oper} {k:List It} {E:Env} {objs:List Ob}
  {q by_ q' by' q2 by2 e:Nat} {z z' z2:List Value} (l:List UInt8)
  (hgd:guardA ops.toList E gd=some true) (hd:dstOk ⟨g.ty,g.N⟩ dst=true) (hx:nrm (ev E x)=.d (.sl (byRows l))) (hS:g.ty S=some ⟨q,by_,z,.slice e⟩) (he:g.ty e=some ⟨q2,by2,z2,.int .u8⟩) (hD:g.ty D=some ⟨q',by',z',.str⟩)
  (hr:R g pf Fin (.dr ops rest::k) (putO E dst (.d (.v (.string ⟨l.toArray⟩)))) objs):R g pf Fin (.dr ops (⟨dst,.convert S D x,ty,pos,after,gd⟩::rest)::k) E objs:=by
 refine R_op (LocOp.up (LocOp.quiet hg hgd hd (by simp) fun φ objs w' w hρ hs'=>?_)) hr
 simp only [Op.operands] at hρ
 have hxv:=Ent.nrm _ _ _ _ _ (hρ x (by simp))
 rw [hx] at hxv
 simp only [RV] at hxv
 have hu:=(hg.ty _ _ hS).sh
 have hv:=(hg.ty _ _ hD).sh
 have hw:=(hg.ty _ _ he).sh
 simp only [ShFact] at hu hv hw
 obtain ⟨cells,hf⟩:=Fst.of_rd (P:=g.P) hxv (sz:=1) (by intro r hr; obtain ⟨b,_,rfl⟩:=List.mem_map.1 hr; rfl)
 generalize hvx:w'.eval x=vx at hxv hf
 refine out_val hs' (vv:=.string ⟨l.toArray⟩) ?_ (by simp only [RV]; exact .v _)
 obtain ⟨p,c,hvv⟩:=hf.sl
 have hlen:(byRows l).length=l.length:=by simp [byRows]
 have hcells:cells=l.map fun b=>Value.int .u8 (b.toNat:Int):=by
  apply List.ext_getElem?
  intro i
  by_cases hi:i<l.length
  ·have hb:(byRows l)[i]? = some [.v (.int .u8 (l[i]'hi).toNat)]:=by rw [byRows,List.getElem?_map,List.getElem?_eq_getElem hi]; rfl
   obtain ⟨y,h1,h2⟩:=hf.rd i _ 0 _ hb rfl
   cases h2
   rw [Nat.mul_one,Nat.add_zero] at h1
   rw [h1,List.getElem?_map,List.getElem?_eq_getElem hi]; rfl
  ·rw [List.getElem?_eq_none (by rw [hf.len,hlen]; omega),List.getElem?_eq_none (by simp; omega)]
 have hconv:(convert S D vx).run g.P w=.ok (.string ⟨l.toArray⟩) w:=by
  rw [hvv,run_convert_bytes_string w S D e p _ c hu hw hv]
  cases p with
  | none =>
   have h0:l=[]:=by
    rw [hvv] at hxv
    generalize byRows l=R at hxv hlen
    cases hxv
    exact List.length_eq_zero_iff.1 hlen.symm
   subst h0
   simp [Conv.bytesToString]; rfl
  | some ad =>
   rw [hlen]
   rw [run_bytesToString w ad l.length c (l.map fun b=>(b.toNat:Int)) ?_]
   ·rw [bytes_foldl]; simp
   ·have:=hf.run w rfl
    rw [hvv,hlen,hcells] at this
    simp only [Builtin.firstCells,Nat.mul_one] at this
    rw [List.map_map]
    simpa [Function.comp_def] using this
 simp only [execOp,hvx,Sem.run_bind,hconv,Result.andThen_ok,Sem.run_pure]

theorem R_rangeS (hg:GOk g) {dst:Option Nat} {T:Nat} {x:Operand} {ty:Nat} {pos:String} {after:Array Edge} {gd:Option (Nat × Bool)} {rest:List Oper} {k:List It} {E:Env} {objs:List Ob}
  {q by_:Nat} {z:List Value} {s:ByteArray}
  (hgd:guardA ops.toList E gd=some true) (hd:dstOk ⟨g.ty,g.N⟩ dst=true) (hx:ev E x=.d (.v (.string s))) (hT:g.ty T=some ⟨q,by_,z,.str⟩)
  (hr:R g pf Fin (.dr ops rest::k) (putO E dst (.lo (len objs) 0)) (objs++[.itr s 0])):R g pf Fin (.dr ops (⟨dst,.range T x,ty,pos,after,gd⟩::rest)::k) E objs:=by
 refine R_op (LocOp.effect hg hgd hd (by simp) fun φ a w hρ hs=>?_) hr
 simp only [Op.operands] at hρ
 have hxv:=hρ x (by simp)
 rw [hx] at hxv
 simp only [RV] at hxv
 generalize hvx:a.eval x=vx at hxv
 cases hxv
 have hu:=(hg.ty _ _ hT).sh
 simp only [ShFact] at hu
 refine ⟨.value (.pointer (some ⟨w.heap.size,0,none⟩)),.pointer (some ⟨w.heap.size,0,none⟩),w.alloc (.stringIter s 0),φ++[.blk w.heap.size],?_,.inl rfl,?_,?_⟩
 ·simp only [execOp,hvx,Instr.range,Sem.run_bind,run_underlying hu,Result.andThen_ok,Sem.run_pure,run_newObj]
  rfl
 ·simp only [RV]
  exact ⟨w.heap.size,by rw [len_eq,← hs.len]; simp,rfl⟩
 ·refine Stp.new hs (fun b hb=>by simp only [Phy.bl] at hb; exact hb.symm) ?_
  simp only [ObOk]
  exact heap_alloc_new _ _

theorem R_nextS (hg:GOk g) {dst:Option Nat} {x:Operand} {ty:Nat} {pos:String} {after:Array Edge} {gd:Option (Nat × Bool)} {rest:List Oper} {k:List It} {E:Env} {objs:List Ob}
  {i p:Nat} {s:ByteArray} {c wd:Nat}
  (hgd:guardA ops.toList E gd=some true) (hd:dstOk ⟨g.ty,g.N⟩ dst=true) (hx:ev E x=.lo i 0) (ho:nth objs i=some (.itr s p)) (hp:p<s.size) (hc:Utf8.decode s p=(c,wd))
  (hr:R g pf Fin (.dr ops rest::k) (putO E dst (.tup [.tt,iV p,.d (.v (.int .i32 c))])) (setN objs i (.itr s (p+wd)))):R g pf Fin (.dr ops (⟨dst,.next x true,ty,pos,after,gd⟩::rest)::k) E objs:=by
 refine R_op (LocOp.effect hg hgd hd (by simp) fun φ a w hρ hs=>?_) hr
 simp only [Op.operands] at hρ
 have hxv:=hρ x (by simp)
 rw [hx] at hxv
 simp only [RV] at hxv
 obtain ⟨b,hph,hvx⟩:=hxv
 have hk:=obj_at hs hph ho
 simp only [ObOk] at hk
 have hbl:b<w.heap.size:=(Array.getElem?_eq_some_iff.1 hk).1
 refine ⟨.value (.tuple #[.bool true,.int .i64 p,.int .i32 c]),.tuple #[.bool true,.int .i64 p,.int .i32 c],w.putObj b (.stringIter s (p+wd)),φ.set i (.blk b),?_,.inl rfl,?_,?_⟩
 ·have hget:(getObj b).run g.P w=.ok (.stringIter s p) w:=by simp [getObj,Sem.run,hk]
  have hset:(setObj b (.stringIter s (p+wd))).run g.P w=.ok () (w.putObj b (.stringIter s (p+wd))):=by simp [setObj,Sem.run,hk,World.putObj]
  simp only [execOp,hvx,Instr.next,Sem.run_bind,hget,Result.andThen_ok]
  rw [if_pos hp]
  simp only [hc,Sem.run_bind,hset,Result.andThen_ok,Sem.run_pure]
  rfl
 ·simp only [RV,RVs]
  exact ⟨[_,_,_],rfl,rfl,by simp only [iV,RV]; exact .v _,.v _,trivial⟩
 ·rw [setN_eq]
  refine Stp.swap hs hph (.inl rfl) (by simp) (fun c _ hc=>World.putObj_heap_other fun e=>hc (by rw [e]; rfl)) (fun b' hb=>.inl hb) rfl rfl rfl fun _ _=>?_
  simp only [ObOk]
  exact World.putObj_heap_same hbl

theorem R_nextE (hg:GOk g) {dst:Option Nat} {x:Operand} {ty:Nat} {pos:String} {after:Array Edge} {gd:Option (Nat × Bool)} {rest:List Oper} {k:List It} {E:Env} {objs:List Ob}
  {i p:Nat} {s:ByteArray}
  (hgd:guardA ops.toList E gd=some true) (hd:dstOk ⟨g.ty,g.N⟩ dst=true) (hx:ev E x=.lo i 0) (ho:nth objs i=some (.itr s p)) (hp:s.size≤p)
  (hr:R g pf Fin (.dr ops rest::k) (putO E dst (.tup [.ff])) objs):R g pf Fin (.dr ops (⟨dst,.next x true,ty,pos,after,gd⟩::rest)::k) E objs:=by
 refine R_op (LocOp.effect hg hgd hd (by simp) fun φ a w hρ hs=>?_) hr
 simp only [Op.operands] at hρ
 have hxv:=hρ x (by simp)
 rw [hx] at hxv
 simp only [RV] at hxv
 obtain ⟨b,hph,hvx⟩:=hxv
 have hk:=obj_at hs hph ho
 simp only [ObOk] at hk
 refine out_val hs (vv:=.tuple #[.bool false]) ?_ (by simp only [RV,RVs]; exact ⟨[_],rfl,rfl,trivial⟩)
 have hget:(getObj b).run g.P w=.ok (.stringIter s p) w:=by simp [getObj,Sem.run,hk]
 simp only [execOp,hvx,Instr.next,Sem.run_bind,hget,Result.andThen_ok]
 rw [if_neg (by omega)]
 simp only [Sem.run_pure,Result.andThen_ok]

theorem R_lenStr (hg:GOk g) {dst:Option Nat} {T:Nat} {x:Operand} {ty:Nat} {pos:String} {after:Array Edge} {gd:Option (Nat × Bool)} {rest:List Oper} {k:List It} {E:Env} {objs:List Ob}
  {q by_:Nat} {z:List Value} {s:ByteArray} {n:Int}
  (hgd:guardA ops.toList E gd=some true) (hd:dstOk ⟨g.ty,g.N⟩ dst=true) (hx:ev E x=.d (.v (.string s))) (hT:g.ty T=some ⟨q,by_,z,.str⟩) (hn:(s.size:Int)=n)
  (hr:R g pf Fin (.dr ops rest::k) (putO E dst (iV n)) objs):R g pf Fin (.dr ops (⟨dst,.call { callee:=.builtin .len,args:=#[x],argTypes:=#[T] },ty,pos,after,gd⟩::rest)::k) E objs:=by
 subst hn
 refine R_op (LocOp.up (LocOp.quiet hg hgd hd (by simp) fun φ objs a w hρ hs=>?_)) hr
 simp only [Op.operands,Call.operands] at hρ
 have hxv:=hρ x (by simp)
 rw [hx] at hxv
 simp only [RV] at hxv
 generalize hvx:a.eval x=vx at hxv
 cases hxv
 have hu:=(hg.ty _ _ hT).sh
 simp only [ShFact] at hu
 refine out_val hs (vv:=.int .i64 s.size) ?_ (by simp only [RV,iV]; exact .v _)
 simp [execOp,resolve,invoke,builtin,Builtin.len_,hvx,run_underlying hu,Result.andThen]
 rfl
end
end PSL
namespace PSL
open Go Go.RowKit
section
variable {g:G} {pf:Nat→Cls} {ops:Array Oper} {Fin:Exit→Act→World→Prop}

theorem R_buildO (hg:GOk g) {dst:Option Nat} {T n:Nat} {parts:Array (Nat × Operand)} {ty:Nat} {pos:String} {after:Array Edge} {gd:Option (Nat × Bool)} {rest:List Oper} {k:List It} {E:Env} {objs:List Ob}
  {q by_ e sz:Nat} {z:List Value} {τ:Ty} (rows:List (List D))
  (hgd:guardA ops.toList E gd=some true) (hd:dstOk ⟨g.ty,g.N⟩ dst=true) (hcl:bsCls pf=.turn 0) (hT:g.ty T=some ⟨q,by_,z,.slice e⟩) (he:g.ty e=some τ) (hrows:rowsOf (parts.toList.map fun p=>(p.1,ev E p.2)) 0 τ.size=some rows) (hn:rows.length=n) (hsz:τ.size=sz) (hb:n * sz≤100000) (hb2:n≤100000)
  (hr:R g pf Fin (.dr ops rest::k) (putO E dst (.ow (len objs) 0)) (objs++[.arr sz 0 rows])):R g pf Fin (.dr ops (⟨dst,.buildSlice T n parts,ty,pos,after,gd⟩::rest)::k) E objs:=by
 subst hsz
 refine R_op ?_ hr
 simp only [clsOf,hcl]
 refine LocOp.turning hg (.add _ _) hgd hd (by simp) fun φ a w hρ hs=>?_
 have hsl:=(hg.ty _ _ hT).sh
 simp only [ShFact] at hsl
 have hτ:=hg.ty _ _ he
 have hρ':∀ p∈parts.toList,RV (SS g.S0 φ) w φ (ev E p.2) (a.eval p.2):=fun p hp=>hρ p.2 (by
  simp only [Op.operands,Array.toList_map,List.mem_map]
  exact ⟨p,hp,rfl⟩)
 have hlp:rows.length=parts.size:=by
  have key:∀ (l:List (Nat × AV)) (k:Nat) (rs:List (List D)),rowsOf l k τ.size=some rs→rs.length=l.length:=by
   intro l
   induction l with
   | nil=>intro k rs h; simp [rowsOf] at h; subst h; rfl
   | cons x l ih =>
    intro k rs h
    obtain ⟨i,x⟩:=x
    simp only [rowsOf] at h
    obtain ⟨_,h⟩:=bifO h
    split at h
    ·cases h
    split at h
    ·obtain ⟨_,h⟩:=bifO h
     split at h
     ·rename_i hl; cases h; simp [ih _ _ hl]
     ·cases h
    ·cases h
  simpa using key _ _ _ hrows
 obtain ⟨zv,hz1,hz2⟩:=run_zeroValue hτ w
 have hzl:=hτ.zl
 have hzs:zv.cells.size=τ.size:=by rw [← hz2] at hzl; simpa using hzl
 generalize hrest:(if n * τ.size=0 then ([]:List Value) else ((List.range (n * τ.size)).map fun i=>zv.cells[i % zv.cells.size]!))=rest
 have hrl:rest.length=n * τ.size:=by
  rw [← hrest]
  split
  ·rename_i h0; rw [h0]; rfl
  ·simp only [List.length_map,List.length_range]
 obtain ⟨cells,h1,h2,h2',h3⟩:=rows_fill (S0:=g.S0) (φ:=φ) (w:=w) hτ (parts.toList.map fun p=>(p.1,ev E p.2)) (parts.toList.map fun p=>(p.1,a.eval p.2)) 0 rows [] rest
  (by simp [List.map_map,Function.comp_def]) (by simp only [List.map_map]; exact RVs.map _ _ _ fun p hp=>hρ' p hp) hrows (by simp) (by rw [hrl,← hn,hlp]; simp)
 simp only [List.nil_append] at h1
 have hpm:(parts.map fun (i,x)=>(i,a.eval x)).toList=parts.toList.map fun p=>(p.1,a.eval p.2):=by simp [Array.toList_map]
 have hrun:(Instr.buildSlice T n (parts.map fun (i,x)=>(i,a.eval x))).run g.P w=.ok (.slice (some ⟨w.heap.size,0,none⟩) n n) (w.alloc (.cells cells.toArray e)):=by
  have h0:¬ (n * τ.size > 2 ^ 24):=by omega
  simp only [Instr.buildSlice,underlying,Sem.run_bind,run_program,Result.andThen_ok,hsl,Sem.run_pure,run_sizeOf hτ]
  rw [Sem.run_ite]
  rw [if_neg h0]
  by_cases hz0:n * τ.size=0
  ·rw [Sem.run_ite,if_pos hz0]
   have hr0:rest=[]:=List.length_eq_zero_iff.1 (by omega)
   rw [hr0] at h1
   simp only [Sem.run_pure,Result.andThen_ok,hz0,hpm,newRow,Sem.run_bind]
   simp only [show (Array.map (fun x=>(#[]:Array Value)[x % (#[]:Array Value).size]!) (Array.range 0))=([]:List Value).toArray from by simp,h1,Sem.run_bind,run_newObj,Result.andThen_ok,Sem.run_pure]
   rfl
  ·rw [Sem.run_ite,if_neg hz0]
   have:(Array.range (n * τ.size)).map (fun x=>zv.cells[x % zv.cells.size]!)=rest.toArray:=by
    rw [← hrest,if_neg hz0]; apply Array.toList_inj.1; simp [Array.toList_range]
   simp only [Sem.run_bind,hz1,Sem.run_pure,Result.andThen_ok,this,hpm,h1,newRow,run_newObj]
   rfl
 refine ⟨.value (.slice (some ⟨w.heap.size,0,none⟩) n n),.slice (some ⟨w.heap.size,0,none⟩) n n,w.alloc (.cells cells.toArray e),φ++[.sli τ.size 0 (.slice (some ⟨w.heap.size,0,none⟩) n n) (some w.heap.size)],?_,.inl rfl,?_,?_⟩
 ·simp only [execOp,Sem.run_bind,hrun,Result.andThen_ok,Sem.run_pure]
 ·simp only [RV]
  refine ⟨⟨_,_,_,rfl⟩,.sli τ.size 0 (.slice (some ⟨w.heap.size,0,none⟩) n n) (some w.heap.size),by rw [len_eq,← hs.len]; simp,fun sz' s' x' ob' he=>?_⟩
  cases he
  exact ⟨Nat.le_refl _,fun _=>rfl⟩
 ·refine Stp.new hs (fun b hb=>by simp only [Phy.bl] at hb; cases hb; rfl) ?_
  simp only [ObOk]
  refine ⟨trivial,trivial,fun r hr=>?_,.inr ⟨w.heap.size,0,n,cells,e,by rw [hn],rfl,heap_alloc_new _ _,by omega,by unfold maxLen; omega,by rw [h2,hn]; omega,fun i r j x hi hj=>?_⟩⟩
  ·obtain ⟨i,hi⟩:=List.mem_iff_getElem?.1 hr
   exact (h3 i r hi).1
  ·obtain ⟨u,hu1,hu2⟩:=(h3 i r hi).2 j x hj
   exact ⟨u,by rw [Nat.zero_add]; exact hu1,hu2.mono (keep_new (fun b hb=>by simp only [Phy.bl] at hb; cases hb; rfl))⟩

theorem R_indexOJ (hg:GOk g) (m:Nat) {dst:Option Nat} {T:Nat} {x i:Operand} {ty:Nat} {pos:String} {after:Array Edge} {gd:Option (Nat × Bool)} {rest:List Oper} {k:List It} {E:Env} {objs:List Ob}
  {id s sz q by_ e:Nat} {z:List Value} {τ:Ty} {rows:List (List D)} {n:Int}
  (hgd:guardA ops.toList E gd=some true) (hd:dstOk ⟨g.ty,g.N⟩ dst=true) (hcl:ixCls pf=.look (m+1)) (hmay:¬ mayO g.φ0.length m id (.arr sz s rows)) (hx:ev E x=.ow id s) (ho:nth objs id=some (.arr sz s rows)) (hi:ev E i=.d (.v (.int .i64 n))) (hT:g.ty T=some ⟨q,by_,z,.slice e⟩) (he:g.ty e=some τ) (hsz:τ.size=sz)
  (h0:0≤n) (hlt:n.toNat<rows.length)
  (hr:R g pf Fin (.dr ops rest::k) (putO E dst (.el id s n.toNat 0)) objs):R g pf Fin (.dr ops (⟨dst,.indexAddr T x i,ty,pos,after,gd⟩::rest)::k) E objs:=by
 refine R_op ?_ hr
 simp only [clsOf,hcl]
 refine LocOp.lookingM hg m hgd hd (by simp) fun φ a w objs₁ hgr hρ hs=>?_
 simp only [Op.operands] at hρ
 have hxv:=hρ x (by simp)
 rw [hx] at hxv
 have hiv:=hρ i (by simp)
 rw [hi] at hiv
 simp only [RV] at hiv
 generalize hvi:a.eval i=vi at hiv
 cases hiv
 have ho:nth objs₁ id=some (.arr sz s rows):=by
  have h:=hxv
  simp only [RV] at h
  obtain ⟨_,ph,hph,_⟩:=h
  rw [nth_eq] at ho ⊢
  exact Gr.same' hgr ho (by rw [← hs.len]; exact (List.getElem?_eq_some_iff.1 hph).1) hmay
 obtain ⟨_,h1⟩:=own_slice hs hxv ho
 rcases h1 with h1 | ⟨b,o,cap,cs,T',h1,h2,h3,_⟩
 ·subst h1; simp at hlt
 refine out_val hs (vv:=.pointer (some ⟨b,o+n.toNat * sz,none⟩)) ?_ ?_
 ·have hrun:(Instr.indexAt T (a.eval x) (a.eval i)).run g.P w=.ok (.pointer (some ⟨b,o+n.toNat * sz,none⟩)) w:=by
   simp only [Instr.indexAt,h1,hvi,asIntOf,underlying,Sem.run_bind,Sem.run_pure,run_program,Result.andThen_ok,und_slice hg hT]
   rw [Sem.run_ite,if_pos ⟨h0,by omega⟩]
   simp only [Sem.run_bind,run_sizeOf (hg.ty _ _ he),Result.andThen_ok,Sem.run_pure,add_none,hsz]
  simp only [execOp,Sem.run_bind,hrun,Result.andThen_ok,Sem.run_pure]
 ·simp only [RV]
  refine ⟨⟨_,_,rfl⟩,_,h2,fun sz' s' x' ob' h=>?_⟩
  cases h
  exact ⟨Nat.le_refl _,fun _=>⟨b,o,_,_,h1,rfl⟩⟩

theorem R_loadEJ (hg:GOk g) (m:Nat) {dst:Option Nat} {T:Nat} {x:Operand} {ty:Nat} {pos:String} {after:Array Edge} {gd:Option (Nat × Bool)} {rest:List Oper} {k:List It} {E:Env} {objs:List Ob}
  {id s sz r j:Nat} {τ:Ty} {rows:List (List D)} {row:List D} {v:AV}
  (hgd:guardA ops.toList E gd=some true) (hd:dstOk ⟨g.ty,g.N⟩ dst=true) (hcl:ldClsAt pf x=.look (m+1)) (hmay:¬ mayO g.φ0.length m id (.arr sz s rows)) (hx:ev E x=.el id s r j) (ho:nth objs id=some (.arr sz s rows)) (hT:g.ty T=some τ) (hrow:rows[r]? = some row) (hp:packA τ (row.map .d) j=some v)
  (hr:R g pf Fin (.dr ops rest::k) (putO E dst v) objs):R g pf Fin (.dr ops (⟨dst,.load T x,ty,pos,after,gd⟩::rest)::k) E objs:=by
 refine R_op ?_ hr
 simp only [clsOf,hcl]
 refine LocOp.lookingM hg m hgd hd (by simp) fun φ a w objs₁ hgr hρ hs=>?_
 simp only [Op.operands] at hρ
 have hxv:=hρ x (by simp)
 rw [hx] at hxv
 simp only [RV] at hxv
 obtain ⟨_,ph,hph,hxv⟩:=hxv
 have ho:nth objs₁ id=some (.arr sz s rows):=by
  rw [nth_eq] at ho ⊢
  exact Gr.same' hgr ho (by rw [← hs.len]; exact (List.getElem?_eq_some_iff.1 hph).1) hmay
 have hk:=obj_at hs hph ho
 cases ph <;> try (simp only [ObOk] at hk; done)
 rename_i sz2 s2 v2 ob2
 simp only [ObOk] at hk
 obtain ⟨rfl,rfl,hlen,hk⟩:=hk
 obtain ⟨b,o,n,cap,h1,h2⟩:=(hxv _ _ _ _ rfl).2 rfl
 rcases hk with ⟨a2,_,rfl,_⟩ | ⟨b',o',cap2,cs,T',h3,rfl,hheap,hn,hcap,hle,hrd⟩
 ·simp at hrow
 rw [h1] at h3
 simp only [Value.slice.injEq,Option.some.injEq,Addr.mk.injEq] at h3
 obtain ⟨⟨rfl,rfl,_⟩,hnn,hcc⟩:=h3
 subst hcc
 have hrl:=hlen row (List.mem_of_getElem? hrow)
 have hrlt:=(List.getElem?_eq_some_iff.1 hrow).1
 have hτ:=hg.ty _ _ hT
 have hfit:o+r * sz+sz≤cs.length:=by
  have:(r+1) * sz≤cap * sz:=Nat.mul_le_mul_right _ (by omega)
  rw [Nat.succ_mul] at this; omega
 have hrv:RVs (SS g.S0 φ) w φ (row.map .d) ((cs.drop (o+r * sz)).take sz):=by
  refine RVs.of_get (by simp; omega) fun m u v hu hv=>?_
  rw [List.getElem?_map] at hu
  cases hm:row[m]? with
  | none=>rw [hm] at hu; cases hu
  | some y =>
   rw [hm] at hu; simp at hu; subst hu
   have hml:=(List.getElem?_eq_some_iff.1 hm).1
   obtain ⟨y',h4,h5⟩:=hrd r row m y hrow hm
   rw [List.getElem?_take_of_lt (by omega),List.getElem?_drop,h4] at hv
   cases hv
   simp only [RV]; exact h5
 obtain ⟨h4,h5⟩:=pack_ok hτ hrv hp
 rcases h4 with ⟨h0,ha⟩ | h4
 ·exact ok_load hs rfl h2 (run_loadVar0 hτ ha h0 _ _) h5
 ·simp only [List.length_take,List.length_drop] at h4
  rcases Nat.eq_zero_or_pos τ.size with hz | hz
  ·have ha:τ.agg=true:=by
    cases ha:τ.agg
    ·have:=hτ.one ha; omega
    ·rfl
   exact ok_load hs rfl h2 (run_loadVar0 hτ ha hz _ _) h5
  ·have h6:(List.drop j (List.take sz (List.drop (o+r * sz) cs))).take τ.size=(cs.drop (o+r * sz+j)).take τ.size:=by
    rw [List.drop_take,List.take_take,List.drop_drop,Nat.min_eq_left (by omega)]
   rw [h6] at h5
   exact ok_load hs rfl h2 (run_loadVar hτ hheap (o+r * sz+j) (by omega)) h5
end
end PSL

namespace PSL
open Go
namespace Tm

mutual
def occ:Tm→List Int
 | mk k _ n l=>if k=1 then [n] else occL l
def occL:List Tm→List Int
 | []=>[]
 | t::r=>occ t++occL r
end

mutual
theorem withV_occ:∀ (t:Tm) (a:List Int),withV a t=(occ t).foldl addV a
 | mk k s n l,a=>by
  simp only [withV,occ]
  split
  ·rfl
  ·exact withVL_occ l a
theorem withVL_occ:∀ (l:List Tm) (a:List Int),withVL a l=(occL l).foldl addV a
 | [],a=>rfl
 | t::r,a=>by simp only [withVL,occL,List.foldl_append,withV_occ t a,withVL_occ r]
end

mutual
theorem occ_of:∀ {t:Tm} {d:Int} {e:Int × Tm},e∈els t d→e.2.k=1→plain t=true→e.2.n∈occ t
 | mk k s n l,d,e,he,hk,hp=>by
  simp only [els,List.mem_cons] at he
  simp only [plain,Bool.and_eq_true] at hp
  rcases he with rfl | he
  ·have hk:k=1:=hk
   simp only [occ,if_pos hk]
   show n∈[n]; simp
  ·have hl:=occL_of he hk hp.2
   by_cases h1:k=1
   ·have:l=[]:=by
     have h2:=hp.1
     simp only [h1,beq_self_eq_true,Bool.true_and,Bool.not_not] at h2
     simpa using h2
    subst this
    simp [elsL] at he
   ·simp only [occ,if_neg h1]; exact hl
theorem occL_of:∀ {l:List Tm} {d:Int} {e:Int × Tm},e∈elsL l d→e.2.k=1→plainL l=true→e.2.n∈occL l
 | [],_,_,he,_,_=>by simp [elsL] at he
 | t::r,d,e,he,hk,hp=>by
  simp only [elsL,List.mem_append] at he
  simp only [plainL,Bool.and_eq_true] at hp
  simp only [occL,List.mem_append]
  rcases he with he | he
  ·exact .inl (occ_of he hk hp.1)
  ·exact .inr (occL_of he hk hp.2)
end

theorem kindR_var {s:ByteArray} {n:Int} {m:Nat} (h:kindR 1 s n m=true):0≤n∧n<1000000∧s=ByteArray.empty∧m=0:=by
 simp only [kindR,if_true,Bool.and_eq_true,decide_eq_true_eq,strEq_iff,beq_iff_eq] at h
 obtain ⟨⟨⟨h1,h2⟩,h3⟩,h4⟩:=h
 exact ⟨h1,h2,h3,by omega⟩

mutual
theorem fair_plain:∀ (t:Tm),fairR t=true→plain t=true
 | mk k s n l,h=>by
  simp only [fairR,Bool.and_eq_true] at h
  simp only [plain,Bool.and_eq_true,fairL_plain l h.1.2,and_true,Bool.not_eq_true',Bool.and_eq_false_iff]
  by_cases hk:k=1
  ·subst hk
   have:=(kindR_var h.2).2.2.2
   right; cases l <;> simp at this ⊢
  ·left; simpa using hk
theorem fairL_plain:∀ (l:List Tm),fairRL l=true→plainL l=true
 | [],_=>rfl
 | t::r,h=>by
  simp only [fairRL,Bool.and_eq_true] at h
  simp only [plainL,fair_plain t h.1,fairL_plain r h.2,Bool.and_self]
end

mutual
theorem occ_range:∀ (t:Tm),fairR t=true→∀ v∈occ t,0≤v∧v<1000000
 | mk k s n l,h,v,hv=>by
  simp only [fairR,Bool.and_eq_true] at h
  simp only [occ] at hv
  split at hv
  ·rename_i hk
   subst hk
   simp at hv; subst hv
   have:=kindR_var h.2
   exact ⟨this.1,this.2.1⟩
  ·exact occL_range l h.1.2 v hv
theorem occL_range:∀ (l:List Tm),fairRL l=true→∀ v∈occL l,0≤v∧v<1000000
 | [],_,v,hv=>by simp [occL] at hv
 | t::r,h,v,hv=>by
  simp only [fairRL,Bool.and_eq_true] at h
  simp only [occL,List.mem_append] at hv
  exact hv.elim (occ_range t h.1 v) (occL_range r h.2 v)
end

mutual
theorem occ_turn (g:Int→Int):∀ (t:Tm),occ (turnT g t)=(occ t).map g
 | mk k s n l=>by
  simp only [turnT,occ]
  split
  ·rfl
  ·exact occL_turn g l
theorem occL_turn (g:Int→Int):∀ (l:List Tm),occL (turnTL g l)=(occL l).map g
 | []=>rfl
 | t::r=>by simp only [turnTL,occL,List.map_append,occ_turn g t,occL_turn g r]
end

mutual
theorem turn_congr {g g':Int→Int}:∀ (t:Tm),fairR t=true→(∀ v∈occ t,g v=g' v)→turnT g t=turnT g' t
 | mk k s n l,h,hv=>by
  simp only [fairR,Bool.and_eq_true] at h
  simp only [turnT]
  by_cases hk:k=1
  ·subst hk
   have hl:=(kindR_var h.2).2.2.2
   have hl:l=[]:=List.length_eq_zero_iff.1 hl
   subst hl
   rw [if_pos rfl,if_pos rfl,hv n (by simp [occ])]
   rfl
  ·rw [if_neg hk,if_neg hk,turnL_congr l h.1.2 fun v h'=>hv v (by simp only [occ,if_neg hk]; exact h')]
theorem turnL_congr {g g':Int→Int}:∀ (l:List Tm),fairRL l=true→(∀ v∈occL l,g v=g' v)→turnTL g l=turnTL g' l
 | [],_,_=>rfl
 | t::r,h,hv=>by
  simp only [fairRL,Bool.and_eq_true] at h
  simp only [turnTL]
  rw [turn_congr t h.1 fun v h'=>hv v (by simp [occL,h']),turnL_congr r h.2 fun v h'=>hv v (by simp [occL,h'])]
end

mutual
theorem turn_self:∀ (t:Tm),turnT (fun n=>n) t=t
 | mk k s n l=>by simp [turnT,turnL_self l]
theorem turnL_self:∀ (l:List Tm),turnTL (fun n=>n) l=l
 | []=>rfl
 | t::r=>by simp only [turnTL,turn_self t,turnL_self r]
end
theorem turnTL_len (g:Int→Int) (l:List Tm):(turnTL g l).length=l.length:=by rw [turnTL_map]; simp

mutual
theorem size_turn (g:Int→Int):∀ (t:Tm),size (turnT g t)=size t
 | mk k s n l=>by simp only [turnT,size,sizeL_turn g l]
theorem sizeL_turn (g:Int→Int):∀ (l:List Tm),sizeL (turnTL g l)=sizeL l
 | []=>rfl
 | t::r=>by simp only [turnTL,sizeL,size_turn g t,sizeL_turn g r]
end

mutual
theorem depth_turn (g:Int→Int):∀ (t:Tm),depth (turnT g t)=depth t
 | mk k s n l=>by simp only [turnT,depth,depthL_turn g l]
theorem depthL_turn (g:Int→Int):∀ (l:List Tm),depthL (turnTL g l)=depthL l
 | []=>rfl
 | t::r=>by simp only [turnTL,depthL,depth_turn g t,depthL_turn g r]
end

mutual
theorem fair_turn (g:Int→Int):∀ (t:Tm),fairR t=true→(∀ v∈occ t,0≤g v∧g v<1000000)→fairR (turnT g t)=true
 | mk k s n l,h,hv=>by
  simp only [fairR,Bool.and_eq_true] at h
  simp only [turnT,fairR,Bool.and_eq_true,turnTL_len]
  by_cases hk:k=1
  ·subst hk
   obtain ⟨_,_,h3,h4⟩:=kindR_var h.2
   have hl:l=[]:=List.length_eq_zero_iff.1 h4
   subst hl; subst h3
   obtain ⟨h5,h6⟩:=hv n (by simp [occ])
   refine ⟨⟨h.1.1,rfl⟩,?_⟩
   simp only [kindR,if_true,Bool.and_eq_true,decide_eq_true_eq]
   exact ⟨⟨⟨h5,h6⟩,strEq_iff.2 rfl⟩,by rfl⟩
  ·rw [if_neg hk]
   exact ⟨⟨h.1.1,fairL_turn g l h.1.2 fun v h'=>hv v (by simp only [occ,if_neg hk]; exact h')⟩,h.2⟩
theorem fairL_turn (g:Int→Int):∀ (l:List Tm),fairRL l=true→(∀ v∈occL l,0≤g v∧g v<1000000)→fairRL (turnTL g l)=true
 | [],_,_=>rfl
 | t::r,h,hv=>by
  simp only [fairRL,Bool.and_eq_true] at h
  simp only [turnTL,fairRL,Bool.and_eq_true]
  exact ⟨fair_turn g t h.1 fun v h'=>hv v (by simp [occL,h']),fairL_turn g r h.2 fun v h'=>hv v (by simp [occL,h'])⟩
end

theorem rightB_iff {t:Tm}:rightB t=true↔fairR t=true∧t.size≤3000∧t.depth≤100:=by
 simp only [rightB,Bool.and_eq_true,decide_eq_true_eq,and_assoc]

theorem right_turn {g:Int→Int} {t:Tm} (h:rightB t=true) (hv:∀ v∈occ t,0≤g v∧g v<1000000):rightB (turnT g t)=true:=by
 rw [rightB_iff] at h ⊢
 exact ⟨fair_turn g t h.1 hv,by rw [size_turn]; exact h.2.1,by rw [depth_turn]; exact h.2.2⟩

def once (l:List Int):List Int:=l.foldl addV []

theorem mem_addV {a:List Int} {x v:Int}:v∈addV a x↔v∈a∨v=x:=by
 unfold addV
 split
 ·rename_i h
  have:x∈a:=by simpa using h
  constructor
  ·exact .inl
  ·rintro (h | rfl)
   ·exact h
   ·exact this
 ·simp

theorem mem_foldl {l:List Int}:∀ {a:List Int} {v:Int},v∈l.foldl addV a↔v∈a∨v∈l:=by
 induction l with
 | nil=>simp
 | cons x l ih=>intro a v; simp only [List.foldl_cons,ih,mem_addV,List.mem_cons,or_assoc]
theorem mem_once {l:List Int} {v:Int}:v∈once l↔v∈l:=by simp [once,mem_foldl]
end Tm

theorem varsT_once {l:List Tm} (h:Tm.fairRL l=true):varsT l=Tm.once (Tm.occL l):=by
 rw [varsT_with l (Tm.fairL_plain l h),Tm.withVL_occ]; rfl
def placeG (l:List Int) (n:Int):Int:=if atI l n 0<0 then 0 else atI l n 0
end PSL
namespace PSL
open Go

theorem fair_names {t:Tm} (h:t.fairR=true):∀ d e,e∈t.els d→e.2.s.size<1000000000:=fun d e he=>by
 have h1:=(Tm.fair_els t d).2 h e he
 rw [Tm.ownT_eq] at h1
 simp only [Bool.and_eq_true,Tm.kindR] at h1
 have h2:=h1.2
 split at h2
 ·simp only [Bool.and_eq_true,Tm.strEq_iff] at h2
  rw [h2.1.2]; decide
 ·split at h2
  ·simp only [Bool.and_eq_true,Tm.strEq_iff] at h2
   rw [h2.1]; decide
  ·simp only [Bool.and_eq_true,decide_eq_true_eq] at h2
   have:=h2.1.2; omega
theorem right_fair {t:Tm} (h:t.rightB=true):t.fairR=true:=(Tm.rightB_iff.1 h).1
def zeroT:Tm:=.mk 0 ByteArray.empty 0 []

def numberT (l:List Tm):List Tm × Int × Int :=
 if l.all rightT then (Tm.turnTL (placeG (varsT l)) l,(varsT l).length,0) else ([],0,1)
theorem one_fair {t:Tm} (h:t.fairR=true):Tm.fairRL [t]=true:=by simp [Tm.fairRL,h]
theorem varsT_mem {l:List Tm} (h:Tm.fairRL l=true) {v:Int}:v∈varsT l↔v∈Tm.occL l:=by rw [varsT_once h,Tm.mem_once]

theorem occ_sub {l:List Tm} {t:Tm} (ht:t∈l) {v:Int} (hv:v∈Tm.occ t):v∈Tm.occL l:=by
 induction l with
 | nil=>simp at ht
 | cons x l ih =>
  simp only [Tm.occL,List.mem_append]
  rcases List.mem_cons.1 ht with rfl | ht
  ·exact .inl hv
  ·exact .inr (ih ht)
theorem fairL_of {l:List Tm} (h:∀ t∈l,t.rightB=true):Tm.fairRL l=true:=Tm.fairRL_iff.2 fun t ht=>right_fair (h t ht)

theorem rightL_turn {l:List Tm} {g:Int→Int} (h:∀ t∈l,t.rightB=true) (hg:∀ v∈Tm.occL l,0≤g v∧g v<1000000):∀ t∈Tm.turnTL g l,t.rightB=true:=by
 intro t ht
 rw [Tm.turnTL_map] at ht
 obtain ⟨x,hx,rfl⟩:=List.mem_map.1 ht
 exact Tm.right_turn (h x hx) fun v hv=>hg v (occ_sub hx hv)
end PSL
namespace PSL
open Go

structure IsTerm (ty:Nat→Option Ty) (T:Nat):Prop where
 ex:∃ (a b c s:Nat) (τ τa τb τc τs:Ty),ty T=some τ∧τ.sh=.struct [(0,a),(1,b),(2,c),(3,s)]∧τ.size=4∧1≤τ.bytes∧ty a=some τa∧τa.sh=.int .i64∧ty b=some τb∧τb.sh=.str∧ty c=some τc∧τc.sh=.int .i64∧ty s=some τs∧τs.sh=.slice T

def isTermB (ty:Nat→Option Ty) (T:Nat):Bool :=
 match ty T with
 | some ⟨4,by_,_,.struct [(0,a),(1,b),(2,c),(3,s)]⟩=>Nat.ble 1 by_&&(match ty a with | some ⟨_,_,_,.int .i64⟩=>true | _=>false)&&(match ty b with | some ⟨_,_,_,.str⟩=>true | _=>false) &&
   (match ty c with | some ⟨_,_,_,.int .i64⟩=>true | _=>false)&&(match ty s with | some ⟨_,_,_,.slice T'⟩=>Nat.beq T' T | _=>false)
 | _=>false

theorem isTermB_ok {ty:Nat→Option Ty} {T:Nat} (h:isTermB ty T=true):IsTerm ty T:=by
 unfold isTermB at h
 split at h
 case h_2=>cases h
 rename_i by_ z a b c s hT
 simp only [Bool.and_eq_true] at h
 obtain ⟨⟨⟨⟨h0,h1⟩,h2⟩,h3⟩,h4⟩:=h
 split at h1
 case h_2=>cases h1
 rename_i ha
 split at h2
 case h_2=>cases h2
 rename_i hb
 split at h3
 case h_2=>cases h3
 rename_i hc
 split at h4
 case h_2=>cases h4
 rename_i hs
 have:=natBeq h4
 subst this
 exact ⟨a,b,c,s,_,_,_,_,_,hT,rfl,rfl,Nat.le_of_ble_eq_true h0,ha,rfl,hb,rfl,hc,rfl,hs,rfl⟩

theorem has_int {ty:Nat→Option Ty} {B n t:Nat} {τ:Ty} {row:List D} {k:IntKind} (hτ:ty t=some τ) (hs:τ.sh=.int k) (h:HasTy ty B n t row):∃ m,row=[.v (.int k m)]∧k.min≤m∧m≤k.max:=by
 cases n with
 | zero=>simp [HasTy] at h
 | succ n=>simpa only [HasTy,hτ,hs] using h

theorem has_str {ty:Nat→Option Ty} {B n t:Nat} {τ:Ty} {row:List D} (hτ:ty t=some τ) (hs:τ.sh=.str) (h:HasTy ty B n t row):∃ s:ByteArray,row=[.v (.string s)]∧s.size≤B:=by
 cases n with
 | zero=>simp [HasTy] at h
 | succ n=>simpa only [HasTy,hτ,hs] using h

theorem has_slice {ty:Nat→Option Ty} {B n t e:Nat} {τ:Ty} {row:List D} (hτ:ty t=some τ) (hs:τ.sh=.slice e) (h:HasTy ty B (n+1) t row):∃ rows:List (List D),row=[.sl rows]∧(∀ τ,ty e=some τ→rows.length * τ.bytes≤B)∧∀ r∈rows,HasTy ty B n e r:=by
 simpa only [HasTy,hτ,hs] using h

def Tm.Fit (t:Tm):Prop:=∀ d e,e∈t.els d→I64 e.2.k∧I64 e.2.n

theorem tm_of {ty:Nat→Option Ty} {T B:Nat} (hT:IsTerm ty T) (hB:B≤140737488355328):∀ (n:Nat) (row:List D),HasTy ty B n T row→∃ t:Tm,row=t.row∧t.Ok∧t.Fit:=by
 obtain ⟨a,b,c,s,τ,τa,τb,τc,τs,h1,h2,h3,hby,ha,ha',hb,hb',hc,hc',hs,hs'⟩:=hT.ex
 intro n
 induction n using Nat.strongRecOn with
 | _ n ih =>
 intro row h
 cases n with
 | zero=>simp [HasTy] at h
 | succ n =>
  simp only [HasTy,h1,h2,HasFs] at h
  obtain ⟨_,ra,_,g1,rfl,g2,g3,_,rb,_,g4,rfl,g5,g6,_,rc,_,g7,rfl,g8,g9,_,rs,_,g10,rfl,g11,g12,rfl⟩:=h
  rw [ha] at g1; cases g1
  rw [hb] at g4; cases g4
  rw [hc] at g7; cases g7
  rw [hs] at g10; cases g10
  obtain ⟨k,rfl,hk⟩:=has_int ha ha' g3
  obtain ⟨nm,rfl,hnm⟩:=has_str hb hb' g6
  obtain ⟨m,rfl,hm⟩:=has_int hc hc' g9
  cases n with
  | zero=>simp [HasTy] at g12
  | succ n =>
   obtain ⟨rows,rfl,hlen,hrows⟩:=has_slice hs hs' g12
   have hch:∃ l:List Tm,rows=l.map Tm.row∧∀ x∈l,x.Ok∧x.Fit:=by
    clear hlen g11 g12
    induction rows with
    | nil=>exact ⟨[],rfl,by simp⟩
    | cons r rows ihr =>
     obtain ⟨t,ht1,ht2⟩:=ih n (by omega) r (hrows r (by simp))
     obtain ⟨l,hl1,hl2⟩:=ihr fun r hr=>hrows r (by simp [hr])
     exact ⟨t::l,by simp [ht1,hl1],by simpa using ⟨ht2,hl2⟩⟩
   obtain ⟨l,rfl,hl⟩:=hch
   have hll:l.length≤B:=by
    have:=hlen τ h1
    rw [List.length_map] at this
    exact Nat.le_trans (Nat.le_mul_of_pos_right _ hby) this
   refine ⟨.mk k nm m l,by simp [Tm.row,Tm.k,Tm.s,Tm.n,Tm.l,Tm.rows_eq],?_,?_⟩
   ·intro d e he
    simp only [Tm.els,List.mem_cons] at he
    rcases he with rfl | he
    ·exact ⟨show l.length≤_ by omega,show nm.size≤_ by omega⟩
    ·obtain ⟨x,hx,hex⟩:=Tm.elsL_mem he
     exact (hl x hx).1 _ _ hex
   ·intro d e he
    simp only [Tm.els,List.mem_cons] at he
    rcases he with rfl | he
    ·exact ⟨hk,hm⟩
    ·obtain ⟨x,hx,hex⟩:=Tm.elsL_mem he
     exact (hl x hx).2 _ _ hex

theorem arg_tm {ty:Nat→Option Ty} {T B:Nat} (hT:IsTerm ty T) (hB:B≤140737488355328) {n:Nat} {τ:Ty} {row:List D} {a:AV} (hτ:ty T=some τ) (h:HasTy ty B n T row) (ha:a=avOf τ row):∃ t:Tm,a=t.av∧t.Ok∧t.Fit:=by
 obtain ⟨t,rfl,h1⟩:=tm_of hT hB n row h
 refine ⟨t,?_,h1⟩
 obtain ⟨a',b,c,s,τ',τa,τb,τc,τs,g1,g2,_⟩:=hT.ex
 rw [hτ] at g1; cases g1
 rw [ha]; unfold avOf Ty.agg
 rw [g2]; rfl
theorem sh_of {ty:Nat→Option Ty} {t:Nat} {τ:Ty} {sh:Sh} (h:ty t=some τ) (h2:(ty t).map Ty.sh=some sh):τ.sh=sh:=by rw [h] at h2; simpa using h2

theorem argsC {ty:Nat→Option Ty} {B t:Nat} {ts:List Nat} {axs:List AV} (h:ArgsAre ty B (t::ts) axs):∃ (n:Nat) (τ:Ty) (row:List D) (a:AV) (as':List AV),axs=a::as'∧ty t=some τ∧HasTy ty B n t row∧a=avOf τ row∧ArgsAre ty B ts as':=by
 match axs,h with
 | a::axs,h=>simp only [ArgsAre] at h; obtain ⟨⟨n,τ,row,h1,h2,_,h3⟩,h4⟩:=h; exact ⟨n,τ,row,a,axs,rfl,h1,h2,h3,h4⟩
 | [],h=>simp [ArgsAre] at h

theorem args0 {ty:Nat→Option Ty} {B:Nat} {axs:List AV} (h:ArgsAre ty B [] axs):axs=[]:=by
 cases axs with
 | nil=>rfl
 | cons _ _=>simp [ArgsAre] at h
end PSL
namespace PSL
open Go
namespace Tm
end Tm
namespace Tm
end Tm
end PSL
namespace PSL
open Go
namespace Tm
end Tm
end PSL
namespace PSL
open Go
def fwdP (P:List (Int × Int)) (n:Int):Option Int:=(P.find? (fun p=>p.1==n)).map (·.2)
def bwdP (P:List (Int × Int)) (n:Int):Option Int:=(P.find? (fun p=>p.2==n)).map (·.1)

def varFit (n n':Int) (P:List (Int × Int)):Bool × List (Int × Int) :=
 match fwdP P n,bwdP P n' with
 | none,none=>(true,P++[(n,n')])
 | some x,some y=>(x==n'&&y==n,P)
 | _,_=>(false,P)
namespace Tm

mutual
def fitsT:Tm→Tm→List (Int × Int)→Bool × List (Int × Int)
 | mk k s n l,mk k' s' n' l',P =>
  if k≠k'∨strEq s s'=false∨l.length≠l'.length then (false,P)
  else if k≠1 then (if n≠n' then (false,P) else fitsL l l' P) else varFit n n' P
def fitsL:List Tm→List Tm→List (Int × Int)→Bool × List (Int × Int)
 | x::a,y::b,P=>if (fitsT x y P).1 then fitsL a b (fitsT x y P).2 else fitsT x y P
 | _,_,P=>(true,P)
end
def goodP (P:List (Int × Int)):Prop:=∀ x∈P,∀ y∈P,x.1=y.1↔x.2=y.2

theorem fwd_some {P:List (Int × Int)} {n x:Int} (h:fwdP P n=some x):(n,x)∈P:=by
 unfold fwdP at h
 obtain ⟨p,hp,rfl⟩:=Option.map_eq_some_iff.1 h
 have:=List.find?_some hp
 have h1:p.1=n:=by simpa using this
 subst h1; exact List.mem_of_find?_eq_some hp

theorem bwd_some {P:List (Int × Int)} {n x:Int} (h:bwdP P n=some x):(x,n)∈P:=by
 unfold bwdP at h
 obtain ⟨p,hp,rfl⟩:=Option.map_eq_some_iff.1 h
 have:=List.find?_some hp
 have h1:p.2=n:=by simpa using this
 subst h1; exact List.mem_of_find?_eq_some hp

theorem fwd_none {P:List (Int × Int)} {n:Int} (h:fwdP P n=none):∀ p∈P,p.1≠n:=by
 unfold fwdP at h
 have:=List.find?_eq_none.1 (Option.map_eq_none_iff.1 h)
 intro p hp e; exact this p hp (by simp [e])

theorem bwd_none {P:List (Int × Int)} {n:Int} (h:bwdP P n=none):∀ p∈P,p.2≠n:=by
 unfold bwdP at h
 have:=List.find?_eq_none.1 (Option.map_eq_none_iff.1 h)
 intro p hp e; exact this p hp (by simp [e])

theorem goodP_congr {P Q:List (Int × Int)} (h:∀ z,z∈P↔z∈Q):goodP P↔goodP Q :=
 ⟨fun hp x hx y hy=>hp x ((h x).2 hx) y ((h y).2 hy),fun hp x hx y hy=>hp x ((h x).1 hx) y ((h y).1 hy)⟩
theorem goodP_sub {P Q:List (Int × Int)} (h:∀ z,z∈P→z∈Q) (hq:goodP Q):goodP P:=fun x hx y hy=>hq x (h x hx) y (h y hy)

theorem varFit_ok {n n':Int} {P:List (Int × Int)} (hP:goodP P):((varFit n n' P).1=true↔goodP (P++[(n,n')]))∧((varFit n n' P).1=true→∀ z,z∈(varFit n n' P).2↔z∈P++[(n,n')]):=by
 unfold varFit
 cases h1:fwdP P n with
 | none =>
  cases h2:bwdP P n' with
  | none =>
   refine ⟨⟨fun _ x hx y hy=>?_,fun _=>rfl⟩,fun _ z=>Iff.rfl⟩
   have a1:=fwd_none h1
   have a2:=bwd_none h2
   rcases List.mem_append.1 hx with hx | hx <;> rcases List.mem_append.1 hy with hy | hy
   ·exact hP x hx y hy
   ·obtain rfl:y=(n,n'):=by simpa using hy
    exact ⟨fun e=>absurd e (a1 x hx),fun e=>absurd e (a2 x hx)⟩
   ·obtain rfl:x=(n,n'):=by simpa using hx
    exact ⟨fun e=>absurd e.symm (a1 y hy),fun e=>absurd e.symm (a2 y hy)⟩
   ·obtain rfl:x=(n,n'):=by simpa using hx
    obtain rfl:y=(n,n'):=by simpa using hy
    simp
  | some y =>
   have m:=bwd_some h2
   have a1:=fwd_none h1
   refine ⟨⟨fun h=>by simp at h,fun h=>?_⟩,fun h=>by simp at h⟩
   have:=(h (y,n') (by simp [m]) (n,n') (by simp)).2 rfl
   exact absurd this (a1 _ m)
 | some x =>
  have m1:=fwd_some h1
  cases h2:bwdP P n' with
  | none =>
   have a2:=bwd_none h2
   refine ⟨⟨fun h=>by simp at h,fun h=>?_⟩,fun h=>by simp at h⟩
   have:=(h (n,x) (by simp [m1]) (n,n') (by simp)).1 rfl
   exact absurd this (a2 _ m1)
  | some y =>
   have m2:=bwd_some h2
   simp only [Bool.and_eq_true,beq_iff_eq]
   refine ⟨⟨fun ⟨e1,e2⟩=>?_,fun h=>?_⟩,fun ⟨e1,e2⟩ z=>?_⟩
   ·subst e1
    exact goodP_sub (fun z hz=>by rcases List.mem_append.1 hz with hz | hz; exact hz; obtain rfl:z=_:=(by simpa using hz); exact m1) hP
   ·exact ⟨(h (n,x) (by simp [m1]) (n,n') (by simp)).1 rfl,(h (y,n') (by simp [m2]) (n,n') (by simp)).2 rfl⟩
   ·subst e1
    constructor
    ·intro hz; exact List.mem_append_left _ hz
    ·intro hz; rcases List.mem_append.1 hz with hz | hz; exact hz; obtain rfl:z=_:=(by simpa using hz); exact m1

abbrev bare (t:Tm):Tm:=turnT (fun _=>0) t
abbrev bareL (l:List Tm):List Tm:=turnTL (fun _=>0) l

theorem occ_bare_len {a b:Tm} (h:bare a=bare b):(occ a).length=(occ b).length:=by
 have:=congrArg occ h
 simp only [bare,occ_turn] at this
 simpa using congrArg List.length this

theorem fairR_mk {k:Int} {s:ByteArray} {n:Int} {l:List Tm} (h:fairR (mk k s n l)=true):fairRL l=true∧(k=1→s=ByteArray.empty∧l=[]):=by
 simp only [fairR,Bool.and_eq_true] at h
 refine ⟨h.1.2,fun hk=>?_⟩
 subst hk
 have:=kindR_var h.2
 exact ⟨this.2.2.1,List.length_eq_zero_iff.1 this.2.2.2⟩

mutual
theorem fits_ok:∀ (a b:Tm) (P:List (Int × Int)),fairR a=true→fairR b=true→goodP P→((fitsT a b P).1=true↔bare a=bare b∧goodP (P++(occ a).zip (occ b)))∧((fitsT a b P).1=true→∀ z,z∈(fitsT a b P).2↔z∈P++(occ a).zip (occ b))
 | mk k s n l,mk k' s' n' l',P,fa,fb,hP=>by
  have ga:=fairR_mk fa
  have gb:=fairR_mk fb
  have ih:=fitsL_ok l l' P ga.1 gb.1 hP
  simp only [fitsT]
  by_cases h:k≠k'∨strEq s s'=false∨l.length≠l'.length
  ·rw [if_pos h]
   refine ⟨⟨fun h=>by simp at h,fun ⟨h1,_⟩=>?_⟩,fun h=>by simp at h⟩
   simp only [bare,turnT,Tm.mk.injEq] at h1
   have hl:=congrArg List.length h1.2.2.2
   rw [turnTL_len,turnTL_len] at hl
   rcases h with h | h | h
   ·exact absurd h1.1 h
   ·rw [show strEq s s'=true from strEq_iff.2 h1.2.1] at h; simp at h
   ·exact absurd hl h
  rw [if_neg h]
  have hk:k=k':=Classical.byContradiction fun e=>h (.inl e)
  have hs:s=s':=Classical.byContradiction fun e=>h (.inr (.inl (by
   cases hh:strEq s s' with
   | false=>rfl
   | true=>exact absurd (strEq_iff.1 hh) e)))
  have hl:l.length=l'.length:=Classical.byContradiction fun e=>h (.inr (.inr e))
  subst hk; subst hs
  by_cases h1:k=1
  ·subst h1
   rw [if_neg (by simp)]
   obtain rfl:=(ga.2 rfl).2
   obtain rfl:=(gb.2 rfl).2
   have hv:=varFit_ok (n:=n) (n':=n') hP
   simp only [occ,if_true,bare,turnT,turnTL,List.zip_cons_cons,List.zip_nil_left,true_and]
   exact hv
  ·rw [if_pos h1]
   simp only [bare,turnT,if_neg h1,occ,Tm.mk.injEq,true_and]
   by_cases h2:n=n'
   ·subst h2
    rw [if_neg (by simp)]
    simp only [true_and]
    exact ih hl
   ·rw [if_pos h2]
    exact ⟨⟨fun h=>by simp at h,fun h=>absurd h.1.1 h2⟩,fun h=>by simp at h⟩
theorem fitsL_ok:∀ (a b:List Tm) (P:List (Int × Int)),fairRL a=true→fairRL b=true→goodP P→a.length=b.length→((fitsL a b P).1=true↔bareL a=bareL b∧goodP (P++(occL a).zip (occL b)))∧((fitsL a b P).1=true→∀ z,z∈(fitsL a b P).2↔z∈P++(occL a).zip (occL b))
 | [],[],P,_,_,hP,_=>by simp [fitsL,bareL,turnTL,occL,hP]
 | [],_::_,_,_,_,_,h=>by simp at h
 | _::_,[],_,_,_,_,h=>by simp at h
 | x::a,y::b,P,fa,fb,hP,hl=>by
  simp only [fairRL,Bool.and_eq_true] at fa fb
  have h1:=fits_ok x y P fa.1 fb.1 hP
  simp only [fitsL]
  by_cases hx:(fitsT x y P).1=true
  ·rw [if_pos hx]
   have e1:=h1.1.1 hx
   have e2:=h1.2 hx
   have hg:goodP (fitsT x y P).2:=(goodP_congr e2).2 e1.2
   have h2:=fitsL_ok a b (fitsT x y P).2 fa.2 fb.2 hg (by simpa using hl)
   have hz:(occL (x::a)).zip (occL (y::b))=(occ x).zip (occ y)++(occL a).zip (occL b):=by
    simp only [occL]; exact List.zip_append (occ_bare_len e1.1)
   have hm:∀ z,z∈(fitsT x y P).2++(occL a).zip (occL b)↔z∈P++(occL (x::a)).zip (occL (y::b)):=fun z=>by
    rw [hz,List.mem_append,e2,← List.append_assoc,List.mem_append (s:=P++_)]
   refine ⟨?_,fun h z=>by rw [h2.2 h,hm]⟩
   rw [h2.1,goodP_congr hm]
   simp only [bareL,turnTL,List.cons.injEq]
   rw [show turnT (fun _=>0) x=turnT (fun _=>0) y from e1.1]; simp
  ·rw [if_neg hx]
   refine ⟨⟨fun h=>absurd h hx,fun h=>?_⟩,fun h=>absurd h hx⟩
   simp only [bareL,turnTL,List.cons.injEq] at h
   refine absurd (h1.1.2 ⟨h.1.1,goodP_sub (fun z hz=>?_) h.2⟩) hx
   have hz2:(occL (x::a)).zip (occL (y::b))=(occ x).zip (occ y)++(occL a).zip (occL b):=by
    simp only [occL]; exact List.zip_append (occ_bare_len h.1.1)
   rw [hz2,← List.append_assoc]; exact List.mem_append_left _ hz
end
end Tm
end PSL

namespace PSL
open Go

abbrev Binds:=List (Int × Tm)
def bindRow (b:Int × Tm):List D:=.v (.int .i64 b.1)::Tm.row b.2
def bindRows (l:Binds):List (List D):=l.map bindRow
theorem bindRows_len (l:Binds):(bindRows l).length=l.length:=by simp [bindRows]
theorem bindRows_get {l:Binds} {i:Nat} {x:Int × Tm} (h:l[i]? = some x):(bindRows l)[i]? = some (bindRow x):=by simp [bindRows,h]

theorem bindRows_sz (l:Binds):∀ r∈bindRows l,r.length=5:=by
 intro r hr; obtain ⟨b,_,rfl⟩:=List.mem_map.1 hr; rfl

def placeB (l:Binds) (v:Int):Int:=atI (l.map (·.1)) v 0
def findB (l:Binds) (v:Int):Option Tm:=(l.find? (fun b=>b.1==v)).map (·.2)

theorem atI_find:∀ (l:Binds) (v:Int) (i:Int),0≤i→(atI (l.map (·.1)) v i<0∧findB l v=none)∨(∃ (k:Nat) (t:Tm),atI (l.map (·.1)) v i=i+k∧l[k]? = some (v,t)∧findB l v=some t)
 | [],v,i,h=>.inl ⟨by simp [atI],rfl⟩
 | b::l,v,i,h=>by
  by_cases hb:b.1=v
  ·refine .inr ⟨0,b.2,by simp [atI,hb],by simp [← hb],by simp [findB,hb]⟩
  ·have hf:findB (b::l) v=findB l v:=by
    simp only [findB,List.find?_cons,show (b.1==v)=false by simpa using hb]
   simp only [List.map_cons,atI,if_neg hb,hf]
   rcases atI_find l v (i+1) (by omega) with ⟨h1,h2⟩ | ⟨k,t,h1,h2,h3⟩
   ·exact .inl ⟨h1,h2⟩
   ·exact .inr ⟨k+1,t,by rw [h1]; omega,by simpa using h2,h3⟩

theorem placeB_find (l:Binds) (v:Int):(placeB l v<0∧findB l v=none)∨(∃ (k:Nat) (t:Tm),placeB l v=k∧l[k]? = some (v,t)∧findB l v=some t):=by
 rcases atI_find l v 0 (Int.le_refl _) with h | ⟨k,t,h1,h2,h3⟩
 ·exact .inl h
 ·exact .inr ⟨k,t,by unfold placeB; omega,h2,h3⟩
namespace Tm
end Tm
namespace Tm
end Tm
namespace Tm
end Tm
namespace Tm
end Tm
end PSL
namespace PSL
open Go
namespace Tm
end Tm
end PSL
namespace PSL
open Go
namespace Tm

theorem findB_mem {B:Binds} {n:Int} {t:Tm} (h:findB B n=some t):(n,t)∈B:=by
 unfold findB at h
 obtain ⟨z,hz,rfl⟩:=Option.map_eq_some_iff.1 h
 have h1:=List.find?_some hz
 have h2:z.1=n:=by simpa using h1
 subst h2; exact List.mem_of_find?_eq_some hz
end Tm
end PSL
namespace PSL
open Go
namespace Tm

mutual
def putF (σ:Int→Tm):Tm→Tm
 | mk k s n l=>if k=1 then σ n else mk k s n (putFL σ l)
def putFL (σ:Int→Tm):List Tm→List Tm
 | []=>[]
 | x::r=>putF σ x::putFL σ r
end

theorem putFL_len (σ:Int→Tm):∀ l,(putFL σ l).length=l.length
 | []=>rfl
 | x::r=>by simp only [putFL,List.length_cons,putFL_len σ r]

mutual
theorem putF_congr {σ τ:Int→Tm}:∀ (p:Tm),(∀ v∈occ p,σ v=τ v)→putF σ p=putF τ p
 | mk k s n l,h=>by
  simp only [putF]
  simp only [occ] at h
  by_cases hk:k=1
  ·simp only [if_pos hk] at h ⊢; exact h n (by simp)
  ·simp only [if_neg hk] at h ⊢; rw [putFL_congr l h]
theorem putFL_congr {σ τ:Int→Tm}:∀ (l:List Tm),(∀ v∈occL l,σ v=τ v)→putFL σ l=putFL τ l
 | [],_=>rfl
 | x::r,h=>by
  simp only [occL,List.mem_append] at h
  simp only [putFL,putF_congr x (fun v hv=>h v (.inl hv)),putFL_congr r (fun v hv=>h v (.inr hv))]
end

def vT (n:Int):Tm:=mk 1 ByteArray.empty n []
end Tm
end PSL
namespace PSL
open Go
namespace Tm

mutual
theorem putF_comp (σ τ:Int→Tm):∀ (p:Tm),putF τ (putF σ p)=putF (fun v=>putF τ (σ v)) p
 | mk k s n l=>by
  simp only [putF]
  by_cases hk:k=1
  ·simp [hk]
  ·simp only [if_neg hk,putF,putFL_comp σ τ l]
theorem putFL_comp (σ τ:Int→Tm):∀ (l:List Tm),putFL τ (putFL σ l)=putFL (fun v=>putF τ (σ v)) l
 | []=>rfl
 | x::r=>by simp only [putFL,putF_comp σ τ x,putFL_comp σ τ r]
end

mutual
theorem turn_put (g:Int→Int):∀ (p:Tm),fairR p=true→turnT g p=putF (fun v=>vT (g v)) p
 | mk k s n l,h=>by
  have hl:=fairR_mk h
  simp only [turnT,putF]
  by_cases hk:k=1
  ·obtain ⟨rfl,rfl⟩:=hl.2 hk
   subst hk
   simp [turnTL,vT]
  ·rw [if_neg hk,if_neg hk,turnL_put g l hl.1]
theorem turnL_put (g:Int→Int):∀ (l:List Tm),fairRL l=true→turnTL g l=putFL (fun v=>vT (g v)) l
 | [],_=>rfl
 | x::r,h=>by
  simp only [fairRL,Bool.and_eq_true] at h
  simp only [turnTL,putFL,turn_put g x h.1,turnL_put g r h.2]
end

theorem put_self (p:Tm) (h:fairR p=true):putF vT p=p:=by
 have:=turn_put (fun n=>n) p h
 rw [turn_self] at this; exact this.symm
end Tm
end PSL
namespace PSL
open Go
namespace Tm
end Tm
end PSL
namespace PSL
open Go
namespace Tm
end Tm
end PSL

namespace PSL
open Go

def ixGo:List Int→Int→List (Int × AV)→List (Int × AV)
 | [],_,A=>A
 | v::r,i,A=>ixGo r (i+1) (if (getI A v).isSome then A else A++[(v,iV i)])
def ixM (V:List Int):List (Int × AV):=ixGo V 0 []

theorem ixGo_keys:∀ (V:List Int) (i:Int) (A:List (Int × AV)),(ixGo V i A).map (·.1)=V.foldl addV (A.map (·.1))
 | [],i,A=>rfl
 | u::V,i,A=>by
  simp only [ixGo,List.foldl_cons]
  rw [ixGo_keys V (i+1)]
  congr 1
  have key:∀ (A:List (Int × AV)),(getI A u).isSome=(A.map (·.1)).contains u:=by
   intro A
   induction A with
   | nil=>rfl
   | cons p A ih =>
    simp only [getI,List.map_cons,List.contains_cons]
    by_cases h:p.1=u
    ·rw [if_pos h]; simp [h]
    ·rw [if_neg h,ih]
     have:(u==p.1)=false:=by simp; exact fun e=>h e.symm
     rw [this,Bool.false_or]
  unfold addV
  rw [← key A]
  split <;> simp

theorem ixM_len (V:List Int):(ixM V).length=(Tm.once V).length:=by
 have:=congrArg List.length (ixGo_keys V 0 [])
 simpa [ixM,Tm.once] using this

theorem foldl_len:∀ (l a:List Int),(l.foldl addV a).length≤a.length+l.length∧((l.foldl addV a).length=a.length+l.length→l.Nodup∧∀ x∈l,x ∉ a)
 | [],a=>by simp
 | x::l,a=>by
  have h:=foldl_len l (addV a x)
  have h2:=Tm.addV_len' a x
  simp only [List.foldl_cons,List.length_cons]
  refine ⟨by omega,fun he=>?_⟩
  have h3:(addV a x).length=a.length+1:=by omega
  have hx:x ∉ a:=fun hm=>by
   unfold addV at h3; rw [if_pos (by simpa using hm)] at h3; omega
  obtain ⟨h4,h5⟩:=h.2 (by omega)
  have h6:addV a x=a++[x]:=by unfold addV; rw [if_neg (by simpa using hx)]
  rw [h6] at h5
  refine ⟨List.nodup_cons.2 ⟨fun hm=>by have:=h5 x hm; simp at this,h4⟩,fun y hy=>?_⟩
  rcases List.mem_cons.1 hy with rfl | hy
  ·exact hx
  ·have:=h5 y hy; simp at this; exact this.1

theorem once_len {V:List Int}:((Tm.once V).length<V.length)↔¬ V.Nodup:=by
 have h:=foldl_len V []
 unfold Tm.once
 constructor
 ·intro h1 h2
  have key:∀ (l a:List Int),l.Nodup→(∀ x∈l,x ∉ a)→(l.foldl addV a).length=a.length+l.length:=by
   intro l
   induction l with
   | nil=>intro a _ _; simp
   | cons x l ih =>
    intro a hn hd
    have hx:addV a x=a++[x]:=by unfold addV; rw [if_neg (by simpa using hd x (by simp))]
    rw [List.foldl_cons,hx,ih _ (List.nodup_cons.1 hn).2 fun y hy=>?_]
    ·simp; omega
    ·simp only [List.mem_append,List.mem_singleton,not_or]
     exact ⟨hd y (by simp [hy]),fun e=>(List.nodup_cons.1 hn).1 (e ▸ hy)⟩
  have:=key V [] h2 (by simp)
  simp at this; omega
 ·intro h1
  rcases Nat.lt_or_ge (V.foldl addV []).length V.length with h2 | h2
  ·exact h2
  ·exact absurd (h.2 (by simp; have:=h.1; simp at this; omega)).1 h1

def dfsL (g:Nat→List Int→Bool × List Int):List Nat→List Int→Bool × List Int
 | [],st=>(true,st)
 | k::r,st=>if (g k st).1 then dfsL g r (g k st).2 else (false,(g k st).2)

def dfsF (adj:Nat→List Nat):Nat→Nat→List Int→Bool × List Int
 | 0,_,st=>(false,st)
 | f+1,i,st=>if st.getD i 0≠0 then (decide (st.getD i 0=2),st) else
   if (dfsL (dfsF adj f) (adj i) (st.set i 1)).1 then (true,(dfsL (dfsF adj f) (adj i) (st.set i 1)).2.set i 2) else (false,(dfsL (dfsF adj f) (adj i) (st.set i 1)).2)
def zeros (st:List Int):Nat:=st.countP (· == 0)

theorem zeros_set:∀ (st:List Int) (i:Nat) (x:Int),x≠0→zeros (st.set i x)≤zeros st∧(i<st.length→st.getD i 0=0→zeros (st.set i x)+1=zeros st)
 | [],i,x,_=>by simp [zeros]
 | y::st,0,x,hx=>by
  simp only [zeros,List.set_cons_zero,List.countP_cons]
  have:(x==0)=false:=by simpa using hx
  rw [this]
  constructor
  ·simp
  ·intro _ h0
   have:y=0:=by simpa using h0
   simp [this]
 | y::st,i+1,x,hx=>by
  have h:=zeros_set st i x hx
  simp only [zeros,List.set_cons_succ,List.countP_cons] at h ⊢
  refine ⟨by omega,fun h1 h2=>?_⟩
  have:=h.2 (by simpa using h1) (by simpa using h2)
  omega

theorem dfs_shape (adj:Nat→List Nat):∀ (f i:Nat) (st:List Int),(dfsF adj f i st).2.length=st.length∧zeros (dfsF adj f i st).2≤zeros st:=by
 intro f
 induction f with
 | zero=>intro i st; exact ⟨rfl,Nat.le_refl _⟩
 | succ f ih =>
  intro i st
  have hL:∀ (L:List Nat) (st:List Int),(dfsL (dfsF adj f) L st).2.length=st.length∧zeros (dfsL (dfsF adj f) L st).2≤zeros st:=by
   intro L
   induction L with
   | nil=>intro st; exact ⟨rfl,Nat.le_refl _⟩
   | cons k r ihr =>
    intro st
    have h1:=ih k st
    have h2:=ihr (dfsF adj f k st).2
    simp only [dfsL]
    split
    ·exact ⟨by rw [h2.1,h1.1],by omega⟩
    ·exact h1
  have h1:=hL (adj i) (st.set i 1)
  have h2:=zeros_set st i 1 (by omega)
  simp only [dfsF]
  split
  ·exact ⟨rfl,Nat.le_refl _⟩
  ·split
   ·have h3:=zeros_set (dfsL (dfsF adj f) (adj i) (st.set i 1)).2 i 2 (by omega)
    exact ⟨by simp [h1.1],by simp only; omega⟩
   ·exact ⟨by simp [h1.1],by simp only; omega⟩

inductive Okn (adj:Nat→List Nat):Nat→Nat→Prop
 | mk {m i:Nat} (h:∀ k∈adj i,Okn adj m k):Okn adj (m+1) i

theorem Okn.mono {adj:Nat→List Nat}:∀ {m i:Nat},Okn adj m i→∀ {m':Nat},m≤m'→Okn adj m' i:=by
 intro m
 induction m with
 | zero=>intro i h; cases h
 | succ m ih =>
  intro i h m' hm
  cases h with
  | mk h =>
   obtain ⟨q,rfl⟩:∃ q,m'=q+1:=⟨m' - 1,by omega⟩
   exact .mk fun k hk=>ih (h k hk) (by omega)

theorem Okn.all {adj:Nat→List Nat}:∀ {L:List Nat},(∀ k∈L,∃ m,Okn adj m k)→∃ m,∀ k∈L,Okn adj m k
 | [],_=>⟨0,by simp⟩
 | k::L,h=>by
  obtain ⟨m,h1⟩:=h k (by simp)
  obtain ⟨m',h2⟩:=Okn.all (L:=L) fun k hk=>h k (by simp [hk])
  refine ⟨m+m',fun x hx=>?_⟩
  rcases List.mem_cons.1 hx with rfl | hx
  ·exact h1.mono (by omega)
  ·exact (h2 x hx).mono (by omega)

theorem dfs_sound (adj:Nat→List Nat):∀ (f i:Nat) (st:List Int),(∀ j,st.getD j 0=2→∃ m,Okn adj m j)→(∀ j,(dfsF adj f i st).2.getD j 0=2→∃ m,Okn adj m j)∧((dfsF adj f i st).1=true→∃ m,Okn adj m i):=by
 intro f
 induction f with
 | zero=>intro i st h; exact ⟨h,fun h=>by cases h⟩
 | succ f ih =>
  intro i st h
  have hL:∀ (L:List Nat) (st:List Int),(∀ j,st.getD j 0=2→∃ m,Okn adj m j)→(∀ j,(dfsL (dfsF adj f) L st).2.getD j 0=2→∃ m,Okn adj m j)∧((dfsL (dfsF adj f) L st).1=true→∀ k∈L,∃ m,Okn adj m k):=by
   intro L
   induction L with
   | nil=>intro st h; exact ⟨h,by simp⟩
   | cons k r ihr =>
    intro st h
    obtain ⟨h1,h2⟩:=ih k st h
    obtain ⟨h3,h4⟩:=ihr _ h1
    simp only [dfsL]
    split
    ·rename_i hk
     refine ⟨h3,fun hr x hx=>?_⟩
     rcases List.mem_cons.1 hx with rfl | hx
     ·exact h2 hk
     ·exact h4 hr x hx
    ·exact ⟨h1,fun h=>by cases h⟩
  have hset:∀ (st:List Int) (x:Int),(∀ j,st.getD j 0=2→∃ m,Okn adj m j)→(x=2→∃ m,Okn adj m i)→∀ j,(st.set i x).getD j 0=2→∃ m,Okn adj m j:=fun st x hst hx j hj=>by
   by_cases e:j=i
   ·subst e
    rcases Nat.lt_or_ge j st.length with hl | hl
    ·rw [List.getD_eq_getElem?_getD,List.getElem?_set_self hl] at hj
     exact hx (by simpa using hj)
    ·rw [List.getD_eq_getElem?_getD,List.getElem?_eq_none (by simpa using hl)] at hj
     simp at hj
   ·rw [List.getD_eq_getElem?_getD,List.getElem?_set_ne (fun h=>e h.symm),← List.getD_eq_getElem?_getD] at hj
    exact hst j hj
  obtain ⟨h1,h2⟩:=hL (adj i) (st.set i 1) (hset st 1 h (by omega))
  have hi:(dfsL (dfsF adj f) (adj i) (st.set i 1)).1=true→∃ m,Okn adj m i:=fun hr=>by
   obtain ⟨m,hm⟩:=Okn.all (h2 hr)
   exact ⟨m+1,.mk hm⟩
  simp only [dfsF]
  split
  ·exact ⟨h,fun hd=>h i (by simpa using hd)⟩
  ·split
   ·rename_i hr
    exact ⟨hset _ 2 h1 fun _=>hi hr,fun _=>hi hr⟩
   ·exact ⟨h1,fun h=>by cases h⟩

def adjB (l:Binds) (i:Nat):List Nat:=match l[i]? with
 | some b=>(varsT [b.2]).filterMap fun v=>if placeB l v<0 then none else some (placeB l v).toNat
 | none=>[]

def dfsAll (adj:Nat→List Nat) (n:Nat):List Nat→List Int→Bool
 | [],_=>true
 | i::r,st=>if (dfsF adj (n+1) i st).1 then dfsAll adj n r (dfsF adj (n+1) i st).2 else false
def fineB (l:Binds):Bool:=l.all fun b=>decide (0≤b.1)&&decide (b.1<1000000)&&b.2.rightB

def rightS (l:Binds):Bool:=!decide ((ixM (l.map (·.1))).length<l.length)&&fineB l&&dfsAll (adjB l) l.length (List.range l.length) (List.replicate l.length 0)

theorem dfsAll_sound {adj:Nat→List Nat} {n:Nat}:∀ (L:List Nat) (st:List Int),(∀ j,st.getD j 0=2→∃ m,Okn adj m j)→dfsAll adj n L st=true→∀ i∈L,∃ m,Okn adj m i
 | [],st,_,_=>by simp
 | i::r,st,h,hr=>by
  simp only [dfsAll] at hr
  obtain ⟨h1,h2⟩:=dfs_sound adj (n+1) i st h
  split at hr
  ·rename_i hi
   have h3:=dfsAll_sound r _ h1 hr
   intro x hx
   rcases List.mem_cons.1 hx with rfl | hx
   ·exact h2 hi
   ·exact h3 x hx
  ·cases hr

theorem rightS_spec {l:Binds} (h:rightS l=true):(l.map (·.1)).Nodup∧(∀ b∈l,0≤b.1∧b.1<1000000∧b.2.rightB=true)∧∃ M,∀ i<l.length,Okn (adjB l) M i:=by
 simp only [rightS,Bool.and_eq_true,Bool.not_eq_true',decide_eq_false_iff_not] at h
 obtain ⟨⟨h1,h2⟩,h3⟩:=h
 refine ⟨?_,fun b hb=>?_,?_⟩
 ·rw [ixM_len] at h1
  have:=once_len (V:=l.map (·.1))
  rw [List.length_map] at this
  exact Classical.byContradiction fun hn=>h1 (this.2 hn)
 ·have:=List.all_eq_true.1 h2 b hb
  simp only [Bool.and_eq_true,decide_eq_true_eq] at this
  exact ⟨this.1.1,this.1.2,this.2⟩
 ·have h4:=dfsAll_sound _ _ (fun j hj=>by
   rw [List.getD_eq_getElem?_getD,List.getElem?_replicate] at hj
   split at hj <;> simp at hj) h3
  obtain ⟨M,hM⟩:=Okn.all h4
  exact ⟨M,fun i hi=>hM i (by simpa using hi)⟩
end PSL
namespace PSL
open Go
end PSL
namespace PSL
open Go
end PSL

namespace PSL
open Go
namespace Tm

mutual
theorem putF_fair {σ:Int→Tm}:∀ (p:Tm),fairR p=true→(∀ v∈occ p,fairR (σ v)=true)→fairR (putF σ p)=true
 | mk k s n l,h,hs=>by
  have hf:=fairR_mk h
  simp only [occ] at hs
  simp only [putF]
  by_cases hk:k=1
  ·rw [if_pos hk] at hs ⊢; exact hs n (by simp)
  ·rw [if_neg hk] at hs ⊢
   simp only [fairR,Bool.and_eq_true] at h ⊢
   exact ⟨⟨h.1.1,putFL_fair l h.1.2 hs⟩,by rw [putFL_len]; exact h.2⟩
theorem putFL_fair {σ:Int→Tm}:∀ (l:List Tm),fairRL l=true→(∀ v∈occL l,fairR (σ v)=true)→fairRL (putFL σ l)=true
 | [],_,_=>rfl
 | x::l,h,hs=>by
  simp only [fairRL,Bool.and_eq_true] at h
  simp only [occL,List.mem_append] at hs
  simp only [putFL,fairRL,Bool.and_eq_true]
  exact ⟨putF_fair x h.1 fun v hv=>hs v (.inl hv),putFL_fair l h.2 fun v hv=>hs v (.inr hv)⟩
end

mutual
theorem occ_putF {σ:Int→Tm}:∀ (p:Tm) (u:Int),u∈occ (putF σ p)→∃ v∈occ p,u∈occ (σ v)
 | mk k s n l,u,h=>by
  simp only [putF] at h
  simp only [occ]
  by_cases hk:k=1
  ·rw [if_pos hk] at h ⊢; exact ⟨n,by simp,h⟩
  ·rw [if_neg hk] at h ⊢
   simp only [occ,if_neg hk] at h
   exact occL_putF l u h
theorem occL_putF {σ:Int→Tm}:∀ (l:List Tm) (u:Int),u∈occL (putFL σ l)→∃ v∈occL l,u∈occ (σ v)
 | [],u,h=>by simp [putFL,occL] at h
 | x::l,u,h=>by
  simp only [putFL,occL,List.mem_append] at h
  simp only [occL,List.mem_append]
  rcases h with h | h
  ·obtain ⟨v,h1,h2⟩:=occ_putF x u h; exact ⟨v,.inl h1,h2⟩
  ·obtain ⟨v,h1,h2⟩:=occL_putF l u h; exact ⟨v,.inr h1,h2⟩
end

theorem vT_fair' {n:Int} (h0:0≤n) (h1:n<1000000):fairR (vT n)=true:=by
 have e:strEq ByteArray.empty ⟨#[]⟩=true:=strEq_iff.2 rfl
 have e2:ByteArray.empty.data.toList.all byteOk=true:=rfl
 simp only [vT,fairR,fairRL,kindR,e,e2]
 simp
 omega

theorem putFL_map (σ:Int→Tm):∀ l,putFL σ l=l.map (putF σ)
 | []=>rfl
 | x::l=>by simp only [putFL,List.map_cons,putFL_map σ l]

theorem put_id {σ:Int→Tm} (p:Tm) (h:fairR p=true) (hs:∀ v∈occ p,σ v=vT v):putF σ p=p:=by
 rw [putF_congr p hs,put_self p h]
end Tm

def fullS (B:Binds):Nat→Tm→Tm
 | 0,t=>t
 | m+1,t=>Tm.putF (fun v=>match findB B v with | some x=>fullS B m x | none=>Tm.vT v) t

def levT (B:Binds) (m:Nat) (t:Tm):Prop:=∀ v∈Tm.occ t,0≤placeB B v→Okn (adjB B) m (placeB B v).toNat

theorem lev_bind {B:Binds} {m:Nat} {v:Int} {x:Tm} (hx:x.fairR=true) (h:findB B v=some x) (ho:Okn (adjB B) m (placeB B v).toNat):∃ q,m=q+1∧levT B q x:=by
 cases ho with
 | @mk q _ ho =>
  refine ⟨q,rfl,fun u hu hp=>ho _ ?_⟩
  rcases placeB_find B v with ⟨_,h2⟩ | ⟨k,t,h1,h2,h3⟩
  ·rw [h2] at h; cases h
  ·rw [h3] at h; cases h
   rw [h1]
   simp only [Int.toNat_natCast,adjB,h2,List.mem_filterMap]
   refine ⟨u,?_,by rw [if_neg (by omega)]⟩
   rw [varsT_once (one_fair hx)]
   simp [Tm.occL,Tm.mem_once,hu]
section
variable {B:Binds} (hB:∀ b∈B,b.2.fairR=true)
include hB
theorem findB_fair {v:Int} {x:Tm} (h:findB B v=some x):x.fairR=true:=hB _ (Tm.findB_mem h)

theorem lev_find {m:Nat} {t:Tm} (h:levT B m t) {v:Int} (hv:v∈Tm.occ t) {x:Tm} (hx:findB B v=some x):∃ q,m=q+1∧levT B q x:=by
 refine lev_bind (findB_fair hB hx) hx (h v hv ?_)
 rcases placeB_find B v with ⟨_,h2⟩ | ⟨k,t,h1,h2,h3⟩
 ·rw [h2] at hx; cases hx
 ·omega

theorem full_stable:∀ (m:Nat) (t:Tm),t.fairR=true→levT B m t→∀ m',m≤m'→fullS B m' t=fullS B m t:=by
 intro m
 induction m with
 | zero =>
  intro t hf hl m' _
  have hn:∀ v∈Tm.occ t,findB B v=none:=fun v hv=>by
   cases h:findB B v with
   | none=>rfl
   | some x=>obtain ⟨q,hq,_⟩:=lev_find hB hl hv h; omega
  cases m' with
  | zero=>rfl
  | succ m' =>
   simp only [fullS]
   exact Tm.put_id t hf fun v hv=>by rw [hn v hv]
 | succ m ih =>
  intro t hf hl m' hm
  obtain ⟨q,rfl⟩:∃ q,m'=q+1:=⟨m' - 1,by omega⟩
  simp only [fullS]
  refine Tm.putF_congr t fun v hv=>?_
  cases h:findB B v with
  | none=>rfl
  | some x =>
   obtain ⟨r,hr,h2⟩:=lev_find hB hl hv h
   cases hr
   exact ih x (findB_fair hB h) h2 q (by omega)

theorem full_fair:∀ (m:Nat) (t:Tm),t.fairR=true→(∀ v∈Tm.occ t,0≤v∧v<1000000)→(fullS B m t).fairR=true:=by
 intro m
 induction m with
 | zero=>intro t h _; exact h
 | succ m ih =>
  intro t h hv
  refine Tm.putF_fair t h fun v hm=>?_
  cases hf:findB B v with
  | none=>exact Tm.vT_fair' (hv v hm).1 (hv v hm).2
  | some x =>
   have:=findB_fair hB hf
   exact ih x this (Tm.occ_range x this)

theorem full_free:∀ (m:Nat) (t:Tm),levT B m t→∀ u∈Tm.occ (fullS B m t),findB B u=none:=by
 intro m
 induction m with
 | zero =>
  intro t hl u hu
  cases h:findB B u with
  | none=>rfl
  | some x=>obtain ⟨q,hq,_⟩:=lev_find hB hl hu h; omega
 | succ m ih =>
  intro t hl u hu
  obtain ⟨v,hv,h2⟩:=Tm.occ_putF t u hu
  cases h:findB B v with
  | none =>
   rw [h] at h2
   simp [Tm.vT,Tm.occ] at h2
   rw [h2]; exact h
  | some x =>
   rw [h] at h2
   obtain ⟨r,hr,h3⟩:=lev_find hB hl hv h
   cases hr
   exact ih x h3 u h2
end

structure Sub (B:Binds) (M:Nat):Prop where
 fair:∀ b∈B,b.2.fairR=true
 okn:∀ i<B.length,Okn (adjB B) M i

theorem Sub.lev {B:Binds} {M:Nat} (h:Sub B M) (t:Tm):levT B M t:=fun v _ hp=>h.okn _ (by
 rcases placeB_find B v with ⟨h1,_⟩ | ⟨k,t,h1,h2,h3⟩
 ·omega
 ·have:=(List.getElem?_eq_some_iff.1 h2).1; omega)

theorem Sub.of {B:Binds} (h:rightS B=true):∃ M,Sub B M:=by
 obtain ⟨_,h2,M,h3⟩:=rightS_spec h
 exact ⟨M,fun b hb=>right_fair (h2 b hb).2.2,h3⟩

theorem Sub.fix {B:Binds} {M:Nat} (h:Sub B M) {t:Tm} (hf:t.fairR=true):fullS B M t=Tm.putF (fun v=>match findB B v with | some x=>fullS B M x | none=>Tm.vT v) t :=
 (full_stable h.fair M t hf (h.lev t) (M+1) (by omega)).symm

theorem occ_var {t:Tm} (hk:t.k=1):t.n∈Tm.occ t:=by
 obtain ⟨k,s,n,l⟩:=t
 simp only [Tm.k] at hk
 simp [Tm.occ,hk,Tm.n]

theorem Sub.head {B:Binds} {M:Nat} (h:Sub B M) {t:Tm} (hf:t.fairR=true) (hx:t.k=1→findB B t.n=none):fullS B M t=.mk t.k t.s t.n (t.l.map (fullS B M)):=by
 rw [h.fix hf]
 obtain ⟨k,s,n,l⟩:=t
 have h1:=Tm.fairR_mk hf
 by_cases hk:k=1
 ·obtain ⟨rfl,rfl⟩:=h1.2 hk
  have:=hx hk
  simp only [Tm.n] at this
  subst hk
  simp [Tm.putF,this,Tm.vT,Tm.k,Tm.s,Tm.n,Tm.l]
 ·simp only [Tm.putF,if_neg hk,Tm.k,Tm.s,Tm.n,Tm.l,Tm.putFL_map]
  congr 1
  refine List.map_congr_left fun x hx=>?_
  exact (h.fix (Tm.fairRL_iff.1 h1.1 x hx)).symm

theorem Sub.kid_fair {t x:Tm} (hf:t.fairR=true) (hx:x∈t.l):x.fairR=true:=by
 obtain ⟨k,s,n,l⟩:=t
 exact Tm.fairRL_iff.1 (Tm.fairR_mk hf).1 x hx
theorem Sub.free {B:Binds} {M:Nat} (h:Sub B M) (t:Tm):∀ u∈Tm.occ (fullS B M t),findB B u=none:=full_free h.fair M t (h.lev t)
theorem Sub.fairF {B:Binds} {M:Nat} (h:Sub B M) {t:Tm} (hf:t.fairR=true):(fullS B M t).fairR=true:=full_fair h.fair M t hf (Tm.occ_range t hf)

theorem Sub.same {B:Binds} {M:Nat} (h:Sub B M) {t:Tm} (hf:t.fairR=true) (hn:∀ u∈Tm.occ t,findB B u=none):fullS B M t=t:=by
 rw [h.fix hf]
 exact Tm.put_id t hf fun v hv=>by rw [hn v hv]
namespace Tm
end Tm
end PSL
namespace PSL
open Go
end PSL
namespace PSL
open Go

theorem findB_cons (b:Int × Tm) (r:Binds) (v:Int):findB (b::r) v=if b.1=v then some b.2 else findB r v:=by
 by_cases h:b.1=v
 ·simp [findB,h]
 ·have:(b.1==v)=false:=by simpa using h
  simp [findB,this,h]
end PSL
namespace PSL
open Go
namespace Tm
end Tm
end PSL
namespace PSL
open Go
end PSL

namespace PSL
open Go
def rowD (n:Nat) (r:Nat→Bool):List D:=(List.range n).map fun j=>.v (.bool (r j))
def tabD (n k:Nat) (c:Nat→Nat→Bool):List (List D):=(List.range k).map fun i=>rowD n (c i)

def warsh (C:Nat→Nat→Bool):Nat→Nat→Nat→Bool
 | 0,i,j=>C i j
 | k+1,i,j=>warsh C k i j || (warsh C k i k&&warsh C k k j)

theorem warsh_col (C:Nat→Nat→Bool) (k i:Nat):warsh C (k+1) i k=warsh C k i k:=by
 simp only [warsh]; cases warsh C k i k <;> simp

theorem warsh_row (C:Nat→Nat→Bool) (k j:Nat):warsh C (k+1) k j=warsh C k k j:=by
 simp only [warsh]; cases warsh C k k j <;> simp

inductive Way (C:Nat→Nat→Bool):Nat→Nat→Prop
 | one {i j:Nat} (h:C i j=true):Way C i j
 | snoc {i j k:Nat} (h:Way C i j) (h2:C j k=true):Way C i k

theorem Way.trans {C:Nat→Nat→Bool} {i j k:Nat} (h:Way C i j) (h2:Way C j k):Way C i k:=by
 induction h2 with
 | one h3=>exact .snoc h h3
 | snoc _ h3 ih=>exact .snoc ih h3

theorem warsh_way (C:Nat→Nat→Bool):∀ (k i j:Nat),warsh C k i j=true→Way C i j
 | 0,i,j,h=>.one h
 | k+1,i,j,h=>by
  simp only [warsh,Bool.or_eq_true,Bool.and_eq_true] at h
  rcases h with h | ⟨h1,h2⟩
  ·exact warsh_way C k i j h
  ·exact (warsh_way C k i k h1).trans (warsh_way C k k j h2)

theorem warsh_mono (C:Nat→Nat→Bool) (k i j:Nat) (h:C i j=true):warsh C k i j=true:=by
 induction k with
 | zero=>exact h
 | succ k ih=>simp [warsh,ih]

theorem warsh_trans (C:Nat→Nat→Bool):∀ (k m i j:Nat),m<k→warsh C k i m=true→warsh C k m j=true→warsh C k i j=true
 | 0,m,i,j,h,_,_=>by omega
 | k+1,m,i,j,h,h1,h2=>by
  have ih:=warsh_trans C k
  by_cases e:m=k
  ·subst e
   rw [warsh_col] at h1; rw [warsh_row] at h2
   simp [warsh,h1,h2]
  ·have hm:m<k:=by omega
   simp only [warsh,Bool.or_eq_true,Bool.and_eq_true] at h1 h2 ⊢
   rcases h1 with h1 | ⟨h1,h1'⟩ <;> rcases h2 with h2 | ⟨h2,h2'⟩
   ·exact .inl (ih m i j hm h1 h2)
   ·exact .inr ⟨ih m i k hm h1 h2,h2'⟩
   ·exact .inr ⟨h1,ih m k j hm h1' h2⟩
   ·exact .inr ⟨h1,h2'⟩

theorem warsh_full {C:Nat→Nat→Bool} {n:Nat} (hC:∀ i j,C i j=true→i<n∧j<n) {i j:Nat} (h:Way C i j):warsh C n i j=true:=by
 have hj:∀ {i j:Nat},Way C i j→j<n:=fun h=>by
  cases h with
  | one h=>exact (hC _ _ h).2
  | snoc _ h=>exact (hC _ _ h).2
 induction h with
 | one h=>exact warsh_mono C n _ _ h
 | snoc h1 h2 ih=>exact warsh_trans C n _ _ _ (hj h1) ih (warsh_mono C n _ _ h2)
def isOpen (st:List Int) (j:Nat):Prop:=st.getD j 0≠0∧st.getD j 0≠2
def edge (adj:Nat→List Nat) (i j:Nat):Bool:=(adj i).contains j

theorem open_set {st:List Int} {i j:Nat} {x:Int} (hi:i<st.length):isOpen (st.set i x) j↔(if j=i then x≠0∧x≠2 else isOpen st j):=by
 unfold isOpen
 by_cases e:j=i
 ·subst e; rw [List.getD_eq_getElem?_getD,List.getElem?_set_self hi]; simp
 ·rw [if_neg e,List.getD_eq_getElem?_getD,List.getElem?_set_ne (fun h=>e h.symm),← List.getD_eq_getElem?_getD]

theorem dfs_full (adj:Nat→List Nat) (n:Nat) (hadj:∀ i,∀ k∈adj i,k<n):∀ (f i:Nat) (st:List Int),st.length=n→i<n→zeros st<f→(∀ j,isOpen st j→Way (edge adj) j i) →
  ((dfsF adj f i st).1=true∧∀ j,isOpen (dfsF adj f i st).2 j↔isOpen st j)∨((dfsF adj f i st).1=false∧∃ c,Way (edge adj) c c):=by
 intro f
 induction f with
 | zero=>intro i st _ _ hz; omega
 | succ f ih =>
  intro i st hl hi hz hop
  simp only [dfsF]
  split
  ·rename_i hne
   by_cases h2:st.getD i 0=2
   ·left; exact ⟨decide_eq_true h2,fun j=>Iff.rfl⟩
   ·right; exact ⟨by simp only [decide_eq_false h2],i,hop i ⟨hne,h2⟩⟩
  ·rename_i h0
   have h0:st.getD i 0=0:=by simpa using h0
   have hil:i<st.length:=by omega
   have hz1:=(zeros_set st i 1 (by omega)).2 hil h0
   have hop1:∀ j,isOpen (st.set i 1) j→∀ k∈adj i,Way (edge adj) j k:=fun j hj k hk=>by
    have he:edge adj i k=true:=by simpa [edge] using hk
    rw [open_set hil] at hj
    by_cases e:j=i
    ·subst e; exact .one he
    ·rw [if_neg e] at hj; exact .snoc (hop j hj) he
   have hL:∀ (L:List Nat) (st1:List Int),st1.length=n→zeros st1<f→(∀ k∈L,k∈adj i)→(∀ j,isOpen st1 j→∀ k∈adj i,Way (edge adj) j k) →
     ((dfsL (dfsF adj f) L st1).1=true∧∀ j,isOpen (dfsL (dfsF adj f) L st1).2 j↔isOpen st1 j)∨((dfsL (dfsF adj f) L st1).1=false∧∃ c,Way (edge adj) c c):=by
    intro L
    induction L with
    | nil=>intro st1 _ _ _ _; exact .inl ⟨rfl,fun j=>Iff.rfl⟩
    | cons k r ihr =>
     intro st1 hl1 hz1 hk hop1
     have hk1:=hk k (by simp)
     have hsh:=dfs_shape adj f k st1
     simp only [dfsL]
     rcases ih k st1 hl1 (hadj i k hk1) hz1 (fun j hj=>hop1 j hj k hk1) with ⟨h1,h2⟩ | ⟨h1,h2⟩
     ·rw [if_pos h1]
      rcases ihr (dfsF adj f k st1).2 (by rw [hsh.1,hl1]) (by omega) (fun x hx=>hk x (by simp [hx])) (fun j hj=>hop1 j ((h2 j).1 hj)) with ⟨h3,h4⟩ | h3
      ·exact .inl ⟨h3,fun j=>(h4 j).trans (h2 j)⟩
      ·exact .inr h3
     ·rw [if_neg (by rw [h1]; simp)]; exact .inr ⟨rfl,h2⟩
   rcases hL (adj i) (st.set i 1) (by simp [hl]) (by omega) (fun _ h=>h) hop1 with ⟨h1,h2⟩ | ⟨h1,h2⟩
   ·rw [if_pos h1]
    refine .inl ⟨rfl,fun j=>?_⟩
    have hlen:((dfsL (dfsF adj f) (adj i) (st.set i 1)).2).length=n:=by
     have key:∀ (L:List Nat) (st1:List Int),st1.length=n→(dfsL (dfsF adj f) L st1).2.length=n:=by
      intro L
      induction L with
      | nil=>intro st1 h; exact h
      | cons k r ihr =>
       intro st1 h
       have hsh:=dfs_shape adj f k st1
       simp only [dfsL]
       split
       ·exact ihr _ (by rw [hsh.1,h])
       ·rw [hsh.1,h]
     exact key _ _ (by simp [hl])
    rw [open_set (by omega)]
    by_cases e:j=i
    ·subst e; rw [if_pos rfl]
     constructor
     ·intro h; exact absurd rfl h.2
     ·intro h; exact absurd h0 h.1
    ·rw [if_neg e,h2 j,open_set hil,if_neg e]
   ·rw [if_neg (by rw [h1]; simp)]; exact .inr ⟨rfl,h2⟩

theorem dfsAll_full (adj:Nat→List Nat) (n:Nat) (hadj:∀ i,∀ k∈adj i,k<n):∀ (L:List Nat) (st:List Int),st.length=n→(∀ i∈L,i<n)→(∀ j,¬ isOpen st j)→dfsAll adj n L st=false→∃ c,Way (edge adj) c c
 | [],st,_,_,_,h=>by cases h
 | i::r,st,hl,hL,hop,h=>by
  have hz:zeros st<n+1:=by have:zeros st≤st.length:=List.countP_le_length; omega
  have hsh:=dfs_shape adj (n+1) i st
  simp only [dfsAll] at h
  rcases dfs_full adj n hadj (n+1) i st hl (hL i (by simp)) hz (fun j hj=>absurd hj (hop j)) with ⟨h1,h2⟩ | ⟨_,h2⟩
  ·rw [if_pos h1] at h
   exact dfsAll_full adj n hadj r _ (by rw [hsh.1,hl]) (fun x hx=>hL x (by simp [hx])) (fun j hj=>hop j ((h2 j).1 hj)) h
  ·exact h2

theorem okn_way {adj:Nat→List Nat} {i j:Nat} (h:Way (edge adj) i j):∀ {m:Nat},Okn adj m i→∃ q,q<m∧Okn adj q j:=by
 induction h with
 | one h =>
  intro m ho
  cases ho with
  | @mk q _ ho=>exact ⟨q,by omega,ho _ (by simpa [edge] using h)⟩
 | snoc _ h2 ih =>
  intro m ho
  obtain ⟨q,h3,h4⟩:=ih ho
  cases h4 with
  | @mk q' _ ho'=>exact ⟨q',by omega,ho' _ (by simpa [edge] using h2)⟩

theorem okn_round {adj:Nat→List Nat} {i:Nat} (h:Way (edge adj) i i):∀ {m:Nat},¬ Okn adj m i:=by
 intro m
 induction m using Nat.strongRecOn with
 | ind m ih=>intro ho; obtain ⟨q,h1,h2⟩:=okn_way h ho; exact ih q h1 h2

theorem adjB_lt {B:Binds} {i k:Nat} (h:k∈adjB B i):k<B.length:=by
 unfold adjB at h
 split at h
 ·simp only [List.mem_filterMap] at h
  obtain ⟨v,_,h2⟩:=h
  split at h2
  ·cases h2
  ·rename_i hp
   cases h2
   rcases placeB_find B v with ⟨h3,_⟩ | ⟨j,t,h3,h4,_⟩
   ·omega
   ·rw [h3]; have:=(List.getElem?_eq_some_iff.1 h4).1; simpa using this
 ·simp at h

theorem adjB_lt' {B:Binds} {i k:Nat} (h:k∈adjB B i):i<B.length:=by
 unfold adjB at h
 split at h
 ·rename_i b hb; exact (List.getElem?_eq_some_iff.1 hb).1
 ·simp at h

def okAt (B:Binds) (i:Nat):Bool:=match B[i]? with
 | some b=>decide (0≤b.1)&&decide (b.1<1000000)&&decide (placeB B b.1=i)&&b.2.rightB
 | none=>true
def rightR (B:Binds):Bool:=(List.range B.length).all (okAt B)&&(List.range B.length).all fun i=>!warsh (edge (adjB B)) B.length i i

theorem findB_nil:∀ {B:Binds} {v:Int},findB B v=none→∀ b∈B,b.1≠v
 | [],_,_,b,hb=>by simp at hb
 | c::B,v,h,b,hb=>by
  rw [findB_cons] at h
  split at h
  ·cases h
  ·rename_i hc
   rcases List.mem_cons.1 hb with rfl | hb
   ·exact hc
   ·exact findB_nil h b hb

theorem nodup_place {B:Binds}:(B.map (·.1)).Nodup↔∀ (i:Nat) (b:Int × Tm),B[i]? = some b→placeB B b.1=i:=by
 constructor
 ·intro hn i b hb
  rcases placeB_find B b.1 with ⟨_,h2⟩ | ⟨j,t,h1,h2,_⟩
  ·exact absurd rfl (findB_nil h2 b (List.mem_of_getElem? hb))
  ·rw [h1]
   have e1:(B.map (·.1))[i]? = some b.1:=by rw [List.getElem?_map,hb]; rfl
   have e2:(B.map (·.1))[j]? = some b.1:=by rw [List.getElem?_map,h2]; rfl
   obtain ⟨l1,e1⟩:=List.getElem?_eq_some_iff.1 e1
   obtain ⟨l2,e2⟩:=List.getElem?_eq_some_iff.1 e2
   have:=(List.getElem_inj hn).1 (e2.trans e1.symm)
   omega
 ·intro h
  have hB:∀ k,(h:k<B.length)→placeB B (B[k]).1=k:=fun k hk=>h k _ (List.getElem?_eq_getElem hk)
  refine List.pairwise_iff_getElem.2 fun i j hi hj hij he=>?_
  simp only [List.getElem_map] at he
  have g1:=hB i (by simpa using hi)
  have g2:=hB j (by simpa using hj)
  rw [he,g2] at g1
  omega

theorem rightR_eq (B:Binds):rightR B=rightS B:=by
 have hadj:∀ i,∀ k∈adjB B i,k<B.length:=fun i k hk=>adjB_lt hk
 have hE:∀ i j,edge (adjB B) i j=true→i<B.length∧j<B.length:=fun i j h=>by
  have h:j∈adjB B i:=by simpa [edge] using h
  exact ⟨adjB_lt' h,adjB_lt h⟩
 have hA:((List.range B.length).all fun i=>!warsh (edge (adjB B)) B.length i i)=dfsAll (adjB B) B.length (List.range B.length) (List.replicate B.length 0):=by
  have h0:∀ j,(List.replicate B.length (0:Int)).getD j 0=0:=fun j=>by
   rw [List.getD_eq_getElem?_getD,List.getElem?_replicate]; split <;> rfl
  rw [Bool.eq_iff_iff]
  constructor
  ·intro h
   cases hd:dfsAll (adjB B) B.length (List.range B.length) (List.replicate B.length 0) with
   | true=>rfl
   | false =>
    obtain ⟨c,hc⟩:=dfsAll_full (adjB B) B.length hadj _ _ (by simp) (by simp) (fun j hj=>hj.1 (h0 j)) hd
    have hcl:c<B.length:=by
     have key:∀ {i j:Nat},Way (edge (adjB B)) i j→j<B.length:=fun h=>by
      cases h with
      | one h=>exact (hE _ _ h).2
      | snoc _ h=>exact (hE _ _ h).2
     exact key hc
    have h1:=List.all_eq_true.1 h c (by simpa using hcl)
    rw [warsh_full hE hc] at h1; cases h1
  ·intro h
   rw [List.all_eq_true]
   intro i hi
   obtain ⟨m,hm⟩:=dfsAll_sound _ _ (fun j hj=>by rw [h0] at hj; cases hj) h i hi
   cases hw:warsh (edge (adjB B)) B.length i i with
   | false=>rfl
   | true=>exact absurd hm (okn_round (warsh_way _ _ _ _ hw))
 have hF:(List.range B.length).all (okAt B)=(!decide ((ixM (B.map (·.1))).length<B.length)&&fineB B):=by
  have hn:(!decide ((ixM (B.map (·.1))).length<B.length))=true↔(B.map (·.1)).Nodup:=by
   have:=once_len (V:=B.map (·.1))
   rw [List.length_map,← ixM_len] at this
   simp only [Bool.not_eq_true',decide_eq_false_iff_not]
   rw [this]; exact Classical.not_not
  rw [Bool.eq_iff_iff,Bool.and_eq_true,hn,nodup_place,List.all_eq_true,fineB,List.all_eq_true]
  constructor
  ·intro h
   have key:∀ (i:Nat) (b:Int × Tm),B[i]? = some b→(0≤b.1∧b.1<1000000)∧placeB B b.1=i∧b.2.rightB=true:=fun i b hb=>by
    have:=h i (by simp; exact (List.getElem?_eq_some_iff.1 hb).1)
    rw [okAt,hb] at this
    simp only [Bool.and_eq_true,decide_eq_true_eq] at this
    exact ⟨this.1.1,this.1.2,this.2⟩
   refine ⟨fun i b hb=>(key i b hb).2.1,fun b hb=>?_⟩
   obtain ⟨i,hi⟩:=List.mem_iff_getElem?.1 hb
   obtain ⟨h1,_,h3⟩:=key i b hi
   simp [h1.1,h1.2,h3]
  ·rintro ⟨h1,h2⟩ i hi
   have hil:i<B.length:=by simpa using hi
   have hb:B[i]? = some (B[i]'hil):=List.getElem?_eq_getElem _
   have h3:=h2 _ (List.mem_of_getElem? hb)
   simp only [Bool.and_eq_true,decide_eq_true_eq] at h3
   rw [okAt,hb]
   simp only [Bool.and_eq_true,decide_eq_true_eq]
   exact ⟨⟨h3.1,h1 i _ hb⟩,h3.2⟩
 rw [rightR,hA,hF,rightS]
end PSL

namespace PSL
open Go
namespace Tm
end Tm
end PSL
namespace PSL
open Go
end PSL

namespace PSL
open Go
namespace Tm
end Tm
abbrev Pt:=Tm × List Nat
namespace Tm

def Good (P:List Pt):Prop:=∀ (k:Nat) (y:Tm) (at_:List Nat),P[k]? = some (y,at_)→y.fairR=true∧at_.length=y.l.length∧∀ (j:Nat) (z:Tm),y.l[j]? = some z→∃ (a:Nat) (b:List Nat),at_[j]? = some a∧a<k∧P[a]? = some (z,b)

def Pre (P Q:List Pt):Prop:=∃ R,Q=P++R

theorem Pre.get {P Q:List Pt} (h:Pre P Q) {i:Nat} {x:Pt} (hx:P[i]? = some x):Q[i]? = some x:=by
 obtain ⟨R,rfl⟩:=h
 rw [List.getElem?_append_left (List.getElem?_eq_some_iff.1 hx).1]; exact hx
theorem Pre.refl (P:List Pt):Pre P P:=⟨[],by simp⟩

theorem Pre.trans {P Q R:List Pt} (h:Pre P Q) (k:Pre Q R):Pre P R:=by
 obtain ⟨A,rfl⟩:=h; obtain ⟨B,rfl⟩:=k
 exact ⟨A++B,by simp⟩
theorem Good.nil:Good []:=fun k y b h=>by simp at h
end Tm
end PSL

namespace PSL
open Go
def gd (at_:List Nat) (j:Nat):Int:=((at_.getD j 0:Nat):Int)
end PSL
namespace PSL
open Go
end PSL
namespace PSL
open Go
end PSL
namespace PSL
open Go
end PSL
namespace PSL
open Go
def smallS (l:List Tm):Bool:=decide (Tm.fewL l 60 200 ≥ 0)

theorem smallS_ok {l:List Tm} (h:smallS l=true):Tm.sizeL l≤60∧∀ x e,e∈Tm.elsL l x→e.2.s.size≤100:=by
 simp only [smallS,decide_eq_true_eq] at h
 rcases Tm.fewL_le l 60 200 (by omega) (by omega) (by omega) with h1 | ⟨h2,_,_,h5⟩
 ·omega
 ·exact ⟨by omega,h5⟩

theorem few_neg {t:Tm} {m d:Int} (h:-1≤m∧m<0):t.few m d=-1:=by
 rw [Tm.few_eq,if_pos]
 simp only [Tm.fewStep]
 rw [show IntKind.i64.wrap (m - 1)=m - 1 from w64 (by omega) (by omega),decide_eq_true (by omega:m - 1<0)]
 rfl

theorem few_bound (t:Tm) {m d:Int} (h0:-1≤m) (h1:m<9223372036854775808) (h2:d≤1000):-1≤t.few m d∧t.few m d≤m∧(0≤t.few m d→t.few m d+t.size≤m∧∀ x e,e∈t.els x→e.2.s.size≤100):=by
 by_cases h:m<0
 ·rw [few_neg ⟨h0,h⟩]; exact ⟨by omega,by omega,fun h=>by omega⟩
 ·rcases Tm.few_le t m d (by omega) h1 h2 with h3 | ⟨h3,_,_,h4,h5⟩
  ·rw [h3]; exact ⟨by omega,by omega,fun h=>by omega⟩
  ·exact ⟨by omega,by omega,fun _=>⟨h3,h5⟩⟩
end PSL

namespace PSL
open Go Go.RowKit Go.MapKept
abbrev Sg:=ByteArray × Int
def skV (p:Sg):Value:=.agg #[.string p.1,.int .i64 p.2]
def sgA (p:Sg):AV:=.agg [.d (.v (.string p.1)),.d (.v (.int .i64 p.2))]
def kmap (l:List (Sg × AV)):List (Value × AV):=l.map fun e=>(skV e.1,e.2)

def getK:List (Sg × AV)→Sg→Option AV
 | [],_=>none
 | e::r,p=>if e.1=p then some e.2 else getK r p

def setK:List (Sg × AV)→Sg→AV→List (Sg × AV)
 | [],p,v=>[(p,v)]
 | e::r,p,v=>if e.1=p then (p,v)::r else e::setK r p v

structure SKey (P:Program) (kt:TypeId):Prop where
 und:∃ fs,P.underlying kt=some (.struct fs)
 eq:∀ p q w,(Op.equal kt (skV p) (skV q)).run P w=.ok (decide (p=q)) w
 ck:∀ b p w,(Instr.checkKey b 10000 kt (skV p)).run P w=.ok () w

theorem findK_ok {P:Program} {kt:TypeId} (hk:SKey P kt) {S:Nat→Prop} {w:World} {φ:List Phy} (p:Sg):∀ {l:List (Sg × AV)} {ents:List MapEntry} {i:Nat},EntsOk S w φ (kmap l) ents →
  match getK l p with
  | none=>(Instr.findAsking kt (skV p) ents i).run P w=.ok none w∧∀ v,setK l p v=l++[(p,v)]
  | some x=>∃ j v,(Instr.findAsking kt (skV p) ents i).run P w=.ok (some (i+j,v)) w∧RV S w φ x v∧(∃ f,ents[j]? = some f∧f.key=skV p)∧j<l.length∧∀ v,setK l p v=l.set j (p,v)
 | [],ents,i,h=>by
  cases ents with
  | nil=>simp [getK,Instr.findAsking,setK]
  | cons _ _=>have:=h.1; simp [kmap] at this
 | e::l,ents,i,h=>by
  cases ents with
  | nil=>have:=h.1; simp [kmap] at this
  | cons f ents =>
   obtain ⟨h1,h2⟩:=h
   simp only [kmap,List.map_cons,List.cons.injEq] at h1
   obtain ⟨hf,h1⟩:=h1
   simp only [kmap,List.map_cons,RVs] at h2
   simp only [getK]
   by_cases he:e.1=p
   ·rw [if_pos he]
    refine ⟨0,f.val,?_,h2.1,⟨f,rfl,by rw [← hf,he]⟩,by simp,fun v=>by simp only [setK]; rw [if_pos he]; rfl⟩
    simp only [Instr.findAsking,Sem.run_bind,← hf,hk.eq,Result.andThen_ok]
    simp [he]
   ·rw [if_neg he]
    have hd:decide (p=e.1)=false:=decide_eq_false fun h=>he h.symm
    have:=findK_ok hk p (l:=l) (ents:=ents) (i:=i+1) ⟨by simpa [kmap] using h1,by simpa [kmap] using h2.2⟩
    have hstep:(Instr.findAsking kt (skV p) (f::ents) i).run P w=(Instr.findAsking kt (skV p) ents (i+1)).run P w:=by
     simp only [Instr.findAsking,Sem.run_bind,← hf,hk.eq,Result.andThen_ok,hd]
     simp
    cases hg:getK l p with
    | none =>
     rw [hg] at this; simp only at this ⊢
     exact ⟨by rw [hstep]; exact this.1,fun v=>by simp only [setK]; rw [if_neg he,this.2]; rfl⟩
    | some x =>
     rw [hg] at this; simp only at this ⊢
     obtain ⟨j,v,g1,g2,⟨f',g3,g4⟩,g5,g6⟩:=this
     refine ⟨j+1,v,by rw [hstep,g1,Nat.add_assoc,Nat.add_comm 1 j],g2,⟨f',by rw [List.getElem?_cons_succ]; exact g3,g4⟩,by simp only [List.length_cons]; omega,fun v=>by simp only [setK]; rw [if_neg he,g6]; rfl⟩

theorem run_findKeyK {P:Program} {kt:TypeId} (hk:SKey P kt) {w:World} (p:Sg) {ents:List MapEntry} (h:ents=[]∨∃ q,∃ f r,ents=f::r∧f.key=skV q):(Instr.findKey kt (skV p) ents).run P w=(Instr.findAsking kt (skV p) ents 0).run P w:=by
 obtain ⟨fs,hu⟩:=hk.und
 rcases h with rfl | ⟨q,f,r,rfl,hf⟩
 ·simp [Instr.findKey,run_underlying hu,Instr.findNow,Instr.findAsking]
 ·simp [Instr.findKey,run_underlying hu,Instr.findNow,Instr.sameNow,skV]

theorem entsK_head {S:Nat→Prop} {w:World} {φ:List Phy} {l:List (Sg × AV)} {ents:List MapEntry} (h:EntsOk S w φ (kmap l) ents):ents=[]∨∃ q,∃ f r,ents=f::r∧f.key=skV q:=by
 cases ents with
 | nil=>exact .inl rfl
 | cons f r =>
  cases l with
  | nil=>have:=h.1; simp [kmap] at this
  | cons e l =>
   have:=h.1
   simp only [kmap,List.map_cons,List.cons.injEq] at this
   exact .inr ⟨e.1,f,r,rfl,this.1.symm⟩

theorem sk_bits (p:Sg):Instr.sameBits 10000 (skV p) (skV p)=true:=by
 simp [skV,Instr.sameBits,bytes_beq]

theorem run_keyStaysK {P:Program} {w:World} (p:Sg):(Instr.keyThatStays (skV p) (skV p)).run P w=.ok (skV p) w:=by
 simp [Instr.keyThatStays,sk_bits]
section
variable {g:G} {pf:Nat→Cls} {ops:Array Oper} {Fin:Exit→Act→World→Prop}

theorem sg_rv {S:Nat→Prop} {w:World} {φ:List Phy} {p:Sg} {v:Value} (h:RV S w φ (sgA p) v):v=skV p:=by
 simp only [sgA,RV] at h
 obtain ⟨cs,rfl,h⟩:=h
 match cs,h with
 | [x,y],h =>
  simp only [RVs,RV,and_true] at h
  obtain ⟨h1,h2⟩:=h
  cases h1; cases h2
  rfl
 | [],h=>simp [RVs] at h
 | [_],h=>simp [RVs] at h
 | _::_::_::_,h=>simp [RVs] at h

theorem rvs_set {S:Nat→Prop} {w:World} {φ:List Phy} {x:AV} {u:Value}:∀ {l:List AV} {vs:List Value} (j:Nat),RVs S w φ l vs→RV S w φ x u→RVs S w φ (l.set j x) (vs.set j u)
 | [],[],_,_,_=>by simp [RVs]
 | [],_::_,_,h,_=>by simp [RVs] at h
 | _::_,[],_,h,_=>by simp [RVs] at h
 | a::l,b::vs,0,h,hx=>by simp only [RVs,List.set_cons_zero] at h ⊢; exact ⟨hx,h.2⟩
 | a::l,b::vs,j+1,h,hx=>by simp only [RVs,List.set_cons_succ] at h ⊢; exact ⟨h.1,rvs_set j h.2 hx⟩

theorem list_modify_set {α:Type} (f:α→α):∀ (l:List α) (j:Nat) (x:α),l[j]? = some x→l.modify j f=l.set j (f x)
 | [],j,x,h=>by simp at h
 | a::l,0,x,h=>by simp at h; subst h; rfl
 | a::l,j+1,x,h=>by
  simp at h
  simp only [List.modify_succ_cons,List.set_cons_succ]
  rw [list_modify_set f l j x h]

theorem R_setK (hg:GOk g) {dst:Option Nat} {T:Nat} {x y v:Operand} {ty:Nat} {pos:String} {after:Array Edge} {gd:Option (Nat × Bool)} {rest:List Oper} {k:List It} {E:Env} {objs:List Ob}
  {i q by_ kt et:Nat} {z:List Value} {v':AV} (p:Sg) (l l':List (Sg × AV)) (hk:SKey g.P kt)
  (hgd:guardA ops.toList E gd=some true) (hd:dstOk ⟨g.ty,g.N⟩ dst=true) (hx:ev E x=.mp i) (ho:nth objs i=some (.map (kmap l))) (hy:ev E y=sgA p) (hT:g.ty T=some ⟨q,by_,z,.map kt et⟩)
  (hv:Ent (ev E v) v') (hl:setK l p v'=l')
  (hr:R g pf Fin (.dr ops rest::k) (putO E dst .any) (setN objs i (.map (kmap l')))):R g pf Fin (.dr ops (⟨dst,.mapUpdate T x y v,ty,pos,after,gd⟩::rest)::k) E objs:=by
 subst hl
 refine R_op (LocOp.turning hg (grow_map ho) hgd hd (by simp) fun φ a' w hρ hs=>?_) hr
 simp only [Op.operands] at hρ
 have hxv:=hρ x (by simp)
 rw [hx] at hxv
 have hyv:=hρ y (by simp)
 rw [hy] at hyv
 have hvy:=sg_rv hyv
 have hvv:=hv _ _ _ _ (hρ v (by simp))
 simp only [RV] at hxv
 obtain ⟨b',hb,hxv⟩:=hxv
 have hko:=obj_at hs hb ho
 simp only [ObOk] at hko
 obtain ⟨ents,clk,hheap,hents⟩:=hko
 have hT':g.P.underlying T=some (.map kt et):=by have:=(hg.ty _ _ hT).sh; simpa only [ShFact] using this
 have hfind:=findK_ok hk p (i:=0) hents
 have hfk:=run_findKeyK hk (w:=w) p (entsK_head hents)
 rw [setN_eq]
 cases hg':getK l p with
 | none =>
  rw [hg'] at hfind
  simp only at hfind
  obtain ⟨hfind,hset'⟩:=hfind
  rw [hset']
  have hset:=heap_set (o':=.map (ents.push { key:=skV p,val:=a'.eval v,born:=clk }) (clk+1)) hheap
  refine ⟨.skip,undef,{ w with heap:=w.heap.setIfInBounds b' (.map (ents.push { key:=skV p,val:=a'.eval v,born:=clk }) (clk+1)) },φ.set i (.blk b'),?_,.inr ⟨rfl,rfl⟩,by simp [RV],?_⟩
  ·simp [execOp,Instr.mapUpdate,run_underlying hT',hxv,run_getObj_map hheap,hvy,hk.ck,hfk,hfind,run_setObj_map _ hheap]
  ·refine Stp.swap hs hb (.inl rfl) (by simp) (fun c _ hc=>hset.2 c fun e=>hc (by rw [e]; rfl)) (fun b' hb=>.inl hb) rfl rfl rfl fun hkeep hle=>?_
   simp only [ObOk]
   refine ⟨_,_,hset.1,?_,?_⟩
   ·have:=hents.1
    simp only [kmap,List.map_append,List.map_map,List.map_cons,List.map_nil,Array.toList_push] at this ⊢
    rw [this]
   ·have:=(hents.2.mono hkeep hle).append (l':=[v']) (vs':=[a'.eval v]) (by simp only [RVs,and_true]; exact hvv.mono hkeep hle)
    simpa [kmap] using this
 | some x0 =>
  rw [hg'] at hfind
  simp only at hfind
  obtain ⟨j,vv,h1,h2,⟨f,h3,h4⟩,h5,h6⟩:=hfind
  rw [Nat.zero_add] at h1
  rw [h6]
  obtain ⟨f',hf'⟩:∃ f':MapEntry→MapEntry,f'=fun e=>{ e with key:=skV p,val:=a'.eval v }:=⟨_,rfl⟩
  have hset:=heap_set (o':=.map (ents.modify j f') clk) hheap
  have h3':ents[j]? = some f:=by simpa using h3
  refine ⟨.skip,undef,{ w with heap:=w.heap.setIfInBounds b' (.map (ents.modify j f') clk) },φ.set i (.blk b'),?_,.inr ⟨rfl,rfl⟩,by simp [RV],?_⟩
  ·simp [execOp,Instr.mapUpdate,run_underlying hT',hxv,run_getObj_map hheap,hvy,hk.ck,hfk,h1,h3',h4,run_keyStaysK,run_setObj_map _ hheap,hf']
  ·refine Stp.swap hs hb (.inl rfl) (by simp) (fun c _ hc=>hset.2 c fun e=>hc (by rw [e]; rfl)) (fun b' hb=>.inl hb) rfl rfl rfl fun hkeep hle=>?_
   simp only [ObOk]
   have hml:(ents.modify j f').toList=ents.toList.set j (f' f):=by
    rw [Array.toList_modify,list_modify_set f' _ _ f h3]
   refine ⟨_,_,hset.1,?_,?_⟩
   ·have:=hents.1
    rw [hml]
    simp only [kmap,List.map_map,List.map_set] at this ⊢
    rw [this,hf']
   ·have:=rvs_set j (hents.2.mono hkeep hle) (hvv.mono hkeep hle)
    rw [hml]
    simp only [kmap,List.map_map,List.map_set] at this ⊢
    rw [show (f' f).val=a'.eval v by rw [hf']]
    exact this

structure SCmp (P:Program) (T:Nat):Prop where
 eql:∀ (x y:Operand) (p q:Sg) (w:World),((do eqGuard .eql T x y (skV p) (skV q); binOp .eql T (skV p) (skV q)):Sem Value).run P w=.ok (.bool (decide (p=q))) w
 neq:∀ (x y:Operand) (p q:Sg) (w:World),((do eqGuard .neq T x y (skV p) (skV q); binOp .neq T (skV p) (skV q)):Sem Value).run P w=.ok (.bool (!decide (p=q))) w

theorem R_eqK (hg:GOk g) (p q:Sg) {dst:Option Nat} {T T':Nat} {x y:Operand} {ty:Nat} {pos:String} {after:Array Edge} {gd:Option (Nat × Bool)} {rest:List Oper} {k:List It} {E:Env} {objs:List Ob} (hc:SCmp g.P T)
  (hgd:guardA ops.toList E gd=some true) (hd:dstOk ⟨g.ty,g.N⟩ dst=true) (hx:ev E x=sgA p) (hy:ev E y=sgA q)
  (hr:R g pf Fin (.dr ops rest::k) (putO E dst (bV (decide (p=q)))) objs):R g pf Fin (.dr ops (⟨dst,.binOp .eql T x y T',ty,pos,after,gd⟩::rest)::k) E objs:=by
 refine R_op (LocOp.up (LocOp.quiet hg hgd hd (by simp) fun φ objs w' w hρ hs'=>?_)) hr
 simp only [Op.operands] at hρ
 have hxv:=hρ x (by simp)
 rw [hx] at hxv
 have hyv:=hρ y (by simp)
 rw [hy] at hyv
 have ex:=sg_rv hxv
 have ey:=sg_rv hyv
 refine out_val hs' (vv:=.bool (decide (p=q))) ?_ (by simp only [bV,RV]; exact .v _)
 have h2:=hc.eql x y p q w
 simp only [Sem.run_bind] at h2
 simp only [execOp,Sem.run_bind,ex,ey]
 have e:∀ (r1:Result Unit) (f:Unit→World→Result Value),(r1.andThen f).andThen (fun v w'=>.ok (Next.value v) w')=r1.andThen fun u w'=>(f u w').andThen (fun v w'=>.ok (Next.value v) w'):=fun r1 f=>by cases r1 <;> rfl
 rw [h2]; rfl

theorem R_lookupKD (hg:GOk g) {dst:Option Nat} {T:Nat} {x y:Operand} {ok:Bool} {ty:Nat} {pos:String} {after:Array Edge} {gd:Option (Nat × Bool)} {rest:List Oper} {k:List It} {E:Env} {objs:List Ob}
  {q by_ kt et:Nat} {ds:List (Value × D)} {z:List Value} {zv:Value} (p:Sg) (l:List (Sg × AV)) (hl:ds.map (fun p=>(p.1,AV.d p.2))=kmap l) (hk:SKey g.P kt)
  (hgd:guardA ops.toList E gd=some true) (hd:dstOk ⟨g.ty,g.N⟩ dst=true) (hx:ev E x=.d (.map ds)) (hy:ev E y=sgA p) (hT:g.ty T=some ⟨q,by_,z,.map kt et⟩)
  (hz:(g.P.info? et).bind (·.zero)=some zv) {v:AV} (hv:lookI' ok (cstV zv) (getK l p)=v)
  (hr:R g pf Fin (.dr ops rest::k) (putO E dst v) objs):R g pf Fin (.dr ops (⟨dst,.lookup T x y ok,ty,pos,after,gd⟩::rest)::k) E objs:=by
 subst hv
 refine R_op (LocOp.quiet hg hgd hd (by simp) fun φ objs₁ a w hρ hs=>?_) hr
 simp only [Op.operands] at hρ
 have hxv:=hρ x (by simp)
 rw [hx] at hxv
 have hyv:=hρ y (by simp)
 rw [hy] at hyv
 have hvy:=sg_rv hyv
 simp only [RV] at hxv
 generalize hxe:a.eval x=vx at hxv
 obtain ⟨b,ents,clk,rfl,hheap,hents⟩:∃ (b:Nat) (ents:Array MapEntry) (clk:Nat),vx=.map (some b)∧w.heap[b]? = some (.map ents clk)∧EntsOk (SS g.S0 φ) w φ (ds.map fun p=>(p.1,AV.d p.2)) ents.toList:=by
  cases hxv with
  | map g' hS hb hk hg' hr' =>
   refine ⟨_,_,_,rfl,hb,by simpa [List.map_map,Function.comp_def] using hk,?_⟩
   have hlen:=congrArg List.length hk
   simp only [List.length_map,Array.length_toList] at hlen
   refine RVs.of_get (by simpa using hlen) fun j u v hu hv=>?_
   rw [List.getElem?_map,List.getElem?_map] at hu
   cases hj:ds[j]? with
   | none=>rw [hj] at hu; cases hu
   | some x =>
    rw [hj] at hu; simp at hu; subst hu
    rw [List.getElem?_map,Array.getElem?_toList,hg' j x hj] at hv
    cases hv
    simpa only [RV] using hr' j x hj
 rw [hl] at hents
 have hT':g.P.underlying T=some (.map kt et):=by have:=(hg.ty _ _ hT).sh; simpa only [ShFact] using this
 have hzero:(zeroValue et).run g.P w=.ok zv w:=by
  obtain ⟨inf,h1,h2⟩:=Option.bind_eq_some_iff.1 hz
  simp [zeroValue,typeInfo,h1,h2]
 have hzR:RV (SS g.S0 φ) w φ (cstV zv) zv:=rv_restr (l:=[]) (E:=[]) (E₁:=[]) (a:={ tmps:=#[],defers:=[] }) (by simp) (fun t=>by simp [lk,RV]) (.const zv)
 have hfind:=findK_ok hk p (i:=0) hents
 have hfk:=run_findKeyK hk (w:=w) p (entsK_head hents)
 cases hg':getK l p with
 | none =>
  rw [hg'] at hfind
  simp only at hfind
  refine out_val hs (vv:=if ok then .tuple #[zv,.bool false] else zv) ?_ ?_
  ·simp [execOp,Instr.lookup,run_underlying hT',hxe,run_getObj_map hheap,hvy,hk.ck,hfk,hfind.1,hzero]
  ·simp only [lookI']
   cases ok
   ·simpa using hzR
   ·simp only [if_true,RV]
    exact ⟨[zv,.bool false],rfl,by simp only [RVs,RV,bV,and_true]; exact ⟨hzR,.v _⟩⟩
 | some x =>
  rw [hg'] at hfind
  simp only at hfind
  obtain ⟨j,vv,h1,h2,_⟩:=hfind
  refine out_val hs (vv:=if ok then .tuple #[vv,.bool true] else vv) ?_ ?_
  ·simp [execOp,Instr.lookup,run_underlying hT',hxe,run_getObj_map hheap,hvy,hk.ck,hfk,h1]
  ·simp only [lookI']
   cases ok
   ·simpa using h2
   ·simp only [if_true,RV]
    exact ⟨[vv,.bool true],rfl,by simp only [RVs,RV,bV,and_true]; exact ⟨h2,.v _⟩⟩
end
end PSL

namespace PSL
open Go

inductive Gl where
 | mk (k:Int) (t:Tm) (a b c:List Gl)
namespace Gl
def k:Gl→Int | mk k _ _ _ _=>k
def t:Gl→Tm | mk _ t _ _ _=>t
def a:Gl→List Gl | mk _ _ a _ _=>a
def b:Gl→List Gl | mk _ _ _ b _=>b
def c:Gl→List Gl | mk _ _ _ _ c=>c

theorem ind {p:Gl→Prop} (h:∀ g:Gl,(∀ x∈g.a,p x)→(∀ x∈g.b,p x)→(∀ x∈g.c,p x)→p g) (g:Gl):p g :=
 Gl.rec (motive_1:=p) (motive_2:=fun l=>∀ x∈l,p x) (fun k t a b c ha hb hc=>h (.mk k t a b c) ha hb hc) (by simp) (fun x r h1 h2=>by
  intro y hy
  rcases List.mem_cons.1 hy with rfl | hy
  ·exact h1
  ·exact h2 y hy) g

theorem indL {p:List Gl→Prop} (h:∀ l:List Gl,(∀ x∈l,p x.a∧p x.b∧p x.c)→p l) (l:List Gl):p l:=by
 have key:∀ g:Gl,p g.a∧p g.b∧p g.c:=fun g=>ind (p:=fun g=>p g.a∧p g.b∧p g.c) (fun g h1 h2 h3=>⟨h _ h1,h _ h2,h _ h3⟩) g
 exact h l fun x _=>key x

mutual
def rowM:Gl→List D
 | mk k t a b c=>[.v (.int .i64 k),.v (.int .i64 t.k),.v (.string t.s),.v (.int .i64 t.n),.sl (Tm.rows t.l),.sl (rows a),.sl (rows b),.sl (rows c)]
def rows:List Gl→List (List D)
 | []=>[]
 | g::r=>rowM g::rows r
end
def row (g:Gl):List D:=[.v (.int .i64 g.k),.v (.int .i64 g.t.k),.v (.string g.t.s),.v (.int .i64 g.t.n),.sl (Tm.rows g.t.l),.sl (rows g.a),.sl (rows g.b),.sl (rows g.c)]
theorem rowM_eq (g:Gl):rowM g=row g:=by cases g; simp only [rowM,row,k,t,a,b,c]

theorem rows_eq (l:List Gl):rows l=l.map row:=by
 induction l with
 | nil=>rfl
 | cons x r ih=>simp only [rows,rowM_eq,List.map_cons,ih]
theorem rows_length (l:List Gl):(rows l).length=l.length:=by rw [rows_eq]; simp
theorem rows_get {l:List Gl} {i:Nat} {x:Gl} (h:l[i]? = some x):(rows l)[i]? = some (row x):=by rw [rows_eq,List.getElem?_map,h]; rfl
def av (g:Gl):AV:=.agg [.d (.v (.int .i64 g.k)),.d (.v (.int .i64 g.t.k)),.d (.v (.string g.t.s)),.d (.v (.int .i64 g.t.n)),.d (.sl (Tm.rows g.t.l)),.d (.sl (rows g.a)),.d (.sl (rows g.b)),.d (.sl (rows g.c))]

mutual
def size:Gl→Nat
 | mk _ t a b c=>t.size+sizeL a+sizeL b+sizeL c
def sizeL:List Gl→Nat
 | []=>0
 | g::r=>size g+sizeL r
end
theorem size_eq (g:Gl):g.size=g.t.size+sizeL g.a+sizeL g.b+sizeL g.c:=by cases g; simp only [size,t,a,b,c]
theorem tmPos (t:Tm):1≤t.size:=by cases t; simp only [Tm.size]; omega
theorem size_pos (g:Gl):1≤g.size:=by rw [size_eq]; have:=tmPos g.t; omega

theorem len_size (l:List Gl):l.length≤sizeL l:=by
 induction l with
 | nil=>simp
 | cons x r ih=>simp only [sizeL,List.length_cons]; have:=size_pos x; omega

theorem size_mem {l:List Gl} {x:Gl} (h:x∈l):x.size≤sizeL l:=by
 induction l with
 | nil=>cases h
 | cons y r ih =>
  simp only [sizeL]
  rcases List.mem_cons.1 h with rfl | h
  ·omega
  ·have:=ih h; omega

theorem sizeL_app (l m:List Gl):sizeL (l++m)=sizeL l+sizeL m:=by
 induction l with
 | nil=>simp [sizeL]
 | cons x r ih=>simp only [List.cons_append,sizeL,ih]; omega

inductive Ok:Gl→Prop
 | mk {k:Int} {t:Tm} {a b c:List Gl}:I64 k→t.Ok∧t.Fit→a.length≤140737488355328→b.length≤140737488355328→c.length≤140737488355328→(∀ x∈a,Ok x)→(∀ x∈b,Ok x)→(∀ x∈c,Ok x)→Ok (.mk k t a b c)
theorem Ok.tm {g:Gl} (h:g.Ok):g.t.Ok∧g.t.Fit:=by cases h; assumption
theorem Ok.la {g:Gl} (h:g.Ok):g.a.length≤140737488355328:=by cases h; assumption
theorem Ok.lb {g:Gl} (h:g.Ok):g.b.length≤140737488355328:=by cases h; assumption
theorem Ok.lc {g:Gl} (h:g.Ok):g.c.length≤140737488355328:=by cases h; assumption
theorem Ok.ma {g:Gl} (h:g.Ok):∀ x∈g.a,Ok x:=by cases h; assumption
theorem Ok.mb {g:Gl} (h:g.Ok):∀ x∈g.b,Ok x:=by cases h; assumption
theorem Ok.mc {g:Gl} (h:g.Ok):∀ x∈g.c,Ok x:=by cases h; assumption
end Gl

structure Cs where
 head:Tm
 body:List Gl
 vars:Int
namespace Cs
def row (x:Cs):List D:=[.v (.int .i64 x.head.k),.v (.string x.head.s),.v (.int .i64 x.head.n),.sl (Tm.rows x.head.l),.sl (Gl.rows x.body),.v (.int .i64 x.vars)]
def rows (l:List Cs):List (List D):=l.map row
theorem rows_len (l:List Cs):(rows l).length=l.length:=by simp [rows]
theorem rows_get {l:List Cs} {i:Nat} {x:Cs} (h:l[i]? = some x):(rows l)[i]? = some (row x):=by simp [rows,h]
def av (x:Cs):AV:=.agg [.d (.v (.int .i64 x.head.k)),.d (.v (.string x.head.s)),.d (.v (.int .i64 x.head.n)),.d (.sl (Tm.rows x.head.l)),.d (.sl (Gl.rows x.body)),.d (.v (.int .i64 x.vars))]
def size (x:Cs):Nat:=x.head.size+Gl.sizeL x.body

def sizeL:List Cs→Nat
 | []=>0
 | x::r=>size x+sizeL r

structure Ok (x:Cs):Prop where
 head:x.head.Ok∧x.head.Fit
 vars:I64 x.vars
 len:x.body.length≤140737488355328
 body:∀ g∈x.body,g.Ok
end Cs

def prV (l:List Cs):AV:=.agg [.d (.sl (Cs.rows l))]

structure IsGoal (ty:Nat→Option Ty) (T TT:Nat):Prop where
 ex:∃ (a s:Nat) (τ τa τs:Ty),ty T=some τ∧τ.sh=.struct [(0,a),(1,TT),(5,s),(6,s),(7,s)]∧τ.size=8∧1≤τ.bytes∧ty a=some τa∧τa.sh=.int .i64∧ty s=some τs∧τs.sh=.slice T

def isGoalB (ty:Nat→Option Ty) (T TT:Nat):Bool :=
 match ty T with
 | some ⟨8,by_,_,.struct [(0,a),(1,T'),(5,s),(6,s'),(7,s'')]⟩=>Nat.ble 1 by_&&(match ty a with | some ⟨_,_,_,.int .i64⟩=>true | _=>false)&&(match ty s with | some ⟨_,_,_,.slice T2⟩=>Nat.beq T2 T | _=>false)&&Nat.beq T' TT&&Nat.beq s' s&&Nat.beq s'' s
 | _=>false

theorem isGoalB_ok {ty:Nat→Option Ty} {T TT:Nat} (h:isGoalB ty T TT=true):IsGoal ty T TT:=by
 unfold isGoalB at h
 split at h
 case h_2=>cases h
 rename_i by_ z a T' s s' s'' hT
 simp only [Bool.and_eq_true] at h
 obtain ⟨⟨⟨⟨⟨h0,h1⟩,h2⟩,h3⟩,h4⟩,h5⟩:=h
 split at h1
 case h_2=>cases h1
 rename_i ha
 split at h2
 case h_2=>cases h2
 rename_i hs
 have:=natBeq h2
 subst this
 have:=natBeq h3
 subst this
 have:=natBeq h4
 subst this
 have:=natBeq h5
 subst this
 exact ⟨a,_,_,_,_,hT,rfl,rfl,Nat.le_of_ble_eq_true h0,ha,rfl,hs,rfl⟩

theorem gls_of {ty:Nat→Option Ty} {T S B:Nat} {τ τs:Ty} (hτ:ty T=some τ) (hby:1≤τ.bytes) (hs:ty S=some τs) (hs':τs.sh=.slice T) (hB:B≤140737488355328) (n:Nat) (ih:∀ m,m≤n→∀ row,HasTy ty B m T row→∃ g:Gl,row=g.row∧g.Ok) (row:List D) (h:HasTy ty B (n+1) S row) :
  ∃ l:List Gl,row=[.sl (Gl.rows l)]∧l.length≤140737488355328∧∀ x∈l,x.Ok:=by
 obtain ⟨rows,rfl,hlen,hrows⟩:=has_slice hs hs' h
 have hch:∃ l:List Gl,rows=l.map Gl.row∧∀ x∈l,x.Ok:=by
  clear hlen h
  induction rows with
  | nil=>exact ⟨[],rfl,by simp⟩
  | cons r rows ihr =>
   obtain ⟨g,h1,h2⟩:=ih n (Nat.le_refl _) r (hrows r (by simp))
   obtain ⟨l,hl1,hl2⟩:=ihr fun r hr=>hrows r (by simp [hr])
   exact ⟨g::l,by simp [h1,hl1],by simpa using ⟨h2,hl2⟩⟩
 obtain ⟨l,rfl,hl⟩:=hch
 refine ⟨l,by rw [Gl.rows_eq],?_,hl⟩
 have:=hlen τ hτ
 rw [List.length_map] at this
 exact Nat.le_trans (Nat.le_mul_of_pos_right _ hby) (Nat.le_trans this hB)

theorem gl_of {ty:Nat→Option Ty} {T TT B:Nat} (hT:IsTerm ty TT) (hG:IsGoal ty T TT) (hB:B≤140737488355328):∀ (n:Nat) (row:List D),HasTy ty B n T row→∃ g:Gl,row=g.row∧g.Ok:=by
 obtain ⟨a,s,τ,τa,τs,h1,h2,h3,hby,ha,ha',hs,hs'⟩:=hG.ex
 intro n
 induction n using Nat.strongRecOn with
 | _ n ih =>
 intro row h
 cases n with
 | zero=>simp [HasTy] at h
 | succ n =>
  simp only [HasTy,h1,h2,HasFs] at h
  obtain ⟨_,ra,_,g1,rfl,g2,g3,_,rb,_,g4,rfl,g5,g6,_,rc,_,g7,rfl,g8,g9,_,rd,_,g10,rfl,g11,g12,_,re,_,g13,rfl,g14,g15,rfl⟩:=h
  rw [ha] at g1; cases g1
  rw [hs] at g7; cases g7
  rw [hs] at g10; cases g10
  rw [hs] at g13; cases g13
  obtain ⟨k,rfl,hk⟩:=has_int ha ha' g3
  obtain ⟨t,rfl,ht⟩:=tm_of hT hB n rb g6
  cases n with
  | zero=>simp [HasTy] at g9
  | succ n =>
   have ih':∀ m,m≤n→∀ row,HasTy ty B m T row→∃ g:Gl,row=g.row∧g.Ok:=fun m hm=>ih m (by omega)
   obtain ⟨la,rfl,a1,a2⟩:=gls_of h1 hby hs hs' hB n ih' rc g9
   obtain ⟨lb,rfl,b1,b2⟩:=gls_of h1 hby hs hs' hB n ih' rd g12
   obtain ⟨lc,rfl,c1,c2⟩:=gls_of h1 hby hs hs' hB n ih' re g15
   refine ⟨.mk k t la lb lc,by simp [Gl.row,Tm.row,Gl.k,Gl.t,Gl.a,Gl.b,Gl.c],.mk hk ht a1 b1 c1 a2 b2 c2⟩

structure IsClause (ty:Nat→Option Ty) (T TT TG:Nat):Prop where
 ex:∃ (s a:Nat) (τ τs τa:Ty),ty T=some τ∧τ.sh=.struct [(0,TT),(4,s),(5,a)]∧τ.size=6∧1≤τ.bytes∧ty a=some τa∧τa.sh=.int .i64∧ty s=some τs∧τs.sh=.slice TG

def isClauseB (ty:Nat→Option Ty) (T TT TG:Nat):Bool :=
 match ty T with
 | some ⟨6,by_,_,.struct [(0,T'),(4,s),(5,a)]⟩=>Nat.ble 1 by_&&(match ty a with | some ⟨_,_,_,.int .i64⟩=>true | _=>false)&&(match ty s with | some ⟨_,_,_,.slice T2⟩=>Nat.beq T2 TG | _=>false)&&Nat.beq T' TT
 | _=>false

theorem isClauseB_ok {ty:Nat→Option Ty} {T TT TG:Nat} (h:isClauseB ty T TT TG=true):IsClause ty T TT TG:=by
 unfold isClauseB at h
 split at h
 case h_2=>cases h
 rename_i by_ z T' s a hT
 simp only [Bool.and_eq_true] at h
 obtain ⟨⟨⟨h0,h1⟩,h2⟩,h3⟩:=h
 split at h1
 case h_2=>cases h1
 rename_i ha
 split at h2
 case h_2=>cases h2
 rename_i hs
 have:=natBeq h2
 subst this
 have:=natBeq h3
 subst this
 exact ⟨_,_,_,_,_,hT,rfl,rfl,Nat.le_of_ble_eq_true h0,ha,rfl,hs,rfl⟩

theorem cs_of {ty:Nat→Option Ty} {T TT TG B:Nat} (hT:IsTerm ty TT) (hG:IsGoal ty TG TT) (hC:IsClause ty T TT TG) (hB:B≤140737488355328) (n:Nat) (row:List D) (h:HasTy ty B n T row):∃ x:Cs,row=x.row∧x.Ok:=by
 obtain ⟨s,a,τ,τs,τa,h1,h2,h3,hby,ha,ha',hs,hs'⟩:=hC.ex
 obtain ⟨_,_,τg,_,_,q1,_,_,q4,_⟩:=hG.ex
 cases n with
 | zero=>simp [HasTy] at h
 | succ n =>
  simp only [HasTy,h1,h2,HasFs] at h
  obtain ⟨_,ra,_,g1,rfl,g2,g3,_,rb,_,g4,rfl,g5,g6,_,rc,_,g7,rfl,g8,g9,rfl⟩:=h
  rw [ha] at g7; cases g7
  obtain ⟨t,rfl,ht⟩:=tm_of hT hB n ra g3
  obtain ⟨v,rfl,hv⟩:=has_int ha ha' g9
  cases n with
  | zero=>simp [HasTy] at g6
  | succ n =>
   obtain ⟨l,rfl,l1,l2⟩:=gls_of q1 q4 hs hs' hB n (fun m _ row h=>gl_of hT hG hB m row h) rb g6
   exact ⟨⟨t,l,v⟩,by simp [Cs.row,Tm.row],⟨ht,hv,l1,l2⟩⟩
section
variable {ty:Nat→Option Ty} {T TT TG TS B:Nat} {n:Nat} {τ:Ty} {row:List D} {a:AV}

theorem arg_cs (hT:IsTerm ty TT) (hG:IsGoal ty TG TT) (hC:IsClause ty T TT TG) (hB:B≤140737488355328) (hτ:ty T=some τ) (h:HasTy ty B n T row) (ha:a=avOf τ row):∃ x:Cs,a=x.av∧x.Ok:=by
 obtain ⟨x,rfl,hx⟩:=cs_of hT hG hC hB n row h
 refine ⟨x,?_,hx⟩
 obtain ⟨_,_,τ',_,_,g1,g2,_⟩:=hC.ex
 rw [hτ] at g1; cases g1
 rw [ha]; unfold avOf Ty.agg
 rw [g2]; rfl

theorem arg_prog {TC TP s:Nat} {τs:Ty} (hT:IsTerm ty TT) (hG:IsGoal ty TG TT) (hC:IsClause ty TC TT TG) (hB:B≤140737488355328) (hτ:ty TP=some τ) (hsh:τ.sh=.struct [(0,s)]) (hs:ty s=some τs) (hss:τs.sh=.slice TC) (h:HasTy ty B n TP row) (ha:a=avOf τ row):∃ l:List Cs,a=prV l∧(∀ x∈l,x.Ok)∧l.length≤140737488355328:=by
 obtain ⟨_,_,τc,_,_,q1,_,_,q4,_⟩:=hC.ex
 cases n with
 | zero=>simp [HasTy] at h
 | succ n =>
  simp only [HasTy,hτ,hsh,HasFs] at h
  obtain ⟨_,ra,_,g1,rfl,g2,g3,rfl⟩:=h
  rw [hs] at g1; cases g1
  cases n with
  | zero=>simp [HasTy] at g3
  | succ n =>
   obtain ⟨rows,rfl,hlen,hrows⟩:=has_slice hs hss g3
   have hch:∃ l:List Cs,rows=Cs.rows l∧∀ x∈l,x.Ok:=by
    clear hlen g3 g2 ha
    induction rows with
    | nil=>exact ⟨[],rfl,by simp⟩
    | cons r rows ihr =>
     obtain ⟨g,h1,h2⟩:=cs_of hT hG hC hB n r (hrows r (by simp))
     obtain ⟨l,hl1,hl2⟩:=ihr fun r hr=>hrows r (by simp [hr])
     exact ⟨g::l,by simp [Cs.rows,h1,hl1],by simpa using ⟨h2,hl2⟩⟩
   obtain ⟨l,rfl,hl⟩:=hch
   refine ⟨l,?_,hl,?_⟩
   ·rw [ha]; unfold avOf Ty.agg; rw [hsh]; rfl
   ·have:=hlen τc q1
    rw [Cs.rows_len] at this
    exact Nat.le_trans (Nat.le_mul_of_pos_right _ q4) (Nat.le_trans this hB)
end
end PSL

namespace Go.Proofs.YtcgkgofmldhokaaGreat
open Go PSL Go.Proofs Go.ChangeShapes Go.WideShapes Go.ChangeAt Go.RowKit
theorem ownK:ownKnob Tryz.prog.godebug=none:=by kernel_rfl
theorem laidK:laidOutB Tryz.prog=true:=by kernel_rfl
theorem isTerm:IsTerm tyT.get 27:=isTermB_ok (by kernel_rfl)
theorem isGoal:IsGoal tyT.get 62 27:=isGoalB_ok (by kernel_rfl)
theorem isClause:IsClause tyT.get 30 27 62:=isClauseB_ok (by kernel_rfl)

def lawTys:List Nat:=[3,9,4,27,25,152,63,5,62,28,30,22,24,48]

theorem lawTysOk:∀ t∈lawTys,dT tyT.get lawTys t=true:=by
 have h:lawTys.all (fun t=>dT tyT.get lawTys t)=true:=by kernel_rfl
 exact fun t ht=>List.all_eq_true.1 h t ht
theorem reach47:reachBytes≤140737488355328:=by decide
end Go.Proofs.YtcgkgofmldhokaaGreat

namespace PSL
open Go
abbrev Bs:=List UInt8
def Tx (l:Bs):ByteArray:=⟨l.toArray⟩
theorem Tx_size (l:Bs):(Tx l).size=l.length:=by simp [Tx,ByteArray.size]

theorem Tx_get (l:Bs) (n:Nat):(Tx l)[n]? = l[n]? := by
 show (if h:n<(Tx l).size then some ((Tx l)[n]) else none)=l[n]?
 by_cases h:n<l.length
 ·rw [dif_pos (by rw [Tx_size]; exact h),List.getElem?_eq_getElem h]; rfl
 ·rw [dif_neg (by rw [Tx_size]; exact h),List.getElem?_eq_none (by omega)]

theorem Tx_cut (l:Bs) (i j:Nat):(Tx l).extract i j=Tx ((l.drop i).take (j - i)):=by
 apply ByteArray.ext
 rw [ByteArray.data_extract]
 apply Array.ext'
 simp [Tx,List.take_drop,List.extract_eq_take_drop]
theorem Tx_list (l:Bs):(Tx l).toList=l:=by rw [Tm.toList_data]; simp [Tx]
theorem Tx_inj {a b:Bs} (h:Tx a=Tx b):a=b:=by rw [← Tx_list a,h,Tx_list]
theorem Tx_eq (a b:Bs):strEq (Tx a) (Tx b)=(a==b):=by unfold strEq; rw [Tx_list,Tx_list]
def dgC (c:UInt8):Bool:=decide (48≤c.toNat)&&decide (c.toNat≤57)
def lowC (c:UInt8):Bool:=decide (97≤c.toNat)&&decide (c.toNat≤122)
def grtC (c:UInt8):Bool:=(decide (65≤c.toNat)&&decide (c.toNat≤90)) || decide (c.toNat=95)
def folC (c:UInt8):Bool:=dgC c || lowC c || grtC c
def blkC (c:UInt8):Bool:=decide (c.toNat=32) || decide (c.toNat=9) || decide (c.toNat=10)
def sgnL:Bs:=[43,45,42,47,92,94,60,62,61,126,58,46,63,64,35,38,36]
def mrkL:Bs:=[40,41,91,93,124,44]
def sgnC (c:UInt8):Bool:=sgnL.contains c
def mrkC (c:UInt8):Bool:=mrkL.contains c

theorem byte_all {p:UInt8→Bool} (h:(List.range 256).all (fun n=>p (UInt8.ofNat n))=true) (c:UInt8):p c=true:=by
 have h1:=List.all_eq_true.1 h c.toNat (by simp; exact c.toNat_lt)
 simpa using h1

def runB (p:UInt8→Bool) (L:Bs) (i:Nat):Nat:=i+((L.drop i).takeWhile p).length

theorem runB_step {p:UInt8→Bool} {L:Bs} {i:Nat} {c:UInt8} (h:L[i]? = some c) (hp:p c=true):runB p L i=runB p L (i+1):=by
 have hi:=(List.getElem?_eq_some_iff.1 h).1
 have he:=(List.getElem?_eq_some_iff.1 h).2
 unfold runB
 rw [List.drop_eq_getElem_cons hi,he,List.takeWhile_cons_of_pos hp,List.length_cons]; omega

theorem runB_stop {p:UInt8→Bool} {L:Bs} {i:Nat} {c:UInt8} (h:L[i]? = some c) (hp:p c=false):runB p L i=i:=by
 have hi:=(List.getElem?_eq_some_iff.1 h).1
 have he:=(List.getElem?_eq_some_iff.1 h).2
 unfold runB
 rw [List.drop_eq_getElem_cons hi,he,List.takeWhile_cons_of_neg (by rw [hp]; simp)]; rfl

theorem runB_end {p:UInt8→Bool} {L:Bs} {i:Nat} (h:L.length≤i):runB p L i=i:=by
 unfold runB; rw [List.drop_eq_nil_of_le h]; rfl

theorem runB_le {p:UInt8→Bool} {L:Bs} {i:Nat} (h:i≤L.length):i≤runB p L i∧runB p L i≤L.length:=by
 have:((L.drop i).takeWhile p).length≤(L.drop i).length:=(List.takeWhile_sublist p).length_le
 rw [List.length_drop] at this
 unfold runB; omega

structure Tk where
 kind:Int
 text:Bs
 n:Int
 at_:Int
 opn:Bool
 deriving DecidableEq
def cutB (L:Bs) (i j:Nat):Bs:=(L.drop i).take (j - i)
def opnB (L:Bs) (to:Nat):Bool:=match L[to]? with | some c=>decide (c.toNat=40) | none=>false
def nameT (L:Bs) (kind:Int) (text:Bs) (i to:Nat):Option (Tk × Nat):=if 1≤text.length∧text.length≤20 then some (⟨kind,text,0,i,opnB L to⟩,to) else none
def valN (n:Nat) (D:Bs):Nat:=D.foldl (fun n c=>10 * n+(c.toNat - 48)) n
def numT (D:Bs):Option Nat:=if (1<D.length∧(D[0]?.map UInt8.toNat)=some 48)∨9223372036854775807<valN 0 D then none else some (valN 0 D)

def quo:Bs→Option (Bs × Nat)
 | []=>none
 | [c]=>if c.toNat=39 then some ([],1) else none
 | c::d::r=>if c.toNat<32∨126<c.toNat then none else if c.toNat=39 then (if d.toNat=39 then (quo r).map fun x=>(39::x.1,x.2+2) else some ([],1)) else (quo (d::r)).map fun x=>(c::x.1,x.2+1)
def endAft (L:Bs) (to:Nat):Bool:=match L[to]? with | some c=>blkC c || decide (c.toNat=37) | none=>true

def oneT (L:Bs) (i:Nat):Option (Tk × Nat):=match L[i]? with
 | none=>none
 | some c =>
  if lowC c then nameT L 1 (cutB L i (runB folC L i)) i (runB folC L i)
  else if grtC c then nameT L 2 (cutB L i (runB folC L i)) i (runB folC L i)
  else if dgC c then (numT (cutB L i (runB dgC L i))).map fun n=>(⟨3,cutB L i (runB dgC L i),n,i,false⟩,runB dgC L i)
  else if c.toNat=39 then (match quo (L.drop (i+1)) with | some (t,k)=>nameT L 1 t i (i+1+k) | none=>none)
  else if c.toNat=91∧(L[i+1]?.map UInt8.toNat)=some 93 then nameT L 1 [91,93] i (i+2)
  else if c.toNat=33∨c.toNat=59 then nameT L 1 [c] i (i+1)
  else if mrkC c then some (⟨4,[c],0,i,false⟩,i+1)
  else if runB sgnC L i=i+1∧c.toNat=46∧endAft L (i+1) then some (⟨5,[46],0,i,false⟩,i+1)
  else nameT L 1 (cutB L i (runB sgnC L i)) i (runB sgnC L i)

def skipL:Bool→Bs→Nat
 | _,[]=>0
 | true,c::r=>1+skipL (!decide (c.toNat=10)) r
 | false,c::r=>if c.toNat=37 then 1+skipL true r else if blkC c then 1+skipL false r else 0

theorem skipL_le:∀ (b:Bool) (L:Bs),skipL b L≤L.length
 | _,[]=>by simp [skipL]
 | true,c::r=>by simp only [skipL,List.length_cons]; have:=skipL_le (!decide (c.toNat=10)) r; omega
 | false,c::r=>by
  simp only [skipL,List.length_cons]
  split
  ·have:=skipL_le true r; omega
  ·split
   ·have:=skipL_le false r; omega
   ·omega
def passN (L:Bs) (i:Nat):Nat:=i+skipL false (L.drop i)

def toks:Nat→Bs→Nat→Except Nat (List Tk)
 | 0,_,_=>.ok []
 | f+1,L,i=>if passN L i<L.length then (match oneT L (passN L i) with
   | none=>.error (passN L i)
   | some (t,to)=>match toks f L to with
    | .ok l=>.ok (t::l)
    | .error j=>.error j) else .ok []

def tokT (L:Bs):List Tk × Int × Int:=if 8000<L.length then ([],0,3) else match toks (L.length+1) L 0 with
 | .ok l=>(l,0,0)
 | .error j=>([],j,2)
theorem cutB_len {L:Bs} {i j:Nat} (h:i≤j) (hj:j≤L.length):(cutB L i j).length=j - i:=by simp [cutB]; omega

theorem quo_bad {c:UInt8} {r:Bs} (h:c.toNat<32∨126<c.toNat):quo (c::r)=none:=by
 cases r with
 | nil=>simp only [quo]; rw [if_neg (by omega)]
 | cons d r=>simp only [quo]; rw [if_pos h]

theorem quo_two {c d:UInt8} {r:Bs} (h:c.toNat=39) (h2:d.toNat=39):quo (c::d::r)=(quo r).map fun x=>(39::x.1,x.2+2):=by
 simp only [quo]; rw [if_neg (by omega),if_pos h,if_pos h2]

theorem quo_one {c:UInt8} {r:Bs} (h:c.toNat=39) (h2:∀ d,r[0]? = some d→d.toNat≠39):quo (c::r)=some ([],1):=by
 cases r with
 | nil=>simp only [quo]; rw [if_pos h]
 | cons d r=>simp only [quo]; rw [if_neg (by omega),if_pos h,if_neg (h2 d rfl)]

theorem quo_any {c:UInt8} {r:Bs} (h0:¬ (c.toNat<32∨126<c.toNat)) (h:c.toNat≠39):quo (c::r)=(quo r).map fun x=>(c::x.1,x.2+1):=by
 cases r with
 | nil=>simp only [quo]; rw [if_neg h]; rfl
 | cons d r=>simp only [quo]; rw [if_neg h0,if_neg h]

theorem quo_len:∀ (n:Nat) (L:Bs),L.length≤n→∀ t k,quo L=some (t,k)→1≤k∧k≤L.length∧t.length<k
 | 0,L,h,t,k,hq=>by
  have:L=[]:=List.length_eq_zero_iff.1 (by omega)
  subst this; cases hq
 | n+1,[],_,t,k,hq=>by cases hq
 | n+1,c::r,h,t,k,hq=>by
  simp only [List.length_cons] at h ⊢
  by_cases hb:c.toNat<32∨126<c.toNat
  ·rw [quo_bad hb] at hq; cases hq
  by_cases h39:c.toNat=39
  ·by_cases h2:∀ d,r[0]? = some d→d.toNat≠39
   ·rw [quo_one h39 h2] at hq; cases hq; simp
   ·cases r with
    | nil=>exact absurd (fun d h=>by simp at h) h2
    | cons d r' =>
     have hd:d.toNat=39:=Classical.byContradiction fun hd=>h2 fun e he=>by simp at he; subst he; exact hd
     rw [quo_two h39 hd] at hq
     simp only [List.length_cons] at h ⊢
     cases hr:quo r' with
     | none=>rw [hr] at hq; cases hq
     | some x =>
      rw [hr] at hq
      cases hq
      have:=quo_len n r' (by omega) x.1 x.2 hr
      simp only [List.length_cons]; omega
  ·rw [quo_any hb h39] at hq
   cases hr:quo r with
   | none=>rw [hr] at hq; cases hq
   | some x =>
    rw [hr] at hq
    cases hq
    have:=quo_len n r (by omega) x.1 x.2 hr
    simp only [List.length_cons]; omega

theorem nameT_to {L:Bs} {kind:Int} {text:Bs} {i to:Nat} {t:Tk} {j:Nat} (h:nameT L kind text i to=some (t,j)):j=to∧t=⟨kind,text,0,i,opnB L to⟩∧1≤text.length∧text.length≤20:=by
 unfold nameT at h
 split at h
 ·rename_i hh
  simp only [Option.some.injEq,Prod.mk.injEq] at h
  exact ⟨h.2.symm,h.1.symm,hh.1,hh.2⟩
 ·cases h

theorem oneT_to {L:Bs} {i:Nat} {t:Tk} {j:Nat} (h:oneT L i=some (t,j)):i<j∧j≤L.length:=by
 unfold oneT at h
 split at h
 ·cases h
 rename_i c hc
 have hi:=(List.getElem?_eq_some_iff.1 hc).1
 have run:∀ (p:UInt8→Bool) (kind:Int),nameT L kind (cutB L i (runB p L i)) i (runB p L i)=some (t,j)→i<j∧j≤L.length:=fun p kind h=>by
  obtain ⟨h1,_,h2,_⟩:=nameT_to h
  have hr:=runB_le (p:=p) (L:=L) (i:=i) (by omega)
  rw [cutB_len hr.1 hr.2] at h2
  subst h1; omega
 split at h
 ·exact run folC 1 h
 ·split at h
  ·exact run folC 2 h
  ·split at h
   ·rename_i hd
    cases hn:numT (cutB L i (runB dgC L i)) with
    | none=>rw [hn] at h; cases h
    | some n =>
     rw [hn] at h
     cases h
     have hr:=runB_le (p:=dgC) (L:=L) (i:=i+1) (by omega)
     rw [runB_step hc hd]; omega
   ·split at h
    ·split at h
     ·rename_i t' k hq
      obtain ⟨h1,_,_,_⟩:=nameT_to h
      have:=quo_len _ _ (Nat.le_refl _) _ _ hq
      rw [List.length_drop] at this
      subst h1; omega
     ·cases h
    ·split at h
     ·rename_i h91
      obtain ⟨h1,_,_,_⟩:=nameT_to h
      cases h2:L[i+1]? with
      | none=>rw [h2] at h91; simp at h91
      | some d=>have:=(List.getElem?_eq_some_iff.1 h2).1; subst h1; omega
     ·split at h
      ·obtain ⟨h1,_,_,_⟩:=nameT_to h; subst h1; omega
      ·split at h
       ·simp only [Option.some.injEq,Prod.mk.injEq] at h; obtain ⟨_,rfl⟩:=h; omega
       ·split at h
        ·simp only [Option.some.injEq,Prod.mk.injEq] at h; obtain ⟨_,rfl⟩:=h; omega
        ·exact run sgnC 1 h
end PSL

namespace PSL
open Go
def sgOf (t:Tm):Sg:=(t.s,(t.l.length:Int))
def twoL:List Bs:=[[61],[92,61],[61,61],[92,61,61],[64,60],[64,62],[64,61,60],[64,62,61],[105,115],[61,58,61],[61,92,61],[60],[62],[61,60],[62,61],[61,46,46]]
def oneL:List (Bs × Int):=[([102,97,105,108],0),([110,108],0),([118,97,114],1),([110,111,110,118,97,114],1),([97,116,111,109],1),([105,110,116,101,103,101,114],1),([119,114,105,116,101],1),([102,117,110,99,116,111,114],3),([97,114,103],3)]
def ctlL (n:Int):List (Bs × Int):=[([116,114,117,101],0),([33],0),([44],2),([59],2),([45,62],2),([92,43],1),([58,45],2),([63],n)]
def anyS (l:List (Bs × Int)) (p:Sg):Bool:=l.any fun x=>decide ((Tx x.1,x.2)=p)
def bltB (p:Sg):Bool:=anyS (twoL.map fun s=>(s,2)) p || anyS oneL p
def ctlB (p:Sg):Bool:=anyS (ctlL p.2) p
def ownB (t:Tm):Bool:=(t.k==3) && !bltB (sgOf t) && !ctlB (sgOf t)
def nothB (t:Tm):Bool:=(t.k==0)&&strEq t.s ⟨#[]⟩&&(t.n==0)&&decide (t.l.length=0)
def chkT (v:Int) (t:Tm):Bool:=rightT t&&(varsT [t]).all fun x=>decide (x<v)
def noneG (a b c:List Gl):Bool:=decide (a.length+b.length+c.length=0)

mutual
def chk1 (v:Int):Gl→Int→Int→Bool→Bool × Int
 | .mk k t a b c,left,deep,cuts =>
  if k=1 then (noneG a b c&&chkT v t&&ownB t,left)
  else if k=2 then (noneG a b c&&chkT v t&&(t.k==3)&&bltB (sgOf t),left)
  else if k=3 then (noneG a b c&&nothB t&&cuts,left)
  else if k=4 then
   if nothB t then
    if (chkL v a left (deep+1) false).1 then
     if (chkL v b (chkL v a left (deep+1) false).2 (deep+1) cuts).1 then chkL v c (chkL v b (chkL v a left (deep+1) false).2 (deep+1) cuts).2 (deep+1) cuts
     else (false,(chkL v b (chkL v a left (deep+1) false).2 (deep+1) cuts).2)
    else (false,(chkL v a left (deep+1) false).2)
   else (false,left)
  else if k=5 then (if nothB t&&decide (b.length+c.length=0) then chkL v a left (deep+1) false else (false,left))
  else (false,left)
def chkL (v:Int):List Gl→Int→Int→Bool→Bool × Int
 | [],left,_,_=>(true,left)
 | g::r,left,deep,cuts=>if !(chk1 v g (left - 1) deep cuts).1 || decide ((chk1 v g (left - 1) deep cuts).2<0) || decide (10<deep) then (false,(chk1 v g (left - 1) deep cuts).2) else chkL v r (chk1 v g (left - 1) deep cuts).2 deep cuts
end
def clsB (x:Cs):Bool:=decide (0≤x.vars)&&decide (x.vars≤1000)&&chkT x.vars x.head&&ownB x.head&&(chkL x.vars x.body 20 1 true).1

mutual
def there1 (has:Sg→Bool):Gl→Bool
 | .mk k t a b c=>!((k==1) && !has (sgOf t))&&thereL has a&&thereL has b&&thereL has c
def thereL (has:Sg→Bool):List Gl→Bool
 | []=>true
 | g::r=>there1 has g&&thereL has r
end
def hasH (l:List Cs) (p:Sg):Bool:=l.any fun c=>decide (sgOf c.head=p)

def firstN {α:Type} (p:α→Bool):List α→Nat→Option Nat
 | [],_=>none
 | x::r,i=>if p x then firstN p r (i+1) else some i

def checkR (l:List Cs):Int × Int :=
 if 200<l.length then (200,3)
 else match firstN clsB l 0 with
  | some i=>((i:Int),1)
  | none=>match firstN (fun c=>thereL (hasH l) c.body) l 0 with
   | some i=>((i:Int),9)
   | none=>(0,0)
def varsB (v:Int) (t:Tm):Bool:=(varsT [t]).all (fun x=>decide (x<v))&&t.rightB

def fairB (v:Int):Gl→Bool
 | .mk k t a b c =>
  if k=1 then noneG a b c&&ownB t&&varsB v t
  else if k=2 then noneG a b c&&(t.k==3)&&bltB (sgOf t)&&varsB v t
  else if k=3 then noneG a b c&&nothB t
  else nothB t&&((k==4) || (k==5)&&decide (b.length+c.length=0))

mutual
def cnt1 (v:Int):Gl→Int→Bool→Int
 | .mk k t a b c,deep,cuts =>
  if !fairB v (.mk k t a b c) || ((k==3) && !cuts) then -1
  else if (if a.length≠0∧10<deep+1 then -1 else cntG v a (deep+1) false)<0∨(if b.length≠0∧10<deep+1 then -1 else cntG v b (deep+1) cuts)<0∨(if c.length≠0∧10<deep+1 then -1 else cntG v c (deep+1) cuts)<0 then -1
  else 1+(if a.length≠0∧10<deep+1 then -1 else cntG v a (deep+1) false)+(if b.length≠0∧10<deep+1 then -1 else cntG v b (deep+1) cuts)+(if c.length≠0∧10<deep+1 then -1 else cntG v c (deep+1) cuts)
def cntG (v:Int):List Gl→Int→Bool→Int
 | [],_,_=>0
 | g::r,deep,cuts=>if cnt1 v g deep cuts<0 then -1 else if cntG v r deep cuts<0 then -1 else cnt1 v g deep cuts+cntG v r deep cuts
end
def cntL (v:Int) (l:List Gl) (deep:Int) (cuts:Bool):Int:=if l.length≠0∧10<deep then -1 else cntG v l deep cuts

theorem cnt1_eq (v:Int) (g:Gl) (deep:Int) (cuts:Bool):cnt1 v g deep cuts=if !fairB v g || ((g.k==3) && !cuts) then -1 else if cntL v g.a (deep+1) false<0∨cntL v g.b (deep+1) cuts<0∨cntL v g.c (deep+1) cuts<0 then -1 else 1+cntL v g.a (deep+1) false+cntL v g.b (deep+1) cuts+cntL v g.c (deep+1) cuts:=by
 cases g; rw [cnt1]; rfl

theorem chk1_eq (v:Int) (g:Gl) (left deep:Int) (cuts:Bool):chk1 v g left deep cuts =
  if g.k=1 then (noneG g.a g.b g.c&&chkT v g.t&&ownB g.t,left)
  else if g.k=2 then (noneG g.a g.b g.c&&chkT v g.t&&(g.t.k==3)&&bltB (sgOf g.t),left)
  else if g.k=3 then (noneG g.a g.b g.c&&nothB g.t&&cuts,left)
  else if g.k=4 then
   if nothB g.t then
    if (chkL v g.a left (deep+1) false).1 then
     if (chkL v g.b (chkL v g.a left (deep+1) false).2 (deep+1) cuts).1 then chkL v g.c (chkL v g.b (chkL v g.a left (deep+1) false).2 (deep+1) cuts).2 (deep+1) cuts
     else (false,(chkL v g.b (chkL v g.a left (deep+1) false).2 (deep+1) cuts).2)
    else (false,(chkL v g.a left (deep+1) false).2)
   else (false,left)
  else if g.k=5 then (if nothB g.t&&decide (g.b.length+g.c.length=0) then chkL v g.a left (deep+1) false else (false,left))
  else (false,left):=by
 cases g; rw [chk1]; rfl
theorem chk_vars (v:Int) (t:Tm):chkT v t=varsB v t:=by unfold chkT varsB; rw [rightT_eq,Bool.and_comm]

theorem cnt_ge (v:Int):∀ (l:List Gl) (deep:Int) (cuts:Bool),-1≤cntL v l deep cuts:=by
 have h1:∀ (g:Gl) (deep:Int) (cuts:Bool),-1≤cnt1 v g deep cuts:=fun g deep cuts=>by
  rw [cnt1_eq]
  split
  ·omega
  ·split
   ·omega
   ·omega
 have h2:∀ (l:List Gl) (deep:Int) (cuts:Bool),-1≤cntG v l deep cuts:=fun l=>by
  induction l with
  | nil=>intro _ _; simp [cntG]
  | cons g r ih =>
   intro deep cuts
   simp only [cntG]
   split
   ·omega
   ·split
    ·omega
    ·omega
 intro l deep cuts
 unfold cntL
 split
 ·omega
 ·exact h2 l deep cuts

def Both (v:Int) (l:List Gl):Prop:=∀ (left deep:Int) (cuts:Bool),((chkL v l left deep cuts).1=true↔0≤cntL v l deep cuts∧(l.length=0∨cntL v l deep cuts≤left))∧((chkL v l left deep cuts).1=true→(chkL v l left deep cuts).2=left - cntL v l deep cuts)∧(chkL v l left deep cuts).2≤left

theorem cnt_nil {v:Int} {l:List Gl} {deep:Int} {cuts:Bool} (h:l.length=0):cntL v l deep cuts=0:=by
 have:l=[]:=List.length_eq_zero_iff.1 h
 subst this
 simp [cntL,cntG]

theorem both1 {v:Int} {g:Gl} (ha:Both v g.a) (hb:Both v g.b) (hc:Both v g.c) (left deep:Int) (cuts:Bool) :
  ((chk1 v g left deep cuts).1=true∧0≤(chk1 v g left deep cuts).2↔0≤cnt1 v g deep cuts∧cnt1 v g deep cuts≤left+1)∧((chk1 v g left deep cuts).1=true→0≤(chk1 v g left deep cuts).2→(chk1 v g left deep cuts).2=left+1 - cnt1 v g deep cuts)∧(chk1 v g left deep cuts).2≤left:=by
 rw [chk1_eq,cnt1_eq]
 have hne:noneG g.a g.b g.c=true→g.a.length=0∧g.b.length=0∧g.c.length=0:=fun h=>by
  unfold noneG at h; have:=of_decide_eq_true h; omega
 by_cases h1:g.k=1
 ·have hf:fairB v g=(noneG g.a g.b g.c&&ownB g.t&&varsB v g.t):=by cases g; simp only [Gl.k] at h1; simp [fairB,h1,Gl.a,Gl.b,Gl.c,Gl.t]
  rw [if_pos h1,hf,h1,chk_vars]
  cases hn:noneG g.a g.b g.c with
  | false=>simp
  | true =>
   obtain ⟨n1,n2,n3⟩:=hne hn
   rw [cnt_nil n1,cnt_nil n2,cnt_nil n3]
   cases ownB g.t <;> cases varsB v g.t <;> simp <;> omega
 rw [if_neg h1]
 by_cases h2:g.k=2
 ·have hf:fairB v g=(noneG g.a g.b g.c&&(g.t.k==3)&&bltB (sgOf g.t)&&varsB v g.t):=by cases g; simp only [Gl.k] at h2; simp [fairB,h2,Gl.a,Gl.b,Gl.c,Gl.t]
  rw [if_pos h2,hf,h2,chk_vars]
  cases hn:noneG g.a g.b g.c with
  | false=>simp
  | true =>
   obtain ⟨n1,n2,n3⟩:=hne hn
   rw [cnt_nil n1,cnt_nil n2,cnt_nil n3]
   cases (g.t.k==3) <;> cases bltB (sgOf g.t) <;> cases varsB v g.t <;> simp <;> omega
 rw [if_neg h2]
 by_cases h3:g.k=3
 ·have hf:fairB v g=(noneG g.a g.b g.c&&nothB g.t):=by cases g; simp only [Gl.k] at h3; simp [fairB,h3,Gl.a,Gl.b,Gl.c,Gl.t]
  rw [if_pos h3,hf,h3]
  cases hn:noneG g.a g.b g.c with
  | false=>simp
  | true =>
   obtain ⟨n1,n2,n3⟩:=hne hn
   rw [cnt_nil n1,cnt_nil n2,cnt_nil n3]
   cases nothB g.t <;> cases cuts <;> simp <;> omega
 rw [if_neg h3]
 have hf:fairB v g=(nothB g.t&&((g.k==4) || (g.k==5)&&decide (g.b.length+g.c.length=0))):=by cases g; simp only [Gl.k] at h1 h2 h3; simp [fairB,h1,h2,h3,Gl.k,Gl.b,Gl.c,Gl.t]
 rw [hf]
 have h3':(g.k==3)=false:=by simpa using h3
 have ga:=cnt_ge v g.a (deep+1) false
 have gb:=cnt_ge v g.b (deep+1) cuts
 have gc:=cnt_ge v g.c (deep+1) cuts
 by_cases h4:g.k=4
 ·rw [if_pos h4,h3',h4]
  cases hn:nothB g.t with
  | false=>simp
  | true =>
   obtain ⟨a1,a2,a3⟩:=ha left (deep+1) false
   simp only [if_true,Bool.true_and,Bool.false_and,Bool.or_false,show ((4:Int)==4)=true from rfl,Bool.true_or,Bool.not_true,Bool.false_eq_true,if_false]
   generalize cntL v g.a (deep+1) false=ca at *
   cases hA:(chkL v g.a left (deep+1) false).1 with
   | false =>
    rw [hA] at a1
    simp only [Bool.false_eq_true,false_iff,if_false,false_and] at a1 ⊢
    refine ⟨fun h=>?_,fun h=>h.elim,by omega⟩
    split at h
    ·omega
    ·omega
   | true =>
    rw [hA] at a1
    simp only [if_true,true_iff] at a1 ⊢
    have a2:=a2 hA
    rw [a2]
    obtain ⟨b1,b2,b3⟩:=hb (left - ca) (deep+1) cuts
    generalize cntL v g.b (deep+1) cuts=cb at *
    cases hB:(chkL v g.b (left - ca) (deep+1) cuts).1 with
    | false =>
     rw [hB] at b1
     simp only [Bool.false_eq_true,false_iff,if_false,false_and] at b1 ⊢
     refine ⟨fun h=>?_,fun h=>h.elim,by omega⟩
     split at h
     ·omega
     ·omega
    | true =>
     rw [hB] at b1
     simp only [if_true,true_iff] at b1 ⊢
     have b2:=b2 hB
     rw [b2]
     obtain ⟨c1,c2,c3⟩:=hc (left - ca - cb) (deep+1) cuts
     generalize cntL v g.c (deep+1) cuts=cc at *
     cases hC:(chkL v g.c (left - ca - cb) (deep+1) cuts).1 with
     | false =>
      rw [hC] at c1
      simp only [Bool.false_eq_true,false_iff,false_and] at c1 ⊢
      refine ⟨fun h=>?_,fun h=>h.elim,by omega⟩
      split at h
      ·omega
      ·omega
     | true =>
      rw [hC] at c1
      simp only [true_iff,true_and] at c1 ⊢
      have c2:=c2 hC
      rw [c2]
      rw [if_neg (by omega)]
      exact ⟨by omega,fun _ _=>by omega,by omega⟩
 rw [if_neg h4]
 have h4':(g.k==4)=false:=by simpa using h4
 rw [h4',h3']
 by_cases h5:g.k=5
 ·rw [if_pos h5,h5]
  cases hn:nothB g.t with
  | false=>simp
  | true =>
   by_cases hbc:g.b.length+g.c.length=0
   ·obtain ⟨a1,a2,a3⟩:=ha left (deep+1) false
    rw [cnt_nil (l:=g.b) (by omega),cnt_nil (l:=g.c) (by omega)]
    simp only [hbc,decide_true,Bool.and_true,Bool.true_and,Bool.false_or,show ((5:Int)==5)=true from rfl,Bool.not_true,Bool.false_and,if_true,Bool.false_eq_true,if_false]
    generalize cntL v g.a (deep+1) false=ca at *
    cases hA:(chkL v g.a left (deep+1) false).1 with
    | false =>
     rw [hA] at a1
     simp only [Bool.false_eq_true,false_iff,false_and] at a1 ⊢
     refine ⟨fun h=>?_,fun h=>h.elim,by omega⟩
     split at h
     ·omega
     ·omega
    | true =>
     rw [hA] at a1
     simp only [true_iff,true_and] at a1 ⊢
     have a2:=a2 hA
     rw [a2,if_neg (by omega)]
     exact ⟨by omega,fun _ _=>by omega,by omega⟩
   ·have hd:decide (g.b.length+g.c.length=0)=false:=decide_eq_false hbc
    rw [hd]; simp
 ·rw [if_neg h5]
  have h5':(g.k==5)=false:=by simpa using h5
  rw [h5']
  simp

theorem bothL (v:Int) (l:List Gl):Both v l:=by
 refine Gl.indL (p:=Both v) (fun l=>?_) l
 intro hsub
 induction l with
 | nil=>intro left deep cuts; simp [chkL,cnt_nil]
 | cons g r ih =>
  obtain ⟨ga,gb,gc⟩:=hsub g (by simp)
  have ih:=ih fun x hx=>hsub x (by simp [hx])
  intro left deep cuts
  obtain ⟨p1,p2,p3⟩:=both1 ga gb gc (left - 1) deep cuts
  have hn:(g::r).length≠0:=by simp
  simp only [chkL]
  have hcnt:cntL v (g::r) deep cuts=if 10<deep then -1 else if cnt1 v g deep cuts<0 then -1 else if cntG v r deep cuts<0 then -1 else cnt1 v g deep cuts+cntG v r deep cuts:=by
   unfold cntL
   by_cases hd:10<deep
   ·rw [if_pos ⟨hn,hd⟩,if_pos hd]
   ·rw [if_neg (fun h=>hd h.2),if_neg hd]; simp only [cntG]
  have hr:¬ 10<deep→cntL v r deep cuts=cntG v r deep cuts:=fun hd=>by unfold cntL; rw [if_neg (fun h=>hd h.2)]
  have h1pos:0≤cnt1 v g deep cuts→1≤cnt1 v g deep cuts:=fun h=>by
   rw [cnt1_eq] at h ⊢
   split at h
   ·omega
   ·rename_i hf
    rw [if_neg hf]
    split at h
    ·omega
    ·rename_i hq
     rw [if_neg hq]
     have:=cnt_ge v g.a (deep+1) false
     have:=cnt_ge v g.b (deep+1) cuts
     have:=cnt_ge v g.c (deep+1) cuts
     omega
  rw [hcnt]
  generalize cnt1 v g deep cuts=cg at *
  obtain ⟨q1,q2,q3⟩:=ih (chk1 v g (left - 1) deep cuts).2 deep cuts
  generalize chk1 v g (left - 1) deep cuts=x at *
  obtain ⟨xb,xl⟩:=x
  simp only at p1 p2 p3 q1 q2 q3 ⊢
  have hgr:=cnt_ge v r deep cuts
  by_cases hd:10<deep
  ·have:(!xb || decide (xl<0) || decide (10<deep))=true:=by simp [hd]
   rw [if_pos this,if_pos hd]
   exact ⟨⟨(fun h=>by cases h),fun h=>by omega⟩,(fun h=>by cases h),by simp only; omega⟩
  rw [if_neg hd]
  rw [hr hd] at q1 q2 hgr
  generalize cntG v r deep cuts=cr at *
  by_cases hx:xb=true∧0≤xl
  ·have:(!xb || decide (xl<0) || decide (10<deep))=false:=by simp [hd,hx.1]; omega
   rw [if_neg (by rw [this]; simp)]
   have hp:=p1.1 hx
   have hp2:=p2 hx.1 hx.2
   have hp3:=h1pos hp.1
   rw [if_neg (by omega)]
   refine ⟨q1.trans ⟨fun h=>?_,fun h=>?_⟩,fun h=>?_,by omega⟩
   ·rw [if_neg (by omega)]
    refine ⟨by omega,.inr ?_⟩
    rcases h.2 with h2 | h2
    ·have:cr=0:=by
      have h4:=hr hd
      have:r=[]:=List.length_eq_zero_iff.1 h2
      subst this
      rw [cnt_nil rfl] at h4
      exact h4.symm
     omega
    ·omega
   ·split at h
    ·omega
    ·refine ⟨by omega,.inr (by omega)⟩
   ·have h2:=q2 h
    have h3:=(q1.1 h).1
    rw [if_neg (by omega)]
    omega
  ·have:(!xb || decide (xl<0) || decide (10<deep))=true:=by
    cases xb with
    | false=>rfl
    | true=>simp only [true_and] at hx; simp; left; omega
   rw [if_pos this]
   refine ⟨⟨(fun h=>by cases h),fun h=>?_⟩,(fun h=>by cases h),by simp only; omega⟩
   refine absurd (p1.2 ?_) hx
   split at h
   ·omega
   ·split at h
    ·omega
    ·rcases h.2 with h2 | h2
     ·exact absurd h2 hn
     ·omega
end PSL

namespace PSL
open Go
end PSL
namespace PSL
open Go

mutual
def allG (P:Tm→Prop):Gl→Prop
 | .mk _ t a b c=>P t∧allGL P a∧allGL P b∧allGL P c
def allGL (P:Tm→Prop):List Gl→Prop
 | []=>True
 | g::r=>allG P g∧allGL P r
end
theorem allG_eq (P:Tm→Prop) (g:Gl):allG P g↔P g.t∧allGL P g.a∧allGL P g.b∧allGL P g.c:=by cases g; rw [allG]; rfl

theorem allGL_mem {P:Tm→Prop}:∀ {l:List Gl},allGL P l→∀ g∈l,P g.t∧allGL P g.a∧allGL P g.b∧allGL P g.c
 | [],_,g,h=>by cases h
 | x::r,h,g,hg=>by
  simp only [allGL] at h
  rcases List.mem_cons.1 hg with rfl | hg
  ·exact (allG_eq P g).1 h.1
  ·exact allGL_mem h.2 g hg

theorem allGL_of {P:Tm→Prop}:∀ {l:List Gl},(∀ g∈l,P g.t∧allGL P g.a∧allGL P g.b∧allGL P g.c)→allGL P l
 | [],_=>by simp only [allGL]
 | x::r,h=>by
  simp only [allGL]
  exact ⟨(allG_eq P x).2 (h x (by simp)),allGL_of fun g hg=>h g (by simp [hg])⟩

theorem chk_low (v:Int) (l:List Gl):∀ (left deep:Int) (cuts:Bool),left - Gl.sizeL l≤(chkL v l left deep cuts).2:=by
 refine Gl.indL (p:=fun l=>∀ (left deep:Int) (cuts:Bool),left - Gl.sizeL l≤(chkL v l left deep cuts).2) (fun l=>?_) l
 intro hsub
 induction l with
 | nil=>intro left deep cuts; simp [chkL,Gl.sizeL]
 | cons g r ih =>
  obtain ⟨ga,gb,gc⟩:=hsub g (by simp)
  have ih:=ih fun x hx=>hsub x (by simp [hx])
  intro left deep cuts
  have h1:left - g.size≤(chk1 v g (left - 1) deep cuts).2:=by
   rw [chk1_eq,Gl.size_eq]
   have:=Gl.tmPos g.t
   split; · simp only; omega
   split; · simp only; omega
   split; · simp only; omega
   split
   ·split
    ·have a1:=ga (left - 1) (deep+1) false
     split
     ·have b1:=gb (chkL v g.a (left - 1) (deep+1) false).2 (deep+1) cuts
      split
      ·have c1:=gc (chkL v g.b (chkL v g.a (left - 1) (deep+1) false).2 (deep+1) cuts).2 (deep+1) cuts
       omega
      ·simp only; omega
     ·simp only; omega
    ·simp only; omega
   split
   ·split
    ·have a1:=ga (left - 1) (deep+1) false
     omega
    ·simp only; omega
   ·simp only; omega
  simp only [chkL,Gl.sizeL]
  split
  ·simp only; omega
  ·have:=ih (chk1 v g (left - 1) deep cuts).2 deep cuts
   omega

theorem chk1_low (v:Int) (g:Gl) (left deep:Int) (cuts:Bool):left+1 - g.size≤(chk1 v g left deep cuts).2∧(chk1 v g left deep cuts).2≤left:=by
 refine ⟨?_,(both1 (bothL v g.a) (bothL v g.b) (bothL v g.c) left deep cuts).2.2⟩
 rw [chk1_eq,Gl.size_eq]
 have:=Gl.tmPos g.t
 split; · simp only; omega
 split; · simp only; omega
 split; · simp only; omega
 split
 ·split
  ·have a1:=chk_low v g.a left (deep+1) false
   split
   ·have b1:=chk_low v g.b (chkL v g.a left (deep+1) false).2 (deep+1) cuts
    split
    ·have c1:=chk_low v g.c (chkL v g.b (chkL v g.a left (deep+1) false).2 (deep+1) cuts).2 (deep+1) cuts
     omega
    ·simp only; omega
   ·simp only; omega
  ·simp only; omega
 split
 ·split
  ·have a1:=chk_low v g.a left (deep+1) false
   omega
  ·simp only; omega
 ·simp only; omega
end PSL
namespace PSL
open Go
def hasS (ks:List Sg) (p:Sg):Bool:=ks.any fun q=>decide (q=p)
def addS (ks:List Sg) (p:Sg):List Sg:=if hasS ks p then ks else ks++[p]
def mkM (ks:List Sg):List (Sg × AV):=ks.map fun p=>(p,bV true)
def dsM (ks:List Sg):List (Value × D):=ks.map fun p=>(skV p,.v (.bool true))
def hdS (l:List Cs):List Sg:=l.foldl (fun ks c=>addS ks (sgOf c.head)) []

theorem dsM_eq (ks:List Sg):(dsM ks).map (fun p=>(p.1,AV.d p.2))=kmap (mkM ks):=by
 unfold dsM kmap mkM
 rw [List.map_map,List.map_map]; rfl
theorem hasS_cons (k:Sg) (r:List Sg) (p:Sg):hasS (k::r) p=(decide (k=p) || hasS r p):=rfl

theorem getK_mk (ks:List Sg) (p:Sg):getK (mkM ks) p=if hasS ks p then some (bV true) else none:=by
 induction ks with
 | nil=>rfl
 | cons k r ih =>
  simp only [mkM,List.map_cons,getK] at ih ⊢
  by_cases h:k=p
  ·rw [if_pos h,if_pos (by rw [hasS_cons,decide_eq_true h]; rfl)]
  ·have h1:hasS (k::r) p=hasS r p:=by rw [hasS_cons,decide_eq_false h]; rfl
   rw [if_neg h,ih,h1]

theorem setK_mk (ks:List Sg) (p:Sg):setK (mkM ks) p (bV true)=mkM (addS ks p):=by
 unfold addS
 induction ks with
 | nil=>rfl
 | cons k r ih =>
  simp only [mkM,List.map_cons,setK] at ih ⊢
  by_cases h:k=p
  ·rw [if_pos h,if_pos (by rw [hasS_cons,decide_eq_true h]; rfl),h]; rfl
  ·have h1:hasS (k::r) p=hasS r p:=by rw [hasS_cons,decide_eq_false h]; rfl
   rw [if_neg h,ih,h1]
   split <;> rfl

theorem addS_mem (ks:List Sg) (p q:Sg):hasS (addS ks p) q=(hasS ks q || decide (p=q)):=by
 unfold addS
 split
 ·rename_i h
  by_cases e:p=q
  ·subst e; rw [h]; rfl
  ·rw [decide_eq_false e,Bool.or_false]
 ·unfold hasS
  rw [List.any_append]
  simp
theorem mapOb_mk {f:AV→AV} (h:f (bV true)=bV true) (ks:List Sg):mapOb f (.map (kmap (mkM ks)))=.map (kmap (mkM ks)):=by simp [mapOb,kmap,mkM,Function.comp_def,h]

theorem hdS_mem (l:List Cs) (q:Sg):hasS (hdS l) q=hasH l q:=by
 have key:∀ (l:List Cs) (ks:List Sg),hasS (l.foldl (fun ks c=>addS ks (sgOf c.head)) ks) q=(hasS ks q || hasH l q):=by
  intro l
  induction l with
  | nil=>intro ks; simp [hasH]
  | cons c r ih =>
   intro ks
   simp only [List.foldl_cons]
   rw [ih,addS_mem,Bool.or_assoc]
   rfl
 have:=key l []
 simpa [hdS,hasS] using this
theorem there1_eq (has:Sg→Bool) (g:Gl):there1 has g=(!((g.k==1) && !has (sgOf g.t))&&thereL has g.a&&thereL has g.b&&thereL has g.c):=by cases g; rw [there1]; rfl

def SmT (t:Tm):Prop:=t.size≤1000000∧∀ x e,e∈t.els x→e.2.s.size<1000000000

structure SmC (x:Cs):Prop where
 head:SmT x.head
 body:allGL SmT x.body
 size:Gl.sizeL x.body≤1000000
end PSL
namespace PSL
open Go

mutual
def fewG1:Gl→Int→Int→Int
 | .mk _ t a b c,m,d=>(if d - 1<1 then -1 else fewGo c (if d - 1<1 then -1 else fewGo b (if d - 1<1 then -1 else fewGo a (t.few m 200) (d - 1)) (d - 1)) (d - 1))
def fewGo:List Gl→Int→Int→Int
 | [],m,_=>m
 | g::r,m,d=>if m ≥ 0 then fewGo r (fewG1 g m d) d else m
end
def fewGL (l:List Gl) (m d:Int):Int:=if d<1 then -1 else fewGo l m d

theorem fewG1_eq (g:Gl) (m d:Int):fewG1 g m d=fewGL g.c (fewGL g.b (fewGL g.a (g.t.few m 200) (d - 1)) (d - 1)) (d - 1):=by
 cases g; rw [fewG1]; rfl

def somGo:List Cs→Int→Int
 | [],m=>m
 | c::r,m=>if m ≥ 0 then somGo r (fewGL c.body (c.head.few m 200) 30) else m
def somP (l:List Cs):Bool:=decide (somGo l 3000 ≥ 0)&&decide (l.length≤210)
def FwT (t:Tm):Prop:=∀ x e,e∈t.els x→e.2.s.size≤100

theorem few_b (t:Tm) {m:Int} (h0:-1≤m) (h1:m≤1000000):-1≤t.few m 200∧t.few m 200≤m∧(0≤t.few m 200→0≤m∧t.few m 200+t.size≤m∧FwT t):=by
 obtain ⟨a,b,c⟩:=few_bound t (m:=m) (d:=200) h0 (by omega) (by omega)
 refine ⟨a,b,fun h=>?_⟩
 obtain ⟨d,e⟩:=c h
 exact ⟨by omega,d,e⟩

theorem fewGL_b (l:List Gl):∀ (m d:Int),-1≤m→m≤1000000→-1≤fewGL l m d∧fewGL l m d≤max m (-1)∧(0≤fewGL l m d→0≤m∧fewGL l m d+Gl.sizeL l≤m∧allGL FwT l∧1≤d):=by
 refine Gl.indL (p:=fun l=>∀ (m d:Int),-1≤m→m≤1000000→-1≤fewGL l m d∧fewGL l m d≤max m (-1)∧(0≤fewGL l m d→0≤m∧fewGL l m d+Gl.sizeL l≤m∧allGL FwT l∧1≤d)) (fun l=>?_) l
 intro hsub
 have key:∀ (m d:Int),-1≤m→m≤1000000→-1≤fewGo l m d∧fewGo l m d≤m∧(0≤fewGo l m d→0≤m∧fewGo l m d+Gl.sizeL l≤m∧allGL FwT l):=by
  induction l with
  | nil=>intro m d h0 h1; simp only [fewGo,Gl.sizeL,allGL]; exact ⟨h0,Int.le_refl _,fun h=>⟨h,by omega,trivial⟩⟩
  | cons g r ih =>
   intro m d h0 h1
   obtain ⟨ga,gb,gc⟩:=hsub g (by simp)
   have ih:=ih fun x hx=>hsub x (by simp [hx])
   simp only [fewGo]
   split
   ·rename_i hm
    rw [fewG1_eq]
    obtain ⟨t1,t2,t3⟩:=few_b g.t h0 h1
    obtain ⟨a1,a2,a3⟩:=ga (g.t.few m 200) (d - 1) t1 (by omega)
    obtain ⟨b1,b2,b3⟩:=gb (fewGL g.a (g.t.few m 200) (d - 1)) (d - 1) a1 (by omega)
    obtain ⟨c1,c2,c3⟩:=gc (fewGL g.b (fewGL g.a (g.t.few m 200) (d - 1)) (d - 1)) (d - 1) b1 (by omega)
    generalize fewGL g.c (fewGL g.b (fewGL g.a (g.t.few m 200) (d - 1)) (d - 1)) (d - 1)=x3 at *
    generalize fewGL g.b (fewGL g.a (g.t.few m 200) (d - 1)) (d - 1)=x2 at *
    generalize fewGL g.a (g.t.few m 200) (d - 1)=x1 at *
    obtain ⟨r1,r2,r3⟩:=ih x3 d c1 (by omega)
    refine ⟨r1,by omega,fun h=>?_⟩
    obtain ⟨r4,r5,r6⟩:=r3 h
    obtain ⟨c4,c5,c6,_⟩:=c3 r4
    obtain ⟨b4,b5,b6,_⟩:=b3 c4
    obtain ⟨a4,a5,a6,_⟩:=a3 b4
    obtain ⟨t4,t5,t6⟩:=t3 a4
    refine ⟨by omega,?_,?_⟩
    ·simp only [Gl.sizeL]; rw [Gl.size_eq]; omega
    ·simp only [allGL]; exact ⟨(allG_eq FwT g).2 ⟨t6,a6,b6,c6⟩,r6⟩
   ·rename_i hm
    exact ⟨h0,Int.le_refl _,fun h=>by omega⟩
 intro m d h0 h1
 unfold fewGL
 split
 ·exact ⟨by omega,by omega,fun h=>by omega⟩
 ·obtain ⟨k1,k2,k3⟩:=key m d h0 h1
  exact ⟨k1,by omega,fun h=>⟨(k3 h).1,(k3 h).2.1,(k3 h).2.2,by omega⟩⟩

theorem allGL_mono {P Q:Tm→Prop} {l:List Gl} (h:∀ t:Tm,t.size≤Gl.sizeL l→P t→Q t) (hp:allGL P l):allGL Q l:=by
 have key:∀ (N:Nat) (l:List Gl),Gl.sizeL l≤N→(∀ t:Tm,t.size≤N→P t→Q t)→allGL P l→allGL Q l:=by
  intro N l
  refine Gl.indL (p:=fun l=>Gl.sizeL l≤N→(∀ t:Tm,t.size≤N→P t→Q t)→allGL P l→allGL Q l) (fun l=>?_) l
  intro hsub hN h hp
  refine allGL_of fun g hg=>?_
  obtain ⟨h1,h2,h3,h4⟩:=allGL_mem hp g hg
  have:=Gl.size_mem hg
  have:=Gl.size_eq g
  obtain ⟨s1,s2,s3⟩:=hsub g hg
  exact ⟨h _ (by omega) h1,s1 (by omega) h h2,s2 (by omega) h h3,s3 (by omega) h h4⟩
 exact key _ l (Nat.le_refl _) h hp
theorem fw_sm {t:Tm} (h:t.size≤1000000) (hf:FwT t):SmT t:=⟨h,fun x e he=>by have:=hf x e he; omega⟩

theorem somGo_b:∀ (l:List Cs) (m:Int),-1≤m→m≤1000000→-1≤somGo l m∧(0≤somGo l m→0≤m∧(∀ c∈l,SmC c∧Cs.size c≤m)∧somGo l m+Cs.sizeL l≤m)
 | [],m,h0,h1=>by simp only [somGo,Cs.sizeL]; exact ⟨h0,fun h=>⟨h,by simp,by omega⟩⟩
 | c::r,m,h0,h1=>by
  simp only [somGo]
  split
  ·rename_i hm
   obtain ⟨t1,t2,t3⟩:=few_b c.head h0 h1
   obtain ⟨a1,a2,a3⟩:=fewGL_b c.body (c.head.few m 200) 30 t1 (by omega)
   obtain ⟨r1,r3⟩:=somGo_b r (fewGL c.body (c.head.few m 200) 30) a1 (by omega)
   refine ⟨r1,fun h=>?_⟩
   obtain ⟨r4,r5,r6⟩:=r3 h
   obtain ⟨a4,a5,a6,_⟩:=a3 r4
   obtain ⟨t4,t5,t6⟩:=t3 a4
   refine ⟨t4,?_,by simp only [Cs.sizeL,Cs.size]; omega⟩
   intro x hx
   rcases List.mem_cons.1 hx with rfl | hx
   ·exact ⟨⟨fw_sm (by omega) t6,allGL_mono (fun t ht=>fw_sm (by omega)) a6,by omega⟩,by simp only [Cs.size]; omega⟩
   ·have:=r5 x hx
    exact ⟨this.1,by omega⟩
  ·rename_i hm
   exact ⟨h0,fun h=>by omega⟩

theorem somP_sm {l:List Cs} (h:somP l=true):(∀ c∈l,SmC c)∧l.length≤210∧Cs.sizeL l≤3000:=by
 unfold somP at h
 simp only [Bool.and_eq_true,decide_eq_true_eq] at h
 obtain ⟨_,h2⟩:=somGo_b l 3000 (by omega) (by omega)
 obtain ⟨_,h3,h4⟩:=h2 h.1
 exact ⟨fun c hc=>(h3 c hc).1,h.2,by omega⟩
end PSL
