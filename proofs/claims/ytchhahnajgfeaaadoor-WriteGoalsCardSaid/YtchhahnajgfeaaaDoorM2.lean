import Derived.Test.YtchhahnajgfeaaaDoorM1
import Derived.Lib.AppendStr
import Derived.Lib.UnsafeStr
import Derived.Lib.Builder
import Derived.Test.YtchhahnajgfeaaaDoorShf
import Derived.Lib.Replace
import Derived.Test.YtchhahnajgfeaaaDoorSTy
import Derived.Lib.Join
import Derived.Test.YtchhahnajgfeaaaDoorPslB
namespace PSL
open Go Go.RowKit
section
variable {g:G} {pf:Nat→Cls} {ops:Array Oper} {Fin:Exit→Act→World→Prop}

theorem R_eqNil0 (hg:GOk g) {dst:Option Nat} {T T':Nat} {x:Operand} {ty:Nat} {pos:String} {after:Array Edge} {gd:Option (Nat × Bool)} {rest:List Oper} {k:List It} {E:Env} {objs:List Ob} {e:TypeId}
  (hu:g.P.underlying T=some (.pointer e)) (hgd:guardA ops.toList E gd=some true) (hd:dstOk ⟨g.ty,g.N⟩ dst=true) (hx:ev E x=.d (.v (.pointer none)))
  (hr:R g pf Fin (.dr ops rest::k) (putO E dst (.d (.v (.bool true)))) objs):R g pf Fin (.dr ops (⟨dst,.binOp .eql T x (.const (.pointer none)) T',ty,pos,after,gd⟩::rest)::k) E objs:=by
 refine R_op (LocOp.up (LocOp.quiet hg hgd hd (by simp) fun φ objs w' w hρ hs'=>?_)) hr
 simp only [Op.operands] at hρ
 have hxv:=hρ x (by simp)
 rw [hx] at hxv
 simp only [RV] at hxv
 generalize hvx:w'.eval x=vx at hxv
 cases hxv
 refine out_val hs' (vv:=.bool true) ?_ (by simp only [RV]; exact .v _)
 have h1:∀ d,(Op.equalIn (d+1) T (.pointer none) (.pointer none)).run g.P w=.ok true w:=fun d=>by
  simp [Op.equalIn,run_underlying hu]
 have h2:(Op.equal T (.pointer none) (.pointer none)).run g.P w=.ok true w:=h1 9999
 have h3:(eqGuard .eql T x (.const (.pointer none)) (.pointer none) (.pointer none)).run g.P w=.ok () w:=by simp [eqGuard]
 have h4:w'.eval (.const (.pointer none))=.pointer none:=rfl
 simp only [execOp,Sem.run_bind,hvx,h4,h3,Result.andThen_ok,binOp,h2,Sem.run_pure]
end
theorem SCtr.one {P:Program} {Y:YP} {f:Nat} {t:Tm} {r:AV} {o o':List Ob} (h:SCtr P Y f [.d (.sl (Tm.rows [t]))] o r o'):SCtr P Y f [.d (.sl [Tm.row t])] o r o':=by rwa [Tm.rows_eq] at h
end PSL

namespace PSL
open Go Go.RowKit
section
variable {g:G} {pf:Nat→Cls} {ops:Array Oper} {Fin:Exit→Act→World→Prop}

theorem not_mayT {n0 m i TT:Nat} {l:List AV} (hm:m<3):¬ mayO n0 m i (.tbox TT l):=by
 unfold mayO Ob.lvl Ob.isBox
 simp only
 split <;> rintro (⟨_,h⟩ | h | ⟨_,h⟩) <;> first | omega | cases h

theorem R_loadT (hg:GOk g) (m:Nat) {dst:Option Nat} {T:Nat} {x:Operand} {ty:Nat} {pos:String} {after:Array Edge} {gd:Option (Nat × Bool)} {rest:List Oper} {k:List It} {E:Env} {objs:List Ob}
  {i off TT:Nat} {l:List AV} {τ:Ty} {v:AV} (hm:m<3)
  (hgd:guardA ops.toList E gd=some true) (hd:dstOk ⟨g.ty,g.N⟩ dst=true) (hcl:ldClsAt pf x=.look (m+1)) (hx:ev E x=.lo i off) (ho:nth objs i=some (.tbox TT l)) (hT:g.ty T=some τ) (hp:packA τ l off=some v)
  (hr:R g pf Fin (.dr ops rest::k) (putO E dst v) objs):R g pf Fin (.dr ops (⟨dst,.load T x,ty,pos,after,gd⟩::rest)::k) E objs:=by
 refine R_op ?_ hr
 simp only [clsOf,hcl]
 refine LocOp.lookingM hg m hgd hd (by simp) fun φ a w objs₁ hgr hρ hs=>?_
 simp only [Op.operands] at hρ
 have hxv:=hρ x (by simp)
 rw [hx] at hxv
 simp only [RV] at hxv
 obtain ⟨b,hb,hxv⟩:=hxv
 have ho:nth objs₁ i=some (.tbox TT l):=by
  rw [nth_eq] at ho ⊢
  exact Gr.same' hgr ho (by rw [← hs.len]; exact (List.getElem?_eq_some_iff.1 hb).1) (not_mayT hm)
 have hk:=obj_at hs hb ho
 simp only [ObOk] at hk
 obtain ⟨cs,hheap,hrv⟩:=hk
 obtain ⟨vv,h1,h2⟩:=load_at (o:=0) (hg.ty _ _ hT) hheap (by simpa using hrv) hp
 exact ok_load hs rfl hxv (by simpa using h1) h2

theorem R_storeT (hg:GOk g) {dst:Option Nat} {T:Nat} {d x:Operand} {ty:Nat} {pos:String} {after:Array Edge} {gd:Option (Nat × Bool)} {rest:List Oper} {k:List It} {E:Env} {objs:List Ob}
  {i off TT:Nat} {l new:List AV} {τ:Ty}
  (hgd:guardA ops.toList E gd=some true) (hd:dstOk ⟨g.ty,g.N⟩ dst=true) (hcl:stClsAt pf d=.eff) (hx:ev E d=.lo i off) (ho:nth objs i=some (.tbox TT l)) (hT:g.ty T=some τ) (hc:cellsO (ev E x)=some new) (hlen:new.length=τ.size) (hle:off+τ.size≤l.length)
  (hr:R g pf Fin (.dr ops rest::k) (putO E dst .any) (setN objs i (.tbox TT (spliceA l off new)))):R g pf Fin (.dr ops (⟨dst,.store T d x,ty,pos,after,gd⟩::rest)::k) E objs:=by
 refine R_op ?_ hr
 simp only [clsOf,hcl]
 refine LocOp.effect hg hgd hd (by simp) fun φ a w hρ hs=>?_
 simp only [Op.operands] at hρ
 have hdv:=hρ d (by simp)
 have hxv:=hρ x (by simp)
 rw [hx] at hdv
 simp only [RV] at hdv
 obtain ⟨b,hb,hdv⟩:=hdv
 have hk:=obj_at hs hb ho
 simp only [ObOk] at hk
 obtain ⟨cs,hheap,hrv⟩:=hk
 obtain ⟨hc1,hc2⟩:=cellsO_val hxv hc
 have hcl:=hc1.length
 have hll:=hrv.length
 obtain ⟨w',hrun,hst⟩:=run_storeVar (P:=g.P) (hg.ty _ _ hT) off hheap rfl hc2 (by omega) (by omega)
 have hbl:(Phy.blk b).bl b:=rfl
 have hkp:=keep_turn (S0:=g.S0) hb hbl hst.other
 refine ⟨.skip,undef,w',φ,?_,.inr ⟨rfl,rfl⟩,by simp [RV],?_⟩
 ·simp only [execOp,Instr.storeAt,Instr.sureAddr,hdv,Sem.run_bind,Sem.run_pure,Result.andThen_ok,hrun]
 ·refine ⟨?_,hkp,.refl _,by rw [hst.size]; exact Nat.le_refl _,hst.os,hst.tape,hst.out,fun c hc hn=>hst.other c fun e=>hn ⟨i,_,hb,by rw [e]; rfl⟩,fun _ h=>.inl h,fun _ _ _ B h=>⟨B,h⟩⟩
  rw [setN_eq]
  refine hs.turn hb hbl hst.size hst.other ?_
  simp only [ObOk]
  exact ⟨_,hst.at_,(hrv.mono hkp (.refl _)).splice off (hc1.mono hkp (.refl _))⟩

theorem byt_at {objs:List Ob} {φ:List Phy} {w:World} {S0:Nat→Prop} (hs:HS S0 φ objs w) {i s e:Nat} {bs:List UInt8} {v:Value} (hv:RV (SS S0 φ) w φ (.ow i s) v) (ho:nth objs i=some (.byt e s bs)) :
  φ[i]? = some (.sli 1 s v v.ownBlock)∧w.ownsRow 0 e 1 v bs.length (bs.map fun x=>Value.int .u8 x.toNat):=by
 simp only [RV] at hv
 obtain ⟨_,ph,hph,hv⟩:=hv
 have hk:=obj_at hs hph ho
 cases ph <;> try (simp only [ObOk] at hk; done)
 simp only [ObOk] at hk
 obtain ⟨rfl,rfl,h3,h4⟩:=hk
 have hv:=(hv _ _ _ _ rfl).2 rfl
 subst hv
 rw [h3] at hph
 exact ⟨hph,h4⟩

theorem ownsRow_slice {w:World} {e n:Nat} {v:Value} {xs:List Value} (h:w.ownsRow 0 e 1 v n xs):∃ p c,v=.slice p n c:=by
 rcases h.2 with ⟨h1,h2⟩ | ⟨g,cap,cur,h1,_⟩
 ·exact ⟨none,0,by rw [h1,h2]⟩
 ·exact ⟨_,_,h1⟩

theorem R_lenY (hg:GOk g) {dst:Option Nat} {T:Nat} {x:Operand} {ty:Nat} {pos:String} {after:Array Edge} {gd:Option (Nat × Bool)} {rest:List Oper} {k:List It} {E:Env} {objs:List Ob}
  {id s q by_ e ee:Nat} {z:List Value} {bs:List UInt8} {n:Int}
  (hgd:guardA ops.toList E gd=some true) (hd:dstOk ⟨g.ty,g.N⟩ dst=true) (hx:ev E x=.ow id s) (ho:nth objs id=some (.byt ee s bs)) (hT:g.ty T=some ⟨q,by_,z,.slice e⟩) (hn:(bs.length:Int)=n)
  (hr:R g pf Fin (.dr ops rest::k) (putO E dst (iV n)) objs) (hcl:lenCls pf #[x]=.load:=by rfl):R g pf Fin (.dr ops (⟨dst,.call { callee:=.builtin .len,args:=#[x],argTypes:=#[T] },ty,pos,after,gd⟩::rest)::k) E objs:=by
 subst hn
 refine R_op ?_ hr
 simp only [clsOf,hcl]
 refine LocOp.lookingM hg 0 hgd hd (by simp) fun φ a w objs₁ hgr hρ hs=>?_
 simp only [Op.operands,Call.operands] at hρ
 have hxv:=hρ x (by simp)
 rw [hx] at hxv
 have hxv':=hxv
 simp only [RV] at hxv
 obtain ⟨_,ph,hph,hxv⟩:=hxv
 have ho:nth objs₁ id=some (.byt ee s bs):=by
  rw [nth_eq] at ho ⊢
  exact Gr.same hgr ho (by rw [← hs.len]; exact (List.getElem?_eq_some_iff.1 hph).1) (by simp [Ob.lvl])
 obtain ⟨_,h4⟩:=byt_at hs hxv' ho
 obtain ⟨p,c,hs2⟩:=ownsRow_slice h4
 refine out_val hs (vv:=.int .i64 bs.length) ?_ (by simp only [RV,iV]; exact .v _)
 have hu:=und_slice hg hT
 simp only [execOp,resolve,Sem.run_bind,Sem.run_pure,Result.andThen_ok,invoke,builtin,List.map_toArray,List.map_cons,List.map_nil,hs2]
 simp [run_lenArr hu (.inr ⟨⟨_,rfl⟩,_,_,_,rfl,rfl⟩)]

theorem grow_byt {n0:Nat} {objs:List Ob} {i e s e' s':Nat} {bs bs':List UInt8} (ho:nth objs i=some (.byt e s bs)):Gr n0 1 objs (setN objs i (.byt e' s' bs')):=fun j x hj=>by
 rw [setN_eq]
 rw [nth_eq] at ho
 by_cases h:i=j
 ·subst h
  rw [ho] at hj; cases hj
  exact ⟨_,List.getElem?_set_self (List.getElem?_eq_some_iff.1 ho).1,.inr ⟨.inl ⟨by omega,by simp [Ob.lvl]⟩,.inl ⟨by omega,by simp [Ob.lvl]⟩⟩⟩
 ·exact ⟨x,by rw [List.getElem?_set_ne h]; exact hj,.inl rfl⟩

theorem app_block {P:Program} {w w':World} {T T' ty e:Nat} {i:TypeInfo} (ht:P.underlying T=some (.slice e)) (hu:P.underlying T'=some .string) (hi:P.info? e=some i) (hz:i.zero=some (.int .u8 0)) (hsize:i.size=1) (hby:i.bytes=1)
  {v v':Value} {n:Nat} {xs:List Value} (hown:w.ownsRow 0 e 1 v n xs) {s:ByteArray} (hb:n+s.size≤140737488355328) (hr:(Builtin.append_ #[T,T'] ty #[v,.string s]).run P w=.ok v' w') :
  v'.ownBlock=v.ownBlock∨(v'.ownBlock=some w.heap.size∧w.heap.size<w'.heap.size):=by
 have hxl:xs.length=n:=by simpa using hown.1
 have hmx:n+s.size≤maxLen:=by unfold maxLen; omega
 rcases hown.2 with ⟨rfl,rfl⟩ | ⟨gb,cap,cur,rfl,_,hg,hnc,hcm,hcs,htake⟩
 ·-- nil: what is there lies behind all
  have h0:xs=[]:=List.eq_nil_of_length_eq_zero hxl
  subst h0
  obtain ⟨v2,w2,hr2,hown2,hgr2,hn2⟩:=Lib.run_append_own_string (P:=P) w w.heap.size T T' ty e i ht hu hi hz hsize hby (.slice none 0 0) 0 [] (World.ownsRow_nil w w.heap.size e 1) s hmx hb (Nat.le_refl _)
  rw [hr] at hr2; cases hr2
  by_cases hs:s.size=0
  ·rw [hn2.2 ⟨rfl,hs⟩]; exact .inl rfl
  ·have hrr:=run_append_nil_string (P:=P) w T T' ty e i (.int .u8 0) ht hu hi hz s (by omega) (by omega) (by rw [hby]; omega)
   rw [hr] at hrr
   obtain ⟨rfl,rfl⟩:=Result.ok.inj hrr
   exact .inr ⟨rfl,by simp⟩
 ·by_cases hroom:n+s.size≤cap
  ·have hrr:=Lib.run_append_room_string (P:=P) w T T' ty e i ht hu hi hsize gb n cap cur hg s hroom (by omega)
   rw [hr] at hrr; cases hrr
   exact .inl rfl
  ·have holds:∀ j u,xs[j]? = some u→w.cell? ((⟨gb,0,none⟩:Addr).add j)=some u:=hown.cells (g:=gb) rfl
   have hrr:=Lib.run_append_grow_string (P:=P) w T T' ty e i (.int .u8 0) ht hu hi hz ⟨gb,0,none⟩ n cap xs (by rw [hsize]; simpa using hxl) holds s (by omega) (by omega) (by rw [hby]; exact growslice_fits (by omega) (by omega))
   rw [hr] at hrr; cases hrr
   exact .inr ⟨rfl,by simp⟩

theorem R_appY (hg:GOk g) {dst:Option Nat} {T T':Nat} {x y:Operand} {ty:Nat} {pos:String} {after:Array Edge} {gd:Option (Nat × Bool)} {rest:List Oper} {k:List It} {E:Env} {objs:List Ob}
  (s1:Nat) {i s q by_ e:Nat} {z:List Value} {bs:List UInt8} {t:ByteArray} {τ:TypeInfo}
  (hgd:guardA ops.toList E gd=some true) (hd:dstOk ⟨g.ty,g.N⟩ dst=true) (hx:ev E x=.ow i s) (ho:nth objs i=some (.byt e s bs)) (hy:ev E y=.d (.v (.string t)))
  (hT:g.ty T=some ⟨q,by_,z,.slice e⟩) (hT':g.P.underlying T'=some .string) (he:g.P.info? e=some τ) (hz:τ.zero=some (.int .u8 0)) (hsz:τ.size=1) (hby:τ.bytes=1)
  (hlt:s<s1) (hmax:bs.length+t.size≤140737488355328)
  (hr:R g pf Fin (.dr ops rest::k) (putO E dst (.ow i s1)) (setN objs i (.byt e s1 (bs++t.data.toList)))) :
  R g pf Fin (.dr ops (⟨dst,.call { callee:=.builtin .append,args:=#[x,y],argTypes:=#[T,T'] },ty,pos,after,gd⟩::rest)::k) E objs:=by
 refine R_op (LocOp.turning hg (grow_byt ho) hgd hd (by simp) fun φ a w hρ hs=>?_) hr
 simp only [Op.operands,Call.operands] at hρ
 have hxv:=hρ x (by simp)
 rw [hx] at hxv
 have hyv:=hρ y (by simp)
 rw [hy] at hyv
 simp only [RV] at hyv
 generalize hye:a.eval y=ye at hyv
 cases hyv
 obtain ⟨hph,hown⟩:=byt_at hs hxv ho
 generalize hxe:a.eval x=v at hxv hph hown
 obtain ⟨v',w',hrun,hown',hgr,_⟩:=Lib.run_append_own_string (P:=g.P) w 0 T T' ty e τ (und_slice hg hT) hT' he hz hsz hby v bs.length _ hown t (by unfold maxLen; omega) hmax (Nat.zero_le _)
 have hnew:=app_block (P:=g.P) (und_slice hg hT) hT' he hz hsz hby hown hmax hrun
 have hlt':i<φ.length:=(List.getElem?_eq_some_iff.1 hph).1
 obtain ⟨p',c',hv'⟩:=ownsRow_slice hown'
 have hcells:(bs++t.data.toList).map (fun x=>Value.int .u8 x.toNat)=bs.map (fun x=>Value.int .u8 x.toNat)++Lib.strCells t:=by simp [Lib.strCells]
 have hlen:(bs++t.data.toList).length=bs.length+t.size:=by rw [List.length_append]; congr 1
 rw [setN_eq]
 refine ⟨.value v',v',w',φ.set i (.sli 1 s1 v' v'.ownBlock),?_,.inl rfl,?_,?_⟩
 ·simp only [execOp,resolve,invoke,builtin,Sem.run_bind,Sem.run_pure,Result.andThen_ok,List.map_toArray,List.map_cons,List.map_nil,hxe,hye,hrun]
 ·simp only [RV]
  exact ⟨⟨_,_,_,hv'⟩,_,List.getElem?_set_self hlt',fun sz s x ob h=>by cases h; exact ⟨Nat.le_refl _,fun _=>rfl⟩⟩
 ·refine Stp.swap hs hph (.inr (.inl ⟨_,_,_,_,_,_,_,_,rfl,rfl,hlt⟩)) hgr.size (fun c hc hn=>hgr.block c hc fun e=>hn e.symm) (fun b hb=>?_) hgr.os hgr.tape hgr.output fun hkeep _=>?_
  ·simp only [Phy.bl] at hb ⊢
   rcases hnew with h | h
   ·exact .inl (h ▸ hb)
   ·rw [h.1] at hb; cases hb; exact .inr ⟨Nat.le_refl _,h.2⟩
  ·simp only [ObOk]
   refine ⟨trivial,trivial,trivial,?_⟩
   rw [hcells,hlen]; exact hown'

theorem R_neqSelf (hg:GOk g) {dst:Option Nat} {T T':Nat} {x y:Operand} {ty:Nat} {pos:String} {after:Array Edge} {gd:Option (Nat × Bool)} {rest:List Oper} {k:List It} {E:Env} {objs:List Ob} {i off:Nat} {e:TypeId} {j:TypeInfo}
  (hu:g.P.underlying T=some (.pointer e)) (hj:g.P.info? e=some j) (hgd:guardA ops.toList E gd=some true) (hd:dstOk ⟨g.ty,g.N⟩ dst=true) (hx:ev E x=.lo i off) (hy:ev E y=.lo i off)
  (hr:R g pf Fin (.dr ops rest::k) (putO E dst (.d (.v (.bool false)))) objs):R g pf Fin (.dr ops (⟨dst,.binOp .neq T x y T',ty,pos,after,gd⟩::rest)::k) E objs:=by
 refine R_op (LocOp.up (LocOp.quiet hg hgd hd (by simp) fun φ objs w' w hρ hs'=>?_)) hr
 simp only [Op.operands] at hρ
 have hxv:=hρ x (by simp)
 have hyv:=hρ y (by simp)
 rw [hx] at hxv
 rw [hy] at hyv
 simp only [RV] at hxv hyv
 obtain ⟨b,hb,hvx⟩:=hxv
 obtain ⟨b',hb',hvy⟩:=hyv
 rw [hb] at hb'; cases hb'
 refine out_val hs' (vv:=.bool false) ?_ (by simp only [RV]; exact .v _)
 have h2:=Lib.run_neq_ptr_same (P:=g.P) w ⟨b,off,none⟩ hu hj
 have h3:(eqGuard .neq T x y (.pointer (some ⟨b,off,none⟩)) (.pointer (some ⟨b,off,none⟩))).run g.P w=.ok () w:=by simp [eqGuard]
 simp only [execOp,Sem.run_bind,hvx,hvy,h3,Result.andThen_ok,h2,Sem.run_pure]

theorem R_cvtTo (hg:GOk g) {dst:Option Nat} {T T':Nat} {x:Operand} {ty:Nat} {pos:String} {after:Array Edge} {gd:Option (Nat × Bool)} {rest:List Oper} {k:List It} {E:Env} {objs:List Ob} {i off TT:Nat} {l:List AV} {e:TypeId} {j:TypeInfo}
  (hu:g.P.underlying T=some (.pointer e)) (hu':g.P.underlying T'=some .unsafePointer) (hj:g.P.info? e=some j) (hj0:j.size≠0) (ho:nth objs i=some (.tbox TT l)) (hl:off<l.length)
  (hgd:guardA ops.toList E gd=some true) (hd:dstOk ⟨g.ty,g.N⟩ dst=true) (hx:ev E x=.lo i off) (hcl:cnvCls pf=.eff)
  (hr:R g pf Fin (.dr ops rest::k) (putO E dst (.lo i off)) objs):R g pf Fin (.dr ops (⟨dst,.convert T T' x,ty,pos,after,gd⟩::rest)::k) E objs:=by
 refine R_op ?_ hr
 simp only [clsOf,hcl]
 refine LocOp.effect hg hgd hd (by simp) fun φ a w hρ hs=>?_
 simp only [Op.operands] at hρ
 have hxv:=hρ x (by simp)
 rw [hx] at hxv
 have hxv':=hxv
 simp only [RV] at hxv
 obtain ⟨b,hb,hvx⟩:=hxv
 have hk:=obj_at hs hb ho
 simp only [ObOk] at hk
 obtain ⟨cs,hheap,hrv⟩:=hk
 have hsh:w.shape? b=some (TT,cs.length):=by simp [World.shape?,hheap]
 refine out_val hs (vv:=.pointer (some ⟨b,off,none⟩)) ?_ (by rw [← hvx]; exact hxv')
 have h1:=Lib.run_to_unsafe (P:=g.P) w ⟨b,off,none⟩ hu hu' hj hj0 hsh (by have:=hrv.length; simp only; omega)
 simp only [execOp,hvx,Sem.run_bind,h1,Result.andThen_ok,Sem.run_pure]

theorem R_cvtFrom (hg:GOk g) {dst:Option Nat} {T T':Nat} {x:Operand} {ty:Nat} {pos:String} {after:Array Edge} {gd:Option (Nat × Bool)} {rest:List Oper} {k:List It} {E:Env} {objs:List Ob} {i off TT:Nat} {l:List AV} {e:TypeId} {j:TypeInfo}
  (hu:g.P.underlying T=some .unsafePointer) (hu':g.P.underlying T'=some (.pointer e)) (hj:g.P.info? e=some j) (ho:nth objs i=some (.tbox TT l)) (hl:liesAt g.P g.P.depth TT (l.length / g.P.cellsOf TT) off e 1=true)
  (hgd:guardA ops.toList E gd=some true) (hd:dstOk ⟨g.ty,g.N⟩ dst=true) (hx:ev E x=.lo i off) (hcl:cnvCls pf=.eff)
  (hr:R g pf Fin (.dr ops rest::k) (putO E dst (.lo i off)) objs):R g pf Fin (.dr ops (⟨dst,.convert T T' x,ty,pos,after,gd⟩::rest)::k) E objs:=by
 refine R_op ?_ hr
 simp only [clsOf,hcl]
 refine LocOp.effect hg hgd hd (by simp) fun φ a w hρ hs=>?_
 simp only [Op.operands] at hρ
 have hxv:=hρ x (by simp)
 rw [hx] at hxv
 have hxv':=hxv
 simp only [RV] at hxv
 obtain ⟨b,hb,hvx⟩:=hxv
 have hk:=obj_at hs hb ho
 simp only [ObOk] at hk
 obtain ⟨cs,hheap,hrv⟩:=hk
 have hsh:w.shape? b=some (TT,cs.length):=by simp [World.shape?,hheap]
 refine out_val hs (vv:=.pointer (some ⟨b,off,none⟩)) ?_ (by rw [← hvx]; exact hxv')
 have h1:=Lib.run_from_unsafe (P:=g.P) w ⟨b,off,none⟩ hu hu' hj hsh (by simp only; rw [← hrv.length]; exact hl)
 simp only [execOp,hvx,Sem.run_bind,h1,Result.andThen_ok,Sem.run_pure]

theorem R_same (hg:GOk g) {dst:Option Nat} {f:Nat} {x:Operand} {ts:Array Nat} {ty:Nat} {pos:String} {after:Array Edge} {gd:Option (Nat × Bool)} {rest:List Oper} {k:List It} {E:Env} {objs:List Ob}
  (hf:∀ (v:Value) (w:World),(callFunc f #[v]).run g.P w=.ok (.value v) w)
  (hgd:guardA ops.toList E gd=some true) (hd:dstOk ⟨g.ty,g.N⟩ dst=true)
  (hr:R g pf Fin (.dr ops rest::k) (putO E dst (ev E x)) objs):R g pf Fin (.dr ops (⟨dst,.call { callee:=.value (.func f),args:=#[x],argTypes:=ts },ty,pos,after,gd⟩::rest)::k) E objs:=by
 refine R_op (LocOp.quiet hg hgd hd (by simp) fun φ objs w' w hρ hs'=>?_) hr
 simp only [Op.operands,Call.operands] at hρ
 have hxv:=hρ x (by simp)
 refine out_val hs' (vv:=w'.eval x) ?_ hxv
 have h1:=hf (w'.eval x) w
 have h2:(resolve w'.eval { callee:=.value (.func f),args:=#[x],argTypes:=ts } ty).run g.P w=.ok { target:=.fn (.func f) #[],args:=#[w'.eval x] } w:=by
  simp [resolve,Act.eval,Deferred.ofValue]
 simp only [execOp,Sem.run_bind,h2,Result.andThen_ok,invoke]
 simpa using h1

theorem R_sdat (hg:GOk g) {dst:Option Nat} {x:Operand} {ts:Array Nat} {ty:Nat} {pos:String} {after:Array Edge} {gd:Option (Nat × Bool)} {rest:List Oper} {k:List It} {E:Env} {objs:List Ob}
  {id s e:Nat} {bs:List UInt8}
  (hgd:guardA ops.toList E gd=some true) (hd:dstOk ⟨g.ty,g.N⟩ dst=true) (hx:ev E x=.ow id s) (ho:nth objs id=some (.byt e s bs)) (h0:bs≠[])
  (hr:R g pf Fin (.dr ops rest::k) (putO E dst (.el id s 0 0)) objs):R g pf Fin (.dr ops (⟨dst,.call { callee:=.builtin .unsafeSliceData,args:=#[x],argTypes:=ts },ty,pos,after,gd⟩::rest)::k) E objs:=by
 refine R_op ?_ hr
 simp only [clsOf]
 refine LocOp.lookingM hg 0 hgd hd (by simp) fun φ a w objs₁ hgr hρ hs=>?_
 simp only [Op.operands,Call.operands] at hρ
 have hxv:=hρ x (by simp)
 rw [hx] at hxv
 have hxv':=hxv
 simp only [RV] at hxv
 obtain ⟨_,ph,hph,hxv⟩:=hxv
 have ho:nth objs₁ id=some (.byt e s bs):=by
  rw [nth_eq] at ho ⊢
  exact Gr.same hgr ho (by rw [← hs.len]; exact (List.getElem?_eq_some_iff.1 hph).1) (by simp [Ob.lvl])
 obtain ⟨hph,h4⟩:=byt_at hs hxv' ho
 have hl0:bs.length≠0:=by simpa using h0
 rcases h4.2 with ⟨_,h2⟩ | ⟨gb,cap,cur,h1,_,hheap,hnc,_⟩
 ·exact absurd h2 hl0
 ·rw [h1] at hph
  refine out_val hs (vv:=.pointer (some ⟨gb,0,none⟩)) ?_ ?_
  ·have hrun:=Lib.run_unsafeSliceData_row (P:=g.P) w ts ty ⟨gb,0,none⟩ bs.length cap (by omega)
   simp only [execOp,resolve,invoke,builtin,Sem.run_bind,Sem.run_pure,Result.andThen_ok,List.map_toArray,List.map_cons,List.map_nil,h1,hrun]
  ·simp only [RV]
   exact ⟨⟨_,_,rfl⟩,_,hph,fun sz s' x' ob h=>by cases h; exact ⟨Nat.le_refl _,fun _=>⟨gb,0,_,_,rfl,by simp⟩⟩⟩

theorem R_ustr (hg:GOk g) {dst:Option Nat} {T T':Nat} {x y:Operand} {ty:Nat} {pos:String} {after:Array Edge} {gd:Option (Nat × Bool)} {rest:List Oper} {k:List It} {E:Env} {objs:List Ob}
  {id s e:Nat} {bs:List UInt8} {n:Int} (hT:g.P.underlying T=some (.pointer e)) (hc:g.P.cellsOf e=1)
  (hgd:guardA ops.toList E gd=some true) (hd:dstOk ⟨g.ty,g.N⟩ dst=true) (hx:ev E x=.el id s 0 0) (hy:ev E y=iV n) (ho:nth objs id=some (.byt e s bs)) (hn:n=bs.length) (h0:bs≠[]) (h63:bs.length≤9223372036854775807)
  (hr:R g pf Fin (.dr ops rest::k) (putO E dst (.d (.v (.string ⟨bs.toArray⟩)))) (setN objs id .dead)):R g pf Fin (.dr ops (⟨dst,.call { callee:=.builtin .unsafeString,args:=#[x,y],argTypes:=#[T,T'] },ty,pos,after,gd⟩::rest)::k) E objs:=by
 subst hn
 refine R_op ?_ hr
 simp only [clsOf]
 refine LocOp.effect hg hgd hd (by simp) fun φ a w hρ hs=>?_
 simp only [Op.operands,Call.operands] at hρ
 have hxv:=hρ x (by simp)
 have hyv:=hρ y (by simp)
 rw [hx] at hxv
 rw [hy] at hyv
 simp only [RV,iV] at hxv hyv
 generalize hye:a.eval y=ye at hyv
 cases hyv
 obtain ⟨_,ph,hph,hxv⟩:=hxv
 have hk:=obj_at hs hph ho
 cases ph <;> try (simp only [ObOk] at hk; done)
 rename_i sz2 s2 v2 ob2
 simp only [ObOk] at hk
 obtain ⟨rfl,rfl,hob,hown⟩:=hk
 obtain ⟨b,o,n,cap,hv2,hxe⟩:=(hxv _ _ _ _ rfl).2 rfl
 have hl0:bs.length≠0:=by simpa using h0
 rcases hown.2 with ⟨_,h2⟩ | ⟨gb,cap',cur,h1,_,hheap,hnc,_,hcs,_⟩
 ·exact absurd h2 hl0
 ·rw [hv2] at h1
  cases h1
  simp only [Nat.zero_mul,Nat.add_zero] at hxe
  have hrun:=Lib.run_unsafeString_row (P:=g.P) w T T' ty e hT hc b cur.size (by simp [World.shape?,hheap]) bs h0 (by omega) h63 (fun j x' hx'=>by
   refine hown.cells (g:=b) (by rw [hv2]; rfl) j _ ?_
   simp [hx'])
  have hfz:∀ c,c≠b→(w.freeze ⟨b,0,none⟩ bs.length).heap[c]? = w.heap[c]? := fun c hc=>by
   unfold World.freeze
   split
   ·rfl
   ·simp only [Array.getElem?_modify]
    rw [if_neg (fun e=>hc e.symm)]
  have hfs:(w.freeze ⟨b,0,none⟩ bs.length).heap.size=w.heap.size:=by
   unfold World.freeze
   split <;> simp
  have hfo:(w.freeze ⟨b,0,none⟩ bs.length).os=w.os∧(w.freeze ⟨b,0,none⟩ bs.length).tape=w.tape∧(w.freeze ⟨b,0,none⟩ bs.length).output=w.output:=by
   unfold World.freeze
   split <;> exact ⟨rfl,rfl,rfl⟩
  have hbl:(Phy.sli 1 s v2 ob2).bl b:=by simp only [Phy.bl]; rw [hob,hv2]; rfl
  have hkp:=keep_turn (S0:=g.S0) hph hbl hfz
  refine ⟨.value (.string ⟨bs.toArray⟩),.string ⟨bs.toArray⟩,w.freeze ⟨b,0,none⟩ bs.length,φ,?_,.inl rfl,by simp only [RV]; exact .v _,?_⟩
  ·simp only [execOp,resolve,invoke,builtin,Sem.run_bind,Sem.run_pure,Result.andThen_ok,List.map_toArray,List.map_cons,List.map_nil,hxe,hye,hrun]
  ·refine ⟨?_,hkp,.refl _,by rw [hfs]; exact Nat.le_refl _,hfo.1,hfo.2.1,hfo.2.2,fun c _ hn=>hfz c fun e=>hn ⟨id,_,hph,by rw [e]; exact hbl⟩,fun _ h=>.inl h,fun _ _ _ B h=>⟨B,h⟩⟩
   rw [setN_eq]
   refine hs.turn hph hbl hfs hfz ?_
   simp only [ObOk]

theorem R_boxT (hg:GOk g) {dst:Option Nat} {T:Nat} {x:Operand} {ty:Nat} {pos:String} {after:Array Edge} {gd:Option (Nat × Bool)} {rest:List Oper} {k:List It} {E:Env} {objs:List Ob} {l:List AV}
  (hgd:guardA ops.toList E gd=some true) (hd:dstOk ⟨g.ty,g.N⟩ dst=true) (hc:cellsO (ev E x)=some l)
  (hr:R g pf Fin (.dr ops rest::k) (putO E dst (.lo (len objs) 0)) (objs++[.tbox T l])):R g pf Fin (.dr ops (⟨dst,.box T x,ty,pos,after,gd⟩::rest)::k) E objs:=by
 refine R_op ?_ hr
 simp only [clsOf]
 refine LocOp.turning hg (fun i x hx=>⟨x,by rw [List.getElem?_append_left (List.getElem?_eq_some_iff.1 hx).1]; exact hx,.inl rfl⟩) hgd hd (by simp) fun φ a w hρ hs=>?_
 simp only [Op.operands] at hρ
 have hxv:=hρ x (by simp)
 obtain ⟨h1,h2⟩:=cellsO_val hxv hc
 have hnew:∀ b,(Phy.blk w.heap.size).bl b→b=w.heap.size:=by intro b hb; simpa [Phy.bl] using hb.symm
 refine ⟨.value (.pointer (some ⟨w.heap.size,0,none⟩)),_,w.alloc (.cells (a.eval x).cells T),φ++[.blk w.heap.size],?_,.inl rfl,?_,.new hs hnew ?_⟩
 ·simp only [execOp,Instr.box,Sem.run_bind,Result.andThen_ok,newVar,newRow,run_newObj,Sem.run_pure]
  rfl
 ·simp only [RV]
  exact ⟨w.heap.size,by rw [len_eq,← hs.len]; simp,rfl⟩
 ·simp only [ObOk]
  exact ⟨(a.eval x).cells.toList,heap_alloc_new _ _,h1.mono (keep_new hnew) (.app _ _)⟩

theorem R_ownT {k:List It} {E:Env} {objs:List Ob} (i j e:Nat) {TT:Nat} {l:List AV} (ho:nth objs i=some (.tbox TT l)) (h:nth l j=some (.d (.v (.slice none 0 0)))) (ht:topCode k=true)
  (hr:R g pf Fin k E (setN objs i (.tbox TT (setN l j (.ow (len objs) 0)))++[.byt e 0 []])):R g pf Fin k E objs:=by
 refine R_ghost ht (fun a w hs=>?_) hr
 obtain ⟨φ,h1,h2,h3,h4,h5,h6⟩:=hs
 rw [nth_eq] at ho h
 have hil:=(List.getElem?_eq_some_iff.1 ho).1
 have hst:Stp g.S0 φ w (φ++[Phy.sli 1 0 (.slice none 0 0) none]) (objs++[.byt e 0 []]) w:=Stp.add h1 (Nat.le_refl _) (fun _ _=>rfl) (fun b hb=>by simp [Phy.bl] at hb) rfl rfl rfl fun _=>by
  simp only [ObOk]
  exact ⟨trivial,trivial,rfl,by simpa using World.ownsRow_nil w 0 e 1⟩
 have hph:φ[i]? = some (φ[i]'(by rw [h1.len]; exact hil)):=List.getElem?_eq_getElem _
 generalize φ[i]'(by rw [h1.len]; exact hil)=ph at hph
 have hk:=hst.hs.ok i ph (.tbox TT l) (by rw [List.getElem?_append_left (by rw [h1.len]; exact hil)]; exact hph) (by rw [List.getElem?_append_left hil]; exact ho)
 cases ph <;> try (simp only [ObOk] at hk; done)
 rename_i b
 have hk':=hk
 simp only [ObOk] at hk'
 obtain ⟨cs,hb,hrv⟩:=hk'
 have hst2:Stp g.S0 (φ++[Phy.sli 1 0 (.slice none 0 0) none]) w ((φ++[Phy.sli 1 0 (.slice none 0 0) none]).set i (.blk b)) ((objs++[Ob.byt e 0 []]).set i (.tbox TT (setN l j (.ow (len objs) 0)))) w:=by
  refine Stp.swap hst.hs (by rw [List.getElem?_append_left (by rw [h1.len]; exact hil)]; exact hph) (.inl rfl) (Nat.le_refl _) (fun _ _ _=>rfl) (fun b hb=>.inl hb) rfl rfl rfl fun hkeep hle=>?_
  simp only [ObOk]
  refine ⟨cs,hb,?_⟩
  rw [setN_eq]
  obtain ⟨v,hv1,hv2⟩:=hrv.get j h
  have hcs:cs=cs.set j v:=by
   apply List.ext_getElem?
   intro n
   rw [List.getElem?_set]
   split
   ·rename_i e; subst e; rw [hv1]; simp [(List.getElem?_eq_some_iff.1 hv1).1]
   ·rfl
  rw [hcs]
  refine (hrv.mono hkeep hle).set j ?_
  simp only [RV] at hv2 ⊢
  cases hv2
  refine ⟨⟨_,_,_,rfl⟩,.sli 1 0 (.slice none 0 0) none,?_,fun sz s x ob h=>by cases h; exact ⟨Nat.le_refl _,fun _=>rfl⟩⟩
  rw [List.getElem?_set_ne (by rw [len_eq]; omega),len_eq,← h1.len]; simp
 have e1:(φ++[Phy.sli 1 0 (.slice none 0 0) none]).set i (.blk b)=φ++[Phy.sli 1 0 (.slice none 0 0) none]:=by
  apply List.ext_getElem?
  intro n
  rw [List.getElem?_set]
  split
  ·rename_i e; subst e
   rw [List.getElem?_append_left (by rw [h1.len]; exact hil),hph]; simp; rw [h1.len]; omega
  ·rfl
 have e2:(objs++[Ob.byt e 0 []]).set i (.tbox TT (setN l j (.ow (len objs) 0)))=setN objs i (.tbox TT (setN l j (.ow (len objs) 0)))++[.byt e 0 []]:=by
  rw [List.set_append,if_pos hil]; rw [setN_eq objs i]
 have hhs:=hst2.hs
 rw [e1,e2] at hhs
 refine ⟨_,hhs,fun b hb=>?_,fun u=>(h3 u).mono hst.keep hst.le,h4,h5.stp hst,h6.phs hst.ext (h6.le.trans hst.le)⟩
 rcases hst.own b hb with h | h
 ·exact h2 b h
 ·left; have:=h6.size; omega
end
end PSL

namespace Go.Proofs.YtchhahnajgfeaaaDoor
open Go PSL Go.Proofs

def wrO (u:Bool) (bs:List UInt8):List Ob:=[.tbox 49 [bif u then .lo 0 0 else .d (.v (.pointer none)),.ow 1 bs.length],.byt 5 bs.length bs]

theorem noEsc (v:Value) (w:World):(callFunc 54 #[v]).run Tryd.prog w=.ok (.value v) w:=by
 rw [run_callFunc_extern Tryd.func54 (by kernel_rfl) (by kernel_rfl) (by kernel_rfl) (e:=Extern.AbiNoEscape.same) (by kernel_rfl),Lib.run_noEscape]
 rfl
def pfCv:Nat→Cls:=fun f=>bif Nat.beq f 4000000010 then .turn 90 else .eff

set_option maxRecDepth 100000 in
theorem wrCheck0_ok (Y:YP) (s:Nat) (bs:List UInt8):SCtr Tryd.prog Y 48 [.lo 0 0] [.tbox 49 [.d (.v (.pointer none)),.ow 1 s],.byt 5 s bs] (.tup []) [.tbox 49 [.lo 0 0,.ow 1 s],.byt 5 s bs]:=by
 obtain ⟨j,z,hj,hz,hjs,hjb,_⟩:=(tyOk 47 _ rfl).info
 refine SCtr.of_R (pf:=pfCv) tyOk mixed Tryd.func48 rfl (by kernel_rfl) (by kernel_rfl) (by simp [Tryd.ntmps48]) (by simp []) fun w S φ hg=>?_
 refine R_run hg.ok 1000 rfl rfl ?_
 refine R_loadT hg.ok 0 (by omega) rfl rfl rfl rfl rfl rfl rfl ?_
 refine R_run hg.ok 1000 rfl rfl ?_
 refine R_eqNil0 hg.ok Tryd.underlying44 rfl rfl rfl ?_
 refine R_run hg.ok 1000 rfl rfl ?_
 refine R_if rfl rfl (fun _=>?_) (fun h=>absurd h (by simp)) <;> refine R_run hg.ok 1000 rfl rfl ?_
 refine R_cvtTo hg.ok Tryd.underlying44 Tryd.underlying77 hj (by rw [hjs]; decide) rfl (by show 0<2; omega) rfl rfl rfl rfl ?_
 refine R_run hg.ok 1000 rfl rfl ?_
 refine R_same hg.ok noEsc rfl rfl ?_
 refine R_run hg.ok 1000 rfl rfl ?_
 refine R_cvtFrom hg.ok Tryd.underlying77 Tryd.underlying44 hj rfl (by kernel_rfl) rfl rfl rfl rfl ?_
 refine R_run hg.ok 1000 rfl rfl ?_
 refine R_storeT hg.ok rfl rfl rfl rfl rfl rfl rfl rfl (by show 0+0+1≤2; omega) ?_
 refine R_run hg.ok 1000 rfl rfl ?_
 exact R_endS hg 2 5 (by show (2:Nat)≤2; omega) rfl rfl rfl

set_option maxRecDepth 100000 in
theorem wrCheck1_ok (Y:YP) (s:Nat) (bs:List UInt8):SCtr Tryd.prog Y 48 [.lo 0 0] [.tbox 49 [.lo 0 0,.ow 1 s],.byt 5 s bs] (.tup []) [.tbox 49 [.lo 0 0,.ow 1 s],.byt 5 s bs]:=by
 obtain ⟨j,z,hj,hz,hjs,hjb,_⟩:=(tyOk 47 _ rfl).info
 refine SCtr.of_R (pf:=pfCv) tyOk mixed Tryd.func48 rfl (by kernel_rfl) (by kernel_rfl) (by simp [Tryd.ntmps48]) (by simp []) fun w S φ hg=>?_
 refine R_run hg.ok 1000 rfl rfl ?_
 refine R_loadT hg.ok 0 (by omega) rfl rfl rfl rfl rfl rfl rfl ?_
 refine R_run hg.ok 1000 rfl rfl ?_
 refine R_eqNil hg.ok Tryd.underlying44 rfl rfl rfl ?_
 refine R_run hg.ok 1000 rfl rfl ?_
 refine R_if rfl rfl (fun h=>absurd h (by simp)) (fun _=>?_) <;> refine R_run hg.ok 1000 rfl rfl ?_
 refine R_loadT hg.ok 0 (by omega) rfl rfl rfl rfl rfl rfl rfl ?_
 refine R_run hg.ok 1000 rfl rfl ?_
 refine R_neqSelf hg.ok Tryd.underlying44 hj rfl rfl rfl rfl ?_
 refine R_run hg.ok 1000 rfl rfl ?_
 refine R_if rfl rfl (fun h=>absurd h (by simp)) (fun _=>?_) <;> refine R_run hg.ok 1000 rfl rfl ?_
 exact R_endS hg 2 5 (by show (2:Nat)≤2; omega) rfl rfl rfl

set_option maxRecDepth 100000 in
theorem wrLen_ok (Y:YP) (s:Nat) (x:AV) (bs:List UInt8) (hx:x=.lo 0 0∨x=.d (.v (.pointer none))):SCtr Tryd.prog Y 19 [.lo 0 0] [.tbox 49 [x,.ow 1 s],.byt 5 s bs] (iV bs.length) [.tbox 49 [x,.ow 1 s],.byt 5 s bs]:=by
 rcases hx with rfl | rfl
 ·refine SCtr.of_R (pf:=fun _=>.eff) tyOk mixed Tryd.func19 rfl (by kernel_rfl) (by kernel_rfl) (by simp [Tryd.ntmps19]) (by simp []) fun w S φ hg=>?_
  refine R_run hg.ok 1000 rfl rfl ?_
  refine R_loadT hg.ok 0 (by omega) rfl rfl rfl rfl rfl rfl rfl ?_
  refine R_run hg.ok 1000 rfl rfl ?_
  refine R_lenY hg.ok rfl rfl rfl rfl rfl rfl ?_
  refine R_run hg.ok 1000 rfl rfl ?_
  exact R_retS hg 2 5 (by show (2:Nat)≤2; omega) rfl rfl rfl
 ·refine SCtr.of_R (pf:=fun _=>.eff) tyOk mixed Tryd.func19 rfl (by kernel_rfl) (by kernel_rfl) (by simp [Tryd.ntmps19]) (by simp []) fun w S φ hg=>?_
  refine R_run hg.ok 1000 rfl rfl ?_
  refine R_loadT hg.ok 0 (by omega) rfl rfl rfl rfl rfl rfl rfl ?_
  refine R_run hg.ok 1000 rfl rfl ?_
  refine R_lenY hg.ok rfl rfl rfl rfl rfl rfl ?_
  refine R_run hg.ok 1000 rfl rfl ?_
  exact R_retS hg 2 5 (by show (2:Nat)≤2; omega) rfl rfl rfl

set_option maxRecDepth 100000 in
theorem wrWrite0_ok (Y:YP) (s s1:Nat) (bs:List UInt8) (t:ByteArray) (hs:s<s1) (hmax:bs.length+t.size≤140737488355328):SCtr Tryd.prog Y 40 [.lo 0 0,.d (.v (.string t))] [.tbox 49 [.d (.v (.pointer none)),.ow 1 s],.byt 5 s bs] (.tup [iV t.size,.d (.v .nilIface)]) [.tbox 49 [.lo 0 0,.ow 1 s1],.byt 5 s1 (bs++t.data.toList)]:=by
 obtain ⟨j,z,hj,hz,hjs,hjb,hjz⟩:=(tyOk 5 _ rfl).info
 have hz':j.zero=some (.int .u8 0):=by
  have h:(Tryd.prog.info? 5).bind (·.zero)=some (.int .u8 0):=by kernel_rfl
  rw [hj] at h; exact h
 refine SCtr.of_R (pf:=fun _=>.eff) tyOk mixed Tryd.func40 rfl (by kernel_rfl) (by kernel_rfl) (by simp [Tryd.ntmps40]) (by simp []) fun w S φ hg=>?_
 refine R_run hg.ok 1000 rfl rfl ?_
 refine R_callSO hg.ok hg.gup hg.wide hg.Y [0,1] [.tbox 49 [.lo 0 0,.ow 1 s],.byt 5 s bs] (wrCheck0_ok Y s bs) (fun _=>rfl) rfl rfl rfl rfl rfl rfl rfl rfl ?_
 refine R_run hg.ok 1000 rfl rfl ?_
 refine R_loadT hg.ok 0 (by omega) rfl rfl rfl rfl rfl rfl rfl ?_
 refine R_run hg.ok 1000 rfl rfl ?_
 refine R_appY hg.ok s1 rfl rfl rfl rfl rfl rfl Tryd.underlying9 hj hz' hjs hjb hs hmax ?_
 refine R_run hg.ok 1000 rfl rfl ?_
 refine R_storeT hg.ok rfl rfl rfl rfl rfl rfl rfl rfl (by show 0+1+1≤2; omega) ?_
 refine R_run hg.ok 1000 rfl rfl ?_
 exact R_retS hg 2 5 (by show (2:Nat)≤2; omega) rfl rfl rfl

set_option maxRecDepth 100000 in
theorem wrWrite1_ok (Y:YP) (s s1:Nat) (bs:List UInt8) (t:ByteArray) (hs:s<s1) (hmax:bs.length+t.size≤140737488355328):SCtr Tryd.prog Y 40 [.lo 0 0,.d (.v (.string t))] [.tbox 49 [.lo 0 0,.ow 1 s],.byt 5 s bs] (.tup [iV t.size,.d (.v .nilIface)]) [.tbox 49 [.lo 0 0,.ow 1 s1],.byt 5 s1 (bs++t.data.toList)]:=by
 obtain ⟨j,z,hj,hz,hjs,hjb,hjz⟩:=(tyOk 5 _ rfl).info
 have hz':j.zero=some (.int .u8 0):=by
  have h:(Tryd.prog.info? 5).bind (·.zero)=some (.int .u8 0):=by kernel_rfl
  rw [hj] at h; exact h
 refine SCtr.of_R (pf:=fun _=>.eff) tyOk mixed Tryd.func40 rfl (by kernel_rfl) (by kernel_rfl) (by simp [Tryd.ntmps40]) (by simp []) fun w S φ hg=>?_
 refine R_run hg.ok 1000 rfl rfl ?_
 refine R_callSO hg.ok hg.gup hg.wide hg.Y [0,1] [.tbox 49 [.lo 0 0,.ow 1 s],.byt 5 s bs] (wrCheck1_ok Y s bs) (fun _=>rfl) rfl rfl rfl rfl rfl rfl rfl rfl ?_
 refine R_run hg.ok 1000 rfl rfl ?_
 refine R_loadT hg.ok 0 (by omega) rfl rfl rfl rfl rfl rfl rfl ?_
 refine R_run hg.ok 1000 rfl rfl ?_
 refine R_appY hg.ok s1 rfl rfl rfl rfl rfl rfl Tryd.underlying9 hj hz' hjs hjb hs hmax ?_
 refine R_run hg.ok 1000 rfl rfl ?_
 refine R_storeT hg.ok rfl rfl rfl rfl rfl rfl rfl rfl (by show 0+1+1≤2; omega) ?_
 refine R_run hg.ok 1000 rfl rfl ?_
 exact R_retS hg 2 5 (by show (2:Nat)≤2; omega) rfl rfl rfl

set_option maxRecDepth 100000 in
theorem wrString_ok (Y:YP) (x:AV) (s:Nat) (bs:List UInt8) (hx:x=.lo 0 0∨x=.d (.v (.pointer none))) (h0:bs≠[]) (h63:bs.length≤9223372036854775807):SCtr Tryd.prog Y 20 [.lo 0 0] [.tbox 49 [x,.ow 1 s],.byt 5 s bs] (.d (.v (.string ⟨bs.toArray⟩))) [.tbox 49 [x,.ow 1 s],.dead]:=by
 have hc:Tryd.prog.cellsOf 5=1:=by kernel_rfl
 rcases hx with rfl | rfl
 all_goals
  refine SCtr.of_R (pf:=fun _=>.eff) tyOk mixed Tryd.func20 rfl (by kernel_rfl) (by kernel_rfl) (by simp [Tryd.ntmps20]) (by simp []) fun w S φ hg=>?_
  refine R_run hg.ok 1000 rfl rfl ?_
  refine R_loadT hg.ok 0 (by omega) rfl rfl rfl rfl rfl rfl rfl ?_
  refine R_run hg.ok 1000 rfl rfl ?_
  refine R_sdat hg.ok rfl rfl rfl rfl h0 ?_
  refine R_run hg.ok 1000 rfl rfl ?_
  refine R_loadT hg.ok 0 (by omega) rfl rfl rfl rfl rfl rfl rfl ?_
  refine R_run hg.ok 1000 rfl rfl ?_
  refine R_lenY hg.ok rfl rfl rfl rfl rfl rfl ?_
  refine R_run hg.ok 1000 rfl rfl ?_
  refine R_ustr hg.ok Tryd.underlying62 hc rfl rfl rfl rfl rfl rfl h0 h63 ?_
  refine R_run hg.ok 1000 rfl rfl ?_
  exact R_retS hg 2 5 (by show (2:Nat)≤2; omega) rfl rfl rfl
end Go.Proofs.YtchhahnajgfeaaaDoor

namespace Go.Proofs.YtchhahnajgfeaaaDoor
open Go PSL Go.Proofs

theorem ambTab {S:Nat→Prop} {w:World} (h:AmbOk Tryd.prog S w):Lib.TabIs Tryd.prog w "internal/strconv.uint64pow10" .u64 Lib.pow10Tab:=by
 have hn:∃ i,Tryd.prog.globalNamed "internal/strconv.uint64pow10" = some i:=Option.isSome_iff_exists.1 (by kernel_rfl)
 obtain ⟨i,hi⟩:=hn
 obtain ⟨_,o,ho,_,h1,_⟩:=h _ (.inl rfl) i hi
 obtain ⟨e,k,rfl⟩:=h1 rfl
 simp only [Lib.TabIs,World.var?,hi,Option.bind_some,ho]
 rfl

theorem ambMax {S:Nat→Prop} {w:World} (h:AmbOk Tryd.prog S w):∃ (i:Nat) (m:Int),Tryd.prog.globalNamed "internal/bytealg.MaxLen" = some i∧w.cell? ⟨i,0,none⟩=some (.int .i64 m):=by
 have hn:∃ i,Tryd.prog.globalNamed "internal/bytealg.MaxLen" = some i:=Option.isSome_iff_exists.1 (by kernel_rfl)
 obtain ⟨i,hi⟩:=hn
 obtain ⟨_,o,ho,_,_,h1⟩:=h _ (.inr rfl) i hi
 obtain ⟨m,e,k,rfl⟩:=h1 rfl
 exact ⟨i,m,hi,by simp [World.cell?,ho]⟩

theorem libv1 {S:Nat→Prop} {w:World} {x:Value} {vals:List Value} (h:RVs S w [] [.d (.v x)] vals):vals=[x]:=by
 match vals,h with
 | [v],h=>simp only [RVs,RV,and_true] at h; cases h; rfl
 | [],h=>simp [RVs] at h
 | _::_::_,h=>simp [RVs] at h

theorem itoa_ok (n:Int) (h0:-9223372036854775808≤n) (h1:n≤9223372036854775807):PCtr Tryd.prog 34 [iV n] (.d (.v (.string ⟨(Lib.itoa n).toArray⟩))):=by
 refine ⟨callable_of Tryd.func34 rfl (by kernel_rfl),fun S w vals ha hup hv=>?_⟩
 rw [libv1 hv]
 refine (Tryd.strconv_Itoa n h0 h1 w (ambTab ha)).mono ?_
 rintro e w' ⟨rfl,k,os,rfl⟩
 exact ⟨_,rfl,by simp only [RV]; exact .v _,⟨rfl,rfl,rfl,by show w.heap.size≤(w.heap++os).size; simp,fun b hb=>by show (w.heap++os)[b]? = _; exact Array.getElem?_append_left hb⟩⟩

theorem libv2 {S:Nat→Prop} {w:World} {x y:Value} {vals:List Value} (h:RVs S w [] [.d (.v x),.d (.v y)] vals):vals=[x,y]:=by
 match vals,h with
 | [v,u],h=>simp only [RVs,RV,and_true] at h; obtain ⟨h1,h2⟩:=h; cases h1; cases h2; rfl
 | [],h=>simp [RVs] at h
 | [_],h=>simp [RVs] at h
 | _::_::_::_,h=>simp [RVs] at h

theorem libv3 {S:Nat→Prop} {w:World} {x y z:Value} {vals:List Value} (h:RVs S w [] [.d (.v x),.d (.v y),.d (.v z)] vals):vals=[x,y,z]:=by
 match vals,h with
 | [v,u,t],h=>simp only [RVs,RV,and_true] at h; obtain ⟨h1,h2,h3⟩:=h; cases h1; cases h2; cases h3; rfl
 | [],h=>simp [RVs] at h
 | [_],h=>simp [RVs] at h
 | [_,_],h=>simp [RVs] at h
 | _::_::_::_::_,h=>simp [RVs] at h

theorem contains_ok (s t:ByteArray) (hs:s.size<4294967281):PCtr Tryd.prog 52 [.d (.v (.string s)),.d (.v (.string t))] (.d (.v (.bool (Lib.contains s.data.toList t.data.toList)))):=by
 refine ⟨callable_of Tryd.func52 rfl (by kernel_rfl),fun S w vals ha hup hv=>?_⟩
 rw [libv2 hv]
 obtain ⟨i,m,hi,hm⟩:=ambMax ha
 have h0:Tryd.prog.globalNamed "internal/bytealg.MaxLen" = some 0:=by kernel_rfl
 rw [h0] at hi; cases hi
 refine (Tryd.strings_Contains s t m w hs hm).mono ?_
 rintro e w' ⟨rfl,rfl⟩
 exact ⟨_,rfl,by simp only [RV]; exact .v _,.refl _ _⟩

theorem replaceAll_ok (s old new:ByteArray) (hs:s.size<4294967281) (h1:1≤old.size) (hlen:s.size+Lib.countB s old * new.size≤140737488355328):PCtr Tryd.prog 47 [.d (.v (.string s)),.d (.v (.string old)),.d (.v (.string new))] (.d (.v (.string ⟨(Lib.replaceAll s.data.toList old.data.toList new.data.toList).toArray⟩))):=by
 refine ⟨callable_of Tryd.func47 rfl (by kernel_rfl),fun S w vals ha hup hv=>?_⟩
 rw [libv3 hv]
 obtain ⟨i,m,hi,hm⟩:=ambMax ha
 have h0:Tryd.prog.globalNamed "internal/bytealg.MaxLen" = some 0:=by kernel_rfl
 rw [h0] at hi; cases hi
 refine (Tryd.strings_ReplaceAll s old new m w hs hm h1 hlen).mono ?_
 rintro e w' ⟨rfl,hb⟩
 exact ⟨_,rfl,by simp only [RV]; exact .v _,hb⟩

def txRows (l:List (List UInt8)):List (List D):=l.map fun x=>[.v (.string ⟨x.toArray⟩)]

theorem libvJ {S:Nat→Prop} {w:World} {rows:List (List D)} {y:Value} {vals:List Value} (h:RVs S w [] [.d (.sl rows),.d (.v y)] vals):∃ v,Rd S w (.sl rows) v∧vals=[v,y]:=by
 match vals,h with
 | [v,u],h=>simp only [RVs,RV,and_true] at h; obtain ⟨h1,h2⟩:=h; cases h2; exact ⟨v,h1,rfl⟩
 | [],h=>simp [RVs] at h
 | [_],h=>simp [RVs] at h
 | _::_::_::_,h=>simp [RVs] at h

theorem join_ok (l:List (List UInt8)) (sep:List UInt8) (hN:l.length≤140737488355328) (hlen:(Lib.join l sep).length≤140737488355328):PCtr Tryd.prog 29 [.d (.sl (txRows l)),.d (.v (.string ⟨sep.toArray⟩))] (.d (.v (.string ⟨(Lib.join l sep).toArray⟩))):=by
 refine ⟨callable_of Tryd.func29 rfl (by kernel_rfl),fun S w vals ha hup hv=>?_⟩
 obtain ⟨v,hrd,rfl⟩:=libvJ hv
 have hml:(l.map fun x=>(⟨x.toArray⟩:ByteArray)).map (·.data.toList)=l:=by simp [List.map_map,Function.comp_def]
 clear hv
 generalize hrows:txRows l=rows at hrd
 cases hrd with
 | nil a c =>
  have:l=[]:=by simpa [txRows] using hrows
  subst this
  refine (Tryd.strings_Join_none a c ⟨sep.toArray⟩ w).mono ?_
  rintro e w' ⟨rfl,rfl⟩
  exact ⟨_,rfl,by simp only [RV]; exact .v _,.refl _ _⟩
 | @sl _ b o cap sz cs T fr g hS hb hl hc hsz hg hr =>
  subst hrows
  have hll:(txRows l).length=(l.map fun x=>(⟨x.toArray⟩:ByteArray)).length:=by simp [txRows]
  have hcall:=Tryd.strings_Join b o cap (l.map fun x=>⟨x.toArray⟩) ⟨sep.toArray⟩ w (fun j x hx=>by
   rw [List.getElem?_map] at hx
   obtain ⟨y,hy,rfl⟩:=Option.map_eq_some_iff.1 hx
   have hrow:(txRows l)[j]? = some [.v (.string ⟨y.toArray⟩)]:=by simp [txRows,hy]
   have h1:=hsz j _ hrow
   simp only [List.length_cons,List.length_nil] at h1
   have h2:=hg j _ 0 _ hrow rfl
   have h3:=hr j _ 0 _ hrow rfl
   generalize hgg:g j 0=u at h2 h3
   cases h3
   subst h1
   simp only [Nat.mul_one,Nat.add_zero,Nat.zero_add] at h2
   simp [World.cell?,hb,h2]) (lt_of_some hb) (by simpa using hN) (by rw [← hll]; exact hl) (by rw [hml]; exact hlen)
  rw [hll]
  refine hcall.mono ?_
  rintro e w' ⟨rfl,hb⟩
  rw [hml]
  exact ⟨_,rfl,by simp only [RV]; exact .v _,hb⟩
end Go.Proofs.YtchhahnajgfeaaaDoor

namespace Go.Proofs.YtchhahnajgfeaaaDoor
open Go PSL Go.Proofs

def wrT (bs:Bs):List Ob:=wrO (!bs.isEmpty) bs

theorem wrT_map {f:AV→AV} (h0:f (.lo 0 0)=.lo 0 0) (h1:f (.d (.v (.pointer none)))=.d (.v (.pointer none))) (h2:∀ s,f (.ow 1 s)=.ow 1 s) (bs:Bs):(wrT bs).map (mapOb f)=wrT bs:=by
 cases bs <;> simp [wrT,wrO,mapOb,h0,h1,h2]
theorem wrT_seal (o:List Ob) (bs:Bs):(wrT bs).map (mapOb (sealT false 2 o 5))=wrT bs:=wrT_map rfl rfl (fun _=>rfl) bs

theorem wrT_ren (f:Nat→Nat) (h0:f 0=0) (h1:f 1=1) (bs:Bs):(wrT bs).map (renOb f)=wrT bs:=by
 cases bs <;> simp [wrT,wrO,renOb,renA,renL,h0,h1]

theorem wrT_cons {bs:Bs} (h:bs≠[]):wrT bs=[.tbox 49 [.lo 0 0,.ow 1 bs.length],.byt 5 bs.length bs]:=by
 cases bs with
 | nil=>exact absurd rfl h
 | cons c r=>rfl

theorem wrLenT_ok (Y:YP) (bs:Bs):SCtr Tryd.prog Y 19 [.lo 0 0] (wrT bs) (iV bs.length) (wrT bs):=by
 by_cases h:bs=[]
 ·subst h; exact wrLen_ok Y 0 _ [] (.inr rfl)
 ·rw [wrT_cons h]; exact wrLen_ok Y _ _ bs (.inl rfl)

theorem wrWriteT_ok (Y:YP) (bs s:Bs) (hs:s≠[]) (hmax:bs.length+s.length≤140737488355328):SCtr Tryd.prog Y 40 [.lo 0 0,.d (.v (.string (Tx s)))] (wrT bs) (.tup [iV s.length,.d (.v .nilIface)]) (wrT (bs++s)):=by
 have hsl:0<s.length:=by cases s with
  | nil=>exact absurd rfl hs
  | cons c r=>simp
 have hne:bs++s≠[]:=by simp [hs]
 rw [wrT_cons hne,List.length_append]
 have ht:(Tx s).data.toList=s:=by simp [Tx]
 have hz:((Tx s).size:Int)=s.length:=by rw [Tx_size]
 by_cases h:bs=[]
 ·subst h
  have:=wrWrite0_ok Y 0 (0+s.length) [] (Tx s) (by omega) (by rw [Tx_size]; simpa using hmax)
  rw [ht,hz] at this
  exact this
 ·rw [wrT_cons h]
  have:=wrWrite1_ok Y bs.length (bs.length+s.length) bs (Tx s) (by omega) (by rw [Tx_size]; exact hmax)
  rw [ht,hz] at this
  exact this

set_option maxRecDepth 100000 in
theorem wrPut_ok (Y:YP) (bs s:Bs) (hs:s≠[]) (hl:s.length≤1000000000):SCtr Tryd.prog Y 33 [.lo 0 0,.d (.v (.string (Tx s)))] (wrT bs) (.tup []) (wrT (wput bs s)):=by
 refine SCtr.of_R (pf:=fun _=>.eff) tyOk mixed Tryd.func33 rfl (by kernel_rfl) (by kernel_rfl) (by simp [Tryd.ntmps33]) (by simp [wrT,wrO]) fun w S φ hg=>?_
 refine R_run hg.ok 1000 rfl rfl ?_
 refine R_callSO hg.ok hg.gup hg.wide hg.Y [0,1] (wrT bs) (wrLenT_ok Y bs) (fun _=>rfl) rfl rfl rfl rfl rfl (by rw [wrT_ren _ rfl rfl]; rfl) rfl (by rw [wrT_ren _ rfl rfl]; rfl) ?_
 refine R_run hg.ok 1000 rfl rfl ?_
 refine R_if rfl rfl (fun h=>?_) (fun h=>?_) <;> refine R_run hg.ok 1000 rfl rfl ?_
 ·have hle:bs.length≤8000:=by have:=of_decide_eq_true h; omega
  rw [show wput bs s=bs++s by unfold wput; rw [if_pos hle]]
  refine R_callSO hg.ok hg.gup hg.wide hg.Y [0,1] (wrT (bs++s)) (wrWriteT_ok Y bs s hs (by omega)) (fun _=>rfl) rfl rfl rfl rfl rfl (by rw [wrT_ren _ rfl rfl]; rfl) rfl (by rw [wrT_ren _ rfl rfl]; rfl) ?_
  refine R_run hg.ok 1000 rfl rfl ?_
  exact R_endS hg 2 5 (by show (2:Nat)≤2; omega) rfl rfl (wrT_seal _ _)
 ·have hle:¬ bs.length≤8000:=by have:=of_decide_eq_false h; omega
  rw [show wput bs s=bs by unfold wput; rw [if_neg hle]]
  exact R_endS hg 2 5 (by show (2:Nat)≤2; omega) rfl rfl (wrT_seal _ _)
end Go.Proofs.YtchhahnajgfeaaaDoor

namespace PSL
open Go

theorem index39 (s:Bs):(39 ∉ s∧Lib.index s [39]=-1)∨∃ a r,s=a++39::r∧39 ∉ a∧Lib.index s [39]=a.length:=by
 induction s with
 | nil=>left; exact ⟨by simp,rfl⟩
 | cons b l ih =>
  by_cases hb:b=39
  ·subst hb
   exact .inr ⟨[],l,rfl,by simp,by simp [Lib.index,List.isPrefixOf]⟩
  ·have hp:([39]:Bs).isPrefixOf (b::l)=false:=by simp [List.isPrefixOf] <;> exact fun e=>hb e.symm
   rcases ih with ⟨h1,h2⟩ | ⟨a,r,h1,h2,h3⟩
   ·exact .inl ⟨fun hm=>(List.mem_cons.1 hm).elim (fun e=>hb e.symm) h1,by simp [Lib.index,hp,h2]⟩
   ·refine .inr ⟨b::a,r,by rw [h1]; rfl,by simp [h2] <;> exact fun e=>hb e.symm,?_⟩
    have:¬ ((a.length:Int) == -1)=true:=by simp <;> omega
    simp only [Lib.index,hp,h3,Bool.false_eq_true,if_false,this,List.length_cons]
    omega
theorem dblB_app (a b:Bs):dblB (a++b)=dblB a++dblB b:=by simp [dblB]

theorem dblB_no {a:Bs} (h:39 ∉ a):dblB a=a:=by
 induction a with
 | nil=>rfl
 | cons c r ih =>
  simp only [List.mem_cons,not_or] at h
  have h1:¬ c=39:=fun e=>h.1 e.symm
  simp only [dblB,List.flatMap_cons] at ih ⊢
  rw [ih h.2,if_neg h1]; rfl

theorem replaceK39:∀ (n:Nat) (s:Bs) (f:Nat),s.length≤n→s.length<f→Lib.replaceK [39] [39,39] (Lib.countFrom [39] f s) s=dblB s:=by
 intro n
 induction n with
 | zero =>
  intro s f h hf
  have:s=[]:=List.eq_nil_of_length_eq_zero (by omega)
  subst this
  cases f with
  | zero=>simp at hf
  | succ f=>rfl
 | succ n ih =>
  intro s f h hf
  cases f with
  | zero=>omega
  | succ f =>
   rcases index39 s with ⟨h1,h2⟩ | ⟨a,r,h1,h2,h3⟩
   ·rw [Lib.countFrom,h2,dblB_no h1]; rfl
   ·have hne:¬ (Lib.index s [39] == -1)=true:=by rw [h3]; simp <;> omega
    have hl:s.length=a.length+(r.length+1):=by rw [h1]; simp
    rw [Lib.countFrom,if_neg hne,Nat.add_comm 1,Lib.replaceK_hit _ _ _ s a.length h3,h3]
    have hd:s.drop (a.length+([39]:Bs).length)=r:=by
     rw [h1]; simp [List.drop_append,List.drop_eq_nil_of_le]
    have ht:s.take a.length=a:=by rw [h1]; simp
    simp only [Int.toNat_natCast]
    rw [hd,ht,ih r f (by omega) (by omega),h1,dblB_app,dblB_no h2]
    simp [dblB]

theorem countFrom_le:∀ (f:Nat) (s:Bs),Lib.countFrom [39] f s≤f:=by
 intro f
 induction f with
 | zero=>intro s; simp [Lib.countFrom]
 | succ f ih =>
  intro s
  rw [Lib.countFrom]
  split
  ·omega
  ·have:=ih (s.drop ((Lib.index s [39]).toNat+([39]:Bs).length)); omega

theorem replaceAll39 (s:Bs):Lib.replaceAll s [39] [39,39]=dblB s:=by
 rw [Lib.replaceAll,Lib.replace,if_neg (by decide),Lib.replaceNum,if_pos (.inl (by decide)),Lib.count]
 exact replaceK39 s.length s _ (Nat.le_refl _) (by omega)
theorem count39 (s:Bs):Lib.count s [39]≤s.length+1:=countFrom_le _ _
end PSL

namespace Go.Proofs.YtchhahnajgfeaaaDoor
open Go PSL Go.Proofs

set_option maxRecDepth 100000 in
theorem wrWord_ok (L:Bs) (hL:∀ c∈L,c.toNat<128):PCtr Tryd.prog 45 [txA L] (bV (wordB L)):=by
 refine PCtr.of_R (pf:=fun _=>.eff) tyOk mixed Tryd.func45 rfl (by kernel_rfl) (by kernel_rfl) (by simp [Tryd.ntmps45]) fun w S hg=>?_
 refine R_run hg.ok 1000 rfl rfl ?_
 refine R_rangeS hg.ok rfl rfl rfl rfl ?_
 refine R_run hg.ok 1000 rfl rfl ?_
 refine R_loop (fun k:Nat=>([(0,txA L),(8,.lo 0 0)],[.itr (Tx L) k])) (fun k=>k≤L.length∧wordB L=wlB L k) (fun k=>L.length - k) 0 ⟨Nat.zero_le _,rfl⟩ ⟨.refl _,.refl _,trivial⟩ rfl ?_
 rintro k ⟨hk,hm⟩
 refine R_run hg.ok 1000 rfl rfl ?_
 by_cases hk1:k<L.length
 ·have e1:L[k]? = some L[k]:=List.getElem?_eq_getElem hk1
  have ha:L[k].toNat<128:=hL _ (List.getElem_mem hk1)
  refine R_nextS hg.ok rfl rfl rfl rfl (by rw [Tx_size]; exact hk1) (decode_ascii e1 ha) ?_
  generalize L[k]=c at e1 ha
  refine R_run hg.ok 1000 rfl rfl ?_
  repeat' (refine R_if rfl rfl (fun h=>?_) (fun h=>?_) <;> (first | have h:=of_decide_eq_true h | have h:=of_decide_eq_false h | (simp at h; done) | simp at h | skip) <;> refine R_run hg.ok 1000 rfl rfl ?_)
  all_goals first
   | (refine R_ret hg 5 rfl rfl ?_; exact bvF (wl_no e1 hm (by intro hk0; omega) (by intro hk0; omega)))
   | exact R_next (k+1) ⟨hk1,wl_next e1 hm (by intro hk0; omega) (by intro hk0; omega)⟩ (by omega) ⟨.refl _,.refl _,trivial⟩ rfl
 ·refine R_nextE hg.ok rfl rfl rfl rfl (by rw [Tx_size]; omega) ?_
  refine R_run hg.ok 1000 rfl rfl ?_
  refine R_ret hg 5 rfl rfl ?_
  rw [wl_end (by omega) hm]
  exact bvEq (by rw [show ({ data:=#[] }:ByteArray)=Tx [] from rfl,Tx_eq])

theorem sgW_contains (c:UInt8) (hc:c.toNat<128):Lib.contains sgW (Utf8.encode (c.toNat:Int)).data.toList=sgWC c:=by
 have h:=byte_all (p:=fun c=>!decide (c.toNat<128) || (Lib.contains sgW (Utf8.encode (c.toNat:Int)).data.toList==sgWC c)) (by decide +kernel) c
 simpa [hc] using h

set_option maxRecDepth 100000 in
theorem wrSign_ok (L:Bs) (hL:∀ c∈L,c.toNat<128):PCtr Tryd.prog 46 [txA L] (bV (signB L)):=by
 refine PCtr.of_R (pf:=fun _=>.eff) tyOk mixed Tryd.func46 rfl (by kernel_rfl) (by kernel_rfl) (by simp [Tryd.ntmps46]) fun w S hg=>?_
 refine R_run hg.ok 1000 rfl rfl ?_
 refine R_rangeS hg.ok rfl rfl rfl rfl ?_
 refine R_run hg.ok 1000 rfl rfl ?_
 refine R_loop (fun k:Nat=>([(0,txA L),(6,.lo 0 0)],[.itr (Tx L) k])) (fun k=>k≤L.length∧L.all sgWC=(L.drop k).all sgWC) (fun k=>L.length - k) 0 ⟨Nat.zero_le _,rfl⟩ ⟨.refl _,.refl _,trivial⟩ rfl ?_
 rintro k ⟨hk,hm⟩
 refine R_run hg.ok 1000 rfl rfl ?_
 by_cases hk1:k<L.length
 ·have e1:L[k]? = some L[k]:=List.getElem?_eq_getElem hk1
  have ha:L[k].toNat<128:=hL _ (List.getElem_mem hk1)
  rw [List.drop_eq_getElem_cons hk1,List.all_cons] at hm
  refine R_nextS hg.ok rfl rfl rfl rfl (by rw [Tx_size]; exact hk1) (decode_ascii e1 ha) ?_
  generalize L[k]=c at e1 ha hm
  refine R_run hg.ok 1000 rfl rfl ?_
  refine R_convB hg.ok (Utf8.encode (c.toNat:Int)) rfl rfl rfl rfl rfl rfl ?_
  refine R_run hg.ok 1000 rfl rfl ?_
  refine R_call hg.ok (contains_ok (Tx sgW) (Utf8.encode (c.toNat:Int)) (by decide)) rfl rfl rfl rfl rfl rfl ?_
  refine R_run hg.ok 1000 rfl rfl ?_
  rw [show (Tx sgW).data.toList=sgW from rfl,sgW_contains c ha]
  refine R_if rfl rfl (fun h=>?_) (fun h=>?_) <;> refine R_run hg.ok 1000 rfl rfl ?_
  ·refine R_ret hg 5 rfl rfl ?_
   have h:sgWC c=false:=by simpa using h
   exact bvF (by rw [signB,hm,h]; simp)
  ·have h:sgWC c=true:=by simpa using h
   exact R_next (k+1) ⟨hk1,by rw [hm,h,Bool.true_and]⟩ (by omega) ⟨.refl _,.refl _,trivial⟩ rfl
 ·refine R_nextE hg.ok rfl rfl rfl rfl (by rw [Tx_size]; omega) ?_
  refine R_run hg.ok 1000 rfl rfl ?_
  refine R_ret hg 5 rfl rfl ?_
  rw [List.drop_eq_nil_of_le (by omega)] at hm
  exact bvEq (by rw [show ({ data:=#[] }:ByteArray)=Tx [] from rfl,Tx_eq,signB,hm]; cases L <;> rfl)

set_option maxRecDepth 100000 in
theorem wrName_ok (L:Bs) (hL:∀ c∈L,c.toNat<128) (hl:L.length≤1000000):PCtr Tryd.prog 37 [txA L] (txA (nameB L)):=by
 refine PCtr.of_R (pf:=fun _=>.still) tyOk mixed Tryd.func37 rfl (by kernel_rfl) (by kernel_rfl) (by simp [Tryd.ntmps37]) fun w S hg=>?_
 refine R_run hg.ok 1000 rfl rfl ?_
 refine R_call hg.ok (wrWord_ok L hL) rfl rfl rfl rfl rfl rfl ?_
 refine R_run hg.ok 1000 rfl rfl ?_
 have e1:strEq (Tx L) ⟨#[33]⟩=(L==[33]):=Tx_eq L [33]
 have e2:strEq (Tx L) ⟨#[59]⟩=(L==[59]):=Tx_eq L [59]
 have e3:strEq (Tx L) ⟨#[91,93]⟩=(L==[91,93]):=Tx_eq L [91,93]
 refine R_if rfl rfl (fun h=>?_) (fun h=>?_) <;> refine R_run hg.ok 1000 rfl rfl ?_
 ·refine R_ret hg 5 rfl rfl ?_
  rw [nameB,if_pos (by simp [plainB,h])]; rfl
 refine R_call hg.ok (wrSign_ok L hL) rfl rfl rfl rfl rfl rfl ?_
 refine R_run hg.ok 1000 rfl rfl ?_
 refine R_if rfl rfl (fun h2=>?_) (fun h2=>?_) <;> refine R_run hg.ok 1000 rfl rfl ?_
 ·refine R_ret hg 5 rfl rfl ?_
  rw [nameB,if_pos (by simp [plainB,h2])]; rfl
 refine R_if rfl rfl (fun h3=>?_) (fun h3=>?_) <;> refine R_run hg.ok 1000 rfl rfl ?_
 ·refine R_ret hg 5 rfl rfl ?_
  rw [e1] at h3
  rw [nameB,if_pos (by simp [plainB,h3])]; rfl
 refine R_if rfl rfl (fun h4=>?_) (fun h4=>?_) <;> refine R_run hg.ok 1000 rfl rfl ?_
 ·refine R_ret hg 5 rfl rfl ?_
  rw [e2] at h4
  rw [nameB,if_pos (by simp [plainB,h4])]; rfl
 refine R_if rfl rfl (fun h5=>?_) (fun h5=>?_) <;> refine R_run hg.ok 1000 rfl rfl ?_
 ·refine R_ret hg 5 rfl rfl ?_
  rw [e3] at h5
  rw [nameB,if_pos (by simp [plainB,h5])]; rfl
 rw [e1] at h3
 rw [e2] at h4
 rw [e3] at h5
 have hcnt:=count39 L
 refine R_call hg.ok (replaceAll_ok (Tx L) (Tx [39]) (Tx [39,39]) (by rw [Tx_size]; omega) (by decide) (by rw [Tx_size]; show L.length+Lib.count (Tx L).data.toList [39] * 2≤_; rw [show (Tx L).data.toList=L by simp [Tx]]; omega)) rfl rfl rfl rfl rfl rfl ?_
 refine R_run hg.ok 1000 rfl rfl ?_
 rw [show (Tx L).data.toList=L by simp [Tx],show (Tx [39]).data.toList=[39] from rfl,show (Tx [39,39]).data.toList=[39,39] from rfl,replaceAll39]
 have hdl:=dblB_len L
 refine R_concat hg.ok (Tx (39::dblB L)) rfl rfl rfl rfl (by rw [show (⟨(dblB L).toArray⟩:ByteArray)=Tx (dblB L) from rfl,Tx_size]; show 1+_≤_; omega) (Tx_app [39] (dblB L)) ?_
 refine R_run hg.ok 1000 rfl rfl ?_
 refine R_concat hg.ok (Tx (39::(dblB L++[39]))) rfl rfl rfl rfl (by rw [Tx_size]; show _+1≤_; simp only [List.length_cons]; omega) ((Tx_app (39::dblB L) [39]).trans (by rw [List.cons_append])) ?_
 refine R_run hg.ok 1000 rfl rfl ?_
 refine R_ret hg 5 rfl rfl ?_
 rw [nameB,if_neg (by simp [plainB,h,h2,h3,h4,h5])]; rfl
end Go.Proofs.YtchhahnajgfeaaaDoor

namespace Go.Proofs.YtchhahnajgfeaaaDoor
open Go PSL Go.Proofs

set_option maxRecDepth 100000 in
theorem wrCell_ok (t:Tm):PCtr Tryd.prog 35 [t.av] (bV (cellT t)):=by
 have e1:strEq t.s ⟨#[46]⟩=(t.s.data.toList==[46]):=by
  have:=Tx_eq t.s.data.toList [46]
  rw [Tx_data] at this; exact this
 have hrl:=Tm.rows_length t.l
 refine PCtr.of_R (pf:=fun _=>.still) tyOk mixed Tryd.func35 rfl (by kernel_rfl) (by kernel_rfl) (by simp [Tryd.ntmps35]) fun w S hg=>?_
 refine R_run hg.ok 1000 rfl rfl ?_
 refine R_if rfl rfl (fun h=>?_) (fun h=>?_) <;> refine R_run hg.ok 1000 rfl rfl ?_
 ·have h:=of_decide_eq_true h
  refine R_if rfl rfl (fun h2=>?_) (fun h2=>?_) <;> refine R_run hg.ok 1000 rfl rfl ?_
  ·refine R_ret hg 5 rfl rfl ?_
   rw [e1] at h2
   have hk:decide (t.k=3)=true:=decide_eq_true h
   exact bvEq (by rw [cellT,cellK,hk,h2,Bool.true_and,Bool.true_and,hrl]; by_cases h9:t.l.length=2 <;> simp [h9] <;> omega)
  ·refine R_ret hg 5 rfl rfl ?_
   rw [e1] at h2
   exact bvF (by rw [cellT,cellK,h2,Bool.and_false,Bool.false_and])
 ·have h:=of_decide_eq_false h
  refine R_ret hg 5 rfl rfl ?_
  exact bvF (by rw [cellT,cellK,decide_eq_false h,Bool.false_and,Bool.false_and])
def wbx (t:Tm):Ob:=.box [iV t.k,.d (.v (.string t.s)),iV t.n,.d (.sl (Tm.rows t.l))]
def WrT (t:Tm):Prop:=∀ (Y:YP) (bs:Bs),SCtr Tryd.prog Y 18 [.lo 0 0,t.av] (wrT bs) (.tup []) (wrT (wputs bs (pcs t)))
def WrL (t:Tm):Prop:=∀ (Y:YP) (bs:Bs),SCtr Tryd.prog Y 36 [.lo 0 0,t.av] (wrT bs) (.tup []) (wrT (wputs bs (pcs t)))

theorem wrT_trim3 (b:Bs) (x y:Tm):((wrT b++[wbx x,wbx y]).take 3).map (mapOb (trimA 3))=wrT b++[wbx x]:=by
 cases b <;> rfl

set_option maxRecDepth 100000 in
theorem wrTermStep (t:Tm) (ho:OkW t) (hlist:cellT t=true→WrL t) (hsub:∀ x∈t.l,WrT x):WrT t:=by
 intro Y bs
 obtain ⟨ha,hl,h0,h1,hn0,_⟩:=ho
 have hrl:=Tm.rows_length t.l
 have hi:=itoa_len t.n h0 h1
 refine SCtr.of_R (pf:=fun _=>.eff) tyOk mixed Tryd.func18 rfl (by kernel_rfl) (by kernel_rfl) (by simp [Tryd.ntmps18]) (by simp [wrT,wrO]) fun w S φ hg=>?_
 refine R_run hg.ok 1000 rfl rfl ?_
 refine R_if rfl rfl (fun h=>?_) (fun h=>?_) <;> refine R_run hg.ok 1000 rfl rfl ?_
 ·have h:=of_decide_eq_true h
  have hc:cellT t=false:=by rw [cellT,cellK,h]; rfl
  rw [pcs_atom hc,atomP,if_pos h,wputs_cons,wputs_nil]
  refine R_call hg.ok (itoa_ok t.n h0 h1) rfl rfl rfl rfl rfl rfl ?_
  refine R_run hg.ok 1000 rfl rfl ?_
  refine R_concat hg.ok (Tx (95::Lib.itoa t.n)) rfl rfl rfl rfl (by rw [show (⟨(Lib.itoa t.n).toArray⟩:ByteArray)=Tx (Lib.itoa t.n) from rfl,Tx_size]; show 1+_≤_; omega) (Tx_app [95] (Lib.itoa t.n)) ?_
  refine R_run hg.ok 1000 rfl rfl ?_
  refine R_callSO hg.ok hg.gup hg.wide hg.Y [0,1] (wrT (wput bs (95::Lib.itoa t.n))++[wbx t]) (wrPut_ok Y bs _ (by simp) (by simp only [List.length_cons]; omega)) (fun _=>rfl) rfl rfl rfl rfl rfl (by rw [wrT_ren _ rfl rfl]; rfl) rfl (by rw [wrT_ren _ rfl rfl]; rfl) ?_
  refine R_run hg.ok 1000 rfl rfl ?_
  exact R_endS hg 2 5 (by show (2:Nat)≤2; omega) rfl rfl (wrT_seal _ _)
 have h:=of_decide_eq_false h
 refine R_if rfl rfl (fun h2=>?_) (fun h2=>?_) <;> refine R_run hg.ok 1000 rfl rfl ?_
 ·have h2:=of_decide_eq_true h2
  have hc:cellT t=false:=by rw [cellT,cellK,h2]; rfl
  rw [pcs_atom hc,atomP,if_neg h,if_pos h2,wputs_cons,wputs_nil]
  refine R_call hg.ok (itoa_ok t.n h0 h1) rfl rfl rfl rfl rfl rfl ?_
  refine R_run hg.ok 1000 rfl rfl ?_
  refine R_callSO hg.ok hg.gup hg.wide hg.Y [0,1] (wrT (wput bs (Lib.itoa t.n))++[wbx t]) (wrPut_ok Y bs _ hi.2 (by omega)) (fun _=>rfl) rfl rfl rfl rfl rfl (by rw [wrT_ren _ rfl rfl]; rfl) rfl (by rw [wrT_ren _ rfl rfl]; rfl) ?_
  refine R_run hg.ok 1000 rfl rfl ?_
  exact R_endS hg 2 5 (by show (2:Nat)≤2; omega) rfl rfl (wrT_seal _ _)
 have h2:=of_decide_eq_false h2
 refine R_call hg.ok (wrCell_ok t) rfl rfl rfl rfl rfl rfl ?_
 refine R_run hg.ok 1000 rfl rfl ?_
 refine R_if rfl rfl (fun h3=>?_) (fun h3=>?_) <;> refine R_run hg.ok 1000 rfl rfl ?_
 ·refine R_callSO hg.ok hg.gup hg.wide hg.Y [0,1] (wrT (wputs bs (pcs t))++[wbx t]) (hlist h3 Y bs) (fun _=>rfl) rfl rfl rfl rfl rfl (by rw [wrT_ren _ rfl rfl]; rfl) rfl (by rw [wrT_ren _ rfl rfl]; rfl) ?_
  refine R_run hg.ok 1000 rfl rfl ?_
  exact R_endS hg 2 5 (by show (2:Nat)≤2; omega) rfl rfl (wrT_seal _ _)
 rw [pcs_atom h3,atomP,if_neg h,if_neg h2,wputs_cons]
 have hn:=wrName_ok t.s.data.toList ha (by omega)
 rw [show txA t.s.data.toList=.d (.v (.string t.s)) by rw [txA,Tx_data]] at hn
 have hnl:=nameB_len t.s.data.toList
 refine R_call hg.ok (hn) rfl rfl rfl rfl rfl rfl ?_
 refine R_run hg.ok 1000 rfl rfl ?_
 generalize hb1:wput bs (nameB t.s.data.toList)=b1
 refine R_callSO hg.ok hg.gup hg.wide hg.Y [0,1] (wrT b1++[wbx t]) (hb1 ▸ wrPut_ok Y bs _ (nameB_ne _) (by omega)) (fun _=>rfl) rfl rfl rfl rfl rfl (by rw [wrT_ren _ rfl rfl]; rfl) rfl (by rw [wrT_ren _ rfl rfl]; rfl) ?_
 refine R_run hg.ok 1000 rfl rfl ?_
 refine R_loop (fun q:Nat × Bs=>([(0,.lo 0 0),(3,.lo 2 0),(12,.d (.sl (Tm.rows t.l))),(13,iV t.l.length),(14,iV q.1)],wrT q.2++[wbx t])) (fun q=>q.1≤t.l.length∧wputs q.2 (pcsArgs (q.1==0) (t.l.drop q.1))=wputs b1 (pcsArgs true t.l)) (fun q=>t.l.length - q.1) (0,b1) ⟨Nat.zero_le _,rfl⟩ ⟨.refl _,.refl _,.refl _,by rw [hrl]; exact .refl _,.refl _,trivial⟩ rfl ?_
 rintro ⟨k,b⟩ ⟨hk,hm⟩
 simp only at hk hm
 refine R_run hg.ok 1000 rfl rfl ?_
 refine R_if rfl rfl (fun h=>?_) (fun h=>?_) <;> refine R_run hg.ok 1000 rfl rfl ?_
 ·have hk1:k<t.l.length:=lt_dec h rfl
  have e1:t.l[k]? = some t.l[k]:=List.getElem?_eq_getElem hk1
  refine R_index hg.ok rfl rfl rfl rfl rfl rfl (Int.natCast_nonneg _) (Tm.rows_get e1) rfl ?_
  refine R_run hg.ok 1000 rfl rfl ?_
  refine R_min hg.ok rfl rfl rfl rfl ?_
  have hmin:min (k:Int) 1=((if k=0 then 0 else 1:Nat):Int):=by split <;> omega
  rw [hmin]
  refine R_run hg.ok 1000 rfl rfl ?_
  have hpick:([[D.v (.string ⟨#[40]⟩)],[D.v (.string ⟨#[44]⟩)]]:List (List D))[if k=0 then 0 else 1]? = some [D.v (.string (Tx (if k==0 then [40] else [44])))]:=by
   by_cases h0:k=0 <;> simp [h0] <;> rfl
  refine R_index hg.ok rfl rfl rfl rfl rfl rfl (Int.natCast_nonneg _) hpick rfl ?_
  refine R_run hg.ok 1000 rfl rfl ?_
  have hp0:(if k==0 then [40] else [44]:Bs)≠[]:=by split <;> simp
  have hp1:(if k==0 then [40] else [44]:Bs).length≤1000000000:=by split <;> simp
  rw [wputs_args b _ e1,wputs_cons,wputs_app] at hm
  refine R_callSO hg.ok hg.gup hg.wide hg.Y [0,1] (wrT (wput b (if k==0 then [40] else [44]))++[wbx t,wbx t.l[k]]) (wrPut_ok Y b _ hp0 hp1) (fun _=>rfl) rfl rfl rfl rfl rfl (by rw [wrT_ren _ rfl rfl]; rfl) rfl (by rw [wrT_ren _ rfl rfl]; rfl) ?_
  refine R_run hg.ok 1000 rfl rfl ?_
  refine R_callSO hg.ok hg.gup hg.wide hg.Y [0,1] (wrT (wputs (wput b (if k==0 then [40] else [44])) (pcs t.l[k]))++[wbx t,wbx t.l[k]]) (hsub _ (List.getElem_mem hk1) Y _) (fun _=>rfl) rfl rfl rfl rfl rfl (by rw [wrT_ren _ rfl rfl]; rfl) rfl (by rw [wrT_ren _ rfl rfl]; rfl) ?_
  refine R_run hg.ok 1000 rfl rfl ?_
  refine R_dropO 3 (wrT (wputs (wput b (if k==0 then [40] else [44])) (pcs t.l[k]))++[wbx t]) (by show φ.length≤3; exact Nat.le_succ_of_le (Nat.le_of_eq hg.hs0.len)) rfl (wrT_trim3 _ t t.l[k]) ?_
  refine R_next (k+1,wputs (wput b (if k==0 then [40] else [44])) (pcs t.l[k])) ⟨hk1,?_⟩ (by show t.l.length - (k+1)<t.l.length - k; omega) ⟨.refl _,.refl _,.refl _,.refl _,Ent.wrap (by omega) (by omega) (by omega),trivial⟩ rfl
  rw [← hm]; rfl
 have hk2:t.l.length≤k:=ge_dec h rfl
 rw [List.drop_eq_nil_of_le hk2,pcsArgs,wputs_nil] at hm
 rw [wputs_app,← hm]
 refine R_if rfl rfl (fun h5=>?_) (fun h5=>?_) <;> refine R_run hg.ok 1000 rfl rfl ?_
 ·have h5:=of_decide_eq_true h5
  have he:t.l.isEmpty=false:=by cases hc:t.l with
   | nil=>rw [hrl,hc] at h5; simp at h5
   | cons c r=>rfl
  rw [he]
  refine R_callSO hg.ok hg.gup hg.wide hg.Y [0,1] (wrT (wput b [41])++[wbx t]) (wrPut_ok Y b [41] (by simp) (by simp)) (fun _=>rfl) rfl rfl rfl rfl rfl (by rw [wrT_ren _ rfl rfl]; rfl) rfl (by rw [wrT_ren _ rfl rfl]; rfl) ?_
  refine R_run hg.ok 1000 rfl rfl ?_
  exact R_endS hg 2 5 (by show (2:Nat)≤2; omega) rfl rfl (wrT_seal _ _)
 ·have h5:=of_decide_eq_false h5
  have he:t.l.isEmpty=true:=by cases hc:t.l with
   | nil=>rfl
   | cons c r=>rw [hrl,hc] at h5; simp at h5 <;> omega
  rw [he]
  exact R_endS hg 2 5 (by show (2:Nat)≤2; omega) rfl rfl (wrT_seal _ _)

set_option maxRecDepth 100000 in
theorem wrListStep (t:Tm) (ho:OkW t) (hc:cellT t=true) (hsub:∀ x,OkW x→x.size<t.size→WrT x):WrL t:=by
 intro Y bs
 obtain ⟨a,b,hl⟩:=cellT_l hc
 have hoa:∀ x∈t.l,OkW x:=by cases ho; assumption
 have hsz:∀ x∈t.l,x.size<t.size:=fun x hx=>by have:=Tm.size_mem hx; rw [Tm.size_eq t]; omega
 rw [pcs_cell hc hl,wputs_cons,wputs_app]
 have e0:t.l[0]? = some a:=by rw [hl]; rfl
 have e1:t.l[1]? = some b:=by rw [hl]; rfl
 have ma:a∈t.l:=by rw [hl]; simp
 have mb:b∈t.l:=by rw [hl]; simp
 refine SCtr.of_R (pf:=fun _=>.eff) tyOk mixed Tryd.func36 rfl (by kernel_rfl) (by kernel_rfl) (by simp [Tryd.ntmps36]) (by simp [wrT,wrO]) fun w S φ hg=>?_
 refine R_run hg.ok 1000 rfl rfl ?_
 refine R_callSO hg.ok hg.gup hg.wide hg.Y [0,1] (wrT (wput bs [91])++[wbx t]) (wrPut_ok Y bs [91] (by simp) (by simp)) (fun _=>rfl) rfl rfl rfl rfl rfl (by rw [wrT_ren _ rfl rfl]; rfl) rfl (by rw [wrT_ren _ rfl rfl]; rfl) ?_
 refine R_run hg.ok 1000 rfl rfl ?_
 refine R_index hg.ok rfl rfl rfl rfl rfl rfl (Int.le_refl _) (Tm.rows_get e0) rfl ?_
 refine R_run hg.ok 1000 rfl rfl ?_
 refine R_callSO hg.ok hg.gup hg.wide hg.Y [0,1] (wrT (wputs (wput bs [91]) (pcs a))++[wbx t]) (hsub a (hoa a ma) (hsz a ma) Y _) (fun _=>rfl) rfl rfl rfl rfl rfl (by rw [wrT_ren _ rfl rfl]; rfl) rfl (by rw [wrT_ren _ rfl rfl]; rfl) ?_
 refine R_run hg.ok 1000 rfl rfl ?_
 refine R_index hg.ok rfl rfl rfl rfl rfl rfl (by decide) (Tm.rows_get e1) rfl ?_
 refine R_run hg.ok 1000 rfl rfl ?_
 generalize hb1:wputs (wput bs [91]) (pcs a)=b1
 refine R_loop (fun q:Tm × Bs=>([(0,.lo 0 0),(3,.lo 2 0)],wrT q.2++[wbx q.1])) (fun q=>OkW q.1∧q.1.size<t.size∧wputs q.2 (pcsTl q.1)=wputs b1 (pcsTl b)) (fun q=>q.1.size) (b,b1) ⟨hoa b mb,hsz b mb,rfl⟩ ⟨.refl _,.refl _,trivial⟩ rfl ?_
 rintro ⟨x,c⟩ ⟨ho1,hs1,hm⟩
 simp only at ho1 hs1 hm
 refine R_run hg.ok 1000 rfl rfl ?_
 refine R_call hg.ok (wrCell_ok x) rfl rfl rfl rfl rfl rfl ?_
 refine R_run hg.ok 1000 rfl rfl ?_
 refine R_if rfl rfl (fun h=>?_) (fun h=>?_) <;> refine R_run hg.ok 1000 rfl rfl ?_
 ·obtain ⟨a2,b2,hl2⟩:=cellT_l h
  have f0:x.l[0]? = some a2:=by rw [hl2]; rfl
  have f1:x.l[1]? = some b2:=by rw [hl2]; rfl
  have ma2:a2∈x.l:=by rw [hl2]; simp
  have mb2:b2∈x.l:=by rw [hl2]; simp
  have hoa2:∀ y∈x.l,OkW y:=by cases ho1; assumption
  have hsz2:∀ y∈x.l,y.size<x.size:=fun y hy=>by have:=Tm.size_mem hy; rw [Tm.size_eq x]; omega
  rw [pcsTl_cell h hl2,wputs_cons,wputs_app] at hm
  refine R_callSO hg.ok hg.gup hg.wide hg.Y [0,1] (wrT (wput c [44])++[wbx x]) (wrPut_ok Y c [44] (by simp) (by simp)) (fun _=>rfl) rfl rfl rfl rfl rfl (by rw [wrT_ren _ rfl rfl]; rfl) rfl (by rw [wrT_ren _ rfl rfl]; rfl) ?_
  refine R_run hg.ok 1000 rfl rfl ?_
  refine R_index hg.ok rfl rfl rfl rfl rfl rfl (Int.le_refl _) (Tm.rows_get f0) rfl ?_
  refine R_run hg.ok 1000 rfl rfl ?_
  refine R_callSO hg.ok hg.gup hg.wide hg.Y [0,1] (wrT (wputs (wput c [44]) (pcs a2))++[wbx x]) (hsub a2 (hoa2 a2 ma2) (by have:=hsz2 a2 ma2; omega) Y _) (fun _=>rfl) rfl rfl rfl rfl rfl (by rw [wrT_ren _ rfl rfl]; rfl) rfl (by rw [wrT_ren _ rfl rfl]; rfl) ?_
  refine R_run hg.ok 1000 rfl rfl ?_
  refine R_index hg.ok rfl rfl rfl rfl rfl rfl (by decide) (Tm.rows_get f1) rfl ?_
  refine R_run hg.ok 1000 rfl rfl ?_
  exact R_next (b2,wputs (wput c [44]) (pcs a2)) ⟨hoa2 b2 mb2,by have:=hsz2 b2 mb2; show b2.size<t.size; omega,hm⟩ (hsz2 b2 mb2) ⟨.refl _,.refl _,trivial⟩ rfl
 have hxl:=Tm.rows_length x.l
 have e3:strEq x.s ⟨#[91,93]⟩=(x.s.data.toList==[91,93]):=by
  have:=Tx_eq x.s.data.toList [91,93]
  rw [Tx_data] at this; exact this
 refine R_if rfl rfl (fun h5=>?_) (fun h5=>?_) <;> refine R_run hg.ok 1000 rfl rfl ?_
 ·have hn:nilK x.k x.s x.l=false:=by simp at h5; simp [nilK,h5]
  rw [pcsTl_rest h hn,wputs_cons,wputs_app,wputs_cons,wputs_nil] at hm
  rw [← hm]
  refine R_callSO hg.ok hg.gup hg.wide hg.Y [0,1] (wrT (wput c [124])++[wbx x]) (wrPut_ok Y c [124] (by simp) (by simp)) (fun _=>rfl) rfl rfl rfl rfl rfl (by rw [wrT_ren _ rfl rfl]; rfl) rfl (by rw [wrT_ren _ rfl rfl]; rfl) ?_
  refine R_run hg.ok 1000 rfl rfl ?_
  refine R_callSO hg.ok hg.gup hg.wide hg.Y [0,1] (wrT (wputs (wput c [124]) (pcs x))++[wbx x]) (hsub x ho1 hs1 Y _) (fun _=>rfl) rfl rfl rfl rfl rfl (by rw [wrT_ren _ rfl rfl]; rfl) rfl (by rw [wrT_ren _ rfl rfl]; rfl) ?_
  refine R_run hg.ok 1000 rfl rfl ?_
  refine R_callSO hg.ok hg.gup hg.wide hg.Y [0,1] (wrT (wput (wputs (wput c [124]) (pcs x)) [93])++[wbx x]) (wrPut_ok Y _ [93] (by simp) (by simp)) (fun _=>rfl) rfl rfl rfl rfl rfl (by rw [wrT_ren _ rfl rfl]; rfl) rfl (by rw [wrT_ren _ rfl rfl]; rfl) ?_
  refine R_run hg.ok 1000 rfl rfl ?_
  exact R_endS hg 2 5 (by show (2:Nat)≤2; omega) rfl rfl (wrT_seal _ _)
 have k3:x.k=3:=by simp at h5; omega
 refine R_if rfl rfl (fun h6=>?_) (fun h6=>?_) <;> refine R_run hg.ok 1000 rfl rfl ?_
 ·have hn:nilK x.k x.s x.l=false:=by rw [e3] at h6; simp at h6; simp [nilK,h6]
  rw [pcsTl_rest h hn,wputs_cons,wputs_app,wputs_cons,wputs_nil] at hm
  rw [← hm]
  refine R_callSO hg.ok hg.gup hg.wide hg.Y [0,1] (wrT (wput c [124])++[wbx x]) (wrPut_ok Y c [124] (by simp) (by simp)) (fun _=>rfl) rfl rfl rfl rfl rfl (by rw [wrT_ren _ rfl rfl]; rfl) rfl (by rw [wrT_ren _ rfl rfl]; rfl) ?_
  refine R_run hg.ok 1000 rfl rfl ?_
  refine R_callSO hg.ok hg.gup hg.wide hg.Y [0,1] (wrT (wputs (wput c [124]) (pcs x))++[wbx x]) (hsub x ho1 hs1 Y _) (fun _=>rfl) rfl rfl rfl rfl rfl (by rw [wrT_ren _ rfl rfl]; rfl) rfl (by rw [wrT_ren _ rfl rfl]; rfl) ?_
  refine R_run hg.ok 1000 rfl rfl ?_
  refine R_callSO hg.ok hg.gup hg.wide hg.Y [0,1] (wrT (wput (wputs (wput c [124]) (pcs x)) [93])++[wbx x]) (wrPut_ok Y _ [93] (by simp) (by simp)) (fun _=>rfl) rfl rfl rfl rfl rfl (by rw [wrT_ren _ rfl rfl]; rfl) rfl (by rw [wrT_ren _ rfl rfl]; rfl) ?_
  refine R_run hg.ok 1000 rfl rfl ?_
  exact R_endS hg 2 5 (by show (2:Nat)≤2; omega) rfl rfl (wrT_seal _ _)
 rw [e3] at h6
 refine R_if rfl rfl (fun h7=>?_) (fun h7=>?_) <;> refine R_run hg.ok 1000 rfl rfl ?_
 ·have hn:nilK x.k x.s x.l=false:=by
   have h7:=of_decide_eq_true h7
   rw [hxl] at h7
   cases hc2:x.l with
   | nil=>rw [hc2] at h7; simp at h7
   | cons p q=>simp [nilK]
  rw [pcsTl_rest h hn,wputs_cons,wputs_app,wputs_cons,wputs_nil] at hm
  rw [← hm]
  refine R_callSO hg.ok hg.gup hg.wide hg.Y [0,1] (wrT (wput c [124])++[wbx x]) (wrPut_ok Y c [124] (by simp) (by simp)) (fun _=>rfl) rfl rfl rfl rfl rfl (by rw [wrT_ren _ rfl rfl]; rfl) rfl (by rw [wrT_ren _ rfl rfl]; rfl) ?_
  refine R_run hg.ok 1000 rfl rfl ?_
  refine R_callSO hg.ok hg.gup hg.wide hg.Y [0,1] (wrT (wputs (wput c [124]) (pcs x))++[wbx x]) (hsub x ho1 hs1 Y _) (fun _=>rfl) rfl rfl rfl rfl rfl (by rw [wrT_ren _ rfl rfl]; rfl) rfl (by rw [wrT_ren _ rfl rfl]; rfl) ?_
  refine R_run hg.ok 1000 rfl rfl ?_
  refine R_callSO hg.ok hg.gup hg.wide hg.Y [0,1] (wrT (wput (wputs (wput c [124]) (pcs x)) [93])++[wbx x]) (wrPut_ok Y _ [93] (by simp) (by simp)) (fun _=>rfl) rfl rfl rfl rfl rfl (by rw [wrT_ren _ rfl rfl]; rfl) rfl (by rw [wrT_ren _ rfl rfl]; rfl) ?_
  refine R_run hg.ok 1000 rfl rfl ?_
  exact R_endS hg 2 5 (by show (2:Nat)≤2; omega) rfl rfl (wrT_seal _ _)
 have hn:nilK x.k x.s x.l=true:=by
  have h7:=of_decide_eq_false h7
  rw [hxl] at h7
  cases hc2:x.l with
  | nil=>simp at h6; simp [nilK,k3,h6]
  | cons p q=>rw [hc2] at h7; simp at h7 <;> omega
 rw [pcsTl_nil h hn,wputs_cons,wputs_nil] at hm
 rw [← hm]
 refine R_callSO hg.ok hg.gup hg.wide hg.Y [0,1] (wrT (wput c [93])++[wbx x]) (wrPut_ok Y _ [93] (by simp) (by simp)) (fun _=>rfl) rfl rfl rfl rfl rfl (by rw [wrT_ren _ rfl rfl]; rfl) rfl (by rw [wrT_ren _ rfl rfl]; rfl) ?_
 refine R_run hg.ok 1000 rfl rfl ?_
 exact R_endS hg 2 5 (by show (2:Nat)≤2; omega) rfl rfl (wrT_seal _ _)

theorem wrTerm_all:∀ (n:Nat) (t:Tm),t.size≤n→OkW t→WrT t
 | 0,t,h,_=>by have:=Tm.size_eq t; omega
 | n+1,t,h,ho=>by
  have hoa:∀ x∈t.l,OkW x:=by cases ho; assumption
  refine wrTermStep t ho (fun hc=>wrListStep t ho hc fun x hx hs=>wrTerm_all n x (by omega) hx) fun x hx=>wrTerm_all n x (by have:=Tm.size_mem hx; have:=Tm.size_eq t; omega) (hoa x hx)
theorem wrTerm_ok (t:Tm) (ho:OkW t):WrT t:=wrTerm_all _ t (Nat.le_refl _) ho
end Go.Proofs.YtchhahnajgfeaaaDoor

namespace Go.Proofs.YtchhahnajgfeaaaDoor
open Go PSL Go.Proofs
def wobjs (n:Nat):List Ob:=[.yld n,.box [.yl 0],.box [.clo 50 [] [.lo 1 0,.lo 2 0]]]

set_option maxRecDepth 100000 in
theorem walk_ok (Y:YP) (t:Tm):∀ (d:Int) (n:Nat),0≤d→d+t.size<4611686018427387904→(∀ (i:Nat) (e:Int × Tm),(t.els d)[i]? = some e→Y.ys[n+i]? = some (Tm.enc e))→(n=0∨Y.go n=true) →
  SCtr Tryd.prog Y 50 [t.av,iV d,.lo 1 0,.lo 2 0] (wobjs n) (bV (adv Y t.size n).2) (wobjs (adv Y t.size n).1):=by
 induction t using Tm.ind with
 | _ t ih =>
 intro d n hd0 hd hy hgo
 refine SCtr.of_R (pf:=fun _=>.eff) tyOk mixed Tryd.func50 rfl (by kernel_rfl) (by kernel_rfl) (by simp [Tryd.ntmps50]) (by simp [wobjs]) fun w S φ hg=>?_
 refine R_run hg.ok 1000 rfl rfl ?_
 refine R_yield hg rfl rfl rfl rfl rfl rfl rfl (avs:=[iV d,t.av]) ?_ hgo ?_
 ·exact hy 0 (d,t) (by rw [Tm.els_eq]; rfl)
 refine R_run hg.ok 1000 rfl rfl ?_
 have hsz:=Tm.size_eq t
 have hlen:=Tm.len_le_sizeL t.l
 refine R_if rfl rfl (fun h1=>?_) (fun h1=>?_)
 ·refine R_run hg.ok 1000 rfl rfl ?_
  have h1:(!Y.go (n+1))=true:=h1
  have h2:Y.go (n+1)=false:=by simpa using h1
  have h3:adv Y t.size n=(n+1,false):=by rw [hsz,Nat.add_comm]; simp [adv,h2]
  refine R_retS hg 3 5 (Nat.le_refl _) rfl ?_ ?_
  ·rw [h3]; rfl
  ·rw [h3]; rfl
 have h1:(!Y.go (n+1))=false:=h1
 have h2:Y.go (n+1)=true:=by simpa using h1
 refine R_run hg.ok 1000 rfl rfl ?_
 refine R_loop (fun k:Nat=>([(1,iV d),(2,.lo 1 0),(3,.lo 2 0),(4,.lo 3 0),(15,.d (.sl (Tm.rows t.l))),(16,iV (t.l.length:Int)),(17,iV k)],wobjs (n+(1+Tm.sizeL (t.l.take k)))++[.box [.d (.v (.int .i64 t.k)),.d (.v (.string t.s)),.d (.v (.int .i64 t.n)),.d (.sl (Tm.rows t.l))]]))
  (fun k=>k≤t.l.length∧adv Y (1+Tm.sizeL (t.l.take k)) n=(n+(1+Tm.sizeL (t.l.take k)),true)) (fun k=>t.l.length - k) 0 ?_ ?_ ?_ ?_
 ·refine ⟨Nat.zero_le _,?_⟩
  simp [Tm.sizeL,adv,h2]
 ·exact ⟨.refl _,.refl _,.refl _,.refl _,.refl _,Ent.int (by rw [Tm.rows_length]),.refl _,trivial⟩
 ·rfl
 intro k hk
 refine R_run hg.ok 1000 rfl rfl ?_
 refine R_if rfl rfl (fun h1=>?_) (fun h1=>?_)
 ·have hk1:k<t.l.length:=by have:=of_decide_eq_true h1; omega
  have e1:t.l[k]? = some t.l[k]:=List.getElem?_eq_getElem hk1
  have hszk:=Tm.sizeL_take_succ e1
  have hmem:=Tm.size_mem (List.getElem_mem hk1)
  refine R_run hg.ok 1000 rfl rfl ?_
  refine R_index hg.ok rfl rfl rfl rfl rfl rfl (Int.natCast_nonneg k) (Tm.rows_get e1) rfl ?_
  refine R_run hg.ok 1000 rfl rfl ?_
  refine R_see 24 rfl (Ent.wrap rfl (by omega) (by omega)) ?_
  refine R_callS hg.ok hg.gup hg.wide hg.Y [0,1,2] (ih _ (List.getElem_mem hk1) (d+1) (n+(1+Tm.sizeL (t.l.take k))) (by omega) (by omega) ?_ ?_) (fun _=>rfl) rfl rfl rfl rfl rfl rfl rfl ?_
  ·intro i e he
   have hlt:=(List.getElem?_eq_some_iff.1 he).1
   have:=hy (1+Tm.sizeL (t.l.take k)+i) e (by
    rw [Tm.els_eq,show 1+Tm.sizeL (t.l.take k)+i=Tm.sizeL (t.l.take k)+i+1 by omega,List.getElem?_cons_succ]
    have hsplit:t.l=t.l.take k++(t.l[k]::t.l.drop (k+1)):=by rw [← List.drop_eq_getElem_cons hk1,List.take_append_drop]
    rw [hsplit,Tm.elsL_append,List.getElem?_append_right (by rw [Tm.elsL_len]; rw [← hsplit]; omega),Tm.elsL_len,← hsplit]
    simp only [Tm.elsL]
    rw [List.getElem?_append_left (by omega),show Tm.sizeL (List.take k t.l)+i - Tm.sizeL (List.take k t.l)=i by omega]
    exact he)
   rw [show n+(1+Tm.sizeL (t.l.take k))+i=n+(1+Tm.sizeL (t.l.take k)+i) by omega]; exact this
  ·right
   exact (adv_true (by rw [hk.2])).2 (by omega)
  refine R_run hg.ok 1000 rfl rfl ?_
  have hle:Tm.sizeL t.l=Tm.sizeL (t.l.take k)+(t.l[k].size+Tm.sizeL (t.l.drop (k+1))):=by
   conv=>lhs; rw [← List.take_append_drop k t.l,List.drop_eq_getElem_cons hk1]
   rw [Tm.sizeL_append,Tm.sizeL]
  refine R_if rfl rfl (fun h3=>?_) (fun h3=>?_)
  ·have h3:(!(adv Y t.l[k].size (n+(1+Tm.sizeL (t.l.take k)))).2)=true:=h3
   have h4:(adv Y t.l[k].size (n+(1+Tm.sizeL (t.l.take k)))).2=false:=by simpa using h3
   refine R_run hg.ok 1000 rfl rfl ?_
   have h5:adv Y t.size n=adv Y t.l[k].size (n+(1+Tm.sizeL (t.l.take k))):=by
    rw [hsz,hle,← Nat.add_assoc,adv_add_true hk.2,adv_add,if_neg (by rw [h4]; simp)]
   refine R_retS hg 3 5 (Nat.le_refl _) rfl ?_ ?_
   ·rw [h5,h4]; rfl
   ·rw [h5]; rfl
  have h3:(!(adv Y t.l[k].size (n+(1+Tm.sizeL (t.l.take k)))).2)=false:=h3
  have h4:(adv Y t.l[k].size (n+(1+Tm.sizeL (t.l.take k)))).2=true:=by simpa using h3
  have h6:=adv_eq h4
  refine R_run hg.ok 1000 rfl rfl ?_
  refine R_drop 4 (by rw [hg.hs0.len]; simp [wobjs]) rfl ?_
  have h7:n+(1+Tm.sizeL (t.l.take (k+1)))=n+(1+Tm.sizeL (t.l.take k))+t.l[k].size:=by rw [hszk]; omega
  refine R_next (k+1) ⟨hk1,?_⟩ (by omega) ⟨.refl _,.refl _,.refl _,.refl _,.refl _,.refl _,Ent.wrap (by omega) (by omega) (by omega),trivial⟩ ?_
  ·rw [hszk,← Nat.add_assoc 1,adv_add_true hk.2,h6]; simp only [Nat.add_assoc]
  ·rw [h6]; show _=wobjs (n+(1+Tm.sizeL (t.l.take (k+1))))++_; rw [h7]; rfl
 ·refine R_run hg.ok 1000 rfl rfl ?_
  have h3:¬ ((k:Int)<(t.l.length:Int)):=of_decide_eq_false h1
  have hkl:k=t.l.length:=by omega
  have h4:adv Y t.size n=(n+(1+Tm.sizeL (t.l.take k)),true):=by
   have:=hk.2
   rw [hkl,List.take_length] at this ⊢
   rw [hsz]; exact this
  refine R_retS hg 3 5 (Nat.le_refl _) rfl ?_ ?_
  ·rw [h4]; rfl
  ·rw [h4]; rfl

set_option maxRecDepth 100000 in
theorem all_ok (Y:YP) (t:Tm) (n:Nat) (hd:t.size<1000000000) (hy:∀ (i:Nat) (e:Int × Tm),(t.els 1)[i]? = some e→Y.ys[n+i]? = some (Tm.enc e)) (hgo:n=0∨Y.go n=true) :
  SCtr Tryd.prog Y 42 [t.av,.yl 0] [.yld n] (bV (adv Y t.size n).2) [.yld (adv Y t.size n).1]:=by
 refine SCtr.of_R (pf:=fun _=>.eff) tyOk mixed Tryd.func42 rfl (by kernel_rfl) (by kernel_rfl) (by simp [Tryd.ntmps42]) (by simp) fun w S φ hg=>?_
 refine R_run hg.ok 1000 rfl rfl ?_
 refine R_callS hg.ok hg.gup hg.wide hg.Y [0,2,3] (walk_ok Y t 1 n (by omega) (by omega) hy hgo) (fun _=>rfl) rfl rfl rfl rfl rfl rfl rfl ?_
 refine R_run hg.ok 1000 rfl rfl ?_
 refine R_retS hg 1 5 (Nat.le_refl _) rfl ?_ ?_
 ·rfl
 ·rfl

set_option maxRecDepth 100000 in
theorem each1_ok (Y:YP) (t:Tm) (hd:t.size<1000000000) (hy:∀ (i:Nat) (e:Int × Tm),(t.els 1)[i]? = some e→Y.ys[i]? = some (Tm.enc e)) :
  SCtr Tryd.prog Y 41 [.yl 0,.d (.ptr (Tm.row t))] [.yld 0] (.tup []) [.yld (adv Y t.size 0).1]:=by
 refine SCtr.of_R (pf:=fun _=>.eff) tyOk mixed Tryd.func41 rfl (by kernel_rfl) (by kernel_rfl) (by simp [Tryd.ntmps41]) (by simp) fun w S φ hg=>?_
 refine R_run hg.ok 1000 rfl rfl ?_
 refine R_callS hg.ok hg.gup hg.wide hg.Y [0] (all_ok Y t 0 hd (by simpa using hy) (.inl rfl)) (fun _=>rfl) rfl rfl rfl rfl rfl rfl rfl ?_
 refine R_run hg.ok 1000 rfl rfl ?_
 refine R_endS hg 1 5 (Nat.le_refl _) rfl ?_ ?_
 ·rfl
 ·rfl

set_option maxRecDepth 100000 in
theorem each_ok (t:Tm):PCtr Tryd.prog 31 [t.av] (.clo 41 [] [.d (.ptr (Tm.row t))]):=by
 refine PCtr.of_R (pf:=fun _=>.still) tyOk mixed Tryd.func31 rfl (by kernel_rfl) (by kernel_rfl) (by simp [Tryd.ntmps31]) fun w S hg=>?_
 refine R_run hg.ok 1000 rfl rfl ?_
 refine R_ret hg 5 rfl rfl ?_
 rfl
end Go.Proofs.YtchhahnajgfeaaaDoor

namespace Go.Proofs.YtchhahnajgfeaaaDoor
open Go PSL Go.Proofs
def boxT (t:Tm):Ob:=.box [.d (.v (.int .i64 t.k)),.d (.v (.string t.s)),.d (.v (.int .i64 t.n)),.d (.sl (Tm.rows t.l))]
theorem els_ys {t:Tm} {i:Nat} {e:Int × Tm} (h:(t.els 1)[i]? = some e):((t.els 1).map Tm.enc)[i]? = some (Tm.enc e):=by rw [List.getElem?_map,h]; rfl
theorem els_lt {t:Tm} {i:Nat} {e:Int × Tm} (h:(t.els 1)[i]? = some e):i<t.size:=by rw [← Tm.els_len t 1]; exact (List.getElem?_eq_some_iff.1 h).1
end Go.Proofs.YtchhahnajgfeaaaDoor

namespace Go.Proofs.YtchhahnajgfeaaaDoor
open Go PSL Go.Proofs

set_option maxRecDepth 100000 in
theorem named_ok (s:ByteArray) (hs:s.size<1000000000):PCtr Tryd.prog 43 [.d (.v (.string s))] (bV (namedB s)):=by
 refine PCtr.of_R (pf:=fun _=>.still) tyOk mixed Tryd.func43 rfl (by kernel_rfl) (by kernel_rfl) (by simp [Tryd.ntmps43]) fun w S hg=>?_
 refine R_run hg.ok 1000 rfl rfl ?_
 refine R_loop (fun k:Nat=>([(0,.d (.v (.string s))),(5,iV s.size),(6,iV k)],[])) (fun k=>k≤s.size∧∀ i (hi:i<s.size),i<k→byteOk s[i]=true) (fun k=>s.size - k) 0 ?_ ?_ rfl ?_
 ·exact ⟨Nat.zero_le _,fun i _ h=>absurd h (Nat.not_lt_zero _)⟩
 ·exact ⟨.refl _,.refl _,.refl _,trivial⟩
 intro k hk
 refine R_run hg.ok 1000 rfl rfl ?_
 refine R_if rfl rfl (fun h1=>?_) (fun h1=>?_)
 ·have hk1:k<s.size:=by have:=of_decide_eq_true h1; omega
  refine R_run hg.ok 1000 rfl rfl ?_
  refine R_indexS hg.ok rfl rfl rfl rfl rfl (Int.natCast_nonneg k) (byte_atK hk1) ?_
  refine R_run hg.ok 1000 rfl rfl ?_
  refine R_if rfl rfl (fun h2=>?_) (fun h2=>?_)
  ·refine R_run hg.ok 1000 rfl rfl ?_
   refine R_ret hg 5 rfl rfl ?_
   have:byteOk s[k]=false:=by unfold byteOk; rw [h2]; rfl
   simp only [namedB,not_all_bytes hk1 this]; rfl
  refine R_run hg.ok 1000 rfl rfl ?_
  refine R_indexS hg.ok rfl rfl rfl rfl rfl (Int.natCast_nonneg k) (byte_atK hk1) ?_
  refine R_run hg.ok 1000 rfl rfl ?_
  refine R_if rfl rfl (fun h3=>?_) (fun h3=>?_)
  ·refine R_run hg.ok 1000 rfl rfl ?_
   refine R_ret hg 5 rfl rfl ?_
   have:byteOk s[k]=false:=by unfold byteOk; rw [h3]; simp
   simp only [namedB,not_all_bytes hk1 this]; rfl
  refine R_run hg.ok 1000 rfl rfl ?_
  refine R_next (k+1) ⟨hk1,fun i hi hik=>?_⟩ (by omega) ⟨.refl _,.refl _,Ent.wrap (by omega) (by omega) (by omega),trivial⟩ rfl
  rcases Nat.lt_or_ge i k with h | h
  ·exact hk.2 i hi h
  ·have:i=k:=by omega
   subst this
   unfold byteOk; rw [h2,h3]; rfl
 ·have h4:¬ ((k:Int)<(s.size:Int)):=of_decide_eq_false h1
  have hall:s.data.toList.all byteOk=true:=all_bytes fun i hi=>hk.2 i hi (by omega)
  refine R_run hg.ok 1000 rfl rfl ?_
  refine R_if rfl rfl (fun h2=>?_) (fun h2=>?_)
  ·refine R_run hg.ok 1000 rfl rfl ?_
   refine R_ret hg 5 rfl rfl ?_
   simp only [namedB,hall,h2,Bool.true_and]; rfl
  ·refine R_run hg.ok 1000 rfl rfl ?_
   refine R_ret hg 5 rfl rfl ?_
   simp only [namedB,hall,h2,Bool.true_and]; rfl
end Go.Proofs.YtchhahnajgfeaaaDoor

namespace Go.Proofs.YtchhahnajgfeaaaDoor
open Go PSL Go.Proofs

set_option maxRecDepth 100000 in
theorem own_ok (t:Tm) (hs:t.s.size<1000000000):PCtr Tryd.prog 32 [t.av] (bV t.ownT):=by
 refine PCtr.of_R (pf:=fun _=>.still) tyOk mixed Tryd.func32 rfl (by kernel_rfl) (by kernel_rfl) (by simp [Tryd.ntmps32]) fun w S hg=>?_
 refine R_run hg.ok 1000 rfl rfl ?_
 iterate 12
  all_goals try first
   | (refine R_if rfl rfl (fun _=>?_) (fun _=>?_) <;> refine R_run hg.ok 1000 rfl rfl ?_)
   | (refine R_call hg.ok (named_ok t.s hs) rfl rfl rfl rfl rfl rfl ?_; refine R_run hg.ok 1000 rfl rfl ?_)
 all_goals refine R_ret hg 5 rfl rfl ?_
 all_goals (simp only [Tm.rows_length,beq_iff_eq,beq_eq_false_iff_ne,ne_eq,decide_eq_true_eq,decide_eq_false_iff_not] at *)
 all_goals (simp_all [Tm.ownT,bV])
 all_goals (intros; omega)

set_option maxRecDepth 100000 in
theorem right_ok (t:Tm) (hd:t.size<1000000000) (hs:∀ e∈t.els 1,e.2.s.size<1000000000):PCtr Tryd.prog 17 [t.av] (bV (rightT t)):=by
 refine PCtr.of_R (pf:=fun _=>.still) tyOk mixed Tryd.func17 rfl (by kernel_rfl) (by kernel_rfl) (by simp [Tryd.ntmps17]) fun w S hg=>?_
 refine R_run hg.ok 1000 rfl rfl ?_
 refine R_call hg.ok (each_ok t) rfl rfl rfl rfl rfl rfl ?_
 refine R_run hg.ok 1000 rfl rfl ?_
 refine R_range hg.ok hg.gup ⟨rfl,rfl⟩ rfl (t.els 1) Tm.enc ⟨(t.els 1).map Tm.enc,goR t⟩ rfl (fun n=>[boxT t,.box [.d (.v (.bool false))],.box [iV n]]) (fun _ e=>[(2,.lo 1 0),(3,.lo 2 0),(4,iV e.1),(5,.lo 3 0)]) (fun n e=>[boxT t,.box [.d (.v (.bool false))],.box [iV n],boxT e.2]) _ .ret rfl rfl rfl (each1_ok _ t hd fun _ _ h=>els_ys h) rfl (fun _ _=>rfl) rfl ?_ ?_ ?_ rfl rfl ?_
 ·intro n x hx _ l w R0 X φ0 _ hamb
  refine R_run (gRound_ok hg.ok _ _ _ _ _ hamb) 1000 rfl rfl ?_
  exact R_finA ⟨.refl _,.refl _,.refl _,.refl _,trivial⟩ rfl
 ·intro n x hx _ l w R0 X φ0 hφ0 hamb
  have hn:=els_lt hx
  have hg':=gRound_ok hg.ok l w R0 X φ0 hamb
  have hgo:goR t (n+1)=stepR x (n+1):=by simp only [goR,hx]
  have hw:IntKind.i64.wrap ((n:Int)+1)=((n+1:Nat):Int):=wrap_id (by omega) (by omega)
  refine R_run hg' 1000 rfl rfl ?_
  refine R_if rfl rfl (fun h1=>?_) (fun h1=>?_)
  ·refine R_run hg' 1000 rfl rfl ?_
   refine R_drop 3 (by rw [show (gRound _ l w R0 X φ0).φ0=φ0 from rfl,hφ0]; exact Nat.le_refl _) rfl ?_
   refine R_obs [boxT t,.box [.d (.v (.bool false))],.box [iV ((n+1:Nat):Int)]] ⟨ObIn.refl _,⟨Ent.ff,trivial⟩,⟨Ent.int hw,trivial⟩,trivial⟩ rfl ?_
   exact R_retB (by rw [show (YP.go ⟨_,goR t⟩ (n+1))=goR t (n+1) from rfl,hgo]; simp only [stepR,h1,Bool.true_or,Bool.not_true]) rfl rfl
  refine R_run hg' 1000 rfl rfl ?_
  refine R_if rfl rfl (fun h2=>?_) (fun h2=>?_)
  ·refine R_run hg' 1000 rfl rfl ?_
   refine R_drop 3 (by rw [show (gRound _ l w R0 X φ0).φ0=φ0 from rfl,hφ0]; exact Nat.le_refl _) rfl ?_
   refine R_obs [boxT t,.box [.d (.v (.bool false))],.box [iV ((n+1:Nat):Int)]] ⟨ObIn.refl _,⟨Ent.ff,trivial⟩,⟨Ent.int hw,trivial⟩,trivial⟩ rfl ?_
   rw [hw] at h2
   exact R_retB (by rw [show (YP.go ⟨_,goR t⟩ (n+1))=goR t (n+1) from rfl,hgo]; simp only [stepR,h2,Bool.or_true,Bool.true_or,Bool.not_true]) rfl rfl
  refine R_run hg' 1000 rfl rfl ?_
  refine R_call hg' (own_ok x.2 (hs x (List.mem_of_getElem? hx))) rfl rfl rfl rfl rfl rfl ?_
  refine R_run hg' 1000 rfl rfl ?_
  rw [hw] at h2
  refine R_if rfl rfl (fun h3=>?_) (fun h3=>?_)
  ·refine R_run hg' 1000 rfl rfl ?_
   refine R_drop 3 (by rw [show (gRound _ l w R0 X φ0).φ0=φ0 from rfl,hφ0]; exact Nat.le_refl _) rfl ?_
   refine R_obs [boxT t,.box [.d (.v (.bool false))],.box [iV ((n+1:Nat):Int)]] ⟨ObIn.refl _,⟨Ent.ff,trivial⟩,⟨Ent.int hw,trivial⟩,trivial⟩ rfl ?_
   exact R_retB (by rw [show (YP.go ⟨_,goR t⟩ (n+1))=goR t (n+1) from rfl,hgo]; simp only [stepR,h3,Bool.or_true,Bool.not_true]) rfl rfl
  ·refine R_run hg' 1000 rfl rfl ?_
   refine R_drop 3 (by rw [show (gRound _ l w R0 X φ0).φ0=φ0 from rfl,hφ0]; exact Nat.le_refl _) rfl ?_
   refine R_obs [boxT t,.box [.d (.v (.bool false))],.box [iV ((n+1:Nat):Int)]] ⟨ObIn.refl _,⟨.refl _,trivial⟩,⟨Ent.int hw,trivial⟩,trivial⟩ rfl ?_
   exact R_finB (by rw [show (YP.go ⟨_,goR t⟩ (n+1))=goR t (n+1) from rfl,hgo]; simp only [stepR,h1,h2,h3,Bool.or_false,Bool.not_false]) rfl
 ·intro hgo
  refine R_run hg.ok 1000 rfl rfl ?_
  refine R_ret hg 5 rfl rfl ?_
  cases h:rightT t
  ·obtain ⟨h1,h2⟩:=adv_false h
   exact absurd hgo (by rintro (h3 | h3); exact h2 h3; rw [h1] at h3; cases h3)
  ·rfl
 ·intro h0 hgo
  refine R_ret hg 5 rfl rfl ?_
  cases h:rightT t
  ·rfl
  ·have h1:=adv_true h
   rw [h1.1] at h0 hgo
   rw [h1.2 (by omega)] at hgo; cases hgo
end Go.Proofs.YtchhahnajgfeaaaDoor

namespace Go.Proofs.YtchhahnajgfeaaaDoor
open Go PSL Go.Proofs

theorem wputs_ne {b:Bs} (h:b≠[]):∀ (l:List Bs),wputs b l≠[]
 | []=>h
 | x::r=>by
  rw [wputs_cons]
  refine wputs_ne ?_ r
  unfold wput
  split
  ·simp [h]
  ·exact h

theorem pcs_hd {t:Tm} (ho:OkW t):∃ x r,pcs t=x::r∧x≠[]:=by
 obtain ⟨ha,hl,h0,h1,hn,_⟩:=ho
 have hi:=itoa_len t.n h0 h1
 cases hc:cellT t
 ·rw [pcs_atom hc,atomP]
  split
  ·exact ⟨_,_,rfl,by simp⟩
  ·split
   ·exact ⟨_,_,rfl,hi.2⟩
   ·exact ⟨_,_,rfl,nameB_ne _⟩
 ·obtain ⟨a,b,hl⟩:=cellT_l hc
  rw [pcs_cell hc hl]
  exact ⟨_,_,rfl,by simp⟩

theorem wputs_pcs_ne {t:Tm} (ho:OkW t):wputs [] (pcs t)≠[]:=by
 obtain ⟨x,r,h1,h2⟩:=pcs_hd ho
 rw [h1,wputs_cons]
 exact wputs_ne (wput_ne h2) r

def writeT (t:Tm):Bs × Int:=if rightT t then (if (wputs [] (pcs t)).length≤8000 then (wputs [] (pcs t),0) else ([],3)) else ([],1)
def wrT1 (b:Bs):List Ob:=[.tbox 49 [.lo 1 0,.ow 2 b.length],.byt 5 b.length b]

set_option maxRecDepth 100000 in
theorem writeTerm_ok (t:Tm) (hd:t.size<1000000000) (hs:∀ e∈t.els 1,e.2.s.size<1000000000) (ho:rightT t=true→OkW t):PCtr Tryd.prog 7 [t.av] (.tup [txA (writeT t).1,iV (writeT t).2]):=by
 refine PCtr.of_R (pf:=fun _=>.eff) tyOk mixed Tryd.func7 rfl (by kernel_rfl) (by kernel_rfl) (by simp [Tryd.ntmps7]) fun w S hg=>?_
 refine R_run hg.ok 1000 rfl rfl ?_
 refine R_call hg.ok (right_ok t hd hs) rfl rfl rfl rfl rfl rfl ?_
 refine R_run hg.ok 1000 rfl rfl ?_
 refine R_if rfl rfl (fun h=>?_) (fun h=>?_)
 ·refine R_run hg.ok 1000 rfl rfl ?_
  refine R_ret hg 5 rfl rfl ?_
  rw [writeT,if_neg (by simpa using h)]; rfl
 have h:rightT t=true:=by simpa using h
 have ho:=ho h
 have hne:=wputs_pcs_ne ho
 refine R_run hg.ok 4 rfl rfl ?_
 refine R_step hg.ok rfl rfl rfl rfl ?_
 refine R_boxT hg.ok rfl rfl rfl ?_
 refine R_run hg.ok 1 rfl rfl ?_
 refine R_ownT 1 1 5 rfl rfl rfl ?_
 refine R_run hg.ok 1000 rfl rfl ?_
 refine R_callSO hg.ok hg.gup ⟨rfl,rfl⟩ (fun i l I B h=>by simp [gOf] at h) [1,2] ([wbx t]++wrT1 (wputs [] (pcs t))) (wrTerm_ok t ho ⟨[],fun _=>true⟩ []) (fun ⟨i,l,I,B,h⟩=>by simp [gOf] at h) rfl rfl rfl rfl rfl rfl rfl (by rw [wrT_cons hne]; rfl) ?_
 refine R_run hg.ok 1000 rfl rfl ?_
 generalize hR:wputs [] (pcs t)=R at hne
 refine R_callSO hg.ok hg.gup ⟨rfl,rfl⟩ (fun i l I B h=>by simp [gOf] at h) [1,2] ([wbx t]++wrT1 R) (wrLen_ok ⟨[],fun _=>true⟩ R.length (.lo 0 0) R (.inl rfl)) (fun ⟨i,l,I,B,h⟩=>by simp [gOf] at h) rfl rfl rfl rfl rfl rfl rfl rfl ?_
 refine R_run hg.ok 1000 rfl rfl ?_
 refine R_if rfl rfl (fun h2=>?_) (fun h2=>?_) <;> refine R_run hg.ok 1000 rfl rfl ?_
 ·have h2:=of_decide_eq_true h2
  refine R_ret hg 5 rfl rfl ?_
  rw [writeT,if_pos h,hR,if_neg (by omega)]; rfl
 ·have h2:=of_decide_eq_false h2
  refine R_callSO hg.ok hg.gup ⟨rfl,rfl⟩ (fun i l I B h=>by simp [gOf] at h) [1,2] [wbx t,.tbox 49 [.lo 1 0,.ow 2 R.length],.dead] (wrString_ok ⟨[],fun _=>true⟩ (.lo 0 0) R.length R (.inl rfl) hne (by omega)) (fun ⟨i,l,I,B,h⟩=>by simp [gOf] at h) rfl rfl rfl rfl rfl rfl rfl rfl ?_
  refine R_run hg.ok 1000 rfl rfl ?_
  refine R_ret hg 5 rfl rfl ?_
  rw [writeT,if_pos h,hR,if_pos (by omega)]; rfl
end Go.Proofs.YtchhahnajgfeaaaDoor

namespace Go.Proofs.YtchhahnajgfeaaaDoor
open Go PSL Go.Proofs
def RefW (t:Tm):Prop:=PCtr Tryd.prog 9 [t.av] (txA (pcs t).flatten)
def RefTl (t:Tm):Prop:=PCtr Tryd.prog 26 [t.av] (txA (pcsTl t).flatten)

set_option maxRecDepth 100000 in
theorem refWStep (t:Tm) (ho:OkW t) (hkd:t.k=1∨t.k=2∨t.k=3) (hlen:(pcs t).flatten.length≤400000000) (hsub:∀ x∈t.l,(pcs x).flatten.length≤400000000→RefW x) (hsub2:∀ x∈t.l,(pcsTl x).flatten.length≤400000000→RefTl x):RefW t:=by
 obtain ⟨ha,hl,h0,h1,hn0,_⟩:=ho
 have hrl:=Tm.rows_length t.l
 have hi:=itoa_len t.n h0 h1
 have hes:strEq t.s ⟨#[46]⟩=(t.s.data.toList==[46]):=by
  have:=Tx_eq t.s.data.toList [46]
  rw [Tx_data] at this; exact this
 refine PCtr.of_R (pf:=fun _=>.still) tyOk mixed Tryd.func9 rfl (by kernel_rfl) (by kernel_rfl) (by simp [Tryd.ntmps9]) fun w S hg=>?_
 refine R_run hg.ok 1000 rfl rfl ?_
 refine R_if rfl rfl (fun h=>?_) (fun h=>?_) <;> refine R_run hg.ok 1000 rfl rfl ?_
 ·have h:=of_decide_eq_true h
  have hc:cellT t=false:=by rw [cellT,cellK,h]; rfl
  refine R_call hg.ok (refDigits_ok t.n h0 h1) rfl rfl rfl rfl rfl rfl ?_
  refine R_run hg.ok 1000 rfl rfl ?_
  refine R_concat hg.ok (Tx (95::Lib.itoa t.n)) rfl rfl rfl rfl (by rw [Tx_size]; show 1+_≤_; omega) (Tx_app [95] (Lib.itoa t.n)) ?_
  refine R_run hg.ok 1000 rfl rfl ?_
  refine R_ret hg 5 rfl rfl ?_
  rw [pcs_atom hc,atomP,if_pos h]; simp; rfl
 have h:=of_decide_eq_false h
 refine R_if rfl rfl (fun h2=>?_) (fun h2=>?_) <;> refine R_run hg.ok 1000 rfl rfl ?_
 ·have h2:=of_decide_eq_true h2
  have hc:cellT t=false:=by rw [cellT,cellK,h2]; rfl
  refine R_call hg.ok (refDigits_ok t.n h0 h1) rfl rfl rfl rfl rfl rfl ?_
  refine R_run hg.ok 1000 rfl rfl ?_
  refine R_ret hg 5 rfl rfl ?_
  rw [pcs_atom hc,atomP,if_neg h,if_pos h2]; simp; rfl
 have h2:=of_decide_eq_false h2
 have hk3:t.k=3:=by omega
 have hn:=refName_ok t.s.data.toList (by omega)
 rw [show txA t.s.data.toList=.d (.v (.string t.s)) by rw [txA,Tx_data]] at hn
 have hnl:=nameB_len t.s.data.toList
 refine R_if rfl rfl (fun h3=>?_) (fun h3=>?_) <;> refine R_run hg.ok 1000 rfl rfl ?_
 ·have h3:t.l=[]:=by
   have h3:=of_decide_eq_true h3
   rw [hrl] at h3
   exact List.eq_nil_of_length_eq_zero (by omega)
  have hc:cellT t=false:=by rw [cellT,cellK,h3]; simp
  refine R_call hg.ok (hn) rfl rfl rfl rfl rfl rfl ?_
  refine R_run hg.ok 1000 rfl rfl ?_
  refine R_ret hg 5 rfl rfl ?_
  rw [pcs_atom hc,atomP,if_neg h,if_neg h2,h3]; simp [pcsArgs]; rfl
 have hne:t.l≠[]:=fun e=>by have h3:=of_decide_eq_false h3; rw [hrl,e] at h3; simp at h3
 refine R_cut1 (fun _:Unit=>([(1,.lo 0 0),(33,bV (cellT t))],[wbx t])) (fun _=>True) rfl ?_ ?_
 ·have hct:cellT t=((t.s.data.toList==[46])&&decide (((t.l.length:Nat):Int)=2)):=by
   rw [cellT,cellK,decide_eq_true hk3,Bool.true_and]
   congr 1; by_cases h9:t.l.length=2 <;> simp [h9] <;> omega
  refine R_if rfl rfl (fun h4=>?_) (fun h4=>?_) <;> refine R_run hg.ok 1000 rfl rfl ?_
  ·rw [hes] at h4
   refine R_mark ⟨(),trivial,⟨.refl _,?_,trivial⟩,rfl⟩
   rw [hct,h4,Bool.true_and,← hrl]; exact .refl _
  ·rw [hes] at h4
   refine R_mark ⟨(),trivial,⟨.refl _,?_,trivial⟩,rfl⟩
   rw [hct,h4]; exact .ff
 rintro _ _
 refine R_run hg.ok 1000 rfl rfl ?_
 refine R_if rfl rfl (fun h4=>?_) (fun h4=>?_) <;> refine R_run hg.ok 1000 rfl rfl ?_
 ·obtain ⟨a,b,hab⟩:=cellT_l h4
  have ea:t.l[0]? = some a:=by rw [hab]; rfl
  have eb:t.l[1]? = some b:=by rw [hab]; rfl
  have hpc:=pcs_cell h4 hab
  rw [hpc] at hlen
  simp only [List.flatten_cons,List.flatten_append,List.length_append,List.length_cons,List.length_nil] at hlen
  refine R_index hg.ok rfl rfl rfl rfl rfl rfl (by decide) (Tm.rows_get ea) rfl ?_
  refine R_run hg.ok 1000 rfl rfl ?_
  have ha1:=hsub a (by rw [hab]; simp) (by omega)
  have hb1:=hsub2 b (by rw [hab]; simp) (by omega)
  refine R_call hg.ok (ha1) rfl rfl rfl rfl rfl rfl ?_
  refine R_run hg.ok 1000 rfl rfl ?_
  refine R_concat hg.ok (Tx ([91]++(pcs a).flatten)) rfl rfl rfl rfl (by rw [Tx_size]; show 1+_≤_; omega) (Tx_app [91] _) ?_
  refine R_run hg.ok 1000 rfl rfl ?_
  refine R_index hg.ok rfl rfl rfl rfl rfl rfl (by decide) (Tm.rows_get eb) rfl ?_
  refine R_run hg.ok 1000 rfl rfl ?_
  refine R_call hg.ok (hb1) rfl rfl rfl rfl rfl rfl ?_
  refine R_run hg.ok 1000 rfl rfl ?_
  refine R_concat hg.ok (Tx ([91]++(pcs a).flatten++(pcsTl b).flatten)) rfl rfl rfl rfl (by rw [Tx_size,Tx_size]; simp only [List.length_append,List.length_cons,List.length_nil]; omega) (Tx_app _ _) ?_
  refine R_run hg.ok 1000 rfl rfl ?_
  refine R_ret hg 5 rfl rfl ?_
  rw [hpc]; simp; rfl
 have hc:cellT t=false:=h4
 have hem:t.l.isEmpty=false:=by cases hq:t.l with
  | nil=>exact absurd hq hne
  | cons c r=>rfl
 have hpc:pcs t=nameB t.s.data.toList::(pcsArgs true t.l++[[41]]):=by
  rw [pcs_atom hc,atomP,if_neg h,if_neg h2,hem]; rfl
 rw [hpc] at hlen
 simp only [List.flatten_cons,List.flatten_append,List.length_append,List.length_cons,List.length_nil,List.flatten_nil] at hlen
 obtain ⟨x,r,hxr⟩:∃ x r,t.l=x::r:=by cases hq:t.l with
  | nil=>exact absurd hq hne
  | cons c r=>exact ⟨c,r,rfl⟩
 have ex:t.l[0]? = some x:=by rw [hxr]; rfl
 have hargs:pcsArgs true t.l=[40]::(pcs x++pcsArgs false r):=by rw [hxr]; rfl
 have hal:(pcsArgs true t.l).flatten.length=1+((pcs x).flatten.length+(pcsArgs false r).flatten.length):=by rw [hargs]; simp; omega
 refine R_call hg.ok (hn) rfl rfl rfl rfl rfl rfl ?_
 refine R_run hg.ok 1000 rfl rfl ?_
 refine R_concat hg.ok (Tx (nameB t.s.data.toList++[40])) rfl rfl rfl rfl (by rw [Tx_size]; show _+1≤_; omega) (Tx_app _ [40]) ?_
 refine R_run hg.ok 1000 rfl rfl ?_
 refine R_index hg.ok rfl rfl rfl rfl rfl rfl (by decide) (Tm.rows_get ex) rfl ?_
 refine R_run hg.ok 1000 rfl rfl ?_
 refine R_call hg.ok (hsub x (by rw [hxr]; simp) (by omega)) rfl rfl rfl rfl rfl rfl ?_
 refine R_run hg.ok 1000 rfl rfl ?_
 refine R_concat hg.ok (Tx (nameB t.s.data.toList++[40]++(pcs x).flatten)) rfl rfl rfl rfl (by rw [Tx_size,Tx_size]; simp only [List.length_append,List.length_cons,List.length_nil]; omega) (Tx_app _ _) ?_
 refine R_run hg.ok 1000 rfl rfl ?_
 refine R_loop (fun q:Nat × Bs=>([(1,.lo 0 0),(3,txA q.2),(4,iV q.1)],[wbx t])) (fun q=>1≤q.1∧q.1≤t.l.length∧q.2++(pcsArgs false (t.l.drop q.1)).flatten=nameB t.s.data.toList++(pcsArgs true t.l).flatten) (fun q=>t.l.length - q.1) (1,_) ⟨Nat.le_refl _,by rw [hxr]; simp,?_⟩ ⟨.refl _,.refl _,.refl _,trivial⟩ rfl ?_
 ·rw [hargs,hxr]; simp
 rintro ⟨k,o⟩ ⟨hk0,hk,hm⟩
 simp only at hk0 hk hm
 have hol:=congrArg List.length hm
 simp only [List.length_append] at hol
 refine R_run hg.ok 1000 rfl rfl ?_
 refine R_if rfl rfl (fun h=>?_) (fun h=>?_) <;> refine R_run hg.ok 1000 rfl rfl ?_
 ·have hk1:k<t.l.length:=lt_dec h (by rw [hrl])
  have e1:t.l[k]? = some t.l[k]:=List.getElem?_eq_getElem hk1
  have hpa:=wputs_args [] false e1
  rw [hpa] at hm hol
  simp only [List.flatten_cons,List.flatten_append,List.length_append,Bool.false_eq_true,if_false,List.length_cons,List.length_nil] at hm hol
  refine R_concat hg.ok (Tx (o++[44])) rfl rfl rfl rfl (by rw [Tx_size]; show o.length+1≤_; omega) (Tx_app _ [44]) ?_
  refine R_run hg.ok 1000 rfl rfl ?_
  refine R_index hg.ok rfl rfl rfl rfl rfl rfl (Int.natCast_nonneg _) (Tm.rows_get e1) rfl ?_
  refine R_run hg.ok 1000 rfl rfl ?_
  refine R_call hg.ok (hsub _ (List.getElem_mem hk1) (by omega)) rfl rfl rfl rfl rfl rfl ?_
  refine R_run hg.ok 1000 rfl rfl ?_
  refine R_concat hg.ok (Tx (o++[44]++(pcs t.l[k]).flatten)) rfl rfl rfl rfl (by rw [Tx_size,Tx_size]; simp only [List.length_append,List.length_cons,List.length_nil]; omega) (Tx_app _ _) ?_
  refine R_run hg.ok 1000 rfl rfl ?_
  exact R_next (k+1,_) ⟨by show 1≤k+1; omega,hk1,by rw [← hm]; simp⟩ (by show t.l.length - (k+1)<t.l.length - k; omega) ⟨.refl _,.refl _,Ent.wrap (by omega) (by omega) (by omega),trivial⟩ rfl
 ·have hk1:t.l.length≤k:=ge_dec h (by rw [hrl])
  rw [List.drop_eq_nil_of_le hk1] at hm hol
  simp only [pcsArgs,List.flatten_nil,List.append_nil,List.length_nil] at hm hol
  refine R_concat hg.ok (Tx (o++[41])) rfl rfl rfl rfl (by rw [Tx_size]; show o.length+1≤_; omega) (Tx_app _ [41]) ?_
  refine R_run hg.ok 1000 rfl rfl ?_
  refine R_ret hg 5 rfl rfl ?_
  rw [hpc,hm]; simp; rfl

set_option maxRecDepth 100000 in
theorem refTlStep (t:Tm) (hkd:t.k=1∨t.k=2∨t.k=3) (hlen:(pcsTl t).flatten.length≤400000000) (hself:(pcs t).flatten.length≤400000000→RefW t) (hsub:∀ x∈t.l,(pcs x).flatten.length≤400000000→RefW x) (hsub2:∀ x∈t.l,(pcsTl x).flatten.length≤400000000→RefTl x):RefTl t:=by
 have hrl:=Tm.rows_length t.l
 have hes:strEq t.s ⟨#[46]⟩=(t.s.data.toList==[46]):=by
  have:=Tx_eq t.s.data.toList [46]
  rw [Tx_data] at this; exact this
 have hen:strEq t.s ⟨#[91,93]⟩=(t.s.data.toList==[91,93]):=by
  have:=Tx_eq t.s.data.toList [91,93]
  rw [Tx_data] at this; exact this
 have hct:cellT t=(decide (t.k=3)&&(t.s.data.toList==[46])&&decide (((t.l.length:Nat):Int)=2)):=by
  rw [cellT,cellK]
  congr 1; by_cases h9:t.l.length=2 <;> simp [h9] <;> omega
 have hnt:nilK t.k t.s t.l=(decide (t.k=3)&&(t.s.data.toList==[91,93])&&decide (((t.l.length:Nat):Int)=0)):=by
  rw [nilK]
  congr 1; cases t.l <;> simp <;> omega
 refine PCtr.of_R (pf:=fun _=>.still) tyOk mixed Tryd.func26 rfl (by kernel_rfl) (by kernel_rfl) (by simp [Tryd.ntmps26]) fun w S hg=>?_
 refine R_run hg.ok 1000 rfl rfl ?_
 refine R_cut1 (fun _:Unit=>([(1,.lo 0 0),(16,bV (nilK t.k t.s t.l))],[wbx t])) (fun _=>True) rfl ?_ ?_
 ·refine R_if rfl rfl (fun h=>?_) (fun h=>?_) <;> refine R_run hg.ok 1000 rfl rfl ?_
  ·have h:=of_decide_eq_true h
   refine R_if rfl rfl (fun h4=>?_) (fun h4=>?_) <;> refine R_run hg.ok 1000 rfl rfl ?_
   ·rw [hen] at h4
    refine R_mark ⟨(),trivial,⟨.refl _,?_,trivial⟩,rfl⟩
    rw [hnt,h4,decide_eq_true h,← hrl]; exact .refl _
   ·rw [hen] at h4
    refine R_mark ⟨(),trivial,⟨.refl _,?_,trivial⟩,rfl⟩
    rw [hnt,h4,Bool.and_false]; exact .ff
  ·have h:=of_decide_eq_false h
   refine R_mark ⟨(),trivial,⟨.refl _,?_,trivial⟩,rfl⟩
   rw [hnt,decide_eq_false h]; exact .ff
 rintro _ _
 refine R_run hg.ok 1000 rfl rfl ?_
 refine R_if rfl rfl (fun h=>?_) (fun h=>?_) <;> refine R_run hg.ok 1000 rfl rfl ?_
 ·refine R_ret hg 5 rfl rfl ?_
  have hc:cellT t=false:=by
   rw [hnt] at h; simp at h
   rw [cellT,cellK,h.1.2]; simp
  rw [pcsTl_nil hc h]; rfl
 refine R_cut1 (fun _:Unit=>([(1,.lo 0 0),(30,bV (cellT t))],[wbx t])) (fun _=>True) rfl ?_ ?_
 ·refine R_if rfl rfl (fun h=>?_) (fun h=>?_) <;> refine R_run hg.ok 1000 rfl rfl ?_
  ·have h:=of_decide_eq_true h
   refine R_if rfl rfl (fun h4=>?_) (fun h4=>?_) <;> refine R_run hg.ok 1000 rfl rfl ?_
   ·rw [hes] at h4
    refine R_mark ⟨(),trivial,⟨.refl _,?_,trivial⟩,rfl⟩
    rw [hct,h4,decide_eq_true h,← hrl]; exact .refl _
   ·rw [hes] at h4
    refine R_mark ⟨(),trivial,⟨.refl _,?_,trivial⟩,rfl⟩
    rw [hct,h4,Bool.and_false]; exact .ff
  ·have h:=of_decide_eq_false h
   refine R_mark ⟨(),trivial,⟨.refl _,?_,trivial⟩,rfl⟩
   rw [hct,decide_eq_false h]; exact .ff
 rintro _ _
 refine R_run hg.ok 1000 rfl rfl ?_
 refine R_if rfl rfl (fun h4=>?_) (fun h4=>?_) <;> refine R_run hg.ok 1000 rfl rfl ?_
 ·obtain ⟨a,b,hab⟩:=cellT_l h4
  have ea:t.l[0]? = some a:=by rw [hab]; rfl
  have eb:t.l[1]? = some b:=by rw [hab]; rfl
  have hpc:=pcsTl_cell h4 hab
  rw [hpc] at hlen
  simp only [List.flatten_cons,List.flatten_append,List.length_append,List.length_cons,List.length_nil] at hlen
  refine R_index hg.ok rfl rfl rfl rfl rfl rfl (by decide) (Tm.rows_get ea) rfl ?_
  refine R_run hg.ok 1000 rfl rfl ?_
  have ha1:=hsub a (by rw [hab]; simp) (by omega)
  have hb1:=hsub2 b (by rw [hab]; simp) (by omega)
  refine R_call hg.ok (ha1) rfl rfl rfl rfl rfl rfl ?_
  refine R_run hg.ok 1000 rfl rfl ?_
  refine R_concat hg.ok (Tx ([44]++(pcs a).flatten)) rfl rfl rfl rfl (by rw [Tx_size]; show 1+_≤_; omega) (Tx_app [44] _) ?_
  refine R_run hg.ok 1000 rfl rfl ?_
  refine R_index hg.ok rfl rfl rfl rfl rfl rfl (by decide) (Tm.rows_get eb) rfl ?_
  refine R_run hg.ok 1000 rfl rfl ?_
  refine R_call hg.ok (hb1) rfl rfl rfl rfl rfl rfl ?_
  refine R_run hg.ok 1000 rfl rfl ?_
  refine R_concat hg.ok (Tx ([44]++(pcs a).flatten++(pcsTl b).flatten)) rfl rfl rfl rfl (by rw [Tx_size,Tx_size]; simp only [List.length_append,List.length_cons,List.length_nil]; omega) (Tx_app _ _) ?_
  refine R_run hg.ok 1000 rfl rfl ?_
  refine R_ret hg 5 rfl rfl ?_
  rw [hpc]; simp; rfl
 have hpc:=pcsTl_rest h4 h
 rw [hpc] at hlen
 simp only [List.flatten_cons,List.flatten_append,List.length_append,List.length_cons,List.length_nil,List.flatten_nil] at hlen
 refine R_call hg.ok (hself (by omega)) rfl rfl rfl rfl rfl rfl ?_
 refine R_run hg.ok 1000 rfl rfl ?_
 refine R_concat hg.ok (Tx ([124]++(pcs t).flatten)) rfl rfl rfl rfl (by rw [Tx_size]; show 1+_≤_; omega) (Tx_app [124] _) ?_
 refine R_run hg.ok 1000 rfl rfl ?_
 refine R_concat hg.ok (Tx ([124]++(pcs t).flatten++[93])) rfl rfl rfl rfl (by rw [Tx_size]; show _+1≤_; simp only [List.length_append,List.length_cons,List.length_nil]; omega) (Tx_app _ _) ?_
 refine R_run hg.ok 1000 rfl rfl ?_
 refine R_ret hg 5 rfl rfl ?_
 rw [hpc]; simp; rfl

theorem refW_both (t:Tm):Tm.fairR t=true→OkW t→((pcs t).flatten.length≤400000000→RefW t)∧((pcsTl t).flatten.length≤400000000→RefTl t):=by
 induction t using Tm.ind with
 | h t ih =>
  intro hf ho
  rw [Tm.fairR_eq] at hf
  simp only [Bool.and_eq_true] at hf
  have hkd:t.k=1∨t.k=2∨t.k=3:=by
   have h:=hf.2
   unfold Tm.kindR at h
   split at h
   ·exact .inl ‹_›
   ·split at h
    ·exact .inr (.inl ‹_›)
    ·simp at h; exact .inr (.inr h.1.1.1.1)
  have hos:∀ x∈t.l,OkW x:=by cases ho; assumption
  have hsub:∀ x∈t.l,_:=fun x hx=>ih x hx (Tm.fairRL_iff.1 hf.1.2 x hx) (hos x hx)
  have h1:(pcs t).flatten.length≤400000000→RefW t:=fun hl=>refWStep t ho hkd hl (fun x hx=>(hsub x hx).1) (fun x hx=>(hsub x hx).2)
  exact ⟨h1,fun hl=>refTlStep t hkd hl h1 (fun x hx=>(hsub x hx).1) (fun x hx=>(hsub x hx).2)⟩
theorem refW_ok {t:Tm} (hf:Tm.fairR t=true) (ho:OkW t) (hl:(pcs t).flatten.length≤400000000):RefW t:=(refW_both t hf ho).1 hl
end Go.Proofs.YtchhahnajgfeaaaDoor

namespace PSL
open Go
def textW (t:Tm):Bs:=(pcs t).flatten

theorem wputs_full:∀ (l:List Bs) {bs:Bs},8000<bs.length→wputs bs l=bs
 | [],_,_=>rfl
 | x::r,bs,h=>by rw [wputs_cons,wput,if_neg (by omega),wputs_full r h]

theorem wputs_all:∀ (l:List Bs) (bs:Bs),((bs++l.flatten).length≤8000→wputs bs l=bs++l.flatten)∧(8000<(bs++l.flatten).length→8000<(wputs bs l).length)
 | [],bs=>by simp [wputs]
 | x::r,bs=>by
  rw [wputs_cons,wput]
  have hl:(bs++(x::r).flatten)=(bs++x)++r.flatten:=by simp
  rw [hl]
  by_cases h:bs.length≤8000
  ·rw [if_pos h]; exact wputs_all r (bs++x)
  ·rw [if_neg h,wputs_full r (by omega)]
   refine ⟨fun h2=>?_,fun _=>by omega⟩
   simp only [List.length_append] at h2; omega

theorem pcs_len (t:Tm):OkW t→(textW t).length+2≤5000 * t.size∧(pcsTl t).flatten.length≤5000 * t.size:=by
 induction t using Tm.ind with
 | h t ih =>
  intro ho
  have hos:∀ x∈t.l,OkW x:=by cases ho; assumption
  have hsub:=fun x hx=>ih x hx (hos x hx)
  obtain ⟨ha,hl,h0,h1,hn0,_⟩:=ho
  have hi:=itoa_len t.n h0 h1
  have hnl:=nameB_len t.s.data.toList
  have hsz:=Tm.size_eq t
  have hargs:∀ (f:Bool) (l:List Tm),(∀ x∈l,x∈t.l)→(pcsArgs f l).flatten.length≤5000 * Tm.sizeL l:=by
   intro f l
   induction l generalizing f with
   | nil=>intro _; simp [pcsArgs]
   | cons x r ih2 =>
    intro hm
    have h2:=ih2 false fun y hy=>hm y (by simp [hy])
    have h3:=(hsub x (hm x (by simp))).1
    simp only [textW] at h3
    simp only [pcsArgs,List.flatten_cons,List.flatten_append,List.length_append,Tm.sizeL]
    have:(if f=true then [40] else [44]:Bs).length=1:=by split <;> rfl
    omega
  have hA:=hargs true t.l (fun _ h=>h)
  by_cases hc:cellT t=true
  ·obtain ⟨a,b,hab⟩:=cellT_l hc
   have sa:=hsub a (by rw [hab]; simp)
   have sb:=hsub b (by rw [hab]; simp)
   simp only [textW] at sa sb ⊢
   rw [hab] at hsz
   simp only [Tm.sizeL] at hsz
   rw [pcs_cell hc hab,pcsTl_cell hc hab]
   simp only [List.flatten_cons,List.flatten_append,List.length_append,List.length_cons,List.length_nil]
   omega
  ·have hc:cellT t=false:=by simpa using hc
   have h1:(textW t).length+2≤5000 * t.size:=by
    rw [textW,pcs_atom hc,atomP]
    split
    ·simp only [List.flatten_cons,List.flatten_nil,List.length_append,List.length_cons,List.length_nil]; omega
    ·split
     ·simp only [List.flatten_cons,List.flatten_nil,List.length_append,List.length_nil]; omega
     ·have:((if t.l.isEmpty=true then [] else [[41]]:List Bs).flatten).length≤1:=by split <;> simp
      simp only [List.flatten_cons,List.flatten_append,List.length_append]; omega
   refine ⟨h1,?_⟩
   by_cases hn:nilK t.k t.s t.l=true
   ·rw [pcsTl_nil hc hn]; simp; omega
   ·rw [pcsTl_rest hc (by simpa using hn)]
    simp only [textW] at h1
    simp only [List.flatten_cons,List.flatten_append,List.length_append,List.length_cons,List.length_nil,List.flatten_nil]; omega

def sureB (t:Tm):Bs:=if t.rightB then (if (textW t).length≤8000 then textW t else [63]) else [63]
theorem sureB_len (t:Tm):(sureB t).length≤8000:=by unfold sureB; split; split; omega; simp; simp

mutual
def goalB:Gl→Bs
 | .mk k t a b c=>if k=1∨k=2 then sureB t else if k=3 then [33] else if k=4 then 40::(goalsB a++([32,45,62,32]++(goalsB b++([32,59,32]++(goalsB c++[41]))))) else if k=5 then [92,43,32,40]++(goalsB a++[41]) else [102,97,105,108]
def goalsB:List Gl→Bs
 | []=>[116,114,117,101]
 | g::r=>goalB g++goalsTl r
def goalsTl:List Gl→Bs
 | []=>[]
 | g::r=>[44,32]++(goalB g++goalsTl r)
end

theorem goalB_eq (g:Gl):goalB g=if g.k=1∨g.k=2 then sureB g.t else if g.k=3 then [33] else if g.k=4 then 40::(goalsB g.a++([32,45,62,32]++(goalsB g.b++([32,59,32]++(goalsB g.c++[41]))))) else if g.k=5 then [92,43,32,40]++(goalsB g.a++[41]) else [102,97,105,108]:=by
 cases g; rw [goalB]; rfl

theorem goals_len (g:Gl):(goalB g).length+2≤9000 * g.size:=by
 induction g using Gl.ind with
 | h g iha ihb ihc =>
  have hsz:=Gl.size_eq g
  have ht:=Gl.tmPos g.t
  have hL:∀ l:List Gl,(∀ x∈l,(goalB x).length+2≤9000 * x.size)→(goalsTl l).length≤9000 * Gl.sizeL l:=by
   intro l
   induction l with
   | nil=>intro _; simp [goalsTl]
   | cons x r ih =>
    intro h
    have h1:=h x (by simp)
    have h2:=ih fun y hy=>h y (by simp [hy])
    simp only [goalsTl,Gl.sizeL,List.length_append,List.length_cons,List.length_nil]; omega
  have hG:∀ l:List Gl,(∀ x∈l,(goalB x).length+2≤9000 * x.size)→(goalsB l).length≤4+9000 * Gl.sizeL l:=by
   intro l h
   cases l with
   | nil=>simp [goalsB]
   | cons x r =>
    have h1:=h x (by simp)
    have h2:=hL r fun y hy=>h y (by simp [hy])
    simp only [goalsB,Gl.sizeL,List.length_append]; omega
  have ga:=hG g.a iha
  have gb:=hG g.b ihb
  have gc:=hG g.c ihc
  have hs:=sureB_len g.t
  rw [goalB_eq]
  split
  ·omega
  ·split
   ·simp; omega
   ·split
    ·simp only [List.length_cons,List.length_append,List.length_nil]; omega
    ·split
     ·simp only [List.length_cons,List.length_append,List.length_nil]; omega
     ·simp; omega

theorem goalsTl_len (l:List Gl):(goalsTl l).length≤9000 * Gl.sizeL l:=by
 induction l with
 | nil=>simp [goalsTl]
 | cons x r ih =>
  have h1:=goals_len x
  simp only [goalsTl,Gl.sizeL,List.length_append,List.length_cons,List.length_nil]; omega

theorem goalsB_len (l:List Gl):(goalsB l).length≤4+9000 * Gl.sizeL l:=by
 cases l with
 | nil=>simp [goalsB]
 | cons x r =>
  have h1:=goals_len x
  have h2:=goalsTl_len r
  simp only [goalsB,Gl.sizeL,List.length_append]; omega

def clauseB (h:Tm) (l:List Gl):Bs:=if l.isEmpty then sureB h++[46] else sureB h++([32,58,45,32]++(goalsB l++[46]))

theorem join_goals (l:List Gl) (hl:l≠[]):Lib.join (l.map goalB) [44,32]=goalsB l:=by
 cases l with
 | nil=>exact absurd rfl hl
 | cons x r =>
  rw [List.map_cons,Lib.join_cons,goalsB]
  congr 1
  induction r with
  | nil=>rfl
  | cons y r ih=>simp only [Lib.joinTail,List.map_cons,List.flatten_cons,goalsTl] at ih ⊢; rw [← ih (by simp)]; simp
end PSL

namespace PSL
open Go
end PSL

namespace PSL
open Go
end PSL
namespace PSL
open Go

mutual
def allG (P:Tm→Prop):Gl→Prop
 | .mk _ t a b c=>P t∧allGL P a∧allGL P b∧allGL P c
def allGL (P:Tm→Prop):List Gl→Prop
 | []=>True
 | g::r=>allG P g∧allGL P r
end
theorem allG_eq (P:Tm→Prop) (g:Gl):allG P g↔P g.t∧allGL P g.a∧allGL P g.b∧allGL P g.c:=by cases g; rw [allG]; rfl

theorem allGL_mem {P:Tm→Prop}:∀ {l:List Gl},allGL P l→∀ g∈l,P g.t∧allGL P g.a∧allGL P g.b∧allGL P g.c
 | [],_,g,h=>by cases h
 | x::r,h,g,hg=>by
  simp only [allGL] at h
  rcases List.mem_cons.1 hg with rfl | hg
  ·exact (allG_eq P g).1 h.1
  ·exact allGL_mem h.2 g hg
end PSL
namespace PSL
open Go
end PSL
namespace PSL
open Go

mutual
def fewG1:Gl→Int→Int→Int
 | .mk _ t a b c,m,d=>(if d - 1<1 then -1 else fewGo c (if d - 1<1 then -1 else fewGo b (if d - 1<1 then -1 else fewGo a (t.few m 200) (d - 1)) (d - 1)) (d - 1))
def fewGo:List Gl→Int→Int→Int
 | [],m,_=>m
 | g::r,m,d=>if m ≥ 0 then fewGo r (fewG1 g m d) d else m
end
def fewGL (l:List Gl) (m d:Int):Int:=if d<1 then -1 else fewGo l m d

theorem fewG1_eq (g:Gl) (m d:Int):fewG1 g m d=fewGL g.c (fewGL g.b (fewGL g.a (g.t.few m 200) (d - 1)) (d - 1)) (d - 1):=by
 cases g; rw [fewG1]; rfl
def FwT (t:Tm):Prop:=∀ x e,e∈t.els x→e.2.s.size≤100

theorem few_b (t:Tm) {m:Int} (h0:-1≤m) (h1:m≤1000000):-1≤t.few m 200∧t.few m 200≤m∧(0≤t.few m 200→0≤m∧t.few m 200+t.size≤m∧FwT t):=by
 obtain ⟨a,b,c⟩:=few_bound t (m:=m) (d:=200) h0 (by omega) (by omega)
 refine ⟨a,b,fun h=>?_⟩
 obtain ⟨d,e⟩:=c h
 exact ⟨by omega,d,e⟩

theorem fewGL_b (l:List Gl):∀ (m d:Int),-1≤m→m≤1000000→-1≤fewGL l m d∧fewGL l m d≤max m (-1)∧(0≤fewGL l m d→0≤m∧fewGL l m d+Gl.sizeL l≤m∧allGL FwT l∧1≤d):=by
 refine Gl.indL (p:=fun l=>∀ (m d:Int),-1≤m→m≤1000000→-1≤fewGL l m d∧fewGL l m d≤max m (-1)∧(0≤fewGL l m d→0≤m∧fewGL l m d+Gl.sizeL l≤m∧allGL FwT l∧1≤d)) (fun l=>?_) l
 intro hsub
 have key:∀ (m d:Int),-1≤m→m≤1000000→-1≤fewGo l m d∧fewGo l m d≤m∧(0≤fewGo l m d→0≤m∧fewGo l m d+Gl.sizeL l≤m∧allGL FwT l):=by
  induction l with
  | nil=>intro m d h0 h1; simp only [fewGo,Gl.sizeL,allGL]; exact ⟨h0,Int.le_refl _,fun h=>⟨h,by omega,trivial⟩⟩
  | cons g r ih =>
   intro m d h0 h1
   obtain ⟨ga,gb,gc⟩:=hsub g (by simp)
   have ih:=ih fun x hx=>hsub x (by simp [hx])
   simp only [fewGo]
   split
   ·rename_i hm
    rw [fewG1_eq]
    obtain ⟨t1,t2,t3⟩:=few_b g.t h0 h1
    obtain ⟨a1,a2,a3⟩:=ga (g.t.few m 200) (d - 1) t1 (by omega)
    obtain ⟨b1,b2,b3⟩:=gb (fewGL g.a (g.t.few m 200) (d - 1)) (d - 1) a1 (by omega)
    obtain ⟨c1,c2,c3⟩:=gc (fewGL g.b (fewGL g.a (g.t.few m 200) (d - 1)) (d - 1)) (d - 1) b1 (by omega)
    generalize fewGL g.c (fewGL g.b (fewGL g.a (g.t.few m 200) (d - 1)) (d - 1)) (d - 1)=x3 at *
    generalize fewGL g.b (fewGL g.a (g.t.few m 200) (d - 1)) (d - 1)=x2 at *
    generalize fewGL g.a (g.t.few m 200) (d - 1)=x1 at *
    obtain ⟨r1,r2,r3⟩:=ih x3 d c1 (by omega)
    refine ⟨r1,by omega,fun h=>?_⟩
    obtain ⟨r4,r5,r6⟩:=r3 h
    obtain ⟨c4,c5,c6,_⟩:=c3 r4
    obtain ⟨b4,b5,b6,_⟩:=b3 c4
    obtain ⟨a4,a5,a6,_⟩:=a3 b4
    obtain ⟨t4,t5,t6⟩:=t3 a4
    refine ⟨by omega,?_,?_⟩
    ·simp only [Gl.sizeL]; rw [Gl.size_eq]; omega
    ·simp only [allGL]; exact ⟨(allG_eq FwT g).2 ⟨t6,a6,b6,c6⟩,r6⟩
   ·rename_i hm
    exact ⟨h0,Int.le_refl _,fun h=>by omega⟩
 intro m d h0 h1
 unfold fewGL
 split
 ·exact ⟨by omega,by omega,fun h=>by omega⟩
 ·obtain ⟨k1,k2,k3⟩:=key m d h0 h1
  exact ⟨k1,by omega,fun h=>⟨(k3 h).1,(k3 h).2.1,(k3 h).2.2,by omega⟩⟩
end PSL

namespace Go.Proofs.YtchhahnajgfeaaaDoor
open Go PSL Go.Proofs

theorem okW_right {t:Tm} (hf:t.Fit) (h:rightT t=true):OkW t:=by
 rw [rightT_eq,Tm.rightB,Bool.and_eq_true,Bool.and_eq_true] at h
 exact okW_of t h.1.1 hf

theorem writeT_right {t:Tm} (h:t.rightB=true):writeT t=if (textW t).length≤8000 then (textW t,0) else ([],3):=by
 have hw:=wputs_all (pcs t) []
 rw [List.nil_append] at hw
 rw [writeT,rightT_eq,if_pos h]
 by_cases hl:(textW t).length≤8000
 ·rw [if_pos hl,hw.1 hl]; exact if_pos hl
 ·have:=hw.2 (by simpa [textW] using hl)
  rw [if_neg (by omega),if_neg hl]

theorem writeT_wrong {t:Tm} (h:t.rightB=false):writeT t=([],1):=by
 rw [writeT,rightT_eq,if_neg (by simp [h])]

structure TmW (t:Tm):Prop where
 fit:t.Fit
 fw:FwT t
 size:t.size≤1000000

theorem writeW_ok (t:Tm) (h:TmW t):PCtr Tryd.prog 7 [t.av] (.tup [txA (writeT t).1,iV (writeT t).2]) :=
 writeTerm_ok t (by have:=h.size; omega) (fun e he=>by have:=h.fw 1 e he; omega) (okW_right h.fit)

set_option maxRecDepth 100000 in
theorem sure_ok (t:Tm) (h:TmW t):PCtr Tryd.prog 30 [t.av] (txA (sureB t)):=by
 refine PCtr.of_R (pf:=fun _=>.still) tyOk mixed Tryd.func30 rfl (by kernel_rfl) (by kernel_rfl) (by simp [Tryd.ntmps30]) fun w S hg=>?_
 refine R_run hg.ok 1000 rfl rfl ?_
 refine R_call hg.ok (writeW_ok t h) rfl rfl rfl rfl rfl rfl ?_
 refine R_run hg.ok 1000 rfl rfl ?_
 cases hr:t.rightB with
 | false =>
  rw [writeT_wrong hr]
  refine R_if rfl rfl (fun _=>?_) (fun h=>absurd h (by simp)) <;> refine R_run hg.ok 1000 rfl rfl ?_
  refine R_ret hg 5 rfl rfl ?_
  rw [sureB,hr]; rfl
 | true =>
  rw [writeT_right hr]
  by_cases hl:(textW t).length≤8000
  ·rw [if_pos hl]
   refine R_if rfl rfl (fun h=>absurd h (by simp)) (fun _=>?_) <;> refine R_run hg.ok 1000 rfl rfl ?_
   refine R_ret hg 5 rfl rfl ?_
   rw [sureB,hr,if_pos rfl,if_pos hl]; rfl
  ·rw [if_neg hl]
   refine R_if rfl rfl (fun _=>?_) (fun h=>absurd h (by simp)) <;> refine R_run hg.ok 1000 rfl rfl ?_
   refine R_ret hg 5 rfl rfl ?_
   rw [sureB,hr,if_pos rfl,if_neg hl]; rfl
theorem txRows_snoc (l:List Bs) (x:Bs):txRows l++[[D.v (.string (Tx x))]]=txRows (l++[x]):=by simp [txRows]; rfl
theorem txRows_len (l:List Bs):(txRows l).length=l.length:=by simp [txRows]
def GlW (l:List Gl):Prop:=(∀ g∈l,g.Ok)∧allGL FwT l∧Gl.sizeL l≤20000

theorem GlW.mem {l:List Gl} (h:GlW l) {g:Gl} (hg:g∈l):TmW g.t∧GlW g.a∧GlW g.b∧GlW g.c:=by
 obtain ⟨h1,h2,h3⟩:=h
 obtain ⟨f1,f2,f3,f4⟩:=allGL_mem h2 g hg
 have ho:=h1 g hg
 have hs:=Gl.size_mem hg
 have hse:=Gl.size_eq g
 exact ⟨⟨ho.tm.2,f1,by omega⟩,⟨ho.ma,f2,by omega⟩,⟨ho.mb,f3,by omega⟩,⟨ho.mc,f4,by omega⟩⟩

set_option maxRecDepth 100000 in
theorem goalW_ok (g:Gl) (ht:TmW g.t) (hs:g.size≤20000) (ha:PCtr Tryd.prog 14 [.d (.sl (Gl.rows g.a))] (txA (goalsB g.a))) (hb:PCtr Tryd.prog 14 [.d (.sl (Gl.rows g.b))] (txA (goalsB g.b))) (hc:PCtr Tryd.prog 14 [.d (.sl (Gl.rows g.c))] (txA (goalsB g.c))):PCtr Tryd.prog 28 [g.av] (txA (goalB g)):=by
 have hse:=Gl.size_eq g
 have la:=goalsB_len g.a
 have lb:=goalsB_len g.b
 have lc:=goalsB_len g.c
 refine PCtr.of_R (pf:=fun _=>.still) tyOk mixed Tryd.func28 rfl (by kernel_rfl) (by kernel_rfl) (by simp [Tryd.ntmps28]) fun w S hg=>?_
 refine R_run hg.ok 1000 rfl rfl ?_
 refine R_if rfl rfl (fun h=>?_) (fun h=>?_) <;> refine R_run hg.ok 1000 rfl rfl ?_
 ·have h:=of_decide_eq_true h
  refine R_call hg.ok (sure_ok g.t ht) rfl rfl rfl rfl rfl rfl ?_
  refine R_run hg.ok 1000 rfl rfl ?_
  refine R_ret hg 5 rfl rfl ?_
  rw [goalB_eq,if_pos (.inl h)]; rfl
 have h:=of_decide_eq_false h
 refine R_if rfl rfl (fun h2=>?_) (fun h2=>?_) <;> refine R_run hg.ok 1000 rfl rfl ?_
 ·have h2:=of_decide_eq_true h2
  refine R_call hg.ok (sure_ok g.t ht) rfl rfl rfl rfl rfl rfl ?_
  refine R_run hg.ok 1000 rfl rfl ?_
  refine R_ret hg 5 rfl rfl ?_
  rw [goalB_eq,if_pos (.inr h2)]; rfl
 have h2:=of_decide_eq_false h2
 refine R_if rfl rfl (fun h3=>?_) (fun h3=>?_) <;> refine R_run hg.ok 1000 rfl rfl ?_
 ·have h3:=of_decide_eq_true h3
  refine R_ret hg 5 rfl rfl ?_
  rw [goalB_eq,if_neg (by omega),if_pos h3]; rfl
 have h3:=of_decide_eq_false h3
 refine R_if rfl rfl (fun h4=>?_) (fun h4=>?_) <;> refine R_run hg.ok 1000 rfl rfl ?_
 ·have h4:=of_decide_eq_true h4
  refine R_call hg.ok (ha) rfl rfl rfl rfl rfl rfl ?_
  refine R_run hg.ok 1000 rfl rfl ?_
  refine R_concat hg.ok (Tx (40::goalsB g.a)) rfl rfl rfl rfl (by rw [Tx_size]; show 1+_≤_; omega) (Tx_app [40] _) ?_
  refine R_run hg.ok 1000 rfl rfl ?_
  refine R_concat hg.ok (Tx (40::goalsB g.a++[32,45,62,32])) rfl rfl rfl rfl (by rw [Tx_size]; show _+4≤_; simp only [List.length_cons]; omega) (Tx_app _ [32,45,62,32]) ?_
  refine R_run hg.ok 1000 rfl rfl ?_
  refine R_call hg.ok (hb) rfl rfl rfl rfl rfl rfl ?_
  refine R_run hg.ok 1000 rfl rfl ?_
  refine R_concat hg.ok (Tx (40::goalsB g.a++[32,45,62,32]++goalsB g.b)) rfl rfl rfl rfl (by rw [Tx_size,Tx_size]; simp only [List.length_append,List.length_cons,List.length_nil]; omega) (Tx_app _ _) ?_
  refine R_run hg.ok 1000 rfl rfl ?_
  refine R_concat hg.ok (Tx (40::goalsB g.a++[32,45,62,32]++goalsB g.b++[32,59,32])) rfl rfl rfl rfl (by rw [Tx_size]; show _+3≤_; simp only [List.length_append,List.length_cons,List.length_nil]; omega) (Tx_app _ [32,59,32]) ?_
  refine R_run hg.ok 1000 rfl rfl ?_
  refine R_call hg.ok (hc) rfl rfl rfl rfl rfl rfl ?_
  refine R_run hg.ok 1000 rfl rfl ?_
  refine R_concat hg.ok (Tx (40::goalsB g.a++[32,45,62,32]++goalsB g.b++[32,59,32]++goalsB g.c)) rfl rfl rfl rfl (by rw [Tx_size,Tx_size]; simp only [List.length_append,List.length_cons,List.length_nil]; omega) (Tx_app _ _) ?_
  refine R_run hg.ok 1000 rfl rfl ?_
  refine R_concat hg.ok (Tx (40::goalsB g.a++[32,45,62,32]++goalsB g.b++[32,59,32]++goalsB g.c++[41])) rfl rfl rfl rfl (by rw [Tx_size]; show _+1≤_; simp only [List.length_append,List.length_cons,List.length_nil]; omega) (Tx_app _ [41]) ?_
  refine R_run hg.ok 1000 rfl rfl ?_
  refine R_ret hg 5 rfl rfl ?_
  rw [goalB_eq,if_neg (by omega),if_neg h3,if_pos h4]; simp; rfl
 have h4:=of_decide_eq_false h4
 refine R_if rfl rfl (fun h5=>?_) (fun h5=>?_) <;> refine R_run hg.ok 1000 rfl rfl ?_
 ·have h5:=of_decide_eq_true h5
  refine R_call hg.ok (ha) rfl rfl rfl rfl rfl rfl ?_
  refine R_run hg.ok 1000 rfl rfl ?_
  refine R_concat hg.ok (Tx ([92,43,32,40]++goalsB g.a)) rfl rfl rfl rfl (by rw [Tx_size]; show 4+_≤_; omega) (Tx_app [92,43,32,40] _) ?_
  refine R_run hg.ok 1000 rfl rfl ?_
  refine R_concat hg.ok (Tx ([92,43,32,40]++goalsB g.a++[41])) rfl rfl rfl rfl (by rw [Tx_size]; show _+1≤_; simp only [List.length_append,List.length_cons,List.length_nil]; omega) (Tx_app _ [41]) ?_
  refine R_run hg.ok 1000 rfl rfl ?_
  refine R_ret hg 5 rfl rfl ?_
  rw [goalB_eq,if_neg (by omega),if_neg h3,if_neg h4,if_pos h5]; simp; rfl
 ·have h5:=of_decide_eq_false h5
  refine R_ret hg 5 rfl rfl ?_
  rw [goalB_eq,if_neg (by omega),if_neg h3,if_neg h4,if_neg h5]; rfl

set_option maxRecDepth 100000 in
theorem goalsW_ok (l:List Gl):GlW l→PCtr Tryd.prog 14 [.d (.sl (Gl.rows l))] (txA (goalsB l)):=by
 refine Gl.indL (p:=fun l=>GlW l→PCtr Tryd.prog 14 [.d (.sl (Gl.rows l))] (txA (goalsB l))) (fun l hsub=>?_) l
 intro hw
 have hrl:=Gl.rows_length l
 have hlen:=goalsB_len l
 have hs3:=hw.2.2
 have hls:=Gl.len_size l
 refine PCtr.of_R (pf:=fun _=>.still) tyOk mixed Tryd.func14 rfl (by kernel_rfl) (by kernel_rfl) (by simp [Tryd.ntmps14]) fun w S hg=>?_
 refine R_run hg.ok 1000 rfl rfl ?_
 refine R_if rfl rfl (fun h=>?_) (fun h=>?_) <;> refine R_run hg.ok 1000 rfl rfl ?_
 ·have h:=of_decide_eq_true h
  have h3:l=[]:=by
   rw [hrl] at h
   exact List.eq_nil_of_length_eq_zero (by omega)
  refine R_ret hg 5 rfl rfl ?_
  rw [h3]; rfl
 have h:=of_decide_eq_false h
 have hne:l≠[]:=fun e=>by rw [hrl,e] at h; simp at h
 refine R_own 3 1 rfl rfl ?_
 refine R_loop (fun k:Nat=>([(3,.ow 0 k),(9,.d (.sl (Gl.rows l))),(10,iV l.length),(11,iV k)],[.arr 1 k (txRows ((l.take k).map goalB))])) (fun k=>k≤l.length) (fun k=>l.length - k) 0 (Nat.zero_le _) ⟨.refl _,.refl _,by rw [hrl]; exact .refl _,.refl _,trivial⟩ rfl ?_
 intro k hk
 have hml:(txRows ((l.take k).map goalB)).length=k:=by rw [txRows_len,List.length_map,List.length_take]; omega
 refine R_run hg.ok 1000 rfl rfl ?_
 refine R_if rfl rfl (fun h=>?_) (fun h=>?_)
 ·refine R_run hg.ok 1000 rfl rfl ?_
  have hk1:k<l.length:=lt_dec h rfl
  have e1:l[k]? = some l[k]:=List.getElem?_eq_getElem hk1
  obtain ⟨w1,w2,w3,w4⟩:=hw.mem (List.getElem_mem hk1)
  obtain ⟨s1,s2,s3⟩:=hsub _ (List.getElem_mem hk1)
  have hgs:=Gl.size_mem (List.getElem_mem hk1)
  refine R_index hg.ok rfl rfl rfl rfl rfl rfl (Int.natCast_nonneg _) (Gl.rows_get e1) rfl ?_
  refine R_run hg.ok 1000 rfl rfl ?_
  refine R_call hg.ok (goalW_ok l[k] w1 (by omega) (s1 w2) (s2 w3) (s3 w4)) rfl rfl rfl rfl rfl rfl ?_
  refine R_run hg.ok 1000 rfl rfl ?_
  refine R_appendO hg.ok (txRows ((l.take (k+1)).map goalB)) rfl rfl rfl rfl rfl rfl rfl rfl rfl (by simp) (by simp [one1]) (by rw [txRows_snoc,← List.map_singleton,← List.map_append,List.take_append_getElem hk1]) (by rw [hml]; simp; omega) (by rw [hml]; simp; omega) ?_
  refine R_run hg.ok 1000 rfl rfl ?_
  refine R_dropO 1 [.arr 1 (Nat.succ k) (txRows ((l.take (k+1)).map goalB))] (Nat.zero_le _) rfl rfl ?_
  exact R_next (k+1) hk1 (by omega) ⟨.refl _,.refl _,.refl _,Ent.wrap (by omega) (by omega) (by omega),trivial⟩ rfl
 ·have hk1:l.length≤k:=ge_dec h rfl
  rw [List.take_of_length_le hk1]
  refine R_freezeO hg.gup 0 [(3,.d (.sl (txRows (l.map goalB)))),(12,.ff)] [.dead] rfl rfl ⟨Ent.frz 0 k _,.refl _,trivial⟩ ⟨by simp [ObIn],trivial⟩ ?_
  refine R_run hg.ok 1000 rfl rfl ?_
  refine R_call hg.ok (join_ok (l.map goalB) [44,32] (by rw [List.length_map]; omega) (by rw [join_goals l hne]; omega)) rfl rfl rfl rfl rfl rfl ?_
  refine R_run hg.ok 1000 rfl rfl ?_
  refine R_ret hg 5 rfl rfl ?_
  rw [join_goals l hne]; rfl

set_option maxRecDepth 100000 in
theorem clauseW_ok (h:Tm) (l:List Gl) (v:Int) (hh:TmW h) (hw:GlW l):PCtr Tryd.prog 15 [Cs.av ⟨h,l,v⟩] (txA (clauseB h l)):=by
 have hrl:=Gl.rows_length l
 have hlen:=goalsB_len l
 have hs3:=hw.2.2
 have hsl:=sureB_len h
 refine PCtr.of_R (pf:=fun _=>.still) tyOk mixed Tryd.func15 rfl (by kernel_rfl) (by kernel_rfl) (by simp [Tryd.ntmps15]) fun w S hg=>?_
 refine R_run hg.ok 1000 rfl rfl ?_
 refine R_if rfl rfl (fun h2=>?_) (fun h2=>?_) <;> refine R_run hg.ok 1000 rfl rfl ?_
 ·have h2:=of_decide_eq_true h2
  have h3:l=[]:=by
   rw [hrl] at h2
   exact List.eq_nil_of_length_eq_zero (by omega)
  refine R_call hg.ok (sure_ok h hh) rfl rfl rfl rfl rfl rfl ?_
  refine R_run hg.ok 1000 rfl rfl ?_
  refine R_concat hg.ok (Tx (sureB h++[46])) rfl rfl rfl rfl (by rw [Tx_size]; show _+1≤_; omega) (Tx_app _ [46]) ?_
  refine R_run hg.ok 1000 rfl rfl ?_
  refine R_ret hg 5 rfl rfl ?_
  rw [h3]; rfl
 have h2:=of_decide_eq_false h2
 have hne:l.isEmpty=false:=by cases l with
  | nil=>exact absurd rfl h2
  | cons x r=>rfl
 refine R_call hg.ok (sure_ok h hh) rfl rfl rfl rfl rfl rfl ?_
 refine R_run hg.ok 1000 rfl rfl ?_
 refine R_concat hg.ok (Tx (sureB h++[32,58,45,32])) rfl rfl rfl rfl (by rw [Tx_size]; show _+4≤_; omega) (Tx_app _ [32,58,45,32]) ?_
 refine R_run hg.ok 1000 rfl rfl ?_
 refine R_call hg.ok (goalsW_ok l hw) rfl rfl rfl rfl rfl rfl ?_
 refine R_run hg.ok 1000 rfl rfl ?_
 refine R_concat hg.ok (Tx (sureB h++[32,58,45,32]++goalsB l)) rfl rfl rfl rfl (by rw [Tx_size,Tx_size]; simp only [List.length_append,List.length_cons,List.length_nil]; omega) (Tx_app _ _) ?_
 refine R_run hg.ok 1000 rfl rfl ?_
 refine R_concat hg.ok (Tx (sureB h++[32,58,45,32]++goalsB l++[46])) rfl rfl rfl rfl (by rw [Tx_size]; show _+1≤_; simp only [List.length_append,List.length_cons,List.length_nil]; omega) (Tx_app _ [46]) ?_
 refine R_run hg.ok 1000 rfl rfl ?_
 refine R_ret hg 5 rfl rfl ?_
 rw [clauseB,hne]; simp; rfl
end Go.Proofs.YtchhahnajgfeaaaDoor

namespace Go.Proofs.YtchhahnajgfeaaaDoor
open Go PSL Go.Proofs
end Go.Proofs.YtchhahnajgfeaaaDoor

namespace Go.Proofs.YtchhahnajgfeaaaDoor
open Go PSL Go.Proofs
def boxR (t:Tm):Ob:=.box [.d (.v (.int .i64 t.k)),.d (.v (.string t.s)),.d (.v (.int .i64 t.n)),.d (.sl (Tm.rows t.l))]
end Go.Proofs.YtchhahnajgfeaaaDoor

namespace Go.Proofs.YtchhahnajgfeaaaDoor
open Go PSL Go.Proofs

set_option maxRecDepth 100000 in
theorem refSize_ok (t:Tm):t.size<1000000000→PCtr Tryd.prog 22 [t.av] (iV t.size):=by
 induction t using Tm.ind with
 | _ t ih =>
 intro hsz
 refine PCtr.of_R (pf:=fun _=>.still) tyOk mixed Tryd.func22 rfl (by kernel_rfl) (by kernel_rfl) (by simp [Tryd.ntmps22]) fun w S hg=>?_
 refine R_run hg.ok 1000 rfl rfl ?_
 refine R_loop (fun x:Nat × Nat=>([(1,.lo 0 0),(3,iV x.2),(4,iV x.1)],[boxR t])) (fun x=>x.1≤t.l.length∧t.size=x.2+Tm.sizeL (t.l.drop x.1)) (fun x=>t.l.length - x.1) (0,1) ⟨Nat.zero_le _,Tm.size_eq t⟩ ⟨.refl _,.refl _,.refl _,trivial⟩ rfl ?_
 rintro ⟨k,m⟩ ⟨hk,hm⟩
 simp only at hk hm
 have hl:=Tm.len_le_sizeL t.l
 have hs:=Tm.size_eq t
 refine R_run hg.ok 1000 rfl rfl ?_
 refine R_if rfl rfl (fun h=>?_) (fun h=>?_) <;> refine R_run hg.ok 1000 rfl rfl ?_
 ·have hk1:k<t.l.length:=lt_dec h (by rw [Tm.rows_length])
  have e1:t.l[k]? = some t.l[k]:=List.getElem?_eq_getElem hk1
  rw [List.drop_eq_getElem_cons hk1,Tm.sizeL] at hm
  refine R_index hg.ok rfl rfl rfl rfl rfl rfl (Int.natCast_nonneg k) (Tm.rows_get e1) rfl ?_
  refine R_run hg.ok 1000 rfl rfl ?_
  refine R_call hg.ok (ih _ (List.getElem_mem hk1) (by omega)) rfl rfl rfl rfl rfl rfl ?_
  refine R_run hg.ok 1000 rfl rfl ?_
  exact R_next (k+1,m+t.l[k].size) ⟨hk1,by simp only; omega⟩ (by simp only; omega) ⟨.refl _,Ent.wrap (by omega) (by omega) (by omega),Ent.wrap (by omega) (by omega) (by omega),trivial⟩ rfl
 ·have hk1:t.l.length≤k:=ge_dec h (by rw [Tm.rows_length])
  refine R_ret hg 5 rfl rfl ?_
  rw [List.drop_eq_nil_of_le hk1,Tm.sizeL] at hm
  simp only [hm,Nat.add_zero]; rfl

set_option maxRecDepth 100000 in
theorem refDeep_ok (t:Tm):t.size<1000000000→PCtr Tryd.prog 23 [t.av] (iV t.depth):=by
 induction t using Tm.ind with
 | _ t ih =>
 intro hsz
 refine PCtr.of_R (pf:=fun _=>.still) tyOk mixed Tryd.func23 rfl (by kernel_rfl) (by kernel_rfl) (by simp [Tryd.ntmps23]) fun w S hg=>?_
 refine R_run hg.ok 1000 rfl rfl ?_
 refine R_loop (fun x:Nat × Nat=>([(1,.lo 0 0),(3,iV x.2),(4,iV x.1)],[boxR t])) (fun x=>x.1≤t.l.length∧Tm.depthL t.l=max x.2 (Tm.depthL (t.l.drop x.1))) (fun x=>t.l.length - x.1) (0,0) ⟨Nat.zero_le _,by simp⟩ ⟨.refl _,.refl _,.refl _,trivial⟩ rfl ?_
 rintro ⟨k,m⟩ ⟨hk,hm⟩
 simp only at hk hm
 have hl:=Tm.len_le_sizeL t.l
 have hs:=Tm.size_eq t
 have hd:=Tm.depth_eq t
 have hds:=Tm.depth_le_size t
 refine R_run hg.ok 1000 rfl rfl ?_
 refine R_if rfl rfl (fun h=>?_) (fun h=>?_) <;> refine R_run hg.ok 1000 rfl rfl ?_
 ·have hk1:k<t.l.length:=lt_dec h (by rw [Tm.rows_length])
  have e1:t.l[k]? = some t.l[k]:=List.getElem?_eq_getElem hk1
  have hsm:=Tm.size_mem (List.getElem_mem hk1)
  rw [List.drop_eq_getElem_cons hk1,Tm.depthL] at hm
  refine R_index hg.ok rfl rfl rfl rfl rfl rfl (Int.natCast_nonneg k) (Tm.rows_get e1) rfl ?_
  refine R_run hg.ok 1000 rfl rfl ?_
  refine R_call hg.ok (ih _ (List.getElem_mem hk1) (by omega)) rfl rfl rfl rfl rfl rfl ?_
  refine R_run hg.ok 1000 rfl rfl ?_
  refine R_if rfl rfl (fun h=>?_) (fun h=>?_) <;> refine R_run hg.ok 1000 rfl rfl ?_
  ·have h:=of_decide_eq_true h
   exact R_next (k+1,t.l[k].depth) ⟨hk1,by simp only; omega⟩ (by simp only; omega) ⟨.refl _,.refl _,Ent.wrap (by omega) (by omega) (by omega),trivial⟩ rfl
  ·have h:=of_decide_eq_false h
   exact R_next (k+1,m) ⟨hk1,by simp only; omega⟩ (by simp only; omega) ⟨.refl _,.refl _,Ent.wrap (by omega) (by omega) (by omega),trivial⟩ rfl
 ·have hk1:t.l.length≤k:=ge_dec h (by rw [Tm.rows_length])
  refine R_ret hg 5 rfl rfl ?_
  rw [List.drop_eq_nil_of_le hk1,Tm.depthL] at hm
  rw [w64 (by omega) (by omega),hd,hm]; simp [iV]

set_option maxRecDepth 100000 in
theorem fair_ok (t:Tm):t.size<1000000000→(∀ x e,e∈t.els x→e.2.s.size<1000000000)→PCtr Tryd.prog 21 [t.av] (bV t.fairR):=by
 induction t using Tm.ind with
 | _ t ih =>
 intro hsz hns
 have hn0:t.s.size<1000000000:=hns 0 (0,t) (by rw [Tm.els_eq]; simp)
 have hl:=Tm.len_le_sizeL t.l
 have hs:=Tm.size_eq t
 refine PCtr.of_R (pf:=fun _=>.still) tyOk mixed Tryd.func21 rfl (by kernel_rfl) (by kernel_rfl) (by simp [Tryd.ntmps21]) fun w S hg=>?_
 refine R_run hg.ok 1000 rfl rfl ?_
 refine R_loop (fun k:Nat=>([(1,.lo 0 0),(3,iV k)],[boxR t])) (fun k=>k≤t.s.size∧∀ i (hi:i<t.s.size),i<k→byteOk t.s[i]=true) (fun k=>t.s.size - k) 0 ⟨Nat.zero_le _,fun i _ h=>absurd h (Nat.not_lt_zero _)⟩ ⟨.refl _,.refl _,trivial⟩ rfl ?_
 intro k hk
 refine R_run hg.ok 1000 rfl rfl ?_
 refine R_if rfl rfl (fun h=>?_) (fun h=>?_) <;> refine R_run hg.ok 1000 rfl rfl ?_
 ·have hk1:=lt_dec (n:=t.s.size) h rfl
  refine R_indexS hg.ok rfl rfl rfl rfl rfl (Int.natCast_nonneg k) (byte_atK hk1) ?_
  refine R_run hg.ok 1000 rfl rfl ?_
  have bad:byteOk t.s[k]=false→t.fairR=false:=fun h=>by rw [Tm.fairR_eq,not_all_bytes hk1 h]; rfl
  refine R_if rfl rfl (fun h2=>?_) (fun h2=>?_) <;> refine R_run hg.ok 1000 rfl rfl ?_
  ·refine R_ret hg 5 rfl rfl ?_
   rw [bad (by unfold byteOk; rw [h2]; rfl)]; rfl
  refine R_indexS hg.ok rfl rfl rfl rfl rfl (Int.natCast_nonneg k) (byte_atK hk1) ?_
  refine R_run hg.ok 1000 rfl rfl ?_
  refine R_if rfl rfl (fun h3=>?_) (fun h3=>?_) <;> refine R_run hg.ok 1000 rfl rfl ?_
  ·refine R_ret hg 5 rfl rfl ?_
   rw [bad (by unfold byteOk; rw [h3]; simp)]; rfl
  refine R_next (k+1) ⟨hk1,fun i hi hik=>?_⟩ (by omega) ⟨.refl _,Ent.wrap (by omega) (by omega) (by omega),trivial⟩ rfl
  rcases Nat.lt_or_ge i k with h | h
  ·exact hk.2 i hi h
  ·have:i=k:=by omega
   subst this
   unfold byteOk; rw [h2,h3]; rfl
 have hk1:=ge_dec (n:=t.s.size) h rfl
 have hall:t.s.data.toList.all byteOk=true:=all_bytes fun i hi=>hk.2 i hi (by omega)
 refine R_loop (fun k:Nat=>([(1,.lo 0 0),(4,iV k)],[boxR t])) (fun k=>k≤t.l.length∧Tm.fairRL t.l=Tm.fairRL (t.l.drop k)) (fun k=>t.l.length - k) 0 ⟨Nat.zero_le _,rfl⟩ ⟨.refl _,.refl _,trivial⟩ rfl ?_
 rintro k ⟨hk,hm⟩
 refine R_run hg.ok 1000 rfl rfl ?_
 refine R_if rfl rfl (fun h=>?_) (fun h=>?_) <;> refine R_run hg.ok 1000 rfl rfl ?_
 ·have hk1:k<t.l.length:=lt_dec h (by rw [Tm.rows_length])
  have e1:t.l[k]? = some t.l[k]:=List.getElem?_eq_getElem hk1
  have hsm:=Tm.size_mem (List.getElem_mem hk1)
  rw [List.drop_eq_getElem_cons hk1,Tm.fairRL] at hm
  refine R_index hg.ok rfl rfl rfl rfl rfl rfl (Int.natCast_nonneg k) (Tm.rows_get e1) rfl ?_
  refine R_run hg.ok 1000 rfl rfl ?_
  refine R_call hg.ok (ih _ (List.getElem_mem hk1) (by omega) (fun x e he=>hns (x - 1) e (by rw [Tm.els_eq]; exact List.mem_cons_of_mem _ (Tm.els_memL (List.getElem_mem hk1) (by rw [Int.sub_add_cancel]; exact he))))) rfl rfl rfl rfl rfl rfl ?_
  refine R_run hg.ok 1000 rfl rfl ?_
  refine R_if rfl rfl (fun h=>?_) (fun h=>?_) <;> refine R_run hg.ok 1000 rfl rfl ?_
  ·refine R_ret hg 5 rfl rfl ?_
   rw [Tm.fairR_eq,hm]; simp_all [bV]
  ·refine R_next (k+1) ⟨hk1,?_⟩ (by omega) ⟨.refl _,Ent.wrap (by omega) (by omega) (by omega),trivial⟩ rfl
   rw [hm]; simp_all
 have hk1:t.l.length≤k:=ge_dec h (by rw [Tm.rows_length])
 rw [List.drop_eq_nil_of_le hk1,Tm.fairRL] at hm
 iterate 12
  all_goals try (refine R_if rfl rfl (fun _=>?_) (fun _=>?_) <;> refine R_run hg.ok 1000 rfl rfl ?_)
 all_goals refine R_ret hg 5 rfl rfl ?_
 all_goals (rw [Tm.fairR_eq,hall,hm]; unfold Tm.kindR)
 all_goals (simp only [Tm.rows_length,beq_iff_eq,beq_eq_false_iff_ne,ne_eq,decide_eq_true_eq,decide_eq_false_iff_not] at *)
 all_goals (simp_all [bV])
 all_goals (intros; omega)

set_option maxRecDepth 100000 in
theorem refRight_ok (t:Tm) (hsz:t.size<1000000000) (hns:∀ x e,e∈t.els x→e.2.s.size<1000000000):PCtr Tryd.prog 8 [t.av] (bV t.rightB):=by
 refine PCtr.of_R (pf:=fun _=>.still) tyOk mixed Tryd.func8 rfl (by kernel_rfl) (by kernel_rfl) (by simp [Tryd.ntmps8]) fun w S hg=>?_
 refine R_run hg.ok 1000 rfl rfl ?_
 refine R_call hg.ok (fair_ok t hsz hns) rfl rfl rfl rfl rfl rfl ?_
 refine R_run hg.ok 1000 rfl rfl ?_
 refine R_if rfl rfl (fun _=>?_) (fun _=>?_) <;> refine R_run hg.ok 1000 rfl rfl ?_
 ·refine R_call hg.ok (refSize_ok t hsz) rfl rfl rfl rfl rfl rfl ?_
  refine R_run hg.ok 1000 rfl rfl ?_
  refine R_if rfl rfl (fun _=>?_) (fun _=>?_) <;> refine R_run hg.ok 1000 rfl rfl ?_
  ·refine R_call hg.ok (refDeep_ok t hsz) rfl rfl rfl rfl rfl rfl ?_
   refine R_run hg.ok 1000 rfl rfl ?_
   refine R_ret hg 5 rfl rfl ?_
   simp only [decide_eq_true_eq] at *
   unfold Tm.rightB
   show bV _=bV _
   congr 1
   rw [Bool.eq_iff_iff]
   simp_all
   omega
  ·refine R_ret hg 5 rfl rfl ?_
   simp only [decide_eq_false_iff_not] at *
   unfold Tm.rightB
   simp_all [bV]
   intros; omega
 ·refine R_ret hg 5 rfl rfl ?_
  unfold Tm.rightB
  simp_all [bV]

set_option maxRecDepth 100000 in
theorem few_ok (t:Tm):t.Ok→∀ m d:Int,PCtr Tryd.prog 11 [t.av,iV m,iV d] (iV (t.few m d)):=by
 induction t using Tm.ind with
 | _ t ih =>
 intro hok m d
 refine PCtr.of_R (pf:=fun _=>.still) tyOk mixed Tryd.func11 rfl (by kernel_rfl) (by kernel_rfl) (by simp [Tryd.ntmps11]) fun w S hg=>?_
 refine R_run hg.ok 1000 rfl rfl ?_
 iterate 3
  refine R_if rfl rfl (fun _=>?_) (fun _=>?_) <;> refine R_run hg.ok 1000 rfl rfl ?_
  ·refine R_ret hg 5 rfl rfl ?_
   rw [Tm.few_eq,if_pos (by simp_all [Tm.fewStep])]; rfl
 have hfs:Tm.fewStep t.s m d=false:=by simp_all [Tm.fewStep]
 have hlen:=hok.len
 refine R_loop (fun x:Nat × Int=>([(1,iV x.2),(2,iV d),(3,.lo 0 0),(7,iV x.1)],[boxR t])) (fun x=>x.1≤t.l.length∧t.few m d=Tm.fewL (t.l.drop x.1) x.2 (IntKind.i64.wrap (d - 1))) (fun x=>t.l.length - x.1) (0,IntKind.i64.wrap (m - 1)) ⟨Nat.zero_le _,by rw [Tm.few_eq,hfs]; rfl⟩ ⟨.refl _,.refl _,.refl _,.refl _,trivial⟩ rfl ?_
 rintro ⟨k,q⟩ ⟨hk,hm⟩
 simp only at hk hm
 refine R_run hg.ok 1000 rfl rfl ?_
 refine R_if rfl rfl (fun h=>?_) (fun h=>?_) <;> refine R_run hg.ok 1000 rfl rfl ?_
 ·have hk1:k<t.l.length:=lt_dec h (by rw [Tm.rows_length])
  have e1:t.l[k]? = some t.l[k]:=List.getElem?_eq_getElem hk1
  rw [List.drop_eq_getElem_cons hk1,Tm.fewL] at hm
  refine R_if rfl rfl (fun h2=>?_) (fun h2=>?_) <;> refine R_run hg.ok 1000 rfl rfl ?_
  ·rw [if_pos (of_decide_eq_true h2)] at hm
   refine R_index hg.ok rfl rfl rfl rfl rfl rfl (Int.natCast_nonneg k) (Tm.rows_get e1) rfl ?_
   refine R_run hg.ok 1000 rfl rfl ?_
   refine R_call hg.ok (ih _ (List.getElem_mem hk1) (hok.sub (List.getElem_mem hk1)) _ _) rfl rfl rfl rfl rfl rfl ?_
   refine R_run hg.ok 1000 rfl rfl ?_
   exact R_next (k+1,t.l[k].few q (IntKind.i64.wrap (d - 1))) ⟨hk1,hm⟩ (by simp only; omega) ⟨.refl _,.refl _,.refl _,Ent.wrap (by simp only; omega) (by simp only; omega) (by simp only; omega),trivial⟩ rfl
  ·rw [if_neg (of_decide_eq_false h2)] at hm
   refine R_ret hg 5 rfl rfl ?_
   rw [hm]; rfl
 ·have hk1:t.l.length≤k:=ge_dec h (by rw [Tm.rows_length])
  refine R_ret hg 5 rfl rfl ?_
  rw [List.drop_eq_nil_of_le hk1,Tm.fewL] at hm
  rw [hm]; rfl
end Go.Proofs.YtchhahnajgfeaaaDoor

namespace Go.Proofs.YtchhahnajgfeaaaDoor
open Go PSL Go.Proofs

set_option maxRecDepth 100000 in
theorem refFewW_ok (l:List Gl):∀ (m d:Int),(∀ g∈l,g.Ok)→l.length≤140737488355328→-1000≤d∧d≤1000→PCtr Tryd.prog 10 [.d (.sl (Gl.rows l)),iV m,iV d] (iV (fewGL l m d)):=by
 refine Gl.indL (p:=fun l=>∀ (m d:Int),(∀ g∈l,g.Ok)→l.length≤140737488355328→-1000≤d∧d≤1000→PCtr Tryd.prog 10 [.d (.sl (Gl.rows l)),iV m,iV d] (iV (fewGL l m d))) (fun l hsub=>?_) l
 intro m d hok hlen hd0
 have hrl:=Gl.rows_length l
 refine PCtr.of_R (pf:=fun _=>.still) tyOk mixed Tryd.func10 rfl (by kernel_rfl) (by kernel_rfl) (by simp [Tryd.ntmps10]) fun w S hg=>?_
 refine R_run hg.ok 1000 rfl rfl ?_
 by_cases hd:d<1
 ·refine R_if rfl rfl (fun _=>?_) (fun h=>absurd (of_decide_eq_false h) (by omega)) <;> refine R_run hg.ok 1000 rfl rfl ?_
  refine R_ret hg 5 rfl rfl ?_
  unfold fewGL; rw [if_pos hd]; rfl
 refine R_if rfl rfl (fun h=>absurd (of_decide_eq_true h) (by omega)) (fun _=>?_) <;> refine R_run hg.ok 1000 rfl rfl ?_
 have hfe:fewGL l m d=fewGo l m d:=by unfold fewGL; rw [if_neg hd]
 rw [hfe]
 have hwd:IntKind.i64.wrap (d - 1)=d - 1:=w64 (by omega) (by omega)
 refine R_loop (fun x:Nat × Int=>([(0,.d (.sl (Gl.rows l))),(1,iV x.2),(2,iV d),(7,iV x.1)],[])) (fun x=>x.1≤l.length∧fewGo l m d=fewGo (l.drop x.1) x.2 d) (fun x=>l.length - x.1) (0,m) ⟨Nat.zero_le _,rfl⟩ ⟨.refl _,.refl _,.refl _,.refl _,trivial⟩ rfl ?_
 rintro ⟨k,q⟩ ⟨hk,hm⟩
 have hm:fewGo l m d=fewGo (l.drop k) q d:=hm
 have hk:k≤l.length:=hk
 refine R_run hg.ok 1000 rfl rfl ?_
 refine R_if rfl rfl (fun h=>?_) (fun h=>?_) <;> refine R_run hg.ok 1000 rfl rfl ?_
 rotate_left
 ·have hk1:l.length≤k:=ge_dec h (by rw [hrl])
  refine R_ret hg 5 rfl rfl ?_
  rw [hm,List.drop_eq_nil_of_le hk1]; rfl
 have hk1:k<l.length:=lt_dec h (by rw [hrl])
 have e1:l[k]? = some l[k]:=List.getElem?_eq_getElem hk1
 have hmem:=List.getElem_mem hk1
 rw [List.drop_eq_getElem_cons hk1,fewGo] at hm
 generalize l[k]=g at e1 hm hmem
 obtain ⟨sa,sb,sc⟩:=hsub g hmem
 have ho:=hok g hmem
 refine R_if rfl rfl (fun h2=>?_) (fun h2=>?_) <;> refine R_run hg.ok 1000 rfl rfl ?_
 ·rw [if_pos (of_decide_eq_true h2),fewG1_eq] at hm
  refine R_index hg.ok rfl rfl rfl rfl rfl rfl (Int.natCast_nonneg _) (Gl.rows_get e1) rfl ?_
  refine R_run hg.ok 1000 rfl rfl ?_
  refine R_call hg.ok (few_ok g.t ho.tm.1 q 200) rfl rfl rfl rfl rfl rfl ?_
  refine R_run hg.ok 1000 rfl rfl ?_
  refine R_index hg.ok rfl rfl rfl rfl rfl rfl (Int.natCast_nonneg _) (Gl.rows_get e1) rfl ?_
  refine R_run hg.ok 1000 rfl rfl ?_
  rw [hwd]
  refine R_call hg.ok (sa (g.t.few q 200) (d - 1) ho.ma ho.la (by omega)) rfl rfl rfl rfl rfl rfl ?_
  refine R_run hg.ok 1000 rfl rfl ?_
  refine R_index hg.ok rfl rfl rfl rfl rfl rfl (Int.natCast_nonneg _) (Gl.rows_get e1) rfl ?_
  refine R_run hg.ok 1000 rfl rfl ?_
  rw [hwd]
  refine R_call hg.ok (sb (fewGL g.a (g.t.few q 200) (d - 1)) (d - 1) ho.mb ho.lb (by omega)) rfl rfl rfl rfl rfl rfl ?_
  refine R_run hg.ok 1000 rfl rfl ?_
  refine R_index hg.ok rfl rfl rfl rfl rfl rfl (Int.natCast_nonneg _) (Gl.rows_get e1) rfl ?_
  refine R_run hg.ok 1000 rfl rfl ?_
  rw [hwd]
  refine R_call hg.ok (sc (fewGL g.b (fewGL g.a (g.t.few q 200) (d - 1)) (d - 1)) (d - 1) ho.mc ho.lc (by omega)) rfl rfl rfl rfl rfl rfl ?_
  refine R_run hg.ok 1000 rfl rfl ?_
  exact R_next (k+1,fewGL g.c (fewGL g.b (fewGL g.a (g.t.few q 200) (d - 1)) (d - 1)) (d - 1)) ⟨hk1,hm⟩ (by simp only; omega) ⟨.refl _,.refl _,.refl _,Ent.wrap (by simp only; omega) (by simp only; omega) (by simp only; omega),trivial⟩ rfl
 ·rw [if_neg (of_decide_eq_false h2)] at hm
  refine R_ret hg 5 rfl rfl ?_
  rw [hm]; rfl

set_option maxRecDepth 100000 in
theorem refSureW_ok (t:Tm) (h:TmW t):PCtr Tryd.prog 12 [t.av] (txA (sureB t)):=by
 refine PCtr.of_R (pf:=fun _=>.still) tyOk mixed Tryd.func12 rfl (by kernel_rfl) (by kernel_rfl) (by simp [Tryd.ntmps12]) fun w S hg=>?_
 refine R_run hg.ok 1000 rfl rfl ?_
 refine R_call hg.ok (refRight_ok t (by have:=h.size; omega) (fun x e he=>by have:=h.fw x e he; omega)) rfl rfl rfl rfl rfl rfl ?_
 refine R_run hg.ok 1000 rfl rfl ?_
 cases hr:t.rightB with
 | false =>
  refine R_if rfl rfl (fun _=>?_) (fun h=>absurd h (by simp [hr])) <;> refine R_run hg.ok 1000 rfl rfl ?_
  refine R_ret hg 5 rfl rfl ?_
  rw [sureB,hr]; rfl
 | true =>
  have hf:t.fairR=true:=by rw [Tm.rightB,Bool.and_eq_true,Bool.and_eq_true] at hr; exact hr.1.1
  have how:=okW_of t hf h.fit
  have hpl:=(pcs_len t how).1
  have hsz:t.size≤3000:=by rw [Tm.rightB,Bool.and_eq_true,Bool.and_eq_true] at hr; exact of_decide_eq_true hr.1.2
  refine R_if rfl rfl (fun h=>absurd h (by simp [hr])) (fun _=>?_) <;> refine R_run hg.ok 1000 rfl rfl ?_
  refine R_call hg.ok (refW_ok hf how (by simp only [textW] at hpl; omega)) rfl rfl rfl rfl rfl rfl ?_
  refine R_run hg.ok 1000 rfl rfl ?_
  have htx:(pcs t).flatten=textW t:=rfl
  rw [htx]
  by_cases hl:(textW t).length≤8000
  ·refine R_if rfl rfl (fun h=>absurd h (by rw [Tx_size]; simp; omega)) (fun _=>?_) <;> refine R_run hg.ok 1000 rfl rfl ?_
   refine R_ret hg 5 rfl rfl ?_
   rw [sureB,hr,if_pos rfl,if_pos hl]; rfl
  ·refine R_if rfl rfl (fun _=>?_) (fun h=>absurd h (by rw [Tx_size]; simp; omega)) <;> refine R_run hg.ok 1000 rfl rfl ?_
   refine R_ret hg 5 rfl rfl ?_
   rw [sureB,hr,if_pos rfl,if_neg hl]; rfl

set_option maxRecDepth 100000 in
theorem refGoalW_ok (g:Gl) (ht:TmW g.t) (hs:g.size≤20000) (ha:PCtr Tryd.prog 13 [.d (.sl (Gl.rows g.a))] (txA (goalsB g.a))) (hb:PCtr Tryd.prog 13 [.d (.sl (Gl.rows g.b))] (txA (goalsB g.b))) (hc:PCtr Tryd.prog 13 [.d (.sl (Gl.rows g.c))] (txA (goalsB g.c))):PCtr Tryd.prog 27 [g.av] (txA (goalB g)):=by
 have hse:=Gl.size_eq g
 have la:=goalsB_len g.a
 have lb:=goalsB_len g.b
 have lc:=goalsB_len g.c
 refine PCtr.of_R (pf:=fun _=>.still) tyOk mixed Tryd.func27 rfl (by kernel_rfl) (by kernel_rfl) (by simp [Tryd.ntmps27]) fun w S hg=>?_
 refine R_run hg.ok 1000 rfl rfl ?_
 refine R_if rfl rfl (fun h=>?_) (fun h=>?_) <;> refine R_run hg.ok 1000 rfl rfl ?_
 ·have h:=of_decide_eq_true h
  refine R_call hg.ok (refSureW_ok g.t ht) rfl rfl rfl rfl rfl rfl ?_
  refine R_run hg.ok 1000 rfl rfl ?_
  refine R_ret hg 5 rfl rfl ?_
  rw [goalB_eq,if_pos (.inl h)]; rfl
 have h:=of_decide_eq_false h
 refine R_if rfl rfl (fun h2=>?_) (fun h2=>?_) <;> refine R_run hg.ok 1000 rfl rfl ?_
 ·have h2:=of_decide_eq_true h2
  refine R_call hg.ok (refSureW_ok g.t ht) rfl rfl rfl rfl rfl rfl ?_
  refine R_run hg.ok 1000 rfl rfl ?_
  refine R_ret hg 5 rfl rfl ?_
  rw [goalB_eq,if_pos (.inr h2)]; rfl
 have h2:=of_decide_eq_false h2
 refine R_if rfl rfl (fun h3=>?_) (fun h3=>?_) <;> refine R_run hg.ok 1000 rfl rfl ?_
 ·have h3:=of_decide_eq_true h3
  refine R_ret hg 5 rfl rfl ?_
  rw [goalB_eq,if_neg (by omega),if_pos h3]; rfl
 have h3:=of_decide_eq_false h3
 refine R_if rfl rfl (fun h4=>?_) (fun h4=>?_) <;> refine R_run hg.ok 1000 rfl rfl ?_
 ·have h4:=of_decide_eq_true h4
  refine R_call hg.ok (ha) rfl rfl rfl rfl rfl rfl ?_
  refine R_run hg.ok 1000 rfl rfl ?_
  refine R_concat hg.ok (Tx (40::goalsB g.a)) rfl rfl rfl rfl (by rw [Tx_size]; show 1+_≤_; omega) (Tx_app [40] _) ?_
  refine R_run hg.ok 1000 rfl rfl ?_
  refine R_concat hg.ok (Tx (40::goalsB g.a++[32,45,62,32])) rfl rfl rfl rfl (by rw [Tx_size]; show _+4≤_; simp only [List.length_cons]; omega) (Tx_app _ [32,45,62,32]) ?_
  refine R_run hg.ok 1000 rfl rfl ?_
  refine R_call hg.ok (hb) rfl rfl rfl rfl rfl rfl ?_
  refine R_run hg.ok 1000 rfl rfl ?_
  refine R_concat hg.ok (Tx (40::goalsB g.a++[32,45,62,32]++goalsB g.b)) rfl rfl rfl rfl (by rw [Tx_size,Tx_size]; simp only [List.length_append,List.length_cons,List.length_nil]; omega) (Tx_app _ _) ?_
  refine R_run hg.ok 1000 rfl rfl ?_
  refine R_concat hg.ok (Tx (40::goalsB g.a++[32,45,62,32]++goalsB g.b++[32,59,32])) rfl rfl rfl rfl (by rw [Tx_size]; show _+3≤_; simp only [List.length_append,List.length_cons,List.length_nil]; omega) (Tx_app _ [32,59,32]) ?_
  refine R_run hg.ok 1000 rfl rfl ?_
  refine R_call hg.ok (hc) rfl rfl rfl rfl rfl rfl ?_
  refine R_run hg.ok 1000 rfl rfl ?_
  refine R_concat hg.ok (Tx (40::goalsB g.a++[32,45,62,32]++goalsB g.b++[32,59,32]++goalsB g.c)) rfl rfl rfl rfl (by rw [Tx_size,Tx_size]; simp only [List.length_append,List.length_cons,List.length_nil]; omega) (Tx_app _ _) ?_
  refine R_run hg.ok 1000 rfl rfl ?_
  refine R_concat hg.ok (Tx (40::goalsB g.a++[32,45,62,32]++goalsB g.b++[32,59,32]++goalsB g.c++[41])) rfl rfl rfl rfl (by rw [Tx_size]; show _+1≤_; simp only [List.length_append,List.length_cons,List.length_nil]; omega) (Tx_app _ [41]) ?_
  refine R_run hg.ok 1000 rfl rfl ?_
  refine R_ret hg 5 rfl rfl ?_
  rw [goalB_eq,if_neg (by omega),if_neg h3,if_pos h4]; simp; rfl
 have h4:=of_decide_eq_false h4
 refine R_if rfl rfl (fun h5=>?_) (fun h5=>?_) <;> refine R_run hg.ok 1000 rfl rfl ?_
 ·have h5:=of_decide_eq_true h5
  refine R_call hg.ok (ha) rfl rfl rfl rfl rfl rfl ?_
  refine R_run hg.ok 1000 rfl rfl ?_
  refine R_concat hg.ok (Tx ([92,43,32,40]++goalsB g.a)) rfl rfl rfl rfl (by rw [Tx_size]; show 4+_≤_; omega) (Tx_app [92,43,32,40] _) ?_
  refine R_run hg.ok 1000 rfl rfl ?_
  refine R_concat hg.ok (Tx ([92,43,32,40]++goalsB g.a++[41])) rfl rfl rfl rfl (by rw [Tx_size]; show _+1≤_; simp only [List.length_append,List.length_cons,List.length_nil]; omega) (Tx_app _ [41]) ?_
  refine R_run hg.ok 1000 rfl rfl ?_
  refine R_ret hg 5 rfl rfl ?_
  rw [goalB_eq,if_neg (by omega),if_neg h3,if_neg h4,if_pos h5]; simp; rfl
 ·have h5:=of_decide_eq_false h5
  refine R_ret hg 5 rfl rfl ?_
  rw [goalB_eq,if_neg (by omega),if_neg h3,if_neg h4,if_neg h5]; rfl

set_option maxRecDepth 100000 in
theorem refGoalsW_ok (l:List Gl):GlW l→PCtr Tryd.prog 13 [.d (.sl (Gl.rows l))] (txA (goalsB l)):=by
 refine Gl.indL (p:=fun l=>GlW l→PCtr Tryd.prog 13 [.d (.sl (Gl.rows l))] (txA (goalsB l))) (fun l hsub=>?_) l
 intro hw
 have hrl:=Gl.rows_length l
 have hlen:=goalsB_len l
 have hs3:=hw.2.2
 have hls:=Gl.len_size l
 have hone:∀ (k:Nat) (hk1:k<l.length),PCtr Tryd.prog 27 [l[k].av] (txA (goalB l[k])):=fun k hk1=>by
  obtain ⟨w1,w2,w3,w4⟩:=hw.mem (List.getElem_mem hk1)
  obtain ⟨s1,s2,s3⟩:=hsub _ (List.getElem_mem hk1)
  have hgs:=Gl.size_mem (List.getElem_mem hk1)
  exact refGoalW_ok l[k] w1 (by omega) (s1 w2) (s2 w3) (s3 w4)
 refine PCtr.of_R (pf:=fun _=>.still) tyOk mixed Tryd.func13 rfl (by kernel_rfl) (by kernel_rfl) (by simp [Tryd.ntmps13]) fun w S hg=>?_
 refine R_run hg.ok 1000 rfl rfl ?_
 refine R_if rfl rfl (fun h=>?_) (fun h=>?_) <;> refine R_run hg.ok 1000 rfl rfl ?_
 ·have h:=of_decide_eq_true h
  have h3:l=[]:=by
   rw [hrl] at h
   exact List.eq_nil_of_length_eq_zero (by omega)
  refine R_ret hg 5 rfl rfl ?_
  rw [h3]; rfl
 have h:=of_decide_eq_false h
 have hk0:0<l.length:=by rw [hrl] at h; omega
 have e0:l[0]? = some l[0]:=List.getElem?_eq_getElem hk0
 have hgb:goalsB l=goalB l[0]++goalsTl (l.drop 1):=by
  cases l with
  | nil=>simp at hk0
  | cons x r=>rfl
 refine R_index hg.ok rfl rfl rfl rfl rfl rfl (Int.natCast_nonneg _) (Gl.rows_get e0) rfl ?_
 refine R_run hg.ok 1000 rfl rfl ?_
 refine R_call hg.ok (hone 0 hk0) rfl rfl rfl rfl rfl rfl ?_
 refine R_run hg.ok 1000 rfl rfl ?_
 refine R_loop (fun q:Nat × Bs=>([(0,.d (.sl (Gl.rows l))),(3,txA q.2),(4,iV q.1)],[])) (fun q=>q.1≤l.length∧q.2++goalsTl (l.drop q.1)=goalsB l) (fun q=>l.length - q.1) (1,goalB l[0]) ⟨hk0,hgb.symm⟩ ⟨.refl _,.refl _,.refl _,trivial⟩ rfl ?_
 rintro ⟨k,o⟩ ⟨hk,hm⟩
 simp only at hk hm
 have hol:=congrArg List.length hm
 simp only [List.length_append] at hol
 refine R_run hg.ok 1000 rfl rfl ?_
 refine R_if rfl rfl (fun h=>?_) (fun h=>?_) <;> refine R_run hg.ok 1000 rfl rfl ?_
 ·have hk1:k<l.length:=lt_dec h (by rw [hrl])
  have e1:l[k]? = some l[k]:=List.getElem?_eq_getElem hk1
  rw [List.drop_eq_getElem_cons hk1,goalsTl] at hm hol
  simp only [List.length_append,List.length_cons,List.length_nil] at hol
  refine R_concat hg.ok (Tx (o++[44,32])) rfl rfl rfl rfl (by rw [Tx_size]; show o.length+2≤_; omega) (Tx_app _ [44,32]) ?_
  refine R_run hg.ok 1000 rfl rfl ?_
  refine R_index hg.ok rfl rfl rfl rfl rfl rfl (Int.natCast_nonneg _) (Gl.rows_get e1) rfl ?_
  refine R_run hg.ok 1000 rfl rfl ?_
  refine R_call hg.ok (hone k hk1) rfl rfl rfl rfl rfl rfl ?_
  refine R_run hg.ok 1000 rfl rfl ?_
  refine R_concat hg.ok (Tx (o++[44,32]++goalB l[k])) rfl rfl rfl rfl (by rw [Tx_size,Tx_size]; simp only [List.length_append,List.length_cons,List.length_nil]; omega) (Tx_app _ _) ?_
  refine R_run hg.ok 1000 rfl rfl ?_
  exact R_next (k+1,_) ⟨hk1,by rw [← hm]; simp⟩ (by show l.length - (k+1)<l.length - k; omega) ⟨.refl _,.refl _,Ent.wrap (by omega) (by omega) (by omega),trivial⟩ rfl
 ·have hk1:l.length≤k:=ge_dec h (by rw [hrl])
  rw [List.drop_eq_nil_of_le hk1,goalsTl,List.append_nil] at hm
  refine R_ret hg 5 rfl rfl ?_
  rw [← hm]; rfl
end Go.Proofs.YtchhahnajgfeaaaDoor

namespace PSL
open Go Go.RowKit
section
variable {g:G} {pf:Nat→Cls} {ops:Array Oper}
end
section
variable {g:G} {pf:Nat→Cls} {ops:Array Oper} {Fin:Exit→Act→World→Prop}
end
end PSL
namespace PSL
open Go Go.RowKit

def DEnt (x y:D):Prop:=∀ (S:Nat→Prop) (w:World) (v:Value),Rd S w x v→Rd S w y v

def RowEnt:List D→List D→Prop
 | [],[]=>True
 | x::r,y::t=>DEnt x y∧RowEnt r t
 | _,_=>False
theorem DEnt.refl (x:D):DEnt x x:=fun _ _ _ h=>h
theorem DEnt.nil:DEnt (.v (.slice none 0 0)) (.sl []):=fun S w v h=>by cases h; exact .nil _ _

theorem RowEnt.len:∀ {r t:List D},RowEnt r t→r.length=t.length
 | [],[],_=>rfl
 | _::_,_::_,h=>by simp [RowEnt.len h.2]
 | [],_::_,h=>h.elim
 | _::_,[],h=>h.elim

theorem RowEnt.get:∀ {r t:List D} {j:Nat} {y:D},RowEnt r t→t[j]? = some y→∃ x,r[j]? = some x∧DEnt x y
 | [],[],j,y,_,hj=>by simp at hj
 | x::r,z::t,0,y,h,hj=>by
  simp only [List.getElem?_cons_zero,Option.some.injEq] at hj
  subst hj; exact ⟨x,rfl,h.1⟩
 | x::r,z::t,j+1,y,h,hj=>by
  simp only [List.getElem?_cons_succ] at hj ⊢
  exact RowEnt.get h.2 hj
 | [],_::_,_,_,h,_=>h.elim
 | _::_,[],_,_,h,_=>h.elim

theorem Ent.row1 {row row':List D} (h:RowEnt row row'):Ent (.fs [row]) (.d (.sl [row'])):=fun S w φ v hv=>by
 have hv:=Ent.fs [row] S w φ v hv
 simp only [RV] at hv ⊢
 cases hv with
 | @sl _ b o cap sz cs T fr g hS hb hl hc hsz hg hr =>
  refine .sl (sz:=sz) g hS hb hl hc (fun i r hi=>?_) (fun i r j x hi hj=>?_) (fun i r j x hi hj=>?_)
  ·cases i with
   | zero=>cases hi; rw [← h.len]; exact hsz 0 row rfl
   | succ i=>simp at hi
  ·cases i with
   | zero =>
    cases hi
    obtain ⟨x',h1,h2⟩:=h.get hj
    exact hg 0 row j x' rfl h1
   | succ i=>simp at hi
  ·cases i with
   | zero =>
    cases hi
    obtain ⟨x',h1,h2⟩:=h.get hj
    exact h2 _ _ _ (hr 0 row j x' rfl h1)
   | succ i=>simp at hi
end PSL

namespace PSL
open Go Go.RowKit
section
variable {g:G} {pf:Nat→Cls} {ops:Array Oper} {Fin:Exit→Act→World→Prop}
end
end PSL

namespace PSL
open Go Go.RowKit
section
variable {g:G} {pf:Nat→Cls} {ops:Array Oper} {Fin:Exit→Act→World→Prop}
end
end PSL

namespace PSL
open Go Go.RowKit
section
variable {g:G} {pf:Nat→Cls} {ops:Array Oper} {Fin:Exit→Act→World→Prop}
end
end PSL

namespace PSL
open Go Go.RowKit
section
variable {g:G} {pf:Nat→Cls} {ops:Array Oper} {Fin:Exit→Act→World→Prop}
end
end PSL

namespace PSL
open Go Go.RowKit

theorem Ent.agg {l m:List AV} (h:EntL l m):Ent (.agg l) (.agg m):=fun S w φ v hv=>by
 simp only [RV] at hv ⊢
 obtain ⟨cs,h1,h2⟩:=hv
 exact ⟨cs,h1,h.rvs h2⟩
section
variable {g:G} {pf:Nat→Cls} {ops:Array Oper} {Fin:Exit→Act→World→Prop}
end
end PSL

namespace PSL
open Go Go.RowKit

def RowsEnt:List (List D)→List (List D)→Prop
 | [],[]=>True
 | x::r,y::t=>RowEnt x y∧RowsEnt r t
 | _,_=>False

theorem RowsEnt.len:∀ {r t:List (List D)},RowsEnt r t→r.length=t.length
 | [],[],_=>rfl
 | _::_,_::_,h=>by simp [RowsEnt.len h.2]
 | [],_::_,h=>h.elim
 | _::_,[],h=>h.elim

theorem RowsEnt.get:∀ {r t:List (List D)} {j:Nat} {y:List D},RowsEnt r t→t[j]? = some y→∃ x,r[j]? = some x∧RowEnt x y
 | [],[],j,y,_,hj=>by simp at hj
 | x::r,z::t,0,y,h,hj=>by
  simp only [List.getElem?_cons_zero,Option.some.injEq] at hj
  subst hj; exact ⟨x,rfl,h.1⟩
 | x::r,z::t,j+1,y,h,hj=>by
  simp only [List.getElem?_cons_succ] at hj ⊢
  exact RowsEnt.get h.2 hj
 | [],_::_,_,_,h,_=>h.elim
 | _::_,[],_,_,h,_=>h.elim

theorem DEnt.sl {rows rows':List (List D)} (h:RowsEnt rows rows'):DEnt (.sl rows) (.sl rows'):=fun S w v hv=>by
 cases hv with
 | nil a c =>
  have:rows'=[]:=by cases rows' with
   | nil=>rfl
   | cons x r=>exact h.elim
  subst this; exact .nil a c
 | @sl _ b o cap sz cs T fr g hS hb hl hc hsz hg hr =>
  have hlen:=h.len
  rw [hlen]
  refine .sl (sz:=sz) g hS hb (by rw [← hlen]; exact hl) hc (fun i r hi=>?_) (fun i r j x hi hj=>?_) (fun i r j x hi hj=>?_)
  ·obtain ⟨x,h1,h2⟩:=h.get hi
   rw [← h2.len]; exact hsz i x h1
  ·obtain ⟨x1,h1,h2⟩:=h.get hi
   obtain ⟨x',h3,h4⟩:=h2.get hj
   exact hg i x1 j x' h1 h3
  ·obtain ⟨x1,h1,h2⟩:=h.get hi
   obtain ⟨x',h3,h4⟩:=h2.get hj
   exact h4 _ _ _ (hr i x1 j x' h1 h3)

theorem Ent.d {x y:D} (h:DEnt x y):Ent (.d x) (.d y):=fun S w φ v hv=>by
 simp only [RV] at hv ⊢; exact h _ _ _ hv
theorem Ent.rows {rows rows':List (List D)} (h:RowsEnt rows rows'):Ent (.fs rows) (.d (.sl rows')):=fun S w φ v hv=>Ent.d (DEnt.sl h) S w φ v (Ent.fs rows S w φ v hv)
end PSL

namespace Go.Proofs.YtchhahnajgfeaaaDoor
open Go PSL Go.Proofs
end Go.Proofs.YtchhahnajgfeaaaDoor

namespace Go.Proofs.YtchhahnajgfeaaaDoor
open Go PSL Go.Proofs
end Go.Proofs.YtchhahnajgfeaaaDoor

namespace Go.Proofs.YtchhahnajgfeaaaDoor
open Go PSL Go.Proofs
end Go.Proofs.YtchhahnajgfeaaaDoor

namespace Go.Proofs.YtchhahnajgfeaaaDoor
open Go PSL Go.Proofs
end Go.Proofs.YtchhahnajgfeaaaDoor

namespace Go.Proofs.YtchhahnajgfeaaaDoor
open Go PSL Go.Proofs

theorem fun10_ok (s:ByteArray) (l:List Tm):PCtr Tryd.prog 16 [.d (.v (.string s)),.d (.sl (Tm.rows l))] (Tm.mk 3 s 0 l).av:=by
 refine PCtr.of_R (pf:=fun _=>.still) tyOk mixed Tryd.func16 rfl (by kernel_rfl) (by kernel_rfl) (by simp [Tryd.ntmps16]) fun w S hg=>?_
 refine R_run hg.ok 1000 rfl rfl ?_
 refine R_ret hg 5 rfl rfl ?_
 rfl
def kWa:Tm:=.mk 3 ⟨#[97]⟩ 0 []
def kWn:Tm:=.mk 3 ⟨#[91,93]⟩ 0 []
def kWv:Tm:=.mk 1 ⟨#[]⟩ 3 []
def kWc (x y:Tm):Tm:=.mk 3 ⟨#[46]⟩ 0 [x,y]
def kWB:Tm:=.mk 3 ⟨#[66]⟩ 0 []
def kWl:Tm:=kWc kWa (kWc kWv kWn)
def kWf:Tm:=.mk 3 ⟨#[102]⟩ 0 [kWl,kWB]
def kWp:Tm:=.mk 3 ⟨#[112]⟩ 0 []
def kWg (k:Int):Gl:=.mk k (.mk 0 ⟨#[]⟩ 0 []) [] [] []

theorem kWf_w:TmW kWf:=by
 refine ⟨fun d e he=>?_,fun d e he=>?_,by decide⟩
 ·simp only [kWf,kWl,kWc,kWa,kWv,kWn,kWB,Tm.els,Tm.elsL,List.append_nil,List.cons_append,List.nil_append,List.mem_cons,List.not_mem_nil,or_false] at he
  rcases he with rfl | rfl | rfl | rfl | rfl | rfl | rfl <;> (simp only [Tm.k,Tm.n,I64]; omega)
 ·simp only [kWf,kWl,kWc,kWa,kWv,kWn,kWB,Tm.els,Tm.elsL,List.append_nil,List.cons_append,List.nil_append,List.mem_cons,List.not_mem_nil,or_false] at he
  rcases he with rfl | rfl | rfl | rfl | rfl | rfl | rfl <;> (simp only [Tm.s]; decide)

theorem kWp_w:TmW kWp:=by
 refine ⟨fun d e he=>?_,fun d e he=>?_,by decide⟩
 ·simp only [kWp,Tm.els,Tm.elsL,List.mem_cons,List.not_mem_nil,or_false] at he
  subst he; simp only [Tm.k,Tm.n,I64]; omega
 ·simp only [kWp,Tm.els,Tm.elsL,List.mem_cons,List.not_mem_nil,or_false] at he
  subst he; simp only [Tm.s]; decide

theorem kWg_w:GlW [kWg 3,kWg 5]:=by
 have h0:∀ (d:Int) (e:Int × Tm),e∈(Tm.mk 0 ⟨#[]⟩ 0 []).els d→e=(d,.mk 0 ⟨#[]⟩ 0 []):=fun d e he=>by simpa only [Tm.els,Tm.elsL,List.mem_cons,List.not_mem_nil,or_false] using he
 have hg:∀ k:Int,I64 k→(kWg k).Ok:=fun k hk=>.mk hk ⟨fun d e he=>by rw [h0 d e he]; simp only [Tm.l,Tm.s]; decide,fun d e he=>by rw [h0 d e he]; simp only [Tm.k,Tm.n,I64]; omega⟩ (by simp) (by simp) (by simp) (by simp) (by simp) (by simp)
 have hf:FwT (.mk 0 ⟨#[]⟩ 0 []):=fun d e he=>by rw [h0 d e he]; simp only [Tm.s]; decide
 refine ⟨?_,?_,by decide⟩
 ·intro g hgm
  simp only [List.mem_cons,List.not_mem_nil,or_false] at hgm
  rcases hgm with rfl | rfl
  ·exact hg 3 (by simp only [I64]; omega)
  ·exact hg 5 (by simp only [I64]; omega)
 ·exact ⟨⟨hf,trivial,trivial,trivial⟩,⟨hf,trivial,trivial,trivial⟩,trivial⟩

theorem kWf_text:textW kWf=[102,40,91,97,44,95,51,93,44,39,66,39,41]:=by
 have h3:Lib.itoa 3=[51]:=by rw [Lib.itoa,if_neg (by decide)]; exact decD_low (by decide)
 have hf:nameB [102]=[102]:=by decide
 have ha:nameB [97]=[97]:=by decide
 have hB:nameB [66]=[39,66,39]:=by decide
 simp [textW,kWf,kWl,kWc,kWa,kWv,kWn,kWB,pcs,pcsTl,pcsCell,pcsCell2,pcsArgs,atomP,cellK,nilK,h3,hf,ha,hB]

theorem kWp_text:textW kWp=[112]:=by
 have hf:nameB [112]=[112]:=by decide
 simp [textW,kWp,pcs,pcsArgs,atomP,cellK,hf]

theorem kWp_sure:sureB kWp=[112]:=by
 rw [sureB,if_pos (by decide +kernel),kWp_text]; rfl

theorem kWf_write:writeT kWf=([102,40,91,97,44,95,51,93,44,39,66,39,41],0):=by
 rw [writeT_right (by decide +kernel),kWf_text]; rfl

theorem kWg_clause:clauseB kWp [kWg 3,kWg 5]=[112,32,58,45,32,33,44,32,92,43,32,40,116,114,117,101,41,46]:=by
 simp [clauseB,kWp_sure,goalsB,goalsTl,goalB,kWg]

set_option maxRecDepth 100000 in
theorem knows10_ok:PCtr Tryd.prog 6 [] (bV true):=by
 have h1:=writeW_ok kWf kWf_w
 rw [kWf_write] at h1
 have h2:=clauseW_ok kWp [kWg 3,kWg 5] 0 kWp_w kWg_w
 rw [kWg_clause] at h2
 have h3:=goalsW_ok [] ⟨by simp,trivial,by decide⟩
 refine PCtr.of_R (pf:=fun _=>.still) tyOk mixed Tryd.func6 rfl (by kernel_rfl) (by kernel_rfl) (by simp [Tryd.ntmps6]) fun w S hg=>?_
 refine R_run hg.ok 1000 rfl rfl ?_
 refine R_callN hg.ok (fun10_ok ⟨#[97]⟩ []) rfl rfl rfl rfl (by kernel_rfl) rfl rfl ?_
 refine R_run hg.ok 1000 rfl rfl ?_
 refine R_callN hg.ok (fun10_ok ⟨#[91,93]⟩ []) rfl rfl rfl rfl (by kernel_rfl) rfl rfl ?_
 refine R_run hg.ok 1000 rfl rfl ?_
 refine R_weak [(5,kWa.av),(8,.d (.sl (Tm.rows [kWv,kWn])))] ⟨.refl _,Ent.rows ⟨⟨.refl _,.refl _,.refl _,.nil,trivial⟩,⟨.refl _,.refl _,.refl _,.refl _,trivial⟩,trivial⟩,trivial⟩ ?_
 refine R_callN hg.ok (fun10_ok ⟨#[46]⟩ [kWv,kWn]) rfl rfl rfl rfl (by kernel_rfl) rfl rfl ?_
 refine R_run hg.ok 1000 rfl rfl ?_
 refine R_callN hg.ok (fun10_ok ⟨#[46]⟩ [kWa,kWc kWv kWn]) rfl rfl rfl rfl (by kernel_rfl) rfl rfl ?_
 refine R_run hg.ok 1000 rfl rfl ?_
 refine R_callN hg.ok (fun10_ok ⟨#[66]⟩ []) rfl rfl rfl rfl (by kernel_rfl) rfl rfl ?_
 refine R_run hg.ok 1000 rfl rfl ?_
 refine R_callN hg.ok (fun10_ok ⟨#[102]⟩ [kWl,kWB]) rfl rfl rfl rfl (by kernel_rfl) rfl rfl ?_
 refine R_run hg.ok 1000 rfl rfl ?_
 refine R_callN hg.ok (h1) rfl rfl rfl rfl (by kernel_rfl) rfl rfl ?_
 refine R_run hg.ok 1000 rfl rfl ?_
 refine R_callN hg.ok (fun10_ok ⟨#[112]⟩ []) rfl rfl rfl rfl (by kernel_rfl) rfl rfl ?_
 refine R_run hg.ok 1000 rfl rfl ?_
 refine R_weak [(2,txA [102,40,91,97,44,95,51,93,44,39,66,39,41]),(3,iV 0),(24,Cs.av ⟨kWp,[kWg 3,kWg 5],0⟩)] ⟨.refl _,.refl _,Ent.agg ⟨.refl _,.refl _,.refl _,.refl _,Ent.rows ⟨⟨.refl _,.refl _,.refl _,.refl _,.nil,.nil,.nil,.nil,trivial⟩,⟨.refl _,.refl _,.refl _,.refl _,.nil,.nil,.nil,.nil,trivial⟩,trivial⟩,.refl _,trivial⟩,trivial⟩ ?_
 refine R_callN hg.ok (h2) rfl rfl rfl rfl (by kernel_rfl) rfl rfl ?_
 refine R_run hg.ok 1000 rfl rfl ?_
 refine R_if rfl rfl (fun _=>?_) (fun h=>absurd (h.symm.trans (Tm.strEq_iff.2 rfl)) (by simp)) <;> refine R_run hg.ok 1000 rfl rfl ?_
 refine R_if rfl rfl (fun _=>?_) (fun h=>absurd h (by decide)) <;> refine R_run hg.ok 1000 rfl rfl ?_
 refine R_if rfl rfl (fun _=>?_) (fun h=>absurd (h.symm.trans (Tm.strEq_iff.2 rfl)) (by simp)) <;> refine R_run hg.ok 1000 rfl rfl ?_
 refine R_callN hg.ok (h3) rfl rfl rfl rfl (by kernel_rfl) rfl rfl ?_
 refine R_run hg.ok 1000 rfl rfl ?_
 refine R_ret hg 5 rfl rfl ?_
 exact congrArg bV (Tm.strEq_iff.2 rfl)

set_option maxRecDepth 100000 in
theorem writeGoals_ok (l:List Gl) (t:Tm) (hok:∀ g∈l,g.Ok) (hlen:l.length≤140737488355328) (htk:t.Ok) (hf:t.Fit):PCtr Tryd.prog 4 [.d (.sl (Gl.rows l)),t.av] (bV true):=by
 have hrl:=Gl.rows_length l
 have hfew:=fewGL_b l 1000 50 (by decide) (by decide)
 have hfet:=few_b t (m:=1000) (by decide) (by decide)
 refine PCtr.of_R (pf:=fun _=>.still) tyOk mixed Tryd.func4 rfl (by kernel_rfl) (by kernel_rfl) (by simp [Tryd.ntmps4]) fun w S hg=>?_
 refine R_run hg.ok 1000 rfl rfl ?_
 refine R_cut1 (fun x:Bool=>([(0,.d (.sl (Gl.rows l))),(3,.lo 0 0),(18,bV x)],[boxR t])) (fun x=>x=false→0≤fewGL l 1000 50∧0≤t.few 1000 200) rfl ?_ ?_
 ·refine R_if rfl rfl (fun h=>?_) (fun h=>?_) <;> refine R_run hg.ok 1000 rfl rfl ?_
  ·exact R_mark ⟨true,by simp,⟨.refl _,.refl _,.tt,trivial⟩,rfl⟩
  refine R_call hg.ok (refFewW_ok l 1000 50 hok hlen (by decide)) rfl rfl rfl rfl rfl rfl ?_
  refine R_run hg.ok 1000 rfl rfl ?_
  refine R_if rfl rfl (fun h=>?_) (fun h=>?_) <;> refine R_run hg.ok 1000 rfl rfl ?_
  ·exact R_mark ⟨true,by simp,⟨.refl _,.refl _,.tt,trivial⟩,rfl⟩
  have h:=of_decide_eq_false h
  refine R_call hg.ok (few_ok t htk 1000 200) rfl rfl rfl rfl rfl rfl ?_
  refine R_run hg.ok 1000 rfl rfl ?_
  exact R_mark ⟨decide (t.few 1000 200<0),fun h9=>⟨by omega,by have:=of_decide_eq_false h9; omega⟩,⟨.refl _,.refl _,.refl _,trivial⟩,rfl⟩
 rintro x hx
 refine R_run hg.ok 1000 rfl rfl ?_
 refine R_if rfl rfl (fun h=>?_) (fun h=>?_) <;> refine R_run hg.ok 1000 rfl rfl ?_
 ·refine R_call hg.ok (knows10_ok) rfl rfl rfl rfl rfl rfl ?_
  refine R_run hg.ok 1000 rfl rfl ?_
  refine R_ret hg 5 rfl rfl ?_
  rfl
 obtain ⟨hx1,hx2⟩:=hx h
 obtain ⟨_,f2,f3,_⟩:=hfew.2.2 hx1
 obtain ⟨_,g2,g3⟩:=hfet.2.2 hx2
 have hw:TmW t:=⟨hf,g3,by omega⟩
 have hgw:GlW l:=⟨hok,f3,by omega⟩
 have hsl:=sureB_len t
 have hgl:=goalsB_len l
 refine R_call hg.ok (refSureW_ok t hw) rfl rfl rfl rfl rfl rfl ?_
 refine R_run hg.ok 1000 rfl rfl ?_
 refine R_concat hg.ok (Tx (sureB t++[46])) rfl rfl rfl rfl (by rw [Tx_size]; show _+1≤_; omega) (Tx_app _ [46]) ?_
 refine R_run hg.ok 1000 rfl rfl ?_
 refine R_cut1 (fun _:Unit=>([(0,.d (.sl (Gl.rows l))),(3,.lo 0 0),(5,txA (clauseB t l))],[boxR t])) (fun _=>True) rfl ?_ ?_
 ·refine R_if rfl rfl (fun h=>?_) (fun h=>?_) <;> refine R_run hg.ok 1000 rfl rfl ?_
  ·have h:=of_decide_eq_true h
   have hne:l.isEmpty=false:=by cases l with
    | nil=>exact absurd h (by simp [Gl.rows])
    | cons x r=>rfl
   refine R_call hg.ok (refSureW_ok t hw) rfl rfl rfl rfl rfl rfl ?_
   refine R_run hg.ok 1000 rfl rfl ?_
   refine R_concat hg.ok (Tx (sureB t++[32,58,45,32])) rfl rfl rfl rfl (by rw [Tx_size]; show _+4≤_; omega) (Tx_app _ [32,58,45,32]) ?_
   refine R_run hg.ok 1000 rfl rfl ?_
   refine R_call hg.ok (refGoalsW_ok l hgw) rfl rfl rfl rfl rfl rfl ?_
   refine R_run hg.ok 1000 rfl rfl ?_
   refine R_concat hg.ok (Tx (sureB t++[32,58,45,32]++goalsB l)) rfl rfl rfl rfl (by rw [Tx_size,Tx_size]; simp only [List.length_append,List.length_cons,List.length_nil]; omega) (Tx_app _ _) ?_
   refine R_run hg.ok 1000 rfl rfl ?_
   refine R_concat hg.ok (Tx (sureB t++[32,58,45,32]++goalsB l++[46])) rfl rfl rfl rfl (by rw [Tx_size]; show _+1≤_; simp only [List.length_append,List.length_cons,List.length_nil]; omega) (Tx_app _ [46]) ?_
   refine R_run hg.ok 1000 rfl rfl ?_
   refine R_to () trivial ⟨.refl _,.refl _,?_,trivial⟩ rfl
   rw [clauseB,hne]; simp; exact .refl _
  ·have h:=of_decide_eq_false h
   have hne:l=[]:=List.eq_nil_of_length_eq_zero (by rw [hrl] at h; omega)
   refine R_to () trivial ⟨.refl _,.refl _,?_,trivial⟩ rfl
   rw [hne]; exact .refl _
 rintro _ _
 refine R_run hg.ok 1000 rfl rfl ?_
 refine R_call hg.ok (goalsW_ok l hgw) rfl rfl rfl rfl rfl rfl ?_
 refine R_run hg.ok 1000 rfl rfl ?_
 refine R_call hg.ok (refGoalsW_ok l hgw) rfl rfl rfl rfl rfl rfl ?_
 refine R_run hg.ok 1000 rfl rfl ?_
 refine R_if rfl rfl (fun _=>?_) (fun h=>absurd (h.symm.trans (Tm.strEq_iff.2 rfl)) (by simp)) <;> refine R_run hg.ok 1000 rfl rfl ?_
 have hcl:=clauseW_ok t l 0 hw hgw
 refine R_call hg.ok (hcl) rfl rfl rfl rfl rfl rfl ?_
 refine R_run hg.ok 1000 rfl rfl ?_
 refine R_if rfl rfl (fun _=>?_) (fun h=>absurd (h.symm.trans (Tm.strEq_iff.2 rfl)) (by simp)) <;> refine R_run hg.ok 1000 rfl rfl ?_
 refine R_call hg.ok (knows10_ok) rfl rfl rfl rfl rfl rfl ?_
 refine R_run hg.ok 1000 rfl rfl ?_
 refine R_ret hg 5 rfl rfl ?_
 rfl
end Go.Proofs.YtchhahnajgfeaaaDoor
