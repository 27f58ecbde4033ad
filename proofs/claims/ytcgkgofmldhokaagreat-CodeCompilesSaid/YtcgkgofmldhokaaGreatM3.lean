import Derived.Test.YtcgkgofmldhokaaGreatM2
import Derived.Laws.StructEq
import Derived.Test.YtcgkgofmldhokaaGreatSTy
import Derived.Test.YtcgkgofmldhokaaGreatPslB
namespace Go.Proofs.YtcgkgofmldhokaaGreat
open Go PSL Go.Proofs

theorem signEq (d:Nat) (p q:Sg) (w:World):(Op.equalIn (d+1+1) 135 (skV p) (skV q)).run Tryz.prog w=.ok (decide (p=q)) w:=by
 obtain ⟨s,n⟩:=p
 obtain ⟨s',n'⟩:=q
 unfold skV
 rw [run_equalIn_agg w (d+1) 135 _ _ (by rw [Program.fieldsOf,Tryz.underlying135]) Tryz.stoodInHeld135]
 rw [Program.fieldsOf,Tryz.underlying135]
 simp [Op.eqFields,part,run_equalIn_int _ _ _ _ _ _ _ Tryz.underlying3,run_equalIn_string _ _ _ _ _ Tryz.underlying9]
 by_cases h1:s=s'
 ·subst h1
  by_cases h2:n=n' <;> simp [h2]
 ·have h2:¬ s.toList=s'.toList:=fun e=>h1 (Tm.strEq_iff.1 (by simp [strEq,e]))
  simp [h1,h2]

theorem signCk (d:Nat) (b:Bool) (p:Sg) (w:World):(Instr.checkKey b (d+1+1) 135 (skV p)).run Tryz.prog w=.ok () w:=by
 simp [Instr.checkKey,skV,part,run_underlying Tryz.underlying135,run_underlying Tryz.underlying3,run_underlying Tryz.underlying9]
theorem signKey:SKey Tryz.prog 135:=⟨⟨_,Tryz.underlying135⟩,fun p q w=>signEq 9998 p q w,fun b p w=>signCk 9998 b p w⟩

theorem signCmp:SCmp Tryz.prog 135:=by
 constructor
 ·intro x y p q w
  have h:=signEq 9998 p q w
  unfold skV at h ⊢
  simp only [Sem.run_bind]
  rw [run_eqGuard_agg _ _ _ _ _ _ _ Tryz.eqGuardType135]
  simp only [Result.andThen_ok]
  rw [run_eql_struct,h]
  rfl
 ·intro x y p q w
  have h:=signEq 9998 p q w
  unfold skV at h ⊢
  simp only [Sem.run_bind]
  rw [run_eqGuard_agg _ _ _ _ _ _ _ Tryz.eqGuardType135]
  simp only [Result.andThen_ok]
  rw [run_neq_struct,h]
  rfl

theorem progTwo_ok:PCtr Tryz.prog 124 [] (.d (.sl (strRows twoL))):=by
 refine PCtr.of_R (pf:=fun _=>.still) tyOk mixed Tryz.func124 rfl (by kernel_rfl) (by kernel_rfl) (by simp [Tryz.ntmps124]) fun w S hg=>?_
 refine R_run hg.ok 1000 rfl rfl ?_
 refine R_ret hg 5 rfl rfl ?_
 rfl

theorem anyS_drop {l:List (Bs × Int)} {p:Sg} {k:Nat} {x:Bs × Int} (h:l[k]? = some x):anyS (l.drop k) p=(decide ((Tx x.1,x.2)=p) || anyS (l.drop (k+1)) p):=by
 obtain ⟨hk,he⟩:=List.getElem?_eq_some_iff.1 h
 rw [List.drop_eq_getElem_cons hk,he]; rfl
def sgRows (l:List (Bs × Int)):List (List D):=l.map fun x=>[.v (.string (Tx x.1)),.v (.int .i64 x.2)]
theorem sgRows_get {l:List (Bs × Int)} {i:Nat} {x:Bs × Int} (h:l[i]? = some x):(sgRows l)[i]? = some [.v (.string (Tx x.1)),.v (.int .i64 x.2)]:=by simp [sgRows,h]

set_option maxRecDepth 100000 in
theorem builtin_ok (p:Sg):PCtr Tryz.prog 99 [.d (.v (.string p.1)),.d (.v (.int .i64 p.2))] (bV (bltB p)):=by
 refine PCtr.of_R (pf:=fun _=>.eff) tyOk mixed Tryz.func99 rfl (by kernel_rfl) (by kernel_rfl) (by simp [Tryz.ntmps99]) fun w S hg=>?_
 refine R_run hg.ok 1000 rfl rfl ?_
 refine R_call hg.ok (progTwo_ok) rfl rfl rfl rfl rfl rfl ?_
 refine R_run hg.ok 1000 rfl rfl ?_
 refine R_cut2 (fun _:Unit=>([(0,.d (.v (.string p.1))),(1,.d (.v (.int .i64 p.2)))],[])) (fun _=>bltB p=anyS oneL p) rfl ?_ ?_
 ·refine R_loop (fun k:Nat=>([(0,.d (.v (.string p.1))),(1,.d (.v (.int .i64 p.2))),(9,.d (.sl (strRows twoL))),(10,iV 16),(11,iV k)],[])) (fun k=>k≤16∧bltB p=(anyS ((twoL.map fun s=>(s,2)).drop k) p || anyS oneL p)) (fun k=>16 - k) 0 ⟨Nat.zero_le _,rfl⟩ ⟨.refl _,.refl _,.refl _,.refl _,.refl _,trivial⟩ rfl ?_
  rintro k ⟨hk,hm⟩
  refine R_run hg.ok 1000 rfl rfl ?_
  refine R_if rfl rfl (fun h=>?_) (fun h=>?_) <;> refine R_run hg.ok 1000 rfl rfl ?_
  ·have hk1:k<twoL.length:=lt_dec h rfl
   have e1:twoL[k]? = some twoL[k]:=List.getElem?_eq_getElem hk1
   generalize twoL[k]=s at e1
   have hk2:k<16:=hk1
   have e2:(twoL.map fun s=>(s,(2:Int)))[k]? = some (s,2):=by rw [List.getElem?_map,e1]; rfl
   rw [anyS_drop e2] at hm
   refine R_index hg.ok rfl rfl rfl rfl rfl rfl (Int.natCast_nonneg _) (strRows_get e1) rfl ?_
   refine R_run hg.ok 1000 rfl rfl ?_
   refine R_eqK hg.ok (Tx s,2) p signCmp rfl rfl rfl rfl ?_
   refine R_run hg.ok 1000 rfl rfl ?_
   refine R_if rfl rfl (fun h=>?_) (fun h=>?_) <;> refine R_run hg.ok 1000 rfl rfl ?_
   ·refine R_ret hg 5 rfl rfl ?_
    rw [hm,h]; rfl
   ·exact R_next (k+1) ⟨hk1,by rw [hm,h,Bool.false_or]⟩ (by omega) ⟨.refl _,.refl _,.refl _,.refl _,Ent.wrap (by omega) (by omega) (by omega),trivial⟩ rfl
  ·have hk1:16≤k:=ge_dec h rfl
   refine R_to () ?_ ⟨.refl _,.refl _,trivial⟩ rfl
   rw [hm,List.drop_eq_nil_of_le (by simpa [twoL] using hk1)]; rfl
 rintro _ hb
 refine R_run hg.ok 1000 rfl rfl ?_
 refine R_loop (fun k:Nat=>([(0,.d (.v (.string p.1))),(1,.d (.v (.int .i64 p.2))),(31,.d (.sl (sgRows oneL))),(32,iV 9),(33,iV k)],[])) (fun k=>k≤9∧bltB p=anyS ((oneL).drop k) p) (fun k=>9 - k) 0 ⟨Nat.zero_le _,hb⟩ ⟨.refl _,.refl _,.fs _,.refl _,.refl _,trivial⟩ rfl ?_
 rintro k ⟨hk,hm⟩
 refine R_run hg.ok 1000 rfl rfl ?_
 refine R_if rfl rfl (fun h=>?_) (fun h=>?_) <;> refine R_run hg.ok 1000 rfl rfl ?_
 ·have hk1:k<(oneL).length:=lt_dec h rfl
  have e1:(oneL)[k]? = some (oneL)[k]:=List.getElem?_eq_getElem hk1
  generalize (oneL)[k]=x at e1
  have hk2:k<9:=hk1
  rw [anyS_drop e1] at hm
  refine R_index hg.ok rfl rfl rfl rfl rfl rfl (Int.natCast_nonneg _) (sgRows_get e1) rfl ?_
  refine R_run hg.ok 1000 rfl rfl ?_
  refine R_eqK hg.ok (Tx x.1,x.2) p signCmp rfl rfl rfl rfl ?_
  refine R_run hg.ok 1000 rfl rfl ?_
  refine R_if rfl rfl (fun h=>?_) (fun h=>?_) <;> refine R_run hg.ok 1000 rfl rfl ?_
  ·refine R_ret hg 5 rfl rfl ?_
   rw [hm,h]; rfl
  ·refine R_dropO 0 [] (Nat.zero_le _) rfl rfl ?_
   exact R_next (k+1) ⟨hk1,by rw [hm,h,Bool.false_or]⟩ (by omega) ⟨.refl _,.refl _,.refl _,.refl _,Ent.wrap (by omega) (by omega) (by omega),trivial⟩ rfl
 ·have hk1:(oneL).length≤k:=ge_dec h rfl
  refine R_ret hg 5 rfl rfl ?_
  rw [hm,List.drop_eq_nil_of_le hk1]; rfl

set_option maxRecDepth 100000 in
theorem control_ok (p:Sg):PCtr Tryz.prog 100 [.d (.v (.string p.1)),.d (.v (.int .i64 p.2))] (bV (ctlB p)):=by
 refine PCtr.of_R (pf:=fun _=>.eff) tyOk mixed Tryz.func100 rfl (by kernel_rfl) (by kernel_rfl) (by simp [Tryz.ntmps100]) fun w S hg=>?_
 refine R_run hg.ok 1000 rfl rfl ?_
 refine R_loop (fun k:Nat=>([(0,.d (.v (.string p.1))),(1,.d (.v (.int .i64 p.2))),(16,.d (.sl (sgRows (ctlL p.2)))),(17,iV 8),(18,iV k)],[])) (fun k=>k≤8∧ctlB p=anyS ((ctlL p.2).drop k) p) (fun k=>8 - k) 0 ⟨Nat.zero_le _,rfl⟩ ⟨.refl _,.refl _,.fs _,.refl _,.refl _,trivial⟩ rfl ?_
 rintro k ⟨hk,hm⟩
 refine R_run hg.ok 1000 rfl rfl ?_
 refine R_if rfl rfl (fun h=>?_) (fun h=>?_) <;> refine R_run hg.ok 1000 rfl rfl ?_
 ·have hk1:k<(ctlL p.2).length:=lt_dec h rfl
  have e1:(ctlL p.2)[k]? = some (ctlL p.2)[k]:=List.getElem?_eq_getElem hk1
  generalize (ctlL p.2)[k]=x at e1
  have hk2:k<8:=hk1
  rw [anyS_drop e1] at hm
  refine R_index hg.ok rfl rfl rfl rfl rfl rfl (Int.natCast_nonneg _) (sgRows_get e1) rfl ?_
  refine R_run hg.ok 1000 rfl rfl ?_
  refine R_eqK hg.ok (Tx x.1,x.2) p signCmp rfl rfl rfl rfl ?_
  refine R_run hg.ok 1000 rfl rfl ?_
  refine R_if rfl rfl (fun h=>?_) (fun h=>?_) <;> refine R_run hg.ok 1000 rfl rfl ?_
  ·refine R_ret hg 5 rfl rfl ?_
   rw [hm,h]; rfl
  ·refine R_dropO 0 [] (Nat.zero_le _) rfl rfl ?_
   exact R_next (k+1) ⟨hk1,by rw [hm,h,Bool.false_or]⟩ (by omega) ⟨.refl _,.refl _,.refl _,.refl _,Ent.wrap (by omega) (by omega) (by omega),trivial⟩ rfl
 ·have hk1:(ctlL p.2).length≤k:=ge_dec h rfl
  refine R_ret hg 5 rfl rfl ?_
  rw [hm,List.drop_eq_nil_of_le hk1]; rfl

theorem signOf_ok (t:Tm):PCtr Tryz.prog 64 [t.av] (sgA (sgOf t)):=by
 refine PCtr.of_R (pf:=fun _=>.eff) tyOk mixed Tryz.func64 rfl (by kernel_rfl) (by kernel_rfl) (by simp [Tryz.ntmps64]) fun w S hg=>?_
 refine R_run hg.ok 1000 rfl rfl ?_
 refine R_ret hg 5 rfl rfl ?_
 unfold sgA sgOf
 rw [Tm.rows_length]

theorem builtinT_ok (t:Tm):PCtr Tryz.prog 99 [.d (.v (.string t.s)),.d (.v (.int .i64 ((Tm.rows t.l).length:Int)))] (bV (bltB (sgOf t))):=by
 rw [Tm.rows_length]; exact builtin_ok (sgOf t)

theorem controlT_ok (t:Tm):PCtr Tryz.prog 100 [.d (.v (.string t.s)),.d (.v (.int .i64 ((Tm.rows t.l).length:Int)))] (bV (ctlB (sgOf t))):=by
 rw [Tm.rows_length]; exact control_ok (sgOf t)

set_option maxRecDepth 100000 in
theorem own_ok11 (t:Tm):PCtr Tryz.prog 66 [t.av] (bV (ownB t)):=by
 refine PCtr.of_R (pf:=fun _=>.eff) tyOk mixed Tryz.func66 rfl (by kernel_rfl) (by kernel_rfl) (by simp [Tryz.ntmps66]) fun w S hg=>?_
 refine R_run hg.ok 1000 rfl rfl ?_
 refine R_if rfl rfl (fun h=>?_) (fun h=>?_) <;> refine R_run hg.ok 1000 rfl rfl ?_
 ·refine R_call hg.ok (builtinT_ok t) rfl rfl rfl rfl rfl rfl ?_
  refine R_run hg.ok 1000 rfl rfl ?_
  refine R_if rfl rfl (fun h2=>?_) (fun h2=>?_) <;> refine R_run hg.ok 1000 rfl rfl ?_
  ·refine R_call hg.ok (controlT_ok t) rfl rfl rfl rfl rfl rfl ?_
   refine R_run hg.ok 1000 rfl rfl ?_
   refine R_ret hg 5 rfl rfl ?_
   unfold ownB
   rw [h,h2]; rfl
  ·refine R_ret hg 5 rfl rfl ?_
   unfold ownB
   rw [h,h2]; rfl
 ·refine R_ret hg 5 rfl rfl ?_
  unfold ownB
  rw [h]; rfl

theorem nothing_ok (t:Tm):PCtr Tryz.prog 128 [t.av] (bV (nothB t)):=by
 refine PCtr.of_R (pf:=fun _=>.eff) tyOk mixed Tryz.func128 rfl (by kernel_rfl) (by kernel_rfl) (by simp [Tryz.ntmps128]) fun w S hg=>?_
 refine R_run hg.ok 1000 rfl rfl ?_
 refine R_if rfl rfl (fun h1=>?_) (fun h1=>?_) <;> refine R_run hg.ok 1000 rfl rfl ?_
 ·refine R_if rfl rfl (fun h2=>?_) (fun h2=>?_) <;> refine R_run hg.ok 1000 rfl rfl ?_
  ·refine R_if rfl rfl (fun h3=>?_) (fun h3=>?_) <;> refine R_run hg.ok 1000 rfl rfl ?_
   ·refine R_ret hg 5 rfl rfl ?_
    unfold nothB
    rw [h1,h2,h3,Tm.rows_length]
    cases t.l <;> rfl
   ·refine R_ret hg 5 rfl rfl ?_
    unfold nothB
    rw [h1,h2,h3]; rfl
  ·refine R_ret hg 5 rfl rfl ?_
   unfold nothB
   rw [h1,h2]; rfl
 ·refine R_ret hg 5 rfl rfl ?_
  unfold nothB
  rw [h1]; rfl
end Go.Proofs.YtcgkgofmldhokaaGreat

namespace Go.Proofs.YtcgkgofmldhokaaGreat
open Go PSL Go.Proofs
def wobjs (n:Nat):List Ob:=[.yld n,.box [.yl 0],.box [.clo 152 [] [.lo 1 0,.lo 2 0]]]

set_option maxRecDepth 100000 in
theorem walk_ok (Y:YP) (t:Tm):∀ (d:Int) (n:Nat),0≤d→d+t.size<4611686018427387904→(∀ (i:Nat) (e:Int × Tm),(t.els d)[i]? = some e→Y.ys[n+i]? = some (Tm.enc e))→(n=0∨Y.go n=true) →
  SCtr Tryz.prog Y 152 [t.av,iV d,.lo 1 0,.lo 2 0] (wobjs n) (bV (adv Y t.size n).2) (wobjs (adv Y t.size n).1):=by
 induction t using Tm.ind with
 | _ t ih =>
 intro d n hd0 hd hy hgo
 refine SCtr.of_R (pf:=fun _=>.eff) tyOk mixed Tryz.func152 rfl (by kernel_rfl) (by kernel_rfl) (by simp [Tryz.ntmps152]) (by simp [wobjs]) fun w S φ hg=>?_
 refine R_run hg.ok 1000 rfl rfl ?_
 refine R_yield hg rfl rfl rfl rfl rfl rfl rfl (avs:=[iV d,t.av]) ?_ hgo ?_
 ·exact hy 0 (d,t) (by rw [Tm.els_eq]; rfl)
 refine R_run hg.ok 1000 rfl rfl ?_
 have hsz:=Tm.size_eq t
 have hlen:=Tm.len_le_sizeL t.l
 refine R_if rfl rfl (fun h1=>?_) (fun h1=>?_)
 ·refine R_run hg.ok 1000 rfl rfl ?_
  have h1:(!Y.go (n+1))=true:=h1
  have h2:Y.go (n+1)=false:=by simpa using h1
  have h3:adv Y t.size n=(n+1,false):=by rw [hsz,Nat.add_comm]; simp [adv,h2]
  refine R_retS hg 3 5 (Nat.le_refl _) rfl ?_ ?_
  ·rw [h3]; rfl
  ·rw [h3]; rfl
 have h1:(!Y.go (n+1))=false:=h1
 have h2:Y.go (n+1)=true:=by simpa using h1
 refine R_run hg.ok 1000 rfl rfl ?_
 refine R_loop (fun k:Nat=>([(1,iV d),(2,.lo 1 0),(3,.lo 2 0),(4,.lo 3 0),(15,.d (.sl (Tm.rows t.l))),(16,iV (t.l.length:Int)),(17,iV k)],wobjs (n+(1+Tm.sizeL (t.l.take k)))++[.box [.d (.v (.int .i64 t.k)),.d (.v (.string t.s)),.d (.v (.int .i64 t.n)),.d (.sl (Tm.rows t.l))]]))
  (fun k=>k≤t.l.length∧adv Y (1+Tm.sizeL (t.l.take k)) n=(n+(1+Tm.sizeL (t.l.take k)),true)) (fun k=>t.l.length - k) 0 ?_ ?_ ?_ ?_
 ·refine ⟨Nat.zero_le _,?_⟩
  simp [Tm.sizeL,adv,h2]
 ·exact ⟨.refl _,.refl _,.refl _,.refl _,.refl _,Ent.int (by rw [Tm.rows_length]),.refl _,trivial⟩
 ·rfl
 intro k hk
 refine R_run hg.ok 1000 rfl rfl ?_
 refine R_if rfl rfl (fun h1=>?_) (fun h1=>?_)
 ·have hk1:k<t.l.length:=by have:=of_decide_eq_true h1; omega
  have e1:t.l[k]? = some t.l[k]:=List.getElem?_eq_getElem hk1
  have hszk:=Tm.sizeL_take_succ e1
  have hmem:=Tm.size_mem (List.getElem_mem hk1)
  refine R_run hg.ok 1000 rfl rfl ?_
  refine R_index hg.ok rfl rfl rfl rfl rfl rfl (Int.natCast_nonneg k) (Tm.rows_get e1) rfl ?_
  refine R_run hg.ok 1000 rfl rfl ?_
  refine R_see 24 rfl (Ent.wrap rfl (by omega) (by omega)) ?_
  refine R_callS hg.ok hg.gup hg.wide hg.Y [0,1,2] (ih _ (List.getElem_mem hk1) (d+1) (n+(1+Tm.sizeL (t.l.take k))) (by omega) (by omega) ?_ ?_) (fun _=>rfl) rfl rfl rfl rfl rfl rfl rfl ?_
  ·intro i e he
   have hlt:=(List.getElem?_eq_some_iff.1 he).1
   have:=hy (1+Tm.sizeL (t.l.take k)+i) e (by
    rw [Tm.els_eq,show 1+Tm.sizeL (t.l.take k)+i=Tm.sizeL (t.l.take k)+i+1 by omega,List.getElem?_cons_succ]
    have hsplit:t.l=t.l.take k++(t.l[k]::t.l.drop (k+1)):=by rw [← List.drop_eq_getElem_cons hk1,List.take_append_drop]
    rw [hsplit,Tm.elsL_append,List.getElem?_append_right (by rw [Tm.elsL_len]; rw [← hsplit]; omega),Tm.elsL_len,← hsplit]
    simp only [Tm.elsL]
    rw [List.getElem?_append_left (by omega),show Tm.sizeL (List.take k t.l)+i - Tm.sizeL (List.take k t.l)=i by omega]
    exact he)
   rw [show n+(1+Tm.sizeL (t.l.take k))+i=n+(1+Tm.sizeL (t.l.take k)+i) by omega]; exact this
  ·right
   exact (adv_true (by rw [hk.2])).2 (by omega)
  refine R_run hg.ok 1000 rfl rfl ?_
  have hle:Tm.sizeL t.l=Tm.sizeL (t.l.take k)+(t.l[k].size+Tm.sizeL (t.l.drop (k+1))):=by
   conv=>lhs; rw [← List.take_append_drop k t.l,List.drop_eq_getElem_cons hk1]
   rw [Tm.sizeL_append,Tm.sizeL]
  refine R_if rfl rfl (fun h3=>?_) (fun h3=>?_)
  ·have h3:(!(adv Y t.l[k].size (n+(1+Tm.sizeL (t.l.take k)))).2)=true:=h3
   have h4:(adv Y t.l[k].size (n+(1+Tm.sizeL (t.l.take k)))).2=false:=by simpa using h3
   refine R_run hg.ok 1000 rfl rfl ?_
   have h5:adv Y t.size n=adv Y t.l[k].size (n+(1+Tm.sizeL (t.l.take k))):=by
    rw [hsz,hle,← Nat.add_assoc,adv_add_true hk.2,adv_add,if_neg (by rw [h4]; simp)]
   refine R_retS hg 3 5 (Nat.le_refl _) rfl ?_ ?_
   ·rw [h5,h4]; rfl
   ·rw [h5]; rfl
  have h3:(!(adv Y t.l[k].size (n+(1+Tm.sizeL (t.l.take k)))).2)=false:=h3
  have h4:(adv Y t.l[k].size (n+(1+Tm.sizeL (t.l.take k)))).2=true:=by simpa using h3
  have h6:=adv_eq h4
  refine R_run hg.ok 1000 rfl rfl ?_
  refine R_drop 4 (by rw [hg.hs0.len]; simp [wobjs]) rfl ?_
  have h7:n+(1+Tm.sizeL (t.l.take (k+1)))=n+(1+Tm.sizeL (t.l.take k))+t.l[k].size:=by rw [hszk]; omega
  refine R_next (k+1) ⟨hk1,?_⟩ (by omega) ⟨.refl _,.refl _,.refl _,.refl _,.refl _,.refl _,Ent.wrap (by omega) (by omega) (by omega),trivial⟩ ?_
  ·rw [hszk,← Nat.add_assoc 1,adv_add_true hk.2,h6]; simp only [Nat.add_assoc]
  ·rw [h6]; show _=wobjs (n+(1+Tm.sizeL (t.l.take (k+1))))++_; rw [h7]; rfl
 ·refine R_run hg.ok 1000 rfl rfl ?_
  have h3:¬ ((k:Int)<(t.l.length:Int)):=of_decide_eq_false h1
  have hkl:k=t.l.length:=by omega
  have h4:adv Y t.size n=(n+(1+Tm.sizeL (t.l.take k)),true):=by
   have:=hk.2
   rw [hkl,List.take_length] at this ⊢
   rw [hsz]; exact this
  refine R_retS hg 3 5 (Nat.le_refl _) rfl ?_ ?_
  ·rw [h4]; rfl
  ·rw [h4]; rfl

set_option maxRecDepth 100000 in
theorem all_ok (Y:YP) (t:Tm) (n:Nat) (hd:t.size<1000000000) (hy:∀ (i:Nat) (e:Int × Tm),(t.els 1)[i]? = some e→Y.ys[n+i]? = some (Tm.enc e)) (hgo:n=0∨Y.go n=true) :
  SCtr Tryz.prog Y 126 [t.av,.yl 0] [.yld n] (bV (adv Y t.size n).2) [.yld (adv Y t.size n).1]:=by
 refine SCtr.of_R (pf:=fun _=>.eff) tyOk mixed Tryz.func126 rfl (by kernel_rfl) (by kernel_rfl) (by simp [Tryz.ntmps126]) (by simp) fun w S φ hg=>?_
 refine R_run hg.ok 1000 rfl rfl ?_
 refine R_callS hg.ok hg.gup hg.wide hg.Y [0,2,3] (walk_ok Y t 1 n (by omega) (by omega) hy hgo) (fun _=>rfl) rfl rfl rfl rfl rfl rfl rfl ?_
 refine R_run hg.ok 1000 rfl rfl ?_
 refine R_retS hg 1 5 (Nat.le_refl _) rfl ?_ ?_
 ·rfl
 ·rfl

set_option maxRecDepth 100000 in
theorem each1_ok (Y:YP) (t:Tm) (hd:t.size<1000000000) (hy:∀ (i:Nat) (e:Int × Tm),(t.els 1)[i]? = some e→Y.ys[i]? = some (Tm.enc e)) :
  SCtr Tryz.prog Y 125 [.yl 0,.d (.ptr (Tm.row t))] [.yld 0] (.tup []) [.yld (adv Y t.size 0).1]:=by
 refine SCtr.of_R (pf:=fun _=>.eff) tyOk mixed Tryz.func125 rfl (by kernel_rfl) (by kernel_rfl) (by simp [Tryz.ntmps125]) (by simp) fun w S φ hg=>?_
 refine R_run hg.ok 1000 rfl rfl ?_
 refine R_callS hg.ok hg.gup hg.wide hg.Y [0] (all_ok Y t 0 hd (by simpa using hy) (.inl rfl)) (fun _=>rfl) rfl rfl rfl rfl rfl rfl rfl ?_
 refine R_run hg.ok 1000 rfl rfl ?_
 refine R_endS hg 1 5 (Nat.le_refl _) rfl ?_ ?_
 ·rfl
 ·rfl

set_option maxRecDepth 100000 in
theorem each_ok (t:Tm):PCtr Tryz.prog 101 [t.av] (.clo 125 [] [.d (.ptr (Tm.row t))]):=by
 refine PCtr.of_R (pf:=fun _=>.still) tyOk mixed Tryz.func101 rfl (by kernel_rfl) (by kernel_rfl) (by simp [Tryz.ntmps101]) fun w S hg=>?_
 refine R_run hg.ok 1000 rfl rfl ?_
 refine R_ret hg 5 rfl rfl ?_
 rfl
end Go.Proofs.YtcgkgofmldhokaaGreat

namespace Go.Proofs.YtcgkgofmldhokaaGreat
open Go PSL Go.Proofs
def boxT (t:Tm):Ob:=.box [.d (.v (.int .i64 t.k)),.d (.v (.string t.s)),.d (.v (.int .i64 t.n)),.d (.sl (Tm.rows t.l))]

theorem adv_allT {Y:YP} (h:∀ n,Y.go n=true):∀ (k n:Nat),adv Y k n=(n+k,true)
 | 0,n=>rfl
 | k+1,n=>by simp only [adv,h,if_true]; rw [adv_allT h k]; congr 1; omega
theorem els_ys {t:Tm} {i:Nat} {e:Int × Tm} (h:(t.els 1)[i]? = some e):((t.els 1).map Tm.enc)[i]? = some (Tm.enc e):=by rw [List.getElem?_map,h]; rfl
theorem els_lt {t:Tm} {i:Nat} {e:Int × Tm} (h:(t.els 1)[i]? = some e):i<t.size:=by rw [← Tm.els_len t 1]; exact (List.getElem?_eq_some_iff.1 h).1
end Go.Proofs.YtcgkgofmldhokaaGreat

namespace Go.Proofs.YtcgkgofmldhokaaGreat
open Go PSL Go.Proofs

set_option maxRecDepth 100000 in
theorem named_ok (s:ByteArray) (hs:s.size<1000000000):PCtr Tryz.prog 127 [.d (.v (.string s))] (bV (namedB s)):=by
 refine PCtr.of_R (pf:=fun _=>.still) tyOk mixed Tryz.func127 rfl (by kernel_rfl) (by kernel_rfl) (by simp [Tryz.ntmps127]) fun w S hg=>?_
 refine R_run hg.ok 1000 rfl rfl ?_
 refine R_loop (fun k:Nat=>([(0,.d (.v (.string s))),(5,iV s.size),(6,iV k)],[])) (fun k=>k≤s.size∧∀ i (hi:i<s.size),i<k→byteOk s[i]=true) (fun k=>s.size - k) 0 ?_ ?_ rfl ?_
 ·exact ⟨Nat.zero_le _,fun i _ h=>absurd h (Nat.not_lt_zero _)⟩
 ·exact ⟨.refl _,.refl _,.refl _,trivial⟩
 intro k hk
 refine R_run hg.ok 1000 rfl rfl ?_
 refine R_if rfl rfl (fun h1=>?_) (fun h1=>?_)
 ·have hk1:k<s.size:=by have:=of_decide_eq_true h1; omega
  refine R_run hg.ok 1000 rfl rfl ?_
  refine R_indexS hg.ok rfl rfl rfl rfl rfl (Int.natCast_nonneg k) (byte_at hk1) ?_
  refine R_run hg.ok 1000 rfl rfl ?_
  refine R_if rfl rfl (fun h2=>?_) (fun h2=>?_)
  ·refine R_run hg.ok 1000 rfl rfl ?_
   refine R_ret hg 5 rfl rfl ?_
   have:byteOk s[k]=false:=by unfold byteOk; rw [h2]; rfl
   simp only [namedB,not_all_bytes hk1 this]; rfl
  refine R_run hg.ok 1000 rfl rfl ?_
  refine R_indexS hg.ok rfl rfl rfl rfl rfl (Int.natCast_nonneg k) (byte_at hk1) ?_
  refine R_run hg.ok 1000 rfl rfl ?_
  refine R_if rfl rfl (fun h3=>?_) (fun h3=>?_)
  ·refine R_run hg.ok 1000 rfl rfl ?_
   refine R_ret hg 5 rfl rfl ?_
   have:byteOk s[k]=false:=by unfold byteOk; rw [h3]; simp
   simp only [namedB,not_all_bytes hk1 this]; rfl
  refine R_run hg.ok 1000 rfl rfl ?_
  refine R_next (k+1) ⟨hk1,fun i hi hik=>?_⟩ (by omega) ⟨.refl _,.refl _,Ent.wrap (by omega) (by omega) (by omega),trivial⟩ rfl
  rcases Nat.lt_or_ge i k with h | h
  ·exact hk.2 i hi h
  ·have:i=k:=by omega
   subst this
   unfold byteOk; rw [h2,h3]; rfl
 ·have h4:¬ ((k:Int)<(s.size:Int)):=of_decide_eq_false h1
  have hall:s.data.toList.all byteOk=true:=all_bytes fun i hi=>hk.2 i hi (by omega)
  refine R_run hg.ok 1000 rfl rfl ?_
  refine R_if rfl rfl (fun h2=>?_) (fun h2=>?_)
  ·refine R_run hg.ok 1000 rfl rfl ?_
   refine R_ret hg 5 rfl rfl ?_
   simp only [namedB,hall,h2,Bool.true_and]; rfl
  ·refine R_run hg.ok 1000 rfl rfl ?_
   refine R_ret hg 5 rfl rfl ?_
   simp only [namedB,hall,h2,Bool.true_and]; rfl
end Go.Proofs.YtcgkgofmldhokaaGreat

namespace Go.Proofs.YtcgkgofmldhokaaGreat
open Go PSL Go.Proofs

set_option maxRecDepth 100000 in
theorem own_ok (t:Tm) (hs:t.s.size<1000000000):PCtr Tryz.prog 102 [t.av] (bV t.ownT):=by
 refine PCtr.of_R (pf:=fun _=>.still) tyOk mixed Tryz.func102 rfl (by kernel_rfl) (by kernel_rfl) (by simp [Tryz.ntmps102]) fun w S hg=>?_
 refine R_run hg.ok 1000 rfl rfl ?_
 iterate 12
  all_goals try first
   | (refine R_if rfl rfl (fun _=>?_) (fun _=>?_) <;> refine R_run hg.ok 1000 rfl rfl ?_)
   | (refine R_call hg.ok (named_ok t.s hs) rfl rfl rfl rfl rfl rfl ?_; refine R_run hg.ok 1000 rfl rfl ?_)
 all_goals refine R_ret hg 5 rfl rfl ?_
 all_goals (simp only [Tm.rows_length,beq_iff_eq,beq_eq_false_iff_ne,ne_eq,decide_eq_true_eq,decide_eq_false_iff_not] at *)
 all_goals (simp_all [Tm.ownT,bV])
 all_goals (intros; omega)

set_option maxRecDepth 100000 in
theorem right_ok (t:Tm) (hd:t.size<1000000000) (hs:∀ e∈t.els 1,e.2.s.size<1000000000):PCtr Tryz.prog 69 [t.av] (bV (rightT t)):=by
 refine PCtr.of_R (pf:=fun _=>.still) tyOk mixed Tryz.func69 rfl (by kernel_rfl) (by kernel_rfl) (by simp [Tryz.ntmps69]) fun w S hg=>?_
 refine R_run hg.ok 1000 rfl rfl ?_
 refine R_call hg.ok (each_ok t) rfl rfl rfl rfl rfl rfl ?_
 refine R_run hg.ok 1000 rfl rfl ?_
 refine R_range hg.ok hg.gup ⟨rfl,rfl⟩ rfl (t.els 1) Tm.enc ⟨(t.els 1).map Tm.enc,goR t⟩ rfl (fun n=>[boxT t,.box [.d (.v (.bool false))],.box [iV n]]) (fun _ e=>[(2,.lo 1 0),(3,.lo 2 0),(4,iV e.1),(5,.lo 3 0)]) (fun n e=>[boxT t,.box [.d (.v (.bool false))],.box [iV n],boxT e.2]) _ .ret rfl rfl rfl (each1_ok _ t hd fun _ _ h=>els_ys h) rfl (fun _ _=>rfl) rfl ?_ ?_ ?_ rfl rfl ?_
 ·intro n x hx _ l w R0 X φ0 _ hamb
  refine R_run (gRound_ok hg.ok _ _ _ _ _ hamb) 1000 rfl rfl ?_
  exact R_finA ⟨.refl _,.refl _,.refl _,.refl _,trivial⟩ rfl
 ·intro n x hx _ l w R0 X φ0 hφ0 hamb
  have hn:=els_lt hx
  have hg':=gRound_ok hg.ok l w R0 X φ0 hamb
  have hgo:goR t (n+1)=stepR x (n+1):=by simp only [goR,hx]
  have hw:IntKind.i64.wrap ((n:Int)+1)=((n+1:Nat):Int):=wrap_id (by omega) (by omega)
  refine R_run hg' 1000 rfl rfl ?_
  refine R_if rfl rfl (fun h1=>?_) (fun h1=>?_)
  ·refine R_run hg' 1000 rfl rfl ?_
   refine R_drop 3 (by rw [show (gRound _ l w R0 X φ0).φ0=φ0 from rfl,hφ0]; exact Nat.le_refl _) rfl ?_
   refine R_obs [boxT t,.box [.d (.v (.bool false))],.box [iV ((n+1:Nat):Int)]] ⟨ObIn.refl _,⟨Ent.ff,trivial⟩,⟨Ent.int hw,trivial⟩,trivial⟩ rfl ?_
   exact R_retB (by rw [show (YP.go ⟨_,goR t⟩ (n+1))=goR t (n+1) from rfl,hgo]; simp only [stepR,h1,Bool.true_or,Bool.not_true]) rfl rfl
  refine R_run hg' 1000 rfl rfl ?_
  refine R_if rfl rfl (fun h2=>?_) (fun h2=>?_)
  ·refine R_run hg' 1000 rfl rfl ?_
   refine R_drop 3 (by rw [show (gRound _ l w R0 X φ0).φ0=φ0 from rfl,hφ0]; exact Nat.le_refl _) rfl ?_
   refine R_obs [boxT t,.box [.d (.v (.bool false))],.box [iV ((n+1:Nat):Int)]] ⟨ObIn.refl _,⟨Ent.ff,trivial⟩,⟨Ent.int hw,trivial⟩,trivial⟩ rfl ?_
   rw [hw] at h2
   exact R_retB (by rw [show (YP.go ⟨_,goR t⟩ (n+1))=goR t (n+1) from rfl,hgo]; simp only [stepR,h2,Bool.or_true,Bool.true_or,Bool.not_true]) rfl rfl
  refine R_run hg' 1000 rfl rfl ?_
  refine R_call hg' (own_ok x.2 (hs x (List.mem_of_getElem? hx))) rfl rfl rfl rfl rfl rfl ?_
  refine R_run hg' 1000 rfl rfl ?_
  rw [hw] at h2
  refine R_if rfl rfl (fun h3=>?_) (fun h3=>?_)
  ·refine R_run hg' 1000 rfl rfl ?_
   refine R_drop 3 (by rw [show (gRound _ l w R0 X φ0).φ0=φ0 from rfl,hφ0]; exact Nat.le_refl _) rfl ?_
   refine R_obs [boxT t,.box [.d (.v (.bool false))],.box [iV ((n+1:Nat):Int)]] ⟨ObIn.refl _,⟨Ent.ff,trivial⟩,⟨Ent.int hw,trivial⟩,trivial⟩ rfl ?_
   exact R_retB (by rw [show (YP.go ⟨_,goR t⟩ (n+1))=goR t (n+1) from rfl,hgo]; simp only [stepR,h3,Bool.or_true,Bool.not_true]) rfl rfl
  ·refine R_run hg' 1000 rfl rfl ?_
   refine R_drop 3 (by rw [show (gRound _ l w R0 X φ0).φ0=φ0 from rfl,hφ0]; exact Nat.le_refl _) rfl ?_
   refine R_obs [boxT t,.box [.d (.v (.bool false))],.box [iV ((n+1:Nat):Int)]] ⟨ObIn.refl _,⟨.refl _,trivial⟩,⟨Ent.int hw,trivial⟩,trivial⟩ rfl ?_
   exact R_finB (by rw [show (YP.go ⟨_,goR t⟩ (n+1))=goR t (n+1) from rfl,hgo]; simp only [stepR,h1,h2,h3,Bool.or_false,Bool.not_false]) rfl
 ·intro hgo
  refine R_run hg.ok 1000 rfl rfl ?_
  refine R_ret hg 5 rfl rfl ?_
  cases h:rightT t
  ·obtain ⟨h1,h2⟩:=adv_false h
   exact absurd hgo (by rintro (h3 | h3); exact h2 h3; rw [h1] at h3; cases h3)
  ·rfl
 ·intro h0 hgo
  refine R_ret hg 5 rfl rfl ?_
  cases h:rightT t
  ·rfl
  ·have h1:=adv_true h
   rw [h1.1] at h0 hgo
   rw [h1.2 (by omega)] at hgo; cases hgo
end Go.Proofs.YtcgkgofmldhokaaGreat

namespace Go.Proofs.YtcgkgofmldhokaaGreat
open Go PSL Go.Proofs
end Go.Proofs.YtcgkgofmldhokaaGreat

namespace Go.Proofs.YtcgkgofmldhokaaGreat
open Go PSL Go.Proofs
def boxR (t:Tm):Ob:=.box [.d (.v (.int .i64 t.k)),.d (.v (.string t.s)),.d (.v (.int .i64 t.n)),.d (.sl (Tm.rows t.l))]
end Go.Proofs.YtcgkgofmldhokaaGreat

namespace Go.Proofs.YtcgkgofmldhokaaGreat
open Go PSL Go.Proofs

set_option maxRecDepth 100000 in
theorem refSize_ok (t:Tm):t.size<1000000000→PCtr Tryz.prog 48 [t.av] (iV t.size):=by
 induction t using Tm.ind with
 | _ t ih =>
 intro hsz
 refine PCtr.of_R (pf:=fun _=>.still) tyOk mixed Tryz.func48 rfl (by kernel_rfl) (by kernel_rfl) (by simp [Tryz.ntmps48]) fun w S hg=>?_
 refine R_run hg.ok 1000 rfl rfl ?_
 refine R_loop (fun x:Nat × Nat=>([(1,.lo 0 0),(3,iV x.2),(4,iV x.1)],[boxR t])) (fun x=>x.1≤t.l.length∧t.size=x.2+Tm.sizeL (t.l.drop x.1)) (fun x=>t.l.length - x.1) (0,1) ⟨Nat.zero_le _,Tm.size_eq t⟩ ⟨.refl _,.refl _,.refl _,trivial⟩ rfl ?_
 rintro ⟨k,m⟩ ⟨hk,hm⟩
 simp only at hk hm
 have hl:=Tm.len_le_sizeL t.l
 have hs:=Tm.size_eq t
 refine R_run hg.ok 1000 rfl rfl ?_
 refine R_if rfl rfl (fun h=>?_) (fun h=>?_) <;> refine R_run hg.ok 1000 rfl rfl ?_
 ·have hk1:k<t.l.length:=lt_dec h (by rw [Tm.rows_length])
  have e1:t.l[k]? = some t.l[k]:=List.getElem?_eq_getElem hk1
  rw [List.drop_eq_getElem_cons hk1,Tm.sizeL] at hm
  refine R_index hg.ok rfl rfl rfl rfl rfl rfl (Int.natCast_nonneg k) (Tm.rows_get e1) rfl ?_
  refine R_run hg.ok 1000 rfl rfl ?_
  refine R_call hg.ok (ih _ (List.getElem_mem hk1) (by omega)) rfl rfl rfl rfl rfl rfl ?_
  refine R_run hg.ok 1000 rfl rfl ?_
  exact R_next (k+1,m+t.l[k].size) ⟨hk1,by simp only; omega⟩ (by simp only; omega) ⟨.refl _,Ent.wrap (by omega) (by omega) (by omega),Ent.wrap (by omega) (by omega) (by omega),trivial⟩ rfl
 ·have hk1:t.l.length≤k:=ge_dec h (by rw [Tm.rows_length])
  refine R_ret hg 5 rfl rfl ?_
  rw [List.drop_eq_nil_of_le hk1,Tm.sizeL] at hm
  simp only [hm,Nat.add_zero]; rfl

set_option maxRecDepth 100000 in
theorem refDeep_ok (t:Tm):t.size<1000000000→PCtr Tryz.prog 49 [t.av] (iV t.depth):=by
 induction t using Tm.ind with
 | _ t ih =>
 intro hsz
 refine PCtr.of_R (pf:=fun _=>.still) tyOk mixed Tryz.func49 rfl (by kernel_rfl) (by kernel_rfl) (by simp [Tryz.ntmps49]) fun w S hg=>?_
 refine R_run hg.ok 1000 rfl rfl ?_
 refine R_loop (fun x:Nat × Nat=>([(1,.lo 0 0),(3,iV x.2),(4,iV x.1)],[boxR t])) (fun x=>x.1≤t.l.length∧Tm.depthL t.l=max x.2 (Tm.depthL (t.l.drop x.1))) (fun x=>t.l.length - x.1) (0,0) ⟨Nat.zero_le _,by simp⟩ ⟨.refl _,.refl _,.refl _,trivial⟩ rfl ?_
 rintro ⟨k,m⟩ ⟨hk,hm⟩
 simp only at hk hm
 have hl:=Tm.len_le_sizeL t.l
 have hs:=Tm.size_eq t
 have hd:=Tm.depth_eq t
 have hds:=Tm.depth_le_size t
 refine R_run hg.ok 1000 rfl rfl ?_
 refine R_if rfl rfl (fun h=>?_) (fun h=>?_) <;> refine R_run hg.ok 1000 rfl rfl ?_
 ·have hk1:k<t.l.length:=lt_dec h (by rw [Tm.rows_length])
  have e1:t.l[k]? = some t.l[k]:=List.getElem?_eq_getElem hk1
  have hsm:=Tm.size_mem (List.getElem_mem hk1)
  rw [List.drop_eq_getElem_cons hk1,Tm.depthL] at hm
  refine R_index hg.ok rfl rfl rfl rfl rfl rfl (Int.natCast_nonneg k) (Tm.rows_get e1) rfl ?_
  refine R_run hg.ok 1000 rfl rfl ?_
  refine R_call hg.ok (ih _ (List.getElem_mem hk1) (by omega)) rfl rfl rfl rfl rfl rfl ?_
  refine R_run hg.ok 1000 rfl rfl ?_
  refine R_if rfl rfl (fun h=>?_) (fun h=>?_) <;> refine R_run hg.ok 1000 rfl rfl ?_
  ·have h:=of_decide_eq_true h
   exact R_next (k+1,t.l[k].depth) ⟨hk1,by simp only; omega⟩ (by simp only; omega) ⟨.refl _,.refl _,Ent.wrap (by omega) (by omega) (by omega),trivial⟩ rfl
  ·have h:=of_decide_eq_false h
   exact R_next (k+1,m) ⟨hk1,by simp only; omega⟩ (by simp only; omega) ⟨.refl _,.refl _,Ent.wrap (by omega) (by omega) (by omega),trivial⟩ rfl
 ·have hk1:t.l.length≤k:=ge_dec h (by rw [Tm.rows_length])
  refine R_ret hg 5 rfl rfl ?_
  rw [List.drop_eq_nil_of_le hk1,Tm.depthL] at hm
  rw [w64 (by omega) (by omega),hd,hm]; simp [iV]

set_option maxRecDepth 100000 in
theorem refSame_ok (a:Tm):∀ b,a.size<1000000000→PCtr Tryz.prog 129 [a.av,b.av] (bV (a.same b)):=by
 induction a using Tm.ind with
 | _ a ih =>
 intro b hsz
 refine PCtr.of_R (pf:=fun _=>.still) tyOk mixed Tryz.func129 rfl (by kernel_rfl) (by kernel_rfl) (by simp [Tryz.ntmps129]) fun w S hg=>?_
 refine R_run hg.ok 1000 rfl rfl ?_
 iterate 4
  refine R_if rfl rfl (fun _=>?_) (fun _=>?_) <;> refine R_run hg.ok 1000 rfl rfl ?_
  ·refine R_ret hg 5 rfl rfl ?_
   simp_all [Tm.same_eq,bV,Tm.rows_length]
   try exact Tm.sameL_len (by omega)
 refine R_loop (fun k:Nat=>([(2,.lo 0 0),(3,.lo 1 0),(5,iV k)],[boxR a,boxR b])) (fun k=>k≤a.l.length∧a.l.length=b.l.length∧a.same b=Tm.sameL (a.l.drop k) (b.l.drop k)) (fun k=>a.l.length - k) 0 ?_ ⟨.refl _,.refl _,.refl _,trivial⟩ rfl ?_
 ·simp_all [Tm.same_eq,Tm.rows_length]
  omega
 rintro k ⟨hk0,hl,hk⟩
 have hszl:=Tm.len_le_sizeL a.l
 have hsz2:=Tm.size_eq a
 refine R_run hg.ok 1000 rfl rfl ?_
 refine R_if rfl rfl (fun h=>?_) (fun h=>?_) <;> refine R_run hg.ok 1000 rfl rfl ?_
 ·have hk1:=lt_dec (n:=a.l.length) h (by rw [Tm.rows_length])
  have hk2:k<b.l.length:=by omega
  have e1:a.l[k]? = some a.l[k]:=List.getElem?_eq_getElem hk1
  have e2:b.l[k]? = some b.l[k]:=List.getElem?_eq_getElem hk2
  rw [List.drop_eq_getElem_cons hk1,List.drop_eq_getElem_cons hk2,Tm.sameL] at hk
  have hm:=Tm.size_mem (List.getElem_mem hk1)
  refine R_index hg.ok rfl rfl rfl rfl rfl rfl (Int.natCast_nonneg k) (Tm.rows_get e1) rfl ?_
  refine R_run hg.ok 1000 rfl rfl ?_
  refine R_index hg.ok rfl rfl rfl rfl rfl rfl (Int.natCast_nonneg k) (Tm.rows_get e2) rfl ?_
  refine R_run hg.ok 1000 rfl rfl ?_
  refine R_call hg.ok (ih _ (List.getElem_mem hk1) b.l[k] (by omega)) rfl rfl rfl rfl rfl rfl ?_
  refine R_run hg.ok 1000 rfl rfl ?_
  refine R_if rfl rfl (fun h=>?_) (fun h=>?_) <;> refine R_run hg.ok 1000 rfl rfl ?_
  ·refine R_ret hg 5 rfl rfl ?_
   rw [hk]; simp_all [bV]
  ·refine R_next (k+1) ⟨hk1,hl,?_⟩ (by omega) ⟨.refl _,.refl _,Ent.wrap (by omega) (by omega) (by omega),trivial⟩ rfl
   rw [hk]; simp_all
 ·refine R_ret hg 5 rfl rfl ?_
  have hk1:=ge_dec (n:=a.l.length) h (by rw [Tm.rows_length])
  rw [hk,List.drop_eq_nil_of_le (by omega),List.drop_eq_nil_of_le (by omega)]; rfl

set_option maxRecDepth 100000 in
theorem fair_ok (t:Tm):t.size<1000000000→(∀ x e,e∈t.els x→e.2.s.size<1000000000)→PCtr Tryz.prog 47 [t.av] (bV t.fairR):=by
 induction t using Tm.ind with
 | _ t ih =>
 intro hsz hns
 have hn0:t.s.size<1000000000:=hns 0 (0,t) (by rw [Tm.els_eq]; simp)
 have hl:=Tm.len_le_sizeL t.l
 have hs:=Tm.size_eq t
 refine PCtr.of_R (pf:=fun _=>.still) tyOk mixed Tryz.func47 rfl (by kernel_rfl) (by kernel_rfl) (by simp [Tryz.ntmps47]) fun w S hg=>?_
 refine R_run hg.ok 1000 rfl rfl ?_
 refine R_loop (fun k:Nat=>([(1,.lo 0 0),(3,iV k)],[boxR t])) (fun k=>k≤t.s.size∧∀ i (hi:i<t.s.size),i<k→byteOk t.s[i]=true) (fun k=>t.s.size - k) 0 ⟨Nat.zero_le _,fun i _ h=>absurd h (Nat.not_lt_zero _)⟩ ⟨.refl _,.refl _,trivial⟩ rfl ?_
 intro k hk
 refine R_run hg.ok 1000 rfl rfl ?_
 refine R_if rfl rfl (fun h=>?_) (fun h=>?_) <;> refine R_run hg.ok 1000 rfl rfl ?_
 ·have hk1:=lt_dec (n:=t.s.size) h rfl
  refine R_indexS hg.ok rfl rfl rfl rfl rfl (Int.natCast_nonneg k) (byte_at hk1) ?_
  refine R_run hg.ok 1000 rfl rfl ?_
  have bad:byteOk t.s[k]=false→t.fairR=false:=fun h=>by rw [Tm.fairR_eq,not_all_bytes hk1 h]; rfl
  refine R_if rfl rfl (fun h2=>?_) (fun h2=>?_) <;> refine R_run hg.ok 1000 rfl rfl ?_
  ·refine R_ret hg 5 rfl rfl ?_
   rw [bad (by unfold byteOk; rw [h2]; rfl)]; rfl
  refine R_indexS hg.ok rfl rfl rfl rfl rfl (Int.natCast_nonneg k) (byte_at hk1) ?_
  refine R_run hg.ok 1000 rfl rfl ?_
  refine R_if rfl rfl (fun h3=>?_) (fun h3=>?_) <;> refine R_run hg.ok 1000 rfl rfl ?_
  ·refine R_ret hg 5 rfl rfl ?_
   rw [bad (by unfold byteOk; rw [h3]; simp)]; rfl
  refine R_next (k+1) ⟨hk1,fun i hi hik=>?_⟩ (by omega) ⟨.refl _,Ent.wrap (by omega) (by omega) (by omega),trivial⟩ rfl
  rcases Nat.lt_or_ge i k with h | h
  ·exact hk.2 i hi h
  ·have:i=k:=by omega
   subst this
   unfold byteOk; rw [h2,h3]; rfl
 have hk1:=ge_dec (n:=t.s.size) h rfl
 have hall:t.s.data.toList.all byteOk=true:=all_bytes fun i hi=>hk.2 i hi (by omega)
 refine R_loop (fun k:Nat=>([(1,.lo 0 0),(4,iV k)],[boxR t])) (fun k=>k≤t.l.length∧Tm.fairRL t.l=Tm.fairRL (t.l.drop k)) (fun k=>t.l.length - k) 0 ⟨Nat.zero_le _,rfl⟩ ⟨.refl _,.refl _,trivial⟩ rfl ?_
 rintro k ⟨hk,hm⟩
 refine R_run hg.ok 1000 rfl rfl ?_
 refine R_if rfl rfl (fun h=>?_) (fun h=>?_) <;> refine R_run hg.ok 1000 rfl rfl ?_
 ·have hk1:k<t.l.length:=lt_dec h (by rw [Tm.rows_length])
  have e1:t.l[k]? = some t.l[k]:=List.getElem?_eq_getElem hk1
  have hsm:=Tm.size_mem (List.getElem_mem hk1)
  rw [List.drop_eq_getElem_cons hk1,Tm.fairRL] at hm
  refine R_index hg.ok rfl rfl rfl rfl rfl rfl (Int.natCast_nonneg k) (Tm.rows_get e1) rfl ?_
  refine R_run hg.ok 1000 rfl rfl ?_
  refine R_call hg.ok (ih _ (List.getElem_mem hk1) (by omega) (fun x e he=>hns (x - 1) e (by rw [Tm.els_eq]; exact List.mem_cons_of_mem _ (Tm.els_memL (List.getElem_mem hk1) (by rw [Int.sub_add_cancel]; exact he))))) rfl rfl rfl rfl rfl rfl ?_
  refine R_run hg.ok 1000 rfl rfl ?_
  refine R_if rfl rfl (fun h=>?_) (fun h=>?_) <;> refine R_run hg.ok 1000 rfl rfl ?_
  ·refine R_ret hg 5 rfl rfl ?_
   rw [Tm.fairR_eq,hm]; simp_all [bV]
  ·refine R_next (k+1) ⟨hk1,?_⟩ (by omega) ⟨.refl _,Ent.wrap (by omega) (by omega) (by omega),trivial⟩ rfl
   rw [hm]; simp_all
 have hk1:t.l.length≤k:=ge_dec h (by rw [Tm.rows_length])
 rw [List.drop_eq_nil_of_le hk1,Tm.fairRL] at hm
 iterate 12
  all_goals try (refine R_if rfl rfl (fun _=>?_) (fun _=>?_) <;> refine R_run hg.ok 1000 rfl rfl ?_)
 all_goals refine R_ret hg 5 rfl rfl ?_
 all_goals (rw [Tm.fairR_eq,hall,hm]; unfold Tm.kindR)
 all_goals (simp only [Tm.rows_length,beq_iff_eq,beq_eq_false_iff_ne,ne_eq,decide_eq_true_eq,decide_eq_false_iff_not] at *)
 all_goals (simp_all [bV])
 all_goals (intros; omega)

set_option maxRecDepth 100000 in
theorem refRight_ok (t:Tm) (hsz:t.size<1000000000) (hns:∀ x e,e∈t.els x→e.2.s.size<1000000000):PCtr Tryz.prog 18 [t.av] (bV t.rightB):=by
 refine PCtr.of_R (pf:=fun _=>.still) tyOk mixed Tryz.func18 rfl (by kernel_rfl) (by kernel_rfl) (by simp [Tryz.ntmps18]) fun w S hg=>?_
 refine R_run hg.ok 1000 rfl rfl ?_
 refine R_call hg.ok (fair_ok t hsz hns) rfl rfl rfl rfl rfl rfl ?_
 refine R_run hg.ok 1000 rfl rfl ?_
 refine R_if rfl rfl (fun _=>?_) (fun _=>?_) <;> refine R_run hg.ok 1000 rfl rfl ?_
 ·refine R_call hg.ok (refSize_ok t hsz) rfl rfl rfl rfl rfl rfl ?_
  refine R_run hg.ok 1000 rfl rfl ?_
  refine R_if rfl rfl (fun _=>?_) (fun _=>?_) <;> refine R_run hg.ok 1000 rfl rfl ?_
  ·refine R_call hg.ok (refDeep_ok t hsz) rfl rfl rfl rfl rfl rfl ?_
   refine R_run hg.ok 1000 rfl rfl ?_
   refine R_ret hg 5 rfl rfl ?_
   simp only [decide_eq_true_eq] at *
   unfold Tm.rightB
   show bV _=bV _
   congr 1
   rw [Bool.eq_iff_iff]
   simp_all
   omega
  ·refine R_ret hg 5 rfl rfl ?_
   simp only [decide_eq_false_iff_not] at *
   unfold Tm.rightB
   simp_all [bV]
   intros; omega
 ·refine R_ret hg 5 rfl rfl ?_
  unfold Tm.rightB
  simp_all [bV]

set_option maxRecDepth 100000 in
theorem few_ok (t:Tm):t.Ok→∀ m d:Int,PCtr Tryz.prog 19 [t.av,iV m,iV d] (iV (t.few m d)):=by
 induction t using Tm.ind with
 | _ t ih =>
 intro hok m d
 refine PCtr.of_R (pf:=fun _=>.still) tyOk mixed Tryz.func19 rfl (by kernel_rfl) (by kernel_rfl) (by simp [Tryz.ntmps19]) fun w S hg=>?_
 refine R_run hg.ok 1000 rfl rfl ?_
 iterate 3
  refine R_if rfl rfl (fun _=>?_) (fun _=>?_) <;> refine R_run hg.ok 1000 rfl rfl ?_
  ·refine R_ret hg 5 rfl rfl ?_
   rw [Tm.few_eq,if_pos (by simp_all [Tm.fewStep])]; rfl
 have hfs:Tm.fewStep t.s m d=false:=by simp_all [Tm.fewStep]
 have hlen:=hok.len
 refine R_loop (fun x:Nat × Int=>([(1,iV x.2),(2,iV d),(3,.lo 0 0),(7,iV x.1)],[boxR t])) (fun x=>x.1≤t.l.length∧t.few m d=Tm.fewL (t.l.drop x.1) x.2 (IntKind.i64.wrap (d - 1))) (fun x=>t.l.length - x.1) (0,IntKind.i64.wrap (m - 1)) ⟨Nat.zero_le _,by rw [Tm.few_eq,hfs]; rfl⟩ ⟨.refl _,.refl _,.refl _,.refl _,trivial⟩ rfl ?_
 rintro ⟨k,q⟩ ⟨hk,hm⟩
 simp only at hk hm
 refine R_run hg.ok 1000 rfl rfl ?_
 refine R_if rfl rfl (fun h=>?_) (fun h=>?_) <;> refine R_run hg.ok 1000 rfl rfl ?_
 ·have hk1:k<t.l.length:=lt_dec h (by rw [Tm.rows_length])
  have e1:t.l[k]? = some t.l[k]:=List.getElem?_eq_getElem hk1
  rw [List.drop_eq_getElem_cons hk1,Tm.fewL] at hm
  refine R_if rfl rfl (fun h2=>?_) (fun h2=>?_) <;> refine R_run hg.ok 1000 rfl rfl ?_
  ·rw [if_pos (of_decide_eq_true h2)] at hm
   refine R_index hg.ok rfl rfl rfl rfl rfl rfl (Int.natCast_nonneg k) (Tm.rows_get e1) rfl ?_
   refine R_run hg.ok 1000 rfl rfl ?_
   refine R_call hg.ok (ih _ (List.getElem_mem hk1) (hok.sub (List.getElem_mem hk1)) _ _) rfl rfl rfl rfl rfl rfl ?_
   refine R_run hg.ok 1000 rfl rfl ?_
   exact R_next (k+1,t.l[k].few q (IntKind.i64.wrap (d - 1))) ⟨hk1,hm⟩ (by simp only; omega) ⟨.refl _,.refl _,.refl _,Ent.wrap (by simp only; omega) (by simp only; omega) (by simp only; omega),trivial⟩ rfl
  ·rw [if_neg (of_decide_eq_false h2)] at hm
   refine R_ret hg 5 rfl rfl ?_
   rw [hm]; rfl
 ·have hk1:t.l.length≤k:=ge_dec h (by rw [Tm.rows_length])
  refine R_ret hg 5 rfl rfl ?_
  rw [List.drop_eq_nil_of_le hk1,Tm.fewL] at hm
  rw [hm]; rfl

set_option maxRecDepth 100000 in
theorem at_ok (l:List Int) (n:Int) (ha:l.length<1000000000):PCtr Tryz.prog 46 [.d (.sl (irows l)),iV n] (iV (atI l n 0)):=by
 refine PCtr.of_R (pf:=fun _=>.still) tyOk mixed Tryz.func46 rfl (by kernel_rfl) (by kernel_rfl) (by simp [Tryz.ntmps46]) fun w S hg=>?_
 refine R_run hg.ok 1000 rfl rfl ?_
 refine R_loop (fun k:Nat=>([(0,.d (.sl (irows l))),(1,iV n),(5,iV k)],[])) (fun k=>k≤l.length∧atI l n 0=atI (l.drop k) n k) (fun k=>l.length - k) 0 ⟨Nat.zero_le _,rfl⟩ ⟨.refl _,.refl _,.refl _,trivial⟩ rfl ?_
 rintro k ⟨hk,hm⟩
 refine R_run hg.ok 1000 rfl rfl ?_
 refine R_if rfl rfl (fun h=>?_) (fun h=>?_) <;> refine R_run hg.ok 1000 rfl rfl ?_
 ·have hk1:k<l.length:=lt_dec h (by rw [irows_length])
  have e1:l[k]? = some l[k]:=List.getElem?_eq_getElem hk1
  rw [List.drop_eq_getElem_cons hk1,atI] at hm
  refine R_index hg.ok rfl rfl rfl rfl rfl rfl (Int.natCast_nonneg k) (irows_get e1) rfl ?_
  refine R_run hg.ok 1000 rfl rfl ?_
  refine R_if rfl rfl (fun h=>?_) (fun h=>?_) <;> refine R_run hg.ok 1000 rfl rfl ?_
  ·refine R_ret hg 5 rfl rfl ?_
   rw [hm,if_pos (by simpa using h)]; rfl
  ·refine R_next (k+1) ⟨hk1,?_⟩ (by omega) ⟨.refl _,.refl _,Ent.wrap (by omega) (by omega) (by omega),trivial⟩ rfl
   rw [hm,if_neg (by simpa using h)]; rfl
 ·have hk1:l.length≤k:=ge_dec h (by rw [irows_length])
  refine R_ret hg 5 rfl rfl ?_
  rw [hm,List.drop_eq_nil_of_le hk1]; rfl
end Go.Proofs.YtcgkgofmldhokaaGreat

namespace Go.Proofs.YtcgkgofmldhokaaGreat
open Go PSL Go.Proofs
def vobjs (acc:List Int):List Ob:=[.map (imap (setI acc)),.box [.mp 0],.box [.ow 3 acc.length],.arr 1 acc.length (irows acc)]
def accN (acc:List Int) (t:Tm) (n:Nat):List Int:=((t.els 1).take n).foldl stepV acc
theorem vdrop (f:AV→AV) (h:f .tt=.tt) (a:List Int) (r:List Ob):mapOb f (.map (imap (setI a)))::r=.map (imap (setI a))::r:=by rw [mapOb_set h]
theorem setI_snoc (a:List Int) (n:Int):setI a++[(n,.tt)]=setI (a++[n]):=by simp [setI]
theorem irows_snoc (a:List Int) (n:Int):irows a++[[.v (.int .i64 n)]]=irows (a++[n]):=by simp [irows,irow]
theorem addV_len (l:List Int) (x:Int):(addV l x).length≤l.length+1:=by unfold addV; split <;> simp

theorem foldl_lenV:∀ (l:List (Int × Tm)) (a:List Int),(l.foldl stepV a).length≤a.length+l.length
 | [],a=>by simp
 | e::l,a=>by
  have:=foldl_lenV l (stepV a e)
  have h2:(stepV a e).length≤a.length+1:=by unfold stepV; split; exact addV_len _ _; omega
  simp only [List.foldl_cons,List.length_cons]; omega
def varsF (a:List Int) (l:List Tm):List Int:=l.foldl (fun a t=>(t.els 1).foldl stepV a) a

theorem varsF_len:∀ (l:List Tm) (a:List Int),(varsF a l).length≤a.length+Tm.sizeL l
 | [],a=>by simp [varsF]
 | t::r,a=>by
  have:=varsF_len r ((t.els 1).foldl stepV a)
  have h:=foldl_lenV (t.els 1) a
  rw [Tm.els_len] at h
  simp only [varsF,List.foldl_cons,Tm.sizeL] at this ⊢; omega

set_option maxRecDepth 100000 in
theorem vars_ok (l:List Tm) (hsz:Tm.sizeL l<1000000000):PCtr Tryz.prog 70 [.d (.sl (Tm.rows l))] (.d (.sl (irows (varsT l)))):=by
 refine PCtr.of_R (pf:=fun _=>.eff) tyOk mixed Tryz.func70 rfl (by kernel_rfl) (by kernel_rfl) (by simp [Tryz.ntmps70]) fun w S hg=>?_
 refine R_run hg.ok 1000 rfl rfl ?_
 refine R_makeMap hg.ok rfl rfl ?_
 refine R_run hg.ok 1000 rfl rfl ?_
 refine R_ownB 2 0 1 rfl rfl rfl ?_
 refine R_loop (fun x:Nat × List Int=>([(3,.lo 1 0),(4,.lo 2 0),(10,.d (.sl (Tm.rows l))),(11,iV l.length),(12,iV x.1)],vobjs x.2)) (fun x=>x.1≤l.length∧varsT l=varsF x.2 (l.drop x.1)∧x.2.length+Tm.sizeL (l.drop x.1)≤Tm.sizeL l) (fun x=>l.length - x.1) (0,[]) ⟨Nat.zero_le _,rfl,by simp⟩ ⟨.refl _,.refl _,.refl _,Ent.int (by rw [Tm.rows_length]),.refl _,trivial⟩ rfl ?_
 rintro ⟨k,acc⟩ ⟨hk,hm,hal⟩
 simp only at hk hm hal
 have hl:=Tm.len_le_sizeL l
 refine R_run hg.ok 1000 rfl rfl ?_
 refine R_if rfl rfl (fun h=>?_) (fun h=>?_) <;> refine R_run hg.ok 1000 rfl rfl ?_
 ·have hk1:k<l.length:=lt_dec h rfl
  have e1:l[k]? = some l[k]:=List.getElem?_eq_getElem hk1
  rw [List.drop_eq_getElem_cons hk1] at hm hal
  simp only [Tm.sizeL] at hal
  refine R_index hg.ok rfl rfl rfl rfl rfl rfl (Int.natCast_nonneg k) (Tm.rows_get e1) rfl ?_
  refine R_run hg.ok 1000 rfl rfl ?_
  refine R_call hg.ok (each_ok l[k]) rfl rfl rfl rfl rfl rfl ?_
  refine R_run hg.ok 1000 rfl rfl ?_
  generalize l[k]=t at *
  refine R_range hg.ok hg.gup ⟨rfl,rfl⟩ rfl (t.els 1) Tm.enc ⟨(t.els 1).map Tm.enc,fun _=>true⟩ rfl (fun n=>vobjs (accN acc t n)++[boxR t]) (fun _ _=>[(3,.lo 1 0),(4,.lo 2 0),(8,.lo 5 0)]) (fun n e=>vobjs (accN acc t n)++[boxR t,boxR e.2]) _ .ret rfl rfl rfl (each1_ok _ t (by omega) fun _ _ h=>els_ys h) rfl (fun _ _=>rfl) rfl ?_ ?_ ?_ rfl rfl (fun _ h=>by cases h)
  ·intro n x hx _ L w R0 X φ0 _ hamb
   refine R_run (gRound_ok hg.ok _ _ _ _ _ hamb) 1000 rfl rfl ?_
   exact R_finA ⟨.refl _,.refl _,.refl _,trivial⟩ rfl
  ·intro n x hx _ L w R0 X φ0 hφ0 hamb
   have hg':=gRound_ok hg.ok L w R0 X φ0 hamb
   have hn:=els_lt hx
   have hstep:accN acc t (n+1)=stepV (accN acc t n) x:=by unfold accN; rw [List.take_add_one,hx,List.foldl_append]; rfl
   have hlen:(accN acc t n).length≤acc.length+n:=by
    have:=foldl_lenV ((t.els 1).take n) acc
    unfold accN; rw [List.length_take] at this; omega
   rw [hstep]
   generalize accN acc t n=a at *
   refine R_run hg' 1000 rfl rfl ?_
   refine R_if rfl rfl (fun h1=>?_) (fun h1=>?_) <;> refine R_run hg' 1000 rfl rfl ?_
   ·have hx1:x.2.k=1:=by simpa using h1
    by_cases hmem:a.contains x.2.n=true
    ·refine R_lookupI hg' (setI a) rfl rfl rfl rfl rfl rfl rfl (zv:=.bool false) (by kernel_rfl) (v:=.tt) (by rw [getI_set,if_pos hmem]; rfl) ?_
     refine R_run hg' 1000 rfl rfl ?_
     refine R_dropO 5 _ (by rw [show (gRound _ L w R0 X φ0).φ0=φ0 from rfl,hφ0]; exact Nat.le_refl _) rfl (vdrop (trimA 5) rfl _ _) ?_
     exact R_finB rfl (by unfold stepV addV; rw [if_pos hx1,if_pos hmem]; rfl)
    ·have hmem':a.contains x.2.n=false:=by simpa using hmem
     refine R_lookupI hg' (setI a) rfl rfl rfl rfl rfl rfl rfl (zv:=.bool false) (by kernel_rfl) (v:=.ff) (by rw [getI_set,hmem']; rfl) ?_
     refine R_run hg' 1000 rfl rfl ?_
     refine R_mapAddI hg' (setI a) rfl rfl rfl rfl rfl rfl rfl (by rw [getI_set,hmem']; rfl) ?_
     rw [show ∀ E:Env,ev E (.const (.bool true))=.tt from fun _=>rfl,setI_snoc]
     refine R_run hg' 1000 rfl rfl ?_
     refine R_append hg' rfl rfl rfl rfl rfl rfl rfl rfl rfl (by simp) (by simp [one1]) (by simp [irows_length]; omega) (by simp [irows_length]; omega) ?_
     rw [irows_snoc]
     refine R_run hg' 1000 rfl rfl ?_
     refine R_dropO 5 _ (by rw [show (gRound _ L w R0 X φ0).φ0=φ0 from rfl,hφ0]; exact Nat.le_refl _) rfl (vdrop (trimA 5) rfl _ _) ?_
     refine R_finB rfl ?_
     unfold stepV addV; rw [if_pos hx1,hmem']
     simp only [Bool.false_eq_true,if_false,vobjs,List.length_append,List.length_cons,List.length_nil]; rfl
   ·have hx1:¬ x.2.k=1:=by simpa using h1
    refine R_dropO 5 _ (by rw [show (gRound _ L w R0 X φ0).φ0=φ0 from rfl,hφ0]; exact Nat.le_refl _) rfl (vdrop (trimA 5) rfl _ _) ?_
    exact R_finB rfl (by unfold stepV; rw [if_neg hx1]; rfl)
  ·intro _
   rw [adv_allT (fun _=>rfl)]
   refine R_run hg.ok 1000 rfl rfl ?_
   refine R_dropO 4 _ (Nat.zero_le _) rfl (vdrop (trimA 4) rfl _ _) ?_
   have hA:accN acc t (0+t.size)=(t.els 1).foldl stepV acc:=by unfold accN; rw [List.take_of_length_le (by rw [Tm.els_len]; omega)]
   have hfl:=foldl_lenV (t.els 1) acc
   rw [Tm.els_len] at hfl
   rw [hA]
   refine R_next (k+1,(t.els 1).foldl stepV acc) ⟨hk1,hm,by simp only; omega⟩ (by simp only; omega) ⟨.refl _,.refl _,.refl _,.refl _,Ent.wrap (by simp only; omega) (by simp only; omega) (by simp only; omega),trivial⟩ rfl
 ·have hk1:l.length≤k:=ge_dec h rfl
  refine R_ret hg 5 rfl (sealA_ow rfl) ?_
  rw [hm,List.drop_eq_nil_of_le hk1]; rfl
end Go.Proofs.YtcgkgofmldhokaaGreat

namespace Go.Proofs.YtcgkgofmldhokaaGreat
open Go PSL Go.Proofs
end Go.Proofs.YtcgkgofmldhokaaGreat

namespace Go.Proofs.YtcgkgofmldhokaaGreat
open Go PSL Go.Proofs

theorem varsT_one_len (t:Tm):(varsT [t]).length≤t.size:=by
 have:=varsF_len [t] []
 simpa [varsF,varsT,Tm.sizeL] using this
end Go.Proofs.YtcgkgofmldhokaaGreat

namespace Go.Proofs.YtcgkgofmldhokaaGreat
open Go PSL Go.Proofs
def ckO (v left:Int):List Ob:=[.box [iV v,iV left]]

set_option maxRecDepth 100000 in
theorem ckTerm_ok (Y:YP) (v left:Int) (t:Tm) (ht:SmT t):SCtr Tryz.prog Y 103 [.lo 0 0,t.av] (ckO v left) (bV (chkT v t)) (ckO v left):=by
 refine SCtr.of_R (pf:=fun _=>.eff) tyOk mixed Tryz.func103 rfl (by kernel_rfl) (by kernel_rfl) (by simp [Tryz.ntmps103]) (by simp) fun w S φ hg=>?_
 refine R_run hg.ok 1000 rfl rfl ?_
 refine R_call hg.ok (right_ok t (by have:=ht.1; omega) (ht.2 1)) rfl rfl rfl rfl rfl rfl ?_
 refine R_run hg.ok 1000 rfl rfl ?_
 refine R_if rfl rfl (fun h=>?_) (fun h=>?_) <;> refine R_run hg.ok 1000 rfl rfl ?_
 ·have h:rightT t=false:=by simpa using h
  rw [show chkT v t=false by unfold chkT; rw [h]; rfl]
  exact R_retS hg 1 5 (Nat.le_refl _) rfl rfl rfl
 have h:rightT t=true:=by simpa using h
 have hv:=(vars_ok [t] (by have:=ht.1; simp [Tm.sizeL]; omega)).one
 have hlen:(varsT [t]).length≤t.size:=varsT_one_len t
 have hc:chkT v t=(varsT [t]).all fun x=>decide (x<v):=by unfold chkT; rw [h]; rfl
 generalize varsT [t]=V at *
 have hs:=ht.1
 refine R_call hg.ok (hv) rfl rfl rfl rfl rfl rfl ?_
 refine R_run hg.ok 1000 rfl rfl ?_
 refine R_loop (fun k:Nat=>([(0,.lo 0 0),(12,.d (.sl (irows V))),(13,iV V.length),(14,iV k)],ckO v left++[boxR t])) (fun k=>k≤V.length∧chkT v t=(V.drop k).all fun x=>decide (x<v)) (fun k=>V.length - k) 0 ⟨Nat.zero_le _,hc⟩ ⟨.refl _,.refl _,by rw [irows_length]; exact .refl _,.refl _,trivial⟩ rfl ?_
 rintro k ⟨hk,hm⟩
 refine R_run hg.ok 1000 rfl rfl ?_
 refine R_if rfl rfl (fun h=>?_) (fun h=>?_) <;> refine R_run hg.ok 1000 rfl rfl ?_
 ·have hk1:k<V.length:=lt_dec h rfl
  have e1:V[k]? = some V[k]:=List.getElem?_eq_getElem hk1
  rw [List.drop_eq_getElem_cons hk1,List.all_cons] at hm
  generalize V[k]=x at e1 hm
  refine R_index hg.ok rfl rfl rfl rfl rfl rfl (Int.natCast_nonneg _) (irows_get e1) rfl ?_
  refine R_run hg.ok 1000 rfl rfl ?_
  refine R_if rfl rfl (fun h=>?_) (fun h=>?_) <;> refine R_run hg.ok 1000 rfl rfl ?_
  ·rw [hm,show decide (x<v)=false by simpa using h]
   exact R_retS hg 1 5 (Nat.le_refl _) rfl rfl rfl
  ·exact R_next (k+1) ⟨hk1,by rw [hm,show decide (x<v)=true by simpa using h,Bool.true_and]⟩ (by omega) ⟨.refl _,.refl _,.refl _,Ent.wrap (by omega) (by omega) (by omega),trivial⟩ rfl
 ·have hk1:V.length≤k:=ge_dec h rfl
  rw [hm,List.drop_eq_nil_of_le hk1]
  exact R_retS hg 1 5 (Nat.le_refl _) rfl rfl rfl
end Go.Proofs.YtcgkgofmldhokaaGreat

namespace Go.Proofs.YtcgkgofmldhokaaGreat
open Go PSL Go.Proofs
def glBox (g:Gl):Ob:=.box [.d (.v (.int .i64 g.k)),.d (.v (.int .i64 g.t.k)),.d (.v (.string g.t.s)),.d (.v (.int .i64 g.t.n)),.d (.sl (Tm.rows g.t.l)),.d (.sl (Gl.rows g.a)),.d (.sl (Gl.rows g.b)),.d (.sl (Gl.rows g.c))]

def CkG (Y:YP) (v:Int) (l:List Gl):Prop:=∀ (left deep:Int) (cuts:Bool),allGL SmT l→(Gl.sizeL l:Int) - 1000000000≤left→left≤1000→0≤deep→deep+Gl.sizeL l≤1000000000 →
 SCtr Tryz.prog Y 104 [.lo 0 0,.d (.sl (Gl.rows l)),iV deep,bV cuts] (ckO v left) (bV (chkL v l left deep cuts).1) (ckO v (chkL v l left deep cuts).2)

theorem none_eq (a b c:List Gl):(((a.length:Int)+b.length+c.length)==0)=noneG a b c:=by
 unfold noneG
 rw [Bool.eq_iff_iff]
 simp only [beq_iff_eq,decide_eq_true_eq]
 omega

set_option maxHeartbeats 4000000 in
set_option maxRecDepth 100000 in
theorem ckGoals_ok (Y:YP) (v:Int) (l:List Gl):CkG Y v l:=by
 refine Gl.indL (p:=CkG Y v) (fun l hsub=>?_) l
 intro left deep cuts hl h1 h2 h3 h4
 have hlen:=Gl.len_size l
 refine SCtr.of_R (pf:=fun _=>.eff) tyOk mixed Tryz.func104 rfl (by kernel_rfl) (by kernel_rfl) (by simp [Tryz.ntmps104]) (by simp [ckO]) fun w S φ hg=>?_
 refine R_run hg.ok 1000 rfl rfl ?_
 refine R_loop (fun x:Nat × Int=>([(0,.lo 0 0),(2,iV deep),(3,bV cuts),(13,.d (.sl (Gl.rows l))),(14,iV l.length),(15,iV x.1)],ckO v x.2)) (fun x=>x.1≤l.length∧chkL v l left deep cuts=chkL v (l.drop x.1) x.2 deep cuts∧(Gl.sizeL (l.drop x.1):Int) - 1000000000≤x.2∧x.2≤1000) (fun x=>l.length - x.1) (0,left) ⟨Nat.zero_le _,rfl,h1,h2⟩ ⟨.refl _,.refl _,.refl _,.refl _,by rw [Gl.rows_length]; exact .refl _,.refl _,trivial⟩ rfl ?_
 rintro ⟨k,left'⟩ ⟨hk,hm,hb1,hb2⟩
 refine R_run hg.ok 1000 rfl rfl ?_
 refine R_if rfl rfl (fun h=>?_) (fun h=>?_) <;> refine R_run hg.ok 1000 rfl rfl ?_
 ·have hk1:k<l.length:=lt_dec h rfl
  have e1:l[k]? = some l[k]:=List.getElem?_eq_getElem hk1
  have hmem:=List.getElem_mem hk1
  rw [List.drop_eq_getElem_cons hk1] at hm hb1
  generalize l[k]=g at e1 hm hmem hb1
  have hsz:=Gl.size_mem hmem
  obtain ⟨sa,sb,sc⟩:=hsub g hmem
  obtain ⟨st,ma,mb,mc⟩:=allGL_mem hl g hmem
  simp only [Gl.sizeL] at hb1
  have hge:=Gl.size_eq g
  have hla:=Gl.len_size g.a
  have hlb:=Gl.len_size g.b
  have hlc:=Gl.len_size g.c
  have htp:=Gl.tmPos g.t
  have hw:IntKind.i64.wrap (left' - 1)=left' - 1:=w64 (by omega) (by omega)
  refine R_index hg.ok rfl rfl rfl rfl rfl rfl (Int.natCast_nonneg _) (Gl.rows_get e1) rfl ?_
  refine R_run hg.ok 1000 rfl rfl ?_
  rw [hw,Gl.rows_length g.a,Gl.rows_length g.b,Gl.rows_length g.c,w64 (n:=(g.a.length:Int)+g.b.length) (by omega) (by omega),w64 (n:=(g.a.length:Int)+g.b.length+g.c.length) (by omega) (by omega),none_eq]
  refine R_cut1 (fun x:Bool × Int=>([(0,.lo 0 0),(2,iV deep),(3,bV cuts),(12,bV x.1),(13,.d (.sl (Gl.rows l))),(14,iV l.length),(15,iV k)],ckO v x.2++[glBox g])) (fun x=>x=chk1 v g (left' - 1) deep cuts) rfl ?_ ?_
  ·by_cases c1:g.k=1
   ·have hx:chk1 v g (left' - 1) deep cuts=(noneG g.a g.b g.c&&chkT v g.t&&ownB g.t,left' - 1):=by rw [chk1_eq,if_pos c1]
    refine R_if rfl rfl (fun _=>?_) (fun h=>absurd h (by simp [c1])) <;> refine R_run hg.ok 1000 rfl rfl ?_
    refine R_if rfl rfl (fun n1=>?_) (fun n1=>?_) <;> refine R_run hg.ok 1000 rfl rfl ?_
    ·refine R_callSO hg.ok hg.gup hg.wide hg.Y [0] (ckO v (left' - 1)++[glBox g]) (ckTerm_ok Y v (left' - 1) g.t st) (fun _=>rfl) rfl rfl rfl rfl rfl rfl rfl rfl ?_
     refine R_run hg.ok 1000 rfl rfl ?_
     refine R_if rfl rfl (fun n2=>?_) (fun n2=>?_) <;> refine R_run hg.ok 1000 rfl rfl ?_
     ·refine R_call hg.ok (own_ok11 g.t) rfl rfl rfl rfl rfl rfl ?_
      refine R_run hg.ok 1000 rfl rfl ?_
      exact R_to (ownB g.t,left' - 1) (by rw [hx,n1,n2]; rfl) ⟨.refl _,.refl _,.refl _,.refl _,.refl _,.refl _,.refl _,trivial⟩ rfl
     ·exact R_to (false,left' - 1) (by rw [hx,n1,n2]; rfl) ⟨.refl _,.refl _,.refl _,(by first | exact .refl _ | exact .ff),.refl _,.refl _,.refl _,trivial⟩ rfl
    ·exact R_to (false,left' - 1) (by rw [hx,n1]; rfl) ⟨.refl _,.refl _,.refl _,(by first | exact .refl _ | exact .ff),.refl _,.refl _,.refl _,trivial⟩ rfl
   refine R_if rfl rfl (fun h=>absurd h (by simp [c1])) (fun _=>?_) <;> refine R_run hg.ok 1000 rfl rfl ?_
   by_cases c2:g.k=2
   ·have hx:chk1 v g (left' - 1) deep cuts=(noneG g.a g.b g.c&&chkT v g.t&&(g.t.k==3)&&bltB (sgOf g.t),left' - 1):=by rw [chk1_eq,if_neg c1,if_pos c2]
    refine R_if rfl rfl (fun _=>?_) (fun h=>absurd h (by simp [c2])) <;> refine R_run hg.ok 1000 rfl rfl ?_
    refine R_if rfl rfl (fun n1=>?_) (fun n1=>?_) <;> refine R_run hg.ok 1000 rfl rfl ?_
    ·refine R_callSO hg.ok hg.gup hg.wide hg.Y [0] (ckO v (left' - 1)++[glBox g]) (ckTerm_ok Y v (left' - 1) g.t st) (fun _=>rfl) rfl rfl rfl rfl rfl rfl rfl rfl ?_
     refine R_run hg.ok 1000 rfl rfl ?_
     refine R_if rfl rfl (fun n2=>?_) (fun n2=>?_) <;> refine R_run hg.ok 1000 rfl rfl ?_
     ·refine R_if rfl rfl (fun n3=>?_) (fun n3=>?_) <;> refine R_run hg.ok 1000 rfl rfl ?_
      ·refine R_call hg.ok (builtinT_ok g.t) rfl rfl rfl rfl rfl rfl ?_
       refine R_run hg.ok 1000 rfl rfl ?_
       exact R_to (bltB (sgOf g.t),left' - 1) (by rw [hx,n1,n2,n3]; rfl) ⟨.refl _,.refl _,.refl _,.refl _,.refl _,.refl _,.refl _,trivial⟩ rfl
      ·exact R_to (false,left' - 1) (by rw [hx,n1,n2,n3]; rfl) ⟨.refl _,.refl _,.refl _,(by first | exact .refl _ | exact .ff),.refl _,.refl _,.refl _,trivial⟩ rfl
     ·exact R_to (false,left' - 1) (by rw [hx,n1,n2]; rfl) ⟨.refl _,.refl _,.refl _,(by first | exact .refl _ | exact .ff),.refl _,.refl _,.refl _,trivial⟩ rfl
    ·exact R_to (false,left' - 1) (by rw [hx,n1]; rfl) ⟨.refl _,.refl _,.refl _,(by first | exact .refl _ | exact .ff),.refl _,.refl _,.refl _,trivial⟩ rfl
   refine R_if rfl rfl (fun h=>absurd h (by simp [c2])) (fun _=>?_) <;> refine R_run hg.ok 1000 rfl rfl ?_
   by_cases c3:g.k=3
   ·have hx:chk1 v g (left' - 1) deep cuts=(noneG g.a g.b g.c&&nothB g.t&&cuts,left' - 1):=by rw [chk1_eq,if_neg c1,if_neg c2,if_pos c3]
    refine R_if rfl rfl (fun _=>?_) (fun h=>absurd h (by simp [c3])) <;> refine R_run hg.ok 1000 rfl rfl ?_
    refine R_if rfl rfl (fun n1=>?_) (fun n1=>?_) <;> refine R_run hg.ok 1000 rfl rfl ?_
    ·refine R_call hg.ok (nothing_ok g.t) rfl rfl rfl rfl rfl rfl ?_
     refine R_run hg.ok 1000 rfl rfl ?_
     refine R_if rfl rfl (fun n2=>?_) (fun n2=>?_) <;> refine R_run hg.ok 1000 rfl rfl ?_
     ·exact R_to (cuts,left' - 1) (by rw [hx,n1,n2]; rfl) ⟨.refl _,.refl _,.refl _,.refl _,.refl _,.refl _,.refl _,trivial⟩ rfl
     ·exact R_to (false,left' - 1) (by rw [hx,n1,n2]; rfl) ⟨.refl _,.refl _,.refl _,(by first | exact .refl _ | exact .ff),.refl _,.refl _,.refl _,trivial⟩ rfl
    ·exact R_to (false,left' - 1) (by rw [hx,n1]; rfl) ⟨.refl _,.refl _,.refl _,(by first | exact .refl _ | exact .ff),.refl _,.refl _,.refl _,trivial⟩ rfl
   refine R_if rfl rfl (fun h=>absurd h (by simp [c3])) (fun _=>?_) <;> refine R_run hg.ok 1000 rfl rfl ?_
   have la:=chk_low v g.a (left' - 1) (deep+1) false
   have la2:=(bothL v g.a (left' - 1) (deep+1) false).2.2
   have lb:=chk_low v g.b (chkL v g.a (left' - 1) (deep+1) false).2 (deep+1) cuts
   have lb2:=(bothL v g.b (chkL v g.a (left' - 1) (deep+1) false).2 (deep+1) cuts).2.2
   have hwd:IntKind.i64.wrap (deep+1)=deep+1:=w64 (by omega) (by omega)
   have CA:=sa (left' - 1) (deep+1) false ma (by omega) (by omega) (by omega) (by omega)
   by_cases c4:g.k=4
   ·have CB:=sb (chkL v g.a (left' - 1) (deep+1) false).2 (deep+1) cuts mb (by omega) (by omega) (by omega) (by omega)
    have CC:=sc (chkL v g.b (chkL v g.a (left' - 1) (deep+1) false).2 (deep+1) cuts).2 (deep+1) cuts mc (by omega) (by omega) (by omega) (by omega)
    have hx:=chk1_eq v g (left' - 1) deep cuts
    rw [if_neg c1,if_neg c2,if_neg c3,if_pos c4] at hx
    refine R_if rfl rfl (fun _=>?_) (fun h=>absurd h (by simp [c4])) <;> refine R_run hg.ok 1000 rfl rfl ?_
    refine R_call hg.ok (nothing_ok g.t) rfl rfl rfl rfl rfl rfl ?_
    refine R_run hg.ok 1000 rfl rfl ?_
    refine R_if rfl rfl (fun n1=>?_) (fun n1=>?_) <;> refine R_run hg.ok 1000 rfl rfl ?_
    ·rw [if_pos n1] at hx
     rw [hwd]
     refine R_callSO hg.ok hg.gup hg.wide hg.Y [0] (ckO v (chkL v g.a (left' - 1) (deep+1) false).2++[glBox g]) (CA) (fun _=>rfl) rfl rfl rfl rfl rfl rfl rfl rfl ?_
     refine R_run hg.ok 1000 rfl rfl ?_
     refine R_if rfl rfl (fun n2=>?_) (fun n2=>?_) <;> refine R_run hg.ok 1000 rfl rfl ?_
     ·rw [if_pos n2] at hx
      rw [hwd]
      refine R_callSO hg.ok hg.gup hg.wide hg.Y [0] (ckO v (chkL v g.b (chkL v g.a (left' - 1) (deep+1) false).2 (deep+1) cuts).2++[glBox g]) (CB) (fun _=>rfl) rfl rfl rfl rfl rfl rfl rfl rfl ?_
      refine R_run hg.ok 1000 rfl rfl ?_
      refine R_if rfl rfl (fun n3=>?_) (fun n3=>?_) <;> refine R_run hg.ok 1000 rfl rfl ?_
      ·rw [if_pos n3] at hx
       rw [hwd]
       refine R_callSO hg.ok hg.gup hg.wide hg.Y [0] (ckO v (chkL v g.c (chkL v g.b (chkL v g.a (left' - 1) (deep+1) false).2 (deep+1) cuts).2 (deep+1) cuts).2++[glBox g]) (CC) (fun _=>rfl) rfl rfl rfl rfl rfl rfl rfl rfl ?_
       refine R_run hg.ok 1000 rfl rfl ?_
       exact R_to (chkL v g.c (chkL v g.b (chkL v g.a (left' - 1) (deep+1) false).2 (deep+1) cuts).2 (deep+1) cuts) hx.symm ⟨.refl _,.refl _,.refl _,.refl _,.refl _,.refl _,.refl _,trivial⟩ rfl
      ·rw [if_neg (by rw [n3]; simp)] at hx
       exact R_to (false,(chkL v g.b (chkL v g.a (left' - 1) (deep+1) false).2 (deep+1) cuts).2) hx.symm ⟨.refl _,.refl _,.refl _,(by first | exact .refl _ | exact .ff),.refl _,.refl _,.refl _,trivial⟩ rfl
     ·rw [if_neg (by rw [n2]; simp)] at hx
      exact R_to (false,(chkL v g.a (left' - 1) (deep+1) false).2) hx.symm ⟨.refl _,.refl _,.refl _,(by first | exact .refl _ | exact .ff),.refl _,.refl _,.refl _,trivial⟩ rfl
    ·rw [if_neg (by rw [n1]; simp)] at hx
     exact R_to (false,left' - 1) hx.symm ⟨.refl _,.refl _,.refl _,(by first | exact .refl _ | exact .ff),.refl _,.refl _,.refl _,trivial⟩ rfl
   refine R_if rfl rfl (fun h=>absurd h (by simp [c4])) (fun _=>?_) <;> refine R_run hg.ok 1000 rfl rfl ?_
   by_cases c5:g.k=5
   ·have hx:=chk1_eq v g (left' - 1) deep cuts
    rw [if_neg c1,if_neg c2,if_neg c3,if_neg c4,if_pos c5] at hx
    refine R_if rfl rfl (fun _=>?_) (fun h=>absurd h (by simp [c5])) <;> refine R_run hg.ok 1000 rfl rfl ?_
    refine R_call hg.ok (nothing_ok g.t) rfl rfl rfl rfl rfl rfl ?_
    refine R_run hg.ok 1000 rfl rfl ?_
    refine R_if rfl rfl (fun n1=>?_) (fun n1=>?_) <;> refine R_run hg.ok 1000 rfl rfl ?_
    ·rw [Gl.rows_length g.b,Gl.rows_length g.c,w64 (n:=(g.b.length:Int)+g.c.length) (by omega) (by omega)]
     refine R_if rfl rfl (fun n2=>?_) (fun n2=>?_) <;> refine R_run hg.ok 1000 rfl rfl ?_
     ·rw [n1,decide_eq_true (show g.b.length+g.c.length=0 by simp at n2; omega)] at hx
      simp only [Bool.and_self,if_true] at hx
      rw [hwd]
      refine R_callSO hg.ok hg.gup hg.wide hg.Y [0] (ckO v (chkL v g.a (left' - 1) (deep+1) false).2++[glBox g]) (CA) (fun _=>rfl) rfl rfl rfl rfl rfl rfl rfl rfl ?_
      refine R_run hg.ok 1000 rfl rfl ?_
      exact R_to (chkL v g.a (left' - 1) (deep+1) false) hx.symm ⟨.refl _,.refl _,.refl _,.refl _,.refl _,.refl _,.refl _,trivial⟩ rfl
     ·rw [n1,decide_eq_false (show ¬ g.b.length+g.c.length=0 by simp at n2; omega)] at hx
      exact R_to (false,left' - 1) hx.symm ⟨.refl _,.refl _,.refl _,(by first | exact .refl _ | exact .ff),.refl _,.refl _,.refl _,trivial⟩ rfl
    ·rw [n1] at hx
     exact R_to (false,left' - 1) hx.symm ⟨.refl _,.refl _,.refl _,(by first | exact .refl _ | exact .ff),.refl _,.refl _,.refl _,trivial⟩ rfl
   refine R_if rfl rfl (fun h=>absurd h (by simp [c5])) (fun _=>?_) <;> refine R_run hg.ok 1000 rfl rfl ?_
   have hx:=chk1_eq v g (left' - 1) deep cuts
   rw [if_neg c1,if_neg c2,if_neg c3,if_neg c4,if_neg c5] at hx
   exact R_to (false,left' - 1) hx.symm ⟨.refl _,.refl _,.refl _,(by first | exact .refl _ | exact .ff),.refl _,.refl _,.refl _,trivial⟩ rfl
  ·rintro ⟨fair,left2⟩ hx
   have hlw:=chk1_low v g (left' - 1) deep cuts
   simp only [chkL] at hm
   rw [← hx] at hm hlw
   simp only at hm hlw
   refine R_run hg.ok 1000 rfl rfl ?_
   refine R_if rfl rfl (fun n1=>?_) (fun n1=>?_) <;> refine R_run hg.ok 1000 rfl rfl ?_
   ·have n1:fair=false:=by simpa using n1
    subst n1
    rw [if_pos (by simp)] at hm
    rw [hm]
    exact R_retS hg 1 5 (Nat.le_refl _) rfl rfl rfl
   ·have n1:fair=true:=by simpa using n1
    subst n1
    refine R_if rfl rfl (fun n2=>?_) (fun n2=>?_) <;> refine R_run hg.ok 1000 rfl rfl ?_
    ·rw [if_pos (by rw [n2]; simp)] at hm
     rw [hm]
     exact R_retS hg 1 5 (Nat.le_refl _) rfl rfl rfl
    ·refine R_if rfl rfl (fun n3=>?_) (fun n3=>?_) <;> refine R_run hg.ok 1000 rfl rfl ?_
     ·rw [if_pos (by rw [show decide (10<deep)=true from n3]; simp)] at hm
      rw [hm]
      exact R_retS hg 1 5 (Nat.le_refl _) rfl rfl rfl
     ·rw [if_neg (by rw [n2,show decide (10<deep)=false from n3]; simp)] at hm
      refine R_dropO 1 (ckO v left2) (by show φ.length≤1; exact Nat.le_of_eq hg.hs0.len) rfl rfl ?_
      exact R_next (k+1,left2) ⟨hk1,hm,by show (Gl.sizeL (l.drop (k+1)):Int) - 1000000000≤left2; omega,by show left2≤1000; omega⟩ (by simp only; omega) ⟨.refl _,.refl _,.refl _,.refl _,.refl _,Ent.wrap (by simp only; omega) (by simp only; omega) (by simp only; omega),trivial⟩ rfl
 ·have hk1:l.length≤k:=ge_dec h rfl
  rw [hm,List.drop_eq_nil_of_le hk1]
  simp only [chkL]
  exact R_retS hg 1 5 (Nat.le_refl _) rfl rfl rfl
end Go.Proofs.YtcgkgofmldhokaaGreat

namespace Go.Proofs.YtcgkgofmldhokaaGreat
open Go PSL Go.Proofs
def csBox (x:Cs):Ob:=.box [.d (.v (.int .i64 x.head.k)),.d (.v (.string x.head.s)),.d (.v (.int .i64 x.head.n)),.d (.sl (Tm.rows x.head.l)),.d (.sl (Gl.rows x.body)),.d (.v (.int .i64 x.vars))]

set_option maxRecDepth 100000 in
theorem clause_ok11 (x:Cs) (hx:SmC x):PCtr Tryz.prog 71 [x.av] (bV (clsB x)):=by
 have hb:=hx.size
 refine PCtr.of_R (pf:=fun _=>.eff) tyOk mixed Tryz.func71 rfl (by kernel_rfl) (by kernel_rfl) (by simp [Tryz.ntmps71]) fun w S hg=>?_
 refine R_run hg.ok 1000 rfl rfl ?_
 refine R_if rfl rfl (fun n1=>?_) (fun n1=>?_) <;> refine R_run hg.ok 1000 rfl rfl ?_
 rotate_left
 ·refine R_ret hg 5 rfl rfl ?_
  unfold clsB
  rw [show decide (0≤x.vars)=false from n1]; rfl
 refine R_if rfl rfl (fun n2=>?_) (fun n2=>?_) <;> refine R_run hg.ok 1000 rfl rfl ?_
 rotate_left
 ·refine R_ret hg 5 rfl rfl ?_
  unfold clsB
  rw [show decide (0≤x.vars)=true from n1,show decide (x.vars≤1000)=false from n2]; rfl
 refine R_callSO hg.ok hg.gup ⟨rfl,rfl⟩ (fun _ _ _ _ h=>by cases h) [1] ([csBox x]++ckO x.vars 20) (ckTerm_ok ⟨[],fun _=>true⟩ x.vars 20 x.head hx.head) (fun _=>rfl) rfl rfl rfl rfl rfl rfl rfl rfl ?_
 refine R_run hg.ok 1000 rfl rfl ?_
 refine R_if rfl rfl (fun n3=>?_) (fun n3=>?_) <;> refine R_run hg.ok 1000 rfl rfl ?_
 rotate_left
 ·refine R_ret hg 5 rfl rfl ?_
  unfold clsB
  rw [show decide (0≤x.vars)=true from n1,show decide (x.vars≤1000)=true from n2,n3]; rfl
 refine R_call hg.ok (own_ok11 x.head) rfl rfl rfl rfl rfl rfl ?_
 refine R_run hg.ok 1000 rfl rfl ?_
 refine R_if rfl rfl (fun n4=>?_) (fun n4=>?_) <;> refine R_run hg.ok 1000 rfl rfl ?_
 rotate_left
 ·refine R_ret hg 5 rfl rfl ?_
  unfold clsB
  rw [show decide (0≤x.vars)=true from n1,show decide (x.vars≤1000)=true from n2,n3,n4]; rfl
 refine R_callSO hg.ok hg.gup ⟨rfl,rfl⟩ (fun _ _ _ _ h=>by cases h) [1] ([csBox x]++ckO x.vars (chkL x.vars x.body 20 1 true).2) (ckGoals_ok ⟨[],fun _=>true⟩ x.vars x.body 20 1 true hx.body (by omega) (by omega) (by omega) (by omega)) (fun _=>rfl) rfl rfl rfl rfl rfl rfl rfl rfl ?_
 refine R_run hg.ok 1000 rfl rfl ?_
 refine R_ret hg 5 rfl rfl ?_
 unfold clsB
 rw [show decide (0≤x.vars)=true from n1,show decide (x.vars≤1000)=true from n2,n3,n4]; rfl

set_option maxRecDepth 100000 in
theorem heads_ok (l:List Cs) (hl:l.length≤1000000):PCtr Tryz.prog 87 [prV l] (.d (.map (dsM (hdS l)))):=by
 refine PCtr.of_R (pf:=fun _=>.eff) tyOk mixed Tryz.func87 rfl (by kernel_rfl) (by kernel_rfl) (by simp [Tryz.ntmps87]) fun w S hg=>?_
 refine R_run hg.ok 1000 rfl rfl ?_
 refine R_makeMap hg.ok rfl rfl ?_
 refine R_run hg.ok 1000 rfl rfl ?_
 refine R_loop (fun x:Nat × List Sg=>([(3,.mp 1),(8,.d (.sl (Cs.rows l))),(9,iV l.length),(10,iV x.1)],[.box [.d (.sl (Cs.rows l))],.map (kmap (mkM x.2))])) (fun x=>x.1≤l.length∧hdS l=(l.drop x.1).foldl (fun ks c=>addS ks (sgOf c.head)) x.2) (fun x=>l.length - x.1) (0,[]) ⟨Nat.zero_le _,rfl⟩ ⟨.refl _,.refl _,by rw [Cs.rows_len]; exact .refl _,.refl _,trivial⟩ rfl ?_
 rintro ⟨k,ks⟩ ⟨hk,hm⟩
 refine R_run hg.ok 1000 rfl rfl ?_
 refine R_if rfl rfl (fun h=>?_) (fun h=>?_)
 ·refine R_run hg.ok 1000 rfl rfl ?_
  have hk1:k<l.length:=lt_dec h rfl
  have e1:l[k]? = some l[k]:=List.getElem?_eq_getElem hk1
  rw [List.drop_eq_getElem_cons hk1,List.foldl_cons] at hm
  generalize l[k]=c at e1 hm
  refine R_index hg.ok rfl rfl rfl rfl rfl rfl (Int.natCast_nonneg _) (Cs.rows_get e1) rfl ?_
  refine R_run hg.ok 1000 rfl rfl ?_
  refine R_call hg.ok (signOf_ok c.head) rfl rfl rfl rfl rfl rfl ?_
  refine R_run hg.ok 1000 rfl rfl ?_
  refine R_setK hg.ok (sgOf c.head) (mkM ks) (mkM (addS ks (sgOf c.head))) signKey rfl rfl rfl rfl rfl rfl (v':=bV true) (by first | exact .refl _ | exact .tt) (setK_mk _ _) ?_
  refine R_run hg.ok 1000 rfl rfl ?_
  refine R_dropO 2 [.box [.d (.sl (Cs.rows l))],.map (kmap (mkM (addS ks (sgOf c.head))))] (Nat.zero_le _) rfl (congrArg (fun x=>[Ob.box [AV.d (.sl (Cs.rows l))],x]) (mapOb_mk rfl _)) ?_
  exact R_next (k+1,addS ks (sgOf c.head)) ⟨hk1,hm⟩ (by simp only; omega) ⟨.refl _,.refl _,.refl _,Ent.wrap (by simp only; omega) (by simp only; omega) (by simp only; omega),trivial⟩ rfl
 ·have hk1:l.length≤k:=ge_dec h rfl
  rw [List.drop_eq_nil_of_le hk1] at hm
  simp only [List.foldl_nil] at hm
  rw [hm]
  refine R_freezeM hg.gup 1 (dsM ks) (Nat.zero_le _) (by rw [dsM_eq]; rfl) rfl ?_
  refine R_run hg.ok 1000 rfl rfl ?_
  refine R_ret hg 5 rfl rfl ?_
  rfl
end Go.Proofs.YtcgkgofmldhokaaGreat

namespace Go.Proofs.YtcgkgofmldhokaaGreat
open Go PSL Go.Proofs

set_option maxRecDepth 100000 in
theorem there_ok11 (ks:List Sg) (l:List Gl):Gl.sizeL l≤1000000→PCtr Tryz.prog 88 [.d (.sl (Gl.rows l)),.d (.map (dsM ks))] (bV (thereL (hasS ks) l)):=by
 refine Gl.indL (p:=fun l=>Gl.sizeL l≤1000000→PCtr Tryz.prog 88 [.d (.sl (Gl.rows l)),.d (.map (dsM ks))] (bV (thereL (hasS ks) l))) (fun l hsub=>?_) l
 intro hl
 have hlen:=Gl.len_size l
 refine PCtr.of_R (pf:=fun _=>.eff) tyOk mixed Tryz.func88 rfl (by kernel_rfl) (by kernel_rfl) (by simp [Tryz.ntmps88]) fun w S hg=>?_
 refine R_run hg.ok 1000 rfl rfl ?_
 refine R_loop (fun k:Nat=>([(1,.d (.map (dsM ks))),(7,.d (.sl (Gl.rows l))),(8,iV l.length),(9,iV k)],[])) (fun k=>k≤l.length∧thereL (hasS ks) l=thereL (hasS ks) (l.drop k)) (fun k=>l.length - k) 0 ⟨Nat.zero_le _,rfl⟩ ⟨.refl _,.refl _,by rw [Gl.rows_length]; exact .refl _,.refl _,trivial⟩ rfl ?_
 rintro k ⟨hk,hm⟩
 refine R_run hg.ok 1000 rfl rfl ?_
 refine R_if rfl rfl (fun h=>?_) (fun h=>?_) <;> refine R_run hg.ok 1000 rfl rfl ?_
 ·have hk1:k<l.length:=lt_dec h rfl
  have e1:l[k]? = some l[k]:=List.getElem?_eq_getElem hk1
  have hmem:=List.getElem_mem hk1
  rw [List.drop_eq_getElem_cons hk1] at hm
  generalize l[k]=g at e1 hm hmem
  have hsz:=Gl.size_mem hmem
  have hge:=Gl.size_eq g
  obtain ⟨sa,sb,sc⟩:=hsub g hmem
  simp only [thereL,there1_eq] at hm
  refine R_index hg.ok rfl rfl rfl rfl rfl rfl (Int.natCast_nonneg _) (Gl.rows_get e1) rfl ?_
  refine R_run hg.ok 1000 rfl rfl ?_
  by_cases hg1:((g.k==1) && !hasS ks (sgOf g.t))=true
  ·rw [hg1] at hm
   simp only [Bool.and_eq_true,Bool.not_eq_true'] at hg1
   refine R_if rfl rfl (fun _=>?_) (fun h=>absurd h (by simp [hg1.1])) <;> refine R_run hg.ok 1000 rfl rfl ?_
   refine R_call hg.ok (signOf_ok g.t) rfl rfl rfl rfl rfl rfl ?_
   refine R_run hg.ok 1000 rfl rfl ?_
   refine R_lookupKD hg.ok (sgOf g.t) (mkM ks) (dsM_eq ks) signKey rfl rfl rfl rfl rfl rfl (v:=.ff) (by rw [getK_mk,hg1.2]; rfl) ?_
   refine R_run hg.ok 1000 rfl rfl ?_
   refine R_ret hg 5 rfl rfl ?_
   rw [hm]; rfl
  ·have hg1':((g.k==1) && !hasS ks (sgOf g.t))=false:=Bool.eq_false_iff.2 hg1
   rw [hg1'] at hm
   cases hk1':(g.k==1) with
   | false =>
    refine R_if rfl rfl (fun h=>absurd h (by simp [hk1'])) (fun _=>?_) <;> refine R_run hg.ok 1000 rfl rfl ?_
    refine R_call hg.ok (sa (by omega)) rfl rfl rfl rfl rfl rfl ?_
    refine R_run hg.ok 1000 rfl rfl ?_
    refine R_if rfl rfl (fun n1=>?_) (fun n1=>?_) <;> refine R_run hg.ok 1000 rfl rfl ?_
    ·refine R_ret hg 5 rfl rfl ?_
     rw [hm,show thereL (hasS ks) g.a=false by simpa using n1]; rfl
    have n1:thereL (hasS ks) g.a=true:=by simpa using n1
    refine R_call hg.ok (sb (by omega)) rfl rfl rfl rfl rfl rfl ?_
    refine R_run hg.ok 1000 rfl rfl ?_
    refine R_if rfl rfl (fun n2=>?_) (fun n2=>?_) <;> refine R_run hg.ok 1000 rfl rfl ?_
    ·refine R_ret hg 5 rfl rfl ?_
     rw [hm,n1,show thereL (hasS ks) g.b=false by simpa using n2]; rfl
    have n2:thereL (hasS ks) g.b=true:=by simpa using n2
    refine R_call hg.ok (sc (by omega)) rfl rfl rfl rfl rfl rfl ?_
    refine R_run hg.ok 1000 rfl rfl ?_
    refine R_if rfl rfl (fun n3=>?_) (fun n3=>?_) <;> refine R_run hg.ok 1000 rfl rfl ?_
    ·refine R_ret hg 5 rfl rfl ?_
     rw [hm,n1,n2,show thereL (hasS ks) g.c=false by simpa using n3]; rfl
    have n3:thereL (hasS ks) g.c=true:=by simpa using n3
    rw [n1,n2,n3] at hm
    refine R_dropO 0 [] (Nat.zero_le _) rfl rfl ?_
    exact R_next (k+1) ⟨hk1,hm⟩ (by omega) ⟨.refl _,.refl _,.refl _,Ent.wrap (by omega) (by omega) (by omega),trivial⟩ rfl
   | true =>
    have hh:hasS ks (sgOf g.t)=true:=by rw [hk1'] at hg1'; simpa using hg1'
    refine R_if rfl rfl (fun _=>?_) (fun h=>absurd h (by simp [hk1'])) <;> refine R_run hg.ok 1000 rfl rfl ?_
    refine R_call hg.ok (signOf_ok g.t) rfl rfl rfl rfl rfl rfl ?_
    refine R_run hg.ok 1000 rfl rfl ?_
    refine R_lookupKD hg.ok (sgOf g.t) (mkM ks) (dsM_eq ks) signKey rfl rfl rfl rfl rfl rfl (v:=bV true) (by rw [getK_mk,hh]; rfl) ?_
    refine R_run hg.ok 1000 rfl rfl ?_
    refine R_if rfl rfl (fun h=>absurd h (by simp)) (fun _=>?_) <;> refine R_run hg.ok 1000 rfl rfl ?_
    refine R_call hg.ok (sa (by omega)) rfl rfl rfl rfl rfl rfl ?_
    refine R_run hg.ok 1000 rfl rfl ?_
    refine R_if rfl rfl (fun n1=>?_) (fun n1=>?_) <;> refine R_run hg.ok 1000 rfl rfl ?_
    ·refine R_ret hg 5 rfl rfl ?_
     rw [hm,show thereL (hasS ks) g.a=false by simpa using n1]; rfl
    have n1:thereL (hasS ks) g.a=true:=by simpa using n1
    refine R_call hg.ok (sb (by omega)) rfl rfl rfl rfl rfl rfl ?_
    refine R_run hg.ok 1000 rfl rfl ?_
    refine R_if rfl rfl (fun n2=>?_) (fun n2=>?_) <;> refine R_run hg.ok 1000 rfl rfl ?_
    ·refine R_ret hg 5 rfl rfl ?_
     rw [hm,n1,show thereL (hasS ks) g.b=false by simpa using n2]; rfl
    have n2:thereL (hasS ks) g.b=true:=by simpa using n2
    refine R_call hg.ok (sc (by omega)) rfl rfl rfl rfl rfl rfl ?_
    refine R_run hg.ok 1000 rfl rfl ?_
    refine R_if rfl rfl (fun n3=>?_) (fun n3=>?_) <;> refine R_run hg.ok 1000 rfl rfl ?_
    ·refine R_ret hg 5 rfl rfl ?_
     rw [hm,n1,n2,show thereL (hasS ks) g.c=false by simpa using n3]; rfl
    have n3:thereL (hasS ks) g.c=true:=by simpa using n3
    rw [n1,n2,n3] at hm
    refine R_dropO 0 [] (Nat.zero_le _) rfl rfl ?_
    exact R_next (k+1) ⟨hk1,hm⟩ (by omega) ⟨.refl _,.refl _,.refl _,Ent.wrap (by omega) (by omega) (by omega),trivial⟩ rfl
 ·have hk1:l.length≤k:=ge_dec h rfl
  refine R_ret hg 5 rfl rfl ?_
  rw [hm,List.drop_eq_nil_of_le hk1]; rfl
theorem thereH_eq (l:List Cs):hasS (hdS l)=hasH l:=funext (hdS_mem l)

theorem theres_ok (g:List Gl) (l:List Cs) (hg:Gl.sizeL g≤1000000) (hl:l.length≤1000000):PCtr Tryz.prog 68 [.d (.sl (Gl.rows g)),prV l] (bV (thereL (hasH l) g)):=by
 have h:=there_ok11 (hdS l) g hg
 rw [thereH_eq] at h
 refine PCtr.of_R (pf:=fun _=>.eff) tyOk mixed Tryz.func68 rfl (by kernel_rfl) (by kernel_rfl) (by simp [Tryz.ntmps68]) fun w S hg=>?_
 refine R_run hg.ok 1000 rfl rfl ?_
 refine R_call hg.ok (heads_ok l hl) rfl rfl rfl rfl rfl rfl ?_
 refine R_run hg.ok 1000 rfl rfl ?_
 refine R_call hg.ok (h) rfl rfl rfl rfl rfl rfl ?_
 refine R_run hg.ok 1000 rfl rfl ?_
 refine R_ret hg 5 rfl rfl ?_
 rfl

theorem firstN_drop {α:Type} (p:α→Bool) {l:List α} {k:Nat} {x:α} (h:l[k]? = some x):firstN p (l.drop k) k=if p x then firstN p (l.drop (k+1)) (k+1) else some k:=by
 obtain ⟨hk,he⟩:=List.getElem?_eq_some_iff.1 h
 rw [List.drop_eq_getElem_cons hk,he]; rfl

set_option maxRecDepth 100000 in
theorem check_ok (l:List Cs) (hl:∀ c∈l,SmC c):PCtr Tryz.prog 56 [prV l] (.tup [iV (checkR l).1,iV (checkR l).2]):=by
 refine PCtr.of_R (pf:=fun _=>.eff) tyOk mixed Tryz.func56 rfl (by kernel_rfl) (by kernel_rfl) (by simp [Tryz.ntmps56]) fun w S hg=>?_
 refine R_run hg.ok 1000 rfl rfl ?_
 by_cases h2:200<l.length
 ·refine R_if rfl rfl (fun _=>?_) (fun h=>absurd h (by simp [Cs.rows_len]; omega)) <;> refine R_run hg.ok 1000 rfl rfl ?_
  refine R_ret hg 5 rfl rfl ?_
  unfold checkR; rw [if_pos h2]; rfl
 refine R_if rfl rfl (fun h=>absurd h (by simp [Cs.rows_len]; omega)) (fun _=>?_) <;> refine R_run hg.ok 1000 rfl rfl ?_
 have hc0:checkR l=match firstN clsB l 0 with
  | some i=>((i:Int),1)
  | none=>match firstN (fun c=>thereL (hasH l) c.body) l 0 with
   | some i=>((i:Int),9)
   | none=>(0,0):=by unfold checkR; rw [if_neg h2]; rfl
 refine R_cut2 (fun _:Unit=>([(1,.lo 0 0)],[.box [.d (.sl (Cs.rows l))]])) (fun _=>firstN clsB l 0=none) rfl ?_ ?_
 ·refine R_loop (fun k:Nat=>([(1,.lo 0 0),(14,.d (.sl (Cs.rows l))),(15,iV l.length),(16,iV k)],[.box [.d (.sl (Cs.rows l))]])) (fun k=>k≤l.length∧firstN clsB l 0=firstN clsB (l.drop k) k) (fun k=>l.length - k) 0 ⟨Nat.zero_le _,rfl⟩ ⟨.refl _,.refl _,by rw [Cs.rows_len]; exact .refl _,.refl _,trivial⟩ rfl ?_
  rintro k ⟨hk,hm⟩
  refine R_run hg.ok 1000 rfl rfl ?_
  refine R_if rfl rfl (fun h=>?_) (fun h=>?_) <;> refine R_run hg.ok 1000 rfl rfl ?_
  ·have hk1:k<l.length:=lt_dec h rfl
   have e1:l[k]? = some l[k]:=List.getElem?_eq_getElem hk1
   have hs:=hl _ (List.getElem_mem hk1)
   generalize l[k]=c at e1 hs
   rw [firstN_drop clsB e1] at hm
   refine R_index hg.ok rfl rfl rfl rfl rfl rfl (Int.natCast_nonneg _) (Cs.rows_get e1) rfl ?_
   refine R_run hg.ok 1000 rfl rfl ?_
   refine R_call hg.ok (clause_ok11 c hs) rfl rfl rfl rfl rfl rfl ?_
   refine R_run hg.ok 1000 rfl rfl ?_
   refine R_if rfl rfl (fun h=>?_) (fun h=>?_) <;> refine R_run hg.ok 1000 rfl rfl ?_
   ·have h:clsB c=false:=by simpa using h
    rw [if_neg (by rw [h]; simp)] at hm
    rw [hc0,hm]
    refine R_ret hg 5 rfl rfl ?_
    rfl
   ·have h:clsB c=true:=by simpa using h
    rw [if_pos h] at hm
    refine R_dropO 1 [.box [.d (.sl (Cs.rows l))]] (Nat.zero_le _) rfl rfl ?_
    exact R_next (k+1) ⟨hk1,hm⟩ (by omega) ⟨.refl _,.refl _,.refl _,Ent.wrap (by omega) (by omega) (by omega),trivial⟩ rfl
  ·have hk1:l.length≤k:=ge_dec h rfl
   rw [List.drop_eq_nil_of_le hk1] at hm
   exact R_to () hm ⟨.refl _,trivial⟩ rfl
 rintro _ hn
 rw [hn] at hc0
 simp only at hc0
 refine R_run hg.ok 1000 rfl rfl ?_
 refine R_call hg.ok (heads_ok l (by omega)) rfl rfl rfl rfl rfl rfl ?_
 refine R_run hg.ok 1000 rfl rfl ?_
 refine R_loop (fun k:Nat=>([(6,.d (.map (dsM (hdS l)))),(29,.d (.sl (Cs.rows l))),(30,iV l.length),(31,iV k)],[.box [.d (.sl (Cs.rows l))]])) (fun k=>k≤l.length∧firstN (fun c=>thereL (hasH l) c.body) l 0=firstN (fun c=>thereL (hasH l) c.body) (l.drop k) k) (fun k=>l.length - k) 0 ⟨Nat.zero_le _,rfl⟩ ⟨.refl _,.refl _,by rw [Cs.rows_len]; exact .refl _,.refl _,trivial⟩ rfl ?_
 rintro k ⟨hk,hm⟩
 refine R_run hg.ok 1000 rfl rfl ?_
 refine R_if rfl rfl (fun h=>?_) (fun h=>?_) <;> refine R_run hg.ok 1000 rfl rfl ?_
 ·have hk1:k<l.length:=lt_dec h rfl
  have e1:l[k]? = some l[k]:=List.getElem?_eq_getElem hk1
  have hs:=hl _ (List.getElem_mem hk1)
  generalize l[k]=c at e1 hs
  rw [firstN_drop (fun c=>thereL (hasH l) c.body) e1] at hm
  have ht:=there_ok11 (hdS l) c.body hs.size
  rw [thereH_eq] at ht
  refine R_index hg.ok rfl rfl rfl rfl rfl rfl (Int.natCast_nonneg _) (Cs.rows_get e1) rfl ?_
  refine R_run hg.ok 1000 rfl rfl ?_
  refine R_call hg.ok (ht) rfl rfl rfl rfl rfl rfl ?_
  refine R_run hg.ok 1000 rfl rfl ?_
  refine R_if rfl rfl (fun h=>?_) (fun h=>?_) <;> refine R_run hg.ok 1000 rfl rfl ?_
  ·have h:thereL (hasH l) c.body=false:=by simpa using h
   rw [if_neg (by rw [h]; simp)] at hm
   rw [hc0,hm]
   refine R_ret hg 5 rfl rfl ?_
   rfl
  ·have h:thereL (hasH l) c.body=true:=by simpa using h
   rw [if_pos h] at hm
   refine R_dropO 1 [.box [.d (.sl (Cs.rows l))]] (Nat.zero_le _) rfl rfl ?_
   exact R_next (k+1) ⟨hk1,hm⟩ (by omega) ⟨.refl _,.refl _,.refl _,Ent.wrap (by omega) (by omega) (by omega),trivial⟩ rfl
 ·have hk1:l.length≤k:=ge_dec h rfl
  rw [List.drop_eq_nil_of_le hk1] at hm
  rw [hc0,hm]
  refine R_ret hg 5 rfl rfl ?_
  rfl
end Go.Proofs.YtcgkgofmldhokaaGreat

namespace Go.Proofs.YtcgkgofmldhokaaGreat
open Go PSL Go.Proofs

def cdO (met:List Int) (slot:Int) (at_:Int) (c:List Is) (e:List En):List Ob:=[.box [.lo 1 0,.mp 2,iV slot],.box [.ow 3 c.length,.ow 4 e.length,iV at_,iV 0],.map (imap (setB met)),.arr 4 c.length (Is.rows c),.arr 7 e.length (En.rows e)]

theorem cdO_map {f:AV→AV} (hb:f (bV true)=bV true) (hi:∀ n,f (iV n)=iV n) (h1:f (.lo 1 0)=.lo 1 0) (h2:f (.mp 2)=.mp 2) (h3:∀ s,f (.ow 3 s)=.ow 3 s) (h4:∀ s,f (.ow 4 s)=.ow 4 s) (met:List Int) (slot at_:Int) (c:List Is) (e:List En):(cdO met slot at_ c e).map (mapOb f)=cdO met slot at_ c e:=by
 simp only [cdO,List.map_cons,List.map_nil,mapOb_setB hb]
 simp [mapOb,hi,h1,h2,h3,h4]

theorem cdO_seal (o:List Ob) (met:List Int) (slot at_:Int) (c:List Is) (e:List En):(cdO met slot at_ c e).map (mapOb (sealT false 5 o 5))=cdO met slot at_ c e :=
 cdO_map rfl (fun _=>rfl) rfl rfl (fun _=>rfl) (fun _=>rfl) _ _ _ _ _

theorem cdO_trim {n:Nat} (h:5≤n) (met:List Int) (slot at_:Int) (c:List Is) (e:List En):(cdO met slot at_ c e).map (mapOb (trimA n))=cdO met slot at_ c e:=by
 obtain ⟨m,rfl⟩:∃ m,n=m+5:=⟨n - 5,by omega⟩
 exact cdO_map rfl (fun _=>rfl) rfl rfl (fun _=>rfl) (fun _=>rfl) _ _ _ _ _

theorem cdO_ren (f:Nat→Nat) (h1:f 1=1) (h2:f 2=2) (h3:f 3=3) (h4:f 4=4) (met:List Int) (slot at_:Int) (c:List Is) (e:List En):(cdO met slot at_ c e).map (renOb f)=cdO met slot at_ c e:=by
 simp only [cdO,List.map_cons,List.map_nil,renOb_setB]
 simp [renOb,renA,renL,h1,h2,h3,h4,iV]

set_option maxRecDepth 100000 in
theorem cdAdd_ok (Y:YP) (met:List Int) (slot at_:Int) (c:List Is) (e:List En) (x:Is) (hc:c.length≤100000000):SCtr Tryz.prog Y 36 [.lo 0 0,x.av] (cdO met slot at_ c e) (iV c.length) (cdO met slot at_ (c++[x]) e):=by
 refine SCtr.of_R (pf:=pfB) tyOk mixed Tryz.func36 rfl (by kernel_rfl) (by kernel_rfl) (by simp [Tryz.ntmps36]) (by simp [cdO]) fun w S φ hg=>?_
 have hφ:φ.length=5:=hg.hs0.len
 have hl:(c++[x]).length=Nat.succ c.length:=by simp
 refine R_run hg.ok 1000 rfl rfl ?_
 refine R_appendO hg.ok (Is.rows (c++[x])) rfl rfl rfl rfl rfl rfl rfl rfl rfl (by simp) (by simp [one1]) (Is.rows_snoc c x) (by rw [Is.rows_len]; simp; omega) (by rw [Is.rows_len]; simp; omega) ?_
 rw [← hl]
 refine R_run hg.ok 1000 rfl rfl ?_
 refine R_lenO hg.ok rfl rfl rfl rfl rfl (n:=((c.length+1:Nat):Int)) (by rw [Is.rows_len]; simp) ?_
 refine R_run hg.ok 1000 rfl rfl ?_
 rw [w64 (n:=((c.length+1:Nat):Int) - 1) (by omega) (by omega),show ((c.length+1:Nat):Int) - 1=(c.length:Int) by omega]
 exact R_retS hg 5 5 (by show (5:Nat)≤5; omega) rfl rfl (cdO_seal _ _ _ _ (c++[x]) _)
def HeadC (Y:YP) (t:Tm):Prop:=∀ (met:List Int) (slot at_:Int) (c:List Is) (e:List En),c.length+t.size≤100000000→SCtr Tryz.prog Y 33 [.lo 0 0,t.av] (cdO met slot at_ c e) (.tup []) (cdO (headG t met).2 slot at_ (c++(headG t met).1) e)
def pfAll:Nat→Cls:=fun f=>.eff

set_option maxRecDepth 100000 in
theorem cdAllH_ok (Y:YP) (l:List Tm) (ih:∀ x∈l,HeadC Y x) (met:List Int) (slot at_:Int) (c:List Is) (e:List En) (hc:c.length+Tm.sizeL l≤100000000):SCtr Tryz.prog Y 32 [.lo 0 0,.d (.sl (Tm.rows l)),.clo 33 [.lo 0 0] []] (cdO met slot at_ c e) (.tup []) (cdO (headGL l met).2 slot at_ (c++(headGL l met).1) e):=by
 refine SCtr.of_R (pf:=pfAll) tyOk mixed Tryz.func32 rfl (by kernel_rfl) (by kernel_rfl) (by simp [Tryz.ntmps32]) (by simp [cdO]) fun w S φ hg=>?_
 have hφ:φ.length=5:=hg.hs0.len
 have hl:=Tm.len_le_sizeL l
 have hrl:=Tm.rows_length l
 refine R_run hg.ok 1000 rfl rfl ?_
 refine R_loop (fun k:Nat=>([(2,.clo 33 [.lo 0 0] []),(8,.d (.sl (Tm.rows l))),(9,iV l.length),(10,iV k)],cdO (headGL (l.take k) met).2 slot at_ (c++(headGL (l.take k) met).1) e)) (fun k=>k≤l.length) (fun k=>l.length - k) 0 (Nat.zero_le _) ⟨.refl _,.refl _,by rw [hrl]; exact .refl _,.refl _,trivial⟩ (by simp only [List.take_zero,headGL,List.append_nil]; rfl) ?_
 rintro k hk
 refine R_run hg.ok 1000 rfl rfl ?_
 refine R_if rfl rfl (fun h=>?_) (fun h=>?_) <;> refine R_run hg.ok 1000 rfl rfl ?_
 ·have hk1:k<l.length:=lt_dec h rfl
  have e1:l[k]? = some l[k]:=List.getElem?_eq_getElem hk1
  have hm:=List.getElem_mem hk1
  have hsz:=tm_sizeL_at e1
  have hsl:=headGL_len (l.take k) met
  have hx:=ih _ hm (headGL (l.take k) met).2 slot at_ (c++(headGL (l.take k) met).1) e (by rw [List.length_append]; omega)
  rw [List.append_assoc,← headGL_t1 e1 met,← headGL_t2 e1 met] at hx
  generalize l[k]=x at e1 hx
  refine R_index hg.ok rfl rfl rfl rfl rfl rfl (Int.natCast_nonneg _) (Tm.rows_get e1) rfl ?_
  refine R_run hg.ok 1000 rfl rfl ?_
  refine R_callSO hg.ok hg.gup hg.wide hg.Y [0,1,2,3,4] (cdO (headGL (l.take (k+1)) met).2 slot at_ (c++(headGL (l.take (k+1)) met).1) e++[boxR x]) (hx) (fun _=>rfl) rfl rfl rfl rfl rfl (by rw [cdO_ren _ rfl rfl rfl rfl]; rfl) rfl (by rw [cdO_ren _ rfl rfl rfl rfl]; rfl) ?_
  refine R_run hg.ok 1000 rfl rfl ?_
  refine R_dropO 5 (cdO (headGL (l.take (k+1)) met).2 slot at_ (c++(headGL (l.take (k+1)) met).1) e) (by show φ.length≤_; omega) rfl (cdO_trim (Nat.le_refl _) _ _ _ _ _) ?_
  exact R_next (k+1) hk1 (by omega) ⟨.refl _,.refl _,.refl _,Ent.wrap (by omega) (by omega) (by omega),trivial⟩ rfl
 ·have hk1:l.length≤k:=ge_dec h rfl
  rw [List.take_of_length_le hk1]
  exact R_endS hg 5 5 (by show (5:Nat)≤5; omega) rfl rfl (cdO_seal _ _ _ _ _ _)
end Go.Proofs.YtcgkgofmldhokaaGreat

namespace Go.Proofs.YtcgkgofmldhokaaGreat
open Go PSL Go.Proofs

set_option maxRecDepth 100000 in
theorem cdHead_ok (Y:YP) (t:Tm):HeadC Y t:=by
 induction t using Tm.ind with
 | _ t ih =>
 intro met slot at_ c e hc
 have hs:=Tm.size_eq t
 have hl:=Tm.len_le_sizeL t.l
 refine SCtr.of_R (pf:=pfBE) tyOk mixed Tryz.func33 rfl (by kernel_rfl) (by kernel_rfl) (by simp [Tryz.ntmps33]) (by simp [cdO]) fun w S φ hg=>?_
 have hφ:φ.length=5:=hg.hs0.len
 rw [headG_eq]
 refine R_run hg.ok 1000 rfl rfl ?_
 by_cases h1:t.k=1
 ·rw [if_pos h1]
  refine R_if rfl rfl (fun _=>?_) (fun h=>absurd h (by simp [h1])) <;> refine R_run hg.ok 1000 rfl rfl ?_
  cases hm:met.contains t.n with
  | true =>
   refine R_lookupI hg.ok (setB met) rfl rfl rfl rfl rfl rfl rfl (zv:=.bool false) (by kernel_rfl) (v:=bV true) (by rw [look_setB,hm]; rfl) ?_
   refine R_run hg.ok 1000 rfl rfl ?_
   refine R_if rfl rfl (fun _=>?_) (fun h=>absurd h (by simp)) <;> refine R_run hg.ok 1000 rfl rfl ?_
   refine R_setI hg.ok (setB met) (setB (addV met t.n)) rfl rfl rfl rfl rfl rfl rfl (by first | exact .tt | exact .refl _) (setB_add met t.n) ?_
   refine R_run hg.ok 1000 rfl rfl ?_
   refine R_callSO hg.ok hg.gup hg.wide hg.Y [0,1,2,3,4] (cdO (addV met t.n) slot at_ (c++[⟨2,t.n,0,e0⟩]) e++[boxR t]) (cdAdd_ok Y (addV met t.n) slot at_ c e ⟨2,t.n,0,e0⟩ (by omega)) (fun _=>rfl) rfl rfl rfl rfl rfl (by rw [cdO_ren _ rfl rfl rfl rfl]; rfl) rfl (by rw [cdO_ren _ rfl rfl rfl rfl]; rfl) ?_
   refine R_run hg.ok 1000 rfl rfl ?_
   exact R_endS hg 5 5 (by show (5:Nat)≤5; omega) rfl rfl (cdO_seal _ _ _ _ _ _)
  | false =>
   refine R_lookupI hg.ok (setB met) rfl rfl rfl rfl rfl rfl rfl (zv:=.bool false) (by kernel_rfl) (v:=.ff) (by rw [look_setB,hm]; rfl) ?_
   refine R_run hg.ok 1000 rfl rfl ?_
   refine R_setI hg.ok (setB met) (setB (addV met t.n)) rfl rfl rfl rfl rfl rfl rfl (by first | exact .tt | exact .refl _) (setB_add met t.n) ?_
   refine R_run hg.ok 1000 rfl rfl ?_
   refine R_callSO hg.ok hg.gup hg.wide hg.Y [0,1,2,3,4] (cdO (addV met t.n) slot at_ (c++[⟨1,t.n,0,e0⟩]) e++[boxR t]) (cdAdd_ok Y (addV met t.n) slot at_ c e ⟨1,t.n,0,e0⟩ (by omega)) (fun _=>rfl) rfl rfl rfl rfl rfl (by rw [cdO_ren _ rfl rfl rfl rfl]; rfl) rfl (by rw [cdO_ren _ rfl rfl rfl rfl]; rfl) ?_
   refine R_run hg.ok 1000 rfl rfl ?_
   exact R_endS hg 5 5 (by show (5:Nat)≤5; omega) rfl rfl (cdO_seal _ _ _ _ _ _)
 rw [if_neg h1]
 refine R_if rfl rfl (fun h=>absurd h (by simp [h1])) (fun _=>?_) <;> refine R_run hg.ok 1000 rfl rfl ?_
 by_cases h2:t.k=2
 ·rw [if_pos h2]
  refine R_if rfl rfl (fun _=>?_) (fun h=>absurd h (by simp [h2])) <;> refine R_run hg.ok 1000 rfl rfl ?_
  refine R_callSO hg.ok hg.gup hg.wide hg.Y [0,1,2,3,4] (cdO met slot at_ (c++[⟨3,0,t.n,e0⟩]) e++[boxR t]) (cdAdd_ok Y met slot at_ c e ⟨3,0,t.n,e0⟩ (by omega)) (fun _=>rfl) rfl rfl rfl rfl rfl (by rw [cdO_ren _ rfl rfl rfl rfl]; rfl) rfl (by rw [cdO_ren _ rfl rfl rfl rfl]; rfl) ?_
  refine R_run hg.ok 1000 rfl rfl ?_
  exact R_endS hg 5 5 (by show (5:Nat)≤5; omega) rfl rfl (cdO_seal _ _ _ _ _ _)
 rw [if_neg h2]
 refine R_if rfl rfl (fun h=>absurd h (by simp [h2])) (fun _=>?_) <;> refine R_run hg.ok 1000 rfl rfl ?_
 rw [Tm.rows_length]
 refine R_callSO hg.ok hg.gup hg.wide hg.Y [0,1,2,3,4] (cdO met slot at_ (c++[⟨4,0,t.l.length,t.s⟩]) e++[boxR t]) (cdAdd_ok Y met slot at_ c e ⟨4,0,t.l.length,t.s⟩ (by omega)) (fun _=>rfl) rfl rfl rfl rfl rfl (by rw [cdO_ren _ rfl rfl rfl rfl]; rfl) rfl (by rw [cdO_ren _ rfl rfl rfl rfl]; rfl) ?_
 refine R_run hg.ok 1000 rfl rfl ?_
 have ha:=cdAllH_ok Y t.l ih met slot at_ (c++[⟨4,0,t.l.length,t.s⟩]) e (by rw [List.length_append,List.length_singleton]; omega)
 rw [List.append_assoc,List.singleton_append] at ha
 refine R_callSO hg.ok hg.gup hg.wide hg.Y [0,1,2,3,4] (cdO (headGL t.l met).2 slot at_ (c++⟨4,0,t.l.length,t.s⟩::(headGL t.l met).1) e++[boxR t]) (ha) (fun _=>rfl) rfl rfl rfl rfl rfl (by rw [cdO_ren _ rfl rfl rfl rfl]; rfl) rfl (by rw [cdO_ren _ rfl rfl rfl rfl]; rfl) ?_
 refine R_run hg.ok 1000 rfl rfl ?_
 exact R_endS hg 5 5 (by show (5:Nat)≤5; omega) rfl rfl (cdO_seal _ _ _ _ _ _)
end Go.Proofs.YtcgkgofmldhokaaGreat

namespace Go.Proofs.YtcgkgofmldhokaaGreat
open Go PSL Go.Proofs
def PutC (Y:YP) (t:Tm):Prop:=∀ (met:List Int) (slot at_:Int) (c:List Is) (e:List En),c.length+t.size≤100000000→SCtr Tryz.prog Y 38 [.lo 0 0,t.av] (cdO met slot at_ c e) (.tup []) (cdO met slot at_ (c++putG t) e)

set_option maxRecDepth 100000 in
theorem cdAllP_ok (Y:YP) (l:List Tm) (ih:∀ x∈l,PutC Y x) (met:List Int) (slot at_:Int) (c:List Is) (e:List En) (hc:c.length+Tm.sizeL l≤100000000):SCtr Tryz.prog Y 32 [.lo 0 0,.d (.sl (Tm.rows l)),.clo 38 [.lo 0 0] []] (cdO met slot at_ c e) (.tup []) (cdO met slot at_ (c++putGL l) e):=by
 refine SCtr.of_R (pf:=pfAll) tyOk mixed Tryz.func32 rfl (by kernel_rfl) (by kernel_rfl) (by simp [Tryz.ntmps32]) (by simp [cdO]) fun w S φ hg=>?_
 have hφ:φ.length=5:=hg.hs0.len
 have hl:=Tm.len_le_sizeL l
 have hrl:=Tm.rows_length l
 refine R_run hg.ok 1000 rfl rfl ?_
 refine R_loop (fun k:Nat=>([(2,.clo 38 [.lo 0 0] []),(8,.d (.sl (Tm.rows l))),(9,iV l.length),(10,iV k)],cdO met slot at_ (c++putGL (l.take k)) e)) (fun k=>k≤l.length) (fun k=>l.length - k) 0 (Nat.zero_le _) ⟨.refl _,.refl _,by rw [hrl]; exact .refl _,.refl _,trivial⟩ (by simp only [List.take_zero,putGL,List.append_nil]; rfl) ?_
 rintro k hk
 refine R_run hg.ok 1000 rfl rfl ?_
 refine R_if rfl rfl (fun h=>?_) (fun h=>?_) <;> refine R_run hg.ok 1000 rfl rfl ?_
 ·have hk1:k<l.length:=lt_dec h rfl
  have e1:l[k]? = some l[k]:=List.getElem?_eq_getElem hk1
  have hm:=List.getElem_mem hk1
  have hsz:=tm_sizeL_at e1
  have hsl:=putGL_len (l.take k)
  have hx:=ih _ hm met slot at_ (c++putGL (l.take k)) e (by rw [List.length_append]; omega)
  rw [putGL_t e1] at hx
  generalize l[k]=x at e1 hx
  refine R_index hg.ok rfl rfl rfl rfl rfl rfl (Int.natCast_nonneg _) (Tm.rows_get e1) rfl ?_
  refine R_run hg.ok 1000 rfl rfl ?_
  refine R_callSO hg.ok hg.gup hg.wide hg.Y [0,1,2,3,4] (cdO met slot at_ (c++putGL (l.take (k+1))) e++[boxR x]) (hx) (fun _=>rfl) rfl rfl rfl rfl rfl (by rw [cdO_ren _ rfl rfl rfl rfl]; rfl) rfl (by rw [cdO_ren _ rfl rfl rfl rfl]; rfl) ?_
  refine R_run hg.ok 1000 rfl rfl ?_
  refine R_dropO 5 (cdO met slot at_ (c++putGL (l.take (k+1))) e) (by show φ.length≤_; omega) rfl (cdO_trim (Nat.le_refl _) _ _ _ _ _) ?_
  exact R_next (k+1) hk1 (by omega) ⟨.refl _,.refl _,.refl _,Ent.wrap (by omega) (by omega) (by omega),trivial⟩ rfl
 ·have hk1:l.length≤k:=ge_dec h rfl
  rw [List.take_of_length_le hk1]
  exact R_endS hg 5 5 (by show (5:Nat)≤5; omega) rfl rfl (cdO_seal _ _ _ _ _ _)

set_option maxRecDepth 100000 in
theorem cdPut_ok (Y:YP) (t:Tm):PutC Y t:=by
 induction t using Tm.ind with
 | _ t ih =>
 intro met slot at_ c e hc
 have hs:=Tm.size_eq t
 have hl:=Tm.len_le_sizeL t.l
 have hpl:=putGL_len t.l
 refine SCtr.of_R (pf:=pfBE) tyOk mixed Tryz.func38 rfl (by kernel_rfl) (by kernel_rfl) (by simp [Tryz.ntmps38]) (by simp [cdO]) fun w S φ hg=>?_
 have hφ:φ.length=5:=hg.hs0.len
 rw [putG_eq,← List.append_assoc]
 unfold instG
 refine R_run hg.ok 1000 rfl rfl ?_
 refine R_callSO hg.ok hg.gup hg.wide hg.Y [0,1,2,3,4] (cdO met slot at_ (c++putGL t.l) e++[boxR t]) (cdAllP_ok Y t.l ih met slot at_ c e (by omega)) (fun _=>rfl) rfl rfl rfl rfl rfl (by rw [cdO_ren _ rfl rfl rfl rfl]; rfl) rfl (by rw [cdO_ren _ rfl rfl rfl rfl]; rfl) ?_
 refine R_run hg.ok 1000 rfl rfl ?_
 by_cases h1:t.k=1
 ·rw [if_pos h1]
  refine R_if rfl rfl (fun _=>?_) (fun h=>absurd h (by simp [h1])) <;> refine R_run hg.ok 1000 rfl rfl ?_
  refine R_callSO hg.ok hg.gup hg.wide hg.Y [0,1,2,3,4] (cdO met slot at_ (c++putGL t.l++[⟨6,t.n,0,e0⟩]) e++[boxR t]) (cdAdd_ok Y met slot at_ (c++putGL t.l) e ⟨6,t.n,0,e0⟩ (by rw [List.length_append]; omega)) (fun _=>rfl) rfl rfl rfl rfl rfl (by rw [cdO_ren _ rfl rfl rfl rfl]; rfl) rfl (by rw [cdO_ren _ rfl rfl rfl rfl]; rfl) ?_
  refine R_run hg.ok 1000 rfl rfl ?_
  exact R_endS hg 5 5 (by show (5:Nat)≤5; omega) rfl rfl (cdO_seal _ _ _ _ _ _)
 rw [if_neg h1]
 refine R_if rfl rfl (fun h=>absurd h (by simp [h1])) (fun _=>?_) <;> refine R_run hg.ok 1000 rfl rfl ?_
 by_cases h2:t.k=2
 ·rw [if_pos h2]
  refine R_if rfl rfl (fun _=>?_) (fun h=>absurd h (by simp [h2])) <;> refine R_run hg.ok 1000 rfl rfl ?_
  refine R_callSO hg.ok hg.gup hg.wide hg.Y [0,1,2,3,4] (cdO met slot at_ (c++putGL t.l++[⟨7,0,t.n,e0⟩]) e++[boxR t]) (cdAdd_ok Y met slot at_ (c++putGL t.l) e ⟨7,0,t.n,e0⟩ (by rw [List.length_append]; omega)) (fun _=>rfl) rfl rfl rfl rfl rfl (by rw [cdO_ren _ rfl rfl rfl rfl]; rfl) rfl (by rw [cdO_ren _ rfl rfl rfl rfl]; rfl) ?_
  refine R_run hg.ok 1000 rfl rfl ?_
  exact R_endS hg 5 5 (by show (5:Nat)≤5; omega) rfl rfl (cdO_seal _ _ _ _ _ _)
 rw [if_neg h2]
 refine R_if rfl rfl (fun h=>absurd h (by simp [h2])) (fun _=>?_) <;> refine R_run hg.ok 1000 rfl rfl ?_
 rw [Tm.rows_length]
 refine R_callSO hg.ok hg.gup hg.wide hg.Y [0,1,2,3,4] (cdO met slot at_ (c++putGL t.l++[⟨8,0,t.l.length,t.s⟩]) e++[boxR t]) (cdAdd_ok Y met slot at_ (c++putGL t.l) e ⟨8,0,t.l.length,t.s⟩ (by rw [List.length_append]; omega)) (fun _=>rfl) rfl rfl rfl rfl rfl (by rw [cdO_ren _ rfl rfl rfl rfl]; rfl) rfl (by rw [cdO_ren _ rfl rfl rfl rfl]; rfl) ?_
 refine R_run hg.ok 1000 rfl rfl ?_
 exact R_endS hg 5 5 (by show (5:Nat)≤5; omega) rfl rfl (cdO_seal _ _ _ _ _ _)

set_option maxRecDepth 100000 in
theorem cdFresh_ok (Y:YP) (n:Nat) (hn:n≤1000) (met:List Int) (slot at_:Int) (c:List Is) (e:List En) (hc:c.length+n≤100000000):SCtr Tryz.prog Y 34 [.lo 0 0,iV n] (cdO met slot at_ c e) (.tup []) (cdO met slot at_ (c++freshG met n) e):=by
 refine SCtr.of_R (pf:=pfBE) tyOk mixed Tryz.func34 rfl (by kernel_rfl) (by kernel_rfl) (by simp [Tryz.ntmps34]) (by simp [cdO]) fun w S φ hg=>?_
 have hφ:φ.length=5:=hg.hs0.len
 refine R_run hg.ok 1000 rfl rfl ?_
 refine R_loop (fun k:Nat=>([(0,.lo 0 0),(5,iV n),(6,iV k)],cdO met slot at_ (c++freshG met k) e)) (fun k=>k≤n) (fun k=>n - k) 0 (Nat.zero_le _) ⟨.refl _,.refl _,.refl _,trivial⟩ (by simp only [freshG,List.range_zero,List.filter_nil,List.map_nil,List.append_nil]; rfl) ?_
 rintro k hk
 have hfl:=freshG_len met k
 refine R_run hg.ok 1000 rfl rfl ?_
 refine R_if rfl rfl (fun h=>?_) (fun h=>?_) <;> refine R_run hg.ok 1000 rfl rfl ?_
 ·have hk1:k<n:=lt_dec h rfl
  cases hm:met.contains (k:Int) with
  | true =>
   have hf:freshG met (k+1)=freshG met k:=by rw [freshG_succ,if_pos hm]
   refine R_lookupI hg.ok (setB met) rfl rfl rfl rfl rfl rfl rfl (zv:=.bool false) (by kernel_rfl) (v:=bV true) (by rw [look_setB,hm]; rfl) ?_
   refine R_run hg.ok 1000 rfl rfl ?_
   refine R_if rfl rfl (fun h=>absurd h (by simp)) (fun _=>?_) <;> refine R_run hg.ok 1000 rfl rfl ?_
   exact R_next (k+1) hk1 (by omega) ⟨.refl _,.refl _,Ent.wrap (by omega) (by omega) (by omega),trivial⟩ (by simp only [hf]; rfl)
  | false =>
   have hf:freshG met (k+1)=freshG met k++[⟨5,(k:Int),0,e0⟩]:=by rw [freshG_succ,if_neg (by rw [hm]; simp)]
   refine R_lookupI hg.ok (setB met) rfl rfl rfl rfl rfl rfl rfl (zv:=.bool false) (by kernel_rfl) (v:=.ff) (by rw [look_setB,hm]; rfl) ?_
   refine R_run hg.ok 1000 rfl rfl ?_
   refine R_callSO hg.ok hg.gup hg.wide hg.Y [0,1,2,3,4] (cdO met slot at_ (c++freshG met k++[⟨5,(k:Int),0,e0⟩]) e) (cdAdd_ok Y met slot at_ (c++freshG met k) e ⟨5,(k:Int),0,e0⟩ (by rw [List.length_append]; omega)) (fun _=>rfl) rfl rfl rfl rfl rfl (by rw [cdO_ren _ rfl rfl rfl rfl]; rfl) rfl (by rw [cdO_ren _ rfl rfl rfl rfl]; rfl) ?_
   refine R_run hg.ok 1000 rfl rfl ?_
   exact R_next (k+1) hk1 (by omega) ⟨.refl _,.refl _,Ent.wrap (by omega) (by omega) (by omega),trivial⟩ (by simp only [hf,List.append_assoc]; rfl)
 ·have hk1:n≤k:=ge_dec h rfl
  rw [show k=n by omega]
  exact R_endS hg 5 5 (by show (5:Nat)≤5; omega) rfl rfl (cdO_seal _ _ _ _ _ _)

set_option maxRecDepth 100000 in
theorem cdAsks_ok (Y:YP) (op:Int) (t:Tm) (met:List Int) (slot at_:Int) (c:List Is) (e:List En) (hc:c.length+t.size≤100000000):SCtr Tryz.prog Y 72 [.lo 0 0,iV op,t.av] (cdO met slot at_ c e) (.tup []) (cdO met slot at_ (c++asksG op t) e):=by
 have hs:=Tm.size_eq t
 have hpl:=putGL_len t.l
 unfold asksG
 rw [← List.append_assoc]
 refine SCtr.of_R (pf:=pfBE) tyOk mixed Tryz.func72 rfl (by kernel_rfl) (by kernel_rfl) (by simp [Tryz.ntmps72]) (by simp [cdO]) fun w S φ hg=>?_
 have hφ:φ.length=5:=hg.hs0.len
 refine R_run hg.ok 1000 rfl rfl ?_
 refine R_callSO hg.ok hg.gup hg.wide hg.Y [0,1,2,3,4] (cdO met slot at_ (c++putGL t.l) e++[boxR t]) (cdAllP_ok Y t.l (fun x _=>cdPut_ok Y x) met slot at_ c e (by omega)) (fun _=>rfl) rfl rfl rfl rfl rfl (by rw [cdO_ren _ rfl rfl rfl rfl]; rfl) rfl (by rw [cdO_ren _ rfl rfl rfl rfl]; rfl) ?_
 refine R_run hg.ok 1000 rfl rfl ?_
 rw [Tm.rows_length]
 refine R_callSO hg.ok hg.gup hg.wide hg.Y [0,1,2,3,4] (cdO met slot at_ (c++putGL t.l++[⟨op,0,t.l.length,t.s⟩]) e++[boxR t]) (cdAdd_ok Y met slot at_ (c++putGL t.l) e ⟨op,0,t.l.length,t.s⟩ (by rw [List.length_append]; omega)) (fun _=>rfl) rfl rfl rfl rfl rfl (by rw [cdO_ren _ rfl rfl rfl rfl]; rfl) rfl (by rw [cdO_ren _ rfl rfl rfl rfl]; rfl) ?_
 refine R_run hg.ok 1000 rfl rfl ?_
 exact R_endS hg 5 5 (by show (5:Nat)≤5; omega) rfl rfl (cdO_seal _ _ _ _ _ _)

set_option maxRecDepth 100000 in
theorem cdBegin_ok (Y:YP) (met:List Int) (slot at_:Int) (c:List Is) (e:List En) (h0:0≤slot) (h1:slot≤100000000) (hc:c.length+2≤100000000):SCtr Tryz.prog Y 73 [.lo 0 0] (cdO met slot at_ c e) (.tup [iV slot,iV ((c.length+1:Nat):Int)]) (cdO met (slot+1) at_ (c++[⟨13,slot,0,e0⟩,⟨14,0,0,e0⟩]) e):=by
 refine SCtr.of_R (pf:=pfBE) tyOk mixed Tryz.func73 rfl (by kernel_rfl) (by kernel_rfl) (by simp [Tryz.ntmps73]) (by simp [cdO]) fun w S φ hg=>?_
 have hφ:φ.length=5:=hg.hs0.len
 have hl:(c++[(⟨13,slot,0,e0⟩:Is)]).length=c.length+1:=by simp
 have e2:c++[(⟨13,slot,0,e0⟩:Is),⟨14,0,0,e0⟩]=c++[⟨13,slot,0,e0⟩]++[⟨14,0,0,e0⟩]:=by simp
 refine R_run hg.ok 1000 rfl rfl ?_
 rw [w64 (n:=slot+1) (by omega) (by omega)]
 refine R_callSO hg.ok hg.gup hg.wide hg.Y [0,1,2,3,4] (cdO met (slot+1) at_ (c++[⟨13,slot,0,e0⟩]) e) (cdAdd_ok Y met (slot+1) at_ c e ⟨13,slot,0,e0⟩ (by omega)) (fun _=>rfl) rfl rfl rfl rfl rfl (by rw [cdO_ren _ rfl rfl rfl rfl]; rfl) rfl (by rw [cdO_ren _ rfl rfl rfl rfl]; rfl) ?_
 refine R_run hg.ok 1000 rfl rfl ?_
 refine R_callSO hg.ok hg.gup hg.wide hg.Y [0,1,2,3,4] (cdO met (slot+1) at_ (c++[⟨13,slot,0,e0⟩]++[⟨14,0,0,e0⟩]) e) (cdAdd_ok Y met (slot+1) at_ (c++[⟨13,slot,0,e0⟩]) e ⟨14,0,0,e0⟩ (by rw [hl]; omega)) (fun _=>rfl) rfl rfl rfl rfl rfl (by rw [cdO_ren _ rfl rfl rfl rfl]; rfl) rfl (by rw [cdO_ren _ rfl rfl rfl rfl]; rfl) ?_
 refine R_run hg.ok 1000 rfl rfl ?_
 rw [hl,e2]
 exact R_retS hg 5 5 (by show (5:Nat)≤5; omega) rfl rfl (cdO_seal _ _ _ _ _ _)

set_option maxRecDepth 100000 in
theorem cdHere_ok (Y:YP) (met:List Int) (slot at_:Int) (c:List Is) (e:List En) (i:Nat) (x:Is) (hx:c[i]? = some x) (hc:c.length≤100000000):SCtr Tryz.prog Y 74 [.lo 0 0,iV (i:Int)] (cdO met slot at_ c e) (.tup []) (cdO met slot at_ (c.set i ⟨x.op,x.v,c.length,x.s⟩) e):=by
 refine SCtr.of_R (pf:=fun _=>.eff) tyOk mixed Tryz.func74 rfl (by kernel_rfl) (by kernel_rfl) (by simp [Tryz.ntmps74]) (by simp [cdO]) fun w S φ hg=>?_
 have hφ:φ.length=5:=hg.hs0.len
 have hi:i<c.length:=(List.getElem?_eq_some_iff.1 hx).1
 have hr:(Is.rows c).set i (spliceD (Is.row x) (0+2) [.v (.int .i64 c.length)])=Is.rows (c.set i ⟨x.op,x.v,c.length,x.s⟩):=by rw [← is_rows_set]; rfl
 generalize (⟨x.op,x.v,c.length,x.s⟩:Is)=y at hr ⊢
 have hsl:(c.set i y).length=c.length:=List.length_set
 refine R_run hg.ok 1000 rfl rfl ?_
 refine R_lenO hg.ok rfl rfl rfl rfl rfl (n:=(c.length:Int)) (by rw [Is.rows_len]) ?_
 refine R_run hg.ok 1000 rfl rfl ?_
 refine R_indexO hg.ok rfl rfl rfl rfl rfl rfl rfl rfl rfl (Int.natCast_nonneg i) (by rw [Is.rows_len]; omega) ?_
 refine R_run hg.ok 1000 rfl rfl ?_
 refine R_storeEO hg.ok (Is.rows (c.set i y)) rfl rfl rfl rfl rfl (Is.rows_get hx) rfl rfl rfl (by decide) hr ?_
 clear hr hc hi
 rw [← hsl]
 refine R_run hg.ok 1000 rfl rfl ?_
 exact R_endS hg 5 5 (by show (5:Nat)≤5; omega) rfl rfl (cdO_seal _ _ _ _ (c.set i y) _)
end Go.Proofs.YtcgkgofmldhokaaGreat

namespace Go.Proofs.YtcgkgofmldhokaaGreat
open Go PSL Go.Proofs
def GolC (Y:YP) (l:List Gl):Prop:=∀ (met:List Int) (slot at_:Int) (c:List Is) (e:List En),fiveL l→c.length+4 * Gl.sizeL l≤100000000→0≤slot→slot+Gl.sizeL l≤100000000→SCtr Tryz.prog Y 35 [.lo 0 0,.d (.sl (Gl.rows l))] (cdO met slot at_ c e) (.tup []) (cdO met (slot+testsGL l) at_ (c++golDL l c.length slot) e)
def gbx (g:Gl):Ob:=.box [.d (.v (.int .i64 g.k)),.d (.v (.int .i64 g.t.k)),.d (.v (.string g.t.s)),.d (.v (.int .i64 g.t.n)),.d (.sl (Tm.rows g.t.l)),.d (.sl (Gl.rows g.a)),.d (.sl (Gl.rows g.b)),.d (.sl (Gl.rows g.c))]

set_option maxHeartbeats 4000000 in
set_option maxRecDepth 100000 in
theorem cdGoals_ok (Y:YP) (l:List Gl):GolC Y l:=by
 induction l using Gl.indL with
 | _ l ih =>
 intro met slot at_ c e hf hc h0 h1
 have hll:=Gl.len_size l
 have hrl:=Gl.rows_length l
 refine SCtr.of_R (pf:=pfBE) tyOk mixed Tryz.func35 rfl (by kernel_rfl) (by kernel_rfl) (by simp [Tryz.ntmps35]) (by simp [cdO]) fun w S φ hg=>?_
 have hφ:φ.length=5:=hg.hs0.len
 refine R_run hg.ok 1000 rfl rfl ?_
 refine R_loop (fun k:Nat=>([(0,.lo 0 0),(11,.d (.sl (Gl.rows l))),(12,iV l.length),(13,iV k)],cdO met (slot+testsGL (l.take k)) at_ (c++golDL (l.take k) c.length slot) e)) (fun k=>k≤l.length) (fun k=>l.length - k) 0 (Nat.zero_le _) ⟨.refl _,.refl _,by rw [hrl]; exact .refl _,.refl _,trivial⟩ (by simp only [List.take_zero,golDL,testsGL,List.append_nil,Int.add_zero]; rfl) ?_
 rintro k hk
 refine R_run hg.ok 1000 rfl rfl ?_
 refine R_if rfl rfl (fun h=>?_) (fun h=>?_) <;> refine R_run hg.ok 1000 rfl rfl ?_
 case refine_2 =>
  have hk1:l.length≤k:=ge_dec h rfl
  rw [List.take_of_length_le hk1]
  exact R_endS hg 5 5 (by show (5:Nat)≤5; omega) rfl rfl (cdO_seal _ _ _ _ _ _)
 have hk1:k<l.length:=lt_dec h rfl
 have e1:l[k]? = some l[k]:=List.getElem?_eq_getElem hk1
 have hm:=List.getElem_mem hk1
 have hsz:=gl_sizeL_at e1
 have hgl:=golDL_len (l.take k) c.length slot
 have htb:=testsGL_b (l.take k)
 obtain ⟨sa,sb,sc⟩:=ih _ hm
 have hfg:=fiveL_mem hf hm
 have hq1:=golDL_take e1 c.length slot
 have hq2:=testsGL_take e1
 have hcl:(c++golDL (l.take k) c.length slot).length=c.length+(golDL (l.take k) c.length slot).length:=List.length_append
 rw [← hcl] at hq1
 have hq3:c++golDL (l.take (k+1)) c.length slot=(c++golDL (l.take k) c.length slot)++golD l[k] (c++golDL (l.take k) c.length slot).length (slot+testsGL (l.take k)):=by rw [hq1,List.append_assoc]
 have hq4:slot+testsGL (l.take (k+1))=slot+testsGL (l.take k)+testsG l[k]:=by rw [hq2]; omega
 have hnext:∀ (E:Env) (objs:List Ob),EnvIn [(0,.lo 0 0),(11,.d (.sl (Gl.rows l))),(12,iV l.length),(13,iV (IntKind.i64.wrap ((k:Int)+1)))] E→objs=cdO met (slot+testsGL (l.take (k+1))) at_ (c++golDL (l.take (k+1)) c.length slot) e→True:=fun _ _ _ _=>trivial
 have hcb:(c++golDL (l.take k) c.length slot).length+4 * l[k].size≤100000000:=by rw [hcl]; omega
 have hvb:0≤slot+testsGL (l.take k):=by omega
 have hvc:slot+testsGL (l.take k)+l[k].size≤100000000:=by omega
 clear hq1 hq2 hgl htb hcl hsz hnext
 rw [fiveG_eq] at hfg
 have hge:=Gl.size_eq l[k]
 have hgt:=Gl.tmPos l[k].t
 generalize l[k]=g at *
 generalize c++golDL (l.take k) c.length slot=c1 at *
 generalize slot+testsGL (l.take k)=v1 at *
 refine R_index hg.ok rfl rfl rfl rfl rfl rfl (Int.natCast_nonneg _) (Gl.rows_get e1) rfl ?_
 refine R_run hg.ok 1000 rfl rfl ?_
 by_cases k1:g.k=1
 ·refine R_if rfl rfl (fun _=>?_) (fun h=>absurd h (by simp [k1])) <;> refine R_run hg.ok 1000 rfl rfl ?_
  have hgd:golD g c1.length v1=asksG 9 g.t:=by rw [golD_eq,if_pos (.inl k1),k1]; rfl
  have hgt2:testsG g=0:=by obtain ⟨a1,a2,a3⟩:=hfg.2.1 (by omega); rw [testsG_eq,a1,a2,a3,if_neg (by omega)]; simp [testsGL]
  rw [hgd] at hq3
  rw [hgt2,Int.add_zero] at hq4
  refine R_callSO hg.ok hg.gup hg.wide hg.Y [0,1,2,3,4] (cdO met v1 at_ (c1++asksG 9 g.t) e++[gbx g]) (cdAsks_ok Y 9 g.t met v1 at_ c1 e (by omega)) (fun _=>rfl) rfl rfl rfl rfl rfl (by rw [cdO_ren _ rfl rfl rfl rfl]; rfl) rfl (by rw [cdO_ren _ rfl rfl rfl rfl]; rfl) ?_
  refine R_run hg.ok 1000 rfl rfl ?_
  refine R_dropO 5 (cdO met v1 at_ (c1++asksG 9 g.t) e) (by show φ.length≤_; omega) rfl (cdO_trim (Nat.le_refl _) _ _ _ _ _) ?_
  exact R_next (k+1) hk1 (by omega) ⟨.refl _,.refl _,.refl _,Ent.wrap (by omega) (by omega) (by omega),trivial⟩ (by rw [hq3,hq4])
 refine R_if rfl rfl (fun h=>absurd h (by simp [k1])) (fun _=>?_) <;> refine R_run hg.ok 1000 rfl rfl ?_
 by_cases k2:g.k=2
 ·refine R_if rfl rfl (fun _=>?_) (fun h=>absurd h (by simp [k2])) <;> refine R_run hg.ok 1000 rfl rfl ?_
  have hgd:golD g c1.length v1=asksG 10 g.t:=by rw [golD_eq,if_pos (.inr k2),k2]; rfl
  have hgt2:testsG g=0:=by obtain ⟨a1,a2,a3⟩:=hfg.2.1 (by omega); rw [testsG_eq,a1,a2,a3,if_neg (by omega)]; simp [testsGL]
  rw [hgd] at hq3
  rw [hgt2,Int.add_zero] at hq4
  refine R_callSO hg.ok hg.gup hg.wide hg.Y [0,1,2,3,4] (cdO met v1 at_ (c1++asksG 10 g.t) e++[gbx g]) (cdAsks_ok Y 10 g.t met v1 at_ c1 e (by omega)) (fun _=>rfl) rfl rfl rfl rfl rfl (by rw [cdO_ren _ rfl rfl rfl rfl]; rfl) rfl (by rw [cdO_ren _ rfl rfl rfl rfl]; rfl) ?_
  refine R_run hg.ok 1000 rfl rfl ?_
  refine R_dropO 5 (cdO met v1 at_ (c1++asksG 10 g.t) e) (by show φ.length≤_; omega) rfl (cdO_trim (Nat.le_refl _) _ _ _ _ _) ?_
  exact R_next (k+1) hk1 (by omega) ⟨.refl _,.refl _,.refl _,Ent.wrap (by omega) (by omega) (by omega),trivial⟩ (by rw [hq3,hq4])
 refine R_if rfl rfl (fun h=>absurd h (by simp [k2])) (fun _=>?_) <;> refine R_run hg.ok 1000 rfl rfl ?_
 by_cases k3:g.k=3
 ·refine R_if rfl rfl (fun _=>?_) (fun h=>absurd h (by simp [k3])) <;> refine R_run hg.ok 1000 rfl rfl ?_
  have hgd:golD g c1.length v1=[⟨11,0,0,e0⟩]:=by rw [golD_eq,if_neg (by omega),if_pos k3]
  have hgt2:testsG g=0:=by obtain ⟨a1,a2,a3⟩:=hfg.2.1 (by omega); rw [testsG_eq,a1,a2,a3,if_neg (by omega)]; simp [testsGL]
  rw [hgd] at hq3
  rw [hgt2,Int.add_zero] at hq4
  refine R_callSO hg.ok hg.gup hg.wide hg.Y [0,1,2,3,4] (cdO met v1 at_ (c1++[⟨11,0,0,e0⟩]) e++[gbx g]) (cdAdd_ok Y met v1 at_ c1 e ⟨11,0,0,e0⟩ (by omega)) (fun _=>rfl) rfl rfl rfl rfl rfl (by rw [cdO_ren _ rfl rfl rfl rfl]; rfl) rfl (by rw [cdO_ren _ rfl rfl rfl rfl]; rfl) ?_
  refine R_run hg.ok 1000 rfl rfl ?_
  refine R_dropO 5 (cdO met v1 at_ (c1++[(⟨11,0,0,e0⟩:Is)]) e) (by show φ.length≤_; omega) rfl (cdO_trim (Nat.le_refl _) met v1 at_ (c1++[(⟨11,0,0,e0⟩:Is)]) e) ?_
  exact R_next (k+1) hk1 (by omega) ⟨.refl _,.refl _,.refl _,Ent.wrap (by omega) (by omega) (by omega),trivial⟩ (by rw [hq3,hq4])
 refine R_if rfl rfl (fun h=>absurd h (by simp [k3])) (fun _=>?_) <;> refine R_run hg.ok 1000 rfl rfl ?_
 have hA:=golDL_len g.a (c1.length+2) (v1+1)
 have hta:=testsGL_b g.a
 by_cases k4:g.k=4
 ·refine R_if rfl rfl (fun _=>?_) (fun h=>absurd h (by simp [k4])) <;> refine R_run hg.ok 1000 rfl rfl ?_
  have hgd:=golD_eq g c1.length v1
  rw [if_neg (by omega),if_neg k3,if_neg (by omega)] at hgd
  have hgt2:testsG g=testsGL g.a+testsGL g.b+testsGL g.c+1:=by rw [testsG_eq,if_pos (by omega)]
  have htb:=testsGL_b g.b
  have htc:=testsGL_b g.c
  obtain ⟨A,hAe⟩:∃ A,A=golDL g.a (c1.length+2) (v1+1):=⟨_,rfl⟩
  rw [← hAe] at hA hgd
  have hB:=golDL_len g.b (c1.length+2+A.length+1) (v1+1+testsGL g.a)
  obtain ⟨B,hBe⟩:∃ B,B=golDL g.b (c1.length+2+A.length+1) (v1+1+testsGL g.a):=⟨_,rfl⟩
  rw [← hBe] at hB hgd
  have hC:=golDL_len g.c (c1.length+2+A.length+1+B.length+1) (v1+1+testsGL g.a+testsGL g.b)
  obtain ⟨C,hCe⟩:∃ C,C=golDL g.c (c1.length+2+A.length+1+B.length+1) (v1+1+testsGL g.a+testsGL g.b):=⟨_,rfl⟩
  rw [← hCe] at hC hgd
  obtain ⟨c2,hc2⟩:∃ c2,c2=c1++[(⟨13,v1,0,e0⟩:Is),⟨14,0,0,e0⟩]:=⟨_,rfl⟩
  have l2:c2.length=c1.length+2:=by rw [hc2]; simp
  have pA:=sa met (v1+1) at_ c2 e hfg.2.2.2.1 (by omega) (by omega) (by omega)
  rw [l2,← hAe] at pA
  obtain ⟨c3,hc3⟩:∃ c3,c3=c2++A++[(⟨15,v1,0,e0⟩:Is)]:=⟨_,rfl⟩
  have l3:c3.length=c1.length+2+A.length+1:=by rw [hc3]; simp [l2]; omega
  have pB:=sb met (v1+1+testsGL g.a) at_ c3 e hfg.2.2.2.2.1 (by omega) (by omega) (by omega)
  rw [l3,← hBe] at pB
  obtain ⟨c4,hc4⟩:∃ c4,c4=c3++B++[(⟨16,0,0,e0⟩:Is)]:=⟨_,rfl⟩
  have l4:c4.length=c1.length+2+A.length+1+B.length+1:=by rw [hc4]; simp [l3]; omega
  have x4:c4[c1.length+1]? = some ⟨14,0,0,e0⟩:=by rw [hc4,hc3,hc2]; simp [List.append_assoc]
  obtain ⟨c5,hc5⟩:∃ c5,c5=c4.set (c1.length+1) ⟨14,0,c4.length,e0⟩:=⟨_,rfl⟩
  have l5:c5.length=c1.length+2+A.length+1+B.length+1:=by rw [hc5,List.length_set]; exact l4
  have pC:=sc met (v1+1+testsGL g.a+testsGL g.b) at_ c5 e hfg.2.2.2.2.2 (by omega) (by omega) (by omega)
  rw [l5,← hCe] at pC
  have x6:(c5++C)[c1.length+2+A.length+1+B.length]? = some ⟨16,0,0,e0⟩:=by
   rw [List.getElem?_append_left (by omega),hc5,List.getElem?_set_ne (by omega),hc4,List.getElem?_append_right (by simp [l3]),List.length_append,l3,Nat.sub_self]; rfl
  have hfin:(c5++C).set (c1.length+2+A.length+1+B.length) ⟨16,0,(c5++C).length,e0⟩=c++golDL (l.take (k+1)) c.length slot:=by
   rw [hq3,hgd,← if_steps c1 A B C v1 c4.length (c5++C).length c1.length rfl (by rw [l4]) (by rw [List.length_append,l5]),hc5,hc4,hc3,hc2]
  refine R_callSO hg.ok hg.gup hg.wide hg.Y [0,1,2,3,4] (cdO met (v1+1) at_ c2 e++[gbx g]) ((hc2 ▸ cdBegin_ok Y met v1 at_ c1 e hvb (by omega) (by omega))) (fun _=>rfl) rfl rfl rfl rfl rfl (by rw [cdO_ren _ rfl rfl rfl rfl]; rfl) rfl (by rw [cdO_ren _ rfl rfl rfl rfl]; rfl) ?_
  refine R_run hg.ok 1000 rfl rfl ?_
  refine R_callSO hg.ok hg.gup hg.wide hg.Y [0,1,2,3,4] (cdO met (v1+1+testsGL g.a) at_ (c2++A) e++[gbx g]) (pA) (fun _=>rfl) rfl rfl rfl rfl rfl (by rw [cdO_ren _ rfl rfl rfl rfl]; rfl) rfl (by rw [cdO_ren _ rfl rfl rfl rfl]; rfl) ?_
  refine R_run hg.ok 1000 rfl rfl ?_
  have pD:=cdAdd_ok Y met (v1+1+testsGL g.a) at_ (c2++A) e ⟨15,v1,0,e0⟩ (by rw [List.length_append]; omega)
  rw [← hc3] at pD
  refine R_callSO hg.ok hg.gup hg.wide hg.Y [0,1,2,3,4] (cdO met (v1+1+testsGL g.a) at_ c3 e++[gbx g]) (pD) (fun _=>rfl) rfl rfl rfl rfl rfl (by rw [cdO_ren _ rfl rfl rfl rfl]; rfl) rfl (by rw [cdO_ren _ rfl rfl rfl rfl]; rfl) ?_
  refine R_run hg.ok 1000 rfl rfl ?_
  refine R_callSO hg.ok hg.gup hg.wide hg.Y [0,1,2,3,4] (cdO met (v1+1+testsGL g.a+testsGL g.b) at_ (c3++B) e++[gbx g]) (pB) (fun _=>rfl) rfl rfl rfl rfl rfl (by rw [cdO_ren _ rfl rfl rfl rfl]; rfl) rfl (by rw [cdO_ren _ rfl rfl rfl rfl]; rfl) ?_
  refine R_run hg.ok 1000 rfl rfl ?_
  have pE:=cdAdd_ok Y met (v1+1+testsGL g.a+testsGL g.b) at_ (c3++B) e ⟨16,0,0,e0⟩ (by rw [List.length_append]; omega)
  rw [← hc4,List.length_append,l3] at pE
  refine R_callSO hg.ok hg.gup hg.wide hg.Y [0,1,2,3,4] (cdO met (v1+1+testsGL g.a+testsGL g.b) at_ c4 e++[gbx g]) (pE) (fun _=>rfl) rfl rfl rfl rfl rfl (by rw [cdO_ren _ rfl rfl rfl rfl]; rfl) rfl (by rw [cdO_ren _ rfl rfl rfl rfl]; rfl) ?_
  refine R_run hg.ok 1000 rfl rfl ?_
  have pF:=cdHere_ok Y met (v1+1+testsGL g.a+testsGL g.b) at_ c4 e _ _ x4 (by omega)
  rw [← hc5] at pF
  refine R_callSO hg.ok hg.gup hg.wide hg.Y [0,1,2,3,4] (cdO met (v1+1+testsGL g.a+testsGL g.b) at_ c5 e++[gbx g]) (pF) (fun _=>rfl) rfl rfl rfl rfl rfl (by rw [cdO_ren _ rfl rfl rfl rfl]; rfl) rfl (by rw [cdO_ren _ rfl rfl rfl rfl]; rfl) ?_
  refine R_run hg.ok 1000 rfl rfl ?_
  refine R_callSO hg.ok hg.gup hg.wide hg.Y [0,1,2,3,4] (cdO met (v1+1+testsGL g.a+testsGL g.b+testsGL g.c) at_ (c5++C) e++[gbx g]) (pC) (fun _=>rfl) rfl rfl rfl rfl rfl (by rw [cdO_ren _ rfl rfl rfl rfl]; rfl) rfl (by rw [cdO_ren _ rfl rfl rfl rfl]; rfl) ?_
  refine R_run hg.ok 1000 rfl rfl ?_
  have pG:=cdHere_ok Y met (v1+1+testsGL g.a+testsGL g.b+testsGL g.c) at_ (c5++C) e _ _ x6 (by rw [List.length_append]; omega)
  rw [hfin] at pG
  refine R_callSO hg.ok hg.gup hg.wide hg.Y [0,1,2,3,4] (cdO met (v1+1+testsGL g.a+testsGL g.b+testsGL g.c) at_ (c++golDL (l.take (k+1)) c.length slot) e++[gbx g]) (pG) (fun _=>rfl) rfl rfl rfl rfl rfl (by rw [cdO_ren _ rfl rfl rfl rfl]; rfl) rfl (by rw [cdO_ren _ rfl rfl rfl rfl]; rfl) ?_
  refine R_run hg.ok 1000 rfl rfl ?_
  rw [show v1+1+testsGL g.a+testsGL g.b+testsGL g.c=slot+testsGL (l.take (k+1)) by omega]
  refine R_dropO 5 (cdO met (slot+testsGL (l.take (k+1))) at_ (c++golDL (l.take (k+1)) c.length slot) e) (by show φ.length≤_; omega) rfl (cdO_trim (Nat.le_refl _) _ _ _ _ _) ?_
  exact R_next (k+1) hk1 (by omega) ⟨.refl _,.refl _,.refl _,Ent.wrap (by omega) (by omega) (by omega),trivial⟩ rfl
 refine R_if rfl rfl (fun h=>absurd h (by simp [k4])) (fun _=>?_) <;> refine R_run hg.ok 1000 rfl rfl ?_
 have k5:g.k=5:=by omega
 refine R_if rfl rfl (fun _=>?_) (fun h=>absurd h (by simp [k5])) <;> refine R_run hg.ok 1000 rfl rfl ?_
 obtain ⟨b0,c0⟩:=hfg.2.2.1 k5
 have hgd:golD g c1.length v1=notCode c1.length v1 (golDL g.a (c1.length+2) (v1+1)):=by rw [golD_eq,if_neg (by omega),if_neg k3,if_pos k5]
 have hgt2:testsG g=testsGL g.a+1:=by rw [testsG_eq,if_pos (by omega),b0,c0]; simp [testsGL]
 obtain ⟨A,hAe⟩:∃ A,A=golDL g.a (c1.length+2) (v1+1):=⟨_,rfl⟩
 rw [← hAe] at hA hgd
 obtain ⟨c2,hc2⟩:∃ c2,c2=c1++[(⟨13,v1,0,e0⟩:Is),⟨14,0,0,e0⟩]:=⟨_,rfl⟩
 have l2:c2.length=c1.length+2:=by rw [hc2]; simp
 have pA:=sa met (v1+1) at_ c2 e hfg.2.2.2.1 (by omega) (by omega) (by omega)
 rw [l2,← hAe] at pA
 obtain ⟨c3,hc3⟩:∃ c3,c3=c2++A++[(⟨15,v1,0,e0⟩:Is)]++[(⟨17,0,0,e0⟩:Is)]:=⟨_,rfl⟩
 have l3:c3.length=c1.length+2+A.length+2:=by rw [hc3]; simp [l2]; omega
 have x4:c3[c1.length+1]? = some ⟨14,0,0,e0⟩:=by rw [hc3,hc2]; simp [List.append_assoc]
 have hfin:c3.set (c1.length+1) ⟨14,0,c3.length,e0⟩=c++golDL (l.take (k+1)) c.length slot:=by
  rw [hq3,hgd,← not_steps c1 A v1 c3.length c1.length rfl (by rw [l3]),hc3,hc2]
 refine R_callSO hg.ok hg.gup hg.wide hg.Y [0,1,2,3,4] (cdO met (v1+1) at_ c2 e++[gbx g]) ((hc2 ▸ cdBegin_ok Y met v1 at_ c1 e hvb (by omega) (by omega))) (fun _=>rfl) rfl rfl rfl rfl rfl (by rw [cdO_ren _ rfl rfl rfl rfl]; rfl) rfl (by rw [cdO_ren _ rfl rfl rfl rfl]; rfl) ?_
 refine R_run hg.ok 1000 rfl rfl ?_
 refine R_callSO hg.ok hg.gup hg.wide hg.Y [0,1,2,3,4] (cdO met (v1+1+testsGL g.a) at_ (c2++A) e++[gbx g]) (pA) (fun _=>rfl) rfl rfl rfl rfl rfl (by rw [cdO_ren _ rfl rfl rfl rfl]; rfl) rfl (by rw [cdO_ren _ rfl rfl rfl rfl]; rfl) ?_
 refine R_run hg.ok 1000 rfl rfl ?_
 refine R_callSO hg.ok hg.gup hg.wide hg.Y [0,1,2,3,4] (cdO met (v1+1+testsGL g.a) at_ (c2++A++[(⟨15,v1,0,e0⟩:Is)]) e++[gbx g]) (cdAdd_ok Y met (v1+1+testsGL g.a) at_ (c2++A) e ⟨15,v1,0,e0⟩ (by rw [List.length_append]; omega)) (fun _=>rfl) rfl rfl rfl rfl rfl (by rw [cdO_ren _ rfl rfl rfl rfl]; rfl) rfl (by rw [cdO_ren _ rfl rfl rfl rfl]; rfl) ?_
 refine R_run hg.ok 1000 rfl rfl ?_
 have pE:=cdAdd_ok Y met (v1+1+testsGL g.a) at_ (c2++A++[(⟨15,v1,0,e0⟩:Is)]) e ⟨17,0,0,e0⟩ (by simp only [List.length_append,List.length_singleton]; omega)
 rw [← hc3] at pE
 refine R_callSO hg.ok hg.gup hg.wide hg.Y [0,1,2,3,4] (cdO met (v1+1+testsGL g.a) at_ c3 e++[gbx g]) (pE) (fun _=>rfl) rfl rfl rfl rfl rfl (by rw [cdO_ren _ rfl rfl rfl rfl]; rfl) rfl (by rw [cdO_ren _ rfl rfl rfl rfl]; rfl) ?_
 refine R_run hg.ok 1000 rfl rfl ?_
 have pG:=cdHere_ok Y met (v1+1+testsGL g.a) at_ c3 e _ _ x4 (by omega)
 rw [hfin] at pG
 refine R_callSO hg.ok hg.gup hg.wide hg.Y [0,1,2,3,4] (cdO met (v1+1+testsGL g.a) at_ (c++golDL (l.take (k+1)) c.length slot) e++[gbx g]) (pG) (fun _=>rfl) rfl rfl rfl rfl rfl (by rw [cdO_ren _ rfl rfl rfl rfl]; rfl) rfl (by rw [cdO_ren _ rfl rfl rfl rfl]; rfl) ?_
 refine R_run hg.ok 1000 rfl rfl ?_
 rw [show v1+1+testsGL g.a=slot+testsGL (l.take (k+1)) by omega]
 refine R_dropO 5 (cdO met (slot+testsGL (l.take (k+1))) at_ (c++golDL (l.take (k+1)) c.length slot) e) (by show φ.length≤_; omega) rfl (cdO_trim (Nat.le_refl _) _ _ _ _ _) ?_
 exact R_next (k+1) hk1 (by omega) ⟨.refl _,.refl _,.refl _,Ent.wrap (by omega) (by omega) (by omega),trivial⟩ rfl
end Go.Proofs.YtcgkgofmldhokaaGreat

namespace PSL
open Go

mutual
def calls1:Gl→List Tm
 | .mk k t a b c=>(if k=1 then [t] else [])++callsT a++callsT b++callsT c
def callsT:List Gl→List Tm
 | []=>[]
 | g::r=>calls1 g++callsT r
end
def callsS (l:List Gl):List Sg:=(callsT l).map sgOf

inductive Rch (l:List Cs) (roots:List Sg):Sg→Prop
 | root {p:Sg}:p∈roots→Rch l roots p
 | step {c:Cs} {p:Sg}:c∈l→Rch l roots (sgOf c.head)→p∈callsS c.body→Rch l roots p
end PSL

namespace PSL
open Go
def tt (ks:List Sg):List (Sg × Bool):=ks.map fun p=>(p,true)
end PSL

namespace PSL
open Go

theorem firstN_none {α:Type} (p:α→Bool):∀ (l:List α) (i:Nat),firstN p l i=none↔∀ x∈l,p x=true
 | [],_=>by simp [firstN]
 | x::r,i=>by
  simp only [firstN]
  split
  ·rename_i h
   rw [firstN_none p r (i+1)]; simp [h]
  ·rename_i h
   simp [h]

theorem checkR_ok (l:List Cs):(checkR l).2=0↔l.length≤200∧(∀ c∈l,clsB c=true)∧∀ c∈l,thereL (hasH l) c.body=true:=by
 unfold checkR
 split
 ·rename_i h
  constructor
  ·intro h2; cases h2
  ·intro h2; omega
 ·rename_i h
  have h:l.length≤200:=by omega
  cases h1:firstN clsB l 0 with
  | some i =>
   simp only
   constructor
   ·intro h2; cases h2
   ·rintro ⟨_,h2,_⟩
    rw [(firstN_none clsB l 0).2 h2] at h1; cases h1
  | none =>
   have h1:=(firstN_none clsB l 0).1 h1
   simp only
   cases h2:firstN (fun c=>thereL (hasH l) c.body) l 0 with
   | some i =>
    simp only
    constructor
    ·intro h2; cases h2
    ·rintro ⟨_,_,h3⟩
     rw [(firstN_none (fun c=>thereL (hasH l) c.body) l 0).2 h3] at h2; cases h2
   | none =>
    have h2:=(firstN_none (fun c=>thereL (hasH l) c.body) l 0).1 h2
    simp only [true_iff]
    exact ⟨h,h1,h2⟩
end PSL

namespace PSL
open Go
section
variable {g:G} {pf:Nat→Cls} {ops:Array Oper} {Fin:Exit→Act→World→Prop}
end
end PSL
namespace PSL
open Go
theorem Cs.rows_snoc (out:List Cs) (x:Cs):Cs.rows out++[x.row]=Cs.rows (out++[x]):=by simp [Cs.rows]
end PSL
namespace PSL
open Go
end PSL
namespace PSL
open Go
end PSL

namespace PSL
open Go

theorem Cs.sizeL_sub {l m:List Cs} (h:l.Sublist m):Cs.sizeL l≤Cs.sizeL m:=by
 induction h with
 | slnil=>exact Nat.le_refl _
 | cons a _ ih=>simp only [Cs.sizeL]; omega
 | cons_cons a _ ih=>simp only [Cs.sizeL]; omega

theorem Cs.size_mem {l:List Cs} {c:Cs} (h:c∈l):Cs.size c≤Cs.sizeL l:=by
 have:=Cs.sizeL_sub (List.singleton_sublist.2 h)
 simp only [Cs.sizeL] at this; omega

structure Med (l:List Cs):Prop where
 sm:∀ c∈l,SmC c
 len:l.length≤210
 size:Cs.sizeL l≤3000

theorem Med.sub {l m:List Cs} (h:Med m) (hs:l.Sublist m):Med l :=
 ⟨fun c hc=>h.sm c (hs.subset hc),by have:=hs.length_le; have:=h.len; omega,by have:=Cs.sizeL_sub hs; have:=h.size; omega⟩

theorem Med.body {l:List Cs} (h:Med l):∀ c∈l,Gl.sizeL c.body≤500000:=fun c hc=>by
 have h1:=Cs.size_mem hc
 have h2:=h.size
 unfold Cs.size at h1; omega

theorem Med.head {l:List Cs} (h:Med l):∀ c∈l,c.head.l.length≤1000000:=fun c hc=>by
 have h1:=(h.sm c hc).head.1
 have h2:=Tm.size_eq c.head
 have h3:=Tm.len_le_sizeL c.head.l
 omega
end PSL
namespace PSL
open Go
end PSL
namespace PSL
open Go
end PSL
namespace PSL
open Go
end PSL
namespace PSL
open Go
end PSL
namespace PSL
open Go
end PSL

namespace Go.Proofs.YtcgkgofmldhokaaGreat
open Go PSL Go.Proofs
def kyA (k:Ky):AV:=.agg [.d (.v (.int .i64 k.kind)),.d (.v (.int .i64 k.n)),.d (.v (.string k.s))]

set_option maxRecDepth 100000 in
theorem key_ok (t:Tm):PCtr Tryz.prog 37 [t.av] (kyA (keyG t.l)):=by
 refine PCtr.of_R (pf:=fun _=>.eff) tyOk mixed Tryz.func37 rfl (by kernel_rfl) (by kernel_rfl) (by simp [Tryz.ntmps37]) fun w S hg=>?_
 refine R_run hg.ok 1000 rfl rfl ?_
 cases hl:t.l with
 | nil =>
  refine R_if rfl rfl (fun _=>?_) (fun h=>absurd h (by simp [hl,Tm.rows])) <;> refine R_run hg.ok 1000 rfl rfl ?_
  refine R_ret hg 5 rfl rfl ?_
  rfl
 | cons x r =>
  refine R_if rfl rfl (fun h=>absurd h (by simp [hl,Tm.rows]; omega)) (fun _=>?_) <;> refine R_run hg.ok 1000 rfl rfl ?_
  refine R_index hg.ok rfl rfl rfl rfl rfl rfl (Int.natCast_nonneg _) ((Tm.rows_get (i:=0) (x:=x) (by rfl))) rfl ?_
  refine R_run hg.ok 1000 rfl rfl ?_
  show _
  unfold keyG keyT
  by_cases h2:x.k=2
  ·refine R_if rfl rfl (fun _=>?_) (fun h=>absurd h (by simp [h2])) <;> refine R_run hg.ok 1000 rfl rfl ?_
   refine R_ret hg 5 rfl rfl ?_
   simp only [if_pos h2]; rfl
  refine R_if rfl rfl (fun h=>absurd h (by simp [h2])) (fun _=>?_) <;> refine R_run hg.ok 1000 rfl rfl ?_
  by_cases h3:x.k=3
  ·refine R_if rfl rfl (fun _=>?_) (fun h=>absurd h (by simp [h3])) <;> refine R_run hg.ok 1000 rfl rfl ?_
   refine R_ret hg 5 rfl rfl ?_
   simp only [if_neg h2,if_pos h3]
   rw [Tm.rows_length]; rfl
  refine R_if rfl rfl (fun h=>absurd h (by simp [h3])) (fun _=>?_) <;> refine R_run hg.ok 1000 rfl rfl ?_
  refine R_ret hg 5 rfl rfl ?_
  simp only [if_neg h2,if_neg h3]; rfl
end Go.Proofs.YtcgkgofmldhokaaGreat

namespace Go.Proofs.YtcgkgofmldhokaaGreat
open Go PSL Go.Proofs

theorem contains_cons' {l:List Int} {x n:Int}:(x::l).contains n=(decide (x=n) || l.contains n):=by
 simp only [List.contains_cons]; congr 1; rw [Bool.eq_iff_iff]; simp; exact eq_comm

set_option maxRecDepth 100000 in
theorem with_ok (t:Tm):∀ (l:List Int),l.length+t.size<1000000000→PCtr Tryz.prog 75 [.d (.sl (irows l)),t.av] (.d (.sl (irows (Tm.withV l t)))):=by
 induction t using Tm.ind with
 | _ t ih =>
 intro l hsz
 have hl:=Tm.len_le_sizeL t.l
 have hs:=Tm.size_eq t
 refine PCtr.of_R (pf:=pfB) tyOk mixed Tryz.func75 rfl (by kernel_rfl) (by kernel_rfl) (by simp [Tryz.ntmps75]) fun w S hg=>?_
 refine R_run hg.ok 1000 rfl rfl ?_
 refine R_if rfl rfl (fun h=>?_) (fun h=>?_) <;> refine R_run hg.ok 1000 rfl rfl ?_
 ·have hk:t.k=1:=by simpa using h
  refine R_loop (fun k:Nat=>([(0,.d (.sl (irows l))),(3,.lo 0 0),(5,iV k)],[boxR t])) (fun k=>k≤l.length∧l.contains t.n=(l.drop k).contains t.n) (fun k=>l.length - k) 0 ⟨Nat.zero_le _,rfl⟩ ⟨.refl _,.refl _,.refl _,trivial⟩ rfl ?_
  rintro k ⟨hk0,hm⟩
  refine R_run hg.ok 1000 rfl rfl ?_
  refine R_if rfl rfl (fun h=>?_) (fun h=>?_) <;> refine R_run hg.ok 1000 rfl rfl ?_
  ·have hk1:k<l.length:=lt_dec h (by rw [irows_length])
   have e1:l[k]? = some l[k]:=List.getElem?_eq_getElem hk1
   rw [List.drop_eq_getElem_cons hk1,contains_cons'] at hm
   refine R_index hg.ok rfl rfl rfl rfl rfl rfl (Int.natCast_nonneg k) (irows_get e1) rfl ?_
   refine R_run hg.ok 1000 rfl rfl ?_
   refine R_if rfl rfl (fun h=>?_) (fun h=>?_) <;> refine R_run hg.ok 1000 rfl rfl ?_
   ·refine R_ret hg 5 rfl rfl ?_
    have he:l[k]=t.n:=by simpa using h
    rw [Tm.withV_eq,if_pos hk,addV,if_pos (by rw [hm]; simp [he])]
   ·have he:¬ l[k]=t.n:=by simpa using h
    refine R_next (k+1) ⟨hk1,by rw [hm]; simp [he]⟩ (by omega) ⟨.refl _,.refl _,Ent.wrap (by omega) (by omega) (by omega),trivial⟩ rfl
  ·have hk1:l.length≤k:=ge_dec h (by rw [irows_length])
   rw [List.drop_eq_nil_of_le hk1] at hm
   refine R_appendF hg.ok (rows:=[]) rfl rfl (.inl rfl) rfl (.inl rfl) rfl rfl rfl (by simp) (by simp [irows]; intros; subst_vars; rfl) (by simp [irows_length]; omega) (by simp [irows_length]; omega) ?_
   refine R_run hg.ok 1000 rfl rfl ?_
   refine R_appendO hg.ok (irows (l++[t.n])) rfl rfl rfl rfl rfl rfl rfl rfl rfl (by simp) (by simp [one1]) (by simp [irows,irow]) (by simp [irows_length]; omega) (by simp [irows_length]; omega) ?_
   refine R_run hg.ok 1000 rfl rfl ?_
   refine R_ret hg 5 rfl (sealA_ow rfl) ?_
   rw [Tm.withV_eq,if_pos hk,addV,if_neg (by rw [hm]; simp)]
 ·have hk:¬ t.k=1:=by simpa using h
  refine R_loop (fun x:Nat × List Int=>([(0,.d (.sl (irows x.2))),(3,.lo 0 0),(6,iV x.1)],[boxR t])) (fun x=>x.1≤t.l.length∧Tm.withV l t=Tm.withVL x.2 (t.l.drop x.1)∧x.2.length+Tm.sizeL (t.l.drop x.1)≤l.length+Tm.sizeL t.l) (fun x=>t.l.length - x.1) (0,l) ⟨Nat.zero_le _,by rw [Tm.withV_eq,if_neg hk]; rfl,Nat.le_refl _⟩ ⟨.refl _,.refl _,.refl _,trivial⟩ rfl ?_
  rintro ⟨k,a⟩ ⟨hk0,hm,hal⟩
  simp only at hk0 hm hal
  refine R_run hg.ok 1000 rfl rfl ?_
  refine R_if rfl rfl (fun h=>?_) (fun h=>?_) <;> refine R_run hg.ok 1000 rfl rfl ?_
  ·have hk1:k<t.l.length:=lt_dec h (by rw [Tm.rows_length])
   have e1:t.l[k]? = some t.l[k]:=List.getElem?_eq_getElem hk1
   rw [List.drop_eq_getElem_cons hk1] at hm hal
   simp only [Tm.withVL] at hm
   simp only [Tm.sizeL] at hal
   refine R_index hg.ok rfl rfl rfl rfl rfl rfl (Int.natCast_nonneg k) (Tm.rows_get e1) rfl ?_
   refine R_run hg.ok 1000 rfl rfl ?_
   refine R_call hg.ok (ih _ (List.getElem_mem hk1) a (by omega)) rfl rfl rfl rfl rfl rfl ?_
   refine R_run hg.ok 1000 rfl rfl ?_
   have hwl:=Tm.withV_len t.l[k] a
   exact R_next (k+1,Tm.withV a t.l[k]) ⟨hk1,hm,by simp only; omega⟩ (by simp only; omega) ⟨.refl _,.refl _,Ent.wrap (by simp only; omega) (by simp only; omega) (by simp only; omega),trivial⟩ rfl
  ·have hk1:t.l.length≤k:=ge_dec h (by rw [Tm.rows_length])
   refine R_ret hg 5 rfl rfl ?_
   rw [hm,List.drop_eq_nil_of_le hk1]; rfl

set_option maxRecDepth 100000 in
theorem refVars_ok (l:List Tm) (hsz:Tm.sizeL l<1000000000):PCtr Tryz.prog 39 [.d (.sl (Tm.rows l))] (.d (.sl (irows (Tm.withVL [] l)))):=by
 have hl:=Tm.len_le_sizeL l
 refine PCtr.of_R (pf:=pfB) tyOk mixed Tryz.func39 rfl (by kernel_rfl) (by kernel_rfl) (by simp [Tryz.ntmps39]) fun w S hg=>?_
 refine R_run hg.ok 1000 rfl rfl ?_
 refine R_loop (fun x:Nat × List Int=>([(0,.d (.sl (Tm.rows l))),(3,.d (.sl (irows x.2))),(4,iV x.1)],[])) (fun x=>x.1≤l.length∧Tm.withVL [] l=Tm.withVL x.2 (l.drop x.1)∧x.2.length+Tm.sizeL (l.drop x.1)≤Tm.sizeL l) (fun x=>l.length - x.1) (0,[]) ⟨Nat.zero_le _,rfl,by simp⟩ ⟨.refl _,.nil,.refl _,trivial⟩ rfl ?_
 rintro ⟨k,a⟩ ⟨hk0,hm,hal⟩
 simp only at hk0 hm hal
 refine R_run hg.ok 1000 rfl rfl ?_
 refine R_if rfl rfl (fun h=>?_) (fun h=>?_) <;> refine R_run hg.ok 1000 rfl rfl ?_
 ·have hk1:k<l.length:=lt_dec h (by rw [Tm.rows_length])
  have e1:l[k]? = some l[k]:=List.getElem?_eq_getElem hk1
  rw [List.drop_eq_getElem_cons hk1] at hm hal
  simp only [Tm.withVL] at hm
  simp only [Tm.sizeL] at hal
  refine R_index hg.ok rfl rfl rfl rfl rfl rfl (Int.natCast_nonneg k) (Tm.rows_get e1) rfl ?_
  refine R_run hg.ok 1000 rfl rfl ?_
  refine R_call hg.ok (with_ok l[k] a (by omega)) rfl rfl rfl rfl rfl rfl ?_
  refine R_run hg.ok 1000 rfl rfl ?_
  have hwl:=Tm.withV_len l[k] a
  exact R_next (k+1,Tm.withV a l[k]) ⟨hk1,hm,by simp only; omega⟩ (by simp only; omega) ⟨.refl _,.refl _,Ent.wrap (by simp only; omega) (by simp only; omega) (by simp only; omega),trivial⟩ rfl
 ·have hk1:l.length≤k:=ge_dec h (by rw [Tm.rows_length])
  refine R_ret hg 5 rfl rfl ?_
  rw [hm,List.drop_eq_nil_of_le hk1]; rfl
end Go.Proofs.YtcgkgofmldhokaaGreat

namespace Go.Proofs.YtcgkgofmldhokaaGreat
open Go PSL Go.Proofs

set_option maxHeartbeats 4000000 in
set_option maxRecDepth 100000 in
theorem refBuiltin_ok (s:ByteArray) (n:Int):PCtr Tryz.prog 106 [.d (.v (.string s)),.d (.v (.int .i64 n))] (bV (bltB (s,n))):=by
 rw [bltX_eq]
 unfold bltX
 refine PCtr.of_R (pf:=fun _=>.still) tyOk mixed Tryz.func106 rfl (by kernel_rfl) (by kernel_rfl) (by simp [Tryz.ntmps106]) fun w S hg=>?_
 refine R_run hg.ok 1000 rfl rfl ?_
 repeat' (refine R_if rfl rfl (fun _=>?_) (fun _=>?_) <;> refine R_run hg.ok 1000 rfl rfl ?_)
 all_goals (
  refine R_ret hg 5 rfl rfl ?_
  simp_all [bV])

set_option maxHeartbeats 4000000 in
set_option maxRecDepth 100000 in
theorem refControl_ok (s:ByteArray) (n:Int):PCtr Tryz.prog 107 [.d (.v (.string s)),.d (.v (.int .i64 n))] (bV (ctlB (s,n))):=by
 rw [ctlX_eq]
 unfold ctlX
 refine PCtr.of_R (pf:=fun _=>.still) tyOk mixed Tryz.func107 rfl (by kernel_rfl) (by kernel_rfl) (by simp [Tryz.ntmps107]) fun w S hg=>?_
 refine R_run hg.ok 1000 rfl rfl ?_
 repeat' (refine R_if rfl rfl (fun _=>?_) (fun _=>?_) <;> refine R_run hg.ok 1000 rfl rfl ?_)
 all_goals (
  refine R_ret hg 5 rfl rfl ?_
  simp_all [bV])
end Go.Proofs.YtcgkgofmldhokaaGreat

namespace Go.Proofs.YtcgkgofmldhokaaGreat
open Go PSL Go.Proofs

theorem refBuiltinT_ok (t:Tm):PCtr Tryz.prog 106 [.d (.v (.string t.s)),.d (.v (.int .i64 ((Tm.rows t.l).length:Int)))] (bV (bltB (sgOf t))):=by
 rw [Tm.rows_length]; exact refBuiltin_ok t.s t.l.length

theorem refControlT_ok (t:Tm):PCtr Tryz.prog 107 [.d (.v (.string t.s)),.d (.v (.int .i64 ((Tm.rows t.l).length:Int)))] (bV (ctlB (sgOf t))):=by
 rw [Tm.rows_length]; exact refControl_ok t.s t.l.length

set_option maxRecDepth 100000 in
theorem refOwn_ok (t:Tm):PCtr Tryz.prog 78 [t.av] (bV (ownB t)):=by
 refine PCtr.of_R (pf:=fun _=>.eff) tyOk mixed Tryz.func78 rfl (by kernel_rfl) (by kernel_rfl) (by simp [Tryz.ntmps78]) fun w S hg=>?_
 refine R_run hg.ok 1000 rfl rfl ?_
 refine R_if rfl rfl (fun h=>?_) (fun h=>?_) <;> refine R_run hg.ok 1000 rfl rfl ?_
 ·refine R_call hg.ok (refBuiltinT_ok t) rfl rfl rfl rfl rfl rfl ?_
  refine R_run hg.ok 1000 rfl rfl ?_
  refine R_if rfl rfl (fun h2=>?_) (fun h2=>?_) <;> refine R_run hg.ok 1000 rfl rfl ?_
  ·refine R_call hg.ok (refControlT_ok t) rfl rfl rfl rfl rfl rfl ?_
   refine R_run hg.ok 1000 rfl rfl ?_
   refine R_ret hg 5 rfl rfl ?_
   unfold ownB
   rw [h,h2]; rfl
  ·refine R_ret hg 5 rfl rfl ?_
   unfold ownB
   rw [h,h2]; rfl
 ·refine R_ret hg 5 rfl rfl ?_
  unfold ownB
  rw [h]; rfl

set_option maxRecDepth 100000 in
theorem refVarsB_ok (t:Tm) (v:Int) (ht:SmT t):PCtr Tryz.prog 77 [t.av,iV v] (bV (varsB v t)):=by
 have hs:=ht.1
 have hv:=(refVars_ok [t] (by simp [Tm.sizeL]; omega)).one
 have hr:=refRight_ok t (by omega) ht.2
 have hlen:(Tm.withVL [] [t]).length≤t.size:=by have:=Tm.withVL_len [t] []; simpa [Tm.sizeL] using this
 have hw:varsB v t=((Tm.withVL [] [t]).all (fun x=>decide (x<v))&&t.rightB):=by
  unfold varsB
  cases h:t.rightB with
  | false=>simp
  | true=>rw [varsT_with [t] (Tm.fairL_plain _ (fairL_of (by simpa using h)))]
 rw [hw]
 generalize Tm.withVL [] [t]=V at *
 refine PCtr.of_R (pf:=fun _=>.eff) tyOk mixed Tryz.func77 rfl (by kernel_rfl) (by kernel_rfl) (by simp [Tryz.ntmps77]) fun w S hg=>?_
 refine R_run hg.ok 1000 rfl rfl ?_
 refine R_call hg.ok (hv) rfl rfl rfl rfl rfl rfl ?_
 refine R_run hg.ok 1000 rfl rfl ?_
 refine R_loop (fun k:Nat=>([(1,iV v),(2,.lo 0 0),(5,.d (.sl (irows V))),(6,iV k)],[boxR t])) (fun k=>k≤V.length∧V.all (fun x=>decide (x<v))=(V.drop k).all fun x=>decide (x<v)) (fun k=>V.length - k) 0 ⟨Nat.zero_le _,rfl⟩ ⟨.refl _,.refl _,.refl _,.refl _,trivial⟩ rfl ?_
 rintro k ⟨hk,hm⟩
 refine R_run hg.ok 1000 rfl rfl ?_
 refine R_if rfl rfl (fun h=>?_) (fun h=>?_) <;> refine R_run hg.ok 1000 rfl rfl ?_
 ·have hk1:k<V.length:=lt_dec h (by rw [irows_length])
  have e1:V[k]? = some V[k]:=List.getElem?_eq_getElem hk1
  rw [List.drop_eq_getElem_cons hk1,List.all_cons] at hm
  generalize V[k]=x at e1 hm
  refine R_index hg.ok rfl rfl rfl rfl rfl rfl (Int.natCast_nonneg _) (irows_get e1) rfl ?_
  refine R_run hg.ok 1000 rfl rfl ?_
  refine R_if rfl rfl (fun h=>?_) (fun h=>?_) <;> refine R_run hg.ok 1000 rfl rfl ?_
  ·refine R_ret hg 5 rfl rfl ?_
   rw [hm,show decide (x<v)=false by simpa using h]; rfl
  ·exact R_next (k+1) ⟨hk1,by rw [hm,show decide (x<v)=true by simpa using h,Bool.true_and]⟩ (by omega) ⟨.refl _,.refl _,.refl _,Ent.wrap (by omega) (by omega) (by omega),trivial⟩ rfl
 ·have hk1:V.length≤k:=ge_dec h (by rw [irows_length])
  refine R_call hg.ok (hr) rfl rfl rfl rfl rfl rfl ?_
  refine R_run hg.ok 1000 rfl rfl ?_
  refine R_ret hg 5 rfl rfl ?_
  rw [hm,List.drop_eq_nil_of_le hk1]; rfl

theorem noneL_eq (a b c:List Gl):noneG a b c=(decide (a.length=0)&&decide (b.length=0)&&decide (c.length=0)):=by
 unfold noneG
 rw [Bool.eq_iff_iff]
 simp only [decide_eq_true_eq,Bool.and_eq_true]
 omega

set_option maxHeartbeats 4000000 in
set_option maxRecDepth 100000 in
theorem refFair_ok (g:Gl) (v:Int) (ht:SmT g.t):PCtr Tryz.prog 105 [g.av,iV v] (bV (fairB v g)):=by
 have hs:=refSame_ok g.t zeroT (by have:=ht.1; omega)
 rw [noth_zero] at hs
 have hf:fairB v g=if g.k=1 then noneG g.a g.b g.c&&ownB g.t&&varsB v g.t
  else if g.k=2 then noneG g.a g.b g.c&&(g.t.k==3)&&bltB (sgOf g.t)&&varsB v g.t
  else if g.k=3 then noneG g.a g.b g.c&&nothB g.t
  else nothB g.t&&((g.k==4) || (g.k==5)&&decide (g.b.length+g.c.length=0)):=by cases g; rw [fairB]; rfl
 rw [hf]
 refine PCtr.of_R (pf:=fun _=>.eff) tyOk mixed Tryz.func105 rfl (by kernel_rfl) (by kernel_rfl) (by simp [Tryz.ntmps105]) fun w S hg=>?_
 refine R_run hg.ok 1000 rfl rfl ?_
 refine R_call hg.ok (hs) rfl rfl rfl rfl rfl rfl ?_
 refine R_run hg.ok 1000 rfl rfl ?_
 have z:∀ l:List Gl,(((Gl.rows l).length:Int)==0)=decide (l.length=0):=fun l=>by
  rw [Gl.rows_length,Bool.eq_iff_iff]; simp
 refine R_cut1 (fun _:Unit=>([(1,iV v),(2,.lo 0 0),(5,bV (nothB g.t)),(6,bV (noneG g.a g.b g.c))],[glBox g])) (fun _=>True) rfl ?_ ?_
 ·rw [noneL_eq,z]
  cases ha:decide (g.a.length=0) with
  | false =>
   refine R_if rfl rfl (fun h=>absurd h (by simp)) (fun _=>?_) <;> refine R_run hg.ok 1000 rfl rfl ?_
   exact R_to () trivial ⟨.refl _,.refl _,.refl _,(by first | exact .refl _ | exact .ff),trivial⟩ rfl
  | true =>
   refine R_if rfl rfl (fun _=>?_) (fun h=>absurd h (by simp)) <;> refine R_run hg.ok 1000 rfl rfl ?_
   rw [z]
   cases hb:decide (g.b.length=0) with
   | false =>
    refine R_if rfl rfl (fun h=>absurd h (by simp)) (fun _=>?_) <;> refine R_run hg.ok 1000 rfl rfl ?_
    exact R_to () trivial ⟨.refl _,.refl _,.refl _,(by first | exact .refl _ | exact .ff),trivial⟩ rfl
   | true =>
    refine R_if rfl rfl (fun _=>?_) (fun h=>absurd h (by simp)) <;> refine R_run hg.ok 1000 rfl rfl ?_
    rw [z]
    exact R_to () trivial ⟨.refl _,.refl _,.refl _,(by first | exact .refl _ | exact .ff),trivial⟩ rfl
 rintro _ _
 refine R_run hg.ok 1000 rfl rfl ?_
 by_cases c1:g.k=1
 ·rw [if_pos c1]
  refine R_if rfl rfl (fun _=>?_) (fun h=>absurd h (by simp [c1])) <;> refine R_run hg.ok 1000 rfl rfl ?_
  refine R_if rfl rfl (fun n1=>?_) (fun n1=>?_) <;> refine R_run hg.ok 1000 rfl rfl ?_
  ·refine R_call hg.ok (refOwn_ok g.t) rfl rfl rfl rfl rfl rfl ?_
   refine R_run hg.ok 1000 rfl rfl ?_
   refine R_if rfl rfl (fun n2=>?_) (fun n2=>?_) <;> refine R_run hg.ok 1000 rfl rfl ?_
   ·refine R_call hg.ok (refVarsB_ok g.t v ht) rfl rfl rfl rfl rfl rfl ?_
    refine R_run hg.ok 1000 rfl rfl ?_
    refine R_ret hg 5 rfl rfl ?_
    rw [n1,n2]; rfl
   ·refine R_ret hg 5 rfl rfl ?_
    rw [n1,n2]; rfl
  ·refine R_ret hg 5 rfl rfl ?_
   rw [n1]; rfl
 rw [if_neg c1]
 refine R_if rfl rfl (fun h=>absurd h (by simp [c1])) (fun _=>?_) <;> refine R_run hg.ok 1000 rfl rfl ?_
 by_cases c2:g.k=2
 ·rw [if_pos c2]
  refine R_if rfl rfl (fun _=>?_) (fun h=>absurd h (by simp [c2])) <;> refine R_run hg.ok 1000 rfl rfl ?_
  refine R_if rfl rfl (fun n1=>?_) (fun n1=>?_) <;> refine R_run hg.ok 1000 rfl rfl ?_
  ·refine R_if rfl rfl (fun n2=>?_) (fun n2=>?_) <;> refine R_run hg.ok 1000 rfl rfl ?_
   ·refine R_call hg.ok (refBuiltinT_ok g.t) rfl rfl rfl rfl rfl rfl ?_
    refine R_run hg.ok 1000 rfl rfl ?_
    refine R_if rfl rfl (fun n3=>?_) (fun n3=>?_) <;> refine R_run hg.ok 1000 rfl rfl ?_
    ·refine R_call hg.ok (refVarsB_ok g.t v ht) rfl rfl rfl rfl rfl rfl ?_
     refine R_run hg.ok 1000 rfl rfl ?_
     refine R_ret hg 5 rfl rfl ?_
     rw [n1,n2,n3]; rfl
    ·refine R_ret hg 5 rfl rfl ?_
     rw [n1,n2,n3]; rfl
   ·refine R_ret hg 5 rfl rfl ?_
    rw [n1,n2]; rfl
  ·refine R_ret hg 5 rfl rfl ?_
   rw [n1]; rfl
 rw [if_neg c2]
 refine R_if rfl rfl (fun h=>absurd h (by simp [c2])) (fun _=>?_) <;> refine R_run hg.ok 1000 rfl rfl ?_
 by_cases c3:g.k=3
 ·rw [if_pos c3]
  refine R_if rfl rfl (fun _=>?_) (fun h=>absurd h (by simp [c3])) <;> refine R_run hg.ok 1000 rfl rfl ?_
  refine R_if rfl rfl (fun n1=>?_) (fun n1=>?_) <;> refine R_run hg.ok 1000 rfl rfl ?_
  ·refine R_ret hg 5 rfl rfl ?_
   rw [n1]; rfl
  ·refine R_ret hg 5 rfl rfl ?_
   rw [n1]; rfl
 rw [if_neg c3]
 refine R_if rfl rfl (fun h=>absurd h (by simp [c3])) (fun _=>?_) <;> refine R_run hg.ok 1000 rfl rfl ?_
 refine R_if rfl rfl (fun n1=>?_) (fun n1=>?_) <;> refine R_run hg.ok 1000 rfl rfl ?_
 rotate_left
 ·refine R_ret hg 5 rfl rfl ?_
  rw [n1]; rfl
 rw [n1]
 refine R_if rfl rfl (fun n2=>?_) (fun n2=>?_) <;> refine R_run hg.ok 1000 rfl rfl ?_
 ·refine R_ret hg 5 rfl rfl ?_
  rw [n2]; rfl
 rw [n2]
 refine R_if rfl rfl (fun n3=>?_) (fun n3=>?_) <;> refine R_run hg.ok 1000 rfl rfl ?_
 rotate_left
 ·refine R_ret hg 5 rfl rfl ?_
  rw [n3]; rfl
 rw [n3,z]
 cases hb:decide (g.b.length=0) with
 | false =>
  refine R_if rfl rfl (fun h=>absurd h (by simp)) (fun _=>?_) <;> refine R_run hg.ok 1000 rfl rfl ?_
  refine R_ret hg 5 rfl rfl ?_
  rw [decide_eq_false (show ¬ g.b.length+g.c.length=0 by have:=of_decide_eq_false hb; omega)]; rfl
 | true =>
  have hb:=of_decide_eq_true hb
  refine R_if rfl rfl (fun _=>?_) (fun h=>absurd h (by simp)) <;> refine R_run hg.ok 1000 rfl rfl ?_
  rw [z]
  refine R_ret hg 5 rfl rfl ?_
  rw [hb,Nat.zero_add]; rfl

set_option maxHeartbeats 4000000 in
set_option maxRecDepth 100000 in
theorem refCount_ok (v:Int) (l:List Gl):∀ (deep:Int) (cuts:Bool),allGL SmT l→Gl.sizeL l≤1000000→0≤deep→deep+Gl.sizeL l≤1000000000→PCtr Tryz.prog 76 [.d (.sl (Gl.rows l)),iV v,iV deep,bV cuts] (iV (cntL v l deep cuts)):=by
 refine Gl.indL (p:=fun l=>∀ (deep:Int) (cuts:Bool),allGL SmT l→Gl.sizeL l≤1000000→0≤deep→deep+Gl.sizeL l≤1000000000→PCtr Tryz.prog 76 [.d (.sl (Gl.rows l)),iV v,iV deep,bV cuts] (iV (cntL v l deep cuts))) (fun l hsub=>?_) l
 intro deep cuts hl hz h3 h4
 have hlen:=Gl.len_size l
 have hrl:=Gl.rows_length l
 refine PCtr.of_R (pf:=fun _=>.eff) tyOk mixed Tryz.func76 rfl (by kernel_rfl) (by kernel_rfl) (by simp [Tryz.ntmps76]) fun w S hg=>?_
 refine R_run hg.ok 1000 rfl rfl ?_
 by_cases hd:l.length≠0∧10<deep
 ·refine R_if rfl rfl (fun _=>?_) (fun h=>absurd (of_decide_eq_false h) (by omega)) <;> refine R_run hg.ok 1000 rfl rfl ?_
  refine R_if rfl rfl (fun _=>?_) (fun h=>absurd (of_decide_eq_false h) (by omega)) <;> refine R_run hg.ok 1000 rfl rfl ?_
  refine R_ret hg 5 rfl rfl ?_
  unfold cntL; rw [if_pos hd]; rfl
 have hcnt:cntL v l deep cuts=cntG v l deep cuts:=by unfold cntL; rw [if_neg hd]
 have hwd:IntKind.i64.wrap (deep+1)=deep+1:=w64 (by omega) (by omega)
 rw [hcnt]
 refine R_cut1 (fun _:Unit=>([(0,.d (.sl (Gl.rows l))),(1,iV v),(2,iV deep),(3,bV cuts),(9,iV 0),(21,bV false)],[])) (fun _=>True) rfl ?_ ?_
 ·by_cases h0:l.length=0
  ·refine R_if rfl rfl (fun h=>absurd (of_decide_eq_true h) (by omega)) (fun _=>?_) <;> refine R_run hg.ok 1000 rfl rfl ?_
   exact R_to () trivial ⟨.refl _,.refl _,.refl _,.refl _,.refl _,(by first | exact .refl _ | exact .ff),trivial⟩ rfl
  ·refine R_if rfl rfl (fun _=>?_) (fun h=>absurd (of_decide_eq_false h) (by omega)) <;> refine R_run hg.ok 1000 rfl rfl ?_
   rw [decide_eq_false (show ¬ deep > 10 by omega)]
   exact R_to () trivial ⟨.refl _,.refl _,.refl _,.refl _,.refl _,(by first | exact .refl _ | exact .ff),trivial⟩ rfl
 rintro _ _
 refine R_if rfl rfl (fun h=>absurd h (by simp)) (fun _=>?_) <;> refine R_run hg.ok 1000 rfl rfl ?_
 refine R_loop (fun x:Nat × Int=>([(0,.d (.sl (Gl.rows l))),(1,iV v),(2,iV deep),(3,bV cuts),(9,iV x.2),(10,iV x.1)],[])) (fun x=>x.1≤l.length∧cntG v l deep cuts=cmbG v (l.drop x.1) deep cuts x.2∧0≤x.2∧x.2+Gl.sizeL (l.drop x.1)≤Gl.sizeL l) (fun x=>l.length - x.1) (0,0) ⟨Nat.zero_le _,by
  show cntG v l deep cuts=cmbG v l deep cuts 0
  unfold cmbG
  have:=cnt_ge v l deep cuts
  rw [hcnt] at this
  split <;> omega,Int.le_refl _,by simp⟩ ⟨.refl _,.refl _,.refl _,.refl _,.refl _,.refl _,trivial⟩ rfl ?_
 rintro ⟨k,m⟩ ⟨hk,hm,hm0,hms⟩
 refine R_run hg.ok 1000 rfl rfl ?_
 refine R_if rfl rfl (fun h=>?_) (fun h=>?_) <;> refine R_run hg.ok 1000 rfl rfl ?_
 ·have hk1:k<l.length:=lt_dec h (by rw [hrl])
  have e1:l[k]? = some l[k]:=List.getElem?_eq_getElem hk1
  have hmem:=List.getElem_mem hk1
  rw [List.drop_eq_getElem_cons hk1] at hm hms
  generalize l[k]=g at e1 hm hms hmem
  have hsz:=Gl.size_mem hmem
  have hge:=Gl.size_eq g
  have htp:=Gl.tmPos g.t
  obtain ⟨sa,sb,sc⟩:=hsub g hmem
  obtain ⟨st,ma,mb,mc⟩:=allGL_mem hl g hmem
  rw [cmbG_cons,cnt1_eq] at hm
  simp only [Gl.sizeL] at hms
  have la:=cnt_le v g.a (deep+1) false
  have lb:=cnt_le v g.b (deep+1) cuts
  have lc:=cnt_le v g.c (deep+1) cuts
  have ga:=cnt_ge v g.a (deep+1) false
  have gb:=cnt_ge v g.b (deep+1) cuts
  have gc:=cnt_ge v g.c (deep+1) cuts
  have ca:=sa (deep+1) false ma (by omega) (by omega) (by omega)
  have cb:=sb (deep+1) cuts mb (by omega) (by omega) (by omega)
  have cc:=sc (deep+1) cuts mc (by omega) (by omega) (by omega)
  refine R_index hg.ok rfl rfl rfl rfl rfl rfl (Int.natCast_nonneg _) (Gl.rows_get e1) rfl ?_
  refine R_run hg.ok 1000 rfl rfl ?_
  have hF:=refFair_ok g v st
  cases hf:fairB v g with
  | false =>
   rw [hf] at hF hm
   refine R_call hg.ok (hF) rfl rfl rfl rfl rfl rfl ?_
   refine R_run hg.ok 1000 rfl rfl ?_
   refine R_if rfl rfl (fun _=>?_) (fun h=>absurd h (by simp)) <;> refine R_run hg.ok 1000 rfl rfl ?_
   refine R_ret hg 5 rfl rfl ?_
   rw [hm]; rfl
  | true =>
   rw [hf] at hF hm
   refine R_call hg.ok (hF) rfl rfl rfl rfl rfl rfl ?_
   refine R_run hg.ok 1000 rfl rfl ?_
   refine R_if rfl rfl (fun h=>absurd h (by simp)) (fun _=>?_) <;> refine R_run hg.ok 1000 rfl rfl ?_
   cases h3k:(g.k==3) with
   | false =>
    rw [h3k] at hm
    refine R_if rfl rfl (fun h=>absurd h (by simp [h3k])) (fun _=>?_) <;> refine R_run hg.ok 1000 rfl rfl ?_
    simp only [Bool.not_true,Bool.false_or,Bool.false_and,Bool.and_false,Bool.not_false,Bool.and_self,Bool.false_eq_true,if_false] at hm
    rw [hwd]
    refine R_call hg.ok (ca) rfl rfl rfl rfl rfl rfl ?_
    refine R_run hg.ok 1000 rfl rfl ?_
    rw [hwd]
    refine R_call hg.ok (cb) rfl rfl rfl rfl rfl rfl ?_
    refine R_run hg.ok 1000 rfl rfl ?_
    rw [hwd]
    refine R_call hg.ok (cc) rfl rfl rfl rfl rfl rfl ?_
    refine R_run hg.ok 1000 rfl rfl ?_
    generalize cntL v g.a (deep+1) false=qa at *
    generalize cntL v g.b (deep+1) cuts=qb at *
    generalize cntL v g.c (deep+1) cuts=qc at *
    by_cases h1:qa<0
    ·rw [show (if qa<0∨qb<0∨qc<0 then (-1:Int) else 1+qa+qb+qc)=-1 from if_pos (.inl h1),if_pos (by decide)] at hm
     refine R_if rfl rfl (fun _=>?_) (fun h=>absurd (of_decide_eq_false h) (by omega)) <;> refine R_run hg.ok 1000 rfl rfl ?_
     refine R_ret hg 5 rfl rfl ?_
     rw [hm]; rfl
    refine R_if rfl rfl (fun h=>absurd (of_decide_eq_true h) (by omega)) (fun _=>?_) <;> refine R_run hg.ok 1000 rfl rfl ?_
    by_cases h2:qb<0
    ·rw [show (if qa<0∨qb<0∨qc<0 then (-1:Int) else 1+qa+qb+qc)=-1 from if_pos (.inr (.inl h2)),if_pos (by decide)] at hm
     refine R_if rfl rfl (fun _=>?_) (fun h=>absurd (of_decide_eq_false h) (by omega)) <;> refine R_run hg.ok 1000 rfl rfl ?_
     refine R_ret hg 5 rfl rfl ?_
     rw [hm]; rfl
    refine R_if rfl rfl (fun h=>absurd (of_decide_eq_true h) (by omega)) (fun _=>?_) <;> refine R_run hg.ok 1000 rfl rfl ?_
    by_cases h3:qc<0
    ·rw [show (if qa<0∨qb<0∨qc<0 then (-1:Int) else 1+qa+qb+qc)=-1 from if_pos (.inr (.inr h3)),if_pos (by decide)] at hm
     refine R_if rfl rfl (fun _=>?_) (fun h=>absurd (of_decide_eq_false h) (by omega)) <;> refine R_run hg.ok 1000 rfl rfl ?_
     refine R_ret hg 5 rfl rfl ?_
     rw [hm]; rfl
    refine R_if rfl rfl (fun h=>absurd (of_decide_eq_true h) (by omega)) (fun _=>?_) <;> refine R_run hg.ok 1000 rfl rfl ?_
    rw [show (if qa<0∨qb<0∨qc<0 then (-1:Int) else 1+qa+qb+qc)=1+qa+qb+qc from if_neg (by omega),if_neg (by omega),show m+(1+qa+qb+qc)=m+1+qa+qb+qc by omega] at hm
    rw [w64 (n:=m+1) (by omega) (by omega),w64 (n:=m+1+qa) (by omega) (by omega),w64 (n:=m+1+qa+qb) (by omega) (by omega),w64 (n:=m+1+qa+qb+qc) (by omega) (by omega)]
    refine R_dropO 0 [] (Nat.zero_le _) rfl rfl ?_
    exact R_next (k+1,m+1+qa+qb+qc) ⟨hk1,hm,by simp only; omega,by simp only; omega⟩ (by simp only; omega) ⟨.refl _,.refl _,.refl _,.refl _,.refl _,Ent.wrap (by simp only; omega) (by simp only; omega) (by simp only; omega),trivial⟩ rfl
   | true =>
    rw [h3k] at hm
    refine R_if rfl rfl (fun _=>?_) (fun h=>absurd h (by simp [h3k])) <;> refine R_run hg.ok 1000 rfl rfl ?_
    cases cuts with
    | false =>
     refine R_if rfl rfl (fun _=>?_) (fun h=>absurd h (by simp)) <;> refine R_run hg.ok 1000 rfl rfl ?_
     refine R_ret hg 5 rfl rfl ?_
     rw [hm]; rfl
    | true =>
     refine R_if rfl rfl (fun h=>absurd h (by simp)) (fun _=>?_) <;> refine R_run hg.ok 1000 rfl rfl ?_
     simp only [Bool.not_true,Bool.false_or,Bool.false_and,Bool.and_false,Bool.not_false,Bool.and_self,Bool.false_eq_true,if_false] at hm
     rw [hwd]
     refine R_call hg.ok (ca) rfl rfl rfl rfl rfl rfl ?_
     refine R_run hg.ok 1000 rfl rfl ?_
     rw [hwd]
     refine R_call hg.ok (cb) rfl rfl rfl rfl rfl rfl ?_
     refine R_run hg.ok 1000 rfl rfl ?_
     rw [hwd]
     refine R_call hg.ok (cc) rfl rfl rfl rfl rfl rfl ?_
     refine R_run hg.ok 1000 rfl rfl ?_
     generalize cntL v g.a (deep+1) false=qa at *
     generalize cntL v g.b (deep+1) true=qb at *
     generalize cntL v g.c (deep+1) true=qc at *
     by_cases h1:qa<0
     ·rw [show (if qa<0∨qb<0∨qc<0 then (-1:Int) else 1+qa+qb+qc)=-1 from if_pos (.inl h1),if_pos (by decide)] at hm
      refine R_if rfl rfl (fun _=>?_) (fun h=>absurd (of_decide_eq_false h) (by omega)) <;> refine R_run hg.ok 1000 rfl rfl ?_
      refine R_ret hg 5 rfl rfl ?_
      rw [hm]; rfl
     refine R_if rfl rfl (fun h=>absurd (of_decide_eq_true h) (by omega)) (fun _=>?_) <;> refine R_run hg.ok 1000 rfl rfl ?_
     by_cases h2:qb<0
     ·rw [show (if qa<0∨qb<0∨qc<0 then (-1:Int) else 1+qa+qb+qc)=-1 from if_pos (.inr (.inl h2)),if_pos (by decide)] at hm
      refine R_if rfl rfl (fun _=>?_) (fun h=>absurd (of_decide_eq_false h) (by omega)) <;> refine R_run hg.ok 1000 rfl rfl ?_
      refine R_ret hg 5 rfl rfl ?_
      rw [hm]; rfl
     refine R_if rfl rfl (fun h=>absurd (of_decide_eq_true h) (by omega)) (fun _=>?_) <;> refine R_run hg.ok 1000 rfl rfl ?_
     by_cases h3:qc<0
     ·rw [show (if qa<0∨qb<0∨qc<0 then (-1:Int) else 1+qa+qb+qc)=-1 from if_pos (.inr (.inr h3)),if_pos (by decide)] at hm
      refine R_if rfl rfl (fun _=>?_) (fun h=>absurd (of_decide_eq_false h) (by omega)) <;> refine R_run hg.ok 1000 rfl rfl ?_
      refine R_ret hg 5 rfl rfl ?_
      rw [hm]; rfl
     refine R_if rfl rfl (fun h=>absurd (of_decide_eq_true h) (by omega)) (fun _=>?_) <;> refine R_run hg.ok 1000 rfl rfl ?_
     rw [show (if qa<0∨qb<0∨qc<0 then (-1:Int) else 1+qa+qb+qc)=1+qa+qb+qc from if_neg (by omega),if_neg (by omega),show m+(1+qa+qb+qc)=m+1+qa+qb+qc by omega] at hm
     rw [w64 (n:=m+1) (by omega) (by omega),w64 (n:=m+1+qa) (by omega) (by omega),w64 (n:=m+1+qa+qb) (by omega) (by omega),w64 (n:=m+1+qa+qb+qc) (by omega) (by omega)]
     refine R_dropO 0 [] (Nat.zero_le _) rfl rfl ?_
     exact R_next (k+1,m+1+qa+qb+qc) ⟨hk1,hm,by simp only; omega,by simp only; omega⟩ (by simp only; omega) ⟨.refl _,.refl _,.refl _,.refl _,.refl _,Ent.wrap (by simp only; omega) (by simp only; omega) (by simp only; omega),trivial⟩ rfl
 ·have hk1:l.length≤k:=ge_dec h (by rw [hrl])
  refine R_ret hg 5 rfl rfl ?_
  have hm:cntG v l deep cuts=cmbG v (l.drop k) deep cuts m:=hm
  rw [List.drop_eq_nil_of_le hk1] at hm
  rw [hm,show cmbG v [] deep cuts m=m by simp [cmbG,cntG]]
  rfl

set_option maxRecDepth 100000 in
theorem refClause_ok (x:Cs) (hx:SmC x):PCtr Tryz.prog 40 [x.av] (bV (clsD x)):=by
 have hb:=hx.size
 have hc:=refCount_ok x.vars x.body 1 true hx.body (by omega) (by omega) (by omega)
 refine PCtr.of_R (pf:=fun _=>.eff) tyOk mixed Tryz.func40 rfl (by kernel_rfl) (by kernel_rfl) (by simp [Tryz.ntmps40]) fun w S hg=>?_
 refine R_run hg.ok 1000 rfl rfl ?_
 refine R_call hg.ok (hc) rfl rfl rfl rfl rfl rfl ?_
 refine R_run hg.ok 1000 rfl rfl ?_
 unfold clsD
 refine R_if rfl rfl (fun n1=>?_) (fun n1=>?_) <;> refine R_run hg.ok 1000 rfl rfl ?_
 rotate_left
 ·refine R_ret hg 5 rfl rfl ?_
  rw [show decide (0≤x.vars)=false from n1]; rfl
 rw [show decide (0≤x.vars)=true from n1]
 refine R_if rfl rfl (fun n2=>?_) (fun n2=>?_) <;> refine R_run hg.ok 1000 rfl rfl ?_
 rotate_left
 ·refine R_ret hg 5 rfl rfl ?_
  rw [show decide (x.vars≤1000)=false from n2]; rfl
 rw [show decide (x.vars≤1000)=true from n2]
 refine R_call hg.ok (refVarsB_ok x.head x.vars hx.head) rfl rfl rfl rfl rfl rfl ?_
 refine R_run hg.ok 1000 rfl rfl ?_
 refine R_if rfl rfl (fun n3=>?_) (fun n3=>?_) <;> refine R_run hg.ok 1000 rfl rfl ?_
 rotate_left
 ·refine R_ret hg 5 rfl rfl ?_
  rw [n3]; rfl
 rw [n3]
 refine R_call hg.ok (refOwn_ok x.head) rfl rfl rfl rfl rfl rfl ?_
 refine R_run hg.ok 1000 rfl rfl ?_
 refine R_if rfl rfl (fun n4=>?_) (fun n4=>?_) <;> refine R_run hg.ok 1000 rfl rfl ?_
 rotate_left
 ·refine R_ret hg 5 rfl rfl ?_
  rw [n4]; rfl
 rw [n4]
 refine R_if rfl rfl (fun n5=>?_) (fun n5=>?_) <;> refine R_run hg.ok 1000 rfl rfl ?_
 rotate_left
 ·refine R_ret hg 5 rfl rfl ?_
  rw [show decide (0≤cntL x.vars x.body 1 true)=false from n5]; rfl
 rw [show decide (0≤cntL x.vars x.body 1 true)=true from n5]
 refine R_ret hg 5 rfl rfl ?_
 rfl
end Go.Proofs.YtcgkgofmldhokaaGreat

namespace Go.Proofs.YtcgkgofmldhokaaGreat
open Go PSL Go.Proofs

theorem sgOf_dec (a b:Tm):decide (sgOf a=sgOf b)=(strEq a.s b.s&&(((Tm.rows a.l).length:Int)==((Tm.rows b.l).length:Int))):=by
 rw [Tm.rows_length,Tm.rows_length,Bool.eq_iff_iff]
 simp only [decide_eq_true_eq,sgOf,Prod.mk.injEq,Bool.and_eq_true,beq_iff_eq,Tm.strEq_iff]

theorem hasH_drop {l:List Cs} {k:Nat} {c:Cs} (p:Sg) (h:l[k]? = some c):hasH (l.drop k) p=(decide (sgOf c.head=p) || hasH (l.drop (k+1)) p):=by
 obtain ⟨hk,he⟩:=List.getElem?_eq_some_iff.1 h
 rw [List.drop_eq_getElem_cons hk,he]; rfl

theorem there1_or (has:Sg→Bool) (g:Gl):there1 has g=(((g.k != 1) || has (sgOf g.t))&&thereL has g.a&&thereL has g.b&&thereL has g.c):=by
 rw [there1_eq]
 have:(!((g.k==1) && !has (sgOf g.t)))=((g.k != 1) || has (sgOf g.t)):=by
  show _=(!(g.k==1) || has (sgOf g.t))
  cases (g.k==1) <;> cases has (sgOf g.t) <;> rfl
 rw [this]

set_option maxHeartbeats 4000000 in
set_option maxRecDepth 100000 in
theorem refThere_ok (p:List Cs) (hp:p.length≤1000000) (l:List Gl):Gl.sizeL l≤1000000→PCtr Tryz.prog 41 [.d (.sl (Gl.rows l)),prV p] (bV (thereL (hasH p) l)):=by
 refine Gl.indL (p:=fun l=>Gl.sizeL l≤1000000→PCtr Tryz.prog 41 [.d (.sl (Gl.rows l)),prV p] (bV (thereL (hasH p) l))) (fun l hsub=>?_) l
 intro hl
 have hlen:=Gl.len_size l
 have hrl:=Gl.rows_length l
 have hrp:=Cs.rows_len p
 refine PCtr.of_R (pf:=fun _=>.eff) tyOk mixed Tryz.func41 rfl (by kernel_rfl) (by kernel_rfl) (by simp [Tryz.ntmps41]) fun w S hg=>?_
 refine R_run hg.ok 1000 rfl rfl ?_
 refine R_loop (fun k:Nat=>([(0,.d (.sl (Gl.rows l))),(3,.lo 0 0),(5,iV k)],[.box [.d (.sl (Cs.rows p))]])) (fun k=>k≤l.length∧thereL (hasH p) l=thereL (hasH p) (l.drop k)) (fun k=>l.length - k) 0 ⟨Nat.zero_le _,rfl⟩ ⟨.refl _,.refl _,.refl _,trivial⟩ rfl ?_
 rintro i ⟨hi,hm⟩
 refine R_run hg.ok 1000 rfl rfl ?_
 refine R_if rfl rfl (fun h=>?_) (fun h=>?_) <;> refine R_run hg.ok 1000 rfl rfl ?_
 rotate_left
 ·have hk1:l.length≤i:=ge_dec h (by rw [hrl])
  refine R_ret hg 5 rfl rfl ?_
  rw [hm,List.drop_eq_nil_of_le hk1]; rfl
 have hk1:i<l.length:=lt_dec h (by rw [hrl])
 have e1:l[i]? = some l[i]:=List.getElem?_eq_getElem hk1
 have hmem:=List.getElem_mem hk1
 rw [List.drop_eq_getElem_cons hk1] at hm
 generalize l[i]=g at e1 hm hmem
 have hsz:=Gl.size_mem hmem
 have hge:=Gl.size_eq g
 obtain ⟨sa,sb,sc⟩:=hsub g hmem
 simp only [thereL,there1_or] at hm
 refine R_index hg.ok rfl rfl rfl rfl rfl rfl (Int.natCast_nonneg _) (Gl.rows_get e1) rfl ?_
 refine R_run hg.ok 1000 rfl rfl ?_
 refine R_cut2 (fun _:Unit=>([(0,.d (.sl (Gl.rows l))),(3,.lo 0 0),(5,iV i),(6,bV ((g.k != 1) || hasH p (sgOf g.t)))],[.box [.d (.sl (Cs.rows p))]])) (fun _=>True) rfl ?_ ?_
 ·refine R_loop (fun x:Nat × Bool=>([(0,.d (.sl (Gl.rows l))),(3,.lo 0 0),(5,iV i),(6,bV x.2),(7,iV x.1)],[.box [.d (.sl (Cs.rows p))]])) (fun x=>x.1≤p.length∧((g.k != 1) || hasH p (sgOf g.t))=(x.2 || hasH (p.drop x.1) (sgOf g.t))) (fun x=>p.length - x.1) (0,g.k != 1) ⟨Nat.zero_le _,rfl⟩ ⟨.refl _,.refl _,.refl _,.refl _,.refl _,trivial⟩ rfl ?_
  rintro ⟨k,f⟩ ⟨hk,hn⟩
  refine R_run hg.ok 1000 rfl rfl ?_
  refine R_if rfl rfl (fun h=>?_) (fun h=>?_) <;> refine R_run hg.ok 1000 rfl rfl ?_
  rotate_left
  ·have hk2:p.length≤k:=ge_dec h (by rw [hrp])
   have hn:((g.k != 1) || hasH p (sgOf g.t))=(f || hasH (p.drop k) (sgOf g.t)):=hn
   rw [List.drop_eq_nil_of_le hk2] at hn
   exact R_to () trivial ⟨.refl _,.refl _,.refl _,by rw [hn,show hasH [] (sgOf g.t)=false from rfl,Bool.or_false]; exact .refl _,trivial⟩ rfl
  have hk2:k<p.length:=lt_dec h (by rw [hrp])
  have e2:p[k]? = some p[k]:=List.getElem?_eq_getElem hk2
  generalize p[k]=c at e2
  have hn:((g.k != 1) || hasH p (sgOf g.t))=(f || hasH (p.drop k) (sgOf g.t)):=hn
  rw [hasH_drop _ e2,sgOf_dec] at hn
  refine R_index hg.ok rfl rfl rfl rfl rfl rfl (Int.natCast_nonneg _) (Cs.rows_get e2) rfl ?_
  refine R_run hg.ok 1000 rfl rfl ?_
  cases f with
  | true =>
   refine R_if rfl rfl (fun _=>?_) (fun h=>absurd h (by simp)) <;> refine R_run hg.ok 1000 rfl rfl ?_
   refine R_dropO 1 [.box [.d (.sl (Cs.rows p))]] (Nat.zero_le _) rfl rfl ?_
   exact R_next (k+1,true) ⟨hk2,hn⟩ (by simp only; omega) ⟨.refl _,.refl _,.refl _,(by first | exact .refl _ | exact .tt),Ent.wrap (by simp only; omega) (by simp only; omega) (by simp only; omega),trivial⟩ rfl
  | false =>
   refine R_if rfl rfl (fun h=>absurd h (by simp)) (fun _=>?_) <;> refine R_run hg.ok 1000 rfl rfl ?_
   refine R_index hg.ok rfl rfl rfl rfl rfl rfl (Int.natCast_nonneg _) (Gl.rows_get e1) rfl ?_
   refine R_run hg.ok 1000 rfl rfl ?_
   refine R_if rfl rfl (fun n1=>?_) (fun n1=>?_) <;> refine R_run hg.ok 1000 rfl rfl ?_
   ·refine R_index hg.ok rfl rfl rfl rfl rfl rfl (Int.natCast_nonneg _) (Gl.rows_get e1) rfl ?_
    refine R_run hg.ok 1000 rfl rfl ?_
    rw [n1,Bool.true_and,Bool.false_or] at hn
    refine R_dropO 1 [.box [.d (.sl (Cs.rows p))]] (Nat.zero_le _) rfl rfl ?_
    exact R_next (k+1,((Tm.rows c.head.l).length:Int)==((Tm.rows g.t.l).length:Int)) ⟨hk2,hn⟩ (by simp only; omega) ⟨.refl _,.refl _,.refl _,.refl _,Ent.wrap (by simp only; omega) (by simp only; omega) (by simp only; omega),trivial⟩ rfl
   ·rw [n1,Bool.false_and,Bool.false_or] at hn
    refine R_dropO 1 [.box [.d (.sl (Cs.rows p))]] (Nat.zero_le _) rfl rfl ?_
    exact R_next (k+1,false) ⟨hk2,hn⟩ (by simp only; omega) ⟨.refl _,.refl _,.refl _,(by first | exact .refl _ | exact .ff),Ent.wrap (by simp only; omega) (by simp only; omega) (by simp only; omega),trivial⟩ rfl
 rintro _ _
 refine R_run hg.ok 1000 rfl rfl ?_
 refine R_if rfl rfl (fun n0=>?_) (fun n0=>?_) <;> refine R_run hg.ok 1000 rfl rfl ?_
 ·refine R_ret hg 5 rfl rfl ?_
  rw [hm,show ((g.k != 1) || hasH p (sgOf g.t))=false from (Bool.not_eq_true' _).mp n0]; rfl
 have n0:((g.k != 1) || hasH p (sgOf g.t))=true:=(Bool.not_eq_false' _).mp n0
 refine R_index hg.ok rfl rfl rfl rfl rfl rfl (Int.natCast_nonneg _) (Gl.rows_get e1) rfl ?_
 refine R_run hg.ok 1000 rfl rfl ?_
 refine R_call hg.ok (sa (by omega)) rfl rfl rfl rfl rfl rfl ?_
 refine R_run hg.ok 1000 rfl rfl ?_
 refine R_if rfl rfl (fun n1=>?_) (fun n1=>?_) <;> refine R_run hg.ok 1000 rfl rfl ?_
 ·refine R_ret hg 5 rfl rfl ?_
  rw [hm,n0,show thereL (hasH p) g.a=false by simpa using n1]; rfl
 have n1:thereL (hasH p) g.a=true:=by simpa using n1
 refine R_index hg.ok rfl rfl rfl rfl rfl rfl (Int.natCast_nonneg _) (Gl.rows_get e1) rfl ?_
 refine R_run hg.ok 1000 rfl rfl ?_
 refine R_call hg.ok (sb (by omega)) rfl rfl rfl rfl rfl rfl ?_
 refine R_run hg.ok 1000 rfl rfl ?_
 refine R_if rfl rfl (fun n2=>?_) (fun n2=>?_) <;> refine R_run hg.ok 1000 rfl rfl ?_
 ·refine R_ret hg 5 rfl rfl ?_
  rw [hm,n0,n1,show thereL (hasH p) g.b=false by simpa using n2]; rfl
 have n2:thereL (hasH p) g.b=true:=by simpa using n2
 refine R_index hg.ok rfl rfl rfl rfl rfl rfl (Int.natCast_nonneg _) (Gl.rows_get e1) rfl ?_
 refine R_run hg.ok 1000 rfl rfl ?_
 refine R_call hg.ok (sc (by omega)) rfl rfl rfl rfl rfl rfl ?_
 refine R_run hg.ok 1000 rfl rfl ?_
 refine R_if rfl rfl (fun n3=>?_) (fun n3=>?_) <;> refine R_run hg.ok 1000 rfl rfl ?_
 ·refine R_ret hg 5 rfl rfl ?_
  rw [hm,n0,n1,n2,show thereL (hasH p) g.c=false by simpa using n3]; rfl
 have n3:thereL (hasH p) g.c=true:=by simpa using n3
 rw [n0,n1,n2,n3] at hm
 exact R_next (i+1) ⟨hk1,hm⟩ (by omega) ⟨.refl _,.refl _,Ent.wrap (by omega) (by omega) (by omega),trivial⟩ rfl

set_option maxRecDepth 100000 in
theorem refCheck_ok (l:List Cs) (hl:∀ c∈l,SmC c) (hlen:l.length≤1000000):PCtr Tryz.prog 24 [prV l] (.tup [iV (checkR l).1,iV (checkR l).2]):=by
 have hrl:=Cs.rows_len l
 refine PCtr.of_R (pf:=fun _=>.eff) tyOk mixed Tryz.func24 rfl (by kernel_rfl) (by kernel_rfl) (by simp [Tryz.ntmps24]) fun w S hg=>?_
 refine R_run hg.ok 1000 rfl rfl ?_
 by_cases h2:200<l.length
 ·refine R_if rfl rfl (fun _=>?_) (fun h=>absurd (of_decide_eq_false h) (by omega)) <;> refine R_run hg.ok 1000 rfl rfl ?_
  refine R_ret hg 5 rfl rfl ?_
  unfold checkR; rw [if_pos h2]; rfl
 refine R_if rfl rfl (fun h=>absurd (of_decide_eq_true h) (by omega)) (fun _=>?_) <;> refine R_run hg.ok 1000 rfl rfl ?_
 have hc0:checkR l=match firstN clsB l 0 with
  | some i=>((i:Int),1)
  | none=>match firstN (fun c=>thereL (hasH l) c.body) l 0 with
   | some i=>((i:Int),9)
   | none=>(0,0):=by unfold checkR; rw [if_neg h2]; rfl
 refine R_cut2 (fun _:Unit=>([(1,.lo 0 0)],[.box [.d (.sl (Cs.rows l))]])) (fun _=>firstN clsB l 0=none) rfl ?_ ?_
 ·refine R_loop (fun k:Nat=>([(1,.lo 0 0),(4,iV k)],[.box [.d (.sl (Cs.rows l))]])) (fun k=>k≤l.length∧firstN clsB l 0=firstN clsB (l.drop k) k) (fun k=>l.length - k) 0 ⟨Nat.zero_le _,rfl⟩ ⟨.refl _,.refl _,trivial⟩ rfl ?_
  rintro k ⟨hk,hm⟩
  refine R_run hg.ok 1000 rfl rfl ?_
  refine R_if rfl rfl (fun h=>?_) (fun h=>?_) <;> refine R_run hg.ok 1000 rfl rfl ?_
  ·have hk1:k<l.length:=lt_dec h (by rw [hrl])
   have e1:l[k]? = some l[k]:=List.getElem?_eq_getElem hk1
   have hs:=hl _ (List.getElem_mem hk1)
   generalize l[k]=c at e1 hs
   rw [firstN_drop clsB e1] at hm
   have hcl:=refClause_ok c hs
   rw [← cls_same] at hcl
   refine R_index hg.ok rfl rfl rfl rfl rfl rfl (Int.natCast_nonneg _) (Cs.rows_get e1) rfl ?_
   refine R_run hg.ok 1000 rfl rfl ?_
   refine R_call hg.ok (hcl) rfl rfl rfl rfl rfl rfl ?_
   refine R_run hg.ok 1000 rfl rfl ?_
   refine R_if rfl rfl (fun h=>?_) (fun h=>?_) <;> refine R_run hg.ok 1000 rfl rfl ?_
   ·have h:clsB c=false:=by simpa using h
    rw [if_neg (by rw [h]; simp)] at hm
    rw [hc0,hm]
    refine R_ret hg 5 rfl rfl ?_
    rfl
   ·have h:clsB c=true:=by simpa using h
    rw [if_pos h] at hm
    exact R_next (k+1) ⟨hk1,hm⟩ (by omega) ⟨.refl _,Ent.wrap (by omega) (by omega) (by omega),trivial⟩ rfl
  ·have hk1:l.length≤k:=ge_dec h (by rw [hrl])
   rw [List.drop_eq_nil_of_le hk1] at hm
   exact R_to () hm ⟨.refl _,trivial⟩ rfl
 rintro _ hn
 rw [hn] at hc0
 simp only at hc0
 refine R_run hg.ok 1000 rfl rfl ?_
 refine R_loop (fun k:Nat=>([(1,.lo 0 0),(5,iV k)],[.box [.d (.sl (Cs.rows l))]])) (fun k=>k≤l.length∧firstN (fun c=>thereL (hasH l) c.body) l 0=firstN (fun c=>thereL (hasH l) c.body) (l.drop k) k) (fun k=>l.length - k) 0 ⟨Nat.zero_le _,rfl⟩ ⟨.refl _,.refl _,trivial⟩ rfl ?_
 rintro k ⟨hk,hm⟩
 refine R_run hg.ok 1000 rfl rfl ?_
 refine R_if rfl rfl (fun h=>?_) (fun h=>?_) <;> refine R_run hg.ok 1000 rfl rfl ?_
 ·have hk1:k<l.length:=lt_dec h (by rw [hrl])
  have e1:l[k]? = some l[k]:=List.getElem?_eq_getElem hk1
  have hs:=hl _ (List.getElem_mem hk1)
  generalize l[k]=c at e1 hs
  rw [firstN_drop (fun c=>thereL (hasH l) c.body) e1] at hm
  refine R_index hg.ok rfl rfl rfl rfl rfl rfl (Int.natCast_nonneg _) (Cs.rows_get e1) rfl ?_
  refine R_run hg.ok 1000 rfl rfl ?_
  refine R_call hg.ok (refThere_ok l hlen c.body hs.size) rfl rfl rfl rfl rfl rfl ?_
  refine R_run hg.ok 1000 rfl rfl ?_
  refine R_if rfl rfl (fun h=>?_) (fun h=>?_) <;> refine R_run hg.ok 1000 rfl rfl ?_
  ·have h:thereL (hasH l) c.body=false:=by simpa using h
   rw [if_neg (by rw [h]; simp)] at hm
   rw [hc0,hm]
   refine R_ret hg 5 rfl rfl ?_
   rfl
  ·have h:thereL (hasH l) c.body=true:=by simpa using h
   rw [if_pos h] at hm
   exact R_next (k+1) ⟨hk1,hm⟩ (by omega) ⟨.refl _,Ent.wrap (by omega) (by omega) (by omega),trivial⟩ rfl
 ·have hk1:l.length≤k:=ge_dec h (by rw [hrl])
  rw [List.drop_eq_nil_of_le hk1] at hm
  rw [hc0,hm]
  refine R_ret hg 5 rfl rfl ?_
  rfl

set_option maxRecDepth 100000 in
theorem refFewG_ok (l:List Gl):∀ (m d:Int),(∀ g∈l,g.Ok)→l.length≤140737488355328→-1000≤d∧d≤1000→PCtr Tryz.prog 62 [.d (.sl (Gl.rows l)),iV m,iV d] (iV (fewGL l m d)):=by
 refine Gl.indL (p:=fun l=>∀ (m d:Int),(∀ g∈l,g.Ok)→l.length≤140737488355328→-1000≤d∧d≤1000→PCtr Tryz.prog 62 [.d (.sl (Gl.rows l)),iV m,iV d] (iV (fewGL l m d))) (fun l hsub=>?_) l
 intro m d hok hlen hd0
 have hrl:=Gl.rows_length l
 refine PCtr.of_R (pf:=fun _=>.still) tyOk mixed Tryz.func62 rfl (by kernel_rfl) (by kernel_rfl) (by simp [Tryz.ntmps62]) fun w S hg=>?_
 refine R_run hg.ok 1000 rfl rfl ?_
 by_cases hd:d<1
 ·refine R_if rfl rfl (fun _=>?_) (fun h=>absurd (of_decide_eq_false h) (by omega)) <;> refine R_run hg.ok 1000 rfl rfl ?_
  refine R_ret hg 5 rfl rfl ?_
  unfold fewGL; rw [if_pos hd]; rfl
 refine R_if rfl rfl (fun h=>absurd (of_decide_eq_true h) (by omega)) (fun _=>?_) <;> refine R_run hg.ok 1000 rfl rfl ?_
 have hfe:fewGL l m d=fewGo l m d:=by unfold fewGL; rw [if_neg hd]
 rw [hfe]
 have hwd:IntKind.i64.wrap (d - 1)=d - 1:=w64 (by omega) (by omega)
 refine R_loop (fun x:Nat × Int=>([(0,.d (.sl (Gl.rows l))),(1,iV x.2),(2,iV d),(7,iV x.1)],[])) (fun x=>x.1≤l.length∧fewGo l m d=fewGo (l.drop x.1) x.2 d) (fun x=>l.length - x.1) (0,m) ⟨Nat.zero_le _,rfl⟩ ⟨.refl _,.refl _,.refl _,.refl _,trivial⟩ rfl ?_
 rintro ⟨k,q⟩ ⟨hk,hm⟩
 have hm:fewGo l m d=fewGo (l.drop k) q d:=hm
 have hk:k≤l.length:=hk
 refine R_run hg.ok 1000 rfl rfl ?_
 refine R_if rfl rfl (fun h=>?_) (fun h=>?_) <;> refine R_run hg.ok 1000 rfl rfl ?_
 rotate_left
 ·have hk1:l.length≤k:=ge_dec h (by rw [hrl])
  refine R_ret hg 5 rfl rfl ?_
  rw [hm,List.drop_eq_nil_of_le hk1]; rfl
 have hk1:k<l.length:=lt_dec h (by rw [hrl])
 have e1:l[k]? = some l[k]:=List.getElem?_eq_getElem hk1
 have hmem:=List.getElem_mem hk1
 rw [List.drop_eq_getElem_cons hk1,fewGo] at hm
 generalize l[k]=g at e1 hm hmem
 obtain ⟨sa,sb,sc⟩:=hsub g hmem
 have ho:=hok g hmem
 refine R_if rfl rfl (fun h2=>?_) (fun h2=>?_) <;> refine R_run hg.ok 1000 rfl rfl ?_
 ·rw [if_pos (of_decide_eq_true h2),fewG1_eq] at hm
  refine R_index hg.ok rfl rfl rfl rfl rfl rfl (Int.natCast_nonneg _) (Gl.rows_get e1) rfl ?_
  refine R_run hg.ok 1000 rfl rfl ?_
  refine R_call hg.ok (few_ok g.t ho.tm.1 q 200) rfl rfl rfl rfl rfl rfl ?_
  refine R_run hg.ok 1000 rfl rfl ?_
  refine R_index hg.ok rfl rfl rfl rfl rfl rfl (Int.natCast_nonneg _) (Gl.rows_get e1) rfl ?_
  refine R_run hg.ok 1000 rfl rfl ?_
  rw [hwd]
  refine R_call hg.ok (sa (g.t.few q 200) (d - 1) ho.ma ho.la (by omega)) rfl rfl rfl rfl rfl rfl ?_
  refine R_run hg.ok 1000 rfl rfl ?_
  refine R_index hg.ok rfl rfl rfl rfl rfl rfl (Int.natCast_nonneg _) (Gl.rows_get e1) rfl ?_
  refine R_run hg.ok 1000 rfl rfl ?_
  rw [hwd]
  refine R_call hg.ok (sb (fewGL g.a (g.t.few q 200) (d - 1)) (d - 1) ho.mb ho.lb (by omega)) rfl rfl rfl rfl rfl rfl ?_
  refine R_run hg.ok 1000 rfl rfl ?_
  refine R_index hg.ok rfl rfl rfl rfl rfl rfl (Int.natCast_nonneg _) (Gl.rows_get e1) rfl ?_
  refine R_run hg.ok 1000 rfl rfl ?_
  rw [hwd]
  refine R_call hg.ok (sc (fewGL g.b (fewGL g.a (g.t.few q 200) (d - 1)) (d - 1)) (d - 1) ho.mc ho.lc (by omega)) rfl rfl rfl rfl rfl rfl ?_
  refine R_run hg.ok 1000 rfl rfl ?_
  exact R_next (k+1,fewGL g.c (fewGL g.b (fewGL g.a (g.t.few q 200) (d - 1)) (d - 1)) (d - 1)) ⟨hk1,hm⟩ (by simp only; omega) ⟨.refl _,.refl _,.refl _,Ent.wrap (by simp only; omega) (by simp only; omega) (by simp only; omega),trivial⟩ rfl
 ·rw [if_neg (of_decide_eq_false h2)] at hm
  refine R_ret hg 5 rfl rfl ?_
  rw [hm]; rfl

set_option maxRecDepth 100000 in
theorem refSomeP_ok (l:List Cs) (hok:∀ c∈l,c.Ok) (hlen:l.length≤140737488355328):PCtr Tryz.prog 28 [prV l] (bV (somP l)):=by
 have hrl:=Cs.rows_len l
 refine PCtr.of_R (pf:=fun _=>.eff) tyOk mixed Tryz.func28 rfl (by kernel_rfl) (by kernel_rfl) (by simp [Tryz.ntmps28]) fun w S hg=>?_
 refine R_run hg.ok 1000 rfl rfl ?_
 refine R_cut2 (fun _:Unit=>([(1,.lo 0 0),(3,iV (somGo l 3000))],[.box [.d (.sl (Cs.rows l))]])) (fun _=>True) rfl ?_ ?_
 ·refine R_loop (fun x:Nat × Int=>([(1,.lo 0 0),(3,iV x.2),(4,iV x.1)],[.box [.d (.sl (Cs.rows l))]])) (fun x=>x.1≤l.length∧somGo l 3000=somGo (l.drop x.1) x.2) (fun x=>l.length - x.1) (0,3000) ⟨Nat.zero_le _,rfl⟩ ⟨.refl _,.refl _,.refl _,trivial⟩ rfl ?_
  rintro ⟨k,q⟩ ⟨hk,hm⟩
  have hm:somGo l 3000=somGo (l.drop k) q:=hm
  have hk:k≤l.length:=hk
  refine R_run hg.ok 1000 rfl rfl ?_
  refine R_if rfl rfl (fun h=>?_) (fun h=>?_) <;> refine R_run hg.ok 1000 rfl rfl ?_
  rotate_left
  ·have hk1:l.length≤k:=ge_dec h (by rw [hrl])
   refine R_to () trivial ⟨.refl _,?_,trivial⟩ rfl
   rw [hm,List.drop_eq_nil_of_le hk1]; exact .refl _
  have hk1:k<l.length:=lt_dec h (by rw [hrl])
  have e1:l[k]? = some l[k]:=List.getElem?_eq_getElem hk1
  have hmem:=List.getElem_mem hk1
  rw [List.drop_eq_getElem_cons hk1,somGo] at hm
  generalize l[k]=c at e1 hm hmem
  have ho:=hok c hmem
  refine R_if rfl rfl (fun h2=>?_) (fun h2=>?_) <;> refine R_run hg.ok 1000 rfl rfl ?_
  ·rw [if_pos (of_decide_eq_true h2)] at hm
   refine R_index hg.ok rfl rfl rfl rfl rfl rfl (Int.natCast_nonneg _) (Cs.rows_get e1) rfl ?_
   refine R_run hg.ok 1000 rfl rfl ?_
   refine R_call hg.ok (few_ok c.head ho.head.1 q 200) rfl rfl rfl rfl rfl rfl ?_
   refine R_run hg.ok 1000 rfl rfl ?_
   refine R_index hg.ok rfl rfl rfl rfl rfl rfl (Int.natCast_nonneg _) (Cs.rows_get e1) rfl ?_
   refine R_run hg.ok 1000 rfl rfl ?_
   refine R_call hg.ok (refFewG_ok c.body (c.head.few q 200) 30 ho.body ho.len (by omega)) rfl rfl rfl rfl rfl rfl ?_
   refine R_run hg.ok 1000 rfl rfl ?_
   exact R_next (k+1,fewGL c.body (c.head.few q 200) 30) ⟨hk1,hm⟩ (by simp only; omega) ⟨.refl _,.refl _,Ent.wrap (by simp only; omega) (by simp only; omega) (by simp only; omega),trivial⟩ rfl
  ·rw [if_neg (of_decide_eq_false h2)] at hm
   refine R_to () trivial ⟨.refl _,?_,trivial⟩ rfl
   rw [hm]; exact .refl _
 rintro _ _
 refine R_run hg.ok 1000 rfl rfl ?_
 unfold somP
 refine R_if rfl rfl (fun h2=>?_) (fun h2=>?_) <;> refine R_run hg.ok 1000 rfl rfl ?_
 ·refine R_ret hg 5 rfl rfl ?_
  rw [show decide (somGo l 3000 ≥ 0)=true from h2,Bool.true_and]
  rw [show decide (((Cs.rows l).length:Int)≤210)=decide (l.length≤210) by rw [hrl]; exact decide_eq_decide.2 (by omega)]
  rfl
 ·refine R_ret hg 5 rfl rfl ?_
  rw [show decide (somGo l 3000 ≥ 0)=false from h2]; rfl
end Go.Proofs.YtcgkgofmldhokaaGreat

namespace PSL
open Go Go.RowKit
section
variable {g:G} {pf:Nat→Cls} {ops:Array Oper} {Fin:Exit→Act→World→Prop}

theorem R_appendOO (hg:GOk g) {dst:Option Nat} {T T':Nat} {x y:Operand} {ty:Nat} {pos:String} {after:Array Edge} {gd:Option (Nat × Bool)} {rest:List Oper} {k:List It} {E:Env} {objs:List Ob}
  {i s j s2 sz q q' by_ by' e e':Nat} {z z':List Value} {τ:Ty} {rows news:List (List D)}
  (hgd:guardA ops.toList E gd=some true) (hd:dstOk ⟨g.ty,g.N⟩ dst=true) (hx:ev E x=.ow i s) (ho:nth objs i=some (.arr sz s rows)) (hy:ev E y=.ow j s2) (hoy:nth objs j=some (.arr sz s2 news))
  (hT:g.ty T=some ⟨q,by_,z,.slice e⟩) (hT':g.ty T'=some ⟨q',by',z',.slice e'⟩) (he:g.ty e=some τ) (hsz:τ.size=sz) (hlen:∀ r∈news,r.length=sz) (hone:∀ r∈news,∀ x∈r,one1 (.d x)=true)
  (hbytes:(rows.length+news.length) * τ.bytes≤140737488355328) (hmax:rows.length+news.length≤140737488355328)
  (hr:R g pf Fin (.dr ops rest::k) (putO E dst (.ow i (Nat.succ s))) (setN objs i (.arr sz (Nat.succ s) (rows++news)))) :
  R g pf Fin (.dr ops (⟨dst,.call { callee:=.builtin .append,args:=#[x,y],argTypes:=#[T,T'] },ty,pos,after,gd⟩::rest)::k) E objs:=by
 refine R_op (LocOp.turning hg (grow_set ho) hgd hd (by simp) fun φ a w hρ hs=>?_) hr
 simp only [Op.operands,Call.operands] at hρ
 have hxv:=hρ x (by simp)
 rw [hx] at hxv
 have hyv:=hρ y (by simp)
 rw [hy] at hyv
 simp only [RV] at hxv hyv
 obtain ⟨_,phy,hphy,hyv⟩:=hyv
 have hky:=obj_at hs hphy hoy
 cases phy <;> try (simp only [ObOk] at hky; done)
 rename_i sz3 s3 v3 ob3
 have hky':=hky
 simp only [ObOk] at hky'
 obtain ⟨ey1,ey2,_,_⟩:=hky'
 subst ey1; subst ey2
 have hvy:=(hyv _ _ _ _ rfl).2 rfl
 clear hyv
 obtain ⟨_,ph,hph,hxv⟩:=hxv
 have hk:=obj_at hs hph ho
 cases ph <;> try (simp only [ObOk] at hk; done)
 rename_i sz2 s2 v2 ob2
 have hk':=hk
 simp only [ObOk] at hk'
 obtain ⟨rfl,rfl,hrl,hk'⟩:=hk'
 have hv:=(hxv _ _ _ _ rfl).2 rfl
 clear hxv
 rw [setN_eq]
 obtain ⟨olds,hF⟩:=Fst.of_ob (P:=g.P) hk
 subst hsz
 obtain ⟨cells,hN⟩:=Fst.of_ob (P:=g.P) hky
 rw [← hvy] at hN
 have h1:=hN.one hlen hone
 have hτ:=hg.ty _ _ he
 obtain ⟨xa,xc,hxs⟩:=hN.sl
 have hall:∀ r∈rows++news,r.length=τ.size:=fun r hr=>(List.mem_append.1 hr).elim (hrl r) (hlen r)
 have hmax':rows.length+news.length≤maxLen:=by simp only [maxLen]; omega
 have hlt:i<φ.length:=(List.getElem?_eq_some_iff.1 hph).1
 -- the grown slice
 have grow:∀ (a0:Option Addr) (cap:Nat),v2=.slice a0 rows.length cap→cap<rows.length+news.length→Out g.P (execOp a.eval ⟨dst,.call { callee:=.builtin .append,args:=#[x,y],argTypes:=#[T,T'] },ty,pos,after,gd⟩) g.S0 φ w (.ow i (Nat.succ s)) (objs.set i (.arr τ.size (Nat.succ s) (rows++news))):=by
  intro a0 cap hv2 hcap
  subst hv2
  obtain ⟨zs,cap',hc1,hc2,hzl,hrun⟩:=run_app_grow (tr:=ty) (und_slice hg hT) (und_slice hg hT') hτ hxs hF.run hN.run hcap hbytes hmax'
  refine ⟨.value (.slice (some ⟨w.heap.size,0,none⟩) (rows.length+news.length) cap'),.slice (some ⟨w.heap.size,0,none⟩) (rows.length+news.length) cap',w.drew.alloc (.cells (olds++cells++zs).toArray e),φ.set i (.sli τ.size (Nat.succ s) (.slice (some ⟨w.heap.size,0,none⟩) (rows.length+news.length) cap') (some w.heap.size)),?_,.inl rfl,?_,?_⟩
  ·simp only [execOp,resolve,invoke,builtin,Sem.run_bind,Sem.run_pure,Result.andThen_ok,List.map_toArray,List.map_cons,List.map_nil,hv,hrun]
  ·simp only [RV]
   exact ⟨⟨_,_,_,rfl⟩,_,List.getElem?_set_self hlt,fun sz s x ob h=>by cases h; exact ⟨Nat.le_refl _,fun _=>rfl⟩⟩
  ·refine Stp.swap hs hph (.inr (.inl ⟨_,_,_,_,_,_,_,_,rfl,rfl,Nat.lt_succ_self _⟩)) (by show w.heap.size≤(w.heap.push _).size; simp) (fun c hc _=>heap_drew_old hc) (fun b hb=>?_) rfl rfl rfl fun hkeep _=>?_
   ·simp only [Phy.bl,Option.some.injEq] at hb; subst hb; exact .inr ⟨Nat.le_refl _,by show w.heap.size<(w.heap.push _).size; simp⟩
   ·simp only [ObOk]
    refine ⟨trivial,trivial,hall,.inr ⟨_,0,cap',_,e,by rw [List.length_append],rfl,heap_drew_new,by rw [List.length_append]; exact hc1,hc2,?_,?_⟩⟩
    ·simp only [List.length_append,hF.len,hN.len,hzl]
     rw [← Nat.add_mul,← Nat.add_mul]
     have:rows.length+news.length+(cap' - (rows.length+news.length))=cap':=by omega
     rw [this]; omega
    ·intro i' r j x' hi hj
     obtain ⟨y',h3,h4⟩:=rows_app hF hN hkeep i' r j x' hi hj (hall r (List.mem_of_getElem? hi))
     exact ⟨y',by simpa using take_rows h3,h4⟩
 rcases hk' with ⟨a0,rfl,hrows,rfl⟩ | ⟨b,o,cap,cs,Tb,rfl,rfl,hheap,hn,hcap,hle,hrd⟩
 ·by_cases hm:news.length=0
  ·have hnews:news=[]:=List.length_eq_zero_iff.1 hm
   subst hnews
   subst hrows
   have hcells:cells=[]:=List.length_eq_zero_iff.1 (by simpa using hN.len)
   subst hcells
   have hrun:=run_app_none (tr:=ty) (und_slice hg hT) (und_slice hg hT') hτ (a:=a0) (n:=0) (cap:=0) hxs (hN.run w rfl) (Nat.le_refl _)
   refine ⟨.value (.slice a0 0 0),.slice a0 0 0,w,φ.set i (.sli τ.size (Nat.succ s) (.slice a0 0 0) none),?_,.inl rfl,?_,?_⟩
   ·simp only [execOp,resolve,invoke,builtin,Sem.run_bind,Sem.run_pure,Result.andThen_ok,List.map_toArray,List.map_cons,List.map_nil,hv,hrun]
   ·simp only [RV]
    exact ⟨⟨_,_,_,rfl⟩,_,List.getElem?_set_self hlt,fun sz s x ob h=>by cases h; exact ⟨Nat.le_refl _,fun _=>rfl⟩⟩
   ·refine Stp.swap hs hph (.inr (.inl ⟨_,_,_,_,_,_,_,_,rfl,rfl,Nat.lt_succ_self _⟩)) (Nat.le_refl _) (fun _ _ _=>rfl) (fun b hb=>by simp [Phy.bl] at hb) rfl rfl rfl fun _ _=>?_
    simp only [ObOk]
    exact ⟨trivial,trivial,by simp,.inl ⟨_,rfl,rfl,trivial⟩⟩
  ·subst hrows
   exact grow a0 0 rfl (by simp; omega)
 ·by_cases hroom:rows.length+news.length≤cap
  ·obtain ⟨w',hrun,hst⟩:=run_app_room (tr:=ty) (und_slice hg hT) (und_slice hg hT') hτ hxs (hN.run w rfl) hN.len h1 hheap hroom hle
   refine ⟨.value (.slice (some ⟨b,o,none⟩) (rows.length+news.length) cap),.slice (some ⟨b,o,none⟩) (rows.length+news.length) cap,w',φ.set i (.sli τ.size (Nat.succ s) (.slice (some ⟨b,o,none⟩) (rows.length+news.length) cap) (some b)),?_,.inl rfl,?_,?_⟩
   ·simp only [execOp,resolve,invoke,builtin,Sem.run_bind,Sem.run_pure,Result.andThen_ok,List.map_toArray,List.map_cons,List.map_nil,hv,hrun]
   ·simp only [RV]
    exact ⟨⟨_,_,_,rfl⟩,_,List.getElem?_set_self hlt,fun sz s x ob h=>by cases h; exact ⟨Nat.le_refl _,fun _=>rfl⟩⟩
   ·refine Stp.swap hs hph (.inr (.inl ⟨_,_,_,_,_,_,_,_,rfl,rfl,Nat.lt_succ_self _⟩)) (by rw [hst.size]; exact Nat.le_refl _) (fun c _ hc=>hst.other c fun e=>hc (by rw [e]; rfl)) (fun b' hb=>.inl hb) hst.os hst.tape hst.out fun hkeep _=>?_
    simp only [ObOk]
    refine ⟨trivial,trivial,hall,.inr ⟨b,o,cap,_,Tb,by rw [List.length_append],rfl,hst.at_,by rw [List.length_append]; exact hroom,hcap,by rw [splice_length]; exact hle,?_⟩⟩
    have hmul:(rows.length+news.length) * τ.size≤cap * τ.size:=Nat.mul_le_mul_right _ hroom
    rw [Nat.add_mul] at hmul
    have hsp:∀ k,(splice cs (o+rows.length * τ.size) cells)[k]? = if k<o+rows.length * τ.size then cs[k]? else if k<o+rows.length * τ.size+cells.length then cells[k - (o+rows.length * τ.size)]? else cs[k]? := by
     intro k
     have hcl:=hN.len
     have hcat:∀ m,m=o+rows.length * τ.size→splice cs m cells=cs.take m++cells++cs.drop (m+cells.length):=fun m hm=>by
      have:=splice_mid cells (cs.take m) ((cs.drop m).take cells.length) (cs.drop (m+cells.length)) (by simp; omega)
      rw [List.length_take,Nat.min_eq_left (by omega)] at this
      rw [List.append_assoc (cs.take m),← List.drop_drop,List.take_append_drop,List.take_append_drop,List.drop_drop] at this
      exact this
     rw [hcat _ rfl]
     have hl1:(List.take (o+rows.length * τ.size) cs).length=o+rows.length * τ.size:=by simp; omega
     split
     ·rw [List.append_assoc,List.getElem?_append_left (by omega),List.getElem?_take_of_lt (by omega)]
     ·split
      ·rw [List.append_assoc,List.getElem?_append_right (by omega),hl1,List.getElem?_append_left (by omega)]
      ·rw [List.getElem?_append_right (by simp; omega),List.length_append,hl1,List.getElem?_drop]
       congr 1; omega
    intro i' r j x' hi hj
    have hrl':=hall r (List.mem_of_getElem? hi)
    have hjl:=(List.getElem?_eq_some_iff.1 hj).1
    rcases Nat.lt_or_ge i' rows.length with h | h
    ·rw [List.getElem?_append_left h] at hi
     obtain ⟨y',h3,h4⟩:=hrd i' r j x' hi hj
     refine ⟨y',?_,h4.mono hkeep⟩
     have h5:(i'+1) * τ.size≤rows.length * τ.size:=Nat.mul_le_mul_right _ h
     rw [Nat.succ_mul] at h5
     rw [hsp,if_pos (by omega)]; exact h3
    ·rw [List.getElem?_append_right h] at hi
     obtain ⟨y',h3,h4⟩:=hN.rd _ r j x' hi hj
     refine ⟨y',?_,h4.mono hkeep⟩
     have h5:rows.length * τ.size≤i' * τ.size:=Nat.mul_le_mul_right _ h
     have h6:=(List.getElem?_eq_some_iff.1 h3).1
     rw [Nat.sub_mul] at h3 h6
     rw [hsp,if_neg (by omega),if_pos (by omega),← h3]
     congr 1; omega
  ·exact grow _ cap rfl (by omega)
end
end PSL

namespace PSL
open Go

def RInv (L:List Tk) (st:RSt):Prop:=st.names.length≤st.at_∧st.at_≤L.length
def TGood (L:List Tk) (T:TF):Prop:=∀ deep p st t st',T deep p st=some (t,st')→RInv L st→RInv L st'
section
variable {S:Bs} {L:List Tk} {T:TF} {st:RSt}

theorem peek_lt (h:(peekR L st).kind≠0):st.e=0∧st.at_<L.length:=by
 unfold peekR at h
 by_cases he:st.e≠0
 ·rw [if_pos he] at h; exact absurd rfl h
 ·rw [if_neg he] at h
  refine ⟨by simpa using he,?_⟩
  rcases Nat.lt_or_ge st.at_ L.length with h2 | h2
  ·exact h2
  ·rw [List.getElem?_eq_none h2] at h; exact absurd rfl h

theorem isMk_lt {s:Bs} (h:isMk (peekR L st) s=true):st.e=0∧st.at_<L.length:=by
 simp only [isMk,Bool.and_eq_true,decide_eq_true_eq] at h
 exact peek_lt (by rw [h.1]; decide)
theorem RInv.nx (h:RInv L st) (hl:st.at_<L.length):RInv L (nxR st):=⟨by have:=h.1; simp only [nxR]; omega,by simp only [nxR]; omega⟩

theorem RInv.fail {n:Nat} {c:Int} (h:RInv L st):RInv L (failR L n st c):=by
 unfold failR; split
 ·exact h
 ·exact h

theorem RInv.must {n:Nat} {s:Bs} (h:RInv L st):RInv L (mustR L n st s):=by
 unfold mustR; split
 ·rename_i hm; exact h.nx (isMk_lt hm).2
 ·exact h.fail

theorem RInv.ins (h:RInv L st):RInv L (inS L st):=by
 unfold inS; split
 ·exact h
 ·exact h

theorem RInv.beg (h:RInv L st):RInv L (begS L st):=by
 unfold begS; split
 ·exact h
 ·exact h

theorem var_at (s:Bs):(varR st s).2.at_=st.at_∧(varR st s).2.names.length≤st.names.length+1∧(varR st s).2.lay=st.lay∧(varR st s).2.e=st.e∧(varR st s).2.bad=st.bad:=by
 unfold varR
 split <;> simp

theorem RInv.var {s:Bs} (h:RInv L st) (hl:st.at_<L.length):RInv L (varR (nxR st) s).2:=by
 obtain ⟨h1,h2,_⟩:=var_at (st:=nxR st) s
 have:=h.1
 refine ⟨?_,?_⟩
 ·rw [h1]; simp only [nxR] at h2 ⊢; omega
 ·rw [h1]; simp only [nxR]; omega

theorem many_inv (hT:TGood L T):∀ (f deep:Nat) (st:RSt) (acc:List Tm) (l:List Tm) (st':RSt),manyR L T f deep st acc=some (l,st')→RInv L st→RInv L st'
 | 0,_,_,_,_,_,h,_=>by cases h
 | f+1,deep,st,acc,l,st',h,hi=>by
  simp only [manyR] at h
  split at h
  ·rename_i hm
   obtain ⟨x,hx,h⟩:=Option.bind_eq_some_iff.1 h
   exact many_inv hT f deep _ _ _ _ h (hT _ _ _ _ _ hx (hi.nx (isMk_lt hm).2))
  ·cases h; exact hi

theorem row_inv (hT:TGood L T) {deep:Nat} {l:List Tm} {st':RSt} (h:rowR L T deep st=some (l,st')) (hi:RInv L st):RInv L st':=by
 obtain ⟨x,hx,h⟩:=Option.bind_eq_some_iff.1 h
 exact many_inv hT _ _ _ _ _ _ h (hT _ _ _ _ _ hx hi)

theorem named_inv (hT:TGood L T) {deep:Nat} {p:Int} {t:Tk} {x:Tm × Int × RSt} (h:namedR S L T deep p t st=some x) (hi:RInv L st) (hl:st.at_<L.length):RInv L x.2.2:=by
 have hn:=hi.nx hl
 unfold namedR at h
 split at h
 ·rename_i hm
  simp only [minR,Bool.and_eq_true,decide_eq_true_eq] at hm
  cases h
  exact hn.nx (peek_lt (by rw [hm.1.2]; decide)).2
 ·split at h
  ·obtain ⟨y,hy,rfl⟩:=Option.map_eq_some_iff.1 h
   exact (row_inv hT hy hn.must).must
  ·split at h
   ·split at h
    ·split at h
     ·cases h; exact RInv.fail ⟨by simp only; have:=hn.beg.1; have h2:=hi.1; unfold begS at *; split <;> exact h2,hi.2⟩
     ·obtain ⟨y,hy,rfl⟩:=Option.map_eq_some_iff.1 h
      exact hT _ _ _ _ _ hy hn.beg
    ·cases h; exact hn.beg
   ·cases h; exact hn

theorem list_inv (hT:TGood L T) {deep:Nat} {x:Tm × RSt} (h:listR S L T deep st=some x) (hi:RInv L st):RInv L x.2:=by
 obtain ⟨y,hy,h⟩:=Option.bind_eq_some_iff.1 h
 have h1:=row_inv hT hy hi
 split at h
 ·rename_i hm
  obtain ⟨z,hz,rfl⟩:=Option.map_eq_some_iff.1 h
  exact (hT _ _ _ _ _ hz (h1.nx (isMk_lt hm).2)).must
 ·cases h; exact h1.must

theorem opnd_inv (hT:TGood L T) {sw:Bool} {deep:Nat} {p:Int} {x:Tm × Int × RSt} (h:opndR sw S L T deep p st=some x) (hi:RInv L st):RInv L x.2.2:=by
 unfold opndR at h
 split at h
 ·cases h; exact hi.fail
 split at h
 ·rename_i hk; cases h; exact hi.nx (peek_lt (by rw [hk]; decide)).2
 split at h
 ·rename_i hk; cases h; exact hi.var (peek_lt (by rw [hk]; decide)).2
 split at h
 ·rename_i hk
  obtain ⟨y,hy,rfl⟩:=Option.map_eq_some_iff.1 h
  have:=named_inv hT hy hi (peek_lt (by rw [hk]; decide)).2
  split <;> exact this
 split at h
 ·rename_i hm
  obtain ⟨y,hy,rfl⟩:=Option.map_eq_some_iff.1 h
  exact (hT _ _ _ _ _ hy (hi.nx (isMk_lt hm).2)).must
 split at h
 ·rename_i hm
  obtain ⟨y,hy,rfl⟩:=Option.map_eq_some_iff.1 h
  exact list_inv hT hy (hi.nx (isMk_lt hm).2)
 ·cases h; exact hi.fail

theorem ins_lt {L:List Tk} {st:RSt} {x:Int × Int × Int} (h:inT (peekR L st)=some x):st.e=0∧st.at_<L.length:=by
 unfold inT at h
 split at h
 ·cases h
 ·rename_i hc
  refine peek_lt fun h0=>hc ?_
  rw [h0]; exact ⟨by decide,.inl (by decide)⟩
theorem inS_at (L:List Tk) (st:RSt):(inS L st).at_=st.at_:=by unfold inS; split <;> rfl

theorem rest_inv (hT:TGood L T):∀ (f deep:Nat) (p:Int) (out:Tm) (now:Int) (st:RSt) (t:Tm) (st':RSt),restR L T f deep p out now st=some (t,st')→RInv L st→RInv L st'
 | 0,_,_,_,_,_,_,_,h,_=>by cases h
 | f+1,deep,p,out,now,st,t,st',h,hi=>by
  simp only [restR] at h
  split at h
  ·cases h; exact hi
  split at h
  ·cases h; exact hi.ins
  ·rename_i q l r hin
   split at h
   ·cases h; exact hi.ins
   ·obtain ⟨x,hx,h⟩:=Option.bind_eq_some_iff.1 h
    exact rest_inv hT f deep p _ _ _ _ _ h (hT _ _ _ _ _ hx (hi.ins.nx (by rw [inS_at]; exact (ins_lt hin).2)))
end

theorem term_inv (sw:Bool) (S:Bs) (L:List Tk):∀ n,TGood L (termR sw S L n)
 | 0=>fun _ _ _ _ _ h _=>by cases h
 | n+1=>fun deep p st t st' h hi=>by
  simp only [termR] at h
  obtain ⟨x,hx,h⟩:=Option.bind_eq_some_iff.1 h
  exact rest_inv (term_inv sw S L n) _ _ _ _ _ _ _ _ h (opnd_inv (term_inv sw S L n) hx hi)
end PSL

namespace PSL
open Go
abbrev Clau:=Tm × List Bs

def clsR (right:Tm→Bool) (L:List Tk) (n:Nat) (T:TF):Nat→RSt→List Clau→Option (List Clau × Int × Int)
 | 0,_,_=>none
 | f+1,st,out =>
  if st.at_<L.length then
   (T 0 1200 { st with names:=[] }).bind fun x =>
    let st2:=if (peekR L x.2).kind≠5 then failR L n x.2 2 else x.2
    let st3:=if st2.e=0∧right x.1=false then { st2 with e:=3,bad:=plcR L n st.at_ } else st2
    if st3.e≠0 then some ([],st3.bad,st3.e) else clsR right L n T f (nxR st3) (out++[(x.1,st3.names)])
  else some (out,0,0)

def clauR (right:Tm→Bool) (sw:Bool) (S:Bs):Option (List Clau × Int × Int) :=
 if (tokT S).2.2≠0 then some ([],(tokT S).2.1,(tokT S).2.2)
 else clsR right (tokT S).1 S.length (termR sw S (tokT S).1 ((tokT S).1.length+2)) ((tokT S).1.length+1) ⟨0,[],0,0,false⟩ []
end PSL

namespace PSL
open Go
def TMono (T:TF):Prop:=∀ deep p st t st',T deep p st=some (t,st')→st.at_≤st'.at_
section
variable {S:Bs} {L:List Tk} {T:TF} {st:RSt}
theorem fail_at {n:Nat} {c:Int}:(failR L n st c).at_=st.at_:=by unfold failR; split <;> rfl

theorem must_at {n:Nat} {s:Bs}:st.at_≤(mustR L n st s).at_:=by
 unfold mustR; split
 ·simp [nxR]
 ·rw [fail_at]; exact Nat.le_refl _
theorem begS_at:(begS L st).at_=st.at_:=by unfold begS; split <;> rfl
theorem nx_at:(nxR st).at_=st.at_+1:=rfl
end
end PSL

namespace PSL
open Go

def Enuf (L:List Tk) (m:Nat) (st:RSt):Prop:=st.e≠0∨L.length+1≤st.at_+m
def TOk (L:List Tk) (m:Nat) (T:TF):Prop:=∀ deep p st,RInv L st→Enuf L m st→∃ r,T deep p st=some r
def TStick (T:TF):Prop:=∀ deep p st t st',T deep p st=some (t,st')→st.e≠0→st'=st
section
variable {S:Bs} {L:List Tk} {T:TF} {st:RSt} {m:Nat}
theorem flE {n:Nat} {c:Int} (h:st.e≠0):failR L n st c=st:=by unfold failR; rw [if_neg h]
theorem flN {n:Nat} {c:Int} (hc:c≠0):(failR L n st c).e≠0:=by unfold failR; split; exact hc; assumption
theorem pkE (h:st.e≠0):peekR L st=zeroTk:=by unfold peekR; rw [if_pos h]
theorem mkE {s:Bs} (h:st.e≠0):isMk (peekR L st) s=false:=by rw [pkE h]; rfl

theorem Enuf.grow {st':RSt} (hT:TStick T) (hM:TMono T) {deep:Nat} {p:Int} {t:Tm} (hx:T deep p st=some (t,st')) (h:Enuf L m st):Enuf L m st':=by
 rcases h with h | h
 ·exact .inl (by rw [hT _ _ _ _ _ hx h]; exact h)
 ·exact .inr (by have:=hM _ _ _ _ _ hx; omega)

theorem Enuf.must {n:Nat} {s:Bs} (h:Enuf L m st):Enuf L m (mustR L n st s):=by
 rcases h with h | h
 ·exact .inl (by unfold mustR; rw [mkE h]; simp only [Bool.false_eq_true,if_false]; rw [flE h]; exact h)
 ·exact .inr (by have:=must_at (L:=L) (st:=st) (n:=n) (s:=s); omega)

theorem many_ok (hT:TOk L m T) (hG:TGood L T) (hS:TStick T) (hM:TMono T):∀ (f deep:Nat) (st:RSt) (acc:List Tm),RInv L st→Enuf L m st→L.length+1≤st.at_+f→1≤f→∃ r,manyR L T f deep st acc=some r
 | 0,_,_,_,_,_,_,h=>by omega
 | f+1,deep,st,acc,hi,he,hf,_=>by
  simp only [manyR]
  cases hmk:isMk (peekR L st) [44] with
  | false=>exact ⟨_,rfl⟩
  | true =>
   have hl:=isMk_lt hmk
   have hi2:=hi.nx hl.2
   have he2:Enuf L m (nxR st):=he.imp id fun h=>by rw [nx_at]; omega
   obtain ⟨⟨x,st2⟩,hx⟩:=hT deep 999 (nxR st) hi2 he2
   have h1:=hM _ _ _ _ _ hx
   rw [nx_at] at h1
   simp only [if_true]
   rw [hx]
   exact many_ok hT hG hS hM f deep st2 _ (hG _ _ _ _ _ hx hi2) (he2.grow hS hM hx) (by omega) (by omega)

theorem row_ok (hT:TOk L m T) (hG:TGood L T) (hS:TStick T) (hM:TMono T) (deep:Nat) (hi:RInv L st) (he:Enuf L m st):∃ r,rowR L T deep st=some r:=by
 obtain ⟨⟨x,st2⟩,hx⟩:=hT deep 999 st hi he
 unfold rowR
 rw [hx]
 exact many_ok hT hG hS hM _ deep st2 _ (hG _ _ _ _ _ hx hi) (he.grow hS hM hx) (by omega) (by omega)

theorem named_ok (hT:TOk L m T) (hG:TGood L T) (hS:TStick T) (hM:TMono T) (deep:Nat) (p:Int) (t:Tk) (hi:RInv L st) (hl:st.at_<L.length) (he:Enuf L m (nxR st)):∃ r,namedR S L T deep p t st=some r:=by
 have hn:=hi.nx hl
 unfold namedR
 split
 ·exact ⟨_,rfl⟩
 split
 ·obtain ⟨r,hr⟩:=row_ok hT hG hS hM deep hn.must he.must
  rw [hr]; exact ⟨_,rfl⟩
 split
 ·split
  ·split
   ·exact ⟨_,rfl⟩
   ·have hb:Enuf L m (begS L (nxR st)):=by
     rcases he with h | h
     ·exact .inl (by unfold begS; split <;> exact h)
     ·exact .inr (by rw [begS_at]; exact h)
    obtain ⟨r,hr⟩:=hT deep (preT t.text) _ hn.beg hb
    rw [hr]; exact ⟨_,rfl⟩
  ·exact ⟨_,rfl⟩
 ·exact ⟨_,rfl⟩
end
end PSL

namespace PSL
open Go
section
variable {S:Bs} {L:List Tk} {T:TF} {st:RSt} {m:Nat}
end
end PSL

namespace PSL
open Go

def Agr {α:Type} (a b:Option (α × RSt)):Prop:=match a,b with
 | some x,some y=>x.2=y.2∧(x.2.e=0→x.1=y.1)
 | none,none=>True
 | _,_=>False

theorem Agr.bind {α β:Type} {a b:Option (α × RSt)} {f g:α × RSt→Option (β × RSt)} (h:Agr a b) (hf:∀ x y s,(s.e=0→x=y)→Agr (f (x,s)) (g (y,s))):Agr (a.bind f) (b.bind g):=by
 cases a with
 | none=>cases b with
  | none=>trivial
  | some y=>exact h.elim
 | some x=>cases b with
  | none=>exact h.elim
  | some y =>
   obtain ⟨x,s⟩:=x
   obtain ⟨y,s'⟩:=y
   obtain ⟨h1,h2⟩:=h
   simp only at h1 h2
   subst h1
   exact hf x y s h2
section
variable {S:Bs} {L:List Tk} {T T':TF} {st:RSt}

theorem must_e {n:Nat} {s:Bs} (h:(mustR L n st s).e=0):st.e=0:=by
 by_cases he:st.e=0
 ·exact he
 ·unfold mustR at h
  rw [mkE he] at h
  simp only [Bool.false_eq_true,if_false] at h
  rw [flE he] at h
  exact h
end
end PSL

namespace PSL
open Go
section
variable {S:Bs} {L:List Tk} {T T':TF} {st:RSt}

theorem Agr.map {α β:Type} {a b:Option (α × RSt)} {f g:α × RSt→β × RSt} (h:Agr a b) (hf:∀ x y s,(s.e=0→x=y)→Agr (some (f (x,s))) (some (g (y,s)))):Agr (a.map f) (b.map g):=by
 cases a with
 | none=>cases b with
  | none=>trivial
  | some y=>exact h.elim
 | some x=>cases b with
  | none=>exact h.elim
  | some y =>
   obtain ⟨x,s⟩:=x
   obtain ⟨y,s'⟩:=y
   obtain ⟨h1,h2⟩:=h
   simp only at h1 h2
   subst h1
   exact hf x y s h2
end
end PSL

namespace PSL
open Go
end PSL

namespace PSL
open Go
end PSL

namespace PSL
open Go

def TSz (T:TF):Prop:=∀ deep p st t st',T deep p st=some (t,st')→st'.e=0→st.e=0∧st.at_+t.size≤st'.at_
section
variable {S:Bs} {L:List Tk} {T:TF} {st:RSt}
theorem fail_sz {n:Nat} {c:Int} (hc:c≠0) (h:(failR L n st c).e=0):False:=flN hc h

theorem must_sz {n:Nat} {s:Bs} (h:(mustR L n st s).e=0):st.e=0∧(mustR L n st s).at_=st.at_+1:=by
 refine ⟨must_e h,?_⟩
 unfold mustR at h ⊢
 split
 ·rfl
 ·rename_i hm; rw [if_neg hm] at h; exact (fail_sz (by decide) h).elim

theorem sizeL_snoc (l:List Tm) (t:Tm):Tm.sizeL (l++[t])=Tm.sizeL l+t.size:=by
 induction l with
 | nil=>simp [Tm.sizeL]
 | cons x l ih=>simp only [List.cons_append,Tm.sizeL,ih]; omega

theorem many_sz (hT:TSz T):∀ (f deep:Nat) (st:RSt) (acc l:List Tm) (st':RSt),manyR L T f deep st acc=some (l,st')→st'.e=0→st.e=0∧acc.length≤l.length∧st.at_+Tm.sizeL l+l.length≤st'.at_+Tm.sizeL acc+acc.length
 | 0,_,_,_,_,_,h,_=>by cases h
 | f+1,deep,st,acc,l,st',h,he=>by
  simp only [manyR] at h
  split at h
  ·rename_i hm
   obtain ⟨⟨x,s⟩,hx,h⟩:=Option.bind_eq_some_iff.1 h
   obtain ⟨h1,h2,h3⟩:=many_sz hT f deep _ _ _ _ h he
   obtain ⟨h4,h5⟩:=hT _ _ _ _ _ hx h1
   rw [sizeL_snoc] at h3
   rw [nx_at] at h5
   simp only [List.length_append,List.length_singleton] at h2 h3
   exact ⟨(isMk_lt hm).1,by omega,by omega⟩
  ·cases h; exact ⟨he,Nat.le_refl _,by omega⟩

theorem row_sz (hT:TSz T) {deep:Nat} {l:List Tm} {st':RSt} (h:rowR L T deep st=some (l,st')) (he:st'.e=0):st.e=0∧st.at_+Tm.sizeL l+l.length≤st'.at_+1:=by
 obtain ⟨⟨x,s⟩,hx,h⟩:=Option.bind_eq_some_iff.1 h
 obtain ⟨h1,h2,h3⟩:=many_sz hT _ deep _ _ _ _ h he
 obtain ⟨h4,h5⟩:=hT _ _ _ _ _ hx h1
 simp only [Tm.sizeL,List.length_singleton] at h3
 exact ⟨h4,by omega⟩
end
end PSL

namespace PSL
open Go
section
variable {S:Bs} {L:List Tk} {T:TF} {st:RSt}
theorem fnT_size (s:Bs) (l:List Tm):(fnT s l).size=1+Tm.sizeL l:=by simp [fnT,Tm.size]

theorem consT_size (l:List Tm) (t:Tm):(consT l t).size=Tm.sizeL l+l.length+t.size:=by
 induction l with
 | nil=>simp [consT,Tm.sizeL]
 | cons x l ih =>
  have:consT (x::l) t=fnT [46] [x,consT l t]:=rfl
  rw [this,fnT_size]
  simp only [Tm.sizeL,List.length_cons,ih]; omega

theorem named_sz (hT:TSz T) {deep:Nat} {p:Int} {t:Tk} {x:Tm × Int × RSt} (h:namedR S L T deep p t st=some x) (he:x.2.2.e=0):st.e=0∧st.at_+x.1.size≤x.2.2.at_:=by
 unfold namedR at h
 split at h
 ·cases h; exact ⟨he,by simp [nmT,nxR,Tm.size,Tm.sizeL]⟩
 split at h
 ·obtain ⟨⟨l,s⟩,hy,rfl⟩:=Option.map_eq_some_iff.1 h
  simp only at he ⊢
  obtain ⟨h1,h2⟩:=must_sz he
  obtain ⟨h3,h4⟩:=row_sz hT hy h1
  obtain ⟨h5,h6⟩:=must_sz h3
  rw [h6,nx_at] at h4
  rw [fnT_size,h2]
  exact ⟨h5,by omega⟩
 split at h
 ·split at h
  ·split at h
   ·cases h; exact (fail_sz (by decide) he).elim
   ·obtain ⟨⟨y,s⟩,hy,rfl⟩:=Option.map_eq_some_iff.1 h
    simp only at he ⊢
    obtain ⟨h1,h2⟩:=hT _ _ _ _ _ hy he
    rw [begS_at,nx_at] at h2
    rw [fnT_size]
    refine ⟨?_,by simp only [Tm.sizeL]; omega⟩
    unfold begS at h1; split at h1 <;> exact h1
  ·cases h
   simp only at he ⊢
   rw [fnT_size,begS_at,nx_at]
   refine ⟨?_,by simp only [Tm.sizeL]; omega⟩
   unfold begS at he; split at he <;> exact he
 ·cases h; exact ⟨he,by rw [fnT_size,nx_at]; simp only [Tm.sizeL]; omega⟩

theorem list_sz (hT:TSz T) {deep:Nat} {x:Tm × RSt} (h:listR S L T deep st=some x) (he:x.2.e=0):st.e=0∧st.at_+x.1.size≤x.2.at_+1:=by
 obtain ⟨⟨l,s⟩,hy,h⟩:=Option.bind_eq_some_iff.1 h
 simp only at h
 split at h
 ·obtain ⟨⟨z,s2⟩,hz,rfl⟩:=Option.map_eq_some_iff.1 h
  simp only at he ⊢
  obtain ⟨h1,h2⟩:=must_sz he
  obtain ⟨h3,h4⟩:=hT _ _ _ _ _ hz h1
  obtain ⟨h5,h6⟩:=row_sz hT hy h3
  rw [nx_at] at h4
  rw [consT_size,h2]
  exact ⟨h5,by omega⟩
 ·cases h
  simp only at he ⊢
  obtain ⟨h1,h2⟩:=must_sz he
  obtain ⟨h5,h6⟩:=row_sz hT hy h1
  rw [consT_size,h2,fnT_size]
  exact ⟨h5,by simp only [Tm.sizeL]; omega⟩
end
end PSL

namespace PSL
open Go
section
variable {S:Bs} {L:List Tk} {T:TF} {st:RSt}

theorem opnd_sz (hT:TSz T) {sw:Bool} {deep:Nat} {p:Int} {x:Tm × Int × RSt} (h:opndR sw S L T deep p st=some x) (he:x.2.2.e=0):st.e=0∧st.at_+x.1.size≤x.2.2.at_:=by
 unfold opndR at h
 split at h
 ·cases h; exact (fail_sz (by decide) he).elim
 split at h
 ·cases h; exact ⟨he,by simp [nmT,nxR,Tm.size,Tm.sizeL]⟩
 split at h
 ·cases h
  simp only at he ⊢
  obtain ⟨h1,_,_,h4,_⟩:=var_at (st:=nxR st) (peekR L st).text
  rw [h4] at he
  exact ⟨he,by rw [h1,nx_at]; simp [Tm.vT,Tm.size,Tm.sizeL]⟩
 split at h
 ·obtain ⟨y,hy,rfl⟩:=Option.map_eq_some_iff.1 h
  split at he
  ·rename_i hc
   simp only [Bool.and_eq_true,decide_eq_true_eq] at hc
   exact absurd he hc.2
  ·rename_i hc
   rw [if_neg hc]
   exact named_sz hT hy he
 split at h
 ·obtain ⟨⟨y,s⟩,hy,rfl⟩:=Option.map_eq_some_iff.1 h
  simp only at he ⊢
  obtain ⟨h1,h2⟩:=must_sz he
  obtain ⟨h3,h4⟩:=hT _ _ _ _ _ hy h1
  rw [nx_at] at h4
  rw [h2]
  exact ⟨h3,by omega⟩
 split at h
 ·obtain ⟨⟨y,s⟩,hy,rfl⟩:=Option.map_eq_some_iff.1 h
  simp only at he ⊢
  obtain ⟨h3,h4⟩:=list_sz hT hy he
  rw [nx_at] at h4
  simp only at h4
  exact ⟨h3,by omega⟩
 ·cases h; exact (fail_sz (by decide) he).elim

theorem rest_sz (hT:TSz T):∀ (f deep:Nat) (p:Int) (out:Tm) (now:Int) (st:RSt) (t:Tm) (st':RSt),restR L T f deep p out now st=some (t,st')→st'.e=0→st.e=0∧st.at_+t.size≤st'.at_+out.size
 | 0,_,_,_,_,_,_,_,h,_=>by cases h
 | f+1,deep,p,out,now,st,t,st',h,he=>by
  have hi:(inS L st).e=st.e:=by unfold inS; split <;> rfl
  simp only [restR] at h
  split at h
  ·rename_i h0; cases h; exact absurd he h0
  rename_i h0
  have h0:st.e=0:=by simpa using h0
  split at h
  ·cases h; exact ⟨h0,by rw [inS_at]; omega⟩
  ·split at h
   ·cases h; exact ⟨h0,by rw [inS_at]; omega⟩
   ·obtain ⟨⟨x,s⟩,hx,h⟩:=Option.bind_eq_some_iff.1 h
    obtain ⟨h1,h2⟩:=rest_sz hT f deep p _ _ _ _ _ h he
    obtain ⟨h3,h4⟩:=hT _ _ _ _ _ hx h1
    rw [nx_at,inS_at] at h4
    rw [fnT_size] at h2
    simp only [Tm.sizeL] at h2
    exact ⟨h0,by omega⟩
end

theorem term_sz (sw:Bool) (S:Bs) (L:List Tk):∀ n,TSz (termR sw S L n)
 | 0=>fun _ _ _ _ _ h _=>by cases h
 | n+1=>fun deep p st t st' h he=>by
  simp only [termR] at h
  obtain ⟨x,hx,h⟩:=Option.bind_eq_some_iff.1 h
  obtain ⟨h1,h2⟩:=rest_sz (term_sz sw S L n) _ _ _ _ _ _ _ _ h he
  obtain ⟨h3,h4⟩:=opnd_sz (term_sz sw S L n) hx h1
  exact ⟨h3,by omega⟩
end PSL

namespace PSL
open Go

def SB (B:Nat) (t:Tm):Prop:=∀ d e,e∈Tm.els t d→e.2.s.size≤B

theorem mem_elsL:∀ {l:List Tm} {d:Int} {e:Int × Tm},e∈Tm.elsL l d→∃ x∈l,e∈Tm.els x d
 | [],_,_,h=>by simp [Tm.elsL] at h
 | x::l,d,e,h=>by
  simp only [Tm.elsL,List.mem_append] at h
  rcases h with h | h
  ·exact ⟨x,by simp,h⟩
  ·obtain ⟨y,hy,h⟩:=mem_elsL h
   exact ⟨y,by simp [hy],h⟩

theorem SB.mk' {B:Nat} {t:Tm} (h:t.s.size≤B) (hl:∀ x∈t.l,SB B x):SB B t:=fun d e he=>by
 rw [Tm.els_eq] at he
 rcases List.mem_cons.1 he with rfl | he
 ·exact h
 ·obtain ⟨x,hx,he⟩:=mem_elsL he
  exact hl x hx _ _ he
theorem SB.fn {B:Nat} {s:Bs} {l:List Tm} (h:s.length≤B) (hl:∀ x∈l,SB B x):SB B (fnT s l):=.mk' (by show (Tx s).size≤B; rw [Tx_size]; exact h) hl
def TSB (B:Nat) (T:TF):Prop:=∀ deep p st t st',T deep p st=some (t,st')→SB B t
section
variable {S:Bs} {L:List Tk} {T:TF} {st:RSt} {B:Nat}

theorem many_sb (hT:TSB B T):∀ (f deep:Nat) (st:RSt) (acc l:List Tm) (st':RSt),manyR L T f deep st acc=some (l,st')→(∀ x∈acc,SB B x)→∀ x∈l,SB B x
 | 0,_,_,_,_,_,h,_=>by cases h
 | f+1,deep,st,acc,l,st',h,ha=>by
  simp only [manyR] at h
  split at h
  ·obtain ⟨⟨x,s⟩,hx,h⟩:=Option.bind_eq_some_iff.1 h
   refine many_sb hT f deep _ _ _ _ h fun y hy=>?_
   rcases List.mem_append.1 hy with hy | hy
   ·exact ha y hy
   ·rw [List.mem_singleton.1 hy]; exact hT _ _ _ _ _ hx
  ·cases h; exact ha

theorem row_sb (hT:TSB B T) {deep:Nat} {l:List Tm} {st':RSt} (h:rowR L T deep st=some (l,st')):∀ x∈l,SB B x:=by
 obtain ⟨⟨x,s⟩,hx,h⟩:=Option.bind_eq_some_iff.1 h
 exact many_sb hT _ deep _ _ _ _ h fun y hy=>by rw [List.mem_singleton.1 hy]; exact hT _ _ _ _ _ hx
theorem nm_sb (n:Int):SB B (nmT n):=.mk' (Nat.zero_le _) (by simp [nmT,Tm.l])
theorem zero_sb:SB B zeroT:=.mk' (Nat.zero_le _) (by simp [zeroT,Tm.l])

theorem consT_sb (hB:2≤B) {l:List Tm} {t:Tm} (hl:∀ x∈l,SB B x) (ht:SB B t):SB B (consT l t):=by
 induction l with
 | nil=>exact ht
 | cons x l ih =>
  exact .fn (by simp; omega) fun y hy=>by
   simp only [List.mem_cons,List.not_mem_nil,or_false] at hy
   rcases hy with rfl | rfl
   ·exact hl _ (by simp)
   ·exact ih fun z hz=>hl z (by simp [hz])

theorem named_sb (hT:TSB B T) {deep:Nat} {p:Int} {t:Tk} (ht:t.text.length≤B) {x:Tm × Int × RSt} (h:namedR S L T deep p t st=some x):SB B x.1:=by
 unfold namedR at h
 split at h
 ·cases h; exact nm_sb _
 split at h
 ·obtain ⟨⟨l,s⟩,hy,rfl⟩:=Option.map_eq_some_iff.1 h
  exact .fn ht (row_sb hT hy)
 split at h
 ·split at h
  ·split at h
   ·cases h; exact zero_sb
   ·obtain ⟨⟨y,s⟩,hy,rfl⟩:=Option.map_eq_some_iff.1 h
    exact .fn ht fun z hz=>by rw [List.mem_singleton.1 hz]; exact hT _ _ _ _ _ hy
  ·cases h; exact .fn ht (by simp)
 ·cases h; exact .fn ht (by simp)
end
end PSL

namespace PSL
open Go
section
variable {S:Bs} {L:List Tk} {T:TF} {st:RSt} {B:Nat}

theorem peek_sb (hL:∀ t∈L,t.text.length≤B):(peekR L st).text.length≤B:=by
 unfold peekR
 split
 ·exact Nat.zero_le _
 ·cases h:L[st.at_]? with
  | none=>exact Nat.zero_le _
  | some t=>exact hL t (List.mem_of_getElem? h)

theorem list_sb (hB:2≤B) (hT:TSB B T) {deep:Nat} {x:Tm × RSt} (h:listR S L T deep st=some x):SB B x.1:=by
 obtain ⟨⟨l,s⟩,hy,h⟩:=Option.bind_eq_some_iff.1 h
 simp only at h
 split at h
 ·obtain ⟨⟨z,s2⟩,hz,rfl⟩:=Option.map_eq_some_iff.1 h
  exact consT_sb hB (row_sb hT hy) (hT _ _ _ _ _ hz)
 ·cases h
  exact consT_sb hB (row_sb hT hy) (.fn (by simp; omega) (by simp))

theorem opnd_sb (hB:2≤B) (hL:∀ t∈L,t.text.length≤B) (hT:TSB B T) {sw:Bool} {deep:Nat} {p:Int} {x:Tm × Int × RSt} (h:opndR sw S L T deep p st=some x):SB B x.1:=by
 unfold opndR at h
 split at h
 ·cases h; exact zero_sb
 split at h
 ·cases h; exact nm_sb _
 split at h
 ·cases h; exact .mk' (Nat.zero_le _) (by simp [Tm.vT,Tm.l])
 split at h
 ·obtain ⟨y,hy,rfl⟩:=Option.map_eq_some_iff.1 h
  split
  ·exact zero_sb
  ·exact named_sb hT (peek_sb hL) hy
 split at h
 ·obtain ⟨⟨y,s⟩,hy,rfl⟩:=Option.map_eq_some_iff.1 h
  exact hT _ _ _ _ _ hy
 split at h
 ·obtain ⟨⟨y,s⟩,hy,rfl⟩:=Option.map_eq_some_iff.1 h
  exact list_sb hB hT hy
 ·cases h; exact zero_sb

theorem rest_sb (hL:∀ t∈L,t.text.length≤B) (hT:TSB B T):∀ (f deep:Nat) (p:Int) (out:Tm) (now:Int) (st:RSt) (t:Tm) (st':RSt),restR L T f deep p out now st=some (t,st')→SB B out→SB B t
 | 0,_,_,_,_,_,_,_,h,_=>by cases h
 | f+1,deep,p,out,now,st,t,st',h,ho=>by
  simp only [restR] at h
  split at h
  ·cases h; exact ho
  split at h
  ·cases h; exact ho
  ·split at h
   ·cases h; exact ho
   ·obtain ⟨⟨x,s⟩,hx,h⟩:=Option.bind_eq_some_iff.1 h
    refine rest_sb hL hT f deep p _ _ _ _ _ h (.fn (peek_sb hL) fun y hy=>?_)
    simp only [List.mem_cons,List.not_mem_nil,or_false] at hy
    rcases hy with rfl | rfl
    ·exact ho
    ·exact hT _ _ _ _ _ hx
end

theorem term_sb {B:Nat} (hB:2≤B) (sw:Bool) (S:Bs) (L:List Tk) (hL:∀ t∈L,t.text.length≤B):∀ n,TSB B (termR sw S L n)
 | 0=>fun _ _ _ _ _ h=>by cases h
 | n+1=>fun deep p st t st' h=>by
  simp only [termR] at h
  obtain ⟨x,hx,h⟩:=Option.bind_eq_some_iff.1 h
  exact rest_sb hL (term_sb hB sw S L hL n) _ _ _ _ _ _ _ _ h (opnd_sb hB hL (term_sb hB sw S L hL n) hx)
end PSL

namespace PSL
open Go

structure TkG (L:Bs) (t:Tk):Prop where
 lo:0≤t.n
 hi:t.n≤9223372036854775807
 len:t.text.length≤L.length+20
 var:t.kind=2→t.text≠[]

theorem TkG.name {L:Bs} {kind:Int} {text:Bs} {i to:Nat} {t:Tk} {j:Nat} (h:nameT L kind text i to=some (t,j)):TkG L t:=by
 obtain ⟨_,rfl,l1,l2⟩:=nameT_to h
 exact ⟨by simp,by simp,by simp only; omega,fun _ h=>by simp only at h; rw [h] at l1; simp at l1⟩
theorem cutB_le (L:Bs) (i j:Nat):(cutB L i j).length≤L.length:=by unfold cutB; simp only [List.length_take,List.length_drop]; omega

theorem numT_le {D:Bs} {n:Nat} (h:numT D=some n):n≤9223372036854775807:=by
 unfold numT at h; split at h
 ·cases h
 ·rename_i hc; cases h; omega

theorem oneT_good {L:Bs} {i:Nat} {t:Tk} {j:Nat} (h:oneT L i=some (t,j)):TkG L t:=by
 unfold oneT at h
 split at h
 ·cases h
 split at h; · exact .name h
 split at h; · exact .name h
 split at h
 ·cases hn:numT (cutB L i (runB dgC L i)) with
  | none=>rw [hn] at h; cases h
  | some n =>
  rw [hn] at h
  cases h
  exact ⟨by simp,by have:=numT_le hn; simp only; omega,by have:=cutB_le L i (runB dgC L i); simp only; omega,fun h=>by cases h⟩
 split at h
 ·split at h
  ·exact .name h
  ·cases h
 split at h; · exact .name h
 split at h; · exact .name h
 split at h
 ·cases h
  exact ⟨by simp,by simp,by simp,fun h=>by cases h⟩
 split at h
 ·cases h
  exact ⟨by simp,by simp,by simp,fun h=>by cases h⟩
 exact .name h

theorem toks_good:∀ (f:Nat) (L:Bs) (i:Nat) (l:List Tk),toks f L i=.ok l→∀ t∈l,TkG L t
 | 0,L,i,l,h=>by simp only [toks,Except.ok.injEq] at h; subst h; simp
 | f+1,L,i,l,h=>by
  simp only [toks] at h
  split at h
  ·split at h
   ·cases h
   ·rename_i t to ho
    split at h
    ·rename_i l' hl
     cases h
     intro u hu
     rcases List.mem_cons.1 hu with rfl | hu
     ·exact oneT_good ho
     ·exact toks_good f L to l' hl u hu
    ·cases h
  ·cases h; simp

theorem read_small {S:Bs} {L:List Tk} (hL:L.length≤9000) (hS:S.length≤9000) (hg:∀ t∈L,TkG S t) {sw:Bool} {n deep:Nat} {p:Int} {st st':RSt} {t:Tm} (hi:RInv L st) (h:termR sw S L n deep p st=some (t,st')) (he:st'.e=0):t.size≤9000∧∀ d e,e∈t.els d→e.2.s.size≤9020:=by
 have h1:=(term_sz sw S L n _ _ _ _ _ h he).2
 have h2:=(term_inv sw S L n _ _ _ _ _ h hi).2
 have h3:=term_sb (B:=9020) (by omega) sw S L (fun t ht=>by have:=(hg t ht).len; omega) n
 exact ⟨by omega,h3 _ _ _ _ _ h⟩
end PSL

namespace PSL
open Go

def TokRel (ex:Bool) (d:Int) (a b:Tk):Prop :=
 (b.kind=a.kind∧b.text=a.text∧b.n=a.n∧b.opn=a.opn∧(a.kind≠0→b.at_=a.at_+d))∨(ex=false∧a.kind=5∧b.kind=4∧b.text=[41])

structure Sim (ex:Bool) (m k δ:Nat) (d:Int) (S1:Bs) (L1:List Tk) (S2:Bs) (L2:List Tk):Prop where
 tok:∀ i,(ex=true∨i≤m)→TokRel ex d ((L1[i]?).getD zeroTk) ((L2[i+k]?).getD zeroTk)
 plc:ex=true→∀ i,plcR L2 S2.length (i+k)=plcR L1 S1.length i+d
 byte:∀ i t,L1[i]? = some t→(ex=true∨i≤m)→t.kind=1→decide (S2[(t.at_+d).toNat]? = some 45)=decide (S1[t.at_.toNat]? = some 45)
 deep:δ=0∨(ex=false∧m+δ≤999)
 len:L1.length≤L2.length

structure StR (k:Nat) (d:Int) (a b:RSt):Prop where
 at_:b.at_=a.at_+k
 names:b.names=a.names
 e:b.e=a.e
 bad:a.e≠0→b.bad=a.bad+d
def Fini (ex:Bool) (m:Nat) (st:RSt):Prop:=ex=true∨(st.e=0∧st.at_≤m)
section
variable {ex:Bool} {m k δ:Nat} {d:Int} {S1 S2:Bs} {L1 L2:List Tk} {T1 T2:TF} {a b:RSt} {S:Bs} {L:List Tk} {T:TF}
theorem Fini.no {n:Nat} {c:Int} (hc:c≠0) (h:Fini ex m (failR L n a c)):ex=true:=h.resolve_right fun h=>flN hc h.1
theorem StR.nx (r:StR k d a b):StR k d (nxR a) (nxR b):=⟨by simp only [nxR,r.at_]; omega,r.names,r.e,r.bad⟩

theorem StR.var (r:StR k d a b) (s:Bs):(varR b s).1=(varR a s).1∧StR k d (varR a s).2 (varR b s).2:=by
 unfold varR
 rw [r.names]
 split
 ·exact ⟨rfl,r⟩
 ·exact ⟨rfl,r.at_,by simp only,r.e,r.bad⟩
theorem begS_eq (L:List Tk) (st:RSt):∃ y,begS L st={ st with lay:=y }:=by unfold begS; split; exact ⟨_,rfl⟩; exact ⟨_,rfl⟩
theorem inS_eq (L:List Tk) (st:RSt):∃ y,inS L st={ st with lay:=y }:=by unfold inS; split; exact ⟨_,rfl⟩; exact ⟨_,rfl⟩

theorem StR.beg (r:StR k d a b):StR k d (begS L1 a) (begS L2 b):=by
 obtain ⟨y,hy⟩:=begS_eq L1 a
 obtain ⟨z,hz⟩:=begS_eq L2 b
 rw [hy,hz]; exact ⟨r.at_,r.names,r.e,r.bad⟩

theorem StR.ins (r:StR k d a b):StR k d (inS L1 a) (inS L2 b):=by
 obtain ⟨y,hy⟩:=inS_eq L1 a
 obtain ⟨z,hz⟩:=inS_eq L2 b
 rw [hy,hz]; exact ⟨r.at_,r.names,r.e,r.bad⟩
variable (H:Sim ex m k δ d S1 L1 S2 L2) (r:StR k d a b)
include H r
end
end PSL

namespace PSL
open Go
section
variable {ex:Bool} {m k δ:Nat} {d:Int} {S1 S2:Bs} {L1 L2:List Tk} {T1 T2:TF} {a b:RSt} (H:Sim ex m k δ d S1 L1 S2 L2)
include H
end
end PSL

namespace PSL
open Go

def endR (right:Tm→Bool) (L:List Tk) (n:Nat) (from_:Nat) (x:Tm) (s:RSt):RSt :=
 let st2:=if (peekR L s).kind≠5 then failR L n s 2 else s
 if st2.e=0∧right x=false then { st2 with e:=3,bad:=plcR L n from_ } else st2
theorem cls_step (right:Tm→Bool) (L:List Tk) (n:Nat) (T:TF) (f:Nat) (st:RSt) (out:List Clau):clsR right L n T (f+1) st out=if st.at_<L.length then (T 0 1200 { st with names:=[] }).bind fun x=>if (endR right L n st.at_ x.1 x.2).e≠0 then some ([],(endR right L n st.at_ x.1 x.2).bad,(endR right L n st.at_ x.1 x.2).e) else clsR right L n T f (nxR (endR right L n st.at_ x.1 x.2)) (out++[(x.1,(endR right L n st.at_ x.1 x.2).names)]) else some (out,0,0):=rfl

theorem end_ok {right:Tm→Bool} {L:List Tk} {n:Nat} {i:Nat} {x:Tm} {s:RSt} (h:(endR right L n i x s).e=0):s.e=0∧(peekR L s).kind=5∧s.at_<L.length∧right x=true∧endR right L n i x s=s:=by
 unfold endR at h ⊢
 by_cases hk:(peekR L s).kind≠5
 ·simp only [if_pos hk] at h
  split at h
  ·cases h
  ·exact absurd h (flN (by decide))
 ·simp only [if_neg hk] at h ⊢
  have hk:=Decidable.not_not.1 hk
  have hl:=peek_lt (L:=L) (st:=s) (by rw [hk]; decide)
  split at h
  ·cases h
  ·rename_i hr
   rw [if_neg hr]
   refine ⟨hl.1,hk,hl.2,?_,rfl⟩
   cases hx:right x with
   | true=>rfl
   | false=>exact absurd ⟨hl.1,hx⟩ hr

theorem cls_facts {right:Tm→Bool} {L:List Tk} {n:Nat} {T:TF} {P:Clau→Prop} (hP:∀ st t s,RInv L st→st.names=[]→T 0 1200 st=some (t,s)→s.e=0→right t=true→P (t,s.names)) (hG:TGood L T) (hpl:∀ t∈L,0≤t.at_∧t.at_≤n) (hB:∀ st t s,T 0 1200 st=some (t,s)→0≤st.bad∧st.bad≤n→0≤s.bad∧s.bad≤n):∀ (f:Nat) (st:RSt) (out c:List Clau) (q e:Int),st.at_≤L.length→0≤st.bad∧st.bad≤n→clsR right L n T f st out=some (c,q,e)→(e≠0→c=[])∧(e=0→q=0∧∃ l,c=out++l∧(∀ x∈l,P x)∧(st.at_<L.length→l≠[]))∧0≤q∧q≤n
 | 0,_,_,_,_,_,_,_,h=>by cases h
 | f+1,st,out,c,q,e,hat,hbad,h=>by
  rw [cls_step] at h
  by_cases hl:st.at_<L.length
  ·rw [if_pos hl] at h
   obtain ⟨⟨x,s⟩,hx,h⟩:=Option.bind_eq_some_iff.1 h
   simp only at h
   have hpc:∀ i,0≤plcR L n i∧plcR L n i≤n:=by
    intro i; unfold plcR
    split
    ·rename_i t ht; exact hpl t (List.mem_of_getElem? ht)
    ·exact ⟨Int.natCast_nonneg _,Int.le_refl _⟩
   have hbs:=hB _ _ _ hx hbad
   by_cases he:(endR right L n st.at_ x s).e≠0
   ·rw [if_pos he] at h
    have hb:0≤(endR right L n st.at_ x s).bad∧(endR right L n st.at_ x s).bad≤n:=by
     have h2:0≤(if (peekR L s).kind≠5 then failR L n s 2 else s).bad∧(if (peekR L s).kind≠5 then failR L n s 2 else s).bad≤n:=by
      split
      ·unfold failR; split
       ·exact hpc _
       ·exact hbs
      ·exact hbs
     unfold endR
     simp only
     generalize (if (peekR L s).kind≠5 then failR L n s 2 else s)=u at h2
     split
     ·exact hpc _
     ·exact h2
    cases h
    exact ⟨fun _=>rfl,fun h=>absurd h he,hb⟩
   ·rw [if_neg he] at h
    obtain ⟨e1,e2,e3,e4,e5⟩:=end_ok (Decidable.not_not.1 he)
    rw [e5] at h
    obtain ⟨h1,h2,h3⟩:=cls_facts hP hG hpl hB f (nxR s) _ _ _ _ (by rw [nx_at]; omega) hbs h
    refine ⟨h1,fun he=>?_,h3⟩
    obtain ⟨g1,l,g2,g3,_⟩:=h2 he
    exact ⟨g1,(x,s.names)::l,by rw [g2,List.append_assoc]; rfl,fun y hy=>by
     rcases List.mem_cons.1 hy with rfl | hy
     ·exact hP _ _ _ (⟨Nat.zero_le _,hat⟩:RInv L { st with names:=[] }) rfl hx e1 e4
     ·exact g3 y hy,fun _=>by simp⟩
  ·rw [if_neg hl] at h
   cases h
   exact ⟨fun h=>absurd rfl h,fun _=>⟨rfl,[],by simp,by simp,fun h=>absurd h hl⟩,Int.le_refl _,Int.natCast_nonneg _⟩
end PSL

namespace PSL
open Go
def TBd (B:Int→Prop) (T:TF):Prop:=∀ deep p st t st',T deep p st=some (t,st')→B st.bad→B st'.bad
section
variable {B:Int→Prop} {S:Bs} {L:List Tk} {T:TF} {st:RSt}

theorem fail_bd (hB:∀ i,B (plcR L S.length i)) {c:Int} (h:B st.bad):B (failR L S.length st c).bad:=by
 unfold failR; split
 ·exact hB _
 ·exact h

theorem must_bd (hB:∀ i,B (plcR L S.length i)) {s:Bs} (h:B st.bad):B (mustR L S.length st s).bad:=by
 unfold mustR; split
 ·exact h
 ·exact fail_bd hB h
theorem beg_bd:(begS L st).bad=st.bad:=by unfold begS; split <;> rfl
theorem ins_bd:(inS L st).bad=st.bad:=by unfold inS; split <;> rfl

theorem many_bd (hT:TBd B T):∀ (f deep:Nat) (st:RSt) (acc:List Tm) (l:List Tm) (st':RSt),manyR L T f deep st acc=some (l,st')→B st.bad→B st'.bad
 | 0,_,_,_,_,_,h,_=>by cases h
 | f+1,deep,st,acc,l,st',h,hb=>by
  simp only [manyR] at h
  split at h
  ·obtain ⟨x,hx,h⟩:=Option.bind_eq_some_iff.1 h
   exact many_bd hT f deep _ _ _ _ h (hT _ _ _ _ _ hx hb)
  ·cases h; exact hb

theorem row_bd (hT:TBd B T) {deep:Nat} {l:List Tm} {st':RSt} (h:rowR L T deep st=some (l,st')) (hb:B st.bad):B st'.bad:=by
 obtain ⟨x,hx,h⟩:=Option.bind_eq_some_iff.1 h
 exact many_bd hT _ _ _ _ _ _ h (hT _ _ _ _ _ hx hb)

theorem named_bd (hB:∀ i,B (plcR L S.length i)) (hT:TBd B T) {deep:Nat} {p:Int} {t:Tk} {x:Tm × Int × RSt} (h:namedR S L T deep p t st=some x) (hb:B st.bad):B x.2.2.bad:=by
 unfold namedR at h
 split at h
 ·cases h; exact hb
 split at h
 ·obtain ⟨y,hy,rfl⟩:=Option.map_eq_some_iff.1 h
  exact must_bd hB (row_bd hT hy (must_bd hB hb))
 split at h
 ·split at h
  ·split at h
   ·cases h
    exact fail_bd hB (by simp only; rw [beg_bd]; exact hb)
   ·obtain ⟨y,hy,rfl⟩:=Option.map_eq_some_iff.1 h
    exact hT _ _ _ _ _ hy (by rw [beg_bd]; exact hb)
  ·cases h; simp only; rw [beg_bd]; exact hb
 ·cases h; exact hb

theorem list_bd (hB:∀ i,B (plcR L S.length i)) (hT:TBd B T) {deep:Nat} {x:Tm × RSt} (h:listR S L T deep st=some x) (hb:B st.bad):B x.2.bad:=by
 obtain ⟨y,hy,h⟩:=Option.bind_eq_some_iff.1 h
 have h1:=row_bd hT hy hb
 split at h
 ·obtain ⟨z,hz,rfl⟩:=Option.map_eq_some_iff.1 h
  exact must_bd hB (hT _ _ _ _ _ hz h1)
 ·cases h; exact must_bd hB h1

theorem opnd_bd (hB:∀ i,B (plcR L S.length i)) (hT:TBd B T) {sw:Bool} {deep:Nat} {p:Int} {x:Tm × Int × RSt} (h:opndR sw S L T deep p st=some x) (hb:B st.bad):B x.2.2.bad:=by
 unfold opndR at h
 split at h
 ·cases h; exact fail_bd hB hb
 split at h
 ·cases h; exact hb
 split at h
 ·cases h; simp only; rw [(var_at _).2.2.2.2]; exact hb
 split at h
 ·obtain ⟨y,hy,rfl⟩:=Option.map_eq_some_iff.1 h
  have:=named_bd hB hT hy hb
  split <;> exact this
 split at h
 ·obtain ⟨y,hy,rfl⟩:=Option.map_eq_some_iff.1 h
  exact must_bd hB (hT _ _ _ _ _ hy hb)
 split at h
 ·obtain ⟨y,hy,rfl⟩:=Option.map_eq_some_iff.1 h
  exact list_bd hB hT hy hb
 ·cases h; exact fail_bd hB hb

theorem rest_bd (hT:TBd B T):∀ (f deep:Nat) (p:Int) (out:Tm) (now:Int) (st:RSt) (t:Tm) (st':RSt),restR L T f deep p out now st=some (t,st')→B st.bad→B st'.bad
 | 0,_,_,_,_,_,_,_,h,_=>by cases h
 | f+1,deep,p,out,now,st,t,st',h,hb=>by
  simp only [restR] at h
  split at h
  ·cases h; exact hb
  split at h
  ·cases h; rw [ins_bd]; exact hb
  ·split at h
   ·cases h; rw [ins_bd]; exact hb
   ·obtain ⟨x,hx,h⟩:=Option.bind_eq_some_iff.1 h
    exact rest_bd hT f deep p _ _ _ _ _ h (hT _ _ _ _ _ hx (by show B (inS L st).bad; rw [ins_bd]; exact hb))

theorem term_bd (hB:∀ i,B (plcR L S.length i)) (sw:Bool):∀ n,TBd B (termR sw S L n)
 | 0=>fun _ _ _ _ _ h=>by cases h
 | n+1=>fun deep p st t st' h hb=>by
  simp only [termR] at h
  obtain ⟨x,hx,h⟩:=Option.bind_eq_some_iff.1 h
  exact rest_bd (term_bd hB sw n) _ _ _ _ _ _ _ _ h (opnd_bd hB (term_bd hB sw n) hx hb)
end

def extV:Nat→List Int→Option Nat
 | m,[]=>some m
 | m,v::r=>if 0≤v∧v<m then extV m r else if v=m then extV (m+1) r else none

theorem extV_app:∀ (a b:List Int) (m:Nat),extV m (a++b)=(extV m a).bind fun k=>extV k b
 | [],_,_=>rfl
 | v::r,b,m=>by
  simp only [List.cons_append,extV]
  split
  ·exact extV_app r b m
  ·split
   ·exact extV_app r b _
   ·rfl
theorem extV_app' {a b:List Int} {m k j:Nat} (h:extV m a=some k) (h2:extV k b=some j):extV m (a++b)=some j:=by rw [extV_app,h]; exact h2
def TNum (T:TF):Prop:=∀ deep p st t st',T deep p st=some (t,st')→st'.e=0→extV st.names.length (Tm.occ t)=some st'.names.length
section
variable {S:Bs} {L:List Tk} {T:TF} {st:RSt}
theorem fail_nm {n:Nat} {c:Int}:(failR L n st c).names=st.names:=by unfold failR; split <;> rfl

theorem must_nm {n:Nat} {s:Bs}:(mustR L n st s).names=st.names:=by
 unfold mustR; split
 ·rfl
 ·exact fail_nm
theorem beg_nm:(begS L st).names=st.names:=by unfold begS; split <;> rfl
theorem ins_nm:(inS L st).names=st.names:=by unfold inS; split <;> rfl

theorem occL_app:∀ (a b:List Tm),Tm.occL (a++b)=Tm.occL a++Tm.occL b
 | [],_=>rfl
 | x::a,b=>by simp only [List.cons_append,Tm.occL,occL_app a b,List.append_assoc]
theorem occ_fn (s:Bs) (l:List Tm):Tm.occ (fnT s l)=Tm.occL l:=by simp [fnT,Tm.occ]

theorem occ_cons (l:List Tm) (t:Tm):Tm.occ (consT l t)=Tm.occL l++Tm.occ t:=by
 induction l with
 | nil=>rfl
 | cons x l ih =>
  show Tm.occ (fnT [46] [x,consT l t])=_
  rw [occ_fn]
  simp only [Tm.occL,ih,List.append_nil,List.append_assoc]
theorem occ_nm (n:Int):Tm.occ (nmT n)=[]:=by simp [nmT,Tm.occ,Tm.occL]
theorem occ_one (x:Tm):Tm.occL [x]=Tm.occ x:=by simp [Tm.occL]

theorem many_num (hT:TNum T) (hZ:TSz T):∀ (f deep:Nat) (st:RSt) (acc:List Tm) (l:List Tm) (st':RSt) (m:Nat),manyR L T f deep st acc=some (l,st')→st'.e=0→extV m (Tm.occL acc)=some st.names.length→extV m (Tm.occL l)=some st'.names.length
 | 0,_,_,_,_,_,_,h,_,_=>by cases h
 | f+1,deep,st,acc,l,st',m,h,he,hm=>by
  simp only [manyR] at h
  split at h
  ·obtain ⟨⟨x,s⟩,hx,h⟩:=Option.bind_eq_some_iff.1 h
   have hs:=(many_sz hZ f deep _ _ _ _ h he).1
   refine many_num hT hZ f deep _ _ _ _ m h he ?_
   rw [occL_app,occ_one]
   exact extV_app' hm (show extV st.names.length _=_ from hT _ _ (nxR st) _ _ hx hs)
  ·cases h; exact hm

theorem row_num (hT:TNum T) (hZ:TSz T) {deep:Nat} {l:List Tm} {st':RSt} (h:rowR L T deep st=some (l,st')) (he:st'.e=0):extV st.names.length (Tm.occL l)=some st'.names.length:=by
 obtain ⟨⟨x,s⟩,hx,h⟩:=Option.bind_eq_some_iff.1 h
 have hs:=(many_sz hZ _ deep _ _ _ _ h he).1
 exact many_num hT hZ _ _ _ _ _ _ _ h he (by rw [occ_one]; exact hT _ _ _ _ _ hx hs)

theorem named_num (hT:TNum T) (hZ:TSz T) {deep:Nat} {p:Int} {t:Tk} {x:Tm × Int × RSt} (h:namedR S L T deep p t st=some x) (he:x.2.2.e=0):extV st.names.length (Tm.occ x.1)=some x.2.2.names.length:=by
 unfold namedR at h
 split at h
 ·cases h; simp only; rw [occ_nm]; rfl
 split at h
 ·obtain ⟨⟨l,s⟩,hy,rfl⟩:=Option.map_eq_some_iff.1 h
  have:=row_num hT hZ hy (must_e he)
  rw [must_nm] at this
  simp only
  rw [occ_fn,must_nm]
  exact this
 split at h
 ·split at h
  ·split at h
   ·cases h; exact absurd he (flN (by decide))
   ·obtain ⟨⟨u,s⟩,hy,rfl⟩:=Option.map_eq_some_iff.1 h
    have:=hT _ _ _ _ _ hy he
    rw [beg_nm] at this
    simp only
    rw [occ_fn,occ_one]
    exact this
  ·cases h; simp only; rw [occ_fn,beg_nm]; rfl
 ·cases h; simp only; rw [occ_fn]; rfl

theorem list_num (hT:TNum T) (hZ:TSz T) {deep:Nat} {x:Tm × RSt} (h:listR S L T deep st=some x) (he:x.2.e=0):extV st.names.length (Tm.occ x.1)=some x.2.names.length:=by
 obtain ⟨⟨l,s⟩,hy,h⟩:=Option.bind_eq_some_iff.1 h
 simp only at h
 split at h
 ·obtain ⟨⟨u,v⟩,hz,rfl⟩:=Option.map_eq_some_iff.1 h
  have e1:=must_e he
  have h2:=hT _ _ _ _ _ hz e1
  have e2:=(hZ _ _ _ _ _ hz e1).1
  have h1:=row_num hT hZ hy e2
  simp only
  rw [occ_cons,must_nm]
  exact extV_app' h1 h2
 ·cases h
  have h1:=row_num hT hZ hy (must_e he)
  simp only
  rw [occ_cons,must_nm,occ_fn]
  exact extV_app' h1 rfl

theorem idxV_lt:∀ {l:List Bs} {s:Bs} {i k:Nat},idxV l s i=some k→i≤k∧k<i+l.length
 | [],_,_,_,h=>by cases h
 | x::l,s,i,k,h=>by
  simp only [idxV] at h
  split at h
  ·cases h; simp
  ·have:=idxV_lt h; simp only [List.length_cons]; omega

theorem var_num (s:Bs):extV st.names.length [(varR st s).1]=some (varR st s).2.names.length:=by
 unfold varR
 split
 ·rename_i i hi
  split at hi
  ·cases hi
  ·have:=idxV_lt hi
   simp only [extV]
   rw [if_pos (by omega)]
 ·simp only [extV]
  rw [if_neg (by omega)]
  simp
theorem occ_v (v:Int):Tm.occ (Tm.vT v)=[v]:=by simp [Tm.vT,Tm.occ]

theorem opnd_num (hT:TNum T) (hZ:TSz T) {sw:Bool} {deep:Nat} {p:Int} {x:Tm × Int × RSt} (h:opndR sw S L T deep p st=some x) (he:x.2.2.e=0):extV st.names.length (Tm.occ x.1)=some x.2.2.names.length:=by
 unfold opndR at h
 split at h
 ·cases h; exact absurd he (flN (by decide))
 split at h
 ·cases h; simp only; rw [occ_nm]; rfl
 split at h
 ·cases h; simp only; rw [occ_v]
  exact var_num (st:=nxR st) _
 split at h
 ·obtain ⟨y,hy,rfl⟩:=Option.map_eq_some_iff.1 h
  have e1:y.2.2.e=0:=by revert he; split <;> exact id
  have:=named_num hT hZ hy e1
  rw [if_neg (by simp [e1])]
  exact this
 split at h
 ·obtain ⟨⟨u,s⟩,hy,rfl⟩:=Option.map_eq_some_iff.1 h
  simp only
  rw [must_nm]
  exact hT _ _ (nxR st) _ _ hy (must_e he)
 split at h
 ·obtain ⟨⟨u,s⟩,hy,rfl⟩:=Option.map_eq_some_iff.1 h
  exact list_num hT hZ hy he
 ·cases h; exact absurd he (flN (by decide))

theorem rest_num (hT:TNum T) (hZ:TSz T):∀ (f deep:Nat) (p:Int) (out:Tm) (now:Int) (st:RSt) (t:Tm) (st':RSt) (m:Nat),restR L T f deep p out now st=some (t,st')→st'.e=0→extV m (Tm.occ out)=some st.names.length→extV m (Tm.occ t)=some st'.names.length
 | 0,_,_,_,_,_,_,_,_,h,_,_=>by cases h
 | f+1,deep,p,out,now,st,t,st',m,h,he,hm=>by
  simp only [restR] at h
  split at h
  ·cases h; exact hm
  split at h
  ·cases h; rw [ins_nm]; exact hm
  ·split at h
   ·cases h; rw [ins_nm]; exact hm
   ·obtain ⟨⟨x,s⟩,hx,h⟩:=Option.bind_eq_some_iff.1 h
    have hs:=(rest_sz hZ _ _ _ _ _ _ _ _ h he).1
    refine rest_num hT hZ f deep p _ _ _ _ _ m h he ?_
    rw [occ_fn]
    have h2:=hT _ _ _ _ _ hx hs
    rw [show (nxR (inS L st)).names=st.names from ins_nm] at h2
    show extV m (Tm.occ out++(Tm.occ x++[]))=_
    rw [List.append_nil]
    exact extV_app' hm h2

theorem term_num (sw:Bool) (S:Bs) (L:List Tk):∀ n,TNum (termR sw S L n)
 | 0=>fun _ _ _ _ _ h=>by cases h
 | n+1=>fun deep p st t st' h he=>by
  simp only [termR] at h
  obtain ⟨⟨x,q,s⟩,hx,h⟩:=Option.bind_eq_some_iff.1 h
  have hZ:=term_sz sw S L n
  have hs:=(rest_sz hZ _ _ _ _ _ _ _ _ h he).1
  exact rest_num (term_num sw S L n) hZ _ _ _ _ _ _ _ _ _ h he (opnd_num (term_num sw S L n) hZ hx hs)
end
end PSL

namespace PSL
open Go
def idn (m:Nat):List Int:=(List.range m).map Int.ofNat

theorem idn_mem {m:Nat} {v:Int}:v∈idn m↔0≤v∧v<m:=by
 unfold idn
 simp only [List.mem_map,List.mem_range]
 exact ⟨fun ⟨a,h,e⟩=>by rw [← e]; exact ⟨Int.natCast_nonneg _,by show (a:Int)<m; omega⟩,fun h=>⟨v.toNat,by omega,by show ((v.toNat:Nat):Int)=v; omega⟩⟩
theorem idn_len (m:Nat):(idn m).length=m:=by simp [idn]
theorem idn_snoc (m:Nat):idn m++[(m:Int)]=idn (m+1):=by unfold idn; rw [List.range_succ,List.map_append]; rfl

theorem idn_at (m:Nat) {v:Int} (h:0≤v∧v<m):atI (idn m) v 0=v:=by
 have key:∀ (k s:Nat) (v:Int),(s:Int)≤v→v<((s+k:Nat):Int)→atI ((List.range' s k).map Int.ofNat) v s=v:=by
  intro k
  induction k with
  | zero=>intro s v h1 h2; omega
  | succ k ih =>
   intro s v h1 h2
   simp only [List.range'_succ,List.map_cons,atI]
   split
   ·rename_i e; exact e
   ·rename_i e
    have e:¬ (s:Int)=v:=e
    have:=ih (s+1) v (by omega) (by omega)
    rw [show ((s+1:Nat):Int)=(s:Int)+1 by omega] at this
    exact this
 have:=key m 0 v (by simpa using h.1) (by simpa using h.2)
 unfold idn
 rw [List.range_eq_range']
 exact this

theorem ext_once:∀ (l:List Int) (k m:Nat),extV k l=some m→l.foldl addV (idn k)=idn m∧k≤m∧∀ v∈l,0≤v∧v<m
 | [],k,m,h=>by cases h; exact ⟨rfl,Nat.le_refl _,by simp⟩
 | v::l,k,m,h=>by
  simp only [extV] at h
  simp only [List.foldl_cons]
  split at h
  ·rename_i hv
   obtain ⟨h1,h2,h3⟩:=ext_once l k m h
   have:addV (idn k) v=idn k:=by unfold addV; rw [if_pos (by simpa using idn_mem.2 hv)]
   rw [this]
   exact ⟨h1,h2,fun w hw=>by
    rcases List.mem_cons.1 hw with rfl | hw
    ·exact ⟨hv.1,by omega⟩
    ·exact h3 w hw⟩
  ·rename_i hv
   split at h
   ·rename_i he
    obtain ⟨h1,h2,h3⟩:=ext_once l (k+1) m h
    have:addV (idn k) v=idn (k+1):=by
     unfold addV
     rw [if_neg (by simpa using fun h=>hv (idn_mem.1 h)),he,idn_snoc]
    rw [this]
    exact ⟨h1,by omega,fun w hw=>by
     rcases List.mem_cons.1 hw with rfl | hw
     ·exact ⟨by omega,by omega⟩
     ·exact h3 w hw⟩
   ·cases h

theorem num_read {t:Tm} {m:Nat} (hr:t.rightB=true) (h:extV 0 (Tm.occ t)=some m):numberT [t]=([t],(m:Int),0):=by
 obtain ⟨h1,_,h3⟩:=ext_once _ _ _ h
 have hf:Tm.fairRL [t]=true:=fairL_of (by simpa using hr)
 have hv:varsT [t]=idn m:=by
  rw [varsT_once hf]
  show (Tm.occL [t]).foldl addV []=_
  rw [show Tm.occL [t]=Tm.occ t by simp [Tm.occL]]
  exact h1
 unfold numberT
 rw [if_pos (by simp [rightT_eq,hr]),hv,idn_len]
 have:Tm.turnTL (placeG (idn m)) [t]=[t]:=by
  show [Tm.turnT (placeG (idn m)) t]=[t]
  have h2:=Tm.turn_congr (g:=placeG (idn m)) (g':=fun n=>n) t (right_fair hr) fun v hv=>by
   have:=idn_at m (h3 v hv)
   unfold placeG
   rw [this,if_neg (by have:=(h3 v hv).1; omega)]
  rw [h2,Tm.turn_self]
 rw [this]

theorem tok_ok {S:Bs} (h:(tokT S).2.2=0):S.length≤8000∧toks (S.length+1) S 0=.ok (tokT S).1∧tokT S=((tokT S).1,0,0):=by
 unfold tokT at h ⊢
 split at h
 ·cases h
 ·rename_i hl
  rw [if_neg hl]
  cases ht:toks (S.length+1) S 0 with
  | ok l=>exact ⟨by omega,rfl,rfl⟩
  | error j=>rw [ht] at h; cases h

theorem tok_bad {S:Bs} (h:(tokT S).2.2≠0):(tokT S).1=[]∧0≤(tokT S).2.1∧(tokT S).2.1≤S.length:=by
 unfold tokT at h ⊢
 split at h
 ·rename_i hl
  rw [if_pos hl]; exact ⟨rfl,by simp,by simp⟩
 ·rename_i hl
  rw [if_neg hl]
  cases ht:toks (S.length+1) S 0 with
  | ok l=>rw [ht] at h; exact absurd rfl h
  | error j =>
   have:=toks_bad _ _ _ _ ht
   exact ⟨rfl,by simp only; omega,by simp only; omega⟩

theorem toks_plc {S:Bs} {l:List Tk} (h:toks (S.length+1) S 0=.ok l):∀ t∈l,0≤t.at_∧t.at_<S.length:=fun t ht=>by
 have:=((toks_place _ _ _ _ h).1 t ht).lo
 have:=((toks_place _ _ _ _ h).1 t ht).hi
 omega

theorem cls_count {right:Tm→Bool} {L:List Tk} {n:Nat} {T:TF}:∀ (f:Nat) (st:RSt) (out c:List Clau) (q e:Int),clsR right L n T f st out=some (c,q,e)→c.length≤out.length+f
 | 0,_,_,_,_,_,h=>by cases h
 | f+1,st,out,c,q,e,h=>by
  rw [cls_step] at h
  split at h
  ·obtain ⟨⟨x,s⟩,hx,h⟩:=Option.bind_eq_some_iff.1 h
   simp only at h
   split at h
   ·cases h; simp
   ·have:=cls_count f _ _ _ _ _ h
    simp only [List.length_append,List.length_singleton] at this
    omega
  ·cases h; omega

theorem clau_count {right:Tm→Bool} {sw:Bool} {S:Bs} {c:List Clau} {q e:Int} (h:clauR right sw S=some (c,q,e)):c.length≤9000:=by
 unfold clauR at h
 by_cases he:(tokT S).2.2≠0
 ·rw [if_pos he] at h; cases h; simp
 ·rw [if_neg he] at h
  obtain ⟨h8,ht,_⟩:=tok_ok (Decidable.not_not.1 he)
  have:=toks_len _ S 0 _ ht
  have:=cls_count _ _ _ _ _ _ h
  simp only [List.length_nil] at this
  omega

structure ClG (x:Clau):Prop where
 right:x.1.rightB=true
 num:numberT [x.1]=([x.1],(x.2.length:Int),0)
 few:x.2.length≤9000

theorem clau_facts {sw:Bool} {S:Bs} (hS:S.length≤9000) {c:List Clau} {q e:Int} (h:clauR rightT sw S=some (c,q,e)):(e≠0→c=[])∧(e=0→q=0∧∀ x∈c,ClG x)∧0≤q∧q≤S.length:=by
 unfold clauR at h
 by_cases he:(tokT S).2.2≠0
 ·rw [if_pos he] at h
  have hb:=tok_bad he
  cases h
  exact ⟨fun _=>rfl,fun h=>absurd h he,hb.2⟩
 ·rw [if_neg he] at h
  obtain ⟨h8,ht,_⟩:=tok_ok (Decidable.not_not.1 he)
  have hpl:=toks_plc ht
  have hlen:=toks_len _ S 0 _ ht
  obtain ⟨h1,h2,h3⟩:=cls_facts (P:=ClG) (fun st t s hi hn hx he hr=>by
   have h1:=(term_inv sw S _ _ _ _ _ _ _ hx hi)
   have h2:=term_num sw S _ _ _ _ _ _ _ hx he
   rw [hn] at h2
   rw [rightT_eq] at hr
   exact ⟨hr,num_read hr h2,by have:=h1.1; have:=h1.2; simp only; omega⟩) (term_inv sw S _ _) (n:=S.length) (fun t ht=>by have:=hpl t ht; omega)
   (fun st t s hx hb=>term_bd (B:=fun b=>0≤b∧b≤(S.length:Int)) (fun i=>by
    unfold plcR; split
    ·rename_i t ht'; have:=hpl t (List.mem_of_getElem? ht'); exact ⟨this.1,by omega⟩
    ·exact ⟨Int.natCast_nonneg _,Int.le_refl _⟩) sw _ _ _ _ _ _ hx hb) _ _ _ _ _ _ (Nat.zero_le _) ⟨Int.le_refl _,Int.natCast_nonneg _⟩ h
  exact ⟨h1,fun he=>by
   obtain ⟨g1,l,g2,g3,_⟩:=h2 he
   refine ⟨g1,?_⟩
   rw [g2]
   simpa using g3,h3⟩
end PSL
