import Derived.Test.YtcgkgofmldhokaaGreatM3
import Derived.Test.YtcgkgofmldhokaaGreatPslB
namespace Go.Proofs.YtcgkgofmldhokaaGreat
open Go PSL Go.Proofs

set_option maxRecDepth 100000 in
theorem refFewG_ok (l:List Gl):∀ (m d:Int),(∀ g∈l,g.Ok)→l.length≤140737488355328→-1000≤d∧d≤1000→PCtr Tryz.prog 62 [.d (.sl (Gl.rows l)),iV m,iV d] (iV (fewGL l m d)):=by
 refine Gl.indL (p:=fun l=>∀ (m d:Int),(∀ g∈l,g.Ok)→l.length≤140737488355328→-1000≤d∧d≤1000→PCtr Tryz.prog 62 [.d (.sl (Gl.rows l)),iV m,iV d] (iV (fewGL l m d))) (fun l hsub=>?_) l
 intro m d hok hlen hd0
 have hrl:=Gl.rows_length l
 refine PCtr.of_R (pf:=fun _=>.still) tyOk mixed Tryz.func62 rfl (by kernel_rfl) (by kernel_rfl) (by simp [Tryz.ntmps62]) fun w S hg=>?_
 refine R_run hg.ok 1000 rfl rfl ?_
 by_cases hd:d<1
 ·refine R_if rfl rfl (fun _=>?_) (fun h=>absurd (of_decide_eq_false h) (by omega)) <;> refine R_run hg.ok 1000 rfl rfl ?_
  refine R_ret hg 5 rfl rfl ?_
  unfold fewGL; rw [if_pos hd]; rfl
 refine R_if rfl rfl (fun h=>absurd (of_decide_eq_true h) (by omega)) (fun _=>?_) <;> refine R_run hg.ok 1000 rfl rfl ?_
 have hfe:fewGL l m d=fewGo l m d:=by unfold fewGL; rw [if_neg hd]
 rw [hfe]
 have hwd:IntKind.i64.wrap (d - 1)=d - 1:=w64 (by omega) (by omega)
 refine R_loop (fun x:Nat × Int=>([(0,.d (.sl (Gl.rows l))),(1,iV x.2),(2,iV d),(7,iV x.1)],[])) (fun x=>x.1≤l.length∧fewGo l m d=fewGo (l.drop x.1) x.2 d) (fun x=>l.length - x.1) (0,m) ⟨Nat.zero_le _,rfl⟩ ⟨.refl _,.refl _,.refl _,.refl _,trivial⟩ rfl ?_
 rintro ⟨k,q⟩ ⟨hk,hm⟩
 have hm:fewGo l m d=fewGo (l.drop k) q d:=hm
 have hk:k≤l.length:=hk
 refine R_run hg.ok 1000 rfl rfl ?_
 refine R_if rfl rfl (fun h=>?_) (fun h=>?_) <;> refine R_run hg.ok 1000 rfl rfl ?_
 rotate_left
 ·have hk1:l.length≤k:=ge_dec h (by rw [hrl])
  refine R_ret hg 5 rfl rfl ?_
  rw [hm,List.drop_eq_nil_of_le hk1]; rfl
 have hk1:k<l.length:=lt_dec h (by rw [hrl])
 have e1:l[k]? = some l[k]:=List.getElem?_eq_getElem hk1
 have hmem:=List.getElem_mem hk1
 rw [List.drop_eq_getElem_cons hk1,fewGo] at hm
 generalize l[k]=g at e1 hm hmem
 obtain ⟨sa,sb,sc⟩:=hsub g hmem
 have ho:=hok g hmem
 refine R_if rfl rfl (fun h2=>?_) (fun h2=>?_) <;> refine R_run hg.ok 1000 rfl rfl ?_
 ·rw [if_pos (of_decide_eq_true h2),fewG1_eq] at hm
  refine R_index hg.ok rfl rfl rfl rfl rfl rfl (Int.natCast_nonneg _) (Gl.rows_get e1) rfl ?_
  refine R_run hg.ok 1000 rfl rfl ?_
  refine R_call hg.ok (few_ok g.t ho.tm.1 q 200) rfl rfl rfl rfl rfl rfl ?_
  refine R_run hg.ok 1000 rfl rfl ?_
  refine R_index hg.ok rfl rfl rfl rfl rfl rfl (Int.natCast_nonneg _) (Gl.rows_get e1) rfl ?_
  refine R_run hg.ok 1000 rfl rfl ?_
  rw [hwd]
  refine R_call hg.ok (sa (g.t.few q 200) (d - 1) ho.ma ho.la (by omega)) rfl rfl rfl rfl rfl rfl ?_
  refine R_run hg.ok 1000 rfl rfl ?_
  refine R_index hg.ok rfl rfl rfl rfl rfl rfl (Int.natCast_nonneg _) (Gl.rows_get e1) rfl ?_
  refine R_run hg.ok 1000 rfl rfl ?_
  rw [hwd]
  refine R_call hg.ok (sb (fewGL g.a (g.t.few q 200) (d - 1)) (d - 1) ho.mb ho.lb (by omega)) rfl rfl rfl rfl rfl rfl ?_
  refine R_run hg.ok 1000 rfl rfl ?_
  refine R_index hg.ok rfl rfl rfl rfl rfl rfl (Int.natCast_nonneg _) (Gl.rows_get e1) rfl ?_
  refine R_run hg.ok 1000 rfl rfl ?_
  rw [hwd]
  refine R_call hg.ok (sc (fewGL g.b (fewGL g.a (g.t.few q 200) (d - 1)) (d - 1)) (d - 1) ho.mc ho.lc (by omega)) rfl rfl rfl rfl rfl rfl ?_
  refine R_run hg.ok 1000 rfl rfl ?_
  exact R_next (k+1,fewGL g.c (fewGL g.b (fewGL g.a (g.t.few q 200) (d - 1)) (d - 1)) (d - 1)) ⟨hk1,hm⟩ (by simp only; omega) ⟨.refl _,.refl _,.refl _,Ent.wrap (by simp only; omega) (by simp only; omega) (by simp only; omega),trivial⟩ rfl
 ·rw [if_neg (of_decide_eq_false h2)] at hm
  refine R_ret hg 5 rfl rfl ?_
  rw [hm]; rfl

set_option maxRecDepth 100000 in
theorem refSomeP_ok (l:List Cs) (hok:∀ c∈l,c.Ok) (hlen:l.length≤140737488355328):PCtr Tryz.prog 28 [prV l] (bV (somP l)):=by
 have hrl:=Cs.rows_len l
 refine PCtr.of_R (pf:=fun _=>.eff) tyOk mixed Tryz.func28 rfl (by kernel_rfl) (by kernel_rfl) (by simp [Tryz.ntmps28]) fun w S hg=>?_
 refine R_run hg.ok 1000 rfl rfl ?_
 refine R_cut2 (fun _:Unit=>([(1,.lo 0 0),(3,iV (somGo l 3000))],[.box [.d (.sl (Cs.rows l))]])) (fun _=>True) rfl ?_ ?_
 ·refine R_loop (fun x:Nat × Int=>([(1,.lo 0 0),(3,iV x.2),(4,iV x.1)],[.box [.d (.sl (Cs.rows l))]])) (fun x=>x.1≤l.length∧somGo l 3000=somGo (l.drop x.1) x.2) (fun x=>l.length - x.1) (0,3000) ⟨Nat.zero_le _,rfl⟩ ⟨.refl _,.refl _,.refl _,trivial⟩ rfl ?_
  rintro ⟨k,q⟩ ⟨hk,hm⟩
  have hm:somGo l 3000=somGo (l.drop k) q:=hm
  have hk:k≤l.length:=hk
  refine R_run hg.ok 1000 rfl rfl ?_
  refine R_if rfl rfl (fun h=>?_) (fun h=>?_) <;> refine R_run hg.ok 1000 rfl rfl ?_
  rotate_left
  ·have hk1:l.length≤k:=ge_dec h (by rw [hrl])
   refine R_to () trivial ⟨.refl _,?_,trivial⟩ rfl
   rw [hm,List.drop_eq_nil_of_le hk1]; exact .refl _
  have hk1:k<l.length:=lt_dec h (by rw [hrl])
  have e1:l[k]? = some l[k]:=List.getElem?_eq_getElem hk1
  have hmem:=List.getElem_mem hk1
  rw [List.drop_eq_getElem_cons hk1,somGo] at hm
  generalize l[k]=c at e1 hm hmem
  have ho:=hok c hmem
  refine R_if rfl rfl (fun h2=>?_) (fun h2=>?_) <;> refine R_run hg.ok 1000 rfl rfl ?_
  ·rw [if_pos (of_decide_eq_true h2)] at hm
   refine R_index hg.ok rfl rfl rfl rfl rfl rfl (Int.natCast_nonneg _) (Cs.rows_get e1) rfl ?_
   refine R_run hg.ok 1000 rfl rfl ?_
   refine R_call hg.ok (few_ok c.head ho.head.1 q 200) rfl rfl rfl rfl rfl rfl ?_
   refine R_run hg.ok 1000 rfl rfl ?_
   refine R_index hg.ok rfl rfl rfl rfl rfl rfl (Int.natCast_nonneg _) (Cs.rows_get e1) rfl ?_
   refine R_run hg.ok 1000 rfl rfl ?_
   refine R_call hg.ok (refFewG_ok c.body (c.head.few q 200) 30 ho.body ho.len (by omega)) rfl rfl rfl rfl rfl rfl ?_
   refine R_run hg.ok 1000 rfl rfl ?_
   exact R_next (k+1,fewGL c.body (c.head.few q 200) 30) ⟨hk1,hm⟩ (by simp only; omega) ⟨.refl _,.refl _,Ent.wrap (by simp only; omega) (by simp only; omega) (by simp only; omega),trivial⟩ rfl
  ·rw [if_neg (of_decide_eq_false h2)] at hm
   refine R_to () trivial ⟨.refl _,?_,trivial⟩ rfl
   rw [hm]; exact .refl _
 rintro _ _
 refine R_run hg.ok 1000 rfl rfl ?_
 unfold somP
 refine R_if rfl rfl (fun h2=>?_) (fun h2=>?_) <;> refine R_run hg.ok 1000 rfl rfl ?_
 ·refine R_ret hg 5 rfl rfl ?_
  rw [show decide (somGo l 3000 ≥ 0)=true from h2,Bool.true_and]
  rw [show decide (((Cs.rows l).length:Int)≤210)=decide (l.length≤210) by rw [hrl]; exact decide_eq_decide.2 (by omega)]
  rfl
 ·refine R_ret hg 5 rfl rfl ?_
  rw [show decide (somGo l 3000 ≥ 0)=false from h2]; rfl
end Go.Proofs.YtcgkgofmldhokaaGreat

namespace PSL
open Go Go.RowKit
section
variable {g:G} {pf:Nat→Cls} {ops:Array Oper} {Fin:Exit→Act→World→Prop}

theorem R_appendOO (hg:GOk g) {dst:Option Nat} {T T':Nat} {x y:Operand} {ty:Nat} {pos:String} {after:Array Edge} {gd:Option (Nat × Bool)} {rest:List Oper} {k:List It} {E:Env} {objs:List Ob}
  {i s j s2 sz q q' by_ by' e e':Nat} {z z':List Value} {τ:Ty} {rows news:List (List D)}
  (hgd:guardA ops.toList E gd=some true) (hd:dstOk ⟨g.ty,g.N⟩ dst=true) (hx:ev E x=.ow i s) (ho:nth objs i=some (.arr sz s rows)) (hy:ev E y=.ow j s2) (hoy:nth objs j=some (.arr sz s2 news))
  (hT:g.ty T=some ⟨q,by_,z,.slice e⟩) (hT':g.ty T'=some ⟨q',by',z',.slice e'⟩) (he:g.ty e=some τ) (hsz:τ.size=sz) (hlen:∀ r∈news,r.length=sz) (hone:∀ r∈news,∀ x∈r,one1 (.d x)=true)
  (hbytes:(rows.length+news.length) * τ.bytes≤140737488355328) (hmax:rows.length+news.length≤140737488355328)
  (hr:R g pf Fin (.dr ops rest::k) (putO E dst (.ow i (Nat.succ s))) (setN objs i (.arr sz (Nat.succ s) (rows++news)))) :
  R g pf Fin (.dr ops (⟨dst,.call { callee:=.builtin .append,args:=#[x,y],argTypes:=#[T,T'] },ty,pos,after,gd⟩::rest)::k) E objs:=by
 refine R_op (LocOp.turning hg (grow_set ho) hgd hd (by simp) fun φ a w hρ hs=>?_) hr
 simp only [Op.operands,Call.operands] at hρ
 have hxv:=hρ x (by simp)
 rw [hx] at hxv
 have hyv:=hρ y (by simp)
 rw [hy] at hyv
 simp only [RV] at hxv hyv
 obtain ⟨_,phy,hphy,hyv⟩:=hyv
 have hky:=obj_at hs hphy hoy
 cases phy <;> try (simp only [ObOk] at hky; done)
 rename_i sz3 s3 v3 ob3
 have hky':=hky
 simp only [ObOk] at hky'
 obtain ⟨ey1,ey2,_,_⟩:=hky'
 subst ey1; subst ey2
 have hvy:=(hyv _ _ _ _ rfl).2 rfl
 clear hyv
 obtain ⟨_,ph,hph,hxv⟩:=hxv
 have hk:=obj_at hs hph ho
 cases ph <;> try (simp only [ObOk] at hk; done)
 rename_i sz2 s2 v2 ob2
 have hk':=hk
 simp only [ObOk] at hk'
 obtain ⟨rfl,rfl,hrl,hk'⟩:=hk'
 have hv:=(hxv _ _ _ _ rfl).2 rfl
 clear hxv
 rw [setN_eq]
 obtain ⟨olds,hF⟩:=Fst.of_ob (P:=g.P) hk
 subst hsz
 obtain ⟨cells,hN⟩:=Fst.of_ob (P:=g.P) hky
 rw [← hvy] at hN
 have h1:=hN.one hlen hone
 have hτ:=hg.ty _ _ he
 obtain ⟨xa,xc,hxs⟩:=hN.sl
 have hall:∀ r∈rows++news,r.length=τ.size:=fun r hr=>(List.mem_append.1 hr).elim (hrl r) (hlen r)
 have hmax':rows.length+news.length≤maxLen:=by simp only [maxLen]; omega
 have hlt:i<φ.length:=(List.getElem?_eq_some_iff.1 hph).1
 -- the grown slice
 have grow:∀ (a0:Option Addr) (cap:Nat),v2=.slice a0 rows.length cap→cap<rows.length+news.length→Out g.P (execOp a.eval ⟨dst,.call { callee:=.builtin .append,args:=#[x,y],argTypes:=#[T,T'] },ty,pos,after,gd⟩) g.S0 φ w (.ow i (Nat.succ s)) (objs.set i (.arr τ.size (Nat.succ s) (rows++news))):=by
  intro a0 cap hv2 hcap
  subst hv2
  obtain ⟨zs,cap',hc1,hc2,hzl,hrun⟩:=run_app_grow (tr:=ty) (und_slice hg hT) (und_slice hg hT') hτ hxs hF.run hN.run hcap hbytes hmax'
  refine ⟨.value (.slice (some ⟨w.heap.size,0,none⟩) (rows.length+news.length) cap'),.slice (some ⟨w.heap.size,0,none⟩) (rows.length+news.length) cap',w.drew.alloc (.cells (olds++cells++zs).toArray e),φ.set i (.sli τ.size (Nat.succ s) (.slice (some ⟨w.heap.size,0,none⟩) (rows.length+news.length) cap') (some w.heap.size)),?_,.inl rfl,?_,?_⟩
  ·simp only [execOp,resolve,invoke,builtin,Sem.run_bind,Sem.run_pure,Result.andThen_ok,List.map_toArray,List.map_cons,List.map_nil,hv,hrun]
  ·simp only [RV]
   exact ⟨⟨_,_,_,rfl⟩,_,List.getElem?_set_self hlt,fun sz s x ob h=>by cases h; exact ⟨Nat.le_refl _,fun _=>rfl⟩⟩
  ·refine Stp.swap hs hph (.inr (.inl ⟨_,_,_,_,_,_,_,_,rfl,rfl,Nat.lt_succ_self _⟩)) (by show w.heap.size≤(w.heap.push _).size; simp) (fun c hc _=>heap_drew_old hc) (fun b hb=>?_) rfl rfl rfl fun hkeep _=>?_
   ·simp only [Phy.bl,Option.some.injEq] at hb; subst hb; exact .inr ⟨Nat.le_refl _,by show w.heap.size<(w.heap.push _).size; simp⟩
   ·simp only [ObOk]
    refine ⟨trivial,trivial,hall,.inr ⟨_,0,cap',_,e,by rw [List.length_append],rfl,heap_drew_new,by rw [List.length_append]; exact hc1,hc2,?_,?_⟩⟩
    ·simp only [List.length_append,hF.len,hN.len,hzl]
     rw [← Nat.add_mul,← Nat.add_mul]
     have:rows.length+news.length+(cap' - (rows.length+news.length))=cap':=by omega
     rw [this]; omega
    ·intro i' r j x' hi hj
     obtain ⟨y',h3,h4⟩:=rows_app hF hN hkeep i' r j x' hi hj (hall r (List.mem_of_getElem? hi))
     exact ⟨y',by simpa using take_rows h3,h4⟩
 rcases hk' with ⟨a0,rfl,hrows,rfl⟩ | ⟨b,o,cap,cs,Tb,rfl,rfl,hheap,hn,hcap,hle,hrd⟩
 ·by_cases hm:news.length=0
  ·have hnews:news=[]:=List.length_eq_zero_iff.1 hm
   subst hnews
   subst hrows
   have hcells:cells=[]:=List.length_eq_zero_iff.1 (by simpa using hN.len)
   subst hcells
   have hrun:=run_app_none (tr:=ty) (und_slice hg hT) (und_slice hg hT') hτ (a:=a0) (n:=0) (cap:=0) hxs (hN.run w rfl) (Nat.le_refl _)
   refine ⟨.value (.slice a0 0 0),.slice a0 0 0,w,φ.set i (.sli τ.size (Nat.succ s) (.slice a0 0 0) none),?_,.inl rfl,?_,?_⟩
   ·simp only [execOp,resolve,invoke,builtin,Sem.run_bind,Sem.run_pure,Result.andThen_ok,List.map_toArray,List.map_cons,List.map_nil,hv,hrun]
   ·simp only [RV]
    exact ⟨⟨_,_,_,rfl⟩,_,List.getElem?_set_self hlt,fun sz s x ob h=>by cases h; exact ⟨Nat.le_refl _,fun _=>rfl⟩⟩
   ·refine Stp.swap hs hph (.inr (.inl ⟨_,_,_,_,_,_,_,_,rfl,rfl,Nat.lt_succ_self _⟩)) (Nat.le_refl _) (fun _ _ _=>rfl) (fun b hb=>by simp [Phy.bl] at hb) rfl rfl rfl fun _ _=>?_
    simp only [ObOk]
    exact ⟨trivial,trivial,by simp,.inl ⟨_,rfl,rfl,trivial⟩⟩
  ·subst hrows
   exact grow a0 0 rfl (by simp; omega)
 ·by_cases hroom:rows.length+news.length≤cap
  ·obtain ⟨w',hrun,hst⟩:=run_app_room (tr:=ty) (und_slice hg hT) (und_slice hg hT') hτ hxs (hN.run w rfl) hN.len h1 hheap hroom hle
   refine ⟨.value (.slice (some ⟨b,o,none⟩) (rows.length+news.length) cap),.slice (some ⟨b,o,none⟩) (rows.length+news.length) cap,w',φ.set i (.sli τ.size (Nat.succ s) (.slice (some ⟨b,o,none⟩) (rows.length+news.length) cap) (some b)),?_,.inl rfl,?_,?_⟩
   ·simp only [execOp,resolve,invoke,builtin,Sem.run_bind,Sem.run_pure,Result.andThen_ok,List.map_toArray,List.map_cons,List.map_nil,hv,hrun]
   ·simp only [RV]
    exact ⟨⟨_,_,_,rfl⟩,_,List.getElem?_set_self hlt,fun sz s x ob h=>by cases h; exact ⟨Nat.le_refl _,fun _=>rfl⟩⟩
   ·refine Stp.swap hs hph (.inr (.inl ⟨_,_,_,_,_,_,_,_,rfl,rfl,Nat.lt_succ_self _⟩)) (by rw [hst.size]; exact Nat.le_refl _) (fun c _ hc=>hst.other c fun e=>hc (by rw [e]; rfl)) (fun b' hb=>.inl hb) hst.os hst.tape hst.out fun hkeep _=>?_
    simp only [ObOk]
    refine ⟨trivial,trivial,hall,.inr ⟨b,o,cap,_,Tb,by rw [List.length_append],rfl,hst.at_,by rw [List.length_append]; exact hroom,hcap,by rw [splice_length]; exact hle,?_⟩⟩
    have hmul:(rows.length+news.length) * τ.size≤cap * τ.size:=Nat.mul_le_mul_right _ hroom
    rw [Nat.add_mul] at hmul
    have hsp:∀ k,(splice cs (o+rows.length * τ.size) cells)[k]? = if k<o+rows.length * τ.size then cs[k]? else if k<o+rows.length * τ.size+cells.length then cells[k - (o+rows.length * τ.size)]? else cs[k]? := by
     intro k
     have hcl:=hN.len
     have hcat:∀ m,m=o+rows.length * τ.size→splice cs m cells=cs.take m++cells++cs.drop (m+cells.length):=fun m hm=>by
      have:=splice_mid cells (cs.take m) ((cs.drop m).take cells.length) (cs.drop (m+cells.length)) (by simp; omega)
      rw [List.length_take,Nat.min_eq_left (by omega)] at this
      rw [List.append_assoc (cs.take m),← List.drop_drop,List.take_append_drop,List.take_append_drop,List.drop_drop] at this
      exact this
     rw [hcat _ rfl]
     have hl1:(List.take (o+rows.length * τ.size) cs).length=o+rows.length * τ.size:=by simp; omega
     split
     ·rw [List.append_assoc,List.getElem?_append_left (by omega),List.getElem?_take_of_lt (by omega)]
     ·split
      ·rw [List.append_assoc,List.getElem?_append_right (by omega),hl1,List.getElem?_append_left (by omega)]
      ·rw [List.getElem?_append_right (by simp; omega),List.length_append,hl1,List.getElem?_drop]
       congr 1; omega
    intro i' r j x' hi hj
    have hrl':=hall r (List.mem_of_getElem? hi)
    have hjl:=(List.getElem?_eq_some_iff.1 hj).1
    rcases Nat.lt_or_ge i' rows.length with h | h
    ·rw [List.getElem?_append_left h] at hi
     obtain ⟨y',h3,h4⟩:=hrd i' r j x' hi hj
     refine ⟨y',?_,h4.mono hkeep⟩
     have h5:(i'+1) * τ.size≤rows.length * τ.size:=Nat.mul_le_mul_right _ h
     rw [Nat.succ_mul] at h5
     rw [hsp,if_pos (by omega)]; exact h3
    ·rw [List.getElem?_append_right h] at hi
     obtain ⟨y',h3,h4⟩:=hN.rd _ r j x' hi hj
     refine ⟨y',?_,h4.mono hkeep⟩
     have h5:rows.length * τ.size≤i' * τ.size:=Nat.mul_le_mul_right _ h
     have h6:=(List.getElem?_eq_some_iff.1 h3).1
     rw [Nat.sub_mul] at h3 h6
     rw [hsp,if_neg (by omega),if_pos (by omega),← h3]
     congr 1; omega
  ·exact grow _ cap rfl (by omega)
end
end PSL

namespace PSL
open Go

def RInv (L:List Tk) (st:RSt):Prop:=st.names.length≤st.at_∧st.at_≤L.length
def TGood (L:List Tk) (T:TF):Prop:=∀ deep p st t st',T deep p st=some (t,st')→RInv L st→RInv L st'
section
variable {S:Bs} {L:List Tk} {T:TF} {st:RSt}

theorem peek_lt (h:(peekR L st).kind≠0):st.e=0∧st.at_<L.length:=by
 unfold peekR at h
 by_cases he:st.e≠0
 ·rw [if_pos he] at h; exact absurd rfl h
 ·rw [if_neg he] at h
  refine ⟨by simpa using he,?_⟩
  rcases Nat.lt_or_ge st.at_ L.length with h2 | h2
  ·exact h2
  ·rw [List.getElem?_eq_none h2] at h; exact absurd rfl h

theorem isMk_lt {s:Bs} (h:isMk (peekR L st) s=true):st.e=0∧st.at_<L.length:=by
 simp only [isMk,Bool.and_eq_true,decide_eq_true_eq] at h
 exact peek_lt (by rw [h.1]; decide)
theorem RInv.nx (h:RInv L st) (hl:st.at_<L.length):RInv L (nxR st):=⟨by have:=h.1; simp only [nxR]; omega,by simp only [nxR]; omega⟩

theorem RInv.fail {n:Nat} {c:Int} (h:RInv L st):RInv L (failR L n st c):=by
 unfold failR; split
 ·exact h
 ·exact h

theorem RInv.must {n:Nat} {s:Bs} (h:RInv L st):RInv L (mustR L n st s):=by
 unfold mustR; split
 ·rename_i hm; exact h.nx (isMk_lt hm).2
 ·exact h.fail

theorem RInv.ins (h:RInv L st):RInv L (inS L st):=by
 unfold inS; split
 ·exact h
 ·exact h

theorem RInv.beg (h:RInv L st):RInv L (begS L st):=by
 unfold begS; split
 ·exact h
 ·exact h

theorem var_at (s:Bs):(varR st s).2.at_=st.at_∧(varR st s).2.names.length≤st.names.length+1∧(varR st s).2.lay=st.lay∧(varR st s).2.e=st.e∧(varR st s).2.bad=st.bad:=by
 unfold varR
 split <;> simp

theorem RInv.var {s:Bs} (h:RInv L st) (hl:st.at_<L.length):RInv L (varR (nxR st) s).2:=by
 obtain ⟨h1,h2,_⟩:=var_at (st:=nxR st) s
 have:=h.1
 refine ⟨?_,?_⟩
 ·rw [h1]; simp only [nxR] at h2 ⊢; omega
 ·rw [h1]; simp only [nxR]; omega

theorem many_inv (hT:TGood L T):∀ (f deep:Nat) (st:RSt) (acc:List Tm) (l:List Tm) (st':RSt),manyR L T f deep st acc=some (l,st')→RInv L st→RInv L st'
 | 0,_,_,_,_,_,h,_=>by cases h
 | f+1,deep,st,acc,l,st',h,hi=>by
  simp only [manyR] at h
  split at h
  ·rename_i hm
   obtain ⟨x,hx,h⟩:=Option.bind_eq_some_iff.1 h
   exact many_inv hT f deep _ _ _ _ h (hT _ _ _ _ _ hx (hi.nx (isMk_lt hm).2))
  ·cases h; exact hi

theorem row_inv (hT:TGood L T) {deep:Nat} {l:List Tm} {st':RSt} (h:rowR L T deep st=some (l,st')) (hi:RInv L st):RInv L st':=by
 obtain ⟨x,hx,h⟩:=Option.bind_eq_some_iff.1 h
 exact many_inv hT _ _ _ _ _ _ h (hT _ _ _ _ _ hx hi)

theorem named_inv (hT:TGood L T) {deep:Nat} {p:Int} {t:Tk} {x:Tm × Int × RSt} (h:namedR S L T deep p t st=some x) (hi:RInv L st) (hl:st.at_<L.length):RInv L x.2.2:=by
 have hn:=hi.nx hl
 unfold namedR at h
 split at h
 ·rename_i hm
  simp only [minR,Bool.and_eq_true,decide_eq_true_eq] at hm
  cases h
  exact hn.nx (peek_lt (by rw [hm.1.2]; decide)).2
 ·split at h
  ·obtain ⟨y,hy,rfl⟩:=Option.map_eq_some_iff.1 h
   exact (row_inv hT hy hn.must).must
  ·split at h
   ·split at h
    ·split at h
     ·cases h; exact RInv.fail ⟨by simp only; have:=hn.beg.1; have h2:=hi.1; unfold begS at *; split <;> exact h2,hi.2⟩
     ·obtain ⟨y,hy,rfl⟩:=Option.map_eq_some_iff.1 h
      exact hT _ _ _ _ _ hy hn.beg
    ·cases h; exact hn.beg
   ·cases h; exact hn

theorem list_inv (hT:TGood L T) {deep:Nat} {x:Tm × RSt} (h:listR S L T deep st=some x) (hi:RInv L st):RInv L x.2:=by
 obtain ⟨y,hy,h⟩:=Option.bind_eq_some_iff.1 h
 have h1:=row_inv hT hy hi
 split at h
 ·rename_i hm
  obtain ⟨z,hz,rfl⟩:=Option.map_eq_some_iff.1 h
  exact (hT _ _ _ _ _ hz (h1.nx (isMk_lt hm).2)).must
 ·cases h; exact h1.must

theorem opnd_inv (hT:TGood L T) {sw:Bool} {deep:Nat} {p:Int} {x:Tm × Int × RSt} (h:opndR sw S L T deep p st=some x) (hi:RInv L st):RInv L x.2.2:=by
 unfold opndR at h
 split at h
 ·cases h; exact hi.fail
 split at h
 ·rename_i hk; cases h; exact hi.nx (peek_lt (by rw [hk]; decide)).2
 split at h
 ·rename_i hk; cases h; exact hi.var (peek_lt (by rw [hk]; decide)).2
 split at h
 ·rename_i hk
  obtain ⟨y,hy,rfl⟩:=Option.map_eq_some_iff.1 h
  have:=named_inv hT hy hi (peek_lt (by rw [hk]; decide)).2
  split <;> exact this
 split at h
 ·rename_i hm
  obtain ⟨y,hy,rfl⟩:=Option.map_eq_some_iff.1 h
  exact (hT _ _ _ _ _ hy (hi.nx (isMk_lt hm).2)).must
 split at h
 ·rename_i hm
  obtain ⟨y,hy,rfl⟩:=Option.map_eq_some_iff.1 h
  exact list_inv hT hy (hi.nx (isMk_lt hm).2)
 ·cases h; exact hi.fail

theorem ins_lt {L:List Tk} {st:RSt} {x:Int × Int × Int} (h:inT (peekR L st)=some x):st.e=0∧st.at_<L.length:=by
 unfold inT at h
 split at h
 ·cases h
 ·rename_i hc
  refine peek_lt fun h0=>hc ?_
  rw [h0]; exact ⟨by decide,.inl (by decide)⟩
theorem inS_at (L:List Tk) (st:RSt):(inS L st).at_=st.at_:=by unfold inS; split <;> rfl

theorem rest_inv (hT:TGood L T):∀ (f deep:Nat) (p:Int) (out:Tm) (now:Int) (st:RSt) (t:Tm) (st':RSt),restR L T f deep p out now st=some (t,st')→RInv L st→RInv L st'
 | 0,_,_,_,_,_,_,_,h,_=>by cases h
 | f+1,deep,p,out,now,st,t,st',h,hi=>by
  simp only [restR] at h
  split at h
  ·cases h; exact hi
  split at h
  ·cases h; exact hi.ins
  ·rename_i q l r hin
   split at h
   ·cases h; exact hi.ins
   ·obtain ⟨x,hx,h⟩:=Option.bind_eq_some_iff.1 h
    exact rest_inv hT f deep p _ _ _ _ _ h (hT _ _ _ _ _ hx (hi.ins.nx (by rw [inS_at]; exact (ins_lt hin).2)))
end

theorem term_inv (sw:Bool) (S:Bs) (L:List Tk):∀ n,TGood L (termR sw S L n)
 | 0=>fun _ _ _ _ _ h _=>by cases h
 | n+1=>fun deep p st t st' h hi=>by
  simp only [termR] at h
  obtain ⟨x,hx,h⟩:=Option.bind_eq_some_iff.1 h
  exact rest_inv (term_inv sw S L n) _ _ _ _ _ _ _ _ h (opnd_inv (term_inv sw S L n) hx hi)
end PSL

namespace PSL
open Go
abbrev Clau:=Tm × List Bs

def clsR (right:Tm→Bool) (L:List Tk) (n:Nat) (T:TF):Nat→RSt→List Clau→Option (List Clau × Int × Int)
 | 0,_,_=>none
 | f+1,st,out =>
  if st.at_<L.length then
   (T 0 1200 { st with names:=[] }).bind fun x =>
    let st2:=if (peekR L x.2).kind≠5 then failR L n x.2 2 else x.2
    let st3:=if st2.e=0∧right x.1=false then { st2 with e:=3,bad:=plcR L n st.at_ } else st2
    if st3.e≠0 then some ([],st3.bad,st3.e) else clsR right L n T f (nxR st3) (out++[(x.1,st3.names)])
  else some (out,0,0)

def clauR (right:Tm→Bool) (sw:Bool) (S:Bs):Option (List Clau × Int × Int) :=
 if (tokT S).2.2≠0 then some ([],(tokT S).2.1,(tokT S).2.2)
 else clsR right (tokT S).1 S.length (termR sw S (tokT S).1 ((tokT S).1.length+2)) ((tokT S).1.length+1) ⟨0,[],0,0,false⟩ []
end PSL

namespace PSL
open Go
def TMono (T:TF):Prop:=∀ deep p st t st',T deep p st=some (t,st')→st.at_≤st'.at_
section
variable {S:Bs} {L:List Tk} {T:TF} {st:RSt}
theorem fail_at {n:Nat} {c:Int}:(failR L n st c).at_=st.at_:=by unfold failR; split <;> rfl

theorem must_at {n:Nat} {s:Bs}:st.at_≤(mustR L n st s).at_:=by
 unfold mustR; split
 ·simp [nxR]
 ·rw [fail_at]; exact Nat.le_refl _
theorem begS_at:(begS L st).at_=st.at_:=by unfold begS; split <;> rfl
theorem nx_at:(nxR st).at_=st.at_+1:=rfl
end
end PSL

namespace PSL
open Go

def Enuf (L:List Tk) (m:Nat) (st:RSt):Prop:=st.e≠0∨L.length+1≤st.at_+m
def TOk (L:List Tk) (m:Nat) (T:TF):Prop:=∀ deep p st,RInv L st→Enuf L m st→∃ r,T deep p st=some r
def TStick (T:TF):Prop:=∀ deep p st t st',T deep p st=some (t,st')→st.e≠0→st'=st
section
variable {S:Bs} {L:List Tk} {T:TF} {st:RSt} {m:Nat}
theorem flE {n:Nat} {c:Int} (h:st.e≠0):failR L n st c=st:=by unfold failR; rw [if_neg h]
theorem flN {n:Nat} {c:Int} (hc:c≠0):(failR L n st c).e≠0:=by unfold failR; split; exact hc; assumption
theorem pkE (h:st.e≠0):peekR L st=zeroTk:=by unfold peekR; rw [if_pos h]
theorem mkE {s:Bs} (h:st.e≠0):isMk (peekR L st) s=false:=by rw [pkE h]; rfl

theorem Enuf.grow {st':RSt} (hT:TStick T) (hM:TMono T) {deep:Nat} {p:Int} {t:Tm} (hx:T deep p st=some (t,st')) (h:Enuf L m st):Enuf L m st':=by
 rcases h with h | h
 ·exact .inl (by rw [hT _ _ _ _ _ hx h]; exact h)
 ·exact .inr (by have:=hM _ _ _ _ _ hx; omega)

theorem Enuf.must {n:Nat} {s:Bs} (h:Enuf L m st):Enuf L m (mustR L n st s):=by
 rcases h with h | h
 ·exact .inl (by unfold mustR; rw [mkE h]; simp only [Bool.false_eq_true,if_false]; rw [flE h]; exact h)
 ·exact .inr (by have:=must_at (L:=L) (st:=st) (n:=n) (s:=s); omega)

theorem many_ok (hT:TOk L m T) (hG:TGood L T) (hS:TStick T) (hM:TMono T):∀ (f deep:Nat) (st:RSt) (acc:List Tm),RInv L st→Enuf L m st→L.length+1≤st.at_+f→1≤f→∃ r,manyR L T f deep st acc=some r
 | 0,_,_,_,_,_,_,h=>by omega
 | f+1,deep,st,acc,hi,he,hf,_=>by
  simp only [manyR]
  cases hmk:isMk (peekR L st) [44] with
  | false=>exact ⟨_,rfl⟩
  | true =>
   have hl:=isMk_lt hmk
   have hi2:=hi.nx hl.2
   have he2:Enuf L m (nxR st):=he.imp id fun h=>by rw [nx_at]; omega
   obtain ⟨⟨x,st2⟩,hx⟩:=hT deep 999 (nxR st) hi2 he2
   have h1:=hM _ _ _ _ _ hx
   rw [nx_at] at h1
   simp only [if_true]
   rw [hx]
   exact many_ok hT hG hS hM f deep st2 _ (hG _ _ _ _ _ hx hi2) (he2.grow hS hM hx) (by omega) (by omega)

theorem row_ok (hT:TOk L m T) (hG:TGood L T) (hS:TStick T) (hM:TMono T) (deep:Nat) (hi:RInv L st) (he:Enuf L m st):∃ r,rowR L T deep st=some r:=by
 obtain ⟨⟨x,st2⟩,hx⟩:=hT deep 999 st hi he
 unfold rowR
 rw [hx]
 exact many_ok hT hG hS hM _ deep st2 _ (hG _ _ _ _ _ hx hi) (he.grow hS hM hx) (by omega) (by omega)

theorem named_ok (hT:TOk L m T) (hG:TGood L T) (hS:TStick T) (hM:TMono T) (deep:Nat) (p:Int) (t:Tk) (hi:RInv L st) (hl:st.at_<L.length) (he:Enuf L m (nxR st)):∃ r,namedR S L T deep p t st=some r:=by
 have hn:=hi.nx hl
 unfold namedR
 split
 ·exact ⟨_,rfl⟩
 split
 ·obtain ⟨r,hr⟩:=row_ok hT hG hS hM deep hn.must he.must
  rw [hr]; exact ⟨_,rfl⟩
 split
 ·split
  ·split
   ·exact ⟨_,rfl⟩
   ·have hb:Enuf L m (begS L (nxR st)):=by
     rcases he with h | h
     ·exact .inl (by unfold begS; split <;> exact h)
     ·exact .inr (by rw [begS_at]; exact h)
    obtain ⟨r,hr⟩:=hT deep (preT t.text) _ hn.beg hb
    rw [hr]; exact ⟨_,rfl⟩
  ·exact ⟨_,rfl⟩
 ·exact ⟨_,rfl⟩
end
end PSL

namespace PSL
open Go
section
variable {S:Bs} {L:List Tk} {T:TF} {st:RSt} {m:Nat}
end
end PSL

namespace PSL
open Go

def Agr {α:Type} (a b:Option (α × RSt)):Prop:=match a,b with
 | some x,some y=>x.2=y.2∧(x.2.e=0→x.1=y.1)
 | none,none=>True
 | _,_=>False

theorem Agr.bind {α β:Type} {a b:Option (α × RSt)} {f g:α × RSt→Option (β × RSt)} (h:Agr a b) (hf:∀ x y s,(s.e=0→x=y)→Agr (f (x,s)) (g (y,s))):Agr (a.bind f) (b.bind g):=by
 cases a with
 | none=>cases b with
  | none=>trivial
  | some y=>exact h.elim
 | some x=>cases b with
  | none=>exact h.elim
  | some y =>
   obtain ⟨x,s⟩:=x
   obtain ⟨y,s'⟩:=y
   obtain ⟨h1,h2⟩:=h
   simp only at h1 h2
   subst h1
   exact hf x y s h2
section
variable {S:Bs} {L:List Tk} {T T':TF} {st:RSt}

theorem must_e {n:Nat} {s:Bs} (h:(mustR L n st s).e=0):st.e=0:=by
 by_cases he:st.e=0
 ·exact he
 ·unfold mustR at h
  rw [mkE he] at h
  simp only [Bool.false_eq_true,if_false] at h
  rw [flE he] at h
  exact h
end
end PSL

namespace PSL
open Go
section
variable {S:Bs} {L:List Tk} {T T':TF} {st:RSt}

theorem Agr.map {α β:Type} {a b:Option (α × RSt)} {f g:α × RSt→β × RSt} (h:Agr a b) (hf:∀ x y s,(s.e=0→x=y)→Agr (some (f (x,s))) (some (g (y,s)))):Agr (a.map f) (b.map g):=by
 cases a with
 | none=>cases b with
  | none=>trivial
  | some y=>exact h.elim
 | some x=>cases b with
  | none=>exact h.elim
  | some y =>
   obtain ⟨x,s⟩:=x
   obtain ⟨y,s'⟩:=y
   obtain ⟨h1,h2⟩:=h
   simp only at h1 h2
   subst h1
   exact hf x y s h2
end
end PSL

namespace PSL
open Go
end PSL

namespace PSL
open Go
end PSL

namespace PSL
open Go

def TSz (T:TF):Prop:=∀ deep p st t st',T deep p st=some (t,st')→st'.e=0→st.e=0∧st.at_+t.size≤st'.at_
section
variable {S:Bs} {L:List Tk} {T:TF} {st:RSt}
theorem fail_sz {n:Nat} {c:Int} (hc:c≠0) (h:(failR L n st c).e=0):False:=flN hc h

theorem must_sz {n:Nat} {s:Bs} (h:(mustR L n st s).e=0):st.e=0∧(mustR L n st s).at_=st.at_+1:=by
 refine ⟨must_e h,?_⟩
 unfold mustR at h ⊢
 split
 ·rfl
 ·rename_i hm; rw [if_neg hm] at h; exact (fail_sz (by decide) h).elim

theorem sizeL_snoc (l:List Tm) (t:Tm):Tm.sizeL (l++[t])=Tm.sizeL l+t.size:=by
 induction l with
 | nil=>simp [Tm.sizeL]
 | cons x l ih=>simp only [List.cons_append,Tm.sizeL,ih]; omega

theorem many_sz (hT:TSz T):∀ (f deep:Nat) (st:RSt) (acc l:List Tm) (st':RSt),manyR L T f deep st acc=some (l,st')→st'.e=0→st.e=0∧acc.length≤l.length∧st.at_+Tm.sizeL l+l.length≤st'.at_+Tm.sizeL acc+acc.length
 | 0,_,_,_,_,_,h,_=>by cases h
 | f+1,deep,st,acc,l,st',h,he=>by
  simp only [manyR] at h
  split at h
  ·rename_i hm
   obtain ⟨⟨x,s⟩,hx,h⟩:=Option.bind_eq_some_iff.1 h
   obtain ⟨h1,h2,h3⟩:=many_sz hT f deep _ _ _ _ h he
   obtain ⟨h4,h5⟩:=hT _ _ _ _ _ hx h1
   rw [sizeL_snoc] at h3
   rw [nx_at] at h5
   simp only [List.length_append,List.length_singleton] at h2 h3
   exact ⟨(isMk_lt hm).1,by omega,by omega⟩
  ·cases h; exact ⟨he,Nat.le_refl _,by omega⟩

theorem row_sz (hT:TSz T) {deep:Nat} {l:List Tm} {st':RSt} (h:rowR L T deep st=some (l,st')) (he:st'.e=0):st.e=0∧st.at_+Tm.sizeL l+l.length≤st'.at_+1:=by
 obtain ⟨⟨x,s⟩,hx,h⟩:=Option.bind_eq_some_iff.1 h
 obtain ⟨h1,h2,h3⟩:=many_sz hT _ deep _ _ _ _ h he
 obtain ⟨h4,h5⟩:=hT _ _ _ _ _ hx h1
 simp only [Tm.sizeL,List.length_singleton] at h3
 exact ⟨h4,by omega⟩
end
end PSL

namespace PSL
open Go
section
variable {S:Bs} {L:List Tk} {T:TF} {st:RSt}
theorem fnT_size (s:Bs) (l:List Tm):(fnT s l).size=1+Tm.sizeL l:=by simp [fnT,Tm.size]

theorem consT_size (l:List Tm) (t:Tm):(consT l t).size=Tm.sizeL l+l.length+t.size:=by
 induction l with
 | nil=>simp [consT,Tm.sizeL]
 | cons x l ih =>
  have:consT (x::l) t=fnT [46] [x,consT l t]:=rfl
  rw [this,fnT_size]
  simp only [Tm.sizeL,List.length_cons,ih]; omega

theorem named_sz (hT:TSz T) {deep:Nat} {p:Int} {t:Tk} {x:Tm × Int × RSt} (h:namedR S L T deep p t st=some x) (he:x.2.2.e=0):st.e=0∧st.at_+x.1.size≤x.2.2.at_:=by
 unfold namedR at h
 split at h
 ·cases h; exact ⟨he,by simp [nmT,nxR,Tm.size,Tm.sizeL]⟩
 split at h
 ·obtain ⟨⟨l,s⟩,hy,rfl⟩:=Option.map_eq_some_iff.1 h
  simp only at he ⊢
  obtain ⟨h1,h2⟩:=must_sz he
  obtain ⟨h3,h4⟩:=row_sz hT hy h1
  obtain ⟨h5,h6⟩:=must_sz h3
  rw [h6,nx_at] at h4
  rw [fnT_size,h2]
  exact ⟨h5,by omega⟩
 split at h
 ·split at h
  ·split at h
   ·cases h; exact (fail_sz (by decide) he).elim
   ·obtain ⟨⟨y,s⟩,hy,rfl⟩:=Option.map_eq_some_iff.1 h
    simp only at he ⊢
    obtain ⟨h1,h2⟩:=hT _ _ _ _ _ hy he
    rw [begS_at,nx_at] at h2
    rw [fnT_size]
    refine ⟨?_,by simp only [Tm.sizeL]; omega⟩
    unfold begS at h1; split at h1 <;> exact h1
  ·cases h
   simp only at he ⊢
   rw [fnT_size,begS_at,nx_at]
   refine ⟨?_,by simp only [Tm.sizeL]; omega⟩
   unfold begS at he; split at he <;> exact he
 ·cases h; exact ⟨he,by rw [fnT_size,nx_at]; simp only [Tm.sizeL]; omega⟩

theorem list_sz (hT:TSz T) {deep:Nat} {x:Tm × RSt} (h:listR S L T deep st=some x) (he:x.2.e=0):st.e=0∧st.at_+x.1.size≤x.2.at_+1:=by
 obtain ⟨⟨l,s⟩,hy,h⟩:=Option.bind_eq_some_iff.1 h
 simp only at h
 split at h
 ·obtain ⟨⟨z,s2⟩,hz,rfl⟩:=Option.map_eq_some_iff.1 h
  simp only at he ⊢
  obtain ⟨h1,h2⟩:=must_sz he
  obtain ⟨h3,h4⟩:=hT _ _ _ _ _ hz h1
  obtain ⟨h5,h6⟩:=row_sz hT hy h3
  rw [nx_at] at h4
  rw [consT_size,h2]
  exact ⟨h5,by omega⟩
 ·cases h
  simp only at he ⊢
  obtain ⟨h1,h2⟩:=must_sz he
  obtain ⟨h5,h6⟩:=row_sz hT hy h1
  rw [consT_size,h2,fnT_size]
  exact ⟨h5,by simp only [Tm.sizeL]; omega⟩
end
end PSL

namespace PSL
open Go
section
variable {S:Bs} {L:List Tk} {T:TF} {st:RSt}

theorem opnd_sz (hT:TSz T) {sw:Bool} {deep:Nat} {p:Int} {x:Tm × Int × RSt} (h:opndR sw S L T deep p st=some x) (he:x.2.2.e=0):st.e=0∧st.at_+x.1.size≤x.2.2.at_:=by
 unfold opndR at h
 split at h
 ·cases h; exact (fail_sz (by decide) he).elim
 split at h
 ·cases h; exact ⟨he,by simp [nmT,nxR,Tm.size,Tm.sizeL]⟩
 split at h
 ·cases h
  simp only at he ⊢
  obtain ⟨h1,_,_,h4,_⟩:=var_at (st:=nxR st) (peekR L st).text
  rw [h4] at he
  exact ⟨he,by rw [h1,nx_at]; simp [Tm.vT,Tm.size,Tm.sizeL]⟩
 split at h
 ·obtain ⟨y,hy,rfl⟩:=Option.map_eq_some_iff.1 h
  split at he
  ·rename_i hc
   simp only [Bool.and_eq_true,decide_eq_true_eq] at hc
   exact absurd he hc.2
  ·rename_i hc
   rw [if_neg hc]
   exact named_sz hT hy he
 split at h
 ·obtain ⟨⟨y,s⟩,hy,rfl⟩:=Option.map_eq_some_iff.1 h
  simp only at he ⊢
  obtain ⟨h1,h2⟩:=must_sz he
  obtain ⟨h3,h4⟩:=hT _ _ _ _ _ hy h1
  rw [nx_at] at h4
  rw [h2]
  exact ⟨h3,by omega⟩
 split at h
 ·obtain ⟨⟨y,s⟩,hy,rfl⟩:=Option.map_eq_some_iff.1 h
  simp only at he ⊢
  obtain ⟨h3,h4⟩:=list_sz hT hy he
  rw [nx_at] at h4
  simp only at h4
  exact ⟨h3,by omega⟩
 ·cases h; exact (fail_sz (by decide) he).elim

theorem rest_sz (hT:TSz T):∀ (f deep:Nat) (p:Int) (out:Tm) (now:Int) (st:RSt) (t:Tm) (st':RSt),restR L T f deep p out now st=some (t,st')→st'.e=0→st.e=0∧st.at_+t.size≤st'.at_+out.size
 | 0,_,_,_,_,_,_,_,h,_=>by cases h
 | f+1,deep,p,out,now,st,t,st',h,he=>by
  have hi:(inS L st).e=st.e:=by unfold inS; split <;> rfl
  simp only [restR] at h
  split at h
  ·rename_i h0; cases h; exact absurd he h0
  rename_i h0
  have h0:st.e=0:=by simpa using h0
  split at h
  ·cases h; exact ⟨h0,by rw [inS_at]; omega⟩
  ·split at h
   ·cases h; exact ⟨h0,by rw [inS_at]; omega⟩
   ·obtain ⟨⟨x,s⟩,hx,h⟩:=Option.bind_eq_some_iff.1 h
    obtain ⟨h1,h2⟩:=rest_sz hT f deep p _ _ _ _ _ h he
    obtain ⟨h3,h4⟩:=hT _ _ _ _ _ hx h1
    rw [nx_at,inS_at] at h4
    rw [fnT_size] at h2
    simp only [Tm.sizeL] at h2
    exact ⟨h0,by omega⟩
end

theorem term_sz (sw:Bool) (S:Bs) (L:List Tk):∀ n,TSz (termR sw S L n)
 | 0=>fun _ _ _ _ _ h _=>by cases h
 | n+1=>fun deep p st t st' h he=>by
  simp only [termR] at h
  obtain ⟨x,hx,h⟩:=Option.bind_eq_some_iff.1 h
  obtain ⟨h1,h2⟩:=rest_sz (term_sz sw S L n) _ _ _ _ _ _ _ _ h he
  obtain ⟨h3,h4⟩:=opnd_sz (term_sz sw S L n) hx h1
  exact ⟨h3,by omega⟩
end PSL

namespace PSL
open Go

def SB (B:Nat) (t:Tm):Prop:=∀ d e,e∈Tm.els t d→e.2.s.size≤B

theorem mem_elsL:∀ {l:List Tm} {d:Int} {e:Int × Tm},e∈Tm.elsL l d→∃ x∈l,e∈Tm.els x d
 | [],_,_,h=>by simp [Tm.elsL] at h
 | x::l,d,e,h=>by
  simp only [Tm.elsL,List.mem_append] at h
  rcases h with h | h
  ·exact ⟨x,by simp,h⟩
  ·obtain ⟨y,hy,h⟩:=mem_elsL h
   exact ⟨y,by simp [hy],h⟩

theorem SB.mk' {B:Nat} {t:Tm} (h:t.s.size≤B) (hl:∀ x∈t.l,SB B x):SB B t:=fun d e he=>by
 rw [Tm.els_eq] at he
 rcases List.mem_cons.1 he with rfl | he
 ·exact h
 ·obtain ⟨x,hx,he⟩:=mem_elsL he
  exact hl x hx _ _ he
theorem SB.fn {B:Nat} {s:Bs} {l:List Tm} (h:s.length≤B) (hl:∀ x∈l,SB B x):SB B (fnT s l):=.mk' (by show (Tx s).size≤B; rw [Tx_size]; exact h) hl
def TSB (B:Nat) (T:TF):Prop:=∀ deep p st t st',T deep p st=some (t,st')→SB B t
section
variable {S:Bs} {L:List Tk} {T:TF} {st:RSt} {B:Nat}

theorem many_sb (hT:TSB B T):∀ (f deep:Nat) (st:RSt) (acc l:List Tm) (st':RSt),manyR L T f deep st acc=some (l,st')→(∀ x∈acc,SB B x)→∀ x∈l,SB B x
 | 0,_,_,_,_,_,h,_=>by cases h
 | f+1,deep,st,acc,l,st',h,ha=>by
  simp only [manyR] at h
  split at h
  ·obtain ⟨⟨x,s⟩,hx,h⟩:=Option.bind_eq_some_iff.1 h
   refine many_sb hT f deep _ _ _ _ h fun y hy=>?_
   rcases List.mem_append.1 hy with hy | hy
   ·exact ha y hy
   ·rw [List.mem_singleton.1 hy]; exact hT _ _ _ _ _ hx
  ·cases h; exact ha

theorem row_sb (hT:TSB B T) {deep:Nat} {l:List Tm} {st':RSt} (h:rowR L T deep st=some (l,st')):∀ x∈l,SB B x:=by
 obtain ⟨⟨x,s⟩,hx,h⟩:=Option.bind_eq_some_iff.1 h
 exact many_sb hT _ deep _ _ _ _ h fun y hy=>by rw [List.mem_singleton.1 hy]; exact hT _ _ _ _ _ hx
theorem nm_sb (n:Int):SB B (nmT n):=.mk' (Nat.zero_le _) (by simp [nmT,Tm.l])
theorem zero_sb:SB B zeroT:=.mk' (Nat.zero_le _) (by simp [zeroT,Tm.l])

theorem consT_sb (hB:2≤B) {l:List Tm} {t:Tm} (hl:∀ x∈l,SB B x) (ht:SB B t):SB B (consT l t):=by
 induction l with
 | nil=>exact ht
 | cons x l ih =>
  exact .fn (by simp; omega) fun y hy=>by
   simp only [List.mem_cons,List.not_mem_nil,or_false] at hy
   rcases hy with rfl | rfl
   ·exact hl _ (by simp)
   ·exact ih fun z hz=>hl z (by simp [hz])

theorem named_sb (hT:TSB B T) {deep:Nat} {p:Int} {t:Tk} (ht:t.text.length≤B) {x:Tm × Int × RSt} (h:namedR S L T deep p t st=some x):SB B x.1:=by
 unfold namedR at h
 split at h
 ·cases h; exact nm_sb _
 split at h
 ·obtain ⟨⟨l,s⟩,hy,rfl⟩:=Option.map_eq_some_iff.1 h
  exact .fn ht (row_sb hT hy)
 split at h
 ·split at h
  ·split at h
   ·cases h; exact zero_sb
   ·obtain ⟨⟨y,s⟩,hy,rfl⟩:=Option.map_eq_some_iff.1 h
    exact .fn ht fun z hz=>by rw [List.mem_singleton.1 hz]; exact hT _ _ _ _ _ hy
  ·cases h; exact .fn ht (by simp)
 ·cases h; exact .fn ht (by simp)
end
end PSL

namespace PSL
open Go
section
variable {S:Bs} {L:List Tk} {T:TF} {st:RSt} {B:Nat}

theorem peek_sb (hL:∀ t∈L,t.text.length≤B):(peekR L st).text.length≤B:=by
 unfold peekR
 split
 ·exact Nat.zero_le _
 ·cases h:L[st.at_]? with
  | none=>exact Nat.zero_le _
  | some t=>exact hL t (List.mem_of_getElem? h)

theorem list_sb (hB:2≤B) (hT:TSB B T) {deep:Nat} {x:Tm × RSt} (h:listR S L T deep st=some x):SB B x.1:=by
 obtain ⟨⟨l,s⟩,hy,h⟩:=Option.bind_eq_some_iff.1 h
 simp only at h
 split at h
 ·obtain ⟨⟨z,s2⟩,hz,rfl⟩:=Option.map_eq_some_iff.1 h
  exact consT_sb hB (row_sb hT hy) (hT _ _ _ _ _ hz)
 ·cases h
  exact consT_sb hB (row_sb hT hy) (.fn (by simp; omega) (by simp))

theorem opnd_sb (hB:2≤B) (hL:∀ t∈L,t.text.length≤B) (hT:TSB B T) {sw:Bool} {deep:Nat} {p:Int} {x:Tm × Int × RSt} (h:opndR sw S L T deep p st=some x):SB B x.1:=by
 unfold opndR at h
 split at h
 ·cases h; exact zero_sb
 split at h
 ·cases h; exact nm_sb _
 split at h
 ·cases h; exact .mk' (Nat.zero_le _) (by simp [Tm.vT,Tm.l])
 split at h
 ·obtain ⟨y,hy,rfl⟩:=Option.map_eq_some_iff.1 h
  split
  ·exact zero_sb
  ·exact named_sb hT (peek_sb hL) hy
 split at h
 ·obtain ⟨⟨y,s⟩,hy,rfl⟩:=Option.map_eq_some_iff.1 h
  exact hT _ _ _ _ _ hy
 split at h
 ·obtain ⟨⟨y,s⟩,hy,rfl⟩:=Option.map_eq_some_iff.1 h
  exact list_sb hB hT hy
 ·cases h; exact zero_sb

theorem rest_sb (hL:∀ t∈L,t.text.length≤B) (hT:TSB B T):∀ (f deep:Nat) (p:Int) (out:Tm) (now:Int) (st:RSt) (t:Tm) (st':RSt),restR L T f deep p out now st=some (t,st')→SB B out→SB B t
 | 0,_,_,_,_,_,_,_,h,_=>by cases h
 | f+1,deep,p,out,now,st,t,st',h,ho=>by
  simp only [restR] at h
  split at h
  ·cases h; exact ho
  split at h
  ·cases h; exact ho
  ·split at h
   ·cases h; exact ho
   ·obtain ⟨⟨x,s⟩,hx,h⟩:=Option.bind_eq_some_iff.1 h
    refine rest_sb hL hT f deep p _ _ _ _ _ h (.fn (peek_sb hL) fun y hy=>?_)
    simp only [List.mem_cons,List.not_mem_nil,or_false] at hy
    rcases hy with rfl | rfl
    ·exact ho
    ·exact hT _ _ _ _ _ hx
end

theorem term_sb {B:Nat} (hB:2≤B) (sw:Bool) (S:Bs) (L:List Tk) (hL:∀ t∈L,t.text.length≤B):∀ n,TSB B (termR sw S L n)
 | 0=>fun _ _ _ _ _ h=>by cases h
 | n+1=>fun deep p st t st' h=>by
  simp only [termR] at h
  obtain ⟨x,hx,h⟩:=Option.bind_eq_some_iff.1 h
  exact rest_sb hL (term_sb hB sw S L hL n) _ _ _ _ _ _ _ _ h (opnd_sb hB hL (term_sb hB sw S L hL n) hx)
end PSL

namespace PSL
open Go

structure TkG (L:Bs) (t:Tk):Prop where
 lo:0≤t.n
 hi:t.n≤9223372036854775807
 len:t.text.length≤L.length+20
 var:t.kind=2→t.text≠[]

theorem TkG.name {L:Bs} {kind:Int} {text:Bs} {i to:Nat} {t:Tk} {j:Nat} (h:nameT L kind text i to=some (t,j)):TkG L t:=by
 obtain ⟨_,rfl,l1,l2⟩:=nameT_to h
 exact ⟨by simp,by simp,by simp only; omega,fun _ h=>by simp only at h; rw [h] at l1; simp at l1⟩
theorem cutB_le (L:Bs) (i j:Nat):(cutB L i j).length≤L.length:=by unfold cutB; simp only [List.length_take,List.length_drop]; omega

theorem numT_le {D:Bs} {n:Nat} (h:numT D=some n):n≤9223372036854775807:=by
 unfold numT at h; split at h
 ·cases h
 ·rename_i hc; cases h; omega

theorem oneT_good {L:Bs} {i:Nat} {t:Tk} {j:Nat} (h:oneT L i=some (t,j)):TkG L t:=by
 unfold oneT at h
 split at h
 ·cases h
 split at h; · exact .name h
 split at h; · exact .name h
 split at h
 ·cases hn:numT (cutB L i (runB dgC L i)) with
  | none=>rw [hn] at h; cases h
  | some n =>
  rw [hn] at h
  cases h
  exact ⟨by simp,by have:=numT_le hn; simp only; omega,by have:=cutB_le L i (runB dgC L i); simp only; omega,fun h=>by cases h⟩
 split at h
 ·split at h
  ·exact .name h
  ·cases h
 split at h; · exact .name h
 split at h; · exact .name h
 split at h
 ·cases h
  exact ⟨by simp,by simp,by simp,fun h=>by cases h⟩
 split at h
 ·cases h
  exact ⟨by simp,by simp,by simp,fun h=>by cases h⟩
 exact .name h

theorem toks_good:∀ (f:Nat) (L:Bs) (i:Nat) (l:List Tk),toks f L i=.ok l→∀ t∈l,TkG L t
 | 0,L,i,l,h=>by simp only [toks,Except.ok.injEq] at h; subst h; simp
 | f+1,L,i,l,h=>by
  simp only [toks] at h
  split at h
  ·split at h
   ·cases h
   ·rename_i t to ho
    split at h
    ·rename_i l' hl
     cases h
     intro u hu
     rcases List.mem_cons.1 hu with rfl | hu
     ·exact oneT_good ho
     ·exact toks_good f L to l' hl u hu
    ·cases h
  ·cases h; simp

theorem read_small {S:Bs} {L:List Tk} (hL:L.length≤9000) (hS:S.length≤9000) (hg:∀ t∈L,TkG S t) {sw:Bool} {n deep:Nat} {p:Int} {st st':RSt} {t:Tm} (hi:RInv L st) (h:termR sw S L n deep p st=some (t,st')) (he:st'.e=0):t.size≤9000∧∀ d e,e∈t.els d→e.2.s.size≤9020:=by
 have h1:=(term_sz sw S L n _ _ _ _ _ h he).2
 have h2:=(term_inv sw S L n _ _ _ _ _ h hi).2
 have h3:=term_sb (B:=9020) (by omega) sw S L (fun t ht=>by have:=(hg t ht).len; omega) n
 exact ⟨by omega,h3 _ _ _ _ _ h⟩
end PSL

namespace PSL
open Go

def TokRel (ex:Bool) (d:Int) (a b:Tk):Prop :=
 (b.kind=a.kind∧b.text=a.text∧b.n=a.n∧b.opn=a.opn∧(a.kind≠0→b.at_=a.at_+d))∨(ex=false∧a.kind=5∧b.kind=4∧b.text=[41])

structure Sim (ex:Bool) (m k δ:Nat) (d:Int) (S1:Bs) (L1:List Tk) (S2:Bs) (L2:List Tk):Prop where
 tok:∀ i,(ex=true∨i≤m)→TokRel ex d ((L1[i]?).getD zeroTk) ((L2[i+k]?).getD zeroTk)
 plc:ex=true→∀ i,plcR L2 S2.length (i+k)=plcR L1 S1.length i+d
 byte:∀ i t,L1[i]? = some t→(ex=true∨i≤m)→t.kind=1→decide (S2[(t.at_+d).toNat]? = some 45)=decide (S1[t.at_.toNat]? = some 45)
 deep:δ=0∨(ex=false∧m+δ≤999)
 len:L1.length≤L2.length

structure StR (k:Nat) (d:Int) (a b:RSt):Prop where
 at_:b.at_=a.at_+k
 names:b.names=a.names
 e:b.e=a.e
 bad:a.e≠0→b.bad=a.bad+d
def Fini (ex:Bool) (m:Nat) (st:RSt):Prop:=ex=true∨(st.e=0∧st.at_≤m)
section
variable {ex:Bool} {m k δ:Nat} {d:Int} {S1 S2:Bs} {L1 L2:List Tk} {T1 T2:TF} {a b:RSt} {S:Bs} {L:List Tk} {T:TF}
theorem Fini.no {n:Nat} {c:Int} (hc:c≠0) (h:Fini ex m (failR L n a c)):ex=true:=h.resolve_right fun h=>flN hc h.1
theorem StR.nx (r:StR k d a b):StR k d (nxR a) (nxR b):=⟨by simp only [nxR,r.at_]; omega,r.names,r.e,r.bad⟩

theorem StR.var (r:StR k d a b) (s:Bs):(varR b s).1=(varR a s).1∧StR k d (varR a s).2 (varR b s).2:=by
 unfold varR
 rw [r.names]
 split
 ·exact ⟨rfl,r⟩
 ·exact ⟨rfl,r.at_,by simp only,r.e,r.bad⟩
theorem begS_eq (L:List Tk) (st:RSt):∃ y,begS L st={ st with lay:=y }:=by unfold begS; split; exact ⟨_,rfl⟩; exact ⟨_,rfl⟩
theorem inS_eq (L:List Tk) (st:RSt):∃ y,inS L st={ st with lay:=y }:=by unfold inS; split; exact ⟨_,rfl⟩; exact ⟨_,rfl⟩

theorem StR.beg (r:StR k d a b):StR k d (begS L1 a) (begS L2 b):=by
 obtain ⟨y,hy⟩:=begS_eq L1 a
 obtain ⟨z,hz⟩:=begS_eq L2 b
 rw [hy,hz]; exact ⟨r.at_,r.names,r.e,r.bad⟩

theorem StR.ins (r:StR k d a b):StR k d (inS L1 a) (inS L2 b):=by
 obtain ⟨y,hy⟩:=inS_eq L1 a
 obtain ⟨z,hz⟩:=inS_eq L2 b
 rw [hy,hz]; exact ⟨r.at_,r.names,r.e,r.bad⟩
variable (H:Sim ex m k δ d S1 L1 S2 L2) (r:StR k d a b)
include H r
end
end PSL

namespace PSL
open Go
section
variable {ex:Bool} {m k δ:Nat} {d:Int} {S1 S2:Bs} {L1 L2:List Tk} {T1 T2:TF} {a b:RSt} (H:Sim ex m k δ d S1 L1 S2 L2)
include H
end
end PSL

namespace PSL
open Go

def endR (right:Tm→Bool) (L:List Tk) (n:Nat) (from_:Nat) (x:Tm) (s:RSt):RSt :=
 let st2:=if (peekR L s).kind≠5 then failR L n s 2 else s
 if st2.e=0∧right x=false then { st2 with e:=3,bad:=plcR L n from_ } else st2
theorem cls_step (right:Tm→Bool) (L:List Tk) (n:Nat) (T:TF) (f:Nat) (st:RSt) (out:List Clau):clsR right L n T (f+1) st out=if st.at_<L.length then (T 0 1200 { st with names:=[] }).bind fun x=>if (endR right L n st.at_ x.1 x.2).e≠0 then some ([],(endR right L n st.at_ x.1 x.2).bad,(endR right L n st.at_ x.1 x.2).e) else clsR right L n T f (nxR (endR right L n st.at_ x.1 x.2)) (out++[(x.1,(endR right L n st.at_ x.1 x.2).names)]) else some (out,0,0):=rfl

theorem end_ok {right:Tm→Bool} {L:List Tk} {n:Nat} {i:Nat} {x:Tm} {s:RSt} (h:(endR right L n i x s).e=0):s.e=0∧(peekR L s).kind=5∧s.at_<L.length∧right x=true∧endR right L n i x s=s:=by
 unfold endR at h ⊢
 by_cases hk:(peekR L s).kind≠5
 ·simp only [if_pos hk] at h
  split at h
  ·cases h
  ·exact absurd h (flN (by decide))
 ·simp only [if_neg hk] at h ⊢
  have hk:=Decidable.not_not.1 hk
  have hl:=peek_lt (L:=L) (st:=s) (by rw [hk]; decide)
  split at h
  ·cases h
  ·rename_i hr
   rw [if_neg hr]
   refine ⟨hl.1,hk,hl.2,?_,rfl⟩
   cases hx:right x with
   | true=>rfl
   | false=>exact absurd ⟨hl.1,hx⟩ hr

theorem cls_facts {right:Tm→Bool} {L:List Tk} {n:Nat} {T:TF} {P:Clau→Prop} (hP:∀ st t s,RInv L st→st.names=[]→T 0 1200 st=some (t,s)→s.e=0→right t=true→P (t,s.names)) (hG:TGood L T) (hpl:∀ t∈L,0≤t.at_∧t.at_≤n) (hB:∀ st t s,T 0 1200 st=some (t,s)→0≤st.bad∧st.bad≤n→0≤s.bad∧s.bad≤n):∀ (f:Nat) (st:RSt) (out c:List Clau) (q e:Int),st.at_≤L.length→0≤st.bad∧st.bad≤n→clsR right L n T f st out=some (c,q,e)→(e≠0→c=[])∧(e=0→q=0∧∃ l,c=out++l∧(∀ x∈l,P x)∧(st.at_<L.length→l≠[]))∧0≤q∧q≤n
 | 0,_,_,_,_,_,_,_,h=>by cases h
 | f+1,st,out,c,q,e,hat,hbad,h=>by
  rw [cls_step] at h
  by_cases hl:st.at_<L.length
  ·rw [if_pos hl] at h
   obtain ⟨⟨x,s⟩,hx,h⟩:=Option.bind_eq_some_iff.1 h
   simp only at h
   have hpc:∀ i,0≤plcR L n i∧plcR L n i≤n:=by
    intro i; unfold plcR
    split
    ·rename_i t ht; exact hpl t (List.mem_of_getElem? ht)
    ·exact ⟨Int.natCast_nonneg _,Int.le_refl _⟩
   have hbs:=hB _ _ _ hx hbad
   by_cases he:(endR right L n st.at_ x s).e≠0
   ·rw [if_pos he] at h
    have hb:0≤(endR right L n st.at_ x s).bad∧(endR right L n st.at_ x s).bad≤n:=by
     have h2:0≤(if (peekR L s).kind≠5 then failR L n s 2 else s).bad∧(if (peekR L s).kind≠5 then failR L n s 2 else s).bad≤n:=by
      split
      ·unfold failR; split
       ·exact hpc _
       ·exact hbs
      ·exact hbs
     unfold endR
     simp only
     generalize (if (peekR L s).kind≠5 then failR L n s 2 else s)=u at h2
     split
     ·exact hpc _
     ·exact h2
    cases h
    exact ⟨fun _=>rfl,fun h=>absurd h he,hb⟩
   ·rw [if_neg he] at h
    obtain ⟨e1,e2,e3,e4,e5⟩:=end_ok (Decidable.not_not.1 he)
    rw [e5] at h
    obtain ⟨h1,h2,h3⟩:=cls_facts hP hG hpl hB f (nxR s) _ _ _ _ (by rw [nx_at]; omega) hbs h
    refine ⟨h1,fun he=>?_,h3⟩
    obtain ⟨g1,l,g2,g3,_⟩:=h2 he
    exact ⟨g1,(x,s.names)::l,by rw [g2,List.append_assoc]; rfl,fun y hy=>by
     rcases List.mem_cons.1 hy with rfl | hy
     ·exact hP _ _ _ (⟨Nat.zero_le _,hat⟩:RInv L { st with names:=[] }) rfl hx e1 e4
     ·exact g3 y hy,fun _=>by simp⟩
  ·rw [if_neg hl] at h
   cases h
   exact ⟨fun h=>absurd rfl h,fun _=>⟨rfl,[],by simp,by simp,fun h=>absurd h hl⟩,Int.le_refl _,Int.natCast_nonneg _⟩
end PSL

namespace PSL
open Go
def TBd (B:Int→Prop) (T:TF):Prop:=∀ deep p st t st',T deep p st=some (t,st')→B st.bad→B st'.bad
section
variable {B:Int→Prop} {S:Bs} {L:List Tk} {T:TF} {st:RSt}

theorem fail_bd (hB:∀ i,B (plcR L S.length i)) {c:Int} (h:B st.bad):B (failR L S.length st c).bad:=by
 unfold failR; split
 ·exact hB _
 ·exact h

theorem must_bd (hB:∀ i,B (plcR L S.length i)) {s:Bs} (h:B st.bad):B (mustR L S.length st s).bad:=by
 unfold mustR; split
 ·exact h
 ·exact fail_bd hB h
theorem beg_bd:(begS L st).bad=st.bad:=by unfold begS; split <;> rfl
theorem ins_bd:(inS L st).bad=st.bad:=by unfold inS; split <;> rfl

theorem many_bd (hT:TBd B T):∀ (f deep:Nat) (st:RSt) (acc:List Tm) (l:List Tm) (st':RSt),manyR L T f deep st acc=some (l,st')→B st.bad→B st'.bad
 | 0,_,_,_,_,_,h,_=>by cases h
 | f+1,deep,st,acc,l,st',h,hb=>by
  simp only [manyR] at h
  split at h
  ·obtain ⟨x,hx,h⟩:=Option.bind_eq_some_iff.1 h
   exact many_bd hT f deep _ _ _ _ h (hT _ _ _ _ _ hx hb)
  ·cases h; exact hb

theorem row_bd (hT:TBd B T) {deep:Nat} {l:List Tm} {st':RSt} (h:rowR L T deep st=some (l,st')) (hb:B st.bad):B st'.bad:=by
 obtain ⟨x,hx,h⟩:=Option.bind_eq_some_iff.1 h
 exact many_bd hT _ _ _ _ _ _ h (hT _ _ _ _ _ hx hb)

theorem named_bd (hB:∀ i,B (plcR L S.length i)) (hT:TBd B T) {deep:Nat} {p:Int} {t:Tk} {x:Tm × Int × RSt} (h:namedR S L T deep p t st=some x) (hb:B st.bad):B x.2.2.bad:=by
 unfold namedR at h
 split at h
 ·cases h; exact hb
 split at h
 ·obtain ⟨y,hy,rfl⟩:=Option.map_eq_some_iff.1 h
  exact must_bd hB (row_bd hT hy (must_bd hB hb))
 split at h
 ·split at h
  ·split at h
   ·cases h
    exact fail_bd hB (by simp only; rw [beg_bd]; exact hb)
   ·obtain ⟨y,hy,rfl⟩:=Option.map_eq_some_iff.1 h
    exact hT _ _ _ _ _ hy (by rw [beg_bd]; exact hb)
  ·cases h; simp only; rw [beg_bd]; exact hb
 ·cases h; exact hb

theorem list_bd (hB:∀ i,B (plcR L S.length i)) (hT:TBd B T) {deep:Nat} {x:Tm × RSt} (h:listR S L T deep st=some x) (hb:B st.bad):B x.2.bad:=by
 obtain ⟨y,hy,h⟩:=Option.bind_eq_some_iff.1 h
 have h1:=row_bd hT hy hb
 split at h
 ·obtain ⟨z,hz,rfl⟩:=Option.map_eq_some_iff.1 h
  exact must_bd hB (hT _ _ _ _ _ hz h1)
 ·cases h; exact must_bd hB h1

theorem opnd_bd (hB:∀ i,B (plcR L S.length i)) (hT:TBd B T) {sw:Bool} {deep:Nat} {p:Int} {x:Tm × Int × RSt} (h:opndR sw S L T deep p st=some x) (hb:B st.bad):B x.2.2.bad:=by
 unfold opndR at h
 split at h
 ·cases h; exact fail_bd hB hb
 split at h
 ·cases h; exact hb
 split at h
 ·cases h; simp only; rw [(var_at _).2.2.2.2]; exact hb
 split at h
 ·obtain ⟨y,hy,rfl⟩:=Option.map_eq_some_iff.1 h
  have:=named_bd hB hT hy hb
  split <;> exact this
 split at h
 ·obtain ⟨y,hy,rfl⟩:=Option.map_eq_some_iff.1 h
  exact must_bd hB (hT _ _ _ _ _ hy hb)
 split at h
 ·obtain ⟨y,hy,rfl⟩:=Option.map_eq_some_iff.1 h
  exact list_bd hB hT hy hb
 ·cases h; exact fail_bd hB hb

theorem rest_bd (hT:TBd B T):∀ (f deep:Nat) (p:Int) (out:Tm) (now:Int) (st:RSt) (t:Tm) (st':RSt),restR L T f deep p out now st=some (t,st')→B st.bad→B st'.bad
 | 0,_,_,_,_,_,_,_,h,_=>by cases h
 | f+1,deep,p,out,now,st,t,st',h,hb=>by
  simp only [restR] at h
  split at h
  ·cases h; exact hb
  split at h
  ·cases h; rw [ins_bd]; exact hb
  ·split at h
   ·cases h; rw [ins_bd]; exact hb
   ·obtain ⟨x,hx,h⟩:=Option.bind_eq_some_iff.1 h
    exact rest_bd hT f deep p _ _ _ _ _ h (hT _ _ _ _ _ hx (by show B (inS L st).bad; rw [ins_bd]; exact hb))

theorem term_bd (hB:∀ i,B (plcR L S.length i)) (sw:Bool):∀ n,TBd B (termR sw S L n)
 | 0=>fun _ _ _ _ _ h=>by cases h
 | n+1=>fun deep p st t st' h hb=>by
  simp only [termR] at h
  obtain ⟨x,hx,h⟩:=Option.bind_eq_some_iff.1 h
  exact rest_bd (term_bd hB sw n) _ _ _ _ _ _ _ _ h (opnd_bd hB (term_bd hB sw n) hx hb)
end

def extV:Nat→List Int→Option Nat
 | m,[]=>some m
 | m,v::r=>if 0≤v∧v<m then extV m r else if v=m then extV (m+1) r else none

theorem extV_app:∀ (a b:List Int) (m:Nat),extV m (a++b)=(extV m a).bind fun k=>extV k b
 | [],_,_=>rfl
 | v::r,b,m=>by
  simp only [List.cons_append,extV]
  split
  ·exact extV_app r b m
  ·split
   ·exact extV_app r b _
   ·rfl
theorem extV_app' {a b:List Int} {m k j:Nat} (h:extV m a=some k) (h2:extV k b=some j):extV m (a++b)=some j:=by rw [extV_app,h]; exact h2
def TNum (T:TF):Prop:=∀ deep p st t st',T deep p st=some (t,st')→st'.e=0→extV st.names.length (Tm.occ t)=some st'.names.length
section
variable {S:Bs} {L:List Tk} {T:TF} {st:RSt}
theorem fail_nm {n:Nat} {c:Int}:(failR L n st c).names=st.names:=by unfold failR; split <;> rfl

theorem must_nm {n:Nat} {s:Bs}:(mustR L n st s).names=st.names:=by
 unfold mustR; split
 ·rfl
 ·exact fail_nm
theorem beg_nm:(begS L st).names=st.names:=by unfold begS; split <;> rfl
theorem ins_nm:(inS L st).names=st.names:=by unfold inS; split <;> rfl

theorem occL_app:∀ (a b:List Tm),Tm.occL (a++b)=Tm.occL a++Tm.occL b
 | [],_=>rfl
 | x::a,b=>by simp only [List.cons_append,Tm.occL,occL_app a b,List.append_assoc]
theorem occ_fn (s:Bs) (l:List Tm):Tm.occ (fnT s l)=Tm.occL l:=by simp [fnT,Tm.occ]

theorem occ_cons (l:List Tm) (t:Tm):Tm.occ (consT l t)=Tm.occL l++Tm.occ t:=by
 induction l with
 | nil=>rfl
 | cons x l ih =>
  show Tm.occ (fnT [46] [x,consT l t])=_
  rw [occ_fn]
  simp only [Tm.occL,ih,List.append_nil,List.append_assoc]
theorem occ_nm (n:Int):Tm.occ (nmT n)=[]:=by simp [nmT,Tm.occ,Tm.occL]
theorem occ_one (x:Tm):Tm.occL [x]=Tm.occ x:=by simp [Tm.occL]

theorem many_num (hT:TNum T) (hZ:TSz T):∀ (f deep:Nat) (st:RSt) (acc:List Tm) (l:List Tm) (st':RSt) (m:Nat),manyR L T f deep st acc=some (l,st')→st'.e=0→extV m (Tm.occL acc)=some st.names.length→extV m (Tm.occL l)=some st'.names.length
 | 0,_,_,_,_,_,_,h,_,_=>by cases h
 | f+1,deep,st,acc,l,st',m,h,he,hm=>by
  simp only [manyR] at h
  split at h
  ·obtain ⟨⟨x,s⟩,hx,h⟩:=Option.bind_eq_some_iff.1 h
   have hs:=(many_sz hZ f deep _ _ _ _ h he).1
   refine many_num hT hZ f deep _ _ _ _ m h he ?_
   rw [occL_app,occ_one]
   exact extV_app' hm (show extV st.names.length _=_ from hT _ _ (nxR st) _ _ hx hs)
  ·cases h; exact hm

theorem row_num (hT:TNum T) (hZ:TSz T) {deep:Nat} {l:List Tm} {st':RSt} (h:rowR L T deep st=some (l,st')) (he:st'.e=0):extV st.names.length (Tm.occL l)=some st'.names.length:=by
 obtain ⟨⟨x,s⟩,hx,h⟩:=Option.bind_eq_some_iff.1 h
 have hs:=(many_sz hZ _ deep _ _ _ _ h he).1
 exact many_num hT hZ _ _ _ _ _ _ _ h he (by rw [occ_one]; exact hT _ _ _ _ _ hx hs)

theorem named_num (hT:TNum T) (hZ:TSz T) {deep:Nat} {p:Int} {t:Tk} {x:Tm × Int × RSt} (h:namedR S L T deep p t st=some x) (he:x.2.2.e=0):extV st.names.length (Tm.occ x.1)=some x.2.2.names.length:=by
 unfold namedR at h
 split at h
 ·cases h; simp only; rw [occ_nm]; rfl
 split at h
 ·obtain ⟨⟨l,s⟩,hy,rfl⟩:=Option.map_eq_some_iff.1 h
  have:=row_num hT hZ hy (must_e he)
  rw [must_nm] at this
  simp only
  rw [occ_fn,must_nm]
  exact this
 split at h
 ·split at h
  ·split at h
   ·cases h; exact absurd he (flN (by decide))
   ·obtain ⟨⟨u,s⟩,hy,rfl⟩:=Option.map_eq_some_iff.1 h
    have:=hT _ _ _ _ _ hy he
    rw [beg_nm] at this
    simp only
    rw [occ_fn,occ_one]
    exact this
  ·cases h; simp only; rw [occ_fn,beg_nm]; rfl
 ·cases h; simp only; rw [occ_fn]; rfl

theorem list_num (hT:TNum T) (hZ:TSz T) {deep:Nat} {x:Tm × RSt} (h:listR S L T deep st=some x) (he:x.2.e=0):extV st.names.length (Tm.occ x.1)=some x.2.names.length:=by
 obtain ⟨⟨l,s⟩,hy,h⟩:=Option.bind_eq_some_iff.1 h
 simp only at h
 split at h
 ·obtain ⟨⟨u,v⟩,hz,rfl⟩:=Option.map_eq_some_iff.1 h
  have e1:=must_e he
  have h2:=hT _ _ _ _ _ hz e1
  have e2:=(hZ _ _ _ _ _ hz e1).1
  have h1:=row_num hT hZ hy e2
  simp only
  rw [occ_cons,must_nm]
  exact extV_app' h1 h2
 ·cases h
  have h1:=row_num hT hZ hy (must_e he)
  simp only
  rw [occ_cons,must_nm,occ_fn]
  exact extV_app' h1 rfl

theorem idxV_lt:∀ {l:List Bs} {s:Bs} {i k:Nat},idxV l s i=some k→i≤k∧k<i+l.length
 | [],_,_,_,h=>by cases h
 | x::l,s,i,k,h=>by
  simp only [idxV] at h
  split at h
  ·cases h; simp
  ·have:=idxV_lt h; simp only [List.length_cons]; omega

theorem var_num (s:Bs):extV st.names.length [(varR st s).1]=some (varR st s).2.names.length:=by
 unfold varR
 split
 ·rename_i i hi
  split at hi
  ·cases hi
  ·have:=idxV_lt hi
   simp only [extV]
   rw [if_pos (by omega)]
 ·simp only [extV]
  rw [if_neg (by omega)]
  simp
theorem occ_v (v:Int):Tm.occ (Tm.vT v)=[v]:=by simp [Tm.vT,Tm.occ]

theorem opnd_num (hT:TNum T) (hZ:TSz T) {sw:Bool} {deep:Nat} {p:Int} {x:Tm × Int × RSt} (h:opndR sw S L T deep p st=some x) (he:x.2.2.e=0):extV st.names.length (Tm.occ x.1)=some x.2.2.names.length:=by
 unfold opndR at h
 split at h
 ·cases h; exact absurd he (flN (by decide))
 split at h
 ·cases h; simp only; rw [occ_nm]; rfl
 split at h
 ·cases h; simp only; rw [occ_v]
  exact var_num (st:=nxR st) _
 split at h
 ·obtain ⟨y,hy,rfl⟩:=Option.map_eq_some_iff.1 h
  have e1:y.2.2.e=0:=by revert he; split <;> exact id
  have:=named_num hT hZ hy e1
  rw [if_neg (by simp [e1])]
  exact this
 split at h
 ·obtain ⟨⟨u,s⟩,hy,rfl⟩:=Option.map_eq_some_iff.1 h
  simp only
  rw [must_nm]
  exact hT _ _ (nxR st) _ _ hy (must_e he)
 split at h
 ·obtain ⟨⟨u,s⟩,hy,rfl⟩:=Option.map_eq_some_iff.1 h
  exact list_num hT hZ hy he
 ·cases h; exact absurd he (flN (by decide))

theorem rest_num (hT:TNum T) (hZ:TSz T):∀ (f deep:Nat) (p:Int) (out:Tm) (now:Int) (st:RSt) (t:Tm) (st':RSt) (m:Nat),restR L T f deep p out now st=some (t,st')→st'.e=0→extV m (Tm.occ out)=some st.names.length→extV m (Tm.occ t)=some st'.names.length
 | 0,_,_,_,_,_,_,_,_,h,_,_=>by cases h
 | f+1,deep,p,out,now,st,t,st',m,h,he,hm=>by
  simp only [restR] at h
  split at h
  ·cases h; exact hm
  split at h
  ·cases h; rw [ins_nm]; exact hm
  ·split at h
   ·cases h; rw [ins_nm]; exact hm
   ·obtain ⟨⟨x,s⟩,hx,h⟩:=Option.bind_eq_some_iff.1 h
    have hs:=(rest_sz hZ _ _ _ _ _ _ _ _ h he).1
    refine rest_num hT hZ f deep p _ _ _ _ _ m h he ?_
    rw [occ_fn]
    have h2:=hT _ _ _ _ _ hx hs
    rw [show (nxR (inS L st)).names=st.names from ins_nm] at h2
    show extV m (Tm.occ out++(Tm.occ x++[]))=_
    rw [List.append_nil]
    exact extV_app' hm h2

theorem term_num (sw:Bool) (S:Bs) (L:List Tk):∀ n,TNum (termR sw S L n)
 | 0=>fun _ _ _ _ _ h=>by cases h
 | n+1=>fun deep p st t st' h he=>by
  simp only [termR] at h
  obtain ⟨⟨x,q,s⟩,hx,h⟩:=Option.bind_eq_some_iff.1 h
  have hZ:=term_sz sw S L n
  have hs:=(rest_sz hZ _ _ _ _ _ _ _ _ h he).1
  exact rest_num (term_num sw S L n) hZ _ _ _ _ _ _ _ _ _ h he (opnd_num (term_num sw S L n) hZ hx hs)
end
end PSL

namespace PSL
open Go
def idn (m:Nat):List Int:=(List.range m).map Int.ofNat

theorem idn_mem {m:Nat} {v:Int}:v∈idn m↔0≤v∧v<m:=by
 unfold idn
 simp only [List.mem_map,List.mem_range]
 exact ⟨fun ⟨a,h,e⟩=>by rw [← e]; exact ⟨Int.natCast_nonneg _,by show (a:Int)<m; omega⟩,fun h=>⟨v.toNat,by omega,by show ((v.toNat:Nat):Int)=v; omega⟩⟩
theorem idn_len (m:Nat):(idn m).length=m:=by simp [idn]
theorem idn_snoc (m:Nat):idn m++[(m:Int)]=idn (m+1):=by unfold idn; rw [List.range_succ,List.map_append]; rfl

theorem idn_at (m:Nat) {v:Int} (h:0≤v∧v<m):atI (idn m) v 0=v:=by
 have key:∀ (k s:Nat) (v:Int),(s:Int)≤v→v<((s+k:Nat):Int)→atI ((List.range' s k).map Int.ofNat) v s=v:=by
  intro k
  induction k with
  | zero=>intro s v h1 h2; omega
  | succ k ih =>
   intro s v h1 h2
   simp only [List.range'_succ,List.map_cons,atI]
   split
   ·rename_i e; exact e
   ·rename_i e
    have e:¬ (s:Int)=v:=e
    have:=ih (s+1) v (by omega) (by omega)
    rw [show ((s+1:Nat):Int)=(s:Int)+1 by omega] at this
    exact this
 have:=key m 0 v (by simpa using h.1) (by simpa using h.2)
 unfold idn
 rw [List.range_eq_range']
 exact this

theorem ext_once:∀ (l:List Int) (k m:Nat),extV k l=some m→l.foldl addV (idn k)=idn m∧k≤m∧∀ v∈l,0≤v∧v<m
 | [],k,m,h=>by cases h; exact ⟨rfl,Nat.le_refl _,by simp⟩
 | v::l,k,m,h=>by
  simp only [extV] at h
  simp only [List.foldl_cons]
  split at h
  ·rename_i hv
   obtain ⟨h1,h2,h3⟩:=ext_once l k m h
   have:addV (idn k) v=idn k:=by unfold addV; rw [if_pos (by simpa using idn_mem.2 hv)]
   rw [this]
   exact ⟨h1,h2,fun w hw=>by
    rcases List.mem_cons.1 hw with rfl | hw
    ·exact ⟨hv.1,by omega⟩
    ·exact h3 w hw⟩
  ·rename_i hv
   split at h
   ·rename_i he
    obtain ⟨h1,h2,h3⟩:=ext_once l (k+1) m h
    have:addV (idn k) v=idn (k+1):=by
     unfold addV
     rw [if_neg (by simpa using fun h=>hv (idn_mem.1 h)),he,idn_snoc]
    rw [this]
    exact ⟨h1,by omega,fun w hw=>by
     rcases List.mem_cons.1 hw with rfl | hw
     ·exact ⟨by omega,by omega⟩
     ·exact h3 w hw⟩
   ·cases h

theorem num_read {t:Tm} {m:Nat} (hr:t.rightB=true) (h:extV 0 (Tm.occ t)=some m):numberT [t]=([t],(m:Int),0):=by
 obtain ⟨h1,_,h3⟩:=ext_once _ _ _ h
 have hf:Tm.fairRL [t]=true:=fairL_of (by simpa using hr)
 have hv:varsT [t]=idn m:=by
  rw [varsT_once hf]
  show (Tm.occL [t]).foldl addV []=_
  rw [show Tm.occL [t]=Tm.occ t by simp [Tm.occL]]
  exact h1
 unfold numberT
 rw [if_pos (by simp [rightT_eq,hr]),hv,idn_len]
 have:Tm.turnTL (placeG (idn m)) [t]=[t]:=by
  show [Tm.turnT (placeG (idn m)) t]=[t]
  have h2:=Tm.turn_congr (g:=placeG (idn m)) (g':=fun n=>n) t (right_fair hr) fun v hv=>by
   have:=idn_at m (h3 v hv)
   unfold placeG
   rw [this,if_neg (by have:=(h3 v hv).1; omega)]
  rw [h2,Tm.turn_self]
 rw [this]

theorem tok_ok {S:Bs} (h:(tokT S).2.2=0):S.length≤8000∧toks (S.length+1) S 0=.ok (tokT S).1∧tokT S=((tokT S).1,0,0):=by
 unfold tokT at h ⊢
 split at h
 ·cases h
 ·rename_i hl
  rw [if_neg hl]
  cases ht:toks (S.length+1) S 0 with
  | ok l=>exact ⟨by omega,rfl,rfl⟩
  | error j=>rw [ht] at h; cases h

theorem tok_bad {S:Bs} (h:(tokT S).2.2≠0):(tokT S).1=[]∧0≤(tokT S).2.1∧(tokT S).2.1≤S.length:=by
 unfold tokT at h ⊢
 split at h
 ·rename_i hl
  rw [if_pos hl]; exact ⟨rfl,by simp,by simp⟩
 ·rename_i hl
  rw [if_neg hl]
  cases ht:toks (S.length+1) S 0 with
  | ok l=>rw [ht] at h; exact absurd rfl h
  | error j =>
   have:=toks_bad _ _ _ _ ht
   exact ⟨rfl,by simp only; omega,by simp only; omega⟩

theorem toks_plc {S:Bs} {l:List Tk} (h:toks (S.length+1) S 0=.ok l):∀ t∈l,0≤t.at_∧t.at_<S.length:=fun t ht=>by
 have:=((toks_place _ _ _ _ h).1 t ht).lo
 have:=((toks_place _ _ _ _ h).1 t ht).hi
 omega

theorem cls_count {right:Tm→Bool} {L:List Tk} {n:Nat} {T:TF}:∀ (f:Nat) (st:RSt) (out c:List Clau) (q e:Int),clsR right L n T f st out=some (c,q,e)→c.length≤out.length+f
 | 0,_,_,_,_,_,h=>by cases h
 | f+1,st,out,c,q,e,h=>by
  rw [cls_step] at h
  split at h
  ·obtain ⟨⟨x,s⟩,hx,h⟩:=Option.bind_eq_some_iff.1 h
   simp only at h
   split at h
   ·cases h; simp
   ·have:=cls_count f _ _ _ _ _ h
    simp only [List.length_append,List.length_singleton] at this
    omega
  ·cases h; omega

theorem clau_count {right:Tm→Bool} {sw:Bool} {S:Bs} {c:List Clau} {q e:Int} (h:clauR right sw S=some (c,q,e)):c.length≤9000:=by
 unfold clauR at h
 by_cases he:(tokT S).2.2≠0
 ·rw [if_pos he] at h; cases h; simp
 ·rw [if_neg he] at h
  obtain ⟨h8,ht,_⟩:=tok_ok (Decidable.not_not.1 he)
  have:=toks_len _ S 0 _ ht
  have:=cls_count _ _ _ _ _ _ h
  simp only [List.length_nil] at this
  omega

structure ClG (x:Clau):Prop where
 right:x.1.rightB=true
 num:numberT [x.1]=([x.1],(x.2.length:Int),0)
 few:x.2.length≤9000

theorem clau_facts {sw:Bool} {S:Bs} (hS:S.length≤9000) {c:List Clau} {q e:Int} (h:clauR rightT sw S=some (c,q,e)):(e≠0→c=[])∧(e=0→q=0∧∀ x∈c,ClG x)∧0≤q∧q≤S.length:=by
 unfold clauR at h
 by_cases he:(tokT S).2.2≠0
 ·rw [if_pos he] at h
  have hb:=tok_bad he
  cases h
  exact ⟨fun _=>rfl,fun h=>absurd h he,hb.2⟩
 ·rw [if_neg he] at h
  obtain ⟨h8,ht,_⟩:=tok_ok (Decidable.not_not.1 he)
  have hpl:=toks_plc ht
  have hlen:=toks_len _ S 0 _ ht
  obtain ⟨h1,h2,h3⟩:=cls_facts (P:=ClG) (fun st t s hi hn hx he hr=>by
   have h1:=(term_inv sw S _ _ _ _ _ _ _ hx hi)
   have h2:=term_num sw S _ _ _ _ _ _ _ hx he
   rw [hn] at h2
   rw [rightT_eq] at hr
   exact ⟨hr,num_read hr h2,by have:=h1.1; have:=h1.2; simp only; omega⟩) (term_inv sw S _ _) (n:=S.length) (fun t ht=>by have:=hpl t ht; omega)
   (fun st t s hx hb=>term_bd (B:=fun b=>0≤b∧b≤(S.length:Int)) (fun i=>by
    unfold plcR; split
    ·rename_i t ht'; have:=hpl t (List.mem_of_getElem? ht'); exact ⟨this.1,by omega⟩
    ·exact ⟨Int.natCast_nonneg _,Int.le_refl _⟩) sw _ _ _ _ _ _ hx hb) _ _ _ _ _ _ (Nat.zero_le _) ⟨Int.le_refl _,Int.natCast_nonneg _⟩ h
  exact ⟨h1,fun he=>by
   obtain ⟨g1,l,g2,g3,_⟩:=h2 he
   refine ⟨g1,?_⟩
   rw [g2]
   simpa using g3,h3⟩
end PSL

namespace PSL
open Go
def argT (t:Tm) (i:Nat):Tm:=(t.l[i]?).getD zeroT
def failM (st:Int × Int) (c:Int):Int × Int:=if st.2=0 then (st.1,c) else st
def sgC:Sg:=(Tx [44],2)
def sgT:Sg:=(Tx [116,114,117,101],0)
def sgX:Sg:=(Tx [33],0)
def sgN:Sg:=(Tx [92,43],1)
def sgO:Sg:=(Tx [59],2)
def sgI:Sg:=(Tx [45,62],2)
def sgR:Sg:=(Tx [58,45],2)

def golF:Nat→Tm→Int × Int→Int→Bool→List Gl × (Int × Int)
 | 0,_,st,_,_=>([],st)
 | n+1,t,st,deep,cuts =>
  if (if t.k=3 then st else failM st 5).2≠0 then ([],if t.k=3 then st else failM st 5)
  else if sgOf t=sgC then ((golF n (argT t 0) st deep cuts).1++(golF n (argT t 1) (golF n (argT t 0) st deep cuts).2 deep cuts).1,(golF n (argT t 1) (golF n (argT t 0) st deep cuts).2 deep cuts).2)
  else if sgOf t=sgT then ([],st)
  else if st.1 - 1<0∨10<deep then ([],failM (st.1 - 1,st.2) 3)
  else if sgOf t=sgX then ([.mk 3 zeroT [] [] []],if cuts then (st.1 - 1,st.2) else failM (st.1 - 1,st.2) 5)
  else if sgOf t=sgN then ([.mk 5 zeroT (golF n (argT t 0) (st.1 - 1,st.2) (deep+1) false).1 [] []],(golF n (argT t 0) (st.1 - 1,st.2) (deep+1) false).2)
  else if bltB (sgOf t) then ([.mk 2 t [] [] []],(st.1 - 1,st.2))
  else if ctlB (sgOf t) then ([],failM (st.1 - 1,st.2) 5)
  else ([.mk 1 t [] [] []],(st.1 - 1,st.2))

mutual
def noCh:Tm→Bool
 | .mk _ s _ l=>!strEq s (Tx [59]) && !strEq s (Tx [45,62])&&noChL l
def noChL:List Tm→Bool
 | []=>true
 | t::r=>noCh t&&noChL r
end
theorem noCh_eq (t:Tm):noCh t=(!strEq t.s (Tx [59]) && !strEq t.s (Tx [45,62])&&noChL t.l):=by cases t; rw [noCh]; rfl

theorem noChL_mem {l:List Tm} (h:noChL l=true):∀ x∈l,noCh x=true:=by
 induction l with
 | nil=>intro x hx; cases hx
 | cons y r ih =>
  simp only [noChL,Bool.and_eq_true] at h
  intro x hx
  rcases List.mem_cons.1 hx with rfl | hx
  ·exact h.1
  ·exact ih h.2 x hx

theorem noCh_arg {t:Tm} (h:noCh t=true) {i:Nat} (hi:i<t.l.length):noCh (argT t i)=true:=by
 rw [noCh_eq] at h
 simp only [Bool.and_eq_true] at h
 unfold argT
 rw [List.getElem?_eq_getElem hi]
 exact noChL_mem h.2 _ (List.getElem_mem hi)

theorem noCh_sg {t:Tm} (h:noCh t=true):sgOf t≠sgO∧sgOf t≠sgI:=by
 rw [noCh_eq] at h
 simp only [Bool.and_eq_true,Bool.not_eq_true'] at h
 refine ⟨fun e=>?_,fun e=>?_⟩
 ·have:t.s=Tx [59]:=congrArg Prod.fst e
  have h2:=h.1.1
  rw [Tm.strEq_iff.2 this] at h2; cases h2
 ·have:t.s=Tx [45,62]:=congrArg Prod.fst e
  have h2:=h.1.2
  rw [Tm.strEq_iff.2 this] at h2; cases h2

theorem size_arg {t:Tm} {i:Nat} (hi:i<t.l.length):(argT t i).size+1≤t.size:=by
 unfold argT
 rw [List.getElem?_eq_getElem hi]
 have key:∀ (l:List Tm) (i:Nat) (h:i<l.length),(l[i]).size≤Tm.sizeL l:=by
  intro l
  induction l with
  | nil=>intro i h; simp at h
  | cons x r ih =>
   intro i h
   simp only [Tm.sizeL]
   cases i with
   | zero=>simp
   | succ i =>
    have:=ih i (by simpa using h)
    simp only [List.getElem_cons_succ]; omega
 have:=key t.l i hi
 cases t
 simp only [Tm.size,Tm.l,Option.getD_some] at *
 omega

theorem size_two {t:Tm} (h:t.l.length=2):(argT t 0).size+(argT t 1).size+1≤t.size:=by
 cases t with
 | mk k s n l =>
  simp only [Tm.l] at h
  match l,h with
  | [a,b],_=>simp [argT,Tm.l,Tm.size,Tm.sizeL]; omega

theorem SmT.arg {t:Tm} (h:SmT t) {i:Nat} (hi:i<t.l.length):SmT (argT t i):=by
 have:=size_arg hi
 refine ⟨by have:=h.1; omega,fun x e he=>?_⟩
 unfold argT at he
 rw [List.getElem?_eq_getElem hi] at he
 refine h.2 (x - 1) e ?_
 rw [Tm.els_eq]
 exact List.mem_cons_of_mem _ (Tm.els_memL (List.getElem_mem hi) (by rw [Int.sub_add_cancel]; exact he))

theorem sg_len {t:Tm} {s:ByteArray} {n:Nat} (h:sgOf t=(s,(n:Int))):t.l.length=n:=by
 have:((t.l.length:Nat):Int)=n:=congrArg Prod.snd h
 omega

theorem golF_succ (n:Nat) (t:Tm) (st:Int × Int) (deep:Int) (cuts:Bool):golF (n+1) t st deep cuts =
  if (if t.k=3 then st else failM st 5).2≠0 then ([],if t.k=3 then st else failM st 5)
  else if sgOf t=sgC then ((golF n (argT t 0) st deep cuts).1++(golF n (argT t 1) (golF n (argT t 0) st deep cuts).2 deep cuts).1,(golF n (argT t 1) (golF n (argT t 0) st deep cuts).2 deep cuts).2)
  else if sgOf t=sgT then ([],st)
  else if st.1 - 1<0∨10<deep then ([],failM (st.1 - 1,st.2) 3)
  else if sgOf t=sgX then ([.mk 3 zeroT [] [] []],if cuts then (st.1 - 1,st.2) else failM (st.1 - 1,st.2) 5)
  else if sgOf t=sgN then ([.mk 5 zeroT (golF n (argT t 0) (st.1 - 1,st.2) (deep+1) false).1 [] []],(golF n (argT t 0) (st.1 - 1,st.2) (deep+1) false).2)
  else if bltB (sgOf t) then ([.mk 2 t [] [] []],(st.1 - 1,st.2))
  else if ctlB (sgOf t) then ([],failM (st.1 - 1,st.2) 5)
  else ([.mk 1 t [] [] []],(st.1 - 1,st.2)):=rfl

theorem golF_ok:∀ (n:Nat) (t:Tm) (st:Int × Int) (deep:Int) (cuts:Bool),SmT t→allGL SmT (golF n t st deep cuts).1∧Gl.sizeL (golF n t st deep cuts).1+1≤2 * t.size∧st.1 - t.size≤(golF n t st deep cuts).2.1∧(golF n t st deep cuts).2.1≤st.1
 | 0,t,st,deep,cuts,h=>by
  have:=Gl.tmPos t
  simp only [golF,allGL,Gl.sizeL]
  exact ⟨trivial,by omega,by omega,Int.le_refl _⟩
 | n+1,t,st,deep,cuts,h=>by
  have hp:=Gl.tmPos t
  have hz:SmT zeroT:=⟨by decide,fun x e he=>by
   simp only [zeroT,Tm.els,Tm.elsL,List.mem_singleton] at he
   subst he; show (0:Nat)<1000000000; decide⟩
  have f1:∀ (st:Int × Int) (c:Int),(failM st c).1=st.1:=fun st c=>by unfold failM; split <;> rfl
  have f2:(if t.k=3 then st else failM st 5).1=st.1:=by split; rfl; exact f1 _ _
  have one:∀ (k:Int) (u:Tm) (a:List Gl),SmT u→allGL SmT a→allGL SmT [.mk k u a [] []]:=fun k u a h1 h2=>by
   simp only [allGL,allG]; exact ⟨⟨h1,h2,trivial,trivial⟩,trivial⟩
  have sz:∀ (k:Int) (u:Tm) (a:List Gl),Gl.sizeL [.mk k u a [] []]=u.size+Gl.sizeL a:=fun k u a=>by simp [Gl.sizeL,Gl.size]
  have zs:zeroT.size=1:=rfl
  have hE:∀ (st':Int × Int),st'.1=st.1∨st'.1=st.1 - 1→(allGL SmT (([]:List Gl),st').1∧Gl.sizeL (([]:List Gl),st').1+1≤2 * t.size∧st.1 - t.size≤(([]:List Gl),st').2.1∧(([]:List Gl),st').2.1≤st.1):=fun st' h=>by
   simp only [allGL,Gl.sizeL]; exact ⟨trivial,by omega,by omega,by omega⟩
  rw [golF_succ]
  by_cases c0:(if t.k=3 then st else failM st 5).2≠0
  ·rw [if_pos c0]; exact hE _ (.inl f2)
  rw [if_neg c0]
  by_cases c1:sgOf t=sgC
  ·rw [if_pos c1]
   have hl:=sg_len (n:=2) c1
   have h2:=size_two hl
   obtain ⟨a1,a2,a3,a4⟩:=golF_ok n (argT t 0) st deep cuts (h.arg (by omega))
   obtain ⟨b1,b2,b3,b4⟩:=golF_ok n (argT t 1) (golF n (argT t 0) st deep cuts).2 deep cuts (h.arg (by omega))
   refine ⟨?_,by rw [Gl.sizeL_app]; omega,by simp only; omega,by simp only; omega⟩
   refine allGL_of fun g hg=>?_
   rcases List.mem_append.1 hg with hg | hg
   ·exact allGL_mem a1 g hg
   ·exact allGL_mem b1 g hg
  rw [if_neg c1]
  by_cases c2:sgOf t=sgT
  ·rw [if_pos c2]; exact hE _ (.inl rfl)
  rw [if_neg c2]
  by_cases c3:st.1 - 1<0∨10<deep
  ·rw [if_pos c3]; exact hE _ (.inr (f1 _ _))
  rw [if_neg c3]
  by_cases c4:sgOf t=sgX
  ·rw [if_pos c4]
   have h4:(if cuts then (st.1 - 1,st.2) else failM (st.1 - 1,st.2) 5).1=st.1 - 1:=by split; rfl; exact f1 _ _
   refine ⟨one _ _ _ hz (by simp only [allGL]),by rw [sz,zs]; simp only [Gl.sizeL]; omega,by simp only; omega,by simp only; omega⟩
  rw [if_neg c4]
  by_cases c5:sgOf t=sgN
  ·rw [if_pos c5]
   have hl:=sg_len (n:=1) c5
   have h2:=size_arg (t:=t) (i:=0) (by omega)
   obtain ⟨a1,a2,a3,a4⟩:=golF_ok n (argT t 0) (st.1 - 1,st.2) (deep+1) false (h.arg (by omega))
   simp only at a3 a4
   refine ⟨one _ _ _ hz a1,by rw [sz,zs]; omega,by simp only; omega,by simp only; omega⟩
  rw [if_neg c5]
  by_cases c6:bltB (sgOf t)=true
  ·rw [if_pos c6]
   exact ⟨one _ _ _ h (by simp only [allGL]),by rw [sz]; simp only [Gl.sizeL]; omega,by simp only; omega,by simp only; omega⟩
  rw [if_neg c6]
  by_cases c7:ctlB (sgOf t)=true
  ·rw [if_pos c7]; exact hE _ (.inr (f1 _ _))
  rw [if_neg c7]
  exact ⟨one _ _ _ h (by simp only [allGL]),by rw [sz]; simp only [Gl.sizeL]; omega,by simp only; omega,by simp only; omega⟩

def goalsT (t:Tm):List Gl × Int :=
 if rightT t then (if (golF t.size t (20,0) 1 true).2.2≠0 then ([],(golF t.size t (20,0) 1 true).2.2) else ((golF t.size t (20,0) 1 true).1,0)) else ([],1)

def loadOne (x:Clau):Cs × Int :=
 if sgOf x.1=sgR then (⟨argT x.1 0,(goalsT (argT x.1 1)).1,x.2.length⟩,if ownB (argT x.1 0) then (goalsT (argT x.1 1)).2 else 5)
 else (⟨x.1,[],x.2.length⟩,if ownB x.1 then 0 else 5)

def loadL:List Clau→Nat→List Cs→List Cs × Int × Int
 | [],_,out=>if (checkR out).2≠0 then ([],(checkR out).1,(checkR out).2) else (out,0,0)
 | x::l,i,out=>if (loadOne x).2≠0 then ([],(i:Int),(loadOne x).2) else loadL l (i+1) (out++[(loadOne x).1])
end PSL
namespace PSL
open Go
def varL (k:Nat):List Tm:=(List.range k).map fun i:Nat=>Tm.vT (i:Int)
theorem varL_snoc (k:Nat):varL k++[Tm.vT k]=varL (k+1):=by unfold varL; rw [List.range_succ,List.map_append]; rfl
theorem varL_len (k:Nat):(varL k).length=k:=by simp [varL]
def qryC (x:Clau):Cs:=⟨.mk 3 (Tx [63]) 0 (varL x.2.length),(goalsT x.1).1,x.2.length⟩
end PSL

namespace PSL
open Go Go.RowKit

theorem HS.remap2 {S0:Nat→Prop} {φ φ':List Phy} {objs objs':List Ob} {w:World} (h:HS S0 φ objs w) (f:AV→AV) (hlen:φ'.length=objs'.length) (σ:Nat→Nat) (hσ:∀ i j,i<φ'.length→j<φ'.length→σ i=σ j→i=j) (hph:∀ (i:Nat) (p:Phy) (b:Nat),φ'[i]? = some p→p.bl b→∃ q,φ[σ i]? = some q∧q.bl b)
  (hobj:∀ (i:Nat) (ob':Ob),objs'[i]? = some ob'→ob'=.dead∨(∃ ob,objs[i]? = some ob∧φ'[i]? = φ[i]? ∧ ob'=mapOb f ob)∨∃ ph,φ'[i]? = some ph∧ObOk (SS S0 φ') w φ' ph ob') (hf:∀ x v,RV (SS S0 φ) w φ x v→RV (SS S0 φ') w φ' (f x) v):HS S0 φ' objs' w:=by
 have hbl:∀ b,bls φ' b→bls φ b:=by
  rintro b ⟨i,p,h1,h2⟩
  obtain ⟨q,h3,h4⟩:=hph i p b h1 h2
  exact ⟨σ i,q,h3,h4⟩
 have hkeep:Keep (SS S0 φ) w (SS S0 φ') w:=fun b hb _=>⟨⟨hb.1,fun hc=>hb.2 (hbl b hc)⟩,rfl⟩
 refine ⟨hlen,fun i ph ob' h1 h2=>?_,fun i j p q b h1 h2 h3 h4=>?_,fun b hb=>h.lt b (hbl b hb),h.up⟩
 ·rcases hobj i ob' h2 with rfl | ⟨ob,h3,h4,rfl⟩ | ⟨ph',h3,h4⟩
  ·simp only [ObOk]
  ·rw [h1] at h4
   have hk:=h.ok i ph ob h4.symm h3
   cases ph <;> cases ob <;> simp only [ObOk,mapOb] at hk ⊢
   ·obtain ⟨cs,T,h5,h6⟩:=hk
    exact ⟨cs,T,h5,h6.map' f hf⟩
   ·obtain ⟨ents,clk,h5,h6,h7⟩:=hk
    refine ⟨ents,clk,h5,?_,?_⟩
    ·simpa [List.map_map,Function.comp_def] using h6
    ·have:=h7.map' f hf
     simpa [List.map_map,Function.comp_def] using this
   ·exact hk
   ·obtain ⟨cs,h5,h6⟩:=hk
    exact ⟨cs,h5,h6.map' f hf⟩
   ·obtain ⟨h0,h0',h5,h6⟩:=hk
    refine ⟨h0,h0',h5,?_⟩
    rcases h6 with h6 | ⟨b,o,cap,cs,T,g1,g2,g3,g4,g5,g6,g7⟩
    ·exact .inl h6
    ·refine .inr ⟨b,o,cap,cs,T,g1,g2,g3,g4,g5,g6,fun i r j x hi hj=>?_⟩
     obtain ⟨y,h9,h10⟩:=g7 i r j x hi hj
     exact ⟨y,h9,h10.mono hkeep⟩
   ·exact hk
   ·exact ⟨hk.1,hk.1 _ _ _ _ _ _ (Nat.le_refl _) (fun _ _=>rfl) hkeep hk.2⟩
   ·obtain ⟨h0,h0',h1,h2⟩:=hk
    refine ⟨h0,h0',h1,fun i x r hi hr=>?_⟩
    obtain ⟨cs,T,h3,h4,h5,h6,h7⟩:=h2 i x r hi hr
    refine ⟨cs,T,h3,h4,h5,h6,fun j d hd=>?_⟩
    obtain ⟨y,h8,h9⟩:=h7 j d hd
    exact ⟨y,h8,h9.mono hkeep⟩
  ·rw [h1] at h3; cases h3; exact h4
 ·obtain ⟨p',k1,k1'⟩:=hph i p b h1 h3
  obtain ⟨q',k2,k2'⟩:=hph j q b h2 h4
  exact hσ i j (List.getElem?_eq_some_iff.1 h1).1 (List.getElem?_eq_some_iff.1 h2).1 (h.dist _ _ p' q' b k1 k2 k1' k2')
section
variable {g:G} {pf:Nat→Cls} {ops:Array Oper} {Fin:Exit→Act→World→Prop}

def mvA (n i:Nat):AV→AV
 | .ow j t=>bif Nat.beq j i then .ow n t else trimA n (.ow j t)
 | x=>trimA n x

theorem R_moveO {k:List It} {E:Env} {objs:List Ob} (n i:Nat) {sz s:Nat} {rows:List (List D)} (objs':List Ob) (hn:g.φ0.length≤n) (hni:n≤i) (ho:nth objs i=some (.arr sz s rows)) (ht:topCode k=true) (hobj:(objs.take n).map (mapOb (trimA n))++[.arr sz s rows]=objs')
  (hr:R g pf Fin k (mapE (mvA n i) E) objs') (hdf:g.dfs=[]:=by rfl):R g pf Fin k E objs:=by
 subst hobj
 refine R_ghost ht (fun a w hs=>?_) hr
 obtain ⟨φ,h1,h2,h3,h4,h5,h6⟩:=hs
 rw [nth_eq] at ho
 have hil:=(List.getElem?_eq_some_iff.1 ho).1
 have hph:φ[i]? = some (φ[i]'(by rw [h1.len]; exact hil)):=List.getElem?_eq_getElem _
 generalize φ[i]'(by rw [h1.len]; exact hil)=ph at hph
 have hk:=h1.ok i ph _ hph ho
 have hnl:(φ.take n).length=n:=by rw [List.length_take,h1.len]; omega
 have hp:∀ j,j<n→(φ.take n++[ph])[j]? = φ[j]? := fun j hj=>by rw [List.getElem?_append_left (by omega)]; exact List.getElem?_take_of_lt hj
 have hpn:(φ.take n++[ph])[n]? = some ph:=by rw [List.getElem?_append_right (by omega),hnl,Nat.sub_self]; rfl
 have hsrc:∀ (j:Nat) (p:Phy),(φ.take n++[ph])[j]? = some p→(j<n∧φ[j]? = some p)∨(j=n∧p=ph):=fun j p hj=>by
  rcases Nat.lt_or_ge j n with h | h
  ·exact .inl ⟨h,by rw [← hp j h]; exact hj⟩
  ·have hjl:=(List.getElem?_eq_some_iff.1 hj).1
   rw [List.length_append,hnl,List.length_singleton] at hjl
   have:j=n:=by omega
   subst this
   rw [hpn] at hj; cases hj
   exact .inr ⟨rfl,rfl⟩
 have hbl:∀ b,bls (φ.take n++[ph]) b→bls φ b:=by
  rintro b ⟨j,p,g1,g2⟩
  rcases hsrc j p g1 with ⟨_,h⟩ | ⟨_,rfl⟩
  ·exact ⟨j,p,h,g2⟩
  ·exact ⟨i,p,hph,g2⟩
 have hkeep:Keep (SS g.S0 φ) w (SS g.S0 (φ.take n++[ph])) w:=fun b hb _=>⟨⟨hb.1,fun hc=>hb.2 (hbl b hc)⟩,rfl⟩
 have hk':ObOk (SS g.S0 (φ.take n++[ph])) w (φ.take n++[ph]) ph (.arr sz s rows):=by
  cases ph <;> simp only [ObOk] at hk ⊢
  obtain ⟨h0,h0',h5,h6⟩:=hk
  refine ⟨h0,h0',h5,?_⟩
  rcases h6 with h6 | ⟨b,o,cap,cs,T,g1,g2,g3,g4,g5,g6,g7⟩
  ·exact .inl h6
  ·refine .inr ⟨b,o,cap,cs,T,g1,g2,g3,g4,g5,g6,fun i r j x hi hj=>?_⟩
   obtain ⟨y,h9,h10⟩:=g7 i r j x hi hj
   exact ⟨y,h9,h10.mono hkeep⟩
 have htr:∀ x v,RV (SS g.S0 φ) w φ x v→RV (SS g.S0 (φ.take n++[ph])) w (φ.take n++[ph]) (trimA n x) v:=trimA_ok hkeep hp
 refine ⟨φ.take n++[ph],h1.remap2 (trimA n) (by simp [h1.len]) (fun j=>if j<n then j else i) (fun a b ha hb he=>?_) (fun j p b hj hb=>?_) (fun j ob' hj=>?_) htr,fun b hb=>h2 b (hbl b hb),fun u=>?_,h4,Mks.phs hdf h5 hbl,h6.phs (fun j l I B h=>⟨B,?_⟩) (fun j p hj=>?_)⟩
 ·rw [List.length_append,hnl,List.length_singleton] at ha hb
  by_cases h:a<n <;> by_cases h':b<n <;> simp only [h,h',if_true,if_false] at he <;> omega
 ·rcases hsrc j p hj with ⟨h,h'⟩ | ⟨h,rfl⟩
  ·exact ⟨p,by simp only [if_pos h]; exact h',hb⟩
  ·exact ⟨p,by simp only [h,Nat.lt_irrefl,if_false]; exact hph,hb⟩
 ·have hol:((objs.take n).map (mapOb (trimA n))).length=n:=by rw [List.length_map,List.length_take]; omega
  rcases Nat.lt_or_ge j n with h | h
  ·rw [List.getElem?_append_left (by omega),List.getElem?_map,List.getElem?_take_of_lt h] at hj
   cases hoj:objs[j]? with
   | none=>rw [hoj] at hj; cases hj
   | some ob=>rw [hoj] at hj; exact .inr (.inl ⟨ob,rfl,hp j h,by simpa using hj.symm⟩)
  ·have hjl:=(List.getElem?_eq_some_iff.1 hj).1
   rw [List.length_append,hol,List.length_singleton] at hjl
   have:j=n:=by omega
   subst this
   rw [List.getElem?_append_right (by omega),hol,Nat.sub_self] at hj
   simp only [List.getElem?_cons_zero,Option.some.injEq] at hj
   subst hj
   exact .inr (.inr ⟨ph,hpn,hk'⟩)
 ·rcases lk_mapE (f:=mvA n i) E u with h | h
  ·rw [h]
   have hv:=h3 u
   generalize lk E u=x at hv
   cases x with
   | ow j t =>
    simp only [mvA]
    cases hb:Nat.beq j i with
    | false=>exact htr _ _ hv
    | true =>
     have:=natBeq hb
     subst this
     simp only [cond_true,RV] at hv ⊢
     obtain ⟨q1,ph',q2,q3⟩:=hv
     rw [hph] at q2; cases q2
     exact ⟨q1,ph,hpn,q3⟩
   | _=>exact htr _ _ hv
  ·rw [h]; simp [RV]
 ·rcases hsrc j _ h with ⟨hjn,hj⟩ | ⟨_,hj⟩
  ·exact hj
  ·subst hj; simp only [ObOk] at hk
 ·obtain ⟨p',h7,h8⟩:=h6.le j p hj
  exact ⟨p',by rw [hp j (Nat.lt_of_lt_of_le (List.getElem?_eq_some_iff.1 hj).1 hn)]; exact h7,h8⟩
end
end PSL

namespace Go.Proofs.YtcgkgofmldhokaaGreat
open Go PSL Go.Proofs
def pfOwn:Nat→Cls:=fun f=>bif Nat.beq f 4800100000 then .turn 100 else bif Nat.beq f 4000000005 then .turn 0 else .eff
def mkO (st:Int × Int):List Ob:=[.box [iV st.1,iV st.2]]

theorem mkFail_ok (Y:YP) (st:Int × Int) (c:Int):SCtr Tryz.prog Y 119 [.lo 0 0,iV c] (mkO st) (.tup []) (mkO (failM st c)):=by
 obtain ⟨left,e⟩:=st
 refine SCtr.of_R (pf:=fun _=>.eff) tyOk mixed Tryz.func119 rfl (by kernel_rfl) (by kernel_rfl) (by simp [Tryz.ntmps119]) (by simp [mkO]) fun w S φ hg=>?_
 refine R_run hg.ok 1000 rfl rfl ?_
 unfold failM
 by_cases he:e=0
 ·rw [if_pos he]
  refine R_if rfl rfl (fun _=>?_) (fun h=>absurd h (by simp [he])) <;> refine R_run hg.ok 1000 rfl rfl ?_
  exact R_endS hg 1 5 (Nat.le_refl _) rfl rfl rfl
 ·rw [if_neg he]
  refine R_if rfl rfl (fun h=>absurd h (by simp [he])) (fun _=>?_) <;> refine R_run hg.ok 1000 rfl rfl ?_
  exact R_endS hg 1 5 (Nat.le_refl _) rfl rfl rfl

theorem mkOne_ok (Y:YP) (st:Int × Int) (g:Gl):SCtr Tryz.prog Y 120 [.lo 0 0,g.av] (mkO st) (.ow 1 0) (mkO st++[.arr 8 0 (Gl.rows [g])]):=by
 refine SCtr.of_R (pf:=pfOwn) tyOk mixed Tryz.func120 rfl (by kernel_rfl) (by kernel_rfl) (by simp [Tryz.ntmps120]) (by simp [mkO]) fun w S φ hg=>?_
 refine R_run hg.ok 1000 rfl rfl ?_
 refine R_buildO hg.ok [Gl.row g] rfl rfl rfl rfl rfl rfl rfl rfl (by simp) (by simp) ?_
 refine R_run hg.ok 1000 rfl rfl ?_
 rw [Gl.rows_eq]
 refine R_moveO 1 2 (mkO st++[.arr 8 0 [Gl.row g]]) (by show φ.length≤1; exact Nat.le_of_eq hg.hs0.len) (by decide) rfl rfl rfl ?_
 exact R_retS hg 2 5 (by show (1:Nat)≤2; omega) rfl rfl rfl
end Go.Proofs.YtcgkgofmldhokaaGreat

namespace Go.Proofs.YtcgkgofmldhokaaGreat
open Go PSL Go.Proofs
def pfGol:Nat→Cls:=fun f=>bif Nat.beq f 4000100004 then .look 4 else bif Nat.beq f 98 then .turn 3 else .eff
def golB (t:Tm):Ob:=.box [.d (.v (.int .i64 t.k)),.d (.v (.string t.s)),.d (.v (.int .i64 t.n)),.d (.sl (Tm.rows t.l))]

def golL (t:Tm) (deep:Int) (cuts:Bool):List Ob:=[.box [.lo 0 0],golB t,.box [iV deep],.box [bV cuts],.box [.d (.v (.string (sgOf t).1)),.d (.v (.int .i64 (sgOf t).2))]]

def GolO (Y:YP) (n:Nat):Prop:=∀ (t:Tm) (st:Int × Int) (deep:Int) (cuts:Bool),SmT t→noCh t=true→t.size≤n→(t.size:Int) - 1000000000≤st.1→st.1≤1000→0≤deep→deep+t.size≤1000000000 →
 ∃ s,SCtr Tryz.prog Y 98 [.lo 0 0,t.av,iV deep,bV cuts] (mkO st) (.ow 1 s) (mkO (golF n t st deep cuts).2++[.arr 8 s (Gl.rows (golF n t st deep cuts).1)])

def GolD (Y:YP) (n:Nat):Prop:=∀ (t:Tm) (st:Int × Int) (deep:Int) (cuts:Bool),SmT t→noCh t=true→t.size≤n→(t.size:Int) - 1000000000≤st.1→st.1≤1000→0≤deep→deep+t.size≤1000000000 →
 SCtr Tryz.prog Y 98 [.lo 0 0,t.av,iV deep,bV cuts] (mkO st) (.d (.sl (Gl.rows (golF n t st deep cuts).1))) (mkO (golF n t st deep cuts).2)
theorem argT_get {t:Tm} {i:Nat} (h:i<t.l.length):t.l[i]? = some (argT t i):=by unfold argT; rw [List.getElem?_eq_getElem h]; rfl
theorem glRows_app (a b:List Gl):Gl.rows (a++b)=Gl.rows a++Gl.rows b:=by rw [Gl.rows_eq,Gl.rows_eq,Gl.rows_eq,List.map_append]

theorem glRows_8 (l:List Gl):∀ r∈Gl.rows l,r.length=8:=by
 rw [Gl.rows_eq]
 intro r hr
 obtain ⟨g,_,rfl⟩:=List.mem_map.1 hr
 rfl

theorem glRows_1 (l:List Gl):∀ r∈Gl.rows l,∀ x∈r,one1 (.d x)=true:=by
 rw [Gl.rows_eq]
 intro r hr
 obtain ⟨g,_,rfl⟩:=List.mem_map.1 hr
 simp [Gl.row,one1]

set_option maxHeartbeats 8000000 in
set_option maxRecDepth 100000 in
theorem golO_step (Y:YP) (n:Nat) (ihO:GolO Y n) (ihD:GolD Y n):GolO Y (n+1):=by
 intro t st deep cuts ht hc hsz h1 h2 h3 h4
 have htp:=Gl.tmPos t
 obtain ⟨hO,hI⟩:=noCh_sg hc
 rw [golF_succ]
 by_cases c0:(if t.k=3 then st else failM st 5).2≠0
 ·rw [if_pos c0]
  by_cases hk:t.k=3
  ·rw [if_pos hk] at c0 ⊢
   refine ⟨0,?_⟩
   refine SCtr.of_R (pf:=pfGol) tyOk mixed Tryz.func98 rfl (by kernel_rfl) (by kernel_rfl) (by simp [Tryz.ntmps98]) (by simp [mkO]) fun w S φ hg=>?_
   refine R_run hg.ok 1000 rfl rfl ?_
   refine R_call hg.ok (signOf_ok t) rfl rfl rfl rfl rfl rfl ?_
   refine R_run hg.ok 1000 rfl rfl ?_
   refine R_if rfl rfl (fun h=>absurd h (by simp [hk])) (fun _=>?_) <;> refine R_run hg.ok 1000 rfl rfl ?_
   refine R_load4 hg.ok (by show φ.length≤1; exact Nat.le_of_eq hg.hs0.len) rfl rfl rfl rfl rfl rfl rfl ?_
   refine R_run hg.ok 1000 rfl rfl ?_
   refine R_if rfl rfl (fun _=>?_) (fun h=>absurd h (by simp [c0])) <;> refine R_run hg.ok 1000 rfl rfl ?_
   refine R_own 8 8 rfl rfl ?_
   refine R_moveO 1 6 (mkO (st)++[.arr 8 0 (Gl.rows [])]) (by show φ.length≤1; exact Nat.le_of_eq hg.hs0.len) (by decide) rfl rfl rfl ?_
   exact R_retS hg 2 5 (by show (1:Nat)≤2; omega) rfl rfl rfl
  ·rw [if_neg hk] at c0 ⊢
   refine ⟨0,?_⟩
   refine SCtr.of_R (pf:=pfGol) tyOk mixed Tryz.func98 rfl (by kernel_rfl) (by kernel_rfl) (by simp [Tryz.ntmps98]) (by simp [mkO]) fun w S φ hg=>?_
   refine R_run hg.ok 1000 rfl rfl ?_
   refine R_call hg.ok (signOf_ok t) rfl rfl rfl rfl rfl rfl ?_
   refine R_run hg.ok 1000 rfl rfl ?_
   refine R_if rfl rfl (fun _=>?_) (fun h=>absurd h (by simp [hk])) <;> refine R_run hg.ok 1000 rfl rfl ?_
   refine R_load4 hg.ok (by show φ.length≤1; exact Nat.le_of_eq hg.hs0.len) rfl rfl rfl rfl rfl rfl rfl ?_
   refine R_run hg.ok 1000 rfl rfl ?_
   refine R_callSO hg.ok hg.gup hg.wide hg.Y [0] (mkO (failM st 5)++golL t deep cuts) (mkFail_ok Y st 5) (fun _=>rfl) rfl rfl rfl rfl rfl rfl rfl rfl ?_
   refine R_run hg.ok 1000 rfl rfl ?_
   refine R_load4 hg.ok (by show φ.length≤1; exact Nat.le_of_eq hg.hs0.len) rfl rfl rfl rfl rfl rfl rfl ?_
   refine R_run hg.ok 1000 rfl rfl ?_
   refine R_if rfl rfl (fun _=>?_) (fun h=>absurd h (by simp [c0])) <;> refine R_run hg.ok 1000 rfl rfl ?_
   refine R_own 8 8 rfl rfl ?_
   refine R_moveO 1 6 (mkO (failM st 5)++[.arr 8 0 (Gl.rows [])]) (by show φ.length≤1; exact Nat.le_of_eq hg.hs0.len) (by decide) rfl rfl rfl ?_
   exact R_retS hg 2 5 (by show (1:Nat)≤2; omega) rfl rfl rfl
 rw [if_neg c0]
 have hk:t.k=3:=by
  refine Decidable.byContradiction fun hk=>c0 ?_
  rw [if_neg hk]
  unfold failM
  split
  ·show (5:Int)≠0; decide
  ·assumption
 rw [if_pos hk] at c0
 have he:st.2=0:=Decidable.not_not.1 c0
 by_cases c1:sgOf t=sgC
 ·rw [if_pos c1]
  have hl:t.l.length=2:=sg_len (n:=2) c1
  have hs2:=size_two hl
  have hl0:0<t.l.length:=by omega
  have hl1:1<t.l.length:=by omega
  have hp0:=Gl.tmPos (argT t 0)
  have hp1:=Gl.tmPos (argT t 1)
  obtain ⟨_,a2,a3,a4⟩:=golF_ok n (argT t 0) st deep cuts (ht.arg hl0)
  obtain ⟨_,b2,_,_⟩:=golF_ok n (argT t 1) (golF n (argT t 0) st deep cuts).2 deep cuts (ht.arg hl1)
  obtain ⟨s1,hA⟩:=ihO (argT t 0) st deep cuts (ht.arg hl0) (noCh_arg hc hl0) (by omega) (by omega) (by omega) h3 (by omega)
  obtain ⟨s2,hB⟩:=ihO (argT t 1) (golF n (argT t 0) st deep cuts).2 deep cuts (ht.arg hl1) (noCh_arg hc hl1) (by omega) (by omega) (by omega) h3 (by omega)
  have hsa:=Gl.len_size (golF n (argT t 0) st deep cuts).1
  have hsb:=Gl.len_size (golF n (argT t 1) (golF n (argT t 0) st deep cuts).2 deep cuts).1
  have hs:=ht.1
  generalize golF n (argT t 0) st deep cuts=A at *
  generalize golF n (argT t 1) A.2 deep cuts=B at *
  refine ⟨Nat.succ s1,?_⟩
  refine SCtr.of_R (pf:=pfGol) tyOk mixed Tryz.func98 rfl (by kernel_rfl) (by kernel_rfl) (by simp [Tryz.ntmps98]) (by simp [mkO]) fun w S φ hg=>?_
  refine R_run hg.ok 1000 rfl rfl ?_
  refine R_call hg.ok (signOf_ok t) rfl rfl rfl rfl rfl rfl ?_
  refine R_run hg.ok 1000 rfl rfl ?_
  refine R_if rfl rfl (fun h=>absurd h (by simp [hk])) (fun _=>?_) <;> refine R_run hg.ok 1000 rfl rfl ?_
  refine R_load4 hg.ok (by show φ.length≤1; exact Nat.le_of_eq hg.hs0.len) rfl rfl rfl rfl rfl rfl rfl ?_
  refine R_run hg.ok 1000 rfl rfl ?_
  refine R_if rfl rfl (fun h=>absurd h (by simp [he])) (fun _=>?_) <;> refine R_run hg.ok 1000 rfl rfl ?_
  refine R_eqK hg.ok (sgOf t) sgC signCmp rfl rfl rfl rfl ?_
  refine R_run hg.ok 1000 rfl rfl ?_
  refine R_if rfl rfl (fun _=>?_) (fun h=>absurd h (by simp [c1])) <;> refine R_run hg.ok 1000 rfl rfl ?_
  refine R_load4 hg.ok (by show φ.length≤1; exact Nat.le_of_eq hg.hs0.len) rfl rfl rfl rfl rfl rfl rfl ?_
  refine R_run hg.ok 1000 rfl rfl ?_
  refine R_index hg.ok rfl rfl rfl rfl rfl rfl (by decide) (Tm.rows_get (i:=0) (argT_get hl0)) rfl ?_
  refine R_run hg.ok 1000 rfl rfl ?_
  refine R_callS3 hg.ok hg.gup hg.wide hg.Y [0] (mkO A.2++golL t deep cuts++[.arr 8 s1 (Gl.rows A.1)]) (hA) (fun _=>rfl) (fun i hi=>by show i<φ.length; have h1:φ.length=1:=hg.hs0.len; simp at hi; omega) rfl rfl rfl rfl rfl rfl rfl rfl ?_
  refine R_run hg.ok 1000 rfl rfl ?_
  refine R_load4 hg.ok (by show φ.length≤1; exact Nat.le_of_eq hg.hs0.len) rfl rfl rfl rfl rfl rfl rfl ?_
  refine R_run hg.ok 1000 rfl rfl ?_
  refine R_index hg.ok rfl rfl rfl rfl rfl rfl (by decide) (Tm.rows_get (i:=1) (argT_get hl1)) rfl ?_
  refine R_run hg.ok 1000 rfl rfl ?_
  refine R_callS3 hg.ok hg.gup hg.wide hg.Y [0] (mkO B.2++golL t deep cuts++[.arr 8 s1 (Gl.rows A.1),.arr 8 s2 (Gl.rows B.1)]) (hB) (fun _=>rfl) (fun i hi=>by show i<φ.length; have h1:φ.length=1:=hg.hs0.len; simp at hi; omega) rfl rfl rfl rfl rfl rfl rfl rfl ?_
  refine R_run hg.ok 1000 rfl rfl ?_
  refine R_appendOO hg.ok rfl rfl rfl rfl rfl rfl rfl rfl rfl rfl (glRows_8 _) (glRows_1 _) (by rw [Gl.rows_length,Gl.rows_length]; simp only [Ty.bytes]; omega) (by rw [Gl.rows_length,Gl.rows_length]; omega) ?_
  refine R_run hg.ok 1000 rfl rfl ?_
  rw [glRows_app]
  refine R_moveO 1 6 (mkO (B.2)++[.arr 8 (Nat.succ s1) (Gl.rows A.1++Gl.rows B.1)]) (by show φ.length≤1; exact Nat.le_of_eq hg.hs0.len) (by decide) rfl rfl rfl ?_
  exact R_retS hg 2 5 (by show (1:Nat)≤2; omega) rfl rfl rfl
 rw [if_neg c1]
 by_cases c2:sgOf t=sgT
 ·rw [if_pos c2]
  refine ⟨0,?_⟩
  refine SCtr.of_R (pf:=pfGol) tyOk mixed Tryz.func98 rfl (by kernel_rfl) (by kernel_rfl) (by simp [Tryz.ntmps98]) (by simp [mkO]) fun w S φ hg=>?_
  refine R_run hg.ok 1000 rfl rfl ?_
  refine R_call hg.ok (signOf_ok t) rfl rfl rfl rfl rfl rfl ?_
  refine R_run hg.ok 1000 rfl rfl ?_
  refine R_if rfl rfl (fun h=>absurd h (by simp [hk])) (fun _=>?_) <;> refine R_run hg.ok 1000 rfl rfl ?_
  refine R_load4 hg.ok (by show φ.length≤1; exact Nat.le_of_eq hg.hs0.len) rfl rfl rfl rfl rfl rfl rfl ?_
  refine R_run hg.ok 1000 rfl rfl ?_
  refine R_if rfl rfl (fun h=>absurd h (by simp [he])) (fun _=>?_) <;> refine R_run hg.ok 1000 rfl rfl ?_
  refine R_eqK hg.ok (sgOf t) sgC signCmp rfl rfl rfl rfl ?_
  refine R_run hg.ok 1000 rfl rfl ?_
  refine R_if rfl rfl (fun h=>absurd h (by simp [c1])) (fun _=>?_) <;> refine R_run hg.ok 1000 rfl rfl ?_
  refine R_eqK hg.ok (sgOf t) sgT signCmp rfl rfl rfl rfl ?_
  refine R_run hg.ok 1000 rfl rfl ?_
  refine R_if rfl rfl (fun _=>?_) (fun h=>absurd h (by simp [c2])) <;> refine R_run hg.ok 1000 rfl rfl ?_
  refine R_own 8 8 rfl rfl ?_
  refine R_moveO 1 6 (mkO (st)++[.arr 8 0 (Gl.rows [])]) (by show φ.length≤1; exact Nat.le_of_eq hg.hs0.len) (by decide) rfl rfl rfl ?_
  exact R_retS hg 2 5 (by show (1:Nat)≤2; omega) rfl rfl rfl
 rw [if_neg c2]
 by_cases c3:st.1 - 1<0∨10<deep
 ·rw [if_pos c3]
  by_cases c3a:st.1 - 1<0
  ·refine ⟨0,?_⟩
   refine SCtr.of_R (pf:=pfGol) tyOk mixed Tryz.func98 rfl (by kernel_rfl) (by kernel_rfl) (by simp [Tryz.ntmps98]) (by simp [mkO]) fun w S φ hg=>?_
   refine R_run hg.ok 1000 rfl rfl ?_
   refine R_call hg.ok (signOf_ok t) rfl rfl rfl rfl rfl rfl ?_
   refine R_run hg.ok 1000 rfl rfl ?_
   refine R_if rfl rfl (fun h=>absurd h (by simp [hk])) (fun _=>?_) <;> refine R_run hg.ok 1000 rfl rfl ?_
   refine R_load4 hg.ok (by show φ.length≤1; exact Nat.le_of_eq hg.hs0.len) rfl rfl rfl rfl rfl rfl rfl ?_
   refine R_run hg.ok 1000 rfl rfl ?_
   refine R_if rfl rfl (fun h=>absurd h (by simp [he])) (fun _=>?_) <;> refine R_run hg.ok 1000 rfl rfl ?_
   refine R_eqK hg.ok (sgOf t) sgC signCmp rfl rfl rfl rfl ?_
   refine R_run hg.ok 1000 rfl rfl ?_
   refine R_if rfl rfl (fun h=>absurd h (by simp [c1])) (fun _=>?_) <;> refine R_run hg.ok 1000 rfl rfl ?_
   refine R_eqK hg.ok (sgOf t) sgT signCmp rfl rfl rfl rfl ?_
   refine R_run hg.ok 1000 rfl rfl ?_
   refine R_if rfl rfl (fun h=>absurd h (by simp [c2])) (fun _=>?_) <;> refine R_run hg.ok 1000 rfl rfl ?_
   refine R_load4 hg.ok (by show φ.length≤1; exact Nat.le_of_eq hg.hs0.len) rfl rfl rfl rfl rfl rfl rfl ?_
   refine R_run hg.ok 1000 rfl rfl ?_
   rw [w64 (n:=st.1 - 1) (by omega) (by omega)]
   refine R_load4 hg.ok (by show φ.length≤1; exact Nat.le_of_eq hg.hs0.len) rfl rfl rfl rfl rfl rfl rfl ?_
   refine R_run hg.ok 1000 rfl rfl ?_
   refine R_if rfl rfl (fun _=>?_) (fun h=>absurd (of_decide_eq_false h) (by omega)) <;> refine R_run hg.ok 1000 rfl rfl ?_
   refine R_load4 hg.ok (by show φ.length≤1; exact Nat.le_of_eq hg.hs0.len) rfl rfl rfl rfl rfl rfl rfl ?_
   refine R_run hg.ok 1000 rfl rfl ?_
   refine R_callSO hg.ok hg.gup hg.wide hg.Y [0] (mkO (failM (st.1 - 1,st.2) 3)++golL t deep cuts) (mkFail_ok Y (st.1 - 1,st.2) 3) (fun _=>rfl) rfl rfl rfl rfl rfl rfl rfl rfl ?_
   refine R_run hg.ok 1000 rfl rfl ?_
   refine R_own 8 8 rfl rfl ?_
   refine R_moveO 1 6 (mkO (failM (st.1 - 1,st.2) 3)++[.arr 8 0 (Gl.rows [])]) (by show φ.length≤1; exact Nat.le_of_eq hg.hs0.len) (by decide) rfl rfl rfl ?_
   exact R_retS hg 2 5 (by show (1:Nat)≤2; omega) rfl rfl rfl
  ·refine ⟨0,?_⟩
   refine SCtr.of_R (pf:=pfGol) tyOk mixed Tryz.func98 rfl (by kernel_rfl) (by kernel_rfl) (by simp [Tryz.ntmps98]) (by simp [mkO]) fun w S φ hg=>?_
   refine R_run hg.ok 1000 rfl rfl ?_
   refine R_call hg.ok (signOf_ok t) rfl rfl rfl rfl rfl rfl ?_
   refine R_run hg.ok 1000 rfl rfl ?_
   refine R_if rfl rfl (fun h=>absurd h (by simp [hk])) (fun _=>?_) <;> refine R_run hg.ok 1000 rfl rfl ?_
   refine R_load4 hg.ok (by show φ.length≤1; exact Nat.le_of_eq hg.hs0.len) rfl rfl rfl rfl rfl rfl rfl ?_
   refine R_run hg.ok 1000 rfl rfl ?_
   refine R_if rfl rfl (fun h=>absurd h (by simp [he])) (fun _=>?_) <;> refine R_run hg.ok 1000 rfl rfl ?_
   refine R_eqK hg.ok (sgOf t) sgC signCmp rfl rfl rfl rfl ?_
   refine R_run hg.ok 1000 rfl rfl ?_
   refine R_if rfl rfl (fun h=>absurd h (by simp [c1])) (fun _=>?_) <;> refine R_run hg.ok 1000 rfl rfl ?_
   refine R_eqK hg.ok (sgOf t) sgT signCmp rfl rfl rfl rfl ?_
   refine R_run hg.ok 1000 rfl rfl ?_
   refine R_if rfl rfl (fun h=>absurd h (by simp [c2])) (fun _=>?_) <;> refine R_run hg.ok 1000 rfl rfl ?_
   refine R_load4 hg.ok (by show φ.length≤1; exact Nat.le_of_eq hg.hs0.len) rfl rfl rfl rfl rfl rfl rfl ?_
   refine R_run hg.ok 1000 rfl rfl ?_
   rw [w64 (n:=st.1 - 1) (by omega) (by omega)]
   refine R_load4 hg.ok (by show φ.length≤1; exact Nat.le_of_eq hg.hs0.len) rfl rfl rfl rfl rfl rfl rfl ?_
   refine R_run hg.ok 1000 rfl rfl ?_
   refine R_if rfl rfl (fun h=>absurd (of_decide_eq_true h) (by omega)) (fun _=>?_) <;> refine R_run hg.ok 1000 rfl rfl ?_
   refine R_if rfl rfl (fun _=>?_) (fun h=>absurd (of_decide_eq_false h) (by omega)) <;> refine R_run hg.ok 1000 rfl rfl ?_
   refine R_load4 hg.ok (by show φ.length≤1; exact Nat.le_of_eq hg.hs0.len) rfl rfl rfl rfl rfl rfl rfl ?_
   refine R_run hg.ok 1000 rfl rfl ?_
   refine R_callSO hg.ok hg.gup hg.wide hg.Y [0] (mkO (failM (st.1 - 1,st.2) 3)++golL t deep cuts) (mkFail_ok Y (st.1 - 1,st.2) 3) (fun _=>rfl) rfl rfl rfl rfl rfl rfl rfl rfl ?_
   refine R_run hg.ok 1000 rfl rfl ?_
   refine R_own 8 8 rfl rfl ?_
   refine R_moveO 1 6 (mkO (failM (st.1 - 1,st.2) 3)++[.arr 8 0 (Gl.rows [])]) (by show φ.length≤1; exact Nat.le_of_eq hg.hs0.len) (by decide) rfl rfl rfl ?_
   exact R_retS hg 2 5 (by show (1:Nat)≤2; omega) rfl rfl rfl
 rw [if_neg c3]
 by_cases c4:sgOf t=sgX
 ·rw [if_pos c4]
  cases cuts with
  | true =>
   refine ⟨0,?_⟩
   refine SCtr.of_R (pf:=pfGol) tyOk mixed Tryz.func98 rfl (by kernel_rfl) (by kernel_rfl) (by simp [Tryz.ntmps98]) (by simp [mkO]) fun w S φ hg=>?_
   refine R_run hg.ok 1000 rfl rfl ?_
   refine R_call hg.ok (signOf_ok t) rfl rfl rfl rfl rfl rfl ?_
   refine R_run hg.ok 1000 rfl rfl ?_
   refine R_if rfl rfl (fun h=>absurd h (by simp [hk])) (fun _=>?_) <;> refine R_run hg.ok 1000 rfl rfl ?_
   refine R_load4 hg.ok (by show φ.length≤1; exact Nat.le_of_eq hg.hs0.len) rfl rfl rfl rfl rfl rfl rfl ?_
   refine R_run hg.ok 1000 rfl rfl ?_
   refine R_if rfl rfl (fun h=>absurd h (by simp [he])) (fun _=>?_) <;> refine R_run hg.ok 1000 rfl rfl ?_
   refine R_eqK hg.ok (sgOf t) sgC signCmp rfl rfl rfl rfl ?_
   refine R_run hg.ok 1000 rfl rfl ?_
   refine R_if rfl rfl (fun h=>absurd h (by simp [c1])) (fun _=>?_) <;> refine R_run hg.ok 1000 rfl rfl ?_
   refine R_eqK hg.ok (sgOf t) sgT signCmp rfl rfl rfl rfl ?_
   refine R_run hg.ok 1000 rfl rfl ?_
   refine R_if rfl rfl (fun h=>absurd h (by simp [c2])) (fun _=>?_) <;> refine R_run hg.ok 1000 rfl rfl ?_
   refine R_load4 hg.ok (by show φ.length≤1; exact Nat.le_of_eq hg.hs0.len) rfl rfl rfl rfl rfl rfl rfl ?_
   refine R_run hg.ok 1000 rfl rfl ?_
   rw [w64 (n:=st.1 - 1) (by omega) (by omega)]
   refine R_load4 hg.ok (by show φ.length≤1; exact Nat.le_of_eq hg.hs0.len) rfl rfl rfl rfl rfl rfl rfl ?_
   refine R_run hg.ok 1000 rfl rfl ?_
   refine R_if rfl rfl (fun h=>absurd (of_decide_eq_true h) (by omega)) (fun _=>?_) <;> refine R_run hg.ok 1000 rfl rfl ?_
   refine R_if rfl rfl (fun h=>absurd (of_decide_eq_true h) (by omega)) (fun _=>?_) <;> refine R_run hg.ok 1000 rfl rfl ?_
   refine R_eqK hg.ok (sgOf t) sgX signCmp rfl rfl rfl rfl ?_
   refine R_run hg.ok 1000 rfl rfl ?_
   refine R_if rfl rfl (fun _=>?_) (fun h=>absurd h (by simp [c4])) <;> refine R_run hg.ok 1000 rfl rfl ?_
   refine R_if rfl rfl (fun h=>absurd h (by simp)) (fun _=>?_) <;> refine R_run hg.ok 1000 rfl rfl ?_
   refine R_load4 hg.ok (by show φ.length≤1; exact Nat.le_of_eq hg.hs0.len) rfl rfl rfl rfl rfl rfl rfl ?_
   refine R_run hg.ok 1000 rfl rfl ?_
   refine R_callSO hg.ok hg.gup hg.wide hg.Y [0] (mkO (st.1 - 1,st.2)++golL t deep true++[.arr 8 0 (Gl.rows [.mk 3 zeroT [] [] []])]) (mkOne_ok Y (st.1 - 1,st.2) (.mk 3 zeroT [] [] [])) (fun _=>rfl) rfl rfl rfl rfl rfl rfl rfl rfl ?_
   refine R_run hg.ok 1000 rfl rfl ?_
   refine R_moveO 1 6 (mkO ((st.1 - 1,st.2))++[.arr 8 0 (Gl.rows [.mk 3 zeroT [] [] []])]) (by show φ.length≤1; exact Nat.le_of_eq hg.hs0.len) (by decide) rfl rfl rfl ?_
   exact R_retS hg 2 5 (by show (1:Nat)≤2; omega) rfl rfl rfl
  | false =>
   refine ⟨0,?_⟩
   refine SCtr.of_R (pf:=pfGol) tyOk mixed Tryz.func98 rfl (by kernel_rfl) (by kernel_rfl) (by simp [Tryz.ntmps98]) (by simp [mkO]) fun w S φ hg=>?_
   refine R_run hg.ok 1000 rfl rfl ?_
   refine R_call hg.ok (signOf_ok t) rfl rfl rfl rfl rfl rfl ?_
   refine R_run hg.ok 1000 rfl rfl ?_
   refine R_if rfl rfl (fun h=>absurd h (by simp [hk])) (fun _=>?_) <;> refine R_run hg.ok 1000 rfl rfl ?_
   refine R_load4 hg.ok (by show φ.length≤1; exact Nat.le_of_eq hg.hs0.len) rfl rfl rfl rfl rfl rfl rfl ?_
   refine R_run hg.ok 1000 rfl rfl ?_
   refine R_if rfl rfl (fun h=>absurd h (by simp [he])) (fun _=>?_) <;> refine R_run hg.ok 1000 rfl rfl ?_
   refine R_eqK hg.ok (sgOf t) sgC signCmp rfl rfl rfl rfl ?_
   refine R_run hg.ok 1000 rfl rfl ?_
   refine R_if rfl rfl (fun h=>absurd h (by simp [c1])) (fun _=>?_) <;> refine R_run hg.ok 1000 rfl rfl ?_
   refine R_eqK hg.ok (sgOf t) sgT signCmp rfl rfl rfl rfl ?_
   refine R_run hg.ok 1000 rfl rfl ?_
   refine R_if rfl rfl (fun h=>absurd h (by simp [c2])) (fun _=>?_) <;> refine R_run hg.ok 1000 rfl rfl ?_
   refine R_load4 hg.ok (by show φ.length≤1; exact Nat.le_of_eq hg.hs0.len) rfl rfl rfl rfl rfl rfl rfl ?_
   refine R_run hg.ok 1000 rfl rfl ?_
   rw [w64 (n:=st.1 - 1) (by omega) (by omega)]
   refine R_load4 hg.ok (by show φ.length≤1; exact Nat.le_of_eq hg.hs0.len) rfl rfl rfl rfl rfl rfl rfl ?_
   refine R_run hg.ok 1000 rfl rfl ?_
   refine R_if rfl rfl (fun h=>absurd (of_decide_eq_true h) (by omega)) (fun _=>?_) <;> refine R_run hg.ok 1000 rfl rfl ?_
   refine R_if rfl rfl (fun h=>absurd (of_decide_eq_true h) (by omega)) (fun _=>?_) <;> refine R_run hg.ok 1000 rfl rfl ?_
   refine R_eqK hg.ok (sgOf t) sgX signCmp rfl rfl rfl rfl ?_
   refine R_run hg.ok 1000 rfl rfl ?_
   refine R_if rfl rfl (fun _=>?_) (fun h=>absurd h (by simp [c4])) <;> refine R_run hg.ok 1000 rfl rfl ?_
   refine R_if rfl rfl (fun _=>?_) (fun h=>absurd h (by simp)) <;> refine R_run hg.ok 1000 rfl rfl ?_
   refine R_load4 hg.ok (by show φ.length≤1; exact Nat.le_of_eq hg.hs0.len) rfl rfl rfl rfl rfl rfl rfl ?_
   refine R_run hg.ok 1000 rfl rfl ?_
   refine R_callSO hg.ok hg.gup hg.wide hg.Y [0] (mkO (failM (st.1 - 1,st.2) 5)++golL t deep false) (mkFail_ok Y (st.1 - 1,st.2) 5) (fun _=>rfl) rfl rfl rfl rfl rfl rfl rfl rfl ?_
   refine R_run hg.ok 1000 rfl rfl ?_
   refine R_load4 hg.ok (by show φ.length≤1; exact Nat.le_of_eq hg.hs0.len) rfl rfl rfl rfl rfl rfl rfl ?_
   refine R_run hg.ok 1000 rfl rfl ?_
   refine R_callSO hg.ok hg.gup hg.wide hg.Y [0] (mkO (failM (st.1 - 1,st.2) 5)++golL t deep false++[.arr 8 0 (Gl.rows [.mk 3 zeroT [] [] []])]) (mkOne_ok Y (failM (st.1 - 1,st.2) 5) (.mk 3 zeroT [] [] [])) (fun _=>rfl) rfl rfl rfl rfl rfl rfl rfl rfl ?_
   refine R_run hg.ok 1000 rfl rfl ?_
   refine R_moveO 1 6 (mkO (failM (st.1 - 1,st.2) 5)++[.arr 8 0 (Gl.rows [.mk 3 zeroT [] [] []])]) (by show φ.length≤1; exact Nat.le_of_eq hg.hs0.len) (by decide) rfl rfl rfl ?_
   exact R_retS hg 2 5 (by show (1:Nat)≤2; omega) rfl rfl rfl
 rw [if_neg c4]
 by_cases c5:sgOf t=sgN
 ·rw [if_pos c5]
  have hl:t.l.length=1:=sg_len (n:=1) c5
  have hl0:0<t.l.length:=by omega
  have hs1:=size_arg hl0
  have hD:=ihD (argT t 0) (st.1 - 1,st.2) (deep+1) false (ht.arg hl0) (noCh_arg hc hl0) (by omega) (by simp only; omega) (by simp only; omega) (by omega) (by omega)
  generalize golF n (argT t 0) (st.1 - 1,st.2) (deep+1) false=A at *
  refine ⟨0,?_⟩
  refine SCtr.of_R (pf:=pfGol) tyOk mixed Tryz.func98 rfl (by kernel_rfl) (by kernel_rfl) (by simp [Tryz.ntmps98]) (by simp [mkO]) fun w S φ hg=>?_
  refine R_run hg.ok 1000 rfl rfl ?_
  refine R_call hg.ok (signOf_ok t) rfl rfl rfl rfl rfl rfl ?_
  refine R_run hg.ok 1000 rfl rfl ?_
  refine R_if rfl rfl (fun h=>absurd h (by simp [hk])) (fun _=>?_) <;> refine R_run hg.ok 1000 rfl rfl ?_
  refine R_load4 hg.ok (by show φ.length≤1; exact Nat.le_of_eq hg.hs0.len) rfl rfl rfl rfl rfl rfl rfl ?_
  refine R_run hg.ok 1000 rfl rfl ?_
  refine R_if rfl rfl (fun h=>absurd h (by simp [he])) (fun _=>?_) <;> refine R_run hg.ok 1000 rfl rfl ?_
  refine R_eqK hg.ok (sgOf t) sgC signCmp rfl rfl rfl rfl ?_
  refine R_run hg.ok 1000 rfl rfl ?_
  refine R_if rfl rfl (fun h=>absurd h (by simp [c1])) (fun _=>?_) <;> refine R_run hg.ok 1000 rfl rfl ?_
  refine R_eqK hg.ok (sgOf t) sgT signCmp rfl rfl rfl rfl ?_
  refine R_run hg.ok 1000 rfl rfl ?_
  refine R_if rfl rfl (fun h=>absurd h (by simp [c2])) (fun _=>?_) <;> refine R_run hg.ok 1000 rfl rfl ?_
  refine R_load4 hg.ok (by show φ.length≤1; exact Nat.le_of_eq hg.hs0.len) rfl rfl rfl rfl rfl rfl rfl ?_
  refine R_run hg.ok 1000 rfl rfl ?_
  rw [w64 (n:=st.1 - 1) (by omega) (by omega)]
  refine R_load4 hg.ok (by show φ.length≤1; exact Nat.le_of_eq hg.hs0.len) rfl rfl rfl rfl rfl rfl rfl ?_
  refine R_run hg.ok 1000 rfl rfl ?_
  refine R_if rfl rfl (fun h=>absurd (of_decide_eq_true h) (by omega)) (fun _=>?_) <;> refine R_run hg.ok 1000 rfl rfl ?_
  refine R_if rfl rfl (fun h=>absurd (of_decide_eq_true h) (by omega)) (fun _=>?_) <;> refine R_run hg.ok 1000 rfl rfl ?_
  refine R_eqK hg.ok (sgOf t) sgX signCmp rfl rfl rfl rfl ?_
  refine R_run hg.ok 1000 rfl rfl ?_
  refine R_if rfl rfl (fun h=>absurd h (by simp [c4])) (fun _=>?_) <;> refine R_run hg.ok 1000 rfl rfl ?_
  refine R_eqK hg.ok (sgOf t) sgO signCmp rfl rfl rfl rfl ?_
  refine R_run hg.ok 1000 rfl rfl ?_
  refine R_if rfl rfl (fun h=>absurd h (by simp [hO])) (fun _=>?_) <;> refine R_run hg.ok 1000 rfl rfl ?_
  refine R_eqK hg.ok (sgOf t) sgI signCmp rfl rfl rfl rfl ?_
  refine R_run hg.ok 1000 rfl rfl ?_
  refine R_if rfl rfl (fun h=>absurd h (by simp [hI])) (fun _=>?_) <;> refine R_run hg.ok 1000 rfl rfl ?_
  refine R_eqK hg.ok (sgOf t) sgN signCmp rfl rfl rfl rfl ?_
  refine R_run hg.ok 1000 rfl rfl ?_
  refine R_if rfl rfl (fun _=>?_) (fun h=>absurd h (by simp [c5])) <;> refine R_run hg.ok 1000 rfl rfl ?_
  refine R_load4 hg.ok (by show φ.length≤1; exact Nat.le_of_eq hg.hs0.len) rfl rfl rfl rfl rfl rfl rfl ?_
  refine R_run hg.ok 1000 rfl rfl ?_
  refine R_load4 hg.ok (by show φ.length≤1; exact Nat.le_of_eq hg.hs0.len) rfl rfl rfl rfl rfl rfl rfl ?_
  refine R_run hg.ok 1000 rfl rfl ?_
  refine R_index hg.ok rfl rfl rfl rfl rfl rfl (by decide) (Tm.rows_get (i:=0) (argT_get hl0)) rfl ?_
  refine R_run hg.ok 1000 rfl rfl ?_
  rw [w64 (n:=deep+1) (by omega) (by omega)]
  refine R_callS3 hg.ok hg.gup hg.wide hg.Y [0] (mkO A.2++golL t deep cuts) (hD) (fun _=>rfl) (fun i hi=>by show i<φ.length; have h1:φ.length=1:=hg.hs0.len; simp at hi; omega) rfl rfl rfl rfl rfl rfl rfl rfl ?_
  refine R_run hg.ok 1000 rfl rfl ?_
  refine R_callSO hg.ok hg.gup hg.wide hg.Y [0] (mkO A.2++golL t deep cuts++[.arr 8 0 (Gl.rows [.mk 5 zeroT A.1 [] []])]) (mkOne_ok Y A.2 (.mk 5 zeroT A.1 [] [])) (fun _=>rfl) rfl rfl rfl rfl rfl rfl rfl rfl ?_
  refine R_run hg.ok 1000 rfl rfl ?_
  refine R_moveO 1 6 (mkO (A.2)++[.arr 8 0 (Gl.rows [.mk 5 zeroT A.1 [] []])]) (by show φ.length≤1; exact Nat.le_of_eq hg.hs0.len) (by decide) rfl rfl rfl ?_
  exact R_retS hg 2 5 (by show (1:Nat)≤2; omega) rfl rfl rfl
 rw [if_neg c5]
 by_cases c6:bltB (sgOf t)=true
 ·rw [if_pos c6]
  refine ⟨0,?_⟩
  refine SCtr.of_R (pf:=pfGol) tyOk mixed Tryz.func98 rfl (by kernel_rfl) (by kernel_rfl) (by simp [Tryz.ntmps98]) (by simp [mkO]) fun w S φ hg=>?_
  refine R_run hg.ok 1000 rfl rfl ?_
  refine R_call hg.ok (signOf_ok t) rfl rfl rfl rfl rfl rfl ?_
  refine R_run hg.ok 1000 rfl rfl ?_
  refine R_if rfl rfl (fun h=>absurd h (by simp [hk])) (fun _=>?_) <;> refine R_run hg.ok 1000 rfl rfl ?_
  refine R_load4 hg.ok (by show φ.length≤1; exact Nat.le_of_eq hg.hs0.len) rfl rfl rfl rfl rfl rfl rfl ?_
  refine R_run hg.ok 1000 rfl rfl ?_
  refine R_if rfl rfl (fun h=>absurd h (by simp [he])) (fun _=>?_) <;> refine R_run hg.ok 1000 rfl rfl ?_
  refine R_eqK hg.ok (sgOf t) sgC signCmp rfl rfl rfl rfl ?_
  refine R_run hg.ok 1000 rfl rfl ?_
  refine R_if rfl rfl (fun h=>absurd h (by simp [c1])) (fun _=>?_) <;> refine R_run hg.ok 1000 rfl rfl ?_
  refine R_eqK hg.ok (sgOf t) sgT signCmp rfl rfl rfl rfl ?_
  refine R_run hg.ok 1000 rfl rfl ?_
  refine R_if rfl rfl (fun h=>absurd h (by simp [c2])) (fun _=>?_) <;> refine R_run hg.ok 1000 rfl rfl ?_
  refine R_load4 hg.ok (by show φ.length≤1; exact Nat.le_of_eq hg.hs0.len) rfl rfl rfl rfl rfl rfl rfl ?_
  refine R_run hg.ok 1000 rfl rfl ?_
  rw [w64 (n:=st.1 - 1) (by omega) (by omega)]
  refine R_load4 hg.ok (by show φ.length≤1; exact Nat.le_of_eq hg.hs0.len) rfl rfl rfl rfl rfl rfl rfl ?_
  refine R_run hg.ok 1000 rfl rfl ?_
  refine R_if rfl rfl (fun h=>absurd (of_decide_eq_true h) (by omega)) (fun _=>?_) <;> refine R_run hg.ok 1000 rfl rfl ?_
  refine R_if rfl rfl (fun h=>absurd (of_decide_eq_true h) (by omega)) (fun _=>?_) <;> refine R_run hg.ok 1000 rfl rfl ?_
  refine R_eqK hg.ok (sgOf t) sgX signCmp rfl rfl rfl rfl ?_
  refine R_run hg.ok 1000 rfl rfl ?_
  refine R_if rfl rfl (fun h=>absurd h (by simp [c4])) (fun _=>?_) <;> refine R_run hg.ok 1000 rfl rfl ?_
  refine R_eqK hg.ok (sgOf t) sgO signCmp rfl rfl rfl rfl ?_
  refine R_run hg.ok 1000 rfl rfl ?_
  refine R_if rfl rfl (fun h=>absurd h (by simp [hO])) (fun _=>?_) <;> refine R_run hg.ok 1000 rfl rfl ?_
  refine R_eqK hg.ok (sgOf t) sgI signCmp rfl rfl rfl rfl ?_
  refine R_run hg.ok 1000 rfl rfl ?_
  refine R_if rfl rfl (fun h=>absurd h (by simp [hI])) (fun _=>?_) <;> refine R_run hg.ok 1000 rfl rfl ?_
  refine R_eqK hg.ok (sgOf t) sgN signCmp rfl rfl rfl rfl ?_
  refine R_run hg.ok 1000 rfl rfl ?_
  refine R_if rfl rfl (fun h=>absurd h (by simp [c5])) (fun _=>?_) <;> refine R_run hg.ok 1000 rfl rfl ?_
  refine R_call hg.ok (builtinT_ok t) rfl rfl rfl rfl rfl rfl ?_
  refine R_run hg.ok 1000 rfl rfl ?_
  refine R_if rfl rfl (fun _=>?_) (fun h=>absurd h (by simp [c6])) <;> refine R_run hg.ok 1000 rfl rfl ?_
  refine R_load4 hg.ok (by show φ.length≤1; exact Nat.le_of_eq hg.hs0.len) rfl rfl rfl rfl rfl rfl rfl ?_
  refine R_run hg.ok 1000 rfl rfl ?_
  refine R_callSO hg.ok hg.gup hg.wide hg.Y [0] (mkO (st.1 - 1,st.2)++golL t deep cuts++[.arr 8 0 (Gl.rows [.mk 2 t [] [] []])]) (mkOne_ok Y (st.1 - 1,st.2) (.mk 2 t [] [] [])) (fun _=>rfl) rfl rfl rfl rfl rfl rfl rfl rfl ?_
  refine R_run hg.ok 1000 rfl rfl ?_
  refine R_moveO 1 6 (mkO ((st.1 - 1,st.2))++[.arr 8 0 (Gl.rows [.mk 2 t [] [] []])]) (by show φ.length≤1; exact Nat.le_of_eq hg.hs0.len) (by decide) rfl rfl rfl ?_
  exact R_retS hg 2 5 (by show (1:Nat)≤2; omega) rfl rfl rfl
 rw [if_neg c6]
 by_cases c7:ctlB (sgOf t)=true
 ·rw [if_pos c7]
  refine ⟨0,?_⟩
  refine SCtr.of_R (pf:=pfGol) tyOk mixed Tryz.func98 rfl (by kernel_rfl) (by kernel_rfl) (by simp [Tryz.ntmps98]) (by simp [mkO]) fun w S φ hg=>?_
  refine R_run hg.ok 1000 rfl rfl ?_
  refine R_call hg.ok (signOf_ok t) rfl rfl rfl rfl rfl rfl ?_
  refine R_run hg.ok 1000 rfl rfl ?_
  refine R_if rfl rfl (fun h=>absurd h (by simp [hk])) (fun _=>?_) <;> refine R_run hg.ok 1000 rfl rfl ?_
  refine R_load4 hg.ok (by show φ.length≤1; exact Nat.le_of_eq hg.hs0.len) rfl rfl rfl rfl rfl rfl rfl ?_
  refine R_run hg.ok 1000 rfl rfl ?_
  refine R_if rfl rfl (fun h=>absurd h (by simp [he])) (fun _=>?_) <;> refine R_run hg.ok 1000 rfl rfl ?_
  refine R_eqK hg.ok (sgOf t) sgC signCmp rfl rfl rfl rfl ?_
  refine R_run hg.ok 1000 rfl rfl ?_
  refine R_if rfl rfl (fun h=>absurd h (by simp [c1])) (fun _=>?_) <;> refine R_run hg.ok 1000 rfl rfl ?_
  refine R_eqK hg.ok (sgOf t) sgT signCmp rfl rfl rfl rfl ?_
  refine R_run hg.ok 1000 rfl rfl ?_
  refine R_if rfl rfl (fun h=>absurd h (by simp [c2])) (fun _=>?_) <;> refine R_run hg.ok 1000 rfl rfl ?_
  refine R_load4 hg.ok (by show φ.length≤1; exact Nat.le_of_eq hg.hs0.len) rfl rfl rfl rfl rfl rfl rfl ?_
  refine R_run hg.ok 1000 rfl rfl ?_
  rw [w64 (n:=st.1 - 1) (by omega) (by omega)]
  refine R_load4 hg.ok (by show φ.length≤1; exact Nat.le_of_eq hg.hs0.len) rfl rfl rfl rfl rfl rfl rfl ?_
  refine R_run hg.ok 1000 rfl rfl ?_
  refine R_if rfl rfl (fun h=>absurd (of_decide_eq_true h) (by omega)) (fun _=>?_) <;> refine R_run hg.ok 1000 rfl rfl ?_
  refine R_if rfl rfl (fun h=>absurd (of_decide_eq_true h) (by omega)) (fun _=>?_) <;> refine R_run hg.ok 1000 rfl rfl ?_
  refine R_eqK hg.ok (sgOf t) sgX signCmp rfl rfl rfl rfl ?_
  refine R_run hg.ok 1000 rfl rfl ?_
  refine R_if rfl rfl (fun h=>absurd h (by simp [c4])) (fun _=>?_) <;> refine R_run hg.ok 1000 rfl rfl ?_
  refine R_eqK hg.ok (sgOf t) sgO signCmp rfl rfl rfl rfl ?_
  refine R_run hg.ok 1000 rfl rfl ?_
  refine R_if rfl rfl (fun h=>absurd h (by simp [hO])) (fun _=>?_) <;> refine R_run hg.ok 1000 rfl rfl ?_
  refine R_eqK hg.ok (sgOf t) sgI signCmp rfl rfl rfl rfl ?_
  refine R_run hg.ok 1000 rfl rfl ?_
  refine R_if rfl rfl (fun h=>absurd h (by simp [hI])) (fun _=>?_) <;> refine R_run hg.ok 1000 rfl rfl ?_
  refine R_eqK hg.ok (sgOf t) sgN signCmp rfl rfl rfl rfl ?_
  refine R_run hg.ok 1000 rfl rfl ?_
  refine R_if rfl rfl (fun h=>absurd h (by simp [c5])) (fun _=>?_) <;> refine R_run hg.ok 1000 rfl rfl ?_
  refine R_call hg.ok (builtinT_ok t) rfl rfl rfl rfl rfl rfl ?_
  refine R_run hg.ok 1000 rfl rfl ?_
  refine R_if rfl rfl (fun h=>absurd h (by simp [c6])) (fun _=>?_) <;> refine R_run hg.ok 1000 rfl rfl ?_
  refine R_call hg.ok (controlT_ok t) rfl rfl rfl rfl rfl rfl ?_
  refine R_run hg.ok 1000 rfl rfl ?_
  refine R_if rfl rfl (fun _=>?_) (fun h=>absurd h (by simp [c7])) <;> refine R_run hg.ok 1000 rfl rfl ?_
  refine R_load4 hg.ok (by show φ.length≤1; exact Nat.le_of_eq hg.hs0.len) rfl rfl rfl rfl rfl rfl rfl ?_
  refine R_run hg.ok 1000 rfl rfl ?_
  refine R_callSO hg.ok hg.gup hg.wide hg.Y [0] (mkO (failM (st.1 - 1,st.2) 5)++golL t deep cuts) (mkFail_ok Y (st.1 - 1,st.2) 5) (fun _=>rfl) rfl rfl rfl rfl rfl rfl rfl rfl ?_
  refine R_run hg.ok 1000 rfl rfl ?_
  refine R_own 8 8 rfl rfl ?_
  refine R_moveO 1 6 (mkO (failM (st.1 - 1,st.2) 5)++[.arr 8 0 (Gl.rows [])]) (by show φ.length≤1; exact Nat.le_of_eq hg.hs0.len) (by decide) rfl rfl rfl ?_
  exact R_retS hg 2 5 (by show (1:Nat)≤2; omega) rfl rfl rfl
 rw [if_neg c7]
 refine ⟨0,?_⟩
 refine SCtr.of_R (pf:=pfGol) tyOk mixed Tryz.func98 rfl (by kernel_rfl) (by kernel_rfl) (by simp [Tryz.ntmps98]) (by simp [mkO]) fun w S φ hg=>?_
 refine R_run hg.ok 1000 rfl rfl ?_
 refine R_call hg.ok (signOf_ok t) rfl rfl rfl rfl rfl rfl ?_
 refine R_run hg.ok 1000 rfl rfl ?_
 refine R_if rfl rfl (fun h=>absurd h (by simp [hk])) (fun _=>?_) <;> refine R_run hg.ok 1000 rfl rfl ?_
 refine R_load4 hg.ok (by show φ.length≤1; exact Nat.le_of_eq hg.hs0.len) rfl rfl rfl rfl rfl rfl rfl ?_
 refine R_run hg.ok 1000 rfl rfl ?_
 refine R_if rfl rfl (fun h=>absurd h (by simp [he])) (fun _=>?_) <;> refine R_run hg.ok 1000 rfl rfl ?_
 refine R_eqK hg.ok (sgOf t) sgC signCmp rfl rfl rfl rfl ?_
 refine R_run hg.ok 1000 rfl rfl ?_
 refine R_if rfl rfl (fun h=>absurd h (by simp [c1])) (fun _=>?_) <;> refine R_run hg.ok 1000 rfl rfl ?_
 refine R_eqK hg.ok (sgOf t) sgT signCmp rfl rfl rfl rfl ?_
 refine R_run hg.ok 1000 rfl rfl ?_
 refine R_if rfl rfl (fun h=>absurd h (by simp [c2])) (fun _=>?_) <;> refine R_run hg.ok 1000 rfl rfl ?_
 refine R_load4 hg.ok (by show φ.length≤1; exact Nat.le_of_eq hg.hs0.len) rfl rfl rfl rfl rfl rfl rfl ?_
 refine R_run hg.ok 1000 rfl rfl ?_
 rw [w64 (n:=st.1 - 1) (by omega) (by omega)]
 refine R_load4 hg.ok (by show φ.length≤1; exact Nat.le_of_eq hg.hs0.len) rfl rfl rfl rfl rfl rfl rfl ?_
 refine R_run hg.ok 1000 rfl rfl ?_
 refine R_if rfl rfl (fun h=>absurd (of_decide_eq_true h) (by omega)) (fun _=>?_) <;> refine R_run hg.ok 1000 rfl rfl ?_
 refine R_if rfl rfl (fun h=>absurd (of_decide_eq_true h) (by omega)) (fun _=>?_) <;> refine R_run hg.ok 1000 rfl rfl ?_
 refine R_eqK hg.ok (sgOf t) sgX signCmp rfl rfl rfl rfl ?_
 refine R_run hg.ok 1000 rfl rfl ?_
 refine R_if rfl rfl (fun h=>absurd h (by simp [c4])) (fun _=>?_) <;> refine R_run hg.ok 1000 rfl rfl ?_
 refine R_eqK hg.ok (sgOf t) sgO signCmp rfl rfl rfl rfl ?_
 refine R_run hg.ok 1000 rfl rfl ?_
 refine R_if rfl rfl (fun h=>absurd h (by simp [hO])) (fun _=>?_) <;> refine R_run hg.ok 1000 rfl rfl ?_
 refine R_eqK hg.ok (sgOf t) sgI signCmp rfl rfl rfl rfl ?_
 refine R_run hg.ok 1000 rfl rfl ?_
 refine R_if rfl rfl (fun h=>absurd h (by simp [hI])) (fun _=>?_) <;> refine R_run hg.ok 1000 rfl rfl ?_
 refine R_eqK hg.ok (sgOf t) sgN signCmp rfl rfl rfl rfl ?_
 refine R_run hg.ok 1000 rfl rfl ?_
 refine R_if rfl rfl (fun h=>absurd h (by simp [c5])) (fun _=>?_) <;> refine R_run hg.ok 1000 rfl rfl ?_
 refine R_call hg.ok (builtinT_ok t) rfl rfl rfl rfl rfl rfl ?_
 refine R_run hg.ok 1000 rfl rfl ?_
 refine R_if rfl rfl (fun h=>absurd h (by simp [c6])) (fun _=>?_) <;> refine R_run hg.ok 1000 rfl rfl ?_
 refine R_call hg.ok (controlT_ok t) rfl rfl rfl rfl rfl rfl ?_
 refine R_run hg.ok 1000 rfl rfl ?_
 refine R_if rfl rfl (fun h=>absurd h (by simp [c7])) (fun _=>?_) <;> refine R_run hg.ok 1000 rfl rfl ?_
 refine R_load4 hg.ok (by show φ.length≤1; exact Nat.le_of_eq hg.hs0.len) rfl rfl rfl rfl rfl rfl rfl ?_
 refine R_run hg.ok 1000 rfl rfl ?_
 refine R_callSO hg.ok hg.gup hg.wide hg.Y [0] (mkO (st.1 - 1,st.2)++golL t deep cuts++[.arr 8 0 (Gl.rows [.mk 1 t [] [] []])]) (mkOne_ok Y (st.1 - 1,st.2) (.mk 1 t [] [] [])) (fun _=>rfl) rfl rfl rfl rfl rfl rfl rfl rfl ?_
 refine R_run hg.ok 1000 rfl rfl ?_
 refine R_moveO 1 6 (mkO ((st.1 - 1,st.2))++[.arr 8 0 (Gl.rows [.mk 1 t [] [] []])]) (by show φ.length≤1; exact Nat.le_of_eq hg.hs0.len) (by decide) rfl rfl rfl ?_
 exact R_retS hg 2 5 (by show (1:Nat)≤2; omega) rfl rfl rfl

set_option maxHeartbeats 8000000 in
set_option maxRecDepth 100000 in
theorem golD_step (Y:YP) (n:Nat) (ihO:GolO Y n) (ihD:GolD Y n):GolD Y (n+1):=by
 intro t st deep cuts ht hc hsz h1 h2 h3 h4
 have htp:=Gl.tmPos t
 obtain ⟨hO,hI⟩:=noCh_sg hc
 rw [golF_succ]
 by_cases c0:(if t.k=3 then st else failM st 5).2≠0
 ·rw [if_pos c0]
  by_cases hk:t.k=3
  ·rw [if_pos hk] at c0 ⊢
   refine SCtr.of_R (pf:=pfGol) tyOk mixed Tryz.func98 rfl (by kernel_rfl) (by kernel_rfl) (by simp [Tryz.ntmps98]) (by simp [mkO]) fun w S φ hg=>?_
   refine R_run hg.ok 1000 rfl rfl ?_
   refine R_call hg.ok (signOf_ok t) rfl rfl rfl rfl rfl rfl ?_
   refine R_run hg.ok 1000 rfl rfl ?_
   refine R_if rfl rfl (fun h=>absurd h (by simp [hk])) (fun _=>?_) <;> refine R_run hg.ok 1000 rfl rfl ?_
   refine R_load4 hg.ok (by show φ.length≤1; exact Nat.le_of_eq hg.hs0.len) rfl rfl rfl rfl rfl rfl rfl ?_
   refine R_run hg.ok 1000 rfl rfl ?_
   refine R_if rfl rfl (fun _=>?_) (fun h=>absurd h (by simp [c0])) <;> refine R_run hg.ok 1000 rfl rfl ?_
   refine R_own 8 8 rfl rfl ?_
   refine R_freeze hg.gup 6 (show nth _ 6=some (Ob.arr 8 0 (Gl.rows [])) from rfl) rfl ?_
   exact R_retS hg 1 5 (Nat.le_refl _) rfl rfl rfl
  ·rw [if_neg hk] at c0 ⊢
   refine SCtr.of_R (pf:=pfGol) tyOk mixed Tryz.func98 rfl (by kernel_rfl) (by kernel_rfl) (by simp [Tryz.ntmps98]) (by simp [mkO]) fun w S φ hg=>?_
   refine R_run hg.ok 1000 rfl rfl ?_
   refine R_call hg.ok (signOf_ok t) rfl rfl rfl rfl rfl rfl ?_
   refine R_run hg.ok 1000 rfl rfl ?_
   refine R_if rfl rfl (fun _=>?_) (fun h=>absurd h (by simp [hk])) <;> refine R_run hg.ok 1000 rfl rfl ?_
   refine R_load4 hg.ok (by show φ.length≤1; exact Nat.le_of_eq hg.hs0.len) rfl rfl rfl rfl rfl rfl rfl ?_
   refine R_run hg.ok 1000 rfl rfl ?_
   refine R_callSO hg.ok hg.gup hg.wide hg.Y [0] (mkO (failM st 5)++golL t deep cuts) (mkFail_ok Y st 5) (fun _=>rfl) rfl rfl rfl rfl rfl rfl rfl rfl ?_
   refine R_run hg.ok 1000 rfl rfl ?_
   refine R_load4 hg.ok (by show φ.length≤1; exact Nat.le_of_eq hg.hs0.len) rfl rfl rfl rfl rfl rfl rfl ?_
   refine R_run hg.ok 1000 rfl rfl ?_
   refine R_if rfl rfl (fun _=>?_) (fun h=>absurd h (by simp [c0])) <;> refine R_run hg.ok 1000 rfl rfl ?_
   refine R_own 8 8 rfl rfl ?_
   refine R_freeze hg.gup 6 (show nth _ 6=some (Ob.arr 8 0 (Gl.rows [])) from rfl) rfl ?_
   exact R_retS hg 1 5 (Nat.le_refl _) rfl rfl rfl
 rw [if_neg c0]
 have hk:t.k=3:=by
  refine Decidable.byContradiction fun hk=>c0 ?_
  rw [if_neg hk]
  unfold failM
  split
  ·show (5:Int)≠0; decide
  ·assumption
 rw [if_pos hk] at c0
 have he:st.2=0:=Decidable.not_not.1 c0
 by_cases c1:sgOf t=sgC
 ·rw [if_pos c1]
  have hl:t.l.length=2:=sg_len (n:=2) c1
  have hs2:=size_two hl
  have hl0:0<t.l.length:=by omega
  have hl1:1<t.l.length:=by omega
  have hp0:=Gl.tmPos (argT t 0)
  have hp1:=Gl.tmPos (argT t 1)
  obtain ⟨_,a2,a3,a4⟩:=golF_ok n (argT t 0) st deep cuts (ht.arg hl0)
  obtain ⟨_,b2,_,_⟩:=golF_ok n (argT t 1) (golF n (argT t 0) st deep cuts).2 deep cuts (ht.arg hl1)
  obtain ⟨s1,hA⟩:=ihO (argT t 0) st deep cuts (ht.arg hl0) (noCh_arg hc hl0) (by omega) (by omega) (by omega) h3 (by omega)
  obtain ⟨s2,hB⟩:=ihO (argT t 1) (golF n (argT t 0) st deep cuts).2 deep cuts (ht.arg hl1) (noCh_arg hc hl1) (by omega) (by omega) (by omega) h3 (by omega)
  have hsa:=Gl.len_size (golF n (argT t 0) st deep cuts).1
  have hsb:=Gl.len_size (golF n (argT t 1) (golF n (argT t 0) st deep cuts).2 deep cuts).1
  have hs:=ht.1
  generalize golF n (argT t 0) st deep cuts=A at *
  generalize golF n (argT t 1) A.2 deep cuts=B at *
  refine SCtr.of_R (pf:=pfGol) tyOk mixed Tryz.func98 rfl (by kernel_rfl) (by kernel_rfl) (by simp [Tryz.ntmps98]) (by simp [mkO]) fun w S φ hg=>?_
  refine R_run hg.ok 1000 rfl rfl ?_
  refine R_call hg.ok (signOf_ok t) rfl rfl rfl rfl rfl rfl ?_
  refine R_run hg.ok 1000 rfl rfl ?_
  refine R_if rfl rfl (fun h=>absurd h (by simp [hk])) (fun _=>?_) <;> refine R_run hg.ok 1000 rfl rfl ?_
  refine R_load4 hg.ok (by show φ.length≤1; exact Nat.le_of_eq hg.hs0.len) rfl rfl rfl rfl rfl rfl rfl ?_
  refine R_run hg.ok 1000 rfl rfl ?_
  refine R_if rfl rfl (fun h=>absurd h (by simp [he])) (fun _=>?_) <;> refine R_run hg.ok 1000 rfl rfl ?_
  refine R_eqK hg.ok (sgOf t) sgC signCmp rfl rfl rfl rfl ?_
  refine R_run hg.ok 1000 rfl rfl ?_
  refine R_if rfl rfl (fun _=>?_) (fun h=>absurd h (by simp [c1])) <;> refine R_run hg.ok 1000 rfl rfl ?_
  refine R_load4 hg.ok (by show φ.length≤1; exact Nat.le_of_eq hg.hs0.len) rfl rfl rfl rfl rfl rfl rfl ?_
  refine R_run hg.ok 1000 rfl rfl ?_
  refine R_index hg.ok rfl rfl rfl rfl rfl rfl (by decide) (Tm.rows_get (i:=0) (argT_get hl0)) rfl ?_
  refine R_run hg.ok 1000 rfl rfl ?_
  refine R_callS3 hg.ok hg.gup hg.wide hg.Y [0] (mkO A.2++golL t deep cuts++[.arr 8 s1 (Gl.rows A.1)]) (hA) (fun _=>rfl) (fun i hi=>by show i<φ.length; have h1:φ.length=1:=hg.hs0.len; simp at hi; omega) rfl rfl rfl rfl rfl rfl rfl rfl ?_
  refine R_run hg.ok 1000 rfl rfl ?_
  refine R_load4 hg.ok (by show φ.length≤1; exact Nat.le_of_eq hg.hs0.len) rfl rfl rfl rfl rfl rfl rfl ?_
  refine R_run hg.ok 1000 rfl rfl ?_
  refine R_index hg.ok rfl rfl rfl rfl rfl rfl (by decide) (Tm.rows_get (i:=1) (argT_get hl1)) rfl ?_
  refine R_run hg.ok 1000 rfl rfl ?_
  refine R_callS3 hg.ok hg.gup hg.wide hg.Y [0] (mkO B.2++golL t deep cuts++[.arr 8 s1 (Gl.rows A.1),.arr 8 s2 (Gl.rows B.1)]) (hB) (fun _=>rfl) (fun i hi=>by show i<φ.length; have h1:φ.length=1:=hg.hs0.len; simp at hi; omega) rfl rfl rfl rfl rfl rfl rfl rfl ?_
  refine R_run hg.ok 1000 rfl rfl ?_
  refine R_appendOO hg.ok rfl rfl rfl rfl rfl rfl rfl rfl rfl rfl (glRows_8 _) (glRows_1 _) (by rw [Gl.rows_length,Gl.rows_length]; simp only [Ty.bytes]; omega) (by rw [Gl.rows_length,Gl.rows_length]; omega) ?_
  refine R_run hg.ok 1000 rfl rfl ?_
  rw [glRows_app]
  refine R_moveO 1 6 (mkO (B.2)++[.arr 8 (Nat.succ s1) (Gl.rows A.1++Gl.rows B.1)]) (by show φ.length≤1; exact Nat.le_of_eq hg.hs0.len) (by decide) rfl rfl rfl ?_
  refine R_freezeO hg.gup 1 [(8,.d (.sl (Gl.rows A.1++Gl.rows B.1)))] [.box [iV (B.2).1,iV (B.2).2],.dead] rfl rfl ⟨Ent.frz 1 _ _,trivial⟩ (show ObsIn [.box [iV (B.2).1,iV (B.2).2],.dead] [.box [iV (B.2).1,iV (B.2).2],.dead] from ⟨⟨.refl _,.refl _,trivial⟩,trivial,trivial⟩) ?_
  exact R_retS hg 1 5 (Nat.le_refl _) rfl rfl rfl
 rw [if_neg c1]
 by_cases c2:sgOf t=sgT
 ·rw [if_pos c2]
  refine SCtr.of_R (pf:=pfGol) tyOk mixed Tryz.func98 rfl (by kernel_rfl) (by kernel_rfl) (by simp [Tryz.ntmps98]) (by simp [mkO]) fun w S φ hg=>?_
  refine R_run hg.ok 1000 rfl rfl ?_
  refine R_call hg.ok (signOf_ok t) rfl rfl rfl rfl rfl rfl ?_
  refine R_run hg.ok 1000 rfl rfl ?_
  refine R_if rfl rfl (fun h=>absurd h (by simp [hk])) (fun _=>?_) <;> refine R_run hg.ok 1000 rfl rfl ?_
  refine R_load4 hg.ok (by show φ.length≤1; exact Nat.le_of_eq hg.hs0.len) rfl rfl rfl rfl rfl rfl rfl ?_
  refine R_run hg.ok 1000 rfl rfl ?_
  refine R_if rfl rfl (fun h=>absurd h (by simp [he])) (fun _=>?_) <;> refine R_run hg.ok 1000 rfl rfl ?_
  refine R_eqK hg.ok (sgOf t) sgC signCmp rfl rfl rfl rfl ?_
  refine R_run hg.ok 1000 rfl rfl ?_
  refine R_if rfl rfl (fun h=>absurd h (by simp [c1])) (fun _=>?_) <;> refine R_run hg.ok 1000 rfl rfl ?_
  refine R_eqK hg.ok (sgOf t) sgT signCmp rfl rfl rfl rfl ?_
  refine R_run hg.ok 1000 rfl rfl ?_
  refine R_if rfl rfl (fun _=>?_) (fun h=>absurd h (by simp [c2])) <;> refine R_run hg.ok 1000 rfl rfl ?_
  refine R_own 8 8 rfl rfl ?_
  refine R_freeze hg.gup 6 (show nth _ 6=some (Ob.arr 8 0 (Gl.rows [])) from rfl) rfl ?_
  exact R_retS hg 1 5 (Nat.le_refl _) rfl rfl rfl
 rw [if_neg c2]
 by_cases c3:st.1 - 1<0∨10<deep
 ·rw [if_pos c3]
  by_cases c3a:st.1 - 1<0
  ·refine SCtr.of_R (pf:=pfGol) tyOk mixed Tryz.func98 rfl (by kernel_rfl) (by kernel_rfl) (by simp [Tryz.ntmps98]) (by simp [mkO]) fun w S φ hg=>?_
   refine R_run hg.ok 1000 rfl rfl ?_
   refine R_call hg.ok (signOf_ok t) rfl rfl rfl rfl rfl rfl ?_
   refine R_run hg.ok 1000 rfl rfl ?_
   refine R_if rfl rfl (fun h=>absurd h (by simp [hk])) (fun _=>?_) <;> refine R_run hg.ok 1000 rfl rfl ?_
   refine R_load4 hg.ok (by show φ.length≤1; exact Nat.le_of_eq hg.hs0.len) rfl rfl rfl rfl rfl rfl rfl ?_
   refine R_run hg.ok 1000 rfl rfl ?_
   refine R_if rfl rfl (fun h=>absurd h (by simp [he])) (fun _=>?_) <;> refine R_run hg.ok 1000 rfl rfl ?_
   refine R_eqK hg.ok (sgOf t) sgC signCmp rfl rfl rfl rfl ?_
   refine R_run hg.ok 1000 rfl rfl ?_
   refine R_if rfl rfl (fun h=>absurd h (by simp [c1])) (fun _=>?_) <;> refine R_run hg.ok 1000 rfl rfl ?_
   refine R_eqK hg.ok (sgOf t) sgT signCmp rfl rfl rfl rfl ?_
   refine R_run hg.ok 1000 rfl rfl ?_
   refine R_if rfl rfl (fun h=>absurd h (by simp [c2])) (fun _=>?_) <;> refine R_run hg.ok 1000 rfl rfl ?_
   refine R_load4 hg.ok (by show φ.length≤1; exact Nat.le_of_eq hg.hs0.len) rfl rfl rfl rfl rfl rfl rfl ?_
   refine R_run hg.ok 1000 rfl rfl ?_
   rw [w64 (n:=st.1 - 1) (by omega) (by omega)]
   refine R_load4 hg.ok (by show φ.length≤1; exact Nat.le_of_eq hg.hs0.len) rfl rfl rfl rfl rfl rfl rfl ?_
   refine R_run hg.ok 1000 rfl rfl ?_
   refine R_if rfl rfl (fun _=>?_) (fun h=>absurd (of_decide_eq_false h) (by omega)) <;> refine R_run hg.ok 1000 rfl rfl ?_
   refine R_load4 hg.ok (by show φ.length≤1; exact Nat.le_of_eq hg.hs0.len) rfl rfl rfl rfl rfl rfl rfl ?_
   refine R_run hg.ok 1000 rfl rfl ?_
   refine R_callSO hg.ok hg.gup hg.wide hg.Y [0] (mkO (failM (st.1 - 1,st.2) 3)++golL t deep cuts) (mkFail_ok Y (st.1 - 1,st.2) 3) (fun _=>rfl) rfl rfl rfl rfl rfl rfl rfl rfl ?_
   refine R_run hg.ok 1000 rfl rfl ?_
   refine R_own 8 8 rfl rfl ?_
   refine R_freeze hg.gup 6 (show nth _ 6=some (Ob.arr 8 0 (Gl.rows [])) from rfl) rfl ?_
   exact R_retS hg 1 5 (Nat.le_refl _) rfl rfl rfl
  ·refine SCtr.of_R (pf:=pfGol) tyOk mixed Tryz.func98 rfl (by kernel_rfl) (by kernel_rfl) (by simp [Tryz.ntmps98]) (by simp [mkO]) fun w S φ hg=>?_
   refine R_run hg.ok 1000 rfl rfl ?_
   refine R_call hg.ok (signOf_ok t) rfl rfl rfl rfl rfl rfl ?_
   refine R_run hg.ok 1000 rfl rfl ?_
   refine R_if rfl rfl (fun h=>absurd h (by simp [hk])) (fun _=>?_) <;> refine R_run hg.ok 1000 rfl rfl ?_
   refine R_load4 hg.ok (by show φ.length≤1; exact Nat.le_of_eq hg.hs0.len) rfl rfl rfl rfl rfl rfl rfl ?_
   refine R_run hg.ok 1000 rfl rfl ?_
   refine R_if rfl rfl (fun h=>absurd h (by simp [he])) (fun _=>?_) <;> refine R_run hg.ok 1000 rfl rfl ?_
   refine R_eqK hg.ok (sgOf t) sgC signCmp rfl rfl rfl rfl ?_
   refine R_run hg.ok 1000 rfl rfl ?_
   refine R_if rfl rfl (fun h=>absurd h (by simp [c1])) (fun _=>?_) <;> refine R_run hg.ok 1000 rfl rfl ?_
   refine R_eqK hg.ok (sgOf t) sgT signCmp rfl rfl rfl rfl ?_
   refine R_run hg.ok 1000 rfl rfl ?_
   refine R_if rfl rfl (fun h=>absurd h (by simp [c2])) (fun _=>?_) <;> refine R_run hg.ok 1000 rfl rfl ?_
   refine R_load4 hg.ok (by show φ.length≤1; exact Nat.le_of_eq hg.hs0.len) rfl rfl rfl rfl rfl rfl rfl ?_
   refine R_run hg.ok 1000 rfl rfl ?_
   rw [w64 (n:=st.1 - 1) (by omega) (by omega)]
   refine R_load4 hg.ok (by show φ.length≤1; exact Nat.le_of_eq hg.hs0.len) rfl rfl rfl rfl rfl rfl rfl ?_
   refine R_run hg.ok 1000 rfl rfl ?_
   refine R_if rfl rfl (fun h=>absurd (of_decide_eq_true h) (by omega)) (fun _=>?_) <;> refine R_run hg.ok 1000 rfl rfl ?_
   refine R_if rfl rfl (fun _=>?_) (fun h=>absurd (of_decide_eq_false h) (by omega)) <;> refine R_run hg.ok 1000 rfl rfl ?_
   refine R_load4 hg.ok (by show φ.length≤1; exact Nat.le_of_eq hg.hs0.len) rfl rfl rfl rfl rfl rfl rfl ?_
   refine R_run hg.ok 1000 rfl rfl ?_
   refine R_callSO hg.ok hg.gup hg.wide hg.Y [0] (mkO (failM (st.1 - 1,st.2) 3)++golL t deep cuts) (mkFail_ok Y (st.1 - 1,st.2) 3) (fun _=>rfl) rfl rfl rfl rfl rfl rfl rfl rfl ?_
   refine R_run hg.ok 1000 rfl rfl ?_
   refine R_own 8 8 rfl rfl ?_
   refine R_freeze hg.gup 6 (show nth _ 6=some (Ob.arr 8 0 (Gl.rows [])) from rfl) rfl ?_
   exact R_retS hg 1 5 (Nat.le_refl _) rfl rfl rfl
 rw [if_neg c3]
 by_cases c4:sgOf t=sgX
 ·rw [if_pos c4]
  cases cuts with
  | true =>
   refine SCtr.of_R (pf:=pfGol) tyOk mixed Tryz.func98 rfl (by kernel_rfl) (by kernel_rfl) (by simp [Tryz.ntmps98]) (by simp [mkO]) fun w S φ hg=>?_
   refine R_run hg.ok 1000 rfl rfl ?_
   refine R_call hg.ok (signOf_ok t) rfl rfl rfl rfl rfl rfl ?_
   refine R_run hg.ok 1000 rfl rfl ?_
   refine R_if rfl rfl (fun h=>absurd h (by simp [hk])) (fun _=>?_) <;> refine R_run hg.ok 1000 rfl rfl ?_
   refine R_load4 hg.ok (by show φ.length≤1; exact Nat.le_of_eq hg.hs0.len) rfl rfl rfl rfl rfl rfl rfl ?_
   refine R_run hg.ok 1000 rfl rfl ?_
   refine R_if rfl rfl (fun h=>absurd h (by simp [he])) (fun _=>?_) <;> refine R_run hg.ok 1000 rfl rfl ?_
   refine R_eqK hg.ok (sgOf t) sgC signCmp rfl rfl rfl rfl ?_
   refine R_run hg.ok 1000 rfl rfl ?_
   refine R_if rfl rfl (fun h=>absurd h (by simp [c1])) (fun _=>?_) <;> refine R_run hg.ok 1000 rfl rfl ?_
   refine R_eqK hg.ok (sgOf t) sgT signCmp rfl rfl rfl rfl ?_
   refine R_run hg.ok 1000 rfl rfl ?_
   refine R_if rfl rfl (fun h=>absurd h (by simp [c2])) (fun _=>?_) <;> refine R_run hg.ok 1000 rfl rfl ?_
   refine R_load4 hg.ok (by show φ.length≤1; exact Nat.le_of_eq hg.hs0.len) rfl rfl rfl rfl rfl rfl rfl ?_
   refine R_run hg.ok 1000 rfl rfl ?_
   rw [w64 (n:=st.1 - 1) (by omega) (by omega)]
   refine R_load4 hg.ok (by show φ.length≤1; exact Nat.le_of_eq hg.hs0.len) rfl rfl rfl rfl rfl rfl rfl ?_
   refine R_run hg.ok 1000 rfl rfl ?_
   refine R_if rfl rfl (fun h=>absurd (of_decide_eq_true h) (by omega)) (fun _=>?_) <;> refine R_run hg.ok 1000 rfl rfl ?_
   refine R_if rfl rfl (fun h=>absurd (of_decide_eq_true h) (by omega)) (fun _=>?_) <;> refine R_run hg.ok 1000 rfl rfl ?_
   refine R_eqK hg.ok (sgOf t) sgX signCmp rfl rfl rfl rfl ?_
   refine R_run hg.ok 1000 rfl rfl ?_
   refine R_if rfl rfl (fun _=>?_) (fun h=>absurd h (by simp [c4])) <;> refine R_run hg.ok 1000 rfl rfl ?_
   refine R_if rfl rfl (fun h=>absurd h (by simp)) (fun _=>?_) <;> refine R_run hg.ok 1000 rfl rfl ?_
   refine R_load4 hg.ok (by show φ.length≤1; exact Nat.le_of_eq hg.hs0.len) rfl rfl rfl rfl rfl rfl rfl ?_
   refine R_run hg.ok 1000 rfl rfl ?_
   refine R_callSO hg.ok hg.gup hg.wide hg.Y [0] (mkO (st.1 - 1,st.2)++golL t deep true++[.arr 8 0 (Gl.rows [.mk 3 zeroT [] [] []])]) (mkOne_ok Y (st.1 - 1,st.2) (.mk 3 zeroT [] [] [])) (fun _=>rfl) rfl rfl rfl rfl rfl rfl rfl rfl ?_
   refine R_run hg.ok 1000 rfl rfl ?_
   refine R_freeze hg.gup 6 (show nth _ 6=some (Ob.arr 8 0 (Gl.rows [.mk 3 zeroT [] [] []])) from rfl) rfl ?_
   exact R_retS hg 1 5 (Nat.le_refl _) rfl rfl rfl
  | false =>
   refine SCtr.of_R (pf:=pfGol) tyOk mixed Tryz.func98 rfl (by kernel_rfl) (by kernel_rfl) (by simp [Tryz.ntmps98]) (by simp [mkO]) fun w S φ hg=>?_
   refine R_run hg.ok 1000 rfl rfl ?_
   refine R_call hg.ok (signOf_ok t) rfl rfl rfl rfl rfl rfl ?_
   refine R_run hg.ok 1000 rfl rfl ?_
   refine R_if rfl rfl (fun h=>absurd h (by simp [hk])) (fun _=>?_) <;> refine R_run hg.ok 1000 rfl rfl ?_
   refine R_load4 hg.ok (by show φ.length≤1; exact Nat.le_of_eq hg.hs0.len) rfl rfl rfl rfl rfl rfl rfl ?_
   refine R_run hg.ok 1000 rfl rfl ?_
   refine R_if rfl rfl (fun h=>absurd h (by simp [he])) (fun _=>?_) <;> refine R_run hg.ok 1000 rfl rfl ?_
   refine R_eqK hg.ok (sgOf t) sgC signCmp rfl rfl rfl rfl ?_
   refine R_run hg.ok 1000 rfl rfl ?_
   refine R_if rfl rfl (fun h=>absurd h (by simp [c1])) (fun _=>?_) <;> refine R_run hg.ok 1000 rfl rfl ?_
   refine R_eqK hg.ok (sgOf t) sgT signCmp rfl rfl rfl rfl ?_
   refine R_run hg.ok 1000 rfl rfl ?_
   refine R_if rfl rfl (fun h=>absurd h (by simp [c2])) (fun _=>?_) <;> refine R_run hg.ok 1000 rfl rfl ?_
   refine R_load4 hg.ok (by show φ.length≤1; exact Nat.le_of_eq hg.hs0.len) rfl rfl rfl rfl rfl rfl rfl ?_
   refine R_run hg.ok 1000 rfl rfl ?_
   rw [w64 (n:=st.1 - 1) (by omega) (by omega)]
   refine R_load4 hg.ok (by show φ.length≤1; exact Nat.le_of_eq hg.hs0.len) rfl rfl rfl rfl rfl rfl rfl ?_
   refine R_run hg.ok 1000 rfl rfl ?_
   refine R_if rfl rfl (fun h=>absurd (of_decide_eq_true h) (by omega)) (fun _=>?_) <;> refine R_run hg.ok 1000 rfl rfl ?_
   refine R_if rfl rfl (fun h=>absurd (of_decide_eq_true h) (by omega)) (fun _=>?_) <;> refine R_run hg.ok 1000 rfl rfl ?_
   refine R_eqK hg.ok (sgOf t) sgX signCmp rfl rfl rfl rfl ?_
   refine R_run hg.ok 1000 rfl rfl ?_
   refine R_if rfl rfl (fun _=>?_) (fun h=>absurd h (by simp [c4])) <;> refine R_run hg.ok 1000 rfl rfl ?_
   refine R_if rfl rfl (fun _=>?_) (fun h=>absurd h (by simp)) <;> refine R_run hg.ok 1000 rfl rfl ?_
   refine R_load4 hg.ok (by show φ.length≤1; exact Nat.le_of_eq hg.hs0.len) rfl rfl rfl rfl rfl rfl rfl ?_
   refine R_run hg.ok 1000 rfl rfl ?_
   refine R_callSO hg.ok hg.gup hg.wide hg.Y [0] (mkO (failM (st.1 - 1,st.2) 5)++golL t deep false) (mkFail_ok Y (st.1 - 1,st.2) 5) (fun _=>rfl) rfl rfl rfl rfl rfl rfl rfl rfl ?_
   refine R_run hg.ok 1000 rfl rfl ?_
   refine R_load4 hg.ok (by show φ.length≤1; exact Nat.le_of_eq hg.hs0.len) rfl rfl rfl rfl rfl rfl rfl ?_
   refine R_run hg.ok 1000 rfl rfl ?_
   refine R_callSO hg.ok hg.gup hg.wide hg.Y [0] (mkO (failM (st.1 - 1,st.2) 5)++golL t deep false++[.arr 8 0 (Gl.rows [.mk 3 zeroT [] [] []])]) (mkOne_ok Y (failM (st.1 - 1,st.2) 5) (.mk 3 zeroT [] [] [])) (fun _=>rfl) rfl rfl rfl rfl rfl rfl rfl rfl ?_
   refine R_run hg.ok 1000 rfl rfl ?_
   refine R_freeze hg.gup 6 (show nth _ 6=some (Ob.arr 8 0 (Gl.rows [.mk 3 zeroT [] [] []])) from rfl) rfl ?_
   exact R_retS hg 1 5 (Nat.le_refl _) rfl rfl rfl
 rw [if_neg c4]
 by_cases c5:sgOf t=sgN
 ·rw [if_pos c5]
  have hl:t.l.length=1:=sg_len (n:=1) c5
  have hl0:0<t.l.length:=by omega
  have hs1:=size_arg hl0
  have hD:=ihD (argT t 0) (st.1 - 1,st.2) (deep+1) false (ht.arg hl0) (noCh_arg hc hl0) (by omega) (by simp only; omega) (by simp only; omega) (by omega) (by omega)
  generalize golF n (argT t 0) (st.1 - 1,st.2) (deep+1) false=A at *
  refine SCtr.of_R (pf:=pfGol) tyOk mixed Tryz.func98 rfl (by kernel_rfl) (by kernel_rfl) (by simp [Tryz.ntmps98]) (by simp [mkO]) fun w S φ hg=>?_
  refine R_run hg.ok 1000 rfl rfl ?_
  refine R_call hg.ok (signOf_ok t) rfl rfl rfl rfl rfl rfl ?_
  refine R_run hg.ok 1000 rfl rfl ?_
  refine R_if rfl rfl (fun h=>absurd h (by simp [hk])) (fun _=>?_) <;> refine R_run hg.ok 1000 rfl rfl ?_
  refine R_load4 hg.ok (by show φ.length≤1; exact Nat.le_of_eq hg.hs0.len) rfl rfl rfl rfl rfl rfl rfl ?_
  refine R_run hg.ok 1000 rfl rfl ?_
  refine R_if rfl rfl (fun h=>absurd h (by simp [he])) (fun _=>?_) <;> refine R_run hg.ok 1000 rfl rfl ?_
  refine R_eqK hg.ok (sgOf t) sgC signCmp rfl rfl rfl rfl ?_
  refine R_run hg.ok 1000 rfl rfl ?_
  refine R_if rfl rfl (fun h=>absurd h (by simp [c1])) (fun _=>?_) <;> refine R_run hg.ok 1000 rfl rfl ?_
  refine R_eqK hg.ok (sgOf t) sgT signCmp rfl rfl rfl rfl ?_
  refine R_run hg.ok 1000 rfl rfl ?_
  refine R_if rfl rfl (fun h=>absurd h (by simp [c2])) (fun _=>?_) <;> refine R_run hg.ok 1000 rfl rfl ?_
  refine R_load4 hg.ok (by show φ.length≤1; exact Nat.le_of_eq hg.hs0.len) rfl rfl rfl rfl rfl rfl rfl ?_
  refine R_run hg.ok 1000 rfl rfl ?_
  rw [w64 (n:=st.1 - 1) (by omega) (by omega)]
  refine R_load4 hg.ok (by show φ.length≤1; exact Nat.le_of_eq hg.hs0.len) rfl rfl rfl rfl rfl rfl rfl ?_
  refine R_run hg.ok 1000 rfl rfl ?_
  refine R_if rfl rfl (fun h=>absurd (of_decide_eq_true h) (by omega)) (fun _=>?_) <;> refine R_run hg.ok 1000 rfl rfl ?_
  refine R_if rfl rfl (fun h=>absurd (of_decide_eq_true h) (by omega)) (fun _=>?_) <;> refine R_run hg.ok 1000 rfl rfl ?_
  refine R_eqK hg.ok (sgOf t) sgX signCmp rfl rfl rfl rfl ?_
  refine R_run hg.ok 1000 rfl rfl ?_
  refine R_if rfl rfl (fun h=>absurd h (by simp [c4])) (fun _=>?_) <;> refine R_run hg.ok 1000 rfl rfl ?_
  refine R_eqK hg.ok (sgOf t) sgO signCmp rfl rfl rfl rfl ?_
  refine R_run hg.ok 1000 rfl rfl ?_
  refine R_if rfl rfl (fun h=>absurd h (by simp [hO])) (fun _=>?_) <;> refine R_run hg.ok 1000 rfl rfl ?_
  refine R_eqK hg.ok (sgOf t) sgI signCmp rfl rfl rfl rfl ?_
  refine R_run hg.ok 1000 rfl rfl ?_
  refine R_if rfl rfl (fun h=>absurd h (by simp [hI])) (fun _=>?_) <;> refine R_run hg.ok 1000 rfl rfl ?_
  refine R_eqK hg.ok (sgOf t) sgN signCmp rfl rfl rfl rfl ?_
  refine R_run hg.ok 1000 rfl rfl ?_
  refine R_if rfl rfl (fun _=>?_) (fun h=>absurd h (by simp [c5])) <;> refine R_run hg.ok 1000 rfl rfl ?_
  refine R_load4 hg.ok (by show φ.length≤1; exact Nat.le_of_eq hg.hs0.len) rfl rfl rfl rfl rfl rfl rfl ?_
  refine R_run hg.ok 1000 rfl rfl ?_
  refine R_load4 hg.ok (by show φ.length≤1; exact Nat.le_of_eq hg.hs0.len) rfl rfl rfl rfl rfl rfl rfl ?_
  refine R_run hg.ok 1000 rfl rfl ?_
  refine R_index hg.ok rfl rfl rfl rfl rfl rfl (by decide) (Tm.rows_get (i:=0) (argT_get hl0)) rfl ?_
  refine R_run hg.ok 1000 rfl rfl ?_
  rw [w64 (n:=deep+1) (by omega) (by omega)]
  refine R_callS3 hg.ok hg.gup hg.wide hg.Y [0] (mkO A.2++golL t deep cuts) (hD) (fun _=>rfl) (fun i hi=>by show i<φ.length; have h1:φ.length=1:=hg.hs0.len; simp at hi; omega) rfl rfl rfl rfl rfl rfl rfl rfl ?_
  refine R_run hg.ok 1000 rfl rfl ?_
  refine R_callSO hg.ok hg.gup hg.wide hg.Y [0] (mkO A.2++golL t deep cuts++[.arr 8 0 (Gl.rows [.mk 5 zeroT A.1 [] []])]) (mkOne_ok Y A.2 (.mk 5 zeroT A.1 [] [])) (fun _=>rfl) rfl rfl rfl rfl rfl rfl rfl rfl ?_
  refine R_run hg.ok 1000 rfl rfl ?_
  refine R_freeze hg.gup 6 (show nth _ 6=some (Ob.arr 8 0 (Gl.rows [.mk 5 zeroT A.1 [] []])) from rfl) rfl ?_
  exact R_retS hg 1 5 (Nat.le_refl _) rfl rfl rfl
 rw [if_neg c5]
 by_cases c6:bltB (sgOf t)=true
 ·rw [if_pos c6]
  refine SCtr.of_R (pf:=pfGol) tyOk mixed Tryz.func98 rfl (by kernel_rfl) (by kernel_rfl) (by simp [Tryz.ntmps98]) (by simp [mkO]) fun w S φ hg=>?_
  refine R_run hg.ok 1000 rfl rfl ?_
  refine R_call hg.ok (signOf_ok t) rfl rfl rfl rfl rfl rfl ?_
  refine R_run hg.ok 1000 rfl rfl ?_
  refine R_if rfl rfl (fun h=>absurd h (by simp [hk])) (fun _=>?_) <;> refine R_run hg.ok 1000 rfl rfl ?_
  refine R_load4 hg.ok (by show φ.length≤1; exact Nat.le_of_eq hg.hs0.len) rfl rfl rfl rfl rfl rfl rfl ?_
  refine R_run hg.ok 1000 rfl rfl ?_
  refine R_if rfl rfl (fun h=>absurd h (by simp [he])) (fun _=>?_) <;> refine R_run hg.ok 1000 rfl rfl ?_
  refine R_eqK hg.ok (sgOf t) sgC signCmp rfl rfl rfl rfl ?_
  refine R_run hg.ok 1000 rfl rfl ?_
  refine R_if rfl rfl (fun h=>absurd h (by simp [c1])) (fun _=>?_) <;> refine R_run hg.ok 1000 rfl rfl ?_
  refine R_eqK hg.ok (sgOf t) sgT signCmp rfl rfl rfl rfl ?_
  refine R_run hg.ok 1000 rfl rfl ?_
  refine R_if rfl rfl (fun h=>absurd h (by simp [c2])) (fun _=>?_) <;> refine R_run hg.ok 1000 rfl rfl ?_
  refine R_load4 hg.ok (by show φ.length≤1; exact Nat.le_of_eq hg.hs0.len) rfl rfl rfl rfl rfl rfl rfl ?_
  refine R_run hg.ok 1000 rfl rfl ?_
  rw [w64 (n:=st.1 - 1) (by omega) (by omega)]
  refine R_load4 hg.ok (by show φ.length≤1; exact Nat.le_of_eq hg.hs0.len) rfl rfl rfl rfl rfl rfl rfl ?_
  refine R_run hg.ok 1000 rfl rfl ?_
  refine R_if rfl rfl (fun h=>absurd (of_decide_eq_true h) (by omega)) (fun _=>?_) <;> refine R_run hg.ok 1000 rfl rfl ?_
  refine R_if rfl rfl (fun h=>absurd (of_decide_eq_true h) (by omega)) (fun _=>?_) <;> refine R_run hg.ok 1000 rfl rfl ?_
  refine R_eqK hg.ok (sgOf t) sgX signCmp rfl rfl rfl rfl ?_
  refine R_run hg.ok 1000 rfl rfl ?_
  refine R_if rfl rfl (fun h=>absurd h (by simp [c4])) (fun _=>?_) <;> refine R_run hg.ok 1000 rfl rfl ?_
  refine R_eqK hg.ok (sgOf t) sgO signCmp rfl rfl rfl rfl ?_
  refine R_run hg.ok 1000 rfl rfl ?_
  refine R_if rfl rfl (fun h=>absurd h (by simp [hO])) (fun _=>?_) <;> refine R_run hg.ok 1000 rfl rfl ?_
  refine R_eqK hg.ok (sgOf t) sgI signCmp rfl rfl rfl rfl ?_
  refine R_run hg.ok 1000 rfl rfl ?_
  refine R_if rfl rfl (fun h=>absurd h (by simp [hI])) (fun _=>?_) <;> refine R_run hg.ok 1000 rfl rfl ?_
  refine R_eqK hg.ok (sgOf t) sgN signCmp rfl rfl rfl rfl ?_
  refine R_run hg.ok 1000 rfl rfl ?_
  refine R_if rfl rfl (fun h=>absurd h (by simp [c5])) (fun _=>?_) <;> refine R_run hg.ok 1000 rfl rfl ?_
  refine R_call hg.ok (builtinT_ok t) rfl rfl rfl rfl rfl rfl ?_
  refine R_run hg.ok 1000 rfl rfl ?_
  refine R_if rfl rfl (fun _=>?_) (fun h=>absurd h (by simp [c6])) <;> refine R_run hg.ok 1000 rfl rfl ?_
  refine R_load4 hg.ok (by show φ.length≤1; exact Nat.le_of_eq hg.hs0.len) rfl rfl rfl rfl rfl rfl rfl ?_
  refine R_run hg.ok 1000 rfl rfl ?_
  refine R_callSO hg.ok hg.gup hg.wide hg.Y [0] (mkO (st.1 - 1,st.2)++golL t deep cuts++[.arr 8 0 (Gl.rows [.mk 2 t [] [] []])]) (mkOne_ok Y (st.1 - 1,st.2) (.mk 2 t [] [] [])) (fun _=>rfl) rfl rfl rfl rfl rfl rfl rfl rfl ?_
  refine R_run hg.ok 1000 rfl rfl ?_
  refine R_freeze hg.gup 6 (show nth _ 6=some (Ob.arr 8 0 (Gl.rows [.mk 2 t [] [] []])) from rfl) rfl ?_
  exact R_retS hg 1 5 (Nat.le_refl _) rfl rfl rfl
 rw [if_neg c6]
 by_cases c7:ctlB (sgOf t)=true
 ·rw [if_pos c7]
  refine SCtr.of_R (pf:=pfGol) tyOk mixed Tryz.func98 rfl (by kernel_rfl) (by kernel_rfl) (by simp [Tryz.ntmps98]) (by simp [mkO]) fun w S φ hg=>?_
  refine R_run hg.ok 1000 rfl rfl ?_
  refine R_call hg.ok (signOf_ok t) rfl rfl rfl rfl rfl rfl ?_
  refine R_run hg.ok 1000 rfl rfl ?_
  refine R_if rfl rfl (fun h=>absurd h (by simp [hk])) (fun _=>?_) <;> refine R_run hg.ok 1000 rfl rfl ?_
  refine R_load4 hg.ok (by show φ.length≤1; exact Nat.le_of_eq hg.hs0.len) rfl rfl rfl rfl rfl rfl rfl ?_
  refine R_run hg.ok 1000 rfl rfl ?_
  refine R_if rfl rfl (fun h=>absurd h (by simp [he])) (fun _=>?_) <;> refine R_run hg.ok 1000 rfl rfl ?_
  refine R_eqK hg.ok (sgOf t) sgC signCmp rfl rfl rfl rfl ?_
  refine R_run hg.ok 1000 rfl rfl ?_
  refine R_if rfl rfl (fun h=>absurd h (by simp [c1])) (fun _=>?_) <;> refine R_run hg.ok 1000 rfl rfl ?_
  refine R_eqK hg.ok (sgOf t) sgT signCmp rfl rfl rfl rfl ?_
  refine R_run hg.ok 1000 rfl rfl ?_
  refine R_if rfl rfl (fun h=>absurd h (by simp [c2])) (fun _=>?_) <;> refine R_run hg.ok 1000 rfl rfl ?_
  refine R_load4 hg.ok (by show φ.length≤1; exact Nat.le_of_eq hg.hs0.len) rfl rfl rfl rfl rfl rfl rfl ?_
  refine R_run hg.ok 1000 rfl rfl ?_
  rw [w64 (n:=st.1 - 1) (by omega) (by omega)]
  refine R_load4 hg.ok (by show φ.length≤1; exact Nat.le_of_eq hg.hs0.len) rfl rfl rfl rfl rfl rfl rfl ?_
  refine R_run hg.ok 1000 rfl rfl ?_
  refine R_if rfl rfl (fun h=>absurd (of_decide_eq_true h) (by omega)) (fun _=>?_) <;> refine R_run hg.ok 1000 rfl rfl ?_
  refine R_if rfl rfl (fun h=>absurd (of_decide_eq_true h) (by omega)) (fun _=>?_) <;> refine R_run hg.ok 1000 rfl rfl ?_
  refine R_eqK hg.ok (sgOf t) sgX signCmp rfl rfl rfl rfl ?_
  refine R_run hg.ok 1000 rfl rfl ?_
  refine R_if rfl rfl (fun h=>absurd h (by simp [c4])) (fun _=>?_) <;> refine R_run hg.ok 1000 rfl rfl ?_
  refine R_eqK hg.ok (sgOf t) sgO signCmp rfl rfl rfl rfl ?_
  refine R_run hg.ok 1000 rfl rfl ?_
  refine R_if rfl rfl (fun h=>absurd h (by simp [hO])) (fun _=>?_) <;> refine R_run hg.ok 1000 rfl rfl ?_
  refine R_eqK hg.ok (sgOf t) sgI signCmp rfl rfl rfl rfl ?_
  refine R_run hg.ok 1000 rfl rfl ?_
  refine R_if rfl rfl (fun h=>absurd h (by simp [hI])) (fun _=>?_) <;> refine R_run hg.ok 1000 rfl rfl ?_
  refine R_eqK hg.ok (sgOf t) sgN signCmp rfl rfl rfl rfl ?_
  refine R_run hg.ok 1000 rfl rfl ?_
  refine R_if rfl rfl (fun h=>absurd h (by simp [c5])) (fun _=>?_) <;> refine R_run hg.ok 1000 rfl rfl ?_
  refine R_call hg.ok (builtinT_ok t) rfl rfl rfl rfl rfl rfl ?_
  refine R_run hg.ok 1000 rfl rfl ?_
  refine R_if rfl rfl (fun h=>absurd h (by simp [c6])) (fun _=>?_) <;> refine R_run hg.ok 1000 rfl rfl ?_
  refine R_call hg.ok (controlT_ok t) rfl rfl rfl rfl rfl rfl ?_
  refine R_run hg.ok 1000 rfl rfl ?_
  refine R_if rfl rfl (fun _=>?_) (fun h=>absurd h (by simp [c7])) <;> refine R_run hg.ok 1000 rfl rfl ?_
  refine R_load4 hg.ok (by show φ.length≤1; exact Nat.le_of_eq hg.hs0.len) rfl rfl rfl rfl rfl rfl rfl ?_
  refine R_run hg.ok 1000 rfl rfl ?_
  refine R_callSO hg.ok hg.gup hg.wide hg.Y [0] (mkO (failM (st.1 - 1,st.2) 5)++golL t deep cuts) (mkFail_ok Y (st.1 - 1,st.2) 5) (fun _=>rfl) rfl rfl rfl rfl rfl rfl rfl rfl ?_
  refine R_run hg.ok 1000 rfl rfl ?_
  refine R_own 8 8 rfl rfl ?_
  refine R_freeze hg.gup 6 (show nth _ 6=some (Ob.arr 8 0 (Gl.rows [])) from rfl) rfl ?_
  exact R_retS hg 1 5 (Nat.le_refl _) rfl rfl rfl
 rw [if_neg c7]
 refine SCtr.of_R (pf:=pfGol) tyOk mixed Tryz.func98 rfl (by kernel_rfl) (by kernel_rfl) (by simp [Tryz.ntmps98]) (by simp [mkO]) fun w S φ hg=>?_
 refine R_run hg.ok 1000 rfl rfl ?_
 refine R_call hg.ok (signOf_ok t) rfl rfl rfl rfl rfl rfl ?_
 refine R_run hg.ok 1000 rfl rfl ?_
 refine R_if rfl rfl (fun h=>absurd h (by simp [hk])) (fun _=>?_) <;> refine R_run hg.ok 1000 rfl rfl ?_
 refine R_load4 hg.ok (by show φ.length≤1; exact Nat.le_of_eq hg.hs0.len) rfl rfl rfl rfl rfl rfl rfl ?_
 refine R_run hg.ok 1000 rfl rfl ?_
 refine R_if rfl rfl (fun h=>absurd h (by simp [he])) (fun _=>?_) <;> refine R_run hg.ok 1000 rfl rfl ?_
 refine R_eqK hg.ok (sgOf t) sgC signCmp rfl rfl rfl rfl ?_
 refine R_run hg.ok 1000 rfl rfl ?_
 refine R_if rfl rfl (fun h=>absurd h (by simp [c1])) (fun _=>?_) <;> refine R_run hg.ok 1000 rfl rfl ?_
 refine R_eqK hg.ok (sgOf t) sgT signCmp rfl rfl rfl rfl ?_
 refine R_run hg.ok 1000 rfl rfl ?_
 refine R_if rfl rfl (fun h=>absurd h (by simp [c2])) (fun _=>?_) <;> refine R_run hg.ok 1000 rfl rfl ?_
 refine R_load4 hg.ok (by show φ.length≤1; exact Nat.le_of_eq hg.hs0.len) rfl rfl rfl rfl rfl rfl rfl ?_
 refine R_run hg.ok 1000 rfl rfl ?_
 rw [w64 (n:=st.1 - 1) (by omega) (by omega)]
 refine R_load4 hg.ok (by show φ.length≤1; exact Nat.le_of_eq hg.hs0.len) rfl rfl rfl rfl rfl rfl rfl ?_
 refine R_run hg.ok 1000 rfl rfl ?_
 refine R_if rfl rfl (fun h=>absurd (of_decide_eq_true h) (by omega)) (fun _=>?_) <;> refine R_run hg.ok 1000 rfl rfl ?_
 refine R_if rfl rfl (fun h=>absurd (of_decide_eq_true h) (by omega)) (fun _=>?_) <;> refine R_run hg.ok 1000 rfl rfl ?_
 refine R_eqK hg.ok (sgOf t) sgX signCmp rfl rfl rfl rfl ?_
 refine R_run hg.ok 1000 rfl rfl ?_
 refine R_if rfl rfl (fun h=>absurd h (by simp [c4])) (fun _=>?_) <;> refine R_run hg.ok 1000 rfl rfl ?_
 refine R_eqK hg.ok (sgOf t) sgO signCmp rfl rfl rfl rfl ?_
 refine R_run hg.ok 1000 rfl rfl ?_
 refine R_if rfl rfl (fun h=>absurd h (by simp [hO])) (fun _=>?_) <;> refine R_run hg.ok 1000 rfl rfl ?_
 refine R_eqK hg.ok (sgOf t) sgI signCmp rfl rfl rfl rfl ?_
 refine R_run hg.ok 1000 rfl rfl ?_
 refine R_if rfl rfl (fun h=>absurd h (by simp [hI])) (fun _=>?_) <;> refine R_run hg.ok 1000 rfl rfl ?_
 refine R_eqK hg.ok (sgOf t) sgN signCmp rfl rfl rfl rfl ?_
 refine R_run hg.ok 1000 rfl rfl ?_
 refine R_if rfl rfl (fun h=>absurd h (by simp [c5])) (fun _=>?_) <;> refine R_run hg.ok 1000 rfl rfl ?_
 refine R_call hg.ok (builtinT_ok t) rfl rfl rfl rfl rfl rfl ?_
 refine R_run hg.ok 1000 rfl rfl ?_
 refine R_if rfl rfl (fun h=>absurd h (by simp [c6])) (fun _=>?_) <;> refine R_run hg.ok 1000 rfl rfl ?_
 refine R_call hg.ok (controlT_ok t) rfl rfl rfl rfl rfl rfl ?_
 refine R_run hg.ok 1000 rfl rfl ?_
 refine R_if rfl rfl (fun h=>absurd h (by simp [c7])) (fun _=>?_) <;> refine R_run hg.ok 1000 rfl rfl ?_
 refine R_load4 hg.ok (by show φ.length≤1; exact Nat.le_of_eq hg.hs0.len) rfl rfl rfl rfl rfl rfl rfl ?_
 refine R_run hg.ok 1000 rfl rfl ?_
 refine R_callSO hg.ok hg.gup hg.wide hg.Y [0] (mkO (st.1 - 1,st.2)++golL t deep cuts++[.arr 8 0 (Gl.rows [.mk 1 t [] [] []])]) (mkOne_ok Y (st.1 - 1,st.2) (.mk 1 t [] [] [])) (fun _=>rfl) rfl rfl rfl rfl rfl rfl rfl rfl ?_
 refine R_run hg.ok 1000 rfl rfl ?_
 refine R_freeze hg.gup 6 (show nth _ 6=some (Ob.arr 8 0 (Gl.rows [.mk 1 t [] [] []])) from rfl) rfl ?_
 exact R_retS hg 1 5 (Nat.le_refl _) rfl rfl rfl

theorem gol_ok (Y:YP):∀ n,GolO Y n∧GolD Y n
 | 0=>⟨fun t _ _ _ _ _ h=>absurd h (by have:=Gl.tmPos t; omega),fun t _ _ _ _ _ h=>absurd h (by have:=Gl.tmPos t; omega)⟩
 | n+1=>⟨golO_step Y n (gol_ok Y n).1 (gol_ok Y n).2,golD_step Y n (gol_ok Y n).1 (gol_ok Y n).2⟩
end Go.Proofs.YtcgkgofmldhokaaGreat

namespace Go.Proofs.YtcgkgofmldhokaaGreat
open Go PSL Go.Proofs
def pfSy:Nat→Cls:=fun f=>bif Nat.beq f 4000000010 then .turn 90 else .eff

set_option maxRecDepth 100000 in
theorem boolLoad_ok (Y:YP) (S:Bs) (L:List Tk) (st:RSt) (deep dn lk:Int) (mk:Bool):SCtr Tryz.prog Y 158 [.lo 0 7] (robj S L st deep dn lk mk) (bV (dn != 0)) (robj S L st deep dn lk mk):=by
 refine SCtr.of_R (pf:=fun _=>.eff) tyOk mixed Tryz.func158 rfl (by kernel_rfl) (by kernel_rfl) (by simp [Tryz.ntmps158]) (by simp [robj]) fun w S φ hg=>?_
 refine R_run hg.ok 1000 rfl rfl ?_
 refine R_fieldZ hg.ok Tryz.underlying176 rfl (by kernel_rfl) rfl rfl rfl ?_
 refine R_run hg.ok 1000 rfl rfl ?_
 refine R_extL hg.ok atLoad rfl rfl rfl rfl rfl rfl ?_
 refine R_run hg.ok 1000 rfl rfl ?_
 exact R_retS hg 2 5 (Nat.le_refl _) rfl rfl (robj_keep _ L st deep dn lk mk 2 _ (Nat.le_refl _))

set_option maxRecDepth 100000 in
theorem boolStore_ok (Y:YP) (S:Bs) (L:List Tk) (st:RSt) (deep dn lk:Int) (mk:Bool):DCtr Tryz.prog Y 163 [.lo 0 7,bV true] (robj S L st deep dn lk mk) (.tup []) (robj S L st deep 1 lk mk):=by
 have hb:PCtr Tryz.prog 167 [bV true] (.d (.v (.int .u32 1))):=by
  refine PCtr.of_R (pf:=fun _=>.still) tyOk mixed Tryz.func167 rfl (by kernel_rfl) (by kernel_rfl) (by simp [Tryz.ntmps167]) fun w S hg=>?_
  refine R_run hg.ok 1000 rfl rfl ?_
  refine R_if rfl rfl (fun _=>?_) (fun h=>absurd h (by simp)) <;> refine R_run hg.ok 1000 rfl rfl ?_
  refine R_ret hg 5 rfl rfl ?_
  rfl
 refine DCtr.of_R (pf:=fun _=>.eff) tyOk mixed Tryz.func163 rfl (by kernel_rfl) (by kernel_rfl) (by simp [Tryz.ntmps163]) (by simp [robj]) fun w S φ hg=>?_
 refine R_run hg.ok 1000 rfl rfl ?_
 refine R_fieldZ hg.ok Tryz.underlying176 rfl (by kernel_rfl) rfl rfl rfl ?_
 refine R_run hg.ok 1000 rfl rfl ?_
 refine R_call hg.ok (hb) rfl rfl rfl rfl rfl rfl ?_
 refine R_run hg.ok 1000 rfl rfl ?_
 refine R_extW hg.ok (ys:=#[.tmp 8]) [.int .u32 1] (fun a w h hz=>atStore a _ 1 w h hz) rfl rfl rfl rfl rfl rfl rfl ?_
 refine R_run hg.ok 1000 rfl rfl ?_
 exact R_endD hg 2 5 (Nat.le_refl _) rfl rfl (robj_keep _ L st deep 1 lk mk 2 _ (Nat.le_refl _))

set_option maxRecDepth 100000 in
theorem imuLock_ok (Y:YP) (S:Bs) (L:List Tk) (st:RSt) (deep dn:Int) (mk:Bool):SCtr Tryz.prog Y 164 [.lo 0 8] (robj S L st deep dn 0 mk) (.tup []) (robj S L st deep dn 1 mk):=by
 refine SCtr.of_R (pf:=pfSy) tyOk mixed Tryz.func164 rfl (by kernel_rfl) (by kernel_rfl) (by simp [Tryz.ntmps164]) (by simp [robj]) fun w S φ hg=>?_
 refine R_run hg.ok 1000 rfl rfl ?_
 refine R_ext0 hg.ok raceOff rfl rfl rfl ?_
 refine R_run hg.ok 1000 rfl rfl ?_
 refine R_extW hg.ok (ys:=#[.const (.int .i32 0),.const (.int .i32 1)]) [.int .i32 0,.int .i32 1] (fun a w h hz=>atCas a 0 1 w h hz) rfl rfl rfl rfl rfl rfl rfl ?_
 refine R_run hg.ok 1000 rfl rfl ?_
 refine R_if rfl rfl (fun _=>?_) (fun h=>absurd h (by simp)) <;> refine R_run hg.ok 1000 rfl rfl ?_
 refine R_ext0 hg.ok raceOn rfl rfl rfl ?_
 refine R_run hg.ok 1000 rfl rfl ?_
 refine R_convU hg.ok Tryz.underlying260 Tryz.underlying264 (by kernel_rfl) rfl rfl rfl rfl rfl rfl ?_
 refine R_run hg.ok 1000 rfl rfl ?_
 refine R_extM hg.ok raceAcq rfl rfl rfl rfl ?_
 refine R_run hg.ok 1000 rfl rfl ?_
 exact R_retS hg 2 5 (Nat.le_refl _) rfl rfl (robj_keep _ L st deep dn 1 mk 2 _ (Nat.le_refl _))

set_option maxRecDepth 100000 in
theorem muLock_ok (Y:YP) (S:Bs) (L:List Tk) (st:RSt) (deep dn:Int) (mk:Bool):SCtr Tryz.prog Y 161 [.lo 0 8] (robj S L st deep dn 0 mk) (.tup []) (robj S L st deep dn 1 mk):=by
 refine SCtr.of_R (pf:=fun _=>.eff) tyOk mixed Tryz.func161 rfl (by kernel_rfl) (by kernel_rfl) (by simp [Tryz.ntmps161]) (by simp [robj]) fun w S φ hg=>?_
 refine R_run hg.ok 1000 rfl rfl ?_
 refine R_fieldZ hg.ok Tryz.underlying180 rfl (by kernel_rfl) rfl rfl rfl ?_
 refine R_run hg.ok 1000 rfl rfl ?_
 refine R_callSO hg.ok hg.gup hg.wide hg.Y [0,1] (robj _ L st deep dn 1 mk) (imuLock_ok Y _ L st deep dn mk) (fun _=>rfl) rfl rfl rfl rfl rfl (by rw [robj_ren]; rfl) rfl (by rw [robj_ren]; rfl) ?_
 refine R_run hg.ok 1000 rfl rfl ?_
 exact R_endS hg 2 5 (Nat.le_refl _) rfl rfl (robj_keep _ L st deep dn 1 mk 2 _ (Nat.le_refl _))

set_option maxRecDepth 100000 in
theorem imuUnlock_ok (Y:YP) (S:Bs) (L:List Tk) (st:RSt) (deep dn:Int) (mk:Bool):SCtr Tryz.prog Y 165 [.lo 0 8] (robj S L st deep dn 1 mk) (.tup []) (robj S L st deep dn 0 mk):=by
 refine SCtr.of_R (pf:=pfSy) tyOk mixed Tryz.func165 rfl (by kernel_rfl) (by kernel_rfl) (by simp [Tryz.ntmps165]) (by simp [robj]) fun w S φ hg=>?_
 refine R_run hg.ok 1000 rfl rfl ?_
 refine R_convU hg.ok Tryz.underlying260 Tryz.underlying264 (by kernel_rfl) rfl rfl rfl rfl rfl rfl ?_
 refine R_run hg.ok 1000 rfl rfl ?_
 refine R_extM hg.ok raceRel rfl rfl rfl rfl ?_
 refine R_run hg.ok 1000 rfl rfl ?_
 refine R_ext0 hg.ok raceOff rfl rfl rfl ?_
 refine R_run hg.ok 1000 rfl rfl ?_
 refine R_extW hg.ok (ys:=#[.const (.int .i32 (-1))]) [.int .i32 (-1)] (fun a w h hz=>atAdd a w h hz) rfl rfl rfl rfl rfl rfl rfl ?_
 refine R_run hg.ok 1000 rfl rfl ?_
 refine R_if rfl rfl (fun h=>absurd h (by simp)) (fun _=>?_) <;> refine R_run hg.ok 1000 rfl rfl ?_
 refine R_ext0 hg.ok raceOn rfl rfl rfl ?_
 refine R_run hg.ok 1000 rfl rfl ?_
 exact R_endS hg 2 5 (Nat.le_refl _) rfl rfl (robj_keep _ L st deep dn 0 mk 2 _ (Nat.le_refl _))

set_option maxRecDepth 100000 in
theorem muUnlock_ok (Y:YP) (S:Bs) (L:List Tk) (st:RSt) (deep dn:Int) (mk:Bool):DCtr Tryz.prog Y 162 [.lo 0 8] (robj S L st deep dn 1 mk) (.tup []) (robj S L st deep dn 0 mk):=by
 refine DCtr.of_R (pf:=fun _=>.eff) tyOk mixed Tryz.func162 rfl (by kernel_rfl) (by kernel_rfl) (by simp [Tryz.ntmps162]) (by simp [robj]) fun w S φ hg=>?_
 refine R_run hg.ok 1000 rfl rfl ?_
 refine R_fieldZ hg.ok Tryz.underlying180 rfl (by kernel_rfl) rfl rfl rfl ?_
 refine R_run hg.ok 1000 rfl rfl ?_
 refine R_callSO hg.ok hg.gup hg.wide hg.Y [0,1] (robj _ L st deep dn 0 mk) (imuUnlock_ok Y _ L st deep dn mk) (fun _=>rfl) rfl rfl rfl rfl rfl (by rw [robj_ren]; rfl) rfl (by rw [robj_ren]; rfl) ?_
 refine R_run hg.ok 1000 rfl rfl ?_
 exact R_endD hg 2 5 (Nat.le_refl _) rfl rfl (robj_keep _ L st deep dn 0 mk 2 _ (Nat.le_refl _))
end Go.Proofs.YtcgkgofmldhokaaGreat

namespace PSL
open Go Go.RowKit Go.MapKept

def getS:List (ByteArray × AV)→ByteArray→Option AV
 | [],_=>none
 | p::r,n=>if p.1=n then some p.2 else getS r n
def smap (l:List (ByteArray × AV)):List (Value × AV):=l.map fun p=>(.string p.1,p.2)

theorem findA_getS {n:ByteArray}:∀ {l:List (ByteArray × AV)} {i:Nat},∃ r,findA .string (.string n) (smap l) i=some r∧r.map (·.2)=getS l n
 | [],i=>⟨none,rfl,rfl⟩
 | p::l,i=>by
  obtain ⟨r0,h1,h2⟩:=sameNow_of_keys (d:=.string) (a:=.string n) (b:=.string p.1) trivial trivial
  simp only [getS]
  by_cases h:p.1=n
  ·have h3:r0=true:=h2.2 (by rw [h])
   refine ⟨some (i,p.2),?_,by simp [h]⟩
   simp only [smap,List.map_cons,findA,h1,h3]
  ·have h3:r0=false:=by
    cases r0 with
    | false=>rfl
    | true=>have:=h2.1 rfl; simp at this; exact absurd this.symm h
   obtain ⟨r,h4,h5⟩:=findA_getS (n:=n) (l:=l) (i:=i+1)
   refine ⟨r,?_,by rw [if_neg h]; exact h5⟩
   simp only [smap,List.map_cons,findA,h1,h3]
   exact h4

theorem R_mapAddS {g:G} {pf:Nat→Cls} {ops:Array Oper} {Fin:Exit→Act→World→Prop} (hg:GOk g) {dst:Option Nat} {T:Nat} {x y v:Operand} {ty:Nat} {pos:String} {after:Array Edge} {gd:Option (Nat × Bool)} {rest:List Oper} {k:List It} {E:Env} {objs:List Ob}
  {i q by_ q' by' kt et:Nat} {z z':List Value} {n:ByteArray} {av:AV} (l l':List (ByteArray × AV))
  (hgd:guardA ops.toList E gd=some true) (hd:dstOk ⟨g.ty,g.N⟩ dst=true) (hx:ev E x=.mp i) (ho:nth objs i=some (.map (smap l))) (hy:ev E y=.d (.v (.string n))) (hT:g.ty T=some ⟨q,by_,z,.map kt et⟩)
  (hkt:g.ty kt=some ⟨q',by',z',.str⟩) (hf:getS l n=none) (hav:ev E v=av) (hl:l++[(n,av)]=l')
  (hr:R g pf Fin (.dr ops rest::k) (putO E dst .any) (setN objs i (.map (smap l')))):R g pf Fin (.dr ops (⟨dst,.mapUpdate T x y v,ty,pos,after,gd⟩::rest)::k) E objs:=by
 subst hl; subst hav
 have hu:=(hg.ty _ _ hkt).sh
 simp only [ShFact] at hu
 obtain ⟨r,h1,h2⟩:=findA_getS (n:=n) (l:=l) (i:=0)
 have:r=none:=by rw [hf] at h2; cases r with
  | none=>rfl
  | some _=>simp at h2
 subst this
 refine R_mapAdd hg hgd hd hx ho hy hT hu (by simp [IsKey]) h1 ?_
 have e:smap l++[(Value.string n,ev E v)]=smap (l++[(n,ev E v)]):=by simp [smap]
 rw [e]; exact hr

theorem R_insert {g:G} {pf:Nat→Cls} {ops:Array Oper} {Fin:Exit→Act→World→Prop} (hg:GOk g) {dst:Option Nat} {T:Nat} {x y v:Operand} {ty:Nat} {pos:String} {after:Array Edge} {gd:Option (Nat × Bool)} {rest:List Oper} {k:List It} {E:Env} {objs:List Ob}
  {i q by_ kt et:Nat} {z:List Value} {es:List (Value × AV)} {kv:Value} {kd:TypeDesc}
  (hgd:guardA ops.toList E gd=some true) (hd:dstOk ⟨g.ty,g.N⟩ dst=true) (hx:ev E x=.mp i) (ho:nth objs i=some (.map es)) (hy:ev E y=.d (.v kv)) (hT:g.ty T=some ⟨q,by_,z,.map kt et⟩)
  (hkt:g.P.underlying kt=some kd) (hkey:IsKey kd kv) (hf:findA kd kv es 0=some none)
  (hr:R g pf Fin (.dr ops rest::k) (putO E dst .any) (setN objs i (.map (es++[(kv,ev E v)])))):R g pf Fin (.dr ops (⟨dst,.insert T x y v,ty,pos,after,gd⟩::rest)::k) E objs:=by
 refine R_op (LocOp.turning hg (grow_map ho) hgd hd (by simp) fun φ a w hρ hs=>?_) hr
 simp only [Op.operands] at hρ
 have hxv:=hρ x (by simp)
 rw [hx] at hxv
 have hyv:=hρ y (by simp)
 rw [hy] at hyv
 have hvv:=hρ v (by simp)
 simp only [RV] at hxv hyv
 obtain ⟨b,hb,hxv⟩:=hxv
 generalize hvy:a.eval y=vy at hyv
 cases hyv
 have hk:=obj_at hs hb ho
 simp only [ObOk] at hk
 obtain ⟨ents,clk,hheap,hents⟩:=hk
 have hT':g.P.underlying T=some (.map kt et):=by have:=(hg.ty _ _ hT).sh; simpa only [ShFact] using this
 have hfind:=findA_ok hents hf
 simp only at hfind
 have hset:=heap_set (o':=.map (ents.push { key:=kv,val:=a.eval v,born:=clk }) (clk+1)) hheap
 rw [setN_eq]
 refine ⟨.skip,undef,{ w with heap:=w.heap.setIfInBounds b (.map (ents.push { key:=kv,val:=a.eval v,born:=clk }) (clk+1)) },φ.set i (.blk b),?_,.inr ⟨rfl,rfl⟩,by simp [RV],?_⟩
 ·simp [execOp,Instr.mapUpdate,run_underlying hT',hxv,run_getObj_map hheap,hvy,run_checkKey hkt hkey,run_findKey hkt hfind,run_setObj_map _ hheap]
 ·refine Stp.swap hs hb (.inl rfl) (by simp) (fun c _ hc=>hset.2 c fun e=>hc (by rw [e]; rfl)) (fun b' hb=>.inl hb) rfl rfl rfl fun hkeep hle=>?_
  simp only [ObOk]
  refine ⟨_,_,hset.1,?_,?_⟩
  ·simp [hents.1]
  ·have:=(hents.2.mono hkeep hle).append (l':=[ev E v]) (vs':=[a.eval v]) (by simp only [RVs,and_true]; exact hvv.mono hkeep hle)
   simpa using this

theorem R_insertS {g:G} {pf:Nat→Cls} {ops:Array Oper} {Fin:Exit→Act→World→Prop} (hg:GOk g) {dst:Option Nat} {T:Nat} {x y v:Operand} {ty:Nat} {pos:String} {after:Array Edge} {gd:Option (Nat × Bool)} {rest:List Oper} {k:List It} {E:Env} {objs:List Ob}
  {i q by_ q' by' kt et:Nat} {z z':List Value} {n:ByteArray} {av:AV} (l l':List (ByteArray × AV))
  (hgd:guardA ops.toList E gd=some true) (hd:dstOk ⟨g.ty,g.N⟩ dst=true) (hx:ev E x=.mp i) (ho:nth objs i=some (.map (smap l))) (hy:ev E y=.d (.v (.string n))) (hT:g.ty T=some ⟨q,by_,z,.map kt et⟩)
  (hkt:g.ty kt=some ⟨q',by',z',.str⟩) (hf:getS l n=none) (hav:ev E v=av) (hl:l++[(n,av)]=l')
  (hr:R g pf Fin (.dr ops rest::k) (putO E dst .any) (setN objs i (.map (smap l')))):R g pf Fin (.dr ops (⟨dst,.insert T x y v,ty,pos,after,gd⟩::rest)::k) E objs:=by
 subst hl; subst hav
 have hu:=(hg.ty _ _ hkt).sh
 simp only [ShFact] at hu
 obtain ⟨r,h1,h2⟩:=findA_getS (n:=n) (l:=l) (i:=0)
 have:r=none:=by rw [hf] at h2; cases r with
  | none=>rfl
  | some _=>simp at h2
 subst this
 refine R_insert hg hgd hd hx ho hy hT hu (by simp [IsKey]) h1 ?_
 have e:smap l++[(Value.string n,ev E v)]=smap (l++[(n,ev E v)]):=by simp [smap]
 rw [e]; exact hr
def inR (x:Int):Bool:=decide (-9223372036854775808≤x)&&decide (x≤9223372036854775807)
def chk (x:Int):Int × Bool:=if inR x then (x,true) else (0,false)
namespace Tm
theorem Fit.sub {t x:Tm} (h:t.Fit) (hx:x∈t.l):x.Fit:=fun d e he=>h (d - 1) e (by rw [els_eq]; exact List.mem_cons_of_mem _ (els_memL hx (by rw [Int.sub_add_cancel]; exact he)))
end Tm
end PSL
namespace PSL
open Go
end PSL
namespace PSL
open Go Go.RowKit
end PSL
namespace PSL
open Go Go.RowKit
end PSL

namespace Go.Proofs.YtcgkgofmldhokaaGreat
open Go PSL Go.Proofs

theorem opV_ent (a b c:Int):Ent (.agg [iV a,iV b,iV c]) (.d (.v (opV (a,b,c)))):=fun S w φ v h=>by
 simp only [RV,RVs] at h ⊢
 obtain ⟨cs,rfl,h⟩:=h
 match cs,h with
 | [x,y,z],h =>
  simp only [RVs,iV] at h
  rw [rv_const h.1,rv_const h.2.1,rv_const h.2.2.1]
  exact .v _
 | [],h=>simp [RVs] at h
 | [_],h=>simp [RVs] at h
 | [_,_],h=>simp [RVs] at h
 | _::_::_::_::_,h=>simp [RVs] at h
def tS (l:List (Bs × Int × Int × Int)):List (ByteArray × AV):=l.map fun p=>(Tx p.1,.d (.v (opV p.2)))
def tab0:List (Bs × Int × Int × Int):=opTab.take 4
def tab1 (k:Nat):List (Bs × Int × Int × Int):=tab0++(op700.take k).map fun s=>(s,700,699,699)
def tab2 (k:Nat):List (Bs × Int × Int × Int):=tab1 15++(op500.take k).map fun s=>(s,500,500,499)
def tab3 (k:Nat):List (Bs × Int × Int × Int):=tab2 2++(op400.take k).map fun s=>(s,400,400,399)

theorem tS_none (l:List (Bs × Int × Int × Int)) (s:Bs) (h:(l.map (·.1)).contains s=false):getS (tS l) (Tx s)=none:=by
 induction l with
 | nil=>rfl
 | cons p l ih =>
  simp only [List.map_cons,List.contains_cons,Bool.or_eq_false_iff] at h
  simp only [tS,List.map_cons,getS]
  rw [if_neg (fun e=>by rw [Tx_inj e] at h; simp at h)]
  exact ih h.2
theorem tab_new:((List.range 15).all fun k=>!((tab1 k).map (·.1)).contains (op700.getD k []))=true∧((List.range 2).all fun k=>!((tab2 k).map (·.1)).contains (op500.getD k []))=true∧((List.range 3).all fun k=>!((tab3 k).map (·.1)).contains (op400.getD k []))=true:=by decide +kernel
theorem new1 {k:Nat} (h:k<15):getS (tS (tab1 k)) (Tx (op700.getD k []))=none:=tS_none _ _ (by have:=List.all_eq_true.1 tab_new.1 k (by simpa using h); simpa using this)
theorem new2 {k:Nat} (h:k<2):getS (tS (tab2 k)) (Tx (op500.getD k []))=none:=tS_none _ _ (by have:=List.all_eq_true.1 tab_new.2.1 k (by simpa using h); simpa using this)
theorem new3 {k:Nat} (h:k<3):getS (tS (tab3 k)) (Tx (op400.getD k []))=none:=tS_none _ _ (by have:=List.all_eq_true.1 tab_new.2.2 k (by simpa using h); simpa using this)
theorem getD_some {l:List Bs} {k:Nat} (h:k<l.length):l[k]? = some (l.getD k []):=by simp [List.getD,List.getElem?_eq_getElem h]

theorem tab1_snoc {k:Nat} (h:k<15):tS (tab1 k)++[(Tx (op700.getD k []),.d (.v (opV (700,699,699))))]=tS (tab1 (k+1)):=by
 unfold tab1
 rw [List.take_add_one,getD_some (l:=op700) h]
 simp [tS]

theorem tab2_snoc {k:Nat} (h:k<2):tS (tab2 k)++[(Tx (op500.getD k []),.d (.v (opV (500,500,499))))]=tS (tab2 (k+1)):=by
 unfold tab2
 rw [List.take_add_one,getD_some (l:=op500) h]
 simp [tS]

theorem tab3_snoc {k:Nat} (h:k<3):tS (tab3 k)++[(Tx (op400.getD k []),.d (.v (opV (400,400,399))))]=tS (tab3 (k+1)):=by
 unfold tab3
 rw [List.take_add_one,getD_some (l:=op400) h]
 simp [tS]

def rlay (S:Bs) (L:List Tk) (st:RSt) (deep dn lk:Int) (l:List (Bs × Int × Int × Int)):List Ob :=
 [.box [.d (.v (.string (Tx S))),.d (.sl (tkRows L)),iV st.at_,.ow 1 st.names.length,iV deep,iV st.bad,iV st.e,.d (.v (.int .u32 dn)),.d (.v (.int .i32 lk)),.d (.v (.int .u32 0)),.mp 3],.arr 1 st.names.length (strRows st.names),.box [.lo 0 7],.map (smap (tS l))]

set_option maxRecDepth 100000 in
theorem table_ok (Y:YP) (S0:Bs) (L:List Tk) (st:RSt) (deep dn lk:Int):SCtr Tryz.prog Y 157 [.lo 2 0] (robj S0 L st deep dn lk false++[.box [.lo 0 7]]) (.tup []) (robj S0 L st deep dn lk true++[.box [.lo 0 7]]):=by
 refine SCtr.of_R (pf:=fun _=>.eff) tyOk mixed Tryz.func157 rfl (by kernel_rfl) (by kernel_rfl) (by simp [Tryz.ntmps157]) (by simp [robj]) fun w S φ hg=>?_
 refine R_run hg.ok 1000 rfl rfl ?_
 refine R_makeMap hg.ok rfl rfl ?_
 refine R_run hg.ok 1000 rfl rfl ?_
 refine R_see 9 rfl (opV_ent 1200 1199 1199) ?_
 refine R_insertS hg.ok [] (tS (opTab.take 1)) rfl rfl rfl rfl rfl rfl rfl rfl rfl rfl ?_
 refine R_run hg.ok 1000 rfl rfl ?_
 refine R_see 10 rfl (opV_ent 1100 1099 1100) ?_
 refine R_insertS hg.ok (tS (opTab.take 1)) (tS (opTab.take 2)) rfl rfl rfl rfl rfl rfl rfl (tS_none _ _ (by decide)) rfl rfl ?_
 refine R_run hg.ok 1000 rfl rfl ?_
 refine R_see 11 rfl (opV_ent 1050 1049 1050) ?_
 refine R_insertS hg.ok (tS (opTab.take 2)) (tS (opTab.take 3)) rfl rfl rfl rfl rfl rfl rfl (tS_none _ _ (by decide)) rfl rfl ?_
 refine R_run hg.ok 1000 rfl rfl ?_
 refine R_see 12 rfl (opV_ent 1000 999 1000) ?_
 refine R_insertS hg.ok (tS (opTab.take 3)) (tS tab0) rfl rfl rfl rfl rfl rfl rfl (tS_none _ _ (by decide)) rfl rfl ?_
 refine R_run hg.ok 1000 rfl rfl ?_
 refine R_cut2 (fun _:Unit=>([(0,.lo 2 0)],rlay S0 L st deep dn lk (tab1 15))) (fun _=>True) rfl ?_ ?_
 ·refine R_loop (fun k:Nat=>([(0,.lo 2 0),(16,.d (.sl (strRows op700))),(17,iV (15:Nat)),(18,iV k)],rlay S0 L st deep dn lk (tab1 k))) (fun k=>k≤15) (fun k=>15 - k) 0 (Nat.zero_le _) ⟨.refl _,Ent.fs _,.refl _,.refl _,trivial⟩ rfl ?_
  intro k hk
  refine R_run hg.ok 1000 rfl rfl ?_
  refine R_if rfl rfl (fun h=>?_) (fun h=>?_) <;> refine R_run hg.ok 1000 rfl rfl ?_
  ·have hk1:k<15:=lt_dec h rfl
   refine R_index hg.ok rfl rfl rfl rfl rfl rfl (Int.natCast_nonneg _) (strRows_get (getD_some (l:=op700) hk1)) rfl ?_
   refine R_run hg.ok 1000 rfl rfl ?_
   refine R_see 27 rfl (opV_ent 700 699 699) ?_
   refine R_mapAddS hg.ok (tS (tab1 k)) (tS (tab1 (k+1))) rfl rfl rfl rfl rfl rfl rfl (new1 hk1) rfl (tab1_snoc hk1) ?_
   refine R_run hg.ok 1000 rfl rfl ?_
   exact R_next (k+1) hk1 (by omega) ⟨.refl _,.refl _,.refl _,Ent.wrap (by omega) (by omega) (by omega),trivial⟩ rfl
  ·have hk1:15≤k:=ge_dec h rfl
   obtain rfl:k=15:=by omega
   exact R_to () trivial ⟨.refl _,trivial⟩ rfl
 rintro _ _
 refine R_run hg.ok 1000 rfl rfl ?_
 refine R_cut2 (fun _:Unit=>([(0,.lo 2 0)],rlay S0 L st deep dn lk (tab2 2))) (fun _=>True) rfl ?_ ?_
 ·refine R_loop (fun k:Nat=>([(0,.lo 2 0),(29,.d (.sl (strRows op500))),(30,iV (2:Nat)),(31,iV k)],rlay S0 L st deep dn lk (tab2 k))) (fun k=>k≤2) (fun k=>2 - k) 0 (Nat.zero_le _) ⟨.refl _,Ent.fs _,.refl _,.refl _,trivial⟩ rfl ?_
  intro k hk
  refine R_run hg.ok 1000 rfl rfl ?_
  refine R_if rfl rfl (fun h=>?_) (fun h=>?_) <;> refine R_run hg.ok 1000 rfl rfl ?_
  ·have hk1:k<2:=lt_dec h rfl
   refine R_index hg.ok rfl rfl rfl rfl rfl rfl (Int.natCast_nonneg _) (strRows_get (getD_some (l:=op500) hk1)) rfl ?_
   refine R_run hg.ok 1000 rfl rfl ?_
   refine R_see 40 rfl (opV_ent 500 500 499) ?_
   refine R_mapAddS hg.ok (tS (tab2 k)) (tS (tab2 (k+1))) rfl rfl rfl rfl rfl rfl rfl (new2 hk1) rfl (tab2_snoc hk1) ?_
   refine R_run hg.ok 1000 rfl rfl ?_
   exact R_next (k+1) hk1 (by omega) ⟨.refl _,.refl _,.refl _,Ent.wrap (by omega) (by omega) (by omega),trivial⟩ rfl
  ·have hk1:2≤k:=ge_dec h rfl
   obtain rfl:k=2:=by omega
   exact R_to () trivial ⟨.refl _,trivial⟩ rfl
 rintro _ _
 refine R_run hg.ok 1000 rfl rfl ?_
 refine R_cut2 (fun _:Unit=>([(0,.lo 2 0)],rlay S0 L st deep dn lk (tab3 3))) (fun _=>True) rfl ?_ ?_
 ·refine R_loop (fun k:Nat=>([(0,.lo 2 0),(42,.d (.sl (strRows op400))),(43,iV (3:Nat)),(44,iV k)],rlay S0 L st deep dn lk (tab3 k))) (fun k=>k≤3) (fun k=>3 - k) 0 (Nat.zero_le _) ⟨.refl _,Ent.fs _,.refl _,.refl _,trivial⟩ rfl ?_
  intro k hk
  refine R_run hg.ok 1000 rfl rfl ?_
  refine R_if rfl rfl (fun h=>?_) (fun h=>?_) <;> refine R_run hg.ok 1000 rfl rfl ?_
  ·have hk1:k<3:=lt_dec h rfl
   refine R_index hg.ok rfl rfl rfl rfl rfl rfl (Int.natCast_nonneg _) (strRows_get (getD_some (l:=op400) hk1)) rfl ?_
   refine R_run hg.ok 1000 rfl rfl ?_
   refine R_see 53 rfl (opV_ent 400 400 399) ?_
   refine R_mapAddS hg.ok (tS (tab3 k)) (tS (tab3 (k+1))) rfl rfl rfl rfl rfl rfl rfl (new3 hk1) rfl (tab3_snoc hk1) ?_
   refine R_run hg.ok 1000 rfl rfl ?_
   exact R_next (k+1) hk1 (by omega) ⟨.refl _,.refl _,.refl _,Ent.wrap (by omega) (by omega) (by omega),trivial⟩ rfl
  ·have hk1:3≤k:=ge_dec h rfl
   obtain rfl:k=3:=by omega
   exact R_to () trivial ⟨.refl _,trivial⟩ rfl
 rintro _ _
 have hφ:φ.length=3:=hg.hs0.len
 refine R_freezeM hg.gup 3 tabD (by show φ.length≤3; omega) rfl rfl ?_
 refine R_dropO 3 (robj S0 L st deep dn lk true++[.box [.lo 0 7]]) (by show φ.length≤3; omega) rfl rfl ?_
 exact R_endS hg 3 5 (Nat.le_refl _) rfl rfl (by
  rw [show (List.take 3 (robj S0 L st deep dn lk true++[Ob.box [.lo 0 7]]))=robj S0 L st deep dn lk true++[Ob.box [.lo 0 7]] from rfl,List.map_append,robj_keep S0 L st deep dn lk true 3 _ (by decide)]; rfl)
end Go.Proofs.YtcgkgofmldhokaaGreat

namespace Go.Proofs.YtcgkgofmldhokaaGreat
open Go PSL Go.Proofs

def rob2 (S:Bs) (L:List Tk) (st:RSt) (deep dn lk:Int) (mk:Bool):List Ob:=robj S L st deep dn lk mk++[.box [.lo 0 7]]

theorem rob2_keep (S:Bs) (L:List Tk) (st:RSt) (deep dn lk:Int) (mk:Bool) (o:List Ob):(rob2 S L st deep dn lk mk).map (mapOb (sealT false 3 o 5))=rob2 S L st deep dn lk mk:=by
 unfold rob2
 rw [List.map_append,robj_keep S L st deep dn lk mk 3 _ (by decide)]; rfl

theorem rob2_ren (S:Bs) (L:List Tk) (st:RSt) (deep dn lk:Int) (mk:Bool) (n:Nat):(rob2 S L st deep dn lk mk).map (renOb (rn [0,1,2] n))=rob2 S L st deep dn lk mk:=by
 unfold rob2
 rw [List.map_append,robj_ren]; rfl
theorem rob2_ren' (S:Bs) (L:List Tk) (st:RSt) (deep dn lk:Int) (mk:Bool) (n:Nat):(robj S L st deep dn lk mk++[Ob.box [.lo 0 7]]).map (renOb (rn [0,1,2] n))=rob2 S L st deep dn lk mk:=rob2_ren S L st deep dn lk mk n

set_option maxRecDepth 100000 in
theorem onceSlow_ok (Y:YP) (S0:Bs) (L:List Tk) (st:RSt) (deep:Int):SCtr Tryz.prog Y 159 [.lo 0 7,.clo 157 [] [.lo 2 0]] (rob2 S0 L st deep 0 0 false) (.tup []) (rob2 S0 L st deep 1 0 true):=by
 refine SCtr.of_RD (pf:=fun _=>.eff) tyOk mixed Tryz.func159 rfl (by kernel_rfl) (by kernel_rfl) (by simp [Tryz.ntmps159]) (by simp [rob2,robj]) fun w S φ hg=>?_
 refine R_run hg.ok 1000 rfl rfl ?_
 refine R_fieldZ hg.ok Tryz.underlying182 rfl (by kernel_rfl) rfl rfl rfl ?_
 refine R_run hg.ok 1000 rfl rfl ?_
 refine R_callSO hg.ok hg.gup hg.wide hg.Y [0,1] (rob2 S0 L st deep 0 1 false) (muLock_ok Y S0 L st deep 0 false) (fun _=>rfl) rfl rfl rfl rfl rfl (by rw [robj_ren]; rfl) rfl (by rw [robj_ren]; rfl) ?_
 first
 | (refine R_run hg.ok 1 rfl rfl ?_; refine R_defer hg.ok rfl hg.wide 3 rfl ?_)
 | (refine R_run hg.ok 2 rfl rfl ?_; refine R_defer hg.ok rfl hg.wide 3 rfl ?_)
 | (refine R_run hg.ok 3 rfl rfl ?_; refine R_defer hg.ok rfl hg.wide 3 rfl ?_)
 | (refine R_run hg.ok 4 rfl rfl ?_; refine R_defer hg.ok rfl hg.wide 3 rfl ?_)
 refine R_run hg.ok 1000 rfl rfl ?_
 refine R_fieldZ hg.ok Tryz.underlying182 rfl (by kernel_rfl) rfl rfl rfl ?_
 refine R_run hg.ok 1000 rfl rfl ?_
 refine R_mark ⟨_,_,_,rfl,?_⟩
 have hg1:=hg.sw [(162,[.lo 0 8],[])]
 refine R_run hg1.ok 1000 rfl rfl ?_
 refine R_fieldZ hg1.ok Tryz.underlying182 rfl (by kernel_rfl) rfl rfl rfl ?_
 refine R_run hg1.ok 1000 rfl rfl ?_
 refine R_callSO hg1.ok hg1.gup hg1.wide hg1.Y [0,1] (rob2 S0 L st deep 0 1 false) (boolLoad_ok Y S0 L st deep 0 1 false) (fun _=>rfl) rfl rfl rfl rfl rfl (by rw [robj_ren]; rfl) rfl (by rw [robj_ren]; rfl) ?_
 refine R_run hg1.ok 1000 rfl rfl ?_
 refine R_if rfl rfl (fun _=>?_) (fun h=>absurd h (by simp))
 first
 | refine R_defer hg1.ok rfl hg1.wide 3 rfl ?_
 | (refine R_run hg1.ok 1 rfl rfl ?_; refine R_defer hg1.ok rfl hg1.wide 3 rfl ?_)
 | (refine R_run hg1.ok 2 rfl rfl ?_; refine R_defer hg1.ok rfl hg1.wide 3 rfl ?_)
 refine R_run hg1.ok 1000 rfl rfl ?_
 refine R_fieldZ hg1.ok Tryz.underlying182 rfl (by kernel_rfl) rfl rfl rfl ?_
 refine R_run hg1.ok 1000 rfl rfl ?_
 refine R_mark ⟨_,_,_,rfl,?_⟩
 have hg2:=hg1.sw [(163,[.lo 0 7,.tt],[]),(162,[.lo 0 8],[])]
 refine R_run hg2.ok 1000 rfl rfl ?_
 refine R_callSO hg2.ok hg2.gup hg2.wide hg2.Y [0,1,2] (rob2 S0 L st deep 0 1 true) (table_ok Y S0 L st deep 0 1) (fun _=>rfl) rfl rfl rfl rfl rfl (by rw [rob2_ren' S0 L st deep 0 1 false]; rfl) rfl (by rw [rob2_ren' S0 L st deep 0 1 true]; rfl) ?_
 refine R_run hg2.ok 1000 rfl rfl ?_
 refine R_endL ?_
 refine Lv.cons hg [0,1] (objs':=rob2 S0 L st deep 1 1 true) (boolStore_ok Y S0 L st deep 0 1 true) (fun _=>rfl) rfl (by rw [robj_ren]; rfl) rfl (by rw [robj_ren]; rfl) ?_
 refine Lv.cons hg [0,1] (objs':=rob2 S0 L st deep 1 0 true) (muUnlock_ok Y S0 L st deep 1 true) (fun _=>rfl) rfl (by rw [robj_ren]; rfl) rfl (by rw [robj_ren]; rfl) ?_
 exact Lv.nil hg 3 5 (by simp [rob2,robj]) rfl rfl (rob2_keep S0 L st deep 1 0 true _)
end Go.Proofs.YtcgkgofmldhokaaGreat

namespace PSL
open Go Go.RowKit Go.MapKept

theorem R_lookupDS {g:G} {pf:Nat→Cls} {ops:Array Oper} {Fin:Exit→Act→World→Prop} (hg:GOk g) {dst:Option Nat} {T:Nat} {x y:Operand} {ok:Bool} {ty:Nat} {pos:String} {after:Array Edge} {gd:Option (Nat × Bool)} {rest:List Oper} {k:List It} {E:Env} {objs:List Ob}
  {q by_ q' by' kt et:Nat} {z z':List Value} {n:ByteArray} {zv:Value} {ds:List (Value × D)} (l:List (ByteArray × AV)) (hl:ds.map (fun p=>(p.1,AV.d p.2))=smap l)
  (hgd:guardA ops.toList E gd=some true) (hd:dstOk ⟨g.ty,g.N⟩ dst=true) (hx:ev E x=.d (.map ds)) (hy:ev E y=.d (.v (.string n))) (hT:g.ty T=some ⟨q,by_,z,.map kt et⟩)
  (hkt:g.ty kt=some ⟨q',by',z',.str⟩) (hz:(g.P.info? et).bind (·.zero)=some zv) {v:AV} (hv:lookI' ok (cstV zv) (getS l n)=v)
  (hr:R g pf Fin (.dr ops rest::k) (putO E dst v) objs):R g pf Fin (.dr ops (⟨dst,.lookup T x y ok,ty,pos,after,gd⟩::rest)::k) E objs:=by
 subst hv
 have hu:=(hg.ty _ _ hkt).sh
 simp only [ShFact] at hu
 obtain ⟨r,h1,h2⟩:=findA_getS (n:=n) (l:=l) (i:=0)
 refine R_lookupD hg hgd hd hx hy hT hu (by simp [IsKey]) (by rw [hl]; exact h1) hz ?_
 have:lookA ok (cstV zv) r=lookI' ok (cstV zv) (getS l n):=by rw [← h2]; cases r <;> rfl
 rw [this]; exact hr
end PSL

namespace Go.Proofs.YtcgkgofmldhokaaGreat
open Go PSL Go.Proofs

def rdO (S:Bs) (L:List Tk) (st:RSt) (deep:Int) (mk:Bool):List Ob:=robj S L st deep (if mk then 1 else 0) 0 mk
theorem rdO_keep (S:Bs) (L:List Tk) (st:RSt) (deep:Int) (mk:Bool) (n0:Nat) (o:List Ob) (hn:2≤n0):(rdO S L st deep mk).map (mapOb (sealT false n0 o 5))=rdO S L st deep mk:=robj_keep _ _ _ _ _ _ _ _ _ hn
theorem rdO_ren (S:Bs) (L:List Tk) (st:RSt) (deep:Int) (mk:Bool) (n:Nat) (l:List Nat):(rdO S L st deep mk).map (renOb (rn (0::1::l) n))=rdO S L st deep mk:=robj_ren _ _ _ _ _ _ _ _ _ _ _

set_option maxRecDepth 100000 in
theorem onceDo_ok (Y:YP) (S0:Bs) (L:List Tk) (st:RSt) (deep:Int) (mk:Bool):SCtr Tryz.prog Y 156 [.lo 0 7,.clo 157 [] [.lo 2 0]] (rdO S0 L st deep mk++[.box [.lo 0 7]]) (.tup []) (rdO S0 L st deep true++[.box [.lo 0 7]]):=by
 refine SCtr.of_R (pf:=fun _=>.eff) tyOk mixed Tryz.func156 rfl (by kernel_rfl) (by kernel_rfl) (by simp [Tryz.ntmps156]) (by simp [rdO,robj]) fun w S φ hg=>?_
 refine R_run hg.ok 1000 rfl rfl ?_
 refine R_fieldZ hg.ok Tryz.underlying182 rfl (by kernel_rfl) rfl rfl rfl ?_
 refine R_run hg.ok 1000 rfl rfl ?_
 cases mk with
 | false =>
  refine R_callSO hg.ok hg.gup hg.wide hg.Y [0,1] (rob2 S0 L st deep 0 0 false) (boolLoad_ok Y S0 L st deep 0 0 false) (fun _=>rfl) rfl rfl rfl rfl rfl (by rw [robj_ren]; rfl) rfl (by rw [robj_ren]; rfl) ?_
  refine R_run hg.ok 1000 rfl rfl ?_
  refine R_if rfl rfl (fun _=>?_) (fun h=>absurd h (by simp)) <;> refine R_run hg.ok 1000 rfl rfl ?_
  refine R_callSO hg.ok hg.gup hg.wide hg.Y [0,1,2] (rob2 S0 L st deep 1 0 true) (onceSlow_ok Y S0 L st deep) (fun _=>rfl) rfl rfl rfl rfl rfl (by rw [rob2_ren]; rfl) rfl (by rw [rob2_ren]; rfl) ?_
  refine R_run hg.ok 1000 rfl rfl ?_
  exact R_endS hg 3 5 (Nat.le_refl _) rfl rfl (rob2_keep S0 L st deep 1 0 true _)
 | true =>
  refine R_callSO hg.ok hg.gup hg.wide hg.Y [0,1] (rob2 S0 L st deep 1 0 true) (boolLoad_ok Y S0 L st deep 1 0 true) (fun _=>rfl) rfl rfl rfl rfl rfl (by rw [robj_ren]; rfl) rfl (by rw [robj_ren]; rfl) ?_
  refine R_run hg.ok 1000 rfl rfl ?_
  refine R_if rfl rfl (fun h=>absurd h (by simp)) (fun _=>?_) <;> refine R_run hg.ok 1000 rfl rfl ?_
  exact R_endS hg 3 5 (Nat.le_refl _) rfl rfl (rob2_keep S0 L st deep 1 0 true _)

theorem rdO_ren2 (S:Bs) (L:List Tk) (st:RSt) (deep:Int) (mk:Bool) (n:Nat):(rdO S L st deep mk++[Ob.box [.lo 0 7]]).map (renOb (rn [0,1,2] n))=rdO S L st deep mk++[Ob.box [.lo 0 7]]:=by
 rw [List.map_append,rdO_ren]; rfl

def infA (x:Option (Int × Int × Int)):AV:=match x with
 | some x=>.tup [.agg [iV x.1,iV x.2.1,iV x.2.2],bV true]
 | none=>.tup [.agg [iV 0,iV 0,iV 0],bV false]

theorem opV_ent2 (x:Int × Int × Int):Ent (.d (.v (opV x))) (.agg [iV x.1,iV x.2.1,iV x.2.2]):=fun S w φ v h=>by
 rw [rv_const h]
 simp only [RV,RVs,iV,opV]
 exact ⟨[.int .i64 x.1,.int .i64 x.2.1,.int .i64 x.2.2],rfl,.v _,.v _,.v _,trivial⟩

theorem getS_inf (s:Bs):getS (tS opTab) (Tx s)=(infT s).map fun x=>AV.d (.v (opV x)):=by
 unfold infT
 generalize opTab=l
 induction l with
 | nil=>rfl
 | cons p l ih =>
  obtain ⟨a,x⟩:=p
  simp only [tS,List.map_cons,getS,List.lookup]
  by_cases h:s=a
  ·subst h; simp
  ·rw [if_neg (fun e=>h (Tx_inj e).symm),show (s==a)=false by simpa using h]
   exact ih

set_option maxRecDepth 100000 in
theorem infix_ok (Y:YP) (S0:Bs) (L:List Tk) (st:RSt) (deep:Int) (mk:Bool) (s:Bs):SCtr Tryz.prog Y 151 [.lo 0 7,.d (.v (.string (Tx s)))] (rdO S0 L st deep mk) (infA (infT s)) (rdO S0 L st deep true):=by
 refine SCtr.of_R (pf:=fun _=>.eff) tyOk mixed Tryz.func151 rfl (by kernel_rfl) (by kernel_rfl) (by simp [Tryz.ntmps151]) (by simp [rdO,robj]) fun w S φ hg=>?_
 refine R_run hg.ok 1000 rfl rfl ?_
 refine R_callSO hg.ok hg.gup hg.wide hg.Y [0,1,2] (rdO S0 L st deep true++[.box [.lo 0 7],.box [iV 0,iV 0,iV 0]]) (onceDo_ok Y S0 L st deep mk) (fun _=>rfl) rfl rfl rfl rfl rfl (by rw [rdO_ren2]; rfl) rfl (by rw [rdO_ren2]; rfl) ?_
 refine R_run hg.ok 1000 rfl rfl ?_
 have hk:∀ o:List Ob,(rdO S0 L st deep true).map (mapOb (sealT false 2 o 5))=rdO S0 L st deep true:=fun o=>rdO_keep _ _ _ _ _ _ _ (Nat.le_refl _)
 cases hx:infT s with
 | none =>
  refine R_lookupDS hg.ok (tS opTab) rfl rfl rfl rfl rfl rfl rfl (zv:=.agg #[.int .i64 0,.int .i64 0,.int .i64 0]) (by kernel_rfl) (v:=.tup [.agg [iV 0,iV 0,iV 0],bV false]) (by rw [getS_inf,hx]; rfl) ?_
  refine R_run hg.ok 1000 rfl rfl ?_
  exact R_retS hg 2 5 (Nat.le_refl _) rfl rfl (hk _)
 | some x =>
  refine R_lookupDS hg.ok (tS opTab) rfl rfl rfl rfl rfl rfl rfl (zv:=.agg #[.int .i64 0,.int .i64 0,.int .i64 0]) (by kernel_rfl) (v:=.tup [.d (.v (opV x)),bV true]) (by rw [getS_inf,hx]; rfl) ?_
  refine R_see 19 rfl (v':=.tup [.agg [iV x.1,iV x.2.1,iV x.2.2],bV true]) (fun S w φ v h=>by
   simp only [RV] at h ⊢
   obtain ⟨vs,rfl,h⟩:=h
   refine ⟨vs,rfl,?_⟩
   match vs,h with
   | [a,b],h =>
    simp only [RVs] at h ⊢
    exact ⟨opV_ent2 x _ _ _ _ (by simp only [RV]; exact h.1),h.2⟩
   | [],h=>simp [RVs] at h
   | [_],h=>simp [RVs] at h
   | _::_::_::_,h=>simp [RVs] at h) ?_
  refine R_run hg.ok 1000 rfl rfl ?_
  exact R_retS hg 2 5 (Nat.le_refl _) rfl rfl (hk _)
end Go.Proofs.YtcgkgofmldhokaaGreat

namespace Go.Proofs.YtcgkgofmldhokaaGreat
open Go PSL Go.Proofs
theorem tkRows_get {L:List Tk} {i:Nat} {t:Tk} (h:L[i]? = some t):(tkRows L)[i]? = some (tkD t):=by simp [tkRows,h]

set_option maxRecDepth 100000 in
theorem rdPeek_ok (Y:YP) (S0:Bs) (L:List Tk) (st:RSt) (deep:Int) (mk:Bool):SCtr Tryz.prog Y 96 [.lo 0 0] (rdO S0 L st deep mk) (tkA (peekR L st)) (rdO S0 L st deep mk):=by
 refine SCtr.of_R (pf:=fun _=>.eff) tyOk mixed Tryz.func96 rfl (by kernel_rfl) (by kernel_rfl) (by simp [Tryz.ntmps96]) (by simp [rdO,robj]) fun w S φ hg=>?_
 have hk:∀ o:List Ob,(rdO S0 L st deep mk).map (mapOb (sealT false 2 o 5))=rdO S0 L st deep mk:=fun o=>rdO_keep _ _ _ _ _ _ _ (Nat.le_refl _)
 refine R_run hg.ok 1000 rfl rfl ?_
 refine R_if rfl rfl (fun h=>?_) (fun h=>?_) <;> refine R_run hg.ok 1000 rfl rfl ?_
 ·have he:st.e≠0:=by simpa using h
  rw [show peekR L st=zeroTk by unfold peekR; rw [if_pos he]]
  exact R_retS hg 2 5 (Nat.le_refl _) rfl rfl (hk _)
 have he:¬ st.e≠0:=by simpa using h
 refine R_if rfl rfl (fun h=>?_) (fun h=>?_) <;> refine R_run hg.ok 1000 rfl rfl ?_
 ·have hl:L.length≤st.at_:=by have:=of_decide_eq_true h; rw [tkRows_len] at this; omega
  rw [show peekR L st=zeroTk by unfold peekR; rw [if_neg he,List.getElem?_eq_none hl]; rfl]
  exact R_retS hg 2 5 (Nat.le_refl _) rfl rfl (hk _)
 ·have hl:st.at_<L.length:=by have:=of_decide_eq_false h; rw [tkRows_len] at this; omega
  have e1:L[st.at_]? = some L[st.at_]:=List.getElem?_eq_getElem hl
  rw [show peekR L st=L[st.at_] by unfold peekR; rw [if_neg he,e1]; rfl]
  generalize L[st.at_]=t at e1
  refine R_index hg.ok rfl rfl rfl rfl rfl rfl (Int.natCast_nonneg _) (tkRows_get e1) rfl ?_
  refine R_run hg.ok 1000 rfl rfl ?_
  exact R_retS hg 2 5 (Nat.le_refl _) rfl rfl (hk _)

set_option maxRecDepth 100000 in
theorem rdPlace_ok (Y:YP) (S0:Bs) (L:List Tk) (st:RSt) (deep:Int) (mk:Bool):SCtr Tryz.prog Y 94 [.lo 0 0] (rdO S0 L st deep mk) (iV (plcR L S0.length st.at_)) (rdO S0 L st deep mk):=by
 refine SCtr.of_R (pf:=fun _=>.eff) tyOk mixed Tryz.func94 rfl (by kernel_rfl) (by kernel_rfl) (by simp [Tryz.ntmps94]) (by simp [rdO,robj]) fun w S φ hg=>?_
 have hk:∀ o:List Ob,(rdO S0 L st deep mk).map (mapOb (sealT false 2 o 5))=rdO S0 L st deep mk:=fun o=>rdO_keep _ _ _ _ _ _ _ (Nat.le_refl _)
 refine R_run hg.ok 1000 rfl rfl ?_
 refine R_if rfl rfl (fun h=>?_) (fun h=>?_) <;> refine R_run hg.ok 1000 rfl rfl ?_
 ·have hl:st.at_<L.length:=by have:=of_decide_eq_true h; rw [tkRows_len] at this; omega
  have e1:L[st.at_]? = some L[st.at_]:=List.getElem?_eq_getElem hl
  rw [show plcR L S0.length st.at_=L[st.at_].at_ by unfold plcR; rw [e1]]
  generalize L[st.at_]=t at e1
  refine R_index hg.ok rfl rfl rfl rfl rfl rfl (Int.natCast_nonneg _) (tkRows_get e1) rfl ?_
  refine R_run hg.ok 1000 rfl rfl ?_
  exact R_retS hg 2 5 (Nat.le_refl _) rfl rfl (hk _)
 ·have hl:L.length≤st.at_:=by have:=of_decide_eq_false h; rw [tkRows_len] at this; omega
  rw [show plcR L S0.length st.at_=(S0.length:Int) by unfold plcR; rw [List.getElem?_eq_none hl]]
  refine R_see 2 rfl (v':=iV S0.length) (by rw [show ((Tx S0).size:Int)=S0.length by rw [Tx_size]]; exact .refl _) ?_
  exact R_retS hg 2 5 (Nat.le_refl _) rfl rfl (hk _)

set_option maxRecDepth 100000 in
theorem rdFail_ok (Y:YP) (S0:Bs) (L:List Tk) (st:RSt) (deep:Int) (mk:Bool) (c:Int):SCtr Tryz.prog Y 97 [.lo 0 0,iV c] (rdO S0 L st deep mk) (.tup []) (rdO S0 L (failR L S0.length st c) deep mk):=by
 refine SCtr.of_R (pf:=fun _=>.eff) tyOk mixed Tryz.func97 rfl (by kernel_rfl) (by kernel_rfl) (by simp [Tryz.ntmps97]) (by simp [rdO,robj]) fun w S φ hg=>?_
 have hk:∀ st (o:List Ob),(rdO S0 L st deep mk).map (mapOb (sealT false 2 o 5))=rdO S0 L st deep mk:=fun st o=>rdO_keep _ _ _ _ _ _ _ (Nat.le_refl _)
 refine R_run hg.ok 1000 rfl rfl ?_
 refine R_if rfl rfl (fun h=>?_) (fun h=>?_) <;> refine R_run hg.ok 1000 rfl rfl ?_
 ·have he:st.e=0:=by simpa using h
  refine R_callSO hg.ok hg.gup hg.wide hg.Y [0,1] (rdO S0 L st deep mk) (rdPlace_ok Y S0 L st deep mk) (fun _=>rfl) rfl rfl rfl rfl rfl (by rw [rdO_ren]; rfl) rfl (by rw [rdO_ren]; rfl) ?_
  refine R_run hg.ok 1000 rfl rfl ?_
  rw [show failR L S0.length st c={ st with e:=c,bad:=plcR L S0.length st.at_ } by unfold failR; rw [if_pos he]]
  exact R_endS hg 2 5 (Nat.le_refl _) rfl rfl (hk { st with e:=c,bad:=plcR L S0.length st.at_ } _)
 ·have he:¬ st.e=0:=by simpa using h
  rw [show failR L S0.length st c=st by unfold failR; rw [if_neg he]]
  exact R_endS hg 2 5 (Nat.le_refl _) rfl rfl (hk _ _)

theorem obsIn_refl:∀ l:List Ob,ObsIn l l
 | []=>trivial
 | o::l=>⟨.refl o,obsIn_refl l⟩

theorem R_rdAt {g:G} {pf:Nat→Cls} {Fin:Exit→Act→World→Prop} {k:List It} {E:Env} {rest:List Ob} {S:Bs} {L:List Tk} {st:RSt} {deep:Int} {mk:Bool} {m:Int} (n:Nat) (hm:m=n) (hb:n<9223372036854775808) (ht:topCode k=true) (h:R g pf Fin k E (rdO S L { st with at_:=n } deep mk++rest)) :
  R g pf Fin k E (.box [.d (.v (.string (Tx S))),.d (.sl (tkRows L)),.d (.v (.int .i64 (IntKind.i64.wrap m))),.ow 1 st.names.length,iV deep,iV st.bad,iV st.e,.d (.v (.int .u32 (if mk then 1 else 0))),.d (.v (.int .i32 0)),.d (.v (.int .u32 0)),tblV mk] :: .arr 1 st.names.length (strRows st.names)::rest) :=
 R_obs (rdO S L { st with at_:=n } deep mk++rest) ⟨⟨.refl _,.refl _,Ent.wrap hm (by simp only; omega) (by simp only; omega),.refl _,.refl _,.refl _,.refl _,.refl _,.refl _,.refl _,.refl _,trivial⟩,rfl,obsIn_refl _⟩ ht h
theorem isMk_iff {t:Tk} {s:Bs}:isMk t s=true↔t.kind=4∧t.text=s:=by simp [isMk]

set_option maxRecDepth 100000 in
theorem rdMark_ok (Y:YP) (S0:Bs) (L:List Tk) (hL:L.length≤9000) (st:RSt) (deep:Int) (mk:Bool) (s:Bs):SCtr Tryz.prog Y 148 [.lo 0 0,.d (.v (.string (Tx s)))] (rdO S0 L st deep mk) (bV (isMk (peekR L st) s)) (rdO S0 L (if isMk (peekR L st) s then nxR st else st) deep mk):=by
 refine SCtr.of_R (pf:=fun _=>.eff) tyOk mixed Tryz.func148 rfl (by kernel_rfl) (by kernel_rfl) (by simp [Tryz.ntmps148]) (by simp [rdO,robj]) fun w S φ hg=>?_
 have hk:∀ st (o:List Ob),(rdO S0 L st deep mk).map (mapOb (sealT false 2 o 5))=rdO S0 L st deep mk:=fun st o=>rdO_keep _ _ _ _ _ _ _ (Nat.le_refl _)
 have hlt:isMk (peekR L st) s=true→st.at_<L.length:=fun h=>by
  have h1:=(isMk_iff.1 h).1
  unfold peekR at h1
  split at h1
  ·cases h1
  ·rcases Nat.lt_or_ge st.at_ L.length with h2 | h2
   ·exact h2
   ·rw [List.getElem?_eq_none h2] at h1; cases h1
 refine R_run hg.ok 1000 rfl rfl ?_
 refine R_callSO hg.ok hg.gup hg.wide hg.Y [0,1] (rdO S0 L st deep mk) (rdPeek_ok Y S0 L st deep mk) (fun _=>rfl) rfl rfl rfl rfl rfl (by rw [rdO_ren]; rfl) rfl (by rw [rdO_ren]; rfl) ?_
 refine R_run hg.ok 1000 rfl rfl ?_
 refine R_if rfl rfl (fun h=>?_) (fun h=>?_) <;> refine R_run hg.ok 1000 rfl rfl ?_
 ·have h1:¬ (peekR L st).kind=4:=by simpa using h
  have h2:isMk (peekR L st) s=false:=by cases h3:isMk (peekR L st) s; rfl; exact absurd (isMk_iff.1 h3).1 h1
  rw [h2]
  exact R_retS hg 2 5 (Nat.le_refl _) rfl rfl (hk st _)
 have h1:(peekR L st).kind=4:=by simpa using h
 refine R_if rfl rfl (fun h=>?_) (fun h=>?_) <;> refine R_run hg.ok 1000 rfl rfl ?_
 ·have h2:isMk (peekR L st) s=false:=by
   cases h3:isMk (peekR L st) s
   ·rfl
   ·rw [(isMk_iff.1 h3).2,Tx_eq] at h; simp at h
  rw [h2]
  exact R_retS hg 2 5 (Nat.le_refl _) rfl rfl (hk st _)
 ·have h2:isMk (peekR L st) s=true:=by
   rw [isMk_iff]; rw [Tx_eq] at h; exact ⟨h1,by simpa using h⟩
  have hl:=hlt h2
  rw [h2]
  refine R_rdAt (st.at_+1) rfl (by omega) rfl ?_
  exact R_retS hg 2 5 (Nat.le_refl _) rfl rfl (hk (nxR st) _)
end Go.Proofs.YtcgkgofmldhokaaGreat

namespace Go.Proofs.YtcgkgofmldhokaaGreat
open Go PSL Go.Proofs

set_option maxRecDepth 100000 in
theorem rdMust_ok (Y:YP) (S0:Bs) (L:List Tk) (hL:L.length≤9000) (st:RSt) (deep:Int) (mk:Bool) (s:Bs):SCtr Tryz.prog Y 149 [.lo 0 0,.d (.v (.string (Tx s)))] (rdO S0 L st deep mk) (.tup []) (rdO S0 L (mustR L S0.length st s) deep mk):=by
 refine SCtr.of_R (pf:=fun _=>.eff) tyOk mixed Tryz.func149 rfl (by kernel_rfl) (by kernel_rfl) (by simp [Tryz.ntmps149]) (by simp [rdO,robj]) fun w S φ hg=>?_
 have hk:∀ st (o:List Ob),(rdO S0 L st deep mk).map (mapOb (sealT false 2 o 5))=rdO S0 L st deep mk:=fun st o=>rdO_keep _ _ _ _ _ _ _ (Nat.le_refl _)
 have hM:=rdMark_ok Y S0 L hL st deep mk s
 unfold mustR
 refine R_run hg.ok 1000 rfl rfl ?_
 cases h:isMk (peekR L st) s with
 | false =>
  rw [h] at hM
  refine R_callSO hg.ok hg.gup hg.wide hg.Y [0,1] (rdO S0 L st deep mk) hM (fun _=>rfl) rfl rfl rfl rfl rfl (by rw [rdO_ren]; rfl) rfl (by simp only [Bool.false_eq_true,if_false]; rw [rdO_ren]; rfl) ?_
  refine R_run hg.ok 1000 rfl rfl ?_
  refine R_if rfl rfl (fun _=>?_) (fun h=>absurd h (by simp)) <;> refine R_run hg.ok 1000 rfl rfl ?_
  refine R_callSO hg.ok hg.gup hg.wide hg.Y [0,1] (rdO S0 L (failR L S0.length st 2) deep mk) (rdFail_ok Y S0 L st deep mk 2) (fun _=>rfl) rfl rfl rfl rfl rfl (by rw [rdO_ren]; rfl) rfl (by rw [rdO_ren]; rfl) ?_
  refine R_run hg.ok 1000 rfl rfl ?_
  exact R_endS hg 2 5 (Nat.le_refl _) rfl rfl (hk (failR L S0.length st 2) _)
 | true =>
  rw [h] at hM
  refine R_callSO hg.ok hg.gup hg.wide hg.Y [0,1] (rdO S0 L (nxR st) deep mk) hM (fun _=>rfl) rfl rfl rfl rfl rfl (by rw [rdO_ren]; rfl) rfl (by simp only [if_true]; rw [rdO_ren]; rfl) ?_
  refine R_run hg.ok 1000 rfl rfl ?_
  refine R_if rfl rfl (fun h=>absurd h (by simp)) (fun _=>?_) <;> refine R_run hg.ok 1000 rfl rfl ?_
  exact R_endS hg 2 5 (Nat.le_refl _) rfl rfl (hk (nxR st) _)
def tkO (t:Tk):Ob:=.box [.d (.v (.int .i64 t.kind)),.d (.v (.string (Tx t.text))),.d (.v (.int .i64 t.n)),.d (.v (.int .i64 t.at_)),.d (.v (.bool t.opn))]

set_option maxRecDepth 100000 in
theorem rdIn_ok (Y:YP) (S0:Bs) (L:List Tk) (st:RSt) (deep:Int) (mk:Bool):SCtr Tryz.prog Y 118 [.lo 0 0] (rdO S0 L st deep mk) (infA (inT (peekR L st))) (rdO S0 L st deep (if (peekR L st).kind≠1∧((peekR L st).kind≠4∨(peekR L st).text≠[44]) then mk else true)):=by
 by_cases hc:(peekR L st).kind≠1∧((peekR L st).kind≠4∨(peekR L st).text≠[44])
 ·rw [if_pos hc]
  rw [show inT (peekR L st)=none by unfold inT; rw [if_pos hc]]
  refine SCtr.of_R (pf:=fun _=>.eff) tyOk mixed Tryz.func118 rfl (by kernel_rfl) (by kernel_rfl) (by simp [Tryz.ntmps118]) (by simp [rdO,robj]) fun w S φ hg=>?_
  have hk:∀ (o:List Ob),(rdO S0 L st deep mk).map (mapOb (sealT false 2 o 5))=rdO S0 L st deep mk:=fun o=>rdO_keep _ _ _ _ _ _ _ (Nat.le_refl _)
  refine R_run hg.ok 1000 rfl rfl ?_
  refine R_callSO hg.ok hg.gup hg.wide hg.Y [0,1] (rdO S0 L st deep mk++[.box [iV 0,iV 0,iV 0]]) (rdPeek_ok Y S0 L st deep mk) (fun _=>rfl) rfl rfl rfl rfl rfl (by rw [rdO_ren]; rfl) rfl (by rw [rdO_ren]; rfl) ?_
  refine R_run hg.ok 1000 rfl rfl ?_
  refine R_if rfl rfl (fun _=>?_) (fun h=>absurd h (by simp [hc.1])) <;> refine R_run hg.ok 1000 rfl rfl ?_
  refine R_if rfl rfl (fun h=>?_) (fun h=>?_) <;> refine R_run hg.ok 1000 rfl rfl ?_
  ·exact R_retS hg 2 5 (Nat.le_refl _) rfl rfl (hk _)
  ·have h4:(peekR L st).kind=4:=by simpa using h
   have h5:(peekR L st).text≠[44]:=hc.2.resolve_left (fun e=>e h4)
   refine R_if rfl rfl (fun _=>?_) (fun h=>absurd h (by rw [show (⟨#[44]⟩:ByteArray)=Tx [44] from rfl,Tx_eq]; simpa using h5)) <;> refine R_run hg.ok 1000 rfl rfl ?_
   exact R_retS hg 2 5 (Nat.le_refl _) rfl rfl (hk _)
 ·rw [if_neg hc]
  rw [show inT (peekR L st)=infT (peekR L st).text by unfold inT; rw [if_neg hc]]
  have hI:=infix_ok Y S0 L st deep mk (peekR L st).text
  refine SCtr.of_R (pf:=fun _=>.eff) tyOk mixed Tryz.func118 rfl (by kernel_rfl) (by kernel_rfl) (by simp [Tryz.ntmps118]) (by simp [rdO,robj]) fun w S φ hg=>?_
  have hk:∀ (o:List Ob),(rdO S0 L st deep true).map (mapOb (sealT false 2 o 5))=rdO S0 L st deep true:=fun o=>rdO_keep _ _ _ _ _ _ _ (Nat.le_refl _)
  refine R_run hg.ok 1000 rfl rfl ?_
  refine R_callSO hg.ok hg.gup hg.wide hg.Y [0,1] (rdO S0 L st deep mk++[.box [iV 0,iV 0,iV 0]]) (rdPeek_ok Y S0 L st deep mk) (fun _=>rfl) rfl rfl rfl rfl rfl (by rw [rdO_ren]; rfl) rfl (by rw [rdO_ren]; rfl) ?_
  refine R_run hg.ok 1000 rfl rfl ?_
  generalize peekR L st=t at hc hI
  by_cases h1:t.kind=1
  ·refine R_if rfl rfl (fun h=>absurd h (by simp [h1])) (fun _=>?_) <;> refine R_run hg.ok 1000 rfl rfl ?_
   refine R_callSO hg.ok hg.gup hg.wide hg.Y [0,1] (rdO S0 L st deep true++[.box [iV 0,iV 0,iV 0],tkO t]) hI (fun _=>rfl) rfl rfl rfl rfl rfl (by rw [rdO_ren]; rfl) rfl (by rw [rdO_ren]; rfl) ?_
   cases infT t.text with
   | none=>refine R_run hg.ok 1000 rfl rfl ?_; exact R_retS hg 2 5 (Nat.le_refl _) rfl rfl (hk _)
   | some x=>refine R_run hg.ok 1000 rfl rfl ?_; exact R_retS hg 2 5 (Nat.le_refl _) rfl rfl (hk _)
  ·have h4:t.kind=4:=Classical.byContradiction fun h4=>hc ⟨h1,.inl h4⟩
   have h5:t.text=[44]:=Classical.byContradiction fun h5=>hc ⟨h1,.inr h5⟩
   refine R_if rfl rfl (fun _=>?_) (fun h=>absurd h (by simp [h1])) <;> refine R_run hg.ok 1000 rfl rfl ?_
   refine R_if rfl rfl (fun h=>absurd h (by simp [h4])) (fun _=>?_) <;> refine R_run hg.ok 1000 rfl rfl ?_
   refine R_if rfl rfl (fun h=>absurd h (by rw [show (⟨#[44]⟩:ByteArray)=Tx [44] from rfl,Tx_eq,h5]; simp)) (fun _=>?_) <;> refine R_run hg.ok 1000 rfl rfl ?_
   refine R_callSO hg.ok hg.gup hg.wide hg.Y [0,1] (rdO S0 L st deep true++[.box [iV 0,iV 0,iV 0],tkO t]) hI (fun _=>rfl) rfl rfl rfl rfl rfl (by rw [rdO_ren]; rfl) rfl (by rw [rdO_ren]; rfl) ?_
   cases infT t.text with
   | none=>refine R_run hg.ok 1000 rfl rfl ?_; exact R_retS hg 2 5 (Nat.le_refl _) rfl rfl (hk _)
   | some x=>refine R_run hg.ok 1000 rfl rfl ?_; exact R_retS hg 2 5 (Nat.le_refl _) rfl rfl (hk _)
end Go.Proofs.YtcgkgofmldhokaaGreat

namespace Go.Proofs.YtcgkgofmldhokaaGreat
open Go PSL Go.Proofs
def pfBeg:Nat→Cls:=fun f=>bif Nat.beq f 4900100009 then .turn 100 else .eff

set_option maxRecDepth 100000 in
theorem rdBegins_ok (Y:YP) (S0:Bs) (L:List Tk) (st:RSt) (deep:Int) (mk:Bool):SCtr Tryz.prog Y 155 [.lo 0 0] (rdO S0 L st deep mk) (bV (begR L st)) (rdO S0 L st deep (if (peekR L st).kind=1 then true else mk)):=by
 have hP:=rdPeek_ok Y S0 L st deep mk
 have hI:=infix_ok Y S0 L st deep mk (peekR L st).text
 unfold begR
 generalize peekR L st=t at hP hI
 simp only
 by_cases h1:t.kind=1
 ·rw [if_pos h1]
  rw [show (decide (t.kind=3) || decide (t.kind=2) || (decide (t.kind=4)&&(t.text==[40] || t.text==[91])) || (decide (t.kind=1)&&(infT t.text).isNone))=(infT t.text).isNone by simp [h1]]
  refine SCtr.of_R (pf:=pfBeg) tyOk mixed Tryz.func155 rfl (by kernel_rfl) (by kernel_rfl) (by simp [Tryz.ntmps155]) (by simp [rdO,robj]) fun w S φ hg=>?_
  have hk:∀ (o:List Ob),(rdO S0 L st deep true).map (mapOb (sealT false 2 o 5))=rdO S0 L st deep true:=fun o=>rdO_keep _ _ _ _ _ _ _ (Nat.le_refl _)
  refine R_run hg.ok 1000 rfl rfl ?_
  refine R_callSO hg.ok hg.gup hg.wide hg.Y [0,1] (rdO S0 L st deep mk) hP (fun _=>rfl) rfl rfl rfl rfl rfl (by rw [rdO_ren]; rfl) rfl (by rw [rdO_ren]; rfl) ?_
  refine R_run hg.ok 1000 rfl rfl ?_
  refine R_if rfl rfl (fun h=>absurd h (by simp [h1])) (fun _=>?_) <;> refine R_run hg.ok 1000 rfl rfl ?_
  refine R_if rfl rfl (fun h=>absurd h (by simp [h1])) (fun _=>?_) <;> refine R_run hg.ok 1000 rfl rfl ?_
  refine R_if rfl rfl (fun h=>absurd h (by simp [h1])) (fun _=>?_) <;> refine R_run hg.ok 1000 rfl rfl ?_
  refine R_if rfl rfl (fun _=>?_) (fun h=>absurd h (by simp [h1])) <;> refine R_run hg.ok 1000 rfl rfl ?_
  refine R_pair3 hg.ok 5 9 (by kernel_rfl) (by kernel_rfl) ?_ ?_
  ·refine R_run hg.ok 1000 rfl rfl ?_
   refine R_callSO hg.ok hg.gup hg.wide hg.Y [0,1] (rdO S0 L st deep true++[tkO t]) hI (fun _=>rfl) rfl rfl rfl rfl rfl (by rw [rdO_ren]; rfl) rfl (by rw [rdO_ren]; rfl) ?_
   cases infT t.text with
   | none=>refine R_run hg.ok 1000 rfl rfl ?_; exact R_retS hg 2 5 (Nat.le_refl _) rfl rfl (hk _)
   | some x=>refine R_run hg.ok 1000 rfl rfl ?_; exact R_retS hg 2 5 (Nat.le_refl _) rfl rfl (hk _)
  ·refine R_run hg.ok 1000 rfl rfl ?_
   refine R_callSO hg.ok hg.gup hg.wide hg.Y [0,1] (rdO S0 L st deep true++[tkO t,.box [iV 0,iV 0,iV 0]]) hI (fun _=>rfl) rfl rfl rfl rfl rfl (by rw [rdO_ren]; rfl) rfl (by rw [rdO_ren]; rfl) ?_
   cases infT t.text with
   | none=>refine R_run hg.ok 1000 rfl rfl ?_; exact R_retS hg 2 5 (Nat.le_refl _) rfl rfl (hk _)
   | some x=>refine R_run hg.ok 1000 rfl rfl ?_; exact R_retS hg 2 5 (Nat.le_refl _) rfl rfl (hk _)
 ·rw [if_neg h1]
  refine SCtr.of_R (pf:=pfBeg) tyOk mixed Tryz.func155 rfl (by kernel_rfl) (by kernel_rfl) (by simp [Tryz.ntmps155]) (by simp [rdO,robj]) fun w S φ hg=>?_
  have hk:∀ (o:List Ob),(rdO S0 L st deep mk).map (mapOb (sealT false 2 o 5))=rdO S0 L st deep mk:=fun o=>rdO_keep _ _ _ _ _ _ _ (Nat.le_refl _)
  refine R_run hg.ok 1000 rfl rfl ?_
  refine R_callSO hg.ok hg.gup hg.wide hg.Y [0,1] (rdO S0 L st deep mk) hP (fun _=>rfl) rfl rfl rfl rfl rfl (by rw [rdO_ren]; rfl) rfl (by rw [rdO_ren]; rfl) ?_
  refine R_run hg.ok 1000 rfl rfl ?_
  by_cases h3:t.kind=3
  ·rw [show (decide (t.kind=3) || decide (t.kind=2) || (decide (t.kind=4)&&(t.text==[40] || t.text==[91])) || (decide (t.kind=1)&&(infT t.text).isNone))=true by simp [h3]]
   refine R_if rfl rfl (fun _=>?_) (fun h=>absurd h (by simp [h3])) <;> refine R_run hg.ok 1000 rfl rfl ?_
   exact R_retS hg 2 5 (Nat.le_refl _) rfl rfl (hk _)
  by_cases h2:t.kind=2
  ·rw [show (decide (t.kind=3) || decide (t.kind=2) || (decide (t.kind=4)&&(t.text==[40] || t.text==[91])) || (decide (t.kind=1)&&(infT t.text).isNone))=true by simp [h2]]
   refine R_if rfl rfl (fun h=>absurd h (by simp [h3])) (fun _=>?_) <;> refine R_run hg.ok 1000 rfl rfl ?_
   refine R_if rfl rfl (fun _=>?_) (fun h=>absurd h (by simp [h2])) <;> refine R_run hg.ok 1000 rfl rfl ?_
   exact R_retS hg 2 5 (Nat.le_refl _) rfl rfl (hk _)
  refine R_if rfl rfl (fun h=>absurd h (by simp [h3])) (fun _=>?_) <;> refine R_run hg.ok 1000 rfl rfl ?_
  refine R_if rfl rfl (fun h=>absurd h (by simp [h2])) (fun _=>?_) <;> refine R_run hg.ok 1000 rfl rfl ?_
  by_cases h4:t.kind=4
  ·rw [show (decide (t.kind=3) || decide (t.kind=2) || (decide (t.kind=4)&&(t.text==[40] || t.text==[91])) || (decide (t.kind=1)&&(infT t.text).isNone))=(t.text==[40] || t.text==[91]) by simp [h4]]
   refine R_if rfl rfl (fun _=>?_) (fun h=>absurd h (by simp [h4])) <;> refine R_run hg.ok 1000 rfl rfl ?_
   have e40:strEq (Tx t.text) ⟨#[40]⟩=(t.text==[40]):=Tx_eq _ _
   have e91:strEq (Tx t.text) ⟨#[91]⟩=(t.text==[91]):=Tx_eq _ _
   cases h40:(t.text==[40]) with
   | true =>
    refine R_if rfl rfl (fun _=>?_) (fun h=>absurd h (by rw [e40,h40]; simp)) <;> refine R_run hg.ok 1000 rfl rfl ?_
    exact R_retS hg 2 5 (Nat.le_refl _) rfl rfl (hk _)
   | false =>
    refine R_if rfl rfl (fun h=>absurd h (by rw [e40,h40]; simp)) (fun _=>?_) <;> refine R_run hg.ok 1000 rfl rfl ?_
    rw [e91]
    exact R_retS hg 2 5 (Nat.le_refl _) rfl rfl (hk _)
  ·rw [show (decide (t.kind=3) || decide (t.kind=2) || (decide (t.kind=4)&&(t.text==[40] || t.text==[91])) || (decide (t.kind=1)&&(infT t.text).isNone))=false by simp [h1,h2,h3,h4]]
   refine R_if rfl rfl (fun h=>absurd h (by simp [h4])) (fun _=>?_) <;> refine R_run hg.ok 1000 rfl rfl ?_
   refine R_if rfl rfl (fun h=>absurd h (by simp [h1])) (fun _=>?_) <;> refine R_run hg.ok 1000 rfl rfl ?_
   exact R_retS hg 2 5 (Nat.le_refl _) rfl rfl (hk _)

set_option maxRecDepth 100000 in
theorem rdPrefix_ok (s:Bs):PCtr Tryz.prog 153 [.d (.v (.string (Tx s)))] (iV (preT s)):=by
 have e1:strEq (Tx s) ⟨#[92,43]⟩=(s==[92,43]):=Tx_eq _ _
 have e2:strEq (Tx s) ⟨#[45]⟩=(s==[45]):=Tx_eq _ _
 unfold preT
 refine PCtr.of_R (pf:=fun _=>.still) tyOk mixed Tryz.func153 rfl (by kernel_rfl) (by kernel_rfl) (by simp [Tryz.ntmps153]) fun w S hg=>?_
 refine R_run hg.ok 1000 rfl rfl ?_
 by_cases h1:s=[92,43]
 ·rw [if_pos h1]
  refine R_if rfl rfl (fun _=>?_) (fun h=>absurd h (by rw [e1,h1]; simp)) <;> refine R_run hg.ok 1000 rfl rfl ?_
  refine R_ret hg 5 rfl rfl ?_
  rfl
 rw [if_neg h1]
 refine R_if rfl rfl (fun h=>absurd h (by rw [e1]; simpa using h1)) (fun _=>?_) <;> refine R_run hg.ok 1000 rfl rfl ?_
 by_cases h2:s=[45]
 ·rw [if_pos h2]
  refine R_if rfl rfl (fun _=>?_) (fun h=>absurd h (by rw [e2,h2]; simp)) <;> refine R_run hg.ok 1000 rfl rfl ?_
  refine R_ret hg 5 rfl rfl ?_
  rfl
 rw [if_neg h2]
 refine R_if rfl rfl (fun h=>absurd h (by rw [e2]; simpa using h2)) (fun _=>?_) <;> refine R_run hg.ok 1000 rfl rfl ?_
 refine R_ret hg 5 rfl rfl ?_
 rfl
end Go.Proofs.YtcgkgofmldhokaaGreat

namespace Go.Proofs.YtcgkgofmldhokaaGreat
open Go PSL Go.Proofs

theorem rdO_snoc (S0:Bs) (L:List Tk) (st:RSt) (deep:Int) (mk:Bool) (x:Bs):rdO S0 L { st with names:=st.names++[x] } deep mk=[.box [.d (.v (.string (Tx S0))),.d (.sl (tkRows L)),iV st.at_,.ow 1 (st.names.length+1),iV deep,iV st.bad,iV st.e,.d (.v (.int .u32 (if mk then 1 else 0))),.d (.v (.int .i32 0)),.d (.v (.int .u32 0)),tblV mk],.arr 1 (st.names.length+1) (strRows (st.names++[x]))]:=by
 simp only [rdO,robj,List.length_append,List.length_singleton]

set_option maxRecDepth 100000 in
theorem rdVar_ok (Y:YP) (S0:Bs) (L:List Tk) (st:RSt) (hn:st.names.length≤20000) (deep:Int) (mk:Bool) (s:Bs):SCtr Tryz.prog Y 146 [.lo 0 0,.d (.v (.string (Tx s)))] (rdO S0 L st deep mk) (iV (varR st s).1) (rdO S0 L (varR st s).2 deep mk):=by
 refine SCtr.of_R (pf:=fun _=>.eff) tyOk mixed Tryz.func146 rfl (by kernel_rfl) (by kernel_rfl) (by simp [Tryz.ntmps146]) (by simp [rdO,robj]) fun w S φ hg=>?_
 have hk:∀ (st:RSt) (o:List Ob),(rdO S0 L st deep mk).map (mapOb (sealT false 2 o 5))=rdO S0 L st deep mk:=fun st o=>rdO_keep _ _ _ _ _ _ _ (Nat.le_refl _)
 have hk2:∀ (x:Bs) (o:List Ob),([.box [.d (.v (.string (Tx S0))),.d (.sl (tkRows L)),iV st.at_,.ow 1 (st.names.length+1),iV deep,iV st.bad,iV st.e,.d (.v (.int .u32 (if mk then 1 else 0))),.d (.v (.int .i32 0)),.d (.v (.int .u32 0)),tblV mk],.arr 1 (st.names.length+1) (strRows (st.names++[x]))]:List Ob).map (mapOb (sealT false 2 o 5))=[.box [.d (.v (.string (Tx S0))),.d (.sl (tkRows L)),iV st.at_,.ow 1 (st.names.length+1),iV deep,iV st.bad,iV st.e,.d (.v (.int .u32 (if mk then 1 else 0))),.d (.v (.int .i32 0)),.d (.v (.int .u32 0)),tblV mk],.arr 1 (st.names.length+1) (strRows (st.names++[x]))]:=fun x o=>by
  have:=hk { st with names:=st.names++[x] } o
  rwa [rdO_snoc] at this
 have e95:strEq (Tx s) ⟨#[95]⟩=(s==[95]):=Tx_eq _ _
 refine R_run hg.ok 1000 rfl rfl ?_
 refine R_lenO hg.ok rfl rfl rfl rfl rfl (n:=(st.names.length:Int)) (by rw [strRows_len]) ?_
 refine R_run hg.ok 1000 rfl rfl ?_
 refine R_cut2 (fun _:Unit=>([(0,.lo 0 0),(1,.d (.v (.string (Tx s))))],rdO S0 L st deep mk)) (fun _=>(if s=[95] then none else idxV st.names s 0)=none) rfl ?_ ?_
 ·refine R_loop (fun k:Nat=>([(0,.lo 0 0),(1,.d (.v (.string (Tx s)))),(10,.ow 1 st.names.length),(11,iV st.names.length),(12,iV k)],rdO S0 L st deep mk)) (fun k=>k≤st.names.length∧(s≠[95]→idxV st.names s 0=idxV (st.names.drop k) s k)) (fun k=>st.names.length - k) 0 ⟨Nat.zero_le _,fun _=>rfl⟩ ⟨.refl _,.refl _,.refl _,.refl _,.refl _,trivial⟩ rfl ?_
  rintro k ⟨hk1,hm⟩
  refine R_run hg.ok 1000 rfl rfl ?_
  refine R_if rfl rfl (fun h=>?_) (fun h=>?_) <;> refine R_run hg.ok 1000 rfl rfl ?_
  ·have hk2:k<st.names.length:=lt_dec h rfl
   have e1:st.names[k]? = some st.names[k]:=List.getElem?_eq_getElem hk2
   rw [List.drop_eq_getElem_cons hk2] at hm
   generalize st.names[k]=x at e1 hm
   refine R_indexO hg.ok rfl rfl rfl rfl rfl rfl rfl rfl rfl (Int.natCast_nonneg k) (by rw [strRows_len]; simpa using hk2) ?_
   refine R_run hg.ok 1000 rfl rfl ?_
   refine R_loadE hg.ok rfl rfl rfl rfl rfl rfl (by rw [Int.toNat_natCast]; exact strRows_get e1) rfl ?_
   refine R_run hg.ok 1000 rfl rfl ?_
   have hx:strEq (Tx x) (Tx s)=(x==s):=Tx_eq _ _
   by_cases hxs:x=s
   ·refine R_if rfl rfl (fun _=>?_) (fun h=>absurd h (by rw [hx,hxs]; simp)) <;> refine R_run hg.ok 1000 rfl rfl ?_
    by_cases h95:s=[95]
    ·refine R_if rfl rfl (fun h=>absurd h (by rw [e95,h95]; simp)) (fun _=>?_) <;> refine R_run hg.ok 1000 rfl rfl ?_
     exact R_next (k+1) ⟨hk2,fun h=>absurd h95 h⟩ (by omega) ⟨.refl _,.refl _,.refl _,.refl _,Ent.wrap (by omega) (by omega) (by omega),trivial⟩ rfl
    ·refine R_if rfl rfl (fun _=>?_) (fun h=>absurd h (by rw [e95]; simpa using h95)) <;> refine R_run hg.ok 1000 rfl rfl ?_
     have hv:varR st s=((k:Int),st):=by
      unfold varR
      rw [if_neg h95,hm h95,idxV,if_pos hxs]
     rw [hv]
     exact R_retS hg 2 5 (Nat.le_refl _) rfl rfl (hk st _)
   ·refine R_if rfl rfl (fun h=>absurd h (by rw [hx]; simpa using hxs)) (fun _=>?_) <;> refine R_run hg.ok 1000 rfl rfl ?_
    exact R_next (k+1) ⟨hk2,fun h=>by rw [hm h,idxV,if_neg hxs]⟩ (by omega) ⟨.refl _,.refl _,.refl _,.refl _,Ent.wrap (by omega) (by omega) (by omega),trivial⟩ rfl
  ·have hk2:st.names.length≤k:=ge_dec h rfl
   refine R_to () ?_ ⟨.refl _,.refl _,trivial⟩ rfl
   split
   ·rfl
   ·rename_i hs
    rw [hm hs,List.drop_eq_nil_of_le hk2]; rfl
 rintro _ hno
 refine R_run hg.ok 1000 rfl rfl ?_
 have hv:varR st s=((st.names.length:Int),{ st with names:=st.names++[if s=[95] then [] else s] }):=by
  unfold varR
  rw [hno]
 rw [hv]
 by_cases h95:s=[95]
 ·refine R_if rfl rfl (fun _=>?_) (fun h=>absurd h (by rw [e95,h95]; simp)) <;> refine R_run hg.ok 1000 rfl rfl ?_
  rw [if_pos h95,rdO_snoc]
  refine R_appendO hg.ok (strRows (st.names++[[]])) rfl rfl rfl rfl rfl rfl rfl rfl rfl (by simp) (by simp [one1]) (strRows_snoc st.names []) (by rw [strRows_len]; simp; omega) (by rw [strRows_len]; simp; omega) ?_
  refine R_run hg.ok 1000 rfl rfl ?_
  refine R_lenO hg.ok rfl rfl rfl rfl rfl (n:=((st.names.length+1:Nat):Int)) (by rw [strRows_len]; simp) ?_
  refine R_run hg.ok 1000 rfl rfl ?_
  refine R_see 4 rfl (Ent.wrap (n:=(st.names.length:Int)) (by omega) (by omega) (by omega)) ?_
  exact R_retS hg 2 5 (Nat.le_refl _) rfl rfl (hk2 [] _)
 ·refine R_if rfl rfl (fun h=>absurd h (by rw [e95]; simpa using h95)) (fun _=>?_) <;> refine R_run hg.ok 1000 rfl rfl ?_
  rw [if_neg h95,rdO_snoc]
  refine R_appendO hg.ok (strRows (st.names++[s])) rfl rfl rfl rfl rfl rfl rfl rfl rfl (by simp) (by simp [one1]) (strRows_snoc st.names s) (by rw [strRows_len]; simp; omega) (by rw [strRows_len]; simp; omega) ?_
  refine R_run hg.ok 1000 rfl rfl ?_
  refine R_lenO hg.ok rfl rfl rfl rfl rfl (n:=((st.names.length+1:Nat):Int)) (by rw [strRows_len]; simp) ?_
  refine R_run hg.ok 1000 rfl rfl ?_
  refine R_see 4 rfl (Ent.wrap (n:=(st.names.length:Int)) (by omega) (by omega) (by omega)) ?_
  exact R_retS hg 2 5 (Nat.le_refl _) rfl rfl (hk2 s _)
end Go.Proofs.YtcgkgofmldhokaaGreat

namespace Go.Proofs.YtcgkgofmldhokaaGreat
open Go PSL Go.Proofs

def rdX (S:Bs) (L:List Tk) (st:RSt) (deep:Int):List Ob:=rdO S L st deep st.lay
theorem rdX_keep (S:Bs) (L:List Tk) (st:RSt) (deep:Int) (n0:Nat) (o:List Ob) (hn:2≤n0):(rdX S L st deep).map (mapOb (sealT false n0 o 5))=rdX S L st deep:=rdO_keep _ _ _ _ _ _ _ hn
theorem rdX_ren (S:Bs) (L:List Tk) (st:RSt) (deep:Int) (n:Nat) (l:List Nat):(rdX S L st deep).map (renOb (rn (0::1::l) n))=rdX S L st deep:=rdO_ren _ _ _ _ _ _ _
theorem xPeek (Y:YP) (S0:Bs) (L:List Tk) (st:RSt) (deep:Int):SCtr Tryz.prog Y 96 [.lo 0 0] (rdX S0 L st deep) (tkA (peekR L st)) (rdX S0 L st deep):=rdPeek_ok Y S0 L st deep st.lay

theorem xFail (Y:YP) (S0:Bs) (L:List Tk) (st:RSt) (deep c:Int):SCtr Tryz.prog Y 97 [.lo 0 0,iV c] (rdX S0 L st deep) (.tup []) (rdX S0 L (failR L S0.length st c) deep):=by
 have:=rdFail_ok Y S0 L st deep st.lay c
 unfold rdX
 rwa [show (failR L S0.length st c).lay=st.lay by unfold failR; split <;> rfl]

theorem xMark (Y:YP) (S0:Bs) (L:List Tk) (hL:L.length≤9000) (st:RSt) (deep:Int) (s:Bs):SCtr Tryz.prog Y 148 [.lo 0 0,.d (.v (.string (Tx s)))] (rdX S0 L st deep) (bV (isMk (peekR L st) s)) (rdX S0 L (if isMk (peekR L st) s then nxR st else st) deep):=by
 have:=rdMark_ok Y S0 L hL st deep st.lay s
 unfold rdX
 rwa [show (if isMk (peekR L st) s then nxR st else st).lay=st.lay by split <;> rfl]

theorem xMust (Y:YP) (S0:Bs) (L:List Tk) (hL:L.length≤9000) (st:RSt) (deep:Int) (s:Bs):SCtr Tryz.prog Y 149 [.lo 0 0,.d (.v (.string (Tx s)))] (rdX S0 L st deep) (.tup []) (rdX S0 L (mustR L S0.length st s) deep):=by
 have:=rdMust_ok Y S0 L hL st deep st.lay s
 unfold rdX
 rwa [show (mustR L S0.length st s).lay=st.lay by unfold mustR failR; split <;> first | rfl | (split <;> rfl)]

theorem xIn (Y:YP) (S0:Bs) (L:List Tk) (st:RSt) (deep:Int):SCtr Tryz.prog Y 118 [.lo 0 0] (rdX S0 L st deep) (infA (inT (peekR L st))) (rdX S0 L (inS L st) deep):=by
 have:=rdIn_ok Y S0 L st deep st.lay
 unfold rdX inS
 split at this
 ·rename_i h; rw [if_pos h]; exact this
 ·rename_i h; rw [if_neg h]; exact this

theorem xBegins (Y:YP) (S0:Bs) (L:List Tk) (st:RSt) (deep:Int):SCtr Tryz.prog Y 155 [.lo 0 0] (rdX S0 L st deep) (bV (begR L st)) (rdX S0 L (begS L st) deep):=by
 have:=rdBegins_ok Y S0 L st deep st.lay
 unfold rdX begS
 split at this
 ·rename_i h; rw [if_pos h]; exact this
 ·rename_i h; rw [if_neg h]; exact this

theorem xVar (Y:YP) (S0:Bs) (L:List Tk) (st:RSt) (hn:st.names.length≤20000) (deep:Int) (s:Bs):SCtr Tryz.prog Y 146 [.lo 0 0,.d (.v (.string (Tx s)))] (rdX S0 L st deep) (iV (varR st s).1) (rdX S0 L (varR st s).2 deep):=by
 have:=rdVar_ok Y S0 L st hn deep st.lay s
 unfold rdX
 rwa [(var_at s).2.2.1]

def TCtr (Y:YP) (S0:Bs) (L:List Tk) (T:TF):Prop:=∀ (deep:Nat) (p:Int) (st:RSt) (t:Tm) (st':RSt),T deep p st=some (t,st')→deep≤1000→RInv L st→SCtr Tryz.prog Y 95 [.lo 0 0,iV p] (rdX S0 L st deep) t.av (rdX S0 L st' deep)
end Go.Proofs.YtcgkgofmldhokaaGreat

namespace Go.Proofs.YtcgkgofmldhokaaGreat
open Go PSL Go.Proofs
def rwT (t:Tm):List D:=[.v (.int .i64 t.k),.v (.string t.s),.v (.int .i64 t.n),.sl (Tm.rows t.l)]
theorem rwT_rows (l:List Tm):l.map rwT=Tm.rows l:=by rw [Tm.rows_eq]; rfl
theorem rwT_snoc (l:List Tm) (x:Tm):l.map rwT++[rwT x]=Tm.rows (l++[x]):=by rw [← rwT_rows]; simp
theorem rwT_snoc2 (l:List Tm) (x:Tm):Tm.rows l++[rwT x]=Tm.rows (l++[x]):=by rw [← rwT_rows,← rwT_rows]; simp

def accS:Tm ⊕ List Tm × Nat→List Tm
 | .inl t=>[t]
 | .inr p=>p.1

def sevE (S0:Bs) (L:List Tk) (deep:Int) (s:Bs):(Nat × RSt × (Tm ⊕ List Tm × Nat))→Env × List Ob
 | (_,st,.inl t)=>([(0,.lo 0 0),(1,.d (.v (.string (Tx s)))),(5,.fs [rwT t])],rdX S0 L st deep)
 | (_,st,.inr p)=>([(0,.lo 0 0),(1,.d (.v (.string (Tx s)))),(5,.ow 2 p.2)],rdX S0 L st deep++[.arr 4 p.2 (Tm.rows p.1)])

set_option maxRecDepth 100000 in
theorem rdSeveral_ok (Y:YP) (S0:Bs) (L:List Tk) (hL:L.length≤9000) {T:TF} (hT:TCtr Y S0 L T) (hG:TGood L T) (deep:Nat) (hd:deep≤1000) (st:RSt) (hi:RInv L st) (l:List Tm) (st':RSt) (h:rowR L T deep st=some (l,st')) (s:Bs) :
  SCtr Tryz.prog Y 154 [.lo 0 0,.d (.v (.string (Tx s)))] (rdX S0 L st deep) (.d (.sl (Tm.rows l))) (rdX S0 L (mustR L S0.length st' s) deep):=by
 obtain ⟨⟨t,st1⟩,h1,h2⟩:=Option.bind_eq_some_iff.1 h
 simp only at h2
 refine SCtr.of_R (pf:=fun _=>.eff) tyOk mixed Tryz.func154 rfl (by kernel_rfl) (by kernel_rfl) (by simp [Tryz.ntmps154]) (by simp [rdX,rdO,robj]) fun w S φ hg=>?_
 have hφ:φ.length=2:=hg.hs0.len
 have hk:∀ (st:RSt) (o:List Ob),(rdX S0 L st deep).map (mapOb (sealT false 2 o 5))=rdX S0 L st deep:=fun st o=>rdX_keep _ _ _ _ _ _ (Nat.le_refl _)
 refine R_run hg.ok 1000 rfl rfl ?_
 refine R_callSO hg.ok hg.gup hg.wide hg.Y [0,1] (rdX S0 L st1 deep) (hT deep 999 st t st1 h1 hd hi) (fun _=>rfl) rfl rfl rfl rfl rfl (by rw [rdX_ren]; rfl) rfl (by rw [rdX_ren]; rfl) ?_
 refine R_run hg.ok 1000 rfl rfl ?_
 refine R_cut2 (fun o:Tm ⊕ List Tm × Nat=>sevE S0 L deep s (0,st',o)) (fun o=>accS o=l) rfl ?_ ?_
 ·refine R_loop (sevE S0 L deep s) (fun x=>manyR L T x.1 deep x.2.1 (accS x.2.2)=some (l,st')∧RInv L x.2.1∧(accS x.2.2).length+x.1≤L.length+3) (fun x=>x.1) (L.length+2,st1,.inl t) ⟨h2,hG _ _ _ _ _ h1 hi,by simp [accS]; omega⟩ ⟨.refl _,.refl _,.refl _,trivial⟩ rfl ?_
  rintro ⟨f,st2,o⟩ ⟨hm,hi2,hl⟩
  simp only at hm hi2 hl
  cases f with
  | zero=>cases hm
  | succ f =>
  simp only [manyR] at hm
  have hM:=xMark Y S0 L hL st2 deep [44]
  cases hmk:isMk (peekR L st2) [44] with
  | false =>
   rw [hmk] at hm hM
   simp only [Bool.false_eq_true,if_false] at hm hM
   have hm:=Option.some.inj hm
   obtain ⟨ha,rfl⟩:=Prod.mk.inj hm
   cases o with
   | inl t2 =>
    refine R_run hg.ok 1000 rfl rfl ?_
    refine R_callSO hg.ok hg.gup hg.wide hg.Y [0,1] (rdX S0 L st2 deep) hM (fun _=>rfl) rfl rfl rfl rfl rfl (by rw [rdX_ren]; rfl) rfl (by rw [rdX_ren]; rfl) ?_
    refine R_run hg.ok 1000 rfl rfl ?_
    refine R_if rfl rfl (fun h=>absurd h (by simp)) (fun _=>?_) <;> refine R_run hg.ok 1000 rfl rfl ?_
    exact R_to (.inl t2) ha ⟨.refl _,.refl _,.refl _,trivial⟩ rfl
   | inr p =>
    refine R_run hg.ok 1000 rfl rfl ?_
    refine R_callSO hg.ok hg.gup hg.wide hg.Y [0,1] (rdX S0 L st2 deep++[.arr 4 p.2 (Tm.rows p.1)]) hM (fun _=>rfl) rfl rfl rfl rfl rfl (by rw [rdX_ren]; rfl) rfl (by rw [rdX_ren]; rfl) ?_
    refine R_run hg.ok 1000 rfl rfl ?_
    refine R_if rfl rfl (fun h=>absurd h (by simp)) (fun _=>?_) <;> refine R_run hg.ok 1000 rfl rfl ?_
    exact R_to (.inr p) ha ⟨.refl _,.refl _,.refl _,trivial⟩ rfl
  | true =>
   rw [hmk] at hm hM
   simp only [if_true] at hm hM
   obtain ⟨⟨x,st3⟩,hx,hm⟩:=Option.bind_eq_some_iff.1 hm
   have hi3:=hi2.nx (isMk_lt hmk).2
   have hc:=hT deep 999 (nxR st2) x st3 hx hd hi3
   have hi4:=hG _ _ _ _ _ hx hi3
   cases o with
   | inl t2 =>
    refine R_run hg.ok 1000 rfl rfl ?_
    refine R_callSO hg.ok hg.gup hg.wide hg.Y [0,1] (rdX S0 L (nxR st2) deep) hM (fun _=>rfl) rfl rfl rfl rfl rfl (by rw [rdX_ren]; rfl) rfl (by rw [rdX_ren]; rfl) ?_
    refine R_run hg.ok 1000 rfl rfl ?_
    refine R_if rfl rfl (fun _=>?_) (fun h=>absurd h (by simp)) <;> refine R_run hg.ok 1000 rfl rfl ?_
    refine R_callSO hg.ok hg.gup hg.wide hg.Y [0,1] (rdX S0 L st3 deep) hc (fun _=>rfl) rfl rfl rfl rfl rfl (by rw [rdX_ren]; rfl) rfl (by rw [rdX_ren]; rfl) ?_
    refine R_run hg.ok 1000 rfl rfl ?_
    refine R_appendF hg.ok rfl rfl (.inl rfl) rfl (.inr (by simp)) rfl rfl rfl (by simp [rwT]) (by simp) (by simp) (by simp) ?_
    refine R_run hg.ok 1000 rfl rfl ?_
    exact R_next (f,st3,.inr ([t2]++[x],0)) ⟨hm,hi4,by simp [accS] at hl ⊢; omega⟩ (by simp only; omega) ⟨.refl _,.refl _,.refl _,trivial⟩ (congrArg (fun r=>rdX S0 L st3 deep++[Ob.arr 4 0 r]) (rwT_snoc [t2] x))
   | inr p =>
    refine R_run hg.ok 1000 rfl rfl ?_
    refine R_callSO hg.ok hg.gup hg.wide hg.Y [0,1] (rdX S0 L (nxR st2) deep++[.arr 4 p.2 (Tm.rows p.1)]) hM (fun _=>rfl) rfl rfl rfl rfl rfl (by rw [rdX_ren]; rfl) rfl (by rw [rdX_ren]; rfl) ?_
    refine R_run hg.ok 1000 rfl rfl ?_
    refine R_if rfl rfl (fun _=>?_) (fun h=>absurd h (by simp)) <;> refine R_run hg.ok 1000 rfl rfl ?_
    refine R_callSO hg.ok hg.gup hg.wide hg.Y [0,1] (rdX S0 L st3 deep++[.arr 4 p.2 (Tm.rows p.1)]) hc (fun _=>rfl) rfl rfl rfl rfl rfl (by rw [rdX_ren]; rfl) rfl (by rw [rdX_ren]; rfl) ?_
    refine R_run hg.ok 1000 rfl rfl ?_
    have hpl:(Tm.rows p.1).length=p.1.length:=Tm.rows_length _
    simp only [accS] at hl
    refine R_appendO hg.ok (Tm.rows (p.1++[x])) rfl rfl rfl rfl rfl rfl rfl rfl rfl (by simp) (by simp [one1]) (rwT_snoc2 p.1 x) (by simp; omega) (by simp; omega) ?_
    refine R_run hg.ok 1000 rfl rfl ?_
    exact R_next (f,st3,.inr (p.1++[x],p.2+1)) ⟨hm,hi4,by simp [accS]; omega⟩ (by simp only; omega) ⟨.refl _,.refl _,.refl _,trivial⟩ rfl
 rintro o ho
 cases o with
 | inl t2 =>
  refine R_run hg.ok 1000 rfl rfl ?_
  refine R_callSO hg.ok hg.gup hg.wide hg.Y [0,1] (rdX S0 L (mustR L S0.length st' s) deep) (xMust Y S0 L hL st' deep s) (fun _=>rfl) rfl rfl rfl rfl rfl (by rw [rdX_ren]; rfl) rfl (by rw [rdX_ren]; rfl) ?_
  refine R_run hg.ok 1000 rfl rfl ?_
  have hr:Tm.rows l=[rwT t2]:=by rw [← ho,← rwT_rows]; rfl
  rw [hr]
  exact R_retS hg 2 5 (Nat.le_refl _) rfl rfl (hk _ _)
 | inr p =>
  obtain rfl:p.1=l:=ho
  refine R_run hg.ok 1000 rfl rfl ?_
  refine R_callSO hg.ok hg.gup hg.wide hg.Y [0,1] (rdX S0 L (mustR L S0.length st' s) deep++[.arr 4 p.2 (Tm.rows p.1)]) (xMust Y S0 L hL st' deep s) (fun _=>rfl) rfl rfl rfl rfl rfl (by rw [rdX_ren]; rfl) rfl (by rw [rdX_ren]; rfl) ?_
  refine R_run hg.ok 1000 rfl rfl ?_
  exact R_retS hg 2 5 (Nat.le_refl _) rfl (sealT_ow rfl rfl) (hk _ _)
end Go.Proofs.YtcgkgofmldhokaaGreat
