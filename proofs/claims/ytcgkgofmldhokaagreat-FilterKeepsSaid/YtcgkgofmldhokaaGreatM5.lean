import Derived.Test.YtcgkgofmldhokaaGreatM4
import Derived.Laws.StructEq
set_option maxRecDepth 100000
set_option maxHeartbeats 4000000
namespace Go.Proofs.YtcgkgofmldhokaaGreat
open Go PSL Go.Proofs
def pfGol:Nat→Cls:=fun f=>bif Nat.beq f 4000100004 then .look 4 else bif Nat.beq f 98 then .turn 3 else .eff
def golB (t:Tm):Ob:=.box [.d (.v (.int .i64 t.k)),.d (.v (.string t.s)),.d (.v (.int .i64 t.n)),.d (.sl (Tm.rows t.l))]

def golL (t:Tm)(deep:Int)(cuts:Bool):List Ob:=[.box [.lo 0 0],golB t,.box [iV deep],.box [bV cuts],.box [.d (.v (.string (sgOf t).1)),.d (.v (.int .i64 (sgOf t).2))]]

def GolO (Y:YP) (n:Nat):Prop:=∀ (t:Tm) (st:Int × Int) (deep:Int) (cuts:Bool),SmT t→noCh t=true→t.size≤n→(t.size:Int) - 1000000000≤st.1→st.1≤1000→0≤deep→deep+t.size≤1000000000 →
 ∃s,SCtr Tryz.prog Y 98 [.lo 0 0,t.av,iV deep,bV cuts] (mkO st) (.ow 1 s) (mkO (golF n t st deep cuts).2++[.arr 8 s (Gl.rows (golF n t st deep cuts).1)])

def GolD (Y:YP) (n:Nat):Prop:=∀ (t:Tm) (st:Int × Int) (deep:Int) (cuts:Bool),SmT t→noCh t=true→t.size≤n→(t.size:Int) - 1000000000≤st.1→st.1≤1000→0≤deep→deep+t.size≤1000000000 →
 SCtr Tryz.prog Y 98 [.lo 0 0,t.av,iV deep,bV cuts] (mkO st) (.d (.sl (Gl.rows (golF n t st deep cuts).1))) (mkO (golF n t st deep cuts).2)
theorem argT_get {t:Tm}{i:Nat}(h:i<t.l.length):t.l[i]? = some (argT t i):=by unfold argT;rw[List.getElem?_eq_getElem h];rfl
theorem glRows_app (a b:List Gl):Gl.rows (a++b)=Gl.rows a++Gl.rows b:=by rw[Gl.rows_eq,Gl.rows_eq,Gl.rows_eq,List.map_append]

theorem glRows_8 (l:List Gl):∀r∈Gl.rows l,r.length=8:=by
 rw[Gl.rows_eq]
 intro r hr
 obtain⟨g,_,rfl⟩:=List.mem_map.1 hr
 rfl

theorem glRows_1 (l:List Gl):∀r∈Gl.rows l,∀x∈r,one1 (.d x)=true:=by
 rw[Gl.rows_eq]
 intro r hr
 obtain⟨g,_,rfl⟩:=List.mem_map.1 hr
 simp[Gl.row,one1]

theorem golO_step (Y:YP)(n:Nat)(ihO:GolO Y n)(ihD:GolD Y n):GolO Y (n+1):=by
 intro t st deep cuts ht hc hsz h1 h2 h3 h4
 have htp:=Gl.tmPos t
 obtain⟨hO,hI⟩:=noCh_sg hc
 rw[golF_succ]
 by_cases c0:(if t.k=3 then st else failM st 5).2≠0
 ·rw [if_pos c0]
  by_cases hk:t.k=3
  ·rw [if_pos hk] at c0 ⊢
   refine⟨0,?_⟩
   refine SCtr.of_R (pf:=pfGol) tyOk mixed Tryz.func98 rfl (by kernel_rfl) (by kernel_rfl) (by simp[Tryz.ntmps98]) (by simp[mkO]) fun w S φ hg=>?_
   refine R_k hg.ok rfl rfl ?_
   refine R_call hg.ok (signOf_ok t) rfl rfl rfl rfl rfl rfl ?_
   refine R_k hg.ok rfl rfl ?_
   refine R_if rfl rfl (fun h=>absurd h (by simp[hk])) (fun _=>?_)<;>refine R_k hg.ok rfl rfl ?_
   refine R_load4 hg.ok (by show φ.length≤1;exact Nat.le_of_eq hg.hs0.len) rfl rfl rfl rfl rfl rfl rfl ?_
   refine R_k hg.ok rfl rfl ?_
   refine R_if rfl rfl (fun _=>?_) (fun h=>absurd h (by simp[c0]))<;>refine R_k hg.ok rfl rfl ?_
   refine R_own 8 8 rfl rfl ?_
   refine R_moveO 1 6 (mkO (st)++[.arr 8 0 (Gl.rows [])]) (by show φ.length≤1;exact Nat.le_of_eq hg.hs0.len) (by decide) rfl rfl rfl ?_
   exact R_retS hg 2 5 (by show (1:Nat)≤2;omega) rfl rfl rfl
  ·rw [if_neg hk] at c0 ⊢
   refine⟨0,?_⟩
   refine SCtr.of_R (pf:=pfGol) tyOk mixed Tryz.func98 rfl (by kernel_rfl) (by kernel_rfl) (by simp[Tryz.ntmps98]) (by simp[mkO]) fun w S φ hg=>?_
   refine R_k hg.ok rfl rfl ?_
   refine R_call hg.ok (signOf_ok t) rfl rfl rfl rfl rfl rfl ?_
   refine R_k hg.ok rfl rfl ?_
   refine R_if rfl rfl (fun _=>?_) (fun h=>absurd h (by simp[hk]))<;>refine R_k hg.ok rfl rfl ?_
   refine R_load4 hg.ok (by show φ.length≤1;exact Nat.le_of_eq hg.hs0.len) rfl rfl rfl rfl rfl rfl rfl ?_
   refine R_k hg.ok rfl rfl ?_
   refine R_callSO hg.ok hg.gup hg.wide hg.Y [0] (mkO (failM st 5)++golL t deep cuts) (mkFail_ok Y st 5) (fun _=>rfl) rfl rfl rfl rfl rfl rfl rfl rfl ?_
   refine R_k hg.ok rfl rfl ?_
   refine R_load4 hg.ok (by show φ.length≤1;exact Nat.le_of_eq hg.hs0.len) rfl rfl rfl rfl rfl rfl rfl ?_
   refine R_k hg.ok rfl rfl ?_
   refine R_if rfl rfl (fun _=>?_) (fun h=>absurd h (by simp[c0]))<;>refine R_k hg.ok rfl rfl ?_
   refine R_own 8 8 rfl rfl ?_
   refine R_moveO 1 6 (mkO (failM st 5)++[.arr 8 0 (Gl.rows [])]) (by show φ.length≤1;exact Nat.le_of_eq hg.hs0.len) (by decide) rfl rfl rfl ?_
   exact R_retS hg 2 5 (by show (1:Nat)≤2;omega) rfl rfl rfl
 rw[if_neg c0]
 have hk:t.k=3:=by
  refine Decidable.byContradiction fun hk=>c0 ?_
  rw[if_neg hk]
  unfold failM
  split
  ·show (5:Int)≠0;decide
  ·assumption
 rw[if_pos hk]at c0
 have he:st.2=0:=Decidable.not_not.1 c0
 by_cases c1:sgOf t=sgC
 ·rw [if_pos c1]
  have hl:t.l.length=2:=sg_len (n:=2) c1
  have hs2:=size_two hl
  have hl0:0<t.l.length:=by omega
  have hl1:1<t.l.length:=by omega
  have hp0:=Gl.tmPos (argT t 0)
  have hp1:=Gl.tmPos (argT t 1)
  obtain⟨_,a2,a3,a4⟩:=golF_ok n (argT t 0) st deep cuts (ht.arg hl0)
  obtain⟨_,b2,_,_⟩:=golF_ok n (argT t 1) (golF n (argT t 0) st deep cuts).2 deep cuts (ht.arg hl1)
  obtain⟨s1,hA⟩:=ihO (argT t 0) st deep cuts (ht.arg hl0) (noCh_arg hc hl0) (by omega) (by omega) (by omega) h3 (by omega)
  obtain⟨s2,hB⟩:=ihO (argT t 1) (golF n (argT t 0) st deep cuts).2 deep cuts (ht.arg hl1) (noCh_arg hc hl1) (by omega) (by omega) (by omega) h3 (by omega)
  have hsa:=Gl.len_size (golF n (argT t 0) st deep cuts).1
  have hsb:=Gl.len_size (golF n (argT t 1) (golF n (argT t 0) st deep cuts).2 deep cuts).1
  have hs:=ht.1
  generalize golF n (argT t 0) st deep cuts=A at *
  generalize golF n (argT t 1) A.2 deep cuts=B at *
  refine⟨Nat.succ s1,?_⟩
  refine SCtr.of_R (pf:=pfGol) tyOk mixed Tryz.func98 rfl (by kernel_rfl) (by kernel_rfl) (by simp[Tryz.ntmps98]) (by simp[mkO]) fun w S φ hg=>?_
  refine R_k hg.ok rfl rfl ?_
  refine R_call hg.ok (signOf_ok t) rfl rfl rfl rfl rfl rfl ?_
  refine R_k hg.ok rfl rfl ?_
  refine R_if rfl rfl (fun h=>absurd h (by simp[hk])) (fun _=>?_)<;>refine R_k hg.ok rfl rfl ?_
  refine R_load4 hg.ok (by show φ.length≤1;exact Nat.le_of_eq hg.hs0.len) rfl rfl rfl rfl rfl rfl rfl ?_
  refine R_k hg.ok rfl rfl ?_
  refine R_if rfl rfl (fun h=>absurd h (by simp[he])) (fun _=>?_)<;>refine R_k hg.ok rfl rfl ?_
  refine R_eqK hg.ok (sgOf t) sgC signCmp rfl rfl rfl rfl ?_
  refine R_k hg.ok rfl rfl ?_
  refine R_if rfl rfl (fun _=>?_) (fun h=>absurd h (by simp[c1]))<;>refine R_k hg.ok rfl rfl ?_
  refine R_load4 hg.ok (by show φ.length≤1;exact Nat.le_of_eq hg.hs0.len) rfl rfl rfl rfl rfl rfl rfl ?_
  refine R_k hg.ok rfl rfl ?_
  refine R_index hg.ok rfl rfl rfl rfl rfl rfl (by decide) (Tm.rows_get (i:=0) (argT_get hl0)) rfl ?_
  refine R_k hg.ok rfl rfl ?_
  refine R_callS3 hg.ok hg.gup hg.wide hg.Y [0] (mkO A.2++golL t deep cuts++[.arr 8 s1 (Gl.rows A.1)]) (hA) (fun _=>rfl) (fun i hi=>by show i<φ.length;have h1:φ.length=1:=hg.hs0.len;simp at hi;omega) rfl rfl rfl rfl rfl rfl rfl rfl ?_
  refine R_k hg.ok rfl rfl ?_
  refine R_load4 hg.ok (by show φ.length≤1;exact Nat.le_of_eq hg.hs0.len) rfl rfl rfl rfl rfl rfl rfl ?_
  refine R_k hg.ok rfl rfl ?_
  refine R_index hg.ok rfl rfl rfl rfl rfl rfl (by decide) (Tm.rows_get (i:=1) (argT_get hl1)) rfl ?_
  refine R_k hg.ok rfl rfl ?_
  refine R_callS3 hg.ok hg.gup hg.wide hg.Y [0] (mkO B.2++golL t deep cuts++[.arr 8 s1 (Gl.rows A.1),.arr 8 s2 (Gl.rows B.1)]) (hB) (fun _=>rfl) (fun i hi=>by show i<φ.length;have h1:φ.length=1:=hg.hs0.len;simp at hi;omega) rfl rfl rfl rfl rfl rfl rfl rfl ?_
  refine R_k hg.ok rfl rfl ?_
  refine R_appendOO hg.ok rfl rfl rfl rfl rfl rfl rfl rfl rfl rfl (glRows_8 _) (glRows_1 _) (by rw[Gl.rows_length,Gl.rows_length];simp only[Ty.bytes];omega) (by rw[Gl.rows_length,Gl.rows_length];omega) ?_
  refine R_k hg.ok rfl rfl ?_
  rw[glRows_app]
  refine R_moveO 1 6 (mkO (B.2)++[.arr 8 (Nat.succ s1) (Gl.rows A.1++Gl.rows B.1)]) (by show φ.length≤1;exact Nat.le_of_eq hg.hs0.len) (by decide) rfl rfl rfl ?_
  exact R_retS hg 2 5 (by show (1:Nat)≤2;omega) rfl rfl rfl
 rw[if_neg c1]
 by_cases c2:sgOf t=sgT
 ·rw [if_pos c2]
  refine⟨0,?_⟩
  refine SCtr.of_R (pf:=pfGol) tyOk mixed Tryz.func98 rfl (by kernel_rfl) (by kernel_rfl) (by simp[Tryz.ntmps98]) (by simp[mkO]) fun w S φ hg=>?_
  refine R_k hg.ok rfl rfl ?_
  refine R_call hg.ok (signOf_ok t) rfl rfl rfl rfl rfl rfl ?_
  refine R_k hg.ok rfl rfl ?_
  refine R_if rfl rfl (fun h=>absurd h (by simp[hk])) (fun _=>?_)<;>refine R_k hg.ok rfl rfl ?_
  refine R_load4 hg.ok (by show φ.length≤1;exact Nat.le_of_eq hg.hs0.len) rfl rfl rfl rfl rfl rfl rfl ?_
  refine R_k hg.ok rfl rfl ?_
  refine R_if rfl rfl (fun h=>absurd h (by simp[he])) (fun _=>?_)<;>refine R_k hg.ok rfl rfl ?_
  refine R_eqK hg.ok (sgOf t) sgC signCmp rfl rfl rfl rfl ?_
  refine R_k hg.ok rfl rfl ?_
  refine R_if rfl rfl (fun h=>absurd h (by simp[c1])) (fun _=>?_)<;>refine R_k hg.ok rfl rfl ?_
  refine R_eqK hg.ok (sgOf t) sgT signCmp rfl rfl rfl rfl ?_
  refine R_k hg.ok rfl rfl ?_
  refine R_if rfl rfl (fun _=>?_) (fun h=>absurd h (by simp[c2]))<;>refine R_k hg.ok rfl rfl ?_
  refine R_own 8 8 rfl rfl ?_
  refine R_moveO 1 6 (mkO (st)++[.arr 8 0 (Gl.rows [])]) (by show φ.length≤1;exact Nat.le_of_eq hg.hs0.len) (by decide) rfl rfl rfl ?_
  exact R_retS hg 2 5 (by show (1:Nat)≤2;omega) rfl rfl rfl
 rw[if_neg c2]
 by_cases c3:st.1 - 1<0∨10<deep
 ·rw [if_pos c3]
  by_cases c3a:st.1 - 1<0
  ·refine ⟨0,?_⟩
   refine SCtr.of_R (pf:=pfGol) tyOk mixed Tryz.func98 rfl (by kernel_rfl) (by kernel_rfl) (by simp[Tryz.ntmps98]) (by simp[mkO]) fun w S φ hg=>?_
   refine R_k hg.ok rfl rfl ?_
   refine R_call hg.ok (signOf_ok t) rfl rfl rfl rfl rfl rfl ?_
   refine R_k hg.ok rfl rfl ?_
   refine R_if rfl rfl (fun h=>absurd h (by simp[hk])) (fun _=>?_)<;>refine R_k hg.ok rfl rfl ?_
   refine R_load4 hg.ok (by show φ.length≤1;exact Nat.le_of_eq hg.hs0.len) rfl rfl rfl rfl rfl rfl rfl ?_
   refine R_k hg.ok rfl rfl ?_
   refine R_if rfl rfl (fun h=>absurd h (by simp[he])) (fun _=>?_)<;>refine R_k hg.ok rfl rfl ?_
   refine R_eqK hg.ok (sgOf t) sgC signCmp rfl rfl rfl rfl ?_
   refine R_k hg.ok rfl rfl ?_
   refine R_if rfl rfl (fun h=>absurd h (by simp[c1])) (fun _=>?_)<;>refine R_k hg.ok rfl rfl ?_
   refine R_eqK hg.ok (sgOf t) sgT signCmp rfl rfl rfl rfl ?_
   refine R_k hg.ok rfl rfl ?_
   refine R_if rfl rfl (fun h=>absurd h (by simp[c2])) (fun _=>?_)<;>refine R_k hg.ok rfl rfl ?_
   refine R_load4 hg.ok (by show φ.length≤1;exact Nat.le_of_eq hg.hs0.len) rfl rfl rfl rfl rfl rfl rfl ?_
   refine R_k hg.ok rfl rfl ?_
   rw[w64 (n:=st.1 - 1) (by omega) (by omega)]
   refine R_load4 hg.ok (by show φ.length≤1;exact Nat.le_of_eq hg.hs0.len) rfl rfl rfl rfl rfl rfl rfl ?_
   refine R_k hg.ok rfl rfl ?_
   refine R_if rfl rfl (fun _=>?_) (fun h=>absurd (of_decide_eq_false h) (by omega))<;>refine R_k hg.ok rfl rfl ?_
   refine R_load4 hg.ok (by show φ.length≤1;exact Nat.le_of_eq hg.hs0.len) rfl rfl rfl rfl rfl rfl rfl ?_
   refine R_k hg.ok rfl rfl ?_
   refine R_callSO hg.ok hg.gup hg.wide hg.Y [0] (mkO (failM (st.1 - 1,st.2) 3)++golL t deep cuts) (mkFail_ok Y (st.1 - 1,st.2) 3) (fun _=>rfl) rfl rfl rfl rfl rfl rfl rfl rfl ?_
   refine R_k hg.ok rfl rfl ?_
   refine R_own 8 8 rfl rfl ?_
   refine R_moveO 1 6 (mkO (failM (st.1 - 1,st.2) 3)++[.arr 8 0 (Gl.rows [])]) (by show φ.length≤1;exact Nat.le_of_eq hg.hs0.len) (by decide) rfl rfl rfl ?_
   exact R_retS hg 2 5 (by show (1:Nat)≤2;omega) rfl rfl rfl
  ·refine ⟨0,?_⟩
   refine SCtr.of_R (pf:=pfGol) tyOk mixed Tryz.func98 rfl (by kernel_rfl) (by kernel_rfl) (by simp[Tryz.ntmps98]) (by simp[mkO]) fun w S φ hg=>?_
   refine R_k hg.ok rfl rfl ?_
   refine R_call hg.ok (signOf_ok t) rfl rfl rfl rfl rfl rfl ?_
   refine R_k hg.ok rfl rfl ?_
   refine R_if rfl rfl (fun h=>absurd h (by simp[hk])) (fun _=>?_)<;>refine R_k hg.ok rfl rfl ?_
   refine R_load4 hg.ok (by show φ.length≤1;exact Nat.le_of_eq hg.hs0.len) rfl rfl rfl rfl rfl rfl rfl ?_
   refine R_k hg.ok rfl rfl ?_
   refine R_if rfl rfl (fun h=>absurd h (by simp[he])) (fun _=>?_)<;>refine R_k hg.ok rfl rfl ?_
   refine R_eqK hg.ok (sgOf t) sgC signCmp rfl rfl rfl rfl ?_
   refine R_k hg.ok rfl rfl ?_
   refine R_if rfl rfl (fun h=>absurd h (by simp[c1])) (fun _=>?_)<;>refine R_k hg.ok rfl rfl ?_
   refine R_eqK hg.ok (sgOf t) sgT signCmp rfl rfl rfl rfl ?_
   refine R_k hg.ok rfl rfl ?_
   refine R_if rfl rfl (fun h=>absurd h (by simp[c2])) (fun _=>?_)<;>refine R_k hg.ok rfl rfl ?_
   refine R_load4 hg.ok (by show φ.length≤1;exact Nat.le_of_eq hg.hs0.len) rfl rfl rfl rfl rfl rfl rfl ?_
   refine R_k hg.ok rfl rfl ?_
   rw[w64 (n:=st.1 - 1) (by omega) (by omega)]
   refine R_load4 hg.ok (by show φ.length≤1;exact Nat.le_of_eq hg.hs0.len) rfl rfl rfl rfl rfl rfl rfl ?_
   refine R_k hg.ok rfl rfl ?_
   refine R_if rfl rfl (fun h=>absurd (of_decide_eq_true h) (by omega)) (fun _=>?_)<;>refine R_k hg.ok rfl rfl ?_
   refine R_if rfl rfl (fun _=>?_) (fun h=>absurd (of_decide_eq_false h) (by omega))<;>refine R_k hg.ok rfl rfl ?_
   refine R_load4 hg.ok (by show φ.length≤1;exact Nat.le_of_eq hg.hs0.len) rfl rfl rfl rfl rfl rfl rfl ?_
   refine R_k hg.ok rfl rfl ?_
   refine R_callSO hg.ok hg.gup hg.wide hg.Y [0] (mkO (failM (st.1 - 1,st.2) 3)++golL t deep cuts) (mkFail_ok Y (st.1 - 1,st.2) 3) (fun _=>rfl) rfl rfl rfl rfl rfl rfl rfl rfl ?_
   refine R_k hg.ok rfl rfl ?_
   refine R_own 8 8 rfl rfl ?_
   refine R_moveO 1 6 (mkO (failM (st.1 - 1,st.2) 3)++[.arr 8 0 (Gl.rows [])]) (by show φ.length≤1;exact Nat.le_of_eq hg.hs0.len) (by decide) rfl rfl rfl ?_
   exact R_retS hg 2 5 (by show (1:Nat)≤2;omega) rfl rfl rfl
 rw[if_neg c3]
 by_cases c4:sgOf t=sgX
 ·rw [if_pos c4]
  cases cuts with
  |true =>
   refine⟨0,?_⟩
   refine SCtr.of_R (pf:=pfGol) tyOk mixed Tryz.func98 rfl (by kernel_rfl) (by kernel_rfl) (by simp[Tryz.ntmps98]) (by simp[mkO]) fun w S φ hg=>?_
   refine R_k hg.ok rfl rfl ?_
   refine R_call hg.ok (signOf_ok t) rfl rfl rfl rfl rfl rfl ?_
   refine R_k hg.ok rfl rfl ?_
   refine R_if rfl rfl (fun h=>absurd h (by simp[hk])) (fun _=>?_)<;>refine R_k hg.ok rfl rfl ?_
   refine R_load4 hg.ok (by show φ.length≤1;exact Nat.le_of_eq hg.hs0.len) rfl rfl rfl rfl rfl rfl rfl ?_
   refine R_k hg.ok rfl rfl ?_
   refine R_if rfl rfl (fun h=>absurd h (by simp[he])) (fun _=>?_)<;>refine R_k hg.ok rfl rfl ?_
   refine R_eqK hg.ok (sgOf t) sgC signCmp rfl rfl rfl rfl ?_
   refine R_k hg.ok rfl rfl ?_
   refine R_if rfl rfl (fun h=>absurd h (by simp[c1])) (fun _=>?_)<;>refine R_k hg.ok rfl rfl ?_
   refine R_eqK hg.ok (sgOf t) sgT signCmp rfl rfl rfl rfl ?_
   refine R_k hg.ok rfl rfl ?_
   refine R_if rfl rfl (fun h=>absurd h (by simp[c2])) (fun _=>?_)<;>refine R_k hg.ok rfl rfl ?_
   refine R_load4 hg.ok (by show φ.length≤1;exact Nat.le_of_eq hg.hs0.len) rfl rfl rfl rfl rfl rfl rfl ?_
   refine R_k hg.ok rfl rfl ?_
   rw[w64 (n:=st.1 - 1) (by omega) (by omega)]
   refine R_load4 hg.ok (by show φ.length≤1;exact Nat.le_of_eq hg.hs0.len) rfl rfl rfl rfl rfl rfl rfl ?_
   refine R_k hg.ok rfl rfl ?_
   refine R_if rfl rfl (fun h=>absurd (of_decide_eq_true h) (by omega)) (fun _=>?_)<;>refine R_k hg.ok rfl rfl ?_
   refine R_if rfl rfl (fun h=>absurd (of_decide_eq_true h) (by omega)) (fun _=>?_)<;>refine R_k hg.ok rfl rfl ?_
   refine R_eqK hg.ok (sgOf t) sgX signCmp rfl rfl rfl rfl ?_
   refine R_k hg.ok rfl rfl ?_
   refine R_if rfl rfl (fun _=>?_) (fun h=>absurd h (by simp[c4]))<;>refine R_k hg.ok rfl rfl ?_
   refine R_if rfl rfl (fun h=>absurd h (by simp)) (fun _=>?_)<;>refine R_k hg.ok rfl rfl ?_
   refine R_load4 hg.ok (by show φ.length≤1;exact Nat.le_of_eq hg.hs0.len) rfl rfl rfl rfl rfl rfl rfl ?_
   refine R_k hg.ok rfl rfl ?_
   refine R_callSO hg.ok hg.gup hg.wide hg.Y [0] (mkO (st.1 - 1,st.2)++golL t deep true++[.arr 8 0 (Gl.rows [.mk 3 zeroT [] [] []])]) (mkOne_ok Y (st.1 - 1,st.2) (.mk 3 zeroT [] [] [])) (fun _=>rfl) rfl rfl rfl rfl rfl rfl rfl rfl ?_
   refine R_k hg.ok rfl rfl ?_
   refine R_moveO 1 6 (mkO ((st.1 - 1,st.2))++[.arr 8 0 (Gl.rows [.mk 3 zeroT [] [] []])]) (by show φ.length≤1;exact Nat.le_of_eq hg.hs0.len) (by decide) rfl rfl rfl ?_
   exact R_retS hg 2 5 (by show (1:Nat)≤2;omega) rfl rfl rfl
  |false =>
   refine⟨0,?_⟩
   refine SCtr.of_R (pf:=pfGol) tyOk mixed Tryz.func98 rfl (by kernel_rfl) (by kernel_rfl) (by simp[Tryz.ntmps98]) (by simp[mkO]) fun w S φ hg=>?_
   refine R_k hg.ok rfl rfl ?_
   refine R_call hg.ok (signOf_ok t) rfl rfl rfl rfl rfl rfl ?_
   refine R_k hg.ok rfl rfl ?_
   refine R_if rfl rfl (fun h=>absurd h (by simp[hk])) (fun _=>?_)<;>refine R_k hg.ok rfl rfl ?_
   refine R_load4 hg.ok (by show φ.length≤1;exact Nat.le_of_eq hg.hs0.len) rfl rfl rfl rfl rfl rfl rfl ?_
   refine R_k hg.ok rfl rfl ?_
   refine R_if rfl rfl (fun h=>absurd h (by simp[he])) (fun _=>?_)<;>refine R_k hg.ok rfl rfl ?_
   refine R_eqK hg.ok (sgOf t) sgC signCmp rfl rfl rfl rfl ?_
   refine R_k hg.ok rfl rfl ?_
   refine R_if rfl rfl (fun h=>absurd h (by simp[c1])) (fun _=>?_)<;>refine R_k hg.ok rfl rfl ?_
   refine R_eqK hg.ok (sgOf t) sgT signCmp rfl rfl rfl rfl ?_
   refine R_k hg.ok rfl rfl ?_
   refine R_if rfl rfl (fun h=>absurd h (by simp[c2])) (fun _=>?_)<;>refine R_k hg.ok rfl rfl ?_
   refine R_load4 hg.ok (by show φ.length≤1;exact Nat.le_of_eq hg.hs0.len) rfl rfl rfl rfl rfl rfl rfl ?_
   refine R_k hg.ok rfl rfl ?_
   rw[w64 (n:=st.1 - 1) (by omega) (by omega)]
   refine R_load4 hg.ok (by show φ.length≤1;exact Nat.le_of_eq hg.hs0.len) rfl rfl rfl rfl rfl rfl rfl ?_
   refine R_k hg.ok rfl rfl ?_
   refine R_if rfl rfl (fun h=>absurd (of_decide_eq_true h) (by omega)) (fun _=>?_)<;>refine R_k hg.ok rfl rfl ?_
   refine R_if rfl rfl (fun h=>absurd (of_decide_eq_true h) (by omega)) (fun _=>?_)<;>refine R_k hg.ok rfl rfl ?_
   refine R_eqK hg.ok (sgOf t) sgX signCmp rfl rfl rfl rfl ?_
   refine R_k hg.ok rfl rfl ?_
   refine R_if rfl rfl (fun _=>?_) (fun h=>absurd h (by simp[c4]))<;>refine R_k hg.ok rfl rfl ?_
   refine R_if rfl rfl (fun _=>?_) (fun h=>absurd h (by simp))<;>refine R_k hg.ok rfl rfl ?_
   refine R_load4 hg.ok (by show φ.length≤1;exact Nat.le_of_eq hg.hs0.len) rfl rfl rfl rfl rfl rfl rfl ?_
   refine R_k hg.ok rfl rfl ?_
   refine R_callSO hg.ok hg.gup hg.wide hg.Y [0] (mkO (failM (st.1 - 1,st.2) 5)++golL t deep false) (mkFail_ok Y (st.1 - 1,st.2) 5) (fun _=>rfl) rfl rfl rfl rfl rfl rfl rfl rfl ?_
   refine R_k hg.ok rfl rfl ?_
   refine R_load4 hg.ok (by show φ.length≤1;exact Nat.le_of_eq hg.hs0.len) rfl rfl rfl rfl rfl rfl rfl ?_
   refine R_k hg.ok rfl rfl ?_
   refine R_callSO hg.ok hg.gup hg.wide hg.Y [0] (mkO (failM (st.1 - 1,st.2) 5)++golL t deep false++[.arr 8 0 (Gl.rows [.mk 3 zeroT [] [] []])]) (mkOne_ok Y (failM (st.1 - 1,st.2) 5) (.mk 3 zeroT [] [] [])) (fun _=>rfl) rfl rfl rfl rfl rfl rfl rfl rfl ?_
   refine R_k hg.ok rfl rfl ?_
   refine R_moveO 1 6 (mkO (failM (st.1 - 1,st.2) 5)++[.arr 8 0 (Gl.rows [.mk 3 zeroT [] [] []])]) (by show φ.length≤1;exact Nat.le_of_eq hg.hs0.len) (by decide) rfl rfl rfl ?_
   exact R_retS hg 2 5 (by show (1:Nat)≤2;omega) rfl rfl rfl
 rw[if_neg c4]
 by_cases c5:sgOf t=sgN
 ·rw [if_pos c5]
  have hl:t.l.length=1:=sg_len (n:=1) c5
  have hl0:0<t.l.length:=by omega
  have hs1:=size_arg hl0
  have hD:=ihD (argT t 0) (st.1 - 1,st.2) (deep+1) false (ht.arg hl0) (noCh_arg hc hl0) (by omega) (by simp only;omega) (by simp only;omega) (by omega) (by omega)
  generalize golF n (argT t 0) (st.1 - 1,st.2) (deep+1) false=A at *
  refine⟨0,?_⟩
  refine SCtr.of_R (pf:=pfGol) tyOk mixed Tryz.func98 rfl (by kernel_rfl) (by kernel_rfl) (by simp[Tryz.ntmps98]) (by simp[mkO]) fun w S φ hg=>?_
  refine R_k hg.ok rfl rfl ?_
  refine R_call hg.ok (signOf_ok t) rfl rfl rfl rfl rfl rfl ?_
  refine R_k hg.ok rfl rfl ?_
  refine R_if rfl rfl (fun h=>absurd h (by simp[hk])) (fun _=>?_)<;>refine R_k hg.ok rfl rfl ?_
  refine R_load4 hg.ok (by show φ.length≤1;exact Nat.le_of_eq hg.hs0.len) rfl rfl rfl rfl rfl rfl rfl ?_
  refine R_k hg.ok rfl rfl ?_
  refine R_if rfl rfl (fun h=>absurd h (by simp[he])) (fun _=>?_)<;>refine R_k hg.ok rfl rfl ?_
  refine R_eqK hg.ok (sgOf t) sgC signCmp rfl rfl rfl rfl ?_
  refine R_k hg.ok rfl rfl ?_
  refine R_if rfl rfl (fun h=>absurd h (by simp[c1])) (fun _=>?_)<;>refine R_k hg.ok rfl rfl ?_
  refine R_eqK hg.ok (sgOf t) sgT signCmp rfl rfl rfl rfl ?_
  refine R_k hg.ok rfl rfl ?_
  refine R_if rfl rfl (fun h=>absurd h (by simp[c2])) (fun _=>?_)<;>refine R_k hg.ok rfl rfl ?_
  refine R_load4 hg.ok (by show φ.length≤1;exact Nat.le_of_eq hg.hs0.len) rfl rfl rfl rfl rfl rfl rfl ?_
  refine R_k hg.ok rfl rfl ?_
  rw[w64 (n:=st.1 - 1) (by omega) (by omega)]
  refine R_load4 hg.ok (by show φ.length≤1;exact Nat.le_of_eq hg.hs0.len) rfl rfl rfl rfl rfl rfl rfl ?_
  refine R_k hg.ok rfl rfl ?_
  refine R_if rfl rfl (fun h=>absurd (of_decide_eq_true h) (by omega)) (fun _=>?_)<;>refine R_k hg.ok rfl rfl ?_
  refine R_if rfl rfl (fun h=>absurd (of_decide_eq_true h) (by omega)) (fun _=>?_)<;>refine R_k hg.ok rfl rfl ?_
  refine R_eqK hg.ok (sgOf t) sgX signCmp rfl rfl rfl rfl ?_
  refine R_k hg.ok rfl rfl ?_
  refine R_if rfl rfl (fun h=>absurd h (by simp[c4])) (fun _=>?_)<;>refine R_k hg.ok rfl rfl ?_
  refine R_eqK hg.ok (sgOf t) sgO signCmp rfl rfl rfl rfl ?_
  refine R_k hg.ok rfl rfl ?_
  refine R_if rfl rfl (fun h=>absurd h (by simp[hO])) (fun _=>?_)<;>refine R_k hg.ok rfl rfl ?_
  refine R_eqK hg.ok (sgOf t) sgI signCmp rfl rfl rfl rfl ?_
  refine R_k hg.ok rfl rfl ?_
  refine R_if rfl rfl (fun h=>absurd h (by simp[hI])) (fun _=>?_)<;>refine R_k hg.ok rfl rfl ?_
  refine R_eqK hg.ok (sgOf t) sgN signCmp rfl rfl rfl rfl ?_
  refine R_k hg.ok rfl rfl ?_
  refine R_if rfl rfl (fun _=>?_) (fun h=>absurd h (by simp[c5]))<;>refine R_k hg.ok rfl rfl ?_
  refine R_load4 hg.ok (by show φ.length≤1;exact Nat.le_of_eq hg.hs0.len) rfl rfl rfl rfl rfl rfl rfl ?_
  refine R_k hg.ok rfl rfl ?_
  refine R_load4 hg.ok (by show φ.length≤1;exact Nat.le_of_eq hg.hs0.len) rfl rfl rfl rfl rfl rfl rfl ?_
  refine R_k hg.ok rfl rfl ?_
  refine R_index hg.ok rfl rfl rfl rfl rfl rfl (by decide) (Tm.rows_get (i:=0) (argT_get hl0)) rfl ?_
  refine R_k hg.ok rfl rfl ?_
  rw[w64 (n:=deep+1) (by omega) (by omega)]
  refine R_callS3 hg.ok hg.gup hg.wide hg.Y [0] (mkO A.2++golL t deep cuts) (hD) (fun _=>rfl) (fun i hi=>by show i<φ.length;have h1:φ.length=1:=hg.hs0.len;simp at hi;omega) rfl rfl rfl rfl rfl rfl rfl rfl ?_
  refine R_k hg.ok rfl rfl ?_
  refine R_callSO hg.ok hg.gup hg.wide hg.Y [0] (mkO A.2++golL t deep cuts++[.arr 8 0 (Gl.rows [.mk 5 zeroT A.1 [] []])]) (mkOne_ok Y A.2 (.mk 5 zeroT A.1 [] [])) (fun _=>rfl) rfl rfl rfl rfl rfl rfl rfl rfl ?_
  refine R_k hg.ok rfl rfl ?_
  refine R_moveO 1 6 (mkO (A.2)++[.arr 8 0 (Gl.rows [.mk 5 zeroT A.1 [] []])]) (by show φ.length≤1;exact Nat.le_of_eq hg.hs0.len) (by decide) rfl rfl rfl ?_
  exact R_retS hg 2 5 (by show (1:Nat)≤2;omega) rfl rfl rfl
 rw[if_neg c5]
 by_cases c6:bltB (sgOf t)=true
 ·rw [if_pos c6]
  refine⟨0,?_⟩
  refine SCtr.of_R (pf:=pfGol) tyOk mixed Tryz.func98 rfl (by kernel_rfl) (by kernel_rfl) (by simp[Tryz.ntmps98]) (by simp[mkO]) fun w S φ hg=>?_
  refine R_k hg.ok rfl rfl ?_
  refine R_call hg.ok (signOf_ok t) rfl rfl rfl rfl rfl rfl ?_
  refine R_k hg.ok rfl rfl ?_
  refine R_if rfl rfl (fun h=>absurd h (by simp[hk])) (fun _=>?_)<;>refine R_k hg.ok rfl rfl ?_
  refine R_load4 hg.ok (by show φ.length≤1;exact Nat.le_of_eq hg.hs0.len) rfl rfl rfl rfl rfl rfl rfl ?_
  refine R_k hg.ok rfl rfl ?_
  refine R_if rfl rfl (fun h=>absurd h (by simp[he])) (fun _=>?_)<;>refine R_k hg.ok rfl rfl ?_
  refine R_eqK hg.ok (sgOf t) sgC signCmp rfl rfl rfl rfl ?_
  refine R_k hg.ok rfl rfl ?_
  refine R_if rfl rfl (fun h=>absurd h (by simp[c1])) (fun _=>?_)<;>refine R_k hg.ok rfl rfl ?_
  refine R_eqK hg.ok (sgOf t) sgT signCmp rfl rfl rfl rfl ?_
  refine R_k hg.ok rfl rfl ?_
  refine R_if rfl rfl (fun h=>absurd h (by simp[c2])) (fun _=>?_)<;>refine R_k hg.ok rfl rfl ?_
  refine R_load4 hg.ok (by show φ.length≤1;exact Nat.le_of_eq hg.hs0.len) rfl rfl rfl rfl rfl rfl rfl ?_
  refine R_k hg.ok rfl rfl ?_
  rw[w64 (n:=st.1 - 1) (by omega) (by omega)]
  refine R_load4 hg.ok (by show φ.length≤1;exact Nat.le_of_eq hg.hs0.len) rfl rfl rfl rfl rfl rfl rfl ?_
  refine R_k hg.ok rfl rfl ?_
  refine R_if rfl rfl (fun h=>absurd (of_decide_eq_true h) (by omega)) (fun _=>?_)<;>refine R_k hg.ok rfl rfl ?_
  refine R_if rfl rfl (fun h=>absurd (of_decide_eq_true h) (by omega)) (fun _=>?_)<;>refine R_k hg.ok rfl rfl ?_
  refine R_eqK hg.ok (sgOf t) sgX signCmp rfl rfl rfl rfl ?_
  refine R_k hg.ok rfl rfl ?_
  refine R_if rfl rfl (fun h=>absurd h (by simp[c4])) (fun _=>?_)<;>refine R_k hg.ok rfl rfl ?_
  refine R_eqK hg.ok (sgOf t) sgO signCmp rfl rfl rfl rfl ?_
  refine R_k hg.ok rfl rfl ?_
  refine R_if rfl rfl (fun h=>absurd h (by simp[hO])) (fun _=>?_)<;>refine R_k hg.ok rfl rfl ?_
  refine R_eqK hg.ok (sgOf t) sgI signCmp rfl rfl rfl rfl ?_
  refine R_k hg.ok rfl rfl ?_
  refine R_if rfl rfl (fun h=>absurd h (by simp[hI])) (fun _=>?_)<;>refine R_k hg.ok rfl rfl ?_
  refine R_eqK hg.ok (sgOf t) sgN signCmp rfl rfl rfl rfl ?_
  refine R_k hg.ok rfl rfl ?_
  refine R_if rfl rfl (fun h=>absurd h (by simp[c5])) (fun _=>?_)<;>refine R_k hg.ok rfl rfl ?_
  refine R_call hg.ok (builtinT_ok t) rfl rfl rfl rfl rfl rfl ?_
  refine R_k hg.ok rfl rfl ?_
  refine R_if rfl rfl (fun _=>?_) (fun h=>absurd h (by simp[c6]))<;>refine R_k hg.ok rfl rfl ?_
  refine R_load4 hg.ok (by show φ.length≤1;exact Nat.le_of_eq hg.hs0.len) rfl rfl rfl rfl rfl rfl rfl ?_
  refine R_k hg.ok rfl rfl ?_
  refine R_callSO hg.ok hg.gup hg.wide hg.Y [0] (mkO (st.1 - 1,st.2)++golL t deep cuts++[.arr 8 0 (Gl.rows [.mk 2 t [] [] []])]) (mkOne_ok Y (st.1 - 1,st.2) (.mk 2 t [] [] [])) (fun _=>rfl) rfl rfl rfl rfl rfl rfl rfl rfl ?_
  refine R_k hg.ok rfl rfl ?_
  refine R_moveO 1 6 (mkO ((st.1 - 1,st.2))++[.arr 8 0 (Gl.rows [.mk 2 t [] [] []])]) (by show φ.length≤1;exact Nat.le_of_eq hg.hs0.len) (by decide) rfl rfl rfl ?_
  exact R_retS hg 2 5 (by show (1:Nat)≤2;omega) rfl rfl rfl
 rw[if_neg c6]
 by_cases c7:ctlB (sgOf t)=true
 ·rw [if_pos c7]
  refine⟨0,?_⟩
  refine SCtr.of_R (pf:=pfGol) tyOk mixed Tryz.func98 rfl (by kernel_rfl) (by kernel_rfl) (by simp[Tryz.ntmps98]) (by simp[mkO]) fun w S φ hg=>?_
  refine R_k hg.ok rfl rfl ?_
  refine R_call hg.ok (signOf_ok t) rfl rfl rfl rfl rfl rfl ?_
  refine R_k hg.ok rfl rfl ?_
  refine R_if rfl rfl (fun h=>absurd h (by simp[hk])) (fun _=>?_)<;>refine R_k hg.ok rfl rfl ?_
  refine R_load4 hg.ok (by show φ.length≤1;exact Nat.le_of_eq hg.hs0.len) rfl rfl rfl rfl rfl rfl rfl ?_
  refine R_k hg.ok rfl rfl ?_
  refine R_if rfl rfl (fun h=>absurd h (by simp[he])) (fun _=>?_)<;>refine R_k hg.ok rfl rfl ?_
  refine R_eqK hg.ok (sgOf t) sgC signCmp rfl rfl rfl rfl ?_
  refine R_k hg.ok rfl rfl ?_
  refine R_if rfl rfl (fun h=>absurd h (by simp[c1])) (fun _=>?_)<;>refine R_k hg.ok rfl rfl ?_
  refine R_eqK hg.ok (sgOf t) sgT signCmp rfl rfl rfl rfl ?_
  refine R_k hg.ok rfl rfl ?_
  refine R_if rfl rfl (fun h=>absurd h (by simp[c2])) (fun _=>?_)<;>refine R_k hg.ok rfl rfl ?_
  refine R_load4 hg.ok (by show φ.length≤1;exact Nat.le_of_eq hg.hs0.len) rfl rfl rfl rfl rfl rfl rfl ?_
  refine R_k hg.ok rfl rfl ?_
  rw[w64 (n:=st.1 - 1) (by omega) (by omega)]
  refine R_load4 hg.ok (by show φ.length≤1;exact Nat.le_of_eq hg.hs0.len) rfl rfl rfl rfl rfl rfl rfl ?_
  refine R_k hg.ok rfl rfl ?_
  refine R_if rfl rfl (fun h=>absurd (of_decide_eq_true h) (by omega)) (fun _=>?_)<;>refine R_k hg.ok rfl rfl ?_
  refine R_if rfl rfl (fun h=>absurd (of_decide_eq_true h) (by omega)) (fun _=>?_)<;>refine R_k hg.ok rfl rfl ?_
  refine R_eqK hg.ok (sgOf t) sgX signCmp rfl rfl rfl rfl ?_
  refine R_k hg.ok rfl rfl ?_
  refine R_if rfl rfl (fun h=>absurd h (by simp[c4])) (fun _=>?_)<;>refine R_k hg.ok rfl rfl ?_
  refine R_eqK hg.ok (sgOf t) sgO signCmp rfl rfl rfl rfl ?_
  refine R_k hg.ok rfl rfl ?_
  refine R_if rfl rfl (fun h=>absurd h (by simp[hO])) (fun _=>?_)<;>refine R_k hg.ok rfl rfl ?_
  refine R_eqK hg.ok (sgOf t) sgI signCmp rfl rfl rfl rfl ?_
  refine R_k hg.ok rfl rfl ?_
  refine R_if rfl rfl (fun h=>absurd h (by simp[hI])) (fun _=>?_)<;>refine R_k hg.ok rfl rfl ?_
  refine R_eqK hg.ok (sgOf t) sgN signCmp rfl rfl rfl rfl ?_
  refine R_k hg.ok rfl rfl ?_
  refine R_if rfl rfl (fun h=>absurd h (by simp[c5])) (fun _=>?_)<;>refine R_k hg.ok rfl rfl ?_
  refine R_call hg.ok (builtinT_ok t) rfl rfl rfl rfl rfl rfl ?_
  refine R_k hg.ok rfl rfl ?_
  refine R_if rfl rfl (fun h=>absurd h (by simp[c6])) (fun _=>?_)<;>refine R_k hg.ok rfl rfl ?_
  refine R_call hg.ok (controlT_ok t) rfl rfl rfl rfl rfl rfl ?_
  refine R_k hg.ok rfl rfl ?_
  refine R_if rfl rfl (fun _=>?_) (fun h=>absurd h (by simp[c7]))<;>refine R_k hg.ok rfl rfl ?_
  refine R_load4 hg.ok (by show φ.length≤1;exact Nat.le_of_eq hg.hs0.len) rfl rfl rfl rfl rfl rfl rfl ?_
  refine R_k hg.ok rfl rfl ?_
  refine R_callSO hg.ok hg.gup hg.wide hg.Y [0] (mkO (failM (st.1 - 1,st.2) 5)++golL t deep cuts) (mkFail_ok Y (st.1 - 1,st.2) 5) (fun _=>rfl) rfl rfl rfl rfl rfl rfl rfl rfl ?_
  refine R_k hg.ok rfl rfl ?_
  refine R_own 8 8 rfl rfl ?_
  refine R_moveO 1 6 (mkO (failM (st.1 - 1,st.2) 5)++[.arr 8 0 (Gl.rows [])]) (by show φ.length≤1;exact Nat.le_of_eq hg.hs0.len) (by decide) rfl rfl rfl ?_
  exact R_retS hg 2 5 (by show (1:Nat)≤2;omega) rfl rfl rfl
 rw[if_neg c7]
 refine⟨0,?_⟩
 refine SCtr.of_R (pf:=pfGol) tyOk mixed Tryz.func98 rfl (by kernel_rfl) (by kernel_rfl) (by simp[Tryz.ntmps98]) (by simp[mkO]) fun w S φ hg=>?_
 refine R_k hg.ok rfl rfl ?_
 refine R_call hg.ok (signOf_ok t) rfl rfl rfl rfl rfl rfl ?_
 refine R_k hg.ok rfl rfl ?_
 refine R_if rfl rfl (fun h=>absurd h (by simp[hk])) (fun _=>?_)<;>refine R_k hg.ok rfl rfl ?_
 refine R_load4 hg.ok (by show φ.length≤1;exact Nat.le_of_eq hg.hs0.len) rfl rfl rfl rfl rfl rfl rfl ?_
 refine R_k hg.ok rfl rfl ?_
 refine R_if rfl rfl (fun h=>absurd h (by simp[he])) (fun _=>?_)<;>refine R_k hg.ok rfl rfl ?_
 refine R_eqK hg.ok (sgOf t) sgC signCmp rfl rfl rfl rfl ?_
 refine R_k hg.ok rfl rfl ?_
 refine R_if rfl rfl (fun h=>absurd h (by simp[c1])) (fun _=>?_)<;>refine R_k hg.ok rfl rfl ?_
 refine R_eqK hg.ok (sgOf t) sgT signCmp rfl rfl rfl rfl ?_
 refine R_k hg.ok rfl rfl ?_
 refine R_if rfl rfl (fun h=>absurd h (by simp[c2])) (fun _=>?_)<;>refine R_k hg.ok rfl rfl ?_
 refine R_load4 hg.ok (by show φ.length≤1;exact Nat.le_of_eq hg.hs0.len) rfl rfl rfl rfl rfl rfl rfl ?_
 refine R_k hg.ok rfl rfl ?_
 rw[w64 (n:=st.1 - 1) (by omega) (by omega)]
 refine R_load4 hg.ok (by show φ.length≤1;exact Nat.le_of_eq hg.hs0.len) rfl rfl rfl rfl rfl rfl rfl ?_
 refine R_k hg.ok rfl rfl ?_
 refine R_if rfl rfl (fun h=>absurd (of_decide_eq_true h) (by omega)) (fun _=>?_)<;>refine R_k hg.ok rfl rfl ?_
 refine R_if rfl rfl (fun h=>absurd (of_decide_eq_true h) (by omega)) (fun _=>?_)<;>refine R_k hg.ok rfl rfl ?_
 refine R_eqK hg.ok (sgOf t) sgX signCmp rfl rfl rfl rfl ?_
 refine R_k hg.ok rfl rfl ?_
 refine R_if rfl rfl (fun h=>absurd h (by simp[c4])) (fun _=>?_)<;>refine R_k hg.ok rfl rfl ?_
 refine R_eqK hg.ok (sgOf t) sgO signCmp rfl rfl rfl rfl ?_
 refine R_k hg.ok rfl rfl ?_
 refine R_if rfl rfl (fun h=>absurd h (by simp[hO])) (fun _=>?_)<;>refine R_k hg.ok rfl rfl ?_
 refine R_eqK hg.ok (sgOf t) sgI signCmp rfl rfl rfl rfl ?_
 refine R_k hg.ok rfl rfl ?_
 refine R_if rfl rfl (fun h=>absurd h (by simp[hI])) (fun _=>?_)<;>refine R_k hg.ok rfl rfl ?_
 refine R_eqK hg.ok (sgOf t) sgN signCmp rfl rfl rfl rfl ?_
 refine R_k hg.ok rfl rfl ?_
 refine R_if rfl rfl (fun h=>absurd h (by simp[c5])) (fun _=>?_)<;>refine R_k hg.ok rfl rfl ?_
 refine R_call hg.ok (builtinT_ok t) rfl rfl rfl rfl rfl rfl ?_
 refine R_k hg.ok rfl rfl ?_
 refine R_if rfl rfl (fun h=>absurd h (by simp[c6])) (fun _=>?_)<;>refine R_k hg.ok rfl rfl ?_
 refine R_call hg.ok (controlT_ok t) rfl rfl rfl rfl rfl rfl ?_
 refine R_k hg.ok rfl rfl ?_
 refine R_if rfl rfl (fun h=>absurd h (by simp[c7])) (fun _=>?_)<;>refine R_k hg.ok rfl rfl ?_
 refine R_load4 hg.ok (by show φ.length≤1;exact Nat.le_of_eq hg.hs0.len) rfl rfl rfl rfl rfl rfl rfl ?_
 refine R_k hg.ok rfl rfl ?_
 refine R_callSO hg.ok hg.gup hg.wide hg.Y [0] (mkO (st.1 - 1,st.2)++golL t deep cuts++[.arr 8 0 (Gl.rows [.mk 1 t [] [] []])]) (mkOne_ok Y (st.1 - 1,st.2) (.mk 1 t [] [] [])) (fun _=>rfl) rfl rfl rfl rfl rfl rfl rfl rfl ?_
 refine R_k hg.ok rfl rfl ?_
 refine R_moveO 1 6 (mkO ((st.1 - 1,st.2))++[.arr 8 0 (Gl.rows [.mk 1 t [] [] []])]) (by show φ.length≤1;exact Nat.le_of_eq hg.hs0.len) (by decide) rfl rfl rfl ?_
 exact R_retS hg 2 5 (by show (1:Nat)≤2;omega) rfl rfl rfl

theorem golD_step (Y:YP)(n:Nat)(ihO:GolO Y n)(ihD:GolD Y n):GolD Y (n+1):=by
 intro t st deep cuts ht hc hsz h1 h2 h3 h4
 have htp:=Gl.tmPos t
 obtain⟨hO,hI⟩:=noCh_sg hc
 rw[golF_succ]
 by_cases c0:(if t.k=3 then st else failM st 5).2≠0
 ·rw [if_pos c0]
  by_cases hk:t.k=3
  ·rw [if_pos hk] at c0 ⊢
   refine SCtr.of_R (pf:=pfGol) tyOk mixed Tryz.func98 rfl (by kernel_rfl) (by kernel_rfl) (by simp[Tryz.ntmps98]) (by simp[mkO]) fun w S φ hg=>?_
   refine R_k hg.ok rfl rfl ?_
   refine R_call hg.ok (signOf_ok t) rfl rfl rfl rfl rfl rfl ?_
   refine R_k hg.ok rfl rfl ?_
   refine R_if rfl rfl (fun h=>absurd h (by simp[hk])) (fun _=>?_)<;>refine R_k hg.ok rfl rfl ?_
   refine R_load4 hg.ok (by show φ.length≤1;exact Nat.le_of_eq hg.hs0.len) rfl rfl rfl rfl rfl rfl rfl ?_
   refine R_k hg.ok rfl rfl ?_
   refine R_if rfl rfl (fun _=>?_) (fun h=>absurd h (by simp[c0]))<;>refine R_k hg.ok rfl rfl ?_
   refine R_own 8 8 rfl rfl ?_
   refine R_freeze hg.gup 6 (show nth _ 6=some (Ob.arr 8 0 (Gl.rows [])) from rfl) rfl ?_
   exact R_retS hg 1 5 (Nat.le_refl _) rfl rfl rfl
  ·rw [if_neg hk] at c0 ⊢
   refine SCtr.of_R (pf:=pfGol) tyOk mixed Tryz.func98 rfl (by kernel_rfl) (by kernel_rfl) (by simp[Tryz.ntmps98]) (by simp[mkO]) fun w S φ hg=>?_
   refine R_k hg.ok rfl rfl ?_
   refine R_call hg.ok (signOf_ok t) rfl rfl rfl rfl rfl rfl ?_
   refine R_k hg.ok rfl rfl ?_
   refine R_if rfl rfl (fun _=>?_) (fun h=>absurd h (by simp[hk]))<;>refine R_k hg.ok rfl rfl ?_
   refine R_load4 hg.ok (by show φ.length≤1;exact Nat.le_of_eq hg.hs0.len) rfl rfl rfl rfl rfl rfl rfl ?_
   refine R_k hg.ok rfl rfl ?_
   refine R_callSO hg.ok hg.gup hg.wide hg.Y [0] (mkO (failM st 5)++golL t deep cuts) (mkFail_ok Y st 5) (fun _=>rfl) rfl rfl rfl rfl rfl rfl rfl rfl ?_
   refine R_k hg.ok rfl rfl ?_
   refine R_load4 hg.ok (by show φ.length≤1;exact Nat.le_of_eq hg.hs0.len) rfl rfl rfl rfl rfl rfl rfl ?_
   refine R_k hg.ok rfl rfl ?_
   refine R_if rfl rfl (fun _=>?_) (fun h=>absurd h (by simp[c0]))<;>refine R_k hg.ok rfl rfl ?_
   refine R_own 8 8 rfl rfl ?_
   refine R_freeze hg.gup 6 (show nth _ 6=some (Ob.arr 8 0 (Gl.rows [])) from rfl) rfl ?_
   exact R_retS hg 1 5 (Nat.le_refl _) rfl rfl rfl
 rw[if_neg c0]
 have hk:t.k=3:=by
  refine Decidable.byContradiction fun hk=>c0 ?_
  rw[if_neg hk]
  unfold failM
  split
  ·show (5:Int)≠0;decide
  ·assumption
 rw[if_pos hk]at c0
 have he:st.2=0:=Decidable.not_not.1 c0
 by_cases c1:sgOf t=sgC
 ·rw [if_pos c1]
  have hl:t.l.length=2:=sg_len (n:=2) c1
  have hs2:=size_two hl
  have hl0:0<t.l.length:=by omega
  have hl1:1<t.l.length:=by omega
  have hp0:=Gl.tmPos (argT t 0)
  have hp1:=Gl.tmPos (argT t 1)
  obtain⟨_,a2,a3,a4⟩:=golF_ok n (argT t 0) st deep cuts (ht.arg hl0)
  obtain⟨_,b2,_,_⟩:=golF_ok n (argT t 1) (golF n (argT t 0) st deep cuts).2 deep cuts (ht.arg hl1)
  obtain⟨s1,hA⟩:=ihO (argT t 0) st deep cuts (ht.arg hl0) (noCh_arg hc hl0) (by omega) (by omega) (by omega) h3 (by omega)
  obtain⟨s2,hB⟩:=ihO (argT t 1) (golF n (argT t 0) st deep cuts).2 deep cuts (ht.arg hl1) (noCh_arg hc hl1) (by omega) (by omega) (by omega) h3 (by omega)
  have hsa:=Gl.len_size (golF n (argT t 0) st deep cuts).1
  have hsb:=Gl.len_size (golF n (argT t 1) (golF n (argT t 0) st deep cuts).2 deep cuts).1
  have hs:=ht.1
  generalize golF n (argT t 0) st deep cuts=A at *
  generalize golF n (argT t 1) A.2 deep cuts=B at *
  refine SCtr.of_R (pf:=pfGol) tyOk mixed Tryz.func98 rfl (by kernel_rfl) (by kernel_rfl) (by simp[Tryz.ntmps98]) (by simp[mkO]) fun w S φ hg=>?_
  refine R_k hg.ok rfl rfl ?_
  refine R_call hg.ok (signOf_ok t) rfl rfl rfl rfl rfl rfl ?_
  refine R_k hg.ok rfl rfl ?_
  refine R_if rfl rfl (fun h=>absurd h (by simp[hk])) (fun _=>?_)<;>refine R_k hg.ok rfl rfl ?_
  refine R_load4 hg.ok (by show φ.length≤1;exact Nat.le_of_eq hg.hs0.len) rfl rfl rfl rfl rfl rfl rfl ?_
  refine R_k hg.ok rfl rfl ?_
  refine R_if rfl rfl (fun h=>absurd h (by simp[he])) (fun _=>?_)<;>refine R_k hg.ok rfl rfl ?_
  refine R_eqK hg.ok (sgOf t) sgC signCmp rfl rfl rfl rfl ?_
  refine R_k hg.ok rfl rfl ?_
  refine R_if rfl rfl (fun _=>?_) (fun h=>absurd h (by simp[c1]))<;>refine R_k hg.ok rfl rfl ?_
  refine R_load4 hg.ok (by show φ.length≤1;exact Nat.le_of_eq hg.hs0.len) rfl rfl rfl rfl rfl rfl rfl ?_
  refine R_k hg.ok rfl rfl ?_
  refine R_index hg.ok rfl rfl rfl rfl rfl rfl (by decide) (Tm.rows_get (i:=0) (argT_get hl0)) rfl ?_
  refine R_k hg.ok rfl rfl ?_
  refine R_callS3 hg.ok hg.gup hg.wide hg.Y [0] (mkO A.2++golL t deep cuts++[.arr 8 s1 (Gl.rows A.1)]) (hA) (fun _=>rfl) (fun i hi=>by show i<φ.length;have h1:φ.length=1:=hg.hs0.len;simp at hi;omega) rfl rfl rfl rfl rfl rfl rfl rfl ?_
  refine R_k hg.ok rfl rfl ?_
  refine R_load4 hg.ok (by show φ.length≤1;exact Nat.le_of_eq hg.hs0.len) rfl rfl rfl rfl rfl rfl rfl ?_
  refine R_k hg.ok rfl rfl ?_
  refine R_index hg.ok rfl rfl rfl rfl rfl rfl (by decide) (Tm.rows_get (i:=1) (argT_get hl1)) rfl ?_
  refine R_k hg.ok rfl rfl ?_
  refine R_callS3 hg.ok hg.gup hg.wide hg.Y [0] (mkO B.2++golL t deep cuts++[.arr 8 s1 (Gl.rows A.1),.arr 8 s2 (Gl.rows B.1)]) (hB) (fun _=>rfl) (fun i hi=>by show i<φ.length;have h1:φ.length=1:=hg.hs0.len;simp at hi;omega) rfl rfl rfl rfl rfl rfl rfl rfl ?_
  refine R_k hg.ok rfl rfl ?_
  refine R_appendOO hg.ok rfl rfl rfl rfl rfl rfl rfl rfl rfl rfl (glRows_8 _) (glRows_1 _) (by rw[Gl.rows_length,Gl.rows_length];simp only[Ty.bytes];omega) (by rw[Gl.rows_length,Gl.rows_length];omega) ?_
  refine R_k hg.ok rfl rfl ?_
  rw[glRows_app]
  refine R_moveO 1 6 (mkO (B.2)++[.arr 8 (Nat.succ s1) (Gl.rows A.1++Gl.rows B.1)]) (by show φ.length≤1;exact Nat.le_of_eq hg.hs0.len) (by decide) rfl rfl rfl ?_
  refine R_freezeO hg.gup 1 [(8,.d (.sl (Gl.rows A.1++Gl.rows B.1)))] [.box [iV (B.2).1,iV (B.2).2],.dead] rfl rfl ⟨Ent.frz 1 _ _,trivial⟩ (show ObsIn [.box [iV (B.2).1,iV (B.2).2],.dead] [.box [iV (B.2).1,iV (B.2).2],.dead] from⟨⟨.refl _,.refl _,trivial⟩,trivial,trivial⟩) ?_
  exact R_retS hg 1 5 (Nat.le_refl _) rfl rfl rfl
 rw[if_neg c1]
 by_cases c2:sgOf t=sgT
 ·rw [if_pos c2]
  refine SCtr.of_R (pf:=pfGol) tyOk mixed Tryz.func98 rfl (by kernel_rfl) (by kernel_rfl) (by simp[Tryz.ntmps98]) (by simp[mkO]) fun w S φ hg=>?_
  refine R_k hg.ok rfl rfl ?_
  refine R_call hg.ok (signOf_ok t) rfl rfl rfl rfl rfl rfl ?_
  refine R_k hg.ok rfl rfl ?_
  refine R_if rfl rfl (fun h=>absurd h (by simp[hk])) (fun _=>?_)<;>refine R_k hg.ok rfl rfl ?_
  refine R_load4 hg.ok (by show φ.length≤1;exact Nat.le_of_eq hg.hs0.len) rfl rfl rfl rfl rfl rfl rfl ?_
  refine R_k hg.ok rfl rfl ?_
  refine R_if rfl rfl (fun h=>absurd h (by simp[he])) (fun _=>?_)<;>refine R_k hg.ok rfl rfl ?_
  refine R_eqK hg.ok (sgOf t) sgC signCmp rfl rfl rfl rfl ?_
  refine R_k hg.ok rfl rfl ?_
  refine R_if rfl rfl (fun h=>absurd h (by simp[c1])) (fun _=>?_)<;>refine R_k hg.ok rfl rfl ?_
  refine R_eqK hg.ok (sgOf t) sgT signCmp rfl rfl rfl rfl ?_
  refine R_k hg.ok rfl rfl ?_
  refine R_if rfl rfl (fun _=>?_) (fun h=>absurd h (by simp[c2]))<;>refine R_k hg.ok rfl rfl ?_
  refine R_own 8 8 rfl rfl ?_
  refine R_freeze hg.gup 6 (show nth _ 6=some (Ob.arr 8 0 (Gl.rows [])) from rfl) rfl ?_
  exact R_retS hg 1 5 (Nat.le_refl _) rfl rfl rfl
 rw[if_neg c2]
 by_cases c3:st.1 - 1<0∨10<deep
 ·rw [if_pos c3]
  by_cases c3a:st.1 - 1<0
  ·refine SCtr.of_R (pf:=pfGol) tyOk mixed Tryz.func98 rfl (by kernel_rfl) (by kernel_rfl) (by simp [Tryz.ntmps98]) (by simp [mkO]) fun w S φ hg=>?_
   refine R_k hg.ok rfl rfl ?_
   refine R_call hg.ok (signOf_ok t) rfl rfl rfl rfl rfl rfl ?_
   refine R_k hg.ok rfl rfl ?_
   refine R_if rfl rfl (fun h=>absurd h (by simp[hk])) (fun _=>?_)<;>refine R_k hg.ok rfl rfl ?_
   refine R_load4 hg.ok (by show φ.length≤1;exact Nat.le_of_eq hg.hs0.len) rfl rfl rfl rfl rfl rfl rfl ?_
   refine R_k hg.ok rfl rfl ?_
   refine R_if rfl rfl (fun h=>absurd h (by simp[he])) (fun _=>?_)<;>refine R_k hg.ok rfl rfl ?_
   refine R_eqK hg.ok (sgOf t) sgC signCmp rfl rfl rfl rfl ?_
   refine R_k hg.ok rfl rfl ?_
   refine R_if rfl rfl (fun h=>absurd h (by simp[c1])) (fun _=>?_)<;>refine R_k hg.ok rfl rfl ?_
   refine R_eqK hg.ok (sgOf t) sgT signCmp rfl rfl rfl rfl ?_
   refine R_k hg.ok rfl rfl ?_
   refine R_if rfl rfl (fun h=>absurd h (by simp[c2])) (fun _=>?_)<;>refine R_k hg.ok rfl rfl ?_
   refine R_load4 hg.ok (by show φ.length≤1;exact Nat.le_of_eq hg.hs0.len) rfl rfl rfl rfl rfl rfl rfl ?_
   refine R_k hg.ok rfl rfl ?_
   rw[w64 (n:=st.1 - 1) (by omega) (by omega)]
   refine R_load4 hg.ok (by show φ.length≤1;exact Nat.le_of_eq hg.hs0.len) rfl rfl rfl rfl rfl rfl rfl ?_
   refine R_k hg.ok rfl rfl ?_
   refine R_if rfl rfl (fun _=>?_) (fun h=>absurd (of_decide_eq_false h) (by omega))<;>refine R_k hg.ok rfl rfl ?_
   refine R_load4 hg.ok (by show φ.length≤1;exact Nat.le_of_eq hg.hs0.len) rfl rfl rfl rfl rfl rfl rfl ?_
   refine R_k hg.ok rfl rfl ?_
   refine R_callSO hg.ok hg.gup hg.wide hg.Y [0] (mkO (failM (st.1 - 1,st.2) 3)++golL t deep cuts) (mkFail_ok Y (st.1 - 1,st.2) 3) (fun _=>rfl) rfl rfl rfl rfl rfl rfl rfl rfl ?_
   refine R_k hg.ok rfl rfl ?_
   refine R_own 8 8 rfl rfl ?_
   refine R_freeze hg.gup 6 (show nth _ 6=some (Ob.arr 8 0 (Gl.rows [])) from rfl) rfl ?_
   exact R_retS hg 1 5 (Nat.le_refl _) rfl rfl rfl
  ·refine SCtr.of_R (pf:=pfGol) tyOk mixed Tryz.func98 rfl (by kernel_rfl) (by kernel_rfl) (by simp [Tryz.ntmps98]) (by simp [mkO]) fun w S φ hg=>?_
   refine R_k hg.ok rfl rfl ?_
   refine R_call hg.ok (signOf_ok t) rfl rfl rfl rfl rfl rfl ?_
   refine R_k hg.ok rfl rfl ?_
   refine R_if rfl rfl (fun h=>absurd h (by simp[hk])) (fun _=>?_)<;>refine R_k hg.ok rfl rfl ?_
   refine R_load4 hg.ok (by show φ.length≤1;exact Nat.le_of_eq hg.hs0.len) rfl rfl rfl rfl rfl rfl rfl ?_
   refine R_k hg.ok rfl rfl ?_
   refine R_if rfl rfl (fun h=>absurd h (by simp[he])) (fun _=>?_)<;>refine R_k hg.ok rfl rfl ?_
   refine R_eqK hg.ok (sgOf t) sgC signCmp rfl rfl rfl rfl ?_
   refine R_k hg.ok rfl rfl ?_
   refine R_if rfl rfl (fun h=>absurd h (by simp[c1])) (fun _=>?_)<;>refine R_k hg.ok rfl rfl ?_
   refine R_eqK hg.ok (sgOf t) sgT signCmp rfl rfl rfl rfl ?_
   refine R_k hg.ok rfl rfl ?_
   refine R_if rfl rfl (fun h=>absurd h (by simp[c2])) (fun _=>?_)<;>refine R_k hg.ok rfl rfl ?_
   refine R_load4 hg.ok (by show φ.length≤1;exact Nat.le_of_eq hg.hs0.len) rfl rfl rfl rfl rfl rfl rfl ?_
   refine R_k hg.ok rfl rfl ?_
   rw[w64 (n:=st.1 - 1) (by omega) (by omega)]
   refine R_load4 hg.ok (by show φ.length≤1;exact Nat.le_of_eq hg.hs0.len) rfl rfl rfl rfl rfl rfl rfl ?_
   refine R_k hg.ok rfl rfl ?_
   refine R_if rfl rfl (fun h=>absurd (of_decide_eq_true h) (by omega)) (fun _=>?_)<;>refine R_k hg.ok rfl rfl ?_
   refine R_if rfl rfl (fun _=>?_) (fun h=>absurd (of_decide_eq_false h) (by omega))<;>refine R_k hg.ok rfl rfl ?_
   refine R_load4 hg.ok (by show φ.length≤1;exact Nat.le_of_eq hg.hs0.len) rfl rfl rfl rfl rfl rfl rfl ?_
   refine R_k hg.ok rfl rfl ?_
   refine R_callSO hg.ok hg.gup hg.wide hg.Y [0] (mkO (failM (st.1 - 1,st.2) 3)++golL t deep cuts) (mkFail_ok Y (st.1 - 1,st.2) 3) (fun _=>rfl) rfl rfl rfl rfl rfl rfl rfl rfl ?_
   refine R_k hg.ok rfl rfl ?_
   refine R_own 8 8 rfl rfl ?_
   refine R_freeze hg.gup 6 (show nth _ 6=some (Ob.arr 8 0 (Gl.rows [])) from rfl) rfl ?_
   exact R_retS hg 1 5 (Nat.le_refl _) rfl rfl rfl
 rw[if_neg c3]
 by_cases c4:sgOf t=sgX
 ·rw [if_pos c4]
  cases cuts with
  |true =>
   refine SCtr.of_R (pf:=pfGol) tyOk mixed Tryz.func98 rfl (by kernel_rfl) (by kernel_rfl) (by simp[Tryz.ntmps98]) (by simp[mkO]) fun w S φ hg=>?_
   refine R_k hg.ok rfl rfl ?_
   refine R_call hg.ok (signOf_ok t) rfl rfl rfl rfl rfl rfl ?_
   refine R_k hg.ok rfl rfl ?_
   refine R_if rfl rfl (fun h=>absurd h (by simp[hk])) (fun _=>?_)<;>refine R_k hg.ok rfl rfl ?_
   refine R_load4 hg.ok (by show φ.length≤1;exact Nat.le_of_eq hg.hs0.len) rfl rfl rfl rfl rfl rfl rfl ?_
   refine R_k hg.ok rfl rfl ?_
   refine R_if rfl rfl (fun h=>absurd h (by simp[he])) (fun _=>?_)<;>refine R_k hg.ok rfl rfl ?_
   refine R_eqK hg.ok (sgOf t) sgC signCmp rfl rfl rfl rfl ?_
   refine R_k hg.ok rfl rfl ?_
   refine R_if rfl rfl (fun h=>absurd h (by simp[c1])) (fun _=>?_)<;>refine R_k hg.ok rfl rfl ?_
   refine R_eqK hg.ok (sgOf t) sgT signCmp rfl rfl rfl rfl ?_
   refine R_k hg.ok rfl rfl ?_
   refine R_if rfl rfl (fun h=>absurd h (by simp[c2])) (fun _=>?_)<;>refine R_k hg.ok rfl rfl ?_
   refine R_load4 hg.ok (by show φ.length≤1;exact Nat.le_of_eq hg.hs0.len) rfl rfl rfl rfl rfl rfl rfl ?_
   refine R_k hg.ok rfl rfl ?_
   rw[w64 (n:=st.1 - 1) (by omega) (by omega)]
   refine R_load4 hg.ok (by show φ.length≤1;exact Nat.le_of_eq hg.hs0.len) rfl rfl rfl rfl rfl rfl rfl ?_
   refine R_k hg.ok rfl rfl ?_
   refine R_if rfl rfl (fun h=>absurd (of_decide_eq_true h) (by omega)) (fun _=>?_)<;>refine R_k hg.ok rfl rfl ?_
   refine R_if rfl rfl (fun h=>absurd (of_decide_eq_true h) (by omega)) (fun _=>?_)<;>refine R_k hg.ok rfl rfl ?_
   refine R_eqK hg.ok (sgOf t) sgX signCmp rfl rfl rfl rfl ?_
   refine R_k hg.ok rfl rfl ?_
   refine R_if rfl rfl (fun _=>?_) (fun h=>absurd h (by simp[c4]))<;>refine R_k hg.ok rfl rfl ?_
   refine R_if rfl rfl (fun h=>absurd h (by simp)) (fun _=>?_)<;>refine R_k hg.ok rfl rfl ?_
   refine R_load4 hg.ok (by show φ.length≤1;exact Nat.le_of_eq hg.hs0.len) rfl rfl rfl rfl rfl rfl rfl ?_
   refine R_k hg.ok rfl rfl ?_
   refine R_callSO hg.ok hg.gup hg.wide hg.Y [0] (mkO (st.1 - 1,st.2)++golL t deep true++[.arr 8 0 (Gl.rows [.mk 3 zeroT [] [] []])]) (mkOne_ok Y (st.1 - 1,st.2) (.mk 3 zeroT [] [] [])) (fun _=>rfl) rfl rfl rfl rfl rfl rfl rfl rfl ?_
   refine R_k hg.ok rfl rfl ?_
   refine R_freeze hg.gup 6 (show nth _ 6=some (Ob.arr 8 0 (Gl.rows [.mk 3 zeroT [] [] []])) from rfl) rfl ?_
   exact R_retS hg 1 5 (Nat.le_refl _) rfl rfl rfl
  |false =>
   refine SCtr.of_R (pf:=pfGol) tyOk mixed Tryz.func98 rfl (by kernel_rfl) (by kernel_rfl) (by simp[Tryz.ntmps98]) (by simp[mkO]) fun w S φ hg=>?_
   refine R_k hg.ok rfl rfl ?_
   refine R_call hg.ok (signOf_ok t) rfl rfl rfl rfl rfl rfl ?_
   refine R_k hg.ok rfl rfl ?_
   refine R_if rfl rfl (fun h=>absurd h (by simp[hk])) (fun _=>?_)<;>refine R_k hg.ok rfl rfl ?_
   refine R_load4 hg.ok (by show φ.length≤1;exact Nat.le_of_eq hg.hs0.len) rfl rfl rfl rfl rfl rfl rfl ?_
   refine R_k hg.ok rfl rfl ?_
   refine R_if rfl rfl (fun h=>absurd h (by simp[he])) (fun _=>?_)<;>refine R_k hg.ok rfl rfl ?_
   refine R_eqK hg.ok (sgOf t) sgC signCmp rfl rfl rfl rfl ?_
   refine R_k hg.ok rfl rfl ?_
   refine R_if rfl rfl (fun h=>absurd h (by simp[c1])) (fun _=>?_)<;>refine R_k hg.ok rfl rfl ?_
   refine R_eqK hg.ok (sgOf t) sgT signCmp rfl rfl rfl rfl ?_
   refine R_k hg.ok rfl rfl ?_
   refine R_if rfl rfl (fun h=>absurd h (by simp[c2])) (fun _=>?_)<;>refine R_k hg.ok rfl rfl ?_
   refine R_load4 hg.ok (by show φ.length≤1;exact Nat.le_of_eq hg.hs0.len) rfl rfl rfl rfl rfl rfl rfl ?_
   refine R_k hg.ok rfl rfl ?_
   rw[w64 (n:=st.1 - 1) (by omega) (by omega)]
   refine R_load4 hg.ok (by show φ.length≤1;exact Nat.le_of_eq hg.hs0.len) rfl rfl rfl rfl rfl rfl rfl ?_
   refine R_k hg.ok rfl rfl ?_
   refine R_if rfl rfl (fun h=>absurd (of_decide_eq_true h) (by omega)) (fun _=>?_)<;>refine R_k hg.ok rfl rfl ?_
   refine R_if rfl rfl (fun h=>absurd (of_decide_eq_true h) (by omega)) (fun _=>?_)<;>refine R_k hg.ok rfl rfl ?_
   refine R_eqK hg.ok (sgOf t) sgX signCmp rfl rfl rfl rfl ?_
   refine R_k hg.ok rfl rfl ?_
   refine R_if rfl rfl (fun _=>?_) (fun h=>absurd h (by simp[c4]))<;>refine R_k hg.ok rfl rfl ?_
   refine R_if rfl rfl (fun _=>?_) (fun h=>absurd h (by simp))<;>refine R_k hg.ok rfl rfl ?_
   refine R_load4 hg.ok (by show φ.length≤1;exact Nat.le_of_eq hg.hs0.len) rfl rfl rfl rfl rfl rfl rfl ?_
   refine R_k hg.ok rfl rfl ?_
   refine R_callSO hg.ok hg.gup hg.wide hg.Y [0] (mkO (failM (st.1 - 1,st.2) 5)++golL t deep false) (mkFail_ok Y (st.1 - 1,st.2) 5) (fun _=>rfl) rfl rfl rfl rfl rfl rfl rfl rfl ?_
   refine R_k hg.ok rfl rfl ?_
   refine R_load4 hg.ok (by show φ.length≤1;exact Nat.le_of_eq hg.hs0.len) rfl rfl rfl rfl rfl rfl rfl ?_
   refine R_k hg.ok rfl rfl ?_
   refine R_callSO hg.ok hg.gup hg.wide hg.Y [0] (mkO (failM (st.1 - 1,st.2) 5)++golL t deep false++[.arr 8 0 (Gl.rows [.mk 3 zeroT [] [] []])]) (mkOne_ok Y (failM (st.1 - 1,st.2) 5) (.mk 3 zeroT [] [] [])) (fun _=>rfl) rfl rfl rfl rfl rfl rfl rfl rfl ?_
   refine R_k hg.ok rfl rfl ?_
   refine R_freeze hg.gup 6 (show nth _ 6=some (Ob.arr 8 0 (Gl.rows [.mk 3 zeroT [] [] []])) from rfl) rfl ?_
   exact R_retS hg 1 5 (Nat.le_refl _) rfl rfl rfl
 rw[if_neg c4]
 by_cases c5:sgOf t=sgN
 ·rw [if_pos c5]
  have hl:t.l.length=1:=sg_len (n:=1) c5
  have hl0:0<t.l.length:=by omega
  have hs1:=size_arg hl0
  have hD:=ihD (argT t 0) (st.1 - 1,st.2) (deep+1) false (ht.arg hl0) (noCh_arg hc hl0) (by omega) (by simp only;omega) (by simp only;omega) (by omega) (by omega)
  generalize golF n (argT t 0) (st.1 - 1,st.2) (deep+1) false=A at *
  refine SCtr.of_R (pf:=pfGol) tyOk mixed Tryz.func98 rfl (by kernel_rfl) (by kernel_rfl) (by simp[Tryz.ntmps98]) (by simp[mkO]) fun w S φ hg=>?_
  refine R_k hg.ok rfl rfl ?_
  refine R_call hg.ok (signOf_ok t) rfl rfl rfl rfl rfl rfl ?_
  refine R_k hg.ok rfl rfl ?_
  refine R_if rfl rfl (fun h=>absurd h (by simp[hk])) (fun _=>?_)<;>refine R_k hg.ok rfl rfl ?_
  refine R_load4 hg.ok (by show φ.length≤1;exact Nat.le_of_eq hg.hs0.len) rfl rfl rfl rfl rfl rfl rfl ?_
  refine R_k hg.ok rfl rfl ?_
  refine R_if rfl rfl (fun h=>absurd h (by simp[he])) (fun _=>?_)<;>refine R_k hg.ok rfl rfl ?_
  refine R_eqK hg.ok (sgOf t) sgC signCmp rfl rfl rfl rfl ?_
  refine R_k hg.ok rfl rfl ?_
  refine R_if rfl rfl (fun h=>absurd h (by simp[c1])) (fun _=>?_)<;>refine R_k hg.ok rfl rfl ?_
  refine R_eqK hg.ok (sgOf t) sgT signCmp rfl rfl rfl rfl ?_
  refine R_k hg.ok rfl rfl ?_
  refine R_if rfl rfl (fun h=>absurd h (by simp[c2])) (fun _=>?_)<;>refine R_k hg.ok rfl rfl ?_
  refine R_load4 hg.ok (by show φ.length≤1;exact Nat.le_of_eq hg.hs0.len) rfl rfl rfl rfl rfl rfl rfl ?_
  refine R_k hg.ok rfl rfl ?_
  rw[w64 (n:=st.1 - 1) (by omega) (by omega)]
  refine R_load4 hg.ok (by show φ.length≤1;exact Nat.le_of_eq hg.hs0.len) rfl rfl rfl rfl rfl rfl rfl ?_
  refine R_k hg.ok rfl rfl ?_
  refine R_if rfl rfl (fun h=>absurd (of_decide_eq_true h) (by omega)) (fun _=>?_)<;>refine R_k hg.ok rfl rfl ?_
  refine R_if rfl rfl (fun h=>absurd (of_decide_eq_true h) (by omega)) (fun _=>?_)<;>refine R_k hg.ok rfl rfl ?_
  refine R_eqK hg.ok (sgOf t) sgX signCmp rfl rfl rfl rfl ?_
  refine R_k hg.ok rfl rfl ?_
  refine R_if rfl rfl (fun h=>absurd h (by simp[c4])) (fun _=>?_)<;>refine R_k hg.ok rfl rfl ?_
  refine R_eqK hg.ok (sgOf t) sgO signCmp rfl rfl rfl rfl ?_
  refine R_k hg.ok rfl rfl ?_
  refine R_if rfl rfl (fun h=>absurd h (by simp[hO])) (fun _=>?_)<;>refine R_k hg.ok rfl rfl ?_
  refine R_eqK hg.ok (sgOf t) sgI signCmp rfl rfl rfl rfl ?_
  refine R_k hg.ok rfl rfl ?_
  refine R_if rfl rfl (fun h=>absurd h (by simp[hI])) (fun _=>?_)<;>refine R_k hg.ok rfl rfl ?_
  refine R_eqK hg.ok (sgOf t) sgN signCmp rfl rfl rfl rfl ?_
  refine R_k hg.ok rfl rfl ?_
  refine R_if rfl rfl (fun _=>?_) (fun h=>absurd h (by simp[c5]))<;>refine R_k hg.ok rfl rfl ?_
  refine R_load4 hg.ok (by show φ.length≤1;exact Nat.le_of_eq hg.hs0.len) rfl rfl rfl rfl rfl rfl rfl ?_
  refine R_k hg.ok rfl rfl ?_
  refine R_load4 hg.ok (by show φ.length≤1;exact Nat.le_of_eq hg.hs0.len) rfl rfl rfl rfl rfl rfl rfl ?_
  refine R_k hg.ok rfl rfl ?_
  refine R_index hg.ok rfl rfl rfl rfl rfl rfl (by decide) (Tm.rows_get (i:=0) (argT_get hl0)) rfl ?_
  refine R_k hg.ok rfl rfl ?_
  rw[w64 (n:=deep+1) (by omega) (by omega)]
  refine R_callS3 hg.ok hg.gup hg.wide hg.Y [0] (mkO A.2++golL t deep cuts) (hD) (fun _=>rfl) (fun i hi=>by show i<φ.length;have h1:φ.length=1:=hg.hs0.len;simp at hi;omega) rfl rfl rfl rfl rfl rfl rfl rfl ?_
  refine R_k hg.ok rfl rfl ?_
  refine R_callSO hg.ok hg.gup hg.wide hg.Y [0] (mkO A.2++golL t deep cuts++[.arr 8 0 (Gl.rows [.mk 5 zeroT A.1 [] []])]) (mkOne_ok Y A.2 (.mk 5 zeroT A.1 [] [])) (fun _=>rfl) rfl rfl rfl rfl rfl rfl rfl rfl ?_
  refine R_k hg.ok rfl rfl ?_
  refine R_freeze hg.gup 6 (show nth _ 6=some (Ob.arr 8 0 (Gl.rows [.mk 5 zeroT A.1 [] []])) from rfl) rfl ?_
  exact R_retS hg 1 5 (Nat.le_refl _) rfl rfl rfl
 rw[if_neg c5]
 by_cases c6:bltB (sgOf t)=true
 ·rw [if_pos c6]
  refine SCtr.of_R (pf:=pfGol) tyOk mixed Tryz.func98 rfl (by kernel_rfl) (by kernel_rfl) (by simp[Tryz.ntmps98]) (by simp[mkO]) fun w S φ hg=>?_
  refine R_k hg.ok rfl rfl ?_
  refine R_call hg.ok (signOf_ok t) rfl rfl rfl rfl rfl rfl ?_
  refine R_k hg.ok rfl rfl ?_
  refine R_if rfl rfl (fun h=>absurd h (by simp[hk])) (fun _=>?_)<;>refine R_k hg.ok rfl rfl ?_
  refine R_load4 hg.ok (by show φ.length≤1;exact Nat.le_of_eq hg.hs0.len) rfl rfl rfl rfl rfl rfl rfl ?_
  refine R_k hg.ok rfl rfl ?_
  refine R_if rfl rfl (fun h=>absurd h (by simp[he])) (fun _=>?_)<;>refine R_k hg.ok rfl rfl ?_
  refine R_eqK hg.ok (sgOf t) sgC signCmp rfl rfl rfl rfl ?_
  refine R_k hg.ok rfl rfl ?_
  refine R_if rfl rfl (fun h=>absurd h (by simp[c1])) (fun _=>?_)<;>refine R_k hg.ok rfl rfl ?_
  refine R_eqK hg.ok (sgOf t) sgT signCmp rfl rfl rfl rfl ?_
  refine R_k hg.ok rfl rfl ?_
  refine R_if rfl rfl (fun h=>absurd h (by simp[c2])) (fun _=>?_)<;>refine R_k hg.ok rfl rfl ?_
  refine R_load4 hg.ok (by show φ.length≤1;exact Nat.le_of_eq hg.hs0.len) rfl rfl rfl rfl rfl rfl rfl ?_
  refine R_k hg.ok rfl rfl ?_
  rw[w64 (n:=st.1 - 1) (by omega) (by omega)]
  refine R_load4 hg.ok (by show φ.length≤1;exact Nat.le_of_eq hg.hs0.len) rfl rfl rfl rfl rfl rfl rfl ?_
  refine R_k hg.ok rfl rfl ?_
  refine R_if rfl rfl (fun h=>absurd (of_decide_eq_true h) (by omega)) (fun _=>?_)<;>refine R_k hg.ok rfl rfl ?_
  refine R_if rfl rfl (fun h=>absurd (of_decide_eq_true h) (by omega)) (fun _=>?_)<;>refine R_k hg.ok rfl rfl ?_
  refine R_eqK hg.ok (sgOf t) sgX signCmp rfl rfl rfl rfl ?_
  refine R_k hg.ok rfl rfl ?_
  refine R_if rfl rfl (fun h=>absurd h (by simp[c4])) (fun _=>?_)<;>refine R_k hg.ok rfl rfl ?_
  refine R_eqK hg.ok (sgOf t) sgO signCmp rfl rfl rfl rfl ?_
  refine R_k hg.ok rfl rfl ?_
  refine R_if rfl rfl (fun h=>absurd h (by simp[hO])) (fun _=>?_)<;>refine R_k hg.ok rfl rfl ?_
  refine R_eqK hg.ok (sgOf t) sgI signCmp rfl rfl rfl rfl ?_
  refine R_k hg.ok rfl rfl ?_
  refine R_if rfl rfl (fun h=>absurd h (by simp[hI])) (fun _=>?_)<;>refine R_k hg.ok rfl rfl ?_
  refine R_eqK hg.ok (sgOf t) sgN signCmp rfl rfl rfl rfl ?_
  refine R_k hg.ok rfl rfl ?_
  refine R_if rfl rfl (fun h=>absurd h (by simp[c5])) (fun _=>?_)<;>refine R_k hg.ok rfl rfl ?_
  refine R_call hg.ok (builtinT_ok t) rfl rfl rfl rfl rfl rfl ?_
  refine R_k hg.ok rfl rfl ?_
  refine R_if rfl rfl (fun _=>?_) (fun h=>absurd h (by simp[c6]))<;>refine R_k hg.ok rfl rfl ?_
  refine R_load4 hg.ok (by show φ.length≤1;exact Nat.le_of_eq hg.hs0.len) rfl rfl rfl rfl rfl rfl rfl ?_
  refine R_k hg.ok rfl rfl ?_
  refine R_callSO hg.ok hg.gup hg.wide hg.Y [0] (mkO (st.1 - 1,st.2)++golL t deep cuts++[.arr 8 0 (Gl.rows [.mk 2 t [] [] []])]) (mkOne_ok Y (st.1 - 1,st.2) (.mk 2 t [] [] [])) (fun _=>rfl) rfl rfl rfl rfl rfl rfl rfl rfl ?_
  refine R_k hg.ok rfl rfl ?_
  refine R_freeze hg.gup 6 (show nth _ 6=some (Ob.arr 8 0 (Gl.rows [.mk 2 t [] [] []])) from rfl) rfl ?_
  exact R_retS hg 1 5 (Nat.le_refl _) rfl rfl rfl
 rw[if_neg c6]
 by_cases c7:ctlB (sgOf t)=true
 ·rw [if_pos c7]
  refine SCtr.of_R (pf:=pfGol) tyOk mixed Tryz.func98 rfl (by kernel_rfl) (by kernel_rfl) (by simp[Tryz.ntmps98]) (by simp[mkO]) fun w S φ hg=>?_
  refine R_k hg.ok rfl rfl ?_
  refine R_call hg.ok (signOf_ok t) rfl rfl rfl rfl rfl rfl ?_
  refine R_k hg.ok rfl rfl ?_
  refine R_if rfl rfl (fun h=>absurd h (by simp[hk])) (fun _=>?_)<;>refine R_k hg.ok rfl rfl ?_
  refine R_load4 hg.ok (by show φ.length≤1;exact Nat.le_of_eq hg.hs0.len) rfl rfl rfl rfl rfl rfl rfl ?_
  refine R_k hg.ok rfl rfl ?_
  refine R_if rfl rfl (fun h=>absurd h (by simp[he])) (fun _=>?_)<;>refine R_k hg.ok rfl rfl ?_
  refine R_eqK hg.ok (sgOf t) sgC signCmp rfl rfl rfl rfl ?_
  refine R_k hg.ok rfl rfl ?_
  refine R_if rfl rfl (fun h=>absurd h (by simp[c1])) (fun _=>?_)<;>refine R_k hg.ok rfl rfl ?_
  refine R_eqK hg.ok (sgOf t) sgT signCmp rfl rfl rfl rfl ?_
  refine R_k hg.ok rfl rfl ?_
  refine R_if rfl rfl (fun h=>absurd h (by simp[c2])) (fun _=>?_)<;>refine R_k hg.ok rfl rfl ?_
  refine R_load4 hg.ok (by show φ.length≤1;exact Nat.le_of_eq hg.hs0.len) rfl rfl rfl rfl rfl rfl rfl ?_
  refine R_k hg.ok rfl rfl ?_
  rw[w64 (n:=st.1 - 1) (by omega) (by omega)]
  refine R_load4 hg.ok (by show φ.length≤1;exact Nat.le_of_eq hg.hs0.len) rfl rfl rfl rfl rfl rfl rfl ?_
  refine R_k hg.ok rfl rfl ?_
  refine R_if rfl rfl (fun h=>absurd (of_decide_eq_true h) (by omega)) (fun _=>?_)<;>refine R_k hg.ok rfl rfl ?_
  refine R_if rfl rfl (fun h=>absurd (of_decide_eq_true h) (by omega)) (fun _=>?_)<;>refine R_k hg.ok rfl rfl ?_
  refine R_eqK hg.ok (sgOf t) sgX signCmp rfl rfl rfl rfl ?_
  refine R_k hg.ok rfl rfl ?_
  refine R_if rfl rfl (fun h=>absurd h (by simp[c4])) (fun _=>?_)<;>refine R_k hg.ok rfl rfl ?_
  refine R_eqK hg.ok (sgOf t) sgO signCmp rfl rfl rfl rfl ?_
  refine R_k hg.ok rfl rfl ?_
  refine R_if rfl rfl (fun h=>absurd h (by simp[hO])) (fun _=>?_)<;>refine R_k hg.ok rfl rfl ?_
  refine R_eqK hg.ok (sgOf t) sgI signCmp rfl rfl rfl rfl ?_
  refine R_k hg.ok rfl rfl ?_
  refine R_if rfl rfl (fun h=>absurd h (by simp[hI])) (fun _=>?_)<;>refine R_k hg.ok rfl rfl ?_
  refine R_eqK hg.ok (sgOf t) sgN signCmp rfl rfl rfl rfl ?_
  refine R_k hg.ok rfl rfl ?_
  refine R_if rfl rfl (fun h=>absurd h (by simp[c5])) (fun _=>?_)<;>refine R_k hg.ok rfl rfl ?_
  refine R_call hg.ok (builtinT_ok t) rfl rfl rfl rfl rfl rfl ?_
  refine R_k hg.ok rfl rfl ?_
  refine R_if rfl rfl (fun h=>absurd h (by simp[c6])) (fun _=>?_)<;>refine R_k hg.ok rfl rfl ?_
  refine R_call hg.ok (controlT_ok t) rfl rfl rfl rfl rfl rfl ?_
  refine R_k hg.ok rfl rfl ?_
  refine R_if rfl rfl (fun _=>?_) (fun h=>absurd h (by simp[c7]))<;>refine R_k hg.ok rfl rfl ?_
  refine R_load4 hg.ok (by show φ.length≤1;exact Nat.le_of_eq hg.hs0.len) rfl rfl rfl rfl rfl rfl rfl ?_
  refine R_k hg.ok rfl rfl ?_
  refine R_callSO hg.ok hg.gup hg.wide hg.Y [0] (mkO (failM (st.1 - 1,st.2) 5)++golL t deep cuts) (mkFail_ok Y (st.1 - 1,st.2) 5) (fun _=>rfl) rfl rfl rfl rfl rfl rfl rfl rfl ?_
  refine R_k hg.ok rfl rfl ?_
  refine R_own 8 8 rfl rfl ?_
  refine R_freeze hg.gup 6 (show nth _ 6=some (Ob.arr 8 0 (Gl.rows [])) from rfl) rfl ?_
  exact R_retS hg 1 5 (Nat.le_refl _) rfl rfl rfl
 rw[if_neg c7]
 refine SCtr.of_R (pf:=pfGol) tyOk mixed Tryz.func98 rfl (by kernel_rfl) (by kernel_rfl) (by simp[Tryz.ntmps98]) (by simp[mkO]) fun w S φ hg=>?_
 refine R_k hg.ok rfl rfl ?_
 refine R_call hg.ok (signOf_ok t) rfl rfl rfl rfl rfl rfl ?_
 refine R_k hg.ok rfl rfl ?_
 refine R_if rfl rfl (fun h=>absurd h (by simp[hk])) (fun _=>?_)<;>refine R_k hg.ok rfl rfl ?_
 refine R_load4 hg.ok (by show φ.length≤1;exact Nat.le_of_eq hg.hs0.len) rfl rfl rfl rfl rfl rfl rfl ?_
 refine R_k hg.ok rfl rfl ?_
 refine R_if rfl rfl (fun h=>absurd h (by simp[he])) (fun _=>?_)<;>refine R_k hg.ok rfl rfl ?_
 refine R_eqK hg.ok (sgOf t) sgC signCmp rfl rfl rfl rfl ?_
 refine R_k hg.ok rfl rfl ?_
 refine R_if rfl rfl (fun h=>absurd h (by simp[c1])) (fun _=>?_)<;>refine R_k hg.ok rfl rfl ?_
 refine R_eqK hg.ok (sgOf t) sgT signCmp rfl rfl rfl rfl ?_
 refine R_k hg.ok rfl rfl ?_
 refine R_if rfl rfl (fun h=>absurd h (by simp[c2])) (fun _=>?_)<;>refine R_k hg.ok rfl rfl ?_
 refine R_load4 hg.ok (by show φ.length≤1;exact Nat.le_of_eq hg.hs0.len) rfl rfl rfl rfl rfl rfl rfl ?_
 refine R_k hg.ok rfl rfl ?_
 rw[w64 (n:=st.1 - 1) (by omega) (by omega)]
 refine R_load4 hg.ok (by show φ.length≤1;exact Nat.le_of_eq hg.hs0.len) rfl rfl rfl rfl rfl rfl rfl ?_
 refine R_k hg.ok rfl rfl ?_
 refine R_if rfl rfl (fun h=>absurd (of_decide_eq_true h) (by omega)) (fun _=>?_)<;>refine R_k hg.ok rfl rfl ?_
 refine R_if rfl rfl (fun h=>absurd (of_decide_eq_true h) (by omega)) (fun _=>?_)<;>refine R_k hg.ok rfl rfl ?_
 refine R_eqK hg.ok (sgOf t) sgX signCmp rfl rfl rfl rfl ?_
 refine R_k hg.ok rfl rfl ?_
 refine R_if rfl rfl (fun h=>absurd h (by simp[c4])) (fun _=>?_)<;>refine R_k hg.ok rfl rfl ?_
 refine R_eqK hg.ok (sgOf t) sgO signCmp rfl rfl rfl rfl ?_
 refine R_k hg.ok rfl rfl ?_
 refine R_if rfl rfl (fun h=>absurd h (by simp[hO])) (fun _=>?_)<;>refine R_k hg.ok rfl rfl ?_
 refine R_eqK hg.ok (sgOf t) sgI signCmp rfl rfl rfl rfl ?_
 refine R_k hg.ok rfl rfl ?_
 refine R_if rfl rfl (fun h=>absurd h (by simp[hI])) (fun _=>?_)<;>refine R_k hg.ok rfl rfl ?_
 refine R_eqK hg.ok (sgOf t) sgN signCmp rfl rfl rfl rfl ?_
 refine R_k hg.ok rfl rfl ?_
 refine R_if rfl rfl (fun h=>absurd h (by simp[c5])) (fun _=>?_)<;>refine R_k hg.ok rfl rfl ?_
 refine R_call hg.ok (builtinT_ok t) rfl rfl rfl rfl rfl rfl ?_
 refine R_k hg.ok rfl rfl ?_
 refine R_if rfl rfl (fun h=>absurd h (by simp[c6])) (fun _=>?_)<;>refine R_k hg.ok rfl rfl ?_
 refine R_call hg.ok (controlT_ok t) rfl rfl rfl rfl rfl rfl ?_
 refine R_k hg.ok rfl rfl ?_
 refine R_if rfl rfl (fun h=>absurd h (by simp[c7])) (fun _=>?_)<;>refine R_k hg.ok rfl rfl ?_
 refine R_load4 hg.ok (by show φ.length≤1;exact Nat.le_of_eq hg.hs0.len) rfl rfl rfl rfl rfl rfl rfl ?_
 refine R_k hg.ok rfl rfl ?_
 refine R_callSO hg.ok hg.gup hg.wide hg.Y [0] (mkO (st.1 - 1,st.2)++golL t deep cuts++[.arr 8 0 (Gl.rows [.mk 1 t [] [] []])]) (mkOne_ok Y (st.1 - 1,st.2) (.mk 1 t [] [] [])) (fun _=>rfl) rfl rfl rfl rfl rfl rfl rfl rfl ?_
 refine R_k hg.ok rfl rfl ?_
 refine R_freeze hg.gup 6 (show nth _ 6=some (Ob.arr 8 0 (Gl.rows [.mk 1 t [] [] []])) from rfl) rfl ?_
 exact R_retS hg 1 5 (Nat.le_refl _) rfl rfl rfl

theorem gol_ok (Y:YP):∀n,GolO Y n∧GolD Y n
 |0=>⟨fun t _ _ _ _ _ h=>absurd h (by have:=Gl.tmPos t;omega),fun t _ _ _ _ _ h=>absurd h (by have:=Gl.tmPos t;omega)⟩
 |n+1=>⟨golO_step Y n (gol_ok Y n).1 (gol_ok Y n).2,golD_step Y n (gol_ok Y n).1 (gol_ok Y n).2⟩
def pfSy:Nat→Cls:=fun f=>bif Nat.beq f 4000000010 then .turn 90 else .eff

theorem boolLoad_ok (Y:YP)(S:Bs)(L:List Tk)(st:RSt)(deep dn lk:Int)(mk:Bool):SCtr Tryz.prog Y 158 [.lo 0 7] (robj S L st deep dn lk mk) (bV (dn != 0)) (robj S L st deep dn lk mk):=by
 refine SCtr.of_R (pf:=fun _=>.eff) tyOk mixed Tryz.func158 rfl (by kernel_rfl) (by kernel_rfl) (by simp[Tryz.ntmps158]) (by simp[robj]) fun w S φ hg=>?_
 refine R_k hg.ok rfl rfl ?_
 refine R_fieldZ hg.ok Tryz.underlying176 rfl (by kernel_rfl) rfl rfl rfl ?_
 refine R_k hg.ok rfl rfl ?_
 refine R_extL hg.ok atLoad rfl rfl rfl rfl rfl rfl ?_
 refine R_k hg.ok rfl rfl ?_
 exact R_retS hg 2 5 (Nat.le_refl _) rfl rfl (robj_keep _ L st deep dn lk mk 2 _ (Nat.le_refl _))

theorem boolStore_ok (Y:YP)(S:Bs)(L:List Tk)(st:RSt)(deep dn lk:Int)(mk:Bool):DCtr Tryz.prog Y 163 [.lo 0 7,bV true] (robj S L st deep dn lk mk) (.tup []) (robj S L st deep 1 lk mk):=by
 have hb:PCtr Tryz.prog 167 [bV true] (.d (.v (.int .u32 1))):=by
  refine PCtr.of_R (pf:=fun _=>.still) tyOk mixed Tryz.func167 rfl (by kernel_rfl) (by kernel_rfl) (by simp[Tryz.ntmps167]) fun w S hg=>?_
  refine R_k hg.ok rfl rfl ?_
  refine R_if rfl rfl (fun _=>?_) (fun h=>absurd h (by simp))<;>refine R_k hg.ok rfl rfl ?_
  refine R_ret hg 5 rfl rfl ?_
  rfl
 refine DCtr.of_R (pf:=fun _=>.eff) tyOk mixed Tryz.func163 rfl (by kernel_rfl) (by kernel_rfl) (by simp[Tryz.ntmps163]) (by simp[robj]) fun w S φ hg=>?_
 refine R_k hg.ok rfl rfl ?_
 refine R_fieldZ hg.ok Tryz.underlying176 rfl (by kernel_rfl) rfl rfl rfl ?_
 refine R_k hg.ok rfl rfl ?_
 refine R_call hg.ok (hb) rfl rfl rfl rfl rfl rfl ?_
 refine R_k hg.ok rfl rfl ?_
 refine R_extW hg.ok (ys:=#[.tmp 8]) [.int .u32 1] (fun a w h hz=>atStore a _ 1 w h hz) rfl rfl rfl rfl rfl rfl rfl ?_
 refine R_k hg.ok rfl rfl ?_
 exact R_endD hg 2 5 (Nat.le_refl _) rfl rfl (robj_keep _ L st deep 1 lk mk 2 _ (Nat.le_refl _))

theorem imuLock_ok (Y:YP)(S:Bs)(L:List Tk)(st:RSt)(deep dn:Int)(mk:Bool):SCtr Tryz.prog Y 164 [.lo 0 8] (robj S L st deep dn 0 mk) (.tup []) (robj S L st deep dn 1 mk):=by
 refine SCtr.of_R (pf:=pfSy) tyOk mixed Tryz.func164 rfl (by kernel_rfl) (by kernel_rfl) (by simp[Tryz.ntmps164]) (by simp[robj]) fun w S φ hg=>?_
 refine R_k hg.ok rfl rfl ?_
 refine R_ext0 hg.ok raceOff rfl rfl rfl ?_
 refine R_k hg.ok rfl rfl ?_
 refine R_extW hg.ok (ys:=#[.const (.int .i32 0),.const (.int .i32 1)]) [.int .i32 0,.int .i32 1] (fun a w h hz=>atCas a 0 1 w h hz) rfl rfl rfl rfl rfl rfl rfl ?_
 refine R_k hg.ok rfl rfl ?_
 refine R_if rfl rfl (fun _=>?_) (fun h=>absurd h (by simp))<;>refine R_k hg.ok rfl rfl ?_
 refine R_ext0 hg.ok raceOn rfl rfl rfl ?_
 refine R_k hg.ok rfl rfl ?_
 refine R_convU hg.ok Tryz.underlying260 Tryz.underlying264 (by kernel_rfl) rfl rfl rfl rfl rfl rfl ?_
 refine R_k hg.ok rfl rfl ?_
 refine R_extM hg.ok raceAcq rfl rfl rfl rfl ?_
 refine R_k hg.ok rfl rfl ?_
 exact R_retS hg 2 5 (Nat.le_refl _) rfl rfl (robj_keep _ L st deep dn 1 mk 2 _ (Nat.le_refl _))

theorem muLock_ok (Y:YP)(S:Bs)(L:List Tk)(st:RSt)(deep dn:Int)(mk:Bool):SCtr Tryz.prog Y 161 [.lo 0 8] (robj S L st deep dn 0 mk) (.tup []) (robj S L st deep dn 1 mk):=by
 refine SCtr.of_R (pf:=fun _=>.eff) tyOk mixed Tryz.func161 rfl (by kernel_rfl) (by kernel_rfl) (by simp[Tryz.ntmps161]) (by simp[robj]) fun w S φ hg=>?_
 refine R_k hg.ok rfl rfl ?_
 refine R_fieldZ hg.ok Tryz.underlying180 rfl (by kernel_rfl) rfl rfl rfl ?_
 refine R_k hg.ok rfl rfl ?_
 refine R_callSO hg.ok hg.gup hg.wide hg.Y [0,1] (robj _ L st deep dn 1 mk) (imuLock_ok Y _ L st deep dn mk) (fun _=>rfl) rfl rfl rfl rfl rfl (by rw[robj_ren];rfl) rfl (by rw[robj_ren];rfl) ?_
 refine R_k hg.ok rfl rfl ?_
 exact R_endS hg 2 5 (Nat.le_refl _) rfl rfl (robj_keep _ L st deep dn 1 mk 2 _ (Nat.le_refl _))

theorem imuUnlock_ok (Y:YP)(S:Bs)(L:List Tk)(st:RSt)(deep dn:Int)(mk:Bool):SCtr Tryz.prog Y 165 [.lo 0 8] (robj S L st deep dn 1 mk) (.tup []) (robj S L st deep dn 0 mk):=by
 refine SCtr.of_R (pf:=pfSy) tyOk mixed Tryz.func165 rfl (by kernel_rfl) (by kernel_rfl) (by simp[Tryz.ntmps165]) (by simp[robj]) fun w S φ hg=>?_
 refine R_k hg.ok rfl rfl ?_
 refine R_convU hg.ok Tryz.underlying260 Tryz.underlying264 (by kernel_rfl) rfl rfl rfl rfl rfl rfl ?_
 refine R_k hg.ok rfl rfl ?_
 refine R_extM hg.ok raceRel rfl rfl rfl rfl ?_
 refine R_k hg.ok rfl rfl ?_
 refine R_ext0 hg.ok raceOff rfl rfl rfl ?_
 refine R_k hg.ok rfl rfl ?_
 refine R_extW hg.ok (ys:=#[.const (.int .i32 (-1))]) [.int .i32 (-1)] (fun a w h hz=>atAdd a w h hz) rfl rfl rfl rfl rfl rfl rfl ?_
 refine R_k hg.ok rfl rfl ?_
 refine R_if rfl rfl (fun h=>absurd h (by simp)) (fun _=>?_)<;>refine R_k hg.ok rfl rfl ?_
 refine R_ext0 hg.ok raceOn rfl rfl rfl ?_
 refine R_k hg.ok rfl rfl ?_
 exact R_endS hg 2 5 (Nat.le_refl _) rfl rfl (robj_keep _ L st deep dn 0 mk 2 _ (Nat.le_refl _))

theorem muUnlock_ok (Y:YP)(S:Bs)(L:List Tk)(st:RSt)(deep dn:Int)(mk:Bool):DCtr Tryz.prog Y 162 [.lo 0 8] (robj S L st deep dn 1 mk) (.tup []) (robj S L st deep dn 0 mk):=by
 refine DCtr.of_R (pf:=fun _=>.eff) tyOk mixed Tryz.func162 rfl (by kernel_rfl) (by kernel_rfl) (by simp[Tryz.ntmps162]) (by simp[robj]) fun w S φ hg=>?_
 refine R_k hg.ok rfl rfl ?_
 refine R_fieldZ hg.ok Tryz.underlying180 rfl (by kernel_rfl) rfl rfl rfl ?_
 refine R_k hg.ok rfl rfl ?_
 refine R_callSO hg.ok hg.gup hg.wide hg.Y [0,1] (robj _ L st deep dn 0 mk) (imuUnlock_ok Y _ L st deep dn mk) (fun _=>rfl) rfl rfl rfl rfl rfl (by rw[robj_ren];rfl) rfl (by rw[robj_ren];rfl) ?_
 refine R_k hg.ok rfl rfl ?_
 exact R_endD hg 2 5 (Nat.le_refl _) rfl rfl (robj_keep _ L st deep dn 0 mk 2 _ (Nat.le_refl _))

theorem opV_ent (a b c:Int):Ent (.agg [iV a,iV b,iV c]) (.d (.v (opV (a,b,c)))):=fun S w φ v h=>by
 simp only[RV,RVs]at h ⊢
 obtain⟨cs,rfl,h⟩:=h
 match cs,h with
 |[x,y,z],h =>
  simp only[RVs,iV]at h
  rw[rv_const h.1,rv_const h.2.1,rv_const h.2.2.1]
  exact .v _
 |[],h=>simp[RVs]at h
 |[_],h=>simp[RVs]at h
 |[_,_],h=>simp[RVs]at h
 |_::_::_::_::_,h=>simp[RVs]at h
def tS (l:List (Bs × Int × Int × Int)):List (ByteArray × AV):=l.map fun p=>(Tx p.1,.d (.v (opV p.2)))
def tab0:List (Bs × Int × Int × Int):=opTab.take 4
def tab1 (k:Nat):List (Bs × Int × Int × Int):=tab0++(op700.take k).map fun s=>(s,700,699,699)
def tab2 (k:Nat):List (Bs × Int × Int × Int):=tab1 15++(op500.take k).map fun s=>(s,500,500,499)
def tab3 (k:Nat):List (Bs × Int × Int × Int):=tab2 2++(op400.take k).map fun s=>(s,400,400,399)

theorem tS_none (l:List (Bs × Int × Int × Int))(s:Bs)(h:(l.map (·.1)).contains s=false):getS (tS l) (Tx s)=none:=by
 induction l with
 |nil=>rfl
 |cons p l ih =>
  simp only[List.map_cons,List.contains_cons,Bool.or_eq_false_iff]at h
  simp only[tS,List.map_cons,getS]
  rw[if_neg (fun e=>by rw[Tx_inj e]at h;simp at h)]
  exact ih h.2
theorem tab_new:((List.range 15).all fun k=>!((tab1 k).map (·.1)).contains (op700.getD k []))=true∧((List.range 2).all fun k=>!((tab2 k).map (·.1)).contains (op500.getD k []))=true∧((List.range 3).all fun k=>!((tab3 k).map (·.1)).contains (op400.getD k []))=true:=by decide +kernel
theorem new1 {k:Nat}(h:k<15):getS (tS (tab1 k)) (Tx (op700.getD k []))=none:=tS_none _ _ (by have:=List.all_eq_true.1 tab_new.1 k (by simpa using h);simpa using this)
theorem new2 {k:Nat}(h:k<2):getS (tS (tab2 k)) (Tx (op500.getD k []))=none:=tS_none _ _ (by have:=List.all_eq_true.1 tab_new.2.1 k (by simpa using h);simpa using this)
theorem new3 {k:Nat}(h:k<3):getS (tS (tab3 k)) (Tx (op400.getD k []))=none:=tS_none _ _ (by have:=List.all_eq_true.1 tab_new.2.2 k (by simpa using h);simpa using this)
theorem getD_some {l:List Bs}{k:Nat}(h:k<l.length):l[k]? = some (l.getD k []):=by simp[List.getD,List.getElem?_eq_getElem h]

theorem tab1_snoc {k:Nat}(h:k<15):tS (tab1 k)++[(Tx (op700.getD k []),.d (.v (opV (700,699,699))))]=tS (tab1 (k+1)):=by
 unfold tab1
 rw[List.take_add_one,getD_some (l:=op700) h]
 simp[tS]

theorem tab2_snoc {k:Nat}(h:k<2):tS (tab2 k)++[(Tx (op500.getD k []),.d (.v (opV (500,500,499))))]=tS (tab2 (k+1)):=by
 unfold tab2
 rw[List.take_add_one,getD_some (l:=op500) h]
 simp[tS]

theorem tab3_snoc {k:Nat}(h:k<3):tS (tab3 k)++[(Tx (op400.getD k []),.d (.v (opV (400,400,399))))]=tS (tab3 (k+1)):=by
 unfold tab3
 rw[List.take_add_one,getD_some (l:=op400) h]
 simp[tS]

def rlay (S:Bs)(L:List Tk)(st:RSt)(deep dn lk:Int)(l:List (Bs × Int × Int × Int)):List Ob :=
 [.box [.d (.v (.string (Tx S))),.d (.sl (tkRows L)),iV st.at_,.ow 1 st.names.length,iV deep,iV st.bad,iV st.e,.d (.v (.int .u32 dn)),.d (.v (.int .i32 lk)),.d (.v (.int .u32 0)),.mp 3],.arr 1 st.names.length (strRows st.names),.box [.lo 0 7],.map (smap (tS l))]

theorem table_ok (Y:YP)(S0:Bs)(L:List Tk)(st:RSt)(deep dn lk:Int):SCtr Tryz.prog Y 157 [.lo 2 0] (robj S0 L st deep dn lk false++[.box [.lo 0 7]]) (.tup []) (robj S0 L st deep dn lk true++[.box [.lo 0 7]]):=by
 refine SCtr.of_R (pf:=fun _=>.eff) tyOk mixed Tryz.func157 rfl (by kernel_rfl) (by kernel_rfl) (by simp[Tryz.ntmps157]) (by simp[robj]) fun w S φ hg=>?_
 refine R_k hg.ok rfl rfl ?_
 refine R_makeMap hg.ok rfl rfl ?_
 refine R_k hg.ok rfl rfl ?_
 refine R_see 9 rfl (opV_ent 1200 1199 1199) ?_
 refine R_insertS hg.ok [] (tS (opTab.take 1)) rfl rfl rfl rfl rfl rfl rfl rfl rfl rfl ?_
 refine R_k hg.ok rfl rfl ?_
 refine R_see 10 rfl (opV_ent 1100 1099 1100) ?_
 refine R_insertS hg.ok (tS (opTab.take 1)) (tS (opTab.take 2)) rfl rfl rfl rfl rfl rfl rfl (tS_none _ _ (by decide)) rfl rfl ?_
 refine R_k hg.ok rfl rfl ?_
 refine R_see 11 rfl (opV_ent 1050 1049 1050) ?_
 refine R_insertS hg.ok (tS (opTab.take 2)) (tS (opTab.take 3)) rfl rfl rfl rfl rfl rfl rfl (tS_none _ _ (by decide)) rfl rfl ?_
 refine R_k hg.ok rfl rfl ?_
 refine R_see 12 rfl (opV_ent 1000 999 1000) ?_
 refine R_insertS hg.ok (tS (opTab.take 3)) (tS tab0) rfl rfl rfl rfl rfl rfl rfl (tS_none _ _ (by decide)) rfl rfl ?_
 refine R_k hg.ok rfl rfl ?_
 refine R_cut2 (fun _:Unit=>([(0,.lo 2 0)],rlay S0 L st deep dn lk (tab1 15))) (fun _=>True) rfl ?_ ?_
 ·refine R_loop (fun k:Nat=>([(0,.lo 2 0),(16,.d (.sl (strRows op700))),(17,iV (15:Nat)),(18,iV k)],rlay S0 L st deep dn lk (tab1 k))) (fun k=>k≤15) (fun k=>15 - k) 0 (Nat.zero_le _) ⟨.refl _,Ent.fs _,.refl _,.refl _,trivial⟩ rfl ?_
  intro k hk
  refine R_k hg.ok rfl rfl ?_
  refine R_if rfl rfl (fun h=>?_) (fun h=>?_)<;>refine R_k hg.ok rfl rfl ?_
  ·have hk1:k<15:=lt_dec h rfl
   refine R_index hg.ok rfl rfl rfl rfl rfl rfl (Int.natCast_nonneg _) (strRows_get (getD_some (l:=op700) hk1)) rfl ?_
   refine R_k hg.ok rfl rfl ?_
   refine R_see 27 rfl (opV_ent 700 699 699) ?_
   refine R_mapAddS hg.ok (tS (tab1 k)) (tS (tab1 (k+1))) rfl rfl rfl rfl rfl rfl rfl (new1 hk1) rfl (tab1_snoc hk1) ?_
   refine R_k hg.ok rfl rfl ?_
   exact R_next (k+1) hk1 (by omega) ⟨.refl _,.refl _,.refl _,Ent.wrap (by omega) (by omega) (by omega),trivial⟩ rfl
  ·have hk1:15≤k:=ge_dec h rfl
   obtain rfl:k=15:=by omega
   exact R_to () trivial ⟨.refl _,trivial⟩ rfl
 rintro _ _
 refine R_k hg.ok rfl rfl ?_
 refine R_cut2 (fun _:Unit=>([(0,.lo 2 0)],rlay S0 L st deep dn lk (tab2 2))) (fun _=>True) rfl ?_ ?_
 ·refine R_loop (fun k:Nat=>([(0,.lo 2 0),(29,.d (.sl (strRows op500))),(30,iV (2:Nat)),(31,iV k)],rlay S0 L st deep dn lk (tab2 k))) (fun k=>k≤2) (fun k=>2 - k) 0 (Nat.zero_le _) ⟨.refl _,Ent.fs _,.refl _,.refl _,trivial⟩ rfl ?_
  intro k hk
  refine R_k hg.ok rfl rfl ?_
  refine R_if rfl rfl (fun h=>?_) (fun h=>?_)<;>refine R_k hg.ok rfl rfl ?_
  ·have hk1:k<2:=lt_dec h rfl
   refine R_index hg.ok rfl rfl rfl rfl rfl rfl (Int.natCast_nonneg _) (strRows_get (getD_some (l:=op500) hk1)) rfl ?_
   refine R_k hg.ok rfl rfl ?_
   refine R_see 40 rfl (opV_ent 500 500 499) ?_
   refine R_mapAddS hg.ok (tS (tab2 k)) (tS (tab2 (k+1))) rfl rfl rfl rfl rfl rfl rfl (new2 hk1) rfl (tab2_snoc hk1) ?_
   refine R_k hg.ok rfl rfl ?_
   exact R_next (k+1) hk1 (by omega) ⟨.refl _,.refl _,.refl _,Ent.wrap (by omega) (by omega) (by omega),trivial⟩ rfl
  ·have hk1:2≤k:=ge_dec h rfl
   obtain rfl:k=2:=by omega
   exact R_to () trivial ⟨.refl _,trivial⟩ rfl
 rintro _ _
 refine R_k hg.ok rfl rfl ?_
 refine R_cut2 (fun _:Unit=>([(0,.lo 2 0)],rlay S0 L st deep dn lk (tab3 3))) (fun _=>True) rfl ?_ ?_
 ·refine R_loop (fun k:Nat=>([(0,.lo 2 0),(42,.d (.sl (strRows op400))),(43,iV (3:Nat)),(44,iV k)],rlay S0 L st deep dn lk (tab3 k))) (fun k=>k≤3) (fun k=>3 - k) 0 (Nat.zero_le _) ⟨.refl _,Ent.fs _,.refl _,.refl _,trivial⟩ rfl ?_
  intro k hk
  refine R_k hg.ok rfl rfl ?_
  refine R_if rfl rfl (fun h=>?_) (fun h=>?_)<;>refine R_k hg.ok rfl rfl ?_
  ·have hk1:k<3:=lt_dec h rfl
   refine R_index hg.ok rfl rfl rfl rfl rfl rfl (Int.natCast_nonneg _) (strRows_get (getD_some (l:=op400) hk1)) rfl ?_
   refine R_k hg.ok rfl rfl ?_
   refine R_see 53 rfl (opV_ent 400 400 399) ?_
   refine R_mapAddS hg.ok (tS (tab3 k)) (tS (tab3 (k+1))) rfl rfl rfl rfl rfl rfl rfl (new3 hk1) rfl (tab3_snoc hk1) ?_
   refine R_k hg.ok rfl rfl ?_
   exact R_next (k+1) hk1 (by omega) ⟨.refl _,.refl _,.refl _,Ent.wrap (by omega) (by omega) (by omega),trivial⟩ rfl
  ·have hk1:3≤k:=ge_dec h rfl
   obtain rfl:k=3:=by omega
   exact R_to () trivial ⟨.refl _,trivial⟩ rfl
 rintro _ _
 have hφ:φ.length=3:=hg.hs0.len
 refine R_freezeM hg.gup 3 tabD (by show φ.length≤3;omega) rfl rfl ?_
 refine R_dropO 3 (robj S0 L st deep dn lk true++[.box [.lo 0 7]]) (by show φ.length≤3;omega) rfl rfl ?_
 exact R_endS hg 3 5 (Nat.le_refl _) rfl rfl (by
  rw[show (List.take 3 (robj S0 L st deep dn lk true++[Ob.box [.lo 0 7]]))=robj S0 L st deep dn lk true++[Ob.box [.lo 0 7]] from rfl,List.map_append,robj_keep S0 L st deep dn lk true 3 _ (by decide)];rfl)

def rob2 (S:Bs)(L:List Tk)(st:RSt)(deep dn lk:Int)(mk:Bool):List Ob:=robj S L st deep dn lk mk++[.box [.lo 0 7]]

theorem rob2_keep (S:Bs)(L:List Tk)(st:RSt)(deep dn lk:Int)(mk:Bool)(o:List Ob):(rob2 S L st deep dn lk mk).map (mapOb (sealT false 3 o 5))=rob2 S L st deep dn lk mk:=by
 unfold rob2
 rw[List.map_append,robj_keep S L st deep dn lk mk 3 _ (by decide)];rfl

theorem rob2_ren (S:Bs)(L:List Tk)(st:RSt)(deep dn lk:Int)(mk:Bool)(n:Nat):(rob2 S L st deep dn lk mk).map (renOb (rn [0,1,2] n))=rob2 S L st deep dn lk mk:=by
 unfold rob2
 rw[List.map_append,robj_ren];rfl
theorem rob2_ren' (S:Bs)(L:List Tk)(st:RSt)(deep dn lk:Int)(mk:Bool)(n:Nat):(robj S L st deep dn lk mk++[Ob.box [.lo 0 7]]).map (renOb (rn [0,1,2] n))=rob2 S L st deep dn lk mk:=rob2_ren S L st deep dn lk mk n

theorem onceSlow_ok (Y:YP)(S0:Bs)(L:List Tk)(st:RSt)(deep:Int):SCtr Tryz.prog Y 159 [.lo 0 7,.clo 157 [] [.lo 2 0]] (rob2 S0 L st deep 0 0 false) (.tup []) (rob2 S0 L st deep 1 0 true):=by
 refine SCtr.of_RD (pf:=fun _=>.eff) tyOk mixed Tryz.func159 rfl (by kernel_rfl) (by kernel_rfl) (by simp[Tryz.ntmps159]) (by simp[rob2,robj]) fun w S φ hg=>?_
 refine R_k hg.ok rfl rfl ?_
 refine R_fieldZ hg.ok Tryz.underlying182 rfl (by kernel_rfl) rfl rfl rfl ?_
 refine R_k hg.ok rfl rfl ?_
 refine R_callSO hg.ok hg.gup hg.wide hg.Y [0,1] (rob2 S0 L st deep 0 1 false) (muLock_ok Y S0 L st deep 0 false) (fun _=>rfl) rfl rfl rfl rfl rfl (by rw[robj_ren];rfl) rfl (by rw[robj_ren];rfl) ?_
 first
 |(refine R_run hg.ok 1 rfl rfl ?_;refine R_defer hg.ok rfl hg.wide 3 rfl ?_)
 |(refine R_run hg.ok 2 rfl rfl ?_;refine R_defer hg.ok rfl hg.wide 3 rfl ?_)
 |(refine R_run hg.ok 3 rfl rfl ?_;refine R_defer hg.ok rfl hg.wide 3 rfl ?_)
 |(refine R_run hg.ok 4 rfl rfl ?_;refine R_defer hg.ok rfl hg.wide 3 rfl ?_)
 refine R_k hg.ok rfl rfl ?_
 refine R_fieldZ hg.ok Tryz.underlying182 rfl (by kernel_rfl) rfl rfl rfl ?_
 refine R_k hg.ok rfl rfl ?_
 refine R_mark ⟨_,_,_,rfl,?_⟩
 have hg1:=hg.sw [(162,[.lo 0 8],[])]
 refine R_run hg1.ok 1000 rfl rfl ?_
 refine R_fieldZ hg1.ok Tryz.underlying182 rfl (by kernel_rfl) rfl rfl rfl ?_
 refine R_run hg1.ok 1000 rfl rfl ?_
 refine R_callSO hg1.ok hg1.gup hg1.wide hg1.Y [0,1] (rob2 S0 L st deep 0 1 false) (boolLoad_ok Y S0 L st deep 0 1 false) (fun _=>rfl) rfl rfl rfl rfl rfl (by rw[robj_ren];rfl) rfl (by rw[robj_ren];rfl) ?_
 refine R_run hg1.ok 1000 rfl rfl ?_
 refine R_if rfl rfl (fun _=>?_) (fun h=>absurd h (by simp))
 first
 |refine R_defer hg1.ok rfl hg1.wide 3 rfl ?_
 |(refine R_run hg1.ok 1 rfl rfl ?_;refine R_defer hg1.ok rfl hg1.wide 3 rfl ?_)
 |(refine R_run hg1.ok 2 rfl rfl ?_;refine R_defer hg1.ok rfl hg1.wide 3 rfl ?_)
 refine R_run hg1.ok 1000 rfl rfl ?_
 refine R_fieldZ hg1.ok Tryz.underlying182 rfl (by kernel_rfl) rfl rfl rfl ?_
 refine R_run hg1.ok 1000 rfl rfl ?_
 refine R_mark ⟨_,_,_,rfl,?_⟩
 have hg2:=hg1.sw [(163,[.lo 0 7,.tt],[]),(162,[.lo 0 8],[])]
 refine R_run hg2.ok 1000 rfl rfl ?_
 refine R_callSO hg2.ok hg2.gup hg2.wide hg2.Y [0,1,2] (rob2 S0 L st deep 0 1 true) (table_ok Y S0 L st deep 0 1) (fun _=>rfl) rfl rfl rfl rfl rfl (by rw[rob2_ren' S0 L st deep 0 1 false];rfl) rfl (by rw[rob2_ren' S0 L st deep 0 1 true];rfl) ?_
 refine R_run hg2.ok 1000 rfl rfl ?_
 refine R_endL ?_
 refine Lv.cons hg [0,1] (objs':=rob2 S0 L st deep 1 1 true) (boolStore_ok Y S0 L st deep 0 1 true) (fun _=>rfl) rfl (by rw[robj_ren];rfl) rfl (by rw[robj_ren];rfl) ?_
 refine Lv.cons hg [0,1] (objs':=rob2 S0 L st deep 1 0 true) (muUnlock_ok Y S0 L st deep 1 true) (fun _=>rfl) rfl (by rw[robj_ren];rfl) rfl (by rw[robj_ren];rfl) ?_
 exact Lv.nil hg 3 5 (by simp[rob2,robj]) rfl rfl (rob2_keep S0 L st deep 1 0 true _)
end Go.Proofs.YtcgkgofmldhokaaGreat

namespace PSL
open Go Go.RowKit Go.MapKept

theorem R_lookupDS {g:G}{pf:Nat→Cls}{ops:Array Oper}{Fin:Exit→Act→World→Prop}(hg:GOk g){dst:Option Nat}{T:Nat}{x y:Operand}{ok:Bool}{ty:Nat}{pos:String}{after:Array Edge}{gd:Option (Nat × Bool)}{rest:List Oper}{k:List It}{E:Env}{objs:List Ob}
  {q by_ q' by' kt et:Nat} {z z':List Value} {n:ByteArray} {zv:Value} {ds:List (Value × D)} (l:List (ByteArray × AV)) (hl:ds.map (fun p=>(p.1,AV.d p.2))=smap l)
  (hgd:guardA ops.toList E gd=some true) (hd:dstOk ⟨g.ty,g.N⟩ dst=true) (hx:ev E x=.d (.map ds)) (hy:ev E y=.d (.v (.string n))) (hT:g.ty T=some ⟨q,by_,z,.map kt et⟩)
  (hkt:g.ty kt=some ⟨q',by',z',.str⟩) (hz:(g.P.info? et).bind (·.zero)=some zv) {v:AV} (hv:lookI' ok (cstV zv) (getS l n)=v)
  (hr:R g pf Fin (.dr ops rest::k) (putO E dst v) objs):R g pf Fin (.dr ops (⟨dst,.lookup T x y ok,ty,pos,after,gd⟩::rest)::k) E objs:=by
 subst hv
 have hu:=(hg.ty _ _ hkt).sh
 simp only[ShFact]at hu
 obtain⟨r,h1,h2⟩:=findA_getS (n:=n) (l:=l) (i:=0)
 refine R_lookupD hg hgd hd hx hy hT hu (by simp[IsKey]) (by rw[hl];exact h1) hz ?_
 have:lookA ok (cstV zv) r=lookI' ok (cstV zv) (getS l n):=by rw[← h2];cases r<;>rfl
 rw[this];exact hr
end PSL

namespace Go.Proofs.YtcgkgofmldhokaaGreat
open Go PSL Go.Proofs

def rdO (S:Bs)(L:List Tk)(st:RSt)(deep:Int)(mk:Bool):List Ob:=robj S L st deep (if mk then 1 else 0) 0 mk
theorem rdO_keep (S:Bs)(L:List Tk)(st:RSt)(deep:Int)(mk:Bool)(n0:Nat)(o:List Ob)(hn:2≤n0):(rdO S L st deep mk).map (mapOb (sealT false n0 o 5))=rdO S L st deep mk:=robj_keep _ _ _ _ _ _ _ _ _ hn
theorem rdO_ren (S:Bs)(L:List Tk)(st:RSt)(deep:Int)(mk:Bool)(n:Nat)(l:List Nat):(rdO S L st deep mk).map (renOb (rn (0::1::l) n))=rdO S L st deep mk:=robj_ren _ _ _ _ _ _ _ _ _ _ _

theorem onceDo_ok (Y:YP)(S0:Bs)(L:List Tk)(st:RSt)(deep:Int)(mk:Bool):SCtr Tryz.prog Y 156 [.lo 0 7,.clo 157 [] [.lo 2 0]] (rdO S0 L st deep mk++[.box [.lo 0 7]]) (.tup []) (rdO S0 L st deep true++[.box [.lo 0 7]]):=by
 refine SCtr.of_R (pf:=fun _=>.eff) tyOk mixed Tryz.func156 rfl (by kernel_rfl) (by kernel_rfl) (by simp[Tryz.ntmps156]) (by simp[rdO,robj]) fun w S φ hg=>?_
 refine R_k hg.ok rfl rfl ?_
 refine R_fieldZ hg.ok Tryz.underlying182 rfl (by kernel_rfl) rfl rfl rfl ?_
 refine R_k hg.ok rfl rfl ?_
 cases mk with
 |false =>
  refine R_callSO hg.ok hg.gup hg.wide hg.Y [0,1] (rob2 S0 L st deep 0 0 false) (boolLoad_ok Y S0 L st deep 0 0 false) (fun _=>rfl) rfl rfl rfl rfl rfl (by rw[robj_ren];rfl) rfl (by rw[robj_ren];rfl) ?_
  refine R_k hg.ok rfl rfl ?_
  refine R_if rfl rfl (fun _=>?_) (fun h=>absurd h (by simp))<;>refine R_k hg.ok rfl rfl ?_
  refine R_callSO hg.ok hg.gup hg.wide hg.Y [0,1,2] (rob2 S0 L st deep 1 0 true) (onceSlow_ok Y S0 L st deep) (fun _=>rfl) rfl rfl rfl rfl rfl (by rw[rob2_ren];rfl) rfl (by rw[rob2_ren];rfl) ?_
  refine R_k hg.ok rfl rfl ?_
  exact R_endS hg 3 5 (Nat.le_refl _) rfl rfl (rob2_keep S0 L st deep 1 0 true _)
 |true =>
  refine R_callSO hg.ok hg.gup hg.wide hg.Y [0,1] (rob2 S0 L st deep 1 0 true) (boolLoad_ok Y S0 L st deep 1 0 true) (fun _=>rfl) rfl rfl rfl rfl rfl (by rw[robj_ren];rfl) rfl (by rw[robj_ren];rfl) ?_
  refine R_k hg.ok rfl rfl ?_
  refine R_if rfl rfl (fun h=>absurd h (by simp)) (fun _=>?_)<;>refine R_k hg.ok rfl rfl ?_
  exact R_endS hg 3 5 (Nat.le_refl _) rfl rfl (rob2_keep S0 L st deep 1 0 true _)

theorem rdO_ren2 (S:Bs)(L:List Tk)(st:RSt)(deep:Int)(mk:Bool)(n:Nat):(rdO S L st deep mk++[Ob.box [.lo 0 7]]).map (renOb (rn [0,1,2] n))=rdO S L st deep mk++[Ob.box [.lo 0 7]]:=by
 rw[List.map_append,rdO_ren];rfl

def infA (x:Option (Int × Int × Int)):AV:=match x with
 |some x=>.tup [.agg [iV x.1,iV x.2.1,iV x.2.2],bV true]
 |none=>.tup [.agg [iV 0,iV 0,iV 0],bV false]

theorem opV_ent2 (x:Int × Int × Int):Ent (.d (.v (opV x))) (.agg [iV x.1,iV x.2.1,iV x.2.2]):=fun S w φ v h=>by
 rw[rv_const h]
 simp only[RV,RVs,iV,opV]
 exact⟨[.int .i64 x.1,.int .i64 x.2.1,.int .i64 x.2.2],rfl,.v _,.v _,.v _,trivial⟩

theorem getS_inf (s:Bs):getS (tS opTab) (Tx s)=(infT s).map fun x=>AV.d (.v (opV x)):=by
 unfold infT
 generalize opTab=l
 induction l with
 |nil=>rfl
 |cons p l ih =>
  obtain⟨a,x⟩:=p
  simp only[tS,List.map_cons,getS,List.lookup]
  by_cases h:s=a
  ·subst h;simp
  ·rw [if_neg (fun e=>h (Tx_inj e).symm),show (s==a)=false by simpa using h]
   exact ih

theorem infix_ok (Y:YP)(S0:Bs)(L:List Tk)(st:RSt)(deep:Int)(mk:Bool)(s:Bs):SCtr Tryz.prog Y 151 [.lo 0 7,.d (.v (.string (Tx s)))] (rdO S0 L st deep mk) (infA (infT s)) (rdO S0 L st deep true):=by
 refine SCtr.of_R (pf:=fun _=>.eff) tyOk mixed Tryz.func151 rfl (by kernel_rfl) (by kernel_rfl) (by simp[Tryz.ntmps151]) (by simp[rdO,robj]) fun w S φ hg=>?_
 refine R_k hg.ok rfl rfl ?_
 refine R_callSO hg.ok hg.gup hg.wide hg.Y [0,1,2] (rdO S0 L st deep true++[.box [.lo 0 7],.box [iV 0,iV 0,iV 0]]) (onceDo_ok Y S0 L st deep mk) (fun _=>rfl) rfl rfl rfl rfl rfl (by rw[rdO_ren2];rfl) rfl (by rw[rdO_ren2];rfl) ?_
 refine R_k hg.ok rfl rfl ?_
 have hk:∀o:List Ob,(rdO S0 L st deep true).map (mapOb (sealT false 2 o 5))=rdO S0 L st deep true:=fun o=>rdO_keep _ _ _ _ _ _ _ (Nat.le_refl _)
 cases hx:infT s with
 |none =>
  refine R_lookupDS hg.ok (tS opTab) rfl rfl rfl rfl rfl rfl rfl (zv:=.agg #[.int .i64 0,.int .i64 0,.int .i64 0]) (by kernel_rfl) (v:=.tup [.agg [iV 0,iV 0,iV 0],bV false]) (by rw[getS_inf,hx];rfl) ?_
  refine R_k hg.ok rfl rfl ?_
  exact R_retS hg 2 5 (Nat.le_refl _) rfl rfl (hk _)
 |some x =>
  refine R_lookupDS hg.ok (tS opTab) rfl rfl rfl rfl rfl rfl rfl (zv:=.agg #[.int .i64 0,.int .i64 0,.int .i64 0]) (by kernel_rfl) (v:=.tup [.d (.v (opV x)),bV true]) (by rw[getS_inf,hx];rfl) ?_
  refine R_see 19 rfl (v':=.tup [.agg [iV x.1,iV x.2.1,iV x.2.2],bV true]) (fun S w φ v h=>by
   simp only[RV]at h ⊢
   obtain⟨vs,rfl,h⟩:=h
   refine⟨vs,rfl,?_⟩
   match vs,h with
   |[a,b],h =>
    simp only[RVs]at h ⊢
    exact⟨opV_ent2 x _ _ _ _ (by simp only[RV];exact h.1),h.2⟩
   |[],h=>simp[RVs]at h
   |[_],h=>simp[RVs]at h
   |_::_::_::_,h=>simp[RVs]at h) ?_
  refine R_k hg.ok rfl rfl ?_
  exact R_retS hg 2 5 (Nat.le_refl _) rfl rfl (hk _)
theorem tkRows_get {L:List Tk}{i:Nat}{t:Tk}(h:L[i]? = some t):(tkRows L)[i]? = some (tkD t):=by simp[tkRows,h]

theorem rdPeek_ok (Y:YP)(S0:Bs)(L:List Tk)(st:RSt)(deep:Int)(mk:Bool):SCtr Tryz.prog Y 96 [.lo 0 0] (rdO S0 L st deep mk) (tkA (peekR L st)) (rdO S0 L st deep mk):=by
 refine SCtr.of_R (pf:=fun _=>.eff) tyOk mixed Tryz.func96 rfl (by kernel_rfl) (by kernel_rfl) (by simp[Tryz.ntmps96]) (by simp[rdO,robj]) fun w S φ hg=>?_
 have hk:∀o:List Ob,(rdO S0 L st deep mk).map (mapOb (sealT false 2 o 5))=rdO S0 L st deep mk:=fun o=>rdO_keep _ _ _ _ _ _ _ (Nat.le_refl _)
 refine R_k hg.ok rfl rfl ?_
 refine R_if rfl rfl (fun h=>?_) (fun h=>?_)<;>refine R_k hg.ok rfl rfl ?_
 ·have he:st.e≠0:=by simpa using h
  rw[show peekR L st=zeroTk by unfold peekR;rw[if_pos he]]
  exact R_retS hg 2 5 (Nat.le_refl _) rfl rfl (hk _)
 have he:¬ st.e≠0:=by simpa using h
 refine R_if rfl rfl (fun h=>?_) (fun h=>?_)<;>refine R_k hg.ok rfl rfl ?_
 ·have hl:L.length≤st.at_:=by have:=of_decide_eq_true h; rw [tkRows_len] at this; omega
  rw[show peekR L st=zeroTk by unfold peekR;rw[if_neg he,List.getElem?_eq_none hl];rfl]
  exact R_retS hg 2 5 (Nat.le_refl _) rfl rfl (hk _)
 ·have hl:st.at_<L.length:=by have:=of_decide_eq_false h; rw [tkRows_len] at this; omega
  have e1:L[st.at_]? = some L[st.at_]:=List.getElem?_eq_getElem hl
  rw[show peekR L st=L[st.at_] by unfold peekR;rw[if_neg he,e1];rfl]
  generalize L[st.at_]=t at e1
  refine R_index hg.ok rfl rfl rfl rfl rfl rfl (Int.natCast_nonneg _) (tkRows_get e1) rfl ?_
  refine R_k hg.ok rfl rfl ?_
  exact R_retS hg 2 5 (Nat.le_refl _) rfl rfl (hk _)

theorem rdPlace_ok (Y:YP)(S0:Bs)(L:List Tk)(st:RSt)(deep:Int)(mk:Bool):SCtr Tryz.prog Y 94 [.lo 0 0] (rdO S0 L st deep mk) (iV (plcR L S0.length st.at_)) (rdO S0 L st deep mk):=by
 refine SCtr.of_R (pf:=fun _=>.eff) tyOk mixed Tryz.func94 rfl (by kernel_rfl) (by kernel_rfl) (by simp[Tryz.ntmps94]) (by simp[rdO,robj]) fun w S φ hg=>?_
 have hk:∀o:List Ob,(rdO S0 L st deep mk).map (mapOb (sealT false 2 o 5))=rdO S0 L st deep mk:=fun o=>rdO_keep _ _ _ _ _ _ _ (Nat.le_refl _)
 refine R_k hg.ok rfl rfl ?_
 refine R_if rfl rfl (fun h=>?_) (fun h=>?_)<;>refine R_k hg.ok rfl rfl ?_
 ·have hl:st.at_<L.length:=by have:=of_decide_eq_true h; rw [tkRows_len] at this; omega
  have e1:L[st.at_]? = some L[st.at_]:=List.getElem?_eq_getElem hl
  rw[show plcR L S0.length st.at_=L[st.at_].at_ by unfold plcR;rw[e1]]
  generalize L[st.at_]=t at e1
  refine R_index hg.ok rfl rfl rfl rfl rfl rfl (Int.natCast_nonneg _) (tkRows_get e1) rfl ?_
  refine R_k hg.ok rfl rfl ?_
  exact R_retS hg 2 5 (Nat.le_refl _) rfl rfl (hk _)
 ·have hl:L.length≤st.at_:=by have:=of_decide_eq_false h; rw [tkRows_len] at this; omega
  rw[show plcR L S0.length st.at_=(S0.length:Int) by unfold plcR;rw[List.getElem?_eq_none hl]]
  refine R_see 2 rfl (v':=iV S0.length) (by rw[show ((Tx S0).size:Int)=S0.length by rw[Tx_size]];exact .refl _) ?_
  exact R_retS hg 2 5 (Nat.le_refl _) rfl rfl (hk _)

theorem rdFail_ok (Y:YP)(S0:Bs)(L:List Tk)(st:RSt)(deep:Int)(mk:Bool)(c:Int):SCtr Tryz.prog Y 97 [.lo 0 0,iV c] (rdO S0 L st deep mk) (.tup []) (rdO S0 L (failR L S0.length st c) deep mk):=by
 refine SCtr.of_R (pf:=fun _=>.eff) tyOk mixed Tryz.func97 rfl (by kernel_rfl) (by kernel_rfl) (by simp[Tryz.ntmps97]) (by simp[rdO,robj]) fun w S φ hg=>?_
 have hk:∀st (o:List Ob),(rdO S0 L st deep mk).map (mapOb (sealT false 2 o 5))=rdO S0 L st deep mk:=fun st o=>rdO_keep _ _ _ _ _ _ _ (Nat.le_refl _)
 refine R_k hg.ok rfl rfl ?_
 refine R_if rfl rfl (fun h=>?_) (fun h=>?_)<;>refine R_k hg.ok rfl rfl ?_
 ·have he:st.e=0:=by simpa using h
  refine R_callSO hg.ok hg.gup hg.wide hg.Y [0,1] (rdO S0 L st deep mk) (rdPlace_ok Y S0 L st deep mk) (fun _=>rfl) rfl rfl rfl rfl rfl (by rw[rdO_ren];rfl) rfl (by rw[rdO_ren];rfl) ?_
  refine R_k hg.ok rfl rfl ?_
  rw[show failR L S0.length st c={ st with e:=c,bad:=plcR L S0.length st.at_ } by unfold failR;rw[if_pos he]]
  exact R_endS hg 2 5 (Nat.le_refl _) rfl rfl (hk { st with e:=c,bad:=plcR L S0.length st.at_ } _)
 ·have he:¬ st.e=0:=by simpa using h
  rw[show failR L S0.length st c=st by unfold failR;rw[if_neg he]]
  exact R_endS hg 2 5 (Nat.le_refl _) rfl rfl (hk _ _)

theorem obsIn_refl:∀l:List Ob,ObsIn l l
 |[]=>trivial
 |o::l=>⟨.refl o,obsIn_refl l⟩

theorem R_rdAt {g:G}{pf:Nat→Cls}{Fin:Exit→Act→World→Prop}{k:List It}{E:Env}{rest:List Ob}{S:Bs}{L:List Tk}{st:RSt}{deep:Int}{mk:Bool}{m:Int}(n:Nat)(hm:m=n)(hb:n<9223372036854775808)(ht:topCode k=true)(h:R g pf Fin k E (rdO S L { st with at_:=n } deep mk++rest)) :
  R g pf Fin k E (.box [.d (.v (.string (Tx S))),.d (.sl (tkRows L)),.d (.v (.int .i64 (IntKind.i64.wrap m))),.ow 1 st.names.length,iV deep,iV st.bad,iV st.e,.d (.v (.int .u32 (if mk then 1 else 0))),.d (.v (.int .i32 0)),.d (.v (.int .u32 0)),tblV mk] :: .arr 1 st.names.length (strRows st.names)::rest) :=
 R_obs (rdO S L { st with at_:=n } deep mk++rest) ⟨⟨.refl _,.refl _,Ent.wrap hm (by simp only;omega) (by simp only;omega),.refl _,.refl _,.refl _,.refl _,.refl _,.refl _,.refl _,.refl _,trivial⟩,rfl,obsIn_refl _⟩ ht h
theorem isMk_iff {t:Tk}{s:Bs}:isMk t s=true↔t.kind=4∧t.text=s:=by simp[isMk]

theorem rdMark_ok (Y:YP)(S0:Bs)(L:List Tk)(hL:L.length≤9000)(st:RSt)(deep:Int)(mk:Bool)(s:Bs):SCtr Tryz.prog Y 148 [.lo 0 0,.d (.v (.string (Tx s)))] (rdO S0 L st deep mk) (bV (isMk (peekR L st) s)) (rdO S0 L (if isMk (peekR L st) s then nxR st else st) deep mk):=by
 refine SCtr.of_R (pf:=fun _=>.eff) tyOk mixed Tryz.func148 rfl (by kernel_rfl) (by kernel_rfl) (by simp[Tryz.ntmps148]) (by simp[rdO,robj]) fun w S φ hg=>?_
 have hk:∀st (o:List Ob),(rdO S0 L st deep mk).map (mapOb (sealT false 2 o 5))=rdO S0 L st deep mk:=fun st o=>rdO_keep _ _ _ _ _ _ _ (Nat.le_refl _)
 have hlt:isMk (peekR L st) s=true→st.at_<L.length:=fun h=>by
  have h1:=(isMk_iff.1 h).1
  unfold peekR at h1
  split at h1
  ·cases h1
  ·rcases Nat.lt_or_ge st.at_ L.length with h2 | h2
   ·exact h2
   ·rw[List.getElem?_eq_none h2]at h1;cases h1
 refine R_k hg.ok rfl rfl ?_
 refine R_callSO hg.ok hg.gup hg.wide hg.Y [0,1] (rdO S0 L st deep mk) (rdPeek_ok Y S0 L st deep mk) (fun _=>rfl) rfl rfl rfl rfl rfl (by rw[rdO_ren];rfl) rfl (by rw[rdO_ren];rfl) ?_
 refine R_k hg.ok rfl rfl ?_
 refine R_if rfl rfl (fun h=>?_) (fun h=>?_)<;>refine R_k hg.ok rfl rfl ?_
 ·have h1:¬ (peekR L st).kind=4:=by simpa using h
  have h2:isMk (peekR L st) s=false:=by cases h3:isMk (peekR L st) s;rfl;exact absurd (isMk_iff.1 h3).1 h1
  rw[h2]
  exact R_retS hg 2 5 (Nat.le_refl _) rfl rfl (hk st _)
 have h1:(peekR L st).kind=4:=by simpa using h
 refine R_if rfl rfl (fun h=>?_) (fun h=>?_)<;>refine R_k hg.ok rfl rfl ?_
 ·have h2:isMk (peekR L st) s=false:=by
   cases h3:isMk (peekR L st) s
   ·rfl
   ·rw[(isMk_iff.1 h3).2,Tx_eq]at h;simp at h
  rw[h2]
  exact R_retS hg 2 5 (Nat.le_refl _) rfl rfl (hk st _)
 ·have h2:isMk (peekR L st) s=true:=by
   rw[isMk_iff];rw[Tx_eq]at h;exact⟨h1,by simpa using h⟩
  have hl:=hlt h2
  rw[h2]
  refine R_rdAt (st.at_+1) rfl (by omega) rfl ?_
  exact R_retS hg 2 5 (Nat.le_refl _) rfl rfl (hk (nxR st) _)

theorem rdMust_ok (Y:YP)(S0:Bs)(L:List Tk)(hL:L.length≤9000)(st:RSt)(deep:Int)(mk:Bool)(s:Bs):SCtr Tryz.prog Y 149 [.lo 0 0,.d (.v (.string (Tx s)))] (rdO S0 L st deep mk) (.tup []) (rdO S0 L (mustR L S0.length st s) deep mk):=by
 refine SCtr.of_R (pf:=fun _=>.eff) tyOk mixed Tryz.func149 rfl (by kernel_rfl) (by kernel_rfl) (by simp[Tryz.ntmps149]) (by simp[rdO,robj]) fun w S φ hg=>?_
 have hk:∀st (o:List Ob),(rdO S0 L st deep mk).map (mapOb (sealT false 2 o 5))=rdO S0 L st deep mk:=fun st o=>rdO_keep _ _ _ _ _ _ _ (Nat.le_refl _)
 have hM:=rdMark_ok Y S0 L hL st deep mk s
 unfold mustR
 refine R_k hg.ok rfl rfl ?_
 cases h:isMk (peekR L st) s with
 |false =>
  rw[h]at hM
  refine R_callSO hg.ok hg.gup hg.wide hg.Y [0,1] (rdO S0 L st deep mk) hM (fun _=>rfl) rfl rfl rfl rfl rfl (by rw[rdO_ren];rfl) rfl (by simp only[Bool.false_eq_true,if_false];rw[rdO_ren];rfl) ?_
  refine R_k hg.ok rfl rfl ?_
  refine R_if rfl rfl (fun _=>?_) (fun h=>absurd h (by simp))<;>refine R_k hg.ok rfl rfl ?_
  refine R_callSO hg.ok hg.gup hg.wide hg.Y [0,1] (rdO S0 L (failR L S0.length st 2) deep mk) (rdFail_ok Y S0 L st deep mk 2) (fun _=>rfl) rfl rfl rfl rfl rfl (by rw[rdO_ren];rfl) rfl (by rw[rdO_ren];rfl) ?_
  refine R_k hg.ok rfl rfl ?_
  exact R_endS hg 2 5 (Nat.le_refl _) rfl rfl (hk (failR L S0.length st 2) _)
 |true =>
  rw[h]at hM
  refine R_callSO hg.ok hg.gup hg.wide hg.Y [0,1] (rdO S0 L (nxR st) deep mk) hM (fun _=>rfl) rfl rfl rfl rfl rfl (by rw[rdO_ren];rfl) rfl (by simp only[if_true];rw[rdO_ren];rfl) ?_
  refine R_k hg.ok rfl rfl ?_
  refine R_if rfl rfl (fun h=>absurd h (by simp)) (fun _=>?_)<;>refine R_k hg.ok rfl rfl ?_
  exact R_endS hg 2 5 (Nat.le_refl _) rfl rfl (hk (nxR st) _)
def tkO (t:Tk):Ob:=.box [.d (.v (.int .i64 t.kind)),.d (.v (.string (Tx t.text))),.d (.v (.int .i64 t.n)),.d (.v (.int .i64 t.at_)),.d (.v (.bool t.opn))]

theorem rdIn_ok (Y:YP)(S0:Bs)(L:List Tk)(st:RSt)(deep:Int)(mk:Bool):SCtr Tryz.prog Y 118 [.lo 0 0] (rdO S0 L st deep mk) (infA (inT (peekR L st))) (rdO S0 L st deep (if (peekR L st).kind≠1∧((peekR L st).kind≠4∨(peekR L st).text≠[44]) then mk else true)):=by
 by_cases hc:(peekR L st).kind≠1∧((peekR L st).kind≠4∨(peekR L st).text≠[44])
 ·rw [if_pos hc]
  rw[show inT (peekR L st)=none by unfold inT;rw[if_pos hc]]
  refine SCtr.of_R (pf:=fun _=>.eff) tyOk mixed Tryz.func118 rfl (by kernel_rfl) (by kernel_rfl) (by simp[Tryz.ntmps118]) (by simp[rdO,robj]) fun w S φ hg=>?_
  have hk:∀ (o:List Ob),(rdO S0 L st deep mk).map (mapOb (sealT false 2 o 5))=rdO S0 L st deep mk:=fun o=>rdO_keep _ _ _ _ _ _ _ (Nat.le_refl _)
  refine R_k hg.ok rfl rfl ?_
  refine R_callSO hg.ok hg.gup hg.wide hg.Y [0,1] (rdO S0 L st deep mk++[.box [iV 0,iV 0,iV 0]]) (rdPeek_ok Y S0 L st deep mk) (fun _=>rfl) rfl rfl rfl rfl rfl (by rw[rdO_ren];rfl) rfl (by rw[rdO_ren];rfl) ?_
  refine R_k hg.ok rfl rfl ?_
  refine R_if rfl rfl (fun _=>?_) (fun h=>absurd h (by simp[hc.1]))<;>refine R_k hg.ok rfl rfl ?_
  refine R_if rfl rfl (fun h=>?_) (fun h=>?_)<;>refine R_k hg.ok rfl rfl ?_
  ·exact R_retS hg 2 5 (Nat.le_refl _) rfl rfl (hk _)
  ·have h4:(peekR L st).kind=4:=by simpa using h
   have h5:(peekR L st).text≠[44]:=hc.2.resolve_left (fun e=>e h4)
   refine R_if rfl rfl (fun _=>?_) (fun h=>absurd h (by rw[show (⟨#[44]⟩:ByteArray)=Tx [44] from rfl,Tx_eq];simpa using h5))<;>refine R_k hg.ok rfl rfl ?_
   exact R_retS hg 2 5 (Nat.le_refl _) rfl rfl (hk _)
 ·rw [if_neg hc]
  rw[show inT (peekR L st)=infT (peekR L st).text by unfold inT;rw[if_neg hc]]
  have hI:=infix_ok Y S0 L st deep mk (peekR L st).text
  refine SCtr.of_R (pf:=fun _=>.eff) tyOk mixed Tryz.func118 rfl (by kernel_rfl) (by kernel_rfl) (by simp[Tryz.ntmps118]) (by simp[rdO,robj]) fun w S φ hg=>?_
  have hk:∀ (o:List Ob),(rdO S0 L st deep true).map (mapOb (sealT false 2 o 5))=rdO S0 L st deep true:=fun o=>rdO_keep _ _ _ _ _ _ _ (Nat.le_refl _)
  refine R_k hg.ok rfl rfl ?_
  refine R_callSO hg.ok hg.gup hg.wide hg.Y [0,1] (rdO S0 L st deep mk++[.box [iV 0,iV 0,iV 0]]) (rdPeek_ok Y S0 L st deep mk) (fun _=>rfl) rfl rfl rfl rfl rfl (by rw[rdO_ren];rfl) rfl (by rw[rdO_ren];rfl) ?_
  refine R_k hg.ok rfl rfl ?_
  generalize peekR L st=t at hc hI
  by_cases h1:t.kind=1
  ·refine R_if rfl rfl (fun h=>absurd h (by simp [h1])) (fun _=>?_) <;> refine R_run hg.ok 1000 rfl rfl ?_
   refine R_callSO hg.ok hg.gup hg.wide hg.Y [0,1] (rdO S0 L st deep true++[.box [iV 0,iV 0,iV 0],tkO t]) hI (fun _=>rfl) rfl rfl rfl rfl rfl (by rw[rdO_ren];rfl) rfl (by rw[rdO_ren];rfl) ?_
   cases infT t.text with
   |none=>refine R_k hg.ok rfl rfl ?_;exact R_retS hg 2 5 (Nat.le_refl _) rfl rfl (hk _)
   |some x=>refine R_k hg.ok rfl rfl ?_;exact R_retS hg 2 5 (Nat.le_refl _) rfl rfl (hk _)
  ·have h4:t.kind=4:=Classical.byContradiction fun h4=>hc ⟨h1,.inl h4⟩
   have h5:t.text=[44]:=Classical.byContradiction fun h5=>hc ⟨h1,.inr h5⟩
   refine R_if rfl rfl (fun _=>?_) (fun h=>absurd h (by simp[h1]))<;>refine R_k hg.ok rfl rfl ?_
   refine R_if rfl rfl (fun h=>absurd h (by simp[h4])) (fun _=>?_)<;>refine R_k hg.ok rfl rfl ?_
   refine R_if rfl rfl (fun h=>absurd h (by rw[show (⟨#[44]⟩:ByteArray)=Tx [44] from rfl,Tx_eq,h5];simp)) (fun _=>?_)<;>refine R_k hg.ok rfl rfl ?_
   refine R_callSO hg.ok hg.gup hg.wide hg.Y [0,1] (rdO S0 L st deep true++[.box [iV 0,iV 0,iV 0],tkO t]) hI (fun _=>rfl) rfl rfl rfl rfl rfl (by rw[rdO_ren];rfl) rfl (by rw[rdO_ren];rfl) ?_
   cases infT t.text with
   |none=>refine R_k hg.ok rfl rfl ?_;exact R_retS hg 2 5 (Nat.le_refl _) rfl rfl (hk _)
   |some x=>refine R_k hg.ok rfl rfl ?_;exact R_retS hg 2 5 (Nat.le_refl _) rfl rfl (hk _)
def pfBeg:Nat→Cls:=fun f=>bif Nat.beq f 4900100009 then .turn 100 else .eff

theorem rdBegins_ok (Y:YP)(S0:Bs)(L:List Tk)(st:RSt)(deep:Int)(mk:Bool):SCtr Tryz.prog Y 155 [.lo 0 0] (rdO S0 L st deep mk) (bV (begR L st)) (rdO S0 L st deep (if (peekR L st).kind=1 then true else mk)):=by
 have hP:=rdPeek_ok Y S0 L st deep mk
 have hI:=infix_ok Y S0 L st deep mk (peekR L st).text
 unfold begR
 generalize peekR L st=t at hP hI
 simp only
 by_cases h1:t.kind=1
 ·rw [if_pos h1]
  rw[show (decide (t.kind=3) || decide (t.kind=2) || (decide (t.kind=4)&&(t.text==[40] || t.text==[91])) || (decide (t.kind=1)&&(infT t.text).isNone))=(infT t.text).isNone by simp[h1]]
  refine SCtr.of_R (pf:=pfBeg) tyOk mixed Tryz.func155 rfl (by kernel_rfl) (by kernel_rfl) (by simp[Tryz.ntmps155]) (by simp[rdO,robj]) fun w S φ hg=>?_
  have hk:∀ (o:List Ob),(rdO S0 L st deep true).map (mapOb (sealT false 2 o 5))=rdO S0 L st deep true:=fun o=>rdO_keep _ _ _ _ _ _ _ (Nat.le_refl _)
  refine R_k hg.ok rfl rfl ?_
  refine R_callSO hg.ok hg.gup hg.wide hg.Y [0,1] (rdO S0 L st deep mk) hP (fun _=>rfl) rfl rfl rfl rfl rfl (by rw[rdO_ren];rfl) rfl (by rw[rdO_ren];rfl) ?_
  refine R_k hg.ok rfl rfl ?_
  refine R_if rfl rfl (fun h=>absurd h (by simp[h1])) (fun _=>?_)<;>refine R_k hg.ok rfl rfl ?_
  refine R_if rfl rfl (fun h=>absurd h (by simp[h1])) (fun _=>?_)<;>refine R_k hg.ok rfl rfl ?_
  refine R_if rfl rfl (fun h=>absurd h (by simp[h1])) (fun _=>?_)<;>refine R_k hg.ok rfl rfl ?_
  refine R_if rfl rfl (fun _=>?_) (fun h=>absurd h (by simp[h1]))<;>refine R_k hg.ok rfl rfl ?_
  refine R_pair3 hg.ok 5 9 (by kernel_rfl) (by kernel_rfl) ?_ ?_
  ·refine R_run hg.ok 1000 rfl rfl ?_
   refine R_callSO hg.ok hg.gup hg.wide hg.Y [0,1] (rdO S0 L st deep true++[tkO t]) hI (fun _=>rfl) rfl rfl rfl rfl rfl (by rw[rdO_ren];rfl) rfl (by rw[rdO_ren];rfl) ?_
   cases infT t.text with
   |none=>refine R_k hg.ok rfl rfl ?_;exact R_retS hg 2 5 (Nat.le_refl _) rfl rfl (hk _)
   |some x=>refine R_k hg.ok rfl rfl ?_;exact R_retS hg 2 5 (Nat.le_refl _) rfl rfl (hk _)
  ·refine R_run hg.ok 1000 rfl rfl ?_
   refine R_callSO hg.ok hg.gup hg.wide hg.Y [0,1] (rdO S0 L st deep true++[tkO t,.box [iV 0,iV 0,iV 0]]) hI (fun _=>rfl) rfl rfl rfl rfl rfl (by rw[rdO_ren];rfl) rfl (by rw[rdO_ren];rfl) ?_
   cases infT t.text with
   |none=>refine R_k hg.ok rfl rfl ?_;exact R_retS hg 2 5 (Nat.le_refl _) rfl rfl (hk _)
   |some x=>refine R_k hg.ok rfl rfl ?_;exact R_retS hg 2 5 (Nat.le_refl _) rfl rfl (hk _)
 ·rw [if_neg h1]
  refine SCtr.of_R (pf:=pfBeg) tyOk mixed Tryz.func155 rfl (by kernel_rfl) (by kernel_rfl) (by simp[Tryz.ntmps155]) (by simp[rdO,robj]) fun w S φ hg=>?_
  have hk:∀ (o:List Ob),(rdO S0 L st deep mk).map (mapOb (sealT false 2 o 5))=rdO S0 L st deep mk:=fun o=>rdO_keep _ _ _ _ _ _ _ (Nat.le_refl _)
  refine R_k hg.ok rfl rfl ?_
  refine R_callSO hg.ok hg.gup hg.wide hg.Y [0,1] (rdO S0 L st deep mk) hP (fun _=>rfl) rfl rfl rfl rfl rfl (by rw[rdO_ren];rfl) rfl (by rw[rdO_ren];rfl) ?_
  refine R_k hg.ok rfl rfl ?_
  by_cases h3:t.kind=3
  ·rw [show (decide (t.kind=3) || decide (t.kind=2) || (decide (t.kind=4)&&(t.text==[40] || t.text==[91])) || (decide (t.kind=1)&&(infT t.text).isNone))=true by simp [h3]]
   refine R_if rfl rfl (fun _=>?_) (fun h=>absurd h (by simp[h3]))<;>refine R_k hg.ok rfl rfl ?_
   exact R_retS hg 2 5 (Nat.le_refl _) rfl rfl (hk _)
  by_cases h2:t.kind=2
  ·rw [show (decide (t.kind=3) || decide (t.kind=2) || (decide (t.kind=4)&&(t.text==[40] || t.text==[91])) || (decide (t.kind=1)&&(infT t.text).isNone))=true by simp [h2]]
   refine R_if rfl rfl (fun h=>absurd h (by simp[h3])) (fun _=>?_)<;>refine R_k hg.ok rfl rfl ?_
   refine R_if rfl rfl (fun _=>?_) (fun h=>absurd h (by simp[h2]))<;>refine R_k hg.ok rfl rfl ?_
   exact R_retS hg 2 5 (Nat.le_refl _) rfl rfl (hk _)
  refine R_if rfl rfl (fun h=>absurd h (by simp[h3])) (fun _=>?_)<;>refine R_k hg.ok rfl rfl ?_
  refine R_if rfl rfl (fun h=>absurd h (by simp[h2])) (fun _=>?_)<;>refine R_k hg.ok rfl rfl ?_
  by_cases h4:t.kind=4
  ·rw [show (decide (t.kind=3) || decide (t.kind=2) || (decide (t.kind=4)&&(t.text==[40] || t.text==[91])) || (decide (t.kind=1)&&(infT t.text).isNone))=(t.text==[40] || t.text==[91]) by simp [h4]]
   refine R_if rfl rfl (fun _=>?_) (fun h=>absurd h (by simp[h4]))<;>refine R_k hg.ok rfl rfl ?_
   have e40:strEq (Tx t.text) ⟨#[40]⟩=(t.text==[40]):=Tx_eq _ _
   have e91:strEq (Tx t.text) ⟨#[91]⟩=(t.text==[91]):=Tx_eq _ _
   cases h40:(t.text==[40]) with
   |true =>
    refine R_if rfl rfl (fun _=>?_) (fun h=>absurd h (by rw[e40,h40];simp))<;>refine R_k hg.ok rfl rfl ?_
    exact R_retS hg 2 5 (Nat.le_refl _) rfl rfl (hk _)
   |false =>
    refine R_if rfl rfl (fun h=>absurd h (by rw[e40,h40];simp)) (fun _=>?_)<;>refine R_k hg.ok rfl rfl ?_
    rw[e91]
    exact R_retS hg 2 5 (Nat.le_refl _) rfl rfl (hk _)
  ·rw [show (decide (t.kind=3) || decide (t.kind=2) || (decide (t.kind=4)&&(t.text==[40] || t.text==[91])) || (decide (t.kind=1)&&(infT t.text).isNone))=false by simp [h1,h2,h3,h4]]
   refine R_if rfl rfl (fun h=>absurd h (by simp[h4])) (fun _=>?_)<;>refine R_k hg.ok rfl rfl ?_
   refine R_if rfl rfl (fun h=>absurd h (by simp[h1])) (fun _=>?_)<;>refine R_k hg.ok rfl rfl ?_
   exact R_retS hg 2 5 (Nat.le_refl _) rfl rfl (hk _)

theorem rdPrefix_ok (s:Bs):PCtr Tryz.prog 153 [.d (.v (.string (Tx s)))] (iV (preT s)):=by
 have e1:strEq (Tx s) ⟨#[92,43]⟩=(s==[92,43]):=Tx_eq _ _
 have e2:strEq (Tx s) ⟨#[45]⟩=(s==[45]):=Tx_eq _ _
 unfold preT
 refine PCtr.of_R (pf:=fun _=>.still) tyOk mixed Tryz.func153 rfl (by kernel_rfl) (by kernel_rfl) (by simp[Tryz.ntmps153]) fun w S hg=>?_
 refine R_k hg.ok rfl rfl ?_
 by_cases h1:s=[92,43]
 ·rw [if_pos h1]
  refine R_if rfl rfl (fun _=>?_) (fun h=>absurd h (by rw[e1,h1];simp))<;>refine R_k hg.ok rfl rfl ?_
  refine R_ret hg 5 rfl rfl ?_
  rfl
 rw[if_neg h1]
 refine R_if rfl rfl (fun h=>absurd h (by rw[e1];simpa using h1)) (fun _=>?_)<;>refine R_k hg.ok rfl rfl ?_
 by_cases h2:s=[45]
 ·rw [if_pos h2]
  refine R_if rfl rfl (fun _=>?_) (fun h=>absurd h (by rw[e2,h2];simp))<;>refine R_k hg.ok rfl rfl ?_
  refine R_ret hg 5 rfl rfl ?_
  rfl
 rw[if_neg h2]
 refine R_if rfl rfl (fun h=>absurd h (by rw[e2];simpa using h2)) (fun _=>?_)<;>refine R_k hg.ok rfl rfl ?_
 refine R_ret hg 5 rfl rfl ?_
 rfl

theorem rdO_snoc (S0:Bs)(L:List Tk)(st:RSt)(deep:Int)(mk:Bool)(x:Bs):rdO S0 L { st with names:=st.names++[x] } deep mk=[.box [.d (.v (.string (Tx S0))),.d (.sl (tkRows L)),iV st.at_,.ow 1 (st.names.length+1),iV deep,iV st.bad,iV st.e,.d (.v (.int .u32 (if mk then 1 else 0))),.d (.v (.int .i32 0)),.d (.v (.int .u32 0)),tblV mk],.arr 1 (st.names.length+1) (strRows (st.names++[x]))]:=by
 simp only[rdO,robj,List.length_append,List.length_singleton]

theorem rdVar_ok (Y:YP)(S0:Bs)(L:List Tk)(st:RSt)(hn:st.names.length≤20000)(deep:Int)(mk:Bool)(s:Bs):SCtr Tryz.prog Y 146 [.lo 0 0,.d (.v (.string (Tx s)))] (rdO S0 L st deep mk) (iV (varR st s).1) (rdO S0 L (varR st s).2 deep mk):=by
 refine SCtr.of_R (pf:=fun _=>.eff) tyOk mixed Tryz.func146 rfl (by kernel_rfl) (by kernel_rfl) (by simp[Tryz.ntmps146]) (by simp[rdO,robj]) fun w S φ hg=>?_
 have hk:∀ (st:RSt) (o:List Ob),(rdO S0 L st deep mk).map (mapOb (sealT false 2 o 5))=rdO S0 L st deep mk:=fun st o=>rdO_keep _ _ _ _ _ _ _ (Nat.le_refl _)
 have hk2:∀ (x:Bs) (o:List Ob),([.box [.d (.v (.string (Tx S0))),.d (.sl (tkRows L)),iV st.at_,.ow 1 (st.names.length+1),iV deep,iV st.bad,iV st.e,.d (.v (.int .u32 (if mk then 1 else 0))),.d (.v (.int .i32 0)),.d (.v (.int .u32 0)),tblV mk],.arr 1 (st.names.length+1) (strRows (st.names++[x]))]:List Ob).map (mapOb (sealT false 2 o 5))=[.box [.d (.v (.string (Tx S0))),.d (.sl (tkRows L)),iV st.at_,.ow 1 (st.names.length+1),iV deep,iV st.bad,iV st.e,.d (.v (.int .u32 (if mk then 1 else 0))),.d (.v (.int .i32 0)),.d (.v (.int .u32 0)),tblV mk],.arr 1 (st.names.length+1) (strRows (st.names++[x]))]:=fun x o=>by
  have:=hk { st with names:=st.names++[x] } o
  rwa [rdO_snoc]at this
 have e95:strEq (Tx s) ⟨#[95]⟩=(s==[95]):=Tx_eq _ _
 refine R_k hg.ok rfl rfl ?_
 refine R_lenO hg.ok rfl rfl rfl rfl rfl (n:=(st.names.length:Int)) (by rw[strRows_len]) ?_
 refine R_k hg.ok rfl rfl ?_
 refine R_cut2 (fun _:Unit=>([(0,.lo 0 0),(1,.d (.v (.string (Tx s))))],rdO S0 L st deep mk)) (fun _=>(if s=[95] then none else idxV st.names s 0)=none) rfl ?_ ?_
 ·refine R_loop (fun k:Nat=>([(0,.lo 0 0),(1,.d (.v (.string (Tx s)))),(10,.ow 1 st.names.length),(11,iV st.names.length),(12,iV k)],rdO S0 L st deep mk)) (fun k=>k≤st.names.length∧(s≠[95]→idxV st.names s 0=idxV (st.names.drop k) s k)) (fun k=>st.names.length - k) 0 ⟨Nat.zero_le _,fun _=>rfl⟩ ⟨.refl _,.refl _,.refl _,.refl _,.refl _,trivial⟩ rfl ?_
  rintro k ⟨hk1,hm⟩
  refine R_k hg.ok rfl rfl ?_
  refine R_if rfl rfl (fun h=>?_) (fun h=>?_)<;>refine R_k hg.ok rfl rfl ?_
  ·have hk2:k<st.names.length:=lt_dec h rfl
   have e1:st.names[k]? = some st.names[k]:=List.getElem?_eq_getElem hk2
   rw[List.drop_eq_getElem_cons hk2]at hm
   generalize st.names[k]=x at e1 hm
   refine R_indexO hg.ok rfl rfl rfl rfl rfl rfl rfl rfl rfl (Int.natCast_nonneg k) (by rw[strRows_len];simpa using hk2) ?_
   refine R_k hg.ok rfl rfl ?_
   refine R_loadE hg.ok rfl rfl rfl rfl rfl rfl (by rw[Int.toNat_natCast];exact strRows_get e1) rfl ?_
   refine R_k hg.ok rfl rfl ?_
   have hx:strEq (Tx x) (Tx s)=(x==s):=Tx_eq _ _
   by_cases hxs:x=s
   ·refine R_if rfl rfl (fun _=>?_) (fun h=>absurd h (by rw [hx,hxs]; simp)) <;> refine R_run hg.ok 1000 rfl rfl ?_
    by_cases h95:s=[95]
    ·refine R_if rfl rfl (fun h=>absurd h (by rw [e95,h95]; simp)) (fun _=>?_) <;> refine R_run hg.ok 1000 rfl rfl ?_
     exact R_next (k+1) ⟨hk2,fun h=>absurd h95 h⟩ (by omega) ⟨.refl _,.refl _,.refl _,.refl _,Ent.wrap (by omega) (by omega) (by omega),trivial⟩ rfl
    ·refine R_if rfl rfl (fun _=>?_) (fun h=>absurd h (by rw [e95]; simpa using h95)) <;> refine R_run hg.ok 1000 rfl rfl ?_
     have hv:varR st s=((k:Int),st):=by
      unfold varR
      rw[if_neg h95,hm h95,idxV,if_pos hxs]
     rw[hv]
     exact R_retS hg 2 5 (Nat.le_refl _) rfl rfl (hk st _)
   ·refine R_if rfl rfl (fun h=>absurd h (by rw [hx]; simpa using hxs)) (fun _=>?_) <;> refine R_run hg.ok 1000 rfl rfl ?_
    exact R_next (k+1) ⟨hk2,fun h=>by rw[hm h,idxV,if_neg hxs]⟩ (by omega) ⟨.refl _,.refl _,.refl _,.refl _,Ent.wrap (by omega) (by omega) (by omega),trivial⟩ rfl
  ·have hk2:st.names.length≤k:=ge_dec h rfl
   refine R_to () ?_ ⟨.refl _,.refl _,trivial⟩ rfl
   split
   ·rfl
   ·rename_i hs
    rw[hm hs,List.drop_eq_nil_of_le hk2];rfl
 rintro _ hno
 refine R_k hg.ok rfl rfl ?_
 have hv:varR st s=((st.names.length:Int),{ st with names:=st.names++[if s=[95] then [] else s] }):=by
  unfold varR
  rw[hno]
 rw[hv]
 by_cases h95:s=[95]
 ·refine R_if rfl rfl (fun _=>?_) (fun h=>absurd h (by rw [e95,h95]; simp)) <;> refine R_run hg.ok 1000 rfl rfl ?_
  rw[if_pos h95,rdO_snoc]
  refine R_appendO hg.ok (strRows (st.names++[[]])) rfl rfl rfl rfl rfl rfl rfl rfl rfl (by simp) (by simp[one1]) (strRows_snoc st.names []) (by rw[strRows_len];simp;omega) (by rw[strRows_len];simp;omega) ?_
  refine R_k hg.ok rfl rfl ?_
  refine R_lenO hg.ok rfl rfl rfl rfl rfl (n:=((st.names.length+1:Nat):Int)) (by rw[strRows_len];simp) ?_
  refine R_k hg.ok rfl rfl ?_
  refine R_see 4 rfl (Ent.wrap (n:=(st.names.length:Int)) (by omega) (by omega) (by omega)) ?_
  exact R_retS hg 2 5 (Nat.le_refl _) rfl rfl (hk2 [] _)
 ·refine R_if rfl rfl (fun h=>absurd h (by rw [e95]; simpa using h95)) (fun _=>?_) <;> refine R_run hg.ok 1000 rfl rfl ?_
  rw[if_neg h95,rdO_snoc]
  refine R_appendO hg.ok (strRows (st.names++[s])) rfl rfl rfl rfl rfl rfl rfl rfl rfl (by simp) (by simp[one1]) (strRows_snoc st.names s) (by rw[strRows_len];simp;omega) (by rw[strRows_len];simp;omega) ?_
  refine R_k hg.ok rfl rfl ?_
  refine R_lenO hg.ok rfl rfl rfl rfl rfl (n:=((st.names.length+1:Nat):Int)) (by rw[strRows_len];simp) ?_
  refine R_k hg.ok rfl rfl ?_
  refine R_see 4 rfl (Ent.wrap (n:=(st.names.length:Int)) (by omega) (by omega) (by omega)) ?_
  exact R_retS hg 2 5 (Nat.le_refl _) rfl rfl (hk2 s _)

def rdX (S:Bs)(L:List Tk)(st:RSt)(deep:Int):List Ob:=rdO S L st deep st.lay
theorem rdX_keep (S:Bs)(L:List Tk)(st:RSt)(deep:Int)(n0:Nat)(o:List Ob)(hn:2≤n0):(rdX S L st deep).map (mapOb (sealT false n0 o 5))=rdX S L st deep:=rdO_keep _ _ _ _ _ _ _ hn
theorem rdX_ren (S:Bs)(L:List Tk)(st:RSt)(deep:Int)(n:Nat)(l:List Nat):(rdX S L st deep).map (renOb (rn (0::1::l) n))=rdX S L st deep:=rdO_ren _ _ _ _ _ _ _
theorem xPeek (Y:YP)(S0:Bs)(L:List Tk)(st:RSt)(deep:Int):SCtr Tryz.prog Y 96 [.lo 0 0] (rdX S0 L st deep) (tkA (peekR L st)) (rdX S0 L st deep):=rdPeek_ok Y S0 L st deep st.lay

theorem xFail (Y:YP)(S0:Bs)(L:List Tk)(st:RSt)(deep c:Int):SCtr Tryz.prog Y 97 [.lo 0 0,iV c] (rdX S0 L st deep) (.tup []) (rdX S0 L (failR L S0.length st c) deep):=by
 have:=rdFail_ok Y S0 L st deep st.lay c
 unfold rdX
 rwa [show (failR L S0.length st c).lay=st.lay by unfold failR;split<;>rfl]

theorem xMark (Y:YP)(S0:Bs)(L:List Tk)(hL:L.length≤9000)(st:RSt)(deep:Int)(s:Bs):SCtr Tryz.prog Y 148 [.lo 0 0,.d (.v (.string (Tx s)))] (rdX S0 L st deep) (bV (isMk (peekR L st) s)) (rdX S0 L (if isMk (peekR L st) s then nxR st else st) deep):=by
 have:=rdMark_ok Y S0 L hL st deep st.lay s
 unfold rdX
 rwa [show (if isMk (peekR L st) s then nxR st else st).lay=st.lay by split<;>rfl]

theorem xMust (Y:YP)(S0:Bs)(L:List Tk)(hL:L.length≤9000)(st:RSt)(deep:Int)(s:Bs):SCtr Tryz.prog Y 149 [.lo 0 0,.d (.v (.string (Tx s)))] (rdX S0 L st deep) (.tup []) (rdX S0 L (mustR L S0.length st s) deep):=by
 have:=rdMust_ok Y S0 L hL st deep st.lay s
 unfold rdX
 rwa [show (mustR L S0.length st s).lay=st.lay by unfold mustR failR;split<;>first |rfl |(split<;>rfl)]

theorem xIn (Y:YP)(S0:Bs)(L:List Tk)(st:RSt)(deep:Int):SCtr Tryz.prog Y 118 [.lo 0 0] (rdX S0 L st deep) (infA (inT (peekR L st))) (rdX S0 L (inS L st) deep):=by
 have:=rdIn_ok Y S0 L st deep st.lay
 unfold rdX inS
 split at this
 ·rename_i h;rw[if_pos h];exact this
 ·rename_i h;rw[if_neg h];exact this

theorem xBegins (Y:YP)(S0:Bs)(L:List Tk)(st:RSt)(deep:Int):SCtr Tryz.prog Y 155 [.lo 0 0] (rdX S0 L st deep) (bV (begR L st)) (rdX S0 L (begS L st) deep):=by
 have:=rdBegins_ok Y S0 L st deep st.lay
 unfold rdX begS
 split at this
 ·rename_i h;rw[if_pos h];exact this
 ·rename_i h;rw[if_neg h];exact this

theorem xVar (Y:YP)(S0:Bs)(L:List Tk)(st:RSt)(hn:st.names.length≤20000)(deep:Int)(s:Bs):SCtr Tryz.prog Y 146 [.lo 0 0,.d (.v (.string (Tx s)))] (rdX S0 L st deep) (iV (varR st s).1) (rdX S0 L (varR st s).2 deep):=by
 have:=rdVar_ok Y S0 L st hn deep st.lay s
 unfold rdX
 rwa [(var_at s).2.2.1]

def TCtr (Y:YP)(S0:Bs)(L:List Tk)(T:TF):Prop:=∀ (deep:Nat) (p:Int) (st:RSt) (t:Tm) (st':RSt),T deep p st=some (t,st')→deep≤1000→RInv L st→SCtr Tryz.prog Y 95 [.lo 0 0,iV p] (rdX S0 L st deep) t.av (rdX S0 L st' deep)
def rwT (t:Tm):List D:=[.v (.int .i64 t.k),.v (.string t.s),.v (.int .i64 t.n),.sl (Tm.rows t.l)]
theorem rwT_rows (l:List Tm):l.map rwT=Tm.rows l:=by rw[Tm.rows_eq];rfl
theorem rwT_snoc (l:List Tm)(x:Tm):l.map rwT++[rwT x]=Tm.rows (l++[x]):=by rw[← rwT_rows];simp
theorem rwT_snoc2 (l:List Tm)(x:Tm):Tm.rows l++[rwT x]=Tm.rows (l++[x]):=by rw[← rwT_rows,← rwT_rows];simp

def accS:Tm ⊕ List Tm × Nat→List Tm
 | .inl t=>[t]
 | .inr p=>p.1

def sevE (S0:Bs) (L:List Tk) (deep:Int) (s:Bs):(Nat × RSt × (Tm ⊕ List Tm × Nat))→Env × List Ob
 |(_,st,.inl t)=>([(0,.lo 0 0),(1,.d (.v (.string (Tx s)))),(5,.fs [rwT t])],rdX S0 L st deep)
 |(_,st,.inr p)=>([(0,.lo 0 0),(1,.d (.v (.string (Tx s)))),(5,.ow 2 p.2)],rdX S0 L st deep++[.arr 4 p.2 (Tm.rows p.1)])

theorem rdSeveral_ok (Y:YP)(S0:Bs)(L:List Tk)(hL:L.length≤9000){T:TF}(hT:TCtr Y S0 L T)(hG:TGood L T)(deep:Nat)(hd:deep≤1000)(st:RSt)(hi:RInv L st)(l:List Tm)(st':RSt)(h:rowR L T deep st=some (l,st'))(s:Bs) :
  SCtr Tryz.prog Y 154 [.lo 0 0,.d (.v (.string (Tx s)))] (rdX S0 L st deep) (.d (.sl (Tm.rows l))) (rdX S0 L (mustR L S0.length st' s) deep):=by
 obtain⟨⟨t,st1⟩,h1,h2⟩:=Option.bind_eq_some_iff.1 h
 simp only at h2
 refine SCtr.of_R (pf:=fun _=>.eff) tyOk mixed Tryz.func154 rfl (by kernel_rfl) (by kernel_rfl) (by simp[Tryz.ntmps154]) (by simp[rdX,rdO,robj]) fun w S φ hg=>?_
 have hφ:φ.length=2:=hg.hs0.len
 have hk:∀ (st:RSt) (o:List Ob),(rdX S0 L st deep).map (mapOb (sealT false 2 o 5))=rdX S0 L st deep:=fun st o=>rdX_keep _ _ _ _ _ _ (Nat.le_refl _)
 refine R_k hg.ok rfl rfl ?_
 refine R_callSO hg.ok hg.gup hg.wide hg.Y [0,1] (rdX S0 L st1 deep) (hT deep 999 st t st1 h1 hd hi) (fun _=>rfl) rfl rfl rfl rfl rfl (by rw[rdX_ren];rfl) rfl (by rw[rdX_ren];rfl) ?_
 refine R_k hg.ok rfl rfl ?_
 refine R_cut2 (fun o:Tm ⊕ List Tm × Nat=>sevE S0 L deep s (0,st',o)) (fun o=>accS o=l) rfl ?_ ?_
 ·refine R_loop (sevE S0 L deep s) (fun x=>manyR L T x.1 deep x.2.1 (accS x.2.2)=some (l,st')∧RInv L x.2.1∧(accS x.2.2).length+x.1≤L.length+3) (fun x=>x.1) (L.length+2,st1,.inl t) ⟨h2,hG _ _ _ _ _ h1 hi,by simp [accS]; omega⟩ ⟨.refl _,.refl _,.refl _,trivial⟩ rfl ?_
  rintro⟨f,st2,o⟩ ⟨hm,hi2,hl⟩
  simp only at hm hi2 hl
  cases f with
  |zero=>cases hm
  |succ f =>
  simp only[manyR]at hm
  have hM:=xMark Y S0 L hL st2 deep [44]
  cases hmk:isMk (peekR L st2) [44]with
  |false =>
   rw[hmk]at hm hM
   simp only[Bool.false_eq_true,if_false]at hm hM
   have hm:=Option.some.inj hm
   obtain⟨ha,rfl⟩:=Prod.mk.inj hm
   cases o with
   |inl t2 =>
    refine R_k hg.ok rfl rfl ?_
    refine R_callSO hg.ok hg.gup hg.wide hg.Y [0,1] (rdX S0 L st2 deep) hM (fun _=>rfl) rfl rfl rfl rfl rfl (by rw[rdX_ren];rfl) rfl (by rw[rdX_ren];rfl) ?_
    refine R_k hg.ok rfl rfl ?_
    refine R_if rfl rfl (fun h=>absurd h (by simp)) (fun _=>?_)<;>refine R_k hg.ok rfl rfl ?_
    exact R_to (.inl t2) ha ⟨.refl _,.refl _,.refl _,trivial⟩ rfl
   |inr p =>
    refine R_k hg.ok rfl rfl ?_
    refine R_callSO hg.ok hg.gup hg.wide hg.Y [0,1] (rdX S0 L st2 deep++[.arr 4 p.2 (Tm.rows p.1)]) hM (fun _=>rfl) rfl rfl rfl rfl rfl (by rw[rdX_ren];rfl) rfl (by rw[rdX_ren];rfl) ?_
    refine R_k hg.ok rfl rfl ?_
    refine R_if rfl rfl (fun h=>absurd h (by simp)) (fun _=>?_)<;>refine R_k hg.ok rfl rfl ?_
    exact R_to (.inr p) ha ⟨.refl _,.refl _,.refl _,trivial⟩ rfl
  |true =>
   rw[hmk]at hm hM
   simp only[if_true]at hm hM
   obtain⟨⟨x,st3⟩,hx,hm⟩:=Option.bind_eq_some_iff.1 hm
   have hi3:=hi2.nx (isMk_lt hmk).2
   have hc:=hT deep 999 (nxR st2) x st3 hx hd hi3
   have hi4:=hG _ _ _ _ _ hx hi3
   cases o with
   |inl t2 =>
    refine R_k hg.ok rfl rfl ?_
    refine R_callSO hg.ok hg.gup hg.wide hg.Y [0,1] (rdX S0 L (nxR st2) deep) hM (fun _=>rfl) rfl rfl rfl rfl rfl (by rw[rdX_ren];rfl) rfl (by rw[rdX_ren];rfl) ?_
    refine R_k hg.ok rfl rfl ?_
    refine R_if rfl rfl (fun _=>?_) (fun h=>absurd h (by simp))<;>refine R_k hg.ok rfl rfl ?_
    refine R_callSO hg.ok hg.gup hg.wide hg.Y [0,1] (rdX S0 L st3 deep) hc (fun _=>rfl) rfl rfl rfl rfl rfl (by rw[rdX_ren];rfl) rfl (by rw[rdX_ren];rfl) ?_
    refine R_k hg.ok rfl rfl ?_
    refine R_appendF hg.ok rfl rfl (.inl rfl) rfl (.inr (by simp)) rfl rfl rfl (by simp[rwT]) (by simp) (by simp) (by simp) ?_
    refine R_k hg.ok rfl rfl ?_
    exact R_next (f,st3,.inr ([t2]++[x],0)) ⟨hm,hi4,by simp[accS]at hl ⊢;omega⟩ (by simp only;omega) ⟨.refl _,.refl _,.refl _,trivial⟩ (congrArg (fun r=>rdX S0 L st3 deep++[Ob.arr 4 0 r]) (rwT_snoc [t2] x))
   |inr p =>
    refine R_k hg.ok rfl rfl ?_
    refine R_callSO hg.ok hg.gup hg.wide hg.Y [0,1] (rdX S0 L (nxR st2) deep++[.arr 4 p.2 (Tm.rows p.1)]) hM (fun _=>rfl) rfl rfl rfl rfl rfl (by rw[rdX_ren];rfl) rfl (by rw[rdX_ren];rfl) ?_
    refine R_k hg.ok rfl rfl ?_
    refine R_if rfl rfl (fun _=>?_) (fun h=>absurd h (by simp))<;>refine R_k hg.ok rfl rfl ?_
    refine R_callSO hg.ok hg.gup hg.wide hg.Y [0,1] (rdX S0 L st3 deep++[.arr 4 p.2 (Tm.rows p.1)]) hc (fun _=>rfl) rfl rfl rfl rfl rfl (by rw[rdX_ren];rfl) rfl (by rw[rdX_ren];rfl) ?_
    refine R_k hg.ok rfl rfl ?_
    have hpl:(Tm.rows p.1).length=p.1.length:=Tm.rows_length _
    simp only[accS]at hl
    refine R_appendO hg.ok (Tm.rows (p.1++[x])) rfl rfl rfl rfl rfl rfl rfl rfl rfl (by simp) (by simp[one1]) (rwT_snoc2 p.1 x) (by simp;omega) (by simp;omega) ?_
    refine R_k hg.ok rfl rfl ?_
    exact R_next (f,st3,.inr (p.1++[x],p.2+1)) ⟨hm,hi4,by simp[accS];omega⟩ (by simp only;omega) ⟨.refl _,.refl _,.refl _,trivial⟩ rfl
 rintro o ho
 cases o with
 |inl t2 =>
  refine R_k hg.ok rfl rfl ?_
  refine R_callSO hg.ok hg.gup hg.wide hg.Y [0,1] (rdX S0 L (mustR L S0.length st' s) deep) (xMust Y S0 L hL st' deep s) (fun _=>rfl) rfl rfl rfl rfl rfl (by rw[rdX_ren];rfl) rfl (by rw[rdX_ren];rfl) ?_
  refine R_k hg.ok rfl rfl ?_
  have hr:Tm.rows l=[rwT t2]:=by rw[← ho,← rwT_rows];rfl
  rw[hr]
  exact R_retS hg 2 5 (Nat.le_refl _) rfl rfl (hk _ _)
 |inr p =>
  obtain rfl:p.1=l:=ho
  refine R_k hg.ok rfl rfl ?_
  refine R_callSO hg.ok hg.gup hg.wide hg.Y [0,1] (rdX S0 L (mustR L S0.length st' s) deep++[.arr 4 p.2 (Tm.rows p.1)]) (xMust Y S0 L hL st' deep s) (fun _=>rfl) rfl rfl rfl rfl rfl (by rw[rdX_ren];rfl) rfl (by rw[rdX_ren];rfl) ?_
  refine R_k hg.ok rfl rfl ?_
  exact R_retS hg 2 5 (Nat.le_refl _) rfl (sealT_ow rfl rfl) (hk _ _)

def bxT (t:Tm):Ob:=.box [.d (.v (.int .i64 t.k)),.d (.v (.string t.s)),.d (.v (.int .i64 t.n)),.d (.sl (Tm.rows t.l))]
def bxN:Ob:=.box [.d (.v (.int .i64 3)),.d (.v (.string ⟨#[91,93]⟩)),.d (.v (.int .i64 0)),.d (.v (.slice none 0 0))]
def boxZ:Ob:=.box [.d (.v (.int .i64 0)),.d (.v (.string ByteArray.empty)),.d (.v (.int .i64 0)),.d (.v (.slice none 0 0))]
theorem Ent.tblFrz (i s:Nat)(rows:List (List D))(b:Bool):Ent (frzA i s rows (tblV b)) (tblV b):=by cases b<;>exact .refl _
theorem bxT_fn (s:Bs)(l:List Tm):bxT (fnT s l)=.box [.d (.v (.int .i64 3)),.d (.v (.string (Tx s))),.d (.v (.int .i64 0)),.d (.sl (Tm.rows l))]:=rfl

def lstE (S0:Bs) (L:List Tk) (deep:Int):(Nat × RSt × (Tm ⊕ List Tm × Nat))→Env × List Ob
 |(_,st,.inl t)=>([(0,.lo 0 0),(2,.lo 2 0),(3,.fs [rwT t])],rdX S0 L st deep++[boxZ])
 |(_,st,.inr p)=>([(0,.lo 0 0),(2,.lo 2 0),(3,.ow 3 p.2)],rdX S0 L st deep++[boxZ,.arr 4 p.2 (Tm.rows p.1)])

theorem rdList_ok (Y:YP)(S0:Bs)(L:List Tk)(hL:L.length≤9000){T:TF}(hT:TCtr Y S0 L T)(hG:TGood L T)(deep:Nat)(hd:deep≤1000)(st:RSt)(hi:RInv L st)(t:Tm)(st':RSt)(h:listR S0 L T deep st=some (t,st')) :
  SCtr Tryz.prog Y 150 [.lo 0 0] (rdX S0 L st deep) t.av (rdX S0 L st' deep):=by
 obtain⟨⟨l,st1⟩,h0,h2⟩:=Option.bind_eq_some_iff.1 h
 obtain⟨⟨t0,st0⟩,h1,h3⟩:=Option.bind_eq_some_iff.1 h0
 simp only at h2 h3
 refine SCtr.of_R (pf:=fun _=>.eff) tyOk mixed Tryz.func150 rfl (by kernel_rfl) (by kernel_rfl) (by simp[Tryz.ntmps150]) (by simp[rdX,rdO,robj]) fun w S φ hg=>?_
 have hk:∀ (st:RSt) (o:List Ob),(rdX S0 L st deep).map (mapOb (sealT false 2 o 5))=rdX S0 L st deep:=fun st o=>rdX_keep _ _ _ _ _ _ (Nat.le_refl _)
 refine R_k hg.ok rfl rfl ?_
 refine R_callSO hg.ok hg.gup hg.wide hg.Y [0,1] (rdX S0 L st0 deep++[boxZ]) (hT deep 999 st t0 st0 h1 hd hi) (fun _=>rfl) rfl rfl rfl rfl rfl (by rw[rdX_ren];rfl) rfl (by rw[rdX_ren];rfl) ?_
 refine R_k hg.ok rfl rfl ?_
 refine R_cut2 (fun o:Tm ⊕ List Tm × Nat=>lstE S0 L deep (0,st1,o)) (fun o=>accS o=l∧RInv L st1∧l.length≤L.length+3) rfl ?_ ?_
 ·refine R_loop (lstE S0 L deep) (fun x=>manyR L T x.1 deep x.2.1 (accS x.2.2)=some (l,st1)∧RInv L x.2.1∧(accS x.2.2).length+x.1≤L.length+3) (fun x=>x.1) (L.length+2,st0,.inl t0) ⟨h3,hG _ _ _ _ _ h1 hi,by simp [accS]; omega⟩ ⟨.refl _,.refl _,.refl _,trivial⟩ rfl ?_
  rintro⟨f,st2,o⟩ ⟨hm,hi2,hl⟩
  simp only at hm hi2 hl
  cases f with
  |zero=>cases hm
  |succ f =>
  simp only[manyR]at hm
  have hM:=xMark Y S0 L hL st2 deep [44]
  cases hmk:isMk (peekR L st2) [44]with
  |false =>
   rw[hmk]at hm hM
   simp only[Bool.false_eq_true,if_false]at hm hM
   have hm:=Option.some.inj hm
   obtain⟨ha,rfl⟩:=Prod.mk.inj hm
   have hll:l.length≤L.length+3:=by rw[← ha];omega
   cases o with
   |inl t2 =>
    refine R_k hg.ok rfl rfl ?_
    refine R_callSO hg.ok hg.gup hg.wide hg.Y [0,1] (rdX S0 L st2 deep++[boxZ]) (hM) (fun _=>rfl) rfl rfl rfl rfl rfl (by rw[rdX_ren];rfl) rfl (by rw[rdX_ren];rfl) ?_
    refine R_k hg.ok rfl rfl ?_
    refine R_if rfl rfl (fun h=>absurd h (by simp)) (fun _=>?_)<;>refine R_k hg.ok rfl rfl ?_
    exact R_to (.inl t2) ⟨ha,hi2,hll⟩ ⟨.refl _,.refl _,.refl _,trivial⟩ rfl
   |inr p =>
    refine R_k hg.ok rfl rfl ?_
    refine R_callSO hg.ok hg.gup hg.wide hg.Y [0,1] (rdX S0 L st2 deep++[boxZ,.arr 4 p.2 (Tm.rows p.1)]) (hM) (fun _=>rfl) rfl rfl rfl rfl rfl (by rw[rdX_ren];rfl) rfl (by rw[rdX_ren];rfl) ?_
    refine R_k hg.ok rfl rfl ?_
    refine R_if rfl rfl (fun h=>absurd h (by simp)) (fun _=>?_)<;>refine R_k hg.ok rfl rfl ?_
    exact R_to (.inr p) ⟨ha,hi2,hll⟩ ⟨.refl _,.refl _,.refl _,trivial⟩ rfl
  |true =>
   rw[hmk]at hm hM
   simp only[if_true]at hm hM
   obtain⟨⟨x,st3⟩,hx,hm⟩:=Option.bind_eq_some_iff.1 hm
   have hi3:=hi2.nx (isMk_lt hmk).2
   have hc:=hT deep 999 (nxR st2) x st3 hx hd hi3
   have hi4:=hG _ _ _ _ _ hx hi3
   cases o with
   |inl t2 =>
    refine R_k hg.ok rfl rfl ?_
    refine R_callSO hg.ok hg.gup hg.wide hg.Y [0,1] (rdX S0 L (nxR st2) deep++[boxZ]) (hM) (fun _=>rfl) rfl rfl rfl rfl rfl (by rw[rdX_ren];rfl) rfl (by rw[rdX_ren];rfl) ?_
    refine R_k hg.ok rfl rfl ?_
    refine R_if rfl rfl (fun _=>?_) (fun h=>absurd h (by simp))<;>refine R_k hg.ok rfl rfl ?_
    refine R_callSO hg.ok hg.gup hg.wide hg.Y [0,1] (rdX S0 L st3 deep++[boxZ]) (hc) (fun _=>rfl) rfl rfl rfl rfl rfl (by rw[rdX_ren];rfl) rfl (by rw[rdX_ren];rfl) ?_
    refine R_k hg.ok rfl rfl ?_
    refine R_appendF hg.ok rfl rfl (.inl rfl) rfl (.inr (by simp)) rfl rfl rfl (by simp[rwT]) (by simp) (by simp) (by simp) ?_
    refine R_k hg.ok rfl rfl ?_
    exact R_next (f,st3,.inr ([t2]++[x],0)) ⟨hm,hi4,by simp[accS]at hl ⊢;omega⟩ (by simp only;omega) ⟨.refl _,.refl _,.refl _,trivial⟩ (congrArg (fun r=>rdX S0 L st3 deep++[boxZ,Ob.arr 4 0 r]) (rwT_snoc [t2] x))
   |inr p =>
    refine R_k hg.ok rfl rfl ?_
    refine R_callSO hg.ok hg.gup hg.wide hg.Y [0,1] (rdX S0 L (nxR st2) deep++[boxZ,.arr 4 p.2 (Tm.rows p.1)]) (hM) (fun _=>rfl) rfl rfl rfl rfl rfl (by rw[rdX_ren];rfl) rfl (by rw[rdX_ren];rfl) ?_
    refine R_k hg.ok rfl rfl ?_
    refine R_if rfl rfl (fun _=>?_) (fun h=>absurd h (by simp))<;>refine R_k hg.ok rfl rfl ?_
    refine R_callSO hg.ok hg.gup hg.wide hg.Y [0,1] (rdX S0 L st3 deep++[boxZ,.arr 4 p.2 (Tm.rows p.1)]) (hc) (fun _=>rfl) rfl rfl rfl rfl rfl (by rw[rdX_ren];rfl) rfl (by rw[rdX_ren];rfl) ?_
    refine R_k hg.ok rfl rfl ?_
    have hpl:(Tm.rows p.1).length=p.1.length:=Tm.rows_length _
    simp only[accS]at hl
    refine R_appendO hg.ok (Tm.rows (p.1++[x])) rfl rfl rfl rfl rfl rfl rfl rfl rfl (by simp) (by simp[one1]) (rwT_snoc2 p.1 x) (by simp;omega) (by simp;omega) ?_
    refine R_k hg.ok rfl rfl ?_
    exact R_next (f,st3,.inr (p.1++[x],p.2+1)) ⟨hm,hi4,by simp[accS];omega⟩ (by simp only;omega) ⟨.refl _,.refl _,.refl _,trivial⟩ rfl
 rintro o ⟨ho,hi1,hll⟩
 cases o with
 |inl t2 =>
  have hr:Tm.rows l=[rwT t2]:=by rw[← ho,← rwT_rows];rfl
  refine R_see 3 rfl (v':=.d (.sl (Tm.rows l))) (by rw[hr];exact Ent.fs _) ?_
  have hM:=xMark Y S0 L hL st1 deep [124]
  cases hmk:isMk (peekR L st1) [124]with
  |true =>
   rw[hmk]at h2 hM
   simp only[if_true]at h2 hM
   refine R_k hg.ok rfl rfl ?_
   refine R_callSO hg.ok hg.gup hg.wide hg.Y [0,1] (rdX S0 L (nxR st1) deep++[boxZ,bxN]) (hM) (fun _=>rfl) rfl rfl rfl rfl rfl (by rw[rdX_ren];rfl) rfl (by rw[rdX_ren];rfl) ?_
   refine R_k hg.ok rfl rfl ?_
   obtain⟨⟨y,st2⟩,hy,h2⟩:=Option.map_eq_some_iff.1 h2
   obtain⟨rfl,rfl⟩:=Prod.mk.inj h2
   have hi2:=hi1.nx (isMk_lt hmk).2
   refine R_if rfl rfl (fun _=>?_) (fun h=>absurd h (by simp))<;>refine R_k hg.ok rfl rfl ?_
   refine R_callSO hg.ok hg.gup hg.wide hg.Y [0,1] (rdX S0 L (st2) deep++[boxZ,bxN]) (hT deep 999 (nxR st1) y st2 hy hd hi2) (fun _=>rfl) rfl rfl rfl rfl rfl (by rw[rdX_ren];rfl) rfl (by rw[rdX_ren];rfl) ?_
   refine R_k hg.ok rfl rfl ?_
   refine R_callSO hg.ok hg.gup hg.wide hg.Y [0,1] (rdX S0 L (mustR L S0.length st2 [93]) deep++[boxZ,bxT (y)]) (xMust Y S0 L hL st2 deep [93]) (fun _=>rfl) rfl rfl rfl rfl rfl (by rw[rdX_ren];rfl) rfl (by rw[rdX_ren];rfl) ?_
   refine R_k hg.ok rfl rfl ?_
   refine R_see 5 rfl (v':=iV ((l.length:Int) - 1)) (Ent.wrap (by rw[Tm.rows_length]) (by omega) (by omega)) ?_
   refine R_cut2 (fun _:Unit=>([(2,.lo 2 0),(4,.lo 3 0)],rdX S0 L (mustR L S0.length st2 [93]) deep++[boxZ,bxT (consT l (y))])) (fun _=>True) rfl ?_ ?_
   ·refine R_loop (fun n:Nat=>([(2,.lo 2 0),(3,.d (.sl (Tm.rows l))),(4,.lo 3 0),(5,iV ((n:Int) - 1))],rdX S0 L (mustR L S0.length st2 [93]) deep++[boxZ,bxT (consT (l.drop n) (y))])) (fun n=>n≤l.length) (fun n=>n) l.length (Nat.le_refl _) ⟨.refl _,.refl _,.refl _,.refl _,trivial⟩ (by rw [List.drop_length]; rfl) ?_
    intro n hn
    refine R_k hg.ok rfl rfl ?_
    refine R_if rfl rfl (fun h=>?_) (fun h=>?_)<;>refine R_k hg.ok rfl rfl ?_
    ·have hn0:0<n:=by have:=of_decide_eq_true h; omega
     obtain⟨n,rfl⟩:∃m,n=m+1:=⟨n - 1,by omega⟩
     have hlt:n<l.length:=hn
     have hdr:l.drop n=l[n]::l.drop (n+1):=List.drop_eq_getElem_cons hlt
     have hix:(Tm.rows l)[n]? = some (rwT l[n]):=by rw[← rwT_rows];simp[hlt]
     generalize l[n]=a at hdr hix
     refine R_index hg.ok rfl rfl rfl rfl rfl rfl (by omega) (by rw[show (((n+1:Nat):Int) - 1).toNat=n by omega];exact hix) rfl ?_
     have hcons:consT (a::l.drop (n+1)) (y)=fnT [46] [a,consT (l.drop (n+1)) (y)]:=rfl
     have ha:Ob.box [.d (.v (.int .i64 3)),.d (.v (.string ⟨#[46]⟩)),.d (.v (.int .i64 0)),.d (.sl [rwT a,rwT (consT (l.drop (n+1)) (y))])]=bxT (consT (l.drop n) (y)):=by rw[hdr,hcons,bxT_fn,← rwT_rows];rfl
     first
     |(refine R_run hg.ok 1 rfl rfl ?_;refine R_obs (rdX S0 L (mustR L S0.length st2 [93]) deep++[boxZ,.box [.d (.v (.int .i64 3)),.d (.v (.string ⟨#[46]⟩)),.d (.v (.int .i64 0)),.d (.sl [rwT a,rwT (consT (l.drop (n+1)) (y))])]]) ⟨.refl _,.refl _,.refl _,⟨.refl _,.refl _,.refl _,Ent.fs _,trivial⟩,trivial⟩ rfl ?_)
     |(refine R_run hg.ok 2 rfl rfl ?_;refine R_obs (rdX S0 L (mustR L S0.length st2 [93]) deep++[boxZ,.box [.d (.v (.int .i64 3)),.d (.v (.string ⟨#[46]⟩)),.d (.v (.int .i64 0)),.d (.sl [rwT a,rwT (consT (l.drop (n+1)) (y))])]]) ⟨.refl _,.refl _,.refl _,⟨.refl _,.refl _,.refl _,Ent.fs _,trivial⟩,trivial⟩ rfl ?_)
     |(refine R_run hg.ok 3 rfl rfl ?_;refine R_obs (rdX S0 L (mustR L S0.length st2 [93]) deep++[boxZ,.box [.d (.v (.int .i64 3)),.d (.v (.string ⟨#[46]⟩)),.d (.v (.int .i64 0)),.d (.sl [rwT a,rwT (consT (l.drop (n+1)) (y))])]]) ⟨.refl _,.refl _,.refl _,⟨.refl _,.refl _,.refl _,Ent.fs _,trivial⟩,trivial⟩ rfl ?_)
     |(refine R_run hg.ok 6 rfl rfl ?_;refine R_obs (rdX S0 L (mustR L S0.length st2 [93]) deep++[boxZ,.box [.d (.v (.int .i64 3)),.d (.v (.string ⟨#[46]⟩)),.d (.v (.int .i64 0)),.d (.sl [rwT a,rwT (consT (l.drop (n+1)) (y))])]]) ⟨.refl _,.refl _,.refl _,⟨.refl _,.refl _,.refl _,Ent.fs _,trivial⟩,trivial⟩ rfl ?_)
     rw[ha]
     refine R_k hg.ok rfl rfl ?_
     exact R_next n (by omega) (by omega) ⟨.refl _,.refl _,.refl _,Ent.wrap (by omega) (by omega) (by omega),trivial⟩ rfl
    ·have hn0:n=0:=by have:=of_decide_eq_false h; omega
     subst hn0
     exact R_to () trivial ⟨.refl _,.refl _,trivial⟩ rfl
   rintro _ _
   refine R_k hg.ok rfl rfl ?_
   exact R_retS hg 2 5 (Nat.le_refl _) rfl rfl (hk _ _)
  |false =>
   rw[hmk]at h2 hM
   simp only[Bool.false_eq_true,if_false]at h2 hM
   refine R_k hg.ok rfl rfl ?_
   refine R_callSO hg.ok hg.gup hg.wide hg.Y [0,1] (rdX S0 L (st1) deep++[boxZ,bxN]) (hM) (fun _=>rfl) rfl rfl rfl rfl rfl (by rw[rdX_ren];rfl) rfl (by rw[rdX_ren];rfl) ?_
   refine R_k hg.ok rfl rfl ?_
   have h2:=Option.some.inj h2
   obtain⟨rfl,rfl⟩:=Prod.mk.inj h2
   refine R_if rfl rfl (fun h=>absurd h (by simp)) (fun _=>?_)<;>refine R_k hg.ok rfl rfl ?_
   refine R_callSO hg.ok hg.gup hg.wide hg.Y [0,1] (rdX S0 L (mustR L S0.length st1 [93]) deep++[boxZ,bxN]) (xMust Y S0 L hL st1 deep [93]) (fun _=>rfl) rfl rfl rfl rfl rfl (by rw[rdX_ren];rfl) rfl (by rw[rdX_ren];rfl) ?_
   refine R_k hg.ok rfl rfl ?_
   refine R_obs (rdX S0 L (mustR L S0.length st1 [93]) deep++[boxZ,bxT (fnT [91,93] [])]) ⟨.refl _,.refl _,.refl _,⟨.refl _,.refl _,.refl _,Ent.nil,trivial⟩,trivial⟩ rfl ?_
   refine R_see 5 rfl (v':=iV ((l.length:Int) - 1)) (Ent.wrap (by rw[Tm.rows_length]) (by omega) (by omega)) ?_
   refine R_cut2 (fun _:Unit=>([(2,.lo 2 0),(4,.lo 3 0)],rdX S0 L (mustR L S0.length st1 [93]) deep++[boxZ,bxT (consT l (fnT [91,93] []))])) (fun _=>True) rfl ?_ ?_
   ·refine R_loop (fun n:Nat=>([(2,.lo 2 0),(3,.d (.sl (Tm.rows l))),(4,.lo 3 0),(5,iV ((n:Int) - 1))],rdX S0 L (mustR L S0.length st1 [93]) deep++[boxZ,bxT (consT (l.drop n) (fnT [91,93] []))])) (fun n=>n≤l.length) (fun n=>n) l.length (Nat.le_refl _) ⟨.refl _,.refl _,.refl _,.refl _,trivial⟩ (by rw [List.drop_length]; rfl) ?_
    intro n hn
    refine R_k hg.ok rfl rfl ?_
    refine R_if rfl rfl (fun h=>?_) (fun h=>?_)<;>refine R_k hg.ok rfl rfl ?_
    ·have hn0:0<n:=by have:=of_decide_eq_true h; omega
     obtain⟨n,rfl⟩:∃m,n=m+1:=⟨n - 1,by omega⟩
     have hlt:n<l.length:=hn
     have hdr:l.drop n=l[n]::l.drop (n+1):=List.drop_eq_getElem_cons hlt
     have hix:(Tm.rows l)[n]? = some (rwT l[n]):=by rw[← rwT_rows];simp[hlt]
     generalize l[n]=a at hdr hix
     refine R_index hg.ok rfl rfl rfl rfl rfl rfl (by omega) (by rw[show (((n+1:Nat):Int) - 1).toNat=n by omega];exact hix) rfl ?_
     have hcons:consT (a::l.drop (n+1)) (fnT [91,93] [])=fnT [46] [a,consT (l.drop (n+1)) (fnT [91,93] [])]:=rfl
     have ha:Ob.box [.d (.v (.int .i64 3)),.d (.v (.string ⟨#[46]⟩)),.d (.v (.int .i64 0)),.d (.sl [rwT a,rwT (consT (l.drop (n+1)) (fnT [91,93] []))])]=bxT (consT (l.drop n) (fnT [91,93] [])):=by rw[hdr,hcons,bxT_fn,← rwT_rows];rfl
     first
     |(refine R_run hg.ok 1 rfl rfl ?_;refine R_obs (rdX S0 L (mustR L S0.length st1 [93]) deep++[boxZ,.box [.d (.v (.int .i64 3)),.d (.v (.string ⟨#[46]⟩)),.d (.v (.int .i64 0)),.d (.sl [rwT a,rwT (consT (l.drop (n+1)) (fnT [91,93] []))])]]) ⟨.refl _,.refl _,.refl _,⟨.refl _,.refl _,.refl _,Ent.fs _,trivial⟩,trivial⟩ rfl ?_)
     |(refine R_run hg.ok 2 rfl rfl ?_;refine R_obs (rdX S0 L (mustR L S0.length st1 [93]) deep++[boxZ,.box [.d (.v (.int .i64 3)),.d (.v (.string ⟨#[46]⟩)),.d (.v (.int .i64 0)),.d (.sl [rwT a,rwT (consT (l.drop (n+1)) (fnT [91,93] []))])]]) ⟨.refl _,.refl _,.refl _,⟨.refl _,.refl _,.refl _,Ent.fs _,trivial⟩,trivial⟩ rfl ?_)
     |(refine R_run hg.ok 3 rfl rfl ?_;refine R_obs (rdX S0 L (mustR L S0.length st1 [93]) deep++[boxZ,.box [.d (.v (.int .i64 3)),.d (.v (.string ⟨#[46]⟩)),.d (.v (.int .i64 0)),.d (.sl [rwT a,rwT (consT (l.drop (n+1)) (fnT [91,93] []))])]]) ⟨.refl _,.refl _,.refl _,⟨.refl _,.refl _,.refl _,Ent.fs _,trivial⟩,trivial⟩ rfl ?_)
     |(refine R_run hg.ok 6 rfl rfl ?_;refine R_obs (rdX S0 L (mustR L S0.length st1 [93]) deep++[boxZ,.box [.d (.v (.int .i64 3)),.d (.v (.string ⟨#[46]⟩)),.d (.v (.int .i64 0)),.d (.sl [rwT a,rwT (consT (l.drop (n+1)) (fnT [91,93] []))])]]) ⟨.refl _,.refl _,.refl _,⟨.refl _,.refl _,.refl _,Ent.fs _,trivial⟩,trivial⟩ rfl ?_)
     rw[ha]
     refine R_k hg.ok rfl rfl ?_
     exact R_next n (by omega) (by omega) ⟨.refl _,.refl _,.refl _,Ent.wrap (by omega) (by omega) (by omega),trivial⟩ rfl
    ·have hn0:n=0:=by have:=of_decide_eq_false h; omega
     subst hn0
     exact R_to () trivial ⟨.refl _,.refl _,trivial⟩ rfl
   rintro _ _
   refine R_k hg.ok rfl rfl ?_
   exact R_retS hg 2 5 (Nat.le_refl _) rfl rfl (hk _ _)
 |inr p =>
  obtain⟨l',j⟩:=p
  have ho:l=l':=ho.symm
  subst ho
  refine R_freezeO hg.gup 3 [(0,.lo 0 0),(2,.lo 2 0),(3,.d (.sl (Tm.rows l)))] (rdX S0 L st1 deep++[boxZ,.dead]) rfl rfl ⟨.refl _,.refl _,Ent.frz 3 j _,trivial⟩ ⟨⟨.refl _,.refl _,.refl _,.refl _,.refl _,.refl _,.refl _,.refl _,.refl _,.refl _,Ent.tblFrz 3 j _ st1.lay,trivial⟩,rfl,⟨.refl _,.refl _,.refl _,.refl _,trivial⟩,by simp[ObIn],trivial⟩ ?_
  have hM:=xMark Y S0 L hL st1 deep [124]
  cases hmk:isMk (peekR L st1) [124]with
  |true =>
   rw[hmk]at h2 hM
   simp only[if_true]at h2 hM
   refine R_k hg.ok rfl rfl ?_
   refine R_callSO hg.ok hg.gup hg.wide hg.Y [0,1] (rdX S0 L (nxR st1) deep++[boxZ,.dead,bxN]) (hM) (fun _=>rfl) rfl rfl rfl rfl rfl (by rw[rdX_ren];rfl) rfl (by rw[rdX_ren];rfl) ?_
   refine R_k hg.ok rfl rfl ?_
   obtain⟨⟨y,st2⟩,hy,h2⟩:=Option.map_eq_some_iff.1 h2
   obtain⟨rfl,rfl⟩:=Prod.mk.inj h2
   have hi2:=hi1.nx (isMk_lt hmk).2
   refine R_if rfl rfl (fun _=>?_) (fun h=>absurd h (by simp))<;>refine R_k hg.ok rfl rfl ?_
   refine R_callSO hg.ok hg.gup hg.wide hg.Y [0,1] (rdX S0 L (st2) deep++[boxZ,.dead,bxN]) (hT deep 999 (nxR st1) y st2 hy hd hi2) (fun _=>rfl) rfl rfl rfl rfl rfl (by rw[rdX_ren];rfl) rfl (by rw[rdX_ren];rfl) ?_
   refine R_k hg.ok rfl rfl ?_
   refine R_callSO hg.ok hg.gup hg.wide hg.Y [0,1] (rdX S0 L (mustR L S0.length st2 [93]) deep++[boxZ,.dead,bxT (y)]) (xMust Y S0 L hL st2 deep [93]) (fun _=>rfl) rfl rfl rfl rfl rfl (by rw[rdX_ren];rfl) rfl (by rw[rdX_ren];rfl) ?_
   refine R_k hg.ok rfl rfl ?_
   refine R_see 5 rfl (v':=iV ((l.length:Int) - 1)) (Ent.wrap (by rw[Tm.rows_length]) (by omega) (by omega)) ?_
   refine R_cut2 (fun _:Unit=>([(2,.lo 2 0),(4,.lo 4 0)],rdX S0 L (mustR L S0.length st2 [93]) deep++[boxZ,.dead,bxT (consT l (y))])) (fun _=>True) rfl ?_ ?_
   ·refine R_loop (fun n:Nat=>([(2,.lo 2 0),(3,.d (.sl (Tm.rows l))),(4,.lo 4 0),(5,iV ((n:Int) - 1))],rdX S0 L (mustR L S0.length st2 [93]) deep++[boxZ,.dead,bxT (consT (l.drop n) (y))])) (fun n=>n≤l.length) (fun n=>n) l.length (Nat.le_refl _) ⟨.refl _,.refl _,.refl _,.refl _,trivial⟩ (by rw [List.drop_length]; rfl) ?_
    intro n hn
    refine R_k hg.ok rfl rfl ?_
    refine R_if rfl rfl (fun h=>?_) (fun h=>?_)<;>refine R_k hg.ok rfl rfl ?_
    ·have hn0:0<n:=by have:=of_decide_eq_true h; omega
     obtain⟨n,rfl⟩:∃m,n=m+1:=⟨n - 1,by omega⟩
     have hlt:n<l.length:=hn
     have hdr:l.drop n=l[n]::l.drop (n+1):=List.drop_eq_getElem_cons hlt
     have hix:(Tm.rows l)[n]? = some (rwT l[n]):=by rw[← rwT_rows];simp[hlt]
     generalize l[n]=a at hdr hix
     refine R_index hg.ok rfl rfl rfl rfl rfl rfl (by omega) (by rw[show (((n+1:Nat):Int) - 1).toNat=n by omega];exact hix) rfl ?_
     have hcons:consT (a::l.drop (n+1)) (y)=fnT [46] [a,consT (l.drop (n+1)) (y)]:=rfl
     have ha:Ob.box [.d (.v (.int .i64 3)),.d (.v (.string ⟨#[46]⟩)),.d (.v (.int .i64 0)),.d (.sl [rwT a,rwT (consT (l.drop (n+1)) (y))])]=bxT (consT (l.drop n) (y)):=by rw[hdr,hcons,bxT_fn,← rwT_rows];rfl
     first
     |(refine R_run hg.ok 1 rfl rfl ?_;refine R_obs (rdX S0 L (mustR L S0.length st2 [93]) deep++[boxZ,.dead,.box [.d (.v (.int .i64 3)),.d (.v (.string ⟨#[46]⟩)),.d (.v (.int .i64 0)),.d (.sl [rwT a,rwT (consT (l.drop (n+1)) (y))])]]) ⟨.refl _,.refl _,.refl _,.refl _,⟨.refl _,.refl _,.refl _,Ent.fs _,trivial⟩,trivial⟩ rfl ?_)
     |(refine R_run hg.ok 2 rfl rfl ?_;refine R_obs (rdX S0 L (mustR L S0.length st2 [93]) deep++[boxZ,.dead,.box [.d (.v (.int .i64 3)),.d (.v (.string ⟨#[46]⟩)),.d (.v (.int .i64 0)),.d (.sl [rwT a,rwT (consT (l.drop (n+1)) (y))])]]) ⟨.refl _,.refl _,.refl _,.refl _,⟨.refl _,.refl _,.refl _,Ent.fs _,trivial⟩,trivial⟩ rfl ?_)
     |(refine R_run hg.ok 3 rfl rfl ?_;refine R_obs (rdX S0 L (mustR L S0.length st2 [93]) deep++[boxZ,.dead,.box [.d (.v (.int .i64 3)),.d (.v (.string ⟨#[46]⟩)),.d (.v (.int .i64 0)),.d (.sl [rwT a,rwT (consT (l.drop (n+1)) (y))])]]) ⟨.refl _,.refl _,.refl _,.refl _,⟨.refl _,.refl _,.refl _,Ent.fs _,trivial⟩,trivial⟩ rfl ?_)
     |(refine R_run hg.ok 6 rfl rfl ?_;refine R_obs (rdX S0 L (mustR L S0.length st2 [93]) deep++[boxZ,.dead,.box [.d (.v (.int .i64 3)),.d (.v (.string ⟨#[46]⟩)),.d (.v (.int .i64 0)),.d (.sl [rwT a,rwT (consT (l.drop (n+1)) (y))])]]) ⟨.refl _,.refl _,.refl _,.refl _,⟨.refl _,.refl _,.refl _,Ent.fs _,trivial⟩,trivial⟩ rfl ?_)
     rw[ha]
     refine R_k hg.ok rfl rfl ?_
     exact R_next n (by omega) (by omega) ⟨.refl _,.refl _,.refl _,Ent.wrap (by omega) (by omega) (by omega),trivial⟩ rfl
    ·have hn0:n=0:=by have:=of_decide_eq_false h; omega
     subst hn0
     exact R_to () trivial ⟨.refl _,.refl _,trivial⟩ rfl
   rintro _ _
   refine R_k hg.ok rfl rfl ?_
   exact R_retS hg 2 5 (Nat.le_refl _) rfl rfl (hk _ _)
  |false =>
   rw[hmk]at h2 hM
   simp only[Bool.false_eq_true,if_false]at h2 hM
   refine R_k hg.ok rfl rfl ?_
   refine R_callSO hg.ok hg.gup hg.wide hg.Y [0,1] (rdX S0 L (st1) deep++[boxZ,.dead,bxN]) (hM) (fun _=>rfl) rfl rfl rfl rfl rfl (by rw[rdX_ren];rfl) rfl (by rw[rdX_ren];rfl) ?_
   refine R_k hg.ok rfl rfl ?_
   have h2:=Option.some.inj h2
   obtain⟨rfl,rfl⟩:=Prod.mk.inj h2
   refine R_if rfl rfl (fun h=>absurd h (by simp)) (fun _=>?_)<;>refine R_k hg.ok rfl rfl ?_
   refine R_callSO hg.ok hg.gup hg.wide hg.Y [0,1] (rdX S0 L (mustR L S0.length st1 [93]) deep++[boxZ,.dead,bxN]) (xMust Y S0 L hL st1 deep [93]) (fun _=>rfl) rfl rfl rfl rfl rfl (by rw[rdX_ren];rfl) rfl (by rw[rdX_ren];rfl) ?_
   refine R_k hg.ok rfl rfl ?_
   refine R_obs (rdX S0 L (mustR L S0.length st1 [93]) deep++[boxZ,.dead,bxT (fnT [91,93] [])]) ⟨.refl _,.refl _,.refl _,.refl _,⟨.refl _,.refl _,.refl _,Ent.nil,trivial⟩,trivial⟩ rfl ?_
   refine R_see 5 rfl (v':=iV ((l.length:Int) - 1)) (Ent.wrap (by rw[Tm.rows_length]) (by omega) (by omega)) ?_
   refine R_cut2 (fun _:Unit=>([(2,.lo 2 0),(4,.lo 4 0)],rdX S0 L (mustR L S0.length st1 [93]) deep++[boxZ,.dead,bxT (consT l (fnT [91,93] []))])) (fun _=>True) rfl ?_ ?_
   ·refine R_loop (fun n:Nat=>([(2,.lo 2 0),(3,.d (.sl (Tm.rows l))),(4,.lo 4 0),(5,iV ((n:Int) - 1))],rdX S0 L (mustR L S0.length st1 [93]) deep++[boxZ,.dead,bxT (consT (l.drop n) (fnT [91,93] []))])) (fun n=>n≤l.length) (fun n=>n) l.length (Nat.le_refl _) ⟨.refl _,.refl _,.refl _,.refl _,trivial⟩ (by rw [List.drop_length]; rfl) ?_
    intro n hn
    refine R_k hg.ok rfl rfl ?_
    refine R_if rfl rfl (fun h=>?_) (fun h=>?_)<;>refine R_k hg.ok rfl rfl ?_
    ·have hn0:0<n:=by have:=of_decide_eq_true h; omega
     obtain⟨n,rfl⟩:∃m,n=m+1:=⟨n - 1,by omega⟩
     have hlt:n<l.length:=hn
     have hdr:l.drop n=l[n]::l.drop (n+1):=List.drop_eq_getElem_cons hlt
     have hix:(Tm.rows l)[n]? = some (rwT l[n]):=by rw[← rwT_rows];simp[hlt]
     generalize l[n]=a at hdr hix
     refine R_index hg.ok rfl rfl rfl rfl rfl rfl (by omega) (by rw[show (((n+1:Nat):Int) - 1).toNat=n by omega];exact hix) rfl ?_
     have hcons:consT (a::l.drop (n+1)) (fnT [91,93] [])=fnT [46] [a,consT (l.drop (n+1)) (fnT [91,93] [])]:=rfl
     have ha:Ob.box [.d (.v (.int .i64 3)),.d (.v (.string ⟨#[46]⟩)),.d (.v (.int .i64 0)),.d (.sl [rwT a,rwT (consT (l.drop (n+1)) (fnT [91,93] []))])]=bxT (consT (l.drop n) (fnT [91,93] [])):=by rw[hdr,hcons,bxT_fn,← rwT_rows];rfl
     first
     |(refine R_run hg.ok 1 rfl rfl ?_;refine R_obs (rdX S0 L (mustR L S0.length st1 [93]) deep++[boxZ,.dead,.box [.d (.v (.int .i64 3)),.d (.v (.string ⟨#[46]⟩)),.d (.v (.int .i64 0)),.d (.sl [rwT a,rwT (consT (l.drop (n+1)) (fnT [91,93] []))])]]) ⟨.refl _,.refl _,.refl _,.refl _,⟨.refl _,.refl _,.refl _,Ent.fs _,trivial⟩,trivial⟩ rfl ?_)
     |(refine R_run hg.ok 2 rfl rfl ?_;refine R_obs (rdX S0 L (mustR L S0.length st1 [93]) deep++[boxZ,.dead,.box [.d (.v (.int .i64 3)),.d (.v (.string ⟨#[46]⟩)),.d (.v (.int .i64 0)),.d (.sl [rwT a,rwT (consT (l.drop (n+1)) (fnT [91,93] []))])]]) ⟨.refl _,.refl _,.refl _,.refl _,⟨.refl _,.refl _,.refl _,Ent.fs _,trivial⟩,trivial⟩ rfl ?_)
     |(refine R_run hg.ok 3 rfl rfl ?_;refine R_obs (rdX S0 L (mustR L S0.length st1 [93]) deep++[boxZ,.dead,.box [.d (.v (.int .i64 3)),.d (.v (.string ⟨#[46]⟩)),.d (.v (.int .i64 0)),.d (.sl [rwT a,rwT (consT (l.drop (n+1)) (fnT [91,93] []))])]]) ⟨.refl _,.refl _,.refl _,.refl _,⟨.refl _,.refl _,.refl _,Ent.fs _,trivial⟩,trivial⟩ rfl ?_)
     |(refine R_run hg.ok 6 rfl rfl ?_;refine R_obs (rdX S0 L (mustR L S0.length st1 [93]) deep++[boxZ,.dead,.box [.d (.v (.int .i64 3)),.d (.v (.string ⟨#[46]⟩)),.d (.v (.int .i64 0)),.d (.sl [rwT a,rwT (consT (l.drop (n+1)) (fnT [91,93] []))])]]) ⟨.refl _,.refl _,.refl _,.refl _,⟨.refl _,.refl _,.refl _,Ent.fs _,trivial⟩,trivial⟩ rfl ?_)
     rw[ha]
     refine R_k hg.ok rfl rfl ?_
     exact R_next n (by omega) (by omega) ⟨.refl _,.refl _,.refl _,Ent.wrap (by omega) (by omega) (by omega),trivial⟩ rfl
    ·have hn0:n=0:=by have:=of_decide_eq_false h; omega
     subst hn0
     exact R_to () trivial ⟨.refl _,.refl _,trivial⟩ rfl
   rintro _ _
   refine R_k hg.ok rfl rfl ?_
   exact R_retS hg 2 5 (Nat.le_refl _) rfl rfl (hk _ _)
def pfNam:Nat→Cls:=fun f=>bif Nat.beq f 154 then .turn 3 else bif Nat.beq f 95 then .turn 3 else bif Nat.beq f 4000100067 then .look 4 else bif Nat.beq f 4000100092 then .look 4 else .eff

theorem rdNamed_ok (Y:YP)(S0:Bs)(L:List Tk)(hL:L.length≤9000)(hS:S0.length≤9000){T:TF}(hT:TCtr Y S0 L T)(hG:TGood L T)(deep:Nat)(hd:deep≤1000)(st:RSt)(hi:RInv L st)(hl:st.at_<L.length)(hpl:∀t∈L,0≤t.at_∧t.at_<S0.length∧0≤t.n∧t.n≤9223372036854775807)(p:Int)(t:Tk)(ht:t∈L)(x:Tm × Int × RSt)(h:namedR S0 L T deep p t st=some x) :
  SCtr Tryz.prog Y 147 [.lo 0 0,tkA t,iV p] (rdX S0 L st deep) (.tup [x.1.av,iV x.2.1]) (rdX S0 L x.2.2 deep):=by
 refine SCtr.of_R (pf:=pfNam) tyOk mixed Tryz.func147 rfl (by kernel_rfl) (by kernel_rfl) (by simp[Tryz.ntmps147]) (by simp[rdX,rdO,robj]) fun w S φ hg=>?_
 have hφ:φ.length=2:=hg.hs0.len
 have hk:∀ (st:RSt) (o:List Ob),(rdX S0 L st deep).map (mapOb (sealT false 2 o 5))=rdX S0 L st deep:=fun st o=>rdX_keep _ _ _ _ _ _ (Nat.le_refl _)
 have hn:=hi.nx hl
 have ht1:=hpl t ht
 obtain⟨M,hM⟩:∃M,M=((t.text==[45])&&decide (S0[t.at_.toNat]? = some 45)):=⟨_,rfl⟩
 refine R_run hg.ok 4 rfl rfl ?_
 refine R_cut1 (fun _:Unit=>([(0,.lo 0 0),(2,iV p),(4,.lo 2 0),(6,.lo 3 0),(8,bV M)],rdX S0 L st deep++[tkO t,boxZ])) (fun _=>True) rfl ?_ ?_
 ·have e45:strEq (Tx t.text) ⟨#[45]⟩=(t.text==[45]):=Tx_eq _ _
  refine R_k hg.ok rfl rfl ?_
  by_cases h45:t.text=[45]
  ·refine R_if rfl rfl (fun _=>?_) (fun h=>absurd h (by rw [e45,h45]; simp)) <;> refine R_run hg.ok 1000 rfl rfl ?_
   have hlt:t.at_.toNat<S0.length:=by omega
   have e1:S0[t.at_.toNat]? = some S0[t.at_.toNat]:=List.getElem?_eq_getElem hlt
   generalize S0[t.at_.toNat]=c at e1
   rw[e1]at hM
   refine R_indexS hg.ok rfl rfl rfl rfl rfl ht1.1 (b:=c) (by rw[Tx_get];exact e1) ?_
   have hc:decide ((c.toNat:Int)=45)=M:=by
    rw[hM,h45]
    by_cases hc:c=45
    ·subst hc;rfl
    ·have:¬ (c.toNat:Int)=45:=fun h=>hc (UInt8.toNat_inj.1 (Int.ofNat_inj.1 (show ((c.toNat:Nat):Int)=(((45:UInt8).toNat:Nat):Int) from h)))
     simp[hc,this]
   refine R_k hg.ok rfl rfl ?_
   exact R_to () trivial ⟨.refl _,.refl _,.refl _,.refl _,by rw[← hc];exact .refl _,trivial⟩ rfl
  ·refine R_if rfl rfl (fun h=>absurd h (by rw [e45]; simpa using h45)) (fun _=>?_) <;> refine R_run hg.ok 1000 rfl rfl ?_
   have hM:M=false:=by rw[hM];simp[h45]
   subst hM
   exact R_to () trivial ⟨.refl _,.refl _,.refl _,.refl _,by first |exact .refl _ |exact Ent.ff,trivial⟩ rfl
 rintro _ _
 first
 |(refine R_run hg.ok 1 rfl rfl ?_;refine R_rdAt (st:=st) (st.at_+1) (rfl) (by omega) rfl ?_)
 |(refine R_run hg.ok 2 rfl rfl ?_;refine R_rdAt (st:=st) (st.at_+1) (rfl) (by omega) rfl ?_)
 |(refine R_run hg.ok 3 rfl rfl ?_;refine R_rdAt (st:=st) (st.at_+1) (rfl) (by omega) rfl ?_)
 |(refine R_run hg.ok 4 rfl rfl ?_;refine R_rdAt (st:=st) (st.at_+1) (rfl) (by omega) rfl ?_)
 |(refine R_run hg.ok 5 rfl rfl ?_;refine R_rdAt (st:=st) (st.at_+1) (rfl) (by omega) rfl ?_)
 |(refine R_run hg.ok 6 rfl rfl ?_;refine R_rdAt (st:=st) (st.at_+1) (rfl) (by omega) rfl ?_)
 |(refine R_run hg.ok 7 rfl rfl ?_;refine R_rdAt (st:=st) (st.at_+1) (rfl) (by omega) rfl ?_)
 refine R_k hg.ok rfl rfl ?_
 refine R_callSO hg.ok hg.gup hg.wide hg.Y [0,1] (rdX S0 L (nxR st) deep++[tkO t,boxZ]) (xPeek Y S0 L (nxR st) deep) (fun _=>rfl) rfl rfl rfl rfl rfl (by rw[rdX_ren];rfl) rfl (by rw[rdX_ren];rfl) ?_
 refine R_k hg.ok rfl rfl ?_
 refine R_call hg.ok (rdPrefix_ok t.text) rfl rfl rfl rfl rfl rfl ?_
 refine R_k hg.ok rfl rfl ?_
 unfold namedR at h
 have hpk:=peek_lt (L:=L) (st:=nxR st)
 have hum:(peekR L (nxR st)).kind≠0→peekR L (nxR st)∈L:=fun h=>by
  have:=hpk h
  unfold peekR
  rw[if_neg (by simpa using this.1),List.getElem?_eq_getElem this.2]
  exact List.getElem_mem _
 rw[show minR S0 t (peekR L (nxR st))=(M&&decide ((peekR L (nxR st)).kind=3)&&decide ((peekR L (nxR st)).at_=t.at_+1)) by rw[hM];rfl]at h
 obtain⟨u,hu⟩:∃u,u=peekR L (nxR st):=⟨_,rfl⟩
 rw[← hu]at h hpk hum ⊢
 obtain⟨mr,hmr⟩:∃mr,mr=(M&&decide (u.kind=3)&&decide (u.at_=t.at_+1)):=⟨_,rfl⟩
 have hw:IntKind.i64.wrap (t.at_+1)=t.at_+1:=wrap_id (by omega) (by omega)
 refine R_cut1 (fun _:Unit=>([(0,.lo 0 0),(2,iV p),(4,.lo 2 0),(6,.lo 3 0),(9,.lo 4 0),(10,iV (preT t.text)),(36,bV mr)],rdX S0 L (nxR st) deep++[tkO t,boxZ,tkO u])) (fun _=>True) rfl ?_ ?_
 ·cases M with
  |false =>
   refine R_if rfl rfl (fun h=>absurd h (by simp)) (fun _=>?_)<;>refine R_k hg.ok rfl rfl ?_
   have hmr:mr=false:=by rw[hmr];rfl
   subst hmr
   exact R_to () trivial ⟨.refl _,.refl _,.refl _,.refl _,.refl _,.refl _,by first |exact .refl _ |exact Ent.ff,trivial⟩ rfl
  |true =>
   refine R_if rfl rfl (fun _=>?_) (fun h=>absurd h (by simp))<;>refine R_k hg.ok rfl rfl ?_
   by_cases h3:u.kind=3
   ·refine R_if rfl rfl (fun _=>?_) (fun h=>absurd h (by simp [h3])) <;> refine R_run hg.ok 1000 rfl rfl ?_
    have hmr:decide (u.at_=IntKind.i64.wrap (t.at_+1))=mr:=by rw[hmr,hw];simp[h3]
    exact R_to () trivial ⟨.refl _,.refl _,.refl _,.refl _,.refl _,.refl _,by rw[← hmr];exact .refl _,trivial⟩ rfl
   ·refine R_if rfl rfl (fun h=>absurd h (by simp [h3])) (fun _=>?_) <;> refine R_run hg.ok 1000 rfl rfl ?_
    have hmr:mr=false:=by rw[hmr];simp[h3]
    subst hmr
    exact R_to () trivial ⟨.refl _,.refl _,.refl _,.refl _,.refl _,.refl _,by first |exact .refl _ |exact Ent.ff,trivial⟩ rfl
 rintro _ _
 rw[← hmr]at h
 refine R_k hg.ok rfl rfl ?_
 cases mr with
 |true =>
  have hk3:u.kind=3:=by
   have:=hmr.symm
   simp only[Bool.and_eq_true,decide_eq_true_eq]at this
   exact this.1.2
  have hul:=(hpk (by rw[hk3];decide)).2
  have hu1:=hpl u (hum (by rw[hk3];decide))
  simp only[if_true,Option.some.injEq]at h
  subst h
  simp only
  refine R_if rfl rfl (fun _=>?_) (fun h=>absurd h (by simp))
  first
  |(refine R_run hg.ok 1 rfl rfl ?_;refine R_rdAt (st:=nxR st) (st.at_+1+1) (rfl) (by omega) rfl ?_)
  |(refine R_run hg.ok 2 rfl rfl ?_;refine R_rdAt (st:=nxR st) (st.at_+1+1) (rfl) (by omega) rfl ?_)
  |(refine R_run hg.ok 3 rfl rfl ?_;refine R_rdAt (st:=nxR st) (st.at_+1+1) (rfl) (by omega) rfl ?_)
  |(refine R_run hg.ok 4 rfl rfl ?_;refine R_rdAt (st:=nxR st) (st.at_+1+1) (rfl) (by omega) rfl ?_)
  |(refine R_run hg.ok 5 rfl rfl ?_;refine R_rdAt (st:=nxR st) (st.at_+1+1) (rfl) (by omega) rfl ?_)
  |(refine R_run hg.ok 6 rfl rfl ?_;refine R_rdAt (st:=nxR st) (st.at_+1+1) (rfl) (by omega) rfl ?_)
  |(refine R_run hg.ok 7 rfl rfl ?_;refine R_rdAt (st:=nxR st) (st.at_+1+1) (rfl) (by omega) rfl ?_)
  |(refine R_run hg.ok 8 rfl rfl ?_;refine R_rdAt (st:=nxR st) (st.at_+1+1) (rfl) (by omega) rfl ?_)
  first
  |(refine R_run hg.ok 1 rfl rfl ?_;refine R_obs (rdX S0 L (nxR (nxR st)) deep++[tkO t,.box [.d (.v (.int .i64 2)),.d (.v (.string ByteArray.empty)),iV (-u.n),.d (.v (.slice none 0 0))],tkO u]) ⟨.refl _,.refl _,.refl _,⟨.refl _,.refl _,Ent.wrap (by omega) (by omega) (by omega),.refl _,trivial⟩,.refl _,trivial⟩ rfl ?_)
  |(refine R_run hg.ok 2 rfl rfl ?_;refine R_obs (rdX S0 L (nxR (nxR st)) deep++[tkO t,.box [.d (.v (.int .i64 2)),.d (.v (.string ByteArray.empty)),iV (-u.n),.d (.v (.slice none 0 0))],tkO u]) ⟨.refl _,.refl _,.refl _,⟨.refl _,.refl _,Ent.wrap (by omega) (by omega) (by omega),.refl _,trivial⟩,.refl _,trivial⟩ rfl ?_)
  |(refine R_run hg.ok 3 rfl rfl ?_;refine R_obs (rdX S0 L (nxR (nxR st)) deep++[tkO t,.box [.d (.v (.int .i64 2)),.d (.v (.string ByteArray.empty)),iV (-u.n),.d (.v (.slice none 0 0))],tkO u]) ⟨.refl _,.refl _,.refl _,⟨.refl _,.refl _,Ent.wrap (by omega) (by omega) (by omega),.refl _,trivial⟩,.refl _,trivial⟩ rfl ?_)
  |(refine R_run hg.ok 4 rfl rfl ?_;refine R_obs (rdX S0 L (nxR (nxR st)) deep++[tkO t,.box [.d (.v (.int .i64 2)),.d (.v (.string ByteArray.empty)),iV (-u.n),.d (.v (.slice none 0 0))],tkO u]) ⟨.refl _,.refl _,.refl _,⟨.refl _,.refl _,Ent.wrap (by omega) (by omega) (by omega),.refl _,trivial⟩,.refl _,trivial⟩ rfl ?_)
  |(refine R_run hg.ok 5 rfl rfl ?_;refine R_obs (rdX S0 L (nxR (nxR st)) deep++[tkO t,.box [.d (.v (.int .i64 2)),.d (.v (.string ByteArray.empty)),iV (-u.n),.d (.v (.slice none 0 0))],tkO u]) ⟨.refl _,.refl _,.refl _,⟨.refl _,.refl _,Ent.wrap (by omega) (by omega) (by omega),.refl _,trivial⟩,.refl _,trivial⟩ rfl ?_)
  refine R_k hg.ok rfl rfl ?_
  exact R_retS hg 2 5 (Nat.le_refl _) rfl rfl (hk (nxR (nxR st)) _)
 |false =>
  simp only[Bool.false_eq_true,if_false]at h
  refine R_if rfl rfl (fun h=>absurd h (by simp)) (fun _=>?_)<;>refine R_k hg.ok rfl rfl ?_
  by_cases ho:t.opn=true
  ·rw [if_pos ho] at h
   obtain⟨⟨l,st1⟩,h1,h⟩:=Option.map_eq_some_iff.1 h
   subst h
   simp only
   refine R_if rfl rfl (fun _=>?_) (fun h=>absurd h (by simp[ho]))<;>refine R_k hg.ok rfl rfl ?_
   refine R_callSO hg.ok hg.gup hg.wide hg.Y [0,1] (rdX S0 L (mustR L S0.length (nxR st) [40]) deep++[tkO t,boxZ,tkO u]) (xMust Y S0 L hL (nxR st) deep [40]) (fun _=>rfl) rfl rfl rfl rfl rfl (by rw[rdX_ren];rfl) rfl (by rw[rdX_ren];rfl) ?_
   refine R_k hg.ok rfl rfl ?_
   refine R_load4 hg.ok (by show φ.length≤2;omega) rfl rfl rfl rfl rfl rfl rfl ?_
   refine R_k hg.ok rfl rfl ?_
   refine R_callS3 hg.ok hg.gup hg.wide hg.Y [0,1] (rdX S0 L (mustR L S0.length st1 [41]) deep++[tkO t,boxZ,tkO u]) (rdSeveral_ok Y S0 L hL hT hG deep hd _ hn.must l st1 h1 [41]) (fun _=>rfl) (fun i hi=>by show i<φ.length;simp at hi;omega) rfl rfl rfl rfl rfl (by rw[rdX_ren];rfl) rfl (by rw[rdX_ren];rfl) ?_
   refine R_k hg.ok rfl rfl ?_
   exact R_retS hg 2 5 (Nat.le_refl _) rfl rfl (hk _ _)
  rw[if_neg ho]at h
  refine R_if rfl rfl (fun h=>absurd h (by simp[ho])) (fun _=>?_)<;>refine R_k hg.ok rfl rfl ?_
  by_cases hp:0<preT t.text
  ·rw [if_pos hp] at h
   refine R_if rfl rfl (fun _=>?_) (fun h=>absurd h (by simp[hp]))<;>refine R_k hg.ok rfl rfl ?_
   have hB:=xBegins Y S0 L (nxR st) deep
   cases hb:begR L (nxR st) with
   |true =>
    rw[hb]at h hB
    simp only[if_true]at h
    refine R_callSO hg.ok hg.gup hg.wide hg.Y [0,1] (rdX S0 L (begS L (nxR st)) deep++[tkO t,boxZ,tkO u]) (hB) (fun _=>rfl) rfl rfl rfl rfl rfl (by rw[rdX_ren];rfl) rfl (by rw[rdX_ren];rfl) ?_
    refine R_k hg.ok rfl rfl ?_
    refine R_if rfl rfl (fun _=>?_) (fun h=>absurd h (by simp))<;>refine R_k hg.ok rfl rfl ?_
    by_cases hq:preT t.text > p
    ·rw [if_pos hq] at h
     cases h
     have hba:(begS L (nxR st)).at_=st.at_+1:=by unfold begS;split<;>rfl
     refine R_if rfl rfl (fun _=>?_) (fun h=>absurd h (by simp[hq]))
     first
     |(refine R_run hg.ok 1 rfl rfl ?_;refine R_rdAt (st:=begS L (nxR st)) (st.at_) (by rw[hba];omega) (by omega) rfl ?_)
     |(refine R_run hg.ok 2 rfl rfl ?_;refine R_rdAt (st:=begS L (nxR st)) (st.at_) (by rw[hba];omega) (by omega) rfl ?_)
     |(refine R_run hg.ok 3 rfl rfl ?_;refine R_rdAt (st:=begS L (nxR st)) (st.at_) (by rw[hba];omega) (by omega) rfl ?_)
     |(refine R_run hg.ok 4 rfl rfl ?_;refine R_rdAt (st:=begS L (nxR st)) (st.at_) (by rw[hba];omega) (by omega) rfl ?_)
     |(refine R_run hg.ok 5 rfl rfl ?_;refine R_rdAt (st:=begS L (nxR st)) (st.at_) (by rw[hba];omega) (by omega) rfl ?_)
     |(refine R_run hg.ok 6 rfl rfl ?_;refine R_rdAt (st:=begS L (nxR st)) (st.at_) (by rw[hba];omega) (by omega) rfl ?_)
     |(refine R_run hg.ok 7 rfl rfl ?_;refine R_rdAt (st:=begS L (nxR st)) (st.at_) (by rw[hba];omega) (by omega) rfl ?_)
     |(refine R_run hg.ok 8 rfl rfl ?_;refine R_rdAt (st:=begS L (nxR st)) (st.at_) (by rw[hba];omega) (by omega) rfl ?_)
     |(refine R_run hg.ok 9 rfl rfl ?_;refine R_rdAt (st:=begS L (nxR st)) (st.at_) (by rw[hba];omega) (by omega) rfl ?_)
     |(refine R_run hg.ok 10 rfl rfl ?_;refine R_rdAt (st:=begS L (nxR st)) (st.at_) (by rw[hba];omega) (by omega) rfl ?_)
     |(refine R_run hg.ok 11 rfl rfl ?_;refine R_rdAt (st:=begS L (nxR st)) (st.at_) (by rw[hba];omega) (by omega) rfl ?_)
     refine R_k hg.ok rfl rfl ?_
     refine R_callSO hg.ok hg.gup hg.wide hg.Y [0,1] (rdX S0 L (failR L S0.length { begS L (nxR st) with at_:=st.at_ } 2) deep++[tkO t,boxZ,tkO u]) (xFail Y S0 L { begS L (nxR st) with at_:=st.at_ } deep 2) (fun _=>rfl) rfl rfl rfl rfl rfl (by rw[rdX_ren];rfl) rfl (by rw[rdX_ren];rfl) ?_
     refine R_k hg.ok rfl rfl ?_
     exact R_retS hg 2 5 (Nat.le_refl _) rfl rfl (hk _ _)
    ·rw [if_neg hq] at h
     obtain⟨⟨y,st2⟩,h1,h⟩:=Option.map_eq_some_iff.1 h
     subst h
     simp only
     refine R_if rfl rfl (fun h=>absurd h (by simp[hq])) (fun _=>?_)<;>refine R_k hg.ok rfl rfl ?_
     refine R_load4 hg.ok (by show φ.length≤2;omega) rfl rfl rfl rfl rfl rfl rfl ?_
     refine R_k hg.ok rfl rfl ?_
     refine R_callS3 hg.ok hg.gup hg.wide hg.Y [0,1] (rdX S0 L st2 deep++[tkO t,boxZ,tkO u]) (hT deep _ _ y st2 h1 hd hn.beg) (fun _=>rfl) (fun i hi=>by show i<φ.length;simp at hi;omega) rfl rfl rfl rfl rfl (by rw[rdX_ren];rfl) rfl (by rw[rdX_ren];rfl) ?_
     refine R_k hg.ok rfl rfl ?_
     rw[show Tm.av (fnT t.text [y])=AV.agg [.d (.v (.int .i64 3)),.d (.v (.string (Tx t.text))),.d (.v (.int .i64 0)),.d (.sl [rwT y])] by rw[show [rwT y]=Tm.rows [y] from rwT_rows [y]];rfl]
     exact R_retS hg 2 5 (Nat.le_refl _) rfl rfl (hk _ _)
   |false =>
    rw[hb]at h hB
    simp only[Bool.false_eq_true,if_false]at h
    cases h
    refine R_callSO hg.ok hg.gup hg.wide hg.Y [0,1] (rdX S0 L (begS L (nxR st)) deep++[tkO t,boxZ,tkO u]) (hB) (fun _=>rfl) rfl rfl rfl rfl rfl (by rw[rdX_ren];rfl) rfl (by rw[rdX_ren];rfl) ?_
    refine R_k hg.ok rfl rfl ?_
    refine R_if rfl rfl (fun h=>absurd h (by simp)) (fun _=>?_)<;>refine R_k hg.ok rfl rfl ?_
    exact R_retS hg 2 5 (Nat.le_refl _) rfl rfl (hk _ _)
  ·rw [if_neg hp] at h
   cases h
   refine R_if rfl rfl (fun h=>absurd h (by simp[hp])) (fun _=>?_)<;>refine R_k hg.ok rfl rfl ?_
   exact R_retS hg 2 5 (Nat.le_refl _) rfl rfl (hk (nxR st) _)

theorem R_rdDeep {g:G}{pf:Nat→Cls}{Fin:Exit→Act→World→Prop}{k:List It}{E:Env}{rest:List Ob}{S:Bs}{L:List Tk}{st:RSt}{mk:Bool}{m:Int}(n:Nat)(hm:m=n)(hb:n<9223372036854775808)(ht:topCode k=true)(h:R g pf Fin k E (rdO S L st n mk++rest)) :
  R g pf Fin k E (.box [.d (.v (.string (Tx S))),.d (.sl (tkRows L)),iV st.at_,.ow 1 st.names.length,.d (.v (.int .i64 (IntKind.i64.wrap m))),iV st.bad,iV st.e,.d (.v (.int .u32 (if mk then 1 else 0))),.d (.v (.int .i32 0)),.d (.v (.int .u32 0)),tblV mk] :: .arr 1 st.names.length (strRows st.names)::rest) :=
 R_obs (rdO S L st n mk++rest) ⟨⟨.refl _,.refl _,.refl _,.refl _,Ent.wrap hm (by omega) (by omega),.refl _,.refl _,.refl _,.refl _,.refl _,.refl _,trivial⟩,rfl,obsIn_refl _⟩ ht h

theorem rdB_ren (S:Bs)(L:List Tk)(st:RSt)(deep:Int)(n:Nat):(rdX S L st deep++[Ob.box [.lo 0 0]]).map (renOb (rn [0,1,2] n))=rdX S L st deep++[Ob.box [.lo 0 0]]:=by
 rw[List.map_append,rdX_ren];rfl

theorem rdB_keep (S:Bs)(L:List Tk)(st:RSt)(deep:Int)(o:List Ob):(rdX S L st deep++[Ob.box [.lo 0 0]]).map (mapOb (sealT false 3 o 5))=rdX S L st deep++[Ob.box [.lo 0 0]]:=by
 rw[List.map_append,rdX_keep _ _ _ _ _ _ (by decide)];rfl

theorem rdDown_ok (Y:YP)(S0:Bs)(L:List Tk)(st:RSt)(deep:Nat)(hd:deep≤1000):DCtr Tryz.prog Y 145 [.lo 2 0] (rdX S0 L st (deep+1:Nat)++[.box [.lo 0 0]]) (.tup []) (rdX S0 L st deep++[.box [.lo 0 0]]):=by
 refine DCtr.of_R (pf:=fun _=>.eff) tyOk mixed Tryz.func145 rfl (by kernel_rfl) (by kernel_rfl) (by simp[Tryz.ntmps145]) (by simp[rdX,rdO,robj]) fun w S φ hg=>?_
 refine R_k hg.ok rfl rfl ?_
 refine R_rdDeep (st:=st) deep (by omega) (by omega) rfl ?_
 exact R_endD hg 3 5 (Nat.le_refl _) rfl rfl (rdB_keep _ _ _ _ _)

theorem rdOpnd_ok (Y:YP)(S0:Bs)(L:List Tk)(hL:L.length≤9000)(hS:S0.length≤9000){T:TF}(hT:TCtr Y S0 L T)(hG:TGood L T)(deep:Nat)(hd:deep≤1000)(st:RSt)(hi:RInv L st)(hpl:∀t∈L,0≤t.at_∧t.at_<S0.length∧0≤t.n∧t.n≤9223372036854775807)(p:Int)(x:Tm × Int × RSt)(h:opndR false S0 L T deep p st=some x) :
  SCtr Tryz.prog Y 117 [.lo 0 0,iV p] (rdX S0 L st deep) (.tup [x.1.av,iV x.2.1]) (rdX S0 L x.2.2 deep):=by
 refine SCtr.of_RD (pf:=fun _=>.eff) tyOk mixed Tryz.func117 rfl (by kernel_rfl) (by kernel_rfl) (by simp[Tryz.ntmps117]) (by simp[rdX,rdO,robj]) fun w S φ hg=>?_
 have hk:∀ (st:RSt) (o:List Ob),(rdX S0 L st deep).map (mapOb (sealT false 2 o 5))=rdX S0 L st deep:=fun st o=>rdX_keep _ _ _ _ _ _ (Nat.le_refl _)
 unfold opndR at h
 refine R_k hg.ok rfl rfl ?_
 by_cases hd0:1000≤deep
 ·rw [if_pos hd0] at h
  cases h
  refine R_if rfl rfl (fun _=>?_) (fun h=>absurd h (by simp;omega))<;>refine R_k hg.ok rfl rfl ?_
  refine R_callSO hg.ok hg.gup hg.wide hg.Y [0,1] (rdX S0 L (failR L S0.length st 3) deep++[.box [.lo 0 0],boxZ]) (xFail Y S0 L st deep 3) (fun _=>rfl) rfl rfl rfl rfl rfl (by rw[rdX_ren];rfl) rfl (by rw[rdX_ren];rfl) ?_
  refine R_k hg.ok rfl rfl ?_
  exact R_retS hg 2 5 (Nat.le_refl _) rfl rfl (hk _ _)
 have hd:deep<1000:=by omega
 rw[if_neg hd0]at h
 refine R_if rfl rfl (fun h=>absurd h (by simp;omega)) (fun _=>?_)
 first
 |(refine R_run hg.ok 1 rfl rfl ?_;refine R_rdDeep (st:=st) (deep+1) (by omega) (by omega) rfl ?_)
 |(refine R_run hg.ok 2 rfl rfl ?_;refine R_rdDeep (st:=st) (deep+1) (by omega) (by omega) rfl ?_)
 |(refine R_run hg.ok 3 rfl rfl ?_;refine R_rdDeep (st:=st) (deep+1) (by omega) (by omega) rfl ?_)
 |(refine R_run hg.ok 4 rfl rfl ?_;refine R_rdDeep (st:=st) (deep+1) (by omega) (by omega) rfl ?_)
 |(refine R_run hg.ok 5 rfl rfl ?_;refine R_rdDeep (st:=st) (deep+1) (by omega) (by omega) rfl ?_)
 first
 |refine R_defer hg.ok rfl hg.wide 1 rfl ?_
 |(refine R_run hg.ok 1 rfl rfl ?_;refine R_defer hg.ok rfl hg.wide 1 rfl ?_)
 |(refine R_run hg.ok 2 rfl rfl ?_;refine R_defer hg.ok rfl hg.wide 1 rfl ?_)
 refine R_k hg.ok rfl rfl ?_
 refine R_mark ⟨_,_,_,rfl,?_⟩
 have hg1:=hg.sw [(145,[],[.lo 2 0])]
 refine R_run hg1.ok 1000 rfl rfl ?_
 refine R_callSO hg1.ok hg1.gup hg1.wide hg1.Y [0,1] (rdX S0 L st (deep+1:Nat)++[.box [.lo 0 0],boxZ]) (xPeek Y S0 L st (deep+1:Nat)) (fun _=>rfl) rfl rfl rfl rfl rfl (by rw[rdX_ren];rfl) rfl (by rw[rdX_ren];rfl) ?_
 refine R_run hg1.ok 1000 rfl rfl ?_
 have hpk:=peek_lt (L:=L) (st:=st)
 have hum:(peekR L st).kind≠0→peekR L st∈L:=fun h=>by
  have:=hpk h
  unfold peekR
  rw[if_neg (by simpa using this.1),List.getElem?_eq_getElem this.2]
  exact List.getElem_mem _
 have hM1:=xMark Y S0 L hL st (deep+1:Nat) [40]
 have hM2:=xMark Y S0 L hL st (deep+1:Nat) [91]
 have hN:=fun x=>rdNamed_ok Y S0 L hL hS hT hG (deep+1) (by omega) st hi
 obtain⟨u,hu⟩:∃u,u=peekR L st:=⟨_,rfl⟩
 rw[← hu]at h hpk hum hM1 hM2 ⊢
 by_cases h3:u.kind=3
 ·rw [if_pos h3] at h
  cases h
  have hl:=(hpk (by rw[h3];decide)).2
  refine R_if rfl rfl (fun _=>?_) (fun h=>absurd h (by simp[h3]))
  first
  |(refine R_run hg1.ok 1 rfl rfl ?_;refine R_rdAt (st:=st) (st.at_+1) (rfl) (by omega) rfl ?_)
  |(refine R_run hg1.ok 2 rfl rfl ?_;refine R_rdAt (st:=st) (st.at_+1) (rfl) (by omega) rfl ?_)
  |(refine R_run hg1.ok 3 rfl rfl ?_;refine R_rdAt (st:=st) (st.at_+1) (rfl) (by omega) rfl ?_)
  |(refine R_run hg1.ok 4 rfl rfl ?_;refine R_rdAt (st:=st) (st.at_+1) (rfl) (by omega) rfl ?_)
  |(refine R_run hg1.ok 5 rfl rfl ?_;refine R_rdAt (st:=st) (st.at_+1) (rfl) (by omega) rfl ?_)
  |(refine R_run hg1.ok 6 rfl rfl ?_;refine R_rdAt (st:=st) (st.at_+1) (rfl) (by omega) rfl ?_)
  |(refine R_run hg1.ok 7 rfl rfl ?_;refine R_rdAt (st:=st) (st.at_+1) (rfl) (by omega) rfl ?_)
  refine R_run hg1.ok 1000 rfl rfl ?_
  refine R_retL ?_
  refine Lv.cons hg [0,1,2] (objs':=rdX S0 L (nxR st) deep++[.box [.lo 0 0],.box [.d (.v (.int .i64 2)),.d (.v (.string ByteArray.empty)),.d (.v (.int .i64 u.n)),.d (.v (.slice none 0 0))],tkO u]) (rdDown_ok Y S0 L (nxR st) deep (Nat.le_of_lt hd)) (fun _=>rfl) rfl (by rw[rdB_ren];rfl) rfl (by rw[rdB_ren];rfl) ?_
  exact Lv.nil hg 2 5 (Nat.le_refl _) rfl rfl (hk (nxR st) _)
 rw[if_neg h3]at h
 refine R_if rfl rfl (fun h=>absurd h (by simp[h3])) (fun _=>?_)<;>refine R_run hg1.ok 1000 rfl rfl ?_
 by_cases h2:u.kind=2
 ·rw [if_pos h2] at h
  cases h
  have hl:=(hpk (by rw[h2];decide)).2
  have hnl:=hi.1
  refine R_if rfl rfl (fun _=>?_) (fun h=>absurd h (by simp[h2]))
  first
  |(refine R_run hg1.ok 1 rfl rfl ?_;refine R_rdAt (st:=st) (st.at_+1) (rfl) (by omega) rfl ?_)
  |(refine R_run hg1.ok 2 rfl rfl ?_;refine R_rdAt (st:=st) (st.at_+1) (rfl) (by omega) rfl ?_)
  |(refine R_run hg1.ok 3 rfl rfl ?_;refine R_rdAt (st:=st) (st.at_+1) (rfl) (by omega) rfl ?_)
  |(refine R_run hg1.ok 4 rfl rfl ?_;refine R_rdAt (st:=st) (st.at_+1) (rfl) (by omega) rfl ?_)
  |(refine R_run hg1.ok 5 rfl rfl ?_;refine R_rdAt (st:=st) (st.at_+1) (rfl) (by omega) rfl ?_)
  |(refine R_run hg1.ok 6 rfl rfl ?_;refine R_rdAt (st:=st) (st.at_+1) (rfl) (by omega) rfl ?_)
  |(refine R_run hg1.ok 7 rfl rfl ?_;refine R_rdAt (st:=st) (st.at_+1) (rfl) (by omega) rfl ?_)
  refine R_run hg1.ok 1000 rfl rfl ?_
  refine R_callSO hg1.ok hg1.gup hg1.wide hg1.Y [0,1] (rdX S0 L (varR (nxR st) u.text).2 (deep+1:Nat)++[.box [.lo 0 0],boxZ,tkO u]) (xVar Y S0 L (nxR st) (by simp only[nxR];omega) (deep+1:Nat) u.text) (fun _=>rfl) rfl rfl rfl rfl rfl (by rw[rdX_ren];rfl) rfl (by rw[rdX_ren];rfl) ?_
  refine R_run hg1.ok 1000 rfl rfl ?_
  refine R_retL ?_
  refine Lv.cons hg [0,1,2] (objs':=rdX S0 L ((varR (nxR st) u.text).2) deep++[.box [.lo 0 0],.box [.d (.v (.int .i64 1)),.d (.v (.string ByteArray.empty)),.d (.v (.int .i64 (varR (nxR st) u.text).1)),.d (.v (.slice none 0 0))],tkO u]) (rdDown_ok Y S0 L ((varR (nxR st) u.text).2) deep (Nat.le_of_lt hd)) (fun _=>rfl) rfl (by rw[rdB_ren];rfl) rfl (by rw[rdB_ren];rfl) ?_
  exact Lv.nil hg 2 5 (Nat.le_refl _) rfl rfl (hk ((varR (nxR st) u.text).2) _)
 rw[if_neg h2]at h
 refine R_if rfl rfl (fun h=>absurd h (by simp[h2])) (fun _=>?_)<;>refine R_run hg1.ok 1000 rfl rfl ?_
 by_cases h1:u.kind=1
 ·rw [if_pos h1] at h
  obtain⟨y,hy,h⟩:=Option.map_eq_some_iff.1 h
  simp only[Bool.false_and,Bool.false_eq_true,if_false]at h
  subst h
  have hl:=(hpk (by rw[h1];decide)).2
  refine R_if rfl rfl (fun _=>?_) (fun h=>absurd h (by simp[h1]))<;>refine R_run hg1.ok 1000 rfl rfl ?_
  refine R_callSO hg1.ok hg1.gup hg1.wide hg1.Y [0,1] (rdX S0 L y.2.2 (deep+1:Nat)++[.box [.lo 0 0],boxZ,tkO u]) (rdNamed_ok Y S0 L hL hS hT hG (deep+1) (by omega) st hi hl hpl p u (hum (by rw[h1];decide)) y hy) (fun _=>rfl) rfl rfl rfl rfl rfl (by rw[rdX_ren];rfl) rfl (by rw[rdX_ren];rfl) ?_
  refine R_run hg1.ok 1000 rfl rfl ?_
  refine R_retL ?_
  refine Lv.cons hg [0,1,2] (objs':=rdX S0 L (y.2.2) deep++[.box [.lo 0 0],bxT y.1,tkO u]) (rdDown_ok Y S0 L (y.2.2) deep (Nat.le_of_lt hd)) (fun _=>rfl) rfl (by rw[rdB_ren];rfl) rfl (by rw[rdB_ren];rfl) ?_
  exact Lv.nil hg 2 5 (Nat.le_refl _) rfl rfl (hk (y.2.2) _)
 rw[if_neg h1]at h
 refine R_if rfl rfl (fun h=>absurd h (by simp[h1])) (fun _=>?_)<;>refine R_run hg1.ok 1000 rfl rfl ?_
 cases hm1:isMk u [40]with
 |true =>
  rw[hm1]at h hM1
  simp only[if_true]at h hM1
  have hl:=(isMk_lt (hu ▸ hm1)).2
  obtain⟨⟨y,st2⟩,hy,h⟩:=Option.map_eq_some_iff.1 h
  subst h
  refine R_callSO hg1.ok hg1.gup hg1.wide hg1.Y [0,1] (rdX S0 L (nxR st) (deep+1:Nat)++[.box [.lo 0 0],boxZ,tkO u]) (hM1) (fun _=>rfl) rfl rfl rfl rfl rfl (by rw[rdX_ren];rfl) rfl (by rw[rdX_ren];rfl) ?_
  refine R_run hg1.ok 1000 rfl rfl ?_
  refine R_if rfl rfl (fun _=>?_) (fun h=>absurd h (by simp))<;>refine R_run hg1.ok 1000 rfl rfl ?_
  refine R_callSO hg1.ok hg1.gup hg1.wide hg1.Y [0,1] (rdX S0 L st2 (deep+1:Nat)++[.box [.lo 0 0],boxZ,tkO u]) (hT (deep+1) 1200 (nxR st) y st2 hy (by omega) (hi.nx hl)) (fun _=>rfl) rfl rfl rfl rfl rfl (by rw[rdX_ren];rfl) rfl (by rw[rdX_ren];rfl) ?_
  refine R_run hg1.ok 1000 rfl rfl ?_
  refine R_callSO hg1.ok hg1.gup hg1.wide hg1.Y [0,1] (rdX S0 L (mustR L S0.length st2 [41]) (deep+1:Nat)++[.box [.lo 0 0],boxZ,tkO u,bxT y]) (xMust Y S0 L hL st2 (deep+1:Nat) [41]) (fun _=>rfl) rfl rfl rfl rfl rfl (by rw[rdX_ren];rfl) rfl (by rw[rdX_ren];rfl) ?_
  refine R_run hg1.ok 1000 rfl rfl ?_
  refine R_retL ?_
  refine Lv.cons hg [0,1,2] (objs':=rdX S0 L (mustR L S0.length st2 [41]) deep++[.box [.lo 0 0],bxT y,tkO u,bxT y]) (rdDown_ok Y S0 L (mustR L S0.length st2 [41]) deep (Nat.le_of_lt hd)) (fun _=>rfl) rfl (by rw[rdB_ren];rfl) rfl (by rw[rdB_ren];rfl) ?_
  exact Lv.nil hg 2 5 (Nat.le_refl _) rfl rfl (hk (mustR L S0.length st2 [41]) _)
 |false =>
  rw[hm1]at h hM1
  simp only[Bool.false_eq_true,if_false]at h hM1
  refine R_callSO hg1.ok hg1.gup hg1.wide hg1.Y [0,1] (rdX S0 L st (deep+1:Nat)++[.box [.lo 0 0],boxZ,tkO u]) (hM1) (fun _=>rfl) rfl rfl rfl rfl rfl (by rw[rdX_ren];rfl) rfl (by rw[rdX_ren];rfl) ?_
  refine R_run hg1.ok 1000 rfl rfl ?_
  refine R_if rfl rfl (fun h=>absurd h (by simp)) (fun _=>?_)<;>refine R_run hg1.ok 1000 rfl rfl ?_
  cases hm2:isMk u [91]with
  |true =>
   rw[hm2]at h hM2
   simp only[if_true]at h hM2
   have hl:=(isMk_lt (hu ▸ hm2)).2
   obtain⟨⟨y,st2⟩,hy,h⟩:=Option.map_eq_some_iff.1 h
   subst h
   refine R_callSO hg1.ok hg1.gup hg1.wide hg1.Y [0,1] (rdX S0 L (nxR st) (deep+1:Nat)++[.box [.lo 0 0],boxZ,tkO u]) (hM2) (fun _=>rfl) rfl rfl rfl rfl rfl (by rw[rdX_ren];rfl) rfl (by rw[rdX_ren];rfl) ?_
   refine R_run hg1.ok 1000 rfl rfl ?_
   refine R_if rfl rfl (fun _=>?_) (fun h=>absurd h (by simp))<;>refine R_run hg1.ok 1000 rfl rfl ?_
   refine R_callSO hg1.ok hg1.gup hg1.wide hg1.Y [0,1] (rdX S0 L st2 (deep+1:Nat)++[.box [.lo 0 0],boxZ,tkO u]) (rdList_ok Y S0 L hL hT hG (deep+1) (by omega) (nxR st) (hi.nx hl) y st2 hy) (fun _=>rfl) rfl rfl rfl rfl rfl (by rw[rdX_ren];rfl) rfl (by rw[rdX_ren];rfl) ?_
   refine R_run hg1.ok 1000 rfl rfl ?_
   refine R_retL ?_
   refine Lv.cons hg [0,1,2] (objs':=rdX S0 L (st2) deep++[.box [.lo 0 0],bxT y,tkO u]) (rdDown_ok Y S0 L (st2) deep (Nat.le_of_lt hd)) (fun _=>rfl) rfl (by rw[rdB_ren];rfl) rfl (by rw[rdB_ren];rfl) ?_
   exact Lv.nil hg 2 5 (Nat.le_refl _) rfl rfl (hk (st2) _)
  |false =>
   rw[hm2]at h hM2
   simp only[Bool.false_eq_true,if_false]at h hM2
   cases h
   refine R_callSO hg1.ok hg1.gup hg1.wide hg1.Y [0,1] (rdX S0 L st (deep+1:Nat)++[.box [.lo 0 0],boxZ,tkO u]) (hM2) (fun _=>rfl) rfl rfl rfl rfl rfl (by rw[rdX_ren];rfl) rfl (by rw[rdX_ren];rfl) ?_
   refine R_run hg1.ok 1000 rfl rfl ?_
   refine R_if rfl rfl (fun h=>absurd h (by simp)) (fun _=>?_)<;>refine R_run hg1.ok 1000 rfl rfl ?_
   refine R_callSO hg1.ok hg1.gup hg1.wide hg1.Y [0,1] (rdX S0 L (failR L S0.length st 2) (deep+1:Nat)++[.box [.lo 0 0],boxZ,tkO u]) (xFail Y S0 L st (deep+1:Nat) 2) (fun _=>rfl) rfl rfl rfl rfl rfl (by rw[rdX_ren];rfl) rfl (by rw[rdX_ren];rfl) ?_
   refine R_run hg1.ok 1000 rfl rfl ?_
   refine R_retL ?_
   refine Lv.cons hg [0,1,2] (objs':=rdX S0 L (failR L S0.length st 2) deep++[.box [.lo 0 0],boxZ,tkO u]) (rdDown_ok Y S0 L (failR L S0.length st 2) deep (Nat.le_of_lt hd)) (fun _=>rfl) rfl (by rw[rdB_ren];rfl) rfl (by rw[rdB_ren];rfl) ?_
   exact Lv.nil hg 2 5 (Nat.le_refl _) rfl rfl (hk (failR L S0.length st 2) _)
def pfTrm:Nat→Cls:=fun f=>bif Nat.beq f 4000100060 then .look 104 else bif Nat.beq f 4000200005 then .turn 103 else .eff

def trmE (S0:Bs) (L:List Tk) (deep p:Int):(Nat × RSt × Tm × Int)→Env × List Ob
 |(_,st,out,now)=>([(0,.lo 0 0),(1,iV p),(4,.lo 2 0),(5,.lo 3 0),(6,iV now)],rdX S0 L st deep++[boxZ,bxT out])
theorem peek_ins (L:List Tk)(st:RSt):peekR L (inS L st)=peekR L st:=by unfold inS;split<;>rfl

theorem rdStep_ok (Y:YP)(S0:Bs)(L:List Tk)(hL:L.length≤9000)(hS:S0.length≤9000){T:TF}(hT:TCtr Y S0 L T)(hG:TGood L T)(hpl:∀t∈L,0≤t.at_∧t.at_<S0.length∧0≤t.n∧t.n≤9223372036854775807) :
  TCtr Y S0 L (fun deep p st=>(opndR false S0 L T deep p st).bind fun x=>restR L T (L.length+2) deep p x.1 x.2.1 x.2.2):=by
 intro deep p st t st' h hd hi
 obtain⟨x,hx,h⟩:=Option.bind_eq_some_iff.1 h
 refine SCtr.of_R (pf:=pfTrm) tyOk mixed Tryz.func95 rfl (by kernel_rfl) (by kernel_rfl) (by simp[Tryz.ntmps95]) (by simp[rdX,rdO,robj]) fun w S φ hg=>?_
 have hφ:φ.length=2:=hg.hs0.len
 have hk:∀ (st:RSt) (o:List Ob),(rdX S0 L st deep).map (mapOb (sealT false 2 o 5))=rdX S0 L st deep:=fun st o=>rdX_keep _ _ _ _ _ _ (Nat.le_refl _)
 refine R_k hg.ok rfl rfl ?_
 refine R_callSO hg.ok hg.gup hg.wide hg.Y [0,1] (rdX S0 L x.2.2 deep++[boxZ]) (rdOpnd_ok Y S0 L hL hS hT hG deep hd st hi hpl p x hx) (fun _=>rfl) rfl rfl rfl rfl rfl (by rw[rdX_ren];rfl) rfl (by rw[rdX_ren];rfl) ?_
 refine R_k hg.ok rfl rfl ?_
 refine R_storeJ hg.ok rfl rfl rfl rfl rfl rfl rfl rfl rfl ?_
 refine R_k hg.ok rfl rfl ?_
 refine R_loop (trmE S0 L deep p) (fun y=>restR L T y.1 deep p y.2.2.1 y.2.2.2 y.2.1=some (t,st')∧RInv L y.2.1) (fun y=>y.1) (L.length+2,x.2.2,x.1,x.2.1) ⟨h,opnd_inv hG hx hi⟩ ⟨.refl _,.refl _,.refl _,.refl _,.refl _,trivial⟩ rfl ?_
 rintro⟨f,st1,out,now⟩ ⟨hm,hi1⟩
 simp only at hm hi1
 cases f with
 |zero=>cases hm
 |succ f =>
 simp only[restR]at hm
 refine R_k hg.ok rfl rfl ?_
 by_cases he:st1.e=0
 ·rw [if_neg (by simp [he])] at hm
  refine R_if rfl rfl (fun _=>?_) (fun h=>absurd h (by simp[he]))<;>refine R_k hg.ok rfl rfl ?_
  have hI:=xIn Y S0 L st1 deep
  cases hin:inT (peekR L st1) with
  |none =>
   rw[hin]at hm hI
   simp only at hm
   obtain⟨rfl,rfl⟩:=Prod.mk.inj (Option.some.inj hm)
   simp only[infA]at hI
   refine R_callSO hg.ok hg.gup hg.wide hg.Y [0,1] (rdX S0 L (inS L st1) deep++[boxZ,bxT out]) (hI) (fun _=>rfl) rfl rfl rfl rfl rfl (by rw[rdX_ren];rfl) rfl (by rw[rdX_ren];rfl) ?_
   refine R_k hg.ok rfl rfl ?_
   refine R_if rfl rfl (fun _=>?_) (fun h=>absurd h (by simp))<;>refine R_k hg.ok rfl rfl ?_
   exact R_retS hg 2 5 (Nat.le_refl _) rfl rfl (hk _ _)
  |some z =>
   obtain⟨q,l,r⟩:=z
   rw[hin]at hm hI
   simp only at hm
   simp only[infA]at hI
   refine R_callSO hg.ok hg.gup hg.wide hg.Y [0,1] (rdX S0 L (inS L st1) deep++[boxZ,bxT out]) (hI) (fun _=>rfl) rfl rfl rfl rfl rfl (by rw[rdX_ren];rfl) rfl (by rw[rdX_ren];rfl) ?_
   refine R_k hg.ok rfl rfl ?_
   refine R_if rfl rfl (fun h=>absurd h (by simp)) (fun _=>?_)<;>refine R_k hg.ok rfl rfl ?_
   by_cases hq:q > p
   ·rw [if_pos (.inl hq)] at hm
    obtain⟨rfl,rfl⟩:=Prod.mk.inj (Option.some.inj hm)
    refine R_if rfl rfl (fun _=>?_) (fun h=>absurd h (by simp[hq]))<;>refine R_k hg.ok rfl rfl ?_
    exact R_retS hg 2 5 (Nat.le_refl _) rfl rfl (hk _ _)
   ·refine R_if rfl rfl (fun h=>absurd h (by simp [hq])) (fun _=>?_) <;> refine R_run hg.ok 1000 rfl rfl ?_
    by_cases hn:now > l
    ·rw [if_pos (.inr hn)] at hm
     obtain⟨rfl,rfl⟩:=Prod.mk.inj (Option.some.inj hm)
     refine R_if rfl rfl (fun _=>?_) (fun h=>absurd h (by simp[hn]))<;>refine R_k hg.ok rfl rfl ?_
     exact R_retS hg 2 5 (Nat.le_refl _) rfl rfl (hk _ _)
    ·rw [if_neg (by rintro (h | h); exact hq h; exact hn h)] at hm
     obtain⟨⟨y,st2⟩,hy,hm⟩:=Option.bind_eq_some_iff.1 hm
     refine R_if rfl rfl (fun h=>absurd h (by simp[hn])) (fun _=>?_)<;>refine R_k hg.ok rfl rfl ?_
     have hat:=inS_at L st1
     have hl1:=(ins_lt hin).2
     refine R_callSO hg.ok hg.gup hg.wide hg.Y [0,1] (rdX S0 L (inS L st1) deep++[boxZ,bxT out,.box [iV q,iV l,iV r]]) (xPeek Y S0 L (inS L st1) deep) (fun _=>rfl) rfl rfl rfl rfl rfl (by rw[rdX_ren];rfl) rfl (by rw[rdX_ren];rfl) ?_
     first
     |(refine R_run hg.ok 1 rfl rfl ?_;refine R_rdAt (st:=inS L st1) ((inS L st1).at_+1) (rfl) (by omega) rfl ?_)
     |(refine R_run hg.ok 2 rfl rfl ?_;refine R_rdAt (st:=inS L st1) ((inS L st1).at_+1) (rfl) (by omega) rfl ?_)
     |(refine R_run hg.ok 3 rfl rfl ?_;refine R_rdAt (st:=inS L st1) ((inS L st1).at_+1) (rfl) (by omega) rfl ?_)
     |(refine R_run hg.ok 4 rfl rfl ?_;refine R_rdAt (st:=inS L st1) ((inS L st1).at_+1) (rfl) (by omega) rfl ?_)
     |(refine R_run hg.ok 5 rfl rfl ?_;refine R_rdAt (st:=inS L st1) ((inS L st1).at_+1) (rfl) (by omega) rfl ?_)
     |(refine R_run hg.ok 6 rfl rfl ?_;refine R_rdAt (st:=inS L st1) ((inS L st1).at_+1) (rfl) (by omega) rfl ?_)
     |(refine R_run hg.ok 7 rfl rfl ?_;refine R_rdAt (st:=inS L st1) ((inS L st1).at_+1) (rfl) (by omega) rfl ?_)
     refine R_k hg.ok rfl rfl ?_
     have hi3:RInv L (nxR (inS L st1)):=hi1.ins.nx (by rw[hat];exact hl1)
     refine R_callSO hg.ok hg.gup hg.wide hg.Y [0,1] (rdX S0 L st2 deep++[boxZ,bxT out,.box [iV q,iV l,iV r]]) (hT deep r _ y st2 hy hd hi3) (fun _=>rfl) rfl rfl rfl rfl rfl (by rw[rdX_ren];rfl) rfl (by rw[rdX_ren];rfl) ?_
     refine R_k hg.ok rfl rfl ?_
     refine R_loadJ hg.ok 103 (i:=4) (by unfold mayO;rintro(⟨h,_⟩ |h |⟨h,_⟩)<;>omega) rfl rfl rfl rfl rfl rfl rfl ?_
     refine R_k hg.ok rfl rfl ?_
     refine R_storeJ hg.ok rfl rfl rfl rfl rfl rfl rfl rfl rfl ?_
     refine R_k hg.ok rfl rfl ?_
     have hb:Ob.box [.d (.v (.int .i64 3)),.d (.v (.string (Tx (peekR L st1).text))),.d (.v (.int .i64 0)),.d (.sl [rwT out,rwT y])]=bxT (fnT (peekR L st1).text [out,y]):=by rw[bxT_fn,← rwT_rows];rfl
     refine R_obs (rdX S0 L st2 deep++[boxZ,.box [.d (.v (.int .i64 3)),.d (.v (.string (Tx (peekR L (inS L st1)).text))),.d (.v (.int .i64 0)),.d (.sl [rwT out,rwT y])],.box [iV q,iV l,iV r],bxT y]) ⟨.refl _,.refl _,.refl _,⟨.refl _,.refl _,.refl _,Ent.fs _,trivial⟩,.refl _,.refl _,trivial⟩ rfl ?_
     refine R_dropO 4 (rdX S0 L st2 deep++[boxZ,bxT (fnT (peekR L st1).text [out,y])]) (by show φ.length≤_;omega) rfl ?_ ?_
     ·rw [peek_ins,hb]
      unfold rdX rdO robj;generalize st2.lay=b;cases b<;>rfl
     exact R_next (f,st2,fnT (peekR L st1).text [out,y],q) ⟨hm,hG _ _ _ _ _ hy hi3⟩ (by simp only;omega) ⟨.refl _,.refl _,.refl _,.refl _,.refl _,trivial⟩ rfl
 ·rw [if_pos he] at hm
  cases hm
  refine R_if rfl rfl (fun h=>absurd h (by simp[he])) (fun _=>?_)<;>refine R_k hg.ok rfl rfl ?_
  exact R_retS hg 2 5 (Nat.le_refl _) rfl rfl (hk _ _)

theorem rdTerm_ok (Y:YP)(S0:Bs)(L:List Tk)(hL:L.length≤9000)(hS:S0.length≤9000)(hpl:∀t∈L,0≤t.at_∧t.at_<S0.length∧0≤t.n∧t.n≤9223372036854775807):∀n,TCtr Y S0 L (termR false S0 L n)
 |0=>fun _ _ _ _ _ h=>by cases h
 |n+1=>fun deep p st t st' h hd hi=>rdStep_ok Y S0 L hL hS (rdTerm_ok Y S0 L hL hS hpl n) (term_inv false S0 L n) hpl deep p st t st' h hd hi
def clRow (x:Clau):List D:=[.v (.int .i64 x.1.k),.v (.string x.1.s),.v (.int .i64 x.1.n),.sl (Tm.rows x.1.l),.sl (strRows x.2)]
def clRows (l:List Clau):List (List D):=l.map clRow
theorem clRows_len (l:List Clau):(clRows l).length=l.length:=by simp[clRows]

def cl1 (S:Bs)(L:List Tk)(st:RSt):Ob:=.box [.d (.v (.string (Tx S))),.d (.sl (tkRows L)),iV st.at_,.d (.sl (strRows st.names)),iV 0,iV st.bad,iV st.e,.d (.v (.int .u32 (if st.lay then 1 else 0))),.d (.v (.int .i32 0)),.d (.v (.int .u32 0)),tblV st.lay]
def cl2 (S:Bs)(L:List Tk)(st:RSt):Ob:=.box [.d (.v (.string (Tx S))),.d (.sl (tkRows L)),iV st.at_,.ow 2 st.names.length,iV 0,iV st.bad,iV st.e,.d (.v (.int .u32 (if st.lay then 1 else 0))),.d (.v (.int .i32 0)),.d (.v (.int .u32 0)),tblV st.lay]
def clO (S:Bs)(L:List Tk)(st:RSt)(j:Nat)(out:List Clau):List Ob:=[cl2 S L st,.arr 5 j (clRows out),.arr 1 st.names.length (strRows st.names)]
theorem rdX_ren02 (S:Bs)(L:List Tk)(st:RSt)(n:Nat):(rdX S L st 0).map (renOb (rn [0,2] n))=[cl2 S L st,.arr 1 st.names.length (strRows st.names)]:=robj_ren _ _ _ _ _ _ _ _ _ _ _

theorem cl1_keep (S:Bs)(L:List Tk)(st:RSt)(o:List Ob):[cl1 S L st].map (mapOb (sealT false 1 o 5))=[cl1 S L st]:=by
 unfold cl1;generalize st.lay=b;cases b<;>rfl

theorem cl1_ren (S:Bs)(L:List Tk)(st:RSt)(n:Nat):[cl1 S L st].map (renOb (rn [0] n))=[cl1 S L st]:=by
 unfold cl1;generalize st.lay=b;cases b<;>rfl

theorem clPlace_ok (Y:YP)(S0:Bs)(L:List Tk)(st:RSt):SCtr Tryz.prog Y 94 [.lo 0 0] [cl1 S0 L st] (iV (plcR L S0.length st.at_)) [cl1 S0 L st]:=by
 refine SCtr.of_R (pf:=fun _=>.eff) tyOk mixed Tryz.func94 rfl (by kernel_rfl) (by kernel_rfl) (by simp[Tryz.ntmps94]) (by simp) fun w S φ hg=>?_
 have hk:∀o:List Ob,[cl1 S0 L st].map (mapOb (sealT false 1 o 5))=[cl1 S0 L st]:=fun o=>cl1_keep _ _ _ _
 refine R_k hg.ok rfl rfl ?_
 refine R_if rfl rfl (fun h=>?_) (fun h=>?_)<;>refine R_k hg.ok rfl rfl ?_
 ·have hl:st.at_<L.length:=by have:=of_decide_eq_true h; rw [tkRows_len] at this; omega
  have e1:L[st.at_]? = some L[st.at_]:=List.getElem?_eq_getElem hl
  rw[show plcR L S0.length st.at_=L[st.at_].at_ by unfold plcR;rw[e1]]
  generalize L[st.at_]=t at e1
  refine R_index hg.ok rfl rfl rfl rfl rfl rfl (Int.natCast_nonneg _) (tkRows_get e1) rfl ?_
  refine R_k hg.ok rfl rfl ?_
  exact R_retS hg 1 5 (Nat.le_refl _) rfl rfl (hk _)
 ·have hl:L.length≤st.at_:=by have:=of_decide_eq_false h; rw [tkRows_len] at this; omega
  rw[show plcR L S0.length st.at_=(S0.length:Int) by unfold plcR;rw[List.getElem?_eq_none hl]]
  refine R_see 2 rfl (v':=iV S0.length) (by rw[show ((Tx S0).size:Int)=S0.length by rw[Tx_size]];exact .refl _) ?_
  exact R_retS hg 1 5 (Nat.le_refl _) rfl rfl (hk _)

def clsE (S0:Bs) (L:List Tk):(Nat × RSt × List Clau × Nat)→Env × List Ob
 |(_,st,out,j)=>([(5,.d (.sl (tkRows L))),(8,.lo 0 0),(9,.ow 1 j)],[cl1 S0 L st,.arr 5 j (clRows out)])

theorem clauses_ok (S0:Bs)(hS:S0.length≤9000)(L:List Tk)(hL:L.length≤9000)(hpl:∀t∈L,0≤t.at_∧t.at_<S0.length∧0≤t.n∧t.n≤9223372036854775807)(htk:tokR S0=.tup [.d (.sl (tkRows L)),iV 0,iV 0])
  (n:Nat) (hb:∀st t st',RInv L st→termR false S0 L n 0 1200 st=some (t,st')→st'.e=0→t.size<1000000000∧∀e∈t.els 1,e.2.s.size<1000000000) (c:List Clau) (a e:Int) (h:clsR rightT L S0.length (termR false S0 L n) (L.length+1) ⟨0,[],0,0,false⟩ []=some (c,a,e)) :
  PCtr Tryz.prog 63 [txA S0] (.tup [.d (.sl (clRows c)),iV a,iV e]):=by
 have hT:=rdTerm_ok ⟨[],fun _=>true⟩ S0 L hL hS hpl n
 have hG:=term_inv false S0 L n
 have hTk:=tokens_ok S0 hS
 rw[htk]at hTk
 refine PCtr.of_R (pf:=fun _=>.eff) tyOk mixed Tryz.func63 rfl (by kernel_rfl) (by kernel_rfl) (by simp[Tryz.ntmps63]) fun w S hg=>?_
 refine R_k hg.ok rfl rfl ?_
 refine R_call hg.ok (hTk) rfl rfl rfl rfl rfl rfl ?_
 refine R_k hg.ok rfl rfl ?_
 refine R_if rfl rfl (fun h=>absurd h (by simp)) (fun _=>?_)
 first
 |(refine R_run hg.ok 1 rfl rfl ?_;refine R_own 9 5 rfl rfl ?_)
 |(refine R_run hg.ok 2 rfl rfl ?_;refine R_own 9 5 rfl rfl ?_)
 |(refine R_run hg.ok 3 rfl rfl ?_;refine R_own 9 5 rfl rfl ?_)
 |(refine R_run hg.ok 4 rfl rfl ?_;refine R_own 9 5 rfl rfl ?_)
 |(refine R_run hg.ok 5 rfl rfl ?_;refine R_own 9 5 rfl rfl ?_)
 |(refine R_run hg.ok 6 rfl rfl ?_;refine R_own 9 5 rfl rfl ?_)
 |(refine R_run hg.ok 7 rfl rfl ?_;refine R_own 9 5 rfl rfl ?_)
 |(refine R_run hg.ok 8 rfl rfl ?_;refine R_own 9 5 rfl rfl ?_)
 |(refine R_run hg.ok 9 rfl rfl ?_;refine R_own 9 5 rfl rfl ?_)
 refine R_obs [cl1 S0 L ⟨0,[],0,0,false⟩,.arr 5 0 []] ⟨⟨.refl _,.refl _,.refl _,Ent.nil,.refl _,.refl _,.refl _,.refl _,.refl _,.refl _,.refl _,trivial⟩,.refl _,trivial⟩ rfl ?_
 refine R_k hg.ok rfl rfl ?_
 refine R_loop (clsE S0 L) (fun x=>clsR rightT L S0.length (termR false S0 L n) x.1 x.2.1 x.2.2.1=some (c,a,e)∧x.2.1.e=0∧x.2.2.1.length+x.1≤L.length+1∧x.2.1.at_≤L.length) (fun x=>x.1) (L.length+1,⟨0,[],0,0,false⟩,[],0) ⟨h,rfl,by simp,Nat.zero_le _⟩ ⟨.refl _,.refl _,.refl _,trivial⟩ rfl ?_
 rintro⟨f,st,out,j⟩ ⟨hm,he0,hlo,hat⟩
 simp only at hm he0 hlo hat
 cases f with
 |zero=>cases hm
 |succ f =>
 simp only[clsR]at hm
 refine R_k hg.ok rfl rfl ?_
 by_cases hat2:st.at_<L.length
 ·rw [if_pos hat2] at hm
  refine R_if rfl rfl (fun _=>?_) (fun h=>absurd h (by simp[tkRows_len];omega))<;>refine R_k hg.ok rfl rfl ?_
  refine R_callSO hg.ok hg.gup ⟨rfl,rfl⟩ (fun _ _ _ _ h=>by cases h) [0] [cl1 S0 L st,.arr 5 j (clRows out)] (clPlace_ok ⟨[],fun _=>true⟩ S0 L st) (fun _=>rfl) rfl rfl rfl rfl rfl (by rw[cl1_ren];rfl) rfl (by rw[cl1_ren];rfl) ?_
  first
  |(refine R_run hg.ok 1 rfl rfl ?_;refine R_ownB 0 3 1 rfl rfl rfl ?_)
  |(refine R_run hg.ok 2 rfl rfl ?_;refine R_ownB 0 3 1 rfl rfl rfl ?_)
  |(refine R_run hg.ok 3 rfl rfl ?_;refine R_ownB 0 3 1 rfl rfl rfl ?_)
  |(refine R_run hg.ok 4 rfl rfl ?_;refine R_ownB 0 3 1 rfl rfl rfl ?_)
  |(refine R_run hg.ok 5 rfl rfl ?_;refine R_ownB 0 3 1 rfl rfl rfl ?_)
  |(refine R_run hg.ok 6 rfl rfl ?_;refine R_ownB 0 3 1 rfl rfl rfl ?_)
  |(refine R_run hg.ok 7 rfl rfl ?_;refine R_ownB 0 3 1 rfl rfl rfl ?_)
  |(refine R_run hg.ok 8 rfl rfl ?_;refine R_ownB 0 3 1 rfl rfl rfl ?_)
  |(refine R_run hg.ok 9 rfl rfl ?_;refine R_ownB 0 3 1 rfl rfl rfl ?_)
  obtain⟨⟨t,st1⟩,ht,hm⟩:=Option.bind_eq_some_iff.1 hm
  have hi0:RInv L { st with names:=[] }:=⟨Nat.zero_le _,hat⟩
  have hi1:=hG _ _ _ _ _ ht hi0
  have hc1:SCtr Tryz.prog ⟨[],fun _=>true⟩ 95 [.lo 0 0,iV 1200] (rdX S0 L { st with names:=[] } 0) t.av (rdX S0 L st1 0):=hT 0 1200 { st with names:=[] } t st1 ht (by decide) hi0
  refine R_k hg.ok rfl rfl ?_
  refine R_callSO hg.ok hg.gup ⟨rfl,rfl⟩ (fun _ _ _ _ h=>by cases h) [0,2] (clO S0 L st1 j out) (hc1) (fun _=>rfl) rfl rfl rfl rfl rfl (by rw[rdX_ren02];rfl) rfl (by rw[rdX_ren02];rfl) ?_
  refine R_k hg.ok rfl rfl ?_
  refine R_callSO hg.ok hg.gup ⟨rfl,rfl⟩ (fun _ _ _ _ h=>by cases h) [0,2] (clO S0 L st1 j out++[bxT t]) (xPeek ⟨[],fun _=>true⟩ S0 L st1 0) (fun _=>rfl) rfl rfl rfl rfl rfl (by rw[rdX_ren02];rfl) rfl (by rw[rdX_ren02];rfl) ?_
  refine R_k hg.ok rfl rfl ?_
  simp only at hm
  obtain⟨st2,hst2⟩:∃st2,st2=(if (peekR L st1).kind≠5 then failR L S0.length st1 2 else st1):=⟨_,rfl⟩
  rw[← hst2]at hm
  have h2:st2.e=0→st1.e=0∧st1.at_<L.length∧st2=st1:=fun h=>by
   by_cases hk5:(peekR L st1).kind≠5
   ·rw [if_pos hk5] at hst2; subst hst2
    unfold failR at h;split at h
    ·cases h
    ·rename_i hne;exact absurd h hne
   ·rw [if_neg hk5] at hst2
    have:=peek_lt (L:=L) (st:=st1) (by rw[Decidable.not_not.1 hk5];decide)
    exact⟨this.1,this.2,hst2⟩
  refine R_cut1 (fun _:Unit=>([(5,.d (.sl (tkRows L))),(8,.lo 0 0),(9,.ow 1 j),(10,iV (plcR L S0.length st.at_)),(11,.lo 3 0)],clO S0 L st2 j out++[bxT t])) (fun _=>True) rfl ?_ ?_
  ·by_cases hk5:(peekR L st1).kind≠5
   ·rw [if_pos hk5] at hst2
    refine R_if rfl rfl (fun _=>?_) (fun h=>absurd h (by simp[hk5]))<;>refine R_k hg.ok rfl rfl ?_
    refine R_callSO hg.ok hg.gup ⟨rfl,rfl⟩ (fun _ _ _ _ h=>by cases h) [0,2] (clO S0 L (failR L S0.length st1 2) j out++[bxT t]) (xFail ⟨[],fun _=>true⟩ S0 L st1 0 2) (fun _=>rfl) rfl rfl rfl rfl rfl (by rw[rdX_ren02];rfl) rfl (by rw[rdX_ren02];rfl) ?_
    refine R_k hg.ok rfl rfl ?_
    rw[← hst2]
    exact R_to () trivial ⟨.refl _,.refl _,.refl _,.refl _,.refl _,trivial⟩ rfl
   ·rw [if_neg hk5] at hst2
    refine R_if rfl rfl (fun h=>absurd h (by simp[hk5])) (fun _=>?_)<;>refine R_k hg.ok rfl rfl ?_
    rw[hst2]
    exact R_to () trivial ⟨.refl _,.refl _,.refl _,.refl _,.refl _,trivial⟩ rfl
  rintro _ _
  obtain⟨st3,hst3⟩:∃st3,st3=(if st2.e=0∧rightT t=false then { st2 with e:=3,bad:=plcR L S0.length st.at_ } else st2):=⟨_,rfl⟩
  rw[← hst3]at hm
  refine R_k hg.ok rfl rfl ?_
  by_cases h0:st2.e=0
  ·obtain ⟨h3,h4,h5⟩:=h2 h0
   have hbt:=hb _ _ _ hi0 ht h3
   have hR:=right_ok t hbt.1 hbt.2
   refine R_if rfl rfl (fun _=>?_) (fun h=>absurd h (by simp[h0]))<;>refine R_k hg.ok rfl rfl ?_
   cases hr:rightT t with
   |false =>
    have hst3:st3={ st2 with e:=3,bad:=plcR L S0.length st.at_ }:=by rw[hst3,hr];exact if_pos ⟨h0,rfl⟩
    subst hst3
    rw[hr]at hR
    rw[if_pos (show ((3:Int)≠0) by decide)]at hm
    cases hm
    refine R_call hg.ok (hR) rfl rfl rfl rfl rfl rfl ?_
    refine R_k hg.ok rfl rfl ?_
    refine R_if rfl rfl (fun _=>?_) (fun h=>absurd h (by simp))<;>refine R_k hg.ok rfl rfl ?_
    refine R_if rfl rfl (fun _=>?_) (fun h=>absurd h (by simp))<;>refine R_k hg.ok rfl rfl ?_
    refine R_ret hg 5 rfl rfl ?_
    rfl
   |true =>
    have hst3:st3=st2:=by rw[hst3,hr];exact if_neg (by simp)
    rw[hst3]at hm
    rw[hr]at hR
    rw[if_neg (by simp[h0])]at hm
    refine R_call hg.ok (hR) rfl rfl rfl rfl rfl rfl ?_
    refine R_k hg.ok rfl rfl ?_
    refine R_if rfl rfl (fun h=>absurd h (by simp)) (fun _=>?_)<;>refine R_k hg.ok rfl rfl ?_
    refine R_if rfl rfl (fun h=>absurd h (by simp[h0])) (fun _=>?_)
    refine R_freezeO hg.gup 2 [(5,.d (.sl (tkRows L))),(8,.lo 0 0),(9,.ow 1 j),(11,.lo 3 0),(67,.ff)] [cl1 S0 L st2,.arr 5 j (clRows out),.dead,bxT t] rfl rfl ⟨.refl _,.refl _,.refl _,.refl _,.refl _,trivial⟩ ⟨⟨.refl _,.refl _,.refl _,Ent.frz 2 _ _,.refl _,.refl _,.refl _,.refl _,.refl _,.refl _,Ent.tblFrz 2 _ _ st2.lay,trivial⟩,rfl,by simp[ObIn],⟨.refl _,.refl _,.refl _,.refl _,trivial⟩,trivial⟩ ?_
    have hnat:(nxR st2).at_=st1.at_+1:=by rw[h5];rfl
    first
    |(refine R_run hg.ok 1 rfl rfl ?_;refine R_obs [cl1 S0 L (nxR st2),.arr 5 j (clRows out),.dead,bxT t] ⟨⟨.refl _,.refl _,Ent.wrap rfl (by omega) (by omega),.refl _,.refl _,.refl _,.refl _,.refl _,.refl _,.refl _,.refl _,trivial⟩,.refl _,.refl _,.refl _,trivial⟩ rfl ?_)
    |(refine R_run hg.ok 2 rfl rfl ?_;refine R_obs [cl1 S0 L (nxR st2),.arr 5 j (clRows out),.dead,bxT t] ⟨⟨.refl _,.refl _,Ent.wrap rfl (by omega) (by omega),.refl _,.refl _,.refl _,.refl _,.refl _,.refl _,.refl _,.refl _,trivial⟩,.refl _,.refl _,.refl _,trivial⟩ rfl ?_)
    |(refine R_run hg.ok 3 rfl rfl ?_;refine R_obs [cl1 S0 L (nxR st2),.arr 5 j (clRows out),.dead,bxT t] ⟨⟨.refl _,.refl _,Ent.wrap rfl (by omega) (by omega),.refl _,.refl _,.refl _,.refl _,.refl _,.refl _,.refl _,.refl _,trivial⟩,.refl _,.refl _,.refl _,trivial⟩ rfl ?_)
    |(refine R_run hg.ok 4 rfl rfl ?_;refine R_obs [cl1 S0 L (nxR st2),.arr 5 j (clRows out),.dead,bxT t] ⟨⟨.refl _,.refl _,Ent.wrap rfl (by omega) (by omega),.refl _,.refl _,.refl _,.refl _,.refl _,.refl _,.refl _,.refl _,trivial⟩,.refl _,.refl _,.refl _,trivial⟩ rfl ?_)
    |(refine R_run hg.ok 5 rfl rfl ?_;refine R_obs [cl1 S0 L (nxR st2),.arr 5 j (clRows out),.dead,bxT t] ⟨⟨.refl _,.refl _,Ent.wrap rfl (by omega) (by omega),.refl _,.refl _,.refl _,.refl _,.refl _,.refl _,.refl _,.refl _,trivial⟩,.refl _,.refl _,.refl _,trivial⟩ rfl ?_)
    |(refine R_run hg.ok 6 rfl rfl ?_;refine R_obs [cl1 S0 L (nxR st2),.arr 5 j (clRows out),.dead,bxT t] ⟨⟨.refl _,.refl _,Ent.wrap rfl (by omega) (by omega),.refl _,.refl _,.refl _,.refl _,.refl _,.refl _,.refl _,.refl _,trivial⟩,.refl _,.refl _,.refl _,trivial⟩ rfl ?_)
    |(refine R_run hg.ok 7 rfl rfl ?_;refine R_obs [cl1 S0 L (nxR st2),.arr 5 j (clRows out),.dead,bxT t] ⟨⟨.refl _,.refl _,Ent.wrap rfl (by omega) (by omega),.refl _,.refl _,.refl _,.refl _,.refl _,.refl _,.refl _,.refl _,trivial⟩,.refl _,.refl _,.refl _,trivial⟩ rfl ?_)
    |(refine R_run hg.ok 8 rfl rfl ?_;refine R_obs [cl1 S0 L (nxR st2),.arr 5 j (clRows out),.dead,bxT t] ⟨⟨.refl _,.refl _,Ent.wrap rfl (by omega) (by omega),.refl _,.refl _,.refl _,.refl _,.refl _,.refl _,.refl _,.refl _,trivial⟩,.refl _,.refl _,.refl _,trivial⟩ rfl ?_)
    refine R_k hg.ok rfl rfl ?_
    refine R_appendO hg.ok (clRows (out++[(t,st2.names)])) rfl rfl rfl rfl rfl rfl rfl rfl rfl (by simp) (by simp[one1]) (by rw[clRows,clRows,List.map_append];rfl) (by rw[clRows_len];simp;omega) (by rw[clRows_len];simp;omega) ?_
    refine R_k hg.ok rfl rfl ?_
    refine R_dropO 2 [cl1 S0 L (nxR st2),.arr 5 (j+1) (clRows (out++[(t,st2.names)]))] (Nat.zero_le _) rfl ?_ ?_
    ·unfold cl1 nxR;simp only;generalize st2.lay=b;cases b<;>rfl
    exact R_next (f,nxR st2,out++[(t,st2.names)],j+1) ⟨hm,h0,by simp;omega,by rw[h5];exact h4⟩ (by simp only;omega) ⟨.refl _,.refl _,.refl _,trivial⟩ rfl
  ·have hst3:st3=st2:=by rw [hst3]; exact if_neg (fun h=>h0 h.1)
   rw[hst3,if_pos h0]at hm
   cases hm
   refine R_if rfl rfl (fun h=>absurd h (by simp[h0])) (fun _=>?_)<;>refine R_k hg.ok rfl rfl ?_
   refine R_if rfl rfl (fun _=>?_) (fun h=>absurd h (by simp[h0]))<;>refine R_k hg.ok rfl rfl ?_
   refine R_ret hg 5 rfl rfl ?_
   rfl
 ·rw [if_neg hat2] at hm
  cases hm
  refine R_if rfl rfl (fun h=>absurd h (by simp[tkRows_len];omega)) (fun _=>?_)<;>refine R_k hg.ok rfl rfl ?_
  exact R_ret hg 5 rfl (sealA_tup (mapO_cons (sealA_ow rfl) rfl)) rfl
end Go.Proofs.YtcgkgofmldhokaaGreat

namespace PSL
open Go
def st0:RSt:=⟨0,[],0,0,false⟩
end PSL

namespace Go.Proofs.YtcgkgofmldhokaaGreat
open Go PSL Go.Proofs
theorem clRows_get {c:List Clau}{i:Nat}{x:Clau}(h:c[i]? = some x):(clRows c)[i]? = some (clRow x):=by simp[clRows,h]
theorem rightT_fun:rightT=Tm.rightB:=funext rightT_eq

theorem clausesBad_ok (S0:Bs)(a e:Int)(he:e≠0)(h:PCtr Tryz.prog 93 [txA S0] (.tup [.d (.sl (tkRows [])),iV a,iV e])):PCtr Tryz.prog 63 [txA S0] (.tup [.d (.sl (clRows [])),iV a,iV e]):=by
 refine PCtr.of_R (pf:=fun _=>.eff) tyOk mixed Tryz.func63 rfl (by kernel_rfl) (by kernel_rfl) (by simp[Tryz.ntmps63]) fun w S hg=>?_
 refine R_k hg.ok rfl rfl ?_
 refine R_call hg.ok (h) rfl rfl rfl rfl rfl rfl ?_
 refine R_k hg.ok rfl rfl ?_
 refine R_if rfl rfl (fun _=>?_) (fun h=>absurd h (by simp[he]))<;>refine R_k hg.ok rfl rfl ?_
 refine R_ret hg 5 rfl rfl ?_
 rfl

theorem clausesT_ok (S0:Bs)(hS:S0.length≤9000){c:List Clau}{a e:Int}(h:clauR rightT false S0=some (c,a,e)):PCtr Tryz.prog 63 [txA S0] (.tup [.d (.sl (clRows c)),iV a,iV e]):=by
 unfold clauR at h
 by_cases he:(tokT S0).2.2≠0
 ·rw [if_pos he] at h
  have ht:=tokens_ok S0 hS
  unfold tokR at ht
  rw[(tok_bad he).1]at ht
  cases h
  exact clausesBad_ok S0 _ _ he ht
 ·rw [if_neg he] at h
  obtain⟨h8,ht,_⟩:=tok_ok (Decidable.not_not.1 he)
  have hpl:=toks_plc ht
  have hgd:=toks_good _ _ _ _ ht
  have hlen:=toks_len _ S0 0 _ ht
  refine clauses_ok S0 hS _ (by omega) (fun t ht=>⟨(hpl t ht).1,(hpl t ht).2,(hgd t ht).lo,(hgd t ht).hi⟩) (tokR_ok (by omega) ht) _ (fun st t st' hi hx he=>?_) c a e h
  have:=read_small (by omega) hS hgd hi hx he
  exact⟨by have:=this.1;omega,fun e he=>by have:=this.2 1 e he;omega⟩

theorem goals_ok (t:Tm)(ht:SmT t)(hc:noCh t=true):PCtr Tryz.prog 65 [t.av] (.tup [.d (.sl (Gl.rows (goalsT t).1)),iV (goalsT t).2]):=by
 have hs:=ht.1
 have hD:=(gol_ok ⟨[],fun _=>true⟩ t.size).2 t (20,0) 1 true ht hc (Nat.le_refl _) (by simp only;omega) (by simp only;omega) (by omega) (by omega)
 refine PCtr.of_R (pf:=fun _=>.eff) tyOk mixed Tryz.func65 rfl (by kernel_rfl) (by kernel_rfl) (by simp[Tryz.ntmps65]) fun w S hg=>?_
 refine R_k hg.ok rfl rfl ?_
 refine R_call hg.ok (right_ok t (by omega) (ht.2 1)) rfl rfl rfl rfl rfl rfl ?_
 refine R_k hg.ok rfl rfl ?_
 unfold goalsT
 by_cases hr:rightT t=true
 rotate_left
 ·rw [if_neg hr]
  have hr:rightT t=false:=by simpa using hr
  refine R_if rfl rfl (fun _=>?_) (fun h=>absurd h (by simp[hr]))<;>refine R_k hg.ok rfl rfl ?_
  refine R_ret hg 5 rfl rfl ?_
  rfl
 rw[if_pos hr]
 refine R_if rfl rfl (fun h=>absurd h (by simp[hr])) (fun _=>?_)<;>refine R_k hg.ok rfl rfl ?_
 generalize golF t.size t (20,0) 1 true=A at *
 refine R_callSO hg.ok hg.gup ⟨rfl,rfl⟩ (fun _ _ _ _ h=>by cases h) [1] ([boxR t]++mkO A.2) (hD) (fun _=>rfl) rfl rfl rfl rfl rfl rfl rfl rfl ?_
 refine R_k hg.ok rfl rfl ?_
 by_cases he:A.2.2≠0
 ·rw [if_pos he]
  refine R_if rfl rfl (fun _=>?_) (fun h=>absurd h (by simp[he]))<;>refine R_k hg.ok rfl rfl ?_
  refine R_ret hg 5 rfl rfl ?_
  rfl
 ·rw [if_neg he]
  refine R_if rfl rfl (fun h=>absurd h (by simp at he;simp[he])) (fun _=>?_)<;>refine R_k hg.ok rfl rfl ?_
  refine R_ret hg 5 rfl rfl ?_
  rfl
theorem csRows_snoc (l:List Cs)(c:Cs):Cs.rows l++[c.row]=Cs.rows (l++[c]):=by simp[Cs.rows]
def csB (x:Cs):Ob:=.box [.d (.v (.int .i64 x.head.k)),.d (.v (.string x.head.s)),.d (.v (.int .i64 x.head.n)),.d (.sl (Tm.rows x.head.l)),.d (.sl (Gl.rows x.body)),.d (.v (.int .i64 x.vars))]
theorem smT_right {t:Tm}(h:t.rightB=true):SmT t:=⟨by have:=(Tm.rightB_iff.1 h).2.1;omega,fun x e he=>fair_names (right_fair h) x e he⟩
def clB (x:Clau):Ob:=.box [.d (.v (.int .i64 x.1.k)),.d (.v (.string x.1.s)),.d (.v (.int .i64 x.1.n)),.d (.sl (Tm.rows x.1.l)),.d (.sl (strRows x.2))]
def loadE (x:Clau):Int:=if sgOf x.1=sgR then (goalsT (argT x.1 1)).2 else 0

theorem loadE_own (x:Clau):(loadOne x).2=if ownB (loadOne x).1.head=true then loadE x else 5:=by
 unfold loadOne loadE
 split<;>rfl

theorem loadOne_sm {x:Clau}(hx:ClG x)(hc:noCh x.1=true):SmC (loadOne x).1:=by
 have hs:=smT_right hx.right
 have h3:=(Tm.rightB_iff.1 hx.right).2.1
 unfold loadOne
 by_cases h:sgOf x.1=sgR
 ·rw [if_pos h]
  have hl:x.1.l.length=2:=sg_len (n:=2) h
  have h1:SmT (argT x.1 1):=hs.arg (by omega)
  have h2:=size_arg (t:=x.1) (i:=1) (by omega)
  obtain⟨g1,g2,_⟩:=golF_ok (argT x.1 1).size (argT x.1 1) (20,0) 1 true h1
  refine⟨hs.arg (by omega),?_,?_⟩
  ·simp only [goalsT]
   split
   ·split
    ·simp only[allGL]
    ·exact g1
   ·simp only[allGL]
  ·simp only [goalsT]
   split
   ·split
    ·simp[Gl.sizeL]
    ·simp only;omega
   ·simp[Gl.sizeL]
 ·rw [if_neg h]
  exact⟨hs,by simp only[allGL],by simp[Gl.sizeL]⟩

theorem load_ok (S0:Bs)(hS:S0.length≤9000){c:List Clau}{a e:Int}(h:clauR rightT false S0=some (c,a,e))(hc:∀x∈c,noCh x.1=true):PCtr Tryz.prog 29 [txA S0] (if e≠0 then .tup [prV [],iV a,iV e] else .tup [prV (loadL c 0 []).1,iV (loadL c 0 []).2.1,iV (loadL c 0 []).2.2]):=by
 obtain⟨_,f2,_,_⟩:=clau_facts hS h
 have hct:=clau_count h
 have hrl:=clRows_len c
 refine PCtr.of_R (pf:=fun _=>.eff) tyOk mixed Tryz.func29 rfl (by kernel_rfl) (by kernel_rfl) (by simp[Tryz.ntmps29]) fun w S hg=>?_
 refine R_k hg.ok rfl rfl ?_
 refine R_call hg.ok (clausesT_ok S0 hS h) rfl rfl rfl rfl rfl rfl ?_
 refine R_k hg.ok rfl rfl ?_
 by_cases he:e≠0
 ·rw [if_pos he]
  refine R_if rfl rfl (fun _=>?_) (fun h=>absurd h (by simp[he]))<;>refine R_k hg.ok rfl rfl ?_
  refine R_ret hg 5 rfl rfl ?_
  rfl
 rw[if_neg he]
 have he:e=0:=Decidable.not_not.1 he
 subst he
 obtain⟨_,hcn⟩:=f2 rfl
 refine R_if rfl rfl (fun h=>absurd h (by simp)) (fun _=>?_)<;>refine R_k hg.ok rfl rfl ?_
 refine R_ownB 1 0 6 rfl rfl rfl ?_
 refine R_loop (fun x:Nat × Nat × List Cs=>([(2,.lo 0 0),(8,.lo 1 0),(26,.d (.sl (clRows c))),(27,iV c.length),(28,iV x.1)],[.box [.d (.v (.slice none 0 0))],.box [.ow 2 x.2.1],.arr 6 x.2.1 (Cs.rows x.2.2)])) (fun x=>x.1≤c.length∧loadL c 0 []=loadL (c.drop x.1) x.1 x.2.2∧x.2.2.length≤x.1∧∀y∈x.2.2,SmC y) (fun x=>c.length - x.1) (0,0,[]) ⟨Nat.zero_le _,rfl,Nat.le_refl _,by simp⟩ ⟨.refl _,.refl _,.refl _,by rw[hrl];exact .refl _,.refl _,trivial⟩ rfl ?_
 rintro⟨k,s,out⟩ ⟨hk,hm,hol,hsm⟩
 have hm:loadL c 0 []=loadL (c.drop k) k out:=hm
 have hk:k≤c.length:=hk
 have hol:out.length≤k:=hol
 have hro:=Cs.rows_len out
 refine R_k hg.ok rfl rfl ?_
 refine R_if rfl rfl (fun h=>?_) (fun h=>?_)
 ·refine R_run hg.ok 1000 rfl rfl ?_
  have hk1:k<c.length:=lt_dec h rfl
  have e1:c[k]? = some c[k]:=List.getElem?_eq_getElem hk1
  have hmem:=List.getElem_mem hk1
  rw[List.drop_eq_getElem_cons hk1]at hm
  generalize c[k]=x at e1 hm hmem
  have hx:=hcn x hmem
  have hnc:=hc x hmem
  have hs:=smT_right hx.right
  have hsm1:=loadOne_sm hx hnc
  simp only[loadL]at hm
  refine R_index hg.ok rfl rfl rfl rfl rfl rfl (Int.natCast_nonneg _) (clRows_get e1) rfl ?_
  refine R_k hg.ok rfl rfl ?_
  refine R_call hg.ok (signOf_ok x.1) rfl rfl rfl rfl rfl rfl ?_
  refine R_k hg.ok rfl rfl ?_
  refine R_eqK hg.ok (sgOf x.1) sgR signCmp rfl rfl rfl rfl ?_
  refine R_k hg.ok rfl rfl ?_
  refine R_cut1 (fun _:Unit=>([(2,.lo 0 0),(8,.lo 1 0),(9,iV k),(11,.lo 4 0),(12,iV (loadE x)),(26,.d (.sl (clRows c))),(27,iV c.length),(28,iV k)],[.box [.d (.v (.slice none 0 0))],.box [.ow 2 s],.arr 6 s (Cs.rows out),clB x,csB (loadOne x).1])) (fun _=>True) rfl ?_ ?_
  ·by_cases hq:sgOf x.1=sgR
   ·have hl:x.1.l.length=2:=sg_len (n:=2) hq
    have hl0:0<x.1.l.length:=by omega
    have hl1:1<x.1.l.length:=by omega
    rw[show loadE x=(goalsT (argT x.1 1)).2 by unfold loadE;rw[if_pos hq],show (loadOne x).1=⟨argT x.1 0,(goalsT (argT x.1 1)).1,x.2.length⟩ by unfold loadOne;rw[if_pos hq]]
    refine R_if rfl rfl (fun _=>?_) (fun h=>absurd h (by simp[hq]))<;>refine R_k hg.ok rfl rfl ?_
    refine R_index hg.ok rfl rfl rfl rfl rfl rfl (by decide) (Tm.rows_get (i:=0) (argT_get hl0)) rfl ?_
    refine R_k hg.ok rfl rfl ?_
    refine R_index hg.ok rfl rfl rfl rfl rfl rfl (by decide) (Tm.rows_get (i:=1) (argT_get hl1)) rfl ?_
    refine R_k hg.ok rfl rfl ?_
    refine R_call hg.ok (goals_ok (argT x.1 1) (hs.arg hl1) (noCh_arg hnc hl1)) rfl rfl rfl rfl rfl rfl ?_
    refine R_k hg.ok rfl rfl ?_
    rw[strRows_len]
    exact R_to () trivial ⟨.refl _,.refl _,.refl _,.refl _,.refl _,.refl _,.refl _,.refl _,trivial⟩ rfl
   ·rw [show loadE x=0 by unfold loadE; rw [if_neg hq],show (loadOne x).1=⟨x.1,[],x.2.length⟩ by unfold loadOne; rw [if_neg hq]]
    refine R_if rfl rfl (fun h=>absurd h (by simp[hq])) (fun _=>?_)<;>refine R_k hg.ok rfl rfl ?_
    rw[strRows_len]
    refine R_obs [.box [.d (.v (.slice none 0 0))],.box [.ow 2 s],.arr 6 s (Cs.rows out),clB x,csB ⟨x.1,[],x.2.length⟩] (show ObsIn [.box [.d (.v (.slice none 0 0))],.box [.ow 2 s],.arr 6 s (Cs.rows out),clB x,.box [.d (.v (.int .i64 x.1.k)),.d (.v (.string x.1.s)),.d (.v (.int .i64 x.1.n)),.d (.sl (Tm.rows x.1.l)),.d (.v (.slice none 0 0)),.d (.v (.int .i64 x.2.length))]] _ from⟨⟨.refl _,trivial⟩,⟨.refl _,trivial⟩,rfl,⟨.refl _,.refl _,.refl _,.refl _,.refl _,trivial⟩,⟨.refl _,.refl _,.refl _,.refl _,Ent.nrm _,.refl _,trivial⟩,trivial⟩) rfl ?_
    exact R_to () trivial ⟨.refl _,.refl _,.refl _,.refl _,.refl _,.refl _,.refl _,.refl _,trivial⟩ rfl
  rintro _ _
  refine R_k hg.ok rfl rfl ?_
  have hown:=loadE_own x
  cases ho:ownB (loadOne x).1.head with
  |false =>
   have hc1:=own_ok11 (loadOne x).1.head
   rw[ho]at hc1 hown
   rw[if_neg (by simp)]at hown
   rw[hown,if_pos (by decide)]at hm
   refine R_call hg.ok (hc1) rfl rfl rfl rfl rfl rfl ?_
   refine R_k hg.ok rfl rfl ?_
   refine R_if rfl rfl (fun _=>?_) (fun h=>absurd h (by simp))<;>refine R_k hg.ok rfl rfl ?_
   refine R_if rfl rfl (fun _=>?_) (fun h=>absurd h (by simp))<;>refine R_k hg.ok rfl rfl ?_
   refine R_ret hg 5 rfl rfl ?_
   rw[hm];rfl
  |true =>
   have hc1:=own_ok11 (loadOne x).1.head
   rw[ho]at hc1 hown
   rw[if_pos rfl]at hown
   rw[hown]at hm
   refine R_call hg.ok (hc1) rfl rfl rfl rfl rfl rfl ?_
   refine R_k hg.ok rfl rfl ?_
   refine R_if rfl rfl (fun h=>absurd h (by simp)) (fun _=>?_)<;>refine R_k hg.ok rfl rfl ?_
   by_cases hle:loadE x≠0
   ·rw [if_pos hle] at hm
    refine R_if rfl rfl (fun _=>?_) (fun h=>absurd h (by simp[hle]))<;>refine R_k hg.ok rfl rfl ?_
    refine R_ret hg 5 rfl rfl ?_
    rw[hm];rfl
   ·rw [if_neg hle] at hm
    refine R_if rfl rfl (fun h=>absurd h (by simp at hle;simp[hle])) (fun _=>?_)<;>refine R_k hg.ok rfl rfl ?_
    refine R_appendO hg.ok (Cs.rows (out++[(loadOne x).1])) rfl rfl rfl rfl rfl rfl rfl rfl rfl (by simp) (by simp[one1]) (csRows_snoc _ _) (by rw[hro];simp;omega) (by rw[hro];simp;omega) ?_
    refine R_k hg.ok rfl rfl ?_
    refine R_dropO 3 [.box [.d (.v (.slice none 0 0))],.box [.ow 2 (Nat.succ s)],.arr 6 (Nat.succ s) (Cs.rows (out++[(loadOne x).1]))] (Nat.zero_le _) rfl rfl ?_
    exact R_next (k+1,Nat.succ s,out++[(loadOne x).1]) ⟨hk1,hm,by simp only[List.length_append,List.length_singleton];omega,fun y hy=>(List.mem_append.1 hy).elim (hsm y) (fun h=>by rw[List.mem_singleton.1 h];exact hsm1)⟩ (by simp only;omega) ⟨.refl _,.refl _,.refl _,.refl _,Ent.wrap (by simp only;omega) (by simp only;omega) (by simp only;omega),trivial⟩ rfl
 ·have hk1:c.length≤k:=ge_dec h rfl
  rw[List.drop_eq_nil_of_le hk1]at hm
  simp only[loadL]at hm
  refine R_freezeO hg.gup 2 [(2,.lo 0 0),(8,.lo 1 0),(29,.ff)] [.box [.d (.v (.slice none 0 0))],.box [.d (.sl (Cs.rows out))],.dead] rfl rfl ⟨.refl _,.refl _,.refl _,trivial⟩ ⟨⟨.refl _,trivial⟩,⟨Ent.frz 2 s _,trivial⟩,trivial,trivial⟩ ?_
  refine R_k hg.ok rfl rfl ?_
  refine R_call hg.ok (check_ok out hsm) rfl rfl rfl rfl rfl rfl ?_
  refine R_k hg.ok rfl rfl ?_
  by_cases hce:(checkR out).2≠0
  ·rw [if_pos hce] at hm
   refine R_if rfl rfl (fun _=>?_) (fun h=>absurd h (by simp[hce]))<;>refine R_k hg.ok rfl rfl ?_
   refine R_ret hg 5 rfl rfl ?_
   rw[hm];rfl
  ·rw [if_neg hce] at hm
   refine R_if rfl rfl (fun h=>absurd h (by simp at hce;simp[hce])) (fun _=>?_)<;>refine R_k hg.ok rfl rfl ?_
   refine R_ret hg 5 rfl rfl ?_
   rw[hm];rfl
end Go.Proofs.YtcgkgofmldhokaaGreat

namespace PSL
open Go
end PSL

namespace Go.Proofs.YtcgkgofmldhokaaGreat
open Go PSL Go.Proofs
end Go.Proofs.YtcgkgofmldhokaaGreat

namespace PSL
open Go
end PSL

namespace PSL
open Go
section
variable {B:Binds} {M:Nat}
end
end PSL

namespace PSL
open Go
namespace Tm

def walkT (B:Binds):Nat→Tm→Tm
 |0,t=>t
 |f+1,t=>if t.k=1 then (match findB B t.n with |some x=>walkT B f x |none=>t) else t
def walkB (B:Binds)(t:Tm):Tm:=walkT B (B.length+1) t

mutual
def lkT (g:Int→List Int→Bool × List Int):Tm→List Int→Bool × List Int
 |mk k _ n l,M=>if k=1 then g n M else lkTL g l M
def lkTL (g:Int→List Int→Bool × List Int):List Tm→List Int→Bool × List Int
 |[],M=>(false,M)
 |x::r,M=>if (lkT g x M).1 then (true,(lkT g x M).2) else lkTL g r (lkT g x M).2
end

def lkF (B:Binds) (v:Int):Nat→Int→List Int→Bool × List Int
 |0,n,M=>(decide (n=v),M)
 |u+1,n,M=>if n=v then (true,M) else match findB B n with
  |none=>(false,M)
  |some x=>if M.contains n then (false,M) else lkT (lkF B v u) x (M++[n])
def withB (B:Binds)(v:Int)(t:Tm):Bool:=(lkT (lkF B v (B.length+1)) t []).1
def clashB (x y:Tm):Bool:=decide (x.k≠y.k) || decide (x.n≠y.n) || !strEq x.s y.s || decide (x.l.length≠y.l.length)
end Tm
end PSL
namespace PSL
open Go
namespace Tm
end Tm
end PSL
namespace PSL
open Go
namespace Tm
end Tm
end PSL
namespace PSL
end PSL
namespace PSL
open Go
namespace Tm
end Tm
end PSL
namespace PSL
open Go
namespace Tm
def metU (x y:Tm)(met:List (Int × Int)):List (Int × Int):=if decide (x.k=1)&&decide (y.k=1) then met++[(x.n,y.n)] else met
def skipU (x y:Tm)(met:List (Int × Int)):Bool:=(decide (x.k=1)&&decide (y.k=1))&&met.contains (x.n,y.n)
section
variable {σ:Int→Tm} {B':Binds} {n:Nat} {R:List (Tm × Tm)} {x y:Tm} {B:Binds} {met:List (Int × Int)}
end
end Tm
end PSL

namespace PSL
open Go
namespace Tm
end Tm
namespace Tm
end Tm
end PSL

namespace PSL
open Go
namespace Tm
def pickU (sw:Bool)(x y:Tm):Tm × Tm:=if (sw || decide (x.k≠1))&&decide (y.k=1) then (y,x) else (x,y)
def sameV (x y:Tm):Prop:=x.k=1∧y.k=1∧x.n=y.n
def ordU (sw:Bool)(l m:List Tm):List (Tm × Tm):=if sw then l.zip m else (l.zip m).reverse

inductive URun (sw:Bool):Nat→List (Tm × Tm)→Binds→List (Int × Int)→Binds→Bool→Prop
 |done {n:Nat} {B:Binds} {met:List (Int × Int)}:URun sw n [] B met B true
 |skip {n:Nat} {x y:Tm} {R:List (Tm × Tm)} {B B':Binds} {met:List (Int × Int)} {ok:Bool} (hs:skipU x y met=true) (h:URun sw n R B met B' ok):URun sw (n+1) ((x,y)::R) B met B' ok
 |same {n:Nat} {x y:Tm} {R:List (Tm × Tm)} {B B':Binds} {met:List (Int × Int)} {ok:Bool} (hs:skipU x y met=false) (hv:sameV (walkB B x) (walkB B y)) (h:URun sw n R B (metU x y met) B' ok):URun sw (n+1) ((x,y)::R) B met B' ok
 |occ {n:Nat} {x y u w:Tm} {R:List (Tm × Tm)} {B:Binds} {met:List (Int × Int)} (hs:skipU x y met=false) (hv:¬ sameV (walkB B x) (walkB B y)) (hp:pickU sw (walkB B x) (walkB B y)=(u,w)) (hk:u.k=1) (hw:withB B u.n w=true):URun sw (n+1) ((x,y)::R) B met B false
 |bind {n:Nat} {x y u w:Tm} {R:List (Tm × Tm)} {B B':Binds} {met:List (Int × Int)} {ok:Bool} (hs:skipU x y met=false) (hv:¬ sameV (walkB B x) (walkB B y)) (hp:pickU sw (walkB B x) (walkB B y)=(u,w)) (hk:u.k=1) (hw:withB B u.n w=false) (h:URun sw n R (B++[(u.n,w)]) (metU x y met) B' ok):URun sw (n+1) ((x,y)::R) B met B' ok
 |clash {n:Nat} {x y:Tm} {R:List (Tm × Tm)} {B:Binds} {met:List (Int × Int)} (hs:skipU x y met=false) (hx:(walkB B x).k≠1) (hy:(walkB B y).k≠1) (hc:clashB (walkB B x) (walkB B y)=true):URun sw (n+1) ((x,y)::R) B met B false
 |args {n:Nat} {x y:Tm} {R:List (Tm × Tm)} {B B':Binds} {met:List (Int × Int)} {ok:Bool} (hs:skipU x y met=false) (hx:(walkB B x).k≠1) (hy:(walkB B y).k≠1) (hc:clashB (walkB B x) (walkB B y)=false) (h:URun sw n (ordU sw (walkB B x).l (walkB B y).l++R) B (metU x y met) B' ok):URun sw (n+1) ((x,y)::R) B met B' ok
section
variable {S:List Int} {N:Nat} {x y:Tm} {R:List (Tm × Tm)} {B:Binds}
end
end Tm
end PSL

namespace PSL
open Go
namespace Tm
end Tm
namespace Tm
end Tm
namespace Tm
end Tm
namespace Tm
abbrev Met:=List (Int × Int)
end Tm
namespace Tm
end Tm
end PSL

namespace PSL
open Go
namespace Tm
section
variable {S:List Int} {N:Nat} {a0:Tm} {n:Nat} {R T:List (Tm × Tm)} {x y:Tm} {B B':Binds} {met:Met} {ok:Bool}
end
end Tm
end PSL

namespace PSL
open Go
namespace Tm
end Tm
namespace Tm
end Tm
namespace Tm
end Tm
end PSL

namespace PSL
open Go
end PSL
namespace PSL
open Go
section
variable {ty:Nat→Option Ty} {T B:Nat} {n:Nat} {τ:Ty} {row:List D} {a:AV}
end
end PSL

namespace PSL
open Go

theorem occL_of {l:List Tm}{x:Tm}{v:Int}(hx:x∈l)(hv:v∈Tm.occ x):v∈Tm.occL l:=by
 induction l with
 |nil=>cases hx
 |cons y r ih =>
  rw[Tm.occL]
  rcases List.mem_cons.1 hx with rfl |hx
  ·exact List.mem_append_left _ hv
  ·exact List.mem_append_right _ (ih hx)
end PSL

namespace Go.Proofs.YtcgkgofmldhokaaGreat
open Go PSL Go.Proofs
def pfSom:Nat→Cls:=fun f=>bif Nat.beq f 28 then .look 0 else bif Nat.beq f 4900100001 then .turn 100 else bif Nat.beq f 4000000007 then .loadB else .still
def som14 (l:List Cs)(q:Cs):Bool:=somP (l++[q])&&decide ((l.length:Int)≤60)

theorem cs_six (l:List Cs):∀r∈Cs.rows l,r.length=6:=fun r hr=>by
 unfold Cs.rows at hr
 obtain⟨c,_,rfl⟩:=List.mem_map.1 hr;rfl

theorem refSome14_ok (l:List Cs)(q:Cs)(hok:∀c∈l,c.Ok)(hq:q.Ok)(hb:l.length * 88≤140737488351232):PCtr Tryz.prog 8 [prV l,q.av] (bV (som14 l q)):=by
 have hcl:=Cs.rows_len l
 have hall:∀c∈l++[q],c.Ok:=fun c hc=>by
  rcases List.mem_append.1 hc with hc |hc
  ·exact hok c hc
  ·rw[List.mem_singleton.1 hc];exact hq
 refine PCtr.of_R (pf:=pfSom) tyOk mixed Tryz.func8 rfl (by kernel_rfl) (by kernel_rfl) (by simp[Tryz.ntmps8]) fun w S hg=>?_
 refine R_k hg.ok rfl rfl ?_
 refine R_float hg.ok 8 _ rfl (by kernel_rfl) (by kernel_rfl) ?_
 intro m hm hB
 have h3:m=3∨m=6∨m=8:=by
  rcases hB with h |⟨y,h1,h2⟩
  ·exact .inr (.inr h)
  ·have:m=0∨m=1∨m=2∨m=3∨m=4∨m=5∨m=6∨m=7∨m=8:=by omega
   rcases this with rfl |rfl |rfl |rfl |rfl |rfl |rfl |rfl |rfl<;>first |(left;rfl) |(right;left;rfl) |(right;right;rfl) |(cases h1;exact absurd (h2.symm.trans (show _=false by kernel_rfl)) (by decide))
 clear hB hm
 rcases h3 with rfl |rfl |rfl
 ·refine R_run hg.ok 1000 rfl rfl ?_
  refine R_appendF hg.ok rfl rfl (.inl rfl) rfl (.inl rfl) rfl rfl rfl (by simp) (cs_six l) (by rw[hcl];simp;omega) (by rw[hcl];simp;omega) ?_
  refine R_k hg.ok rfl rfl ?_
  refine R_appendO hg.ok (Cs.rows (l++[q])) rfl rfl rfl rfl rfl rfl rfl rfl rfl (by simp) (by simp[one1]) (Cs.rows_snoc l q) (by simp[hcl];omega) (by simp[hcl];omega) ?_
  refine R_k hg.ok rfl rfl ?_
  refine R_callO hg.ok hg.gup (refSomeP_ok (l++[q]) hall (by simp;omega)) rfl rfl rfl rfl (mapO_cons (sealA_agg (mapO_cons (sealA_ow rfl) rfl)) rfl) rfl rfl ?_
  refine R_k hg.ok rfl rfl ?_
  unfold som14
  refine R_if rfl rfl (fun h=>?_) (fun h=>?_)<;>refine R_k hg.ok rfl rfl ?_
  ·refine R_ret hg 5 rfl rfl ?_
   rw[h,hcl];rfl
  ·refine R_ret hg 5 rfl rfl ?_
   rw[h];rfl
 ·refine R_run hg.ok 1000 rfl rfl ?_
  refine R_appendF hg.ok rfl rfl (.inl rfl) rfl (.inl rfl) rfl rfl rfl (by simp) (cs_six l) (by rw[hcl];simp;omega) (by rw[hcl];simp;omega) ?_
  refine R_k hg.ok rfl rfl ?_
  refine R_appendO hg.ok (Cs.rows (l++[q])) rfl rfl rfl rfl rfl rfl rfl rfl rfl (by simp) (by simp[one1]) (Cs.rows_snoc l q) (by simp[hcl];omega) (by simp[hcl];omega) ?_
  refine R_k hg.ok rfl rfl ?_
  refine R_callO hg.ok hg.gup (refSomeP_ok (l++[q]) hall (by simp;omega)) rfl rfl rfl rfl (mapO_cons (sealA_agg (mapO_cons (sealA_ow rfl) rfl)) rfl) rfl rfl ?_
  refine R_k hg.ok rfl rfl ?_
  unfold som14
  refine R_if rfl rfl (fun h=>?_) (fun h=>?_)<;>refine R_k hg.ok rfl rfl ?_
  ·refine R_ret hg 5 rfl rfl ?_
   rw[h,hcl];rfl
  ·refine R_ret hg 5 rfl rfl ?_
   rw[h];rfl
 ·refine R_run hg.ok 1000 rfl rfl ?_
  refine R_appendF hg.ok rfl rfl (.inl rfl) rfl (.inl rfl) rfl rfl rfl (by simp) (cs_six l) (by rw[hcl];simp;omega) (by rw[hcl];simp;omega) ?_
  refine R_k hg.ok rfl rfl ?_
  refine R_appendO hg.ok (Cs.rows (l++[q])) rfl rfl rfl rfl rfl rfl rfl rfl rfl (by simp) (by simp[one1]) (Cs.rows_snoc l q) (by simp[hcl];omega) (by simp[hcl];omega) ?_
  refine R_k hg.ok rfl rfl ?_
  refine R_callO hg.ok hg.gup (refSomeP_ok (l++[q]) hall (by simp;omega)) rfl rfl rfl rfl (mapO_cons (sealA_agg (mapO_cons (sealA_ow rfl) rfl)) rfl) rfl rfl ?_
  refine R_k hg.ok rfl rfl ?_
  unfold som14
  refine R_if rfl rfl (fun h=>?_) (fun h=>?_)<;>refine R_k hg.ok rfl rfl ?_
  ·refine R_ret hg 5 rfl rfl ?_
   rw[h,hcl];rfl
  ·refine R_ret hg 5 rfl rfl ?_
   rw[h];rfl

theorem som14_all {l:List Cs}{q:Cs}(h:som14 l q=true):Med (l++[q])∧l.length≤60:=by
 unfold som14 at h
 simp only[Bool.and_eq_true,decide_eq_true_eq]at h
 obtain⟨h1,h2⟩:=h
 obtain⟨a,b,c⟩:=somP_sm h1
 exact⟨⟨a,b,c⟩,by omega⟩
end Go.Proofs.YtcgkgofmldhokaaGreat
