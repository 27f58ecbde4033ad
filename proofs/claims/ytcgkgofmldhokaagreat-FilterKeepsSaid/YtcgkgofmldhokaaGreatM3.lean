import Derived.Test.YtcgkgofmldhokaaGreatM2
import Derived.Test.YtcgkgofmldhokaaGreatSTy
import Derived.Laws.StructEq
set_option maxRecDepth 100000
set_option maxHeartbeats 4000000
namespace Go.Proofs.YtcgkgofmldhokaaGreat
open Go PSL Go.Proofs
def namR (L:Bs)(kind:Int)(text:Bs)(i to:Nat):Tk × Nat × Bool:=(⟨kind,text,0,i,opnB L to⟩,to,namB text)

def nextR (L:Bs)(i:Nat)(c:UInt8):Tk × Nat × Bool :=
 if lowC c then namR L 1 (cutB L i (runB folC L i)) i (runB folC L i)
 else if grtC c then namR L 2 (cutB L i (runB folC L i)) i (runB folC L i)
 else if dgC c then (⟨3,cutB L i (runB dgC L i),(numP (cutB L i (runB dgC L i))).1,i,false⟩,runB dgC L i,(numP (cutB L i (runB dgC L i))).2)
 else if c.toNat=39 then ((namR L 1 (quoR L i).1 i (quoR L i).2.1).1,(quoR L i).2.1,(quoR L i).2.2&&namB (quoR L i).1)
 else if c.toNat=91∧(L[i+1]?.map UInt8.toNat)=some 93 then namR L 1 [91,93] i (i+2)
 else if c.toNat=33∨c.toNat=59 then namR L 1 [c] i (i+1)
 else if mrkC c then (⟨4,[c],0,i,false⟩,i+1,true)
 else if runB sgnC L i=i+1∧c.toNat=46∧endAft L (i+1) then (⟨5,[46],0,i,false⟩,i+1,true)
 else namR L 1 (cutB L i (runB sgnC L i)) i (runB sgnC L i)
def zTk:Ob:=.box [.d (.v (.int .i64 0)),.d (.v (.string ByteArray.empty)),.d (.v (.int .i64 0)),.d (.v (.int .i64 0)),.d (.v (.bool false))]
def pfNext:Nat→Cls:=fun f=>bif Nat.beq f 4000200002 then .turn 101 else bif Nat.beq f 4000100192 then .look 102 else .eff

theorem take_run (p:UInt8→Bool):∀l:Bs,l.take (l.takeWhile p).length=l.takeWhile p∧(l.takeWhile p).all p=true
 |[]=>by simp
 |c::l=>by
  by_cases h:p c=true
  ·obtain ⟨h1,h2⟩:=take_run p l
   rw[List.takeWhile_cons_of_pos h,List.length_cons,List.take_succ_cons,h1,List.all_cons,h,h2]
   exact⟨rfl,rfl⟩
  ·rw[List.takeWhile_cons_of_neg h];exact⟨rfl,rfl⟩

theorem run_all {p:UInt8→Bool}{L:Bs}{i:Nat}:(cutB L i (runB p L i)).all p=true:=by
 unfold cutB runB
 rw[Nat.add_sub_cancel_left,(take_run p (L.drop i)).1]
 exact(take_run p (L.drop i)).2

theorem enc_ascii {c:UInt8}(h:c.toNat<128):Utf8.encode (c.toNat:Int)=Tx [c]:=by
 unfold Utf8.encode
 have hv:Utf8.valid (c.toNat:Int)=true:=by simp[Utf8.valid];omega
 simp only[hv,if_true,Int.toNat_natCast]
 rw[if_pos (by omega)]
 simp[Tx]

theorem next_walk (Y:YP)(L:Bs)(i:Nat)(c:UInt8)(hc:L[i]? = some c)(hL:L.length≤9000):SCtr Tryz.prog Y 116 [.lo 0 0] (cutO L i) (.tup [tkA (nextR L i c).1,iV (nextR L i c).2.1,bV (nextR L i c).2.2]) (cutO L i):=by
 refine SCtr.of_R (pf:=pfNext) tyOk mixed Tryz.func116 rfl (by kernel_rfl) (by kernel_rfl) (by simp[Tryz.ntmps116]) (by simp[cutO]) fun w S φ hg=>?_
 have hφ:φ.length=1:=hg.hs0.len
 have hi:=(List.getElem?_eq_some_iff.1 hc).1
 have fin:∀ {t:Tk} {to:Nat} {b:Bool},nextR L i c=(t,to,b)→AV.tup [tkA t,iV to,bV b]=.tup [tkA (nextR L i c).1,iV (nextR L i c).2.1,bV (nextR L i c).2.2]:=fun h=>by rw[h]
 have hrun:=fun (p:UInt8→Bool)=>runB_le (p:=p) (L:=L) (i:=i) (by omega)
 refine R_k hg.ok rfl rfl ?_
 refine R_indexS hg.ok rfl rfl rfl rfl rfl (Int.natCast_nonneg i) (b:=c) (by rw[Tx_get];exact hc) ?_
 refine R_k hg.ok rfl rfl ?_
 refine R_call hg.ok (low_ok c) rfl rfl rfl rfl rfl rfl ?_
 refine R_k hg.ok rfl rfl ?_
 refine R_if rfl rfl (fun h1=>?_) (fun h1=>?_)<;>refine R_k hg.ok rfl rfl ?_
 ·have hr:=hrun folC
  have hcall:=run_walk Y 138 folC follows_ok L i i (by omega) hL
  generalize hto:runB folC L i=to at hr hcall
  refine R_callSO hg.ok hg.gup hg.wide hg.Y [0] (cutO L i++[zTk]) hcall (fun _=>rfl) rfl rfl rfl rfl rfl rfl rfl rfl ?_
  refine R_k hg.ok rfl rfl ?_
  refine R_call hg.ok (low_ok c) rfl rfl rfl rfl rfl rfl ?_
  refine R_k hg.ok rfl rfl ?_
  refine R_if rfl rfl (fun _=>?_) (fun h=>absurd h (by simp[h1]))<;>refine R_k hg.ok rfl rfl ?_
  refine R_sliceS hg.ok rfl rfl rfl (l:=(i:Int)) (h:=(to:Int)) rfl rfl rfl (Int.natCast_nonneg i) (by omega) (by rw[Tx_size];omega) ?_
  rw[Tx_cut,show (L.drop ((i:Int)).toNat).take (((to:Int)).toNat - ((i:Int)).toNat)=cutB L i to from rfl]
  refine R_k hg.ok rfl rfl ?_
  refine R_callSO hg.ok hg.gup hg.wide hg.Y [0] (cutO L i++[zTk]) (named_walk Y L i 1 (cutB L i to) to (by omega) hL (by omega)) (fun _=>rfl) rfl rfl rfl rfl rfl rfl rfl rfl ?_
  refine R_k hg.ok rfl rfl ?_
  refine R_storeJ hg.ok rfl rfl rfl rfl rfl rfl rfl rfl rfl ?_
  refine R_k hg.ok rfl rfl ?_
  rw[← fin (t:=⟨1,(cutB L i to),0,i,opnB L to⟩) (to:=to) (b:=namB (cutB L i to)) (by unfold nextR;rw[if_pos h1,hto];rfl)]
  exact R_retS hg 1 5 (Nat.le_refl _) rfl rfl rfl
 refine R_call hg.ok (great_ok c) rfl rfl rfl rfl rfl rfl ?_
 refine R_k hg.ok rfl rfl ?_
 refine R_if rfl rfl (fun h2=>?_) (fun h2=>?_)<;>refine R_k hg.ok rfl rfl ?_
 ·have hr:=hrun folC
  have hcall:=run_walk Y 138 folC follows_ok L i i (by omega) hL
  generalize hto:runB folC L i=to at hr hcall
  refine R_callSO hg.ok hg.gup hg.wide hg.Y [0] (cutO L i++[zTk]) hcall (fun _=>rfl) rfl rfl rfl rfl rfl rfl rfl rfl ?_
  refine R_k hg.ok rfl rfl ?_
  refine R_call hg.ok (low_ok c) rfl rfl rfl rfl rfl rfl ?_
  refine R_k hg.ok rfl rfl ?_
  refine R_if rfl rfl (fun h=>absurd h (by simp[h1])) (fun _=>?_)<;>refine R_k hg.ok rfl rfl ?_
  refine R_sliceS hg.ok rfl rfl rfl (l:=(i:Int)) (h:=(to:Int)) rfl rfl rfl (Int.natCast_nonneg i) (by omega) (by rw[Tx_size];omega) ?_
  rw[Tx_cut,show (L.drop ((i:Int)).toNat).take (((to:Int)).toNat - ((i:Int)).toNat)=cutB L i to from rfl]
  refine R_k hg.ok rfl rfl ?_
  refine R_callSO hg.ok hg.gup hg.wide hg.Y [0] (cutO L i++[zTk]) (named_walk Y L i 2 (cutB L i to) to (by omega) hL (by omega)) (fun _=>rfl) rfl rfl rfl rfl rfl rfl rfl rfl ?_
  refine R_k hg.ok rfl rfl ?_
  refine R_storeJ hg.ok rfl rfl rfl rfl rfl rfl rfl rfl rfl ?_
  refine R_k hg.ok rfl rfl ?_
  rw[← fin (t:=⟨2,(cutB L i to),0,i,opnB L to⟩) (to:=to) (b:=namB (cutB L i to)) (by unfold nextR;rw[if_neg (by rw[h1];simp),if_pos h2,hto];rfl)]
  exact R_retS hg 1 5 (Nat.le_refl _) rfl rfl rfl
 have n1:¬ lowC c=true:=by rw[h1];simp
 have n2:¬ grtC c=true:=by rw[h2];simp
 refine R_call hg.ok (digit_ok c) rfl rfl rfl rfl rfl rfl ?_
 refine R_k hg.ok rfl rfl ?_
 refine R_if rfl rfl (fun h3=>?_) (fun h3=>?_)<;>refine R_k hg.ok rfl rfl ?_
 ·have hr:=hrun dgC
  have hcall:=run_walk Y 140 dgC digit_ok L i i (by omega) hL
  generalize hto:runB dgC L i=to at hr hcall
  refine R_callSO hg.ok hg.gup hg.wide hg.Y [0] (cutO L i++[zTk]) hcall (fun _=>rfl) rfl rfl rfl rfl rfl rfl rfl rfl ?_
  refine R_k hg.ok rfl rfl ?_
  have hall:=run_all (p:=dgC) (L:=L) (i:=i)
  rw[hto]at hall
  have hcl:=cutB_len (L:=L) hr.1 hr.2
  refine R_sliceS hg.ok rfl rfl rfl (l:=(i:Int)) (h:=(to:Int)) rfl rfl rfl (Int.natCast_nonneg i) (by omega) (by rw[Tx_size];omega) ?_
  rw[Tx_cut,show (L.drop ((i:Int)).toNat).take (((to:Int)).toNat - ((i:Int)).toNat)=cutB L i to from rfl]
  refine R_k hg.ok rfl rfl ?_
  refine R_call hg.ok (number_ok (cutB L i to) hall (by omega)) rfl rfl rfl rfl rfl rfl ?_
  refine R_k hg.ok rfl rfl ?_
  refine R_sliceS hg.ok rfl rfl rfl (l:=(i:Int)) (h:=(to:Int)) rfl rfl rfl (Int.natCast_nonneg i) (by omega) (by rw[Tx_size];omega) ?_
  rw[Tx_cut,show (L.drop ((i:Int)).toNat).take (((to:Int)).toNat - ((i:Int)).toNat)=cutB L i to from rfl]
  refine R_k hg.ok rfl rfl ?_
  refine R_storeJ hg.ok rfl rfl rfl rfl rfl rfl rfl rfl rfl ?_
  refine R_k hg.ok rfl rfl ?_
  rw[← fin (t:=⟨3,cutB L i to,(numP (cutB L i to)).1,i,false⟩) (to:=to) (b:=(numP (cutB L i to)).2) (by unfold nextR;rw[if_neg n1,if_neg n2,if_pos h3,hto])]
  exact R_retS hg 1 5 (Nat.le_refl _) rfl rfl rfl
 have n3:¬ dgC c=true:=by rw[h3];simp
 refine R_if rfl rfl (fun h4=>?_) (fun h4=>?_)<;>refine R_k hg.ok rfl rfl ?_
 ·have h4:c.toNat=39:=by simp at h4; omega
  have hq:=quoted_walk Y L i hi hL
  have hqle:(quoR L i).2.1≤L.length:=by
   unfold quoR
   cases hqq:quo (L.drop (i+1)) with
   |none=>simp
   |some x=>have:=quo_len _ _ (Nat.le_refl _) x.1 x.2 hqq;rw[List.length_drop]at this;simp only;omega
  have hn:nextR L i c=(⟨1,(quoR L i).1,0,i,opnB L (quoR L i).2.1⟩,(quoR L i).2.1,(quoR L i).2.2&&namB (quoR L i).1):=by
   unfold nextR;rw[if_neg n1,if_neg n2,if_neg n3,if_pos h4];rfl
  generalize quoR L i=q at hq hqle hn
  obtain⟨text,to,ok⟩:=q
  simp only at hqle hn
  refine R_callSO hg.ok hg.gup hg.wide hg.Y [0] (cutO L i++[zTk]) hq (fun _=>rfl) rfl rfl rfl rfl rfl rfl rfl rfl ?_
  refine R_k hg.ok rfl rfl ?_
  refine R_callSO hg.ok hg.gup hg.wide hg.Y [0] (cutO L i++[zTk]) (named_walk Y L i 1 text to hqle hL (by omega)) (fun _=>rfl) rfl rfl rfl rfl rfl rfl rfl rfl ?_
  refine R_k hg.ok rfl rfl ?_
  refine R_if rfl rfl (fun h5=>?_) (fun h5=>?_)<;>refine R_k hg.ok rfl rfl ?_
  ·have h5:ok=true:=h5
   refine R_storeJ hg.ok rfl rfl rfl rfl rfl rfl rfl rfl rfl ?_
   refine R_k hg.ok rfl rfl ?_
   rw[← fin (t:=⟨1,text,0,i,opnB L to⟩) (to:=to) (b:=namB text) (by rw[hn,h5];simp)]
   exact R_retS hg 1 5 (Nat.le_refl _) rfl rfl rfl
  ·have h5:ok=false:=h5
   refine R_storeJ hg.ok rfl rfl rfl rfl rfl rfl rfl rfl rfl ?_
   refine R_k hg.ok rfl rfl ?_
   rw[← fin (t:=⟨1,text,0,i,opnB L to⟩) (to:=to) (b:=false) (by rw[hn,h5];simp)]
   exact R_retS hg 1 5 (Nat.le_refl _) rfl rfl rfl
 have n4:¬ c.toNat=39:=by simp at h4;omega
 by_cases h5:c.toNat=91∧(L[i+1]?.map UInt8.toNat)=some 93
 ·obtain⟨d,hd,hd93⟩:∃d,L[i+1]? = some d∧d.toNat=93:=by
   have:=h5.2
   cases hx:L[i+1]? with
   |none=>rw[hx]at this;simp at this
   |some d=>rw[hx]at this;exact⟨d,rfl,by simpa using this⟩
  have hi1:=(List.getElem?_eq_some_iff.1 hd).1
  refine R_if rfl rfl (fun _=>?_) (fun h=>absurd h (by simp;omega))<;>refine R_k hg.ok rfl rfl ?_
  rw[w64 (n:=(i:Int)+1) (by omega) (by omega),show (i:Int)+1=((i+1:Nat):Int) by omega]
  refine R_if rfl rfl (fun _=>?_) (fun h=>absurd h (by simp[Tx_size];omega))<;>refine R_k hg.ok rfl rfl ?_
  rw[w64 (n:=(i:Int)+1) (by omega) (by omega),show (i:Int)+1=((i+1:Nat):Int) by omega]
  refine R_indexS hg.ok rfl rfl rfl rfl rfl (Int.natCast_nonneg (i+1)) (b:=d) (by rw[Tx_get];exact hd) ?_
  refine R_k hg.ok rfl rfl ?_
  refine R_if rfl rfl (fun _=>?_) (fun h=>absurd h (by simp;omega))<;>refine R_k hg.ok rfl rfl ?_
  rw[w64 (n:=(i:Int)+2) (by omega) (by omega),show (i:Int)+2=((i+2:Nat):Int) by omega]
  refine R_callSO hg.ok hg.gup hg.wide hg.Y [0] (cutO L i++[zTk]) (named_walk Y L i 1 [91,93] (i+2) (by omega) hL (by omega)) (fun _=>rfl) rfl rfl rfl rfl rfl rfl rfl rfl ?_
  refine R_k hg.ok rfl rfl ?_
  refine R_storeJ hg.ok rfl rfl rfl rfl rfl rfl rfl rfl rfl ?_
  refine R_k hg.ok rfl rfl ?_
  rw[← fin (t:=⟨1,[91,93],0,i,opnB L (i+2)⟩) (to:=i+2) (b:=namB [91,93]) (by unfold nextR;rw[if_neg n1,if_neg n2,if_neg n3,if_neg n4,if_pos h5];rfl)]
  exact R_retS hg 1 5 (Nat.le_refl _) rfl rfl rfl
 have n5:=h5
 refine R_if rfl rfl (fun h6=>?_) (fun h6=>?_)<;>refine R_k hg.ok rfl rfl ?_
 ·have h6:c.toNat=91:=by simp at h6; omega
  have tail:mrkC c=true:=by have e:c=91:=UInt8.toNat_inj.1 h6;rw[e];decide
  rw[w64 (n:=(i:Int)+1) (by omega) (by omega),show (i:Int)+1=((i+1:Nat):Int) by omega]
  refine R_if rfl rfl (fun h7=>?_) (fun h7=>?_)<;>refine R_k hg.ok rfl rfl ?_
  ·have hi1:i+1<L.length:=lt_dec h7 (by rw [Tx_size])
   rw[w64 (n:=(i:Int)+1) (by omega) (by omega),show (i:Int)+1=((i+1:Nat):Int) by omega]
   refine R_indexS hg.ok rfl rfl rfl rfl rfl (Int.natCast_nonneg (i+1)) (b:=L[i+1]) (by rw[Tx_get];exact List.getElem?_eq_getElem hi1) ?_
   refine R_k hg.ok rfl rfl ?_
   refine R_if rfl rfl (fun h=>absurd h (by have h9:¬ L[i+1].toNat=93:=fun g=>n5 ⟨h6,by rw[List.getElem?_eq_getElem hi1];simpa using g⟩;simp;omega)) (fun _=>?_)<;>refine R_k hg.ok rfl rfl ?_
   refine R_if rfl rfl (fun h=>absurd h (by simp;omega)) (fun _=>?_)<;>refine R_k hg.ok rfl rfl ?_
   refine R_if rfl rfl (fun h=>absurd h (by simp;omega)) (fun _=>?_)<;>refine R_k hg.ok rfl rfl ?_
   refine R_call hg.ok (among_ok mrkL (by decide) c) rfl rfl rfl rfl rfl rfl ?_
   refine R_k hg.ok rfl rfl ?_
   refine R_if rfl rfl (fun _=>?_) (fun h=>absurd h (by rw[show mrkL.contains c=true from tail];simp))<;>refine R_k hg.ok rfl rfl ?_
   refine R_convB hg.ok (Tx [c]) rfl rfl rfl rfl rfl (enc_ascii (by omega)) ?_
   refine R_k hg.ok rfl rfl ?_
   refine R_loadJ hg.ok 101 (by simp[mayO,len]) rfl rfl rfl rfl rfl rfl rfl ?_
   refine R_k hg.ok rfl rfl ?_
   rw[w64 (n:=(i:Int)+1) (by omega) (by omega),show (i:Int)+1=((i+1:Nat):Int) by omega]
   refine R_storeJ hg.ok rfl rfl rfl rfl rfl rfl rfl rfl rfl ?_
   refine R_k hg.ok rfl rfl ?_
   rw[← fin (t:=⟨4,[c],0,i,false⟩) (to:=i+1) (b:=true) (by unfold nextR;rw[if_neg n1,if_neg n2,if_neg n3,if_neg n4,if_neg n5,if_neg (by omega),if_pos tail])]
   exact R_retS hg 1 5 (Nat.le_refl _) rfl rfl rfl
  ·have:=h7
   refine R_if rfl rfl (fun h=>absurd h (by simp;omega)) (fun _=>?_)<;>refine R_k hg.ok rfl rfl ?_
   refine R_if rfl rfl (fun h=>absurd h (by simp;omega)) (fun _=>?_)<;>refine R_k hg.ok rfl rfl ?_
   refine R_call hg.ok (among_ok mrkL (by decide) c) rfl rfl rfl rfl rfl rfl ?_
   refine R_k hg.ok rfl rfl ?_
   refine R_if rfl rfl (fun _=>?_) (fun h=>absurd h (by rw[show mrkL.contains c=true from tail];simp))<;>refine R_k hg.ok rfl rfl ?_
   refine R_convB hg.ok (Tx [c]) rfl rfl rfl rfl rfl (enc_ascii (by omega)) ?_
   refine R_k hg.ok rfl rfl ?_
   refine R_loadJ hg.ok 101 (by simp[mayO,len]) rfl rfl rfl rfl rfl rfl rfl ?_
   refine R_k hg.ok rfl rfl ?_
   rw[w64 (n:=(i:Int)+1) (by omega) (by omega),show (i:Int)+1=((i+1:Nat):Int) by omega]
   refine R_storeJ hg.ok rfl rfl rfl rfl rfl rfl rfl rfl rfl ?_
   refine R_k hg.ok rfl rfl ?_
   rw[← fin (t:=⟨4,[c],0,i,false⟩) (to:=i+1) (b:=true) (by unfold nextR;rw[if_neg n1,if_neg n2,if_neg n3,if_neg n4,if_neg n5,if_neg (by omega),if_pos tail])]
   exact R_retS hg 1 5 (Nat.le_refl _) rfl rfl rfl
 refine R_if rfl rfl (fun h8=>?_) (fun h8=>?_)<;>refine R_k hg.ok rfl rfl ?_
 ·have h8:c.toNat=33:=by simp at h8; omega
  refine R_convB hg.ok (Tx [c]) rfl rfl rfl rfl rfl (enc_ascii (by omega)) ?_
  refine R_k hg.ok rfl rfl ?_
  rw[w64 (n:=(i:Int)+1) (by omega) (by omega),show (i:Int)+1=((i+1:Nat):Int) by omega]
  refine R_callSO hg.ok hg.gup hg.wide hg.Y [0] (cutO L i++[zTk]) (named_walk Y L i 1 [c] (i+1) (by omega) hL (by omega)) (fun _=>rfl) rfl rfl rfl rfl rfl rfl rfl rfl ?_
  refine R_k hg.ok rfl rfl ?_
  refine R_storeJ hg.ok rfl rfl rfl rfl rfl rfl rfl rfl rfl ?_
  refine R_k hg.ok rfl rfl ?_
  rw[← fin (t:=⟨1,[c],0,i,opnB L (i+1)⟩) (to:=i+1) (b:=namB [c]) (by unfold nextR;rw[if_neg n1,if_neg n2,if_neg n3,if_neg n4,if_neg n5,if_pos (.inl h8)];rfl)]
  exact R_retS hg 1 5 (Nat.le_refl _) rfl rfl rfl
 refine R_if rfl rfl (fun h9=>?_) (fun h9=>?_)<;>refine R_k hg.ok rfl rfl ?_
 ·have h9:c.toNat=59:=by simp at h9; omega
  refine R_convB hg.ok (Tx [c]) rfl rfl rfl rfl rfl (enc_ascii (by omega)) ?_
  refine R_k hg.ok rfl rfl ?_
  rw[w64 (n:=(i:Int)+1) (by omega) (by omega),show (i:Int)+1=((i+1:Nat):Int) by omega]
  refine R_callSO hg.ok hg.gup hg.wide hg.Y [0] (cutO L i++[zTk]) (named_walk Y L i 1 [c] (i+1) (by omega) hL (by omega)) (fun _=>rfl) rfl rfl rfl rfl rfl rfl rfl rfl ?_
  refine R_k hg.ok rfl rfl ?_
  refine R_storeJ hg.ok rfl rfl rfl rfl rfl rfl rfl rfl rfl ?_
  refine R_k hg.ok rfl rfl ?_
  rw[← fin (t:=⟨1,[c],0,i,opnB L (i+1)⟩) (to:=i+1) (b:=namB [c]) (by unfold nextR;rw[if_neg n1,if_neg n2,if_neg n3,if_neg n4,if_neg n5,if_pos (.inr h9)];rfl)]
  exact R_retS hg 1 5 (Nat.le_refl _) rfl rfl rfl
 have n6:¬ (c.toNat=33∨c.toNat=59):=by simp at h8 h9;omega
 by_cases tail:mrkC c=true
 ·have h128:c.toNat<128:=by
   have:=byte_all (p:=fun c=>!mrkC c || decide (c.toNat<128)) (by decide +kernel) c
   simpa[tail]using this
  refine R_call hg.ok (among_ok mrkL (by decide) c) rfl rfl rfl rfl rfl rfl ?_
  refine R_k hg.ok rfl rfl ?_
  refine R_if rfl rfl (fun _=>?_) (fun h=>absurd h (by rw[show mrkL.contains c=true from tail];simp))<;>refine R_k hg.ok rfl rfl ?_
  refine R_convB hg.ok (Tx [c]) rfl rfl rfl rfl rfl (enc_ascii (h128)) ?_
  refine R_k hg.ok rfl rfl ?_
  refine R_loadJ hg.ok 101 (by simp[mayO,len]) rfl rfl rfl rfl rfl rfl rfl ?_
  refine R_k hg.ok rfl rfl ?_
  rw[w64 (n:=(i:Int)+1) (by omega) (by omega),show (i:Int)+1=((i+1:Nat):Int) by omega]
  refine R_storeJ hg.ok rfl rfl rfl rfl rfl rfl rfl rfl rfl ?_
  refine R_k hg.ok rfl rfl ?_
  rw[← fin (t:=⟨4,[c],0,i,false⟩) (to:=i+1) (b:=true) (by unfold nextR;rw[if_neg n1,if_neg n2,if_neg n3,if_neg n4,if_neg n5,if_neg (by omega),if_pos tail])]
  exact R_retS hg 1 5 (Nat.le_refl _) rfl rfl rfl
 have n7:=tail
 refine R_call hg.ok (among_ok mrkL (by decide) c) rfl rfl rfl rfl rfl rfl ?_
 refine R_k hg.ok rfl rfl ?_
 refine R_if rfl rfl (fun h=>absurd h (by rw[show mrkL.contains c=false from by simpa[mrkC]using n7];simp)) (fun _=>?_)<;>refine R_k hg.ok rfl rfl ?_
 have hr:=hrun sgnC
 have hcall:=run_walk Y 144 sgnC sign1_ok L i i (by omega) hL
 generalize hto:runB sgnC L i=to at hr hcall
 refine R_callSO hg.ok hg.gup hg.wide hg.Y [0] (cutO L i++[zTk]) hcall (fun _=>rfl) rfl rfl rfl rfl rfl rfl rfl rfl ?_
 refine R_k hg.ok rfl rfl ?_
 refine R_sliceS hg.ok rfl rfl rfl (l:=(i:Int)) (h:=(to:Int)) rfl rfl rfl (Int.natCast_nonneg i) (by omega) (by rw[Tx_size];omega) ?_
 rw[Tx_cut,show (L.drop ((i:Int)).toNat).take (((to:Int)).toNat - ((i:Int)).toNat)=cutB L i to from rfl]
 refine R_k hg.ok rfl rfl ?_
 have hlen:=cutB_len (L:=L) hr.1 hr.2
 have hcut:(cutB L i to==[46])=true↔to=i+1∧c.toNat=46:=by
  rw[beq_iff_eq]
  have hd:L.drop i=c::L.drop (i+1):=by rw[List.drop_eq_getElem_cons hi,(List.getElem?_eq_some_iff.1 hc).2]
  constructor
  ·intro h
   rw[h]at hlen
   have e:to=i+1:=by simp only[List.length_singleton]at hlen;omega
   rw[e,cutB,hd,Nat.add_sub_cancel_left]at h
   simp only[List.take_succ_cons,List.take_zero,List.cons.injEq,and_true]at h
   exact⟨e,by rw[h];rfl⟩
  ·rintro ⟨e,h⟩
   have h:c=46:=UInt8.toNat_inj.1 h
   rw[e,cutB,hd,Nat.add_sub_cancel_left,h];rfl
 have hdot:strEq (Tx (cutB L i to)) ⟨#[46]⟩=(cutB L i to==[46]):=Tx_eq _ _
 by_cases hE:to=i+1∧c.toNat=46
 ·have hb:=hcut.2 hE
  refine R_if rfl rfl (fun _=>?_) (fun h=>absurd h (by rw[hdot.trans hb];simp))<;>refine R_k hg.ok rfl rfl ?_
  obtain⟨rfl,h46⟩:=hE
  have hE:i+1=i+1∧c.toNat=46:=⟨rfl,h46⟩
  refine R_if rfl rfl (fun h10=>?_) (fun h10=>?_)<;>refine R_k hg.ok rfl rfl ?_
  ·have h10:L.length=i+1:=by simp [Tx_size] at h10; omega
   have ea:endAft L (i+1)=true:=by unfold endAft;rw[List.getElem?_eq_none (by omega)]
   refine R_storeJ hg.ok rfl rfl rfl rfl rfl rfl rfl rfl rfl ?_
   refine R_k hg.ok rfl rfl ?_
   rw[← fin (t:=⟨5,[46],0,i,false⟩) (to:=i+1) (b:=true) (by unfold nextR;rw[if_neg n1,if_neg n2,if_neg n3,if_neg n4,if_neg n5,if_neg n6,if_neg n7,if_pos ⟨by rw[hto],hE.2,ea⟩])]
   exact R_retS hg 1 5 (Nat.le_refl _) rfl rfl rfl
  ·have h10:i+1<L.length:=by simp [Tx_size] at h10; omega
   have e1:L[i+1]? = some L[i+1]:=List.getElem?_eq_getElem h10
   have ea:endAft L (i+1)=(blkC L[i+1] || decide (L[i+1].toNat=37)):=by unfold endAft;rw[e1]
   generalize L[i+1]=d at e1 ea
   refine R_indexS hg.ok rfl rfl rfl rfl rfl (Int.natCast_nonneg (i+1)) (b:=d) (by rw[Tx_get];exact e1) ?_
   refine R_k hg.ok rfl rfl ?_
   refine R_call hg.ok (blank_ok d) rfl rfl rfl rfl rfl rfl ?_
   refine R_k hg.ok rfl rfl ?_
   refine R_if rfl rfl (fun h11=>?_) (fun h11=>?_)<;>refine R_k hg.ok rfl rfl ?_
   ·refine R_storeJ hg.ok rfl rfl rfl rfl rfl rfl rfl rfl rfl ?_
    refine R_k hg.ok rfl rfl ?_
    rw[← fin (t:=⟨5,[46],0,i,false⟩) (to:=i+1) (b:=true) (by unfold nextR;rw[if_neg n1,if_neg n2,if_neg n3,if_neg n4,if_neg n5,if_neg n6,if_neg n7,if_pos ⟨by rw[hto],hE.2,by rw[ea,h11];simp⟩])]
    exact R_retS hg 1 5 (Nat.le_refl _) rfl rfl rfl
   ·refine R_indexS hg.ok rfl rfl rfl rfl rfl (Int.natCast_nonneg (i+1)) (b:=d) (by rw [Tx_get]; exact e1) ?_
    refine R_k hg.ok rfl rfl ?_
    refine R_if rfl rfl (fun h12=>?_) (fun h12=>?_)<;>refine R_k hg.ok rfl rfl ?_
    ·have h12:d.toNat=37:=by simp at h12; omega
     refine R_storeJ hg.ok rfl rfl rfl rfl rfl rfl rfl rfl rfl ?_
     refine R_k hg.ok rfl rfl ?_
     rw[← fin (t:=⟨5,[46],0,i,false⟩) (to:=i+1) (b:=true) (by unfold nextR;rw[if_neg n1,if_neg n2,if_neg n3,if_neg n4,if_neg n5,if_neg n6,if_neg n7,if_pos ⟨by rw[hto],hE.2,by rw[ea,h12];simp⟩])]
     exact R_retS hg 1 5 (Nat.le_refl _) rfl rfl rfl
    ·have h12:¬ d.toNat=37:=by simp at h12; omega
     have hno:endAft L (i+1)=false:=by rw[ea,h11];simp[h12]
     refine R_sliceS hg.ok rfl rfl rfl (l:=(i:Int)) (h:=((i+1:Nat):Int)) rfl rfl rfl (Int.natCast_nonneg i) (by omega) (by rw[Tx_size];omega) ?_
     rw[Tx_cut,show (L.drop ((i:Int)).toNat).take ((((i+1:Nat):Int)).toNat - ((i:Int)).toNat)=cutB L i (i+1) from rfl]
     refine R_k hg.ok rfl rfl ?_
     refine R_callSO hg.ok hg.gup hg.wide hg.Y [0] (cutO L i++[zTk]) (named_walk Y L i 1 (cutB L i (i+1)) (i+1) (by omega) hL (by omega)) (fun _=>rfl) rfl rfl rfl rfl rfl rfl rfl rfl ?_
     refine R_k hg.ok rfl rfl ?_
     refine R_storeJ hg.ok rfl rfl rfl rfl rfl rfl rfl rfl rfl ?_
     refine R_k hg.ok rfl rfl ?_
     rw[← fin (t:=⟨1,cutB L i (i+1),0,i,opnB L (i+1)⟩) (to:=i+1) (b:=namB (cutB L i (i+1))) (by unfold nextR;rw[if_neg n1,if_neg n2,if_neg n3,if_neg n4,if_neg n5,if_neg n6,if_neg n7,if_neg (by rw[hto];rintro⟨_,_,h⟩;rw[hno]at h;cases h),hto];rfl)]
     exact R_retS hg 1 5 (Nat.le_refl _) rfl rfl rfl
 ·have hb:(cutB L i to==[46])=false:=by
   rw[Bool.eq_false_iff];exact fun h=>hE (hcut.1 h)
  refine R_if rfl rfl (fun h=>absurd h (by rw[hdot.trans hb];simp)) (fun _=>?_)<;>refine R_k hg.ok rfl rfl ?_
  refine R_sliceS hg.ok rfl rfl rfl (l:=(i:Int)) (h:=(to:Int)) rfl rfl rfl (Int.natCast_nonneg i) (by omega) (by rw[Tx_size];omega) ?_
  rw[Tx_cut,show (L.drop ((i:Int)).toNat).take (((to:Int)).toNat - ((i:Int)).toNat)=cutB L i to from rfl]
  refine R_k hg.ok rfl rfl ?_
  refine R_callSO hg.ok hg.gup hg.wide hg.Y [0] (cutO L i++[zTk]) (named_walk Y L i 1 (cutB L i to) to (by omega) hL (by omega)) (fun _=>rfl) rfl rfl rfl rfl rfl rfl rfl rfl ?_
  refine R_k hg.ok rfl rfl ?_
  refine R_storeJ hg.ok rfl rfl rfl rfl rfl rfl rfl rfl rfl ?_
  refine R_k hg.ok rfl rfl ?_
  rw[← fin (t:=⟨1,cutB L i to,0,i,opnB L to⟩) (to:=to) (b:=namB (cutB L i to)) (by unfold nextR;rw[if_neg n1,if_neg n2,if_neg n3,if_neg n4,if_neg n5,if_neg n6,if_neg n7,if_neg (by rw[hto];rintro⟨h,h2,_⟩;exact hE ⟨h,h2⟩),hto];rfl)]
  exact R_retS hg 1 5 (Nat.le_refl _) rfl rfl rfl

theorem one_next {L:Bs}{i:Nat}{c:UInt8}(hc:L[i]? = some c):oneT L i=if (nextR L i c).2.2=true then some ((nextR L i c).1,(nextR L i c).2.1) else none:=by
 have nm:∀ (kind:Int) (text:Bs) (to:Nat),nameT L kind text i to=if (namR L kind text i to).2.2=true then some ((namR L kind text i to).1,(namR L kind text i to).2.1) else none:=fun kind text to=>by simp[nameT,namR,namB]
 unfold oneT nextR
 rw[hc]
 simp only
 split
 ·exact nm _ _ _
 split
 ·exact nm _ _ _
 split
 ·unfold numP
  cases numT (cutB L i (runB dgC L i)) with
  |none=>rfl
  |some n=>rfl
 split
 ·unfold quoR
  cases quo (L.drop (i+1)) with
  |none=>rfl
  |some x=>obtain⟨t,k⟩:=x;simp[nameT,namR,namB]
 split
 ·exact nm _ _ _
 split
 ·exact nm _ _ _
 split
 ·rfl
 split
 ·rfl
 ·exact nm _ _ _

def preE (out:List Tk):Except Nat (List Tk)→Except Nat (List Tk)
 | .ok l=>.ok (out++l)
 | .error j=>.error j

def toksP (f:Nat)(L:Bs)(i:Nat):Except Nat (List Tk):=if i<L.length then (match oneT L i with
   |none=>.error i
   |some (t,to)=>match toks f L to with
    | .ok l=>.ok (t::l)
    | .error j=>.error j) else .ok []
theorem toks_P (f:Nat)(L:Bs)(i:Nat):toks (f+1) L i=toksP f L (passN L i):=rfl

theorem preE_snoc (out:List Tk)(t:Tk)(e:Except Nat (List Tk)):preE (out++[t]) e=preE out (match e with
    | .ok l=>.ok (t::l)
    | .error j=>.error j):=by
 cases e with
 |ok l=>simp[preE]
 |error j=>rfl
def tkRows (l:List Tk):List (List D):=l.map tkD
theorem tkRows_len (l:List Tk):(tkRows l).length=l.length:=by simp[tkRows]
def tokR (L:Bs):AV:=.tup [.d (.sl (tkRows (tokT L).1)),iV (tokT L).2.1,iV (tokT L).2.2]

theorem tokR_ok {L:Bs}{l:List Tk}(hL:¬ 8000<L.length)(h:toks (L.length+1) L 0=.ok l):tokR L=.tup [.d (.sl (tkRows l)),iV 0,iV 0]:=by
 unfold tokR tokT;rw[if_neg hL,h]

theorem tokR_bad {L:Bs}{j:Nat}(hL:¬ 8000<L.length)(h:toks (L.length+1) L 0=.error j):tokR L=.tup [.d (.sl []),iV j,iV 2]:=by
 unfold tokR tokT;rw[if_neg hL,h];rfl

theorem tokens_ok (L:Bs)(hL:L.length≤9000):PCtr Tryz.prog 93 [txA L] (tokR L):=by
 refine PCtr.of_R (pf:=fun _=>.eff) tyOk mixed Tryz.func93 rfl (by kernel_rfl) (by kernel_rfl) (by simp[Tryz.ntmps93]) fun w S hg=>?_
 refine R_k hg.ok rfl rfl ?_
 refine R_if rfl rfl (fun h=>?_) (fun h=>?_)
 ·refine R_run hg.ok 1000 rfl rfl ?_
  have h:8000<L.length:=by have:=of_decide_eq_true h;rw[Tx_size]at this;omega
  refine R_ret hg 5 rfl rfl ?_
  unfold tokR tokT
  rw[if_pos h];rfl
 have hbig:¬ 8000<L.length:=by have:=of_decide_eq_false h;rw[Tx_size]at this;omega
 have hpass:=fun i=>pass_walk ⟨[],fun _=>true⟩ L i
 first
 |(refine R_run hg.ok 5 rfl rfl ?_;refine R_own 6 5 rfl rfl ?_)
 |(refine R_run hg.ok 6 rfl rfl ?_;refine R_own 6 5 rfl rfl ?_)
 |(refine R_run hg.ok 7 rfl rfl ?_;refine R_own 6 5 rfl rfl ?_)
 |(refine R_run hg.ok 8 rfl rfl ?_;refine R_own 6 5 rfl rfl ?_)
 |(refine R_run hg.ok 9 rfl rfl ?_;refine R_own 6 5 rfl rfl ?_)
 |(refine R_run hg.ok 10 rfl rfl ?_;refine R_own 6 5 rfl rfl ?_)
 |(refine R_run hg.ok 11 rfl rfl ?_;refine R_own 6 5 rfl rfl ?_)
 |(refine R_run hg.ok 12 rfl rfl ?_;refine R_own 6 5 rfl rfl ?_)
 |(refine R_run hg.ok 13 rfl rfl ?_;refine R_own 6 5 rfl rfl ?_)
 refine R_k hg.ok rfl rfl ?_
 refine R_callSO hg.ok hg.gup ⟨rfl,rfl⟩ (fun _ _ _ _ h=>by cases h) [0] (cutO L (passN L 0)++[.arr 5 0 []]) (hpass 0 (by omega) hL) (fun _=>rfl) rfl rfl rfl rfl rfl rfl rfl rfl ?_
 refine R_k hg.ok rfl rfl ?_
 have h0:toks (L.length+1) L 0=preE [] (toksP L.length L (passN L 0)):=by
  rw[toks_P];cases toksP L.length L (passN L 0)<;>rfl
 refine R_loop (fun x:Nat × Nat × List Tk=>([(0,txA L),(5,.lo 0 0),(6,.ow 1 x.2.2.length)],cutO L x.2.1++[.arr 5 x.2.2.length (tkRows x.2.2)])) (fun x=>x.2.1≤L.length∧L.length - x.2.1≤x.1∧x.2.2.length≤x.2.1∧toks (L.length+1) L 0=preE x.2.2 (toksP x.1 L x.2.1)) (fun x=>L.length - x.2.1) (L.length,passN L 0,[]) ⟨(pass_le (by omega)).2,by simp only;omega,Nat.zero_le _,h0⟩ ⟨.refl _,.refl _,.refl _,trivial⟩ rfl ?_
 rintro⟨f,i,out⟩ ⟨hi,hf,ho,hm⟩
 simp only at hi hf ho hm
 refine R_k hg.ok rfl rfl ?_
 refine R_if rfl rfl (fun h1=>?_) (fun h1=>?_)<;>refine R_k hg.ok rfl rfl ?_
 ·have h1:i<L.length:=lt_dec h1 (by rw [Tx_size])
  have hc:L[i]? = some L[i]:=List.getElem?_eq_getElem h1
  have hone:=one_next hc
  have hn:=next_walk ⟨[],fun _=>true⟩ L i L[i] hc hL
  have hP:toksP f L i=match oneT L i with
   |none=>.error i
   |some (t,to)=>match toks f L to with
    | .ok l=>.ok (t::l)
    | .error j=>.error j:=by unfold toksP;rw[if_pos h1]
  generalize nextR L i L[i]=q at hone hn
  obtain⟨t,to,ok⟩:=q
  simp only at hone
  refine R_callSO hg.ok hg.gup ⟨rfl,rfl⟩ (fun _ _ _ _ h=>by cases h) [0] (cutO L i++[.arr 5 out.length (tkRows out)]) hn (fun _=>rfl) rfl rfl rfl rfl rfl rfl rfl rfl ?_
  refine R_k hg.ok rfl rfl ?_
  refine R_if rfl rfl (fun h2=>?_) (fun h2=>?_)<;>refine R_k hg.ok rfl rfl ?_
  ·have h2:ok=false:=by simpa using h2
   rw[h2,if_neg (by simp)]at hone
   rw[hone]at hP
   refine R_ret hg 5 rfl rfl ?_
   rw[tokR_bad hbig (j:=i) (by rw[hm,hP];rfl)]
   rfl
  ·have h2:ok=true:=by simpa using h2
   rw[h2,if_pos rfl]at hone
   rw[hone]at hP
   have hto:=oneT_to hone
   simp only at hP
   have hf1:f=(f - 1)+1:=by omega
   rw[hf1,toks_P]at hP
   have hps:=pass_le (L:=L) (i:=to) hto.2
   refine R_appendO hg.ok (tkRows (out++[t])) rfl rfl rfl rfl rfl rfl rfl rfl rfl (by simp) (by simp[one1]) (by simp[tkRows,tkD]) (by rw[tkRows_len];simp;omega) (by rw[tkRows_len];simp;omega) ?_
   refine R_k hg.ok rfl rfl ?_
   refine R_callSO hg.ok hg.gup ⟨rfl,rfl⟩ (fun _ _ _ _ h=>by cases h) [0] (cutO L (passN L to)++[.arr 5 (out.length+1) (tkRows (out++[t])),.box [.d (.v (.int .i64 t.kind)),.d (.v (.string (Tx t.text))),.d (.v (.int .i64 t.n)),.d (.v (.int .i64 t.at_)),.d (.v (.bool t.opn))]]) (hpass to hto.2 hL) (fun _=>rfl) rfl rfl rfl rfl rfl rfl rfl rfl ?_
   refine R_k hg.ok rfl rfl ?_
   refine R_dropO 2 (cutO L (passN L to)++[.arr 5 (out.length+1) (tkRows (out++[t]))]) (Nat.zero_le _) rfl rfl ?_
   refine R_next (f - 1,passN L to,out++[t]) ⟨hps.2,by simp only;omega,by simp;omega,?_⟩ (by simp only;omega) ⟨.refl _,.refl _,by simp only[List.length_append,List.length_singleton];exact .refl _,trivial⟩ (by simp only[List.length_append,List.length_singleton])
   simp only
   rw[hm,preE_snoc,← hP,← hf1]
 ·have h1:L.length≤i:=ge_dec h1 (by rw [Tx_size])
  refine R_ret hg 5 rfl (sealA_tup (mapO_cons (sealA_ow rfl) rfl)) ?_
  rw[tokR_ok hbig (l:=out) (by rw[hm];unfold toksP;rw[if_neg (by omega)];simp[preE])]
  rfl
def strRows (l:List Bs):List (List D):=l.map fun s=>[.v (.string (Tx s))]
theorem strRows_len (l:List Bs):(strRows l).length=l.length:=by simp[strRows]
theorem strRows_get {l:List Bs}{i:Nat}{s:Bs}(h:l[i]? = some s):(strRows l)[i]? = some [.v (.string (Tx s))]:=by simp[strRows,h]
theorem strRows_snoc (l:List Bs)(s:Bs):strRows l++[[.v (.string (Tx s))]]=strRows (l++[s]):=by simp[strRows]

def opV (x:Int × Int × Int):Value:=.agg #[.int .i64 x.1,.int .i64 x.2.1,.int .i64 x.2.2]
def tabD:List (Value × D):=opTab.map fun p=>(.string (Tx p.1),.v (opV p.2))
def tblV (mk:Bool):AV:=if mk then .d (.map tabD) else .d (.v (.map none))

def robj (S:Bs)(L:List Tk)(st:RSt)(deep:Int)(dn lk:Int)(mk:Bool):List Ob :=
 [.box [.d (.v (.string (Tx S))),.d (.sl (tkRows L)),iV st.at_,.ow 1 st.names.length,iV deep,iV st.bad,iV st.e,.d (.v (.int .u32 dn)),.d (.v (.int .i32 lk)),.d (.v (.int .u32 0)),tblV mk],.arr 1 st.names.length (strRows st.names)]

theorem robj_map {f:AV→AV}(S:Bs)(L:List Tk)(st:RSt)(deep dn lk:Int)(mk:Bool)(h1:∀x,f (.d x)=.d x)(h2:f (.ow 1 st.names.length)=.ow 1 st.names.length):(robj S L st deep dn lk mk).map (mapOb f)=robj S L st deep dn lk mk:=by
 have h3:f (tblV mk)=tblV mk:=by unfold tblV;split<;>exact h1 _
 simp only[robj,List.map_cons,List.map_nil,mapOb,h2,h3,iV,h1]

theorem sealF_d (n0 n:Nat)(o:List Ob)(x:D):sealT false n0 o (n+1) (.d x)=.d x:=by
 unfold sealT
 split<;>first |rfl |(rename_i h;cases h;rfl) |(rename_i h;cases h)

theorem robj_keep (S:Bs)(L:List Tk)(st:RSt)(deep dn lk:Int)(mk:Bool)(n0:Nat)(o:List Ob)(hn:2≤n0):(robj S L st deep dn lk mk).map (mapOb (sealT false n0 o 5))=robj S L st deep dn lk mk :=
 robj_map S L st deep dn lk mk (fun x=>sealF_d n0 4 o x) (by
  show (bif Nat.ble (Nat.succ 1) n0 then _ else _)=_
  rw[show Nat.ble (Nat.succ 1) n0=true from Nat.ble_eq_true_of_le hn];rfl)

theorem robj_ren (S:Bs)(L:List Tk)(st:RSt)(deep dn lk:Int)(mk:Bool)(i j n:Nat)(l:List Nat):(robj S L st deep dn lk mk).map (renOb (rn (i::j::l) n))=[.box [.d (.v (.string (Tx S))),.d (.sl (tkRows L)),iV st.at_,.ow j st.names.length,iV deep,iV st.bad,iV st.e,.d (.v (.int .u32 dn)),.d (.v (.int .i32 lk)),.d (.v (.int .u32 0)),tblV mk],.arr 1 st.names.length (strRows st.names)]:=by
 have h3:renA (rn (i::j::l) n) (tblV mk)=tblV mk:=by unfold tblV;split<;>rfl
 simp only[robj,List.map_cons,List.map_nil,renOb,renL,h3];rfl

theorem atLoad (a:Addr)(x:Int)(w:World)(h:w.cell? a=some (.int .u32 x)):(callFunc 160 #[.pointer (some a)]).run Tryz.prog w=.ok (.value (.int .u32 x)) w :=
 run_call_load Tryz.func160 (by kernel_rfl) (by kernel_rfl) (by kernel_rfl) .u32 (by kernel_rfl) h
theorem raceOff (w:World):(callFunc 168 #[]).run Tryz.prog w=.ok (.value (.tuple #[])) w:=run_call_mark0 Tryz.func168 (by kernel_rfl) (by kernel_rfl) (by kernel_rfl) .disable (by kernel_rfl) w
theorem raceOn (w:World):(callFunc 170 #[]).run Tryz.prog w=.ok (.value (.tuple #[])) w:=run_call_mark0 Tryz.func170 (by kernel_rfl) (by kernel_rfl) (by kernel_rfl) .enable (by kernel_rfl) w
theorem raceAcq (a:Addr)(w:World):(callFunc 171 #[.pointer (some a)]).run Tryz.prog w=.ok (.value (.tuple #[])) w:=run_call_marked Tryz.func171 (by kernel_rfl) (by kernel_rfl) (by kernel_rfl) .acquire (by kernel_rfl) a w
theorem raceRel (a:Addr)(w:World):(callFunc 173 #[.pointer (some a)]).run Tryz.prog w=.ok (.value (.tuple #[])) w:=run_call_marked Tryz.func173 (by kernel_rfl) (by kernel_rfl) (by kernel_rfl) .releaseMerge (by kernel_rfl) a w

theorem atCas (a:Addr)(x y:Int)(w:World)(h:w.cell? a=some (.int .i32 x))(hz:w.frozen? a=false):(callFunc 169 #[.pointer (some a),.int .i32 x,.int .i32 y]).run Tryz.prog w=.ok (.value (.bool true)) (w.setCell a (.int .i32 y)) :=
 run_call_cas_hit Tryz.func169 (by kernel_rfl) (by kernel_rfl) (by kernel_rfl) .i32 (by kernel_rfl) h hz

theorem atStore (a:Addr)(u:Value)(y:Int)(w:World)(h:w.cell? a=some u)(hz:w.frozen? a=false):(callFunc 166 #[.pointer (some a),.int .u32 y]).run Tryz.prog w=.ok (.value (.tuple #[])) (w.setCell a (.int .u32 y)) :=
 run_call_store Tryz.func166 (by kernel_rfl) (by kernel_rfl) (by kernel_rfl) (by kernel_rfl) h hz

theorem atAdd (a:Addr)(w:World)(h:w.cell? a=some (.int .i32 1))(hz:w.frozen? a=false):(callFunc 174 #[.pointer (some a),.int .i32 (-1)]).run Tryz.prog w=.ok (.value (.int .i32 0)) (w.setCell a (.int .i32 0)) :=
 run_call_add Tryz.func174 (by kernel_rfl) (by kernel_rfl) (by kernel_rfl) .i32 (by kernel_rfl) h hz (by simp[go_sem];rfl)

theorem signEq (d:Nat)(p q:Sg)(w:World):(Op.equalIn (d+1+1) 135 (skV p) (skV q)).run Tryz.prog w=.ok (decide (p=q)) w:=by
 obtain⟨s,n⟩:=p
 obtain⟨s',n'⟩:=q
 unfold skV
 rw[run_equalIn_agg w (d+1) 135 _ _ (by rw[Program.fieldsOf,Tryz.underlying135]) Tryz.stoodInHeld135]
 rw[Program.fieldsOf,Tryz.underlying135]
 simp[Op.eqFields,part,run_equalIn_int _ _ _ _ _ _ _ Tryz.underlying3,run_equalIn_string _ _ _ _ _ Tryz.underlying9]
 by_cases h1:s=s'
 ·subst h1
  by_cases h2:n=n'<;>simp[h2]
 ·have h2:¬ s.toList=s'.toList:=fun e=>h1 (Tm.strEq_iff.1 (by simp [strEq,e]))
  simp[h1,h2]

theorem signCk (d:Nat)(b:Bool)(p:Sg)(w:World):(Instr.checkKey b (d+1+1) 135 (skV p)).run Tryz.prog w=.ok () w:=by
 simp[Instr.checkKey,skV,part,run_underlying Tryz.underlying135,run_underlying Tryz.underlying3,run_underlying Tryz.underlying9]
theorem signKey:SKey Tryz.prog 135:=⟨⟨_,Tryz.underlying135⟩,fun p q w=>signEq 9998 p q w,fun b p w=>signCk 9998 b p w⟩

theorem signCmp:SCmp Tryz.prog 135:=by
 constructor
 ·intro x y p q w
  have h:=signEq 9998 p q w
  unfold skV at h ⊢
  simp only[Sem.run_bind]
  rw[run_eqGuard_agg _ _ _ _ _ _ _ Tryz.eqGuardType135]
  simp only[Result.andThen_ok]
  rw[run_eql_struct,h]
  rfl
 ·intro x y p q w
  have h:=signEq 9998 p q w
  unfold skV at h ⊢
  simp only[Sem.run_bind]
  rw[run_eqGuard_agg _ _ _ _ _ _ _ Tryz.eqGuardType135]
  simp only[Result.andThen_ok]
  rw[run_neq_struct,h]
  rfl

theorem progTwo_ok:PCtr Tryz.prog 124 [] (.d (.sl (strRows twoL))):=by
 refine PCtr.of_R (pf:=fun _=>.still) tyOk mixed Tryz.func124 rfl (by kernel_rfl) (by kernel_rfl) (by simp[Tryz.ntmps124]) fun w S hg=>?_
 refine R_k hg.ok rfl rfl ?_
 refine R_ret hg 5 rfl rfl ?_
 rfl

theorem anyS_drop {l:List (Bs × Int)}{p:Sg}{k:Nat}{x:Bs × Int}(h:l[k]? = some x):anyS (l.drop k) p=(decide ((Tx x.1,x.2)=p) || anyS (l.drop (k+1)) p):=by
 obtain⟨hk,he⟩:=List.getElem?_eq_some_iff.1 h
 rw[List.drop_eq_getElem_cons hk,he];rfl
def sgRows (l:List (Bs × Int)):List (List D):=l.map fun x=>[.v (.string (Tx x.1)),.v (.int .i64 x.2)]
theorem sgRows_get {l:List (Bs × Int)}{i:Nat}{x:Bs × Int}(h:l[i]? = some x):(sgRows l)[i]? = some [.v (.string (Tx x.1)),.v (.int .i64 x.2)]:=by simp[sgRows,h]

theorem builtin_ok (p:Sg):PCtr Tryz.prog 99 [.d (.v (.string p.1)),.d (.v (.int .i64 p.2))] (bV (bltB p)):=by
 refine PCtr.of_R (pf:=fun _=>.eff) tyOk mixed Tryz.func99 rfl (by kernel_rfl) (by kernel_rfl) (by simp[Tryz.ntmps99]) fun w S hg=>?_
 refine R_k hg.ok rfl rfl ?_
 refine R_call hg.ok (progTwo_ok) rfl rfl rfl rfl rfl rfl ?_
 refine R_k hg.ok rfl rfl ?_
 refine R_cut2 (fun _:Unit=>([(0,.d (.v (.string p.1))),(1,.d (.v (.int .i64 p.2)))],[])) (fun _=>bltB p=anyS oneL p) rfl ?_ ?_
 ·refine R_loop (fun k:Nat=>([(0,.d (.v (.string p.1))),(1,.d (.v (.int .i64 p.2))),(9,.d (.sl (strRows twoL))),(10,iV 16),(11,iV k)],[])) (fun k=>k≤16∧bltB p=(anyS ((twoL.map fun s=>(s,2)).drop k) p || anyS oneL p)) (fun k=>16 - k) 0 ⟨Nat.zero_le _,rfl⟩ ⟨.refl _,.refl _,.refl _,.refl _,.refl _,trivial⟩ rfl ?_
  rintro k ⟨hk,hm⟩
  refine R_k hg.ok rfl rfl ?_
  refine R_if rfl rfl (fun h=>?_) (fun h=>?_)<;>refine R_k hg.ok rfl rfl ?_
  ·have hk1:k<twoL.length:=lt_dec h rfl
   have e1:twoL[k]? = some twoL[k]:=List.getElem?_eq_getElem hk1
   generalize twoL[k]=s at e1
   have hk2:k<16:=hk1
   have e2:(twoL.map fun s=>(s,(2:Int)))[k]? = some (s,2):=by rw[List.getElem?_map,e1];rfl
   rw[anyS_drop e2]at hm
   refine R_index hg.ok rfl rfl rfl rfl rfl rfl (Int.natCast_nonneg _) (strRows_get e1) rfl ?_
   refine R_k hg.ok rfl rfl ?_
   refine R_eqK hg.ok (Tx s,2) p signCmp rfl rfl rfl rfl ?_
   refine R_k hg.ok rfl rfl ?_
   refine R_if rfl rfl (fun h=>?_) (fun h=>?_)<;>refine R_k hg.ok rfl rfl ?_
   ·refine R_ret hg 5 rfl rfl ?_
    rw[hm,h];rfl
   ·exact R_next (k+1) ⟨hk1,by rw[hm,h,Bool.false_or]⟩ (by omega) ⟨.refl _,.refl _,.refl _,.refl _,Ent.wrap (by omega) (by omega) (by omega),trivial⟩ rfl
  ·have hk1:16≤k:=ge_dec h rfl
   refine R_to () ?_ ⟨.refl _,.refl _,trivial⟩ rfl
   rw[hm,List.drop_eq_nil_of_le (by simpa[twoL]using hk1)];rfl
 rintro _ hb
 refine R_k hg.ok rfl rfl ?_
 refine R_loop (fun k:Nat=>([(0,.d (.v (.string p.1))),(1,.d (.v (.int .i64 p.2))),(31,.d (.sl (sgRows oneL))),(32,iV 9),(33,iV k)],[])) (fun k=>k≤9∧bltB p=anyS ((oneL).drop k) p) (fun k=>9 - k) 0 ⟨Nat.zero_le _,hb⟩ ⟨.refl _,.refl _,.fs _,.refl _,.refl _,trivial⟩ rfl ?_
 rintro k ⟨hk,hm⟩
 refine R_k hg.ok rfl rfl ?_
 refine R_if rfl rfl (fun h=>?_) (fun h=>?_)<;>refine R_k hg.ok rfl rfl ?_
 ·have hk1:k<(oneL).length:=lt_dec h rfl
  have e1:(oneL)[k]? = some (oneL)[k]:=List.getElem?_eq_getElem hk1
  generalize (oneL)[k]=x at e1
  have hk2:k<9:=hk1
  rw[anyS_drop e1]at hm
  refine R_index hg.ok rfl rfl rfl rfl rfl rfl (Int.natCast_nonneg _) (sgRows_get e1) rfl ?_
  refine R_k hg.ok rfl rfl ?_
  refine R_eqK hg.ok (Tx x.1,x.2) p signCmp rfl rfl rfl rfl ?_
  refine R_k hg.ok rfl rfl ?_
  refine R_if rfl rfl (fun h=>?_) (fun h=>?_)<;>refine R_k hg.ok rfl rfl ?_
  ·refine R_ret hg 5 rfl rfl ?_
   rw[hm,h];rfl
  ·refine R_dropO 0 [] (Nat.zero_le _) rfl rfl ?_
   exact R_next (k+1) ⟨hk1,by rw[hm,h,Bool.false_or]⟩ (by omega) ⟨.refl _,.refl _,.refl _,.refl _,Ent.wrap (by omega) (by omega) (by omega),trivial⟩ rfl
 ·have hk1:(oneL).length≤k:=ge_dec h rfl
  refine R_ret hg 5 rfl rfl ?_
  rw[hm,List.drop_eq_nil_of_le hk1];rfl

theorem control_ok (p:Sg):PCtr Tryz.prog 100 [.d (.v (.string p.1)),.d (.v (.int .i64 p.2))] (bV (ctlB p)):=by
 refine PCtr.of_R (pf:=fun _=>.eff) tyOk mixed Tryz.func100 rfl (by kernel_rfl) (by kernel_rfl) (by simp[Tryz.ntmps100]) fun w S hg=>?_
 refine R_k hg.ok rfl rfl ?_
 refine R_loop (fun k:Nat=>([(0,.d (.v (.string p.1))),(1,.d (.v (.int .i64 p.2))),(16,.d (.sl (sgRows (ctlL p.2)))),(17,iV 8),(18,iV k)],[])) (fun k=>k≤8∧ctlB p=anyS ((ctlL p.2).drop k) p) (fun k=>8 - k) 0 ⟨Nat.zero_le _,rfl⟩ ⟨.refl _,.refl _,.fs _,.refl _,.refl _,trivial⟩ rfl ?_
 rintro k ⟨hk,hm⟩
 refine R_k hg.ok rfl rfl ?_
 refine R_if rfl rfl (fun h=>?_) (fun h=>?_)<;>refine R_k hg.ok rfl rfl ?_
 ·have hk1:k<(ctlL p.2).length:=lt_dec h rfl
  have e1:(ctlL p.2)[k]? = some (ctlL p.2)[k]:=List.getElem?_eq_getElem hk1
  generalize (ctlL p.2)[k]=x at e1
  have hk2:k<8:=hk1
  rw[anyS_drop e1]at hm
  refine R_index hg.ok rfl rfl rfl rfl rfl rfl (Int.natCast_nonneg _) (sgRows_get e1) rfl ?_
  refine R_k hg.ok rfl rfl ?_
  refine R_eqK hg.ok (Tx x.1,x.2) p signCmp rfl rfl rfl rfl ?_
  refine R_k hg.ok rfl rfl ?_
  refine R_if rfl rfl (fun h=>?_) (fun h=>?_)<;>refine R_k hg.ok rfl rfl ?_
  ·refine R_ret hg 5 rfl rfl ?_
   rw[hm,h];rfl
  ·refine R_dropO 0 [] (Nat.zero_le _) rfl rfl ?_
   exact R_next (k+1) ⟨hk1,by rw[hm,h,Bool.false_or]⟩ (by omega) ⟨.refl _,.refl _,.refl _,.refl _,Ent.wrap (by omega) (by omega) (by omega),trivial⟩ rfl
 ·have hk1:(ctlL p.2).length≤k:=ge_dec h rfl
  refine R_ret hg 5 rfl rfl ?_
  rw[hm,List.drop_eq_nil_of_le hk1];rfl

theorem signOf_ok (t:Tm):PCtr Tryz.prog 64 [t.av] (sgA (sgOf t)):=by
 refine PCtr.of_R (pf:=fun _=>.eff) tyOk mixed Tryz.func64 rfl (by kernel_rfl) (by kernel_rfl) (by simp[Tryz.ntmps64]) fun w S hg=>?_
 refine R_k hg.ok rfl rfl ?_
 refine R_ret hg 5 rfl rfl ?_
 unfold sgA sgOf
 rw[Tm.rows_length]

theorem builtinT_ok (t:Tm):PCtr Tryz.prog 99 [.d (.v (.string t.s)),.d (.v (.int .i64 ((Tm.rows t.l).length:Int)))] (bV (bltB (sgOf t))):=by
 rw[Tm.rows_length];exact builtin_ok (sgOf t)

theorem controlT_ok (t:Tm):PCtr Tryz.prog 100 [.d (.v (.string t.s)),.d (.v (.int .i64 ((Tm.rows t.l).length:Int)))] (bV (ctlB (sgOf t))):=by
 rw[Tm.rows_length];exact control_ok (sgOf t)

theorem own_ok11 (t:Tm):PCtr Tryz.prog 66 [t.av] (bV (ownB t)):=by
 refine PCtr.of_R (pf:=fun _=>.eff) tyOk mixed Tryz.func66 rfl (by kernel_rfl) (by kernel_rfl) (by simp[Tryz.ntmps66]) fun w S hg=>?_
 refine R_k hg.ok rfl rfl ?_
 refine R_if rfl rfl (fun h=>?_) (fun h=>?_)<;>refine R_k hg.ok rfl rfl ?_
 ·refine R_call hg.ok (builtinT_ok t) rfl rfl rfl rfl rfl rfl ?_
  refine R_k hg.ok rfl rfl ?_
  refine R_if rfl rfl (fun h2=>?_) (fun h2=>?_)<;>refine R_k hg.ok rfl rfl ?_
  ·refine R_call hg.ok (controlT_ok t) rfl rfl rfl rfl rfl rfl ?_
   refine R_k hg.ok rfl rfl ?_
   refine R_ret hg 5 rfl rfl ?_
   unfold ownB
   rw[h,h2];rfl
  ·refine R_ret hg 5 rfl rfl ?_
   unfold ownB
   rw[h,h2];rfl
 ·refine R_ret hg 5 rfl rfl ?_
  unfold ownB
  rw[h];rfl

theorem nothing_ok (t:Tm):PCtr Tryz.prog 128 [t.av] (bV (nothB t)):=by
 refine PCtr.of_R (pf:=fun _=>.eff) tyOk mixed Tryz.func128 rfl (by kernel_rfl) (by kernel_rfl) (by simp[Tryz.ntmps128]) fun w S hg=>?_
 refine R_k hg.ok rfl rfl ?_
 refine R_if rfl rfl (fun h1=>?_) (fun h1=>?_)<;>refine R_k hg.ok rfl rfl ?_
 ·refine R_if rfl rfl (fun h2=>?_) (fun h2=>?_) <;> refine R_run hg.ok 1000 rfl rfl ?_
  ·refine R_if rfl rfl (fun h3=>?_) (fun h3=>?_) <;> refine R_run hg.ok 1000 rfl rfl ?_
   ·refine R_ret hg 5 rfl rfl ?_
    unfold nothB
    rw[h1,h2,h3,Tm.rows_length]
    cases t.l<;>rfl
   ·refine R_ret hg 5 rfl rfl ?_
    unfold nothB
    rw[h1,h2,h3];rfl
  ·refine R_ret hg 5 rfl rfl ?_
   unfold nothB
   rw[h1,h2];rfl
 ·refine R_ret hg 5 rfl rfl ?_
  unfold nothB
  rw[h1];rfl

theorem refSize_ok (t:Tm):t.size<1000000000→PCtr Tryz.prog 48 [t.av] (iV t.size):=by
 induction t using Tm.ind with
 |_ t ih =>
 intro hsz
 refine PCtr.of_R (pf:=fun _=>.still) tyOk mixed Tryz.func48 rfl (by kernel_rfl) (by kernel_rfl) (by simp[Tryz.ntmps48]) fun w S hg=>?_
 refine R_k hg.ok rfl rfl ?_
 refine R_loop (fun x:Nat × Nat=>([(1,.lo 0 0),(3,iV x.2),(4,iV x.1)],[boxR t])) (fun x=>x.1≤t.l.length∧t.size=x.2+Tm.sizeL (t.l.drop x.1)) (fun x=>t.l.length - x.1) (0,1) ⟨Nat.zero_le _,Tm.size_eq t⟩ ⟨.refl _,.refl _,.refl _,trivial⟩ rfl ?_
 rintro⟨k,m⟩ ⟨hk,hm⟩
 simp only at hk hm
 have hl:=Tm.len_le_sizeL t.l
 have hs:=Tm.size_eq t
 refine R_k hg.ok rfl rfl ?_
 refine R_if rfl rfl (fun h=>?_) (fun h=>?_)<;>refine R_k hg.ok rfl rfl ?_
 ·have hk1:k<t.l.length:=lt_dec h (by rw [Tm.rows_length])
  have e1:t.l[k]? = some t.l[k]:=List.getElem?_eq_getElem hk1
  rw[List.drop_eq_getElem_cons hk1,Tm.sizeL]at hm
  refine R_index hg.ok rfl rfl rfl rfl rfl rfl (Int.natCast_nonneg k) (Tm.rows_get e1) rfl ?_
  refine R_k hg.ok rfl rfl ?_
  refine R_call hg.ok (ih _ (List.getElem_mem hk1) (by omega)) rfl rfl rfl rfl rfl rfl ?_
  refine R_k hg.ok rfl rfl ?_
  exact R_next (k+1,m+t.l[k].size) ⟨hk1,by simp only;omega⟩ (by simp only;omega) ⟨.refl _,Ent.wrap (by omega) (by omega) (by omega),Ent.wrap (by omega) (by omega) (by omega),trivial⟩ rfl
 ·have hk1:t.l.length≤k:=ge_dec h (by rw [Tm.rows_length])
  refine R_ret hg 5 rfl rfl ?_
  rw[List.drop_eq_nil_of_le hk1,Tm.sizeL]at hm
  simp only[hm,Nat.add_zero];rfl

theorem refDeep_ok (t:Tm):t.size<1000000000→PCtr Tryz.prog 49 [t.av] (iV t.depth):=by
 induction t using Tm.ind with
 |_ t ih =>
 intro hsz
 refine PCtr.of_R (pf:=fun _=>.still) tyOk mixed Tryz.func49 rfl (by kernel_rfl) (by kernel_rfl) (by simp[Tryz.ntmps49]) fun w S hg=>?_
 refine R_k hg.ok rfl rfl ?_
 refine R_loop (fun x:Nat × Nat=>([(1,.lo 0 0),(3,iV x.2),(4,iV x.1)],[boxR t])) (fun x=>x.1≤t.l.length∧Tm.depthL t.l=max x.2 (Tm.depthL (t.l.drop x.1))) (fun x=>t.l.length - x.1) (0,0) ⟨Nat.zero_le _,by simp⟩ ⟨.refl _,.refl _,.refl _,trivial⟩ rfl ?_
 rintro⟨k,m⟩ ⟨hk,hm⟩
 simp only at hk hm
 have hl:=Tm.len_le_sizeL t.l
 have hs:=Tm.size_eq t
 have hd:=Tm.depth_eq t
 have hds:=Tm.depth_le_size t
 refine R_k hg.ok rfl rfl ?_
 refine R_if rfl rfl (fun h=>?_) (fun h=>?_)<;>refine R_k hg.ok rfl rfl ?_
 ·have hk1:k<t.l.length:=lt_dec h (by rw [Tm.rows_length])
  have e1:t.l[k]? = some t.l[k]:=List.getElem?_eq_getElem hk1
  have hsm:=Tm.size_mem (List.getElem_mem hk1)
  rw[List.drop_eq_getElem_cons hk1,Tm.depthL]at hm
  refine R_index hg.ok rfl rfl rfl rfl rfl rfl (Int.natCast_nonneg k) (Tm.rows_get e1) rfl ?_
  refine R_k hg.ok rfl rfl ?_
  refine R_call hg.ok (ih _ (List.getElem_mem hk1) (by omega)) rfl rfl rfl rfl rfl rfl ?_
  refine R_k hg.ok rfl rfl ?_
  refine R_if rfl rfl (fun h=>?_) (fun h=>?_)<;>refine R_k hg.ok rfl rfl ?_
  ·have h:=of_decide_eq_true h
   exact R_next (k+1,t.l[k].depth) ⟨hk1,by simp only;omega⟩ (by simp only;omega) ⟨.refl _,.refl _,Ent.wrap (by omega) (by omega) (by omega),trivial⟩ rfl
  ·have h:=of_decide_eq_false h
   exact R_next (k+1,m) ⟨hk1,by simp only;omega⟩ (by simp only;omega) ⟨.refl _,.refl _,Ent.wrap (by omega) (by omega) (by omega),trivial⟩ rfl
 ·have hk1:t.l.length≤k:=ge_dec h (by rw [Tm.rows_length])
  refine R_ret hg 5 rfl rfl ?_
  rw[List.drop_eq_nil_of_le hk1,Tm.depthL]at hm
  rw[w64 (by omega) (by omega),hd,hm];simp[iV]

theorem refSame_ok (a:Tm):∀b,a.size<1000000000→PCtr Tryz.prog 129 [a.av,b.av] (bV (a.same b)):=by
 induction a using Tm.ind with
 |_ a ih =>
 intro b hsz
 refine PCtr.of_R (pf:=fun _=>.still) tyOk mixed Tryz.func129 rfl (by kernel_rfl) (by kernel_rfl) (by simp[Tryz.ntmps129]) fun w S hg=>?_
 refine R_k hg.ok rfl rfl ?_
 iterate 4
  refine R_if rfl rfl (fun _=>?_) (fun _=>?_)<;>refine R_k hg.ok rfl rfl ?_
  ·refine R_ret hg 5 rfl rfl ?_
   simp_all[Tm.same_eq,bV,Tm.rows_length]
   try exact Tm.sameL_len (by omega)
 refine R_loop (fun k:Nat=>([(2,.lo 0 0),(3,.lo 1 0),(5,iV k)],[boxR a,boxR b])) (fun k=>k≤a.l.length∧a.l.length=b.l.length∧a.same b=Tm.sameL (a.l.drop k) (b.l.drop k)) (fun k=>a.l.length - k) 0 ?_ ⟨.refl _,.refl _,.refl _,trivial⟩ rfl ?_
 ·simp_all [Tm.same_eq,Tm.rows_length]
  omega
 rintro k ⟨hk0,hl,hk⟩
 have hszl:=Tm.len_le_sizeL a.l
 have hsz2:=Tm.size_eq a
 refine R_k hg.ok rfl rfl ?_
 refine R_if rfl rfl (fun h=>?_) (fun h=>?_)<;>refine R_k hg.ok rfl rfl ?_
 ·have hk1:=lt_dec (n:=a.l.length) h (by rw [Tm.rows_length])
  have hk2:k<b.l.length:=by omega
  have e1:a.l[k]? = some a.l[k]:=List.getElem?_eq_getElem hk1
  have e2:b.l[k]? = some b.l[k]:=List.getElem?_eq_getElem hk2
  rw[List.drop_eq_getElem_cons hk1,List.drop_eq_getElem_cons hk2,Tm.sameL]at hk
  have hm:=Tm.size_mem (List.getElem_mem hk1)
  refine R_index hg.ok rfl rfl rfl rfl rfl rfl (Int.natCast_nonneg k) (Tm.rows_get e1) rfl ?_
  refine R_k hg.ok rfl rfl ?_
  refine R_index hg.ok rfl rfl rfl rfl rfl rfl (Int.natCast_nonneg k) (Tm.rows_get e2) rfl ?_
  refine R_k hg.ok rfl rfl ?_
  refine R_call hg.ok (ih _ (List.getElem_mem hk1) b.l[k] (by omega)) rfl rfl rfl rfl rfl rfl ?_
  refine R_k hg.ok rfl rfl ?_
  refine R_if rfl rfl (fun h=>?_) (fun h=>?_)<;>refine R_k hg.ok rfl rfl ?_
  ·refine R_ret hg 5 rfl rfl ?_
   rw[hk];simp_all[bV]
  ·refine R_next (k+1) ⟨hk1,hl,?_⟩ (by omega) ⟨.refl _,.refl _,Ent.wrap (by omega) (by omega) (by omega),trivial⟩ rfl
   rw[hk];simp_all
 ·refine R_ret hg 5 rfl rfl ?_
  have hk1:=ge_dec (n:=a.l.length) h (by rw[Tm.rows_length])
  rw[hk,List.drop_eq_nil_of_le (by omega),List.drop_eq_nil_of_le (by omega)];rfl

theorem fair_ok (t:Tm):t.size<1000000000→(∀x e,e∈t.els x→e.2.s.size<1000000000)→PCtr Tryz.prog 47 [t.av] (bV t.fairR):=by
 induction t using Tm.ind with
 |_ t ih =>
 intro hsz hns
 have hn0:t.s.size<1000000000:=hns 0 (0,t) (by rw[Tm.els_eq];simp)
 have hl:=Tm.len_le_sizeL t.l
 have hs:=Tm.size_eq t
 refine PCtr.of_R (pf:=fun _=>.still) tyOk mixed Tryz.func47 rfl (by kernel_rfl) (by kernel_rfl) (by simp[Tryz.ntmps47]) fun w S hg=>?_
 refine R_k hg.ok rfl rfl ?_
 refine R_loop (fun k:Nat=>([(1,.lo 0 0),(3,iV k)],[boxR t])) (fun k=>k≤t.s.size∧∀i (hi:i<t.s.size),i<k→byteOk t.s[i]=true) (fun k=>t.s.size - k) 0 ⟨Nat.zero_le _,fun i _ h=>absurd h (Nat.not_lt_zero _)⟩ ⟨.refl _,.refl _,trivial⟩ rfl ?_
 intro k hk
 refine R_k hg.ok rfl rfl ?_
 refine R_if rfl rfl (fun h=>?_) (fun h=>?_)<;>refine R_k hg.ok rfl rfl ?_
 ·have hk1:=lt_dec (n:=t.s.size) h rfl
  refine R_indexS hg.ok rfl rfl rfl rfl rfl (Int.natCast_nonneg k) (byte_atK hk1) ?_
  refine R_k hg.ok rfl rfl ?_
  have bad:byteOk t.s[k]=false→t.fairR=false:=fun h=>by rw[Tm.fairR_eq,not_all_bytes hk1 h];rfl
  refine R_if rfl rfl (fun h2=>?_) (fun h2=>?_)<;>refine R_k hg.ok rfl rfl ?_
  ·refine R_ret hg 5 rfl rfl ?_
   rw[bad (by unfold byteOk;rw[h2];rfl)];rfl
  refine R_indexS hg.ok rfl rfl rfl rfl rfl (Int.natCast_nonneg k) (byte_atK hk1) ?_
  refine R_k hg.ok rfl rfl ?_
  refine R_if rfl rfl (fun h3=>?_) (fun h3=>?_)<;>refine R_k hg.ok rfl rfl ?_
  ·refine R_ret hg 5 rfl rfl ?_
   rw[bad (by unfold byteOk;rw[h3];simp)];rfl
  refine R_next (k+1) ⟨hk1,fun i hi hik=>?_⟩ (by omega) ⟨.refl _,Ent.wrap (by omega) (by omega) (by omega),trivial⟩ rfl
  rcases Nat.lt_or_ge i k with h |h
  ·exact hk.2 i hi h
  ·have:i=k:=by omega
   subst this
   unfold byteOk;rw[h2,h3];rfl
 have hk1:=ge_dec (n:=t.s.size) h rfl
 have hall:t.s.data.toList.all byteOk=true:=all_bytes fun i hi=>hk.2 i hi (by omega)
 refine R_loop (fun k:Nat=>([(1,.lo 0 0),(4,iV k)],[boxR t])) (fun k=>k≤t.l.length∧Tm.fairRL t.l=Tm.fairRL (t.l.drop k)) (fun k=>t.l.length - k) 0 ⟨Nat.zero_le _,rfl⟩ ⟨.refl _,.refl _,trivial⟩ rfl ?_
 rintro k ⟨hk,hm⟩
 refine R_k hg.ok rfl rfl ?_
 refine R_if rfl rfl (fun h=>?_) (fun h=>?_)<;>refine R_k hg.ok rfl rfl ?_
 ·have hk1:k<t.l.length:=lt_dec h (by rw [Tm.rows_length])
  have e1:t.l[k]? = some t.l[k]:=List.getElem?_eq_getElem hk1
  have hsm:=Tm.size_mem (List.getElem_mem hk1)
  rw[List.drop_eq_getElem_cons hk1,Tm.fairRL]at hm
  refine R_index hg.ok rfl rfl rfl rfl rfl rfl (Int.natCast_nonneg k) (Tm.rows_get e1) rfl ?_
  refine R_k hg.ok rfl rfl ?_
  refine R_call hg.ok (ih _ (List.getElem_mem hk1) (by omega) (fun x e he=>hns (x - 1) e (by rw[Tm.els_eq];exact List.mem_cons_of_mem _ (Tm.els_memL (List.getElem_mem hk1) (by rw[Int.sub_add_cancel];exact he))))) rfl rfl rfl rfl rfl rfl ?_
  refine R_k hg.ok rfl rfl ?_
  refine R_if rfl rfl (fun h=>?_) (fun h=>?_)<;>refine R_k hg.ok rfl rfl ?_
  ·refine R_ret hg 5 rfl rfl ?_
   rw[Tm.fairR_eq,hm];simp_all[bV]
  ·refine R_next (k+1) ⟨hk1,?_⟩ (by omega) ⟨.refl _,Ent.wrap (by omega) (by omega) (by omega),trivial⟩ rfl
   rw[hm];simp_all
 have hk1:t.l.length≤k:=ge_dec h (by rw[Tm.rows_length])
 rw[List.drop_eq_nil_of_le hk1,Tm.fairRL]at hm
 iterate 12
  all_goals try (refine R_if rfl rfl (fun _=>?_) (fun _=>?_)<;>refine R_k hg.ok rfl rfl ?_)
 all_goals refine R_ret hg 5 rfl rfl ?_
 all_goals (rw[Tm.fairR_eq,hall,hm];unfold Tm.kindR)
 all_goals (simp only[Tm.rows_length,beq_iff_eq,beq_eq_false_iff_ne,ne_eq,decide_eq_true_eq,decide_eq_false_iff_not]at *)
 all_goals (simp_all[bV])
 all_goals (intros;omega)

theorem refRight_ok (t:Tm)(hsz:t.size<1000000000)(hns:∀x e,e∈t.els x→e.2.s.size<1000000000):PCtr Tryz.prog 18 [t.av] (bV t.rightB):=by
 refine PCtr.of_R (pf:=fun _=>.still) tyOk mixed Tryz.func18 rfl (by kernel_rfl) (by kernel_rfl) (by simp[Tryz.ntmps18]) fun w S hg=>?_
 refine R_k hg.ok rfl rfl ?_
 refine R_call hg.ok (fair_ok t hsz hns) rfl rfl rfl rfl rfl rfl ?_
 refine R_k hg.ok rfl rfl ?_
 refine R_if rfl rfl (fun _=>?_) (fun _=>?_)<;>refine R_k hg.ok rfl rfl ?_
 ·refine R_call hg.ok (refSize_ok t hsz) rfl rfl rfl rfl rfl rfl ?_
  refine R_k hg.ok rfl rfl ?_
  refine R_if rfl rfl (fun _=>?_) (fun _=>?_)<;>refine R_k hg.ok rfl rfl ?_
  ·refine R_call hg.ok (refDeep_ok t hsz) rfl rfl rfl rfl rfl rfl ?_
   refine R_k hg.ok rfl rfl ?_
   refine R_ret hg 5 rfl rfl ?_
   simp only[decide_eq_true_eq]at *
   unfold Tm.rightB
   show bV _=bV _
   congr 1
   rw[Bool.eq_iff_iff]
   simp_all
   omega
  ·refine R_ret hg 5 rfl rfl ?_
   simp only[decide_eq_false_iff_not]at *
   unfold Tm.rightB
   simp_all[bV]
   intros;omega
 ·refine R_ret hg 5 rfl rfl ?_
  unfold Tm.rightB
  simp_all[bV]

theorem few_ok (t:Tm):t.Ok→∀m d:Int,PCtr Tryz.prog 19 [t.av,iV m,iV d] (iV (t.few m d)):=by
 induction t using Tm.ind with
 |_ t ih =>
 intro hok m d
 refine PCtr.of_R (pf:=fun _=>.still) tyOk mixed Tryz.func19 rfl (by kernel_rfl) (by kernel_rfl) (by simp[Tryz.ntmps19]) fun w S hg=>?_
 refine R_k hg.ok rfl rfl ?_
 iterate 3
  refine R_if rfl rfl (fun _=>?_) (fun _=>?_)<;>refine R_k hg.ok rfl rfl ?_
  ·refine R_ret hg 5 rfl rfl ?_
   rw[Tm.few_eq,if_pos (by simp_all[Tm.fewStep])];rfl
 have hfs:Tm.fewStep t.s m d=false:=by simp_all[Tm.fewStep]
 have hlen:=hok.len
 refine R_loop (fun x:Nat × Int=>([(1,iV x.2),(2,iV d),(3,.lo 0 0),(7,iV x.1)],[boxR t])) (fun x=>x.1≤t.l.length∧t.few m d=Tm.fewL (t.l.drop x.1) x.2 (IntKind.i64.wrap (d - 1))) (fun x=>t.l.length - x.1) (0,IntKind.i64.wrap (m - 1)) ⟨Nat.zero_le _,by rw[Tm.few_eq,hfs];rfl⟩ ⟨.refl _,.refl _,.refl _,.refl _,trivial⟩ rfl ?_
 rintro⟨k,q⟩ ⟨hk,hm⟩
 simp only at hk hm
 refine R_k hg.ok rfl rfl ?_
 refine R_if rfl rfl (fun h=>?_) (fun h=>?_)<;>refine R_k hg.ok rfl rfl ?_
 ·have hk1:k<t.l.length:=lt_dec h (by rw [Tm.rows_length])
  have e1:t.l[k]? = some t.l[k]:=List.getElem?_eq_getElem hk1
  rw[List.drop_eq_getElem_cons hk1,Tm.fewL]at hm
  refine R_if rfl rfl (fun h2=>?_) (fun h2=>?_)<;>refine R_k hg.ok rfl rfl ?_
  ·rw [if_pos (of_decide_eq_true h2)] at hm
   refine R_index hg.ok rfl rfl rfl rfl rfl rfl (Int.natCast_nonneg k) (Tm.rows_get e1) rfl ?_
   refine R_k hg.ok rfl rfl ?_
   refine R_call hg.ok (ih _ (List.getElem_mem hk1) (hok.sub (List.getElem_mem hk1)) _ _) rfl rfl rfl rfl rfl rfl ?_
   refine R_k hg.ok rfl rfl ?_
   exact R_next (k+1,t.l[k].few q (IntKind.i64.wrap (d - 1))) ⟨hk1,hm⟩ (by simp only;omega) ⟨.refl _,.refl _,.refl _,Ent.wrap (by simp only;omega) (by simp only;omega) (by simp only;omega),trivial⟩ rfl
  ·rw [if_neg (of_decide_eq_false h2)] at hm
   refine R_ret hg 5 rfl rfl ?_
   rw[hm];rfl
 ·have hk1:t.l.length≤k:=ge_dec h (by rw [Tm.rows_length])
  refine R_ret hg 5 rfl rfl ?_
  rw[List.drop_eq_nil_of_le hk1,Tm.fewL]at hm
  rw[hm];rfl

theorem numbers_ok (a b:List Int)(ha:a.length<1000000000):PCtr Tryz.prog 27 [.d (.sl (irows a)),.d (.sl (irows b))] (bV (a==b)):=by
 refine PCtr.of_R (pf:=fun _=>.still) tyOk mixed Tryz.func27 rfl (by kernel_rfl) (by kernel_rfl) (by simp[Tryz.ntmps27]) fun w S hg=>?_
 refine R_k hg.ok rfl rfl ?_
 refine R_if rfl rfl (fun h=>?_) (fun h=>?_)<;>refine R_k hg.ok rfl rfl ?_
 ·refine R_ret hg 5 rfl rfl ?_
  have:(a==b)=false:=by
   simp only[irows_length,bne_iff_ne,ne_eq]at h
   rw[beq_eq_false_iff_ne];rintro rfl;exact h rfl
  rw[this];rfl
 have hl:a.length=b.length:=by simp only[irows_length,bne_eq_false_iff_eq]at h;omega
 refine R_loop (fun k:Nat=>([(0,.d (.sl (irows a))),(1,.d (.sl (irows b))),(5,iV k)],[])) (fun k=>k≤a.length∧(a==b)=((a.drop k)==(b.drop k))) (fun k=>a.length - k) 0 ⟨Nat.zero_le _,rfl⟩ ⟨.refl _,.refl _,.refl _,trivial⟩ rfl ?_
 rintro k ⟨hk,hm⟩
 refine R_k hg.ok rfl rfl ?_
 refine R_if rfl rfl (fun h=>?_) (fun h=>?_)<;>refine R_k hg.ok rfl rfl ?_
 ·have hk1:k<a.length:=lt_dec h (by rw [irows_length])
  have hk2:k<b.length:=by omega
  have e1:a[k]? = some a[k]:=List.getElem?_eq_getElem hk1
  have e2:b[k]? = some b[k]:=List.getElem?_eq_getElem hk2
  rw[List.drop_eq_getElem_cons hk1,List.drop_eq_getElem_cons hk2,List.cons_beq_cons]at hm
  refine R_index hg.ok rfl rfl rfl rfl rfl rfl (Int.natCast_nonneg k) (irows_get e1) rfl ?_
  refine R_k hg.ok rfl rfl ?_
  refine R_index hg.ok rfl rfl rfl rfl rfl rfl (Int.natCast_nonneg k) (irows_get e2) rfl ?_
  refine R_k hg.ok rfl rfl ?_
  refine R_if rfl rfl (fun h=>?_) (fun h=>?_)<;>refine R_k hg.ok rfl rfl ?_
  ·refine R_ret hg 5 rfl rfl ?_
   rw[hm];simp_all[bV]
  ·refine R_next (k+1) ⟨hk1,?_⟩ (by omega) ⟨.refl _,.refl _,Ent.wrap (by omega) (by omega) (by omega),trivial⟩ rfl
   rw[hm];simp_all
 ·have hk1:a.length≤k:=ge_dec h (by rw [irows_length])
  refine R_ret hg 5 rfl rfl ?_
  rw[hm,List.drop_eq_nil_of_le hk1,List.drop_eq_nil_of_le (by omega)];rfl

theorem at_ok (l:List Int)(n:Int)(ha:l.length<1000000000):PCtr Tryz.prog 46 [.d (.sl (irows l)),iV n] (iV (atI l n 0)):=by
 refine PCtr.of_R (pf:=fun _=>.still) tyOk mixed Tryz.func46 rfl (by kernel_rfl) (by kernel_rfl) (by simp[Tryz.ntmps46]) fun w S hg=>?_
 refine R_k hg.ok rfl rfl ?_
 refine R_loop (fun k:Nat=>([(0,.d (.sl (irows l))),(1,iV n),(5,iV k)],[])) (fun k=>k≤l.length∧atI l n 0=atI (l.drop k) n k) (fun k=>l.length - k) 0 ⟨Nat.zero_le _,rfl⟩ ⟨.refl _,.refl _,.refl _,trivial⟩ rfl ?_
 rintro k ⟨hk,hm⟩
 refine R_k hg.ok rfl rfl ?_
 refine R_if rfl rfl (fun h=>?_) (fun h=>?_)<;>refine R_k hg.ok rfl rfl ?_
 ·have hk1:k<l.length:=lt_dec h (by rw [irows_length])
  have e1:l[k]? = some l[k]:=List.getElem?_eq_getElem hk1
  rw[List.drop_eq_getElem_cons hk1,atI]at hm
  refine R_index hg.ok rfl rfl rfl rfl rfl rfl (Int.natCast_nonneg k) (irows_get e1) rfl ?_
  refine R_k hg.ok rfl rfl ?_
  refine R_if rfl rfl (fun h=>?_) (fun h=>?_)<;>refine R_k hg.ok rfl rfl ?_
  ·refine R_ret hg 5 rfl rfl ?_
   rw[hm,if_pos (by simpa using h)];rfl
  ·refine R_next (k+1) ⟨hk1,?_⟩ (by omega) ⟨.refl _,.refl _,Ent.wrap (by omega) (by omega) (by omega),trivial⟩ rfl
   rw[hm,if_neg (by simpa using h)];rfl
 ·have hk1:l.length≤k:=ge_dec h (by rw [irows_length])
  refine R_ret hg 5 rfl rfl ?_
  rw[hm,List.drop_eq_nil_of_le hk1];rfl
def vobjs (acc:List Int):List Ob:=[.map (imap (setI acc)),.box [.mp 0],.box [.ow 3 acc.length],.arr 1 acc.length (irows acc)]
def accN (acc:List Int)(t:Tm)(n:Nat):List Int:=((t.els 1).take n).foldl stepV acc
theorem vdrop (f:AV→AV)(h:f .tt=.tt)(a:List Int)(r:List Ob):mapOb f (.map (imap (setI a)))::r=.map (imap (setI a))::r:=by rw[mapOb_set h]
theorem setI_snoc (a:List Int)(n:Int):setI a++[(n,.tt)]=setI (a++[n]):=by simp[setI]
theorem irows_snoc (a:List Int)(n:Int):irows a++[[.v (.int .i64 n)]]=irows (a++[n]):=by simp[irows,irow]
theorem addV_len (l:List Int)(x:Int):(addV l x).length≤l.length+1:=by unfold addV;split<;>simp

theorem foldl_lenV:∀ (l:List (Int × Tm)) (a:List Int),(l.foldl stepV a).length≤a.length+l.length
 |[],a=>by simp
 |e::l,a=>by
  have:=foldl_lenV l (stepV a e)
  have h2:(stepV a e).length≤a.length+1:=by unfold stepV;split;exact addV_len _ _;omega
  simp only[List.foldl_cons,List.length_cons];omega
def varsF (a:List Int)(l:List Tm):List Int:=l.foldl (fun a t=>(t.els 1).foldl stepV a) a

theorem varsF_len:∀ (l:List Tm) (a:List Int),(varsF a l).length≤a.length+Tm.sizeL l
 |[],a=>by simp[varsF]
 |t::r,a=>by
  have:=varsF_len r ((t.els 1).foldl stepV a)
  have h:=foldl_lenV (t.els 1) a
  rw[Tm.els_len]at h
  simp only[varsF,List.foldl_cons,Tm.sizeL]at this ⊢;omega

theorem vars_ok (l:List Tm)(hsz:Tm.sizeL l<1000000000):PCtr Tryz.prog 70 [.d (.sl (Tm.rows l))] (.d (.sl (irows (varsT l)))):=by
 refine PCtr.of_R (pf:=fun _=>.eff) tyOk mixed Tryz.func70 rfl (by kernel_rfl) (by kernel_rfl) (by simp[Tryz.ntmps70]) fun w S hg=>?_
 refine R_k hg.ok rfl rfl ?_
 refine R_makeMap hg.ok rfl rfl ?_
 refine R_k hg.ok rfl rfl ?_
 refine R_ownB 2 0 1 rfl rfl rfl ?_
 refine R_loop (fun x:Nat × List Int=>([(3,.lo 1 0),(4,.lo 2 0),(10,.d (.sl (Tm.rows l))),(11,iV l.length),(12,iV x.1)],vobjs x.2)) (fun x=>x.1≤l.length∧varsT l=varsF x.2 (l.drop x.1)∧x.2.length+Tm.sizeL (l.drop x.1)≤Tm.sizeL l) (fun x=>l.length - x.1) (0,[]) ⟨Nat.zero_le _,rfl,by simp⟩ ⟨.refl _,.refl _,.refl _,Ent.int (by rw[Tm.rows_length]),.refl _,trivial⟩ rfl ?_
 rintro⟨k,acc⟩ ⟨hk,hm,hal⟩
 simp only at hk hm hal
 have hl:=Tm.len_le_sizeL l
 refine R_k hg.ok rfl rfl ?_
 refine R_if rfl rfl (fun h=>?_) (fun h=>?_)<;>refine R_k hg.ok rfl rfl ?_
 ·have hk1:k<l.length:=lt_dec h rfl
  have e1:l[k]? = some l[k]:=List.getElem?_eq_getElem hk1
  rw[List.drop_eq_getElem_cons hk1]at hm hal
  simp only[Tm.sizeL]at hal
  refine R_index hg.ok rfl rfl rfl rfl rfl rfl (Int.natCast_nonneg k) (Tm.rows_get e1) rfl ?_
  refine R_k hg.ok rfl rfl ?_
  refine R_call hg.ok (each_ok l[k]) rfl rfl rfl rfl rfl rfl ?_
  refine R_k hg.ok rfl rfl ?_
  generalize l[k]=t at *
  refine R_range hg.ok hg.gup ⟨rfl,rfl⟩ rfl (t.els 1) Tm.enc ⟨(t.els 1).map Tm.enc,fun _=>true⟩ rfl (fun n=>vobjs (accN acc t n)++[boxR t]) (fun _ _=>[(3,.lo 1 0),(4,.lo 2 0),(8,.lo 5 0)]) (fun n e=>vobjs (accN acc t n)++[boxR t,boxR e.2]) _ .ret rfl rfl rfl (each1_ok _ t (by omega) fun _ _ h=>els_ys h) rfl (fun _ _=>rfl) rfl ?_ ?_ ?_ rfl rfl (fun _ h=>by cases h)
  ·intro n x hx _ L w R0 X φ0 _ hamb
   refine R_run (gRound_ok hg.ok _ _ _ _ _ hamb) 1000 rfl rfl ?_
   exact R_finA ⟨.refl _,.refl _,.refl _,trivial⟩ rfl
  ·intro n x hx _ L w R0 X φ0 hφ0 hamb
   have hg':=gRound_ok hg.ok L w R0 X φ0 hamb
   have hn:=els_lt hx
   have hstep:accN acc t (n+1)=stepV (accN acc t n) x:=by unfold accN;rw[List.take_add_one,hx,List.foldl_append];rfl
   have hlen:(accN acc t n).length≤acc.length+n:=by
    have:=foldl_lenV ((t.els 1).take n) acc
    unfold accN;rw[List.length_take]at this;omega
   rw[hstep]
   generalize accN acc t n=a at *
   refine R_run hg' 1000 rfl rfl ?_
   refine R_if rfl rfl (fun h1=>?_) (fun h1=>?_)<;>refine R_run hg' 1000 rfl rfl ?_
   ·have hx1:x.2.k=1:=by simpa using h1
    by_cases hmem:a.contains x.2.n=true
    ·refine R_lookupI hg' (setI a) rfl rfl rfl rfl rfl rfl rfl (zv:=.bool false) (by kernel_rfl) (v:=.tt) (by rw [getI_set,if_pos hmem]; rfl) ?_
     refine R_run hg' 1000 rfl rfl ?_
     refine R_dropO 5 _ (by rw[show (gRound _ L w R0 X φ0).φ0=φ0 from rfl,hφ0];exact Nat.le_refl _) rfl (vdrop (trimA 5) rfl _ _) ?_
     exact R_finB rfl (by unfold stepV addV;rw[if_pos hx1,if_pos hmem];rfl)
    ·have hmem':a.contains x.2.n=false:=by simpa using hmem
     refine R_lookupI hg' (setI a) rfl rfl rfl rfl rfl rfl rfl (zv:=.bool false) (by kernel_rfl) (v:=.ff) (by rw[getI_set,hmem'];rfl) ?_
     refine R_run hg' 1000 rfl rfl ?_
     refine R_mapAddI hg' (setI a) rfl rfl rfl rfl rfl rfl rfl (by rw[getI_set,hmem'];rfl) ?_
     rw[show ∀E:Env,ev E (.const (.bool true))=.tt from fun _=>rfl,setI_snoc]
     refine R_run hg' 1000 rfl rfl ?_
     refine R_append hg' rfl rfl rfl rfl rfl rfl rfl rfl rfl (by simp) (by simp[one1]) (by simp[irows_length];omega) (by simp[irows_length];omega) ?_
     rw[irows_snoc]
     refine R_run hg' 1000 rfl rfl ?_
     refine R_dropO 5 _ (by rw[show (gRound _ L w R0 X φ0).φ0=φ0 from rfl,hφ0];exact Nat.le_refl _) rfl (vdrop (trimA 5) rfl _ _) ?_
     refine R_finB rfl ?_
     unfold stepV addV;rw[if_pos hx1,hmem']
     simp only[Bool.false_eq_true,if_false,vobjs,List.length_append,List.length_cons,List.length_nil];rfl
   ·have hx1:¬ x.2.k=1:=by simpa using h1
    refine R_dropO 5 _ (by rw[show (gRound _ L w R0 X φ0).φ0=φ0 from rfl,hφ0];exact Nat.le_refl _) rfl (vdrop (trimA 5) rfl _ _) ?_
    exact R_finB rfl (by unfold stepV;rw[if_neg hx1];rfl)
  ·intro _
   rw[adv_allT (fun _=>rfl)]
   refine R_k hg.ok rfl rfl ?_
   refine R_dropO 4 _ (Nat.zero_le _) rfl (vdrop (trimA 4) rfl _ _) ?_
   have hA:accN acc t (0+t.size)=(t.els 1).foldl stepV acc:=by unfold accN;rw[List.take_of_length_le (by rw[Tm.els_len];omega)]
   have hfl:=foldl_lenV (t.els 1) acc
   rw[Tm.els_len]at hfl
   rw[hA]
   refine R_next (k+1,(t.els 1).foldl stepV acc) ⟨hk1,hm,by simp only;omega⟩ (by simp only;omega) ⟨.refl _,.refl _,.refl _,.refl _,Ent.wrap (by simp only;omega) (by simp only;omega) (by simp only;omega),trivial⟩ rfl
 ·have hk1:l.length≤k:=ge_dec h rfl
  refine R_ret hg 5 rfl (sealA_ow rfl) ?_
  rw[hm,List.drop_eq_nil_of_le hk1];rfl
def plObjs (l:List Int):List Ob:=[.box [.mp 1],.map (imap (numM l 0))]

theorem getI_num:∀ (l:List Int) (n i:Int),0≤i→getI (numM l i) n=if atI l n i<0 then none else some (iV (atI l n i))
 |[],n,i,h=>rfl
 |x::l,n,i,h=>by
  have ih:=getI_num l n (i+1) (by omega)
  by_cases hx:x=n
  ·have e:atI (x::l) n i=i:=by simp [atI,hx]
   rw[e,if_neg (by omega)];simp[numM,getI,hx]
  ·have e:atI (x::l) n i=atI l n (i+1):=by simp [atI,hx]
   rw[e,← ih];simp[numM,getI,hx]

theorem turn_snoc {l:List Tm}{k:Nat}{x:Tm}{g:Int→Int}(h:l[k]? = some x):Tm.rows (Tm.turnTL g (l.take k))++[Tm.row (Tm.turnT g x)]=Tm.rows (Tm.turnTL g (l.take (k+1))):=by
 rw[List.take_add_one,h]
 simp[Tm.turnTL_map,Tm.rows_eq]

theorem number1_ok (Y:YP)(n:Int)(l:List Int):SCtr Tryz.prog Y 132 [iV n,.lo 0 0] (plObjs l) (iV (placeG l n)) (plObjs l):=by
 refine SCtr.of_R (pf:=fun _=>.eff) tyOk mixed Tryz.func132 rfl (by kernel_rfl) (by kernel_rfl) (by simp[Tryz.ntmps132]) (by simp[plObjs]) fun w S φ hg=>?_
 refine R_k hg.ok rfl rfl ?_
 refine R_lookupI hg.ok (numM l 0) rfl rfl rfl rfl rfl rfl rfl (zv:=.int .i64 0) (by kernel_rfl) (v:=iV (placeG l n)) (by rw[getI_num _ _ _ (Int.le_refl _)];unfold placeG;split<;>rfl) ?_
 refine R_k hg.ok rfl rfl ?_
 refine R_retS hg 2 5 (Nat.le_refl _) rfl rfl ?_
 show [Ob.box [AV.mp 1],mapOb _ (Ob.map (imap (numM l 0)))]=_
 rw[mapOb_num (fun _=>rfl)];rfl

theorem turnedN_ok (Y:YP)(vs:List Int)(t:Tm):t.size<1000000000→SCtr Tryz.prog Y 131 [t.av,.clo 132 [] [.lo 0 0]] (plObjs vs) (Tm.turnT (placeG vs) t).av (plObjs vs):=by
 induction t using Tm.ind with
 |_ t ih =>
 intro hsz
 have hl:=Tm.len_le_sizeL t.l
 have hs:=Tm.size_eq t
 refine SCtr.of_R (pf:=fun _=>.look 0) tyOk mixed Tryz.func131 rfl (by kernel_rfl) (by kernel_rfl) (by simp[Tryz.ntmps131]) (by simp[plObjs]) fun w S φ hg=>?_
 have hφ:φ.length≤2:=Nat.le_of_eq hg.hs0.len
 obtain⟨n',hn'⟩:∃n',n'=if t.k=1 then (placeG vs) t.n else t.n:=⟨_,rfl⟩
 refine R_k hg.ok rfl rfl ?_
 refine R_if rfl rfl (fun h=>?_) (fun h=>?_)<;>refine R_k hg.ok rfl rfl ?_
 ·have hkk:t.k=1:=by simpa using h
  rw[if_pos hkk]at hn'
  have hc:=number1_ok Y t.n vs
  rw[show iV _=iV n' from congrArg iV hn'.symm]at hc
  refine R_callSO hg.ok hg.gup hg.wide hg.Y [0,1] (([.box [.mp 1],.map (imap (numM vs 0))]:List Ob)++[boxR t,.box [.d (.v (.int .i64 0)),.d (.v (.string ByteArray.empty)),.d (.v (.int .i64 0)),.d (.v (.slice none 0 0))]]) hc (fun _=>rfl) rfl rfl rfl rfl rfl (some2 (renOb_num _ _)) rfl (cong2 (renOb_num _ _)) ?_
  refine R_k hg.ok rfl rfl ?_
  refine R_obs (([.box [.mp 1],.map (imap (numM vs 0))]:List Ob)++[.box [.d (.v (.int .i64 t.k)),.d (.v (.string t.s)),.d (.v (.int .i64 n')),.d (.v (.slice none 0 0))],.box [.d (.v (.int .i64 0)),.d (.v (.string ByteArray.empty)),.d (.v (.int .i64 0)),.d (.v (.slice none 0 0))]]) ?_ rfl ?_
  ·exact⟨ObIn.refl _,ObIn.refl _,⟨.refl _,.refl _,Ent.int (by first|rfl|exact hn'.symm),.refl _,trivial⟩,ObIn.refl _,trivial⟩
  refine R_ownB 2 3 4 rfl rfl rfl ?_
  refine R_loop (fun k:Nat=>([(1,.clo 132 [] [.lo 0 0]),(2,.lo 2 0),(4,.lo 3 0),(19,.d (.sl (Tm.rows t.l))),(20,iV t.l.length),(21,iV k)],([.box [.mp 1],.map (imap (numM vs 0))]:List Ob)++[.box [.d (.v (.int .i64 t.k)),.d (.v (.string t.s)),.d (.v (.int .i64 n')),.ow 4 k],.box [.d (.v (.int .i64 0)),.d (.v (.string ByteArray.empty)),.d (.v (.int .i64 0)),.d (.v (.slice none 0 0))],.arr 4 k (Tm.rows (Tm.turnTL (placeG vs) (t.l.take k)))]))
   (fun k=>k≤t.l.length) (fun k=>t.l.length - k) 0 (Nat.zero_le _) ⟨.refl _,.refl _,.refl _,.refl _,Ent.int (by rw[Tm.rows_length]),.refl _,trivial⟩ rfl ?_
  intro k hk
  refine R_k hg.ok rfl rfl ?_
  refine R_if rfl rfl (fun h=>?_) (fun h=>?_)<;>refine R_k hg.ok rfl rfl ?_
  ·have hk1:k<t.l.length:=lt_dec h rfl
   have e1:t.l[k]? = some t.l[k]:=List.getElem?_eq_getElem hk1
   have hm:=Tm.size_mem (List.getElem_mem hk1)
   refine R_index hg.ok rfl rfl rfl rfl rfl rfl (Int.natCast_nonneg k) (Tm.rows_get e1) rfl ?_
   refine R_k hg.ok rfl rfl ?_
   refine R_callL hg.ok hg.gup hg.wide hg.Y [0,1] (ih _ (List.getElem_mem hk1) (by omega)) (fun _=>rfl) rfl rfl rfl rfl rfl (some2 (renOb_num _ _)) rfl (cong2 (renOb_num _ _)) ?_
   refine R_k hg.ok rfl rfl ?_
   refine R_appendO hg.ok _ rfl rfl rfl rfl rfl rfl rfl rfl rfl (by simp) (by simp[one1]) (turn_snoc e1) (by rw[Tm.rows_length,Tm.turnTL_map];simp;omega) (by rw[Tm.rows_length,Tm.turnTL_map];simp;omega) ?_
   refine R_k hg.ok rfl rfl ?_
   refine R_dropO 5 _ (by show φ.length≤_;omega) rfl (cong2 (mapOb_num (fun _=>rfl) _ _)) ?_
   exact R_next (k+1) hk1 (by omega) ⟨.refl _,.refl _,.refl _,.refl _,.refl _,Ent.wrap (by omega) (by omega) (by omega),trivial⟩ rfl
  ·have hk1:t.l.length≤k:=ge_dec h rfl
   refine R_retS hg 2 5 (Nat.le_refl _) rfl ((sealT_term rfl rfl rfl rfl rfl).trans ?_) (cong2 (mapOb_num (fun _=>rfl) _ _))
   rw[List.take_of_length_le hk1,Tm.turnT_eq,if_pos hkk];subst hn';rfl
 ·have hkk:¬ t.k=1:=by simpa using h
  rw[if_neg hkk]at hn'
  refine R_obs (([.box [.mp 1],.map (imap (numM vs 0))]:List Ob)++[.box [.d (.v (.int .i64 t.k)),.d (.v (.string t.s)),.d (.v (.int .i64 n')),.d (.v (.slice none 0 0))],.box [.d (.v (.int .i64 0)),.d (.v (.string ByteArray.empty)),.d (.v (.int .i64 0)),.d (.v (.slice none 0 0))]]) ?_ rfl ?_
  ·exact⟨ObIn.refl _,ObIn.refl _,⟨.refl _,.refl _,Ent.int (by first|rfl|exact hn'.symm),.refl _,trivial⟩,ObIn.refl _,trivial⟩
  refine R_ownB 2 3 4 rfl rfl rfl ?_
  refine R_loop (fun k:Nat=>([(1,.clo 132 [] [.lo 0 0]),(2,.lo 2 0),(4,.lo 3 0),(19,.d (.sl (Tm.rows t.l))),(20,iV t.l.length),(21,iV k)],([.box [.mp 1],.map (imap (numM vs 0))]:List Ob)++[.box [.d (.v (.int .i64 t.k)),.d (.v (.string t.s)),.d (.v (.int .i64 n')),.ow 4 k],.box [.d (.v (.int .i64 0)),.d (.v (.string ByteArray.empty)),.d (.v (.int .i64 0)),.d (.v (.slice none 0 0))],.arr 4 k (Tm.rows (Tm.turnTL (placeG vs) (t.l.take k)))]))
   (fun k=>k≤t.l.length) (fun k=>t.l.length - k) 0 (Nat.zero_le _) ⟨.refl _,.refl _,.refl _,.refl _,Ent.int (by rw[Tm.rows_length]),.refl _,trivial⟩ rfl ?_
  intro k hk
  refine R_k hg.ok rfl rfl ?_
  refine R_if rfl rfl (fun h=>?_) (fun h=>?_)<;>refine R_k hg.ok rfl rfl ?_
  ·have hk1:k<t.l.length:=lt_dec h rfl
   have e1:t.l[k]? = some t.l[k]:=List.getElem?_eq_getElem hk1
   have hm:=Tm.size_mem (List.getElem_mem hk1)
   refine R_index hg.ok rfl rfl rfl rfl rfl rfl (Int.natCast_nonneg k) (Tm.rows_get e1) rfl ?_
   refine R_k hg.ok rfl rfl ?_
   refine R_callL hg.ok hg.gup hg.wide hg.Y [0,1] (ih _ (List.getElem_mem hk1) (by omega)) (fun _=>rfl) rfl rfl rfl rfl rfl (some2 (renOb_num _ _)) rfl (cong2 (renOb_num _ _)) ?_
   refine R_k hg.ok rfl rfl ?_
   refine R_appendO hg.ok _ rfl rfl rfl rfl rfl rfl rfl rfl rfl (by simp) (by simp[one1]) (turn_snoc e1) (by rw[Tm.rows_length,Tm.turnTL_map];simp;omega) (by rw[Tm.rows_length,Tm.turnTL_map];simp;omega) ?_
   refine R_k hg.ok rfl rfl ?_
   refine R_dropO 5 _ (by show φ.length≤_;omega) rfl (cong2 (mapOb_num (fun _=>rfl) _ _)) ?_
   exact R_next (k+1) hk1 (by omega) ⟨.refl _,.refl _,.refl _,.refl _,.refl _,Ent.wrap (by omega) (by omega) (by omega),trivial⟩ rfl
  ·have hk1:t.l.length≤k:=ge_dec h rfl
   refine R_retS hg 2 5 (Nat.le_refl _) rfl ((sealT_term rfl rfl rfl rfl rfl).trans ?_) (cong2 (mapOb_num (fun _=>rfl) _ _))
   rw[List.take_of_length_le hk1,Tm.turnT_eq,if_neg hkk];subst hn';rfl

theorem varsT_one_len (t:Tm):(varsT [t]).length≤t.size:=by
 have:=varsF_len [t] []
 simpa[varsF,varsT,Tm.sizeL]using this

theorem addV_nodup {l:List Int}{x:Int}(h:l.Nodup):(addV l x).Nodup:=by
 unfold addV
 split
 ·exact h
 ·rename_i hc
  rw[List.nodup_append]
  refine⟨h,by simp,fun a ha b hb=>?_⟩
  simp at hb;subst hb
  rintro rfl
  exact hc (by simpa using ha)

theorem foldl_nodup:∀ (l:List (Int × Tm)) (a:List Int),a.Nodup→(l.foldl stepV a).Nodup
 |[],a,h=>h
 |e::l,a,h=>by
  refine foldl_nodup l _ ?_
  unfold stepV;split
  ·exact addV_nodup h
  ·exact h

theorem varsF_nodup:∀ (l:List Tm) (a:List Int),a.Nodup→(varsF a l).Nodup
 |[],a,h=>h
 |t::l,a,h=>varsF_nodup l _ (foldl_nodup _ _ h)
theorem varsT_nodup (l:List Tm):(varsT l).Nodup:=varsF_nodup l [] (by simp)

theorem take_not_mem {l:List Int}(h:l.Nodup){k:Nat}(hk:k<l.length):l[k] ∉ l.take k:=by
 intro hm
 obtain⟨i,hi,e⟩:=List.mem_iff_getElem.1 hm
 rw[List.length_take]at hi
 rw[List.getElem_take]at e
 have:=(List.nodup_iff_pairwise_ne.1 h)
 rw[List.pairwise_iff_getElem]at this
 exact this i k (by omega) hk (by omega) e

theorem termNumber_ok (l:List Tm)(hsz:Tm.sizeL l<1000000000)(hns:∀t∈l,∀e∈t.els 1,e.2.s.size<1000000000):PCtr Tryz.prog 111 [.d (.sl (Tm.rows l))] (.tup [.d (.sl (Tm.rows (numberT l).1)),iV (numberT l).2.1,iV (numberT l).2.2]):=by
 have hl:=Tm.len_le_sizeL l
 have hvl:(varsT l).length≤Tm.sizeL l:=by have:=varsF_len l [];simpa[varsF,varsT]using this
 refine PCtr.of_R (pf:=fun _=>.look 0) tyOk mixed Tryz.func111 rfl (by kernel_rfl) (by kernel_rfl) (by simp[Tryz.ntmps111]) fun w S hg=>?_
 refine R_k hg.ok rfl rfl ?_
 refine R_loop (fun k:Nat=>([(0,.d (.sl (Tm.rows l))),(13,.d (.sl (Tm.rows l))),(14,iV l.length),(15,iV k)],[])) (fun k=>k≤l.length∧l.all rightT=(l.drop k).all rightT) (fun k=>l.length - k) 0 ⟨Nat.zero_le _,rfl⟩ ⟨.refl _,.refl _,Ent.int (by rw[Tm.rows_length]),.refl _,trivial⟩ rfl ?_
 rintro k ⟨hk,hm⟩
 refine R_k hg.ok rfl rfl ?_
 refine R_if rfl rfl (fun h=>?_) (fun h=>?_)<;>refine R_k hg.ok rfl rfl ?_
 ·have hk1:k<l.length:=lt_dec h rfl
  have e1:l[k]? = some l[k]:=List.getElem?_eq_getElem hk1
  have hsm:=Tm.size_mem (List.getElem_mem hk1)
  rw[List.drop_eq_getElem_cons hk1,List.all_cons]at hm
  refine R_index hg.ok rfl rfl rfl rfl rfl rfl (Int.natCast_nonneg k) (Tm.rows_get e1) rfl ?_
  refine R_k hg.ok rfl rfl ?_
  refine R_call hg.ok (right_ok l[k] (by omega) (hns _ (List.getElem_mem hk1))) rfl rfl rfl rfl rfl rfl ?_
  refine R_k hg.ok rfl rfl ?_
  refine R_if rfl rfl (fun h=>?_) (fun h=>?_)<;>refine R_k hg.ok rfl rfl ?_
  ·refine R_ret hg 5 rfl rfl ?_
   have h:rightT l[k]=false:=by simpa using h
   simp only[numberT,hm,h,Bool.false_and];rfl
  ·have h:rightT l[k]=true:=by simpa using h
   refine R_drop 0 (Nat.zero_le _) rfl ?_
   refine R_next (k+1) ⟨hk1,by rw[hm,h,Bool.true_and]⟩ (by omega) ⟨.refl _,.refl _,.refl _,Ent.wrap (by omega) (by omega) (by omega),trivial⟩ rfl
 have hk1:l.length≤k:=ge_dec h rfl
 rw[List.drop_eq_nil_of_le hk1,List.all_nil]at hm
 refine R_makeMap hg.ok rfl rfl ?_
 refine R_k hg.ok rfl rfl ?_
 refine R_call hg.ok (vars_ok l hsz) rfl rfl rfl rfl rfl rfl ?_
 refine R_k hg.ok rfl rfl ?_
 have hnd:=varsT_nodup l
 generalize hV:varsT l=V at *
 refine R_loop (fun k:Nat=>([(0,.d (.sl (Tm.rows l))),(7,.lo 1 0),(25,.d (.sl (irows V))),(26,iV V.length),(27,iV k)],[.map (imap (numM (V.take k) 0)),.box [.mp 0]])) (fun k=>k≤V.length) (fun k=>V.length - k) 0 (Nat.zero_le _) ⟨.refl _,.refl _,.refl _,Ent.int (by rw[irows_length]),.refl _,trivial⟩ rfl ?_
 intro k hk
 refine R_k hg.ok rfl rfl ?_
 refine R_if rfl rfl (fun h=>?_) (fun h=>?_)<;>refine R_k hg.ok rfl rfl ?_
 ·have hk1:k<V.length:=lt_dec h rfl
  have e1:V[k]? = some V[k]:=List.getElem?_eq_getElem hk1
  refine R_index hg.ok rfl rfl rfl rfl rfl rfl (Int.natCast_nonneg k) (irows_get e1) rfl ?_
  refine R_k hg.ok rfl rfl ?_
  refine R_mapAddO hg.ok (numM (V.take k) 0) (numM (V.take (k+1)) 0) rfl rfl rfl rfl rfl rfl rfl (by rw[getI_num _ _ _ (Int.le_refl _),atI_not_mem (take_not_mem hnd hk1)];rfl) rfl (by rw[List.take_add_one,e1,Option.toList_some,← numM_snoc,List.length_take,Nat.min_eq_left hk,Int.zero_add];rfl) ?_
  refine R_k hg.ok rfl rfl ?_
  exact R_next (k+1) hk1 (by omega) ⟨.refl _,.refl _,.refl _,.refl _,Ent.wrap (by omega) (by omega) (by omega),trivial⟩ rfl
 have hk1:V.length≤k:=ge_dec h rfl
 rw[List.take_of_length_le hk1]
 refine R_own 10 4 rfl rfl ?_
 refine R_loop (fun k:Nat=>([(7,.lo 1 0),(10,.ow 2 k),(36,.d (.sl (Tm.rows l))),(37,iV l.length),(38,iV k)],[.map (imap (numM V 0)),.box [.mp 0],.arr 4 k (Tm.rows (Tm.turnTL (placeG V) (l.take k)))])) (fun k=>k≤l.length) (fun k=>l.length - k) 0 (Nat.zero_le _) ⟨.refl _,.refl _,.refl _,Ent.int (by rw[Tm.rows_length]),.refl _,trivial⟩ rfl ?_
 intro k hk
 refine R_k hg.ok rfl rfl ?_
 refine R_if rfl rfl (fun h=>?_) (fun h=>?_)<;>refine R_k hg.ok rfl rfl ?_
 ·have hk1:k<l.length:=lt_dec h rfl
  have e1:l[k]? = some l[k]:=List.getElem?_eq_getElem hk1
  have hsm:=Tm.size_mem (List.getElem_mem hk1)
  refine R_index hg.ok rfl rfl rfl rfl rfl rfl (Int.natCast_nonneg k) (Tm.rows_get e1) rfl ?_
  refine R_k hg.ok rfl rfl ?_
  refine R_callL hg.ok hg.gup ⟨rfl,rfl⟩ (fun _ _ _ _ h=>by cases h) [1,0] (turnedN_ok ⟨[],fun _=>true⟩ V l[k] (by omega)) (fun _=>rfl) rfl rfl rfl rfl rfl (some2 (renOb_num _ _)) rfl (cong1 (renOb_num _ _)) ?_
  refine R_k hg.ok rfl rfl ?_
  refine R_appendO hg.ok _ rfl rfl rfl rfl rfl rfl rfl rfl rfl (by simp) (by simp[one1]) (turn_snoc e1) (by rw[Tm.rows_length,Tm.turnTL_map];simp;omega) (by rw[Tm.rows_length,Tm.turnTL_map];simp;omega) ?_
  refine R_k hg.ok rfl rfl ?_
  refine R_dropO 3 _ (Nat.zero_le _) rfl (cong1 (mapOb_num (fun _=>rfl) _ _)) ?_
  exact R_next (k+1) hk1 (by omega) ⟨.refl _,.refl _,.refl _,.refl _,Ent.wrap (by omega) (by omega) (by omega),trivial⟩ rfl
 ·have hk1:l.length≤k:=ge_dec h rfl
  refine R_ret hg 5 rfl (sealA_tup (mapO_cons (sealA_ow rfl) rfl)) ?_
  have hlen:(imap (numM V 0)).length=V.length:=by simp[imap,numM_len]
  simp only[numberT,hV,hm,if_true,List.take_of_length_le hk1,hlen];rfl
end Go.Proofs.YtcgkgofmldhokaaGreat

namespace PSL
open Go

theorem sg_dec (x:Bs)(c:Int)(s:ByteArray)(n:Int):decide ((Tx x,c)=(s,n))=(strEq s (Tx x)&&(n==c)):=by
 rw[Bool.eq_iff_iff]
 simp only[decide_eq_true_eq,Prod.mk.injEq,Bool.and_eq_true,beq_iff_eq,Tm.strEq_iff]
 exact⟨fun h=>⟨h.1.symm,h.2.symm⟩,fun h=>⟨h.1.symm,h.2.symm⟩⟩
def bltX (s:ByteArray)(n:Int):Bool:=((n==2)&&(strEq s ⟨#[61]⟩ || strEq s ⟨#[92,61]⟩ || strEq s ⟨#[61,61]⟩ || strEq s ⟨#[92,61,61]⟩ || strEq s ⟨#[64,60]⟩ || strEq s ⟨#[64,62]⟩ || strEq s ⟨#[64,61,60]⟩ || strEq s ⟨#[64,62,61]⟩ || strEq s ⟨#[105,115]⟩ || strEq s ⟨#[61,58,61]⟩ || strEq s ⟨#[61,92,61]⟩ || strEq s ⟨#[60]⟩ || strEq s ⟨#[62]⟩ || strEq s ⟨#[61,60]⟩ || strEq s ⟨#[62,61]⟩ || strEq s ⟨#[61,46,46]⟩)) || ((n==1)&&(strEq s ⟨#[118,97,114]⟩ || strEq s ⟨#[110,111,110,118,97,114]⟩ || strEq s ⟨#[97,116,111,109]⟩ || strEq s ⟨#[105,110,116,101,103,101,114]⟩ || strEq s ⟨#[119,114,105,116,101]⟩)) || ((n==0)&&(strEq s ⟨#[102,97,105,108]⟩ || strEq s ⟨#[110,108]⟩)) || ((n==3)&&(strEq s ⟨#[102,117,110,99,116,111,114]⟩ || strEq s ⟨#[97,114,103]⟩))
def ctlX (s:ByteArray)(n:Int):Bool:=strEq s ⟨#[63]⟩ || ((n==0)&&(strEq s ⟨#[116,114,117,101]⟩ || strEq s ⟨#[33]⟩)) || ((n==1)&&strEq s ⟨#[92,43]⟩) || ((n==2)&&(strEq s ⟨#[44]⟩ || strEq s ⟨#[59]⟩ || strEq s ⟨#[45,62]⟩ || strEq s ⟨#[58,45]⟩))

theorem bltX_eq (s:ByteArray)(n:Int):bltB (s,n)=bltX s n:=by
 unfold bltB bltX anyS
 simp only[twoL,oneL,List.map_cons,List.map_nil,List.any_cons,List.any_nil,sg_dec,Bool.or_false]
 simp only[Tx]
 generalize (n==2)=n2
 generalize (n==1)=n1
 generalize (n==0)=n0
 generalize (n==3)=n3
 cases n2<;>cases n1<;>cases n0<;>cases n3<;>(first |(simp[Bool.or_assoc];done) |(simp[Bool.or_assoc];ac_rfl))

theorem ctlX_eq (s:ByteArray)(n:Int):ctlB (s,n)=ctlX s n:=by
 unfold ctlB ctlX anyS
 simp only[ctlL,List.map_cons,List.map_nil,List.any_cons,List.any_nil,sg_dec,Bool.or_false,BEq.rfl,Bool.and_true]
 simp only[Tx]
 generalize (n==2)=n2
 generalize (n==1)=n1
 generalize (n==0)=n0
 generalize strEq s ⟨#[63]⟩=q
 cases n2<;>cases n1<;>cases n0<;>cases q<;>(first |(simp[Bool.or_assoc];done) |(simp[Bool.or_assoc];ac_rfl))
end PSL
namespace PSL
open Go

mutual
def allG (P:Tm→Prop):Gl→Prop
 | .mk _ t a b c=>P t∧allGL P a∧allGL P b∧allGL P c
def allGL (P:Tm→Prop):List Gl→Prop
 |[]=>True
 |g::r=>allG P g∧allGL P r
end
theorem allG_eq (P:Tm→Prop)(g:Gl):allG P g↔P g.t∧allGL P g.a∧allGL P g.b∧allGL P g.c:=by cases g;rw[allG];rfl

theorem allGL_mem {P:Tm→Prop}:∀ {l:List Gl},allGL P l→∀g∈l,P g.t∧allGL P g.a∧allGL P g.b∧allGL P g.c
 |[],_,g,h=>by cases h
 |x::r,h,g,hg=>by
  simp only[allGL]at h
  rcases List.mem_cons.1 hg with rfl |hg
  ·exact(allG_eq P g).1 h.1
  ·exact allGL_mem h.2 g hg

theorem allGL_of {P:Tm→Prop}:∀ {l:List Gl},(∀g∈l,P g.t∧allGL P g.a∧allGL P g.b∧allGL P g.c)→allGL P l
 |[],_=>by simp only[allGL]
 |x::r,h=>by
  simp only[allGL]
  exact⟨(allG_eq P x).2 (h x (by simp)),allGL_of fun g hg=>h g (by simp[hg])⟩

theorem chk_low (v:Int)(l:List Gl):∀ (left deep:Int) (cuts:Bool),left - Gl.sizeL l≤(chkL v l left deep cuts).2:=by
 refine Gl.indL (p:=fun l=>∀ (left deep:Int) (cuts:Bool),left - Gl.sizeL l≤(chkL v l left deep cuts).2) (fun l=>?_) l
 intro hsub
 induction l with
 |nil=>intro left deep cuts;simp[chkL,Gl.sizeL]
 |cons g r ih =>
  obtain⟨ga,gb,gc⟩:=hsub g (by simp)
  have ih:=ih fun x hx=>hsub x (by simp[hx])
  intro left deep cuts
  have h1:left - g.size≤(chk1 v g (left - 1) deep cuts).2:=by
   rw[chk1_eq,Gl.size_eq]
   have:=Gl.tmPos g.t
   split;· simp only;omega
   split;· simp only;omega
   split;· simp only;omega
   split
   ·split
    ·have a1:=ga (left - 1) (deep+1) false
     split
     ·have b1:=gb (chkL v g.a (left - 1) (deep+1) false).2 (deep+1) cuts
      split
      ·have c1:=gc (chkL v g.b (chkL v g.a (left - 1) (deep+1) false).2 (deep+1) cuts).2 (deep+1) cuts
       omega
      ·simp only;omega
     ·simp only;omega
    ·simp only;omega
   split
   ·split
    ·have a1:=ga (left - 1) (deep+1) false
     omega
    ·simp only;omega
   ·simp only;omega
  simp only[chkL,Gl.sizeL]
  split
  ·simp only;omega
  ·have:=ih (chk1 v g (left - 1) deep cuts).2 deep cuts
   omega

theorem chk1_low (v:Int)(g:Gl)(left deep:Int)(cuts:Bool):left+1 - g.size≤(chk1 v g left deep cuts).2∧(chk1 v g left deep cuts).2≤left:=by
 refine⟨?_,(both1 (bothL v g.a) (bothL v g.b) (bothL v g.c) left deep cuts).2.2⟩
 rw[chk1_eq,Gl.size_eq]
 have:=Gl.tmPos g.t
 split;· simp only;omega
 split;· simp only;omega
 split;· simp only;omega
 split
 ·split
  ·have a1:=chk_low v g.a left (deep+1) false
   split
   ·have b1:=chk_low v g.b (chkL v g.a left (deep+1) false).2 (deep+1) cuts
    split
    ·have c1:=chk_low v g.c (chkL v g.b (chkL v g.a left (deep+1) false).2 (deep+1) cuts).2 (deep+1) cuts
     omega
    ·simp only;omega
   ·simp only;omega
  ·simp only;omega
 split
 ·split
  ·have a1:=chk_low v g.a left (deep+1) false
   omega
  ·simp only;omega
 ·simp only;omega
end PSL
namespace PSL
open Go
def hasS (ks:List Sg)(p:Sg):Bool:=ks.any fun q=>decide (q=p)
def addS (ks:List Sg)(p:Sg):List Sg:=if hasS ks p then ks else ks++[p]
def mkM (ks:List Sg):List (Sg × AV):=ks.map fun p=>(p,bV true)
def dsM (ks:List Sg):List (Value × D):=ks.map fun p=>(skV p,.v (.bool true))
def hdS (l:List Cs):List Sg:=l.foldl (fun ks c=>addS ks (sgOf c.head)) []

theorem dsM_eq (ks:List Sg):(dsM ks).map (fun p=>(p.1,AV.d p.2))=kmap (mkM ks):=by
 unfold dsM kmap mkM
 rw[List.map_map,List.map_map];rfl
theorem hasS_cons (k:Sg)(r:List Sg)(p:Sg):hasS (k::r) p=(decide (k=p) || hasS r p):=rfl

theorem getK_mk (ks:List Sg)(p:Sg):getK (mkM ks) p=if hasS ks p then some (bV true) else none:=by
 induction ks with
 |nil=>rfl
 |cons k r ih =>
  simp only[mkM,List.map_cons,getK]at ih ⊢
  by_cases h:k=p
  ·rw[if_pos h,if_pos (by rw[hasS_cons,decide_eq_true h];rfl)]
  ·have h1:hasS (k::r) p=hasS r p:=by rw [hasS_cons,decide_eq_false h]; rfl
   rw[if_neg h,ih,h1]

theorem setK_mk (ks:List Sg)(p:Sg):setK (mkM ks) p (bV true)=mkM (addS ks p):=by
 unfold addS
 induction ks with
 |nil=>rfl
 |cons k r ih =>
  simp only[mkM,List.map_cons,setK]at ih ⊢
  by_cases h:k=p
  ·rw[if_pos h,if_pos (by rw[hasS_cons,decide_eq_true h];rfl),h];rfl
  ·have h1:hasS (k::r) p=hasS r p:=by rw [hasS_cons,decide_eq_false h]; rfl
   rw[if_neg h,ih,h1]
   split<;>rfl

theorem addS_mem (ks:List Sg)(p q:Sg):hasS (addS ks p) q=(hasS ks q || decide (p=q)):=by
 unfold addS
 split
 ·rename_i h
  by_cases e:p=q
  ·subst e;rw[h];rfl
  ·rw[decide_eq_false e,Bool.or_false]
 ·unfold hasS
  rw[List.any_append]
  simp
theorem mapOb_mk {f:AV→AV}(h:f (bV true)=bV true)(ks:List Sg):mapOb f (.map (kmap (mkM ks)))=.map (kmap (mkM ks)):=by simp[mapOb,kmap,mkM,Function.comp_def,h]

theorem hdS_mem (l:List Cs)(q:Sg):hasS (hdS l) q=hasH l q:=by
 have key:∀ (l:List Cs) (ks:List Sg),hasS (l.foldl (fun ks c=>addS ks (sgOf c.head)) ks) q=(hasS ks q || hasH l q):=by
  intro l
  induction l with
  |nil=>intro ks;simp[hasH]
  |cons c r ih =>
   intro ks
   simp only[List.foldl_cons]
   rw[ih,addS_mem,Bool.or_assoc]
   rfl
 have:=key l []
 simpa[hdS,hasS]using this
theorem there1_eq (has:Sg→Bool)(g:Gl):there1 has g=(!((g.k==1) && !has (sgOf g.t))&&thereL has g.a&&thereL has g.b&&thereL has g.c):=by cases g;rw[there1];rfl

def SmT (t:Tm):Prop:=t.size≤1000000∧∀x e,e∈t.els x→e.2.s.size<1000000000

structure SmC (x:Cs):Prop where
 head:SmT x.head
 body:allGL SmT x.body
 size:Gl.sizeL x.body≤1000000
end PSL
namespace PSL
open Go

theorem cnt_le (v:Int)(l:List Gl):∀ (deep:Int) (cuts:Bool),cntL v l deep cuts≤Gl.sizeL l:=by
 refine Gl.indL (p:=fun l=>∀ (deep:Int) (cuts:Bool),cntL v l deep cuts≤Gl.sizeL l) (fun l=>?_) l
 intro hsub
 have key:∀deep cuts,cntG v l deep cuts≤Gl.sizeL l:=by
  induction l with
  |nil=>intro _ _;simp[cntG,Gl.sizeL]
  |cons g r ih =>
   intro deep cuts
   obtain⟨ga,gb,gc⟩:=hsub g (by simp)
   have ih:=ih (fun x hx=>hsub x (by simp[hx])) deep cuts
   simp only[cntG,Gl.sizeL]
   have h1:cnt1 v g deep cuts≤g.size:=by
    rw[cnt1_eq,Gl.size_eq]
    have:=Gl.tmPos g.t
    have:=ga (deep+1) false
    have:=gb (deep+1) cuts
    have:=gc (deep+1) cuts
    split
    ·omega
    ·split<;>omega
   split
   ·omega
   ·split<;>omega
 intro deep cuts
 unfold cntL
 split
 ·omega
 ·exact key deep cuts

def cmbG (v:Int)(l:List Gl)(deep:Int)(cuts:Bool)(m:Int):Int:=if cntG v l deep cuts<0 then -1 else m+cntG v l deep cuts

theorem cmbG_cons (v:Int)(g:Gl)(r:List Gl)(deep:Int)(cuts:Bool)(m:Int):cmbG v (g::r) deep cuts m=if cnt1 v g deep cuts<0 then -1 else cmbG v r deep cuts (m+cnt1 v g deep cuts):=by
 have h2:∀ (l:List Gl) ,-1≤cntG v l deep cuts:=fun l=>by
  cases l with
  |nil=>simp[cntG]
  |cons g r=>simp only[cntG];split;omega;split;omega;omega
 unfold cmbG
 simp only[cntG]
 have:=h2 r
 split
 ·rfl
 ·split
  ·rfl
  ·rename_i h3 h4
   rw[if_neg (by omega)]
   omega

mutual
def fewG1:Gl→Int→Int→Int
 | .mk _ t a b c,m,d=>(if d - 1<1 then -1 else fewGo c (if d - 1<1 then -1 else fewGo b (if d - 1<1 then -1 else fewGo a (t.few m 200) (d - 1)) (d - 1)) (d - 1))
def fewGo:List Gl→Int→Int→Int
 |[],m,_=>m
 |g::r,m,d=>if m ≥ 0 then fewGo r (fewG1 g m d) d else m
end
def fewGL (l:List Gl)(m d:Int):Int:=if d<1 then -1 else fewGo l m d

theorem fewG1_eq (g:Gl)(m d:Int):fewG1 g m d=fewGL g.c (fewGL g.b (fewGL g.a (g.t.few m 200) (d - 1)) (d - 1)) (d - 1):=by
 cases g;rw[fewG1];rfl

def somGo:List Cs→Int→Int
 |[],m=>m
 |c::r,m=>if m ≥ 0 then somGo r (fewGL c.body (c.head.few m 200) 30) else m
def somP (l:List Cs):Bool:=decide (somGo l 3000 ≥ 0)&&decide (l.length≤210)
def FwT (t:Tm):Prop:=∀x e,e∈t.els x→e.2.s.size≤100

theorem few_b (t:Tm){m:Int}(h0:-1≤m)(h1:m≤1000000):-1≤t.few m 200∧t.few m 200≤m∧(0≤t.few m 200→0≤m∧t.few m 200+t.size≤m∧FwT t):=by
 obtain⟨a,b,c⟩:=few_bound t (m:=m) (d:=200) h0 (by omega) (by omega)
 refine⟨a,b,fun h=>?_⟩
 obtain⟨d,e⟩:=c h
 exact⟨by omega,d,e⟩

theorem fewGL_b (l:List Gl):∀ (m d:Int),-1≤m→m≤1000000→-1≤fewGL l m d∧fewGL l m d≤max m (-1)∧(0≤fewGL l m d→0≤m∧fewGL l m d+Gl.sizeL l≤m∧allGL FwT l∧1≤d):=by
 refine Gl.indL (p:=fun l=>∀ (m d:Int),-1≤m→m≤1000000→-1≤fewGL l m d∧fewGL l m d≤max m (-1)∧(0≤fewGL l m d→0≤m∧fewGL l m d+Gl.sizeL l≤m∧allGL FwT l∧1≤d)) (fun l=>?_) l
 intro hsub
 have key:∀ (m d:Int),-1≤m→m≤1000000→-1≤fewGo l m d∧fewGo l m d≤m∧(0≤fewGo l m d→0≤m∧fewGo l m d+Gl.sizeL l≤m∧allGL FwT l):=by
  induction l with
  |nil=>intro m d h0 h1;simp only[fewGo,Gl.sizeL,allGL];exact⟨h0,Int.le_refl _,fun h=>⟨h,by omega,trivial⟩⟩
  |cons g r ih =>
   intro m d h0 h1
   obtain⟨ga,gb,gc⟩:=hsub g (by simp)
   have ih:=ih fun x hx=>hsub x (by simp[hx])
   simp only[fewGo]
   split
   ·rename_i hm
    rw[fewG1_eq]
    obtain⟨t1,t2,t3⟩:=few_b g.t h0 h1
    obtain⟨a1,a2,a3⟩:=ga (g.t.few m 200) (d - 1) t1 (by omega)
    obtain⟨b1,b2,b3⟩:=gb (fewGL g.a (g.t.few m 200) (d - 1)) (d - 1) a1 (by omega)
    obtain⟨c1,c2,c3⟩:=gc (fewGL g.b (fewGL g.a (g.t.few m 200) (d - 1)) (d - 1)) (d - 1) b1 (by omega)
    generalize fewGL g.c (fewGL g.b (fewGL g.a (g.t.few m 200) (d - 1)) (d - 1)) (d - 1)=x3 at *
    generalize fewGL g.b (fewGL g.a (g.t.few m 200) (d - 1)) (d - 1)=x2 at *
    generalize fewGL g.a (g.t.few m 200) (d - 1)=x1 at *
    obtain⟨r1,r2,r3⟩:=ih x3 d c1 (by omega)
    refine⟨r1,by omega,fun h=>?_⟩
    obtain⟨r4,r5,r6⟩:=r3 h
    obtain⟨c4,c5,c6,_⟩:=c3 r4
    obtain⟨b4,b5,b6,_⟩:=b3 c4
    obtain⟨a4,a5,a6,_⟩:=a3 b4
    obtain⟨t4,t5,t6⟩:=t3 a4
    refine⟨by omega,?_,?_⟩
    ·simp only[Gl.sizeL];rw[Gl.size_eq];omega
    ·simp only[allGL];exact⟨(allG_eq FwT g).2 ⟨t6,a6,b6,c6⟩,r6⟩
   ·rename_i hm
    exact⟨h0,Int.le_refl _,fun h=>by omega⟩
 intro m d h0 h1
 unfold fewGL
 split
 ·exact⟨by omega,by omega,fun h=>by omega⟩
 ·obtain ⟨k1,k2,k3⟩:=key m d h0 h1
  exact⟨k1,by omega,fun h=>⟨(k3 h).1,(k3 h).2.1,(k3 h).2.2,by omega⟩⟩

theorem allGL_mono {P Q:Tm→Prop}{l:List Gl}(h:∀t:Tm,t.size≤Gl.sizeL l→P t→Q t)(hp:allGL P l):allGL Q l:=by
 have key:∀ (N:Nat) (l:List Gl),Gl.sizeL l≤N→(∀t:Tm,t.size≤N→P t→Q t)→allGL P l→allGL Q l:=by
  intro N l
  refine Gl.indL (p:=fun l=>Gl.sizeL l≤N→(∀t:Tm,t.size≤N→P t→Q t)→allGL P l→allGL Q l) (fun l=>?_) l
  intro hsub hN h hp
  refine allGL_of fun g hg=>?_
  obtain⟨h1,h2,h3,h4⟩:=allGL_mem hp g hg
  have:=Gl.size_mem hg
  have:=Gl.size_eq g
  obtain⟨s1,s2,s3⟩:=hsub g hg
  exact⟨h _ (by omega) h1,s1 (by omega) h h2,s2 (by omega) h h3,s3 (by omega) h h4⟩
 exact key _ l (Nat.le_refl _) h hp
theorem fw_sm {t:Tm}(h:t.size≤1000000)(hf:FwT t):SmT t:=⟨h,fun x e he=>by have:=hf x e he;omega⟩

theorem somGo_b:∀ (l:List Cs) (m:Int),-1≤m→m≤1000000→-1≤somGo l m∧(0≤somGo l m→0≤m∧(∀c∈l,SmC c∧Cs.size c≤m)∧somGo l m+Cs.sizeL l≤m)
 |[],m,h0,h1=>by simp only[somGo,Cs.sizeL];exact⟨h0,fun h=>⟨h,by simp,by omega⟩⟩
 |c::r,m,h0,h1=>by
  simp only[somGo]
  split
  ·rename_i hm
   obtain⟨t1,t2,t3⟩:=few_b c.head h0 h1
   obtain⟨a1,a2,a3⟩:=fewGL_b c.body (c.head.few m 200) 30 t1 (by omega)
   obtain⟨r1,r3⟩:=somGo_b r (fewGL c.body (c.head.few m 200) 30) a1 (by omega)
   refine⟨r1,fun h=>?_⟩
   obtain⟨r4,r5,r6⟩:=r3 h
   obtain⟨a4,a5,a6,_⟩:=a3 r4
   obtain⟨t4,t5,t6⟩:=t3 a4
   refine⟨t4,?_,by simp only[Cs.sizeL,Cs.size];omega⟩
   intro x hx
   rcases List.mem_cons.1 hx with rfl |hx
   ·exact⟨⟨fw_sm (by omega) t6,allGL_mono (fun t ht=>fw_sm (by omega)) a6,by omega⟩,by simp only[Cs.size];omega⟩
   ·have:=r5 x hx
    exact⟨this.1,by omega⟩
  ·rename_i hm
   exact⟨h0,fun h=>by omega⟩

theorem somP_sm {l:List Cs}(h:somP l=true):(∀c∈l,SmC c)∧l.length≤210∧Cs.sizeL l≤3000:=by
 unfold somP at h
 simp only[Bool.and_eq_true,decide_eq_true_eq]at h
 obtain⟨_,h2⟩:=somGo_b l 3000 (by omega) (by omega)
 obtain⟨_,h3,h4⟩:=h2 h.1
 exact⟨fun c hc=>(h3 c hc).1,h.2,by omega⟩
end PSL

namespace Go.Proofs.YtcgkgofmldhokaaGreat
open Go PSL Go.Proofs
def ckO (v left:Int):List Ob:=[.box [iV v,iV left]]

theorem ckTerm_ok (Y:YP)(v left:Int)(t:Tm)(ht:SmT t):SCtr Tryz.prog Y 103 [.lo 0 0,t.av] (ckO v left) (bV (chkT v t)) (ckO v left):=by
 refine SCtr.of_R (pf:=fun _=>.eff) tyOk mixed Tryz.func103 rfl (by kernel_rfl) (by kernel_rfl) (by simp[Tryz.ntmps103]) (by simp) fun w S φ hg=>?_
 refine R_k hg.ok rfl rfl ?_
 refine R_call hg.ok (right_ok t (by have:=ht.1;omega) (ht.2 1)) rfl rfl rfl rfl rfl rfl ?_
 refine R_k hg.ok rfl rfl ?_
 refine R_if rfl rfl (fun h=>?_) (fun h=>?_)<;>refine R_k hg.ok rfl rfl ?_
 ·have h:rightT t=false:=by simpa using h
  rw[show chkT v t=false by unfold chkT;rw[h];rfl]
  exact R_retS hg 1 5 (Nat.le_refl _) rfl rfl rfl
 have h:rightT t=true:=by simpa using h
 have hv:=(vars_ok [t] (by have:=ht.1;simp[Tm.sizeL];omega)).one
 have hlen:(varsT [t]).length≤t.size:=varsT_one_len t
 have hc:chkT v t=(varsT [t]).all fun x=>decide (x<v):=by unfold chkT;rw[h];rfl
 generalize varsT [t]=V at *
 have hs:=ht.1
 refine R_call hg.ok (hv) rfl rfl rfl rfl rfl rfl ?_
 refine R_k hg.ok rfl rfl ?_
 refine R_loop (fun k:Nat=>([(0,.lo 0 0),(12,.d (.sl (irows V))),(13,iV V.length),(14,iV k)],ckO v left++[boxR t])) (fun k=>k≤V.length∧chkT v t=(V.drop k).all fun x=>decide (x<v)) (fun k=>V.length - k) 0 ⟨Nat.zero_le _,hc⟩ ⟨.refl _,.refl _,by rw[irows_length];exact .refl _,.refl _,trivial⟩ rfl ?_
 rintro k ⟨hk,hm⟩
 refine R_k hg.ok rfl rfl ?_
 refine R_if rfl rfl (fun h=>?_) (fun h=>?_)<;>refine R_k hg.ok rfl rfl ?_
 ·have hk1:k<V.length:=lt_dec h rfl
  have e1:V[k]? = some V[k]:=List.getElem?_eq_getElem hk1
  rw[List.drop_eq_getElem_cons hk1,List.all_cons]at hm
  generalize V[k]=x at e1 hm
  refine R_index hg.ok rfl rfl rfl rfl rfl rfl (Int.natCast_nonneg _) (irows_get e1) rfl ?_
  refine R_k hg.ok rfl rfl ?_
  refine R_if rfl rfl (fun h=>?_) (fun h=>?_)<;>refine R_k hg.ok rfl rfl ?_
  ·rw [hm,show decide (x<v)=false by simpa using h]
   exact R_retS hg 1 5 (Nat.le_refl _) rfl rfl rfl
  ·exact R_next (k+1) ⟨hk1,by rw[hm,show decide (x<v)=true by simpa using h,Bool.true_and]⟩ (by omega) ⟨.refl _,.refl _,.refl _,Ent.wrap (by omega) (by omega) (by omega),trivial⟩ rfl
 ·have hk1:V.length≤k:=ge_dec h rfl
  rw[hm,List.drop_eq_nil_of_le hk1]
  exact R_retS hg 1 5 (Nat.le_refl _) rfl rfl rfl
def glBox (g:Gl):Ob:=.box [.d (.v (.int .i64 g.k)),.d (.v (.int .i64 g.t.k)),.d (.v (.string g.t.s)),.d (.v (.int .i64 g.t.n)),.d (.sl (Tm.rows g.t.l)),.d (.sl (Gl.rows g.a)),.d (.sl (Gl.rows g.b)),.d (.sl (Gl.rows g.c))]

def CkG (Y:YP) (v:Int) (l:List Gl):Prop:=∀ (left deep:Int) (cuts:Bool),allGL SmT l→(Gl.sizeL l:Int) - 1000000000≤left→left≤1000→0≤deep→deep+Gl.sizeL l≤1000000000 →
 SCtr Tryz.prog Y 104 [.lo 0 0,.d (.sl (Gl.rows l)),iV deep,bV cuts] (ckO v left) (bV (chkL v l left deep cuts).1) (ckO v (chkL v l left deep cuts).2)

theorem none_eq (a b c:List Gl):(((a.length:Int)+b.length+c.length)==0)=noneG a b c:=by
 unfold noneG
 rw[Bool.eq_iff_iff]
 simp only[beq_iff_eq,decide_eq_true_eq]
 omega

theorem ckGoals_ok (Y:YP)(v:Int)(l:List Gl):CkG Y v l:=by
 refine Gl.indL (p:=CkG Y v) (fun l hsub=>?_) l
 intro left deep cuts hl h1 h2 h3 h4
 have hlen:=Gl.len_size l
 refine SCtr.of_R (pf:=fun _=>.eff) tyOk mixed Tryz.func104 rfl (by kernel_rfl) (by kernel_rfl) (by simp[Tryz.ntmps104]) (by simp[ckO]) fun w S φ hg=>?_
 refine R_k hg.ok rfl rfl ?_
 refine R_loop (fun x:Nat × Int=>([(0,.lo 0 0),(2,iV deep),(3,bV cuts),(13,.d (.sl (Gl.rows l))),(14,iV l.length),(15,iV x.1)],ckO v x.2)) (fun x=>x.1≤l.length∧chkL v l left deep cuts=chkL v (l.drop x.1) x.2 deep cuts∧(Gl.sizeL (l.drop x.1):Int) - 1000000000≤x.2∧x.2≤1000) (fun x=>l.length - x.1) (0,left) ⟨Nat.zero_le _,rfl,h1,h2⟩ ⟨.refl _,.refl _,.refl _,.refl _,by rw[Gl.rows_length];exact .refl _,.refl _,trivial⟩ rfl ?_
 rintro⟨k,left'⟩ ⟨hk,hm,hb1,hb2⟩
 refine R_k hg.ok rfl rfl ?_
 refine R_if rfl rfl (fun h=>?_) (fun h=>?_)<;>refine R_k hg.ok rfl rfl ?_
 ·have hk1:k<l.length:=lt_dec h rfl
  have e1:l[k]? = some l[k]:=List.getElem?_eq_getElem hk1
  have hmem:=List.getElem_mem hk1
  rw[List.drop_eq_getElem_cons hk1]at hm hb1
  generalize l[k]=g at e1 hm hmem hb1
  have hsz:=Gl.size_mem hmem
  obtain⟨sa,sb,sc⟩:=hsub g hmem
  obtain⟨st,ma,mb,mc⟩:=allGL_mem hl g hmem
  simp only[Gl.sizeL]at hb1
  have hge:=Gl.size_eq g
  have hla:=Gl.len_size g.a
  have hlb:=Gl.len_size g.b
  have hlc:=Gl.len_size g.c
  have htp:=Gl.tmPos g.t
  have hw:IntKind.i64.wrap (left' - 1)=left' - 1:=w64 (by omega) (by omega)
  refine R_index hg.ok rfl rfl rfl rfl rfl rfl (Int.natCast_nonneg _) (Gl.rows_get e1) rfl ?_
  refine R_k hg.ok rfl rfl ?_
  rw[hw,Gl.rows_length g.a,Gl.rows_length g.b,Gl.rows_length g.c,w64 (n:=(g.a.length:Int)+g.b.length) (by omega) (by omega),w64 (n:=(g.a.length:Int)+g.b.length+g.c.length) (by omega) (by omega),none_eq]
  refine R_cut1 (fun x:Bool × Int=>([(0,.lo 0 0),(2,iV deep),(3,bV cuts),(12,bV x.1),(13,.d (.sl (Gl.rows l))),(14,iV l.length),(15,iV k)],ckO v x.2++[glBox g])) (fun x=>x=chk1 v g (left' - 1) deep cuts) rfl ?_ ?_
  ·by_cases c1:g.k=1
   ·have hx:chk1 v g (left' - 1) deep cuts=(noneG g.a g.b g.c&&chkT v g.t&&ownB g.t,left' - 1):=by rw [chk1_eq,if_pos c1]
    refine R_if rfl rfl (fun _=>?_) (fun h=>absurd h (by simp[c1]))<;>refine R_k hg.ok rfl rfl ?_
    refine R_if rfl rfl (fun n1=>?_) (fun n1=>?_)<;>refine R_k hg.ok rfl rfl ?_
    ·refine R_callSO hg.ok hg.gup hg.wide hg.Y [0] (ckO v (left' - 1)++[glBox g]) (ckTerm_ok Y v (left' - 1) g.t st) (fun _=>rfl) rfl rfl rfl rfl rfl rfl rfl rfl ?_
     refine R_k hg.ok rfl rfl ?_
     refine R_if rfl rfl (fun n2=>?_) (fun n2=>?_)<;>refine R_k hg.ok rfl rfl ?_
     ·refine R_call hg.ok (own_ok11 g.t) rfl rfl rfl rfl rfl rfl ?_
      refine R_k hg.ok rfl rfl ?_
      exact R_to (ownB g.t,left' - 1) (by rw[hx,n1,n2];rfl) ⟨.refl _,.refl _,.refl _,.refl _,.refl _,.refl _,.refl _,trivial⟩ rfl
     ·exact R_to (false,left' - 1) (by rw[hx,n1,n2];rfl) ⟨.refl _,.refl _,.refl _,(by first |exact .refl _ |exact .ff),.refl _,.refl _,.refl _,trivial⟩ rfl
    ·exact R_to (false,left' - 1) (by rw[hx,n1];rfl) ⟨.refl _,.refl _,.refl _,(by first |exact .refl _ |exact .ff),.refl _,.refl _,.refl _,trivial⟩ rfl
   refine R_if rfl rfl (fun h=>absurd h (by simp[c1])) (fun _=>?_)<;>refine R_k hg.ok rfl rfl ?_
   by_cases c2:g.k=2
   ·have hx:chk1 v g (left' - 1) deep cuts=(noneG g.a g.b g.c&&chkT v g.t&&(g.t.k==3)&&bltB (sgOf g.t),left' - 1):=by rw [chk1_eq,if_neg c1,if_pos c2]
    refine R_if rfl rfl (fun _=>?_) (fun h=>absurd h (by simp[c2]))<;>refine R_k hg.ok rfl rfl ?_
    refine R_if rfl rfl (fun n1=>?_) (fun n1=>?_)<;>refine R_k hg.ok rfl rfl ?_
    ·refine R_callSO hg.ok hg.gup hg.wide hg.Y [0] (ckO v (left' - 1)++[glBox g]) (ckTerm_ok Y v (left' - 1) g.t st) (fun _=>rfl) rfl rfl rfl rfl rfl rfl rfl rfl ?_
     refine R_k hg.ok rfl rfl ?_
     refine R_if rfl rfl (fun n2=>?_) (fun n2=>?_)<;>refine R_k hg.ok rfl rfl ?_
     ·refine R_if rfl rfl (fun n3=>?_) (fun n3=>?_) <;> refine R_run hg.ok 1000 rfl rfl ?_
      ·refine R_call hg.ok (builtinT_ok g.t) rfl rfl rfl rfl rfl rfl ?_
       refine R_k hg.ok rfl rfl ?_
       exact R_to (bltB (sgOf g.t),left' - 1) (by rw[hx,n1,n2,n3];rfl) ⟨.refl _,.refl _,.refl _,.refl _,.refl _,.refl _,.refl _,trivial⟩ rfl
      ·exact R_to (false,left' - 1) (by rw[hx,n1,n2,n3];rfl) ⟨.refl _,.refl _,.refl _,(by first |exact .refl _ |exact .ff),.refl _,.refl _,.refl _,trivial⟩ rfl
     ·exact R_to (false,left' - 1) (by rw[hx,n1,n2];rfl) ⟨.refl _,.refl _,.refl _,(by first |exact .refl _ |exact .ff),.refl _,.refl _,.refl _,trivial⟩ rfl
    ·exact R_to (false,left' - 1) (by rw[hx,n1];rfl) ⟨.refl _,.refl _,.refl _,(by first |exact .refl _ |exact .ff),.refl _,.refl _,.refl _,trivial⟩ rfl
   refine R_if rfl rfl (fun h=>absurd h (by simp[c2])) (fun _=>?_)<;>refine R_k hg.ok rfl rfl ?_
   by_cases c3:g.k=3
   ·have hx:chk1 v g (left' - 1) deep cuts=(noneG g.a g.b g.c&&nothB g.t&&cuts,left' - 1):=by rw [chk1_eq,if_neg c1,if_neg c2,if_pos c3]
    refine R_if rfl rfl (fun _=>?_) (fun h=>absurd h (by simp[c3]))<;>refine R_k hg.ok rfl rfl ?_
    refine R_if rfl rfl (fun n1=>?_) (fun n1=>?_)<;>refine R_k hg.ok rfl rfl ?_
    ·refine R_call hg.ok (nothing_ok g.t) rfl rfl rfl rfl rfl rfl ?_
     refine R_k hg.ok rfl rfl ?_
     refine R_if rfl rfl (fun n2=>?_) (fun n2=>?_)<;>refine R_k hg.ok rfl rfl ?_
     ·exact R_to (cuts,left' - 1) (by rw[hx,n1,n2];rfl) ⟨.refl _,.refl _,.refl _,.refl _,.refl _,.refl _,.refl _,trivial⟩ rfl
     ·exact R_to (false,left' - 1) (by rw[hx,n1,n2];rfl) ⟨.refl _,.refl _,.refl _,(by first |exact .refl _ |exact .ff),.refl _,.refl _,.refl _,trivial⟩ rfl
    ·exact R_to (false,left' - 1) (by rw[hx,n1];rfl) ⟨.refl _,.refl _,.refl _,(by first |exact .refl _ |exact .ff),.refl _,.refl _,.refl _,trivial⟩ rfl
   refine R_if rfl rfl (fun h=>absurd h (by simp[c3])) (fun _=>?_)<;>refine R_k hg.ok rfl rfl ?_
   have la:=chk_low v g.a (left' - 1) (deep+1) false
   have la2:=(bothL v g.a (left' - 1) (deep+1) false).2.2
   have lb:=chk_low v g.b (chkL v g.a (left' - 1) (deep+1) false).2 (deep+1) cuts
   have lb2:=(bothL v g.b (chkL v g.a (left' - 1) (deep+1) false).2 (deep+1) cuts).2.2
   have hwd:IntKind.i64.wrap (deep+1)=deep+1:=w64 (by omega) (by omega)
   have CA:=sa (left' - 1) (deep+1) false ma (by omega) (by omega) (by omega) (by omega)
   by_cases c4:g.k=4
   ·have CB:=sb (chkL v g.a (left' - 1) (deep+1) false).2 (deep+1) cuts mb (by omega) (by omega) (by omega) (by omega)
    have CC:=sc (chkL v g.b (chkL v g.a (left' - 1) (deep+1) false).2 (deep+1) cuts).2 (deep+1) cuts mc (by omega) (by omega) (by omega) (by omega)
    have hx:=chk1_eq v g (left' - 1) deep cuts
    rw[if_neg c1,if_neg c2,if_neg c3,if_pos c4]at hx
    refine R_if rfl rfl (fun _=>?_) (fun h=>absurd h (by simp[c4]))<;>refine R_k hg.ok rfl rfl ?_
    refine R_call hg.ok (nothing_ok g.t) rfl rfl rfl rfl rfl rfl ?_
    refine R_k hg.ok rfl rfl ?_
    refine R_if rfl rfl (fun n1=>?_) (fun n1=>?_)<;>refine R_k hg.ok rfl rfl ?_
    ·rw [if_pos n1] at hx
     rw[hwd]
     refine R_callSO hg.ok hg.gup hg.wide hg.Y [0] (ckO v (chkL v g.a (left' - 1) (deep+1) false).2++[glBox g]) (CA) (fun _=>rfl) rfl rfl rfl rfl rfl rfl rfl rfl ?_
     refine R_k hg.ok rfl rfl ?_
     refine R_if rfl rfl (fun n2=>?_) (fun n2=>?_)<;>refine R_k hg.ok rfl rfl ?_
     ·rw [if_pos n2] at hx
      rw[hwd]
      refine R_callSO hg.ok hg.gup hg.wide hg.Y [0] (ckO v (chkL v g.b (chkL v g.a (left' - 1) (deep+1) false).2 (deep+1) cuts).2++[glBox g]) (CB) (fun _=>rfl) rfl rfl rfl rfl rfl rfl rfl rfl ?_
      refine R_k hg.ok rfl rfl ?_
      refine R_if rfl rfl (fun n3=>?_) (fun n3=>?_)<;>refine R_k hg.ok rfl rfl ?_
      ·rw [if_pos n3] at hx
       rw[hwd]
       refine R_callSO hg.ok hg.gup hg.wide hg.Y [0] (ckO v (chkL v g.c (chkL v g.b (chkL v g.a (left' - 1) (deep+1) false).2 (deep+1) cuts).2 (deep+1) cuts).2++[glBox g]) (CC) (fun _=>rfl) rfl rfl rfl rfl rfl rfl rfl rfl ?_
       refine R_k hg.ok rfl rfl ?_
       exact R_to (chkL v g.c (chkL v g.b (chkL v g.a (left' - 1) (deep+1) false).2 (deep+1) cuts).2 (deep+1) cuts) hx.symm ⟨.refl _,.refl _,.refl _,.refl _,.refl _,.refl _,.refl _,trivial⟩ rfl
      ·rw [if_neg (by rw [n3]; simp)] at hx
       exact R_to (false,(chkL v g.b (chkL v g.a (left' - 1) (deep+1) false).2 (deep+1) cuts).2) hx.symm ⟨.refl _,.refl _,.refl _,(by first |exact .refl _ |exact .ff),.refl _,.refl _,.refl _,trivial⟩ rfl
     ·rw [if_neg (by rw [n2]; simp)] at hx
      exact R_to (false,(chkL v g.a (left' - 1) (deep+1) false).2) hx.symm ⟨.refl _,.refl _,.refl _,(by first |exact .refl _ |exact .ff),.refl _,.refl _,.refl _,trivial⟩ rfl
    ·rw [if_neg (by rw [n1]; simp)] at hx
     exact R_to (false,left' - 1) hx.symm ⟨.refl _,.refl _,.refl _,(by first |exact .refl _ |exact .ff),.refl _,.refl _,.refl _,trivial⟩ rfl
   refine R_if rfl rfl (fun h=>absurd h (by simp[c4])) (fun _=>?_)<;>refine R_k hg.ok rfl rfl ?_
   by_cases c5:g.k=5
   ·have hx:=chk1_eq v g (left' - 1) deep cuts
    rw[if_neg c1,if_neg c2,if_neg c3,if_neg c4,if_pos c5]at hx
    refine R_if rfl rfl (fun _=>?_) (fun h=>absurd h (by simp[c5]))<;>refine R_k hg.ok rfl rfl ?_
    refine R_call hg.ok (nothing_ok g.t) rfl rfl rfl rfl rfl rfl ?_
    refine R_k hg.ok rfl rfl ?_
    refine R_if rfl rfl (fun n1=>?_) (fun n1=>?_)<;>refine R_k hg.ok rfl rfl ?_
    ·rw [Gl.rows_length g.b,Gl.rows_length g.c,w64 (n:=(g.b.length:Int)+g.c.length) (by omega) (by omega)]
     refine R_if rfl rfl (fun n2=>?_) (fun n2=>?_)<;>refine R_k hg.ok rfl rfl ?_
     ·rw [n1,decide_eq_true (show g.b.length+g.c.length=0 by simp at n2; omega)] at hx
      simp only[Bool.and_self,if_true]at hx
      rw[hwd]
      refine R_callSO hg.ok hg.gup hg.wide hg.Y [0] (ckO v (chkL v g.a (left' - 1) (deep+1) false).2++[glBox g]) (CA) (fun _=>rfl) rfl rfl rfl rfl rfl rfl rfl rfl ?_
      refine R_k hg.ok rfl rfl ?_
      exact R_to (chkL v g.a (left' - 1) (deep+1) false) hx.symm ⟨.refl _,.refl _,.refl _,.refl _,.refl _,.refl _,.refl _,trivial⟩ rfl
     ·rw [n1,decide_eq_false (show ¬ g.b.length+g.c.length=0 by simp at n2; omega)] at hx
      exact R_to (false,left' - 1) hx.symm ⟨.refl _,.refl _,.refl _,(by first |exact .refl _ |exact .ff),.refl _,.refl _,.refl _,trivial⟩ rfl
    ·rw [n1] at hx
     exact R_to (false,left' - 1) hx.symm ⟨.refl _,.refl _,.refl _,(by first |exact .refl _ |exact .ff),.refl _,.refl _,.refl _,trivial⟩ rfl
   refine R_if rfl rfl (fun h=>absurd h (by simp[c5])) (fun _=>?_)<;>refine R_k hg.ok rfl rfl ?_
   have hx:=chk1_eq v g (left' - 1) deep cuts
   rw[if_neg c1,if_neg c2,if_neg c3,if_neg c4,if_neg c5]at hx
   exact R_to (false,left' - 1) hx.symm ⟨.refl _,.refl _,.refl _,(by first |exact .refl _ |exact .ff),.refl _,.refl _,.refl _,trivial⟩ rfl
  ·rintro ⟨fair,left2⟩ hx
   have hlw:=chk1_low v g (left' - 1) deep cuts
   simp only[chkL]at hm
   rw[← hx]at hm hlw
   simp only at hm hlw
   refine R_k hg.ok rfl rfl ?_
   refine R_if rfl rfl (fun n1=>?_) (fun n1=>?_)<;>refine R_k hg.ok rfl rfl ?_
   ·have n1:fair=false:=by simpa using n1
    subst n1
    rw[if_pos (by simp)]at hm
    rw[hm]
    exact R_retS hg 1 5 (Nat.le_refl _) rfl rfl rfl
   ·have n1:fair=true:=by simpa using n1
    subst n1
    refine R_if rfl rfl (fun n2=>?_) (fun n2=>?_)<;>refine R_k hg.ok rfl rfl ?_
    ·rw [if_pos (by rw [n2]; simp)] at hm
     rw[hm]
     exact R_retS hg 1 5 (Nat.le_refl _) rfl rfl rfl
    ·refine R_if rfl rfl (fun n3=>?_) (fun n3=>?_) <;> refine R_run hg.ok 1000 rfl rfl ?_
     ·rw [if_pos (by rw [show decide (10<deep)=true from n3]; simp)] at hm
      rw[hm]
      exact R_retS hg 1 5 (Nat.le_refl _) rfl rfl rfl
     ·rw [if_neg (by rw [n2,show decide (10<deep)=false from n3]; simp)] at hm
      refine R_dropO 1 (ckO v left2) (by show φ.length≤1;exact Nat.le_of_eq hg.hs0.len) rfl rfl ?_
      exact R_next (k+1,left2) ⟨hk1,hm,by show (Gl.sizeL (l.drop (k+1)):Int) - 1000000000≤left2;omega,by show left2≤1000;omega⟩ (by simp only;omega) ⟨.refl _,.refl _,.refl _,.refl _,.refl _,Ent.wrap (by simp only;omega) (by simp only;omega) (by simp only;omega),trivial⟩ rfl
 ·have hk1:l.length≤k:=ge_dec h rfl
  rw[hm,List.drop_eq_nil_of_le hk1]
  simp only[chkL]
  exact R_retS hg 1 5 (Nat.le_refl _) rfl rfl rfl
end Go.Proofs.YtcgkgofmldhokaaGreat

namespace PSL
open Go
theorem hasS_iff {ks:List Sg}{p:Sg}:hasS ks p=true↔p∈ks:=by unfold hasS;simp

theorem mem_addS {ks:List Sg}{p q:Sg}:q∈addS ks p↔q∈ks∨q=p:=by
 have h:=addS_mem ks p q
 rw[← hasS_iff,h,Bool.or_eq_true,hasS_iff,decide_eq_true_eq]
 exact or_congr_right eq_comm

def lkB:List (Sg × Bool)→Sg→Bool
 |[],_=>false
 |e::r,p=>if e.1=p then e.2 else lkB r p

def stB:List (Sg × Bool)→Sg→Bool→List (Sg × Bool)
 |[],p,v=>[(p,v)]
 |e::r,p,v=>if e.1=p then (p,v)::r else e::stB r p v
def bM (m:List (Sg × Bool)):List (Sg × AV):=m.map fun e=>(e.1,bV e.2)

theorem getK_b (m:List (Sg × Bool))(p:Sg):(getK (bM m) p).getD (bV false)=bV (lkB m p):=by
 induction m with
 |nil=>rfl
 |cons e r ih =>
  simp only[bM,List.map_cons,getK,lkB]at ih ⊢
  split
  ·rfl
  ·exact ih

theorem setK_b (m:List (Sg × Bool))(p:Sg)(v:Bool):setK (bM m) p (bV v)=bM (stB m p v):=by
 induction m with
 |nil=>rfl
 |cons e r ih =>
  simp only[bM,List.map_cons,setK,stB]at ih ⊢
  split
  ·rfl
  ·simp only[List.map_cons];rw[ih]
theorem mapOb_b {f:AV→AV}(h:∀b,f (bV b)=bV b)(m:List (Sg × Bool)):mapOb f (.map (kmap (bM m)))=.map (kmap (bM m)):=by simp[mapOb,kmap,bM,Function.comp_def,h]
def tt (ks:List Sg):List (Sg × Bool):=ks.map fun p=>(p,true)
theorem bM_tt (ks:List Sg):bM (tt ks)=mkM ks:=by unfold bM tt mkM;rw[List.map_map];rfl

theorem lk_tt (ks:List Sg)(p:Sg):lkB (tt ks) p=hasS ks p:=by
 induction ks with
 |nil=>rfl
 |cons k r ih =>
  rw[hasS_cons]
  simp only[tt,List.map_cons,lkB]at ih ⊢
  by_cases h:k=p
  ·rw[if_pos h,decide_eq_true h];rfl
  ·rw[if_neg h,decide_eq_false h,ih];rfl

theorem firstN_none {α:Type}(p:α→Bool):∀ (l:List α) (i:Nat),firstN p l i=none↔∀x∈l,p x=true
 |[],_=>by simp[firstN]
 |x::r,i=>by
  simp only[firstN]
  split
  ·rename_i h
   rw[firstN_none p r (i+1)];simp[h]
  ·rename_i h
   simp[h]

theorem checkR_ok (l:List Cs):(checkR l).2=0↔l.length≤200∧(∀c∈l,clsB c=true)∧∀c∈l,thereL (hasH l) c.body=true:=by
 unfold checkR
 split
 ·rename_i h
  constructor
  ·intro h2;cases h2
  ·intro h2;omega
 ·rename_i h
  have h:l.length≤200:=by omega
  cases h1:firstN clsB l 0 with
  |some i =>
   simp only
   constructor
   ·intro h2;cases h2
   ·rintro ⟨_,h2,_⟩
    rw[(firstN_none clsB l 0).2 h2]at h1;cases h1
  |none =>
   have h1:=(firstN_none clsB l 0).1 h1
   simp only
   cases h2:firstN (fun c=>thereL (hasH l) c.body) l 0 with
   |some i =>
    simp only
    constructor
    ·intro h2;cases h2
    ·rintro ⟨_,_,h3⟩
     rw[(firstN_none (fun c=>thereL (hasH l) c.body) l 0).2 h3]at h2;cases h2
   |none =>
    have h2:=(firstN_none (fun c=>thereL (hasH l) c.body) l 0).1 h2
    simp only[true_iff]
    exact⟨h,h1,h2⟩
end PSL

namespace PSL
open Go

theorem putO_ent {E:Env}{x y:AV}(dst:Option Nat)(h:Ent x y):EEnt (putO E dst x) (putO E dst y):=fun u=>by
 cases dst with
 |none=>exact .refl _
 |some t =>
  simp only[putO,lk_put]
  split
  ·exact h
  ·exact .refl _

theorem look_ent (m:List (Sg × Bool))(p:Sg):Ent (lookI' false (cstV (.bool false)) (getK (bM m) p)) (bV (lkB m p)):=by
 have h:=getK_b m p
 cases hg:getK (bM m) p with
 |none=>rw[hg]at h;rw[← h];exact .ff
 |some v=>rw[hg]at h;rw[← h];exact .refl _
section
variable {g:G} {pf:Nat→Cls} {ops:Array Oper} {Fin:Exit→Act→World→Prop}

theorem R_lookupB (hg:GOk g){dst:Option Nat}{T:Nat}{x y:Operand}{ty:Nat}{pos:String}{after:Array Edge}{gd:Option (Nat × Bool)}{rest:List Oper}{k:List It}{E:Env}{objs:List Ob}
  {i q by_ kt et:Nat} {z:List Value} (p:Sg) (m:List (Sg × Bool)) (hk:SKey g.P kt)
  (hgd:guardA ops.toList E gd=some true) (hd:dstOk ⟨g.ty,g.N⟩ dst=true) (hx:ev E x=.mp i) (ho:nth objs i=some (.map (kmap (bM m)))) (hy:ev E y=sgA p) (hT:g.ty T=some ⟨q,by_,z,.map kt et⟩)
  (hz:(g.P.info? et).bind (·.zero)=some (.bool false))
  (hr:R g pf Fin (.dr ops rest::k) (putO E dst (bV (lkB m p))) objs):R g pf Fin (.dr ops (⟨dst,.lookup T x y false,ty,pos,after,gd⟩::rest)::k) E objs :=
 R_lookupK hg p (bM m) hk hgd hd hx ho hy hT hz rfl (hr.ent (putO_ent dst (look_ent m p)))

theorem R_setB (hg:GOk g){dst:Option Nat}{T:Nat}{x y v:Operand}{ty:Nat}{pos:String}{after:Array Edge}{gd:Option (Nat × Bool)}{rest:List Oper}{k:List It}{E:Env}{objs:List Ob}
  {i q by_ kt et:Nat} {z:List Value} (p:Sg) (m:List (Sg × Bool)) (b:Bool) (hk:SKey g.P kt)
  (hgd:guardA ops.toList E gd=some true) (hd:dstOk ⟨g.ty,g.N⟩ dst=true) (hx:ev E x=.mp i) (ho:nth objs i=some (.map (kmap (bM m)))) (hy:ev E y=sgA p) (hT:g.ty T=some ⟨q,by_,z,.map kt et⟩)
  (hv:Ent (ev E v) (bV b))
  (hr:R g pf Fin (.dr ops rest::k) (putO E dst .any) (setN objs i (.map (kmap (bM (stB m p b)))))):R g pf Fin (.dr ops (⟨dst,.mapUpdate T x y v,ty,pos,after,gd⟩::rest)::k) E objs :=
 R_setK hg p (bM m) (bM (stB m p b)) hk hgd hd hx ho hy hT hv (setK_b m p b) hr
end
end PSL
namespace PSL
open Go
theorem Cs.rows_snoc (out:List Cs)(x:Cs):Cs.rows out++[x.row]=Cs.rows (out++[x]):=by simp[Cs.rows]
end PSL
namespace PSL
open Go

theorem renOb_b {f:Nat→Nat}(m:List (Sg × Bool)):renOb f (.map (kmap (bM m)))=.map (kmap (bM m)):=by
 have h:=mapOb_b (f:=renA f) (fun _=>rfl) m
 simpa only[mapOb,renOb]using h
end PSL
namespace PSL
open Go

theorem stB_tt {ks:List Sg}{p:Sg}:stB (tt ks) p true=tt (addS ks p):=by
 unfold addS
 induction ks with
 |nil=>rfl
 |cons k r ih =>
  rw[hasS_cons]
  simp only[tt,List.map_cons,stB]at ih ⊢
  by_cases h:k=p
  ·rw[if_pos h,if_pos (by rw[decide_eq_true h];rfl),h];rfl
  ·rw [if_neg h,ih,decide_eq_false h,Bool.false_or]
   split<;>simp
end PSL

namespace PSL
open Go

theorem Cs.sizeL_sub {l m:List Cs}(h:l.Sublist m):Cs.sizeL l≤Cs.sizeL m:=by
 induction h with
 |slnil=>exact Nat.le_refl _
 |cons a _ ih=>simp only[Cs.sizeL];omega
 |cons_cons a _ ih=>simp only[Cs.sizeL];omega

theorem Cs.size_mem {l:List Cs}{c:Cs}(h:c∈l):Cs.size c≤Cs.sizeL l:=by
 have:=Cs.sizeL_sub (List.singleton_sublist.2 h)
 simp only[Cs.sizeL]at this;omega

structure Med (l:List Cs):Prop where
 sm:∀c∈l,SmC c
 len:l.length≤210
 size:Cs.sizeL l≤3000

theorem Med.sub {l m:List Cs}(h:Med m)(hs:l.Sublist m):Med l :=
 ⟨fun c hc=>h.sm c (hs.subset hc),by have:=hs.length_le;have:=h.len;omega,by have:=Cs.sizeL_sub hs;have:=h.size;omega⟩
end PSL
namespace PSL
open Go
end PSL
namespace PSL
open Go
end PSL
namespace PSL
open Go
end PSL
namespace PSL
open Go
end PSL
namespace PSL
open Go
end PSL

namespace PSL
open Go Go.RowKit Go.MapKept
section
variable {g:G} {pf:Nat→Cls} {ops:Array Oper} {Fin:Exit→Act→World→Prop}
end
end PSL

namespace PSL
open Go Go.RowKit
section
variable {g:G} {pf:Nat→Cls} {ops:Array Oper} {Fin:Exit→Act→World→Prop}
end
end PSL

namespace PSL
open Go Go.RowKit Go.MapKept

theorem erase_map {α β:Type}(f:α→β):∀ (l:List α) (i:Nat),(l.eraseIdx i).map f=(l.map f).eraseIdx i
 |[],_=>rfl
 |_::_,0=>rfl
 |a::l,i+1=>by simp only[List.eraseIdx_cons_succ,List.map_cons,erase_map f l i]

theorem RVs_cut {S:Nat→Prop}{w:World}{φ:List Phy}{x:AV}{l2:List AV}:∀ {l1:List AV} {vs:List Value},RVs S w φ (l1++x::l2) vs→RVs S w φ (l1++l2) (vs.eraseIdx l1.length)
 |[],[],h=>by simp[RVs]at h
 |[],v::vs,h=>by simp only[List.nil_append,RVs]at h;simpa using h.2
 |a::l1,[],h=>by simp[RVs]at h
 |a::l1,v::vs,h=>by
  simp only[List.cons_append,RVs,List.length_cons,List.eraseIdx_cons_succ]at h ⊢
  exact⟨h.1,RVs_cut h.2⟩
section
variable {g:G} {pf:Nat→Cls} {ops:Array Oper} {Fin:Exit→Act→World→Prop}
end
end PSL

namespace PSL
open Go Go.RowKit Go.MapKept

def setIA:List (Int × AV)→Int→AV→List (Int × AV)
 |[],n,v=>[(n,v)]
 |p::r,n,v=>if p.1=n then (n,v)::r else p::setIA r n v

theorem findA_setI {k':IntKind}{n:Int}{v:AV}:∀ {l:List (Int × AV)} {i:Nat},(findA (.int k') (.int .i64 n) (imap l) i=some none∧setIA l n v=l++[(n,v)])∨(∃j x,findA (.int k') (.int .i64 n) (imap l) i=some (some (i+j,x))∧l[j]? = some (n,x)∧setIA l n v=l.set j (n,v))
 |[],i=>.inl ⟨rfl,rfl⟩
 |p::l,i=>by
  by_cases h:p.1=n
  ·have h1:(n==p.1)=true:=by simp [h]
   refine .inr ⟨0,p.2,?_,by subst h;rfl,by simp[setIA,h]⟩
   simp only[imap,List.map_cons,findA,Instr.sameNow,if_true,h1,Nat.add_zero]
  ·have h1:(n==p.1)=false:=by simp; exact fun e=>h e.symm
   rcases findA_setI (k':=k') (n:=n) (v:=v) (l:=l) (i:=i+1) with ⟨h2,h3⟩ |⟨j,x,h2,h3,h4⟩
   ·refine .inl ⟨?_,by simp [setIA,h,h3]⟩
    simp only[imap,List.map_cons,findA,Instr.sameNow,if_true,h1]
    exact h2
   ·refine .inr ⟨j+1,x,?_,by simpa using h3,by simp [setIA,h,h4]⟩
    simp only[imap,List.map_cons,findA,Instr.sameNow,if_true,h1]
    rw[show i+(j+1)=i+1+j by omega]
    exact h2

theorem stay_int {P:Program}{w:World}(n:Int):(Instr.keyThatStays (.int .i64 n) (.int .i64 n)).run P w=.ok (.int .i64 n) w:=by
 have:Instr.sameBits 10000 (.int .i64 n) (.int .i64 n)=true:=by simp[Instr.sameBits]
 simp[Instr.keyThatStays,this]
section
variable {g:G} {pf:Nat→Cls} {ops:Array Oper} {Fin:Exit→Act→World→Prop}

theorem R_setI (hg:GOk g){dst:Option Nat}{T:Nat}{x y v:Operand}{ty:Nat}{pos:String}{after:Array Edge}{gd:Option (Nat × Bool)}{rest:List Oper}{k:List It}{E:Env}{objs:List Ob}
  {i q by_ q' by' kt et:Nat} {z z':List Value} {n:Int} {v':AV} (l l':List (Int × AV))
  (hgd:guardA ops.toList E gd=some true) (hd:dstOk ⟨g.ty,g.N⟩ dst=true) (hx:ev E x=.mp i) (ho:nth objs i=some (.map (imap l))) (hy:ev E y=.d (.v (.int .i64 n))) (hT:g.ty T=some ⟨q,by_,z,.map kt et⟩)
  (hkt:g.ty kt=some ⟨q',by',z',.int .i64⟩) (hv:Ent (ev E v) v') (hl:setIA l n v'=l')
  (hr:R g pf Fin (.dr ops rest::k) (putO E dst .any) (setN objs i (.map (imap l')))):R g pf Fin (.dr ops (⟨dst,.mapUpdate T x y v,ty,pos,after,gd⟩::rest)::k) E objs:=by
 subst hl
 have hu:=(hg.ty _ _ hkt).sh
 simp only[ShFact]at hu
 refine R_op (LocOp.turning hg (grow_map ho) hgd hd (by simp) fun φ a' w hρ hs=>?_) hr
 simp only[Op.operands]at hρ
 have hxv:=hρ x (by simp)
 rw[hx]at hxv
 have hyv:=hρ y (by simp)
 rw[hy]at hyv
 have hvv:=hv _ _ _ _ (hρ v (by simp))
 simp only[RV]at hxv hyv
 obtain⟨b',hb,hxv⟩:=hxv
 generalize hvy:a'.eval y=vy at hyv
 cases hyv
 have hko:=obj_at hs hb ho
 simp only[ObOk]at hko
 obtain⟨ents,clk,hheap,hents⟩:=hko
 have hT':g.P.underlying T=some (.map kt et):=by have:=(hg.ty _ _ hT).sh;simpa only[ShFact]using this
 rw[setN_eq]
 rcases findA_setI (k':=.i64) (n:=n) (v:=v') (l:=l) (i:=0) with ⟨h1,h2⟩ |⟨j,x0,h1,h2,h3⟩
 ·have hfind:=findA_ok hents h1
  simp only at hfind
  rw[h2]
  have hset:=heap_set (o':=.map (ents.push { key:=.int .i64 n,val:=a'.eval v,born:=clk }) (clk+1)) hheap
  refine⟨.skip,undef,{ w with heap:=w.heap.setIfInBounds b' (.map (ents.push { key:=.int .i64 n,val:=a'.eval v,born:=clk }) (clk+1)) },φ.set i (.blk b'),?_,.inr ⟨rfl,rfl⟩,by simp[RV],?_⟩
  ·simp[execOp,Instr.mapUpdate,run_underlying hT',hxv,run_getObj_map hheap,hvy,run_checkKey hu (show IsKey (.int .i64) (.int .i64 n) by simp[IsKey]),run_findKey hu hfind,run_setObj_map _ hheap]
  ·refine Stp.swap hs hb (.inl rfl) (by simp) (fun c _ hc=>hset.2 c fun e=>hc (by rw [e]; rfl)) (fun b' hb=>.inl hb) rfl rfl rfl fun hkeep hle=>?_
   simp only[ObOk]
   refine⟨_,_,hset.1,?_,?_⟩
   ·have:=hents.1
    simp only[imap,List.map_append,List.map_map,List.map_cons,List.map_nil,Array.toList_push]at this ⊢
    rw[this]
   ·have:=(hents.2.mono hkeep hle).append (l':=[v']) (vs':=[a'.eval v]) (by simp only [RVs,and_true]; exact hvv.mono hkeep hle)
    simpa[imap]using this
 ·have hfind:=findA_ok hents h1
  simp only at hfind
  obtain⟨vv,f1,f2,_,_,f,f3,f4⟩:=hfind
  rw[Nat.zero_add]at f1
  rw[Nat.zero_add,Nat.sub_zero]at f3
  rw[h3]
  have hkey:f.key=.int .i64 n:=by
   have hk:=hents.1
   have e1:((imap l).map (·.1))[j]? = some (.int .i64 n):=by simp[imap,h2]
   rw[hk]at e1
   have e2:(ents.toList.map (·.key))[j]? = some f.key:=by rw[List.getElem?_map,f3];rfl
   exact Option.some.inj (e2.symm.trans e1)
  obtain⟨f',hf'⟩:∃f':MapEntry→MapEntry,f'=fun e=>{ e with key:=.int .i64 n,val:=a'.eval v }:=⟨_,rfl⟩
  have hset:=heap_set (o':=.map (ents.modify j f') clk) hheap
  have f3':ents[j]? = some f:=by simpa using f3
  refine⟨.skip,undef,{ w with heap:=w.heap.setIfInBounds b' (.map (ents.modify j f') clk) },φ.set i (.blk b'),?_,.inr ⟨rfl,rfl⟩,by simp[RV],?_⟩
  ·simp[execOp,Instr.mapUpdate,run_underlying hT',hxv,run_getObj_map hheap,hvy,run_checkKey hu (show IsKey (.int .i64) (.int .i64 n) by simp[IsKey]),run_findKey hu f1,f3',hkey,stay_int,run_setObj_map _ hheap,hf']
  ·refine Stp.swap hs hb (.inl rfl) (by simp) (fun c _ hc=>hset.2 c fun e=>hc (by rw [e]; rfl)) (fun b' hb=>.inl hb) rfl rfl rfl fun hkeep hle=>?_
   simp only[ObOk]
   have hml:(ents.modify j f').toList=ents.toList.set j (f' f):=by
    rw[Array.toList_modify,list_modify_set f' _ _ f f3]
   refine⟨_,_,hset.1,?_,?_⟩
   ·have:=hents.1
    rw[hml]
    simp only[imap,List.map_map,List.map_set]at this ⊢
    rw[this,hf']
   ·have:=rvs_set j (hents.2.mono hkeep hle) (hvv.mono hkeep hle)
    rw[hml]
    simp only[imap,List.map_map,List.map_set]at this ⊢
    rw[show (f' f).val=a'.eval v by rw[hf']]
    exact this
end
end PSL

namespace PSL
open Go Go.RowKit Go.MapKept

mutual
def stT:Tm→Int→Nat
 | .mk k _ n l,v=>(if k=1∧n=v then 1 else 0)+stL l v
def stL:List Tm→Int→Nat
 |[],_=>0
 |x::r,v=>stT x v+stL r v
end
theorem stT_eq (t:Tm)(v:Int):stT t v=(if t.k=1∧t.n=v then 1 else 0)+stL t.l v:=by cases t;rw[stT];rfl

mutual
theorem stT_le:∀ (t:Tm) (v:Int),stT t v≤t.size
 | .mk k s n l,v=>by
  have:=stL_le l v
  simp only[stT,Tm.size]
  split<;>omega
theorem stL_le:∀ (l:List Tm) (v:Int),stL l v≤Tm.sizeL l
 |[],_=>by simp[stL]
 |x::r,v=>by
  have h1:=stT_le x v
  have h2:=stL_le r v
  simp only[stL,Tm.sizeL];omega
end

theorem tml_len:∀l:List Tm,l.length≤Tm.sizeL l
 |[]=>by simp
 |x::r=>by have:=tml_len r;have:=Gl.tmPos x;simp only[Tm.sizeL,List.length_cons];omega

def offA (id:ByteArray→Nat→Bool)(k:Int)(s:ByteArray)(x:Tm)(i:Nat):Bool:=(k==1)&&(x.k==1)&&id s i

def lkA (id:ByteArray→Nat→Bool) (k:Int) (s:ByteArray):List Tm→Nat→Int→Nat
 |[],_,_=>0
 |x::r,i,v=>(if offA id k s x i then 0 else stT x v)+lkA id k s r (i+1) v

mutual
def lkG (id:ByteArray→Nat→Bool):Gl→Int→Nat
 | .mk k t a b c,v=>lkA id k t.s t.l 0 v+lkGs id a v+lkGs id b v+lkGs id c v
def lkGs (id:ByteArray→Nat→Bool):List Gl→Int→Nat
 |[],_=>0
 |g::r,v=>lkG id g v+lkGs id r v
end
theorem lkG_eq (id:ByteArray→Nat→Bool)(g:Gl)(v:Int):lkG id g v=lkA id g.k g.t.s g.t.l 0 v+lkGs id g.a v+lkGs id g.b v+lkGs id g.c v:=by cases g;rw[lkG];rfl

theorem lkA_le (id:ByteArray→Nat→Bool)(k:Int)(s:ByteArray):∀ (l:List Tm) (i:Nat) (v:Int),lkA id k s l i v≤Tm.sizeL l
 |[],_,_=>by simp[lkA]
 |x::r,i,v=>by
  have h1:=stT_le x v
  have h2:=lkA_le id k s r (i+1) v
  simp only[lkA,Tm.sizeL];split<;>omega

theorem lkG_le (id:ByteArray→Nat→Bool)(g:Gl)(v:Int):lkG id g v≤g.size:=by
 induction g using Gl.ind with
 |h g iha ihb ihc =>
  have hL:∀l:List Gl,(∀x∈l,lkG id x v≤x.size)→lkGs id l v≤Gl.sizeL l:=by
   intro l
   induction l with
   |nil=>intro _;simp[lkGs]
   |cons x r ih =>
    intro h
    have h1:=h x (by simp)
    have h2:=ih fun y hy=>h y (by simp[hy])
    simp only[lkGs,Gl.sizeL];omega
  have h1:=hL _ iha
  have h2:=hL _ ihb
  have h3:=hL _ ihc
  have h4:=lkA_le id g.k g.t.s g.t.l 0 v
  have h5:=Gl.size_eq g
  have h6:=Tm.size_eq g.t
  rw[lkG_eq];omega

theorem lkGs_le (id:ByteArray→Nat→Bool):∀ (l:List Gl) (v:Int),lkGs id l v≤Gl.sizeL l
 |[],_=>by simp[lkGs]
 |g::r,v=>by have h1:=lkG_le id g v;have h2:=lkGs_le id r v;simp only[lkGs,Gl.sizeL];omega
def cM (N:List (Int × Int)):List (Int × AV):=N.map fun e=>(e.1,iV e.2)

def cnB:List (Int × Int)→Int→Int
 |[],_=>0
 |e::r,v=>if e.1=v then e.2 else cnB r v

def bump:List (Int × Int)→Int→List (Int × Int)
 |[],v=>[(v,1)]
 |e::r,v=>if e.1=v then (v,e.2+1)::r else e::bump r v

theorem cnB_bump:∀ (N:List (Int × Int)) (v w:Int),cnB (bump N v) w=cnB N w+(if v=w then 1 else 0)
 |[],v,w=>by simp[bump,cnB]
 |e::r,v,w=>by
  simp only[bump]
  by_cases h:e.1=v
  ·rw [if_pos h]
   simp only[cnB]
   by_cases h2:v=w
   ·rw[if_pos h2,if_pos (h.trans h2),if_pos h2]
   ·rw[if_neg h2,if_neg (fun h3=>h2 (h.symm.trans h3)),if_neg h2];omega
  ·rw [if_neg h]
   simp only[cnB]
   by_cases h2:e.1=w
   ·rw[if_pos h2,if_pos h2,if_neg (fun h3=>h (h2.trans h3.symm))];omega
   ·rw[if_neg h2,if_neg h2,cnB_bump r v w]

theorem set_bump:∀ (N:List (Int × Int)) (v:Int),setIA (cM N) v (iV (cnB N v+1))=cM (bump N v)
 |[],v=>rfl
 |e::r,v=>by
  simp only[cM,List.map_cons,setIA,cnB,bump]
  by_cases h:e.1=v
  ·rw[if_pos h,if_pos h,if_pos h];rfl
  ·rw [if_neg h,if_neg h,if_neg h]
   have:=set_bump r v
   simp only[cM]at this
   rw[this];rfl

mutual
def kuT:List (Int × Int)→Tm→List (Int × Int)
 |N,.mk k _ n l=>kuL (if k=1 then bump N n else N) l
def kuL:List (Int × Int)→List Tm→List (Int × Int)
 |N,[]=>N
 |N,x::r=>kuL (kuT N x) r
end
theorem kuT_eq (N:List (Int × Int))(t:Tm):kuT N t=kuL (if t.k=1 then bump N t.n else N) t.l:=by cases t;rw[kuT];rfl

def kuA (id:ByteArray→Nat→Bool) (k:Int) (s:ByteArray):List (Int × Int)→List Tm→Nat→List (Int × Int)
 |N,[],_=>N
 |N,x::r,i=>kuA id k s (if offA id k s x i then N else kuT N x) r (i+1)

mutual
def kuG (id:ByteArray→Nat→Bool):List (Int × Int)→Gl→List (Int × Int)
 |N,.mk k t a b c=>kuGs id (kuGs id (kuGs id (kuA id k t.s N t.l 0) a) b) c
def kuGs (id:ByteArray→Nat→Bool):List (Int × Int)→List Gl→List (Int × Int)
 |N,[]=>N
 |N,g::r=>kuGs id (kuG id N g) r
end
theorem kuG_eq (id:ByteArray→Nat→Bool)(N:List (Int × Int))(g:Gl):kuG id N g=kuGs id (kuGs id (kuGs id (kuA id g.k g.t.s N g.t.l 0) g.a) g.b) g.c:=by cases g;rw[kuG];rfl

mutual
theorem cnB_kuT:∀ (t:Tm) (N:List (Int × Int)) (v:Int),cnB (kuT N t) v=cnB N v+stT t v
 | .mk k s n l,N,v=>by
  rw[kuT,cnB_kuL l,stT]
  by_cases h:k=1
  ·rw [if_pos h,cnB_bump]
   by_cases h2:n=v
   ·rw[if_pos h2,if_pos ⟨h,h2⟩];push_cast;omega
   ·rw[if_neg h2,if_neg (fun x=>h2 x.2)];push_cast;omega
  ·rw[if_neg h,if_neg (fun x=>h x.1)];push_cast;omega
theorem cnB_kuL:∀ (l:List Tm) (N:List (Int × Int)) (v:Int),cnB (kuL N l) v=cnB N v+stL l v
 |[],N,v=>by simp[kuL,stL]
 |x::r,N,v=>by rw[kuL,cnB_kuL r,cnB_kuT x,stL];push_cast;omega
end

theorem cnB_kuA (id:ByteArray→Nat→Bool)(k:Int)(s:ByteArray):∀ (l:List Tm) (N:List (Int × Int)) (i:Nat) (v:Int),cnB (kuA id k s N l i) v=cnB N v+lkA id k s l i v
 |[],N,i,v=>by simp[kuA,lkA]
 |x::r,N,i,v=>by
  rw[kuA,cnB_kuA id k s r,lkA]
  by_cases h:offA id k s x i=true
  ·rw[if_pos h,if_pos h];push_cast;omega
  ·rw[if_neg h,if_neg h,cnB_kuT];push_cast;omega

mutual
theorem cnB_kuG (id:ByteArray→Nat→Bool):∀ (g:Gl) (N:List (Int × Int)) (v:Int),cnB (kuG id N g) v=cnB N v+lkG id g v
 | .mk k t a b c,N,v=>by
  rw[kuG,cnB_kuGs id c,cnB_kuGs id b,cnB_kuGs id a,cnB_kuA,lkG];push_cast;omega
theorem cnB_kuGs (id:ByteArray→Nat→Bool):∀ (l:List Gl) (N:List (Int × Int)) (v:Int),cnB (kuGs id N l) v=cnB N v+lkGs id l v
 |[],N,v=>by simp[kuGs,lkGs]
 |g::r,N,v=>by rw[kuGs,cnB_kuGs id r,cnB_kuG id g,lkGs];push_cast;omega
end

theorem stT_some {t:Tm}{x:Tm}(hx:x∈t.l)(hk:x.k=1):1≤stT t x.n:=by
 have key:∀l:List Tm,x∈l→1≤stL l x.n:=by
  intro l
  induction l with
  |nil=>intro h;cases h
  |cons y r ih =>
   intro h
   simp only[stL]
   rcases List.mem_cons.1 h with rfl |h
   ·have:1≤stT x x.n:=by rw [stT_eq,if_pos ⟨hk,rfl⟩]; omega
    omega
   ·have:=ih h;omega
 have:=key _ hx
 rw[stT_eq];omega
def idM (M:List Sg)(s:ByteArray)(i:Nat):Bool:=hasS M (s,(i:Int))

def busyB (M:List Sg)(c:Cs)(i:Nat)(x:Tm):Bool:=idM M c.head.s i&&(!(x.k==1) || decide (1<stT c.head x.n+lkGs (idM M) c.body x.n))

def busyF (M:List Sg) (c:Cs):List Tm→Nat→List Sg
 |[],_=>[]
 |x::r,i=>(if busyB M c i x then [(c.head.s,(i:Int))] else [])++busyF M c r (i+1)
def busyL (M:List Sg)(c:Cs):List Sg:=busyF M c c.head.l 0
def rmS (M:List Sg)(p:Sg):List Sg:=M.filter fun q=>!decide (q=p)
def rmL (M:List Sg)(L:List Sg):List Sg:=L.foldl rmS M

def passM:List Cs→List Sg→List Sg
 |[],M=>M
 |c::r,M=>passM r (rmL M (busyL M c))

def addFrom (s:ByteArray):List Sg→Nat→Nat→List Sg
 |M,_,0=>M
 |M,i,m+1=>addFrom s (addS M (s,(i:Int))) (i+1) m
def addArgs (s:ByteArray)(M:List Sg)(n:Nat):List Sg:=addFrom s M 0 n
def spotsL (l:List Cs):List Sg:=l.foldl (fun M c=>addArgs c.head.s M c.head.l.length) []

def idleF:Nat→List Cs→List Sg→List Sg
 |0,_,M=>M
 |f+1,l,M=>if (passM l M).length=M.length then passM l M else idleF f l (passM l M)
def idleL (l:List Cs):List Sg:=idleF ((spotsL l).length+1) l (spotsL l)
end PSL

namespace PSL
open Go Go.RowKit Go.MapKept

def getS:List (ByteArray × AV)→ByteArray→Option AV
 |[],_=>none
 |p::r,n=>if p.1=n then some p.2 else getS r n
def smap (l:List (ByteArray × AV)):List (Value × AV):=l.map fun p=>(.string p.1,p.2)

theorem findA_getS {n:ByteArray}:∀ {l:List (ByteArray × AV)} {i:Nat},∃r,findA .string (.string n) (smap l) i=some r∧r.map (·.2)=getS l n
 |[],i=>⟨none,rfl,rfl⟩
 |p::l,i=>by
  obtain⟨r0,h1,h2⟩:=sameNow_of_keys (d:=.string) (a:=.string n) (b:=.string p.1) trivial trivial
  simp only[getS]
  by_cases h:p.1=n
  ·have h3:r0=true:=h2.2 (by rw [h])
   refine⟨some (i,p.2),?_,by simp[h]⟩
   simp only[smap,List.map_cons,findA,h1,h3]
  ·have h3:r0=false:=by
    cases r0 with
    |false=>rfl
    |true=>have:=h2.1 rfl;simp at this;exact absurd this.symm h
   obtain⟨r,h4,h5⟩:=findA_getS (n:=n) (l:=l) (i:=i+1)
   refine⟨r,?_,by rw[if_neg h];exact h5⟩
   simp only[smap,List.map_cons,findA,h1,h3]
   exact h4

theorem R_lookupS {g:G}{pf:Nat→Cls}{ops:Array Oper}{Fin:Exit→Act→World→Prop}(hg:GOk g){dst:Option Nat}{T:Nat}{x y:Operand}{ok:Bool}{ty:Nat}{pos:String}{after:Array Edge}{gd:Option (Nat × Bool)}{rest:List Oper}{k:List It}{E:Env}{objs:List Ob}
  {i q by_ q' by' kt et:Nat} {z z':List Value} {n:ByteArray} {zv:Value} (l:List (ByteArray × AV))
  (hgd:guardA ops.toList E gd=some true) (hd:dstOk ⟨g.ty,g.N⟩ dst=true) (hx:ev E x=.mp i) (ho:nth objs i=some (.map (smap l))) (hy:ev E y=.d (.v (.string n))) (hT:g.ty T=some ⟨q,by_,z,.map kt et⟩)
  (hkt:g.ty kt=some ⟨q',by',z',.str⟩) (hz:(g.P.info? et).bind (·.zero)=some zv) {v:AV} (hv:lookI' ok (cstV zv) (getS l n)=v)
  (hr:R g pf Fin (.dr ops rest::k) (putO E dst v) objs):R g pf Fin (.dr ops (⟨dst,.lookup T x y ok,ty,pos,after,gd⟩::rest)::k) E objs:=by
 subst hv
 have hu:=(hg.ty _ _ hkt).sh
 simp only[ShFact]at hu
 obtain⟨r,h1,h2⟩:=findA_getS (n:=n) (l:=l) (i:=0)
 refine R_lookup hg hgd hd hx ho hy hT hu (by simp[IsKey]) h1 hz ?_
 have:lookA ok (cstV zv) r=lookI' ok (cstV zv) (getS l n):=by rw[← h2];cases r<;>rfl
 rw[this];exact hr

theorem R_mapAddS {g:G}{pf:Nat→Cls}{ops:Array Oper}{Fin:Exit→Act→World→Prop}(hg:GOk g){dst:Option Nat}{T:Nat}{x y v:Operand}{ty:Nat}{pos:String}{after:Array Edge}{gd:Option (Nat × Bool)}{rest:List Oper}{k:List It}{E:Env}{objs:List Ob}
  {i q by_ q' by' kt et:Nat} {z z':List Value} {n:ByteArray} {av:AV} (l l':List (ByteArray × AV))
  (hgd:guardA ops.toList E gd=some true) (hd:dstOk ⟨g.ty,g.N⟩ dst=true) (hx:ev E x=.mp i) (ho:nth objs i=some (.map (smap l))) (hy:ev E y=.d (.v (.string n))) (hT:g.ty T=some ⟨q,by_,z,.map kt et⟩)
  (hkt:g.ty kt=some ⟨q',by',z',.str⟩) (hf:getS l n=none) (hav:ev E v=av) (hl:l++[(n,av)]=l')
  (hr:R g pf Fin (.dr ops rest::k) (putO E dst .any) (setN objs i (.map (smap l')))):R g pf Fin (.dr ops (⟨dst,.mapUpdate T x y v,ty,pos,after,gd⟩::rest)::k) E objs:=by
 subst hl;subst hav
 have hu:=(hg.ty _ _ hkt).sh
 simp only[ShFact]at hu
 obtain⟨r,h1,h2⟩:=findA_getS (n:=n) (l:=l) (i:=0)
 have:r=none:=by rw[hf]at h2;cases r with
  |none=>rfl
  |some _=>simp at h2
 subst this
 refine R_mapAdd hg hgd hd hx ho hy hT hu (by simp[IsKey]) h1 ?_
 have e:smap l++[(Value.string n,ev E v)]=smap (l++[(n,ev E v)]):=by simp[smap]
 rw[e];exact hr

theorem R_insert {g:G}{pf:Nat→Cls}{ops:Array Oper}{Fin:Exit→Act→World→Prop}(hg:GOk g){dst:Option Nat}{T:Nat}{x y v:Operand}{ty:Nat}{pos:String}{after:Array Edge}{gd:Option (Nat × Bool)}{rest:List Oper}{k:List It}{E:Env}{objs:List Ob}
  {i q by_ kt et:Nat} {z:List Value} {es:List (Value × AV)} {kv:Value} {kd:TypeDesc}
  (hgd:guardA ops.toList E gd=some true) (hd:dstOk ⟨g.ty,g.N⟩ dst=true) (hx:ev E x=.mp i) (ho:nth objs i=some (.map es)) (hy:ev E y=.d (.v kv)) (hT:g.ty T=some ⟨q,by_,z,.map kt et⟩)
  (hkt:g.P.underlying kt=some kd) (hkey:IsKey kd kv) (hf:findA kd kv es 0=some none)
  (hr:R g pf Fin (.dr ops rest::k) (putO E dst .any) (setN objs i (.map (es++[(kv,ev E v)])))):R g pf Fin (.dr ops (⟨dst,.insert T x y v,ty,pos,after,gd⟩::rest)::k) E objs:=by
 refine R_op (LocOp.turning hg (grow_map ho) hgd hd (by simp) fun φ a w hρ hs=>?_) hr
 simp only[Op.operands]at hρ
 have hxv:=hρ x (by simp)
 rw[hx]at hxv
 have hyv:=hρ y (by simp)
 rw[hy]at hyv
 have hvv:=hρ v (by simp)
 simp only[RV]at hxv hyv
 obtain⟨b,hb,hxv⟩:=hxv
 generalize hvy:a.eval y=vy at hyv
 cases hyv
 have hk:=obj_at hs hb ho
 simp only[ObOk]at hk
 obtain⟨ents,clk,hheap,hents⟩:=hk
 have hT':g.P.underlying T=some (.map kt et):=by have:=(hg.ty _ _ hT).sh;simpa only[ShFact]using this
 have hfind:=findA_ok hents hf
 simp only at hfind
 have hset:=heap_set (o':=.map (ents.push { key:=kv,val:=a.eval v,born:=clk }) (clk+1)) hheap
 rw[setN_eq]
 refine⟨.skip,undef,{ w with heap:=w.heap.setIfInBounds b (.map (ents.push { key:=kv,val:=a.eval v,born:=clk }) (clk+1)) },φ.set i (.blk b),?_,.inr ⟨rfl,rfl⟩,by simp[RV],?_⟩
 ·simp[execOp,Instr.mapUpdate,run_underlying hT',hxv,run_getObj_map hheap,hvy,run_checkKey hkt hkey,run_findKey hkt hfind,run_setObj_map _ hheap]
 ·refine Stp.swap hs hb (.inl rfl) (by simp) (fun c _ hc=>hset.2 c fun e=>hc (by rw [e]; rfl)) (fun b' hb=>.inl hb) rfl rfl rfl fun hkeep hle=>?_
  simp only[ObOk]
  refine⟨_,_,hset.1,?_,?_⟩
  ·simp[hents.1]
  ·have:=(hents.2.mono hkeep hle).append (l':=[ev E v]) (vs':=[a.eval v]) (by simp only [RVs,and_true]; exact hvv.mono hkeep hle)
   simpa using this

theorem R_insertS {g:G}{pf:Nat→Cls}{ops:Array Oper}{Fin:Exit→Act→World→Prop}(hg:GOk g){dst:Option Nat}{T:Nat}{x y v:Operand}{ty:Nat}{pos:String}{after:Array Edge}{gd:Option (Nat × Bool)}{rest:List Oper}{k:List It}{E:Env}{objs:List Ob}
  {i q by_ q' by' kt et:Nat} {z z':List Value} {n:ByteArray} {av:AV} (l l':List (ByteArray × AV))
  (hgd:guardA ops.toList E gd=some true) (hd:dstOk ⟨g.ty,g.N⟩ dst=true) (hx:ev E x=.mp i) (ho:nth objs i=some (.map (smap l))) (hy:ev E y=.d (.v (.string n))) (hT:g.ty T=some ⟨q,by_,z,.map kt et⟩)
  (hkt:g.ty kt=some ⟨q',by',z',.str⟩) (hf:getS l n=none) (hav:ev E v=av) (hl:l++[(n,av)]=l')
  (hr:R g pf Fin (.dr ops rest::k) (putO E dst .any) (setN objs i (.map (smap l')))):R g pf Fin (.dr ops (⟨dst,.insert T x y v,ty,pos,after,gd⟩::rest)::k) E objs:=by
 subst hl;subst hav
 have hu:=(hg.ty _ _ hkt).sh
 simp only[ShFact]at hu
 obtain⟨r,h1,h2⟩:=findA_getS (n:=n) (l:=l) (i:=0)
 have:r=none:=by rw[hf]at h2;cases r with
  |none=>rfl
  |some _=>simp at h2
 subst this
 refine R_insert hg hgd hd hx ho hy hT hu (by simp[IsKey]) h1 ?_
 have e:smap l++[(Value.string n,ev E v)]=smap (l++[(n,ev E v)]):=by simp[smap]
 rw[e];exact hr
namespace Tm
end Tm
end PSL
namespace PSL
open Go
end PSL
namespace PSL
open Go Go.RowKit
end PSL
namespace PSL
open Go Go.RowKit
end PSL

namespace PSL
open Go Go.RowKit Go.MapKept

def setSA:List (ByteArray × AV)→ByteArray→AV→List (ByteArray × AV)
 |[],n,v=>[(n,v)]
 |p::r,n,v=>if p.1=n then (n,v)::r else p::setSA r n v

theorem findA_setS {n:ByteArray}{v:AV}:∀ {l:List (ByteArray × AV)} {i:Nat},(findA .string (.string n) (smap l) i=some none∧setSA l n v=l++[(n,v)])∨(∃j x,findA .string (.string n) (smap l) i=some (some (i+j,x))∧l[j]? = some (n,x)∧setSA l n v=l.set j (n,v))
 |[],i=>.inl ⟨rfl,rfl⟩
 |p::l,i=>by
  obtain⟨r0,g1,g2⟩:=sameNow_of_keys (d:=.string) (a:=.string n) (b:=.string p.1) trivial trivial
  by_cases h:p.1=n
  ·have h1:r0=true:=g2.2 (by rw [h])
   refine .inr ⟨0,p.2,?_,by subst h;rfl,by simp[setSA,h]⟩
   simp only[smap,List.map_cons,findA,g1,h1,Nat.add_zero]
  ·have h1:r0=false:=by
    cases r0 with
    |false=>rfl
    |true=>have:=g2.1 rfl;simp at this;exact absurd this.symm h
   rcases findA_setS (n:=n) (v:=v) (l:=l) (i:=i+1) with ⟨h2,h3⟩ |⟨j,x,h2,h3,h4⟩
   ·refine .inl ⟨?_,by simp [setSA,h,h3]⟩
    simp only[smap,List.map_cons,findA,g1,h1]
    exact h2
   ·refine .inr ⟨j+1,x,?_,by simpa using h3,by simp [setSA,h,h4]⟩
    simp only[smap,List.map_cons,findA,g1,h1]
    rw[show i+(j+1)=i+1+j by omega]
    exact h2

theorem stay_str {P:Program}{w:World}(n:ByteArray):(Instr.keyThatStays (.string n) (.string n)).run P w=.ok (.string n) w:=by
 have:Instr.sameBits 10000 (.string n) (.string n)=true:=by simp[Instr.sameBits,bytes_beq]
 simp[Instr.keyThatStays,this]
section
variable {g:G} {pf:Nat→Cls} {ops:Array Oper} {Fin:Exit→Act→World→Prop}

theorem R_setSt (hg:GOk g){dst:Option Nat}{T:Nat}{x y v:Operand}{ty:Nat}{pos:String}{after:Array Edge}{gd:Option (Nat × Bool)}{rest:List Oper}{k:List It}{E:Env}{objs:List Ob}
  {i q by_ q' by' kt et:Nat} {z z':List Value} {n:ByteArray} {v':AV} (l l':List (ByteArray × AV))
  (hgd:guardA ops.toList E gd=some true) (hd:dstOk ⟨g.ty,g.N⟩ dst=true) (hx:ev E x=.mp i) (ho:nth objs i=some (.map (smap l))) (hy:ev E y=.d (.v (.string n))) (hT:g.ty T=some ⟨q,by_,z,.map kt et⟩)
  (hkt:g.ty kt=some ⟨q',by',z',.str⟩) (hv:Ent (ev E v) v') (hl:setSA l n v'=l')
  (hr:R g pf Fin (.dr ops rest::k) (putO E dst .any) (setN objs i (.map (smap l')))):R g pf Fin (.dr ops (⟨dst,.mapUpdate T x y v,ty,pos,after,gd⟩::rest)::k) E objs:=by
 subst hl
 have hu:=(hg.ty _ _ hkt).sh
 simp only[ShFact]at hu
 refine R_op (LocOp.turning hg (grow_map ho) hgd hd (by simp) fun φ a' w hρ hs=>?_) hr
 simp only[Op.operands]at hρ
 have hxv:=hρ x (by simp)
 rw[hx]at hxv
 have hyv:=hρ y (by simp)
 rw[hy]at hyv
 have hvv:=hv _ _ _ _ (hρ v (by simp))
 simp only[RV]at hxv hyv
 obtain⟨b',hb,hxv⟩:=hxv
 generalize hvy:a'.eval y=vy at hyv
 cases hyv
 have hko:=obj_at hs hb ho
 simp only[ObOk]at hko
 obtain⟨ents,clk,hheap,hents⟩:=hko
 have hT':g.P.underlying T=some (.map kt et):=by have:=(hg.ty _ _ hT).sh;simpa only[ShFact]using this
 rw[setN_eq]
 rcases findA_setS (n:=n) (v:=v') (l:=l) (i:=0) with ⟨h1,h2⟩ |⟨j,x0,h1,h2,h3⟩
 ·have hfind:=findA_ok hents h1
  simp only at hfind
  rw[h2]
  have hset:=heap_set (o':=.map (ents.push { key:=.string n,val:=a'.eval v,born:=clk }) (clk+1)) hheap
  refine⟨.skip,undef,{ w with heap:=w.heap.setIfInBounds b' (.map (ents.push { key:=.string n,val:=a'.eval v,born:=clk }) (clk+1)) },φ.set i (.blk b'),?_,.inr ⟨rfl,rfl⟩,by simp[RV],?_⟩
  ·simp[execOp,Instr.mapUpdate,run_underlying hT',hxv,run_getObj_map hheap,hvy,run_checkKey hu (show IsKey .string (.string n) by simp[IsKey]),run_findKey hu hfind,run_setObj_map _ hheap]
  ·refine Stp.swap hs hb (.inl rfl) (by simp) (fun c _ hc=>hset.2 c fun e=>hc (by rw [e]; rfl)) (fun b' hb=>.inl hb) rfl rfl rfl fun hkeep hle=>?_
   simp only[ObOk]
   refine⟨_,_,hset.1,?_,?_⟩
   ·have:=hents.1
    simp only[smap,List.map_append,List.map_map,List.map_cons,List.map_nil,Array.toList_push]at this ⊢
    rw[this]
   ·have:=(hents.2.mono hkeep hle).append (l':=[v']) (vs':=[a'.eval v]) (by simp only [RVs,and_true]; exact hvv.mono hkeep hle)
    simpa[smap]using this
 ·have hfind:=findA_ok hents h1
  simp only at hfind
  obtain⟨vv,f1,f2,_,_,f,f3,f4⟩:=hfind
  rw[Nat.zero_add]at f1
  rw[Nat.zero_add,Nat.sub_zero]at f3
  rw[h3]
  have hkey:f.key=.string n:=by
   have hk:=hents.1
   have e1:((smap l).map (·.1))[j]? = some (.string n):=by simp[smap,h2]
   rw[hk]at e1
   have e2:(ents.toList.map (·.key))[j]? = some f.key:=by rw[List.getElem?_map,f3];rfl
   exact Option.some.inj (e2.symm.trans e1)
  obtain⟨f',hf'⟩:∃f':MapEntry→MapEntry,f'=fun e=>{ e with key:=.string n,val:=a'.eval v }:=⟨_,rfl⟩
  have hset:=heap_set (o':=.map (ents.modify j f') clk) hheap
  have f3':ents[j]? = some f:=by simpa using f3
  refine⟨.skip,undef,{ w with heap:=w.heap.setIfInBounds b' (.map (ents.modify j f') clk) },φ.set i (.blk b'),?_,.inr ⟨rfl,rfl⟩,by simp[RV],?_⟩
  ·simp[execOp,Instr.mapUpdate,run_underlying hT',hxv,run_getObj_map hheap,hvy,run_checkKey hu (show IsKey .string (.string n) by simp[IsKey]),run_findKey hu f1,f3',hkey,stay_str,run_setObj_map _ hheap,hf']
  ·refine Stp.swap hs hb (.inl rfl) (by simp) (fun c _ hc=>hset.2 c fun e=>hc (by rw [e]; rfl)) (fun b' hb=>.inl hb) rfl rfl rfl fun hkeep hle=>?_
   simp only[ObOk]
   have hml:(ents.modify j f').toList=ents.toList.set j (f' f):=by
    rw[Array.toList_modify,list_modify_set f' _ _ f f3]
   refine⟨_,_,hset.1,?_,?_⟩
   ·have:=hents.1
    rw[hml]
    simp only[smap,List.map_map,List.map_set]at this ⊢
    rw[this,hf']
   ·have:=rvs_set j (hents.2.mono hkeep hle) (hvv.mono hkeep hle)
    rw[hml]
    simp only[smap,List.map_map,List.map_set]at this ⊢
    rw[show (f' f).val=a'.eval v by rw[hf']]
    exact this
end

def nM (A:List (ByteArray × Int)):List (ByteArray × AV):=A.map fun e=>(e.1,iV e.2)

def nGet:List (ByteArray × Int)→ByteArray→Option Int
 |[],_=>none
 |e::r,p=>if e.1=p then some e.2 else nGet r p

def nSet:List (ByteArray × Int)→ByteArray→Int→List (ByteArray × Int)
 |[],p,v=>[(p,v)]
 |e::r,p,v=>if e.1=p then (p,v)::r else e::nSet r p v

theorem nM_set:∀ (A:List (ByteArray × Int)) (p:ByteArray) (v:Int),setSA (nM A) p (iV v)=nM (nSet A p v)
 |[],p,v=>rfl
 |e::r,p,v=>by
  have ih:=nM_set r p v
  simp only[nM,List.map_cons,setSA,nSet]at ih ⊢
  by_cases h:e.1=p
  ·rw[if_pos h,if_pos h];rfl
  ·rw[if_neg h,if_neg h,ih];rfl

theorem nM_get (A:List (ByteArray × Int))(p:ByteArray):getS (nM A) p=(nGet A p).map iV:=by
 induction A with
 |nil=>rfl
 |cons e r ih =>
  simp only[nM,List.map_cons,getS,nGet]at ih ⊢
  by_cases h:e.1=p
  ·rw[if_pos h,if_pos h];rfl
  ·rw[if_neg h,if_neg h,ih]

theorem nGet_set:∀ (A:List (ByteArray × Int)) (p q:ByteArray) (v:Int),nGet (nSet A p v) q=if p=q then some v else nGet A q
 |[],p,q,v=>by simp only[nSet,nGet]
 |e::r,p,q,v=>by
  simp only[nSet]
  by_cases he:e.1=p
  ·rw [if_pos he]
   simp only[nGet]
   split
   ·rfl
   ·rename_i h;rw[if_neg (by rw[he];exact h)]
  ·rw [if_neg he]
   simp only[nGet]
   rw[nGet_set r p q v]
   by_cases h1:e.1=q
   ·rw[if_pos h1,if_pos h1,if_neg (fun h=>he (by rw[h1,h]))]
   ·rw[if_neg h1,if_neg h1]

def singP:List (ByteArray × Int)→List Cs→Bool
 |_,[]=>true
 |A,c::r=>match nGet A c.head.s with
  |some n=>if n≠c.head.l.length then false else singP (nSet A c.head.s c.head.l.length) r
  |none=>singP (nSet A c.head.s c.head.l.length) r

theorem mapOb_n {f:AV→AV}(h:∀n,f (iV n)=iV n)(A:List (ByteArray × Int)):mapOb f (.map (smap (nM A)))=.map (smap (nM A)):=by
 simp only[mapOb,smap,nM,List.map_map]
 congr 1
 refine List.map_congr_left fun e _=>?_
 simp only[Function.comp_apply,h]
end PSL

namespace PSL
open Go Go.RowKit Go.MapKept

theorem rm_split {M:List Sg}{p:Sg}(hm:p∈M)(hn:M.Nodup):∃A B,M=A++p::B∧p ∉ A∧rmS M p=A++B:=by
 obtain⟨A,B,rfl⟩:=List.append_of_mem hm
 have h:=List.nodup_append.1 hn
 have hA:p ∉ A:=fun hp=>h.2.2 p hp p (by simp) rfl
 have hB:p ∉ B:=(List.nodup_cons.1 h.2.1).1
 refine⟨A,B,rfl,hA,?_⟩
 unfold rmS
 rw[List.filter_append,List.filter_cons]
 have f:∀L:List Sg,p ∉ L→L.filter (fun q=>!decide (q=p))=L:=fun L hL=>List.filter_eq_self.2 fun q hq=>by
  have:q≠p:=fun e=>hL (e ▸ hq)
  simp[this]
 rw[f A hA,f B hB]
 simp
theorem rm_nodup {M:List Sg}{p:Sg}(hn:M.Nodup):(rmS M p).Nodup:=hn.sublist List.filter_sublist

theorem mkM_set_inj {M:List Sg}{A B:List Sg}{p:Sg}{j:Nat}(hM:M=A++p::B)(hA:p ∉ A)(h:∀v,setK (mkM M) p v=(mkM M).set j (p,v))(hj:j<(mkM M).length):j=A.length:=by
 have h1:setK (mkM M) p (bV false)=(mkM A)++(p,bV false)::mkM B:=by
  subst hM
  clear h hj
  induction A with
  |nil=>simp[mkM,setK]
  |cons q A ih =>
   have hq:q≠p:=fun e=>hA (by simp[e])
   have:=ih fun hp=>hA (by simp[hp])
   simp only[mkM,List.cons_append,List.map_cons,setK,if_neg hq,List.map_append]at this ⊢
   rw[this]
 have h2:=h (bV false)
 rw[h1]at h2
 have h3:=congrArg (·[A.length]?) h2
 have hl:(mkM A).length=A.length:=by simp[mkM]
 rw[List.getElem?_append_right (by omega),hl,Nat.sub_self,List.getElem?_cons_zero]at h3
 by_cases hja:j=A.length
 ·exact hja
 ·rw [List.getElem?_set_ne hja] at h3
  subst hM
  simp only[mkM,List.map_append,List.map_cons]at h3
  rw[List.getElem?_append_right (by simp)]at h3
  simp[bV]at h3
section
variable {g:G} {pf:Nat→Cls} {ops:Array Oper} {Fin:Exit→Act→World→Prop}

theorem R_deleteT (hg:GOk g){dst:Option Nat}{T T':Nat}{x y:Operand}{ty:Nat}{pos:String}{after:Array Edge}{gd:Option (Nat × Bool)}{rest:List Oper}{k:List It}{E:Env}{objs:List Ob}
  {i q by_ kt et:Nat} {z:List Value} (p:Sg) (M:List Sg) (hk:SKey g.P kt) (hm:p∈M) (hn:M.Nodup)
  (hgd:guardA ops.toList E gd=some true) (hd:dstOk ⟨g.ty,g.N⟩ dst=true) (hx:ev E x=.mp i) (ho:nth objs i=some (.map (kmap (bM (tt M))))) (hy:ev E y=sgA p) (hT:g.ty T=some ⟨q,by_,z,.map kt et⟩)
  (hr:R g pf Fin (.dr ops rest::k) (putO E dst .any) (setN objs i (.map (kmap (bM (tt (rmS M p))))))):R g pf Fin (.dr ops (⟨dst,.call { callee:=.builtin .delete,args:=#[x,y],argTypes:=#[T,T'] },ty,pos,after,gd⟩::rest)::k) E objs:=by
 obtain⟨A,B,hM,hA,hrm⟩:=rm_split hm hn
 rw[bM_tt]at ho
 rw[bM_tt,hrm]at hr
 refine R_op (LocOp.effect hg hgd hd (by simp) fun φ a w hρ hs=>?_) hr
 simp only[Op.operands,Call.operands]at hρ
 have hxv:=hρ x (by simp)
 rw[hx]at hxv
 have hyv:=hρ y (by simp)
 rw[hy]at hyv
 have hvy:=sg_rv hyv
 simp only[RV]at hxv
 obtain⟨b,hb,hxv⟩:=hxv
 have hko:=obj_at hs hb ho
 simp only[ObOk]at hko
 obtain⟨ents,clk,hheap,hents⟩:=hko
 have hT':g.P.underlying T=some (.map kt et):=by have:=(hg.ty _ _ hT).sh;simpa only[ShFact]using this
 have hfind:=findK_ok hk p (i:=0) hents
 have hfk:=run_findKeyK hk (w:=w) p (entsK_head hents)
 rw[getK_mk,if_pos (hasS_iff.2 hm)]at hfind
 simp only at hfind
 obtain⟨j,vv,h1,h2,⟨f,h3,h4⟩,h5,h6⟩:=hfind
 have hj:=mkM_set_inj hM hA h6 h5
 subst hj
 rw[Nat.zero_add]at h1
 have hlen:ents.toList.length=A.length+(B.length+1):=by
  have:=congrArg List.length hents.1
  rw[hM]at this
  simpa[mkM,kmap]using this.symm
 have hsub:(ents.eraseIdxIfInBounds A.length).toList=ents.toList.eraseIdx A.length:=by
  unfold Array.eraseIdxIfInBounds
  rw[dif_pos (by simp at hlen;omega)]
  simp
 have hset:=heap_set (o':=.map (ents.eraseIdxIfInBounds A.length) clk) hheap
 have hrun:(Builtin.delete_ #[T,T'] ty #[.map (some b),skV p]).run g.P w=.ok (.tuple #[]) { w with heap:=w.heap.setIfInBounds b (.map (ents.eraseIdxIfInBounds A.length) clk) }:=by
  simp[Builtin.delete_,run_underlying hT',run_getObj_map hheap,hk.ck,hfk,h1,run_setObj_map _ hheap]
 rw[setN_eq]
 refine⟨.value (.tuple #[]),.tuple #[],{ w with heap:=w.heap.setIfInBounds b (.map (ents.eraseIdxIfInBounds A.length) clk) },φ.set i (.blk b),?_,.inl rfl,by simp[RV],?_⟩
 ·simp only[execOp,resolve,invoke,builtin,Sem.run_bind,Sem.run_pure,Result.andThen_ok,List.map_toArray,List.map_cons,List.map_nil,hxv,hvy,hrun]
 ·refine Stp.swap hs hb (.inl rfl) (by simp) (fun c _ hc=>hset.2 c fun e=>hc (by rw [e]; rfl)) (fun b' hb=>.inl hb) rfl rfl rfl fun hkeep hle=>?_
  simp only[ObOk]
  refine⟨_,_,hset.1,?_,?_⟩
  ·have h1:=hents.1
   rw[hsub,erase_map,← h1,hM]
   simp[kmap,mkM,List.eraseIdx_append_of_length_le]
  ·have h2:=(hents.2.mono hkeep hle)
   rw[hsub,erase_map]
   have h3:(kmap (mkM M)).map (·.2)=(kmap (mkM A)).map (·.2)++bV true::(kmap (mkM B)).map (·.2):=by rw[hM];simp[kmap,mkM]
   rw[h3]at h2
   have h4:=RVs_cut h2
   have h5:((kmap (mkM A)).map (·.2)).length=A.length:=by simp[kmap,mkM]
   rw[h5]at h4
   simpa[kmap,mkM]using h4

theorem look_cnt:∀ (N:List (Int × Int)) (v:Int),lookI' false (cstV (.int .i64 0)) (getI (cM N) v)=iV (cnB N v)
 |[],v=>rfl
 |e::r,v=>by
  have ih:=look_cnt r v
  simp only[cM,List.map_cons,getI,cnB]at ih ⊢
  by_cases h:e.1=v
  ·rw[if_pos h,if_pos h];rfl
  ·rw[if_neg h,if_neg h];exact ih
end

theorem mapOb_c {f:AV→AV}(h:∀n,f (iV n)=iV n)(N:List (Int × Int)):mapOb f (.map (imap (cM N)))=.map (imap (cM N)):=by
 simp only[mapOb,imap,cM,List.map_map]
 congr 1
 refine List.map_congr_left fun e _=>?_
 simp only[Function.comp_apply,h]

theorem renOb_c {f:Nat→Nat}(N:List (Int × Int)):renOb f (.map (imap (cM N)))=.map (imap (cM N)):=by
 have h:=mapOb_c (f:=renA f) (fun _=>rfl) N
 simpa only[mapOb,renOb]using h

def usO (M:List Sg)(N:List (Int × Int)):List Ob:=[.map (kmap (bM (tt M))),.map (imap (cM N))]

theorem usO_ren (f:Nat→Nat)(M:List Sg)(N:List (Int × Int)):(usO M N).map (renOb f)=usO M N:=by
 simp only[usO,List.map_cons,List.map_nil,renOb_b,renOb_c]

theorem usO_map {f:AV→AV}(h:∀b,f (bV b)=bV b)(h2:∀n,f (iV n)=iV n)(M:List Sg)(N:List (Int × Int)):(usO M N).map (mapOb f)=usO M N:=by
 simp only[usO,List.map_cons,List.map_nil,mapOb_b h,mapOb_c h2]

def spR (l:List Sg):List (List D):=l.map fun p=>[.v (.string p.1),.v (.int .i64 p.2)]
theorem spR_len (l:List Sg):(spR l).length=l.length:=by simp[spR]
theorem spR_get {l:List Sg}{i:Nat}{x:Sg}(h:l[i]? = some x):(spR l)[i]? = some [.v (.string x.1),.v (.int .i64 x.2)]:=by simp[spR,h]
theorem spR_snoc (l:List Sg)(p:Sg):spR l++[[.v (.string p.1),.v (.int .i64 p.2)]]=spR (l++[p]):=by simp[spR]

theorem busyF_len (M:List Sg)(c:Cs):∀ (l:List Tm) (i:Nat),(busyF M c l i).length≤l.length
 |[],_=>by simp[busyF]
 |x::r,i=>by
  have:=busyF_len M c r (i+1)
  simp only[busyF,List.length_append,List.length_cons]
  split<;>simp<;>omega

theorem rm_len {M:List Sg}{p:Sg}(hm:p∈M)(hn:M.Nodup):(rmS M p).length+1=M.length:=by
 obtain⟨A,B,h1,_,h2⟩:=rm_split hm hn
 rw[h2,h1];simp;omega
theorem rm_mem {M:List Sg}{p q:Sg}:q∈rmS M p↔q∈M∧q≠p:=by simp[rmS]

theorem busyF_mem {M:List Sg}{c:Cs}{p:Sg}:∀ {l:List Tm} {i:Nat},p∈busyF M c l i→p∈M∧∃j,∃x,l[j]? = some x∧p=(c.head.s,((i+j:Nat):Int))∧busyB M c (i+j) x=true
 |[],_,h=>by simp[busyF]at h
 |x::r,i,h=>by
  simp only[busyF,List.mem_append]at h
  rcases h with h |h
  ·split at h
   ·rename_i hb
    simp only[List.mem_singleton]at h
    subst h
    have:idM M c.head.s i=true:=by rw[busyB,Bool.and_eq_true]at hb;exact hb.1
    exact⟨hasS_iff.1 this,0,x,rfl,rfl,hb⟩
   ·cases h
  ·obtain ⟨h1,j,y,h2,h3,h4⟩:=busyF_mem h
   exact⟨h1,j+1,y,by simpa using h2,by rw[h3,show i+1+j=i+(j+1) by omega],by rw[show i+(j+1)=i+1+j by omega];exact h4⟩

theorem busyF_nodup {M:List Sg}{c:Cs}:∀ {l:List Tm} {i:Nat},(busyF M c l i).Nodup
 |[],_=>by simp[busyF]
 |x::r,i=>by
  simp only[busyF]
  split
  ·rw [List.singleton_append,List.nodup_cons]
   refine⟨fun h=>?_,busyF_nodup⟩
   obtain⟨_,j,y,_,h3,_⟩:=busyF_mem h
   have:=(Prod.mk.inj h3).2
   omega
  ·rw[List.nil_append];exact busyF_nodup
theorem rmL_cons (M:List Sg)(p:Sg)(L:List Sg):rmL M (p::L)=rmL (rmS M p) L:=rfl

theorem rmL_len:∀ {L M:List Sg},M.Nodup→L.Nodup→(∀p∈L,p∈M)→(rmL M L).length+L.length=M.length∧(rmL M L).Nodup
 |[],M,hn,_,_=>⟨by simp[rmL],hn⟩
 |p::L,M,hn,hl,hm=>by
  rw[List.nodup_cons]at hl
  have h1:=rm_len (hm p (by simp)) hn
  obtain⟨h2,h3⟩:=rmL_len (L:=L) (M:=rmS M p) (rm_nodup hn) hl.2 fun q hq=>rm_mem.2 ⟨hm q (by simp[hq]),fun e=>hl.1 (e ▸ hq)⟩
  rw[rmL_cons]
  exact⟨by simp only[List.length_cons];omega,h3⟩

theorem busy_rm (M:List Sg)(c:Cs)(hn:M.Nodup):(rmL M (busyL M c)).length+(busyL M c).length=M.length∧(rmL M (busyL M c)).Nodup :=
 rmL_len hn busyF_nodup fun _ hp=>(busyF_mem hp).1

theorem passM_len:∀ (l:List Cs) (M:List Sg),M.Nodup→(passM l M).length≤M.length∧(passM l M).Nodup
 |[],M,hn=>⟨Nat.le_refl _,hn⟩
 |c::r,M,hn=>by
  obtain⟨h1,h2⟩:=busy_rm M c hn
  obtain⟨h3,h4⟩:=passM_len r _ h2
  exact⟨by rw[passM];omega,h4⟩

theorem addS_nodup {M:List Sg}{p:Sg}(hn:M.Nodup):(addS M p).Nodup:=by
 unfold addS
 split
 ·exact hn
 ·rename_i h
  rw[List.nodup_append]
  exact⟨hn,by simp,fun a ha b hb e=>by simp only[List.mem_singleton]at hb;subst hb;subst e;exact h (hasS_iff.2 ha)⟩

theorem addFrom_nodup (s:ByteArray):∀ (m:Nat) (M:List Sg) (i:Nat),M.Nodup→(addFrom s M i m).Nodup
 |0,M,i,hn=>hn
 |m+1,M,i,hn=>addFrom_nodup s m _ (i+1) (addS_nodup hn)

theorem spots_nodup:∀ (l:List Cs) (M:List Sg),M.Nodup→(l.foldl (fun M c=>addArgs c.head.s M c.head.l.length) M).Nodup
 |[],M,hn=>hn
 |c::r,M,hn=>spots_nodup r _ (addFrom_nodup _ _ _ _ hn)

structure Kp where
 s:ByteArray
 n:Int
 at_:List Int
 deriving DecidableEq
def Kp.row (x:Kp):List D:=[.v (.string x.s),.v (.int .i64 x.n),.sl (irows x.at_)]
def kpR (l:List Kp):List (List D):=l.map Kp.row
theorem kpR_len (l:List Kp):(kpR l).length=l.length:=by simp[kpR]
theorem kpR_get {l:List Kp}{i:Nat}{x:Kp}(h:l[i]? = some x):(kpR l)[i]? = some x.row:=by simp[kpR,h]
theorem kpR_snoc (l:List Kp)(x:Kp):kpR l++[x.row]=kpR (l++[x]):=by simp[kpR]

def atsF (off:ByteArray→Nat→Bool) (s:ByteArray):Nat→Nat→List Int
 |_,0=>[]
 |i,m+1=>(if off s i then [] else [(i:Int)])++atsF off s (i+1) m

theorem atsF_len (off:ByteArray→Nat→Bool)(s:ByteArray):∀ (m i:Nat),(atsF off s i m).length≤m
 |0,_=>by simp[atsF]
 |m+1,i=>by
  have:=atsF_len off s m (i+1)
  simp only[atsF,List.length_append];split<;>simp<;>omega
def hasB (met:List ByteArray)(s:ByteArray):Bool:=met.any fun x=>decide (x=s)

def keepF (off:ByteArray→Nat→Bool):List ByteArray→List Cs→List Kp
 |_,[]=>[]
 |met,c::r=>if hasB met c.head.s then keepF off met r else ⟨c.head.s,c.head.l.length,atsF off c.head.s 0 c.head.l.length⟩::keepF off (met++[c.head.s]) r

theorem keepF_len (off:ByteArray→Nat→Bool):∀ (l:List Cs) (met:List ByteArray),(keepF off met l).length≤l.length
 |[],_=>by simp[keepF]
 |c::r,met=>by
  have h1:=keepF_len off r met
  have h2:=keepF_len off r (met++[c.head.s])
  simp only[keepF];split<;>simp<;>omega
def keepL (l:List Cs):List Kp:=keepF (idM (idleL l)) [] l
def mtS (met:List ByteArray):List (ByteArray × AV):=met.map fun s=>(s,bV true)

theorem mtS_get (met:List ByteArray)(s:ByteArray):getS (mtS met) s=if hasB met s then some (bV true) else none:=by
 induction met with
 |nil=>rfl
 |cons x r ih =>
  show (if x=s then some (bV true) else getS (mtS r) s)=_
  rw[show hasB (x::r) s=(decide (x=s) || hasB r s) from rfl]
  by_cases h:x=s
  ·rw[if_pos h,decide_eq_true h];rfl
  ·rw[if_neg h,ih,decide_eq_false h,Bool.false_or]

theorem mtS_set:∀ (met:List ByteArray) (s:ByteArray),hasB met s=false→setSA (mtS met) s (bV true)=mtS (met++[s])
 |[],s,_=>rfl
 |x::r,s,h=>by
  rw[show hasB (x::r) s=(decide (x=s) || hasB r s) from rfl,Bool.or_eq_false_iff,decide_eq_false_iff_not]at h
  have:=mtS_set r s h.2
  show (if x=s then (s,bV true)::mtS r else (x,bV true)::setSA (mtS r) s (bV true))=_
  rw[if_neg h.1,this];rfl

theorem mapOb_m {f:AV→AV}(h:∀b,f (bV b)=bV b)(met:List ByteArray):mapOb f (.map (smap (mtS met)))=.map (smap (mtS met)):=by
 simp only[mapOb,smap,mtS,List.map_map]
 congr 1
 refine List.map_congr_left fun e _=>?_
 simp only[Function.comp_apply,h]

def keepsR (l:List Cs):List Kp × Int:=if (checkR l).2=0∧singP [] l=true then (keepL l,0) else ([],1)
end PSL

namespace Go.Proofs.YtcgkgofmldhokaaGreat
open Go PSL Go.Proofs

theorem spotEq (d:Nat)(p q:Sg)(w:World):(Op.equalIn (d+1+1) 124 (skV p) (skV q)).run Tryz.prog w=.ok (decide (p=q)) w:=by
 obtain⟨s,n⟩:=p
 obtain⟨s',n'⟩:=q
 unfold skV
 rw[run_equalIn_agg w (d+1) 124 _ _ (by rw[Program.fieldsOf,Tryz.underlying124]) Tryz.stoodInHeld124]
 rw[Program.fieldsOf,Tryz.underlying124]
 simp[Op.eqFields,part,run_equalIn_int _ _ _ _ _ _ _ Tryz.underlying3,run_equalIn_string _ _ _ _ _ Tryz.underlying9]
 by_cases h1:s=s'
 ·subst h1
  by_cases h2:n=n'<;>simp[h2]
 ·have h2:¬ s.toList=s'.toList:=fun e=>h1 (Tm.strEq_iff.1 (by simp [strEq,e]))
  simp[h1,h2]

theorem spotCk (d:Nat)(b:Bool)(p:Sg)(w:World):(Instr.checkKey b (d+1+1) 124 (skV p)).run Tryz.prog w=.ok () w:=by
 simp[Instr.checkKey,skV,part,run_underlying Tryz.underlying124,run_underlying Tryz.underlying3,run_underlying Tryz.underlying9]
theorem spotKey:SKey Tryz.prog 124:=⟨⟨_,Tryz.underlying124⟩,fun p q w=>spotEq 9998 p q w,fun b p w=>spotCk 9998 b p w⟩
def usA:AV:=.agg [.mp 0,.mp 1]

theorem usesTerm_ok (Y:YP)(M:List Sg)(t:Tm):∀ (N:List (Int × Int)),t.size≤1000000→(∀v,0≤cnB N v∧cnB N v+t.size≤1000000000)→SCtr Tryz.prog Y 113 [usA,t.av] (usO M N) (.tup []) (usO M (kuT N t)):=by
 induction t using Tm.ind with
 |h t ih =>
 intro N hsz hN
 have hrl:=Tm.rows_length t.l
 have hse:=Tm.size_eq t
 have hll:=tml_len t.l
 refine SCtr.of_R (pf:=fun _=>.eff) tyOk mixed Tryz.func113 rfl (by kernel_rfl) (by kernel_rfl) (by simp[Tryz.ntmps113]) (by simp[usO]) fun w S φ hg=>?_
 have hφ:φ.length=2:=hg.hs0.len
 refine R_k hg.ok rfl rfl ?_
 refine R_cut1 (fun _:Unit=>([(2,.lo 2 0),(3,.lo 3 0)],usO M (if t.k=1 then bump N t.n else N)++[.box [.mp 0,.mp 1],boxR t])) (fun _=>True) rfl ?_ ?_
 ·refine R_if rfl rfl (fun h=>?_) (fun h=>?_) <;> refine R_run hg.ok 1000 rfl rfl ?_
  ·have h:=of_decide_eq_true h
   refine R_lookupI hg.ok (cM N) rfl rfl rfl rfl rfl rfl rfl (by kernel_rfl) (look_cnt N t.n) ?_
   refine R_k hg.ok rfl rfl ?_
   have hb:=hN t.n
   refine R_setI hg.ok (cM N) (cM (bump N t.n)) rfl rfl rfl rfl rfl rfl rfl (v':=iV (cnB N t.n+1)) (Ent.wrap rfl (by omega) (by omega)) (set_bump N t.n) ?_
   refine R_k hg.ok rfl rfl ?_
   refine R_to () trivial ⟨.refl _,.refl _,trivial⟩ ?_
   rw[if_pos h];rfl
  ·have h:=of_decide_eq_false h
   refine R_to () trivial ⟨.refl _,.refl _,trivial⟩ ?_
   rw[if_neg h];rfl
 rintro _ _
 generalize hN1:(if t.k=1 then bump N t.n else N)=N1
 have hkt:kuT N t=kuL N1 t.l:=by rw[kuT_eq,hN1]
 have hb1:∀v,0≤cnB N1 v∧cnB N1 v+Tm.sizeL t.l≤1000000000:=fun v=>by
  have:=hN v
  rw[← hN1]
  split
  ·rw[cnB_bump];split<;>omega
  ·omega
 rw[hkt]
 refine R_k hg.ok rfl rfl ?_
 refine R_loop (fun x:Nat × List (Int × Int)=>([(2,.lo 2 0),(16,.d (.sl (Tm.rows t.l))),(17,iV t.l.length),(18,iV x.1)],usO M x.2++[.box [.mp 0,.mp 1],boxR t])) (fun x=>x.1≤t.l.length∧kuL N1 t.l=kuL x.2 (t.l.drop x.1)∧∀v,0≤cnB x.2 v∧cnB x.2 v+Tm.sizeL (t.l.drop x.1)≤1000000000) (fun x=>t.l.length - x.1) (0,N1) ⟨Nat.zero_le _,rfl,hb1⟩ ⟨.refl _,.refl _,by rw[hrl];exact .refl _,.refl _,trivial⟩ rfl ?_
 rintro⟨k,N2⟩ ⟨hk,hm,hb2⟩
 simp only at hk hm hb2
 refine R_k hg.ok rfl rfl ?_
 refine R_if rfl rfl (fun h=>?_) (fun h=>?_)<;>refine R_k hg.ok rfl rfl ?_
 ·have hk1:k<t.l.length:=lt_dec h rfl
  have e1:t.l[k]? = some t.l[k]:=List.getElem?_eq_getElem hk1
  rw[List.drop_eq_getElem_cons hk1]at hm hb2
  have hmem:=List.getElem_mem hk1
  have hxs:=Tm.size_mem hmem
  generalize t.l[k]=x at e1 hm hb2 hmem hxs
  simp only[Tm.sizeL]at hb2
  rw[kuL]at hm
  refine R_index hg.ok rfl rfl rfl rfl rfl rfl (Int.natCast_nonneg _) (Tm.rows_get e1) rfl ?_
  refine R_k hg.ok rfl rfl ?_
  refine R_callSO hg.ok hg.gup hg.wide hg.Y [0,1] (usO M (kuT N2 x)++[.box [.mp 0,.mp 1],boxR t,boxR x]) (ih x hmem N2 (by omega) (fun v=>by have:=hb2 v;omega)) (fun _=>rfl) rfl rfl rfl rfl rfl (by rw[usO_ren];rfl) rfl (by rw[usO_ren];rfl) ?_
  refine R_k hg.ok rfl rfl ?_
  refine R_dropO 4 (usO M (kuT N2 x)++[.box [.mp 0,.mp 1],boxR t]) (by show φ.length≤4;omega) rfl (by show (usO M (kuT N2 x)).map (mapOb _)++_=_;rw[usO_map (fun _=>rfl) (fun _=>rfl)];rfl) ?_
  exact R_next (k+1,kuT N2 x) ⟨hk1,hm,fun v=>by have:=hb2 v;have:=stT_le x v;show 0≤cnB (kuT N2 x) v∧cnB (kuT N2 x) v+Tm.sizeL (t.l.drop (k+1))≤1000000000;rw[cnB_kuT];omega⟩ (by show t.l.length - (k+1)<t.l.length - k;omega) ⟨.refl _,.refl _,.refl _,Ent.wrap (by omega) (by omega) (by omega),trivial⟩ rfl
 ·have hk1:t.l.length≤k:=ge_dec h rfl
  rw[List.drop_eq_nil_of_le hk1,kuL]at hm
  rw[hm]
  exact R_endS hg 2 5 (by show (2:Nat)≤2;omega) rfl rfl (usO_map (fun _=>rfl) (fun _=>rfl) _ _)

theorem usesGoals_ok (Y:YP)(M:List Sg)(l:List Gl):∀ (N:List (Int × Int)),Gl.sizeL l≤1000000→(∀v,0≤cnB N v∧cnB N v+Gl.sizeL l≤1000000000)→SCtr Tryz.prog Y 114 [usA,.d (.sl (Gl.rows l))] (usO M N) (.tup []) (usO M (kuGs (idM M) N l)):=by
 refine Gl.indL (p:=fun l=>∀ (N:List (Int × Int)),Gl.sizeL l≤1000000→(∀v,0≤cnB N v∧cnB N v+Gl.sizeL l≤1000000000)→SCtr Tryz.prog Y 114 [usA,.d (.sl (Gl.rows l))] (usO M N) (.tup []) (usO M (kuGs (idM M) N l))) (fun l hsub=>?_) l
 intro N hsz hN
 have hrl:=Gl.rows_length l
 have hll:=Gl.len_size l
 refine SCtr.of_R (pf:=fun _=>.eff) tyOk mixed Tryz.func114 rfl (by kernel_rfl) (by kernel_rfl) (by simp[Tryz.ntmps114]) (by simp[usO]) fun w S φ hg=>?_
 have hφ:φ.length=2:=hg.hs0.len
 refine R_k hg.ok rfl rfl ?_
 refine R_loop (fun x:Nat × List (Int × Int)=>([(2,.lo 2 0),(8,.d (.sl (Gl.rows l))),(9,iV l.length),(10,iV x.1)],usO M x.2++[.box [.mp 0,.mp 1]])) (fun x=>x.1≤l.length∧kuGs (idM M) N l=kuGs (idM M) x.2 (l.drop x.1)∧∀v,0≤cnB x.2 v∧cnB x.2 v+Gl.sizeL (l.drop x.1)≤1000000000) (fun x=>l.length - x.1) (0,N) ⟨Nat.zero_le _,rfl,hN⟩ ⟨.refl _,.refl _,by rw[hrl];exact .refl _,.refl _,trivial⟩ rfl ?_
 rintro⟨k,N2⟩ ⟨hk,hm,hb2⟩
 simp only at hk hm hb2
 refine R_k hg.ok rfl rfl ?_
 refine R_if rfl rfl (fun h=>?_) (fun h=>?_)<;>refine R_k hg.ok rfl rfl ?_
 rotate_left
 ·have hk1:l.length≤k:=ge_dec h rfl
  rw[List.drop_eq_nil_of_le hk1,kuGs]at hm
  rw[hm]
  exact R_endS hg 2 5 (by show (2:Nat)≤2;omega) rfl rfl (usO_map (fun _=>rfl) (fun _=>rfl) _ _)
 have hk1:k<l.length:=lt_dec h rfl
 have e1:l[k]? = some l[k]:=List.getElem?_eq_getElem hk1
 rw[List.drop_eq_getElem_cons hk1]at hm hb2
 have hmem:=List.getElem_mem hk1
 have hgs:=Gl.size_mem hmem
 obtain⟨sa,sb,sc⟩:=hsub _ hmem
 generalize l[k]=g at e1 hm hb2 hmem hgs sa sb sc
 simp only[Gl.sizeL]at hb2
 rw[kuGs,kuG_eq]at hm
 have hge:=Gl.size_eq g
 have hte:=Tm.size_eq g.t
 have hta:=tml_len g.t.l
 have hrt:=Tm.rows_length g.t.l
 refine R_index hg.ok rfl rfl rfl rfl rfl rfl (Int.natCast_nonneg _) (Gl.rows_get e1) rfl ?_
 refine R_k hg.ok rfl rfl ?_
 refine R_cut2 (fun N3:List (Int × Int)=>([(2,.lo 2 0),(5,.lo 3 0),(8,.d (.sl (Gl.rows l))),(9,iV l.length),(10,iV k)],usO M N3++[.box [.mp 0,.mp 1],glBox g])) (fun N3=>N3=kuA (idM M) g.k g.t.s N2 g.t.l 0) rfl ?_ ?_
 ·refine R_loop (fun x:Nat × List (Int × Int)=>([(2,.lo 2 0),(5,.lo 3 0),(8,.d (.sl (Gl.rows l))),(9,iV l.length),(10,iV k),(16,.d (.sl (Tm.rows g.t.l))),(17,iV g.t.l.length),(18,iV x.1)],usO M x.2++[.box [.mp 0,.mp 1],glBox g])) (fun x=>x.1≤g.t.l.length∧kuA (idM M) g.k g.t.s N2 g.t.l 0=kuA (idM M) g.k g.t.s x.2 (g.t.l.drop x.1) x.1∧∀ v,0≤cnB x.2 v∧cnB x.2 v+Tm.sizeL (g.t.l.drop x.1)≤1000000000) (fun x=>g.t.l.length - x.1) (0,N2) ⟨Nat.zero_le _,rfl,fun v=>by have:=hb2 v; simp only [List.drop_zero]; omega⟩ ⟨.refl _,.refl _,.refl _,.refl _,.refl _,.refl _,by rw [hrt]; exact .refl _,.refl _,trivial⟩ rfl ?_
  rintro⟨i,N3⟩ ⟨hi,hm2,hb3⟩
  simp only at hi hm2 hb3
  refine R_k hg.ok rfl rfl ?_
  refine R_if rfl rfl (fun h=>?_) (fun h=>?_)<;>refine R_k hg.ok rfl rfl ?_
  rotate_left
  ·have hi1:g.t.l.length≤i:=ge_dec h rfl
   rw[List.drop_eq_nil_of_le hi1,kuA]at hm2
   exact R_to N3 hm2.symm ⟨.refl _,.refl _,.refl _,.refl _,.refl _,trivial⟩ rfl
  have hi1:i<g.t.l.length:=lt_dec h rfl
  have e2:g.t.l[i]? = some g.t.l[i]:=List.getElem?_eq_getElem hi1
  rw[List.drop_eq_getElem_cons hi1]at hm2 hb3
  have hxs:=Tm.size_mem (List.getElem_mem hi1)
  generalize g.t.l[i]=x at e2 hm2 hb3 hxs
  simp only[Tm.sizeL]at hb3
  rw[kuA]at hm2
  refine R_index hg.ok rfl rfl rfl rfl rfl rfl (Int.natCast_nonneg _) (Tm.rows_get e2) rfl ?_
  refine R_k hg.ok rfl rfl ?_
  have hnext:∀N4,N4=(if offA (idM M) g.k g.t.s x i then N3 else kuT N3 x)→(i+1≤g.t.l.length∧kuA (idM M) g.k g.t.s N2 g.t.l 0=kuA (idM M) g.k g.t.s N4 (g.t.l.drop (i+1)) (i+1)∧∀v,0≤cnB N4 v∧cnB N4 v+Tm.sizeL (g.t.l.drop (i+1))≤1000000000):=by
   rintro N4 rfl
   refine⟨hi1,hm2,fun v=>?_⟩
   have h1:=hb3 v
   have h2:=stT_le x v
   split
   ·omega
   ·rw[cnB_kuT];omega
  refine R_cut1 (fun b:Bool=>([(2,.lo 2 0),(5,.lo 3 0),(7,.lo 4 0),(8,.d (.sl (Gl.rows l))),(9,iV l.length),(10,iV k),(16,.d (.sl (Tm.rows g.t.l))),(17,iV g.t.l.length),(18,iV i),(40,bV b)],usO M N3++[.box [.mp 0,.mp 1],glBox g,boxR x])) (fun b=>b=offA (idM M) g.k g.t.s x i) rfl ?_ ?_
  ·refine R_if rfl rfl (fun h=>?_) (fun h=>?_) <;> refine R_run hg.ok 1000 rfl rfl ?_
   ·have h:g.k=1:=of_decide_eq_true h
    refine R_if rfl rfl (fun h2=>?_) (fun h2=>?_)<;>refine R_k hg.ok rfl rfl ?_
    ·have h2:x.k=1:=of_decide_eq_true h2
     refine R_lookupB hg.ok (g.t.s,(i:Int)) (tt M) spotKey rfl rfl rfl rfl rfl rfl (by kernel_rfl) ?_
     refine R_k hg.ok rfl rfl ?_
     refine R_to (offA (idM M) g.k g.t.s x i) rfl ⟨.refl _,.refl _,.refl _,.refl _,.refl _,.refl _,.refl _,.refl _,.refl _,?_,trivial⟩ rfl
     rw[offA,h,h2,idM,← lk_tt];exact .refl _
    ·have h2:¬ x.k=1:=of_decide_eq_false h2
     refine R_to false (by simp[offA,h2]) ⟨.refl _,.refl _,.refl _,.refl _,.refl _,.refl _,.refl _,.refl _,.refl _,.ff,trivial⟩ rfl
   ·have h:¬ g.k=1:=of_decide_eq_false h
    refine R_to false (by simp[offA,h]) ⟨.refl _,.refl _,.refl _,.refl _,.refl _,.refl _,.refl _,.refl _,.refl _,.ff,trivial⟩ rfl
  rintro _ rfl
  refine R_k hg.ok rfl rfl ?_
  refine R_if rfl rfl (fun h=>?_) (fun h=>?_)<;>refine R_k hg.ok rfl rfl ?_
  ·refine R_dropO 4 (usO M N3++[.box [.mp 0,.mp 1],glBox g]) (by show φ.length≤4; omega) rfl (by show (usO M N3).map (mapOb _)++_=_; rw [usO_map (fun _=>rfl) (fun _=>rfl)]; rfl) ?_
   exact R_next (i+1,N3) (hnext N3 (by rw[h];rfl)) (by show g.t.l.length - (i+1)<g.t.l.length - i;omega) ⟨.refl _,.refl _,.refl _,.refl _,.refl _,.refl _,.refl _,Ent.wrap (by omega) (by omega) (by omega),trivial⟩ rfl
  ·refine R_callSO hg.ok hg.gup hg.wide hg.Y [0,1] (usO M (kuT N3 x)++[.box [.mp 0,.mp 1],glBox g,boxR x]) (usesTerm_ok Y M x N3 (by omega) (fun v=>by have:=hb3 v; omega)) (fun _=>rfl) rfl rfl rfl rfl rfl (by rw [usO_ren]; rfl) rfl (by rw [usO_ren]; rfl) ?_
   refine R_k hg.ok rfl rfl ?_
   refine R_dropO 4 (usO M (kuT N3 x)++[.box [.mp 0,.mp 1],glBox g]) (by show φ.length≤4;omega) rfl (by show (usO M (kuT N3 x)).map (mapOb _)++_=_;rw[usO_map (fun _=>rfl) (fun _=>rfl)];rfl) ?_
   exact R_next (i+1,kuT N3 x) (hnext _ (by rw[h];rfl)) (by show g.t.l.length - (i+1)<g.t.l.length - i;omega) ⟨.refl _,.refl _,.refl _,.refl _,.refl _,.refl _,.refl _,Ent.wrap (by omega) (by omega) (by omega),trivial⟩ rfl
 rintro _ rfl
 have hA:∀v,0≤cnB (kuA (idM M) g.k g.t.s N2 g.t.l 0) v∧cnB (kuA (idM M) g.k g.t.s N2 g.t.l 0) v+(Gl.sizeL g.a+Gl.sizeL g.b+Gl.sizeL g.c+Gl.sizeL (l.drop (k+1)):Nat)≤1000000000:=fun v=>by
  have h1:=hb2 v
  have h2:=lkA_le (idM M) g.k g.t.s g.t.l 0 v
  rw[cnB_kuA];omega
 have hle:=fun (l:List Gl) (v:Int)=>lkGs_le (idM M) l v
 generalize kuA (idM M) g.k g.t.s N2 g.t.l 0=NA at hA hm
 refine R_k hg.ok rfl rfl ?_
 refine R_callSO hg.ok hg.gup hg.wide hg.Y [0,1] (usO M (kuGs (idM M) NA g.a)++[.box [.mp 0,.mp 1],glBox g]) (sa NA (by omega) (fun v=>by have:=hA v;omega)) (fun _=>rfl) rfl rfl rfl rfl rfl (by rw[usO_ren];rfl) rfl (by rw[usO_ren];rfl) ?_
 refine R_k hg.ok rfl rfl ?_
 refine R_callSO hg.ok hg.gup hg.wide hg.Y [0,1] (usO M (kuGs (idM M) (kuGs (idM M) NA g.a) g.b)++[.box [.mp 0,.mp 1],glBox g]) (sb (kuGs (idM M) NA g.a) (by omega) (fun v=>by have:=hA v;have:=hle g.a v;rw[cnB_kuGs];omega)) (fun _=>rfl) rfl rfl rfl rfl rfl (by rw[usO_ren];rfl) rfl (by rw[usO_ren];rfl) ?_
 refine R_k hg.ok rfl rfl ?_
 refine R_callSO hg.ok hg.gup hg.wide hg.Y [0,1] (usO M (kuGs (idM M) (kuGs (idM M) (kuGs (idM M) NA g.a) g.b) g.c)++[.box [.mp 0,.mp 1],glBox g]) (sc (kuGs (idM M) (kuGs (idM M) NA g.a) g.b) (by omega) (fun v=>by have:=hA v;have:=hle g.a v;have:=hle g.b v;rw[cnB_kuGs,cnB_kuGs];omega)) (fun _=>rfl) rfl rfl rfl rfl rfl (by rw[usO_ren];rfl) rfl (by rw[usO_ren];rfl) ?_
 refine R_k hg.ok rfl rfl ?_
 refine R_dropO 3 (usO M (kuGs (idM M) (kuGs (idM M) (kuGs (idM M) NA g.a) g.b) g.c)++[.box [.mp 0,.mp 1]]) (by show φ.length≤3;omega) rfl (by show (usO M _).map (mapOb _)++_=_;rw[usO_map (fun _=>rfl) (fun _=>rfl)];rfl) ?_
 refine R_next (k+1,kuGs (idM M) (kuGs (idM M) (kuGs (idM M) NA g.a) g.b) g.c) ⟨hk1,hm,fun v=>?_⟩ (by show l.length - (k+1)<l.length - k;omega) ⟨.refl _,.refl _,.refl _,Ent.wrap (by omega) (by omega) (by omega),trivial⟩ rfl
 show 0≤cnB (kuGs (idM M) (kuGs (idM M) (kuGs (idM M) NA g.a) g.b) g.c) v∧cnB (kuGs (idM M) (kuGs (idM M) (kuGs (idM M) NA g.a) g.b) g.c) v+Gl.sizeL (l.drop (k+1))≤1000000000
 have:=hA v
 have:=hle g.a v
 have:=hle g.b v
 have:=hle g.c v
 rw[cnB_kuGs,cnB_kuGs,cnB_kuGs];omega
def csBox (x:Cs):Ob:=.box [.d (.v (.int .i64 x.head.k)),.d (.v (.string x.head.s)),.d (.v (.int .i64 x.head.n)),.d (.sl (Tm.rows x.head.l)),.d (.sl (Gl.rows x.body)),.d (.v (.int .i64 x.vars))]

theorem clause_ok11 (x:Cs)(hx:SmC x):PCtr Tryz.prog 71 [x.av] (bV (clsB x)):=by
 have hb:=hx.size
 refine PCtr.of_R (pf:=fun _=>.eff) tyOk mixed Tryz.func71 rfl (by kernel_rfl) (by kernel_rfl) (by simp[Tryz.ntmps71]) fun w S hg=>?_
 refine R_k hg.ok rfl rfl ?_
 refine R_if rfl rfl (fun n1=>?_) (fun n1=>?_)<;>refine R_k hg.ok rfl rfl ?_
 rotate_left
 ·refine R_ret hg 5 rfl rfl ?_
  unfold clsB
  rw[show decide (0≤x.vars)=false from n1];rfl
 refine R_if rfl rfl (fun n2=>?_) (fun n2=>?_)<;>refine R_k hg.ok rfl rfl ?_
 rotate_left
 ·refine R_ret hg 5 rfl rfl ?_
  unfold clsB
  rw[show decide (0≤x.vars)=true from n1,show decide (x.vars≤1000)=false from n2];rfl
 refine R_callSO hg.ok hg.gup ⟨rfl,rfl⟩ (fun _ _ _ _ h=>by cases h) [1] ([csBox x]++ckO x.vars 20) (ckTerm_ok ⟨[],fun _=>true⟩ x.vars 20 x.head hx.head) (fun _=>rfl) rfl rfl rfl rfl rfl rfl rfl rfl ?_
 refine R_k hg.ok rfl rfl ?_
 refine R_if rfl rfl (fun n3=>?_) (fun n3=>?_)<;>refine R_k hg.ok rfl rfl ?_
 rotate_left
 ·refine R_ret hg 5 rfl rfl ?_
  unfold clsB
  rw[show decide (0≤x.vars)=true from n1,show decide (x.vars≤1000)=true from n2,n3];rfl
 refine R_call hg.ok (own_ok11 x.head) rfl rfl rfl rfl rfl rfl ?_
 refine R_k hg.ok rfl rfl ?_
 refine R_if rfl rfl (fun n4=>?_) (fun n4=>?_)<;>refine R_k hg.ok rfl rfl ?_
 rotate_left
 ·refine R_ret hg 5 rfl rfl ?_
  unfold clsB
  rw[show decide (0≤x.vars)=true from n1,show decide (x.vars≤1000)=true from n2,n3,n4];rfl
 refine R_callSO hg.ok hg.gup ⟨rfl,rfl⟩ (fun _ _ _ _ h=>by cases h) [1] ([csBox x]++ckO x.vars (chkL x.vars x.body 20 1 true).2) (ckGoals_ok ⟨[],fun _=>true⟩ x.vars x.body 20 1 true hx.body (by omega) (by omega) (by omega) (by omega)) (fun _=>rfl) rfl rfl rfl rfl rfl rfl rfl rfl ?_
 refine R_k hg.ok rfl rfl ?_
 refine R_ret hg 5 rfl rfl ?_
 unfold clsB
 rw[show decide (0≤x.vars)=true from n1,show decide (x.vars≤1000)=true from n2,n3,n4];rfl

theorem heads_ok (l:List Cs)(hl:l.length≤1000000):PCtr Tryz.prog 87 [prV l] (.d (.map (dsM (hdS l)))):=by
 refine PCtr.of_R (pf:=fun _=>.eff) tyOk mixed Tryz.func87 rfl (by kernel_rfl) (by kernel_rfl) (by simp[Tryz.ntmps87]) fun w S hg=>?_
 refine R_k hg.ok rfl rfl ?_
 refine R_makeMap hg.ok rfl rfl ?_
 refine R_k hg.ok rfl rfl ?_
 refine R_loop (fun x:Nat × List Sg=>([(3,.mp 1),(8,.d (.sl (Cs.rows l))),(9,iV l.length),(10,iV x.1)],[.box [.d (.sl (Cs.rows l))],.map (kmap (mkM x.2))])) (fun x=>x.1≤l.length∧hdS l=(l.drop x.1).foldl (fun ks c=>addS ks (sgOf c.head)) x.2) (fun x=>l.length - x.1) (0,[]) ⟨Nat.zero_le _,rfl⟩ ⟨.refl _,.refl _,by rw[Cs.rows_len];exact .refl _,.refl _,trivial⟩ rfl ?_
 rintro⟨k,ks⟩ ⟨hk,hm⟩
 refine R_k hg.ok rfl rfl ?_
 refine R_if rfl rfl (fun h=>?_) (fun h=>?_)
 ·refine R_run hg.ok 1000 rfl rfl ?_
  have hk1:k<l.length:=lt_dec h rfl
  have e1:l[k]? = some l[k]:=List.getElem?_eq_getElem hk1
  rw[List.drop_eq_getElem_cons hk1,List.foldl_cons]at hm
  generalize l[k]=c at e1 hm
  refine R_index hg.ok rfl rfl rfl rfl rfl rfl (Int.natCast_nonneg _) (Cs.rows_get e1) rfl ?_
  refine R_k hg.ok rfl rfl ?_
  refine R_call hg.ok (signOf_ok c.head) rfl rfl rfl rfl rfl rfl ?_
  refine R_k hg.ok rfl rfl ?_
  refine R_setK hg.ok (sgOf c.head) (mkM ks) (mkM (addS ks (sgOf c.head))) signKey rfl rfl rfl rfl rfl rfl (v':=bV true) (by first |exact .refl _ |exact .tt) (setK_mk _ _) ?_
  refine R_k hg.ok rfl rfl ?_
  refine R_dropO 2 [.box [.d (.sl (Cs.rows l))],.map (kmap (mkM (addS ks (sgOf c.head))))] (Nat.zero_le _) rfl (congrArg (fun x=>[Ob.box [AV.d (.sl (Cs.rows l))],x]) (mapOb_mk rfl _)) ?_
  exact R_next (k+1,addS ks (sgOf c.head)) ⟨hk1,hm⟩ (by simp only;omega) ⟨.refl _,.refl _,.refl _,Ent.wrap (by simp only;omega) (by simp only;omega) (by simp only;omega),trivial⟩ rfl
 ·have hk1:l.length≤k:=ge_dec h rfl
  rw[List.drop_eq_nil_of_le hk1]at hm
  simp only[List.foldl_nil]at hm
  rw[hm]
  refine R_freezeM hg.gup 1 (dsM ks) (Nat.zero_le _) (by rw[dsM_eq];rfl) rfl ?_
  refine R_k hg.ok rfl rfl ?_
  refine R_ret hg 5 rfl rfl ?_
  rfl

theorem busy_ok (Y:YP)(M:List Sg)(c:Cs)(hs:c.head.size+Gl.sizeL c.body≤1000000):SCtr Tryz.prog Y 89 [c.av,.mp 0] [.map (kmap (bM (tt M)))] (.d (.sl (spR (busyL M c)))) [.map (kmap (bM (tt M)))]:=by
 have hrl:=Tm.rows_length c.head.l
 have hse:=Tm.size_eq c.head
 have hll:=tml_len c.head.l
 refine SCtr.of_R (pf:=fun _=>.eff) tyOk mixed Tryz.func89 rfl (by kernel_rfl) (by kernel_rfl) (by simp[Tryz.ntmps89]) (by simp[usO]) fun w S φ hg=>?_
 have hφ:φ.length=1:=hg.hs0.len
 refine R_k hg.ok rfl rfl ?_
 refine R_makeMap hg.ok rfl rfl ?_
 refine R_k hg.ok rfl rfl ?_
 refine R_callSO hg.ok hg.gup hg.wide hg.Y [0,2] [.map (kmap (bM (tt M))),csBox c,.map (imap (cM (kuT [] c.head))),.box [.mp 0,.mp 2]] (usesTerm_ok Y M c.head [] (by omega) (fun v=>by simp only[cnB];omega)) (fun _=>rfl) rfl rfl rfl rfl rfl (by rw[usO_ren];rfl) rfl (by rw[usO_ren];rfl) ?_
 refine R_k hg.ok rfl rfl ?_
 have hcn:∀v,0≤cnB (kuT [] c.head) v∧cnB (kuT [] c.head) v+Gl.sizeL c.body≤1000000000:=fun v=>by
  have:=stT_le c.head v
  rw[cnB_kuT];simp only[cnB];omega
 refine R_callSO hg.ok hg.gup hg.wide hg.Y [0,2] [.map (kmap (bM (tt M))),csBox c,.map (imap (cM (kuGs (idM M) (kuT [] c.head) c.body))),.box [.mp 0,.mp 2]] (usesGoals_ok Y M c.body (kuT [] c.head) (by omega) hcn) (fun _=>rfl) rfl rfl rfl rfl rfl (by rw[usO_ren];rfl) rfl (by rw[usO_ren];rfl) ?_
 refine R_k hg.ok rfl rfl ?_
 have hcnt:∀v,cnB (kuGs (idM M) (kuT [] c.head) c.body) v=(stT c.head v+lkGs (idM M) c.body v:Nat):=fun v=>by
  rw[cnB_kuGs,cnB_kuT];simp only[cnB];push_cast;omega
 generalize hN:kuGs (idM M) (kuT [] c.head) c.body=N at hcnt
 refine R_own 6 2 rfl rfl ?_
 refine R_loop (fun x:Nat × List Sg=>([(1,.mp 0),(2,.lo 1 0),(5,.lo 3 0),(6,.ow 4 x.2.length),(23,.d (.sl (Tm.rows c.head.l))),(24,iV c.head.l.length),(25,iV x.1)],[.map (kmap (bM (tt M))),csBox c,.map (imap (cM N)),.box [.mp 0,.mp 2],.arr 2 x.2.length (spR x.2)])) (fun x=>x.1≤c.head.l.length∧x.2.length≤x.1∧busyL M c=x.2++busyF M c (c.head.l.drop x.1) x.1) (fun x=>c.head.l.length - x.1) (0,[]) ⟨Nat.zero_le _,Nat.le_refl _,rfl⟩ ⟨.refl _,.refl _,.refl _,.refl _,.refl _,by rw[hrl];exact .refl _,.refl _,trivial⟩ rfl ?_
 rintro⟨i,out⟩ ⟨hi,hol,hm⟩
 simp only at hi hol hm
 refine R_k hg.ok rfl rfl ?_
 refine R_if rfl rfl (fun h=>?_) (fun h=>?_)<;>refine R_k hg.ok rfl rfl ?_
 rotate_left
 ·have hi1:c.head.l.length≤i:=ge_dec h rfl
  rw[List.drop_eq_nil_of_le hi1,busyF,List.append_nil]at hm
  rw[hm]
  exact R_retS hg 1 5 (Nat.le_refl _) rfl (sealT_ow rfl rfl) (congrArg (fun y=>[y]) (mapOb_b (fun _=>rfl) _))
 have hi1:i<c.head.l.length:=lt_dec h rfl
 have e2:c.head.l[i]? = some c.head.l[i]:=List.getElem?_eq_getElem hi1
 rw[List.drop_eq_getElem_cons hi1,busyF]at hm
 generalize c.head.l[i]=x at e2 hm
 refine R_index hg.ok rfl rfl rfl rfl rfl rfl (Int.natCast_nonneg _) (Tm.rows_get e2) rfl ?_
 refine R_k hg.ok rfl rfl ?_
 refine R_lookupB hg.ok (c.head.s,(i:Int)) (tt M) spotKey rfl rfl rfl rfl rfl rfl (by kernel_rfl) ?_
 refine R_k hg.ok rfl rfl ?_
 rw[lk_tt]
 refine R_cut1 (fun b:Bool=>([(1,.mp 0),(2,.lo 1 0),(5,.lo 3 0),(6,.ow 4 out.length),(9,.lo 6 0),(23,.d (.sl (Tm.rows c.head.l))),(24,iV c.head.l.length),(25,iV i),(50,bV b)],[.map (kmap (bM (tt M))),csBox c,.map (imap (cM N)),.box [.mp 0,.mp 2],.arr 2 out.length (spR out),boxR x,.box [.d (.v (.string c.head.s)),iV i]])) (fun b=>b=busyB M c i x) rfl ?_ ?_
 ·refine R_if rfl rfl (fun h=>?_) (fun h=>?_) <;> refine R_run hg.ok 1000 rfl rfl ?_
  ·refine R_if rfl rfl (fun h2=>?_) (fun h2=>?_) <;> refine R_run hg.ok 1000 rfl rfl ?_
   ·have h2:¬ x.k=1:=by simpa using h2
    refine R_to true (by rw[busyB,idM,h];simp[h2]) ⟨.refl _,.refl _,.refl _,.refl _,.refl _,.refl _,.refl _,.refl _,by first |exact .tt |exact .refl _,trivial⟩ rfl
   ·have h2:x.k=1:=by simpa using h2
    refine R_lookupI hg.ok (cM N) rfl rfl rfl rfl rfl rfl rfl (by kernel_rfl) (look_cnt N x.n) ?_
    refine R_k hg.ok rfl rfl ?_
    refine R_to (busyB M c i x) rfl ⟨.refl _,.refl _,.refl _,.refl _,.refl _,.refl _,.refl _,.refl _,?_,trivial⟩ rfl
    rw[busyB,idM,h,h2,show decide (1<stT c.head x.n+lkGs (idM M) c.body x.n)=decide (cnB N x.n > 1) by rw[hcnt];exact decide_eq_decide.2 (by omega)]
    exact .refl _
  ·refine R_to false (by rw[busyB,idM,h];rfl) ⟨.refl _,.refl _,.refl _,.refl _,.refl _,.refl _,.refl _,.refl _,.ff,trivial⟩ rfl
 rintro _ rfl
 refine R_k hg.ok rfl rfl ?_
 refine R_if rfl rfl (fun h=>?_) (fun h=>?_)<;>refine R_k hg.ok rfl rfl ?_
 ·rw [h,if_pos rfl] at hm
  refine R_appendO hg.ok (spR (out++[(c.head.s,(i:Int))])) rfl rfl rfl rfl rfl rfl rfl rfl rfl (by simp) (by simp[one1]) (spR_snoc out (c.head.s,(i:Int))) (by rw[spR_len];simp;omega) (by rw[spR_len];simp;omega) ?_
  refine R_k hg.ok rfl rfl ?_
  refine R_dropO 5 [.map (kmap (bM (tt M))),csBox c,.map (imap (cM N)),.box [.mp 0,.mp 2],.arr 2 (Nat.succ out.length) (spR (out++[(c.head.s,(i:Int))]))] (by show φ.length≤5;omega) rfl (by simp only[List.take_succ_cons,List.take_zero,List.map_cons,List.map_nil,mapOb_b (f:=trimA 5) (fun _=>rfl),mapOb_c (f:=trimA 5) (fun _=>rfl)];rfl) ?_
  have hsn:(out++[(c.head.s,(i:Int))]).length=Nat.succ out.length:=by simp
  refine R_next (i+1,out++[(c.head.s,(i:Int))]) ⟨hi1,by show (out++[(c.head.s,(i:Int))]).length≤i+1;omega,by rw[hm];simp⟩ (by show c.head.l.length - (i+1)<c.head.l.length - i;omega) ⟨.refl _,.refl _,.refl _,by rw[hsn];exact .refl _,.refl _,.refl _,Ent.wrap (by omega) (by omega) (by omega),trivial⟩ (by rw[hsn])
 ·rw [h] at hm
  refine R_dropO 5 [.map (kmap (bM (tt M))),csBox c,.map (imap (cM N)),.box [.mp 0,.mp 2],.arr 2 out.length (spR out)] (by show φ.length≤5;omega) rfl (by simp only[List.take_succ_cons,List.take_zero,List.map_cons,List.map_nil,mapOb_b (f:=trimA 5) (fun _=>rfl),mapOb_c (f:=trimA 5) (fun _=>rfl)];rfl) ?_
  refine R_next (i+1,out) ⟨hi1,by show out.length≤i+1;omega,by simpa using hm⟩ (by show c.head.l.length - (i+1)<c.head.l.length - i;omega) ⟨.refl _,.refl _,.refl _,.refl _,.refl _,.refl _,Ent.wrap (by omega) (by omega) (by omega),trivial⟩ rfl

theorem single_ok (l:List Cs)(hl:l.length≤1000000)(hb:∀c∈l,c.head.l.length≤1000000):PCtr Tryz.prog 57 [prV l] (bV (singP [] l)):=by
 have hrl:=Cs.rows_len l
 refine PCtr.of_R (pf:=fun _=>.eff) tyOk mixed Tryz.func57 rfl (by kernel_rfl) (by kernel_rfl) (by simp[Tryz.ntmps57]) fun w S hg=>?_
 refine R_k hg.ok rfl rfl ?_
 refine R_makeMap hg.ok rfl rfl ?_
 refine R_k hg.ok rfl rfl ?_
 refine R_loop (fun x:Nat × List (ByteArray × Int)=>([(3,.mp 1),(10,.d (.sl (Cs.rows l))),(11,iV l.length),(12,iV x.1)],[.box [.d (.sl (Cs.rows l))],.map (smap (nM x.2))])) (fun x=>x.1≤l.length∧singP [] l=singP x.2 (l.drop x.1)) (fun x=>l.length - x.1) (0,[]) ⟨Nat.zero_le _,rfl⟩ ⟨.refl _,.refl _,by rw[hrl];exact .refl _,.refl _,trivial⟩ rfl ?_
 rintro⟨k,A⟩ ⟨hk,hm⟩
 simp only at hk hm
 refine R_k hg.ok rfl rfl ?_
 refine R_if rfl rfl (fun h=>?_) (fun h=>?_)<;>refine R_k hg.ok rfl rfl ?_
 rotate_left
 ·have hk1:l.length≤k:=ge_dec h rfl
  rw[List.drop_eq_nil_of_le hk1,singP]at hm
  refine R_ret hg 5 rfl rfl ?_
  rw[hm];rfl
 have hk1:k<l.length:=lt_dec h rfl
 have e1:l[k]? = some l[k]:=List.getElem?_eq_getElem hk1
 rw[List.drop_eq_getElem_cons hk1,singP]at hm
 have hlc:=hb _ (List.getElem_mem hk1)
 generalize l[k]=c at e1 hm hlc
 have hrt:=Tm.rows_length c.head.l
 refine R_index hg.ok rfl rfl rfl rfl rfl rfl (Int.natCast_nonneg _) (Cs.rows_get e1) rfl ?_
 refine R_k hg.ok rfl rfl ?_
 have hset:setSA (nM A) c.head.s (iV c.head.l.length)=nM (nSet A c.head.s c.head.l.length):=nM_set A c.head.s _
 cases hg2:nGet A c.head.s with
 |none =>
  rw[hg2]at hm
  simp only at hm
  refine R_lookupS hg.ok (zv:=.int .i64 0) (nM A) rfl rfl rfl rfl rfl rfl rfl (by kernel_rfl) (v:=.tup [iV 0,bV false]) (by rw[nM_get,hg2];rfl) ?_
  refine R_k hg.ok rfl rfl ?_
  refine R_if rfl rfl (fun h=>absurd h (by simp)) (fun _=>?_)<;>refine R_k hg.ok rfl rfl ?_
  refine R_setSt hg.ok (nM A) (nM (nSet A c.head.s c.head.l.length)) rfl rfl rfl rfl rfl rfl rfl (v':=iV c.head.l.length) (by rw[← hrt];exact .refl _) hset ?_
  refine R_k hg.ok rfl rfl ?_
  refine R_dropO 2 [.box [.d (.sl (Cs.rows l))],.map (smap (nM (nSet A c.head.s c.head.l.length)))] (Nat.zero_le _) rfl (by simp only[List.take_succ_cons,List.take_zero,List.map_cons,List.map_nil,mapOb_n (f:=trimA 2) (fun _=>rfl)];rfl) ?_
  exact R_next (k+1,_) ⟨hk1,hm⟩ (by show l.length - (k+1)<l.length - k;omega) ⟨.refl _,.refl _,.refl _,Ent.wrap (by omega) (by omega) (by omega),trivial⟩ rfl
 |some n =>
  rw[hg2]at hm
  simp only at hm
  refine R_lookupS hg.ok (zv:=.int .i64 0) (nM A) rfl rfl rfl rfl rfl rfl rfl (by kernel_rfl) (v:=.tup [iV n,bV true]) (by rw[nM_get,hg2];rfl) ?_
  refine R_k hg.ok rfl rfl ?_
  refine R_if rfl rfl (fun _=>?_) (fun h=>absurd h (by simp))<;>refine R_k hg.ok rfl rfl ?_
  by_cases hn:n=c.head.l.length
  ·rw [if_neg (by simp [hn])] at hm
   refine R_if rfl rfl (fun h=>absurd h (by rw[hrt];simp[hn])) (fun _=>?_)<;>refine R_k hg.ok rfl rfl ?_
   refine R_setSt hg.ok (nM A) (nM (nSet A c.head.s c.head.l.length)) rfl rfl rfl rfl rfl rfl rfl (v':=iV c.head.l.length) (by rw[← hrt];exact .refl _) hset ?_
   refine R_k hg.ok rfl rfl ?_
   refine R_dropO 2 [.box [.d (.sl (Cs.rows l))],.map (smap (nM (nSet A c.head.s c.head.l.length)))] (Nat.zero_le _) rfl (by simp only[List.take_succ_cons,List.take_zero,List.map_cons,List.map_nil,mapOb_n (f:=trimA 2) (fun _=>rfl)];rfl) ?_
   exact R_next (k+1,_) ⟨hk1,hm⟩ (by show l.length - (k+1)<l.length - k;omega) ⟨.refl _,.refl _,.refl _,Ent.wrap (by omega) (by omega) (by omega),trivial⟩ rfl
  ·rw [if_pos hn] at hm
   refine R_if rfl rfl (fun _=>?_) (fun h=>absurd h (by rw[hrt];simpa using hn))<;>refine R_k hg.ok rfl rfl ?_
   refine R_ret hg 5 rfl rfl ?_
   rw[hm];rfl

def idO (l:List Cs)(M:List Sg):List Ob:=[.box [.d (.sl (Cs.rows l))],.map (kmap (bM (tt M)))]

theorem idO_drop (l:List Cs)(M:List Sg)(x:List Ob):((idO l M++x).take 2).map (mapOb (trimA 2))=idO l M:=by
 simp only[idO,List.cons_append,List.nil_append,List.take_succ_cons,List.take_zero,List.map_cons,List.map_nil,mapOb_b (f:=trimA 2) (fun _=>rfl)];rfl

theorem idO_seal (l:List Cs)(M:List Sg)(o:List Ob):(idO l M).map (mapOb (sealT false 2 o 5))=idO l M:=by
 simp only[idO,List.map_cons,List.map_nil,mapOb_b (f:=sealT false 2 o 5) (fun _=>rfl)];rfl

theorem idle_ok (Y:YP)(l:List Cs)(hl:l.length≤1000000)(hb:∀c∈l,c.head.size+Gl.sizeL c.body≤1000000):SCtr Tryz.prog Y 58 [prV l] [] (.mp 1) (idO l (idleL l)):=by
 have hrl:=Cs.rows_len l
 refine SCtr.of_R (pf:=fun _=>.eff) tyOk mixed Tryz.func58 rfl (by kernel_rfl) (by kernel_rfl) (by simp[Tryz.ntmps58]) (by simp[usO]) fun w S φ hg=>?_
 have hφ:φ.length=0:=hg.hs0.len
 refine R_k hg.ok rfl rfl ?_
 refine R_makeMap hg.ok rfl rfl ?_
 refine R_k hg.ok rfl rfl ?_
 refine R_cut2 (fun _:Unit=>([(1,.lo 0 0),(3,.mp 1)],idO l (spotsL l))) (fun _=>True) rfl ?_ ?_
 ·refine R_loop (fun x:Nat × List Sg=>([(1,.lo 0 0),(3,.mp 1),(14,.d (.sl (Cs.rows l))),(15,iV l.length),(16,iV x.1)],idO l x.2)) (fun x=>x.1≤l.length∧spotsL l=(l.drop x.1).foldl (fun M c=>addArgs c.head.s M c.head.l.length) x.2) (fun x=>l.length - x.1) (0,[]) ⟨Nat.zero_le _,rfl⟩ ⟨.refl _,.refl _,.refl _,by rw [hrl]; exact .refl _,.refl _,trivial⟩ rfl ?_
  rintro⟨k,M⟩ ⟨hk,hm⟩
  simp only at hk hm
  refine R_k hg.ok rfl rfl ?_
  refine R_if rfl rfl (fun h=>?_) (fun h=>?_)<;>refine R_k hg.ok rfl rfl ?_
  rotate_left
  ·have hk1:l.length≤k:=ge_dec h rfl
   rw[List.drop_eq_nil_of_le hk1,List.foldl_nil]at hm
   rw[hm]
   exact R_to () trivial ⟨.refl _,.refl _,trivial⟩ rfl
  have hk1:k<l.length:=lt_dec h rfl
  have e1:l[k]? = some l[k]:=List.getElem?_eq_getElem hk1
  rw[List.drop_eq_getElem_cons hk1,List.foldl_cons]at hm
  have hbc:=hb _ (List.getElem_mem hk1)
  generalize l[k]=c at e1 hm hbc
  have hrt:=Tm.rows_length c.head.l
  have hse:=Tm.size_eq c.head
  have hll:=tml_len c.head.l
  refine R_index hg.ok rfl rfl rfl rfl rfl rfl (Int.natCast_nonneg _) (Cs.rows_get e1) rfl ?_
  refine R_k hg.ok rfl rfl ?_
  refine R_cut2 (fun _:Unit=>([(1,.lo 0 0),(3,.mp 1),(14,.d (.sl (Cs.rows l))),(15,iV l.length),(16,iV k)],idO l (addArgs c.head.s M c.head.l.length)++[csBox c])) (fun _=>True) rfl ?_ ?_
  ·refine R_loop (fun x:Nat × List Sg=>([(1,.lo 0 0),(3,.mp 1),(5,.lo 2 0),(14,.d (.sl (Cs.rows l))),(15,iV l.length),(16,iV k),(23,iV c.head.l.length),(24,iV x.1)],idO l x.2++[csBox c])) (fun x=>x.1≤c.head.l.length∧addArgs c.head.s M c.head.l.length=addFrom c.head.s x.2 x.1 (c.head.l.length - x.1)) (fun x=>c.head.l.length - x.1) (0,M) ⟨Nat.zero_le _,rfl⟩ ⟨.refl _,.refl _,.refl _,.refl _,.refl _,.refl _,by rw [hrt]; exact .refl _,.refl _,trivial⟩ rfl ?_
   rintro⟨i,M2⟩ ⟨hi,hm2⟩
   simp only at hi hm2
   refine R_k hg.ok rfl rfl ?_
   refine R_if rfl rfl (fun h=>?_) (fun h=>?_)<;>refine R_k hg.ok rfl rfl ?_
   ·have hi1:i<c.head.l.length:=lt_dec h rfl
    rw[show c.head.l.length - i=(c.head.l.length - (i+1))+1 by omega,addFrom]at hm2
    refine R_setB hg.ok (c.head.s,(i:Int)) (tt M2) true spotKey rfl rfl rfl rfl rfl rfl (by first |exact .tt |exact .refl _) ?_
    rw[stB_tt]
    refine R_k hg.ok rfl rfl ?_
    exact R_next (i+1,addS M2 (c.head.s,(i:Int))) ⟨hi1,hm2⟩ (by show c.head.l.length - (i+1)<c.head.l.length - i;omega) ⟨.refl _,.refl _,.refl _,.refl _,.refl _,.refl _,.refl _,Ent.wrap (by omega) (by omega) (by omega),trivial⟩ rfl
   ·have hi1:c.head.l.length≤i:=ge_dec h rfl
    rw[show c.head.l.length - i=0 by omega,addFrom]at hm2
    rw[hm2]
    exact R_to () trivial ⟨.refl _,.refl _,.refl _,.refl _,.refl _,trivial⟩ rfl
  rintro _ _
  refine R_k hg.ok rfl rfl ?_
  refine R_dropO 2 (idO l (addArgs c.head.s M c.head.l.length)) (by show φ.length≤2;omega) rfl (idO_drop l _ _) ?_
  exact R_next (k+1,_) ⟨hk1,hm⟩ (by show l.length - (k+1)<l.length - k;omega) ⟨.refl _,.refl _,.refl _,.refl _,Ent.wrap (by omega) (by omega) (by omega),trivial⟩ rfl
 rintro _ _
 have hsn:(spotsL l).Nodup:=spots_nodup l [] (by simp)
 refine R_k hg.ok rfl rfl ?_
 refine R_loop (fun x:Bool × List Sg × Nat=>([(1,.lo 0 0),(3,.mp 1),(7,bV x.1)],idO l x.2.1)) (fun x=>x.2.1.Nodup∧(x.1=true→idleL l=idleF x.2.2 l x.2.1∧x.2.1.length<x.2.2)∧(x.1=false→idleL l=x.2.1)) (fun x=>2 * x.2.2+(if x.1 then 1 else 0)) (true,spotsL l,(spotsL l).length+1) ⟨hsn,fun _=>⟨rfl,Nat.lt_succ_self _⟩,fun h=>by cases h⟩ ⟨.refl _,.refl _,by first |exact .tt |exact .refl _,trivial⟩ rfl ?_
 rintro⟨again,M,f⟩ ⟨hn,hm1,hm2⟩
 simp only at hn hm1 hm2
 refine R_k hg.ok rfl rfl ?_
 refine R_if rfl rfl (fun h=>?_) (fun h=>?_)<;>refine R_k hg.ok rfl rfl ?_
 rotate_left
 ·rw [hm2 h]
  exact R_retS hg 2 5 (by decide) rfl rfl (idO_seal l M _)
 have h:again=true:=h
 subst h
 obtain⟨hm,hlen⟩:=hm1 rfl
 obtain⟨f,rfl⟩:∃g,f=g+1:=⟨f - 1,by omega⟩
 obtain⟨hpl,hpn⟩:=passM_len l M hn
 refine R_cut2 (fun b:Bool=>([(1,.lo 0 0),(3,.mp 1),(7,bV b)],idO l (passM l M))) (fun b=>b=decide ((passM l M).length<M.length)) rfl ?_ ?_
 rotate_left
 ·rintro b hbb
  rw[idleF]at hm
  have h1:b=true→idleL l=idleF f l (passM l M)∧(passM l M).length<f:=fun hb1=>by
   rw[hbb]at hb1
   have:=of_decide_eq_true hb1
   rw[if_neg (by omega)]at hm
   exact⟨hm,by omega⟩
  have h2:b=false→idleL l=passM l M:=fun hb1=>by
   rw[hbb]at hb1
   have:=of_decide_eq_false hb1
   rw[if_pos (by omega)]at hm
   exact hm
  refine R_k hg.ok rfl rfl ?_
  exact R_next (b,passM l M,f) ⟨hpn,h1,h2⟩ (by show 2 * f+(if b then 1 else 0)<2 * (f+1)+1;split<;>omega) ⟨.refl _,.refl _,.refl _,trivial⟩ rfl
 refine R_loop (fun x:Nat × Bool × List Sg=>([(1,.lo 0 0),(3,.mp 1),(7,bV x.2.1),(37,.d (.sl (Cs.rows l))),(38,iV l.length),(39,iV x.1)],idO l x.2.2)) (fun x=>x.1≤l.length∧x.2.2.Nodup∧x.2.2.length≤M.length∧passM l M=passM (l.drop x.1) x.2.2∧x.2.1=decide (x.2.2.length<M.length)) (fun x=>l.length - x.1) (0,false,M) ⟨Nat.zero_le _,hn,Nat.le_refl _,rfl,by simp⟩ ⟨.refl _,.refl _,by first |exact .ff |exact .refl _,.refl _,by rw[hrl];exact .refl _,.refl _,trivial⟩ rfl ?_
 rintro⟨k,a2,M2⟩ ⟨hk,hn2,hle,hm3,ha⟩
 simp only at hk hn2 hle hm3 ha
 refine R_k hg.ok rfl rfl ?_
 refine R_if rfl rfl (fun h=>?_) (fun h=>?_)<;>refine R_k hg.ok rfl rfl ?_
 rotate_left
 ·have hk1:l.length≤k:=ge_dec h rfl
  rw[List.drop_eq_nil_of_le hk1,passM]at hm3
  rw[hm3]
  exact R_to a2 (by rw[ha]) ⟨.refl _,.refl _,.refl _,trivial⟩ rfl
 have hk1:k<l.length:=lt_dec h rfl
 have e1:l[k]? = some l[k]:=List.getElem?_eq_getElem hk1
 rw[List.drop_eq_getElem_cons hk1,passM]at hm3
 have hbc:=hb _ (List.getElem_mem hk1)
 generalize l[k]=c at e1 hm3 hbc
 refine R_index hg.ok rfl rfl rfl rfl rfl rfl (Int.natCast_nonneg _) (Cs.rows_get e1) rfl ?_
 refine R_k hg.ok rfl rfl ?_
 refine R_callSO hg.ok hg.gup hg.wide hg.Y [1] (idO l M2++[csBox c]) (busy_ok Y M2 c hbc) (fun _=>rfl) rfl rfl rfl rfl rfl (by simp only[List.map_cons,List.map_nil,renOb_b];rfl) rfl (by simp only[List.map_cons,List.map_nil,renOb_b];rfl) ?_
 refine R_k hg.ok rfl rfl ?_
 obtain⟨hr1,hr2⟩:=busy_rm M2 c hn2
 generalize hB:busyL M2 c=B at hr1 hr2 hm3
 have hBn:B.Nodup:=by rw[← hB];exact busyF_nodup
 have hBm:∀p∈B,p∈M2:=by rw[← hB];exact fun p hp=>(busyF_mem hp).1
 refine R_cut2 (fun _:Unit=>([(1,.lo 0 0),(3,.mp 1),(7,bV (decide ((rmL M2 B).length<M.length))),(37,.d (.sl (Cs.rows l))),(38,iV l.length),(39,iV k)],idO l (rmL M2 B)++[csBox c])) (fun _=>True) rfl ?_ ?_
 rotate_left
 ·rintro _ _
  refine R_k hg.ok rfl rfl ?_
  refine R_dropO 2 (idO l (rmL M2 B)) (by show φ.length≤2;omega) rfl (idO_drop l _ _) ?_
  exact R_next (k+1,_,rmL M2 B) ⟨hk1,hr2,by show (rmL M2 B).length≤M.length;omega,hm3,rfl⟩ (by show l.length - (k+1)<l.length - k;omega) ⟨.refl _,.refl _,.refl _,.refl _,.refl _,Ent.wrap (by omega) (by omega) (by omega),trivial⟩ rfl
 have hbl:=spR_len B
 have hBl:B.length≤1000000:=by
  have:=busyF_len M2 c c.head.l 0
  have h9:=tml_len c.head.l
  have h8:=Tm.size_eq c.head
  rw[← hB];unfold busyL;omega
 refine R_loop (fun x:Nat × List Sg=>([(1,.lo 0 0),(3,.mp 1),(7,bV (decide (x.2.length<M.length))),(37,.d (.sl (Cs.rows l))),(38,iV l.length),(39,iV k),(45,.d (.sl (spR B))),(46,iV B.length),(47,iV x.1)],idO l x.2++[csBox c])) (fun x=>x.1≤B.length∧x.2.Nodup∧x.2.length≤M.length∧rmL M2 B=rmL x.2 (B.drop x.1)∧(B.drop x.1).Nodup∧∀p∈B.drop x.1,p∈x.2) (fun x=>B.length - x.1) (0,M2) ⟨Nat.zero_le _,hn2,hle,rfl,hBn,hBm⟩ ⟨.refl _,.refl _,by rw[ha];exact .refl _,.refl _,.refl _,.refl _,.refl _,by rw[hbl];exact .refl _,.refl _,trivial⟩ rfl ?_
 rintro⟨j,M3⟩ ⟨hj,hn3,hle3,hm4,hdn,hdm⟩
 simp only at hj hn3 hle3 hm4 hdn hdm
 refine R_k hg.ok rfl rfl ?_
 refine R_if rfl rfl (fun h=>?_) (fun h=>?_)<;>refine R_k hg.ok rfl rfl ?_
 ·have hj1:j<B.length:=lt_dec h rfl
  have e2:B[j]? = some B[j]:=List.getElem?_eq_getElem hj1
  rw[List.drop_eq_getElem_cons hj1]at hm4 hdn hdm
  generalize B[j]=s at e2 hm4 hdn hdm
  rw[List.nodup_cons]at hdn
  have hs:=hdm s (by simp)
  have hl3:=rm_len hs hn3
  rw[rmL_cons]at hm4
  refine R_index hg.ok rfl rfl rfl rfl rfl rfl (Int.natCast_nonneg _) (spR_get e2) rfl ?_
  refine R_k hg.ok rfl rfl ?_
  refine R_deleteT hg.ok s M3 spotKey hs hn3 rfl rfl rfl rfl rfl rfl ?_
  refine R_k hg.ok rfl rfl ?_
  refine R_dropO 3 (idO l (rmS M3 s)++[csBox c]) (by show φ.length≤3;omega) rfl (by simp only[List.take_succ_cons,List.take_zero,List.map_cons,List.map_nil,mapOb_b (f:=trimA 3) (fun _=>rfl)];rfl) ?_
  refine R_next (j+1,rmS M3 s) ⟨hj1,rm_nodup hn3,by show (rmS M3 s).length≤M.length;omega,hm4,hdn.2,fun p hp=>rm_mem.2 ⟨hdm p (by simp[hp]),fun e=>hdn.1 (e ▸ hp)⟩⟩ (by show B.length - (j+1)<B.length - j;omega) ⟨.refl _,.refl _,?_,.refl _,.refl _,.refl _,.refl _,.refl _,Ent.wrap (by omega) (by omega) (by omega),trivial⟩ rfl
  show Ent _ (bV (decide ((rmS M3 s).length<M.length)))
  rw[decide_eq_true (by omega)]
  first |exact .tt |exact .refl _
 ·have hj1:B.length≤j:=ge_dec h rfl
  rw[List.drop_eq_nil_of_le hj1]at hm4
  have hm4:rmL M2 B=M3:=hm4
  rw[hm4]
  exact R_to () trivial ⟨.refl _,.refl _,.refl _,.refl _,.refl _,.refl _,trivial⟩ rfl

theorem there_ok11 (ks:List Sg)(l:List Gl):Gl.sizeL l≤1000000→PCtr Tryz.prog 88 [.d (.sl (Gl.rows l)),.d (.map (dsM ks))] (bV (thereL (hasS ks) l)):=by
 refine Gl.indL (p:=fun l=>Gl.sizeL l≤1000000→PCtr Tryz.prog 88 [.d (.sl (Gl.rows l)),.d (.map (dsM ks))] (bV (thereL (hasS ks) l))) (fun l hsub=>?_) l
 intro hl
 have hlen:=Gl.len_size l
 refine PCtr.of_R (pf:=fun _=>.eff) tyOk mixed Tryz.func88 rfl (by kernel_rfl) (by kernel_rfl) (by simp[Tryz.ntmps88]) fun w S hg=>?_
 refine R_k hg.ok rfl rfl ?_
 refine R_loop (fun k:Nat=>([(1,.d (.map (dsM ks))),(7,.d (.sl (Gl.rows l))),(8,iV l.length),(9,iV k)],[])) (fun k=>k≤l.length∧thereL (hasS ks) l=thereL (hasS ks) (l.drop k)) (fun k=>l.length - k) 0 ⟨Nat.zero_le _,rfl⟩ ⟨.refl _,.refl _,by rw[Gl.rows_length];exact .refl _,.refl _,trivial⟩ rfl ?_
 rintro k ⟨hk,hm⟩
 refine R_k hg.ok rfl rfl ?_
 refine R_if rfl rfl (fun h=>?_) (fun h=>?_)<;>refine R_k hg.ok rfl rfl ?_
 ·have hk1:k<l.length:=lt_dec h rfl
  have e1:l[k]? = some l[k]:=List.getElem?_eq_getElem hk1
  have hmem:=List.getElem_mem hk1
  rw[List.drop_eq_getElem_cons hk1]at hm
  generalize l[k]=g at e1 hm hmem
  have hsz:=Gl.size_mem hmem
  have hge:=Gl.size_eq g
  obtain⟨sa,sb,sc⟩:=hsub g hmem
  simp only[thereL,there1_eq]at hm
  refine R_index hg.ok rfl rfl rfl rfl rfl rfl (Int.natCast_nonneg _) (Gl.rows_get e1) rfl ?_
  refine R_k hg.ok rfl rfl ?_
  by_cases hg1:((g.k==1) && !hasS ks (sgOf g.t))=true
  ·rw [hg1] at hm
   simp only[Bool.and_eq_true,Bool.not_eq_true']at hg1
   refine R_if rfl rfl (fun _=>?_) (fun h=>absurd h (by simp[hg1.1]))<;>refine R_k hg.ok rfl rfl ?_
   refine R_call hg.ok (signOf_ok g.t) rfl rfl rfl rfl rfl rfl ?_
   refine R_k hg.ok rfl rfl ?_
   refine R_lookupKD hg.ok (sgOf g.t) (mkM ks) (dsM_eq ks) signKey rfl rfl rfl rfl rfl rfl (v:=.ff) (by rw[getK_mk,hg1.2];rfl) ?_
   refine R_k hg.ok rfl rfl ?_
   refine R_ret hg 5 rfl rfl ?_
   rw[hm];rfl
  ·have hg1':((g.k==1) && !hasS ks (sgOf g.t))=false:=Bool.eq_false_iff.2 hg1
   rw[hg1']at hm
   cases hk1':(g.k==1) with
   |false =>
    refine R_if rfl rfl (fun h=>absurd h (by simp[hk1'])) (fun _=>?_)<;>refine R_k hg.ok rfl rfl ?_
    refine R_call hg.ok (sa (by omega)) rfl rfl rfl rfl rfl rfl ?_
    refine R_k hg.ok rfl rfl ?_
    refine R_if rfl rfl (fun n1=>?_) (fun n1=>?_)<;>refine R_k hg.ok rfl rfl ?_
    ·refine R_ret hg 5 rfl rfl ?_
     rw[hm,show thereL (hasS ks) g.a=false by simpa using n1];rfl
    have n1:thereL (hasS ks) g.a=true:=by simpa using n1
    refine R_call hg.ok (sb (by omega)) rfl rfl rfl rfl rfl rfl ?_
    refine R_k hg.ok rfl rfl ?_
    refine R_if rfl rfl (fun n2=>?_) (fun n2=>?_)<;>refine R_k hg.ok rfl rfl ?_
    ·refine R_ret hg 5 rfl rfl ?_
     rw[hm,n1,show thereL (hasS ks) g.b=false by simpa using n2];rfl
    have n2:thereL (hasS ks) g.b=true:=by simpa using n2
    refine R_call hg.ok (sc (by omega)) rfl rfl rfl rfl rfl rfl ?_
    refine R_k hg.ok rfl rfl ?_
    refine R_if rfl rfl (fun n3=>?_) (fun n3=>?_)<;>refine R_k hg.ok rfl rfl ?_
    ·refine R_ret hg 5 rfl rfl ?_
     rw[hm,n1,n2,show thereL (hasS ks) g.c=false by simpa using n3];rfl
    have n3:thereL (hasS ks) g.c=true:=by simpa using n3
    rw[n1,n2,n3]at hm
    refine R_dropO 0 [] (Nat.zero_le _) rfl rfl ?_
    exact R_next (k+1) ⟨hk1,hm⟩ (by omega) ⟨.refl _,.refl _,.refl _,Ent.wrap (by omega) (by omega) (by omega),trivial⟩ rfl
   |true =>
    have hh:hasS ks (sgOf g.t)=true:=by rw[hk1']at hg1';simpa using hg1'
    refine R_if rfl rfl (fun _=>?_) (fun h=>absurd h (by simp[hk1']))<;>refine R_k hg.ok rfl rfl ?_
    refine R_call hg.ok (signOf_ok g.t) rfl rfl rfl rfl rfl rfl ?_
    refine R_k hg.ok rfl rfl ?_
    refine R_lookupKD hg.ok (sgOf g.t) (mkM ks) (dsM_eq ks) signKey rfl rfl rfl rfl rfl rfl (v:=bV true) (by rw[getK_mk,hh];rfl) ?_
    refine R_k hg.ok rfl rfl ?_
    refine R_if rfl rfl (fun h=>absurd h (by simp)) (fun _=>?_)<;>refine R_k hg.ok rfl rfl ?_
    refine R_call hg.ok (sa (by omega)) rfl rfl rfl rfl rfl rfl ?_
    refine R_k hg.ok rfl rfl ?_
    refine R_if rfl rfl (fun n1=>?_) (fun n1=>?_)<;>refine R_k hg.ok rfl rfl ?_
    ·refine R_ret hg 5 rfl rfl ?_
     rw[hm,show thereL (hasS ks) g.a=false by simpa using n1];rfl
    have n1:thereL (hasS ks) g.a=true:=by simpa using n1
    refine R_call hg.ok (sb (by omega)) rfl rfl rfl rfl rfl rfl ?_
    refine R_k hg.ok rfl rfl ?_
    refine R_if rfl rfl (fun n2=>?_) (fun n2=>?_)<;>refine R_k hg.ok rfl rfl ?_
    ·refine R_ret hg 5 rfl rfl ?_
     rw[hm,n1,show thereL (hasS ks) g.b=false by simpa using n2];rfl
    have n2:thereL (hasS ks) g.b=true:=by simpa using n2
    refine R_call hg.ok (sc (by omega)) rfl rfl rfl rfl rfl rfl ?_
    refine R_k hg.ok rfl rfl ?_
    refine R_if rfl rfl (fun n3=>?_) (fun n3=>?_)<;>refine R_k hg.ok rfl rfl ?_
    ·refine R_ret hg 5 rfl rfl ?_
     rw[hm,n1,n2,show thereL (hasS ks) g.c=false by simpa using n3];rfl
    have n3:thereL (hasS ks) g.c=true:=by simpa using n3
    rw[n1,n2,n3]at hm
    refine R_dropO 0 [] (Nat.zero_le _) rfl rfl ?_
    exact R_next (k+1) ⟨hk1,hm⟩ (by omega) ⟨.refl _,.refl _,.refl _,Ent.wrap (by omega) (by omega) (by omega),trivial⟩ rfl
 ·have hk1:l.length≤k:=ge_dec h rfl
  refine R_ret hg 5 rfl rfl ?_
  rw[hm,List.drop_eq_nil_of_le hk1];rfl
theorem thereH_eq (l:List Cs):hasS (hdS l)=hasH l:=funext (hdS_mem l)

theorem firstN_drop {α:Type}(p:α→Bool){l:List α}{k:Nat}{x:α}(h:l[k]? = some x):firstN p (l.drop k) k=if p x then firstN p (l.drop (k+1)) (k+1) else some k:=by
 obtain⟨hk,he⟩:=List.getElem?_eq_some_iff.1 h
 rw[List.drop_eq_getElem_cons hk,he];rfl

theorem check_ok (l:List Cs)(hl:∀c∈l,SmC c):PCtr Tryz.prog 56 [prV l] (.tup [iV (checkR l).1,iV (checkR l).2]):=by
 refine PCtr.of_R (pf:=fun _=>.eff) tyOk mixed Tryz.func56 rfl (by kernel_rfl) (by kernel_rfl) (by simp[Tryz.ntmps56]) fun w S hg=>?_
 refine R_k hg.ok rfl rfl ?_
 by_cases h2:200<l.length
 ·refine R_if rfl rfl (fun _=>?_) (fun h=>absurd h (by simp [Cs.rows_len]; omega)) <;> refine R_run hg.ok 1000 rfl rfl ?_
  refine R_ret hg 5 rfl rfl ?_
  unfold checkR;rw[if_pos h2];rfl
 refine R_if rfl rfl (fun h=>absurd h (by simp[Cs.rows_len];omega)) (fun _=>?_)<;>refine R_k hg.ok rfl rfl ?_
 have hc0:checkR l=match firstN clsB l 0 with
  |some i=>((i:Int),1)
  |none=>match firstN (fun c=>thereL (hasH l) c.body) l 0 with
   |some i=>((i:Int),9)
   |none=>(0,0):=by unfold checkR;rw[if_neg h2];rfl
 refine R_cut2 (fun _:Unit=>([(1,.lo 0 0)],[.box [.d (.sl (Cs.rows l))]])) (fun _=>firstN clsB l 0=none) rfl ?_ ?_
 ·refine R_loop (fun k:Nat=>([(1,.lo 0 0),(14,.d (.sl (Cs.rows l))),(15,iV l.length),(16,iV k)],[.box [.d (.sl (Cs.rows l))]])) (fun k=>k≤l.length∧firstN clsB l 0=firstN clsB (l.drop k) k) (fun k=>l.length - k) 0 ⟨Nat.zero_le _,rfl⟩ ⟨.refl _,.refl _,by rw [Cs.rows_len]; exact .refl _,.refl _,trivial⟩ rfl ?_
  rintro k ⟨hk,hm⟩
  refine R_k hg.ok rfl rfl ?_
  refine R_if rfl rfl (fun h=>?_) (fun h=>?_)<;>refine R_k hg.ok rfl rfl ?_
  ·have hk1:k<l.length:=lt_dec h rfl
   have e1:l[k]? = some l[k]:=List.getElem?_eq_getElem hk1
   have hs:=hl _ (List.getElem_mem hk1)
   generalize l[k]=c at e1 hs
   rw[firstN_drop clsB e1]at hm
   refine R_index hg.ok rfl rfl rfl rfl rfl rfl (Int.natCast_nonneg _) (Cs.rows_get e1) rfl ?_
   refine R_k hg.ok rfl rfl ?_
   refine R_call hg.ok (clause_ok11 c hs) rfl rfl rfl rfl rfl rfl ?_
   refine R_k hg.ok rfl rfl ?_
   refine R_if rfl rfl (fun h=>?_) (fun h=>?_)<;>refine R_k hg.ok rfl rfl ?_
   ·have h:clsB c=false:=by simpa using h
    rw[if_neg (by rw[h];simp)]at hm
    rw[hc0,hm]
    refine R_ret hg 5 rfl rfl ?_
    rfl
   ·have h:clsB c=true:=by simpa using h
    rw[if_pos h]at hm
    refine R_dropO 1 [.box [.d (.sl (Cs.rows l))]] (Nat.zero_le _) rfl rfl ?_
    exact R_next (k+1) ⟨hk1,hm⟩ (by omega) ⟨.refl _,.refl _,.refl _,Ent.wrap (by omega) (by omega) (by omega),trivial⟩ rfl
  ·have hk1:l.length≤k:=ge_dec h rfl
   rw[List.drop_eq_nil_of_le hk1]at hm
   exact R_to () hm ⟨.refl _,trivial⟩ rfl
 rintro _ hn
 rw[hn]at hc0
 simp only at hc0
 refine R_k hg.ok rfl rfl ?_
 refine R_call hg.ok (heads_ok l (by omega)) rfl rfl rfl rfl rfl rfl ?_
 refine R_k hg.ok rfl rfl ?_
 refine R_loop (fun k:Nat=>([(6,.d (.map (dsM (hdS l)))),(29,.d (.sl (Cs.rows l))),(30,iV l.length),(31,iV k)],[.box [.d (.sl (Cs.rows l))]])) (fun k=>k≤l.length∧firstN (fun c=>thereL (hasH l) c.body) l 0=firstN (fun c=>thereL (hasH l) c.body) (l.drop k) k) (fun k=>l.length - k) 0 ⟨Nat.zero_le _,rfl⟩ ⟨.refl _,.refl _,by rw[Cs.rows_len];exact .refl _,.refl _,trivial⟩ rfl ?_
 rintro k ⟨hk,hm⟩
 refine R_k hg.ok rfl rfl ?_
 refine R_if rfl rfl (fun h=>?_) (fun h=>?_)<;>refine R_k hg.ok rfl rfl ?_
 ·have hk1:k<l.length:=lt_dec h rfl
  have e1:l[k]? = some l[k]:=List.getElem?_eq_getElem hk1
  have hs:=hl _ (List.getElem_mem hk1)
  generalize l[k]=c at e1 hs
  rw[firstN_drop (fun c=>thereL (hasH l) c.body) e1]at hm
  have ht:=there_ok11 (hdS l) c.body hs.size
  rw[thereH_eq]at ht
  refine R_index hg.ok rfl rfl rfl rfl rfl rfl (Int.natCast_nonneg _) (Cs.rows_get e1) rfl ?_
  refine R_k hg.ok rfl rfl ?_
  refine R_call hg.ok (ht) rfl rfl rfl rfl rfl rfl ?_
  refine R_k hg.ok rfl rfl ?_
  refine R_if rfl rfl (fun h=>?_) (fun h=>?_)<;>refine R_k hg.ok rfl rfl ?_
  ·have h:thereL (hasH l) c.body=false:=by simpa using h
   rw[if_neg (by rw[h];simp)]at hm
   rw[hc0,hm]
   refine R_ret hg 5 rfl rfl ?_
   rfl
  ·have h:thereL (hasH l) c.body=true:=by simpa using h
   rw[if_pos h]at hm
   refine R_dropO 1 [.box [.d (.sl (Cs.rows l))]] (Nat.zero_le _) rfl rfl ?_
   exact R_next (k+1) ⟨hk1,hm⟩ (by omega) ⟨.refl _,.refl _,.refl _,Ent.wrap (by omega) (by omega) (by omega),trivial⟩ rfl
 ·have hk1:l.length≤k:=ge_dec h rfl
  rw[List.drop_eq_nil_of_le hk1]at hm
  rw[hc0,hm]
  refine R_ret hg 5 rfl rfl ?_
  rfl

def kpO (l:List Cs)(M:List Sg)(met:List ByteArray)(out:List Kp):List Ob:=[.box [.d (.sl (Cs.rows l))],.box [.d (.sl (Cs.rows l))],.map (kmap (bM (tt M))),.map (smap (mtS met)),.arr 3 out.length (kpR out)]

theorem kpO_map {f:AV→AV}(h:∀b,f (bV b)=bV b)(h2:∀x,f (.d (.sl x))=.d (.sl x))(l:List Cs)(M:List Sg)(met:List ByteArray)(out:List Kp):(kpO l M met out).map (mapOb f)=kpO l M met out:=by
 simp only[kpO,List.map_cons,List.map_nil,mapOb_b h,mapOb_m h]
 simp[mapOb,h2]

theorem keeps_ok (l:List Cs)(hl:l.length≤1000000)(hsm:∀c∈l,SmC c)(hb:∀c∈l,c.head.size+Gl.sizeL c.body≤1000000):PCtr Tryz.prog 23 [prV l] (.tup [.d (.sl (kpR (keepsR l).1)),iV (keepsR l).2]):=by
 have hrl:=Cs.rows_len l
 have hhl:∀c∈l,c.head.l.length≤1000000:=fun c hc=>by have:=hb c hc;have:=Tm.size_eq c.head;have:=tml_len c.head.l;omega
 refine PCtr.of_R (pf:=fun _=>.eff) tyOk mixed Tryz.func23 rfl (by kernel_rfl) (by kernel_rfl) (by simp[Tryz.ntmps23]) fun w S hg=>?_
 refine R_k hg.ok rfl rfl ?_
 refine R_call hg.ok (check_ok l hsm) rfl rfl rfl rfl rfl rfl ?_
 refine R_k hg.ok rfl rfl ?_
 refine R_cut1 (fun b:Bool=>([(1,.lo 0 0),(24,bV b)],[.box [.d (.sl (Cs.rows l))]])) (fun b=>b = !(decide ((checkR l).2=0∧singP [] l=true))) rfl ?_ ?_
 ·refine R_if rfl rfl (fun h=>?_) (fun h=>?_) <;> refine R_run hg.ok 1000 rfl rfl ?_
  ·have h:¬ (checkR l).2=0:=by simpa using h
   exact R_to true (by simp[h]) ⟨.refl _,.tt,trivial⟩ rfl
  ·have h:(checkR l).2=0:=by simpa using h
   refine R_call hg.ok (single_ok l hl hhl) rfl rfl rfl rfl rfl rfl ?_
   refine R_k hg.ok rfl rfl ?_
   exact R_to (!singP [] l) (by simp[h]) ⟨.refl _,.refl _,trivial⟩ rfl
 rintro b hbb
 refine R_k hg.ok rfl rfl ?_
 refine R_if rfl rfl (fun h=>?_) (fun h=>?_)<;>refine R_k hg.ok rfl rfl ?_
 ·refine R_ret hg 5 rfl rfl ?_
  rw[keepsR,if_neg (fun hc=>by rw[h,decide_eq_true hc]at hbb;cases hbb)]
  rfl
 have hcond:(checkR l).2=0∧singP [] l=true:=by rw[h]at hbb;simpa using hbb
 refine R_callSO hg.ok hg.gup ⟨rfl,rfl⟩ (fun _ _ _ _ h=>by cases h) [] ([.box [.d (.sl (Cs.rows l))]]++idO l (idleL l)) (idle_ok ⟨[],fun _=>true⟩ l hl hb) (fun ⟨_,_,_,_,h⟩=>by cases h) rfl rfl rfl rfl rfl rfl rfl (by simp only[idO,List.map_cons,List.map_nil,renOb_b];rfl) ?_
 refine R_k hg.ok rfl rfl ?_
 refine R_makeMap hg.ok rfl rfl ?_
 refine R_k hg.ok rfl rfl ?_
 generalize hM:idleL l=M
 have hkl:keepL l=keepF (idM M) [] l:=by rw[keepL,hM]
 refine R_own 8 3 rfl rfl ?_
 refine R_loop (fun x:Nat × List ByteArray × List Kp=>([(6,.mp 2),(7,.mp 3),(8,.ow 4 x.2.2.length),(29,.d (.sl (Cs.rows l))),(30,iV l.length),(31,iV x.1)],kpO l M x.2.1 x.2.2)) (fun x=>x.1≤l.length∧x.2.2.length≤x.1∧keepL l=x.2.2++keepF (idM M) x.2.1 (l.drop x.1)) (fun x=>l.length - x.1) (0,[],[]) ⟨Nat.zero_le _,Nat.le_refl _,hkl⟩ ⟨.refl _,.refl _,.refl _,.refl _,by rw[hrl];exact .refl _,.refl _,trivial⟩ rfl ?_
 rintro⟨k,met,out⟩ ⟨hk,hol,hm⟩
 simp only at hk hol hm
 refine R_k hg.ok rfl rfl ?_
 refine R_if rfl rfl (fun h=>?_) (fun h=>?_)
 rotate_left
 ·have hk1:l.length≤k:=ge_dec h rfl
  rw[List.drop_eq_nil_of_le hk1,keepF,List.append_nil]at hm
  refine R_freezeO hg.gup 4 [(8,.d (.sl (kpR out))),(32,.ff)] [.box [.d (.sl (Cs.rows l))],.box [.d (.sl (Cs.rows l))],.map (kmap (bM (tt M))),.map (smap (mtS met)),.dead] rfl rfl ⟨Ent.frz 4 _ _,.refl _,trivial⟩ ?_ ?_
  ·exact⟨ObIn.refl _,ObIn.refl _,by show ObIn (mapOb _ _) _;rw[mapOb_b (fun _=>rfl)];exact .refl _,by show ObIn (mapOb _ _) _;rw[mapOb_m (fun _=>rfl)];exact .refl _,by simp[ObIn],trivial⟩
  refine R_k hg.ok rfl rfl ?_
  refine R_ret hg 5 rfl rfl ?_
  rw[keepsR,if_pos hcond,hm]
  rfl
 refine R_k hg.ok rfl rfl ?_
 have hk1:k<l.length:=lt_dec h rfl
 have e1:l[k]? = some l[k]:=List.getElem?_eq_getElem hk1
 rw[List.drop_eq_getElem_cons hk1,keepF]at hm
 have hlc:=hhl _ (List.getElem_mem hk1)
 generalize l[k]=c at e1 hm hlc
 have hrt:=Tm.rows_length c.head.l
 refine R_index hg.ok rfl rfl rfl rfl rfl rfl (Int.natCast_nonneg _) (Cs.rows_get e1) rfl ?_
 refine R_k hg.ok rfl rfl ?_
 by_cases hin:hasB met c.head.s=true
 ·rw [if_pos hin] at hm
  refine R_lookupS hg.ok (zv:=.bool false) (mtS met) rfl rfl rfl rfl rfl rfl rfl (by kernel_rfl) (v:=bV true) (by rw[mtS_get,if_pos hin];rfl) ?_
  refine R_k hg.ok rfl rfl ?_
  refine R_if rfl rfl (fun _=>?_) (fun h=>absurd h (by simp))<;>refine R_k hg.ok rfl rfl ?_
  refine R_dropO 5 (kpO l M met out) (Nat.zero_le _) rfl (by show (kpO l M met out).map (mapOb _)=_;exact kpO_map (fun _=>rfl) (fun _=>rfl) _ _ _ _) ?_
  exact R_next (k+1,met,out) ⟨hk1,by show out.length≤k+1;omega,hm⟩ (by show l.length - (k+1)<l.length - k;omega) ⟨.refl _,.refl _,.refl _,.refl _,.refl _,Ent.wrap (by omega) (by omega) (by omega),trivial⟩ rfl
 rw[if_neg hin]at hm
 refine R_lookupS hg.ok (zv:=.bool false) (mtS met) rfl rfl rfl rfl rfl rfl rfl (by kernel_rfl) (v:=.ff) (by rw[mtS_get,if_neg hin];rfl) ?_
 refine R_k hg.ok rfl rfl ?_
 refine R_setSt hg.ok (mtS met) (mtS (met++[c.head.s])) rfl rfl rfl rfl rfl rfl rfl (v':=bV true) .tt (mtS_set met c.head.s (by simpa using hin)) ?_
 refine R_run hg.ok 8 rfl rfl ?_
 refine R_ownB 6 2 1 rfl rfl rfl ?_
 generalize hmet:met++[c.head.s]=met2 at hm
 refine R_cut1 (fun js:List Int=>([(6,.mp 2),(7,.mp 3),(8,.ow 4 out.length),(11,.lo 6 0),(29,.d (.sl (Cs.rows l))),(30,iV l.length),(31,iV k)],kpO l M met2 out++[csBox c,.box [.d (.v (.string c.head.s)),iV c.head.l.length,.ow 7 js.length],.arr 1 js.length (irows js)])) (fun js=>js=atsF (idM M) c.head.s 0 c.head.l.length) rfl ?_ ?_
 ·refine R_run hg.ok 1000 rfl rfl ?_
  refine R_loop (fun x:Nat × List Int=>([(6,.mp 2),(7,.mp 3),(8,.ow 4 out.length),(10,.lo 5 0),(11,.lo 6 0),(29,.d (.sl (Cs.rows l))),(30,iV l.length),(31,iV k),(55,iV c.head.l.length),(56,iV x.1)],kpO l M met2 out++[csBox c,.box [.d (.v (.string c.head.s)),iV c.head.l.length,.ow 7 x.2.length],.arr 1 x.2.length (irows x.2)])) (fun x=>x.1≤c.head.l.length∧x.2.length≤x.1∧atsF (idM M) c.head.s 0 c.head.l.length=x.2++atsF (idM M) c.head.s x.1 (c.head.l.length - x.1)) (fun x=>c.head.l.length - x.1) (0,[]) ⟨Nat.zero_le _,Nat.le_refl _,rfl⟩ ⟨.refl _,.refl _,.refl _,.refl _,.refl _,.refl _,.refl _,.refl _,by rw[hrt];exact .refl _,.refl _,trivial⟩ (by rw[← hrt];rfl) ?_
  rintro⟨i,js⟩ ⟨hi,hjl,hm2⟩
  simp only at hi hjl hm2
  refine R_k hg.ok rfl rfl ?_
  refine R_if rfl rfl (fun h=>?_) (fun h=>?_)<;>refine R_k hg.ok rfl rfl ?_
  rotate_left
  ·have hi1:c.head.l.length≤i:=ge_dec h rfl
   rw[show c.head.l.length - i=0 by omega,atsF,List.append_nil]at hm2
   exact R_to js hm2.symm ⟨.refl _,.refl _,.refl _,.refl _,.refl _,.refl _,.refl _,trivial⟩ rfl
  have hi1:i<c.head.l.length:=lt_dec h rfl
  rw[show c.head.l.length - i=(c.head.l.length - (i+1))+1 by omega,atsF]at hm2
  refine R_lookupB hg.ok (c.head.s,(i:Int)) (tt M) spotKey rfl rfl rfl rfl rfl rfl (by kernel_rfl) ?_
  refine R_k hg.ok rfl rfl ?_
  rw[lk_tt]
  have hjrl:(irows js).length=js.length:=irows_length js
  cases hoff:hasS M (c.head.s,(i:Int)) with
  |true =>
   rw[show idM M c.head.s i=true from hoff]at hm2
   refine R_if rfl rfl (fun h=>absurd h (by simp)) (fun _=>?_)<;>refine R_k hg.ok rfl rfl ?_
   exact R_next (i+1,js) ⟨hi1,by show js.length≤i+1;omega,by simpa using hm2⟩ (by show c.head.l.length - (i+1)<c.head.l.length - i;omega) ⟨.refl _,.refl _,.refl _,.refl _,.refl _,.refl _,.refl _,.refl _,.refl _,Ent.wrap (by omega) (by omega) (by omega),trivial⟩ rfl
  |false =>
   rw[show idM M c.head.s i=false from hoff]at hm2
   refine R_if rfl rfl (fun _=>?_) (fun h=>absurd h (by simp))<;>refine R_k hg.ok rfl rfl ?_
   refine R_appendO hg.ok (irows (js++[(i:Int)])) rfl rfl rfl rfl rfl rfl rfl rfl rfl (by simp) (by simp[one1]) (by simp[irows,irow]) (by rw[hjrl];simp;omega) (by rw[hjrl];simp;omega) ?_
   refine R_k hg.ok rfl rfl ?_
   have hsn:(js++[(i:Int)]).length=Nat.succ js.length:=by simp
   exact R_next (i+1,js++[(i:Int)]) ⟨hi1,by show (js++[(i:Int)]).length≤i+1;omega,by rw[hm2];simp⟩ (by show c.head.l.length - (i+1)<c.head.l.length - i;omega) ⟨.refl _,.refl _,.refl _,.refl _,.refl _,.refl _,.refl _,.refl _,.refl _,Ent.wrap (by omega) (by omega) (by omega),trivial⟩ (by rw[hsn];rfl)
 rintro _ rfl
 have hal:=atsF_len (idM M) c.head.s c.head.l.length 0
 generalize hats:atsF (idM M) c.head.s 0 c.head.l.length=ats at hm hal
 refine R_freezeO hg.gup 7 [(6,.mp 2),(7,.mp 3),(8,.ow 4 out.length),(11,.lo 6 0),(29,.d (.sl (Cs.rows l))),(30,iV l.length),(31,iV k)] (kpO l M met2 out++[csBox c,.box [.d (.v (.string c.head.s)),iV c.head.l.length,.d (.sl (irows ats))],.dead]) rfl rfl ⟨.refl _,.refl _,.refl _,.refl _,.refl _,.refl _,.refl _,trivial⟩ ⟨ObIn.refl _,ObIn.refl _,by show ObIn (mapOb _ _) _;rw[mapOb_b (fun _=>rfl)];exact .refl _,by show ObIn (mapOb _ _) _;rw[mapOb_m (fun _=>rfl)];exact .refl _,ObIn.refl _,ObIn.refl _,⟨.refl _,.refl _,Ent.frz 7 _ _,trivial⟩,by simp[ObIn],trivial⟩ ?_
 refine R_k hg.ok rfl rfl ?_
 refine R_appendO hg.ok (kpR (out++[Kp.mk c.head.s c.head.l.length ats])) rfl rfl rfl rfl rfl rfl rfl rfl rfl (by simp) (by simp[one1]) (kpR_snoc out (Kp.mk c.head.s c.head.l.length ats)) (by rw[kpR_len];simp;omega) (by rw[kpR_len];simp;omega) ?_
 refine R_k hg.ok rfl rfl ?_
 have hsn:(out++[(⟨c.head.s,c.head.l.length,ats⟩:Kp)]).length=Nat.succ out.length:=by simp
 refine R_dropO 5 (kpO l M met2 (out++[⟨c.head.s,c.head.l.length,ats⟩])) (Nat.zero_le _) rfl (by rw[kpO,hsn];show [_,_,mapOb _ _,mapOb _ _,_]=_;rw[mapOb_b (fun _=>rfl),mapOb_m (fun _=>rfl)];rfl) ?_
 exact R_next (k+1,met2,out++[⟨c.head.s,c.head.l.length,ats⟩]) ⟨hk1,by show (out++[(⟨c.head.s,c.head.l.length,ats⟩:Kp)]).length≤k+1;omega,by rw[hm];simp⟩ (by show l.length - (k+1)<l.length - k;omega) ⟨.refl _,.refl _,by rw[hsn];exact .refl _,.refl _,.refl _,Ent.wrap (by omega) (by omega) (by omega),trivial⟩ rfl
end Go.Proofs.YtcgkgofmldhokaaGreat

namespace PSL
open Go
def inB (l:List Int)(i:Int):Bool:=decide (0≤atI l i 0)

theorem atI_neg:∀ (l:List Int) (n i:Int),0≤i→(0≤atI l n i↔n∈l)
 |[],n,i,_=>by simp[atI]
 |x::r,n,i,h=>by
  simp only[atI]
  by_cases hx:x=n
  ·rw[if_pos hx];simp[hx,h]
  ·rw [if_neg hx,atI_neg r n (i+1) (by omega)]
   simp only[List.mem_cons,show ¬ n=x from fun e=>hx e.symm,false_or]
theorem inB_iff {l:List Int}{i:Int}:inB l i=true↔i∈l:=by unfold inB;rw[decide_eq_true_eq];exact atI_neg l i 0 (Int.le_refl _)

def keptB:List Kp→ByteArray→Int→Bool
 |[],_,_=>true
 |x::r,s,i=>if x.s=s then inB x.at_ i else keptB r s i
def idK (K:List Kp)(s:ByteArray)(i:Nat):Bool:=!keptB K s i
def freeB (K:List Kp)(c:Cs)(x:Tm):Bool:=(x.k==1)&&(stT c.head x.n==1)&&(lkGs (idK K) c.body x.n==0)

def insF (a:Int):Bool→List Int→List Int
 |put,[]=>if put then [] else [a]
 |put,b::r=>(if !put&&decide (b > a) then [a] else [])++b::insF a (put || decide (b > a)) r
def withK (K:List Kp)(s:ByteArray)(a:Int):List Kp:=K.map fun x=>if x.s=s then ⟨x.s,x.n,insF a false x.at_⟩ else x
def stepA (K:List Kp)(c:Cs)(i:Nat)(x:Tm):List Kp:=if idK K c.head.s i && !freeB K c x then withK K c.head.s i else K

def argsK (c:Cs):List Kp→List Tm→Nat→List Kp
 |K,[],_=>K
 |K,x::r,i=>argsK c (stepA K c i x) r (i+1)

def passK:List Kp→List Cs→List Kp
 |K,[]=>K
 |K,c::r=>passK (argsK c K c.head.l 0) r

def initK:List Kp→List Cs→List Kp
 |K,[]=>K
 |K,c::r=>initK (if K.any (fun x=>decide (x.s=c.head.s)) then K else K++[⟨c.head.s,c.head.l.length,[]⟩]) r

def unA (K:List Kp) (s:ByteArray):Nat→Nat→Nat
 |_,0=>0
 |i,m+1=>(if idK K s i then 1 else 0)+unA K s (i+1) m

def unK (K:List Kp):List Cs→Nat
 |[]=>0
 |c::r=>unA K c.head.s 0 c.head.l.length+unK K r

def refF:Nat→List Cs→List Kp→List Kp
 |0,_,K=>K
 |f+1,l,K=>if passK K l=K then K else refF f l (passK K l)
def refKeeps (l:List Cs):List Kp:=refF (unK (initK [] l) l+1) l (initK [] l)

theorem ins_mem {a b:Int}:∀ {l:List Int} {put:Bool},b∈insF a put l↔b∈l∨(b=a∧put=false)
 |[],put=>by cases put<;>simp[insF]
 |x::r,put=>by
  simp only[insF,List.mem_append,List.mem_cons,ins_mem (l:=r)]
  cases put with
  |true=>simp
  |false =>
   by_cases h:x > a
   ·simp [h]
    constructor
    ·rintro (h1 | h1 | h1)
     ·exact .inr h1
     ·exact .inl (.inl h1)
     ·exact .inl (.inr h1)
    ·rintro ((h1 | h1) | h1)
     ·exact .inr (.inl h1)
     ·exact .inr (.inr h1)
     ·exact .inl h1
   ·simp[h,or_assoc]

theorem ins_done {a:Int}:∀ {l:List Int},insF a true l=l
 |[]=>rfl
 |x::r=>by simp only[insF,Bool.true_or];rw[ins_done (l:=r)];rfl

theorem ins_sorted {a:Int}:∀ {l:List Int},l.Pairwise (· < ·)→a ∉ l→(insF a false l).Pairwise (· < ·)
 |[],_,_=>by simp[insF]
 |x::r,h,hn=>by
  rw[List.pairwise_cons]at h
  simp only[List.mem_cons,not_or]at hn
  simp only[insF,Bool.not_false,Bool.true_and,Bool.false_or]
  by_cases hx:x > a
  ·simp only [hx,decide_true,if_true]
   rw[ins_done]
   simp only[List.singleton_append,List.pairwise_cons,List.mem_cons]
   refine⟨?_,h.1,h.2⟩
   rintro b (rfl |hb)
   ·omega
   ·have:=h.1 b hb;omega
  ·simp only [hx,decide_false,Bool.false_eq_true,if_false,List.nil_append]
   rw[List.pairwise_cons]
   refine⟨fun b hb=>?_,ins_sorted h.2 hn.2⟩
   rcases ins_mem.1 hb with hb |⟨hb,_⟩
   ·exact h.1 b hb
   ·omega

def defK (K:List Kp)(s:ByteArray):Bool:=K.any fun x=>decide (x.s=s)

theorem kept_with (K:List Kp)(s s':ByteArray)(a j:Int):keptB (withK K s' a) s j=(keptB K s j || (decide (s=s')&&decide (j=a) )):=by
 induction K with
 |nil=>simp[withK,keptB]
 |cons x r ih =>
  have hw:withK (x::r) s' a=(if x.s=s' then ⟨x.s,x.n,insF a false x.at_⟩ else x)::withK r s' a:=rfl
  rw[hw,keptB,keptB]
  by_cases h1:x.s=s'
  ·rw [if_pos h1]
   simp only
   by_cases h2:x.s=s
   ·rw [if_pos h2,if_pos h2]
    rw[Bool.eq_iff_iff,inB_iff,ins_mem,Bool.or_eq_true,inB_iff]
    simp[h2.symm.trans h1]
   ·rw[if_neg h2,if_neg h2,ih]
  ·rw [if_neg h1]
   by_cases h2:x.s=s
   ·rw [if_pos h2,if_pos h2]
    have:¬ s=s':=fun e=>h1 (h2.trans e)
    simp[this]
   ·rw[if_neg h2,if_neg h2,ih]

theorem id_with (K:List Kp)(s s':ByteArray)(a:Nat)(j:Nat):idK (withK K s' a) s j=(idK K s j && !(decide (s=s')&&decide (j=a))):=by
 unfold idK
 rw[kept_with,Bool.not_or,show decide ((j:Int)=(a:Int))=decide (j=a) from decide_eq_decide.2 (by omega)]

theorem unA_same (K:List Kp)(s:ByteArray)(a:Nat):∀ (m i:Nat),unA (withK K s a) s i m+(if i≤a∧a<i+m∧idK K s a=true then 1 else 0)=unA K s i m
 |0,i=>by simp only[unA];rw[if_neg (by omega)]
 |m+1,i=>by
  have ih:=unA_same K s a m (i+1)
  have hid:idK (withK K s a) s i=(idK K s i && !decide (i=a)):=by rw[id_with];simp
  simp only[unA,hid]
  by_cases hi:i=a
  ·subst hi
   rw[if_neg (by omega)]at ih
   rw[if_neg (by simp)]
   cases hk:idK K s i with
   |true=>rw[if_pos ⟨Nat.le_refl _,by omega,rfl⟩,if_pos rfl];omega
   |false=>rw[if_neg (by simp),if_neg (by simp)];omega
  ·rw [decide_eq_false hi,Bool.not_false,Bool.and_true]
   by_cases hc:i+1≤a∧a<i+1+m∧idK K s a=true
   ·rw [if_pos hc] at ih
    rw[if_pos (show i≤a∧a<i+(m+1)∧idK K s a=true from⟨by omega,by omega,hc.2.2⟩)];omega
   ·rw [if_neg hc] at ih
    rw[if_neg (show ¬ (i≤a∧a<i+(m+1)∧idK K s a=true) from fun h=>hc ⟨by omega,by omega,h.2.2⟩)];omega

theorem unA_other (K:List Kp){s s':ByteArray}(h:¬ s=s')(a:Nat):∀ (m i:Nat),unA (withK K s' a) s i m=unA K s i m
 |0,i=>rfl
 |m+1,i=>by
  have hid:idK (withK K s' a) s i=idK K s i:=by rw[id_with];simp[h]
  simp only[unA,hid,unA_other K h a m (i+1)]

theorem unA_with (K:List Kp)(s s':ByteArray)(a:Nat)(m i:Nat):unA (withK K s' a) s i m≤unA K s i m∧(s=s'→i≤a→a<i+m→idK K s a=true→unA (withK K s' a) s i m<unA K s i m):=by
 by_cases h:s=s'
 ·subst h
  have:=unA_same K s a m i
  refine⟨by omega,fun _ h1 h2 h3=>?_⟩
  rw[if_pos ⟨h1,h2,h3⟩]at this;omega
 ·rw [unA_other K h a m i]
  exact⟨Nat.le_refl _,fun h2=>absurd h2 h⟩

theorem unK_with_le (K:List Kp)(s:ByteArray)(a:Nat):∀l:List Cs,unK (withK K s a) l≤unK K l
 |[]=>Nat.le_refl _
 |c::r=>by
  have h1:=(unA_with K c.head.s s a c.head.l.length 0).1
  have h2:=unK_with_le K s a r
  simp only[unK];omega

theorem unK_with_lt (K:List Kp)(a:Nat)(c:Cs)(hid:idK K c.head.s a=true)(ha:a<c.head.l.length):∀l:List Cs,c∈l→unK (withK K c.head.s a) l<unK K l
 |[],h=>by cases h
 |d::r,h=>by
  obtain⟨h1,h1'⟩:=unA_with K d.head.s c.head.s a d.head.l.length 0
  have h2:=unK_with_le K c.head.s a r
  simp only[unK]
  rcases List.mem_cons.1 h with rfl |h
  ·have:=h1' rfl (Nat.zero_le _) (by omega) hid;omega
  ·have:=unK_with_lt K a c hid ha r h;omega

theorem stepA_un {l:List Cs}{K:List Kp}{c:Cs}{i:Nat}{x:Tm}(hc:c∈l)(hi:i<c.head.l.length):(idK K c.head.s i && !freeB K c x)=false∧stepA K c i x=K∨(idK K c.head.s i && !freeB K c x)=true∧stepA K c i x=withK K c.head.s i∧unK (stepA K c i x) l<unK K l:=by
 unfold stepA
 cases hb:(idK K c.head.s i && !freeB K c x) with
 |false=>exact .inl ⟨rfl,by rw[if_neg (by simp)]⟩
 |true =>
  rw[if_pos rfl]
  rw[Bool.and_eq_true]at hb
  exact .inr ⟨rfl,rfl,unK_with_lt K i c hb.1 hi l hc⟩

theorem argsK_un {l:List Cs}{c:Cs}(hc:c∈l):∀ (r:List Tm) (i:Nat) (K:List Kp),i+r.length≤c.head.l.length→unK (argsK c K r i) l≤unK K l∧(unK (argsK c K r i) l=unK K l→argsK c K r i=K)
 |[],i,K,_=>⟨Nat.le_refl _,fun _=>rfl⟩
 |x::r,i,K,h=>by
  simp only[List.length_cons]at h
  obtain⟨h1,h2⟩:=argsK_un hc r (i+1) (stepA K c i x) (by omega)
  rw[argsK]
  rcases stepA_un (l:=l) (K:=K) (x:=x) hc (show i<c.head.l.length by omega) with ⟨_,h3⟩ |⟨_,_,h3⟩
  ·rw[h3]at h1 h2 ⊢;exact⟨h1,h2⟩
  ·exact⟨by omega,fun h4=>by omega⟩

theorem passK_un {l:List Cs}:∀ (r:List Cs) (K:List Kp),(∀c∈r,c∈l)→unK (passK K r) l≤unK K l∧(unK (passK K r) l=unK K l→passK K r=K)
 |[],K,_=>⟨Nat.le_refl _,fun _=>rfl⟩
 |c::r,K,h=>by
  obtain⟨h1,h2⟩:=argsK_un (h c (by simp)) c.head.l 0 K (by omega)
  obtain⟨h3,h4⟩:=passK_un r (argsK c K c.head.l 0) fun d hd=>h d (by simp[hd])
  rw[passK]
  exact⟨by omega,fun h5=>by rw[h4 (by omega)];exact h2 (by omega)⟩
end PSL
