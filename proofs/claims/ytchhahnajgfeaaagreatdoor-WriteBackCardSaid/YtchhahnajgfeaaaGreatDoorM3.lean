import Derived.Test.YtchhahnajgfeaaaGreatDoorM2
import Derived.Test.YtchhahnajgfeaaaGreatDoorSTy
namespace Go.Proofs.YtchhahnajgfeaaaGreatDoor
open Go PSL Go.Proofs

theorem addV_nodup {l:List Int} {x:Int} (h:l.Nodup):(addV l x).Nodup:=by
 unfold addV
 split
 ·exact h
 ·rename_i hc
  rw [List.nodup_append]
  refine ⟨h,by simp,fun a ha b hb=>?_⟩
  simp at hb; subst hb
  rintro rfl
  exact hc (by simpa using ha)

theorem foldl_nodup:∀ (l:List (Int × Tm)) (a:List Int),a.Nodup→(l.foldl stepV a).Nodup
 | [],a,h=>h
 | e::l,a,h=>by
  refine foldl_nodup l _ ?_
  unfold stepV; split
  ·exact addV_nodup h
  ·exact h

theorem varsF_nodup:∀ (l:List Tm) (a:List Int),a.Nodup→(varsF a l).Nodup
 | [],a,h=>h
 | t::l,a,h=>varsF_nodup l _ (foldl_nodup _ _ h)
theorem varsT_nodup (l:List Tm):(varsT l).Nodup:=varsF_nodup l [] (by simp)

theorem take_not_mem {l:List Int} (h:l.Nodup) {k:Nat} (hk:k<l.length):l[k] ∉ l.take k:=by
 intro hm
 obtain ⟨i,hi,e⟩:=List.mem_iff_getElem.1 hm
 rw [List.length_take] at hi
 rw [List.getElem_take] at e
 have:=(List.nodup_iff_pairwise_ne.1 h)
 rw [List.pairwise_iff_getElem] at this
 exact this i k (by omega) hk (by omega) e

set_option maxRecDepth 100000 in
theorem termNumber_ok (l:List Tm) (hsz:Tm.sizeL l<1000000000) (hns:∀ t∈l,∀ e∈t.els 1,e.2.s.size<1000000000):PCtr Tryz.prog 9 [.d (.sl (Tm.rows l))] (.tup [.d (.sl (Tm.rows (numberT l).1)),iV (numberT l).2.1,iV (numberT l).2.2]):=by
 have hl:=Tm.len_le_sizeL l
 have hvl:(varsT l).length≤Tm.sizeL l:=by have:=varsF_len l []; simpa [varsF,varsT] using this
 refine PCtr.of_R (pf:=fun _=>.look 0) tyOk mixed Tryz.func9 rfl (by kernel_rfl) (by kernel_rfl) (by simp [Tryz.ntmps9]) fun w S hg=>?_
 refine R_run hg.ok 1000 rfl rfl ?_
 refine R_loop (fun k:Nat=>([(0,.d (.sl (Tm.rows l))),(13,.d (.sl (Tm.rows l))),(14,iV l.length),(15,iV k)],[])) (fun k=>k≤l.length∧l.all rightT=(l.drop k).all rightT) (fun k=>l.length - k) 0 ⟨Nat.zero_le _,rfl⟩ ⟨.refl _,.refl _,Ent.int (by rw [Tm.rows_length]),.refl _,trivial⟩ rfl ?_
 rintro k ⟨hk,hm⟩
 refine R_run hg.ok 1000 rfl rfl ?_
 refine R_if rfl rfl (fun h=>?_) (fun h=>?_) <;> refine R_run hg.ok 1000 rfl rfl ?_
 ·have hk1:k<l.length:=lt_dec h rfl
  have e1:l[k]? = some l[k]:=List.getElem?_eq_getElem hk1
  have hsm:=Tm.size_mem (List.getElem_mem hk1)
  rw [List.drop_eq_getElem_cons hk1,List.all_cons] at hm
  refine R_index hg.ok rfl rfl rfl rfl rfl rfl (Int.natCast_nonneg k) (Tm.rows_get e1) rfl ?_
  refine R_run hg.ok 1000 rfl rfl ?_
  refine R_call hg.ok (right_ok l[k] (by omega) (hns _ (List.getElem_mem hk1))) rfl rfl rfl rfl rfl rfl ?_
  refine R_run hg.ok 1000 rfl rfl ?_
  refine R_if rfl rfl (fun h=>?_) (fun h=>?_) <;> refine R_run hg.ok 1000 rfl rfl ?_
  ·refine R_ret hg 5 rfl rfl ?_
   have h:rightT l[k]=false:=by simpa using h
   simp only [numberT,hm,h,Bool.false_and]; rfl
  ·have h:rightT l[k]=true:=by simpa using h
   refine R_drop 0 (Nat.zero_le _) rfl ?_
   refine R_next (k+1) ⟨hk1,by rw [hm,h,Bool.true_and]⟩ (by omega) ⟨.refl _,.refl _,.refl _,Ent.wrap (by omega) (by omega) (by omega),trivial⟩ rfl
 have hk1:l.length≤k:=ge_dec h rfl
 rw [List.drop_eq_nil_of_le hk1,List.all_nil] at hm
 refine R_makeMap hg.ok rfl rfl ?_
 refine R_run hg.ok 1000 rfl rfl ?_
 refine R_call hg.ok (vars_ok l hsz) rfl rfl rfl rfl rfl rfl ?_
 refine R_run hg.ok 1000 rfl rfl ?_
 have hnd:=varsT_nodup l
 generalize hV:varsT l=V at *
 refine R_loop (fun k:Nat=>([(0,.d (.sl (Tm.rows l))),(7,.lo 1 0),(25,.d (.sl (irows V))),(26,iV V.length),(27,iV k)],[.map (imap (numM (V.take k) 0)),.box [.mp 0]])) (fun k=>k≤V.length) (fun k=>V.length - k) 0 (Nat.zero_le _) ⟨.refl _,.refl _,.refl _,Ent.int (by rw [irows_length]),.refl _,trivial⟩ rfl ?_
 intro k hk
 refine R_run hg.ok 1000 rfl rfl ?_
 refine R_if rfl rfl (fun h=>?_) (fun h=>?_) <;> refine R_run hg.ok 1000 rfl rfl ?_
 ·have hk1:k<V.length:=lt_dec h rfl
  have e1:V[k]? = some V[k]:=List.getElem?_eq_getElem hk1
  refine R_index hg.ok rfl rfl rfl rfl rfl rfl (Int.natCast_nonneg k) (irows_get e1) rfl ?_
  refine R_run hg.ok 1000 rfl rfl ?_
  refine R_mapAddO hg.ok (numM (V.take k) 0) (numM (V.take (k+1)) 0) rfl rfl rfl rfl rfl rfl rfl (by rw [getI_num _ _ _ (Int.le_refl _),atI_not_mem (take_not_mem hnd hk1)]; rfl) rfl (by rw [List.take_add_one,e1,Option.toList_some,← numM_snoc,List.length_take,Nat.min_eq_left hk,Int.zero_add]; rfl) ?_
  refine R_run hg.ok 1000 rfl rfl ?_
  exact R_next (k+1) hk1 (by omega) ⟨.refl _,.refl _,.refl _,.refl _,Ent.wrap (by omega) (by omega) (by omega),trivial⟩ rfl
 have hk1:V.length≤k:=ge_dec h rfl
 rw [List.take_of_length_le hk1]
 refine R_own 10 4 rfl rfl ?_
 refine R_loop (fun k:Nat=>([(7,.lo 1 0),(10,.ow 2 k),(36,.d (.sl (Tm.rows l))),(37,iV l.length),(38,iV k)],[.map (imap (numM V 0)),.box [.mp 0],.arr 4 k (Tm.rows (Tm.turnTL (placeG V) (l.take k)))])) (fun k=>k≤l.length) (fun k=>l.length - k) 0 (Nat.zero_le _) ⟨.refl _,.refl _,.refl _,Ent.int (by rw [Tm.rows_length]),.refl _,trivial⟩ rfl ?_
 intro k hk
 refine R_run hg.ok 1000 rfl rfl ?_
 refine R_if rfl rfl (fun h=>?_) (fun h=>?_) <;> refine R_run hg.ok 1000 rfl rfl ?_
 ·have hk1:k<l.length:=lt_dec h rfl
  have e1:l[k]? = some l[k]:=List.getElem?_eq_getElem hk1
  have hsm:=Tm.size_mem (List.getElem_mem hk1)
  refine R_index hg.ok rfl rfl rfl rfl rfl rfl (Int.natCast_nonneg k) (Tm.rows_get e1) rfl ?_
  refine R_run hg.ok 1000 rfl rfl ?_
  refine R_callL hg.ok hg.gup ⟨rfl,rfl⟩ (fun _ _ _ _ h=>by cases h) [1,0] (turnedN_ok ⟨[],fun _=>true⟩ V l[k] (by omega)) (fun _=>rfl) rfl rfl rfl rfl rfl (some2 (renOb_num _ _)) rfl (cong1 (renOb_num _ _)) ?_
  refine R_run hg.ok 1000 rfl rfl ?_
  refine R_appendO hg.ok _ rfl rfl rfl rfl rfl rfl rfl rfl rfl (by simp) (by simp [one1]) (turn_snoc e1) (by rw [Tm.rows_length,Tm.turnTL_map]; simp; omega) (by rw [Tm.rows_length,Tm.turnTL_map]; simp; omega) ?_
  refine R_run hg.ok 1000 rfl rfl ?_
  refine R_dropO 3 _ (Nat.zero_le _) rfl (cong1 (mapOb_num (fun _=>rfl) _ _)) ?_
  exact R_next (k+1) hk1 (by omega) ⟨.refl _,.refl _,.refl _,.refl _,Ent.wrap (by omega) (by omega) (by omega),trivial⟩ rfl
 ·have hk1:l.length≤k:=ge_dec h rfl
  refine R_ret hg 5 rfl (sealA_tup (mapO_cons (sealA_ow rfl) rfl)) ?_
  have hlen:(imap (numM V 0)).length=V.length:=by simp [imap,numM_len]
  simp only [numberT,hV,hm,if_true,List.take_of_length_le hk1,hlen]; rfl
end Go.Proofs.YtchhahnajgfeaaaGreatDoor

namespace Go.Proofs.YtchhahnajgfeaaaGreatDoor
open Go PSL Go.Proofs
end Go.Proofs.YtchhahnajgfeaaaGreatDoor

namespace Go.Proofs.YtchhahnajgfeaaaGreatDoor
open Go PSL Go.Proofs

theorem fun10_ok (s:ByteArray) (l:List Tm):PCtr Tryz.prog 12 [.d (.v (.string s)),.d (.sl (Tm.rows l))] (Tm.mk 3 s 0 l).av:=by
 refine PCtr.of_R (pf:=fun _=>.still) tyOk mixed Tryz.func12 rfl (by kernel_rfl) (by kernel_rfl) (by simp [Tryz.ntmps12]) fun w S hg=>?_
 refine R_run hg.ok 1000 rfl rfl ?_
 refine R_ret hg 5 rfl rfl ?_
 rfl
def kWa:Tm:=.mk 3 ⟨#[97]⟩ 0 []
def kWn:Tm:=.mk 3 ⟨#[91,93]⟩ 0 []
def kWv:Tm:=.mk 1 ⟨#[]⟩ 3 []
def kWc (x y:Tm):Tm:=.mk 3 ⟨#[46]⟩ 0 [x,y]
def kWB:Tm:=.mk 3 ⟨#[66]⟩ 0 []
def kWl:Tm:=kWc kWa (kWc kWv kWn)
def kWf:Tm:=.mk 3 ⟨#[102]⟩ 0 [kWl,kWB]
def kWp:Tm:=.mk 3 ⟨#[112]⟩ 0 []
def kWg (k:Int):Gl:=.mk k (.mk 0 ⟨#[]⟩ 0 []) [] [] []

theorem kWf_w:TmW kWf:=by
 refine ⟨fun d e he=>?_,fun d e he=>?_,by decide⟩
 ·simp only [kWf,kWl,kWc,kWa,kWv,kWn,kWB,Tm.els,Tm.elsL,List.append_nil,List.cons_append,List.nil_append,List.mem_cons,List.not_mem_nil,or_false] at he
  rcases he with rfl | rfl | rfl | rfl | rfl | rfl | rfl <;> (simp only [Tm.k,Tm.n,I64]; omega)
 ·simp only [kWf,kWl,kWc,kWa,kWv,kWn,kWB,Tm.els,Tm.elsL,List.append_nil,List.cons_append,List.nil_append,List.mem_cons,List.not_mem_nil,or_false] at he
  rcases he with rfl | rfl | rfl | rfl | rfl | rfl | rfl <;> (simp only [Tm.s]; decide)

theorem kWp_w:TmW kWp:=by
 refine ⟨fun d e he=>?_,fun d e he=>?_,by decide⟩
 ·simp only [kWp,Tm.els,Tm.elsL,List.mem_cons,List.not_mem_nil,or_false] at he
  subst he; simp only [Tm.k,Tm.n,I64]; omega
 ·simp only [kWp,Tm.els,Tm.elsL,List.mem_cons,List.not_mem_nil,or_false] at he
  subst he; simp only [Tm.s]; decide

theorem kWg_w:GlW [kWg 3,kWg 5]:=by
 have h0:∀ (d:Int) (e:Int × Tm),e∈(Tm.mk 0 ⟨#[]⟩ 0 []).els d→e=(d,.mk 0 ⟨#[]⟩ 0 []):=fun d e he=>by simpa only [Tm.els,Tm.elsL,List.mem_cons,List.not_mem_nil,or_false] using he
 have hg:∀ k:Int,I64 k→(kWg k).Ok:=fun k hk=>.mk hk ⟨fun d e he=>by rw [h0 d e he]; simp only [Tm.l,Tm.s]; decide,fun d e he=>by rw [h0 d e he]; simp only [Tm.k,Tm.n,I64]; omega⟩ (by simp) (by simp) (by simp) (by simp) (by simp) (by simp)
 have hf:FwT (.mk 0 ⟨#[]⟩ 0 []):=fun d e he=>by rw [h0 d e he]; simp only [Tm.s]; decide
 refine ⟨?_,?_,by decide⟩
 ·intro g hgm
  simp only [List.mem_cons,List.not_mem_nil,or_false] at hgm
  rcases hgm with rfl | rfl
  ·exact hg 3 (by simp only [I64]; omega)
  ·exact hg 5 (by simp only [I64]; omega)
 ·exact ⟨⟨hf,trivial,trivial,trivial⟩,⟨hf,trivial,trivial,trivial⟩,trivial⟩

theorem kWf_text:textW kWf=[102,40,91,97,44,95,51,93,44,39,66,39,41]:=by
 have h3:Lib.itoa 3=[51]:=by rw [Lib.itoa,if_neg (by decide)]; exact decD_low (by decide)
 have hf:nameB [102]=[102]:=by decide
 have ha:nameB [97]=[97]:=by decide
 have hB:nameB [66]=[39,66,39]:=by decide
 simp [textW,kWf,kWl,kWc,kWa,kWv,kWn,kWB,pcs,pcsTl,pcsCell,pcsCell2,pcsArgs,atomP,cellK,nilK,h3,hf,ha,hB]

theorem kWp_text:textW kWp=[112]:=by
 have hf:nameB [112]=[112]:=by decide
 simp [textW,kWp,pcs,pcsArgs,atomP,cellK,hf]

theorem kWp_sure:sureB kWp=[112]:=by
 rw [sureB,if_pos (by decide +kernel),kWp_text]; rfl

theorem kWf_write:writeT kWf=([102,40,91,97,44,95,51,93,44,39,66,39,41],0):=by
 rw [writeT_right (by decide +kernel),kWf_text]; rfl

theorem kWg_clause:clauseB kWp [kWg 3,kWg 5]=[112,32,58,45,32,33,44,32,92,43,32,40,116,114,117,101,41,46]:=by
 simp [clauseB,kWp_sure,goalsB,goalsTl,goalB,kWg]

set_option maxRecDepth 100000 in
theorem knows10_ok:PCtr Tryz.prog 6 [] (bV true):=by
 have h1:=writeW_ok kWf kWf_w
 rw [kWf_write] at h1
 have h2:=clauseW_ok kWp [kWg 3,kWg 5] 0 kWp_w kWg_w
 rw [kWg_clause] at h2
 have h3:=goalsW_ok [] ⟨by simp,trivial,by decide⟩
 refine PCtr.of_R (pf:=fun _=>.still) tyOk mixed Tryz.func6 rfl (by kernel_rfl) (by kernel_rfl) (by simp [Tryz.ntmps6]) fun w S hg=>?_
 refine R_run hg.ok 1000 rfl rfl ?_
 refine R_callN hg.ok (fun10_ok ⟨#[97]⟩ []) rfl rfl rfl rfl (by kernel_rfl) rfl rfl ?_
 refine R_run hg.ok 1000 rfl rfl ?_
 refine R_callN hg.ok (fun10_ok ⟨#[91,93]⟩ []) rfl rfl rfl rfl (by kernel_rfl) rfl rfl ?_
 refine R_run hg.ok 1000 rfl rfl ?_
 refine R_weak [(5,kWa.av),(8,.d (.sl (Tm.rows [kWv,kWn])))] ⟨.refl _,Ent.rows ⟨⟨.refl _,.refl _,.refl _,.nil,trivial⟩,⟨.refl _,.refl _,.refl _,.refl _,trivial⟩,trivial⟩,trivial⟩ ?_
 refine R_callN hg.ok (fun10_ok ⟨#[46]⟩ [kWv,kWn]) rfl rfl rfl rfl (by kernel_rfl) rfl rfl ?_
 refine R_run hg.ok 1000 rfl rfl ?_
 refine R_callN hg.ok (fun10_ok ⟨#[46]⟩ [kWa,kWc kWv kWn]) rfl rfl rfl rfl (by kernel_rfl) rfl rfl ?_
 refine R_run hg.ok 1000 rfl rfl ?_
 refine R_callN hg.ok (fun10_ok ⟨#[66]⟩ []) rfl rfl rfl rfl (by kernel_rfl) rfl rfl ?_
 refine R_run hg.ok 1000 rfl rfl ?_
 refine R_callN hg.ok (fun10_ok ⟨#[102]⟩ [kWl,kWB]) rfl rfl rfl rfl (by kernel_rfl) rfl rfl ?_
 refine R_run hg.ok 1000 rfl rfl ?_
 refine R_callN hg.ok (h1) rfl rfl rfl rfl (by kernel_rfl) rfl rfl ?_
 refine R_run hg.ok 1000 rfl rfl ?_
 refine R_callN hg.ok (fun10_ok ⟨#[112]⟩ []) rfl rfl rfl rfl (by kernel_rfl) rfl rfl ?_
 refine R_run hg.ok 1000 rfl rfl ?_
 refine R_weak [(2,txA [102,40,91,97,44,95,51,93,44,39,66,39,41]),(3,iV 0),(24,Cs.av ⟨kWp,[kWg 3,kWg 5],0⟩)] ⟨.refl _,.refl _,Ent.agg ⟨.refl _,.refl _,.refl _,.refl _,Ent.rows ⟨⟨.refl _,.refl _,.refl _,.refl _,.nil,.nil,.nil,.nil,trivial⟩,⟨.refl _,.refl _,.refl _,.refl _,.nil,.nil,.nil,.nil,trivial⟩,trivial⟩,.refl _,trivial⟩,trivial⟩ ?_
 refine R_callN hg.ok (h2) rfl rfl rfl rfl (by kernel_rfl) rfl rfl ?_
 refine R_run hg.ok 1000 rfl rfl ?_
 refine R_if rfl rfl (fun _=>?_) (fun h=>absurd (h.symm.trans (Tm.strEq_iff.2 rfl)) (by simp)) <;> refine R_run hg.ok 1000 rfl rfl ?_
 refine R_if rfl rfl (fun _=>?_) (fun h=>absurd h (by decide)) <;> refine R_run hg.ok 1000 rfl rfl ?_
 refine R_if rfl rfl (fun _=>?_) (fun h=>absurd (h.symm.trans (Tm.strEq_iff.2 rfl)) (by simp)) <;> refine R_run hg.ok 1000 rfl rfl ?_
 refine R_callN hg.ok (h3) rfl rfl rfl rfl (by kernel_rfl) rfl rfl ?_
 refine R_run hg.ok 1000 rfl rfl ?_
 refine R_ret hg 5 rfl rfl ?_
 exact congrArg bV (Tm.strEq_iff.2 rfl)
end Go.Proofs.YtchhahnajgfeaaaGreatDoor

namespace PSL
open Go

theorem tw_app {p:UInt8→Bool} {c:UInt8} (hc:p c=false) (r:Bs):∀ l:Bs,(l++c::r).takeWhile p=l.takeWhile p
 | []=>by rw [List.nil_append,List.takeWhile_cons_of_neg (by rw [hc]; simp)]; rfl
 | x::l=>by
  rw [List.cons_append]
  by_cases h:p x=true
  ·rw [List.takeWhile_cons_of_pos h,List.takeWhile_cons_of_pos h,tw_app hc r l]
  ·rw [List.takeWhile_cons_of_neg h,List.takeWhile_cons_of_neg h]
end PSL
namespace PSL
open Go

theorem toks_bad:∀ (f:Nat) (L:Bs) (i j:Nat),toks f L i=.error j→j<L.length
 | 0,L,i,j,h=>by simp [toks] at h
 | f+1,L,i,j,h=>by
  simp only [toks] at h
  by_cases hp:passN L i<L.length
  ·rw [if_pos hp] at h
   cases hone:oneT L (passN L i) with
   | none=>rw [hone] at h; simp only [Except.error.injEq] at h; omega
   | some x =>
    obtain ⟨t,to⟩:=x
    rw [hone] at h
    simp only at h
    cases hr:toks f L to with
    | error k=>rw [hr] at h; simp only [Except.error.injEq] at h; rw [← h]; exact toks_bad f L to k hr
    | ok r=>rw [hr] at h; cases h
  ·rw [if_neg hp] at h; cases h
end PSL

namespace PSL
open Go

theorem tw_self {p:UInt8→Bool}:∀ {l:Bs},l.all p=true→l.takeWhile p=l
 | [],_=>rfl
 | x::l,h=>by
  simp only [List.all_cons,Bool.and_eq_true] at h
  rw [List.takeWhile_cons_of_pos h.1,tw_self h.2]

theorem tw_all (p:UInt8→Bool):∀ l:Bs,(l.takeWhile p).all p=true
 | []=>rfl
 | x::l=>by
  by_cases h:p x=true
  ·rw [List.takeWhile_cons_of_pos h,List.all_cons,h,tw_all p l]; rfl
  ·rw [List.takeWhile_cons_of_neg h]; rfl

theorem tw_take (p:UInt8→Bool):∀ l:Bs,l.take (l.takeWhile p).length=l.takeWhile p
 | []=>by simp
 | x::l=>by
  by_cases h:p x=true
  ·rw [List.takeWhile_cons_of_pos h,List.length_cons,List.take_succ_cons,tw_take p l]
  ·rw [List.takeWhile_cons_of_neg h]; rfl

theorem cut_run (p:UInt8→Bool) (L:Bs) (i:Nat):cutB L i (runB p L i)=(L.drop i).takeWhile p:=by
 unfold cutB runB; rw [Nat.add_sub_cancel_left,tw_take]

theorem run_alone {p:UInt8→Bool} (h32:p 32=false) {x:Bs} (hx:x.all p=true):runB p (x++[32]) 0=x.length:=by
 unfold runB; rw [List.drop_zero,tw_app h32,tw_self hx]; omega
theorem cut_alone (x r:Bs):cutB (x++r) 0 x.length=x:=by unfold cutB; simp

theorem name_alone {kind:Int} {x:Bs} (h1:1≤x.length) (h2:x.length≤20):nameT (x++[32]) kind x 0 x.length=some (⟨kind,x,0,0,false⟩,x.length):=by
 unfold nameT
 rw [if_pos ⟨h1,h2⟩]
 have:opnB (x++[32]) x.length=false:=by unfold opnB; simp
 rw [this]; rfl
def goodC (c:UInt8):Bool:=lowC c || grtC c || dgC c || mrkC c || sgnC c || decide (c.toNat=33) || decide (c.toNat=59) || decide (c.toNat=39)

theorem good_nb {c:UInt8} (h:goodC c=true):blkC c=false∧c.toNat≠37:=by
 have:=byte_all (p:=fun c=>!goodC c || (!blkC c && !decide (c.toNat=37))) (by decide +kernel) c
 simp only [h,Bool.not_true,Bool.false_or,Bool.and_eq_true,Bool.not_eq_true',decide_eq_false_iff_not] at this
 exact this

theorem tok_alone {x:Bs} {c:UInt8} {r:Bs} {u:Tk} (hx:x=c::r) (hg:goodC c=true) (hl:x.length≤3000) (h:oneT (x++[32]) 0=some (u,x.length)):tokT (x++[32])=([u],0,0):=by
 obtain ⟨hb,h37⟩:=good_nb hg
 have hl2:(x++[32]).length=x.length+1:=by simp
 have h0:(x++[32])[0]? = some c:=by rw [hx]; rfl
 have p0:passN (x++[32]) 0=0:=pass_stop h0 hb h37
 have p1:passN (x++[32]) x.length=x.length+1:=by
  unfold passN; simp [skipL,blkC]
 have ht:toks ((x++[32]).length+1) (x++[32]) 0=.ok [u]:=by
  rw [hl2]
  simp only [toks]
  rw [p0,hl2,if_pos (by omega),h]
  simp only
  rw [p1,if_neg (by omega)]
 unfold tokT
 rw [if_neg (by omega),ht]

theorem one_alone {L:Bs} {i:Nat} {t:Tk} {to:Nat} {c:UInt8} (h:oneT L i=some (t,to)) (hc:L[i]? = some c) (h39:c.toNat≠39) :
  t.text=cutB L i to∧i+t.text.length=to∧goodC c=true∧(t.kind=5∨t.text=[46]∨oneT (t.text++[32]) 0=some (⟨t.kind,t.text,t.n,0,false⟩,t.text.length)):=by
 have hto:=oneT_to h
 have hi:=(List.getElem?_eq_some_iff.1 hc).1
 have he:=(List.getElem?_eq_some_iff.1 hc).2
 have hd:L.drop i=c::L.drop (i+1):=by rw [List.drop_eq_getElem_cons hi,he]
 have rl:=fun (p:UInt8→Bool)=>(runB_le (p:=p) (L:=L) (i:=i) (by omega))
 have head:∀ p:UInt8→Bool,p c=true→cutB L i (runB p L i)=c::(L.drop (i+1)).takeWhile p:=fun p hp=>by
  rw [cut_run,hd,List.takeWhile_cons_of_pos hp]
 have first:∀ {x r:Bs},x=c::r→(x++[32])[0]? = some c:=fun h=>by rw [h]; rfl
 have clen:∀ p:UInt8→Bool,i+(cutB L i (runB p L i)).length=runB p L i:=fun p=>by
  rw [cutB_len (rl p).1 (rl p).2]; have:=(rl p).1; omega
 unfold oneT at h
 rw [hc] at h
 simp only at h
 by_cases g1:lowC c=true
 ·rw [if_pos g1] at h
  obtain ⟨rfl,rfl,l1,l2⟩:=nameT_to h
  have hf:folC c=true:=by simp [folC,g1]
  refine ⟨rfl,clen folC,by simp [goodC,g1],.inr (.inr ?_)⟩
  simp only
  have hh:=head folC hf
  have hall:(cutB L i (runB folC L i)).all folC=true:=by rw [cut_run]; exact tw_all _ _
  generalize cutB L i (runB folC L i)=x at *
  unfold oneT
  rw [first hh]
  simp only
  rw [if_pos g1,run_alone (by decide) hall,cut_alone,name_alone l1 l2]
 rw [if_neg g1] at h
 by_cases g2:grtC c=true
 ·rw [if_pos g2] at h
  obtain ⟨rfl,rfl,l1,l2⟩:=nameT_to h
  have hf:folC c=true:=by simp [folC,g2]
  refine ⟨rfl,clen folC,by simp [goodC,g2],.inr (.inr ?_)⟩
  simp only
  have hh:=head folC hf
  have hall:(cutB L i (runB folC L i)).all folC=true:=by rw [cut_run]; exact tw_all _ _
  generalize cutB L i (runB folC L i)=x at *
  unfold oneT
  rw [first hh]
  simp only
  rw [if_neg g1,if_pos g2,run_alone (by decide) hall,cut_alone,name_alone l1 l2]
 rw [if_neg g2] at h
 by_cases g3:dgC c=true
 ·rw [if_pos g3] at h
  cases hn:numT (cutB L i (runB dgC L i)) with
  | none=>rw [hn] at h; cases h
  | some n =>
   rw [hn] at h
   cases h
   refine ⟨rfl,clen dgC,by simp [goodC,g3],.inr (.inr ?_)⟩
   simp only
   have hh:=head dgC g3
   have hall:(cutB L i (runB dgC L i)).all dgC=true:=by rw [cut_run]; exact tw_all _ _
   generalize cutB L i (runB dgC L i)=x at *
   unfold oneT
   rw [first hh]
   simp only
   rw [if_neg g1,if_neg g2,if_pos g3,run_alone (by decide) hall,cut_alone,hn]
   rfl
 rw [if_neg g3,if_neg h39] at h
 by_cases g5:c.toNat=91∧(L[i+1]?.map UInt8.toNat)=some 93
 ·rw [if_pos g5] at h
  obtain ⟨rfl,rfl,l1,l2⟩:=nameT_to h
  have e91:c=91:=UInt8.toNat_inj.1 g5.1
  obtain ⟨d,hdd,hd93⟩:∃ d,L[i+1]? = some d∧d.toNat=93:=by
   have:=g5.2
   cases hx:L[i+1]? with
   | none=>rw [hx] at this; simp at this
   | some d=>rw [hx] at this; exact ⟨d,rfl,by simpa using this⟩
  have e93:d=93:=UInt8.toNat_inj.1 hd93
  have hi1:=(List.getElem?_eq_some_iff.1 hdd).1
  have he1:=(List.getElem?_eq_some_iff.1 hdd).2
  have hd1:L.drop (i+1)=d::L.drop (i+1+1):=by rw [List.drop_eq_getElem_cons hi1,he1]
  refine ⟨?_,rfl,by rw [e91]; decide,.inr (.inr (by simp only; decide +kernel))⟩
  simp only
  unfold cutB
  rw [hd,hd1,e91,e93,Nat.add_sub_cancel_left]; rfl
 rw [if_neg g5] at h
 have hc1:cutB L i (i+1)=[c]:=by unfold cutB; rw [hd,Nat.add_sub_cancel_left]; rfl
 by_cases g6:c.toNat=33∨c.toNat=59
 ·rw [if_pos g6] at h
  obtain ⟨rfl,rfl,l1,l2⟩:=nameT_to h
  refine ⟨hc1.symm,rfl,by simp [goodC]; omega,.inr (.inr ?_)⟩
  rcases g6 with g | g
  ·have e:c=33:=UInt8.toNat_inj.1 g
   subst e; simp only; decide +kernel
  ·have e:c=59:=UInt8.toNat_inj.1 g
   subst e; simp only; decide +kernel
 rw [if_neg g6] at h
 by_cases g7:mrkC c=true
 ·rw [if_pos g7] at h
  cases h
  refine ⟨hc1.symm,rfl,by simp [goodC,g7],.inr (.inr ?_)⟩
  have:=byte_all (p:=fun c=>!mrkC c || decide (oneT ([c]++[32]) 0=some (⟨4,[c],0,0,false⟩,1))) (by decide +kernel) c
  rw [g7] at this
  simpa using this
 rw [if_neg g7] at h
 by_cases g8:runB sgnC L i=i+1∧c.toNat=46∧endAft L (i+1)=true
 ·rw [if_pos g8] at h
  cases h
  have e46:c=46:=UInt8.toNat_inj.1 g8.2.1
  exact ⟨by rw [hc1,e46],rfl,by rw [e46]; decide,.inl rfl⟩
 rw [if_neg g8] at h
 obtain ⟨rfl,rfl,l1,l2⟩:=nameT_to h
 have hs:sgnC c=true:=by
  cases hs:sgnC c with
  | true=>rfl
  | false =>
   rw [cut_run,hd,List.takeWhile_cons_of_neg (by rw [hs]; simp)] at l1
   simp at l1
 have n91:c.toNat≠91:=by
  have:=byte_all (p:=fun c=>!sgnC c || !decide (c.toNat=91)) (by decide +kernel) c
  rw [hs] at this; simpa using this
 refine ⟨rfl,clen sgnC,by simp [goodC,hs],?_⟩
 simp only
 have hh:=head sgnC hs
 have hall:(cutB L i (runB sgnC L i)).all sgnC=true:=by rw [cut_run]; exact tw_all _ _
 generalize cutB L i (runB sgnC L i)=x at *
 by_cases hdot:x=[46]
 ·exact .inr (.inl hdot)
 refine .inr (.inr ?_)
 unfold oneT
 rw [first hh]
 simp only
 rw [if_neg g1,if_neg g2,if_neg g3,if_neg h39,if_neg (fun g=>n91 g.1),if_neg g6,if_neg g7,run_alone (by decide) hall,if_neg,cut_alone,name_alone l1 l2]
 rintro ⟨k1,k2,_⟩
 have e46:c=46:=UInt8.toNat_inj.1 k2
 apply hdot
 rw [hh,e46] at k1 ⊢
 simp only [List.length_cons] at k1
 rw [List.length_eq_zero_iff.1 (show ((L.drop (i+1)).takeWhile sgnC).length=0 by omega)]

theorem one_opn {L:Bs} {i:Nat} {t:Tk} {to:Nat} (h:oneT L i=some (t,to)):t.opn=true→t.kind≤2:=by
 intro ho
 have nm:∀ {kind:Int} {text:Bs} {e:Nat},kind≤2→nameT L kind text i e=some (t,to)→t.kind≤2:=fun hk h=>by
  obtain ⟨_,rfl,_⟩:=nameT_to h; exact hk
 unfold oneT at h
 split at h
 ·cases h
 split at h
 ·exact nm (by decide) h
 split at h
 ·exact nm (by decide) h
 split at h
 ·rename_i c _ _ _ _
  cases hn:numT (cutB L i (runB dgC L i)) with
  | none=>rw [hn] at h; cases h
  | some n=>rw [hn] at h; cases h; cases ho
 split at h
 ·split at h
  ·exact nm (by decide) h
  ·cases h
 split at h
 ·exact nm (by decide) h
 split at h
 ·exact nm (by decide) h
 split at h
 ·cases h; cases ho
 split at h
 ·cases h; cases ho
 ·exact nm (by decide) h

structure PlaceT (L:Bs) (lo:Nat) (t:Tk):Prop where
 lo:(lo:Int)≤t.at_
 hi:t.at_<L.length
 opn:t.opn=true→t.kind≤2
 cut:∀ c,L[t.at_.toNat]? = some c→c.toNat≠39→t.kind≠5→t.at_.toNat+t.text.length≤L.length∧cutB L t.at_.toNat (t.at_.toNat+t.text.length)=t.text∧(t.text≠[46]→L.length≤3000→tokT (t.text++[32])=([⟨t.kind,t.text,t.n,0,false⟩],0,0))

theorem toks_place:∀ (f:Nat) (L:Bs) (i:Nat) (l:List Tk),toks f L i=.ok l→(∀ t∈l,PlaceT L i t)∧∀ k t u,l[k]? = some t→l[k+1]? = some u→t.at_<u.at_
 | 0,L,i,l,h=>by simp only [toks,Except.ok.injEq] at h; subst h; exact ⟨by simp,by simp⟩
 | f+1,L,i,l,h=>by
  simp only [toks] at h
  by_cases hp:passN L i<L.length
  ·rw [if_pos hp] at h
   have hle:i≤passN L i:=by unfold passN; omega
   cases hone:oneT L (passN L i) with
   | none=>rw [hone] at h; cases h
   | some x =>
    obtain ⟨t,to⟩:=x
    rw [hone] at h
    have hto:=oneT_to hone
    have hat:=oneT_at hone
    simp only at h
    cases hr:toks f L to with
    | error j=>rw [hr] at h; cases h
    | ok r =>
     rw [hr] at h
     simp only [Except.ok.injEq] at h
     subst h
     obtain ⟨h1,h2⟩:=toks_place f L to r hr
     refine ⟨fun u hu=>?_,fun k u v hu hv=>?_⟩
     ·rcases List.mem_cons.1 hu with e | e
      ·subst e
       refine ⟨by omega,by omega,one_opn hone,fun c hc h39 h5=>?_⟩
       rw [hat,Int.toNat_natCast] at hc ⊢
       obtain ⟨g1,g2,g3,g4⟩:=one_alone hone hc h39
       refine ⟨by omega,by rw [g2,← g1],fun hd h3=>?_⟩
       rcases g4 with g4 | g4 | g4
       ·exact absurd g4 h5
       ·exact absurd g4 hd
       ·have hi:=(List.getElem?_eq_some_iff.1 hc).1
        have he:=(List.getElem?_eq_some_iff.1 hc).2
        have hx:∃ r,u.text=c::r:=by
         rw [g1]; unfold cutB
         rw [List.drop_eq_getElem_cons hi,he]
         obtain ⟨n,hn⟩:∃ n,to - passN L i=n+1:=⟨to - passN L i - 1,by omega⟩
         rw [hn]; exact ⟨_,rfl⟩
        obtain ⟨r',hx⟩:=hx
        exact tok_alone hx g3 (by omega) g4
      ·have hq:=h1 u e
       exact ⟨by have:=hq.lo; omega,hq.hi,hq.opn,hq.cut⟩
     ·cases k with
      | zero =>
       simp only [List.getElem?_cons_zero,Option.some.injEq,Nat.zero_add,List.getElem?_cons_succ] at hu hv
       subst hu
       have:=(h1 v (List.mem_iff_getElem?.2 ⟨0,hv⟩)).lo
       omega
      | succ k =>
       simp only [List.getElem?_cons_succ] at hu hv
       exact h2 k u v hu hv
  ·rw [if_neg hp] at h
   simp only [Except.ok.injEq] at h; subst h; exact ⟨by simp,by simp⟩
end PSL

namespace PSL
open Go

structure RSt where
 at_:Nat
 names:List Bs
 bad:Int
 e:Int
 lay:Bool
 deriving DecidableEq
def zeroTk:Tk:=⟨0,[],0,0,false⟩
def plcR (L:List Tk) (n:Nat) (i:Nat):Int:=match L[i]? with | some t=>t.at_ | none=>n
def failR (L:List Tk) (n:Nat) (st:RSt) (c:Int):RSt:=if st.e=0 then { st with e:=c,bad:=plcR L n st.at_ } else st
def peekR (L:List Tk) (st:RSt):Tk:=if st.e≠0 then zeroTk else (L[st.at_]?).getD zeroTk
def nxR (st:RSt):RSt:={ st with at_:=st.at_+1 }
def isMk (t:Tk) (s:Bs):Bool:=decide (t.kind=4)&&(t.text==s)
def mustR (L:List Tk) (n:Nat) (st:RSt) (s:Bs):RSt:=if isMk (peekR L st) s then nxR st else failR L n st 2
def op700:List Bs:=[[61],[92,61],[61,61],[92,61,61],[64,60],[64,62],[64,61,60],[64,62,61],[105,115],[61,58,61],[61,92,61],[60],[62],[61,60],[62,61]]
def op500:List Bs:=[[43],[45]]
def op400:List Bs:=[[42],[47,47],[109,111,100]]
def opTab:List (Bs × Int × Int × Int):=[([58,45],1200,1199,1199),([59],1100,1099,1100),([45,62],1050,1049,1050),([44],1000,999,1000)]++op700.map (fun s=>(s,700,699,699))++op500.map (fun s=>(s,500,500,499))++op400.map (fun s=>(s,400,400,399))
def infT (s:Bs):Option (Int × Int × Int):=opTab.lookup s
def preT (s:Bs):Int:=if s=[92,43] then 900 else if s=[45] then 200 else 0
def inT (t:Tk):Option (Int × Int × Int):=if t.kind≠1∧(t.kind≠4∨t.text≠[44]) then none else infT t.text

def idxV:List Bs→Bs→Nat→Option Nat
 | [],_,_=>none
 | x::r,s,i=>if x=s then some i else idxV r s (i+1)

def varR (st:RSt) (s:Bs):Int × RSt:=match (if s=[95] then none else idxV st.names s 0) with
 | some i=>(i,st)
 | none=>(st.names.length,{ st with names:=st.names++[if s=[95] then [] else s] })

def mkR (st:RSt):RSt:={ st with lay:=true }
def inS (L:List Tk) (st:RSt):RSt:=if (peekR L st).kind≠1∧((peekR L st).kind≠4∨(peekR L st).text≠[44]) then st else mkR st
def begS (L:List Tk) (st:RSt):RSt:=if (peekR L st).kind=1 then mkR st else st

def begR (L:List Tk) (st:RSt):Bool :=
 let t:=peekR L st
 decide (t.kind=3) || decide (t.kind=2) || (decide (t.kind=4)&&(t.text==[40] || t.text==[91])) || (decide (t.kind=1)&&(infT t.text).isNone)
def fnT (s:Bs) (l:List Tm):Tm:=.mk 3 (Tx s) 0 l
def nmT (n:Int):Tm:=.mk 2 ByteArray.empty n []
abbrev TF:=Nat→Int→RSt→Option (Tm × RSt)

def manyR (L:List Tk) (T:TF):Nat→Nat→RSt→List Tm→Option (List Tm × RSt)
 | 0,_,_,_=>none
 | f+1,deep,st,acc=>if isMk (peekR L st) [44] then (T deep 999 (nxR st)).bind fun x=>manyR L T f deep x.2 (acc++[x.1]) else some (acc,st)
def rowR (L:List Tk) (T:TF) (deep:Nat) (st:RSt):Option (List Tm × RSt):=(T deep 999 st).bind fun x=>manyR L T (L.length+2) deep x.2 [x.1]
def minR (S:Bs) (t next:Tk):Bool:=(t.text==[45])&&decide (S[t.at_.toNat]? = some 45)&&decide (next.kind=3)&&decide (next.at_=t.at_+1)

def namedR (S:Bs) (L:List Tk) (T:TF) (deep:Nat) (p:Int) (t:Tk) (st:RSt):Option (Tm × Int × RSt) :=
 if minR S t (peekR L (nxR st)) then some (nmT (-(peekR L (nxR st)).n),0,nxR (nxR st))
 else if t.opn then (rowR L T deep (mustR L S.length (nxR st) [40])).map fun x=>(fnT t.text x.1,0,mustR L S.length x.2 [41])
 else if 0<preT t.text then (
  if begR L (nxR st) then (if preT t.text > p then some (zeroT,0,failR L S.length { begS L (nxR st) with at_:=st.at_ } 2) else (T deep (preT t.text) (begS L (nxR st))).map fun x=>(fnT t.text [x.1],preT t.text,x.2))
  else some (fnT t.text [],0,begS L (nxR st)))
 else some (fnT t.text [],0,nxR st)
def consT (l:List Tm) (t:Tm):Tm:=l.foldr (fun x t=>fnT [46] [x,t]) t

def listR (S:Bs) (L:List Tk) (T:TF) (deep:Nat) (st:RSt):Option (Tm × RSt) :=
 (rowR L T deep st).bind fun x =>
  if isMk (peekR L x.2) [124] then (T deep 999 (nxR x.2)).map fun y=>(consT x.1 y.1,mustR L S.length y.2 [93])
  else some (consT x.1 (fnT [91,93] []),mustR L S.length x.2 [93])

def opndR (sw:Bool) (S:Bs) (L:List Tk) (T:TF) (deep:Nat) (p:Int) (st:RSt):Option (Tm × Int × RSt) :=
 if 1000≤deep then some (zeroT,0,failR L S.length st 3)
 else if (peekR L st).kind=3 then some (nmT (peekR L st).n,0,nxR st)
 else if (peekR L st).kind=2 then some (Tm.vT (varR (nxR st) (peekR L st).text).1,0,(varR (nxR st) (peekR L st).text).2)
 else if (peekR L st).kind=1 then (namedR S L T (deep+1) p (peekR L st) st).map fun x=>if sw&&decide (x.2.2.e≠0) then (zeroT,0,x.2.2) else x
 else if isMk (peekR L st) [40] then (T (deep+1) 1200 (nxR st)).map fun x=>(x.1,0,mustR L S.length x.2 [41])
 else if isMk (peekR L st) [91] then (listR S L T (deep+1) (nxR st)).map fun x=>(x.1,0,x.2)
 else some (zeroT,0,failR L S.length st 2)

def restR (L:List Tk) (T:TF):Nat→Nat→Int→Tm→Int→RSt→Option (Tm × RSt)
 | 0,_,_,_,_,_=>none
 | f+1,deep,p,out,now,st =>
  if st.e≠0 then some (out,st)
  else match inT (peekR L st) with
   | none=>some (out,inS L st)
   | some (q,l,r)=>if q > p∨now > l then some (out,inS L st) else (T deep r (nxR (inS L st))).bind fun x=>restR L T f deep p (fnT (peekR L st).text [out,x.1]) q x.2

def termR (sw:Bool) (S:Bs) (L:List Tk):Nat→TF
 | 0,_,_,_=>none
 | n+1,deep,p,st=>(opndR sw S L (termR sw S L n) deep p st).bind fun x=>restR L (termR sw S L n) (L.length+2) deep p x.1 x.2.1 x.2.2
end PSL

namespace Go.Proofs.YtchhahnajgfeaaaGreatDoor
open Go PSL Go.Proofs

def quoR (L:Bs) (i:Nat):Bs × Nat × Bool:=match quo (L.drop (i+1)) with
 | some (t,k)=>(t,i+1+k,true)
 | none=>([],0,false)
theorem byRows_snoc (l:Bs) (c:UInt8):byRows l++[[.v (.int .u8 c.toNat)]]=byRows (l++[c]):=by simp [byRows]
theorem byRows_len (l:Bs):(byRows l).length=l.length:=by simp [byRows]

set_option maxRecDepth 100000 in
theorem quoted_walk (Y:YP) (L:Bs) (i:Nat) (hi:i<L.length) (hL:L.length≤9000):SCtr Tryz.prog Y 66 [.lo 0 0] (cutO L i) (.tup [txA (quoR L i).1,iV (quoR L i).2.1,bV (quoR L i).2.2]) (cutO L i):=by
 refine SCtr.of_R (pf:=fun _=>.eff) tyOk mixed Tryz.func66 rfl (by kernel_rfl) (by kernel_rfl) (by simp [Tryz.ntmps66]) (by simp [cutO]) fun w S φ hg=>?_
 have hφ:φ.length=1:=hg.hs0.len
 have bad:quo (L.drop (i+1))=none→AV.tup [.d (.v (.string ByteArray.empty)),iV 0,.d (.v (.bool false))]=.tup [txA (quoR L i).1,iV (quoR L i).2.1,bV (quoR L i).2.2]:=fun h=>by
  unfold quoR; rw [h]; rfl
 refine R_run hg.ok 1000 rfl rfl ?_
 rw [w64 (n:=(i:Int)+1) (by omega) (by omega),show (i:Int)+1=((i+1:Nat):Int) by omega]
 refine R_own 5 1 rfl rfl ?_
 refine R_loop (fun x:Nat × Bs=>([(0,.lo 0 0),(5,.ow 1 x.2.length),(6,iV x.1)],cutO L i++[.arr 1 x.2.length (byRows x.2)])) (fun x=>i+1≤x.1∧x.1≤L.length∧x.2.length≤x.1∧quo (L.drop (i+1))=(quo (L.drop x.1)).map fun y=>(x.2++y.1,y.2+(x.1 - (i+1)))) (fun x=>L.length - x.1) (i+1,[]) ⟨Nat.le_refl _,hi,Nat.zero_le _,by simp⟩ ⟨.refl _,.refl _,.refl _,trivial⟩ rfl ?_
 rintro ⟨k,out⟩ ⟨hk0,hk,ho,hm⟩
 simp only at hk0 hk ho hm
 refine R_run hg.ok 1000 rfl rfl ?_
 refine R_if rfl rfl (fun h=>?_) (fun h=>?_) <;> refine R_run hg.ok 1000 rfl rfl ?_
 ·have hk1:k<L.length:=lt_dec h (by rw [Tx_size])
  have e1:L[k]? = some L[k]:=List.getElem?_eq_getElem hk1
  rw [List.drop_eq_getElem_cons hk1] at hm
  refine R_indexS hg.ok rfl rfl rfl rfl rfl (Int.natCast_nonneg k) (b:=L[k]) (by rw [Tx_get]; exact e1) ?_
  generalize L[k]=x at hm e1
  refine R_run hg.ok 1000 rfl rfl ?_
  refine R_if rfl rfl (fun g1=>?_) (fun g1=>?_) <;> refine R_run hg.ok 1000 rfl rfl ?_
  ·have g1:¬ x.toNat=39:=by simp at g1; omega
   refine R_if rfl rfl (fun g2=>?_) (fun g2=>?_) <;> refine R_run hg.ok 1000 rfl rfl ?_
   ·have g2:=of_decide_eq_true g2
    rw [← bad (by rw [hm,quo_bad (.inl (by omega))]; rfl)]
    exact R_retS hg 1 5 (Nat.le_refl _) rfl rfl rfl
   have g2:=of_decide_eq_false g2
   refine R_if rfl rfl (fun g3=>?_) (fun g3=>?_) <;> refine R_run hg.ok 1000 rfl rfl ?_
   ·have g3:=of_decide_eq_true g3
    rw [← bad (by rw [hm,quo_bad (.inr (by omega))]; rfl)]
    exact R_retS hg 1 5 (Nat.le_refl _) rfl rfl rfl
   have g3:=of_decide_eq_false g3
   refine R_if rfl rfl (fun _=>?_) (fun h=>absurd h (by simp; omega)) <;> refine R_run hg.ok 1000 rfl rfl ?_
   refine R_appendO hg.ok (byRows (out++[x])) rfl rfl rfl rfl rfl rfl rfl rfl rfl (by simp) (by simp [one1]) (byRows_snoc out x) (by rw [byRows_len]; simp; omega) (by rw [byRows_len]; simp; omega) ?_
   refine R_run hg.ok 1000 rfl rfl ?_
   refine R_next (k+1,out++[x]) ⟨by simp only; omega,hk1,by simp; omega,?_⟩ (by simp only; omega) ⟨.refl _,by simp only [List.length_append,List.length_singleton]; exact .refl _,Ent.wrap (by simp only; omega) (by simp only; omega) (by simp only; omega),trivial⟩ (by simp only [List.length_append,List.length_singleton]; rfl)
   simp only
   rw [hm,quo_any (by omega) g1,Option.map_map]
   congr 1
   funext y
   simp; omega
  ·have g1:x.toNat=39:=by simp at g1; omega
   refine R_if rfl rfl (fun h=>absurd h (by simp; omega)) (fun _=>?_) <;> refine R_run hg.ok 1000 rfl rfl ?_
   rw [w64 (n:=(k:Int)+1) (by omega) (by omega),show (k:Int)+1=((k+1:Nat):Int) by omega]
   have last:(∀ d,(L.drop (k+1))[0]? = some d→d.toNat≠39)→quoR L i=(out,k+1,true):=fun h=>by
    unfold quoR
    rw [hm,quo_one g1 h]
    simp; omega
   refine R_if rfl rfl (fun g2=>?_) (fun g2=>?_)
   ·refine R_run hg.ok 1000 rfl rfl ?_
    have hk2:k+1<L.length:=lt_dec g2 (by rw [Tx_size])
    have e2:L[k+1]? = some L[k+1]:=List.getElem?_eq_getElem hk2
    rw [w64 (n:=(k:Int)+1) (by omega) (by omega),show (k:Int)+1=((k+1:Nat):Int) by omega]
    refine R_indexS hg.ok rfl rfl rfl rfl rfl (Int.natCast_nonneg (k+1)) (b:=L[k+1]) (by rw [Tx_get]; exact e2) ?_
    refine R_run hg.ok 1000 rfl rfl ?_
    refine R_if rfl rfl (fun g3=>?_) (fun g3=>?_)
    ·refine R_run hg.ok 1000 rfl rfl ?_
     have g3:L[k+1].toNat=39:=by simp at g3; omega
     have g4:L[k+1]=39:=UInt8.toNat_inj.1 g3
     rw [List.drop_eq_getElem_cons hk2,quo_two g1 g3] at hm
     refine R_appendO hg.ok (byRows (out++[39])) rfl rfl rfl rfl rfl rfl rfl rfl rfl (by simp) (by simp [one1]) (byRows_snoc out 39) (by rw [byRows_len]; simp; omega) (by rw [byRows_len]; simp; omega) ?_
     refine R_run hg.ok 1000 rfl rfl ?_
     rw [w64 (n:=(k:Int)+1) (by omega) (by omega)]
     refine R_next (k+2,out++[39]) ⟨by simp only; omega,hk2,by simp; omega,?_⟩ (by simp only; omega) ⟨.refl _,by simp only [List.length_append,List.length_singleton]; exact .refl _,Ent.wrap (by simp only; omega) (by simp only; omega) (by simp only; omega),trivial⟩ (by simp only [List.length_append,List.length_singleton]; rfl)
     simp only
     rw [hm,Option.map_map]
     congr 1
     funext y
     simp; omega
    ·have g3:¬ L[k+1].toNat=39:=by simp at g3; omega
     refine R_run hg.ok 1 rfl rfl ?_
     refine R_freezeO hg.gup 1 [(0,.lo 0 0),(5,.d (.sl (byRows out))),(6,iV k)] [.box [txA L,iV i],.dead] rfl rfl ⟨.refl _,Ent.frz 1 out.length (byRows out),.refl _,trivial⟩ ⟨⟨.refl _,.refl _,trivial⟩,by simp [ObIn],trivial⟩ ?_
     refine R_run hg.ok 1000 rfl rfl ?_
     refine R_convD hg.ok out rfl rfl rfl rfl rfl rfl ?_
     refine R_run hg.ok 1000 rfl rfl ?_
     rw [w64 (n:=(k:Int)+1) (by omega) (by omega),show (k:Int)+1=((k+1:Nat):Int) by omega,last (fun d hd=>by rw [List.getElem?_drop] at hd; simp only [Nat.add_zero] at hd; rw [e2] at hd; cases hd; exact g3)]
     exact R_retS hg 1 5 (Nat.le_refl _) rfl rfl rfl
   ·refine R_run hg.ok 2 rfl rfl ?_
    have hk2:L.length≤k+1:=ge_dec g2 (by rw [Tx_size])
    refine R_freezeO hg.gup 1 [(0,.lo 0 0),(5,.d (.sl (byRows out))),(6,iV k)] [.box [txA L,iV i],.dead] rfl rfl ⟨.refl _,Ent.frz 1 out.length (byRows out),.refl _,trivial⟩ ⟨⟨.refl _,.refl _,trivial⟩,by simp [ObIn],trivial⟩ ?_
    refine R_run hg.ok 1000 rfl rfl ?_
    refine R_convD hg.ok out rfl rfl rfl rfl rfl rfl ?_
    refine R_run hg.ok 1000 rfl rfl ?_
    rw [w64 (n:=(k:Int)+1) (by omega) (by omega),show (k:Int)+1=((k+1:Nat):Int) by omega,last (fun d hd=>by rw [List.drop_eq_nil_of_le hk2] at hd; simp at hd)]
    exact R_retS hg 1 5 (Nat.le_refl _) rfl rfl rfl
 ·have hk1:L.length≤k:=ge_dec h (by rw [Tx_size])
  rw [List.drop_eq_nil_of_le hk1] at hm
  rw [← bad (by rw [hm]; rfl)]
  exact R_retS hg 1 5 (Nat.le_refl _) rfl rfl rfl

def numP (D:Bs):Nat × Bool:=match numT D with
 | some n=>(n,true)
 | none=>(0,false)

theorem w8sub {c:UInt8} (h:dgC c=true):IntKind.u8.wrap ((c.toNat:Int) - 48)=((c.toNat - 48:Nat):Int):=by
 have h1:=c.toNat_lt
 simp only [dgC,Bool.and_eq_true,decide_eq_true_eq] at h
 simp [IntKind.wrap,IntKind.signed,IntKind.bits]; omega

set_option maxRecDepth 100000 in
theorem number_ok (D:Bs) (hd:D.all dgC=true) (hl:D.length≤9000):PCtr Tryz.prog 65 [txA D] (.tup [iV (numP D).1,bV (numP D).2]):=by
 have bad:numT D=none→AV.tup [iV 0,.d (.v (.bool false))]=.tup [iV (numP D).1,bV (numP D).2]:=fun h=>by unfold numP; rw [h]; rfl
 have ok:∀ n:Nat,numT D=some n→AV.tup [iV n,.d (.v (.bool true))]=.tup [iV (numP D).1,bV (numP D).2]:=fun n h=>by unfold numP; rw [h]; rfl
 refine PCtr.of_R (pf:=fun _=>.still) tyOk mixed Tryz.func65 rfl (by kernel_rfl) (by kernel_rfl) (by simp [Tryz.ntmps65]) fun w S hg=>?_
 refine R_run hg.ok 1000 rfl rfl ?_
 by_cases h0:1<D.length∧(D[0]?.map UInt8.toNat)=some 48
 ·have hb:=bad (by unfold numT; rw [if_pos (.inl h0)])
  have e0:D[0]? = some D[0]:=List.getElem?_eq_getElem (by omega)
  have h48:D[0].toNat=48:=by have:=h0.2; rw [e0] at this; simpa using this
  refine R_if rfl rfl (fun _=>?_) (fun h=>absurd h (by simp [Tx_size]; omega)) <;> refine R_run hg.ok 1000 rfl rfl ?_
  refine R_indexS hg.ok rfl rfl rfl rfl rfl (by decide) (b:=D[0]) (by rw [Tx_get]; exact e0) ?_
  refine R_run hg.ok 1000 rfl rfl ?_
  refine R_if rfl rfl (fun _=>?_) (fun h=>absurd h (by simp; omega)) <;> refine R_run hg.ok 1000 rfl rfl ?_
  refine R_ret hg 5 rfl rfl ?_
  exact hb
 refine R_if rfl rfl (fun h1=>?_) (fun h1=>?_) <;> refine R_run hg.ok 1000 rfl rfl ?_
 all_goals
  try
   have h1:1<D.length:=by have:=of_decide_eq_true h1; rw [Tx_size] at this; omega
   have e0:D[0]? = some D[0]:=List.getElem?_eq_getElem (by omega)
   have h48:¬ D[0].toNat=48:=fun e=>h0 ⟨h1,by rw [e0]; simp [e]⟩
   refine R_indexS hg.ok rfl rfl rfl rfl rfl (by decide) (b:=D[0]) (by rw [Tx_get]; exact e0) ?_
   refine R_run hg.ok 1000 rfl rfl ?_
   refine R_if rfl rfl (fun h=>absurd h (by simp; omega)) (fun _=>?_) <;> refine R_run hg.ok 1000 rfl rfl ?_
 all_goals
  refine R_loop (fun x:Nat × Nat=>([(0,txA D),(4,iV x.2),(16,iV D.length),(17,iV x.1)],[])) (fun x=>x.1≤D.length∧x.2=valN 0 (D.take x.1)∧x.2≤9223372036854775807) (fun x=>D.length - x.1) (0,0) ⟨Nat.zero_le _,rfl,by simp⟩ ⟨.refl _,.refl _,Ent.int (by rw [Tx_size]),.refl _,trivial⟩ rfl ?_
  rintro ⟨k,n⟩ ⟨hk,hn,hb⟩
  simp only at hk hn hb
  refine R_run hg.ok 1000 rfl rfl ?_
  refine R_if rfl rfl (fun h=>?_) (fun h=>?_) <;> refine R_run hg.ok 1000 rfl rfl ?_
  ·have hk1:k<D.length:=lt_dec h rfl
   have e1:D[k]? = some D[k]:=List.getElem?_eq_getElem hk1
   have hdk:dgC D[k]=true:=List.all_eq_true.1 hd _ (List.getElem_mem hk1)
   have htk:D.take (k+1)=D.take k++[D[k]]:=by rw [List.take_add_one,e1]; rfl
   have hv:valN 0 (D.take (k+1))=10 * n+(D[k].toNat - 48):=by rw [htk,valN_snoc,hn]
   have hmono:valN 0 (D.take (k+1))≤valN 0 D:=by
    have:=valN_mono (D.take (k+1)) (D.drop (k+1))
    rwa [List.take_append_drop] at this
   have hd9:D[k].toNat - 48≤9:=by simp only [dgC,Bool.and_eq_true,decide_eq_true_eq] at hdk; omega
   refine R_indexS hg.ok rfl rfl rfl rfl rfl (Int.natCast_nonneg k) (b:=D[k]) (by rw [Tx_get]; exact e1) ?_
   refine R_run hg.ok 1000 rfl rfl ?_
   rw [w8sub hdk]
   generalize D[k].toNat - 48=d at hv hd9
   rw [w64 (n:=((d:Nat):Int)) (by omega) (by omega),w64 (n:=9223372036854775807 - (d:Int)) (by omega) (by omega)]
   refine R_quo hg.ok rfl rfl rfl rfl (by decide) ?_
   refine R_run hg.ok 1000 rfl rfl ?_
   rw [Int.tdiv_eq_ediv_of_nonneg (by omega),w64 (n:=(9223372036854775807 - (d:Int)) / 10) (by omega) (by omega)]
   refine R_if rfl rfl (fun h2=>?_) (fun h2=>?_) <;> refine R_run hg.ok 1000 rfl rfl ?_
   ·have h2:=of_decide_eq_true h2
    refine R_ret hg 5 rfl rfl ?_
    refine bad ?_
    unfold numT
    rw [if_pos (.inr (by omega))]
   ·have h2:=of_decide_eq_false h2
    rw [w64 (n:=10 * (n:Int)) (by omega) (by omega),w64 (n:=10 * (n:Int)+(d:Int)) (by omega) (by omega),show 10 * (n:Int)+(d:Int)=((10 * n+d:Nat):Int) by omega]
    exact R_next (k+1,10 * n+d) ⟨hk1,hv.symm,by simp only; omega⟩ (by simp only; omega) ⟨.refl _,.refl _,.refl _,Ent.wrap (by simp only; omega) (by simp only; omega) (by simp only; omega),trivial⟩ rfl
  ·have hk1:D.length≤k:=ge_dec h rfl
   rw [List.take_of_length_le hk1] at hn
   refine R_ret hg 5 rfl rfl ?_
   refine ok n ?_
   unfold numT
   rw [if_neg (by rw [← hn]; rintro (g | g); exact h0 g; omega),hn]
end Go.Proofs.YtchhahnajgfeaaaGreatDoor

namespace Go.Proofs.YtchhahnajgfeaaaGreatDoor
open Go PSL Go.Proofs
def namR (L:Bs) (kind:Int) (text:Bs) (i to:Nat):Tk × Nat × Bool:=(⟨kind,text,0,i,opnB L to⟩,to,namB text)

def nextR (L:Bs) (i:Nat) (c:UInt8):Tk × Nat × Bool :=
 if lowC c then namR L 1 (cutB L i (runB folC L i)) i (runB folC L i)
 else if grtC c then namR L 2 (cutB L i (runB folC L i)) i (runB folC L i)
 else if dgC c then (⟨3,cutB L i (runB dgC L i),(numP (cutB L i (runB dgC L i))).1,i,false⟩,runB dgC L i,(numP (cutB L i (runB dgC L i))).2)
 else if c.toNat=39 then ((namR L 1 (quoR L i).1 i (quoR L i).2.1).1,(quoR L i).2.1,(quoR L i).2.2&&namB (quoR L i).1)
 else if c.toNat=91∧(L[i+1]?.map UInt8.toNat)=some 93 then namR L 1 [91,93] i (i+2)
 else if c.toNat=33∨c.toNat=59 then namR L 1 [c] i (i+1)
 else if mrkC c then (⟨4,[c],0,i,false⟩,i+1,true)
 else if runB sgnC L i=i+1∧c.toNat=46∧endAft L (i+1) then (⟨5,[46],0,i,false⟩,i+1,true)
 else namR L 1 (cutB L i (runB sgnC L i)) i (runB sgnC L i)
def zTk:Ob:=.box [.d (.v (.int .i64 0)),.d (.v (.string ByteArray.empty)),.d (.v (.int .i64 0)),.d (.v (.int .i64 0)),.d (.v (.bool false))]
def pfNext:Nat→Cls:=fun f=>bif Nat.beq f 4000200002 then .turn 101 else bif Nat.beq f 4000100192 then .look 102 else .eff

theorem take_run (p:UInt8→Bool):∀ l:Bs,l.take (l.takeWhile p).length=l.takeWhile p∧(l.takeWhile p).all p=true
 | []=>by simp
 | c::l=>by
  by_cases h:p c=true
  ·obtain ⟨h1,h2⟩:=take_run p l
   rw [List.takeWhile_cons_of_pos h,List.length_cons,List.take_succ_cons,h1,List.all_cons,h,h2]
   exact ⟨rfl,rfl⟩
  ·rw [List.takeWhile_cons_of_neg h]; exact ⟨rfl,rfl⟩

theorem run_all {p:UInt8→Bool} {L:Bs} {i:Nat}:(cutB L i (runB p L i)).all p=true:=by
 unfold cutB runB
 rw [Nat.add_sub_cancel_left,(take_run p (L.drop i)).1]
 exact (take_run p (L.drop i)).2

theorem enc_ascii {c:UInt8} (h:c.toNat<128):Utf8.encode (c.toNat:Int)=Tx [c]:=by
 unfold Utf8.encode
 have hv:Utf8.valid (c.toNat:Int)=true:=by simp [Utf8.valid]; omega
 simp only [hv,if_true,Int.toNat_natCast]
 rw [if_pos (by omega)]
 simp [Tx]

set_option maxHeartbeats 1600000 in
set_option maxHeartbeats 1600000 in
set_option maxRecDepth 100000 in
theorem next_walk (Y:YP) (L:Bs) (i:Nat) (c:UInt8) (hc:L[i]? = some c) (hL:L.length≤9000):SCtr Tryz.prog Y 48 [.lo 0 0] (cutO L i) (.tup [tkA (nextR L i c).1,iV (nextR L i c).2.1,bV (nextR L i c).2.2]) (cutO L i):=by
 refine SCtr.of_R (pf:=pfNext) tyOk mixed Tryz.func48 rfl (by kernel_rfl) (by kernel_rfl) (by simp [Tryz.ntmps48]) (by simp [cutO]) fun w S φ hg=>?_
 have hφ:φ.length=1:=hg.hs0.len
 have hi:=(List.getElem?_eq_some_iff.1 hc).1
 have fin:∀ {t:Tk} {to:Nat} {b:Bool},nextR L i c=(t,to,b)→AV.tup [tkA t,iV to,bV b]=.tup [tkA (nextR L i c).1,iV (nextR L i c).2.1,bV (nextR L i c).2.2]:=fun h=>by rw [h]
 have hrun:=fun (p:UInt8→Bool)=>runB_le (p:=p) (L:=L) (i:=i) (by omega)
 refine R_run hg.ok 1000 rfl rfl ?_
 refine R_indexS hg.ok rfl rfl rfl rfl rfl (Int.natCast_nonneg i) (b:=c) (by rw [Tx_get]; exact hc) ?_
 refine R_run hg.ok 1000 rfl rfl ?_
 refine R_call hg.ok (low_ok c) rfl rfl rfl rfl rfl rfl ?_
 refine R_run hg.ok 1000 rfl rfl ?_
 refine R_if rfl rfl (fun h1=>?_) (fun h1=>?_) <;> refine R_run hg.ok 1000 rfl rfl ?_
 ·have hr:=hrun folC
  have hcall:=run_walk Y 62 folC follows_ok L i i (by omega) hL
  generalize hto:runB folC L i=to at hr hcall
  refine R_callSO hg.ok hg.gup hg.wide hg.Y [0] (cutO L i++[zTk]) hcall (fun _=>rfl) rfl rfl rfl rfl rfl rfl rfl rfl ?_
  refine R_run hg.ok 1000 rfl rfl ?_
  refine R_call hg.ok (low_ok c) rfl rfl rfl rfl rfl rfl ?_
  refine R_run hg.ok 1000 rfl rfl ?_
  refine R_if rfl rfl (fun _=>?_) (fun h=>absurd h (by simp [h1])) <;> refine R_run hg.ok 1000 rfl rfl ?_
  refine R_sliceS hg.ok rfl rfl rfl (l:=(i:Int)) (h:=(to:Int)) rfl rfl rfl (Int.natCast_nonneg i) (by omega) (by rw [Tx_size]; omega) ?_
  rw [Tx_cut,show (L.drop ((i:Int)).toNat).take (((to:Int)).toNat - ((i:Int)).toNat)=cutB L i to from rfl]
  refine R_run hg.ok 1000 rfl rfl ?_
  refine R_callSO hg.ok hg.gup hg.wide hg.Y [0] (cutO L i++[zTk]) (named_walk Y L i 1 (cutB L i to) to (by omega) hL (by omega)) (fun _=>rfl) rfl rfl rfl rfl rfl rfl rfl rfl ?_
  refine R_run hg.ok 1000 rfl rfl ?_
  refine R_storeJ hg.ok rfl rfl rfl rfl rfl rfl rfl rfl rfl ?_
  refine R_run hg.ok 1000 rfl rfl ?_
  rw [← fin (t:=⟨1,(cutB L i to),0,i,opnB L to⟩) (to:=to) (b:=namB (cutB L i to)) (by unfold nextR; rw [if_pos h1,hto]; rfl)]
  exact R_retS hg 1 5 (Nat.le_refl _) rfl rfl rfl
 refine R_call hg.ok (great_ok c) rfl rfl rfl rfl rfl rfl ?_
 refine R_run hg.ok 1000 rfl rfl ?_
 refine R_if rfl rfl (fun h2=>?_) (fun h2=>?_) <;> refine R_run hg.ok 1000 rfl rfl ?_
 ·have hr:=hrun folC
  have hcall:=run_walk Y 62 folC follows_ok L i i (by omega) hL
  generalize hto:runB folC L i=to at hr hcall
  refine R_callSO hg.ok hg.gup hg.wide hg.Y [0] (cutO L i++[zTk]) hcall (fun _=>rfl) rfl rfl rfl rfl rfl rfl rfl rfl ?_
  refine R_run hg.ok 1000 rfl rfl ?_
  refine R_call hg.ok (low_ok c) rfl rfl rfl rfl rfl rfl ?_
  refine R_run hg.ok 1000 rfl rfl ?_
  refine R_if rfl rfl (fun h=>absurd h (by simp [h1])) (fun _=>?_) <;> refine R_run hg.ok 1000 rfl rfl ?_
  refine R_sliceS hg.ok rfl rfl rfl (l:=(i:Int)) (h:=(to:Int)) rfl rfl rfl (Int.natCast_nonneg i) (by omega) (by rw [Tx_size]; omega) ?_
  rw [Tx_cut,show (L.drop ((i:Int)).toNat).take (((to:Int)).toNat - ((i:Int)).toNat)=cutB L i to from rfl]
  refine R_run hg.ok 1000 rfl rfl ?_
  refine R_callSO hg.ok hg.gup hg.wide hg.Y [0] (cutO L i++[zTk]) (named_walk Y L i 2 (cutB L i to) to (by omega) hL (by omega)) (fun _=>rfl) rfl rfl rfl rfl rfl rfl rfl rfl ?_
  refine R_run hg.ok 1000 rfl rfl ?_
  refine R_storeJ hg.ok rfl rfl rfl rfl rfl rfl rfl rfl rfl ?_
  refine R_run hg.ok 1000 rfl rfl ?_
  rw [← fin (t:=⟨2,(cutB L i to),0,i,opnB L to⟩) (to:=to) (b:=namB (cutB L i to)) (by unfold nextR; rw [if_neg (by rw [h1]; simp),if_pos h2,hto]; rfl)]
  exact R_retS hg 1 5 (Nat.le_refl _) rfl rfl rfl
 have n1:¬ lowC c=true:=by rw [h1]; simp
 have n2:¬ grtC c=true:=by rw [h2]; simp
 refine R_call hg.ok (digit_ok c) rfl rfl rfl rfl rfl rfl ?_
 refine R_run hg.ok 1000 rfl rfl ?_
 refine R_if rfl rfl (fun h3=>?_) (fun h3=>?_) <;> refine R_run hg.ok 1000 rfl rfl ?_
 ·have hr:=hrun dgC
  have hcall:=run_walk Y 64 dgC digit_ok L i i (by omega) hL
  generalize hto:runB dgC L i=to at hr hcall
  refine R_callSO hg.ok hg.gup hg.wide hg.Y [0] (cutO L i++[zTk]) hcall (fun _=>rfl) rfl rfl rfl rfl rfl rfl rfl rfl ?_
  refine R_run hg.ok 1000 rfl rfl ?_
  have hall:=run_all (p:=dgC) (L:=L) (i:=i)
  rw [hto] at hall
  have hcl:=cutB_len (L:=L) hr.1 hr.2
  refine R_sliceS hg.ok rfl rfl rfl (l:=(i:Int)) (h:=(to:Int)) rfl rfl rfl (Int.natCast_nonneg i) (by omega) (by rw [Tx_size]; omega) ?_
  rw [Tx_cut,show (L.drop ((i:Int)).toNat).take (((to:Int)).toNat - ((i:Int)).toNat)=cutB L i to from rfl]
  refine R_run hg.ok 1000 rfl rfl ?_
  refine R_call hg.ok (number_ok (cutB L i to) hall (by omega)) rfl rfl rfl rfl rfl rfl ?_
  refine R_run hg.ok 1000 rfl rfl ?_
  refine R_sliceS hg.ok rfl rfl rfl (l:=(i:Int)) (h:=(to:Int)) rfl rfl rfl (Int.natCast_nonneg i) (by omega) (by rw [Tx_size]; omega) ?_
  rw [Tx_cut,show (L.drop ((i:Int)).toNat).take (((to:Int)).toNat - ((i:Int)).toNat)=cutB L i to from rfl]
  refine R_run hg.ok 1000 rfl rfl ?_
  refine R_storeJ hg.ok rfl rfl rfl rfl rfl rfl rfl rfl rfl ?_
  refine R_run hg.ok 1000 rfl rfl ?_
  rw [← fin (t:=⟨3,cutB L i to,(numP (cutB L i to)).1,i,false⟩) (to:=to) (b:=(numP (cutB L i to)).2) (by unfold nextR; rw [if_neg n1,if_neg n2,if_pos h3,hto])]
  exact R_retS hg 1 5 (Nat.le_refl _) rfl rfl rfl
 have n3:¬ dgC c=true:=by rw [h3]; simp
 refine R_if rfl rfl (fun h4=>?_) (fun h4=>?_) <;> refine R_run hg.ok 1000 rfl rfl ?_
 ·have h4:c.toNat=39:=by simp at h4; omega
  have hq:=quoted_walk Y L i hi hL
  have hqle:(quoR L i).2.1≤L.length:=by
   unfold quoR
   cases hqq:quo (L.drop (i+1)) with
   | none=>simp
   | some x=>have:=quo_len _ _ (Nat.le_refl _) x.1 x.2 hqq; rw [List.length_drop] at this; simp only; omega
  have hn:nextR L i c=(⟨1,(quoR L i).1,0,i,opnB L (quoR L i).2.1⟩,(quoR L i).2.1,(quoR L i).2.2&&namB (quoR L i).1):=by
   unfold nextR; rw [if_neg n1,if_neg n2,if_neg n3,if_pos h4]; rfl
  generalize quoR L i=q at hq hqle hn
  obtain ⟨text,to,ok⟩:=q
  simp only at hqle hn
  refine R_callSO hg.ok hg.gup hg.wide hg.Y [0] (cutO L i++[zTk]) hq (fun _=>rfl) rfl rfl rfl rfl rfl rfl rfl rfl ?_
  refine R_run hg.ok 1000 rfl rfl ?_
  refine R_callSO hg.ok hg.gup hg.wide hg.Y [0] (cutO L i++[zTk]) (named_walk Y L i 1 text to hqle hL (by omega)) (fun _=>rfl) rfl rfl rfl rfl rfl rfl rfl rfl ?_
  refine R_run hg.ok 1000 rfl rfl ?_
  refine R_if rfl rfl (fun h5=>?_) (fun h5=>?_) <;> refine R_run hg.ok 1000 rfl rfl ?_
  ·have h5:ok=true:=h5
   refine R_storeJ hg.ok rfl rfl rfl rfl rfl rfl rfl rfl rfl ?_
   refine R_run hg.ok 1000 rfl rfl ?_
   rw [← fin (t:=⟨1,text,0,i,opnB L to⟩) (to:=to) (b:=namB text) (by rw [hn,h5]; simp)]
   exact R_retS hg 1 5 (Nat.le_refl _) rfl rfl rfl
  ·have h5:ok=false:=h5
   refine R_storeJ hg.ok rfl rfl rfl rfl rfl rfl rfl rfl rfl ?_
   refine R_run hg.ok 1000 rfl rfl ?_
   rw [← fin (t:=⟨1,text,0,i,opnB L to⟩) (to:=to) (b:=false) (by rw [hn,h5]; simp)]
   exact R_retS hg 1 5 (Nat.le_refl _) rfl rfl rfl
 have n4:¬ c.toNat=39:=by simp at h4; omega
 by_cases h5:c.toNat=91∧(L[i+1]?.map UInt8.toNat)=some 93
 ·obtain ⟨d,hd,hd93⟩:∃ d,L[i+1]? = some d∧d.toNat=93:=by
   have:=h5.2
   cases hx:L[i+1]? with
   | none=>rw [hx] at this; simp at this
   | some d=>rw [hx] at this; exact ⟨d,rfl,by simpa using this⟩
  have hi1:=(List.getElem?_eq_some_iff.1 hd).1
  refine R_if rfl rfl (fun _=>?_) (fun h=>absurd h (by simp; omega)) <;> refine R_run hg.ok 1000 rfl rfl ?_
  rw [w64 (n:=(i:Int)+1) (by omega) (by omega),show (i:Int)+1=((i+1:Nat):Int) by omega]
  refine R_if rfl rfl (fun _=>?_) (fun h=>absurd h (by simp [Tx_size]; omega)) <;> refine R_run hg.ok 1000 rfl rfl ?_
  rw [w64 (n:=(i:Int)+1) (by omega) (by omega),show (i:Int)+1=((i+1:Nat):Int) by omega]
  refine R_indexS hg.ok rfl rfl rfl rfl rfl (Int.natCast_nonneg (i+1)) (b:=d) (by rw [Tx_get]; exact hd) ?_
  refine R_run hg.ok 1000 rfl rfl ?_
  refine R_if rfl rfl (fun _=>?_) (fun h=>absurd h (by simp; omega)) <;> refine R_run hg.ok 1000 rfl rfl ?_
  rw [w64 (n:=(i:Int)+2) (by omega) (by omega),show (i:Int)+2=((i+2:Nat):Int) by omega]
  refine R_callSO hg.ok hg.gup hg.wide hg.Y [0] (cutO L i++[zTk]) (named_walk Y L i 1 [91,93] (i+2) (by omega) hL (by omega)) (fun _=>rfl) rfl rfl rfl rfl rfl rfl rfl rfl ?_
  refine R_run hg.ok 1000 rfl rfl ?_
  refine R_storeJ hg.ok rfl rfl rfl rfl rfl rfl rfl rfl rfl ?_
  refine R_run hg.ok 1000 rfl rfl ?_
  rw [← fin (t:=⟨1,[91,93],0,i,opnB L (i+2)⟩) (to:=i+2) (b:=namB [91,93]) (by unfold nextR; rw [if_neg n1,if_neg n2,if_neg n3,if_neg n4,if_pos h5]; rfl)]
  exact R_retS hg 1 5 (Nat.le_refl _) rfl rfl rfl
 have n5:=h5
 refine R_if rfl rfl (fun h6=>?_) (fun h6=>?_) <;> refine R_run hg.ok 1000 rfl rfl ?_
 ·have h6:c.toNat=91:=by simp at h6; omega
  have tail:mrkC c=true:=by have e:c=91:=UInt8.toNat_inj.1 h6; rw [e]; decide
  rw [w64 (n:=(i:Int)+1) (by omega) (by omega),show (i:Int)+1=((i+1:Nat):Int) by omega]
  refine R_if rfl rfl (fun h7=>?_) (fun h7=>?_) <;> refine R_run hg.ok 1000 rfl rfl ?_
  ·have hi1:i+1<L.length:=lt_dec h7 (by rw [Tx_size])
   rw [w64 (n:=(i:Int)+1) (by omega) (by omega),show (i:Int)+1=((i+1:Nat):Int) by omega]
   refine R_indexS hg.ok rfl rfl rfl rfl rfl (Int.natCast_nonneg (i+1)) (b:=L[i+1]) (by rw [Tx_get]; exact List.getElem?_eq_getElem hi1) ?_
   refine R_run hg.ok 1000 rfl rfl ?_
   refine R_if rfl rfl (fun h=>absurd h (by have h9:¬ L[i+1].toNat=93:=fun g=>n5 ⟨h6,by rw [List.getElem?_eq_getElem hi1]; simpa using g⟩; simp; omega)) (fun _=>?_) <;> refine R_run hg.ok 1000 rfl rfl ?_
   refine R_if rfl rfl (fun h=>absurd h (by simp; omega)) (fun _=>?_) <;> refine R_run hg.ok 1000 rfl rfl ?_
   refine R_if rfl rfl (fun h=>absurd h (by simp; omega)) (fun _=>?_) <;> refine R_run hg.ok 1000 rfl rfl ?_
   refine R_call hg.ok (among_ok mrkL (by decide) c) rfl rfl rfl rfl rfl rfl ?_
   refine R_run hg.ok 1000 rfl rfl ?_
   refine R_if rfl rfl (fun _=>?_) (fun h=>absurd h (by rw [show mrkL.contains c=true from tail]; simp)) <;> refine R_run hg.ok 1000 rfl rfl ?_
   refine R_convB hg.ok (Tx [c]) rfl rfl rfl rfl rfl (enc_ascii (by omega)) ?_
   refine R_run hg.ok 1000 rfl rfl ?_
   refine R_loadJ hg.ok 101 (by simp [mayO,len]) rfl rfl rfl rfl rfl rfl rfl ?_
   refine R_run hg.ok 1000 rfl rfl ?_
   rw [w64 (n:=(i:Int)+1) (by omega) (by omega),show (i:Int)+1=((i+1:Nat):Int) by omega]
   refine R_storeJ hg.ok rfl rfl rfl rfl rfl rfl rfl rfl rfl ?_
   refine R_run hg.ok 1000 rfl rfl ?_
   rw [← fin (t:=⟨4,[c],0,i,false⟩) (to:=i+1) (b:=true) (by unfold nextR; rw [if_neg n1,if_neg n2,if_neg n3,if_neg n4,if_neg n5,if_neg (by omega),if_pos tail])]
   exact R_retS hg 1 5 (Nat.le_refl _) rfl rfl rfl
  ·have:=h7
   refine R_if rfl rfl (fun h=>absurd h (by simp; omega)) (fun _=>?_) <;> refine R_run hg.ok 1000 rfl rfl ?_
   refine R_if rfl rfl (fun h=>absurd h (by simp; omega)) (fun _=>?_) <;> refine R_run hg.ok 1000 rfl rfl ?_
   refine R_call hg.ok (among_ok mrkL (by decide) c) rfl rfl rfl rfl rfl rfl ?_
   refine R_run hg.ok 1000 rfl rfl ?_
   refine R_if rfl rfl (fun _=>?_) (fun h=>absurd h (by rw [show mrkL.contains c=true from tail]; simp)) <;> refine R_run hg.ok 1000 rfl rfl ?_
   refine R_convB hg.ok (Tx [c]) rfl rfl rfl rfl rfl (enc_ascii (by omega)) ?_
   refine R_run hg.ok 1000 rfl rfl ?_
   refine R_loadJ hg.ok 101 (by simp [mayO,len]) rfl rfl rfl rfl rfl rfl rfl ?_
   refine R_run hg.ok 1000 rfl rfl ?_
   rw [w64 (n:=(i:Int)+1) (by omega) (by omega),show (i:Int)+1=((i+1:Nat):Int) by omega]
   refine R_storeJ hg.ok rfl rfl rfl rfl rfl rfl rfl rfl rfl ?_
   refine R_run hg.ok 1000 rfl rfl ?_
   rw [← fin (t:=⟨4,[c],0,i,false⟩) (to:=i+1) (b:=true) (by unfold nextR; rw [if_neg n1,if_neg n2,if_neg n3,if_neg n4,if_neg n5,if_neg (by omega),if_pos tail])]
   exact R_retS hg 1 5 (Nat.le_refl _) rfl rfl rfl
 refine R_if rfl rfl (fun h8=>?_) (fun h8=>?_) <;> refine R_run hg.ok 1000 rfl rfl ?_
 ·have h8:c.toNat=33:=by simp at h8; omega
  refine R_convB hg.ok (Tx [c]) rfl rfl rfl rfl rfl (enc_ascii (by omega)) ?_
  refine R_run hg.ok 1000 rfl rfl ?_
  rw [w64 (n:=(i:Int)+1) (by omega) (by omega),show (i:Int)+1=((i+1:Nat):Int) by omega]
  refine R_callSO hg.ok hg.gup hg.wide hg.Y [0] (cutO L i++[zTk]) (named_walk Y L i 1 [c] (i+1) (by omega) hL (by omega)) (fun _=>rfl) rfl rfl rfl rfl rfl rfl rfl rfl ?_
  refine R_run hg.ok 1000 rfl rfl ?_
  refine R_storeJ hg.ok rfl rfl rfl rfl rfl rfl rfl rfl rfl ?_
  refine R_run hg.ok 1000 rfl rfl ?_
  rw [← fin (t:=⟨1,[c],0,i,opnB L (i+1)⟩) (to:=i+1) (b:=namB [c]) (by unfold nextR; rw [if_neg n1,if_neg n2,if_neg n3,if_neg n4,if_neg n5,if_pos (.inl h8)]; rfl)]
  exact R_retS hg 1 5 (Nat.le_refl _) rfl rfl rfl
 refine R_if rfl rfl (fun h9=>?_) (fun h9=>?_) <;> refine R_run hg.ok 1000 rfl rfl ?_
 ·have h9:c.toNat=59:=by simp at h9; omega
  refine R_convB hg.ok (Tx [c]) rfl rfl rfl rfl rfl (enc_ascii (by omega)) ?_
  refine R_run hg.ok 1000 rfl rfl ?_
  rw [w64 (n:=(i:Int)+1) (by omega) (by omega),show (i:Int)+1=((i+1:Nat):Int) by omega]
  refine R_callSO hg.ok hg.gup hg.wide hg.Y [0] (cutO L i++[zTk]) (named_walk Y L i 1 [c] (i+1) (by omega) hL (by omega)) (fun _=>rfl) rfl rfl rfl rfl rfl rfl rfl rfl ?_
  refine R_run hg.ok 1000 rfl rfl ?_
  refine R_storeJ hg.ok rfl rfl rfl rfl rfl rfl rfl rfl rfl ?_
  refine R_run hg.ok 1000 rfl rfl ?_
  rw [← fin (t:=⟨1,[c],0,i,opnB L (i+1)⟩) (to:=i+1) (b:=namB [c]) (by unfold nextR; rw [if_neg n1,if_neg n2,if_neg n3,if_neg n4,if_neg n5,if_pos (.inr h9)]; rfl)]
  exact R_retS hg 1 5 (Nat.le_refl _) rfl rfl rfl
 have n6:¬ (c.toNat=33∨c.toNat=59):=by simp at h8 h9; omega
 by_cases tail:mrkC c=true
 ·have h128:c.toNat<128:=by
   have:=byte_all (p:=fun c=>!mrkC c || decide (c.toNat<128)) (by decide +kernel) c
   simpa [tail] using this
  refine R_call hg.ok (among_ok mrkL (by decide) c) rfl rfl rfl rfl rfl rfl ?_
  refine R_run hg.ok 1000 rfl rfl ?_
  refine R_if rfl rfl (fun _=>?_) (fun h=>absurd h (by rw [show mrkL.contains c=true from tail]; simp)) <;> refine R_run hg.ok 1000 rfl rfl ?_
  refine R_convB hg.ok (Tx [c]) rfl rfl rfl rfl rfl (enc_ascii (h128)) ?_
  refine R_run hg.ok 1000 rfl rfl ?_
  refine R_loadJ hg.ok 101 (by simp [mayO,len]) rfl rfl rfl rfl rfl rfl rfl ?_
  refine R_run hg.ok 1000 rfl rfl ?_
  rw [w64 (n:=(i:Int)+1) (by omega) (by omega),show (i:Int)+1=((i+1:Nat):Int) by omega]
  refine R_storeJ hg.ok rfl rfl rfl rfl rfl rfl rfl rfl rfl ?_
  refine R_run hg.ok 1000 rfl rfl ?_
  rw [← fin (t:=⟨4,[c],0,i,false⟩) (to:=i+1) (b:=true) (by unfold nextR; rw [if_neg n1,if_neg n2,if_neg n3,if_neg n4,if_neg n5,if_neg (by omega),if_pos tail])]
  exact R_retS hg 1 5 (Nat.le_refl _) rfl rfl rfl
 have n7:=tail
 refine R_call hg.ok (among_ok mrkL (by decide) c) rfl rfl rfl rfl rfl rfl ?_
 refine R_run hg.ok 1000 rfl rfl ?_
 refine R_if rfl rfl (fun h=>absurd h (by rw [show mrkL.contains c=false from by simpa [mrkC] using n7]; simp)) (fun _=>?_) <;> refine R_run hg.ok 1000 rfl rfl ?_
 have hr:=hrun sgnC
 have hcall:=run_walk Y 68 sgnC sign1_ok L i i (by omega) hL
 generalize hto:runB sgnC L i=to at hr hcall
 refine R_callSO hg.ok hg.gup hg.wide hg.Y [0] (cutO L i++[zTk]) hcall (fun _=>rfl) rfl rfl rfl rfl rfl rfl rfl rfl ?_
 refine R_run hg.ok 1000 rfl rfl ?_
 refine R_sliceS hg.ok rfl rfl rfl (l:=(i:Int)) (h:=(to:Int)) rfl rfl rfl (Int.natCast_nonneg i) (by omega) (by rw [Tx_size]; omega) ?_
 rw [Tx_cut,show (L.drop ((i:Int)).toNat).take (((to:Int)).toNat - ((i:Int)).toNat)=cutB L i to from rfl]
 refine R_run hg.ok 1000 rfl rfl ?_
 have hlen:=cutB_len (L:=L) hr.1 hr.2
 have hcut:(cutB L i to==[46])=true↔to=i+1∧c.toNat=46:=by
  rw [beq_iff_eq]
  have hd:L.drop i=c::L.drop (i+1):=by rw [List.drop_eq_getElem_cons hi,(List.getElem?_eq_some_iff.1 hc).2]
  constructor
  ·intro h
   rw [h] at hlen
   have e:to=i+1:=by simp only [List.length_singleton] at hlen; omega
   rw [e,cutB,hd,Nat.add_sub_cancel_left] at h
   simp only [List.take_succ_cons,List.take_zero,List.cons.injEq,and_true] at h
   exact ⟨e,by rw [h]; rfl⟩
  ·rintro ⟨e,h⟩
   have h:c=46:=UInt8.toNat_inj.1 h
   rw [e,cutB,hd,Nat.add_sub_cancel_left,h]; rfl
 have hdot:strEq (Tx (cutB L i to)) ⟨#[46]⟩=(cutB L i to==[46]):=Tx_eq _ _
 by_cases hE:to=i+1∧c.toNat=46
 ·have hb:=hcut.2 hE
  refine R_if rfl rfl (fun _=>?_) (fun h=>absurd h (by rw [hdot.trans hb]; simp)) <;> refine R_run hg.ok 1000 rfl rfl ?_
  obtain ⟨rfl,h46⟩:=hE
  have hE:i+1=i+1∧c.toNat=46:=⟨rfl,h46⟩
  refine R_if rfl rfl (fun h10=>?_) (fun h10=>?_) <;> refine R_run hg.ok 1000 rfl rfl ?_
  ·have h10:L.length=i+1:=by simp [Tx_size] at h10; omega
   have ea:endAft L (i+1)=true:=by unfold endAft; rw [List.getElem?_eq_none (by omega)]
   refine R_storeJ hg.ok rfl rfl rfl rfl rfl rfl rfl rfl rfl ?_
   refine R_run hg.ok 1000 rfl rfl ?_
   rw [← fin (t:=⟨5,[46],0,i,false⟩) (to:=i+1) (b:=true) (by unfold nextR; rw [if_neg n1,if_neg n2,if_neg n3,if_neg n4,if_neg n5,if_neg n6,if_neg n7,if_pos ⟨by rw [hto],hE.2,ea⟩])]
   exact R_retS hg 1 5 (Nat.le_refl _) rfl rfl rfl
  ·have h10:i+1<L.length:=by simp [Tx_size] at h10; omega
   have e1:L[i+1]? = some L[i+1]:=List.getElem?_eq_getElem h10
   have ea:endAft L (i+1)=(blkC L[i+1] || decide (L[i+1].toNat=37)):=by unfold endAft; rw [e1]
   generalize L[i+1]=d at e1 ea
   refine R_indexS hg.ok rfl rfl rfl rfl rfl (Int.natCast_nonneg (i+1)) (b:=d) (by rw [Tx_get]; exact e1) ?_
   refine R_run hg.ok 1000 rfl rfl ?_
   refine R_call hg.ok (blank_ok d) rfl rfl rfl rfl rfl rfl ?_
   refine R_run hg.ok 1000 rfl rfl ?_
   refine R_if rfl rfl (fun h11=>?_) (fun h11=>?_) <;> refine R_run hg.ok 1000 rfl rfl ?_
   ·refine R_storeJ hg.ok rfl rfl rfl rfl rfl rfl rfl rfl rfl ?_
    refine R_run hg.ok 1000 rfl rfl ?_
    rw [← fin (t:=⟨5,[46],0,i,false⟩) (to:=i+1) (b:=true) (by unfold nextR; rw [if_neg n1,if_neg n2,if_neg n3,if_neg n4,if_neg n5,if_neg n6,if_neg n7,if_pos ⟨by rw [hto],hE.2,by rw [ea,h11]; simp⟩])]
    exact R_retS hg 1 5 (Nat.le_refl _) rfl rfl rfl
   ·refine R_indexS hg.ok rfl rfl rfl rfl rfl (Int.natCast_nonneg (i+1)) (b:=d) (by rw [Tx_get]; exact e1) ?_
    refine R_run hg.ok 1000 rfl rfl ?_
    refine R_if rfl rfl (fun h12=>?_) (fun h12=>?_) <;> refine R_run hg.ok 1000 rfl rfl ?_
    ·have h12:d.toNat=37:=by simp at h12; omega
     refine R_storeJ hg.ok rfl rfl rfl rfl rfl rfl rfl rfl rfl ?_
     refine R_run hg.ok 1000 rfl rfl ?_
     rw [← fin (t:=⟨5,[46],0,i,false⟩) (to:=i+1) (b:=true) (by unfold nextR; rw [if_neg n1,if_neg n2,if_neg n3,if_neg n4,if_neg n5,if_neg n6,if_neg n7,if_pos ⟨by rw [hto],hE.2,by rw [ea,h12]; simp⟩])]
     exact R_retS hg 1 5 (Nat.le_refl _) rfl rfl rfl
    ·have h12:¬ d.toNat=37:=by simp at h12; omega
     have hno:endAft L (i+1)=false:=by rw [ea,h11]; simp [h12]
     refine R_sliceS hg.ok rfl rfl rfl (l:=(i:Int)) (h:=((i+1:Nat):Int)) rfl rfl rfl (Int.natCast_nonneg i) (by omega) (by rw [Tx_size]; omega) ?_
     rw [Tx_cut,show (L.drop ((i:Int)).toNat).take ((((i+1:Nat):Int)).toNat - ((i:Int)).toNat)=cutB L i (i+1) from rfl]
     refine R_run hg.ok 1000 rfl rfl ?_
     refine R_callSO hg.ok hg.gup hg.wide hg.Y [0] (cutO L i++[zTk]) (named_walk Y L i 1 (cutB L i (i+1)) (i+1) (by omega) hL (by omega)) (fun _=>rfl) rfl rfl rfl rfl rfl rfl rfl rfl ?_
     refine R_run hg.ok 1000 rfl rfl ?_
     refine R_storeJ hg.ok rfl rfl rfl rfl rfl rfl rfl rfl rfl ?_
     refine R_run hg.ok 1000 rfl rfl ?_
     rw [← fin (t:=⟨1,cutB L i (i+1),0,i,opnB L (i+1)⟩) (to:=i+1) (b:=namB (cutB L i (i+1))) (by unfold nextR; rw [if_neg n1,if_neg n2,if_neg n3,if_neg n4,if_neg n5,if_neg n6,if_neg n7,if_neg (by rw [hto]; rintro ⟨_,_,h⟩; rw [hno] at h; cases h),hto]; rfl)]
     exact R_retS hg 1 5 (Nat.le_refl _) rfl rfl rfl
 ·have hb:(cutB L i to==[46])=false:=by
   rw [Bool.eq_false_iff]; exact fun h=>hE (hcut.1 h)
  refine R_if rfl rfl (fun h=>absurd h (by rw [hdot.trans hb]; simp)) (fun _=>?_) <;> refine R_run hg.ok 1000 rfl rfl ?_
  refine R_sliceS hg.ok rfl rfl rfl (l:=(i:Int)) (h:=(to:Int)) rfl rfl rfl (Int.natCast_nonneg i) (by omega) (by rw [Tx_size]; omega) ?_
  rw [Tx_cut,show (L.drop ((i:Int)).toNat).take (((to:Int)).toNat - ((i:Int)).toNat)=cutB L i to from rfl]
  refine R_run hg.ok 1000 rfl rfl ?_
  refine R_callSO hg.ok hg.gup hg.wide hg.Y [0] (cutO L i++[zTk]) (named_walk Y L i 1 (cutB L i to) to (by omega) hL (by omega)) (fun _=>rfl) rfl rfl rfl rfl rfl rfl rfl rfl ?_
  refine R_run hg.ok 1000 rfl rfl ?_
  refine R_storeJ hg.ok rfl rfl rfl rfl rfl rfl rfl rfl rfl ?_
  refine R_run hg.ok 1000 rfl rfl ?_
  rw [← fin (t:=⟨1,cutB L i to,0,i,opnB L to⟩) (to:=to) (b:=namB (cutB L i to)) (by unfold nextR; rw [if_neg n1,if_neg n2,if_neg n3,if_neg n4,if_neg n5,if_neg n6,if_neg n7,if_neg (by rw [hto]; rintro ⟨h,h2,_⟩; exact hE ⟨h,h2⟩),hto]; rfl)]
  exact R_retS hg 1 5 (Nat.le_refl _) rfl rfl rfl
end Go.Proofs.YtchhahnajgfeaaaGreatDoor

namespace Go.Proofs.YtchhahnajgfeaaaGreatDoor
open Go PSL Go.Proofs

theorem one_next {L:Bs} {i:Nat} {c:UInt8} (hc:L[i]? = some c):oneT L i=if (nextR L i c).2.2=true then some ((nextR L i c).1,(nextR L i c).2.1) else none:=by
 have nm:∀ (kind:Int) (text:Bs) (to:Nat),nameT L kind text i to=if (namR L kind text i to).2.2=true then some ((namR L kind text i to).1,(namR L kind text i to).2.1) else none:=fun kind text to=>by simp [nameT,namR,namB]
 unfold oneT nextR
 rw [hc]
 simp only
 split
 ·exact nm _ _ _
 split
 ·exact nm _ _ _
 split
 ·unfold numP
  cases numT (cutB L i (runB dgC L i)) with
  | none=>rfl
  | some n=>rfl
 split
 ·unfold quoR
  cases quo (L.drop (i+1)) with
  | none=>rfl
  | some x=>obtain ⟨t,k⟩:=x; simp [nameT,namR,namB]
 split
 ·exact nm _ _ _
 split
 ·exact nm _ _ _
 split
 ·rfl
 split
 ·rfl
 ·exact nm _ _ _

def preE (out:List Tk):Except Nat (List Tk)→Except Nat (List Tk)
 | .ok l=>.ok (out++l)
 | .error j=>.error j

def toksP (f:Nat) (L:Bs) (i:Nat):Except Nat (List Tk):=if i<L.length then (match oneT L i with
   | none=>.error i
   | some (t,to)=>match toks f L to with
    | .ok l=>.ok (t::l)
    | .error j=>.error j) else .ok []
theorem toks_P (f:Nat) (L:Bs) (i:Nat):toks (f+1) L i=toksP f L (passN L i):=rfl

theorem preE_snoc (out:List Tk) (t:Tk) (e:Except Nat (List Tk)):preE (out++[t]) e=preE out (match e with
    | .ok l=>.ok (t::l)
    | .error j=>.error j):=by
 cases e with
 | ok l=>simp [preE]
 | error j=>rfl
def tkRows (l:List Tk):List (List D):=l.map tkD
theorem tkRows_len (l:List Tk):(tkRows l).length=l.length:=by simp [tkRows]
def tokR (L:Bs):AV:=.tup [.d (.sl (tkRows (tokT L).1)),iV (tokT L).2.1,iV (tokT L).2.2]

theorem tokR_ok {L:Bs} {l:List Tk} (hL:¬ 8000<L.length) (h:toks (L.length+1) L 0=.ok l):tokR L=.tup [.d (.sl (tkRows l)),iV 0,iV 0]:=by
 unfold tokR tokT; rw [if_neg hL,h]

theorem tokR_bad {L:Bs} {j:Nat} (hL:¬ 8000<L.length) (h:toks (L.length+1) L 0=.error j):tokR L=.tup [.d (.sl []),iV j,iV 2]:=by
 unfold tokR tokT; rw [if_neg hL,h]; rfl

set_option maxRecDepth 100000 in
theorem tokens_ok (L:Bs) (hL:L.length≤9000):PCtr Tryz.prog 33 [txA L] (tokR L):=by
 refine PCtr.of_R (pf:=fun _=>.eff) tyOk mixed Tryz.func33 rfl (by kernel_rfl) (by kernel_rfl) (by simp [Tryz.ntmps33]) fun w S hg=>?_
 refine R_run hg.ok 1000 rfl rfl ?_
 refine R_if rfl rfl (fun h=>?_) (fun h=>?_)
 ·refine R_run hg.ok 1000 rfl rfl ?_
  have h:8000<L.length:=by have:=of_decide_eq_true h; rw [Tx_size] at this; omega
  refine R_ret hg 5 rfl rfl ?_
  unfold tokR tokT
  rw [if_pos h]; rfl
 have hbig:¬ 8000<L.length:=by have:=of_decide_eq_false h; rw [Tx_size] at this; omega
 have hpass:=fun i=>pass_walk ⟨[],fun _=>true⟩ L i
 first
 | (refine R_run hg.ok 5 rfl rfl ?_; refine R_own 6 5 rfl rfl ?_)
 | (refine R_run hg.ok 6 rfl rfl ?_; refine R_own 6 5 rfl rfl ?_)
 | (refine R_run hg.ok 7 rfl rfl ?_; refine R_own 6 5 rfl rfl ?_)
 | (refine R_run hg.ok 8 rfl rfl ?_; refine R_own 6 5 rfl rfl ?_)
 | (refine R_run hg.ok 9 rfl rfl ?_; refine R_own 6 5 rfl rfl ?_)
 | (refine R_run hg.ok 10 rfl rfl ?_; refine R_own 6 5 rfl rfl ?_)
 | (refine R_run hg.ok 11 rfl rfl ?_; refine R_own 6 5 rfl rfl ?_)
 | (refine R_run hg.ok 12 rfl rfl ?_; refine R_own 6 5 rfl rfl ?_)
 | (refine R_run hg.ok 13 rfl rfl ?_; refine R_own 6 5 rfl rfl ?_)
 refine R_run hg.ok 1000 rfl rfl ?_
 refine R_callSO hg.ok hg.gup ⟨rfl,rfl⟩ (fun _ _ _ _ h=>by cases h) [0] (cutO L (passN L 0)++[.arr 5 0 []]) (hpass 0 (by omega) hL) (fun _=>rfl) rfl rfl rfl rfl rfl rfl rfl rfl ?_
 refine R_run hg.ok 1000 rfl rfl ?_
 have h0:toks (L.length+1) L 0=preE [] (toksP L.length L (passN L 0)):=by
  rw [toks_P]; cases toksP L.length L (passN L 0) <;> rfl
 refine R_loop (fun x:Nat × Nat × List Tk=>([(0,txA L),(5,.lo 0 0),(6,.ow 1 x.2.2.length)],cutO L x.2.1++[.arr 5 x.2.2.length (tkRows x.2.2)])) (fun x=>x.2.1≤L.length∧L.length - x.2.1≤x.1∧x.2.2.length≤x.2.1∧toks (L.length+1) L 0=preE x.2.2 (toksP x.1 L x.2.1)) (fun x=>L.length - x.2.1) (L.length,passN L 0,[]) ⟨(pass_le (by omega)).2,by simp only; omega,Nat.zero_le _,h0⟩ ⟨.refl _,.refl _,.refl _,trivial⟩ rfl ?_
 rintro ⟨f,i,out⟩ ⟨hi,hf,ho,hm⟩
 simp only at hi hf ho hm
 refine R_run hg.ok 1000 rfl rfl ?_
 refine R_if rfl rfl (fun h1=>?_) (fun h1=>?_) <;> refine R_run hg.ok 1000 rfl rfl ?_
 ·have h1:i<L.length:=lt_dec h1 (by rw [Tx_size])
  have hc:L[i]? = some L[i]:=List.getElem?_eq_getElem h1
  have hone:=one_next hc
  have hn:=next_walk ⟨[],fun _=>true⟩ L i L[i] hc hL
  have hP:toksP f L i=match oneT L i with
   | none=>.error i
   | some (t,to)=>match toks f L to with
    | .ok l=>.ok (t::l)
    | .error j=>.error j:=by unfold toksP; rw [if_pos h1]
  generalize nextR L i L[i]=q at hone hn
  obtain ⟨t,to,ok⟩:=q
  simp only at hone
  refine R_callSO hg.ok hg.gup ⟨rfl,rfl⟩ (fun _ _ _ _ h=>by cases h) [0] (cutO L i++[.arr 5 out.length (tkRows out)]) hn (fun _=>rfl) rfl rfl rfl rfl rfl rfl rfl rfl ?_
  refine R_run hg.ok 1000 rfl rfl ?_
  refine R_if rfl rfl (fun h2=>?_) (fun h2=>?_) <;> refine R_run hg.ok 1000 rfl rfl ?_
  ·have h2:ok=false:=by simpa using h2
   rw [h2,if_neg (by simp)] at hone
   rw [hone] at hP
   refine R_ret hg 5 rfl rfl ?_
   rw [tokR_bad hbig (j:=i) (by rw [hm,hP]; rfl)]
   rfl
  ·have h2:ok=true:=by simpa using h2
   rw [h2,if_pos rfl] at hone
   rw [hone] at hP
   have hto:=oneT_to hone
   simp only at hP
   have hf1:f=(f - 1)+1:=by omega
   rw [hf1,toks_P] at hP
   have hps:=pass_le (L:=L) (i:=to) hto.2
   refine R_appendO hg.ok (tkRows (out++[t])) rfl rfl rfl rfl rfl rfl rfl rfl rfl (by simp) (by simp [one1]) (by simp [tkRows,tkD]) (by rw [tkRows_len]; simp; omega) (by rw [tkRows_len]; simp; omega) ?_
   refine R_run hg.ok 1000 rfl rfl ?_
   refine R_callSO hg.ok hg.gup ⟨rfl,rfl⟩ (fun _ _ _ _ h=>by cases h) [0] (cutO L (passN L to)++[.arr 5 (out.length+1) (tkRows (out++[t])),.box [.d (.v (.int .i64 t.kind)),.d (.v (.string (Tx t.text))),.d (.v (.int .i64 t.n)),.d (.v (.int .i64 t.at_)),.d (.v (.bool t.opn))]]) (hpass to hto.2 hL) (fun _=>rfl) rfl rfl rfl rfl rfl rfl rfl rfl ?_
   refine R_run hg.ok 1000 rfl rfl ?_
   refine R_dropO 2 (cutO L (passN L to)++[.arr 5 (out.length+1) (tkRows (out++[t]))]) (Nat.zero_le _) rfl rfl ?_
   refine R_next (f - 1,passN L to,out++[t]) ⟨hps.2,by simp only; omega,by simp; omega,?_⟩ (by simp only; omega) ⟨.refl _,.refl _,by simp only [List.length_append,List.length_singleton]; exact .refl _,trivial⟩ (by simp only [List.length_append,List.length_singleton])
   simp only
   rw [hm,preE_snoc,← hP,← hf1]
 ·have h1:L.length≤i:=ge_dec h1 (by rw [Tx_size])
  refine R_ret hg 5 rfl (sealA_tup (mapO_cons (sealA_ow rfl) rfl)) ?_
  rw [tokR_ok hbig (l:=out) (by rw [hm]; unfold toksP; rw [if_neg (by omega)]; simp [preE])]
  rfl
end Go.Proofs.YtchhahnajgfeaaaGreatDoor

namespace Go.Proofs.YtchhahnajgfeaaaGreatDoor
open Go PSL Go.Proofs
def strRows (l:List Bs):List (List D):=l.map fun s=>[.v (.string (Tx s))]
theorem strRows_len (l:List Bs):(strRows l).length=l.length:=by simp [strRows]
theorem strRows_get {l:List Bs} {i:Nat} {s:Bs} (h:l[i]? = some s):(strRows l)[i]? = some [.v (.string (Tx s))]:=by simp [strRows,h]
theorem strRows_snoc (l:List Bs) (s:Bs):strRows l++[[.v (.string (Tx s))]]=strRows (l++[s]):=by simp [strRows]

def opV (x:Int × Int × Int):Value:=.agg #[.int .i64 x.1,.int .i64 x.2.1,.int .i64 x.2.2]
def tabD:List (Value × D):=opTab.map fun p=>(.string (Tx p.1),.v (opV p.2))
def tblV (mk:Bool):AV:=if mk then .d (.map tabD) else .d (.v (.map none))

def robj (S:Bs) (L:List Tk) (st:RSt) (deep:Int) (dn lk:Int) (mk:Bool):List Ob :=
 [.box [.d (.v (.string (Tx S))),.d (.sl (tkRows L)),iV st.at_,.ow 1 st.names.length,iV deep,iV st.bad,iV st.e,.d (.v (.int .u32 dn)),.d (.v (.int .i32 lk)),.d (.v (.int .u32 0)),tblV mk],.arr 1 st.names.length (strRows st.names)]

theorem robj_map {f:AV→AV} (S:Bs) (L:List Tk) (st:RSt) (deep dn lk:Int) (mk:Bool) (h1:∀ x,f (.d x)=.d x) (h2:f (.ow 1 st.names.length)=.ow 1 st.names.length):(robj S L st deep dn lk mk).map (mapOb f)=robj S L st deep dn lk mk:=by
 have h3:f (tblV mk)=tblV mk:=by unfold tblV; split <;> exact h1 _
 simp only [robj,List.map_cons,List.map_nil,mapOb,h2,h3,iV,h1]

theorem sealF_d (n0 n:Nat) (o:List Ob) (x:D):sealT false n0 o (n+1) (.d x)=.d x:=by
 unfold sealT
 split <;> first | rfl | (rename_i h; cases h; rfl) | (rename_i h; cases h)

theorem robj_keep (S:Bs) (L:List Tk) (st:RSt) (deep dn lk:Int) (mk:Bool) (n0:Nat) (o:List Ob) (hn:2≤n0):(robj S L st deep dn lk mk).map (mapOb (sealT false n0 o 5))=robj S L st deep dn lk mk :=
 robj_map S L st deep dn lk mk (fun x=>sealF_d n0 4 o x) (by
  show (bif Nat.ble (Nat.succ 1) n0 then _ else _)=_
  rw [show Nat.ble (Nat.succ 1) n0=true from Nat.ble_eq_true_of_le hn]; rfl)

theorem robj_ren (S:Bs) (L:List Tk) (st:RSt) (deep dn lk:Int) (mk:Bool) (i j n:Nat) (l:List Nat):(robj S L st deep dn lk mk).map (renOb (rn (i::j::l) n))=[.box [.d (.v (.string (Tx S))),.d (.sl (tkRows L)),iV st.at_,.ow j st.names.length,iV deep,iV st.bad,iV st.e,.d (.v (.int .u32 dn)),.d (.v (.int .i32 lk)),.d (.v (.int .u32 0)),tblV mk],.arr 1 st.names.length (strRows st.names)]:=by
 have h3:renA (rn (i::j::l) n) (tblV mk)=tblV mk:=by unfold tblV; split <;> rfl
 simp only [robj,List.map_cons,List.map_nil,renOb,renL,h3]; rfl

theorem atLoad (a:Addr) (x:Int) (w:World) (h:w.cell? a=some (.int .u32 x)):(callFunc 107 #[.pointer (some a)]).run Tryz.prog w=.ok (.value (.int .u32 x)) w :=
 run_call_load Tryz.func107 (by kernel_rfl) (by kernel_rfl) (by kernel_rfl) .u32 (by kernel_rfl) h
theorem raceOff (w:World):(callFunc 117 #[]).run Tryz.prog w=.ok (.value (.tuple #[])) w:=run_call_mark0 Tryz.func117 (by kernel_rfl) (by kernel_rfl) (by kernel_rfl) .disable (by kernel_rfl) w
theorem raceOn (w:World):(callFunc 119 #[]).run Tryz.prog w=.ok (.value (.tuple #[])) w:=run_call_mark0 Tryz.func119 (by kernel_rfl) (by kernel_rfl) (by kernel_rfl) .enable (by kernel_rfl) w
theorem raceAcq (a:Addr) (w:World):(callFunc 120 #[.pointer (some a)]).run Tryz.prog w=.ok (.value (.tuple #[])) w:=run_call_marked Tryz.func120 (by kernel_rfl) (by kernel_rfl) (by kernel_rfl) .acquire (by kernel_rfl) a w
theorem raceRel (a:Addr) (w:World):(callFunc 122 #[.pointer (some a)]).run Tryz.prog w=.ok (.value (.tuple #[])) w:=run_call_marked Tryz.func122 (by kernel_rfl) (by kernel_rfl) (by kernel_rfl) .releaseMerge (by kernel_rfl) a w

theorem atCas (a:Addr) (x y:Int) (w:World) (h:w.cell? a=some (.int .i32 x)) (hz:w.frozen? a=false):(callFunc 118 #[.pointer (some a),.int .i32 x,.int .i32 y]).run Tryz.prog w=.ok (.value (.bool true)) (w.setCell a (.int .i32 y)) :=
 run_call_cas_hit Tryz.func118 (by kernel_rfl) (by kernel_rfl) (by kernel_rfl) .i32 (by kernel_rfl) h hz

theorem atStore (a:Addr) (u:Value) (y:Int) (w:World) (h:w.cell? a=some u) (hz:w.frozen? a=false):(callFunc 115 #[.pointer (some a),.int .u32 y]).run Tryz.prog w=.ok (.value (.tuple #[])) (w.setCell a (.int .u32 y)) :=
 run_call_store Tryz.func115 (by kernel_rfl) (by kernel_rfl) (by kernel_rfl) (by kernel_rfl) h hz

theorem atAdd (a:Addr) (w:World) (h:w.cell? a=some (.int .i32 1)) (hz:w.frozen? a=false):(callFunc 123 #[.pointer (some a),.int .i32 (-1)]).run Tryz.prog w=.ok (.value (.int .i32 0)) (w.setCell a (.int .i32 0)) :=
 run_call_add Tryz.func123 (by kernel_rfl) (by kernel_rfl) (by kernel_rfl) .i32 (by kernel_rfl) h hz (by simp [go_sem]; rfl)
end Go.Proofs.YtchhahnajgfeaaaGreatDoor

namespace Go.Proofs.YtchhahnajgfeaaaGreatDoor
open Go PSL Go.Proofs
def pfSy:Nat→Cls:=fun f=>bif Nat.beq f 4000000010 then .turn 90 else .eff

set_option maxRecDepth 100000 in
theorem boolLoad_ok (Y:YP) (S:Bs) (L:List Tk) (st:RSt) (deep dn lk:Int) (mk:Bool):SCtr Tryz.prog Y 99 [.lo 0 7] (robj S L st deep dn lk mk) (bV (dn != 0)) (robj S L st deep dn lk mk):=by
 refine SCtr.of_R (pf:=fun _=>.eff) tyOk mixed Tryz.func99 rfl (by kernel_rfl) (by kernel_rfl) (by simp [Tryz.ntmps99]) (by simp [robj]) fun w S φ hg=>?_
 refine R_run hg.ok 1000 rfl rfl ?_
 refine R_fieldZ hg.ok Tryz.underlying84 rfl (by kernel_rfl) rfl rfl rfl ?_
 refine R_run hg.ok 1000 rfl rfl ?_
 refine R_extL hg.ok atLoad rfl rfl rfl rfl rfl rfl ?_
 refine R_run hg.ok 1000 rfl rfl ?_
 exact R_retS hg 2 5 (Nat.le_refl _) rfl rfl (robj_keep _ L st deep dn lk mk 2 _ (Nat.le_refl _))

set_option maxRecDepth 100000 in
theorem boolStore_ok (Y:YP) (S:Bs) (L:List Tk) (st:RSt) (deep dn lk:Int) (mk:Bool):DCtr Tryz.prog Y 110 [.lo 0 7,bV true] (robj S L st deep dn lk mk) (.tup []) (robj S L st deep 1 lk mk):=by
 have hb:PCtr Tryz.prog 116 [bV true] (.d (.v (.int .u32 1))):=by
  refine PCtr.of_R (pf:=fun _=>.still) tyOk mixed Tryz.func116 rfl (by kernel_rfl) (by kernel_rfl) (by simp [Tryz.ntmps116]) fun w S hg=>?_
  refine R_run hg.ok 1000 rfl rfl ?_
  refine R_if rfl rfl (fun _=>?_) (fun h=>absurd h (by simp)) <;> refine R_run hg.ok 1000 rfl rfl ?_
  refine R_ret hg 5 rfl rfl ?_
  rfl
 refine DCtr.of_R (pf:=fun _=>.eff) tyOk mixed Tryz.func110 rfl (by kernel_rfl) (by kernel_rfl) (by simp [Tryz.ntmps110]) (by simp [robj]) fun w S φ hg=>?_
 refine R_run hg.ok 1000 rfl rfl ?_
 refine R_fieldZ hg.ok Tryz.underlying84 rfl (by kernel_rfl) rfl rfl rfl ?_
 refine R_run hg.ok 1000 rfl rfl ?_
 refine R_call hg.ok (hb) rfl rfl rfl rfl rfl rfl ?_
 refine R_run hg.ok 1000 rfl rfl ?_
 refine R_extW hg.ok (ys:=#[.tmp 8]) [.int .u32 1] (fun a w h hz=>atStore a _ 1 w h hz) rfl rfl rfl rfl rfl rfl rfl ?_
 refine R_run hg.ok 1000 rfl rfl ?_
 exact R_endD hg 2 5 (Nat.le_refl _) rfl rfl (robj_keep _ L st deep 1 lk mk 2 _ (Nat.le_refl _))

set_option maxRecDepth 100000 in
theorem imuLock_ok (Y:YP) (S:Bs) (L:List Tk) (st:RSt) (deep dn:Int) (mk:Bool):SCtr Tryz.prog Y 113 [.lo 0 8] (robj S L st deep dn 0 mk) (.tup []) (robj S L st deep dn 1 mk):=by
 refine SCtr.of_R (pf:=pfSy) tyOk mixed Tryz.func113 rfl (by kernel_rfl) (by kernel_rfl) (by simp [Tryz.ntmps113]) (by simp [robj]) fun w S φ hg=>?_
 refine R_run hg.ok 1000 rfl rfl ?_
 refine R_ext0 hg.ok raceOff rfl rfl rfl ?_
 refine R_run hg.ok 1000 rfl rfl ?_
 refine R_extW hg.ok (ys:=#[.const (.int .i32 0),.const (.int .i32 1)]) [.int .i32 0,.int .i32 1] (fun a w h hz=>atCas a 0 1 w h hz) rfl rfl rfl rfl rfl rfl rfl ?_
 refine R_run hg.ok 1000 rfl rfl ?_
 refine R_if rfl rfl (fun _=>?_) (fun h=>absurd h (by simp)) <;> refine R_run hg.ok 1000 rfl rfl ?_
 refine R_ext0 hg.ok raceOn rfl rfl rfl ?_
 refine R_run hg.ok 1000 rfl rfl ?_
 refine R_convU hg.ok Tryz.underlying177 Tryz.underlying138 (by kernel_rfl) rfl rfl rfl rfl rfl rfl ?_
 refine R_run hg.ok 1000 rfl rfl ?_
 refine R_extM hg.ok raceAcq rfl rfl rfl rfl ?_
 refine R_run hg.ok 1000 rfl rfl ?_
 exact R_retS hg 2 5 (Nat.le_refl _) rfl rfl (robj_keep _ L st deep dn 1 mk 2 _ (Nat.le_refl _))

set_option maxRecDepth 100000 in
theorem muLock_ok (Y:YP) (S:Bs) (L:List Tk) (st:RSt) (deep dn:Int) (mk:Bool):SCtr Tryz.prog Y 108 [.lo 0 8] (robj S L st deep dn 0 mk) (.tup []) (robj S L st deep dn 1 mk):=by
 refine SCtr.of_R (pf:=fun _=>.eff) tyOk mixed Tryz.func108 rfl (by kernel_rfl) (by kernel_rfl) (by simp [Tryz.ntmps108]) (by simp [robj]) fun w S φ hg=>?_
 refine R_run hg.ok 1000 rfl rfl ?_
 refine R_fieldZ hg.ok Tryz.underlying88 rfl (by kernel_rfl) rfl rfl rfl ?_
 refine R_run hg.ok 1000 rfl rfl ?_
 refine R_callSO hg.ok hg.gup hg.wide hg.Y [0,1] (robj _ L st deep dn 1 mk) (imuLock_ok Y _ L st deep dn mk) (fun _=>rfl) rfl rfl rfl rfl rfl (by rw [robj_ren]; rfl) rfl (by rw [robj_ren]; rfl) ?_
 refine R_run hg.ok 1000 rfl rfl ?_
 exact R_endS hg 2 5 (Nat.le_refl _) rfl rfl (robj_keep _ L st deep dn 1 mk 2 _ (Nat.le_refl _))

set_option maxRecDepth 100000 in
theorem imuUnlock_ok (Y:YP) (S:Bs) (L:List Tk) (st:RSt) (deep dn:Int) (mk:Bool):SCtr Tryz.prog Y 114 [.lo 0 8] (robj S L st deep dn 1 mk) (.tup []) (robj S L st deep dn 0 mk):=by
 refine SCtr.of_R (pf:=pfSy) tyOk mixed Tryz.func114 rfl (by kernel_rfl) (by kernel_rfl) (by simp [Tryz.ntmps114]) (by simp [robj]) fun w S φ hg=>?_
 refine R_run hg.ok 1000 rfl rfl ?_
 refine R_convU hg.ok Tryz.underlying177 Tryz.underlying138 (by kernel_rfl) rfl rfl rfl rfl rfl rfl ?_
 refine R_run hg.ok 1000 rfl rfl ?_
 refine R_extM hg.ok raceRel rfl rfl rfl rfl ?_
 refine R_run hg.ok 1000 rfl rfl ?_
 refine R_ext0 hg.ok raceOff rfl rfl rfl ?_
 refine R_run hg.ok 1000 rfl rfl ?_
 refine R_extW hg.ok (ys:=#[.const (.int .i32 (-1))]) [.int .i32 (-1)] (fun a w h hz=>atAdd a w h hz) rfl rfl rfl rfl rfl rfl rfl ?_
 refine R_run hg.ok 1000 rfl rfl ?_
 refine R_if rfl rfl (fun h=>absurd h (by simp)) (fun _=>?_) <;> refine R_run hg.ok 1000 rfl rfl ?_
 refine R_ext0 hg.ok raceOn rfl rfl rfl ?_
 refine R_run hg.ok 1000 rfl rfl ?_
 exact R_endS hg 2 5 (Nat.le_refl _) rfl rfl (robj_keep _ L st deep dn 0 mk 2 _ (Nat.le_refl _))

set_option maxRecDepth 100000 in
theorem muUnlock_ok (Y:YP) (S:Bs) (L:List Tk) (st:RSt) (deep dn:Int) (mk:Bool):DCtr Tryz.prog Y 109 [.lo 0 8] (robj S L st deep dn 1 mk) (.tup []) (robj S L st deep dn 0 mk):=by
 refine DCtr.of_R (pf:=fun _=>.eff) tyOk mixed Tryz.func109 rfl (by kernel_rfl) (by kernel_rfl) (by simp [Tryz.ntmps109]) (by simp [robj]) fun w S φ hg=>?_
 refine R_run hg.ok 1000 rfl rfl ?_
 refine R_fieldZ hg.ok Tryz.underlying88 rfl (by kernel_rfl) rfl rfl rfl ?_
 refine R_run hg.ok 1000 rfl rfl ?_
 refine R_callSO hg.ok hg.gup hg.wide hg.Y [0,1] (robj _ L st deep dn 0 mk) (imuUnlock_ok Y _ L st deep dn mk) (fun _=>rfl) rfl rfl rfl rfl rfl (by rw [robj_ren]; rfl) rfl (by rw [robj_ren]; rfl) ?_
 refine R_run hg.ok 1000 rfl rfl ?_
 exact R_endD hg 2 5 (Nat.le_refl _) rfl rfl (robj_keep _ L st deep dn 0 mk 2 _ (Nat.le_refl _))
end Go.Proofs.YtchhahnajgfeaaaGreatDoor

namespace Go.Proofs.YtchhahnajgfeaaaGreatDoor
open Go PSL Go.Proofs

theorem opV_ent (a b c:Int):Ent (.agg [iV a,iV b,iV c]) (.d (.v (opV (a,b,c)))):=fun S w φ v h=>by
 simp only [RV,RVs] at h ⊢
 obtain ⟨cs,rfl,h⟩:=h
 match cs,h with
 | [x,y,z],h =>
  simp only [RVs,iV] at h
  rw [rv_const h.1,rv_const h.2.1,rv_const h.2.2.1]
  exact .v _
 | [],h=>simp [RVs] at h
 | [_],h=>simp [RVs] at h
 | [_,_],h=>simp [RVs] at h
 | _::_::_::_::_,h=>simp [RVs] at h
def tS (l:List (Bs × Int × Int × Int)):List (ByteArray × AV):=l.map fun p=>(Tx p.1,.d (.v (opV p.2)))
def tab0:List (Bs × Int × Int × Int):=opTab.take 4
def tab1 (k:Nat):List (Bs × Int × Int × Int):=tab0++(op700.take k).map fun s=>(s,700,699,699)
def tab2 (k:Nat):List (Bs × Int × Int × Int):=tab1 15++(op500.take k).map fun s=>(s,500,500,499)
def tab3 (k:Nat):List (Bs × Int × Int × Int):=tab2 2++(op400.take k).map fun s=>(s,400,400,399)

theorem tS_none (l:List (Bs × Int × Int × Int)) (s:Bs) (h:(l.map (·.1)).contains s=false):getS (tS l) (Tx s)=none:=by
 induction l with
 | nil=>rfl
 | cons p l ih =>
  simp only [List.map_cons,List.contains_cons,Bool.or_eq_false_iff] at h
  simp only [tS,List.map_cons,getS]
  rw [if_neg (fun e=>by rw [Tx_inj e] at h; simp at h)]
  exact ih h.2
theorem tab_new:((List.range 15).all fun k=>!((tab1 k).map (·.1)).contains (op700.getD k []))=true∧((List.range 2).all fun k=>!((tab2 k).map (·.1)).contains (op500.getD k []))=true∧((List.range 3).all fun k=>!((tab3 k).map (·.1)).contains (op400.getD k []))=true:=by decide +kernel
theorem new1 {k:Nat} (h:k<15):getS (tS (tab1 k)) (Tx (op700.getD k []))=none:=tS_none _ _ (by have:=List.all_eq_true.1 tab_new.1 k (by simpa using h); simpa using this)
theorem new2 {k:Nat} (h:k<2):getS (tS (tab2 k)) (Tx (op500.getD k []))=none:=tS_none _ _ (by have:=List.all_eq_true.1 tab_new.2.1 k (by simpa using h); simpa using this)
theorem new3 {k:Nat} (h:k<3):getS (tS (tab3 k)) (Tx (op400.getD k []))=none:=tS_none _ _ (by have:=List.all_eq_true.1 tab_new.2.2 k (by simpa using h); simpa using this)
theorem getD_some {l:List Bs} {k:Nat} (h:k<l.length):l[k]? = some (l.getD k []):=by simp [List.getD,List.getElem?_eq_getElem h]

theorem tab1_snoc {k:Nat} (h:k<15):tS (tab1 k)++[(Tx (op700.getD k []),.d (.v (opV (700,699,699))))]=tS (tab1 (k+1)):=by
 unfold tab1
 rw [List.take_add_one,getD_some (l:=op700) h]
 simp [tS]

theorem tab2_snoc {k:Nat} (h:k<2):tS (tab2 k)++[(Tx (op500.getD k []),.d (.v (opV (500,500,499))))]=tS (tab2 (k+1)):=by
 unfold tab2
 rw [List.take_add_one,getD_some (l:=op500) h]
 simp [tS]

theorem tab3_snoc {k:Nat} (h:k<3):tS (tab3 k)++[(Tx (op400.getD k []),.d (.v (opV (400,400,399))))]=tS (tab3 (k+1)):=by
 unfold tab3
 rw [List.take_add_one,getD_some (l:=op400) h]
 simp [tS]

def rlay (S:Bs) (L:List Tk) (st:RSt) (deep dn lk:Int) (l:List (Bs × Int × Int × Int)):List Ob :=
 [.box [.d (.v (.string (Tx S))),.d (.sl (tkRows L)),iV st.at_,.ow 1 st.names.length,iV deep,iV st.bad,iV st.e,.d (.v (.int .u32 dn)),.d (.v (.int .i32 lk)),.d (.v (.int .u32 0)),.mp 3],.arr 1 st.names.length (strRows st.names),.box [.lo 0 7],.map (smap (tS l))]

set_option maxRecDepth 100000 in
theorem table_ok (Y:YP) (S0:Bs) (L:List Tk) (st:RSt) (deep dn lk:Int):SCtr Tryz.prog Y 89 [.lo 2 0] (robj S0 L st deep dn lk false++[.box [.lo 0 7]]) (.tup []) (robj S0 L st deep dn lk true++[.box [.lo 0 7]]):=by
 refine SCtr.of_R (pf:=fun _=>.eff) tyOk mixed Tryz.func89 rfl (by kernel_rfl) (by kernel_rfl) (by simp [Tryz.ntmps89]) (by simp [robj]) fun w S φ hg=>?_
 refine R_run hg.ok 1000 rfl rfl ?_
 refine R_makeMap hg.ok rfl rfl ?_
 refine R_run hg.ok 1000 rfl rfl ?_
 refine R_see 9 rfl (opV_ent 1200 1199 1199) ?_
 refine R_insertS hg.ok [] (tS (opTab.take 1)) rfl rfl rfl rfl rfl rfl rfl rfl rfl rfl ?_
 refine R_run hg.ok 1000 rfl rfl ?_
 refine R_see 10 rfl (opV_ent 1100 1099 1100) ?_
 refine R_insertS hg.ok (tS (opTab.take 1)) (tS (opTab.take 2)) rfl rfl rfl rfl rfl rfl rfl (tS_none _ _ (by decide)) rfl rfl ?_
 refine R_run hg.ok 1000 rfl rfl ?_
 refine R_see 11 rfl (opV_ent 1050 1049 1050) ?_
 refine R_insertS hg.ok (tS (opTab.take 2)) (tS (opTab.take 3)) rfl rfl rfl rfl rfl rfl rfl (tS_none _ _ (by decide)) rfl rfl ?_
 refine R_run hg.ok 1000 rfl rfl ?_
 refine R_see 12 rfl (opV_ent 1000 999 1000) ?_
 refine R_insertS hg.ok (tS (opTab.take 3)) (tS tab0) rfl rfl rfl rfl rfl rfl rfl (tS_none _ _ (by decide)) rfl rfl ?_
 refine R_run hg.ok 1000 rfl rfl ?_
 refine R_cut2 (fun _:Unit=>([(0,.lo 2 0)],rlay S0 L st deep dn lk (tab1 15))) (fun _=>True) rfl ?_ ?_
 ·refine R_loop (fun k:Nat=>([(0,.lo 2 0),(16,.d (.sl (strRows op700))),(17,iV (15:Nat)),(18,iV k)],rlay S0 L st deep dn lk (tab1 k))) (fun k=>k≤15) (fun k=>15 - k) 0 (Nat.zero_le _) ⟨.refl _,Ent.fs _,.refl _,.refl _,trivial⟩ rfl ?_
  intro k hk
  refine R_run hg.ok 1000 rfl rfl ?_
  refine R_if rfl rfl (fun h=>?_) (fun h=>?_) <;> refine R_run hg.ok 1000 rfl rfl ?_
  ·have hk1:k<15:=lt_dec h rfl
   refine R_index hg.ok rfl rfl rfl rfl rfl rfl (Int.natCast_nonneg _) (strRows_get (getD_some (l:=op700) hk1)) rfl ?_
   refine R_run hg.ok 1000 rfl rfl ?_
   refine R_see 27 rfl (opV_ent 700 699 699) ?_
   refine R_mapAddS hg.ok (tS (tab1 k)) (tS (tab1 (k+1))) rfl rfl rfl rfl rfl rfl rfl (new1 hk1) rfl (tab1_snoc hk1) ?_
   refine R_run hg.ok 1000 rfl rfl ?_
   exact R_next (k+1) hk1 (by omega) ⟨.refl _,.refl _,.refl _,Ent.wrap (by omega) (by omega) (by omega),trivial⟩ rfl
  ·have hk1:15≤k:=ge_dec h rfl
   obtain rfl:k=15:=by omega
   exact R_to () trivial ⟨.refl _,trivial⟩ rfl
 rintro _ _
 refine R_run hg.ok 1000 rfl rfl ?_
 refine R_cut2 (fun _:Unit=>([(0,.lo 2 0)],rlay S0 L st deep dn lk (tab2 2))) (fun _=>True) rfl ?_ ?_
 ·refine R_loop (fun k:Nat=>([(0,.lo 2 0),(29,.d (.sl (strRows op500))),(30,iV (2:Nat)),(31,iV k)],rlay S0 L st deep dn lk (tab2 k))) (fun k=>k≤2) (fun k=>2 - k) 0 (Nat.zero_le _) ⟨.refl _,Ent.fs _,.refl _,.refl _,trivial⟩ rfl ?_
  intro k hk
  refine R_run hg.ok 1000 rfl rfl ?_
  refine R_if rfl rfl (fun h=>?_) (fun h=>?_) <;> refine R_run hg.ok 1000 rfl rfl ?_
  ·have hk1:k<2:=lt_dec h rfl
   refine R_index hg.ok rfl rfl rfl rfl rfl rfl (Int.natCast_nonneg _) (strRows_get (getD_some (l:=op500) hk1)) rfl ?_
   refine R_run hg.ok 1000 rfl rfl ?_
   refine R_see 40 rfl (opV_ent 500 500 499) ?_
   refine R_mapAddS hg.ok (tS (tab2 k)) (tS (tab2 (k+1))) rfl rfl rfl rfl rfl rfl rfl (new2 hk1) rfl (tab2_snoc hk1) ?_
   refine R_run hg.ok 1000 rfl rfl ?_
   exact R_next (k+1) hk1 (by omega) ⟨.refl _,.refl _,.refl _,Ent.wrap (by omega) (by omega) (by omega),trivial⟩ rfl
  ·have hk1:2≤k:=ge_dec h rfl
   obtain rfl:k=2:=by omega
   exact R_to () trivial ⟨.refl _,trivial⟩ rfl
 rintro _ _
 refine R_run hg.ok 1000 rfl rfl ?_
 refine R_cut2 (fun _:Unit=>([(0,.lo 2 0)],rlay S0 L st deep dn lk (tab3 3))) (fun _=>True) rfl ?_ ?_
 ·refine R_loop (fun k:Nat=>([(0,.lo 2 0),(42,.d (.sl (strRows op400))),(43,iV (3:Nat)),(44,iV k)],rlay S0 L st deep dn lk (tab3 k))) (fun k=>k≤3) (fun k=>3 - k) 0 (Nat.zero_le _) ⟨.refl _,Ent.fs _,.refl _,.refl _,trivial⟩ rfl ?_
  intro k hk
  refine R_run hg.ok 1000 rfl rfl ?_
  refine R_if rfl rfl (fun h=>?_) (fun h=>?_) <;> refine R_run hg.ok 1000 rfl rfl ?_
  ·have hk1:k<3:=lt_dec h rfl
   refine R_index hg.ok rfl rfl rfl rfl rfl rfl (Int.natCast_nonneg _) (strRows_get (getD_some (l:=op400) hk1)) rfl ?_
   refine R_run hg.ok 1000 rfl rfl ?_
   refine R_see 53 rfl (opV_ent 400 400 399) ?_
   refine R_mapAddS hg.ok (tS (tab3 k)) (tS (tab3 (k+1))) rfl rfl rfl rfl rfl rfl rfl (new3 hk1) rfl (tab3_snoc hk1) ?_
   refine R_run hg.ok 1000 rfl rfl ?_
   exact R_next (k+1) hk1 (by omega) ⟨.refl _,.refl _,.refl _,Ent.wrap (by omega) (by omega) (by omega),trivial⟩ rfl
  ·have hk1:3≤k:=ge_dec h rfl
   obtain rfl:k=3:=by omega
   exact R_to () trivial ⟨.refl _,trivial⟩ rfl
 rintro _ _
 have hφ:φ.length=3:=hg.hs0.len
 refine R_freezeM hg.gup 3 tabD (by show φ.length≤3; omega) rfl rfl ?_
 refine R_dropO 3 (robj S0 L st deep dn lk true++[.box [.lo 0 7]]) (by show φ.length≤3; omega) rfl rfl ?_
 exact R_endS hg 3 5 (Nat.le_refl _) rfl rfl (by
  rw [show (List.take 3 (robj S0 L st deep dn lk true++[Ob.box [.lo 0 7]]))=robj S0 L st deep dn lk true++[Ob.box [.lo 0 7]] from rfl,List.map_append,robj_keep S0 L st deep dn lk true 3 _ (by decide)]; rfl)
end Go.Proofs.YtchhahnajgfeaaaGreatDoor

namespace Go.Proofs.YtchhahnajgfeaaaGreatDoor
open Go PSL Go.Proofs

def rob2 (S:Bs) (L:List Tk) (st:RSt) (deep dn lk:Int) (mk:Bool):List Ob:=robj S L st deep dn lk mk++[.box [.lo 0 7]]

theorem rob2_keep (S:Bs) (L:List Tk) (st:RSt) (deep dn lk:Int) (mk:Bool) (o:List Ob):(rob2 S L st deep dn lk mk).map (mapOb (sealT false 3 o 5))=rob2 S L st deep dn lk mk:=by
 unfold rob2
 rw [List.map_append,robj_keep S L st deep dn lk mk 3 _ (by decide)]; rfl

theorem rob2_ren (S:Bs) (L:List Tk) (st:RSt) (deep dn lk:Int) (mk:Bool) (n:Nat):(rob2 S L st deep dn lk mk).map (renOb (rn [0,1,2] n))=rob2 S L st deep dn lk mk:=by
 unfold rob2
 rw [List.map_append,robj_ren]; rfl
theorem rob2_ren' (S:Bs) (L:List Tk) (st:RSt) (deep dn lk:Int) (mk:Bool) (n:Nat):(robj S L st deep dn lk mk++[Ob.box [.lo 0 7]]).map (renOb (rn [0,1,2] n))=rob2 S L st deep dn lk mk:=rob2_ren S L st deep dn lk mk n

set_option maxRecDepth 100000 in
theorem onceSlow_ok (Y:YP) (S0:Bs) (L:List Tk) (st:RSt) (deep:Int):SCtr Tryz.prog Y 100 [.lo 0 7,.clo 89 [] [.lo 2 0]] (rob2 S0 L st deep 0 0 false) (.tup []) (rob2 S0 L st deep 1 0 true):=by
 refine SCtr.of_RD (pf:=fun _=>.eff) tyOk mixed Tryz.func100 rfl (by kernel_rfl) (by kernel_rfl) (by simp [Tryz.ntmps100]) (by simp [rob2,robj]) fun w S φ hg=>?_
 refine R_run hg.ok 1000 rfl rfl ?_
 refine R_fieldZ hg.ok Tryz.underlying90 rfl (by kernel_rfl) rfl rfl rfl ?_
 refine R_run hg.ok 1000 rfl rfl ?_
 refine R_callSO hg.ok hg.gup hg.wide hg.Y [0,1] (rob2 S0 L st deep 0 1 false) (muLock_ok Y S0 L st deep 0 false) (fun _=>rfl) rfl rfl rfl rfl rfl (by rw [robj_ren]; rfl) rfl (by rw [robj_ren]; rfl) ?_
 first
 | (refine R_run hg.ok 1 rfl rfl ?_; refine R_defer hg.ok rfl hg.wide 3 rfl ?_)
 | (refine R_run hg.ok 2 rfl rfl ?_; refine R_defer hg.ok rfl hg.wide 3 rfl ?_)
 | (refine R_run hg.ok 3 rfl rfl ?_; refine R_defer hg.ok rfl hg.wide 3 rfl ?_)
 | (refine R_run hg.ok 4 rfl rfl ?_; refine R_defer hg.ok rfl hg.wide 3 rfl ?_)
 refine R_run hg.ok 1000 rfl rfl ?_
 refine R_fieldZ hg.ok Tryz.underlying90 rfl (by kernel_rfl) rfl rfl rfl ?_
 refine R_run hg.ok 1000 rfl rfl ?_
 refine R_mark ⟨_,_,_,rfl,?_⟩
 have hg1:=hg.sw [(109,[.lo 0 8],[])]
 refine R_run hg1.ok 1000 rfl rfl ?_
 refine R_fieldZ hg1.ok Tryz.underlying90 rfl (by kernel_rfl) rfl rfl rfl ?_
 refine R_run hg1.ok 1000 rfl rfl ?_
 refine R_callSO hg1.ok hg1.gup hg1.wide hg1.Y [0,1] (rob2 S0 L st deep 0 1 false) (boolLoad_ok Y S0 L st deep 0 1 false) (fun _=>rfl) rfl rfl rfl rfl rfl (by rw [robj_ren]; rfl) rfl (by rw [robj_ren]; rfl) ?_
 refine R_run hg1.ok 1000 rfl rfl ?_
 refine R_if rfl rfl (fun _=>?_) (fun h=>absurd h (by simp))
 first
 | refine R_defer hg1.ok rfl hg1.wide 3 rfl ?_
 | (refine R_run hg1.ok 1 rfl rfl ?_; refine R_defer hg1.ok rfl hg1.wide 3 rfl ?_)
 | (refine R_run hg1.ok 2 rfl rfl ?_; refine R_defer hg1.ok rfl hg1.wide 3 rfl ?_)
 refine R_run hg1.ok 1000 rfl rfl ?_
 refine R_fieldZ hg1.ok Tryz.underlying90 rfl (by kernel_rfl) rfl rfl rfl ?_
 refine R_run hg1.ok 1000 rfl rfl ?_
 refine R_mark ⟨_,_,_,rfl,?_⟩
 have hg2:=hg1.sw [(110,[.lo 0 7,.tt],[]),(109,[.lo 0 8],[])]
 refine R_run hg2.ok 1000 rfl rfl ?_
 refine R_callSO hg2.ok hg2.gup hg2.wide hg2.Y [0,1,2] (rob2 S0 L st deep 0 1 true) (table_ok Y S0 L st deep 0 1) (fun _=>rfl) rfl rfl rfl rfl rfl (by rw [rob2_ren' S0 L st deep 0 1 false]; rfl) rfl (by rw [rob2_ren' S0 L st deep 0 1 true]; rfl) ?_
 refine R_run hg2.ok 1000 rfl rfl ?_
 refine R_endL ?_
 refine Lv.cons hg [0,1] (objs':=rob2 S0 L st deep 1 1 true) (boolStore_ok Y S0 L st deep 0 1 true) (fun _=>rfl) rfl (by rw [robj_ren]; rfl) rfl (by rw [robj_ren]; rfl) ?_
 refine Lv.cons hg [0,1] (objs':=rob2 S0 L st deep 1 0 true) (muUnlock_ok Y S0 L st deep 1 true) (fun _=>rfl) rfl (by rw [robj_ren]; rfl) rfl (by rw [robj_ren]; rfl) ?_
 exact Lv.nil hg 3 5 (by simp [rob2,robj]) rfl rfl (rob2_keep S0 L st deep 1 0 true _)
end Go.Proofs.YtchhahnajgfeaaaGreatDoor

namespace PSL
open Go Go.RowKit Go.MapKept

theorem R_lookupDS {g:G} {pf:Nat→Cls} {ops:Array Oper} {Fin:Exit→Act→World→Prop} (hg:GOk g) {dst:Option Nat} {T:Nat} {x y:Operand} {ok:Bool} {ty:Nat} {pos:String} {after:Array Edge} {gd:Option (Nat × Bool)} {rest:List Oper} {k:List It} {E:Env} {objs:List Ob}
  {q by_ q' by' kt et:Nat} {z z':List Value} {n:ByteArray} {zv:Value} {ds:List (Value × D)} (l:List (ByteArray × AV)) (hl:ds.map (fun p=>(p.1,AV.d p.2))=smap l)
  (hgd:guardA ops.toList E gd=some true) (hd:dstOk ⟨g.ty,g.N⟩ dst=true) (hx:ev E x=.d (.map ds)) (hy:ev E y=.d (.v (.string n))) (hT:g.ty T=some ⟨q,by_,z,.map kt et⟩)
  (hkt:g.ty kt=some ⟨q',by',z',.str⟩) (hz:(g.P.info? et).bind (·.zero)=some zv) {v:AV} (hv:lookI' ok (cstV zv) (getS l n)=v)
  (hr:R g pf Fin (.dr ops rest::k) (putO E dst v) objs):R g pf Fin (.dr ops (⟨dst,.lookup T x y ok,ty,pos,after,gd⟩::rest)::k) E objs:=by
 subst hv
 have hu:=(hg.ty _ _ hkt).sh
 simp only [ShFact] at hu
 obtain ⟨r,h1,h2⟩:=findA_getS (n:=n) (l:=l) (i:=0)
 refine R_lookupD hg hgd hd hx hy hT hu (by simp [IsKey]) (by rw [hl]; exact h1) hz ?_
 have:lookA ok (cstV zv) r=lookI' ok (cstV zv) (getS l n):=by rw [← h2]; cases r <;> rfl
 rw [this]; exact hr
end PSL

namespace Go.Proofs.YtchhahnajgfeaaaGreatDoor
open Go PSL Go.Proofs

def rdO (S:Bs) (L:List Tk) (st:RSt) (deep:Int) (mk:Bool):List Ob:=robj S L st deep (if mk then 1 else 0) 0 mk
theorem rdO_keep (S:Bs) (L:List Tk) (st:RSt) (deep:Int) (mk:Bool) (n0:Nat) (o:List Ob) (hn:2≤n0):(rdO S L st deep mk).map (mapOb (sealT false n0 o 5))=rdO S L st deep mk:=robj_keep _ _ _ _ _ _ _ _ _ hn
theorem rdO_ren (S:Bs) (L:List Tk) (st:RSt) (deep:Int) (mk:Bool) (n:Nat) (l:List Nat):(rdO S L st deep mk).map (renOb (rn (0::1::l) n))=rdO S L st deep mk:=robj_ren _ _ _ _ _ _ _ _ _ _ _

set_option maxRecDepth 100000 in
theorem onceDo_ok (Y:YP) (S0:Bs) (L:List Tk) (st:RSt) (deep:Int) (mk:Bool):SCtr Tryz.prog Y 88 [.lo 0 7,.clo 89 [] [.lo 2 0]] (rdO S0 L st deep mk++[.box [.lo 0 7]]) (.tup []) (rdO S0 L st deep true++[.box [.lo 0 7]]):=by
 refine SCtr.of_R (pf:=fun _=>.eff) tyOk mixed Tryz.func88 rfl (by kernel_rfl) (by kernel_rfl) (by simp [Tryz.ntmps88]) (by simp [rdO,robj]) fun w S φ hg=>?_
 refine R_run hg.ok 1000 rfl rfl ?_
 refine R_fieldZ hg.ok Tryz.underlying90 rfl (by kernel_rfl) rfl rfl rfl ?_
 refine R_run hg.ok 1000 rfl rfl ?_
 cases mk with
 | false =>
  refine R_callSO hg.ok hg.gup hg.wide hg.Y [0,1] (rob2 S0 L st deep 0 0 false) (boolLoad_ok Y S0 L st deep 0 0 false) (fun _=>rfl) rfl rfl rfl rfl rfl (by rw [robj_ren]; rfl) rfl (by rw [robj_ren]; rfl) ?_
  refine R_run hg.ok 1000 rfl rfl ?_
  refine R_if rfl rfl (fun _=>?_) (fun h=>absurd h (by simp)) <;> refine R_run hg.ok 1000 rfl rfl ?_
  refine R_callSO hg.ok hg.gup hg.wide hg.Y [0,1,2] (rob2 S0 L st deep 1 0 true) (onceSlow_ok Y S0 L st deep) (fun _=>rfl) rfl rfl rfl rfl rfl (by rw [rob2_ren]; rfl) rfl (by rw [rob2_ren]; rfl) ?_
  refine R_run hg.ok 1000 rfl rfl ?_
  exact R_endS hg 3 5 (Nat.le_refl _) rfl rfl (rob2_keep S0 L st deep 1 0 true _)
 | true =>
  refine R_callSO hg.ok hg.gup hg.wide hg.Y [0,1] (rob2 S0 L st deep 1 0 true) (boolLoad_ok Y S0 L st deep 1 0 true) (fun _=>rfl) rfl rfl rfl rfl rfl (by rw [robj_ren]; rfl) rfl (by rw [robj_ren]; rfl) ?_
  refine R_run hg.ok 1000 rfl rfl ?_
  refine R_if rfl rfl (fun h=>absurd h (by simp)) (fun _=>?_) <;> refine R_run hg.ok 1000 rfl rfl ?_
  exact R_endS hg 3 5 (Nat.le_refl _) rfl rfl (rob2_keep S0 L st deep 1 0 true _)

theorem rdO_ren2 (S:Bs) (L:List Tk) (st:RSt) (deep:Int) (mk:Bool) (n:Nat):(rdO S L st deep mk++[Ob.box [.lo 0 7]]).map (renOb (rn [0,1,2] n))=rdO S L st deep mk++[Ob.box [.lo 0 7]]:=by
 rw [List.map_append,rdO_ren]; rfl

def infA (x:Option (Int × Int × Int)):AV:=match x with
 | some x=>.tup [.agg [iV x.1,iV x.2.1,iV x.2.2],bV true]
 | none=>.tup [.agg [iV 0,iV 0,iV 0],bV false]

theorem opV_ent2 (x:Int × Int × Int):Ent (.d (.v (opV x))) (.agg [iV x.1,iV x.2.1,iV x.2.2]):=fun S w φ v h=>by
 rw [rv_const h]
 simp only [RV,RVs,iV,opV]
 exact ⟨[.int .i64 x.1,.int .i64 x.2.1,.int .i64 x.2.2],rfl,.v _,.v _,.v _,trivial⟩

theorem getS_inf (s:Bs):getS (tS opTab) (Tx s)=(infT s).map fun x=>AV.d (.v (opV x)):=by
 unfold infT
 generalize opTab=l
 induction l with
 | nil=>rfl
 | cons p l ih =>
  obtain ⟨a,x⟩:=p
  simp only [tS,List.map_cons,getS,List.lookup]
  by_cases h:s=a
  ·subst h; simp
  ·rw [if_neg (fun e=>h (Tx_inj e).symm),show (s==a)=false by simpa using h]
   exact ih

set_option maxRecDepth 100000 in
theorem infix_ok (Y:YP) (S0:Bs) (L:List Tk) (st:RSt) (deep:Int) (mk:Bool) (s:Bs):SCtr Tryz.prog Y 75 [.lo 0 7,.d (.v (.string (Tx s)))] (rdO S0 L st deep mk) (infA (infT s)) (rdO S0 L st deep true):=by
 refine SCtr.of_R (pf:=fun _=>.eff) tyOk mixed Tryz.func75 rfl (by kernel_rfl) (by kernel_rfl) (by simp [Tryz.ntmps75]) (by simp [rdO,robj]) fun w S φ hg=>?_
 refine R_run hg.ok 1000 rfl rfl ?_
 refine R_callSO hg.ok hg.gup hg.wide hg.Y [0,1,2] (rdO S0 L st deep true++[.box [.lo 0 7],.box [iV 0,iV 0,iV 0]]) (onceDo_ok Y S0 L st deep mk) (fun _=>rfl) rfl rfl rfl rfl rfl (by rw [rdO_ren2]; rfl) rfl (by rw [rdO_ren2]; rfl) ?_
 refine R_run hg.ok 1000 rfl rfl ?_
 have hk:∀ o:List Ob,(rdO S0 L st deep true).map (mapOb (sealT false 2 o 5))=rdO S0 L st deep true:=fun o=>rdO_keep _ _ _ _ _ _ _ (Nat.le_refl _)
 cases hx:infT s with
 | none =>
  refine R_lookupDS hg.ok (tS opTab) rfl rfl rfl rfl rfl rfl rfl (zv:=.agg #[.int .i64 0,.int .i64 0,.int .i64 0]) (by kernel_rfl) (v:=.tup [.agg [iV 0,iV 0,iV 0],bV false]) (by rw [getS_inf,hx]; rfl) ?_
  refine R_run hg.ok 1000 rfl rfl ?_
  exact R_retS hg 2 5 (Nat.le_refl _) rfl rfl (hk _)
 | some x =>
  refine R_lookupDS hg.ok (tS opTab) rfl rfl rfl rfl rfl rfl rfl (zv:=.agg #[.int .i64 0,.int .i64 0,.int .i64 0]) (by kernel_rfl) (v:=.tup [.d (.v (opV x)),bV true]) (by rw [getS_inf,hx]; rfl) ?_
  refine R_see 19 rfl (v':=.tup [.agg [iV x.1,iV x.2.1,iV x.2.2],bV true]) (fun S w φ v h=>by
   simp only [RV] at h ⊢
   obtain ⟨vs,rfl,h⟩:=h
   refine ⟨vs,rfl,?_⟩
   match vs,h with
   | [a,b],h =>
    simp only [RVs] at h ⊢
    exact ⟨opV_ent2 x _ _ _ _ (by simp only [RV]; exact h.1),h.2⟩
   | [],h=>simp [RVs] at h
   | [_],h=>simp [RVs] at h
   | _::_::_::_,h=>simp [RVs] at h) ?_
  refine R_run hg.ok 1000 rfl rfl ?_
  exact R_retS hg 2 5 (Nat.le_refl _) rfl rfl (hk _)
end Go.Proofs.YtchhahnajgfeaaaGreatDoor

namespace Go.Proofs.YtchhahnajgfeaaaGreatDoor
open Go PSL Go.Proofs
theorem tkRows_get {L:List Tk} {i:Nat} {t:Tk} (h:L[i]? = some t):(tkRows L)[i]? = some (tkD t):=by simp [tkRows,h]

set_option maxRecDepth 100000 in
theorem rdPeek_ok (Y:YP) (S0:Bs) (L:List Tk) (st:RSt) (deep:Int) (mk:Bool):SCtr Tryz.prog Y 36 [.lo 0 0] (rdO S0 L st deep mk) (tkA (peekR L st)) (rdO S0 L st deep mk):=by
 refine SCtr.of_R (pf:=fun _=>.eff) tyOk mixed Tryz.func36 rfl (by kernel_rfl) (by kernel_rfl) (by simp [Tryz.ntmps36]) (by simp [rdO,robj]) fun w S φ hg=>?_
 have hk:∀ o:List Ob,(rdO S0 L st deep mk).map (mapOb (sealT false 2 o 5))=rdO S0 L st deep mk:=fun o=>rdO_keep _ _ _ _ _ _ _ (Nat.le_refl _)
 refine R_run hg.ok 1000 rfl rfl ?_
 refine R_if rfl rfl (fun h=>?_) (fun h=>?_) <;> refine R_run hg.ok 1000 rfl rfl ?_
 ·have he:st.e≠0:=by simpa using h
  rw [show peekR L st=zeroTk by unfold peekR; rw [if_pos he]]
  exact R_retS hg 2 5 (Nat.le_refl _) rfl rfl (hk _)
 have he:¬ st.e≠0:=by simpa using h
 refine R_if rfl rfl (fun h=>?_) (fun h=>?_) <;> refine R_run hg.ok 1000 rfl rfl ?_
 ·have hl:L.length≤st.at_:=by have:=of_decide_eq_true h; rw [tkRows_len] at this; omega
  rw [show peekR L st=zeroTk by unfold peekR; rw [if_neg he,List.getElem?_eq_none hl]; rfl]
  exact R_retS hg 2 5 (Nat.le_refl _) rfl rfl (hk _)
 ·have hl:st.at_<L.length:=by have:=of_decide_eq_false h; rw [tkRows_len] at this; omega
  have e1:L[st.at_]? = some L[st.at_]:=List.getElem?_eq_getElem hl
  rw [show peekR L st=L[st.at_] by unfold peekR; rw [if_neg he,e1]; rfl]
  generalize L[st.at_]=t at e1
  refine R_index hg.ok rfl rfl rfl rfl rfl rfl (Int.natCast_nonneg _) (tkRows_get e1) rfl ?_
  refine R_run hg.ok 1000 rfl rfl ?_
  exact R_retS hg 2 5 (Nat.le_refl _) rfl rfl (hk _)

set_option maxRecDepth 100000 in
theorem rdPlace_ok (Y:YP) (S0:Bs) (L:List Tk) (st:RSt) (deep:Int) (mk:Bool):SCtr Tryz.prog Y 34 [.lo 0 0] (rdO S0 L st deep mk) (iV (plcR L S0.length st.at_)) (rdO S0 L st deep mk):=by
 refine SCtr.of_R (pf:=fun _=>.eff) tyOk mixed Tryz.func34 rfl (by kernel_rfl) (by kernel_rfl) (by simp [Tryz.ntmps34]) (by simp [rdO,robj]) fun w S φ hg=>?_
 have hk:∀ o:List Ob,(rdO S0 L st deep mk).map (mapOb (sealT false 2 o 5))=rdO S0 L st deep mk:=fun o=>rdO_keep _ _ _ _ _ _ _ (Nat.le_refl _)
 refine R_run hg.ok 1000 rfl rfl ?_
 refine R_if rfl rfl (fun h=>?_) (fun h=>?_) <;> refine R_run hg.ok 1000 rfl rfl ?_
 ·have hl:st.at_<L.length:=by have:=of_decide_eq_true h; rw [tkRows_len] at this; omega
  have e1:L[st.at_]? = some L[st.at_]:=List.getElem?_eq_getElem hl
  rw [show plcR L S0.length st.at_=L[st.at_].at_ by unfold plcR; rw [e1]]
  generalize L[st.at_]=t at e1
  refine R_index hg.ok rfl rfl rfl rfl rfl rfl (Int.natCast_nonneg _) (tkRows_get e1) rfl ?_
  refine R_run hg.ok 1000 rfl rfl ?_
  exact R_retS hg 2 5 (Nat.le_refl _) rfl rfl (hk _)
 ·have hl:L.length≤st.at_:=by have:=of_decide_eq_false h; rw [tkRows_len] at this; omega
  rw [show plcR L S0.length st.at_=(S0.length:Int) by unfold plcR; rw [List.getElem?_eq_none hl]]
  refine R_see 2 rfl (v':=iV S0.length) (by rw [show ((Tx S0).size:Int)=S0.length by rw [Tx_size]]; exact .refl _) ?_
  exact R_retS hg 2 5 (Nat.le_refl _) rfl rfl (hk _)

set_option maxRecDepth 100000 in
theorem rdFail_ok (Y:YP) (S0:Bs) (L:List Tk) (st:RSt) (deep:Int) (mk:Bool) (c:Int):SCtr Tryz.prog Y 37 [.lo 0 0,iV c] (rdO S0 L st deep mk) (.tup []) (rdO S0 L (failR L S0.length st c) deep mk):=by
 refine SCtr.of_R (pf:=fun _=>.eff) tyOk mixed Tryz.func37 rfl (by kernel_rfl) (by kernel_rfl) (by simp [Tryz.ntmps37]) (by simp [rdO,robj]) fun w S φ hg=>?_
 have hk:∀ st (o:List Ob),(rdO S0 L st deep mk).map (mapOb (sealT false 2 o 5))=rdO S0 L st deep mk:=fun st o=>rdO_keep _ _ _ _ _ _ _ (Nat.le_refl _)
 refine R_run hg.ok 1000 rfl rfl ?_
 refine R_if rfl rfl (fun h=>?_) (fun h=>?_) <;> refine R_run hg.ok 1000 rfl rfl ?_
 ·have he:st.e=0:=by simpa using h
  refine R_callSO hg.ok hg.gup hg.wide hg.Y [0,1] (rdO S0 L st deep mk) (rdPlace_ok Y S0 L st deep mk) (fun _=>rfl) rfl rfl rfl rfl rfl (by rw [rdO_ren]; rfl) rfl (by rw [rdO_ren]; rfl) ?_
  refine R_run hg.ok 1000 rfl rfl ?_
  rw [show failR L S0.length st c={ st with e:=c,bad:=plcR L S0.length st.at_ } by unfold failR; rw [if_pos he]]
  exact R_endS hg 2 5 (Nat.le_refl _) rfl rfl (hk { st with e:=c,bad:=plcR L S0.length st.at_ } _)
 ·have he:¬ st.e=0:=by simpa using h
  rw [show failR L S0.length st c=st by unfold failR; rw [if_neg he]]
  exact R_endS hg 2 5 (Nat.le_refl _) rfl rfl (hk _ _)

theorem obsIn_refl:∀ l:List Ob,ObsIn l l
 | []=>trivial
 | o::l=>⟨.refl o,obsIn_refl l⟩

theorem R_rdAt {g:G} {pf:Nat→Cls} {Fin:Exit→Act→World→Prop} {k:List It} {E:Env} {rest:List Ob} {S:Bs} {L:List Tk} {st:RSt} {deep:Int} {mk:Bool} {m:Int} (n:Nat) (hm:m=n) (hb:n<9223372036854775808) (ht:topCode k=true) (h:R g pf Fin k E (rdO S L { st with at_:=n } deep mk++rest)) :
  R g pf Fin k E (.box [.d (.v (.string (Tx S))),.d (.sl (tkRows L)),.d (.v (.int .i64 (IntKind.i64.wrap m))),.ow 1 st.names.length,iV deep,iV st.bad,iV st.e,.d (.v (.int .u32 (if mk then 1 else 0))),.d (.v (.int .i32 0)),.d (.v (.int .u32 0)),tblV mk] :: .arr 1 st.names.length (strRows st.names)::rest) :=
 R_obs (rdO S L { st with at_:=n } deep mk++rest) ⟨⟨.refl _,.refl _,Ent.wrap hm (by simp only; omega) (by simp only; omega),.refl _,.refl _,.refl _,.refl _,.refl _,.refl _,.refl _,.refl _,trivial⟩,rfl,obsIn_refl _⟩ ht h
theorem isMk_iff {t:Tk} {s:Bs}:isMk t s=true↔t.kind=4∧t.text=s:=by simp [isMk]

set_option maxRecDepth 100000 in
theorem rdMark_ok (Y:YP) (S0:Bs) (L:List Tk) (hL:L.length≤9000) (st:RSt) (deep:Int) (mk:Bool) (s:Bs):SCtr Tryz.prog Y 72 [.lo 0 0,.d (.v (.string (Tx s)))] (rdO S0 L st deep mk) (bV (isMk (peekR L st) s)) (rdO S0 L (if isMk (peekR L st) s then nxR st else st) deep mk):=by
 refine SCtr.of_R (pf:=fun _=>.eff) tyOk mixed Tryz.func72 rfl (by kernel_rfl) (by kernel_rfl) (by simp [Tryz.ntmps72]) (by simp [rdO,robj]) fun w S φ hg=>?_
 have hk:∀ st (o:List Ob),(rdO S0 L st deep mk).map (mapOb (sealT false 2 o 5))=rdO S0 L st deep mk:=fun st o=>rdO_keep _ _ _ _ _ _ _ (Nat.le_refl _)
 have hlt:isMk (peekR L st) s=true→st.at_<L.length:=fun h=>by
  have h1:=(isMk_iff.1 h).1
  unfold peekR at h1
  split at h1
  ·cases h1
  ·rcases Nat.lt_or_ge st.at_ L.length with h2 | h2
   ·exact h2
   ·rw [List.getElem?_eq_none h2] at h1; cases h1
 refine R_run hg.ok 1000 rfl rfl ?_
 refine R_callSO hg.ok hg.gup hg.wide hg.Y [0,1] (rdO S0 L st deep mk) (rdPeek_ok Y S0 L st deep mk) (fun _=>rfl) rfl rfl rfl rfl rfl (by rw [rdO_ren]; rfl) rfl (by rw [rdO_ren]; rfl) ?_
 refine R_run hg.ok 1000 rfl rfl ?_
 refine R_if rfl rfl (fun h=>?_) (fun h=>?_) <;> refine R_run hg.ok 1000 rfl rfl ?_
 ·have h1:¬ (peekR L st).kind=4:=by simpa using h
  have h2:isMk (peekR L st) s=false:=by cases h3:isMk (peekR L st) s; rfl; exact absurd (isMk_iff.1 h3).1 h1
  rw [h2]
  exact R_retS hg 2 5 (Nat.le_refl _) rfl rfl (hk st _)
 have h1:(peekR L st).kind=4:=by simpa using h
 refine R_if rfl rfl (fun h=>?_) (fun h=>?_) <;> refine R_run hg.ok 1000 rfl rfl ?_
 ·have h2:isMk (peekR L st) s=false:=by
   cases h3:isMk (peekR L st) s
   ·rfl
   ·rw [(isMk_iff.1 h3).2,Tx_eq] at h; simp at h
  rw [h2]
  exact R_retS hg 2 5 (Nat.le_refl _) rfl rfl (hk st _)
 ·have h2:isMk (peekR L st) s=true:=by
   rw [isMk_iff]; rw [Tx_eq] at h; exact ⟨h1,by simpa using h⟩
  have hl:=hlt h2
  rw [h2]
  refine R_rdAt (st.at_+1) rfl (by omega) rfl ?_
  exact R_retS hg 2 5 (Nat.le_refl _) rfl rfl (hk (nxR st) _)
end Go.Proofs.YtchhahnajgfeaaaGreatDoor

namespace Go.Proofs.YtchhahnajgfeaaaGreatDoor
open Go PSL Go.Proofs

set_option maxRecDepth 100000 in
theorem rdMust_ok (Y:YP) (S0:Bs) (L:List Tk) (hL:L.length≤9000) (st:RSt) (deep:Int) (mk:Bool) (s:Bs):SCtr Tryz.prog Y 73 [.lo 0 0,.d (.v (.string (Tx s)))] (rdO S0 L st deep mk) (.tup []) (rdO S0 L (mustR L S0.length st s) deep mk):=by
 refine SCtr.of_R (pf:=fun _=>.eff) tyOk mixed Tryz.func73 rfl (by kernel_rfl) (by kernel_rfl) (by simp [Tryz.ntmps73]) (by simp [rdO,robj]) fun w S φ hg=>?_
 have hk:∀ st (o:List Ob),(rdO S0 L st deep mk).map (mapOb (sealT false 2 o 5))=rdO S0 L st deep mk:=fun st o=>rdO_keep _ _ _ _ _ _ _ (Nat.le_refl _)
 have hM:=rdMark_ok Y S0 L hL st deep mk s
 unfold mustR
 refine R_run hg.ok 1000 rfl rfl ?_
 cases h:isMk (peekR L st) s with
 | false =>
  rw [h] at hM
  refine R_callSO hg.ok hg.gup hg.wide hg.Y [0,1] (rdO S0 L st deep mk) hM (fun _=>rfl) rfl rfl rfl rfl rfl (by rw [rdO_ren]; rfl) rfl (by simp only [Bool.false_eq_true,if_false]; rw [rdO_ren]; rfl) ?_
  refine R_run hg.ok 1000 rfl rfl ?_
  refine R_if rfl rfl (fun _=>?_) (fun h=>absurd h (by simp)) <;> refine R_run hg.ok 1000 rfl rfl ?_
  refine R_callSO hg.ok hg.gup hg.wide hg.Y [0,1] (rdO S0 L (failR L S0.length st 2) deep mk) (rdFail_ok Y S0 L st deep mk 2) (fun _=>rfl) rfl rfl rfl rfl rfl (by rw [rdO_ren]; rfl) rfl (by rw [rdO_ren]; rfl) ?_
  refine R_run hg.ok 1000 rfl rfl ?_
  exact R_endS hg 2 5 (Nat.le_refl _) rfl rfl (hk (failR L S0.length st 2) _)
 | true =>
  rw [h] at hM
  refine R_callSO hg.ok hg.gup hg.wide hg.Y [0,1] (rdO S0 L (nxR st) deep mk) hM (fun _=>rfl) rfl rfl rfl rfl rfl (by rw [rdO_ren]; rfl) rfl (by simp only [if_true]; rw [rdO_ren]; rfl) ?_
  refine R_run hg.ok 1000 rfl rfl ?_
  refine R_if rfl rfl (fun h=>absurd h (by simp)) (fun _=>?_) <;> refine R_run hg.ok 1000 rfl rfl ?_
  exact R_endS hg 2 5 (Nat.le_refl _) rfl rfl (hk (nxR st) _)
def tkO (t:Tk):Ob:=.box [.d (.v (.int .i64 t.kind)),.d (.v (.string (Tx t.text))),.d (.v (.int .i64 t.n)),.d (.v (.int .i64 t.at_)),.d (.v (.bool t.opn))]

set_option maxRecDepth 100000 in
theorem rdIn_ok (Y:YP) (S0:Bs) (L:List Tk) (st:RSt) (deep:Int) (mk:Bool):SCtr Tryz.prog Y 50 [.lo 0 0] (rdO S0 L st deep mk) (infA (inT (peekR L st))) (rdO S0 L st deep (if (peekR L st).kind≠1∧((peekR L st).kind≠4∨(peekR L st).text≠[44]) then mk else true)):=by
 by_cases hc:(peekR L st).kind≠1∧((peekR L st).kind≠4∨(peekR L st).text≠[44])
 ·rw [if_pos hc]
  rw [show inT (peekR L st)=none by unfold inT; rw [if_pos hc]]
  refine SCtr.of_R (pf:=fun _=>.eff) tyOk mixed Tryz.func50 rfl (by kernel_rfl) (by kernel_rfl) (by simp [Tryz.ntmps50]) (by simp [rdO,robj]) fun w S φ hg=>?_
  have hk:∀ (o:List Ob),(rdO S0 L st deep mk).map (mapOb (sealT false 2 o 5))=rdO S0 L st deep mk:=fun o=>rdO_keep _ _ _ _ _ _ _ (Nat.le_refl _)
  refine R_run hg.ok 1000 rfl rfl ?_
  refine R_callSO hg.ok hg.gup hg.wide hg.Y [0,1] (rdO S0 L st deep mk++[.box [iV 0,iV 0,iV 0]]) (rdPeek_ok Y S0 L st deep mk) (fun _=>rfl) rfl rfl rfl rfl rfl (by rw [rdO_ren]; rfl) rfl (by rw [rdO_ren]; rfl) ?_
  refine R_run hg.ok 1000 rfl rfl ?_
  refine R_if rfl rfl (fun _=>?_) (fun h=>absurd h (by simp [hc.1])) <;> refine R_run hg.ok 1000 rfl rfl ?_
  refine R_if rfl rfl (fun h=>?_) (fun h=>?_) <;> refine R_run hg.ok 1000 rfl rfl ?_
  ·exact R_retS hg 2 5 (Nat.le_refl _) rfl rfl (hk _)
  ·have h4:(peekR L st).kind=4:=by simpa using h
   have h5:(peekR L st).text≠[44]:=hc.2.resolve_left (fun e=>e h4)
   refine R_if rfl rfl (fun _=>?_) (fun h=>absurd h (by rw [show (⟨#[44]⟩:ByteArray)=Tx [44] from rfl,Tx_eq]; simpa using h5)) <;> refine R_run hg.ok 1000 rfl rfl ?_
   exact R_retS hg 2 5 (Nat.le_refl _) rfl rfl (hk _)
 ·rw [if_neg hc]
  rw [show inT (peekR L st)=infT (peekR L st).text by unfold inT; rw [if_neg hc]]
  have hI:=infix_ok Y S0 L st deep mk (peekR L st).text
  refine SCtr.of_R (pf:=fun _=>.eff) tyOk mixed Tryz.func50 rfl (by kernel_rfl) (by kernel_rfl) (by simp [Tryz.ntmps50]) (by simp [rdO,robj]) fun w S φ hg=>?_
  have hk:∀ (o:List Ob),(rdO S0 L st deep true).map (mapOb (sealT false 2 o 5))=rdO S0 L st deep true:=fun o=>rdO_keep _ _ _ _ _ _ _ (Nat.le_refl _)
  refine R_run hg.ok 1000 rfl rfl ?_
  refine R_callSO hg.ok hg.gup hg.wide hg.Y [0,1] (rdO S0 L st deep mk++[.box [iV 0,iV 0,iV 0]]) (rdPeek_ok Y S0 L st deep mk) (fun _=>rfl) rfl rfl rfl rfl rfl (by rw [rdO_ren]; rfl) rfl (by rw [rdO_ren]; rfl) ?_
  refine R_run hg.ok 1000 rfl rfl ?_
  generalize peekR L st=t at hc hI
  by_cases h1:t.kind=1
  ·refine R_if rfl rfl (fun h=>absurd h (by simp [h1])) (fun _=>?_) <;> refine R_run hg.ok 1000 rfl rfl ?_
   refine R_callSO hg.ok hg.gup hg.wide hg.Y [0,1] (rdO S0 L st deep true++[.box [iV 0,iV 0,iV 0],tkO t]) hI (fun _=>rfl) rfl rfl rfl rfl rfl (by rw [rdO_ren]; rfl) rfl (by rw [rdO_ren]; rfl) ?_
   cases infT t.text with
   | none=>refine R_run hg.ok 1000 rfl rfl ?_; exact R_retS hg 2 5 (Nat.le_refl _) rfl rfl (hk _)
   | some x=>refine R_run hg.ok 1000 rfl rfl ?_; exact R_retS hg 2 5 (Nat.le_refl _) rfl rfl (hk _)
  ·have h4:t.kind=4:=Classical.byContradiction fun h4=>hc ⟨h1,.inl h4⟩
   have h5:t.text=[44]:=Classical.byContradiction fun h5=>hc ⟨h1,.inr h5⟩
   refine R_if rfl rfl (fun _=>?_) (fun h=>absurd h (by simp [h1])) <;> refine R_run hg.ok 1000 rfl rfl ?_
   refine R_if rfl rfl (fun h=>absurd h (by simp [h4])) (fun _=>?_) <;> refine R_run hg.ok 1000 rfl rfl ?_
   refine R_if rfl rfl (fun h=>absurd h (by rw [show (⟨#[44]⟩:ByteArray)=Tx [44] from rfl,Tx_eq,h5]; simp)) (fun _=>?_) <;> refine R_run hg.ok 1000 rfl rfl ?_
   refine R_callSO hg.ok hg.gup hg.wide hg.Y [0,1] (rdO S0 L st deep true++[.box [iV 0,iV 0,iV 0],tkO t]) hI (fun _=>rfl) rfl rfl rfl rfl rfl (by rw [rdO_ren]; rfl) rfl (by rw [rdO_ren]; rfl) ?_
   cases infT t.text with
   | none=>refine R_run hg.ok 1000 rfl rfl ?_; exact R_retS hg 2 5 (Nat.le_refl _) rfl rfl (hk _)
   | some x=>refine R_run hg.ok 1000 rfl rfl ?_; exact R_retS hg 2 5 (Nat.le_refl _) rfl rfl (hk _)
end Go.Proofs.YtchhahnajgfeaaaGreatDoor

namespace Go.Proofs.YtchhahnajgfeaaaGreatDoor
open Go PSL Go.Proofs
def pfBeg:Nat→Cls:=fun f=>bif Nat.beq f 4900100009 then .turn 100 else .eff

set_option maxRecDepth 100000 in
theorem rdBegins_ok (Y:YP) (S0:Bs) (L:List Tk) (st:RSt) (deep:Int) (mk:Bool):SCtr Tryz.prog Y 87 [.lo 0 0] (rdO S0 L st deep mk) (bV (begR L st)) (rdO S0 L st deep (if (peekR L st).kind=1 then true else mk)):=by
 have hP:=rdPeek_ok Y S0 L st deep mk
 have hI:=infix_ok Y S0 L st deep mk (peekR L st).text
 unfold begR
 generalize peekR L st=t at hP hI
 simp only
 by_cases h1:t.kind=1
 ·rw [if_pos h1]
  rw [show (decide (t.kind=3) || decide (t.kind=2) || (decide (t.kind=4)&&(t.text==[40] || t.text==[91])) || (decide (t.kind=1)&&(infT t.text).isNone))=(infT t.text).isNone by simp [h1]]
  refine SCtr.of_R (pf:=pfBeg) tyOk mixed Tryz.func87 rfl (by kernel_rfl) (by kernel_rfl) (by simp [Tryz.ntmps87]) (by simp [rdO,robj]) fun w S φ hg=>?_
  have hk:∀ (o:List Ob),(rdO S0 L st deep true).map (mapOb (sealT false 2 o 5))=rdO S0 L st deep true:=fun o=>rdO_keep _ _ _ _ _ _ _ (Nat.le_refl _)
  refine R_run hg.ok 1000 rfl rfl ?_
  refine R_callSO hg.ok hg.gup hg.wide hg.Y [0,1] (rdO S0 L st deep mk) hP (fun _=>rfl) rfl rfl rfl rfl rfl (by rw [rdO_ren]; rfl) rfl (by rw [rdO_ren]; rfl) ?_
  refine R_run hg.ok 1000 rfl rfl ?_
  refine R_if rfl rfl (fun h=>absurd h (by simp [h1])) (fun _=>?_) <;> refine R_run hg.ok 1000 rfl rfl ?_
  refine R_if rfl rfl (fun h=>absurd h (by simp [h1])) (fun _=>?_) <;> refine R_run hg.ok 1000 rfl rfl ?_
  refine R_if rfl rfl (fun h=>absurd h (by simp [h1])) (fun _=>?_) <;> refine R_run hg.ok 1000 rfl rfl ?_
  refine R_if rfl rfl (fun _=>?_) (fun h=>absurd h (by simp [h1])) <;> refine R_run hg.ok 1000 rfl rfl ?_
  refine R_pair3 hg.ok 5 9 (by kernel_rfl) (by kernel_rfl) ?_ ?_
  ·refine R_run hg.ok 1000 rfl rfl ?_
   refine R_callSO hg.ok hg.gup hg.wide hg.Y [0,1] (rdO S0 L st deep true++[tkO t]) hI (fun _=>rfl) rfl rfl rfl rfl rfl (by rw [rdO_ren]; rfl) rfl (by rw [rdO_ren]; rfl) ?_
   cases infT t.text with
   | none=>refine R_run hg.ok 1000 rfl rfl ?_; exact R_retS hg 2 5 (Nat.le_refl _) rfl rfl (hk _)
   | some x=>refine R_run hg.ok 1000 rfl rfl ?_; exact R_retS hg 2 5 (Nat.le_refl _) rfl rfl (hk _)
  ·refine R_run hg.ok 1000 rfl rfl ?_
   refine R_callSO hg.ok hg.gup hg.wide hg.Y [0,1] (rdO S0 L st deep true++[tkO t,.box [iV 0,iV 0,iV 0]]) hI (fun _=>rfl) rfl rfl rfl rfl rfl (by rw [rdO_ren]; rfl) rfl (by rw [rdO_ren]; rfl) ?_
   cases infT t.text with
   | none=>refine R_run hg.ok 1000 rfl rfl ?_; exact R_retS hg 2 5 (Nat.le_refl _) rfl rfl (hk _)
   | some x=>refine R_run hg.ok 1000 rfl rfl ?_; exact R_retS hg 2 5 (Nat.le_refl _) rfl rfl (hk _)
 ·rw [if_neg h1]
  refine SCtr.of_R (pf:=pfBeg) tyOk mixed Tryz.func87 rfl (by kernel_rfl) (by kernel_rfl) (by simp [Tryz.ntmps87]) (by simp [rdO,robj]) fun w S φ hg=>?_
  have hk:∀ (o:List Ob),(rdO S0 L st deep mk).map (mapOb (sealT false 2 o 5))=rdO S0 L st deep mk:=fun o=>rdO_keep _ _ _ _ _ _ _ (Nat.le_refl _)
  refine R_run hg.ok 1000 rfl rfl ?_
  refine R_callSO hg.ok hg.gup hg.wide hg.Y [0,1] (rdO S0 L st deep mk) hP (fun _=>rfl) rfl rfl rfl rfl rfl (by rw [rdO_ren]; rfl) rfl (by rw [rdO_ren]; rfl) ?_
  refine R_run hg.ok 1000 rfl rfl ?_
  by_cases h3:t.kind=3
  ·rw [show (decide (t.kind=3) || decide (t.kind=2) || (decide (t.kind=4)&&(t.text==[40] || t.text==[91])) || (decide (t.kind=1)&&(infT t.text).isNone))=true by simp [h3]]
   refine R_if rfl rfl (fun _=>?_) (fun h=>absurd h (by simp [h3])) <;> refine R_run hg.ok 1000 rfl rfl ?_
   exact R_retS hg 2 5 (Nat.le_refl _) rfl rfl (hk _)
  by_cases h2:t.kind=2
  ·rw [show (decide (t.kind=3) || decide (t.kind=2) || (decide (t.kind=4)&&(t.text==[40] || t.text==[91])) || (decide (t.kind=1)&&(infT t.text).isNone))=true by simp [h2]]
   refine R_if rfl rfl (fun h=>absurd h (by simp [h3])) (fun _=>?_) <;> refine R_run hg.ok 1000 rfl rfl ?_
   refine R_if rfl rfl (fun _=>?_) (fun h=>absurd h (by simp [h2])) <;> refine R_run hg.ok 1000 rfl rfl ?_
   exact R_retS hg 2 5 (Nat.le_refl _) rfl rfl (hk _)
  refine R_if rfl rfl (fun h=>absurd h (by simp [h3])) (fun _=>?_) <;> refine R_run hg.ok 1000 rfl rfl ?_
  refine R_if rfl rfl (fun h=>absurd h (by simp [h2])) (fun _=>?_) <;> refine R_run hg.ok 1000 rfl rfl ?_
  by_cases h4:t.kind=4
  ·rw [show (decide (t.kind=3) || decide (t.kind=2) || (decide (t.kind=4)&&(t.text==[40] || t.text==[91])) || (decide (t.kind=1)&&(infT t.text).isNone))=(t.text==[40] || t.text==[91]) by simp [h4]]
   refine R_if rfl rfl (fun _=>?_) (fun h=>absurd h (by simp [h4])) <;> refine R_run hg.ok 1000 rfl rfl ?_
   have e40:strEq (Tx t.text) ⟨#[40]⟩=(t.text==[40]):=Tx_eq _ _
   have e91:strEq (Tx t.text) ⟨#[91]⟩=(t.text==[91]):=Tx_eq _ _
   cases h40:(t.text==[40]) with
   | true =>
    refine R_if rfl rfl (fun _=>?_) (fun h=>absurd h (by rw [e40,h40]; simp)) <;> refine R_run hg.ok 1000 rfl rfl ?_
    exact R_retS hg 2 5 (Nat.le_refl _) rfl rfl (hk _)
   | false =>
    refine R_if rfl rfl (fun h=>absurd h (by rw [e40,h40]; simp)) (fun _=>?_) <;> refine R_run hg.ok 1000 rfl rfl ?_
    rw [e91]
    exact R_retS hg 2 5 (Nat.le_refl _) rfl rfl (hk _)
  ·rw [show (decide (t.kind=3) || decide (t.kind=2) || (decide (t.kind=4)&&(t.text==[40] || t.text==[91])) || (decide (t.kind=1)&&(infT t.text).isNone))=false by simp [h1,h2,h3,h4]]
   refine R_if rfl rfl (fun h=>absurd h (by simp [h4])) (fun _=>?_) <;> refine R_run hg.ok 1000 rfl rfl ?_
   refine R_if rfl rfl (fun h=>absurd h (by simp [h1])) (fun _=>?_) <;> refine R_run hg.ok 1000 rfl rfl ?_
   exact R_retS hg 2 5 (Nat.le_refl _) rfl rfl (hk _)

set_option maxRecDepth 100000 in
theorem rdPrefix_ok (s:Bs):PCtr Tryz.prog 85 [.d (.v (.string (Tx s)))] (iV (preT s)):=by
 have e1:strEq (Tx s) ⟨#[92,43]⟩=(s==[92,43]):=Tx_eq _ _
 have e2:strEq (Tx s) ⟨#[45]⟩=(s==[45]):=Tx_eq _ _
 unfold preT
 refine PCtr.of_R (pf:=fun _=>.still) tyOk mixed Tryz.func85 rfl (by kernel_rfl) (by kernel_rfl) (by simp [Tryz.ntmps85]) fun w S hg=>?_
 refine R_run hg.ok 1000 rfl rfl ?_
 by_cases h1:s=[92,43]
 ·rw [if_pos h1]
  refine R_if rfl rfl (fun _=>?_) (fun h=>absurd h (by rw [e1,h1]; simp)) <;> refine R_run hg.ok 1000 rfl rfl ?_
  refine R_ret hg 5 rfl rfl ?_
  rfl
 rw [if_neg h1]
 refine R_if rfl rfl (fun h=>absurd h (by rw [e1]; simpa using h1)) (fun _=>?_) <;> refine R_run hg.ok 1000 rfl rfl ?_
 by_cases h2:s=[45]
 ·rw [if_pos h2]
  refine R_if rfl rfl (fun _=>?_) (fun h=>absurd h (by rw [e2,h2]; simp)) <;> refine R_run hg.ok 1000 rfl rfl ?_
  refine R_ret hg 5 rfl rfl ?_
  rfl
 rw [if_neg h2]
 refine R_if rfl rfl (fun h=>absurd h (by rw [e2]; simpa using h2)) (fun _=>?_) <;> refine R_run hg.ok 1000 rfl rfl ?_
 refine R_ret hg 5 rfl rfl ?_
 rfl
end Go.Proofs.YtchhahnajgfeaaaGreatDoor

namespace Go.Proofs.YtchhahnajgfeaaaGreatDoor
open Go PSL Go.Proofs

theorem rdO_snoc (S0:Bs) (L:List Tk) (st:RSt) (deep:Int) (mk:Bool) (x:Bs):rdO S0 L { st with names:=st.names++[x] } deep mk=[.box [.d (.v (.string (Tx S0))),.d (.sl (tkRows L)),iV st.at_,.ow 1 (st.names.length+1),iV deep,iV st.bad,iV st.e,.d (.v (.int .u32 (if mk then 1 else 0))),.d (.v (.int .i32 0)),.d (.v (.int .u32 0)),tblV mk],.arr 1 (st.names.length+1) (strRows (st.names++[x]))]:=by
 simp only [rdO,robj,List.length_append,List.length_singleton]

set_option maxRecDepth 100000 in
theorem rdVar_ok (Y:YP) (S0:Bs) (L:List Tk) (st:RSt) (hn:st.names.length≤20000) (deep:Int) (mk:Bool) (s:Bs):SCtr Tryz.prog Y 70 [.lo 0 0,.d (.v (.string (Tx s)))] (rdO S0 L st deep mk) (iV (varR st s).1) (rdO S0 L (varR st s).2 deep mk):=by
 refine SCtr.of_R (pf:=fun _=>.eff) tyOk mixed Tryz.func70 rfl (by kernel_rfl) (by kernel_rfl) (by simp [Tryz.ntmps70]) (by simp [rdO,robj]) fun w S φ hg=>?_
 have hk:∀ (st:RSt) (o:List Ob),(rdO S0 L st deep mk).map (mapOb (sealT false 2 o 5))=rdO S0 L st deep mk:=fun st o=>rdO_keep _ _ _ _ _ _ _ (Nat.le_refl _)
 have hk2:∀ (x:Bs) (o:List Ob),([.box [.d (.v (.string (Tx S0))),.d (.sl (tkRows L)),iV st.at_,.ow 1 (st.names.length+1),iV deep,iV st.bad,iV st.e,.d (.v (.int .u32 (if mk then 1 else 0))),.d (.v (.int .i32 0)),.d (.v (.int .u32 0)),tblV mk],.arr 1 (st.names.length+1) (strRows (st.names++[x]))]:List Ob).map (mapOb (sealT false 2 o 5))=[.box [.d (.v (.string (Tx S0))),.d (.sl (tkRows L)),iV st.at_,.ow 1 (st.names.length+1),iV deep,iV st.bad,iV st.e,.d (.v (.int .u32 (if mk then 1 else 0))),.d (.v (.int .i32 0)),.d (.v (.int .u32 0)),tblV mk],.arr 1 (st.names.length+1) (strRows (st.names++[x]))]:=fun x o=>by
  have:=hk { st with names:=st.names++[x] } o
  rwa [rdO_snoc] at this
 have e95:strEq (Tx s) ⟨#[95]⟩=(s==[95]):=Tx_eq _ _
 refine R_run hg.ok 1000 rfl rfl ?_
 refine R_lenO hg.ok rfl rfl rfl rfl rfl (n:=(st.names.length:Int)) (by rw [strRows_len]) ?_
 refine R_run hg.ok 1000 rfl rfl ?_
 refine R_cut2 (fun _:Unit=>([(0,.lo 0 0),(1,.d (.v (.string (Tx s))))],rdO S0 L st deep mk)) (fun _=>(if s=[95] then none else idxV st.names s 0)=none) rfl ?_ ?_
 ·refine R_loop (fun k:Nat=>([(0,.lo 0 0),(1,.d (.v (.string (Tx s)))),(10,.ow 1 st.names.length),(11,iV st.names.length),(12,iV k)],rdO S0 L st deep mk)) (fun k=>k≤st.names.length∧(s≠[95]→idxV st.names s 0=idxV (st.names.drop k) s k)) (fun k=>st.names.length - k) 0 ⟨Nat.zero_le _,fun _=>rfl⟩ ⟨.refl _,.refl _,.refl _,.refl _,.refl _,trivial⟩ rfl ?_
  rintro k ⟨hk1,hm⟩
  refine R_run hg.ok 1000 rfl rfl ?_
  refine R_if rfl rfl (fun h=>?_) (fun h=>?_) <;> refine R_run hg.ok 1000 rfl rfl ?_
  ·have hk2:k<st.names.length:=lt_dec h rfl
   have e1:st.names[k]? = some st.names[k]:=List.getElem?_eq_getElem hk2
   rw [List.drop_eq_getElem_cons hk2] at hm
   generalize st.names[k]=x at e1 hm
   refine R_indexO hg.ok rfl rfl rfl rfl rfl rfl rfl rfl rfl (Int.natCast_nonneg k) (by rw [strRows_len]; simpa using hk2) ?_
   refine R_run hg.ok 1000 rfl rfl ?_
   refine R_loadE hg.ok rfl rfl rfl rfl rfl rfl (by rw [Int.toNat_natCast]; exact strRows_get e1) rfl ?_
   refine R_run hg.ok 1000 rfl rfl ?_
   have hx:strEq (Tx x) (Tx s)=(x==s):=Tx_eq _ _
   by_cases hxs:x=s
   ·refine R_if rfl rfl (fun _=>?_) (fun h=>absurd h (by rw [hx,hxs]; simp)) <;> refine R_run hg.ok 1000 rfl rfl ?_
    by_cases h95:s=[95]
    ·refine R_if rfl rfl (fun h=>absurd h (by rw [e95,h95]; simp)) (fun _=>?_) <;> refine R_run hg.ok 1000 rfl rfl ?_
     exact R_next (k+1) ⟨hk2,fun h=>absurd h95 h⟩ (by omega) ⟨.refl _,.refl _,.refl _,.refl _,Ent.wrap (by omega) (by omega) (by omega),trivial⟩ rfl
    ·refine R_if rfl rfl (fun _=>?_) (fun h=>absurd h (by rw [e95]; simpa using h95)) <;> refine R_run hg.ok 1000 rfl rfl ?_
     have hv:varR st s=((k:Int),st):=by
      unfold varR
      rw [if_neg h95,hm h95,idxV,if_pos hxs]
     rw [hv]
     exact R_retS hg 2 5 (Nat.le_refl _) rfl rfl (hk st _)
   ·refine R_if rfl rfl (fun h=>absurd h (by rw [hx]; simpa using hxs)) (fun _=>?_) <;> refine R_run hg.ok 1000 rfl rfl ?_
    exact R_next (k+1) ⟨hk2,fun h=>by rw [hm h,idxV,if_neg hxs]⟩ (by omega) ⟨.refl _,.refl _,.refl _,.refl _,Ent.wrap (by omega) (by omega) (by omega),trivial⟩ rfl
  ·have hk2:st.names.length≤k:=ge_dec h rfl
   refine R_to () ?_ ⟨.refl _,.refl _,trivial⟩ rfl
   split
   ·rfl
   ·rename_i hs
    rw [hm hs,List.drop_eq_nil_of_le hk2]; rfl
 rintro _ hno
 refine R_run hg.ok 1000 rfl rfl ?_
 have hv:varR st s=((st.names.length:Int),{ st with names:=st.names++[if s=[95] then [] else s] }):=by
  unfold varR
  rw [hno]
 rw [hv]
 by_cases h95:s=[95]
 ·refine R_if rfl rfl (fun _=>?_) (fun h=>absurd h (by rw [e95,h95]; simp)) <;> refine R_run hg.ok 1000 rfl rfl ?_
  rw [if_pos h95,rdO_snoc]
  refine R_appendO hg.ok (strRows (st.names++[[]])) rfl rfl rfl rfl rfl rfl rfl rfl rfl (by simp) (by simp [one1]) (strRows_snoc st.names []) (by rw [strRows_len]; simp; omega) (by rw [strRows_len]; simp; omega) ?_
  refine R_run hg.ok 1000 rfl rfl ?_
  refine R_lenO hg.ok rfl rfl rfl rfl rfl (n:=((st.names.length+1:Nat):Int)) (by rw [strRows_len]; simp) ?_
  refine R_run hg.ok 1000 rfl rfl ?_
  refine R_see 4 rfl (Ent.wrap (n:=(st.names.length:Int)) (by omega) (by omega) (by omega)) ?_
  exact R_retS hg 2 5 (Nat.le_refl _) rfl rfl (hk2 [] _)
 ·refine R_if rfl rfl (fun h=>absurd h (by rw [e95]; simpa using h95)) (fun _=>?_) <;> refine R_run hg.ok 1000 rfl rfl ?_
  rw [if_neg h95,rdO_snoc]
  refine R_appendO hg.ok (strRows (st.names++[s])) rfl rfl rfl rfl rfl rfl rfl rfl rfl (by simp) (by simp [one1]) (strRows_snoc st.names s) (by rw [strRows_len]; simp; omega) (by rw [strRows_len]; simp; omega) ?_
  refine R_run hg.ok 1000 rfl rfl ?_
  refine R_lenO hg.ok rfl rfl rfl rfl rfl (n:=((st.names.length+1:Nat):Int)) (by rw [strRows_len]; simp) ?_
  refine R_run hg.ok 1000 rfl rfl ?_
  refine R_see 4 rfl (Ent.wrap (n:=(st.names.length:Int)) (by omega) (by omega) (by omega)) ?_
  exact R_retS hg 2 5 (Nat.le_refl _) rfl rfl (hk2 s _)
end Go.Proofs.YtchhahnajgfeaaaGreatDoor

namespace PSL
open Go

def RInv (L:List Tk) (st:RSt):Prop:=st.names.length≤st.at_∧st.at_≤L.length
def TGood (L:List Tk) (T:TF):Prop:=∀ deep p st t st',T deep p st=some (t,st')→RInv L st→RInv L st'
section
variable {S:Bs} {L:List Tk} {T:TF} {st:RSt}

theorem peek_lt (h:(peekR L st).kind≠0):st.e=0∧st.at_<L.length:=by
 unfold peekR at h
 by_cases he:st.e≠0
 ·rw [if_pos he] at h; exact absurd rfl h
 ·rw [if_neg he] at h
  refine ⟨by simpa using he,?_⟩
  rcases Nat.lt_or_ge st.at_ L.length with h2 | h2
  ·exact h2
  ·rw [List.getElem?_eq_none h2] at h; exact absurd rfl h

theorem isMk_lt {s:Bs} (h:isMk (peekR L st) s=true):st.e=0∧st.at_<L.length:=by
 simp only [isMk,Bool.and_eq_true,decide_eq_true_eq] at h
 exact peek_lt (by rw [h.1]; decide)
theorem RInv.nx (h:RInv L st) (hl:st.at_<L.length):RInv L (nxR st):=⟨by have:=h.1; simp only [nxR]; omega,by simp only [nxR]; omega⟩

theorem RInv.fail {n:Nat} {c:Int} (h:RInv L st):RInv L (failR L n st c):=by
 unfold failR; split
 ·exact h
 ·exact h

theorem RInv.must {n:Nat} {s:Bs} (h:RInv L st):RInv L (mustR L n st s):=by
 unfold mustR; split
 ·rename_i hm; exact h.nx (isMk_lt hm).2
 ·exact h.fail

theorem RInv.ins (h:RInv L st):RInv L (inS L st):=by
 unfold inS; split
 ·exact h
 ·exact h

theorem RInv.beg (h:RInv L st):RInv L (begS L st):=by
 unfold begS; split
 ·exact h
 ·exact h

theorem var_at (s:Bs):(varR st s).2.at_=st.at_∧(varR st s).2.names.length≤st.names.length+1∧(varR st s).2.lay=st.lay∧(varR st s).2.e=st.e∧(varR st s).2.bad=st.bad:=by
 unfold varR
 split <;> simp

theorem RInv.var {s:Bs} (h:RInv L st) (hl:st.at_<L.length):RInv L (varR (nxR st) s).2:=by
 obtain ⟨h1,h2,_⟩:=var_at (st:=nxR st) s
 have:=h.1
 refine ⟨?_,?_⟩
 ·rw [h1]; simp only [nxR] at h2 ⊢; omega
 ·rw [h1]; simp only [nxR]; omega

theorem many_inv (hT:TGood L T):∀ (f deep:Nat) (st:RSt) (acc:List Tm) (l:List Tm) (st':RSt),manyR L T f deep st acc=some (l,st')→RInv L st→RInv L st'
 | 0,_,_,_,_,_,h,_=>by cases h
 | f+1,deep,st,acc,l,st',h,hi=>by
  simp only [manyR] at h
  split at h
  ·rename_i hm
   obtain ⟨x,hx,h⟩:=Option.bind_eq_some_iff.1 h
   exact many_inv hT f deep _ _ _ _ h (hT _ _ _ _ _ hx (hi.nx (isMk_lt hm).2))
  ·cases h; exact hi

theorem row_inv (hT:TGood L T) {deep:Nat} {l:List Tm} {st':RSt} (h:rowR L T deep st=some (l,st')) (hi:RInv L st):RInv L st':=by
 obtain ⟨x,hx,h⟩:=Option.bind_eq_some_iff.1 h
 exact many_inv hT _ _ _ _ _ _ h (hT _ _ _ _ _ hx hi)

theorem named_inv (hT:TGood L T) {deep:Nat} {p:Int} {t:Tk} {x:Tm × Int × RSt} (h:namedR S L T deep p t st=some x) (hi:RInv L st) (hl:st.at_<L.length):RInv L x.2.2:=by
 have hn:=hi.nx hl
 unfold namedR at h
 split at h
 ·rename_i hm
  simp only [minR,Bool.and_eq_true,decide_eq_true_eq] at hm
  cases h
  exact hn.nx (peek_lt (by rw [hm.1.2]; decide)).2
 ·split at h
  ·obtain ⟨y,hy,rfl⟩:=Option.map_eq_some_iff.1 h
   exact (row_inv hT hy hn.must).must
  ·split at h
   ·split at h
    ·split at h
     ·cases h; exact RInv.fail ⟨by simp only; have:=hn.beg.1; have h2:=hi.1; unfold begS at *; split <;> exact h2,hi.2⟩
     ·obtain ⟨y,hy,rfl⟩:=Option.map_eq_some_iff.1 h
      exact hT _ _ _ _ _ hy hn.beg
    ·cases h; exact hn.beg
   ·cases h; exact hn

theorem list_inv (hT:TGood L T) {deep:Nat} {x:Tm × RSt} (h:listR S L T deep st=some x) (hi:RInv L st):RInv L x.2:=by
 obtain ⟨y,hy,h⟩:=Option.bind_eq_some_iff.1 h
 have h1:=row_inv hT hy hi
 split at h
 ·rename_i hm
  obtain ⟨z,hz,rfl⟩:=Option.map_eq_some_iff.1 h
  exact (hT _ _ _ _ _ hz (h1.nx (isMk_lt hm).2)).must
 ·cases h; exact h1.must

theorem opnd_inv (hT:TGood L T) {sw:Bool} {deep:Nat} {p:Int} {x:Tm × Int × RSt} (h:opndR sw S L T deep p st=some x) (hi:RInv L st):RInv L x.2.2:=by
 unfold opndR at h
 split at h
 ·cases h; exact hi.fail
 split at h
 ·rename_i hk; cases h; exact hi.nx (peek_lt (by rw [hk]; decide)).2
 split at h
 ·rename_i hk; cases h; exact hi.var (peek_lt (by rw [hk]; decide)).2
 split at h
 ·rename_i hk
  obtain ⟨y,hy,rfl⟩:=Option.map_eq_some_iff.1 h
  have:=named_inv hT hy hi (peek_lt (by rw [hk]; decide)).2
  split <;> exact this
 split at h
 ·rename_i hm
  obtain ⟨y,hy,rfl⟩:=Option.map_eq_some_iff.1 h
  exact (hT _ _ _ _ _ hy (hi.nx (isMk_lt hm).2)).must
 split at h
 ·rename_i hm
  obtain ⟨y,hy,rfl⟩:=Option.map_eq_some_iff.1 h
  exact list_inv hT hy (hi.nx (isMk_lt hm).2)
 ·cases h; exact hi.fail

theorem ins_lt {L:List Tk} {st:RSt} {x:Int × Int × Int} (h:inT (peekR L st)=some x):st.e=0∧st.at_<L.length:=by
 unfold inT at h
 split at h
 ·cases h
 ·rename_i hc
  refine peek_lt fun h0=>hc ?_
  rw [h0]; exact ⟨by decide,.inl (by decide)⟩
theorem inS_at (L:List Tk) (st:RSt):(inS L st).at_=st.at_:=by unfold inS; split <;> rfl

theorem rest_inv (hT:TGood L T):∀ (f deep:Nat) (p:Int) (out:Tm) (now:Int) (st:RSt) (t:Tm) (st':RSt),restR L T f deep p out now st=some (t,st')→RInv L st→RInv L st'
 | 0,_,_,_,_,_,_,_,h,_=>by cases h
 | f+1,deep,p,out,now,st,t,st',h,hi=>by
  simp only [restR] at h
  split at h
  ·cases h; exact hi
  split at h
  ·cases h; exact hi.ins
  ·rename_i q l r hin
   split at h
   ·cases h; exact hi.ins
   ·obtain ⟨x,hx,h⟩:=Option.bind_eq_some_iff.1 h
    exact rest_inv hT f deep p _ _ _ _ _ h (hT _ _ _ _ _ hx (hi.ins.nx (by rw [inS_at]; exact (ins_lt hin).2)))
end

theorem term_inv (sw:Bool) (S:Bs) (L:List Tk):∀ n,TGood L (termR sw S L n)
 | 0=>fun _ _ _ _ _ h _=>by cases h
 | n+1=>fun deep p st t st' h hi=>by
  simp only [termR] at h
  obtain ⟨x,hx,h⟩:=Option.bind_eq_some_iff.1 h
  exact rest_inv (term_inv sw S L n) _ _ _ _ _ _ _ _ h (opnd_inv (term_inv sw S L n) hx hi)
end PSL

namespace Go.Proofs.YtchhahnajgfeaaaGreatDoor
open Go PSL Go.Proofs

def rdX (S:Bs) (L:List Tk) (st:RSt) (deep:Int):List Ob:=rdO S L st deep st.lay
theorem rdX_keep (S:Bs) (L:List Tk) (st:RSt) (deep:Int) (n0:Nat) (o:List Ob) (hn:2≤n0):(rdX S L st deep).map (mapOb (sealT false n0 o 5))=rdX S L st deep:=rdO_keep _ _ _ _ _ _ _ hn
theorem rdX_ren (S:Bs) (L:List Tk) (st:RSt) (deep:Int) (n:Nat) (l:List Nat):(rdX S L st deep).map (renOb (rn (0::1::l) n))=rdX S L st deep:=rdO_ren _ _ _ _ _ _ _
theorem xPeek (Y:YP) (S0:Bs) (L:List Tk) (st:RSt) (deep:Int):SCtr Tryz.prog Y 36 [.lo 0 0] (rdX S0 L st deep) (tkA (peekR L st)) (rdX S0 L st deep):=rdPeek_ok Y S0 L st deep st.lay

theorem xFail (Y:YP) (S0:Bs) (L:List Tk) (st:RSt) (deep c:Int):SCtr Tryz.prog Y 37 [.lo 0 0,iV c] (rdX S0 L st deep) (.tup []) (rdX S0 L (failR L S0.length st c) deep):=by
 have:=rdFail_ok Y S0 L st deep st.lay c
 unfold rdX
 rwa [show (failR L S0.length st c).lay=st.lay by unfold failR; split <;> rfl]

theorem xMark (Y:YP) (S0:Bs) (L:List Tk) (hL:L.length≤9000) (st:RSt) (deep:Int) (s:Bs):SCtr Tryz.prog Y 72 [.lo 0 0,.d (.v (.string (Tx s)))] (rdX S0 L st deep) (bV (isMk (peekR L st) s)) (rdX S0 L (if isMk (peekR L st) s then nxR st else st) deep):=by
 have:=rdMark_ok Y S0 L hL st deep st.lay s
 unfold rdX
 rwa [show (if isMk (peekR L st) s then nxR st else st).lay=st.lay by split <;> rfl]

theorem xMust (Y:YP) (S0:Bs) (L:List Tk) (hL:L.length≤9000) (st:RSt) (deep:Int) (s:Bs):SCtr Tryz.prog Y 73 [.lo 0 0,.d (.v (.string (Tx s)))] (rdX S0 L st deep) (.tup []) (rdX S0 L (mustR L S0.length st s) deep):=by
 have:=rdMust_ok Y S0 L hL st deep st.lay s
 unfold rdX
 rwa [show (mustR L S0.length st s).lay=st.lay by unfold mustR failR; split <;> first | rfl | (split <;> rfl)]

theorem xIn (Y:YP) (S0:Bs) (L:List Tk) (st:RSt) (deep:Int):SCtr Tryz.prog Y 50 [.lo 0 0] (rdX S0 L st deep) (infA (inT (peekR L st))) (rdX S0 L (inS L st) deep):=by
 have:=rdIn_ok Y S0 L st deep st.lay
 unfold rdX inS
 split at this
 ·rename_i h; rw [if_pos h]; exact this
 ·rename_i h; rw [if_neg h]; exact this

theorem xBegins (Y:YP) (S0:Bs) (L:List Tk) (st:RSt) (deep:Int):SCtr Tryz.prog Y 87 [.lo 0 0] (rdX S0 L st deep) (bV (begR L st)) (rdX S0 L (begS L st) deep):=by
 have:=rdBegins_ok Y S0 L st deep st.lay
 unfold rdX begS
 split at this
 ·rename_i h; rw [if_pos h]; exact this
 ·rename_i h; rw [if_neg h]; exact this

theorem xVar (Y:YP) (S0:Bs) (L:List Tk) (st:RSt) (hn:st.names.length≤20000) (deep:Int) (s:Bs):SCtr Tryz.prog Y 70 [.lo 0 0,.d (.v (.string (Tx s)))] (rdX S0 L st deep) (iV (varR st s).1) (rdX S0 L (varR st s).2 deep):=by
 have:=rdVar_ok Y S0 L st hn deep st.lay s
 unfold rdX
 rwa [(var_at s).2.2.1]

def TCtr (Y:YP) (S0:Bs) (L:List Tk) (T:TF):Prop:=∀ (deep:Nat) (p:Int) (st:RSt) (t:Tm) (st':RSt),T deep p st=some (t,st')→deep≤1000→RInv L st→SCtr Tryz.prog Y 35 [.lo 0 0,iV p] (rdX S0 L st deep) t.av (rdX S0 L st' deep)
end Go.Proofs.YtchhahnajgfeaaaGreatDoor

namespace Go.Proofs.YtchhahnajgfeaaaGreatDoor
open Go PSL Go.Proofs
def rwT (t:Tm):List D:=[.v (.int .i64 t.k),.v (.string t.s),.v (.int .i64 t.n),.sl (Tm.rows t.l)]
theorem rwT_rows (l:List Tm):l.map rwT=Tm.rows l:=by rw [Tm.rows_eq]; rfl
theorem rwT_snoc (l:List Tm) (x:Tm):l.map rwT++[rwT x]=Tm.rows (l++[x]):=by rw [← rwT_rows]; simp
theorem rwT_snoc2 (l:List Tm) (x:Tm):Tm.rows l++[rwT x]=Tm.rows (l++[x]):=by rw [← rwT_rows,← rwT_rows]; simp

def accS:Tm ⊕ List Tm × Nat→List Tm
 | .inl t=>[t]
 | .inr p=>p.1

def sevE (S0:Bs) (L:List Tk) (deep:Int) (s:Bs):(Nat × RSt × (Tm ⊕ List Tm × Nat))→Env × List Ob
 | (_,st,.inl t)=>([(0,.lo 0 0),(1,.d (.v (.string (Tx s)))),(5,.fs [rwT t])],rdX S0 L st deep)
 | (_,st,.inr p)=>([(0,.lo 0 0),(1,.d (.v (.string (Tx s)))),(5,.ow 2 p.2)],rdX S0 L st deep++[.arr 4 p.2 (Tm.rows p.1)])

set_option maxRecDepth 100000 in
theorem rdSeveral_ok (Y:YP) (S0:Bs) (L:List Tk) (hL:L.length≤9000) {T:TF} (hT:TCtr Y S0 L T) (hG:TGood L T) (deep:Nat) (hd:deep≤1000) (st:RSt) (hi:RInv L st) (l:List Tm) (st':RSt) (h:rowR L T deep st=some (l,st')) (s:Bs) :
  SCtr Tryz.prog Y 86 [.lo 0 0,.d (.v (.string (Tx s)))] (rdX S0 L st deep) (.d (.sl (Tm.rows l))) (rdX S0 L (mustR L S0.length st' s) deep):=by
 obtain ⟨⟨t,st1⟩,h1,h2⟩:=Option.bind_eq_some_iff.1 h
 simp only at h2
 refine SCtr.of_R (pf:=fun _=>.eff) tyOk mixed Tryz.func86 rfl (by kernel_rfl) (by kernel_rfl) (by simp [Tryz.ntmps86]) (by simp [rdX,rdO,robj]) fun w S φ hg=>?_
 have hφ:φ.length=2:=hg.hs0.len
 have hk:∀ (st:RSt) (o:List Ob),(rdX S0 L st deep).map (mapOb (sealT false 2 o 5))=rdX S0 L st deep:=fun st o=>rdX_keep _ _ _ _ _ _ (Nat.le_refl _)
 refine R_run hg.ok 1000 rfl rfl ?_
 refine R_callSO hg.ok hg.gup hg.wide hg.Y [0,1] (rdX S0 L st1 deep) (hT deep 999 st t st1 h1 hd hi) (fun _=>rfl) rfl rfl rfl rfl rfl (by rw [rdX_ren]; rfl) rfl (by rw [rdX_ren]; rfl) ?_
 refine R_run hg.ok 1000 rfl rfl ?_
 refine R_cut2 (fun o:Tm ⊕ List Tm × Nat=>sevE S0 L deep s (0,st',o)) (fun o=>accS o=l) rfl ?_ ?_
 ·refine R_loop (sevE S0 L deep s) (fun x=>manyR L T x.1 deep x.2.1 (accS x.2.2)=some (l,st')∧RInv L x.2.1∧(accS x.2.2).length+x.1≤L.length+3) (fun x=>x.1) (L.length+2,st1,.inl t) ⟨h2,hG _ _ _ _ _ h1 hi,by simp [accS]; omega⟩ ⟨.refl _,.refl _,.refl _,trivial⟩ rfl ?_
  rintro ⟨f,st2,o⟩ ⟨hm,hi2,hl⟩
  simp only at hm hi2 hl
  cases f with
  | zero=>cases hm
  | succ f =>
  simp only [manyR] at hm
  have hM:=xMark Y S0 L hL st2 deep [44]
  cases hmk:isMk (peekR L st2) [44] with
  | false =>
   rw [hmk] at hm hM
   simp only [Bool.false_eq_true,if_false] at hm hM
   have hm:=Option.some.inj hm
   obtain ⟨ha,rfl⟩:=Prod.mk.inj hm
   cases o with
   | inl t2 =>
    refine R_run hg.ok 1000 rfl rfl ?_
    refine R_callSO hg.ok hg.gup hg.wide hg.Y [0,1] (rdX S0 L st2 deep) hM (fun _=>rfl) rfl rfl rfl rfl rfl (by rw [rdX_ren]; rfl) rfl (by rw [rdX_ren]; rfl) ?_
    refine R_run hg.ok 1000 rfl rfl ?_
    refine R_if rfl rfl (fun h=>absurd h (by simp)) (fun _=>?_) <;> refine R_run hg.ok 1000 rfl rfl ?_
    exact R_to (.inl t2) ha ⟨.refl _,.refl _,.refl _,trivial⟩ rfl
   | inr p =>
    refine R_run hg.ok 1000 rfl rfl ?_
    refine R_callSO hg.ok hg.gup hg.wide hg.Y [0,1] (rdX S0 L st2 deep++[.arr 4 p.2 (Tm.rows p.1)]) hM (fun _=>rfl) rfl rfl rfl rfl rfl (by rw [rdX_ren]; rfl) rfl (by rw [rdX_ren]; rfl) ?_
    refine R_run hg.ok 1000 rfl rfl ?_
    refine R_if rfl rfl (fun h=>absurd h (by simp)) (fun _=>?_) <;> refine R_run hg.ok 1000 rfl rfl ?_
    exact R_to (.inr p) ha ⟨.refl _,.refl _,.refl _,trivial⟩ rfl
  | true =>
   rw [hmk] at hm hM
   simp only [if_true] at hm hM
   obtain ⟨⟨x,st3⟩,hx,hm⟩:=Option.bind_eq_some_iff.1 hm
   have hi3:=hi2.nx (isMk_lt hmk).2
   have hc:=hT deep 999 (nxR st2) x st3 hx hd hi3
   have hi4:=hG _ _ _ _ _ hx hi3
   cases o with
   | inl t2 =>
    refine R_run hg.ok 1000 rfl rfl ?_
    refine R_callSO hg.ok hg.gup hg.wide hg.Y [0,1] (rdX S0 L (nxR st2) deep) hM (fun _=>rfl) rfl rfl rfl rfl rfl (by rw [rdX_ren]; rfl) rfl (by rw [rdX_ren]; rfl) ?_
    refine R_run hg.ok 1000 rfl rfl ?_
    refine R_if rfl rfl (fun _=>?_) (fun h=>absurd h (by simp)) <;> refine R_run hg.ok 1000 rfl rfl ?_
    refine R_callSO hg.ok hg.gup hg.wide hg.Y [0,1] (rdX S0 L st3 deep) hc (fun _=>rfl) rfl rfl rfl rfl rfl (by rw [rdX_ren]; rfl) rfl (by rw [rdX_ren]; rfl) ?_
    refine R_run hg.ok 1000 rfl rfl ?_
    refine R_appendF hg.ok rfl rfl (.inl rfl) rfl (.inr (by simp)) rfl rfl rfl (by simp [rwT]) (by simp) (by simp) (by simp) ?_
    refine R_run hg.ok 1000 rfl rfl ?_
    exact R_next (f,st3,.inr ([t2]++[x],0)) ⟨hm,hi4,by simp [accS] at hl ⊢; omega⟩ (by simp only; omega) ⟨.refl _,.refl _,.refl _,trivial⟩ (congrArg (fun r=>rdX S0 L st3 deep++[Ob.arr 4 0 r]) (rwT_snoc [t2] x))
   | inr p =>
    refine R_run hg.ok 1000 rfl rfl ?_
    refine R_callSO hg.ok hg.gup hg.wide hg.Y [0,1] (rdX S0 L (nxR st2) deep++[.arr 4 p.2 (Tm.rows p.1)]) hM (fun _=>rfl) rfl rfl rfl rfl rfl (by rw [rdX_ren]; rfl) rfl (by rw [rdX_ren]; rfl) ?_
    refine R_run hg.ok 1000 rfl rfl ?_
    refine R_if rfl rfl (fun _=>?_) (fun h=>absurd h (by simp)) <;> refine R_run hg.ok 1000 rfl rfl ?_
    refine R_callSO hg.ok hg.gup hg.wide hg.Y [0,1] (rdX S0 L st3 deep++[.arr 4 p.2 (Tm.rows p.1)]) hc (fun _=>rfl) rfl rfl rfl rfl rfl (by rw [rdX_ren]; rfl) rfl (by rw [rdX_ren]; rfl) ?_
    refine R_run hg.ok 1000 rfl rfl ?_
    have hpl:(Tm.rows p.1).length=p.1.length:=Tm.rows_length _
    simp only [accS] at hl
    refine R_appendO hg.ok (Tm.rows (p.1++[x])) rfl rfl rfl rfl rfl rfl rfl rfl rfl (by simp) (by simp [one1]) (rwT_snoc2 p.1 x) (by simp; omega) (by simp; omega) ?_
    refine R_run hg.ok 1000 rfl rfl ?_
    exact R_next (f,st3,.inr (p.1++[x],p.2+1)) ⟨hm,hi4,by simp [accS]; omega⟩ (by simp only; omega) ⟨.refl _,.refl _,.refl _,trivial⟩ rfl
 rintro o ho
 cases o with
 | inl t2 =>
  refine R_run hg.ok 1000 rfl rfl ?_
  refine R_callSO hg.ok hg.gup hg.wide hg.Y [0,1] (rdX S0 L (mustR L S0.length st' s) deep) (xMust Y S0 L hL st' deep s) (fun _=>rfl) rfl rfl rfl rfl rfl (by rw [rdX_ren]; rfl) rfl (by rw [rdX_ren]; rfl) ?_
  refine R_run hg.ok 1000 rfl rfl ?_
  have hr:Tm.rows l=[rwT t2]:=by rw [← ho,← rwT_rows]; rfl
  rw [hr]
  exact R_retS hg 2 5 (Nat.le_refl _) rfl rfl (hk _ _)
 | inr p =>
  obtain rfl:p.1=l:=ho
  refine R_run hg.ok 1000 rfl rfl ?_
  refine R_callSO hg.ok hg.gup hg.wide hg.Y [0,1] (rdX S0 L (mustR L S0.length st' s) deep++[.arr 4 p.2 (Tm.rows p.1)]) (xMust Y S0 L hL st' deep s) (fun _=>rfl) rfl rfl rfl rfl rfl (by rw [rdX_ren]; rfl) rfl (by rw [rdX_ren]; rfl) ?_
  refine R_run hg.ok 1000 rfl rfl ?_
  exact R_retS hg 2 5 (Nat.le_refl _) rfl (sealT_ow rfl rfl) (hk _ _)
end Go.Proofs.YtchhahnajgfeaaaGreatDoor

namespace Go.Proofs.YtchhahnajgfeaaaGreatDoor
open Go PSL Go.Proofs

def bxT (t:Tm):Ob:=.box [.d (.v (.int .i64 t.k)),.d (.v (.string t.s)),.d (.v (.int .i64 t.n)),.d (.sl (Tm.rows t.l))]
def bxN:Ob:=.box [.d (.v (.int .i64 3)),.d (.v (.string ⟨#[91,93]⟩)),.d (.v (.int .i64 0)),.d (.v (.slice none 0 0))]
def boxZ:Ob:=.box [.d (.v (.int .i64 0)),.d (.v (.string ByteArray.empty)),.d (.v (.int .i64 0)),.d (.v (.slice none 0 0))]
theorem Ent.tblFrz (i s:Nat) (rows:List (List D)) (b:Bool):Ent (frzA i s rows (tblV b)) (tblV b):=by cases b <;> exact .refl _
theorem bxT_fn (s:Bs) (l:List Tm):bxT (fnT s l)=.box [.d (.v (.int .i64 3)),.d (.v (.string (Tx s))),.d (.v (.int .i64 0)),.d (.sl (Tm.rows l))]:=rfl

def lstE (S0:Bs) (L:List Tk) (deep:Int):(Nat × RSt × (Tm ⊕ List Tm × Nat))→Env × List Ob
 | (_,st,.inl t)=>([(0,.lo 0 0),(2,.lo 2 0),(3,.fs [rwT t])],rdX S0 L st deep++[boxZ])
 | (_,st,.inr p)=>([(0,.lo 0 0),(2,.lo 2 0),(3,.ow 3 p.2)],rdX S0 L st deep++[boxZ,.arr 4 p.2 (Tm.rows p.1)])

set_option maxRecDepth 100000 in
theorem rdList_ok (Y:YP) (S0:Bs) (L:List Tk) (hL:L.length≤9000) {T:TF} (hT:TCtr Y S0 L T) (hG:TGood L T) (deep:Nat) (hd:deep≤1000) (st:RSt) (hi:RInv L st) (t:Tm) (st':RSt) (h:listR S0 L T deep st=some (t,st')) :
  SCtr Tryz.prog Y 74 [.lo 0 0] (rdX S0 L st deep) t.av (rdX S0 L st' deep):=by
 obtain ⟨⟨l,st1⟩,h0,h2⟩:=Option.bind_eq_some_iff.1 h
 obtain ⟨⟨t0,st0⟩,h1,h3⟩:=Option.bind_eq_some_iff.1 h0
 simp only at h2 h3
 refine SCtr.of_R (pf:=fun _=>.eff) tyOk mixed Tryz.func74 rfl (by kernel_rfl) (by kernel_rfl) (by simp [Tryz.ntmps74]) (by simp [rdX,rdO,robj]) fun w S φ hg=>?_
 have hk:∀ (st:RSt) (o:List Ob),(rdX S0 L st deep).map (mapOb (sealT false 2 o 5))=rdX S0 L st deep:=fun st o=>rdX_keep _ _ _ _ _ _ (Nat.le_refl _)
 refine R_run hg.ok 1000 rfl rfl ?_
 refine R_callSO hg.ok hg.gup hg.wide hg.Y [0,1] (rdX S0 L st0 deep++[boxZ]) (hT deep 999 st t0 st0 h1 hd hi) (fun _=>rfl) rfl rfl rfl rfl rfl (by rw [rdX_ren]; rfl) rfl (by rw [rdX_ren]; rfl) ?_
 refine R_run hg.ok 1000 rfl rfl ?_
 refine R_cut2 (fun o:Tm ⊕ List Tm × Nat=>lstE S0 L deep (0,st1,o)) (fun o=>accS o=l∧RInv L st1∧l.length≤L.length+3) rfl ?_ ?_
 ·refine R_loop (lstE S0 L deep) (fun x=>manyR L T x.1 deep x.2.1 (accS x.2.2)=some (l,st1)∧RInv L x.2.1∧(accS x.2.2).length+x.1≤L.length+3) (fun x=>x.1) (L.length+2,st0,.inl t0) ⟨h3,hG _ _ _ _ _ h1 hi,by simp [accS]; omega⟩ ⟨.refl _,.refl _,.refl _,trivial⟩ rfl ?_
  rintro ⟨f,st2,o⟩ ⟨hm,hi2,hl⟩
  simp only at hm hi2 hl
  cases f with
  | zero=>cases hm
  | succ f =>
  simp only [manyR] at hm
  have hM:=xMark Y S0 L hL st2 deep [44]
  cases hmk:isMk (peekR L st2) [44] with
  | false =>
   rw [hmk] at hm hM
   simp only [Bool.false_eq_true,if_false] at hm hM
   have hm:=Option.some.inj hm
   obtain ⟨ha,rfl⟩:=Prod.mk.inj hm
   have hll:l.length≤L.length+3:=by rw [← ha]; omega
   cases o with
   | inl t2 =>
    refine R_run hg.ok 1000 rfl rfl ?_
    refine R_callSO hg.ok hg.gup hg.wide hg.Y [0,1] (rdX S0 L st2 deep++[boxZ]) (hM) (fun _=>rfl) rfl rfl rfl rfl rfl (by rw [rdX_ren]; rfl) rfl (by rw [rdX_ren]; rfl) ?_
    refine R_run hg.ok 1000 rfl rfl ?_
    refine R_if rfl rfl (fun h=>absurd h (by simp)) (fun _=>?_) <;> refine R_run hg.ok 1000 rfl rfl ?_
    exact R_to (.inl t2) ⟨ha,hi2,hll⟩ ⟨.refl _,.refl _,.refl _,trivial⟩ rfl
   | inr p =>
    refine R_run hg.ok 1000 rfl rfl ?_
    refine R_callSO hg.ok hg.gup hg.wide hg.Y [0,1] (rdX S0 L st2 deep++[boxZ,.arr 4 p.2 (Tm.rows p.1)]) (hM) (fun _=>rfl) rfl rfl rfl rfl rfl (by rw [rdX_ren]; rfl) rfl (by rw [rdX_ren]; rfl) ?_
    refine R_run hg.ok 1000 rfl rfl ?_
    refine R_if rfl rfl (fun h=>absurd h (by simp)) (fun _=>?_) <;> refine R_run hg.ok 1000 rfl rfl ?_
    exact R_to (.inr p) ⟨ha,hi2,hll⟩ ⟨.refl _,.refl _,.refl _,trivial⟩ rfl
  | true =>
   rw [hmk] at hm hM
   simp only [if_true] at hm hM
   obtain ⟨⟨x,st3⟩,hx,hm⟩:=Option.bind_eq_some_iff.1 hm
   have hi3:=hi2.nx (isMk_lt hmk).2
   have hc:=hT deep 999 (nxR st2) x st3 hx hd hi3
   have hi4:=hG _ _ _ _ _ hx hi3
   cases o with
   | inl t2 =>
    refine R_run hg.ok 1000 rfl rfl ?_
    refine R_callSO hg.ok hg.gup hg.wide hg.Y [0,1] (rdX S0 L (nxR st2) deep++[boxZ]) (hM) (fun _=>rfl) rfl rfl rfl rfl rfl (by rw [rdX_ren]; rfl) rfl (by rw [rdX_ren]; rfl) ?_
    refine R_run hg.ok 1000 rfl rfl ?_
    refine R_if rfl rfl (fun _=>?_) (fun h=>absurd h (by simp)) <;> refine R_run hg.ok 1000 rfl rfl ?_
    refine R_callSO hg.ok hg.gup hg.wide hg.Y [0,1] (rdX S0 L st3 deep++[boxZ]) (hc) (fun _=>rfl) rfl rfl rfl rfl rfl (by rw [rdX_ren]; rfl) rfl (by rw [rdX_ren]; rfl) ?_
    refine R_run hg.ok 1000 rfl rfl ?_
    refine R_appendF hg.ok rfl rfl (.inl rfl) rfl (.inr (by simp)) rfl rfl rfl (by simp [rwT]) (by simp) (by simp) (by simp) ?_
    refine R_run hg.ok 1000 rfl rfl ?_
    exact R_next (f,st3,.inr ([t2]++[x],0)) ⟨hm,hi4,by simp [accS] at hl ⊢; omega⟩ (by simp only; omega) ⟨.refl _,.refl _,.refl _,trivial⟩ (congrArg (fun r=>rdX S0 L st3 deep++[boxZ,Ob.arr 4 0 r]) (rwT_snoc [t2] x))
   | inr p =>
    refine R_run hg.ok 1000 rfl rfl ?_
    refine R_callSO hg.ok hg.gup hg.wide hg.Y [0,1] (rdX S0 L (nxR st2) deep++[boxZ,.arr 4 p.2 (Tm.rows p.1)]) (hM) (fun _=>rfl) rfl rfl rfl rfl rfl (by rw [rdX_ren]; rfl) rfl (by rw [rdX_ren]; rfl) ?_
    refine R_run hg.ok 1000 rfl rfl ?_
    refine R_if rfl rfl (fun _=>?_) (fun h=>absurd h (by simp)) <;> refine R_run hg.ok 1000 rfl rfl ?_
    refine R_callSO hg.ok hg.gup hg.wide hg.Y [0,1] (rdX S0 L st3 deep++[boxZ,.arr 4 p.2 (Tm.rows p.1)]) (hc) (fun _=>rfl) rfl rfl rfl rfl rfl (by rw [rdX_ren]; rfl) rfl (by rw [rdX_ren]; rfl) ?_
    refine R_run hg.ok 1000 rfl rfl ?_
    have hpl:(Tm.rows p.1).length=p.1.length:=Tm.rows_length _
    simp only [accS] at hl
    refine R_appendO hg.ok (Tm.rows (p.1++[x])) rfl rfl rfl rfl rfl rfl rfl rfl rfl (by simp) (by simp [one1]) (rwT_snoc2 p.1 x) (by simp; omega) (by simp; omega) ?_
    refine R_run hg.ok 1000 rfl rfl ?_
    exact R_next (f,st3,.inr (p.1++[x],p.2+1)) ⟨hm,hi4,by simp [accS]; omega⟩ (by simp only; omega) ⟨.refl _,.refl _,.refl _,trivial⟩ rfl
 rintro o ⟨ho,hi1,hll⟩
 cases o with
 | inl t2 =>
  have hr:Tm.rows l=[rwT t2]:=by rw [← ho,← rwT_rows]; rfl
  refine R_see 3 rfl (v':=.d (.sl (Tm.rows l))) (by rw [hr]; exact Ent.fs _) ?_
  have hM:=xMark Y S0 L hL st1 deep [124]
  cases hmk:isMk (peekR L st1) [124] with
  | true =>
   rw [hmk] at h2 hM
   simp only [if_true] at h2 hM
   refine R_run hg.ok 1000 rfl rfl ?_
   refine R_callSO hg.ok hg.gup hg.wide hg.Y [0,1] (rdX S0 L (nxR st1) deep++[boxZ,bxN]) (hM) (fun _=>rfl) rfl rfl rfl rfl rfl (by rw [rdX_ren]; rfl) rfl (by rw [rdX_ren]; rfl) ?_
   refine R_run hg.ok 1000 rfl rfl ?_
   obtain ⟨⟨y,st2⟩,hy,h2⟩:=Option.map_eq_some_iff.1 h2
   obtain ⟨rfl,rfl⟩:=Prod.mk.inj h2
   have hi2:=hi1.nx (isMk_lt hmk).2
   refine R_if rfl rfl (fun _=>?_) (fun h=>absurd h (by simp)) <;> refine R_run hg.ok 1000 rfl rfl ?_
   refine R_callSO hg.ok hg.gup hg.wide hg.Y [0,1] (rdX S0 L (st2) deep++[boxZ,bxN]) (hT deep 999 (nxR st1) y st2 hy hd hi2) (fun _=>rfl) rfl rfl rfl rfl rfl (by rw [rdX_ren]; rfl) rfl (by rw [rdX_ren]; rfl) ?_
   refine R_run hg.ok 1000 rfl rfl ?_
   refine R_callSO hg.ok hg.gup hg.wide hg.Y [0,1] (rdX S0 L (mustR L S0.length st2 [93]) deep++[boxZ,bxT (y)]) (xMust Y S0 L hL st2 deep [93]) (fun _=>rfl) rfl rfl rfl rfl rfl (by rw [rdX_ren]; rfl) rfl (by rw [rdX_ren]; rfl) ?_
   refine R_run hg.ok 1000 rfl rfl ?_
   refine R_see 5 rfl (v':=iV ((l.length:Int) - 1)) (Ent.wrap (by rw [Tm.rows_length]) (by omega) (by omega)) ?_
   refine R_cut2 (fun _:Unit=>([(2,.lo 2 0),(4,.lo 3 0)],rdX S0 L (mustR L S0.length st2 [93]) deep++[boxZ,bxT (consT l (y))])) (fun _=>True) rfl ?_ ?_
   ·refine R_loop (fun n:Nat=>([(2,.lo 2 0),(3,.d (.sl (Tm.rows l))),(4,.lo 3 0),(5,iV ((n:Int) - 1))],rdX S0 L (mustR L S0.length st2 [93]) deep++[boxZ,bxT (consT (l.drop n) (y))])) (fun n=>n≤l.length) (fun n=>n) l.length (Nat.le_refl _) ⟨.refl _,.refl _,.refl _,.refl _,trivial⟩ (by rw [List.drop_length]; rfl) ?_
    intro n hn
    refine R_run hg.ok 1000 rfl rfl ?_
    refine R_if rfl rfl (fun h=>?_) (fun h=>?_) <;> refine R_run hg.ok 1000 rfl rfl ?_
    ·have hn0:0<n:=by have:=of_decide_eq_true h; omega
     obtain ⟨n,rfl⟩:∃ m,n=m+1:=⟨n - 1,by omega⟩
     have hlt:n<l.length:=hn
     have hdr:l.drop n=l[n]::l.drop (n+1):=List.drop_eq_getElem_cons hlt
     have hix:(Tm.rows l)[n]? = some (rwT l[n]):=by rw [← rwT_rows]; simp [hlt]
     generalize l[n]=a at hdr hix
     refine R_index hg.ok rfl rfl rfl rfl rfl rfl (by omega) (by rw [show (((n+1:Nat):Int) - 1).toNat=n by omega]; exact hix) rfl ?_
     have hcons:consT (a::l.drop (n+1)) (y)=fnT [46] [a,consT (l.drop (n+1)) (y)]:=rfl
     have ha:Ob.box [.d (.v (.int .i64 3)),.d (.v (.string ⟨#[46]⟩)),.d (.v (.int .i64 0)),.d (.sl [rwT a,rwT (consT (l.drop (n+1)) (y))])]=bxT (consT (l.drop n) (y)):=by rw [hdr,hcons,bxT_fn,← rwT_rows]; rfl
     first
     | (refine R_run hg.ok 1 rfl rfl ?_; refine R_obs (rdX S0 L (mustR L S0.length st2 [93]) deep++[boxZ,.box [.d (.v (.int .i64 3)),.d (.v (.string ⟨#[46]⟩)),.d (.v (.int .i64 0)),.d (.sl [rwT a,rwT (consT (l.drop (n+1)) (y))])]]) ⟨.refl _,.refl _,.refl _,⟨.refl _,.refl _,.refl _,Ent.fs _,trivial⟩,trivial⟩ rfl ?_)
     | (refine R_run hg.ok 2 rfl rfl ?_; refine R_obs (rdX S0 L (mustR L S0.length st2 [93]) deep++[boxZ,.box [.d (.v (.int .i64 3)),.d (.v (.string ⟨#[46]⟩)),.d (.v (.int .i64 0)),.d (.sl [rwT a,rwT (consT (l.drop (n+1)) (y))])]]) ⟨.refl _,.refl _,.refl _,⟨.refl _,.refl _,.refl _,Ent.fs _,trivial⟩,trivial⟩ rfl ?_)
     | (refine R_run hg.ok 3 rfl rfl ?_; refine R_obs (rdX S0 L (mustR L S0.length st2 [93]) deep++[boxZ,.box [.d (.v (.int .i64 3)),.d (.v (.string ⟨#[46]⟩)),.d (.v (.int .i64 0)),.d (.sl [rwT a,rwT (consT (l.drop (n+1)) (y))])]]) ⟨.refl _,.refl _,.refl _,⟨.refl _,.refl _,.refl _,Ent.fs _,trivial⟩,trivial⟩ rfl ?_)
     | (refine R_run hg.ok 6 rfl rfl ?_; refine R_obs (rdX S0 L (mustR L S0.length st2 [93]) deep++[boxZ,.box [.d (.v (.int .i64 3)),.d (.v (.string ⟨#[46]⟩)),.d (.v (.int .i64 0)),.d (.sl [rwT a,rwT (consT (l.drop (n+1)) (y))])]]) ⟨.refl _,.refl _,.refl _,⟨.refl _,.refl _,.refl _,Ent.fs _,trivial⟩,trivial⟩ rfl ?_)
     rw [ha]
     refine R_run hg.ok 1000 rfl rfl ?_
     exact R_next n (by omega) (by omega) ⟨.refl _,.refl _,.refl _,Ent.wrap (by omega) (by omega) (by omega),trivial⟩ rfl
    ·have hn0:n=0:=by have:=of_decide_eq_false h; omega
     subst hn0
     exact R_to () trivial ⟨.refl _,.refl _,trivial⟩ rfl
   rintro _ _
   refine R_run hg.ok 1000 rfl rfl ?_
   exact R_retS hg 2 5 (Nat.le_refl _) rfl rfl (hk _ _)
  | false =>
   rw [hmk] at h2 hM
   simp only [Bool.false_eq_true,if_false] at h2 hM
   refine R_run hg.ok 1000 rfl rfl ?_
   refine R_callSO hg.ok hg.gup hg.wide hg.Y [0,1] (rdX S0 L (st1) deep++[boxZ,bxN]) (hM) (fun _=>rfl) rfl rfl rfl rfl rfl (by rw [rdX_ren]; rfl) rfl (by rw [rdX_ren]; rfl) ?_
   refine R_run hg.ok 1000 rfl rfl ?_
   have h2:=Option.some.inj h2
   obtain ⟨rfl,rfl⟩:=Prod.mk.inj h2
   refine R_if rfl rfl (fun h=>absurd h (by simp)) (fun _=>?_) <;> refine R_run hg.ok 1000 rfl rfl ?_
   refine R_callSO hg.ok hg.gup hg.wide hg.Y [0,1] (rdX S0 L (mustR L S0.length st1 [93]) deep++[boxZ,bxN]) (xMust Y S0 L hL st1 deep [93]) (fun _=>rfl) rfl rfl rfl rfl rfl (by rw [rdX_ren]; rfl) rfl (by rw [rdX_ren]; rfl) ?_
   refine R_run hg.ok 1000 rfl rfl ?_
   refine R_obs (rdX S0 L (mustR L S0.length st1 [93]) deep++[boxZ,bxT (fnT [91,93] [])]) ⟨.refl _,.refl _,.refl _,⟨.refl _,.refl _,.refl _,Ent.nil,trivial⟩,trivial⟩ rfl ?_
   refine R_see 5 rfl (v':=iV ((l.length:Int) - 1)) (Ent.wrap (by rw [Tm.rows_length]) (by omega) (by omega)) ?_
   refine R_cut2 (fun _:Unit=>([(2,.lo 2 0),(4,.lo 3 0)],rdX S0 L (mustR L S0.length st1 [93]) deep++[boxZ,bxT (consT l (fnT [91,93] []))])) (fun _=>True) rfl ?_ ?_
   ·refine R_loop (fun n:Nat=>([(2,.lo 2 0),(3,.d (.sl (Tm.rows l))),(4,.lo 3 0),(5,iV ((n:Int) - 1))],rdX S0 L (mustR L S0.length st1 [93]) deep++[boxZ,bxT (consT (l.drop n) (fnT [91,93] []))])) (fun n=>n≤l.length) (fun n=>n) l.length (Nat.le_refl _) ⟨.refl _,.refl _,.refl _,.refl _,trivial⟩ (by rw [List.drop_length]; rfl) ?_
    intro n hn
    refine R_run hg.ok 1000 rfl rfl ?_
    refine R_if rfl rfl (fun h=>?_) (fun h=>?_) <;> refine R_run hg.ok 1000 rfl rfl ?_
    ·have hn0:0<n:=by have:=of_decide_eq_true h; omega
     obtain ⟨n,rfl⟩:∃ m,n=m+1:=⟨n - 1,by omega⟩
     have hlt:n<l.length:=hn
     have hdr:l.drop n=l[n]::l.drop (n+1):=List.drop_eq_getElem_cons hlt
     have hix:(Tm.rows l)[n]? = some (rwT l[n]):=by rw [← rwT_rows]; simp [hlt]
     generalize l[n]=a at hdr hix
     refine R_index hg.ok rfl rfl rfl rfl rfl rfl (by omega) (by rw [show (((n+1:Nat):Int) - 1).toNat=n by omega]; exact hix) rfl ?_
     have hcons:consT (a::l.drop (n+1)) (fnT [91,93] [])=fnT [46] [a,consT (l.drop (n+1)) (fnT [91,93] [])]:=rfl
     have ha:Ob.box [.d (.v (.int .i64 3)),.d (.v (.string ⟨#[46]⟩)),.d (.v (.int .i64 0)),.d (.sl [rwT a,rwT (consT (l.drop (n+1)) (fnT [91,93] []))])]=bxT (consT (l.drop n) (fnT [91,93] [])):=by rw [hdr,hcons,bxT_fn,← rwT_rows]; rfl
     first
     | (refine R_run hg.ok 1 rfl rfl ?_; refine R_obs (rdX S0 L (mustR L S0.length st1 [93]) deep++[boxZ,.box [.d (.v (.int .i64 3)),.d (.v (.string ⟨#[46]⟩)),.d (.v (.int .i64 0)),.d (.sl [rwT a,rwT (consT (l.drop (n+1)) (fnT [91,93] []))])]]) ⟨.refl _,.refl _,.refl _,⟨.refl _,.refl _,.refl _,Ent.fs _,trivial⟩,trivial⟩ rfl ?_)
     | (refine R_run hg.ok 2 rfl rfl ?_; refine R_obs (rdX S0 L (mustR L S0.length st1 [93]) deep++[boxZ,.box [.d (.v (.int .i64 3)),.d (.v (.string ⟨#[46]⟩)),.d (.v (.int .i64 0)),.d (.sl [rwT a,rwT (consT (l.drop (n+1)) (fnT [91,93] []))])]]) ⟨.refl _,.refl _,.refl _,⟨.refl _,.refl _,.refl _,Ent.fs _,trivial⟩,trivial⟩ rfl ?_)
     | (refine R_run hg.ok 3 rfl rfl ?_; refine R_obs (rdX S0 L (mustR L S0.length st1 [93]) deep++[boxZ,.box [.d (.v (.int .i64 3)),.d (.v (.string ⟨#[46]⟩)),.d (.v (.int .i64 0)),.d (.sl [rwT a,rwT (consT (l.drop (n+1)) (fnT [91,93] []))])]]) ⟨.refl _,.refl _,.refl _,⟨.refl _,.refl _,.refl _,Ent.fs _,trivial⟩,trivial⟩ rfl ?_)
     | (refine R_run hg.ok 6 rfl rfl ?_; refine R_obs (rdX S0 L (mustR L S0.length st1 [93]) deep++[boxZ,.box [.d (.v (.int .i64 3)),.d (.v (.string ⟨#[46]⟩)),.d (.v (.int .i64 0)),.d (.sl [rwT a,rwT (consT (l.drop (n+1)) (fnT [91,93] []))])]]) ⟨.refl _,.refl _,.refl _,⟨.refl _,.refl _,.refl _,Ent.fs _,trivial⟩,trivial⟩ rfl ?_)
     rw [ha]
     refine R_run hg.ok 1000 rfl rfl ?_
     exact R_next n (by omega) (by omega) ⟨.refl _,.refl _,.refl _,Ent.wrap (by omega) (by omega) (by omega),trivial⟩ rfl
    ·have hn0:n=0:=by have:=of_decide_eq_false h; omega
     subst hn0
     exact R_to () trivial ⟨.refl _,.refl _,trivial⟩ rfl
   rintro _ _
   refine R_run hg.ok 1000 rfl rfl ?_
   exact R_retS hg 2 5 (Nat.le_refl _) rfl rfl (hk _ _)
 | inr p =>
  obtain ⟨l',j⟩:=p
  have ho:l=l':=ho.symm
  subst ho
  refine R_freezeO hg.gup 3 [(0,.lo 0 0),(2,.lo 2 0),(3,.d (.sl (Tm.rows l)))] (rdX S0 L st1 deep++[boxZ,.dead]) rfl rfl ⟨.refl _,.refl _,Ent.frz 3 j _,trivial⟩ ⟨⟨.refl _,.refl _,.refl _,.refl _,.refl _,.refl _,.refl _,.refl _,.refl _,.refl _,Ent.tblFrz 3 j _ st1.lay,trivial⟩,rfl,⟨.refl _,.refl _,.refl _,.refl _,trivial⟩,by simp [ObIn],trivial⟩ ?_
  have hM:=xMark Y S0 L hL st1 deep [124]
  cases hmk:isMk (peekR L st1) [124] with
  | true =>
   rw [hmk] at h2 hM
   simp only [if_true] at h2 hM
   refine R_run hg.ok 1000 rfl rfl ?_
   refine R_callSO hg.ok hg.gup hg.wide hg.Y [0,1] (rdX S0 L (nxR st1) deep++[boxZ,.dead,bxN]) (hM) (fun _=>rfl) rfl rfl rfl rfl rfl (by rw [rdX_ren]; rfl) rfl (by rw [rdX_ren]; rfl) ?_
   refine R_run hg.ok 1000 rfl rfl ?_
   obtain ⟨⟨y,st2⟩,hy,h2⟩:=Option.map_eq_some_iff.1 h2
   obtain ⟨rfl,rfl⟩:=Prod.mk.inj h2
   have hi2:=hi1.nx (isMk_lt hmk).2
   refine R_if rfl rfl (fun _=>?_) (fun h=>absurd h (by simp)) <;> refine R_run hg.ok 1000 rfl rfl ?_
   refine R_callSO hg.ok hg.gup hg.wide hg.Y [0,1] (rdX S0 L (st2) deep++[boxZ,.dead,bxN]) (hT deep 999 (nxR st1) y st2 hy hd hi2) (fun _=>rfl) rfl rfl rfl rfl rfl (by rw [rdX_ren]; rfl) rfl (by rw [rdX_ren]; rfl) ?_
   refine R_run hg.ok 1000 rfl rfl ?_
   refine R_callSO hg.ok hg.gup hg.wide hg.Y [0,1] (rdX S0 L (mustR L S0.length st2 [93]) deep++[boxZ,.dead,bxT (y)]) (xMust Y S0 L hL st2 deep [93]) (fun _=>rfl) rfl rfl rfl rfl rfl (by rw [rdX_ren]; rfl) rfl (by rw [rdX_ren]; rfl) ?_
   refine R_run hg.ok 1000 rfl rfl ?_
   refine R_see 5 rfl (v':=iV ((l.length:Int) - 1)) (Ent.wrap (by rw [Tm.rows_length]) (by omega) (by omega)) ?_
   refine R_cut2 (fun _:Unit=>([(2,.lo 2 0),(4,.lo 4 0)],rdX S0 L (mustR L S0.length st2 [93]) deep++[boxZ,.dead,bxT (consT l (y))])) (fun _=>True) rfl ?_ ?_
   ·refine R_loop (fun n:Nat=>([(2,.lo 2 0),(3,.d (.sl (Tm.rows l))),(4,.lo 4 0),(5,iV ((n:Int) - 1))],rdX S0 L (mustR L S0.length st2 [93]) deep++[boxZ,.dead,bxT (consT (l.drop n) (y))])) (fun n=>n≤l.length) (fun n=>n) l.length (Nat.le_refl _) ⟨.refl _,.refl _,.refl _,.refl _,trivial⟩ (by rw [List.drop_length]; rfl) ?_
    intro n hn
    refine R_run hg.ok 1000 rfl rfl ?_
    refine R_if rfl rfl (fun h=>?_) (fun h=>?_) <;> refine R_run hg.ok 1000 rfl rfl ?_
    ·have hn0:0<n:=by have:=of_decide_eq_true h; omega
     obtain ⟨n,rfl⟩:∃ m,n=m+1:=⟨n - 1,by omega⟩
     have hlt:n<l.length:=hn
     have hdr:l.drop n=l[n]::l.drop (n+1):=List.drop_eq_getElem_cons hlt
     have hix:(Tm.rows l)[n]? = some (rwT l[n]):=by rw [← rwT_rows]; simp [hlt]
     generalize l[n]=a at hdr hix
     refine R_index hg.ok rfl rfl rfl rfl rfl rfl (by omega) (by rw [show (((n+1:Nat):Int) - 1).toNat=n by omega]; exact hix) rfl ?_
     have hcons:consT (a::l.drop (n+1)) (y)=fnT [46] [a,consT (l.drop (n+1)) (y)]:=rfl
     have ha:Ob.box [.d (.v (.int .i64 3)),.d (.v (.string ⟨#[46]⟩)),.d (.v (.int .i64 0)),.d (.sl [rwT a,rwT (consT (l.drop (n+1)) (y))])]=bxT (consT (l.drop n) (y)):=by rw [hdr,hcons,bxT_fn,← rwT_rows]; rfl
     first
     | (refine R_run hg.ok 1 rfl rfl ?_; refine R_obs (rdX S0 L (mustR L S0.length st2 [93]) deep++[boxZ,.dead,.box [.d (.v (.int .i64 3)),.d (.v (.string ⟨#[46]⟩)),.d (.v (.int .i64 0)),.d (.sl [rwT a,rwT (consT (l.drop (n+1)) (y))])]]) ⟨.refl _,.refl _,.refl _,.refl _,⟨.refl _,.refl _,.refl _,Ent.fs _,trivial⟩,trivial⟩ rfl ?_)
     | (refine R_run hg.ok 2 rfl rfl ?_; refine R_obs (rdX S0 L (mustR L S0.length st2 [93]) deep++[boxZ,.dead,.box [.d (.v (.int .i64 3)),.d (.v (.string ⟨#[46]⟩)),.d (.v (.int .i64 0)),.d (.sl [rwT a,rwT (consT (l.drop (n+1)) (y))])]]) ⟨.refl _,.refl _,.refl _,.refl _,⟨.refl _,.refl _,.refl _,Ent.fs _,trivial⟩,trivial⟩ rfl ?_)
     | (refine R_run hg.ok 3 rfl rfl ?_; refine R_obs (rdX S0 L (mustR L S0.length st2 [93]) deep++[boxZ,.dead,.box [.d (.v (.int .i64 3)),.d (.v (.string ⟨#[46]⟩)),.d (.v (.int .i64 0)),.d (.sl [rwT a,rwT (consT (l.drop (n+1)) (y))])]]) ⟨.refl _,.refl _,.refl _,.refl _,⟨.refl _,.refl _,.refl _,Ent.fs _,trivial⟩,trivial⟩ rfl ?_)
     | (refine R_run hg.ok 6 rfl rfl ?_; refine R_obs (rdX S0 L (mustR L S0.length st2 [93]) deep++[boxZ,.dead,.box [.d (.v (.int .i64 3)),.d (.v (.string ⟨#[46]⟩)),.d (.v (.int .i64 0)),.d (.sl [rwT a,rwT (consT (l.drop (n+1)) (y))])]]) ⟨.refl _,.refl _,.refl _,.refl _,⟨.refl _,.refl _,.refl _,Ent.fs _,trivial⟩,trivial⟩ rfl ?_)
     rw [ha]
     refine R_run hg.ok 1000 rfl rfl ?_
     exact R_next n (by omega) (by omega) ⟨.refl _,.refl _,.refl _,Ent.wrap (by omega) (by omega) (by omega),trivial⟩ rfl
    ·have hn0:n=0:=by have:=of_decide_eq_false h; omega
     subst hn0
     exact R_to () trivial ⟨.refl _,.refl _,trivial⟩ rfl
   rintro _ _
   refine R_run hg.ok 1000 rfl rfl ?_
   exact R_retS hg 2 5 (Nat.le_refl _) rfl rfl (hk _ _)
  | false =>
   rw [hmk] at h2 hM
   simp only [Bool.false_eq_true,if_false] at h2 hM
   refine R_run hg.ok 1000 rfl rfl ?_
   refine R_callSO hg.ok hg.gup hg.wide hg.Y [0,1] (rdX S0 L (st1) deep++[boxZ,.dead,bxN]) (hM) (fun _=>rfl) rfl rfl rfl rfl rfl (by rw [rdX_ren]; rfl) rfl (by rw [rdX_ren]; rfl) ?_
   refine R_run hg.ok 1000 rfl rfl ?_
   have h2:=Option.some.inj h2
   obtain ⟨rfl,rfl⟩:=Prod.mk.inj h2
   refine R_if rfl rfl (fun h=>absurd h (by simp)) (fun _=>?_) <;> refine R_run hg.ok 1000 rfl rfl ?_
   refine R_callSO hg.ok hg.gup hg.wide hg.Y [0,1] (rdX S0 L (mustR L S0.length st1 [93]) deep++[boxZ,.dead,bxN]) (xMust Y S0 L hL st1 deep [93]) (fun _=>rfl) rfl rfl rfl rfl rfl (by rw [rdX_ren]; rfl) rfl (by rw [rdX_ren]; rfl) ?_
   refine R_run hg.ok 1000 rfl rfl ?_
   refine R_obs (rdX S0 L (mustR L S0.length st1 [93]) deep++[boxZ,.dead,bxT (fnT [91,93] [])]) ⟨.refl _,.refl _,.refl _,.refl _,⟨.refl _,.refl _,.refl _,Ent.nil,trivial⟩,trivial⟩ rfl ?_
   refine R_see 5 rfl (v':=iV ((l.length:Int) - 1)) (Ent.wrap (by rw [Tm.rows_length]) (by omega) (by omega)) ?_
   refine R_cut2 (fun _:Unit=>([(2,.lo 2 0),(4,.lo 4 0)],rdX S0 L (mustR L S0.length st1 [93]) deep++[boxZ,.dead,bxT (consT l (fnT [91,93] []))])) (fun _=>True) rfl ?_ ?_
   ·refine R_loop (fun n:Nat=>([(2,.lo 2 0),(3,.d (.sl (Tm.rows l))),(4,.lo 4 0),(5,iV ((n:Int) - 1))],rdX S0 L (mustR L S0.length st1 [93]) deep++[boxZ,.dead,bxT (consT (l.drop n) (fnT [91,93] []))])) (fun n=>n≤l.length) (fun n=>n) l.length (Nat.le_refl _) ⟨.refl _,.refl _,.refl _,.refl _,trivial⟩ (by rw [List.drop_length]; rfl) ?_
    intro n hn
    refine R_run hg.ok 1000 rfl rfl ?_
    refine R_if rfl rfl (fun h=>?_) (fun h=>?_) <;> refine R_run hg.ok 1000 rfl rfl ?_
    ·have hn0:0<n:=by have:=of_decide_eq_true h; omega
     obtain ⟨n,rfl⟩:∃ m,n=m+1:=⟨n - 1,by omega⟩
     have hlt:n<l.length:=hn
     have hdr:l.drop n=l[n]::l.drop (n+1):=List.drop_eq_getElem_cons hlt
     have hix:(Tm.rows l)[n]? = some (rwT l[n]):=by rw [← rwT_rows]; simp [hlt]
     generalize l[n]=a at hdr hix
     refine R_index hg.ok rfl rfl rfl rfl rfl rfl (by omega) (by rw [show (((n+1:Nat):Int) - 1).toNat=n by omega]; exact hix) rfl ?_
     have hcons:consT (a::l.drop (n+1)) (fnT [91,93] [])=fnT [46] [a,consT (l.drop (n+1)) (fnT [91,93] [])]:=rfl
     have ha:Ob.box [.d (.v (.int .i64 3)),.d (.v (.string ⟨#[46]⟩)),.d (.v (.int .i64 0)),.d (.sl [rwT a,rwT (consT (l.drop (n+1)) (fnT [91,93] []))])]=bxT (consT (l.drop n) (fnT [91,93] [])):=by rw [hdr,hcons,bxT_fn,← rwT_rows]; rfl
     first
     | (refine R_run hg.ok 1 rfl rfl ?_; refine R_obs (rdX S0 L (mustR L S0.length st1 [93]) deep++[boxZ,.dead,.box [.d (.v (.int .i64 3)),.d (.v (.string ⟨#[46]⟩)),.d (.v (.int .i64 0)),.d (.sl [rwT a,rwT (consT (l.drop (n+1)) (fnT [91,93] []))])]]) ⟨.refl _,.refl _,.refl _,.refl _,⟨.refl _,.refl _,.refl _,Ent.fs _,trivial⟩,trivial⟩ rfl ?_)
     | (refine R_run hg.ok 2 rfl rfl ?_; refine R_obs (rdX S0 L (mustR L S0.length st1 [93]) deep++[boxZ,.dead,.box [.d (.v (.int .i64 3)),.d (.v (.string ⟨#[46]⟩)),.d (.v (.int .i64 0)),.d (.sl [rwT a,rwT (consT (l.drop (n+1)) (fnT [91,93] []))])]]) ⟨.refl _,.refl _,.refl _,.refl _,⟨.refl _,.refl _,.refl _,Ent.fs _,trivial⟩,trivial⟩ rfl ?_)
     | (refine R_run hg.ok 3 rfl rfl ?_; refine R_obs (rdX S0 L (mustR L S0.length st1 [93]) deep++[boxZ,.dead,.box [.d (.v (.int .i64 3)),.d (.v (.string ⟨#[46]⟩)),.d (.v (.int .i64 0)),.d (.sl [rwT a,rwT (consT (l.drop (n+1)) (fnT [91,93] []))])]]) ⟨.refl _,.refl _,.refl _,.refl _,⟨.refl _,.refl _,.refl _,Ent.fs _,trivial⟩,trivial⟩ rfl ?_)
     | (refine R_run hg.ok 6 rfl rfl ?_; refine R_obs (rdX S0 L (mustR L S0.length st1 [93]) deep++[boxZ,.dead,.box [.d (.v (.int .i64 3)),.d (.v (.string ⟨#[46]⟩)),.d (.v (.int .i64 0)),.d (.sl [rwT a,rwT (consT (l.drop (n+1)) (fnT [91,93] []))])]]) ⟨.refl _,.refl _,.refl _,.refl _,⟨.refl _,.refl _,.refl _,Ent.fs _,trivial⟩,trivial⟩ rfl ?_)
     rw [ha]
     refine R_run hg.ok 1000 rfl rfl ?_
     exact R_next n (by omega) (by omega) ⟨.refl _,.refl _,.refl _,Ent.wrap (by omega) (by omega) (by omega),trivial⟩ rfl
    ·have hn0:n=0:=by have:=of_decide_eq_false h; omega
     subst hn0
     exact R_to () trivial ⟨.refl _,.refl _,trivial⟩ rfl
   rintro _ _
   refine R_run hg.ok 1000 rfl rfl ?_
   exact R_retS hg 2 5 (Nat.le_refl _) rfl rfl (hk _ _)
end Go.Proofs.YtchhahnajgfeaaaGreatDoor

namespace Go.Proofs.YtchhahnajgfeaaaGreatDoor
open Go PSL Go.Proofs
def pfNam:Nat→Cls:=fun f=>bif Nat.beq f 86 then .turn 3 else bif Nat.beq f 35 then .turn 3 else bif Nat.beq f 4000100067 then .look 4 else bif Nat.beq f 4000100092 then .look 4 else .eff

set_option maxRecDepth 100000 in
theorem rdNamed_ok (Y:YP) (S0:Bs) (L:List Tk) (hL:L.length≤9000) (hS:S0.length≤9000) {T:TF} (hT:TCtr Y S0 L T) (hG:TGood L T) (deep:Nat) (hd:deep≤1000) (st:RSt) (hi:RInv L st) (hl:st.at_<L.length) (hpl:∀ t∈L,0≤t.at_∧t.at_<S0.length∧0≤t.n∧t.n≤9223372036854775807) (p:Int) (t:Tk) (ht:t∈L) (x:Tm × Int × RSt) (h:namedR S0 L T deep p t st=some x) :
  SCtr Tryz.prog Y 71 [.lo 0 0,tkA t,iV p] (rdX S0 L st deep) (.tup [x.1.av,iV x.2.1]) (rdX S0 L x.2.2 deep):=by
 refine SCtr.of_R (pf:=pfNam) tyOk mixed Tryz.func71 rfl (by kernel_rfl) (by kernel_rfl) (by simp [Tryz.ntmps71]) (by simp [rdX,rdO,robj]) fun w S φ hg=>?_
 have hφ:φ.length=2:=hg.hs0.len
 have hk:∀ (st:RSt) (o:List Ob),(rdX S0 L st deep).map (mapOb (sealT false 2 o 5))=rdX S0 L st deep:=fun st o=>rdX_keep _ _ _ _ _ _ (Nat.le_refl _)
 have hn:=hi.nx hl
 have ht1:=hpl t ht
 obtain ⟨M,hM⟩:∃ M,M=((t.text==[45])&&decide (S0[t.at_.toNat]? = some 45)):=⟨_,rfl⟩
 refine R_run hg.ok 4 rfl rfl ?_
 refine R_cut1 (fun _:Unit=>([(0,.lo 0 0),(2,iV p),(4,.lo 2 0),(6,.lo 3 0),(8,bV M)],rdX S0 L st deep++[tkO t,boxZ])) (fun _=>True) rfl ?_ ?_
 ·have e45:strEq (Tx t.text) ⟨#[45]⟩=(t.text==[45]):=Tx_eq _ _
  refine R_run hg.ok 1000 rfl rfl ?_
  by_cases h45:t.text=[45]
  ·refine R_if rfl rfl (fun _=>?_) (fun h=>absurd h (by rw [e45,h45]; simp)) <;> refine R_run hg.ok 1000 rfl rfl ?_
   have hlt:t.at_.toNat<S0.length:=by omega
   have e1:S0[t.at_.toNat]? = some S0[t.at_.toNat]:=List.getElem?_eq_getElem hlt
   generalize S0[t.at_.toNat]=c at e1
   rw [e1] at hM
   refine R_indexS hg.ok rfl rfl rfl rfl rfl ht1.1 (b:=c) (by rw [Tx_get]; exact e1) ?_
   have hc:decide ((c.toNat:Int)=45)=M:=by
    rw [hM,h45]
    by_cases hc:c=45
    ·subst hc; rfl
    ·have:¬ (c.toNat:Int)=45:=fun h=>hc (UInt8.toNat_inj.1 (Int.ofNat_inj.1 (show ((c.toNat:Nat):Int)=(((45:UInt8).toNat:Nat):Int) from h)))
     simp [hc,this]
   refine R_run hg.ok 1000 rfl rfl ?_
   exact R_to () trivial ⟨.refl _,.refl _,.refl _,.refl _,by rw [← hc]; exact .refl _,trivial⟩ rfl
  ·refine R_if rfl rfl (fun h=>absurd h (by rw [e45]; simpa using h45)) (fun _=>?_) <;> refine R_run hg.ok 1000 rfl rfl ?_
   have hM:M=false:=by rw [hM]; simp [h45]
   subst hM
   exact R_to () trivial ⟨.refl _,.refl _,.refl _,.refl _,by first | exact .refl _ | exact Ent.ff,trivial⟩ rfl
 rintro _ _
 first
 | (refine R_run hg.ok 1 rfl rfl ?_; refine R_rdAt (st:=st) (st.at_+1) (rfl) (by omega) rfl ?_)
 | (refine R_run hg.ok 2 rfl rfl ?_; refine R_rdAt (st:=st) (st.at_+1) (rfl) (by omega) rfl ?_)
 | (refine R_run hg.ok 3 rfl rfl ?_; refine R_rdAt (st:=st) (st.at_+1) (rfl) (by omega) rfl ?_)
 | (refine R_run hg.ok 4 rfl rfl ?_; refine R_rdAt (st:=st) (st.at_+1) (rfl) (by omega) rfl ?_)
 | (refine R_run hg.ok 5 rfl rfl ?_; refine R_rdAt (st:=st) (st.at_+1) (rfl) (by omega) rfl ?_)
 | (refine R_run hg.ok 6 rfl rfl ?_; refine R_rdAt (st:=st) (st.at_+1) (rfl) (by omega) rfl ?_)
 | (refine R_run hg.ok 7 rfl rfl ?_; refine R_rdAt (st:=st) (st.at_+1) (rfl) (by omega) rfl ?_)
 refine R_run hg.ok 1000 rfl rfl ?_
 refine R_callSO hg.ok hg.gup hg.wide hg.Y [0,1] (rdX S0 L (nxR st) deep++[tkO t,boxZ]) (xPeek Y S0 L (nxR st) deep) (fun _=>rfl) rfl rfl rfl rfl rfl (by rw [rdX_ren]; rfl) rfl (by rw [rdX_ren]; rfl) ?_
 refine R_run hg.ok 1000 rfl rfl ?_
 refine R_call hg.ok (rdPrefix_ok t.text) rfl rfl rfl rfl rfl rfl ?_
 refine R_run hg.ok 1000 rfl rfl ?_
 unfold namedR at h
 have hpk:=peek_lt (L:=L) (st:=nxR st)
 have hum:(peekR L (nxR st)).kind≠0→peekR L (nxR st)∈L:=fun h=>by
  have:=hpk h
  unfold peekR
  rw [if_neg (by simpa using this.1),List.getElem?_eq_getElem this.2]
  exact List.getElem_mem _
 rw [show minR S0 t (peekR L (nxR st))=(M&&decide ((peekR L (nxR st)).kind=3)&&decide ((peekR L (nxR st)).at_=t.at_+1)) by rw [hM]; rfl] at h
 obtain ⟨u,hu⟩:∃ u,u=peekR L (nxR st):=⟨_,rfl⟩
 rw [← hu] at h hpk hum ⊢
 obtain ⟨mr,hmr⟩:∃ mr,mr=(M&&decide (u.kind=3)&&decide (u.at_=t.at_+1)):=⟨_,rfl⟩
 have hw:IntKind.i64.wrap (t.at_+1)=t.at_+1:=wrap_id (by omega) (by omega)
 refine R_cut1 (fun _:Unit=>([(0,.lo 0 0),(2,iV p),(4,.lo 2 0),(6,.lo 3 0),(9,.lo 4 0),(10,iV (preT t.text)),(36,bV mr)],rdX S0 L (nxR st) deep++[tkO t,boxZ,tkO u])) (fun _=>True) rfl ?_ ?_
 ·cases M with
  | false =>
   refine R_if rfl rfl (fun h=>absurd h (by simp)) (fun _=>?_) <;> refine R_run hg.ok 1000 rfl rfl ?_
   have hmr:mr=false:=by rw [hmr]; rfl
   subst hmr
   exact R_to () trivial ⟨.refl _,.refl _,.refl _,.refl _,.refl _,.refl _,by first | exact .refl _ | exact Ent.ff,trivial⟩ rfl
  | true =>
   refine R_if rfl rfl (fun _=>?_) (fun h=>absurd h (by simp)) <;> refine R_run hg.ok 1000 rfl rfl ?_
   by_cases h3:u.kind=3
   ·refine R_if rfl rfl (fun _=>?_) (fun h=>absurd h (by simp [h3])) <;> refine R_run hg.ok 1000 rfl rfl ?_
    have hmr:decide (u.at_=IntKind.i64.wrap (t.at_+1))=mr:=by rw [hmr,hw]; simp [h3]
    exact R_to () trivial ⟨.refl _,.refl _,.refl _,.refl _,.refl _,.refl _,by rw [← hmr]; exact .refl _,trivial⟩ rfl
   ·refine R_if rfl rfl (fun h=>absurd h (by simp [h3])) (fun _=>?_) <;> refine R_run hg.ok 1000 rfl rfl ?_
    have hmr:mr=false:=by rw [hmr]; simp [h3]
    subst hmr
    exact R_to () trivial ⟨.refl _,.refl _,.refl _,.refl _,.refl _,.refl _,by first | exact .refl _ | exact Ent.ff,trivial⟩ rfl
 rintro _ _
 rw [← hmr] at h
 refine R_run hg.ok 1000 rfl rfl ?_
 cases mr with
 | true =>
  have hk3:u.kind=3:=by
   have:=hmr.symm
   simp only [Bool.and_eq_true,decide_eq_true_eq] at this
   exact this.1.2
  have hul:=(hpk (by rw [hk3]; decide)).2
  have hu1:=hpl u (hum (by rw [hk3]; decide))
  simp only [if_true,Option.some.injEq] at h
  subst h
  simp only
  refine R_if rfl rfl (fun _=>?_) (fun h=>absurd h (by simp))
  first
  | (refine R_run hg.ok 1 rfl rfl ?_; refine R_rdAt (st:=nxR st) (st.at_+1+1) (rfl) (by omega) rfl ?_)
  | (refine R_run hg.ok 2 rfl rfl ?_; refine R_rdAt (st:=nxR st) (st.at_+1+1) (rfl) (by omega) rfl ?_)
  | (refine R_run hg.ok 3 rfl rfl ?_; refine R_rdAt (st:=nxR st) (st.at_+1+1) (rfl) (by omega) rfl ?_)
  | (refine R_run hg.ok 4 rfl rfl ?_; refine R_rdAt (st:=nxR st) (st.at_+1+1) (rfl) (by omega) rfl ?_)
  | (refine R_run hg.ok 5 rfl rfl ?_; refine R_rdAt (st:=nxR st) (st.at_+1+1) (rfl) (by omega) rfl ?_)
  | (refine R_run hg.ok 6 rfl rfl ?_; refine R_rdAt (st:=nxR st) (st.at_+1+1) (rfl) (by omega) rfl ?_)
  | (refine R_run hg.ok 7 rfl rfl ?_; refine R_rdAt (st:=nxR st) (st.at_+1+1) (rfl) (by omega) rfl ?_)
  | (refine R_run hg.ok 8 rfl rfl ?_; refine R_rdAt (st:=nxR st) (st.at_+1+1) (rfl) (by omega) rfl ?_)
  first
  | (refine R_run hg.ok 1 rfl rfl ?_; refine R_obs (rdX S0 L (nxR (nxR st)) deep++[tkO t,.box [.d (.v (.int .i64 2)),.d (.v (.string ByteArray.empty)),iV (-u.n),.d (.v (.slice none 0 0))],tkO u]) ⟨.refl _,.refl _,.refl _,⟨.refl _,.refl _,Ent.wrap (by omega) (by omega) (by omega),.refl _,trivial⟩,.refl _,trivial⟩ rfl ?_)
  | (refine R_run hg.ok 2 rfl rfl ?_; refine R_obs (rdX S0 L (nxR (nxR st)) deep++[tkO t,.box [.d (.v (.int .i64 2)),.d (.v (.string ByteArray.empty)),iV (-u.n),.d (.v (.slice none 0 0))],tkO u]) ⟨.refl _,.refl _,.refl _,⟨.refl _,.refl _,Ent.wrap (by omega) (by omega) (by omega),.refl _,trivial⟩,.refl _,trivial⟩ rfl ?_)
  | (refine R_run hg.ok 3 rfl rfl ?_; refine R_obs (rdX S0 L (nxR (nxR st)) deep++[tkO t,.box [.d (.v (.int .i64 2)),.d (.v (.string ByteArray.empty)),iV (-u.n),.d (.v (.slice none 0 0))],tkO u]) ⟨.refl _,.refl _,.refl _,⟨.refl _,.refl _,Ent.wrap (by omega) (by omega) (by omega),.refl _,trivial⟩,.refl _,trivial⟩ rfl ?_)
  | (refine R_run hg.ok 4 rfl rfl ?_; refine R_obs (rdX S0 L (nxR (nxR st)) deep++[tkO t,.box [.d (.v (.int .i64 2)),.d (.v (.string ByteArray.empty)),iV (-u.n),.d (.v (.slice none 0 0))],tkO u]) ⟨.refl _,.refl _,.refl _,⟨.refl _,.refl _,Ent.wrap (by omega) (by omega) (by omega),.refl _,trivial⟩,.refl _,trivial⟩ rfl ?_)
  | (refine R_run hg.ok 5 rfl rfl ?_; refine R_obs (rdX S0 L (nxR (nxR st)) deep++[tkO t,.box [.d (.v (.int .i64 2)),.d (.v (.string ByteArray.empty)),iV (-u.n),.d (.v (.slice none 0 0))],tkO u]) ⟨.refl _,.refl _,.refl _,⟨.refl _,.refl _,Ent.wrap (by omega) (by omega) (by omega),.refl _,trivial⟩,.refl _,trivial⟩ rfl ?_)
  refine R_run hg.ok 1000 rfl rfl ?_
  exact R_retS hg 2 5 (Nat.le_refl _) rfl rfl (hk (nxR (nxR st)) _)
 | false =>
  simp only [Bool.false_eq_true,if_false] at h
  refine R_if rfl rfl (fun h=>absurd h (by simp)) (fun _=>?_) <;> refine R_run hg.ok 1000 rfl rfl ?_
  by_cases ho:t.opn=true
  ·rw [if_pos ho] at h
   obtain ⟨⟨l,st1⟩,h1,h⟩:=Option.map_eq_some_iff.1 h
   subst h
   simp only
   refine R_if rfl rfl (fun _=>?_) (fun h=>absurd h (by simp [ho])) <;> refine R_run hg.ok 1000 rfl rfl ?_
   refine R_callSO hg.ok hg.gup hg.wide hg.Y [0,1] (rdX S0 L (mustR L S0.length (nxR st) [40]) deep++[tkO t,boxZ,tkO u]) (xMust Y S0 L hL (nxR st) deep [40]) (fun _=>rfl) rfl rfl rfl rfl rfl (by rw [rdX_ren]; rfl) rfl (by rw [rdX_ren]; rfl) ?_
   refine R_run hg.ok 1000 rfl rfl ?_
   refine R_load4 hg.ok (by show φ.length≤2; omega) rfl rfl rfl rfl rfl rfl rfl ?_
   refine R_run hg.ok 1000 rfl rfl ?_
   refine R_callS3 hg.ok hg.gup hg.wide hg.Y [0,1] (rdX S0 L (mustR L S0.length st1 [41]) deep++[tkO t,boxZ,tkO u]) (rdSeveral_ok Y S0 L hL hT hG deep hd _ hn.must l st1 h1 [41]) (fun _=>rfl) (fun i hi=>by show i<φ.length; simp at hi; omega) rfl rfl rfl rfl rfl (by rw [rdX_ren]; rfl) rfl (by rw [rdX_ren]; rfl) ?_
   refine R_run hg.ok 1000 rfl rfl ?_
   exact R_retS hg 2 5 (Nat.le_refl _) rfl rfl (hk _ _)
  rw [if_neg ho] at h
  refine R_if rfl rfl (fun h=>absurd h (by simp [ho])) (fun _=>?_) <;> refine R_run hg.ok 1000 rfl rfl ?_
  by_cases hp:0<preT t.text
  ·rw [if_pos hp] at h
   refine R_if rfl rfl (fun _=>?_) (fun h=>absurd h (by simp [hp])) <;> refine R_run hg.ok 1000 rfl rfl ?_
   have hB:=xBegins Y S0 L (nxR st) deep
   cases hb:begR L (nxR st) with
   | true =>
    rw [hb] at h hB
    simp only [if_true] at h
    refine R_callSO hg.ok hg.gup hg.wide hg.Y [0,1] (rdX S0 L (begS L (nxR st)) deep++[tkO t,boxZ,tkO u]) (hB) (fun _=>rfl) rfl rfl rfl rfl rfl (by rw [rdX_ren]; rfl) rfl (by rw [rdX_ren]; rfl) ?_
    refine R_run hg.ok 1000 rfl rfl ?_
    refine R_if rfl rfl (fun _=>?_) (fun h=>absurd h (by simp)) <;> refine R_run hg.ok 1000 rfl rfl ?_
    by_cases hq:preT t.text > p
    ·rw [if_pos hq] at h
     cases h
     have hba:(begS L (nxR st)).at_=st.at_+1:=by unfold begS; split <;> rfl
     refine R_if rfl rfl (fun _=>?_) (fun h=>absurd h (by simp [hq]))
     first
     | (refine R_run hg.ok 1 rfl rfl ?_; refine R_rdAt (st:=begS L (nxR st)) (st.at_) (by rw [hba]; omega) (by omega) rfl ?_)
     | (refine R_run hg.ok 2 rfl rfl ?_; refine R_rdAt (st:=begS L (nxR st)) (st.at_) (by rw [hba]; omega) (by omega) rfl ?_)
     | (refine R_run hg.ok 3 rfl rfl ?_; refine R_rdAt (st:=begS L (nxR st)) (st.at_) (by rw [hba]; omega) (by omega) rfl ?_)
     | (refine R_run hg.ok 4 rfl rfl ?_; refine R_rdAt (st:=begS L (nxR st)) (st.at_) (by rw [hba]; omega) (by omega) rfl ?_)
     | (refine R_run hg.ok 5 rfl rfl ?_; refine R_rdAt (st:=begS L (nxR st)) (st.at_) (by rw [hba]; omega) (by omega) rfl ?_)
     | (refine R_run hg.ok 6 rfl rfl ?_; refine R_rdAt (st:=begS L (nxR st)) (st.at_) (by rw [hba]; omega) (by omega) rfl ?_)
     | (refine R_run hg.ok 7 rfl rfl ?_; refine R_rdAt (st:=begS L (nxR st)) (st.at_) (by rw [hba]; omega) (by omega) rfl ?_)
     | (refine R_run hg.ok 8 rfl rfl ?_; refine R_rdAt (st:=begS L (nxR st)) (st.at_) (by rw [hba]; omega) (by omega) rfl ?_)
     | (refine R_run hg.ok 9 rfl rfl ?_; refine R_rdAt (st:=begS L (nxR st)) (st.at_) (by rw [hba]; omega) (by omega) rfl ?_)
     | (refine R_run hg.ok 10 rfl rfl ?_; refine R_rdAt (st:=begS L (nxR st)) (st.at_) (by rw [hba]; omega) (by omega) rfl ?_)
     | (refine R_run hg.ok 11 rfl rfl ?_; refine R_rdAt (st:=begS L (nxR st)) (st.at_) (by rw [hba]; omega) (by omega) rfl ?_)
     refine R_run hg.ok 1000 rfl rfl ?_
     refine R_callSO hg.ok hg.gup hg.wide hg.Y [0,1] (rdX S0 L (failR L S0.length { begS L (nxR st) with at_:=st.at_ } 2) deep++[tkO t,boxZ,tkO u]) (xFail Y S0 L { begS L (nxR st) with at_:=st.at_ } deep 2) (fun _=>rfl) rfl rfl rfl rfl rfl (by rw [rdX_ren]; rfl) rfl (by rw [rdX_ren]; rfl) ?_
     refine R_run hg.ok 1000 rfl rfl ?_
     exact R_retS hg 2 5 (Nat.le_refl _) rfl rfl (hk _ _)
    ·rw [if_neg hq] at h
     obtain ⟨⟨y,st2⟩,h1,h⟩:=Option.map_eq_some_iff.1 h
     subst h
     simp only
     refine R_if rfl rfl (fun h=>absurd h (by simp [hq])) (fun _=>?_) <;> refine R_run hg.ok 1000 rfl rfl ?_
     refine R_load4 hg.ok (by show φ.length≤2; omega) rfl rfl rfl rfl rfl rfl rfl ?_
     refine R_run hg.ok 1000 rfl rfl ?_
     refine R_callS3 hg.ok hg.gup hg.wide hg.Y [0,1] (rdX S0 L st2 deep++[tkO t,boxZ,tkO u]) (hT deep _ _ y st2 h1 hd hn.beg) (fun _=>rfl) (fun i hi=>by show i<φ.length; simp at hi; omega) rfl rfl rfl rfl rfl (by rw [rdX_ren]; rfl) rfl (by rw [rdX_ren]; rfl) ?_
     refine R_run hg.ok 1000 rfl rfl ?_
     rw [show Tm.av (fnT t.text [y])=AV.agg [.d (.v (.int .i64 3)),.d (.v (.string (Tx t.text))),.d (.v (.int .i64 0)),.d (.sl [rwT y])] by rw [show [rwT y]=Tm.rows [y] from rwT_rows [y]]; rfl]
     exact R_retS hg 2 5 (Nat.le_refl _) rfl rfl (hk _ _)
   | false =>
    rw [hb] at h hB
    simp only [Bool.false_eq_true,if_false] at h
    cases h
    refine R_callSO hg.ok hg.gup hg.wide hg.Y [0,1] (rdX S0 L (begS L (nxR st)) deep++[tkO t,boxZ,tkO u]) (hB) (fun _=>rfl) rfl rfl rfl rfl rfl (by rw [rdX_ren]; rfl) rfl (by rw [rdX_ren]; rfl) ?_
    refine R_run hg.ok 1000 rfl rfl ?_
    refine R_if rfl rfl (fun h=>absurd h (by simp)) (fun _=>?_) <;> refine R_run hg.ok 1000 rfl rfl ?_
    exact R_retS hg 2 5 (Nat.le_refl _) rfl rfl (hk _ _)
  ·rw [if_neg hp] at h
   cases h
   refine R_if rfl rfl (fun h=>absurd h (by simp [hp])) (fun _=>?_) <;> refine R_run hg.ok 1000 rfl rfl ?_
   exact R_retS hg 2 5 (Nat.le_refl _) rfl rfl (hk (nxR st) _)
end Go.Proofs.YtchhahnajgfeaaaGreatDoor

namespace Go.Proofs.YtchhahnajgfeaaaGreatDoor
open Go PSL Go.Proofs

theorem R_rdDeep {g:G} {pf:Nat→Cls} {Fin:Exit→Act→World→Prop} {k:List It} {E:Env} {rest:List Ob} {S:Bs} {L:List Tk} {st:RSt} {mk:Bool} {m:Int} (n:Nat) (hm:m=n) (hb:n<9223372036854775808) (ht:topCode k=true) (h:R g pf Fin k E (rdO S L st n mk++rest)) :
  R g pf Fin k E (.box [.d (.v (.string (Tx S))),.d (.sl (tkRows L)),iV st.at_,.ow 1 st.names.length,.d (.v (.int .i64 (IntKind.i64.wrap m))),iV st.bad,iV st.e,.d (.v (.int .u32 (if mk then 1 else 0))),.d (.v (.int .i32 0)),.d (.v (.int .u32 0)),tblV mk] :: .arr 1 st.names.length (strRows st.names)::rest) :=
 R_obs (rdO S L st n mk++rest) ⟨⟨.refl _,.refl _,.refl _,.refl _,Ent.wrap hm (by omega) (by omega),.refl _,.refl _,.refl _,.refl _,.refl _,.refl _,trivial⟩,rfl,obsIn_refl _⟩ ht h

theorem rdB_ren (S:Bs) (L:List Tk) (st:RSt) (deep:Int) (n:Nat):(rdX S L st deep++[Ob.box [.lo 0 0]]).map (renOb (rn [0,1,2] n))=rdX S L st deep++[Ob.box [.lo 0 0]]:=by
 rw [List.map_append,rdX_ren]; rfl

theorem rdB_keep (S:Bs) (L:List Tk) (st:RSt) (deep:Int) (o:List Ob):(rdX S L st deep++[Ob.box [.lo 0 0]]).map (mapOb (sealT false 3 o 5))=rdX S L st deep++[Ob.box [.lo 0 0]]:=by
 rw [List.map_append,rdX_keep _ _ _ _ _ _ (by decide)]; rfl

set_option maxRecDepth 100000 in
theorem rdDown_ok (Y:YP) (S0:Bs) (L:List Tk) (st:RSt) (deep:Nat) (hd:deep≤1000):DCtr Tryz.prog Y 69 [.lo 2 0] (rdX S0 L st (deep+1:Nat)++[.box [.lo 0 0]]) (.tup []) (rdX S0 L st deep++[.box [.lo 0 0]]):=by
 refine DCtr.of_R (pf:=fun _=>.eff) tyOk mixed Tryz.func69 rfl (by kernel_rfl) (by kernel_rfl) (by simp [Tryz.ntmps69]) (by simp [rdX,rdO,robj]) fun w S φ hg=>?_
 refine R_run hg.ok 1000 rfl rfl ?_
 refine R_rdDeep (st:=st) deep (by omega) (by omega) rfl ?_
 exact R_endD hg 3 5 (Nat.le_refl _) rfl rfl (rdB_keep _ _ _ _ _)

set_option maxRecDepth 100000 in
theorem rdOpnd_ok (Y:YP) (S0:Bs) (L:List Tk) (hL:L.length≤9000) (hS:S0.length≤9000) {T:TF} (hT:TCtr Y S0 L T) (hG:TGood L T) (deep:Nat) (hd:deep≤1000) (st:RSt) (hi:RInv L st) (hpl:∀ t∈L,0≤t.at_∧t.at_<S0.length∧0≤t.n∧t.n≤9223372036854775807) (p:Int) (x:Tm × Int × RSt) (h:opndR false S0 L T deep p st=some x) :
  SCtr Tryz.prog Y 49 [.lo 0 0,iV p] (rdX S0 L st deep) (.tup [x.1.av,iV x.2.1]) (rdX S0 L x.2.2 deep):=by
 refine SCtr.of_RD (pf:=fun _=>.eff) tyOk mixed Tryz.func49 rfl (by kernel_rfl) (by kernel_rfl) (by simp [Tryz.ntmps49]) (by simp [rdX,rdO,robj]) fun w S φ hg=>?_
 have hk:∀ (st:RSt) (o:List Ob),(rdX S0 L st deep).map (mapOb (sealT false 2 o 5))=rdX S0 L st deep:=fun st o=>rdX_keep _ _ _ _ _ _ (Nat.le_refl _)
 unfold opndR at h
 refine R_run hg.ok 1000 rfl rfl ?_
 by_cases hd0:1000≤deep
 ·rw [if_pos hd0] at h
  cases h
  refine R_if rfl rfl (fun _=>?_) (fun h=>absurd h (by simp; omega)) <;> refine R_run hg.ok 1000 rfl rfl ?_
  refine R_callSO hg.ok hg.gup hg.wide hg.Y [0,1] (rdX S0 L (failR L S0.length st 3) deep++[.box [.lo 0 0],boxZ]) (xFail Y S0 L st deep 3) (fun _=>rfl) rfl rfl rfl rfl rfl (by rw [rdX_ren]; rfl) rfl (by rw [rdX_ren]; rfl) ?_
  refine R_run hg.ok 1000 rfl rfl ?_
  exact R_retS hg 2 5 (Nat.le_refl _) rfl rfl (hk _ _)
 have hd:deep<1000:=by omega
 rw [if_neg hd0] at h
 refine R_if rfl rfl (fun h=>absurd h (by simp; omega)) (fun _=>?_)
 first
 | (refine R_run hg.ok 1 rfl rfl ?_; refine R_rdDeep (st:=st) (deep+1) (by omega) (by omega) rfl ?_)
 | (refine R_run hg.ok 2 rfl rfl ?_; refine R_rdDeep (st:=st) (deep+1) (by omega) (by omega) rfl ?_)
 | (refine R_run hg.ok 3 rfl rfl ?_; refine R_rdDeep (st:=st) (deep+1) (by omega) (by omega) rfl ?_)
 | (refine R_run hg.ok 4 rfl rfl ?_; refine R_rdDeep (st:=st) (deep+1) (by omega) (by omega) rfl ?_)
 | (refine R_run hg.ok 5 rfl rfl ?_; refine R_rdDeep (st:=st) (deep+1) (by omega) (by omega) rfl ?_)
 first
 | refine R_defer hg.ok rfl hg.wide 1 rfl ?_
 | (refine R_run hg.ok 1 rfl rfl ?_; refine R_defer hg.ok rfl hg.wide 1 rfl ?_)
 | (refine R_run hg.ok 2 rfl rfl ?_; refine R_defer hg.ok rfl hg.wide 1 rfl ?_)
 refine R_run hg.ok 1000 rfl rfl ?_
 refine R_mark ⟨_,_,_,rfl,?_⟩
 have hg1:=hg.sw [(69,[],[.lo 2 0])]
 refine R_run hg1.ok 1000 rfl rfl ?_
 refine R_callSO hg1.ok hg1.gup hg1.wide hg1.Y [0,1] (rdX S0 L st (deep+1:Nat)++[.box [.lo 0 0],boxZ]) (xPeek Y S0 L st (deep+1:Nat)) (fun _=>rfl) rfl rfl rfl rfl rfl (by rw [rdX_ren]; rfl) rfl (by rw [rdX_ren]; rfl) ?_
 refine R_run hg1.ok 1000 rfl rfl ?_
 have hpk:=peek_lt (L:=L) (st:=st)
 have hum:(peekR L st).kind≠0→peekR L st∈L:=fun h=>by
  have:=hpk h
  unfold peekR
  rw [if_neg (by simpa using this.1),List.getElem?_eq_getElem this.2]
  exact List.getElem_mem _
 have hM1:=xMark Y S0 L hL st (deep+1:Nat) [40]
 have hM2:=xMark Y S0 L hL st (deep+1:Nat) [91]
 have hN:=fun x=>rdNamed_ok Y S0 L hL hS hT hG (deep+1) (by omega) st hi
 obtain ⟨u,hu⟩:∃ u,u=peekR L st:=⟨_,rfl⟩
 rw [← hu] at h hpk hum hM1 hM2 ⊢
 by_cases h3:u.kind=3
 ·rw [if_pos h3] at h
  cases h
  have hl:=(hpk (by rw [h3]; decide)).2
  refine R_if rfl rfl (fun _=>?_) (fun h=>absurd h (by simp [h3]))
  first
  | (refine R_run hg1.ok 1 rfl rfl ?_; refine R_rdAt (st:=st) (st.at_+1) (rfl) (by omega) rfl ?_)
  | (refine R_run hg1.ok 2 rfl rfl ?_; refine R_rdAt (st:=st) (st.at_+1) (rfl) (by omega) rfl ?_)
  | (refine R_run hg1.ok 3 rfl rfl ?_; refine R_rdAt (st:=st) (st.at_+1) (rfl) (by omega) rfl ?_)
  | (refine R_run hg1.ok 4 rfl rfl ?_; refine R_rdAt (st:=st) (st.at_+1) (rfl) (by omega) rfl ?_)
  | (refine R_run hg1.ok 5 rfl rfl ?_; refine R_rdAt (st:=st) (st.at_+1) (rfl) (by omega) rfl ?_)
  | (refine R_run hg1.ok 6 rfl rfl ?_; refine R_rdAt (st:=st) (st.at_+1) (rfl) (by omega) rfl ?_)
  | (refine R_run hg1.ok 7 rfl rfl ?_; refine R_rdAt (st:=st) (st.at_+1) (rfl) (by omega) rfl ?_)
  refine R_run hg1.ok 1000 rfl rfl ?_
  refine R_retL ?_
  refine Lv.cons hg [0,1,2] (objs':=rdX S0 L (nxR st) deep++[.box [.lo 0 0],.box [.d (.v (.int .i64 2)),.d (.v (.string ByteArray.empty)),.d (.v (.int .i64 u.n)),.d (.v (.slice none 0 0))],tkO u]) (rdDown_ok Y S0 L (nxR st) deep (Nat.le_of_lt hd)) (fun _=>rfl) rfl (by rw [rdB_ren]; rfl) rfl (by rw [rdB_ren]; rfl) ?_
  exact Lv.nil hg 2 5 (Nat.le_refl _) rfl rfl (hk (nxR st) _)
 rw [if_neg h3] at h
 refine R_if rfl rfl (fun h=>absurd h (by simp [h3])) (fun _=>?_) <;> refine R_run hg1.ok 1000 rfl rfl ?_
 by_cases h2:u.kind=2
 ·rw [if_pos h2] at h
  cases h
  have hl:=(hpk (by rw [h2]; decide)).2
  have hnl:=hi.1
  refine R_if rfl rfl (fun _=>?_) (fun h=>absurd h (by simp [h2]))
  first
  | (refine R_run hg1.ok 1 rfl rfl ?_; refine R_rdAt (st:=st) (st.at_+1) (rfl) (by omega) rfl ?_)
  | (refine R_run hg1.ok 2 rfl rfl ?_; refine R_rdAt (st:=st) (st.at_+1) (rfl) (by omega) rfl ?_)
  | (refine R_run hg1.ok 3 rfl rfl ?_; refine R_rdAt (st:=st) (st.at_+1) (rfl) (by omega) rfl ?_)
  | (refine R_run hg1.ok 4 rfl rfl ?_; refine R_rdAt (st:=st) (st.at_+1) (rfl) (by omega) rfl ?_)
  | (refine R_run hg1.ok 5 rfl rfl ?_; refine R_rdAt (st:=st) (st.at_+1) (rfl) (by omega) rfl ?_)
  | (refine R_run hg1.ok 6 rfl rfl ?_; refine R_rdAt (st:=st) (st.at_+1) (rfl) (by omega) rfl ?_)
  | (refine R_run hg1.ok 7 rfl rfl ?_; refine R_rdAt (st:=st) (st.at_+1) (rfl) (by omega) rfl ?_)
  refine R_run hg1.ok 1000 rfl rfl ?_
  refine R_callSO hg1.ok hg1.gup hg1.wide hg1.Y [0,1] (rdX S0 L (varR (nxR st) u.text).2 (deep+1:Nat)++[.box [.lo 0 0],boxZ,tkO u]) (xVar Y S0 L (nxR st) (by simp only [nxR]; omega) (deep+1:Nat) u.text) (fun _=>rfl) rfl rfl rfl rfl rfl (by rw [rdX_ren]; rfl) rfl (by rw [rdX_ren]; rfl) ?_
  refine R_run hg1.ok 1000 rfl rfl ?_
  refine R_retL ?_
  refine Lv.cons hg [0,1,2] (objs':=rdX S0 L ((varR (nxR st) u.text).2) deep++[.box [.lo 0 0],.box [.d (.v (.int .i64 1)),.d (.v (.string ByteArray.empty)),.d (.v (.int .i64 (varR (nxR st) u.text).1)),.d (.v (.slice none 0 0))],tkO u]) (rdDown_ok Y S0 L ((varR (nxR st) u.text).2) deep (Nat.le_of_lt hd)) (fun _=>rfl) rfl (by rw [rdB_ren]; rfl) rfl (by rw [rdB_ren]; rfl) ?_
  exact Lv.nil hg 2 5 (Nat.le_refl _) rfl rfl (hk ((varR (nxR st) u.text).2) _)
 rw [if_neg h2] at h
 refine R_if rfl rfl (fun h=>absurd h (by simp [h2])) (fun _=>?_) <;> refine R_run hg1.ok 1000 rfl rfl ?_
 by_cases h1:u.kind=1
 ·rw [if_pos h1] at h
  obtain ⟨y,hy,h⟩:=Option.map_eq_some_iff.1 h
  simp only [Bool.false_and,Bool.false_eq_true,if_false] at h
  subst h
  have hl:=(hpk (by rw [h1]; decide)).2
  refine R_if rfl rfl (fun _=>?_) (fun h=>absurd h (by simp [h1])) <;> refine R_run hg1.ok 1000 rfl rfl ?_
  refine R_callSO hg1.ok hg1.gup hg1.wide hg1.Y [0,1] (rdX S0 L y.2.2 (deep+1:Nat)++[.box [.lo 0 0],boxZ,tkO u]) (rdNamed_ok Y S0 L hL hS hT hG (deep+1) (by omega) st hi hl hpl p u (hum (by rw [h1]; decide)) y hy) (fun _=>rfl) rfl rfl rfl rfl rfl (by rw [rdX_ren]; rfl) rfl (by rw [rdX_ren]; rfl) ?_
  refine R_run hg1.ok 1000 rfl rfl ?_
  refine R_retL ?_
  refine Lv.cons hg [0,1,2] (objs':=rdX S0 L (y.2.2) deep++[.box [.lo 0 0],bxT y.1,tkO u]) (rdDown_ok Y S0 L (y.2.2) deep (Nat.le_of_lt hd)) (fun _=>rfl) rfl (by rw [rdB_ren]; rfl) rfl (by rw [rdB_ren]; rfl) ?_
  exact Lv.nil hg 2 5 (Nat.le_refl _) rfl rfl (hk (y.2.2) _)
 rw [if_neg h1] at h
 refine R_if rfl rfl (fun h=>absurd h (by simp [h1])) (fun _=>?_) <;> refine R_run hg1.ok 1000 rfl rfl ?_
 cases hm1:isMk u [40] with
 | true =>
  rw [hm1] at h hM1
  simp only [if_true] at h hM1
  have hl:=(isMk_lt (hu ▸ hm1)).2
  obtain ⟨⟨y,st2⟩,hy,h⟩:=Option.map_eq_some_iff.1 h
  subst h
  refine R_callSO hg1.ok hg1.gup hg1.wide hg1.Y [0,1] (rdX S0 L (nxR st) (deep+1:Nat)++[.box [.lo 0 0],boxZ,tkO u]) (hM1) (fun _=>rfl) rfl rfl rfl rfl rfl (by rw [rdX_ren]; rfl) rfl (by rw [rdX_ren]; rfl) ?_
  refine R_run hg1.ok 1000 rfl rfl ?_
  refine R_if rfl rfl (fun _=>?_) (fun h=>absurd h (by simp)) <;> refine R_run hg1.ok 1000 rfl rfl ?_
  refine R_callSO hg1.ok hg1.gup hg1.wide hg1.Y [0,1] (rdX S0 L st2 (deep+1:Nat)++[.box [.lo 0 0],boxZ,tkO u]) (hT (deep+1) 1200 (nxR st) y st2 hy (by omega) (hi.nx hl)) (fun _=>rfl) rfl rfl rfl rfl rfl (by rw [rdX_ren]; rfl) rfl (by rw [rdX_ren]; rfl) ?_
  refine R_run hg1.ok 1000 rfl rfl ?_
  refine R_callSO hg1.ok hg1.gup hg1.wide hg1.Y [0,1] (rdX S0 L (mustR L S0.length st2 [41]) (deep+1:Nat)++[.box [.lo 0 0],boxZ,tkO u,bxT y]) (xMust Y S0 L hL st2 (deep+1:Nat) [41]) (fun _=>rfl) rfl rfl rfl rfl rfl (by rw [rdX_ren]; rfl) rfl (by rw [rdX_ren]; rfl) ?_
  refine R_run hg1.ok 1000 rfl rfl ?_
  refine R_retL ?_
  refine Lv.cons hg [0,1,2] (objs':=rdX S0 L (mustR L S0.length st2 [41]) deep++[.box [.lo 0 0],bxT y,tkO u,bxT y]) (rdDown_ok Y S0 L (mustR L S0.length st2 [41]) deep (Nat.le_of_lt hd)) (fun _=>rfl) rfl (by rw [rdB_ren]; rfl) rfl (by rw [rdB_ren]; rfl) ?_
  exact Lv.nil hg 2 5 (Nat.le_refl _) rfl rfl (hk (mustR L S0.length st2 [41]) _)
 | false =>
  rw [hm1] at h hM1
  simp only [Bool.false_eq_true,if_false] at h hM1
  refine R_callSO hg1.ok hg1.gup hg1.wide hg1.Y [0,1] (rdX S0 L st (deep+1:Nat)++[.box [.lo 0 0],boxZ,tkO u]) (hM1) (fun _=>rfl) rfl rfl rfl rfl rfl (by rw [rdX_ren]; rfl) rfl (by rw [rdX_ren]; rfl) ?_
  refine R_run hg1.ok 1000 rfl rfl ?_
  refine R_if rfl rfl (fun h=>absurd h (by simp)) (fun _=>?_) <;> refine R_run hg1.ok 1000 rfl rfl ?_
  cases hm2:isMk u [91] with
  | true =>
   rw [hm2] at h hM2
   simp only [if_true] at h hM2
   have hl:=(isMk_lt (hu ▸ hm2)).2
   obtain ⟨⟨y,st2⟩,hy,h⟩:=Option.map_eq_some_iff.1 h
   subst h
   refine R_callSO hg1.ok hg1.gup hg1.wide hg1.Y [0,1] (rdX S0 L (nxR st) (deep+1:Nat)++[.box [.lo 0 0],boxZ,tkO u]) (hM2) (fun _=>rfl) rfl rfl rfl rfl rfl (by rw [rdX_ren]; rfl) rfl (by rw [rdX_ren]; rfl) ?_
   refine R_run hg1.ok 1000 rfl rfl ?_
   refine R_if rfl rfl (fun _=>?_) (fun h=>absurd h (by simp)) <;> refine R_run hg1.ok 1000 rfl rfl ?_
   refine R_callSO hg1.ok hg1.gup hg1.wide hg1.Y [0,1] (rdX S0 L st2 (deep+1:Nat)++[.box [.lo 0 0],boxZ,tkO u]) (rdList_ok Y S0 L hL hT hG (deep+1) (by omega) (nxR st) (hi.nx hl) y st2 hy) (fun _=>rfl) rfl rfl rfl rfl rfl (by rw [rdX_ren]; rfl) rfl (by rw [rdX_ren]; rfl) ?_
   refine R_run hg1.ok 1000 rfl rfl ?_
   refine R_retL ?_
   refine Lv.cons hg [0,1,2] (objs':=rdX S0 L (st2) deep++[.box [.lo 0 0],bxT y,tkO u]) (rdDown_ok Y S0 L (st2) deep (Nat.le_of_lt hd)) (fun _=>rfl) rfl (by rw [rdB_ren]; rfl) rfl (by rw [rdB_ren]; rfl) ?_
   exact Lv.nil hg 2 5 (Nat.le_refl _) rfl rfl (hk (st2) _)
  | false =>
   rw [hm2] at h hM2
   simp only [Bool.false_eq_true,if_false] at h hM2
   cases h
   refine R_callSO hg1.ok hg1.gup hg1.wide hg1.Y [0,1] (rdX S0 L st (deep+1:Nat)++[.box [.lo 0 0],boxZ,tkO u]) (hM2) (fun _=>rfl) rfl rfl rfl rfl rfl (by rw [rdX_ren]; rfl) rfl (by rw [rdX_ren]; rfl) ?_
   refine R_run hg1.ok 1000 rfl rfl ?_
   refine R_if rfl rfl (fun h=>absurd h (by simp)) (fun _=>?_) <;> refine R_run hg1.ok 1000 rfl rfl ?_
   refine R_callSO hg1.ok hg1.gup hg1.wide hg1.Y [0,1] (rdX S0 L (failR L S0.length st 2) (deep+1:Nat)++[.box [.lo 0 0],boxZ,tkO u]) (xFail Y S0 L st (deep+1:Nat) 2) (fun _=>rfl) rfl rfl rfl rfl rfl (by rw [rdX_ren]; rfl) rfl (by rw [rdX_ren]; rfl) ?_
   refine R_run hg1.ok 1000 rfl rfl ?_
   refine R_retL ?_
   refine Lv.cons hg [0,1,2] (objs':=rdX S0 L (failR L S0.length st 2) deep++[.box [.lo 0 0],boxZ,tkO u]) (rdDown_ok Y S0 L (failR L S0.length st 2) deep (Nat.le_of_lt hd)) (fun _=>rfl) rfl (by rw [rdB_ren]; rfl) rfl (by rw [rdB_ren]; rfl) ?_
   exact Lv.nil hg 2 5 (Nat.le_refl _) rfl rfl (hk (failR L S0.length st 2) _)
end Go.Proofs.YtchhahnajgfeaaaGreatDoor

namespace Go.Proofs.YtchhahnajgfeaaaGreatDoor
open Go PSL Go.Proofs
def pfTrm:Nat→Cls:=fun f=>bif Nat.beq f 4000100060 then .look 104 else bif Nat.beq f 4000200005 then .turn 103 else .eff

def trmE (S0:Bs) (L:List Tk) (deep p:Int):(Nat × RSt × Tm × Int)→Env × List Ob
 | (_,st,out,now)=>([(0,.lo 0 0),(1,iV p),(4,.lo 2 0),(5,.lo 3 0),(6,iV now)],rdX S0 L st deep++[boxZ,bxT out])
theorem peek_ins (L:List Tk) (st:RSt):peekR L (inS L st)=peekR L st:=by unfold inS; split <;> rfl

set_option maxRecDepth 100000 in
theorem rdStep_ok (Y:YP) (S0:Bs) (L:List Tk) (hL:L.length≤9000) (hS:S0.length≤9000) {T:TF} (hT:TCtr Y S0 L T) (hG:TGood L T) (hpl:∀ t∈L,0≤t.at_∧t.at_<S0.length∧0≤t.n∧t.n≤9223372036854775807) :
  TCtr Y S0 L (fun deep p st=>(opndR false S0 L T deep p st).bind fun x=>restR L T (L.length+2) deep p x.1 x.2.1 x.2.2):=by
 intro deep p st t st' h hd hi
 obtain ⟨x,hx,h⟩:=Option.bind_eq_some_iff.1 h
 refine SCtr.of_R (pf:=pfTrm) tyOk mixed Tryz.func35 rfl (by kernel_rfl) (by kernel_rfl) (by simp [Tryz.ntmps35]) (by simp [rdX,rdO,robj]) fun w S φ hg=>?_
 have hφ:φ.length=2:=hg.hs0.len
 have hk:∀ (st:RSt) (o:List Ob),(rdX S0 L st deep).map (mapOb (sealT false 2 o 5))=rdX S0 L st deep:=fun st o=>rdX_keep _ _ _ _ _ _ (Nat.le_refl _)
 refine R_run hg.ok 1000 rfl rfl ?_
 refine R_callSO hg.ok hg.gup hg.wide hg.Y [0,1] (rdX S0 L x.2.2 deep++[boxZ]) (rdOpnd_ok Y S0 L hL hS hT hG deep hd st hi hpl p x hx) (fun _=>rfl) rfl rfl rfl rfl rfl (by rw [rdX_ren]; rfl) rfl (by rw [rdX_ren]; rfl) ?_
 refine R_run hg.ok 1000 rfl rfl ?_
 refine R_storeJ hg.ok rfl rfl rfl rfl rfl rfl rfl rfl rfl ?_
 refine R_run hg.ok 1000 rfl rfl ?_
 refine R_loop (trmE S0 L deep p) (fun y=>restR L T y.1 deep p y.2.2.1 y.2.2.2 y.2.1=some (t,st')∧RInv L y.2.1) (fun y=>y.1) (L.length+2,x.2.2,x.1,x.2.1) ⟨h,opnd_inv hG hx hi⟩ ⟨.refl _,.refl _,.refl _,.refl _,.refl _,trivial⟩ rfl ?_
 rintro ⟨f,st1,out,now⟩ ⟨hm,hi1⟩
 simp only at hm hi1
 cases f with
 | zero=>cases hm
 | succ f =>
 simp only [restR] at hm
 refine R_run hg.ok 1000 rfl rfl ?_
 by_cases he:st1.e=0
 ·rw [if_neg (by simp [he])] at hm
  refine R_if rfl rfl (fun _=>?_) (fun h=>absurd h (by simp [he])) <;> refine R_run hg.ok 1000 rfl rfl ?_
  have hI:=xIn Y S0 L st1 deep
  cases hin:inT (peekR L st1) with
  | none =>
   rw [hin] at hm hI
   simp only at hm
   obtain ⟨rfl,rfl⟩:=Prod.mk.inj (Option.some.inj hm)
   simp only [infA] at hI
   refine R_callSO hg.ok hg.gup hg.wide hg.Y [0,1] (rdX S0 L (inS L st1) deep++[boxZ,bxT out]) (hI) (fun _=>rfl) rfl rfl rfl rfl rfl (by rw [rdX_ren]; rfl) rfl (by rw [rdX_ren]; rfl) ?_
   refine R_run hg.ok 1000 rfl rfl ?_
   refine R_if rfl rfl (fun _=>?_) (fun h=>absurd h (by simp)) <;> refine R_run hg.ok 1000 rfl rfl ?_
   exact R_retS hg 2 5 (Nat.le_refl _) rfl rfl (hk _ _)
  | some z =>
   obtain ⟨q,l,r⟩:=z
   rw [hin] at hm hI
   simp only at hm
   simp only [infA] at hI
   refine R_callSO hg.ok hg.gup hg.wide hg.Y [0,1] (rdX S0 L (inS L st1) deep++[boxZ,bxT out]) (hI) (fun _=>rfl) rfl rfl rfl rfl rfl (by rw [rdX_ren]; rfl) rfl (by rw [rdX_ren]; rfl) ?_
   refine R_run hg.ok 1000 rfl rfl ?_
   refine R_if rfl rfl (fun h=>absurd h (by simp)) (fun _=>?_) <;> refine R_run hg.ok 1000 rfl rfl ?_
   by_cases hq:q > p
   ·rw [if_pos (.inl hq)] at hm
    obtain ⟨rfl,rfl⟩:=Prod.mk.inj (Option.some.inj hm)
    refine R_if rfl rfl (fun _=>?_) (fun h=>absurd h (by simp [hq])) <;> refine R_run hg.ok 1000 rfl rfl ?_
    exact R_retS hg 2 5 (Nat.le_refl _) rfl rfl (hk _ _)
   ·refine R_if rfl rfl (fun h=>absurd h (by simp [hq])) (fun _=>?_) <;> refine R_run hg.ok 1000 rfl rfl ?_
    by_cases hn:now > l
    ·rw [if_pos (.inr hn)] at hm
     obtain ⟨rfl,rfl⟩:=Prod.mk.inj (Option.some.inj hm)
     refine R_if rfl rfl (fun _=>?_) (fun h=>absurd h (by simp [hn])) <;> refine R_run hg.ok 1000 rfl rfl ?_
     exact R_retS hg 2 5 (Nat.le_refl _) rfl rfl (hk _ _)
    ·rw [if_neg (by rintro (h | h); exact hq h; exact hn h)] at hm
     obtain ⟨⟨y,st2⟩,hy,hm⟩:=Option.bind_eq_some_iff.1 hm
     refine R_if rfl rfl (fun h=>absurd h (by simp [hn])) (fun _=>?_) <;> refine R_run hg.ok 1000 rfl rfl ?_
     have hat:=inS_at L st1
     have hl1:=(ins_lt hin).2
     refine R_callSO hg.ok hg.gup hg.wide hg.Y [0,1] (rdX S0 L (inS L st1) deep++[boxZ,bxT out,.box [iV q,iV l,iV r]]) (xPeek Y S0 L (inS L st1) deep) (fun _=>rfl) rfl rfl rfl rfl rfl (by rw [rdX_ren]; rfl) rfl (by rw [rdX_ren]; rfl) ?_
     first
     | (refine R_run hg.ok 1 rfl rfl ?_; refine R_rdAt (st:=inS L st1) ((inS L st1).at_+1) (rfl) (by omega) rfl ?_)
     | (refine R_run hg.ok 2 rfl rfl ?_; refine R_rdAt (st:=inS L st1) ((inS L st1).at_+1) (rfl) (by omega) rfl ?_)
     | (refine R_run hg.ok 3 rfl rfl ?_; refine R_rdAt (st:=inS L st1) ((inS L st1).at_+1) (rfl) (by omega) rfl ?_)
     | (refine R_run hg.ok 4 rfl rfl ?_; refine R_rdAt (st:=inS L st1) ((inS L st1).at_+1) (rfl) (by omega) rfl ?_)
     | (refine R_run hg.ok 5 rfl rfl ?_; refine R_rdAt (st:=inS L st1) ((inS L st1).at_+1) (rfl) (by omega) rfl ?_)
     | (refine R_run hg.ok 6 rfl rfl ?_; refine R_rdAt (st:=inS L st1) ((inS L st1).at_+1) (rfl) (by omega) rfl ?_)
     | (refine R_run hg.ok 7 rfl rfl ?_; refine R_rdAt (st:=inS L st1) ((inS L st1).at_+1) (rfl) (by omega) rfl ?_)
     refine R_run hg.ok 1000 rfl rfl ?_
     have hi3:RInv L (nxR (inS L st1)):=hi1.ins.nx (by rw [hat]; exact hl1)
     refine R_callSO hg.ok hg.gup hg.wide hg.Y [0,1] (rdX S0 L st2 deep++[boxZ,bxT out,.box [iV q,iV l,iV r]]) (hT deep r _ y st2 hy hd hi3) (fun _=>rfl) rfl rfl rfl rfl rfl (by rw [rdX_ren]; rfl) rfl (by rw [rdX_ren]; rfl) ?_
     refine R_run hg.ok 1000 rfl rfl ?_
     refine R_loadJ hg.ok 103 (i:=4) (by unfold mayO; rintro (⟨h,_⟩ | h | ⟨h,_⟩) <;> omega) rfl rfl rfl rfl rfl rfl rfl ?_
     refine R_run hg.ok 1000 rfl rfl ?_
     refine R_storeJ hg.ok rfl rfl rfl rfl rfl rfl rfl rfl rfl ?_
     refine R_run hg.ok 1000 rfl rfl ?_
     have hb:Ob.box [.d (.v (.int .i64 3)),.d (.v (.string (Tx (peekR L st1).text))),.d (.v (.int .i64 0)),.d (.sl [rwT out,rwT y])]=bxT (fnT (peekR L st1).text [out,y]):=by rw [bxT_fn,← rwT_rows]; rfl
     refine R_obs (rdX S0 L st2 deep++[boxZ,.box [.d (.v (.int .i64 3)),.d (.v (.string (Tx (peekR L (inS L st1)).text))),.d (.v (.int .i64 0)),.d (.sl [rwT out,rwT y])],.box [iV q,iV l,iV r],bxT y]) ⟨.refl _,.refl _,.refl _,⟨.refl _,.refl _,.refl _,Ent.fs _,trivial⟩,.refl _,.refl _,trivial⟩ rfl ?_
     refine R_dropO 4 (rdX S0 L st2 deep++[boxZ,bxT (fnT (peekR L st1).text [out,y])]) (by show φ.length≤_; omega) rfl ?_ ?_
     ·rw [peek_ins,hb]
      unfold rdX rdO robj; generalize st2.lay=b; cases b <;> rfl
     exact R_next (f,st2,fnT (peekR L st1).text [out,y],q) ⟨hm,hG _ _ _ _ _ hy hi3⟩ (by simp only; omega) ⟨.refl _,.refl _,.refl _,.refl _,.refl _,trivial⟩ rfl
 ·rw [if_pos he] at hm
  cases hm
  refine R_if rfl rfl (fun h=>absurd h (by simp [he])) (fun _=>?_) <;> refine R_run hg.ok 1000 rfl rfl ?_
  exact R_retS hg 2 5 (Nat.le_refl _) rfl rfl (hk _ _)

theorem rdTerm_ok (Y:YP) (S0:Bs) (L:List Tk) (hL:L.length≤9000) (hS:S0.length≤9000) (hpl:∀ t∈L,0≤t.at_∧t.at_<S0.length∧0≤t.n∧t.n≤9223372036854775807):∀ n,TCtr Y S0 L (termR false S0 L n)
 | 0=>fun _ _ _ _ _ h=>by cases h
 | n+1=>fun deep p st t st' h hd hi=>rdStep_ok Y S0 L hL hS (rdTerm_ok Y S0 L hL hS hpl n) (term_inv false S0 L n) hpl deep p st t st' h hd hi
end Go.Proofs.YtchhahnajgfeaaaGreatDoor

namespace PSL
open Go
abbrev Clau:=Tm × List Bs

def clsR (right:Tm→Bool) (L:List Tk) (n:Nat) (T:TF):Nat→RSt→List Clau→Option (List Clau × Int × Int)
 | 0,_,_=>none
 | f+1,st,out =>
  if st.at_<L.length then
   (T 0 1200 { st with names:=[] }).bind fun x =>
    let st2:=if (peekR L x.2).kind≠5 then failR L n x.2 2 else x.2
    let st3:=if st2.e=0∧right x.1=false then { st2 with e:=3,bad:=plcR L n st.at_ } else st2
    if st3.e≠0 then some ([],st3.bad,st3.e) else clsR right L n T f (nxR st3) (out++[(x.1,st3.names)])
  else some (out,0,0)

def clauR (right:Tm→Bool) (sw:Bool) (S:Bs):Option (List Clau × Int × Int) :=
 if (tokT S).2.2≠0 then some ([],(tokT S).2.1,(tokT S).2.2)
 else clsR right (tokT S).1 S.length (termR sw S (tokT S).1 ((tokT S).1.length+2)) ((tokT S).1.length+1) ⟨0,[],0,0,false⟩ []
end PSL

namespace Go.Proofs.YtchhahnajgfeaaaGreatDoor
open Go PSL Go.Proofs
def clRow (x:Clau):List D:=[.v (.int .i64 x.1.k),.v (.string x.1.s),.v (.int .i64 x.1.n),.sl (Tm.rows x.1.l),.sl (strRows x.2)]
def clRows (l:List Clau):List (List D):=l.map clRow
theorem clRows_len (l:List Clau):(clRows l).length=l.length:=by simp [clRows]

def cl1 (S:Bs) (L:List Tk) (st:RSt):Ob:=.box [.d (.v (.string (Tx S))),.d (.sl (tkRows L)),iV st.at_,.d (.sl (strRows st.names)),iV 0,iV st.bad,iV st.e,.d (.v (.int .u32 (if st.lay then 1 else 0))),.d (.v (.int .i32 0)),.d (.v (.int .u32 0)),tblV st.lay]
def cl2 (S:Bs) (L:List Tk) (st:RSt):Ob:=.box [.d (.v (.string (Tx S))),.d (.sl (tkRows L)),iV st.at_,.ow 2 st.names.length,iV 0,iV st.bad,iV st.e,.d (.v (.int .u32 (if st.lay then 1 else 0))),.d (.v (.int .i32 0)),.d (.v (.int .u32 0)),tblV st.lay]
def clO (S:Bs) (L:List Tk) (st:RSt) (j:Nat) (out:List Clau):List Ob:=[cl2 S L st,.arr 5 j (clRows out),.arr 1 st.names.length (strRows st.names)]
theorem rdX_ren02 (S:Bs) (L:List Tk) (st:RSt) (n:Nat):(rdX S L st 0).map (renOb (rn [0,2] n))=[cl2 S L st,.arr 1 st.names.length (strRows st.names)]:=robj_ren _ _ _ _ _ _ _ _ _ _ _

theorem cl1_keep (S:Bs) (L:List Tk) (st:RSt) (o:List Ob):[cl1 S L st].map (mapOb (sealT false 1 o 5))=[cl1 S L st]:=by
 unfold cl1; generalize st.lay=b; cases b <;> rfl

theorem cl1_ren (S:Bs) (L:List Tk) (st:RSt) (n:Nat):[cl1 S L st].map (renOb (rn [0] n))=[cl1 S L st]:=by
 unfold cl1; generalize st.lay=b; cases b <;> rfl

set_option maxRecDepth 100000 in
theorem clPlace_ok (Y:YP) (S0:Bs) (L:List Tk) (st:RSt):SCtr Tryz.prog Y 34 [.lo 0 0] [cl1 S0 L st] (iV (plcR L S0.length st.at_)) [cl1 S0 L st]:=by
 refine SCtr.of_R (pf:=fun _=>.eff) tyOk mixed Tryz.func34 rfl (by kernel_rfl) (by kernel_rfl) (by simp [Tryz.ntmps34]) (by simp) fun w S φ hg=>?_
 have hk:∀ o:List Ob,[cl1 S0 L st].map (mapOb (sealT false 1 o 5))=[cl1 S0 L st]:=fun o=>cl1_keep _ _ _ _
 refine R_run hg.ok 1000 rfl rfl ?_
 refine R_if rfl rfl (fun h=>?_) (fun h=>?_) <;> refine R_run hg.ok 1000 rfl rfl ?_
 ·have hl:st.at_<L.length:=by have:=of_decide_eq_true h; rw [tkRows_len] at this; omega
  have e1:L[st.at_]? = some L[st.at_]:=List.getElem?_eq_getElem hl
  rw [show plcR L S0.length st.at_=L[st.at_].at_ by unfold plcR; rw [e1]]
  generalize L[st.at_]=t at e1
  refine R_index hg.ok rfl rfl rfl rfl rfl rfl (Int.natCast_nonneg _) (tkRows_get e1) rfl ?_
  refine R_run hg.ok 1000 rfl rfl ?_
  exact R_retS hg 1 5 (Nat.le_refl _) rfl rfl (hk _)
 ·have hl:L.length≤st.at_:=by have:=of_decide_eq_false h; rw [tkRows_len] at this; omega
  rw [show plcR L S0.length st.at_=(S0.length:Int) by unfold plcR; rw [List.getElem?_eq_none hl]]
  refine R_see 2 rfl (v':=iV S0.length) (by rw [show ((Tx S0).size:Int)=S0.length by rw [Tx_size]]; exact .refl _) ?_
  exact R_retS hg 1 5 (Nat.le_refl _) rfl rfl (hk _)

def clsE (S0:Bs) (L:List Tk):(Nat × RSt × List Clau × Nat)→Env × List Ob
 | (_,st,out,j)=>([(5,.d (.sl (tkRows L))),(8,.lo 0 0),(9,.ow 1 j)],[cl1 S0 L st,.arr 5 j (clRows out)])

set_option maxRecDepth 100000 in
theorem clauses_ok (S0:Bs) (hS:S0.length≤9000) (L:List Tk) (hL:L.length≤9000) (hpl:∀ t∈L,0≤t.at_∧t.at_<S0.length∧0≤t.n∧t.n≤9223372036854775807) (htk:tokR S0=.tup [.d (.sl (tkRows L)),iV 0,iV 0])
  (n:Nat) (hb:∀ st t st',RInv L st→termR false S0 L n 0 1200 st=some (t,st')→st'.e=0→t.size<1000000000∧∀ e∈t.els 1,e.2.s.size<1000000000) (c:List Clau) (a e:Int) (h:clsR rightT L S0.length (termR false S0 L n) (L.length+1) ⟨0,[],0,0,false⟩ []=some (c,a,e)) :
  PCtr Tryz.prog 19 [txA S0] (.tup [.d (.sl (clRows c)),iV a,iV e]):=by
 have hT:=rdTerm_ok ⟨[],fun _=>true⟩ S0 L hL hS hpl n
 have hG:=term_inv false S0 L n
 have hTk:=tokens_ok S0 hS
 rw [htk] at hTk
 refine PCtr.of_R (pf:=fun _=>.eff) tyOk mixed Tryz.func19 rfl (by kernel_rfl) (by kernel_rfl) (by simp [Tryz.ntmps19]) fun w S hg=>?_
 refine R_run hg.ok 1000 rfl rfl ?_
 refine R_call hg.ok (hTk) rfl rfl rfl rfl rfl rfl ?_
 refine R_run hg.ok 1000 rfl rfl ?_
 refine R_if rfl rfl (fun h=>absurd h (by simp)) (fun _=>?_)
 first
 | (refine R_run hg.ok 1 rfl rfl ?_; refine R_own 9 5 rfl rfl ?_)
 | (refine R_run hg.ok 2 rfl rfl ?_; refine R_own 9 5 rfl rfl ?_)
 | (refine R_run hg.ok 3 rfl rfl ?_; refine R_own 9 5 rfl rfl ?_)
 | (refine R_run hg.ok 4 rfl rfl ?_; refine R_own 9 5 rfl rfl ?_)
 | (refine R_run hg.ok 5 rfl rfl ?_; refine R_own 9 5 rfl rfl ?_)
 | (refine R_run hg.ok 6 rfl rfl ?_; refine R_own 9 5 rfl rfl ?_)
 | (refine R_run hg.ok 7 rfl rfl ?_; refine R_own 9 5 rfl rfl ?_)
 | (refine R_run hg.ok 8 rfl rfl ?_; refine R_own 9 5 rfl rfl ?_)
 | (refine R_run hg.ok 9 rfl rfl ?_; refine R_own 9 5 rfl rfl ?_)
 refine R_obs [cl1 S0 L ⟨0,[],0,0,false⟩,.arr 5 0 []] ⟨⟨.refl _,.refl _,.refl _,Ent.nil,.refl _,.refl _,.refl _,.refl _,.refl _,.refl _,.refl _,trivial⟩,.refl _,trivial⟩ rfl ?_
 refine R_run hg.ok 1000 rfl rfl ?_
 refine R_loop (clsE S0 L) (fun x=>clsR rightT L S0.length (termR false S0 L n) x.1 x.2.1 x.2.2.1=some (c,a,e)∧x.2.1.e=0∧x.2.2.1.length+x.1≤L.length+1∧x.2.1.at_≤L.length) (fun x=>x.1) (L.length+1,⟨0,[],0,0,false⟩,[],0) ⟨h,rfl,by simp,Nat.zero_le _⟩ ⟨.refl _,.refl _,.refl _,trivial⟩ rfl ?_
 rintro ⟨f,st,out,j⟩ ⟨hm,he0,hlo,hat⟩
 simp only at hm he0 hlo hat
 cases f with
 | zero=>cases hm
 | succ f =>
 simp only [clsR] at hm
 refine R_run hg.ok 1000 rfl rfl ?_
 by_cases hat2:st.at_<L.length
 ·rw [if_pos hat2] at hm
  refine R_if rfl rfl (fun _=>?_) (fun h=>absurd h (by simp [tkRows_len]; omega)) <;> refine R_run hg.ok 1000 rfl rfl ?_
  refine R_callSO hg.ok hg.gup ⟨rfl,rfl⟩ (fun _ _ _ _ h=>by cases h) [0] [cl1 S0 L st,.arr 5 j (clRows out)] (clPlace_ok ⟨[],fun _=>true⟩ S0 L st) (fun _=>rfl) rfl rfl rfl rfl rfl (by rw [cl1_ren]; rfl) rfl (by rw [cl1_ren]; rfl) ?_
  first
  | (refine R_run hg.ok 1 rfl rfl ?_; refine R_ownB 0 3 1 rfl rfl rfl ?_)
  | (refine R_run hg.ok 2 rfl rfl ?_; refine R_ownB 0 3 1 rfl rfl rfl ?_)
  | (refine R_run hg.ok 3 rfl rfl ?_; refine R_ownB 0 3 1 rfl rfl rfl ?_)
  | (refine R_run hg.ok 4 rfl rfl ?_; refine R_ownB 0 3 1 rfl rfl rfl ?_)
  | (refine R_run hg.ok 5 rfl rfl ?_; refine R_ownB 0 3 1 rfl rfl rfl ?_)
  | (refine R_run hg.ok 6 rfl rfl ?_; refine R_ownB 0 3 1 rfl rfl rfl ?_)
  | (refine R_run hg.ok 7 rfl rfl ?_; refine R_ownB 0 3 1 rfl rfl rfl ?_)
  | (refine R_run hg.ok 8 rfl rfl ?_; refine R_ownB 0 3 1 rfl rfl rfl ?_)
  | (refine R_run hg.ok 9 rfl rfl ?_; refine R_ownB 0 3 1 rfl rfl rfl ?_)
  obtain ⟨⟨t,st1⟩,ht,hm⟩:=Option.bind_eq_some_iff.1 hm
  have hi0:RInv L { st with names:=[] }:=⟨Nat.zero_le _,hat⟩
  have hi1:=hG _ _ _ _ _ ht hi0
  have hc1:SCtr Tryz.prog ⟨[],fun _=>true⟩ 35 [.lo 0 0,iV 1200] (rdX S0 L { st with names:=[] } 0) t.av (rdX S0 L st1 0):=hT 0 1200 { st with names:=[] } t st1 ht (by decide) hi0
  refine R_run hg.ok 1000 rfl rfl ?_
  refine R_callSO hg.ok hg.gup ⟨rfl,rfl⟩ (fun _ _ _ _ h=>by cases h) [0,2] (clO S0 L st1 j out) (hc1) (fun _=>rfl) rfl rfl rfl rfl rfl (by rw [rdX_ren02]; rfl) rfl (by rw [rdX_ren02]; rfl) ?_
  refine R_run hg.ok 1000 rfl rfl ?_
  refine R_callSO hg.ok hg.gup ⟨rfl,rfl⟩ (fun _ _ _ _ h=>by cases h) [0,2] (clO S0 L st1 j out++[bxT t]) (xPeek ⟨[],fun _=>true⟩ S0 L st1 0) (fun _=>rfl) rfl rfl rfl rfl rfl (by rw [rdX_ren02]; rfl) rfl (by rw [rdX_ren02]; rfl) ?_
  refine R_run hg.ok 1000 rfl rfl ?_
  simp only at hm
  obtain ⟨st2,hst2⟩:∃ st2,st2=(if (peekR L st1).kind≠5 then failR L S0.length st1 2 else st1):=⟨_,rfl⟩
  rw [← hst2] at hm
  have h2:st2.e=0→st1.e=0∧st1.at_<L.length∧st2=st1:=fun h=>by
   by_cases hk5:(peekR L st1).kind≠5
   ·rw [if_pos hk5] at hst2; subst hst2
    unfold failR at h; split at h
    ·cases h
    ·rename_i hne; exact absurd h hne
   ·rw [if_neg hk5] at hst2
    have:=peek_lt (L:=L) (st:=st1) (by rw [Decidable.not_not.1 hk5]; decide)
    exact ⟨this.1,this.2,hst2⟩
  refine R_cut1 (fun _:Unit=>([(5,.d (.sl (tkRows L))),(8,.lo 0 0),(9,.ow 1 j),(10,iV (plcR L S0.length st.at_)),(11,.lo 3 0)],clO S0 L st2 j out++[bxT t])) (fun _=>True) rfl ?_ ?_
  ·by_cases hk5:(peekR L st1).kind≠5
   ·rw [if_pos hk5] at hst2
    refine R_if rfl rfl (fun _=>?_) (fun h=>absurd h (by simp [hk5])) <;> refine R_run hg.ok 1000 rfl rfl ?_
    refine R_callSO hg.ok hg.gup ⟨rfl,rfl⟩ (fun _ _ _ _ h=>by cases h) [0,2] (clO S0 L (failR L S0.length st1 2) j out++[bxT t]) (xFail ⟨[],fun _=>true⟩ S0 L st1 0 2) (fun _=>rfl) rfl rfl rfl rfl rfl (by rw [rdX_ren02]; rfl) rfl (by rw [rdX_ren02]; rfl) ?_
    refine R_run hg.ok 1000 rfl rfl ?_
    rw [← hst2]
    exact R_to () trivial ⟨.refl _,.refl _,.refl _,.refl _,.refl _,trivial⟩ rfl
   ·rw [if_neg hk5] at hst2
    refine R_if rfl rfl (fun h=>absurd h (by simp [hk5])) (fun _=>?_) <;> refine R_run hg.ok 1000 rfl rfl ?_
    rw [hst2]
    exact R_to () trivial ⟨.refl _,.refl _,.refl _,.refl _,.refl _,trivial⟩ rfl
  rintro _ _
  obtain ⟨st3,hst3⟩:∃ st3,st3=(if st2.e=0∧rightT t=false then { st2 with e:=3,bad:=plcR L S0.length st.at_ } else st2):=⟨_,rfl⟩
  rw [← hst3] at hm
  refine R_run hg.ok 1000 rfl rfl ?_
  by_cases h0:st2.e=0
  ·obtain ⟨h3,h4,h5⟩:=h2 h0
   have hbt:=hb _ _ _ hi0 ht h3
   have hR:=right_ok t hbt.1 hbt.2
   refine R_if rfl rfl (fun _=>?_) (fun h=>absurd h (by simp [h0])) <;> refine R_run hg.ok 1000 rfl rfl ?_
   cases hr:rightT t with
   | false =>
    have hst3:st3={ st2 with e:=3,bad:=plcR L S0.length st.at_ }:=by rw [hst3,hr]; exact if_pos ⟨h0,rfl⟩
    subst hst3
    rw [hr] at hR
    rw [if_pos (show ((3:Int)≠0) by decide)] at hm
    cases hm
    refine R_call hg.ok (hR) rfl rfl rfl rfl rfl rfl ?_
    refine R_run hg.ok 1000 rfl rfl ?_
    refine R_if rfl rfl (fun _=>?_) (fun h=>absurd h (by simp)) <;> refine R_run hg.ok 1000 rfl rfl ?_
    refine R_if rfl rfl (fun _=>?_) (fun h=>absurd h (by simp)) <;> refine R_run hg.ok 1000 rfl rfl ?_
    refine R_ret hg 5 rfl rfl ?_
    rfl
   | true =>
    have hst3:st3=st2:=by rw [hst3,hr]; exact if_neg (by simp)
    rw [hst3] at hm
    rw [hr] at hR
    rw [if_neg (by simp [h0])] at hm
    refine R_call hg.ok (hR) rfl rfl rfl rfl rfl rfl ?_
    refine R_run hg.ok 1000 rfl rfl ?_
    refine R_if rfl rfl (fun h=>absurd h (by simp)) (fun _=>?_) <;> refine R_run hg.ok 1000 rfl rfl ?_
    refine R_if rfl rfl (fun h=>absurd h (by simp [h0])) (fun _=>?_)
    refine R_freezeO hg.gup 2 [(5,.d (.sl (tkRows L))),(8,.lo 0 0),(9,.ow 1 j),(11,.lo 3 0),(67,.ff)] [cl1 S0 L st2,.arr 5 j (clRows out),.dead,bxT t] rfl rfl ⟨.refl _,.refl _,.refl _,.refl _,.refl _,trivial⟩ ⟨⟨.refl _,.refl _,.refl _,Ent.frz 2 _ _,.refl _,.refl _,.refl _,.refl _,.refl _,.refl _,Ent.tblFrz 2 _ _ st2.lay,trivial⟩,rfl,by simp [ObIn],⟨.refl _,.refl _,.refl _,.refl _,trivial⟩,trivial⟩ ?_
    have hnat:(nxR st2).at_=st1.at_+1:=by rw [h5]; rfl
    first
    | (refine R_run hg.ok 1 rfl rfl ?_; refine R_obs [cl1 S0 L (nxR st2),.arr 5 j (clRows out),.dead,bxT t] ⟨⟨.refl _,.refl _,Ent.wrap rfl (by omega) (by omega),.refl _,.refl _,.refl _,.refl _,.refl _,.refl _,.refl _,.refl _,trivial⟩,.refl _,.refl _,.refl _,trivial⟩ rfl ?_)
    | (refine R_run hg.ok 2 rfl rfl ?_; refine R_obs [cl1 S0 L (nxR st2),.arr 5 j (clRows out),.dead,bxT t] ⟨⟨.refl _,.refl _,Ent.wrap rfl (by omega) (by omega),.refl _,.refl _,.refl _,.refl _,.refl _,.refl _,.refl _,.refl _,trivial⟩,.refl _,.refl _,.refl _,trivial⟩ rfl ?_)
    | (refine R_run hg.ok 3 rfl rfl ?_; refine R_obs [cl1 S0 L (nxR st2),.arr 5 j (clRows out),.dead,bxT t] ⟨⟨.refl _,.refl _,Ent.wrap rfl (by omega) (by omega),.refl _,.refl _,.refl _,.refl _,.refl _,.refl _,.refl _,.refl _,trivial⟩,.refl _,.refl _,.refl _,trivial⟩ rfl ?_)
    | (refine R_run hg.ok 4 rfl rfl ?_; refine R_obs [cl1 S0 L (nxR st2),.arr 5 j (clRows out),.dead,bxT t] ⟨⟨.refl _,.refl _,Ent.wrap rfl (by omega) (by omega),.refl _,.refl _,.refl _,.refl _,.refl _,.refl _,.refl _,.refl _,trivial⟩,.refl _,.refl _,.refl _,trivial⟩ rfl ?_)
    | (refine R_run hg.ok 5 rfl rfl ?_; refine R_obs [cl1 S0 L (nxR st2),.arr 5 j (clRows out),.dead,bxT t] ⟨⟨.refl _,.refl _,Ent.wrap rfl (by omega) (by omega),.refl _,.refl _,.refl _,.refl _,.refl _,.refl _,.refl _,.refl _,trivial⟩,.refl _,.refl _,.refl _,trivial⟩ rfl ?_)
    | (refine R_run hg.ok 6 rfl rfl ?_; refine R_obs [cl1 S0 L (nxR st2),.arr 5 j (clRows out),.dead,bxT t] ⟨⟨.refl _,.refl _,Ent.wrap rfl (by omega) (by omega),.refl _,.refl _,.refl _,.refl _,.refl _,.refl _,.refl _,.refl _,trivial⟩,.refl _,.refl _,.refl _,trivial⟩ rfl ?_)
    | (refine R_run hg.ok 7 rfl rfl ?_; refine R_obs [cl1 S0 L (nxR st2),.arr 5 j (clRows out),.dead,bxT t] ⟨⟨.refl _,.refl _,Ent.wrap rfl (by omega) (by omega),.refl _,.refl _,.refl _,.refl _,.refl _,.refl _,.refl _,.refl _,trivial⟩,.refl _,.refl _,.refl _,trivial⟩ rfl ?_)
    | (refine R_run hg.ok 8 rfl rfl ?_; refine R_obs [cl1 S0 L (nxR st2),.arr 5 j (clRows out),.dead,bxT t] ⟨⟨.refl _,.refl _,Ent.wrap rfl (by omega) (by omega),.refl _,.refl _,.refl _,.refl _,.refl _,.refl _,.refl _,.refl _,trivial⟩,.refl _,.refl _,.refl _,trivial⟩ rfl ?_)
    refine R_run hg.ok 1000 rfl rfl ?_
    refine R_appendO hg.ok (clRows (out++[(t,st2.names)])) rfl rfl rfl rfl rfl rfl rfl rfl rfl (by simp) (by simp [one1]) (by rw [clRows,clRows,List.map_append]; rfl) (by rw [clRows_len]; simp; omega) (by rw [clRows_len]; simp; omega) ?_
    refine R_run hg.ok 1000 rfl rfl ?_
    refine R_dropO 2 [cl1 S0 L (nxR st2),.arr 5 (j+1) (clRows (out++[(t,st2.names)]))] (Nat.zero_le _) rfl ?_ ?_
    ·unfold cl1 nxR; simp only; generalize st2.lay=b; cases b <;> rfl
    exact R_next (f,nxR st2,out++[(t,st2.names)],j+1) ⟨hm,h0,by simp; omega,by rw [h5]; exact h4⟩ (by simp only; omega) ⟨.refl _,.refl _,.refl _,trivial⟩ rfl
  ·have hst3:st3=st2:=by rw [hst3]; exact if_neg (fun h=>h0 h.1)
   rw [hst3,if_pos h0] at hm
   cases hm
   refine R_if rfl rfl (fun h=>absurd h (by simp [h0])) (fun _=>?_) <;> refine R_run hg.ok 1000 rfl rfl ?_
   refine R_if rfl rfl (fun _=>?_) (fun h=>absurd h (by simp [h0])) <;> refine R_run hg.ok 1000 rfl rfl ?_
   refine R_ret hg 5 rfl rfl ?_
   rfl
 ·rw [if_neg hat2] at hm
  cases hm
  refine R_if rfl rfl (fun h=>absurd h (by simp [tkRows_len]; omega)) (fun _=>?_) <;> refine R_run hg.ok 1000 rfl rfl ?_
  exact R_ret hg 5 rfl (sealA_tup (mapO_cons (sealA_ow rfl) rfl)) rfl
end Go.Proofs.YtchhahnajgfeaaaGreatDoor

namespace Go.Proofs.YtchhahnajgfeaaaGreatDoor
open Go PSL Go.Proofs
end Go.Proofs.YtchhahnajgfeaaaGreatDoor

namespace Go.Proofs.YtchhahnajgfeaaaGreatDoor
open Go PSL Go.Proofs
end Go.Proofs.YtchhahnajgfeaaaGreatDoor

namespace Go.Proofs.YtchhahnajgfeaaaGreatDoor
open Go PSL Go.Proofs
end Go.Proofs.YtchhahnajgfeaaaGreatDoor

namespace Go.Proofs.YtchhahnajgfeaaaGreatDoor
open Go PSL Go.Proofs
end Go.Proofs.YtchhahnajgfeaaaGreatDoor

namespace Go.Proofs.YtchhahnajgfeaaaGreatDoor
open Go PSL Go.Proofs
end Go.Proofs.YtchhahnajgfeaaaGreatDoor

namespace Go.Proofs.YtchhahnajgfeaaaGreatDoor
open Go PSL Go.Proofs
end Go.Proofs.YtchhahnajgfeaaaGreatDoor

namespace Go.Proofs.YtchhahnajgfeaaaGreatDoor
open Go PSL Go.Proofs
end Go.Proofs.YtchhahnajgfeaaaGreatDoor

namespace Go.Proofs.YtchhahnajgfeaaaGreatDoor
open Go PSL Go.Proofs
end Go.Proofs.YtchhahnajgfeaaaGreatDoor

namespace Go.Proofs.YtchhahnajgfeaaaGreatDoor
open Go PSL Go.Proofs

def clA (x:Clau):AV:=.agg [.d (.v (.int .i64 x.1.k)),.d (.v (.string x.1.s)),.d (.v (.int .i64 x.1.n)),.d (.sl (Tm.rows x.1.l)),.d (.sl (strRows x.2))]

def oneR (n:Nat):List Clau × Int × Int→Clau × Int × Int
 | (c,a,e)=>if e≠0 then ((zeroT,[]),a,e) else match c with
  | [x]=>(x,0,0)
  | _=>((zeroT,[]),n,2)

set_option maxRecDepth 100000 in
theorem one_ok (S0:Bs) (c:List Clau) (a e:Int) (h:PCtr Tryz.prog 19 [txA S0] (.tup [.d (.sl (clRows c)),iV a,iV e])):PCtr Tryz.prog 8 [txA S0] (.tup [clA (oneR S0.length (c,a,e)).1,iV (oneR S0.length (c,a,e)).2.1,iV (oneR S0.length (c,a,e)).2.2]):=by
 unfold oneR
 simp only
 refine PCtr.of_R (pf:=fun _=>.eff) tyOk mixed Tryz.func8 rfl (by kernel_rfl) (by kernel_rfl) (by simp [Tryz.ntmps8]) fun w S hg=>?_
 refine R_run hg.ok 1000 rfl rfl ?_
 refine R_call hg.ok (h) rfl rfl rfl rfl rfl rfl ?_
 refine R_run hg.ok 1000 rfl rfl ?_
 by_cases he:e≠0
 ·rw [if_pos he]
  refine R_if rfl rfl (fun _=>?_) (fun h=>absurd h (by simp [he])) <;> refine R_run hg.ok 1000 rfl rfl ?_
  refine R_ret hg 5 rfl rfl ?_
  rfl
 rw [if_neg he]
 refine R_if rfl rfl (fun h=>absurd h (by simpa using he)) (fun _=>?_) <;> refine R_run hg.ok 1000 rfl rfl ?_
 match c with
 | [x] =>
  refine R_if rfl rfl (fun h=>absurd h (by simp [clRows])) (fun _=>?_) <;> refine R_run hg.ok 1000 rfl rfl ?_
  refine R_index hg.ok rfl rfl rfl rfl rfl rfl (by decide) (show (clRows [x])[Int.toNat 0]? = some (clRow x) from rfl) rfl ?_
  refine R_run hg.ok 1000 rfl rfl ?_
  refine R_ret hg 5 rfl rfl ?_
  rfl
 | [] =>
  refine R_if rfl rfl (fun _=>?_) (fun h=>absurd h (by simp [clRows])) <;> refine R_run hg.ok 1000 rfl rfl ?_
  refine R_ret hg 5 rfl rfl ?_
  rw [Tx_size]; rfl
 | x::y::l =>
  refine R_if rfl rfl (fun _=>?_) (fun h=>absurd h (by simp [clRows]; omega)) <;> refine R_run hg.ok 1000 rfl rfl ?_
  refine R_ret hg 5 rfl rfl ?_
  rw [Tx_size]; rfl
end Go.Proofs.YtchhahnajgfeaaaGreatDoor

namespace PSL
open Go
def TMono (T:TF):Prop:=∀ deep p st t st',T deep p st=some (t,st')→st.at_≤st'.at_
section
variable {S:Bs} {L:List Tk} {T:TF} {st:RSt}
theorem fail_at {n:Nat} {c:Int}:(failR L n st c).at_=st.at_:=by unfold failR; split <;> rfl

theorem must_at {n:Nat} {s:Bs}:st.at_≤(mustR L n st s).at_:=by
 unfold mustR; split
 ·simp [nxR]
 ·rw [fail_at]; exact Nat.le_refl _
theorem begS_at:(begS L st).at_=st.at_:=by unfold begS; split <;> rfl
theorem nx_at:(nxR st).at_=st.at_+1:=rfl
end
end PSL

namespace PSL
open Go

def Enuf (L:List Tk) (m:Nat) (st:RSt):Prop:=st.e≠0∨L.length+1≤st.at_+m
def TOk (L:List Tk) (m:Nat) (T:TF):Prop:=∀ deep p st,RInv L st→Enuf L m st→∃ r,T deep p st=some r
def TStick (T:TF):Prop:=∀ deep p st t st',T deep p st=some (t,st')→st.e≠0→st'=st
section
variable {S:Bs} {L:List Tk} {T:TF} {st:RSt} {m:Nat}
theorem flE {n:Nat} {c:Int} (h:st.e≠0):failR L n st c=st:=by unfold failR; rw [if_neg h]
theorem flN {n:Nat} {c:Int} (hc:c≠0):(failR L n st c).e≠0:=by unfold failR; split; exact hc; assumption
theorem pkE (h:st.e≠0):peekR L st=zeroTk:=by unfold peekR; rw [if_pos h]
theorem mkE {s:Bs} (h:st.e≠0):isMk (peekR L st) s=false:=by rw [pkE h]; rfl

theorem Enuf.grow {st':RSt} (hT:TStick T) (hM:TMono T) {deep:Nat} {p:Int} {t:Tm} (hx:T deep p st=some (t,st')) (h:Enuf L m st):Enuf L m st':=by
 rcases h with h | h
 ·exact .inl (by rw [hT _ _ _ _ _ hx h]; exact h)
 ·exact .inr (by have:=hM _ _ _ _ _ hx; omega)

theorem Enuf.must {n:Nat} {s:Bs} (h:Enuf L m st):Enuf L m (mustR L n st s):=by
 rcases h with h | h
 ·exact .inl (by unfold mustR; rw [mkE h]; simp only [Bool.false_eq_true,if_false]; rw [flE h]; exact h)
 ·exact .inr (by have:=must_at (L:=L) (st:=st) (n:=n) (s:=s); omega)

theorem many_ok (hT:TOk L m T) (hG:TGood L T) (hS:TStick T) (hM:TMono T):∀ (f deep:Nat) (st:RSt) (acc:List Tm),RInv L st→Enuf L m st→L.length+1≤st.at_+f→1≤f→∃ r,manyR L T f deep st acc=some r
 | 0,_,_,_,_,_,_,h=>by omega
 | f+1,deep,st,acc,hi,he,hf,_=>by
  simp only [manyR]
  cases hmk:isMk (peekR L st) [44] with
  | false=>exact ⟨_,rfl⟩
  | true =>
   have hl:=isMk_lt hmk
   have hi2:=hi.nx hl.2
   have he2:Enuf L m (nxR st):=he.imp id fun h=>by rw [nx_at]; omega
   obtain ⟨⟨x,st2⟩,hx⟩:=hT deep 999 (nxR st) hi2 he2
   have h1:=hM _ _ _ _ _ hx
   rw [nx_at] at h1
   simp only [if_true]
   rw [hx]
   exact many_ok hT hG hS hM f deep st2 _ (hG _ _ _ _ _ hx hi2) (he2.grow hS hM hx) (by omega) (by omega)

theorem row_ok (hT:TOk L m T) (hG:TGood L T) (hS:TStick T) (hM:TMono T) (deep:Nat) (hi:RInv L st) (he:Enuf L m st):∃ r,rowR L T deep st=some r:=by
 obtain ⟨⟨x,st2⟩,hx⟩:=hT deep 999 st hi he
 unfold rowR
 rw [hx]
 exact many_ok hT hG hS hM _ deep st2 _ (hG _ _ _ _ _ hx hi) (he.grow hS hM hx) (by omega) (by omega)

theorem named_ok (hT:TOk L m T) (hG:TGood L T) (hS:TStick T) (hM:TMono T) (deep:Nat) (p:Int) (t:Tk) (hi:RInv L st) (hl:st.at_<L.length) (he:Enuf L m (nxR st)):∃ r,namedR S L T deep p t st=some r:=by
 have hn:=hi.nx hl
 unfold namedR
 split
 ·exact ⟨_,rfl⟩
 split
 ·obtain ⟨r,hr⟩:=row_ok hT hG hS hM deep hn.must he.must
  rw [hr]; exact ⟨_,rfl⟩
 split
 ·split
  ·split
   ·exact ⟨_,rfl⟩
   ·have hb:Enuf L m (begS L (nxR st)):=by
     rcases he with h | h
     ·exact .inl (by unfold begS; split <;> exact h)
     ·exact .inr (by rw [begS_at]; exact h)
    obtain ⟨r,hr⟩:=hT deep (preT t.text) _ hn.beg hb
    rw [hr]; exact ⟨_,rfl⟩
  ·exact ⟨_,rfl⟩
 ·exact ⟨_,rfl⟩
end
end PSL

namespace PSL
open Go
section
variable {S:Bs} {L:List Tk} {T:TF} {st:RSt} {m:Nat}
end
end PSL

namespace PSL
open Go

def Agr {α:Type} (a b:Option (α × RSt)):Prop:=match a,b with
 | some x,some y=>x.2=y.2∧(x.2.e=0→x.1=y.1)
 | none,none=>True
 | _,_=>False

theorem Agr.bind {α β:Type} {a b:Option (α × RSt)} {f g:α × RSt→Option (β × RSt)} (h:Agr a b) (hf:∀ x y s,(s.e=0→x=y)→Agr (f (x,s)) (g (y,s))):Agr (a.bind f) (b.bind g):=by
 cases a with
 | none=>cases b with
  | none=>trivial
  | some y=>exact h.elim
 | some x=>cases b with
  | none=>exact h.elim
  | some y =>
   obtain ⟨x,s⟩:=x
   obtain ⟨y,s'⟩:=y
   obtain ⟨h1,h2⟩:=h
   simp only at h1 h2
   subst h1
   exact hf x y s h2
section
variable {S:Bs} {L:List Tk} {T T':TF} {st:RSt}

theorem must_e {n:Nat} {s:Bs} (h:(mustR L n st s).e=0):st.e=0:=by
 by_cases he:st.e=0
 ·exact he
 ·unfold mustR at h
  rw [mkE he] at h
  simp only [Bool.false_eq_true,if_false] at h
  rw [flE he] at h
  exact h
end
end PSL

namespace PSL
open Go
section
variable {S:Bs} {L:List Tk} {T T':TF} {st:RSt}

theorem Agr.map {α β:Type} {a b:Option (α × RSt)} {f g:α × RSt→β × RSt} (h:Agr a b) (hf:∀ x y s,(s.e=0→x=y)→Agr (some (f (x,s))) (some (g (y,s)))):Agr (a.map f) (b.map g):=by
 cases a with
 | none=>cases b with
  | none=>trivial
  | some y=>exact h.elim
 | some x=>cases b with
  | none=>exact h.elim
  | some y =>
   obtain ⟨x,s⟩:=x
   obtain ⟨y,s'⟩:=y
   obtain ⟨h1,h2⟩:=h
   simp only at h1 h2
   subst h1
   exact hf x y s h2
end
end PSL

namespace PSL
open Go
end PSL

namespace PSL
open Go
end PSL
