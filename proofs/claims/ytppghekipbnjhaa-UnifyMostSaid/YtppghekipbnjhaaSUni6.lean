import Derived.Test.YtppghekipbnjhaaSUni5
import Derived.Test.YtppghekipbnjhaaSSubst3
namespace Go.Proofs.Ytppghekipbnjhaa
open Go PSL Go.Proofs

set_option maxRecDepth 100000 in
theorem uniDo_ok (Y : YP) (σ : Int → Tm) (B' : Binds) (a b : Tm) (n0 : Nat) (h0 : Tm.URound σ B' n0 [(a, b)] [] []) (ha : a.rightB = true) (hb : b.rightB = true) (na : ∀ e ∈ a.els 1, e.2.s.size < 1000000000) (nb : ∀ e ∈ b.els 1, e.2.s.size < 1000000000) : SCtr Try.prog Y 46 [.lo 0 0, a.av, b.av] (uobj []) (.tup [bV true, iV 0]) (uobj B') := by
  have sa : a.size ≤ 3000 := (h0.st (a, b) (by simp)).1
  have sb : b.size ≤ 3000 := (h0.st (a, b) (by simp)).2
  refine SCtr.of_R (pf := fun _ => .eff) tyOk mixed Try.func46 rfl (by kernel_rfl) (by kernel_rfl) (by simp [Try.ntmps46]) (by simp [uobj]) fun w S φ hg => ?_
  have hφ : φ.length = 3 := hg.hs0.len
  have keep : ∀ (B : Binds) (o : List Ob), (uobj B).map (mapOb (sealT false 3 o 5)) = uobj B := fun B o => by
    simp only [uobj, List.map_cons, List.map_nil]
    rw [tmM_mapOb (fun t => rfl)]; rfl
  refine R_run hg.ok 1000 rfl rfl ?_
  refine R_eqNil hg.ok Try.underlying66 rfl rfl rfl ?_
  refine R_run hg.ok 1000 rfl rfl ?_
  refine R_if rfl rfl (fun h => absurd h (by simp)) (fun _ => ?_) <;> refine R_run hg.ok 1000 rfl rfl ?_
  refine R_call hg.ok (right_ok a (by omega) na) rfl rfl rfl rfl rfl rfl ?_
  refine R_run hg.ok 1000 rfl rfl ?_
  rw [rightT_eq, ha]
  refine R_if rfl rfl (fun h => absurd h (by simp)) (fun _ => ?_) <;> refine R_run hg.ok 1000 rfl rfl ?_
  refine R_call hg.ok (right_ok b (by omega) nb) rfl rfl rfl rfl rfl rfl ?_
  refine R_run hg.ok 1000 rfl rfl ?_
  rw [rightT_eq, hb]
  refine R_if rfl rfl (fun h => absurd h (by simp)) (fun _ => ?_) <;> refine R_run hg.ok 1000 rfl rfl ?_
  refine R_lenO hg.ok rfl rfl rfl rfl rfl (n := 0) rfl ?_
  refine R_run hg.ok 1000 rfl rfl ?_
  refine R_callSO hg.ok hg.gup hg.wide hg.Y [0, 1, 2] (uobj B' ++ [boxR a, boxR b]) (uniLoop_ok Y σ B' a b n0 h0) (fun _ => rfl) rfl rfl rfl rfl rfl (by rw [uobj_ren]; rfl) rfl (by rw [uobj_ren]; rfl) ?_
  refine R_run hg.ok 1000 rfl rfl ?_
  refine R_if rfl rfl (fun _ => ?_) (fun h => absurd h (by simp)) <;> refine R_run hg.ok 1000 rfl rfl ?_
  exact R_retS hg 3 5 (Nat.le_refl _) rfl rfl (keep B' _)

set_option maxRecDepth 100000 in
theorem uniDont_ok (Y : YP) (a b : Tm) (hx : a.k = 1) (hy : ¬ b.k = 1) (hw : Tm.withB [] a.n b = true) (sa : a.size ≤ 3000) (sb : b.size ≤ 3000) (ha : a.rightB = true) (hb : b.rightB = true) (na : ∀ e ∈ a.els 1, e.2.s.size < 1000000000) (nb : ∀ e ∈ b.els 1, e.2.s.size < 1000000000) : SCtr Try.prog Y 46 [.lo 0 0, a.av, b.av] (uobj []) (.tup [bV false, iV 0]) udone := by
  refine SCtr.of_R (pf := fun _ => .eff) tyOk mixed Try.func46 rfl (by kernel_rfl) (by kernel_rfl) (by simp [Try.ntmps46]) (by simp [uobj, udone]) fun w S φ hg => ?_
  have hφ : φ.length = 3 := hg.hs0.len
  refine R_run hg.ok 1000 rfl rfl ?_
  refine R_eqNil hg.ok Try.underlying66 rfl rfl rfl ?_
  refine R_run hg.ok 1000 rfl rfl ?_
  refine R_if rfl rfl (fun h => absurd h (by simp)) (fun _ => ?_) <;> refine R_run hg.ok 1000 rfl rfl ?_
  refine R_call hg.ok (right_ok a (by omega) na) rfl rfl rfl rfl rfl rfl ?_
  refine R_run hg.ok 1000 rfl rfl ?_
  rw [rightT_eq, ha]
  refine R_if rfl rfl (fun h => absurd h (by simp)) (fun _ => ?_) <;> refine R_run hg.ok 1000 rfl rfl ?_
  refine R_call hg.ok (right_ok b (by omega) nb) rfl rfl rfl rfl rfl rfl ?_
  refine R_run hg.ok 1000 rfl rfl ?_
  rw [rightT_eq, hb]
  refine R_if rfl rfl (fun h => absurd h (by simp)) (fun _ => ?_) <;> refine R_run hg.ok 1000 rfl rfl ?_
  refine R_lenO hg.ok rfl rfl rfl rfl rfl (n := 0) rfl ?_
  refine R_run hg.ok 1000 rfl rfl ?_
  refine R_callSO hg.ok hg.gup hg.wide hg.Y [0, 1, 2] (uobj [] ++ [boxR a, boxR b]) (uniFail_ok Y a b hx hy (by omega) hw) (fun _ => rfl) rfl rfl rfl rfl rfl (by rw [uobj_ren]; rfl) rfl (by rw [uobj_ren]; rfl) ?_
  refine R_run hg.ok 1000 rfl rfl ?_
  refine R_if rfl rfl (fun h => absurd h (by simp)) (fun _ => ?_) <;> refine R_run hg.ok 1000 rfl rfl ?_
  refine R_callSO hg.ok hg.gup hg.wide hg.Y [0, 1, 2] (udone ++ [boxR a, boxR b]) (uniUndo_ok Y) (fun _ => rfl) rfl rfl rfl rfl rfl (by rw [uobj_ren]; rfl) rfl rfl ?_
  refine R_run hg.ok 1000 rfl rfl ?_
  exact R_retS hg 3 5 (Nat.le_refl _) rfl rfl rfl

theorem find_at {B : Binds} (h : (B.map (·.1)).Nodup) {k : Nat} {b : Int × Tm} (hk : B[k]? = some b) : findB B b.1 = some b.2 := by
  induction B generalizing k with
  | nil => simp at hk
  | cons c B ih =>
    rw [findB_cons]
    simp only [List.map_cons, List.nodup_cons] at h
    cases k with
    | zero => simp at hk; subst hk; rw [if_pos rfl]
    | succ k =>
      simp only [List.getElem?_cons_succ] at hk
      have hm : b.1 ∈ B.map (·.1) := List.mem_map.2 ⟨b, List.mem_of_getElem? hk, rfl⟩
      rw [if_neg (fun e => h.1 (by rw [e]; exact hm))]
      exact ih h.2 hk

theorem bind_snoc1 {B : Binds} {k : Nat} {b : Int × Tm} (h : B[k]? = some b) : bindRows (B.take k) ++ [[.v (.int .i64 b.1), .v (.int .i64 b.2.k), .v (.string b.2.s), .v (.int .i64 b.2.n), .sl (Tm.rows b.2.l)]] = bindRows (B.take (k + 1)) := by
  rw [List.take_add_one, h]; simp [bindRows, bindRow, Tm.row]

set_option maxRecDepth 100000 in
theorem uniBinds_ok (Y : YP) (B : Binds) (hc : Tm.chainB B) (hl : B.length < 1000000) : SCtr Try.prog Y 73 [.lo 0 0] (uobj B) (.d (.sl (bindRows B))) (uobj B) := by
  refine SCtr.of_R (pf := fun _ => .eff) tyOk mixed Try.func73 rfl (by kernel_rfl) (by kernel_rfl) (by simp [Try.ntmps73]) (by simp [uobj]) fun w S φ hg => ?_
  have hφ : φ.length = 3 := hg.hs0.len
  have keep : ∀ (B : Binds) (o : List Ob), (uobj B).map (mapOb (sealT false 3 o 5)) = uobj B := fun B o => by
    simp only [uobj, List.map_cons, List.map_nil]
    rw [tmM_mapOb (fun t => rfl)]; rfl
  first
  | (refine R_run hg.ok 1 rfl rfl ?_; refine R_own 3 5 rfl rfl ?_)
  | (refine R_run hg.ok 2 rfl rfl ?_; refine R_own 3 5 rfl rfl ?_)
  | (refine R_run hg.ok 3 rfl rfl ?_; refine R_own 3 5 rfl rfl ?_)
  | (refine R_run hg.ok 4 rfl rfl ?_; refine R_own 3 5 rfl rfl ?_)
  | (refine R_run hg.ok 5 rfl rfl ?_; refine R_own 3 5 rfl rfl ?_)
  | (refine R_run hg.ok 6 rfl rfl ?_; refine R_own 3 5 rfl rfl ?_)
  refine R_run hg.ok 1000 rfl rfl ?_
  refine R_lenO hg.ok rfl rfl rfl rfl rfl (n := (B.length : Int)) (by rw [irows_length]; simp) ?_
  refine R_run hg.ok 1000 rfl rfl ?_
  refine R_loop (fun k : Nat => ([(0, .lo 0 0), (3, .ow 3 k), (9, .ow 2 B.length), (10, iV B.length), (11, iV k)], uobj B ++ [.arr 5 k (bindRows (B.take k))])) (fun k => k ≤ B.length) (fun k => B.length - k) 0 (Nat.zero_le _) ⟨.refl _, .refl _, .refl _, .refl _, .refl _, trivial⟩ rfl ?_
  rintro k hk
  refine R_run hg.ok 1000 rfl rfl ?_
  refine R_if rfl rfl (fun h => ?_) (fun h => ?_) <;> refine R_run hg.ok 1000 rfl rfl ?_
  · have hk1 : k < B.length := lt_dec h rfl
    have e1 : B[k]? = some B[k] := List.getElem?_eq_getElem hk1
    generalize B[k] = c at e1
    have hrow : (irows (B.map (·.1)))[((k : Nat) : Int).toNat]? = some [.v (.int .i64 c.1)] := by
      rw [Int.toNat_natCast]; exact irows_get (by rw [List.getElem?_map, e1]; rfl)
    refine R_indexO hg.ok rfl rfl rfl rfl rfl rfl rfl rfl rfl (Int.natCast_nonneg k) (by rw [irows_length]; simpa using hk1) ?_
    refine R_run hg.ok 1000 rfl rfl ?_
    refine R_loadE hg.ok rfl rfl rfl rfl rfl rfl hrow rfl ?_
    refine R_run hg.ok 1000 rfl rfl ?_
    refine R_lookupI hg.ok (tmM B) rfl rfl rfl rfl rfl rfl rfl (zv := zTmV) (by kernel_rfl) (v := c.2.av) (by rw [getI_tm, find_at hc.nodup e1]; rfl) ?_
    refine R_run hg.ok 1000 rfl rfl ?_
    refine R_appendO hg.ok (bindRows (B.take (k + 1))) rfl rfl rfl rfl rfl rfl rfl rfl rfl (by simp) (by simp [one1]) (bind_snoc1 e1) (by rw [bindRows_len]; simp; omega) (by rw [bindRows_len]; simp; omega) ?_
    refine R_run hg.ok 1000 rfl rfl ?_
    exact R_next (k + 1) hk1 (by omega) ⟨.refl _, .refl _, .refl _, .refl _, Ent.wrap (by omega) (by omega) (by omega), trivial⟩ rfl
  · have hk1 : B.length ≤ k := ge_dec h rfl
    rw [List.take_of_length_le hk1]
    exact R_retS hg 3 5 (Nat.le_refl _) rfl (sealT_ow rfl rfl) (keep B _)

theorem uobj_ren2 (B : Binds) (n : Nat) : (uobj B).map (renOb (rn [3, 2, 4] n)) = [.box [.mp 2, .ow 4 B.length], .map (imap (tmM B)), .arr 1 B.length (irows (B.map (·.1)))] := by
  have e : (renOb (rn [3, 2, 4] n)) = mapOb (renA (rn [3, 2, 4] n)) := by funext o; cases o <;> simp [renOb, mapOb, renL_map]
  rw [e]
  simp only [uobj, List.map_cons, List.map_nil]
  rw [tmM_mapOb (fun t => rfl)]; rfl

def pfMgu : Nat → Cls := fun f => bif Nat.beq f 44 then .turn 0 else .eff

set_option maxRecDepth 100000 in
theorem mgu_ok (σ : Int → Tm) (B' : Binds) (a b : Tm) (n0 : Nat) (h0 : Tm.URound σ B' n0 [(a, b)] [] []) (hc : Tm.chainB B') (hl : B'.length < 1000000) (ha : a.rightB = true) (hb : b.rightB = true) (na : ∀ e ∈ a.els 1, e.2.s.size < 1000000000) (nb : ∀ e ∈ b.els 1, e.2.s.size < 1000000000) : PCtr Try.prog 34 [a.av, b.av] (.tup [.d (.sl (bindRows B')), bV true, iV 0]) := by
  refine PCtr.of_R (pf := pfMgu) tyOk mixed Try.func34 rfl (by kernel_rfl) (by kernel_rfl) (by simp [Try.ntmps34]) fun w S hg => ?_
  refine R_run hg.ok 1000 rfl rfl ?_
  refine R_callNew hg.ok hg.gup ⟨rfl, rfl⟩ (fun _ _ _ _ h => by cases h) [boxR a, boxR b, .map [], .box [.mp 2, .d (.v (.slice none 0 0))]] (uniNew_ok ⟨[], fun _ => true⟩) (fun _ => rfl) rfl rfl rfl rfl rfl rfl ?_
  first
  | (refine R_run hg.ok 1 rfl rfl ?_; refine R_ownB 3 1 1 rfl rfl rfl ?_)
  | (refine R_run hg.ok 2 rfl rfl ?_; refine R_ownB 3 1 1 rfl rfl rfl ?_)
  | (refine R_run hg.ok 3 rfl rfl ?_; refine R_ownB 3 1 1 rfl rfl rfl ?_)
  | (refine R_run hg.ok 4 rfl rfl ?_; refine R_ownB 3 1 1 rfl rfl rfl ?_)
  | (refine R_run hg.ok 5 rfl rfl ?_; refine R_ownB 3 1 1 rfl rfl rfl ?_)
  | (refine R_run hg.ok 6 rfl rfl ?_; refine R_ownB 3 1 1 rfl rfl rfl ?_)
  refine R_run hg.ok 1000 rfl rfl ?_
  refine R_callSO hg.ok hg.gup ⟨rfl, rfl⟩ (fun _ _ _ _ h => by cases h) [3, 2, 4] [boxR a, boxR b, .map (imap (tmM B')), .box [.mp 2, .ow 4 B'.length], .arr 1 B'.length (irows (B'.map (·.1)))] (uniDo_ok ⟨[], fun _ => true⟩ σ B' a b n0 h0 ha hb na nb) (fun _ => rfl) rfl rfl rfl rfl rfl (by rw [uobj_ren2]; rfl) rfl (by rw [uobj_ren2]; rfl) ?_
  refine R_run hg.ok 1000 rfl rfl ?_
  refine R_if rfl rfl (fun h => absurd h (by simp)) (fun _ => ?_) <;> refine R_run hg.ok 1000 rfl rfl ?_
  refine R_if rfl rfl (fun h => absurd h (by simp)) (fun _ => ?_) <;> refine R_run hg.ok 1000 rfl rfl ?_
  refine R_callSO hg.ok hg.gup ⟨rfl, rfl⟩ (fun _ _ _ _ h => by cases h) [3, 2, 4] [boxR a, boxR b, .map (imap (tmM B')), .box [.mp 2, .ow 4 B'.length], .arr 1 B'.length (irows (B'.map (·.1)))] (uniBinds_ok ⟨[], fun _ => true⟩ B' hc hl) (fun _ => rfl) rfl rfl rfl rfl rfl (by rw [uobj_ren2]; rfl) rfl (by rw [uobj_ren2]; rfl) ?_
  refine R_run hg.ok 1000 rfl rfl ?_
  refine R_ret hg 5 rfl rfl ?_
  rfl

set_option maxRecDepth 100000 in
theorem mguNo_ok (a b : Tm) (hx : a.k = 1) (hy : ¬ b.k = 1) (hw : Tm.withB [] a.n b = true) (sa : a.size ≤ 3000) (sb : b.size ≤ 3000) (ha : a.rightB = true) (hb : b.rightB = true) (na : ∀ e ∈ a.els 1, e.2.s.size < 1000000000) (nb : ∀ e ∈ b.els 1, e.2.s.size < 1000000000) : PCtr Try.prog 34 [a.av, b.av] (.tup [.d (.sl []), bV false, iV 0]) := by
  refine PCtr.of_R (pf := pfMgu) tyOk mixed Try.func34 rfl (by kernel_rfl) (by kernel_rfl) (by simp [Try.ntmps34]) fun w S hg => ?_
  refine R_run hg.ok 1000 rfl rfl ?_
  refine R_callNew hg.ok hg.gup ⟨rfl, rfl⟩ (fun _ _ _ _ h => by cases h) [boxR a, boxR b, .map [], .box [.mp 2, .d (.v (.slice none 0 0))]] (uniNew_ok ⟨[], fun _ => true⟩) (fun _ => rfl) rfl rfl rfl rfl rfl rfl ?_
  first
  | (refine R_run hg.ok 1 rfl rfl ?_; refine R_ownB 3 1 1 rfl rfl rfl ?_)
  | (refine R_run hg.ok 2 rfl rfl ?_; refine R_ownB 3 1 1 rfl rfl rfl ?_)
  | (refine R_run hg.ok 3 rfl rfl ?_; refine R_ownB 3 1 1 rfl rfl rfl ?_)
  | (refine R_run hg.ok 4 rfl rfl ?_; refine R_ownB 3 1 1 rfl rfl rfl ?_)
  | (refine R_run hg.ok 5 rfl rfl ?_; refine R_ownB 3 1 1 rfl rfl rfl ?_)
  | (refine R_run hg.ok 6 rfl rfl ?_; refine R_ownB 3 1 1 rfl rfl rfl ?_)
  refine R_run hg.ok 1000 rfl rfl ?_
  refine R_callSO hg.ok hg.gup ⟨rfl, rfl⟩ (fun _ _ _ _ h => by cases h) [3, 2, 4] [boxR a, boxR b, .map (imap (tmM [])), .box [.mp 2, .ow 4 1], .arr 1 1 []] (uniDont_ok ⟨[], fun _ => true⟩ a b hx hy hw sa sb ha hb na nb) (fun _ => rfl) rfl rfl rfl rfl rfl (by rw [uobj_ren2]; rfl) rfl rfl ?_
  refine R_run hg.ok 1000 rfl rfl ?_
  refine R_if rfl rfl (fun h => absurd h (by simp)) (fun _ => ?_) <;> refine R_run hg.ok 1000 rfl rfl ?_
  refine R_if rfl rfl (fun _ => ?_) (fun h => absurd h (by simp)) <;> refine R_run hg.ok 1000 rfl rfl ?_
  refine R_ret hg 5 rfl rfl ?_
  rfl
end Go.Proofs.Ytppghekipbnjhaa
