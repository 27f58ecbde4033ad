import Derived.Test.YtcafgconfcajbaaSFill
import Derived.Test.YtcafgconfcajbaaPlC
namespace Go.Proofs.Ytcafgconfcajbaa
open Go PSL Go.Proofs

theorem tmM_snoc {B : Binds} {k : Nat} {b : Int × Tm} (h : B[k]? = some b) : tmM (B.take k) ++ [(b.1, b.2.av)] = tmM (B.take (k + 1)) := by
  rw [List.take_add_one, h]; simp [tmM]

def zBox : Ob := .box [.d (.v (.int .i64 0)), .d (.v (.string ByteArray.empty)), .d (.v (.int .i64 0)), .d (.v (.slice none 0 0))]

set_option maxRecDepth 100000 in
theorem fill_ok (p : Tm) (B : Binds) (hp : p.size < 1000000000) (np : ∀ e ∈ p.els 1, e.2.s.size < 1000000000) (hl : B.length < 1000000000) (hB : ∀ b ∈ B, b.2.size < 1000000000 ∧ ∀ e ∈ b.2.els 1, e.2.s.size < 1000000000) : PCtr Try.prog 16 [p.av, .d (.sl (bindRows B))] (.tup [(fillT p B).1.av, iV (fillT p B).2]) := by
  refine PCtr.of_R (pf := fun _ => .eff) tyOk mixed Try.func16 rfl (by kernel_rfl) (by kernel_rfl) (by simp [Try.ntmps16]) fun w S hg => ?_
  refine R_run hg.ok 1000 rfl rfl ?_
  refine R_call hg.ok (right_ok p hp np) rfl rfl rfl rfl rfl rfl ?_
  refine R_run hg.ok 1000 rfl rfl ?_
  refine R_if rfl rfl (fun h => ?_) (fun h => ?_) <;> refine R_run hg.ok 1000 rfl rfl ?_
  · refine R_ret hg 5 rfl rfl ?_
    have h : rightT p = false := by simpa using h
    simp only [fillT, h, Bool.false_and]; rfl
  have hr : rightT p = true := by simpa using h
  refine R_makeMap hg.ok rfl rfl ?_
  refine R_run hg.ok 1000 rfl rfl ?_
  refine R_loop (fun k : Nat => ([(2, .lo 0 0), (4, .lo 1 0), (6, .lo 3 0), (20, .d (.sl (bindRows B))), (21, iV B.length), (22, iV k)], [boxR p, zBox, .map (imap (tmM (B.take k))), .box [.mp 2, iV 3000]])) (fun k => k ≤ B.length ∧ mayT [] B = mayT (B.take k) (B.drop k)) (fun k => B.length - k) 0 ⟨Nat.zero_le _, rfl⟩ ⟨.refl _, .refl _, .refl _, .refl _, Ent.int (by rw [bindRows_len]), .refl _, trivial⟩ rfl ?_
  rintro k ⟨hk, hm⟩
  refine R_run hg.ok 1000 rfl rfl ?_
  refine R_if rfl rfl (fun h => ?_) (fun h => ?_) <;> refine R_run hg.ok 1000 rfl rfl ?_
  · have hk1 : k < B.length := lt_dec h rfl
    have e1 : B[k]? = some B[k] := List.getElem?_eq_getElem hk1
    have hb := hB _ (List.getElem_mem hk1)
    have bad : ((findB (B.take k) B[k].1).isNone && decide (0 ≤ B[k].1) && decide (B[k].1 < 1000000) && rightT B[k].2) = false → fillT p B = (zeroT, 1) := fun h => by
      rw [List.drop_eq_getElem_cons hk1, mayT, h, Bool.false_and] at hm
      exact fill_bad (by rw [hm, Bool.and_false])
    refine R_index hg.ok rfl rfl rfl rfl rfl rfl (Int.natCast_nonneg k) (bindRows_get e1) rfl ?_
    refine R_run hg.ok 1000 rfl rfl ?_
    cases hf : findB (B.take k) B[k].1 with
    | some x =>
      refine R_lookupI hg.ok (tmM (B.take k)) rfl rfl rfl rfl rfl rfl rfl (zv := .agg #[.int .i64 0, .string ByteArray.empty, .int .i64 0, .slice none 0 0]) (by kernel_rfl) (v := .tup [x.av, bV true]) (by rw [getI_tm, hf]; rfl) ?_
      refine R_run hg.ok 1000 rfl rfl ?_
      refine R_if rfl rfl (fun _ => ?_) (fun h => absurd h (by simp)) <;> refine R_run hg.ok 1000 rfl rfl ?_
      refine R_ret hg 5 rfl rfl ?_
      rw [bad (by rw [hf]; rfl)]; rfl
    | none =>
      refine R_lookupI hg.ok (tmM (B.take k)) rfl rfl rfl rfl rfl rfl rfl (zv := .agg #[.int .i64 0, .string ByteArray.empty, .int .i64 0, .slice none 0 0]) (by kernel_rfl) (v := .tup [.agg [iV 0, .d (.v (.string ByteArray.empty)), iV 0, .d (.v (.slice none 0 0))], bV false]) (by rw [getI_tm, hf]; rfl) ?_
      refine R_run hg.ok 1000 rfl rfl ?_
      refine R_if rfl rfl (fun h => absurd h (by simp)) (fun _ => ?_) <;> refine R_run hg.ok 1000 rfl rfl ?_
      refine R_if rfl rfl (fun h1 => ?_) (fun h1 => ?_) <;> refine R_run hg.ok 1000 rfl rfl ?_
      · refine R_ret hg 5 rfl rfl ?_
        have h1 := of_decide_eq_true h1
        rw [bad (by rw [show decide (0 ≤ B[k].1) = false from decide_eq_false (by omega)]; simp)]; rfl
      have h1 := of_decide_eq_false h1
      refine R_if rfl rfl (fun h2 => ?_) (fun h2 => ?_) <;> refine R_run hg.ok 1000 rfl rfl ?_
      · refine R_ret hg 5 rfl rfl ?_
        have h2 := of_decide_eq_true h2
        rw [bad (by rw [show decide (B[k].1 < 1000000) = false from decide_eq_false (by omega)]; simp)]; rfl
      have h2 := of_decide_eq_false h2
      refine R_call hg.ok (right_ok B[k].2 hb.1 hb.2) rfl rfl rfl rfl rfl rfl ?_
      refine R_run hg.ok 1000 rfl rfl ?_
      refine R_if rfl rfl (fun h3 => ?_) (fun h3 => ?_) <;> refine R_run hg.ok 1000 rfl rfl ?_
      · refine R_ret hg 5 rfl rfl ?_
        have h3 : rightT B[k].2 = false := by simpa using h3
        rw [bad (by rw [h3]; simp)]; rfl
      have h3 : rightT B[k].2 = true := by simpa using h3
      refine R_mapAddO hg.ok (tmM (B.take k)) (tmM (B.take (k + 1))) rfl rfl rfl rfl rfl rfl rfl (by rw [getI_tm, hf]; rfl) rfl (tmM_snoc e1) ?_
      refine R_run hg.ok 1000 rfl rfl ?_
      refine R_dropO 4 [boxR p, zBox, .map (imap (tmM (B.take (k + 1)))), .box [.mp 2, iV 3000]] (Nat.zero_le _) rfl (by show [_, _, mapOb _ (.map (imap (tmM (B.take (k + 1))))), _] = _; rw [mapOb_tm (fun _ => rfl)]; rfl) ?_
      refine R_next (k + 1) ⟨hk1, ?_⟩ (by omega) ⟨.refl _, .refl _, .refl _, .refl _, .refl _, Ent.wrap (by omega) (by omega) (by omega), trivial⟩ rfl
      rw [hm, List.drop_eq_getElem_cons hk1, mayT, hf, h3, show decide (0 ≤ B[k].1) = true from decide_eq_true (by omega), show decide (B[k].1 < 1000000) = true from decide_eq_true (by omega), List.take_add_one, e1]
      rfl
  · have hk1 : B.length ≤ k := ge_dec h rfl
    rw [List.drop_eq_nil_of_le hk1] at hm
    rw [List.take_of_length_le hk1]
    have hft : fillT p B = if (Tm.fillB B p 3000 1).1 then (Tm.putB B p, 0) else (zeroT, 3) := by
      unfold fillT; rw [hr, hm]; rfl
    have hcall := fillB_walk ⟨[], fun _ => true⟩ B (fun b hb => (hB b hb).1) p 3000 1 hp (by decide) (by decide) (by decide) (by decide)
    generalize Tm.fillB B p 3000 1 = rq at hcall hft
    obtain ⟨r, l2⟩ := rq
    refine R_callSO hg.ok hg.gup ⟨rfl, rfl⟩ (fun _ _ _ _ h => by cases h) [3, 2] [boxR p, zBox, .map (imap (tmM B)), .box [.mp 2, iV l2]] hcall (fun _ => rfl) rfl rfl rfl rfl rfl (by rw [List.map_cons, List.map_cons, List.map_nil, renOb_tm]; rfl) rfl (by rw [List.map_cons, List.map_cons, List.map_nil, renOb_tm]; rfl) ?_
    cases r with
    | true =>
      refine R_run hg.ok 1000 rfl rfl ?_
      refine R_if rfl rfl (fun h => absurd h (by simp)) (fun _ => ?_) <;> refine R_run hg.ok 1000 rfl rfl ?_
      refine R_ret hg 5 rfl rfl ?_
      rw [hft]; rfl
    | false =>
      refine R_run hg.ok 1000 rfl rfl ?_
      refine R_if rfl rfl (fun _ => ?_) (fun h => absurd h (by simp)) <;> refine R_run hg.ok 1000 rfl rfl ?_
      refine R_ret hg 5 rfl rfl ?_
      rw [hft]; rfl
end Go.Proofs.Ytcafgconfcajbaa
