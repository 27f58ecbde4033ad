import Derived.Test.YtcafgconfcajbaaSLaw5b
import Derived.Test.YtcafgconfcajbaaPlC
namespace Go.Proofs.Ytcafgconfcajbaa
open Go PSL Go.Proofs

theorem may_eq (B : Binds) : mayT [] B = mayR B B 0 := may_same B []

set_option maxRecDepth 100000 in
theorem matchFills_ok (p : Tm) (B : Binds) (hp : p.Ok) (hB : ∀ b ∈ B, b.2.Ok) (hBl : B.length ≤ 140737488355328) : PCtr Try.prog 3 [p.av, .d (.sl (bindRows B))] (bV true) := by
  refine PCtr.of_R (pf := fun _ => .still) tyOk mixed Try.func3 rfl (by kernel_rfl) (by kernel_rfl) (by simp [Try.ntmps3]) fun w S hg => ?_
  refine R_run hg.ok 1000 rfl rfl ?_
  refine R_cut2 (fun q : Int => ([(1, .d (.sl (bindRows B))), (2, .lo 0 0), (4, .ff), (5, iV q)], [boxR p])) (fun q => q = fewB B 300) rfl ?_ ?_
  · refine R_loop (fun x : Nat × Int => ([(1, .d (.sl (bindRows B))), (2, .lo 0 0), (4, .ff), (5, iV x.2), (6, iV x.1)], [boxR p])) (fun x => x.1 ≤ B.length ∧ fewB B 300 = fewB (B.drop x.1) x.2) (fun x => B.length - x.1) (0, 300) ⟨Nat.zero_le _, rfl⟩ ⟨.refl _, .refl _, .refl _, .refl _, .refl _, trivial⟩ rfl ?_
    rintro ⟨k, q⟩ ⟨hk, hm⟩
    simp only at hk hm
    refine R_run hg.ok 1000 rfl rfl ?_
    refine R_if rfl rfl (fun h => ?_) (fun h => ?_) <;> refine R_run hg.ok 1000 rfl rfl ?_
    · have hk1 : k < B.length := lt_dec h (by rw [bindRows_len])
      have e1 : B[k]? = some B[k] := List.getElem?_eq_getElem hk1
      rw [List.drop_eq_getElem_cons hk1, fewB] at hm
      refine R_if rfl rfl (fun h2 => ?_) (fun h2 => ?_) <;> refine R_run hg.ok 1000 rfl rfl ?_
      · rw [if_pos (of_decide_eq_true h2)] at hm
        refine R_index hg.ok rfl rfl rfl rfl rfl rfl (Int.natCast_nonneg k) (bindRows_get e1) rfl ?_
        refine R_run hg.ok 1000 rfl rfl ?_
        refine R_call hg.ok (few_ok _ (hB _ (List.getElem_mem hk1)) _ _) rfl rfl rfl rfl rfl rfl ?_
        refine R_run hg.ok 1000 rfl rfl ?_
        exact R_next (k + 1, B[k].2.few q 200) ⟨hk1, hm⟩ (by simp only; omega) ⟨.refl _, .refl _, .refl _, .refl _, Ent.wrap (by simp only; omega) (by simp only; omega) (by simp only; omega), trivial⟩ rfl
      · rw [if_neg (of_decide_eq_false h2)] at hm
        exact R_to q hm.symm ⟨.refl _, .refl _, .refl _, .refl _, trivial⟩ rfl
    · have hk1 : B.length ≤ k := ge_dec h (by rw [bindRows_len])
      rw [List.drop_eq_nil_of_le hk1, fewB] at hm
      exact R_to q hm.symm ⟨.refl _, .refl _, .refl _, .refl _, trivial⟩ rfl
  rintro q rfl
  have kn : ∀ {x : Bool}, x = true → bV x = bV true := fun h => by rw [h]
  refine R_run hg.ok 1000 rfl rfl ?_
  refine R_if rfl rfl (fun h0 => ?_) (fun h0 => ?_) <;> refine R_run hg.ok 1000 rfl rfl ?_
  · refine R_call hg.ok knows5_ok rfl rfl rfl rfl rfl rfl ?_
    refine R_run hg.ok 1000 rfl rfl ?_
    refine R_ret hg 5 rfl rfl ?_
    rfl
  have h0 := of_decide_eq_false h0
  refine R_if rfl rfl (fun h1 => ?_) (fun h1 => ?_) <;> refine R_run hg.ok 1000 rfl rfl ?_
  · refine R_call hg.ok knows5_ok rfl rfl rfl rfl rfl rfl ?_
    refine R_run hg.ok 1000 rfl rfl ?_
    refine R_ret hg 5 rfl rfl ?_
    rfl
  have h1 := of_decide_eq_false h1
  rw [bindRows_len] at h1
  refine R_call hg.ok (few_ok p hp _ _) rfl rfl rfl rfl rfl rfl ?_
  refine R_run hg.ok 1000 rfl rfl ?_
  refine R_if rfl rfl (fun h2 => ?_) (fun h2 => ?_) <;> refine R_run hg.ok 1000 rfl rfl ?_
  · refine R_call hg.ok knows5_ok rfl rfl rfl rfl rfl rfl ?_
    refine R_run hg.ok 1000 rfl rfl ?_
    refine R_ret hg 5 rfl rfl ?_
    rfl
  have h2 := of_decide_eq_false h2
  obtain ⟨_, _, hBs⟩ := (fewB_le B 300 (by omega) (by omega)).resolve_left h0
  obtain ⟨hps, _, _, _, hpn⟩ := (Tm.few_le p 300 200 (by omega) (by omega) (by omega)).resolve_left (by omega)
  have hps : p.size ≤ 300 := by omega
  have hBs' : ∀ b ∈ B, b.2.size ≤ 300 := fun b hb => by have := (hBs b hb).1; omega
  refine R_call hg.ok (fill_ok p B (by omega) (fun e he => by have := hpn _ e he; omega) (by omega) (fun b hb => ⟨by have := hBs' b hb; omega, fun e he => by have := (hBs b hb).2 _ e he; omega⟩)) rfl rfl rfl rfl rfl rfl ?_
  refine R_run hg.ok 1000 rfl rfl ?_
  refine R_call hg.ok (may_ok p B (by omega) (fun x e he => by have := hpn x e he; omega) (by omega) (fun b hb => ⟨by have := hBs' b hb; omega, fun x e he => by have := (hBs b hb).2 x e he; omega⟩)) rfl rfl rfl rfl rfl rfl ?_
  refine R_run hg.ok 1000 rfl rfl ?_
  refine R_if rfl rfl (fun h3 => ?_) (fun h3 => ?_) <;> refine R_run hg.ok 1000 rfl rfl ?_
  · have hb : fillT p B = (zeroT, 1) := fill_bad (by rw [rightT_eq, may_eq]; revert h3; cases (p.rightB && mayR B B 0) <;> simp)
    rw [hb]
    refine R_call hg.ok (refSame_ok zeroT zeroT (by decide)) rfl rfl rfl rfl rfl rfl ?_
    refine R_run hg.ok 1000 rfl rfl ?_
    refine R_if rfl rfl (fun _ => ?_) (fun h => absurd h (by rw [Tm.same_refl]; simp)) <;> refine R_run hg.ok 1000 rfl rfl ?_
    refine R_if rfl rfl (fun _ => ?_) (fun h => absurd h (by simp)) <;> refine R_run hg.ok 1000 rfl rfl ?_
    refine R_call hg.ok knows5_ok rfl rfl rfl rfl rfl rfl ?_
    refine R_run hg.ok 1000 rfl rfl ?_
    refine R_ret hg 5 rfl rfl ?_
    rfl
  have h3 : (p.rightB && mayR B B 0) = true := by simpa using h3
  have hpr : p.rightB = true := by simp at h3; exact h3.1
  have hfl := fill_same (p := p) (B := B) (by rw [rightT_eq, may_eq]; exact h3)
  have hall := may_all (r := B) (done := []) (by rw [may_eq]; simp at h3; exact h3.2)
  have hwf := Tm.putB_fair B (fun b hb => right_fair (hall b hb).2.2) p (right_fair hpr)
  have hws : (Tm.putB B p).size ≤ 90300 := by
    have := Tm.putB_size B 300 hBs' p
    have h5 : p.size * 301 ≤ 300 * 301 := Nat.mul_le_mul_right _ hps
    omega
  refine R_call hg.ok (refFill_ok B (by omega) p (by omega) (Tm.fair_plain _ (right_fair hpr))) rfl rfl rfl rfl rfl rfl ?_
  refine R_run hg.ok 1000 rfl rfl ?_
  refine R_call hg.ok (refRight_ok (Tm.putB B p) (by omega) (fun x e he => fair_names hwf x e he)) rfl rfl rfl rfl rfl rfl ?_
  refine R_run hg.ok 1000 rfl rfl ?_
  refine R_if rfl rfl (fun h4 => ?_) (fun h4 => ?_) <;> refine R_run hg.ok 1000 rfl rfl ?_
  · rw [hfl, if_neg (by simpa using h4)]
    refine R_call hg.ok (refSame_ok zeroT zeroT (by decide)) rfl rfl rfl rfl rfl rfl ?_
    refine R_run hg.ok 1000 rfl rfl ?_
    refine R_if rfl rfl (fun _ => ?_) (fun h => absurd h (by rw [Tm.same_refl]; simp)) <;> refine R_run hg.ok 1000 rfl rfl ?_
    refine R_if rfl rfl (fun _ => ?_) (fun h => absurd h (by simp)) <;> refine R_run hg.ok 1000 rfl rfl ?_
    refine R_call hg.ok knows5_ok rfl rfl rfl rfl rfl rfl ?_
    refine R_run hg.ok 1000 rfl rfl ?_
    refine R_ret hg 5 rfl rfl ?_
    rfl
  have h4 : (Tm.putB B p).rightB = true := by simpa using h4
  rw [hfl, if_pos h4]
  refine R_call hg.ok (refSame_ok (Tm.putB B p) (Tm.putB B p) (by omega)) rfl rfl rfl rfl rfl rfl ?_
  refine R_run hg.ok 1000 rfl rfl ?_
  refine R_if rfl rfl (fun _ => ?_) (fun h => absurd h (by rw [Tm.same_refl]; simp)) <;> refine R_run hg.ok 1000 rfl rfl ?_
  refine R_if rfl rfl (fun _ => ?_) (fun h => absurd h (by simp)) <;> refine R_run hg.ok 1000 rfl rfl ?_
  refine R_call hg.ok (instance_ok (Tm.putB B p) p (by omega) (by omega) (fun e he => fair_names (right_fair hpr) 1 e he) (fun e he => fair_names hwf 1 e he)) rfl rfl rfl rfl rfl rfl ?_
  refine R_run hg.ok 1000 rfl rfl ?_
  have hi := put_inst hpr h4
  unfold instT at hi
  refine R_if rfl rfl (fun _ => ?_) (fun h => absurd h (by rw [hi]; simp)) <;> refine R_run hg.ok 1000 rfl rfl ?_
  refine R_call hg.ok knows5_ok rfl rfl rfl rfl rfl rfl ?_
  refine R_run hg.ok 1000 rfl rfl ?_
  refine R_ret hg 5 rfl rfl ?_
  rfl
end Go.Proofs.Ytcafgconfcajbaa
