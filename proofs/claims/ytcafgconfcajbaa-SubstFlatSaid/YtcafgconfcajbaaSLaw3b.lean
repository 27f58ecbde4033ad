import Derived.Test.YtcafgconfcajbaaSLaw3
import Derived.Test.YtcafgconfcajbaaSRight3
import Derived.Test.YtcafgconfcajbaaSBecome
namespace Go.Proofs.Ytcafgconfcajbaa
open Go PSL Go.Proofs

set_option maxRecDepth 100000 in
theorem substRights_ok (B : Binds) (hB : ∀ b ∈ B, b.2.Ok) (hBl : B.length ≤ 140737488355328) (v : Int) : PCtr Try.prog 8 [.d (.sl (bindRows B)), iV v] (bV true) := by
  refine PCtr.of_R (pf := fun _ => .still) tyOk mixed Try.func8 rfl (by kernel_rfl) (by kernel_rfl) (by simp [Try.ntmps8]) fun w S hg => ?_
  refine R_run hg.ok 1000 rfl rfl ?_
  refine R_call hg.ok (refSome3_ok B hB hBl) rfl rfl rfl rfl rfl rfl ?_
  refine R_run hg.ok 1000 rfl rfl ?_
  refine R_if rfl rfl (fun h => ?_) (fun h => ?_) <;> refine R_run hg.ok 1000 rfl rfl ?_
  · refine R_call hg.ok (knows3_ok) rfl rfl rfl rfl rfl rfl ?_
    refine R_run hg.ok 1000 rfl rfl ?_
    refine R_ret hg 5 rfl rfl ?_
    rfl
  have hs : someS B = true := by simpa using h
  have sB := someS_small hs
  have hl := (someS_ok hs).1
  have hf := find_ok B v (by omega)
  have hR := subRight_ok B sB
  have hR2 := refRight3_ok B sB
  rw [rightR_eq] at hR2
  rcases placeB_find B v with ⟨h1, h2⟩ | ⟨k, t, h1, h2, h3⟩
  · rw [h2] at hf
    refine R_call hg.ok (hf) rfl rfl rfl rfl rfl rfl ?_
    refine R_run hg.ok 1000 rfl rfl ?_
    refine R_call hg.ok (place_ok B v (by omega)) rfl rfl rfl rfl rfl rfl ?_
    refine R_run hg.ok 1000 rfl rfl ?_
    refine R_if rfl rfl (fun h => absurd h (by simp; omega)) (fun _ => ?_) <;> refine R_run hg.ok 1000 rfl rfl ?_
    refine R_if rfl rfl (fun _ => ?_) (fun h => absurd h (by simp)) <;> refine R_run hg.ok 1000 rfl rfl ?_
    refine R_call hg.ok (refSame_ok zeroT zeroT (by decide)) rfl rfl rfl rfl rfl rfl ?_
    refine R_run hg.ok 1000 rfl rfl ?_
    repeat
      first
      | (refine R_if rfl rfl (fun _ => ?_) (fun h => absurd h (by first | (simp; done) | (simp; omega))); refine R_run hg.ok 1000 rfl rfl ?_)
      | (refine R_if rfl rfl (fun h => absurd h (by first | (simp; done) | (simp; omega))) (fun _ => ?_); refine R_run hg.ok 1000 rfl rfl ?_)
    repeat
      first
      | (refine R_if rfl rfl (fun _ => ?_) (fun h => absurd h (by first | (simp [Tm.same_refl]; done) | (simp [Tm.same_refl]; omega))); refine R_run hg.ok 1000 rfl rfl ?_)
      | (refine R_if rfl rfl (fun h => absurd h (by first | (simp [Tm.same_refl]; done) | (simp [Tm.same_refl]; omega))) (fun _ => ?_); refine R_run hg.ok 1000 rfl rfl ?_)
    refine R_call hg.ok (hR) rfl rfl rfl rfl rfl rfl ?_
    refine R_run hg.ok 1000 rfl rfl ?_
    refine R_call hg.ok (hR2) rfl rfl rfl rfl rfl rfl ?_
    refine R_run hg.ok 1000 rfl rfl ?_
    refine R_if rfl rfl (fun _ => ?_) (fun h => absurd h (by simp)) <;> refine R_run hg.ok 1000 rfl rfl ?_
    refine R_call hg.ok (knows3_ok) rfl rfl rfl rfl rfl rfl ?_
    refine R_run hg.ok 1000 rfl rfl ?_
    refine R_ret hg 5 rfl rfl ?_
    rfl
  · rw [h3] at hf
    have hz := sB.size _ (List.mem_of_getElem? h2)
    refine R_call hg.ok (hf) rfl rfl rfl rfl rfl rfl ?_
    refine R_run hg.ok 1000 rfl rfl ?_
    refine R_call hg.ok (place_ok B v (by omega)) rfl rfl rfl rfl rfl rfl ?_
    refine R_run hg.ok 1000 rfl rfl ?_
    rw [h1]
    repeat
      first
      | (refine R_if rfl rfl (fun _ => ?_) (fun h => absurd h (by first | (simp; done) | (simp; omega))); refine R_run hg.ok 1000 rfl rfl ?_)
      | (refine R_if rfl rfl (fun h => absurd h (by first | (simp; done) | (simp; omega))) (fun _ => ?_); refine R_run hg.ok 1000 rfl rfl ?_)
    refine R_index hg.ok rfl rfl rfl rfl rfl rfl (Int.natCast_nonneg _) (bindRows_get h2) rfl ?_
    refine R_run hg.ok 1000 rfl rfl ?_
    refine R_call hg.ok (refSame_ok t t (by simp only at hz; omega)) rfl rfl rfl rfl rfl rfl ?_
    refine R_run hg.ok 1000 rfl rfl ?_
    repeat
      first
      | (refine R_if rfl rfl (fun _ => ?_) (fun h => absurd h (by first | (simp [Tm.same_refl]; done) | (simp [Tm.same_refl]; omega))); refine R_run hg.ok 1000 rfl rfl ?_)
      | (refine R_if rfl rfl (fun h => absurd h (by first | (simp [Tm.same_refl]; done) | (simp [Tm.same_refl]; omega))) (fun _ => ?_); refine R_run hg.ok 1000 rfl rfl ?_)
    refine R_call hg.ok (hR) rfl rfl rfl rfl rfl rfl ?_
    refine R_run hg.ok 1000 rfl rfl ?_
    refine R_call hg.ok (hR2) rfl rfl rfl rfl rfl rfl ?_
    refine R_run hg.ok 1000 rfl rfl ?_
    refine R_if rfl rfl (fun _ => ?_) (fun h => absurd h (by simp)) <;> refine R_run hg.ok 1000 rfl rfl ?_
    refine R_call hg.ok (knows3_ok) rfl rfl rfl rfl rfl rfl ?_
    refine R_run hg.ok 1000 rfl rfl ?_
    refine R_ret hg 5 rfl rfl ?_
    rfl

theorem subOr (B : Binds) : ∃ M, rightS B = true → Sub B M := by
  by_cases hr : rightS B = true
  · obtain ⟨M, h⟩ := Sub.of hr; exact ⟨M, fun _ => h⟩
  · exact ⟨0, fun h => absurd h hr⟩

set_option maxRecDepth 100000 in
theorem substApplies_ok (B : Binds) (hB : ∀ b ∈ B, b.2.Ok) (hBl : B.length ≤ 140737488355328) (t : Tm) (ht : t.Ok) : PCtr Try.prog 6 [.d (.sl (bindRows B)), t.av] (bV true) := by
  refine PCtr.of_R (pf := fun _ => .still) tyOk mixed Try.func6 rfl (by kernel_rfl) (by kernel_rfl) (by simp [Try.ntmps6]) fun w S hg => ?_
  refine R_run hg.ok 1000 rfl rfl ?_
  refine R_call hg.ok (refSome3_ok B hB hBl) rfl rfl rfl rfl rfl rfl ?_
  refine R_run hg.ok 1000 rfl rfl ?_
  refine R_if rfl rfl (fun h => ?_) (fun h => ?_) <;> refine R_run hg.ok 1000 rfl rfl ?_
  · refine R_call hg.ok (knows3_ok) rfl rfl rfl rfl rfl rfl ?_
    refine R_run hg.ok 1000 rfl rfl ?_
    refine R_ret hg 5 rfl rfl ?_
    rfl
  have hs : someS B = true := by simpa using h
  have sB := someS_small hs
  have hl := (someS_ok hs).1
  refine R_call hg.ok ((some_ok [t] (by simp; exact ht) (by simp)).one) rfl rfl rfl rfl rfl rfl ?_
  refine R_run hg.ok 1000 rfl rfl ?_
  refine R_if rfl rfl (fun h => ?_) (fun h => ?_) <;> refine R_run hg.ok 1000 rfl rfl ?_
  · refine R_call hg.ok (knows3_ok) rfl rfl rfl rfl rfl rfl ?_
    refine R_run hg.ok 1000 rfl rfl ?_
    refine R_ret hg 5 rfl rfl ?_
    rfl
  obtain ⟨st, nt⟩ := some_one (t := t) (by simpa using h)
  obtain ⟨M, hM⟩ := subOr B
  have hap := apply_ok B M hM sB t (by omega) nt
  have hR2 := refRight3_ok B sB
  rw [rightR_eq] at hR2
  have hrt := refRight_ok t (by omega) nt
  cases hr : rightS B with
  | false =>
    rw [applyT_arg (by rw [hr]; rfl)] at hap
    rw [hr] at hR2
    refine R_call hg.ok (hap) rfl rfl rfl rfl rfl rfl ?_
    refine R_run hg.ok 1000 rfl rfl ?_
    refine R_call hg.ok (hR2) rfl rfl rfl rfl rfl rfl ?_
    refine R_run hg.ok 1000 rfl rfl ?_
    refine R_if rfl rfl (fun _ => ?_) (fun h => absurd h (by simp)) <;> refine R_run hg.ok 1000 rfl rfl ?_
    refine R_call hg.ok (refSame_ok zeroT zeroT (by decide)) rfl rfl rfl rfl rfl rfl ?_
    refine R_run hg.ok 1000 rfl rfl ?_
    repeat
      first
      | (refine R_if rfl rfl (fun _ => ?_) (fun h => absurd h (by first | (simp [Tm.same_refl]; done) | (simp [Tm.same_refl]; omega))); refine R_run hg.ok 1000 rfl rfl ?_)
      | (refine R_if rfl rfl (fun h => absurd h (by first | (simp [Tm.same_refl]; done) | (simp [Tm.same_refl]; omega))) (fun _ => ?_); refine R_run hg.ok 1000 rfl rfl ?_)
    refine R_call hg.ok (knows3_ok) rfl rfl rfl rfl rfl rfl ?_
    refine R_run hg.ok 1000 rfl rfl ?_
    refine R_ret hg 5 rfl rfl ?_
    rfl
  | true =>
    rw [hr] at hR2
    cases htr : t.rightB with
    | false =>
      rw [applyT_arg (by rw [hr, htr]; rfl)] at hap
      rw [htr] at hrt
      refine R_call hg.ok (hap) rfl rfl rfl rfl rfl rfl ?_
      refine R_run hg.ok 1000 rfl rfl ?_
      refine R_call hg.ok (hR2) rfl rfl rfl rfl rfl rfl ?_
      refine R_run hg.ok 1000 rfl rfl ?_
      refine R_if rfl rfl (fun h => absurd h (by simp)) (fun _ => ?_) <;> refine R_run hg.ok 1000 rfl rfl ?_
      refine R_call hg.ok (hrt) rfl rfl rfl rfl rfl rfl ?_
      refine R_run hg.ok 1000 rfl rfl ?_
      refine R_if rfl rfl (fun _ => ?_) (fun h => absurd h (by simp)) <;> refine R_run hg.ok 1000 rfl rfl ?_
      refine R_call hg.ok (refSame_ok zeroT zeroT (by decide)) rfl rfl rfl rfl rfl rfl ?_
      refine R_run hg.ok 1000 rfl rfl ?_
      repeat
        first
        | (refine R_if rfl rfl (fun _ => ?_) (fun h => absurd h (by first | (simp [Tm.same_refl]; done) | (simp [Tm.same_refl]; omega))); refine R_run hg.ok 1000 rfl rfl ?_)
        | (refine R_if rfl rfl (fun h => absurd h (by first | (simp [Tm.same_refl]; done) | (simp [Tm.same_refl]; omega))) (fun _ => ?_); refine R_run hg.ok 1000 rfl rfl ?_)
      refine R_call hg.ok (knows3_ok) rfl rfl rfl rfl rfl rfl ?_
      refine R_run hg.ok 1000 rfl rfl ?_
      refine R_ret hg 5 rfl rfl ?_
      rfl
    | true =>
      rw [applyT_app3 hr htr] at hap
      rw [htr] at hrt
      have hS := hM hr
      have hra := refApply3_ok B M hS (by omega) t (right_fair htr)
      have hq : (app3 (fullS B M t)).1.size < 1000000000 := by
        unfold app3
        split
        · rename_i h; simp only [Bool.and_eq_true, decide_eq_true_eq] at h; simp only; omega
        · decide
      generalize app3 (fullS B M t) = q at hap hra hq
      obtain ⟨x, e⟩ := q
      refine R_call hg.ok (hap) rfl rfl rfl rfl rfl rfl ?_
      refine R_run hg.ok 1000 rfl rfl ?_
      refine R_call hg.ok (hR2) rfl rfl rfl rfl rfl rfl ?_
      refine R_run hg.ok 1000 rfl rfl ?_
      refine R_if rfl rfl (fun h => absurd h (by simp)) (fun _ => ?_) <;> refine R_run hg.ok 1000 rfl rfl ?_
      refine R_call hg.ok (hrt) rfl rfl rfl rfl rfl rfl ?_
      refine R_run hg.ok 1000 rfl rfl ?_
      refine R_if rfl rfl (fun h => absurd h (by simp)) (fun _ => ?_) <;> refine R_run hg.ok 1000 rfl rfl ?_
      refine R_call hg.ok (hra) rfl rfl rfl rfl rfl rfl ?_
      refine R_run hg.ok 1000 rfl rfl ?_
      refine R_call hg.ok (refSame_ok x x hq) rfl rfl rfl rfl rfl rfl ?_
      refine R_run hg.ok 1000 rfl rfl ?_
      repeat
        first
        | (refine R_if rfl rfl (fun _ => ?_) (fun h => absurd h (by first | (simp [Tm.same_refl]; done) | (simp [Tm.same_refl]; omega))); refine R_run hg.ok 1000 rfl rfl ?_)
        | (refine R_if rfl rfl (fun h => absurd h (by first | (simp [Tm.same_refl]; done) | (simp [Tm.same_refl]; omega))) (fun _ => ?_); refine R_run hg.ok 1000 rfl rfl ?_)
      refine R_call hg.ok (knows3_ok) rfl rfl rfl rfl rfl rfl ?_
      refine R_run hg.ok 1000 rfl rfl ?_
      refine R_ret hg 5 rfl rfl ?_
      rfl
end Go.Proofs.Ytcafgconfcajbaa
