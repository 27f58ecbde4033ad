import Derived.Test.YthdiihpjgjoacaaSLaw2
namespace Go.Proofs.Ythdiihpjgjoacaa
open Go PSL Go.Proofs

theorem variant_iff {a b : Tm} (ha : a.rightB = true) (hb : b.rightB = true) : variantT a b = true ↔ numOne a = numOne b := by
  rw [← fits_num ha hb]; unfold variantT; simp [ha, hb]

set_option maxRecDepth 100000 in
theorem compareVariants_ok (a b : Tm) (ha : a.Ok) (hb : b.Ok) (m : Int) (hm : 0 ≤ m ∧ m ≤ 65535) : PCtr Try.prog 9 [a.av, b.av, .d (.v (.int .u16 m))] (bV true) := by
  refine PCtr.of_R (pf := fun _ => .still) tyOk mixed Try.func9 rfl (by kernel_rfl) (by kernel_rfl) (by simp [Try.ntmps9]) fun w S hg => ?_
  refine R_run hg.ok 1000 rfl rfl ?_
  refine R_call hg.ok (some_ok [a, b] (by simp; exact ⟨ha, hb⟩) (by simp)).two rfl rfl rfl rfl rfl rfl ?_
  refine R_run hg.ok 1000 rfl rfl ?_
  refine R_if rfl rfl (fun h => ?_) (fun h => ?_) <;> refine R_run hg.ok 1000 rfl rfl ?_
  · refine R_call hg.ok knows2_ok rfl rfl rfl rfl rfl rfl ?_
    refine R_run hg.ok 1000 rfl rfl ?_
    refine R_ret hg 5 rfl rfl ?_
    rfl
  have hs : Tm.someT [a, b] = true := by simpa using h
  have ba := bear_some hs a (by simp)
  have bb := bear_some hs b (by simp)
  refine R_call hg.ok (refRight_ok a ba.1 ba.2) rfl rfl rfl rfl rfl rfl ?_
  refine R_run hg.ok 1000 rfl rfl ?_
  refine R_if rfl rfl (fun h1 => ?_) (fun h1 => ?_) <;> refine R_run hg.ok 1000 rfl rfl ?_
  · refine R_call hg.ok knows2_ok rfl rfl rfl rfl rfl rfl ?_
    refine R_run hg.ok 1000 rfl rfl ?_
    refine R_ret hg 5 rfl rfl ?_
    rfl
  refine R_call hg.ok (refRight_ok b bb.1 bb.2) rfl rfl rfl rfl rfl rfl ?_
  refine R_run hg.ok 1000 rfl rfl ?_
  refine R_if rfl rfl (fun h2 => ?_) (fun h2 => ?_) <;> refine R_run hg.ok 1000 rfl rfl ?_
  · refine R_call hg.ok knows2_ok rfl rfl rfl rfl rfl rfl ?_
    refine R_run hg.ok 1000 rfl rfl ?_
    refine R_ret hg 5 rfl rfl ?_
    rfl
  have ra : a.rightB = true := by simpa using h1
  have rb : b.rightB = true := by simpa using h2
  have fa := right_fair ra
  have fb := right_fair rb
  have na := number_ok [a] (by have := ba.1; simp [Tm.sizeL]; omega) (by intro t ht; simp at ht; subst ht; exact ba.2 1)
  have nb := number_ok [b] (by have := bb.1; simp [Tm.sizeL]; omega) (by intro t ht; simp at ht; subst ht; exact bb.2 1)
  rw [numOne_eq ra] at na
  rw [numOne_eq rb] at nb
  refine R_call hg.ok na.one rfl rfl rfl rfl rfl rfl ?_
  refine R_run hg.ok 1000 rfl rfl ?_
  refine R_call hg.ok nb.one rfl rfl rfl rfl rfl rfl ?_
  refine R_run hg.ok 1000 rfl rfl ?_
  have hw : IntKind.i64.wrap m = m := w64 (by omega) (by omega)
  rw [hw]
  refine R_call hg.ok (shift_ok a m ba.1 (ba.2 1)) rfl rfl rfl rfl rfl rfl ?_
  refine R_run hg.ok 1000 rfl rfl ?_
  refine R_if rfl rfl (fun h => absurd h (by simp [Tm.rows_eq])) (fun _ => ?_) <;> refine R_run hg.ok 1000 rfl rfl ?_
  refine R_if rfl rfl (fun h => absurd h (by simp [Tm.rows_eq])) (fun _ => ?_) <;> refine R_run hg.ok 1000 rfl rfl ?_
  refine R_if rfl rfl (fun h => absurd h (by simp [Tm.rows_eq])) (fun _ => ?_) <;> refine R_run hg.ok 1000 rfl rfl ?_
  refine R_if rfl rfl (fun h => absurd h (by simp [Tm.rows_eq])) (fun _ => ?_) <;> refine R_run hg.ok 1000 rfl rfl ?_
  refine R_call hg.ok (variant_ok a b ba bb) rfl rfl rfl rfl rfl rfl ?_
  refine R_run hg.ok 1000 rfl rfl ?_
  refine R_index hg.ok rfl rfl rfl rfl rfl rfl (Int.le_refl 0) (by rw [rows_cons']; rfl) rfl ?_
  refine R_run hg.ok 1000 rfl rfl ?_
  refine R_index hg.ok rfl rfl rfl rfl rfl rfl (Int.le_refl 0) (by rw [rows_cons']; rfl) rfl ?_
  refine R_run hg.ok 1000 rfl rfl ?_
  have hn : (numOne a).size < 1000000000 := by unfold numOne; rw [Tm.size_turn]; exact ba.1
  refine R_call hg.ok (same_ok (numOne a) (numOne b) hn) rfl rfl rfl rfl rfl rfl ?_
  refine R_run hg.ok 1000 rfl rfl ?_
  have hvs : (variantT a b == Tm.same (numOne a) (numOne b)) = true := by
    rw [beq_iff_eq, Bool.eq_iff_iff, variant_iff ra rb, Tm.same_iff]
  refine R_if rfl rfl (fun _ => ?_) (fun h => absurd (h.symm.trans hvs) (by simp)) <;> refine R_run hg.ok 1000 rfl rfl ?_
  have haa : variantT a a = true := (variant_iff ra ra).2 rfl
  have hsy : variantT a b = variantT b a := by rw [Bool.eq_iff_iff, variant_iff ra rb, variant_iff rb ra]; exact eq_comm
  by_cases ho : okF (varsT [a]) m = true
  · obtain ⟨e, h0, h1, h2⟩ := shift_good ra ho
    rw [e]
    have hocc : ∀ v ∈ Tm.occ a, 0 ≤ v ∧ v + m < 1000000 ∧ IntKind.i64.wrap (v + m) = v + m := fun v hv => h2 v ((varsT_mem (one_fair fa)).2 (by simpa [Tm.occL] using hv))
    have hg0 : ∀ v ∈ Tm.occ a, 0 ≤ IntKind.i64.wrap (v + m) ∧ IntKind.i64.wrap (v + m) < 1000000 := fun v hv => by
      obtain ⟨h3, h4, h5⟩ := hocc v hv; omega
    have hR := Tm.right_turn (g := fun n => IntKind.i64.wrap (n + m)) ra hg0
    have hE := numOne_turn (g := fun n => IntKind.i64.wrap (n + m)) ra hg0 fun x hx y hy he => by
      have := (hocc x hx).2.2; have := (hocc y hy).2.2; (try simp only at he); omega
    have bt : Bear (Tm.turnT (fun n => IntKind.i64.wrap (n + m)) a) := bear_fair (right_fair hR) (by rw [Tm.size_turn]; exact ba.1)
    have hvt : variantT a (Tm.turnT (fun n => IntKind.i64.wrap (n + m)) a) = true := (variant_iff ra hR).2 hE.symm
    refine R_if rfl rfl (fun h => absurd h (by simp)) (fun _ => ?_) <;> refine R_run hg.ok 1000 rfl rfl ?_
    refine R_call hg.ok (variant_ok a _ ba bt) rfl rfl rfl rfl rfl rfl ?_
    rw [hvt]
    refine R_run hg.ok 1000 rfl rfl ?_
    refine R_if rfl rfl (fun _ => ?_) (fun h => absurd h (by simp)) <;> refine R_run hg.ok 1000 rfl rfl ?_
    refine R_call hg.ok (variant_ok a a ba ba) rfl rfl rfl rfl rfl rfl ?_
    refine R_run hg.ok 1000 rfl rfl ?_
    refine R_if rfl rfl (fun _ => ?_) (fun h => absurd h (by rw [haa]; simp)) <;> refine R_run hg.ok 1000 rfl rfl ?_
    refine R_call hg.ok (variant_ok a b ba bb) rfl rfl rfl rfl rfl rfl ?_
    refine R_run hg.ok 1000 rfl rfl ?_
    refine R_call hg.ok (variant_ok b a bb ba) rfl rfl rfl rfl rfl rfl ?_
    refine R_run hg.ok 1000 rfl rfl ?_
    refine R_if rfl rfl (fun _ => ?_) (fun h => absurd h (by rw [hsy]; simp)) <;> refine R_run hg.ok 1000 rfl rfl ?_
    refine R_call hg.ok knows2_ok rfl rfl rfl rfl rfl rfl ?_
    refine R_run hg.ok 1000 rfl rfl ?_
    refine R_ret hg 5 rfl rfl ?_
    rfl
  · rw [shift_bad (by unfold I64; omega) ra (by simpa using ho)]
    refine R_if rfl rfl (fun _ => ?_) (fun h => absurd h (by simp)) <;> refine R_run hg.ok 1000 rfl rfl ?_
    refine R_call hg.ok (variant_ok a a ba ba) rfl rfl rfl rfl rfl rfl ?_
    refine R_run hg.ok 1000 rfl rfl ?_
    refine R_if rfl rfl (fun _ => ?_) (fun h => absurd h (by rw [haa]; simp)) <;> refine R_run hg.ok 1000 rfl rfl ?_
    refine R_call hg.ok (variant_ok a b ba bb) rfl rfl rfl rfl rfl rfl ?_
    refine R_run hg.ok 1000 rfl rfl ?_
    refine R_call hg.ok (variant_ok b a bb ba) rfl rfl rfl rfl rfl rfl ?_
    refine R_run hg.ok 1000 rfl rfl ?_
    refine R_if rfl rfl (fun _ => ?_) (fun h => absurd h (by rw [hsy]; simp)) <;> refine R_run hg.ok 1000 rfl rfl ?_
    refine R_call hg.ok knows2_ok rfl rfl rfl rfl rfl rfl ?_
    refine R_run hg.ok 1000 rfl rfl ?_
    refine R_ret hg 5 rfl rfl ?_
    rfl
end Go.Proofs.Ythdiihpjgjoacaa
