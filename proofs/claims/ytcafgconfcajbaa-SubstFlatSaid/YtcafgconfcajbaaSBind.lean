import Derived.Test.YtcafgconfcajbaaSRef1
import Derived.Test.YtcafgconfcajbaaPlC
import Derived.Test.YtcafgconfcajbaaPlA
namespace Go.Proofs.Ytcafgconfcajbaa
open Go PSL Go.Proofs

set_option maxRecDepth 100000 in
theorem place_ok (l : Binds) (v : Int) (hl : l.length < 1000000000) : PCtr Try.prog 32 [.d (.sl (bindRows l)), iV v] (iV (placeB l v)) := by
  refine PCtr.of_R (pf := fun _ => .still) tyOk mixed Try.func32 rfl (by kernel_rfl) (by kernel_rfl) (by simp [Try.ntmps32]) fun w S hg => ?_
  refine R_run hg.ok 1000 rfl rfl ?_
  refine R_loop (fun k : Nat => ([(0, .d (.sl (bindRows l))), (1, iV v), (5, iV k)], [])) (fun k => k ≤ l.length ∧ placeB l v = atI ((l.drop k).map (·.1)) v k) (fun k => l.length - k) 0 ⟨Nat.zero_le _, rfl⟩ ⟨.refl _, .refl _, .refl _, trivial⟩ rfl ?_
  rintro k ⟨hk, hm⟩
  refine R_run hg.ok 1000 rfl rfl ?_
  refine R_if rfl rfl (fun h => ?_) (fun h => ?_) <;> refine R_run hg.ok 1000 rfl rfl ?_
  · have hk1 : k < l.length := lt_dec h (by rw [bindRows_len])
    have e1 : l[k]? = some l[k] := List.getElem?_eq_getElem hk1
    rw [List.drop_eq_getElem_cons hk1, List.map_cons, atI] at hm
    refine R_index hg.ok rfl rfl rfl rfl rfl rfl (Int.natCast_nonneg k) (bindRows_get e1) rfl ?_
    refine R_run hg.ok 1000 rfl rfl ?_
    refine R_if rfl rfl (fun h => ?_) (fun h => ?_) <;> refine R_run hg.ok 1000 rfl rfl ?_
    · refine R_ret hg 5 rfl rfl ?_
      rw [hm, if_pos (by simpa using h)]; rfl
    · rw [if_neg (by simpa using h)] at hm
      exact R_next (k + 1) ⟨hk1, hm⟩ (by omega) ⟨.refl _, .refl _, Ent.wrap (by omega) (by omega) (by omega), trivial⟩ rfl
  · have hk1 : l.length ≤ k := ge_dec h (by rw [bindRows_len])
    refine R_ret hg 5 rfl rfl ?_
    rw [hm, List.drop_eq_nil_of_le hk1]; rfl

set_option maxRecDepth 100000 in
theorem sameB_ok (l m : Binds) (hl : l.length < 1000000000) (hs : ∀ b ∈ l, b.2.size < 1000000000) : PCtr Try.prog 36 [.d (.sl (bindRows l)), .d (.sl (bindRows m))] (bV (sameB l m)) := by
  refine PCtr.of_R (pf := fun _ => .still) tyOk mixed Try.func36 rfl (by kernel_rfl) (by kernel_rfl) (by simp [Try.ntmps36]) fun w S hg => ?_
  refine R_run hg.ok 1000 rfl rfl ?_
  refine R_if rfl rfl (fun h => ?_) (fun h => ?_) <;> refine R_run hg.ok 1000 rfl rfl ?_
  · refine R_ret hg 5 rfl rfl ?_
    simp only [bindRows_len] at h
    rw [sameB_len (by simp at h; omega)]; rfl
  have hlm : l.length = m.length := by simp only [bindRows_len] at h; simp at h; omega
  refine R_loop (fun k : Nat => ([(0, .d (.sl (bindRows l))), (1, .d (.sl (bindRows m))), (5, iV k)], [])) (fun k => k ≤ l.length ∧ sameB l m = sameB (l.drop k) (m.drop k)) (fun k => l.length - k) 0 ⟨Nat.zero_le _, rfl⟩ ⟨.refl _, .refl _, .refl _, trivial⟩ rfl ?_
  rintro k ⟨hk, hm⟩
  refine R_run hg.ok 1000 rfl rfl ?_
  refine R_if rfl rfl (fun h => ?_) (fun h => ?_) <;> refine R_run hg.ok 1000 rfl rfl ?_
  · have hk1 : k < l.length := lt_dec h (by rw [bindRows_len])
    have hk2 : k < m.length := by omega
    have e1 : l[k]? = some l[k] := List.getElem?_eq_getElem hk1
    have e2 : m[k]? = some m[k] := List.getElem?_eq_getElem hk2
    have hb := hs _ (List.getElem_mem hk1)
    rw [List.drop_eq_getElem_cons hk1, List.drop_eq_getElem_cons hk2, sameB] at hm
    refine R_index hg.ok rfl rfl rfl rfl rfl rfl (Int.natCast_nonneg k) (bindRows_get e1) rfl ?_
    refine R_run hg.ok 1000 rfl rfl ?_
    refine R_index hg.ok rfl rfl rfl rfl rfl rfl (Int.natCast_nonneg k) (bindRows_get e2) rfl ?_
    refine R_run hg.ok 1000 rfl rfl ?_
    refine R_if rfl rfl (fun h => ?_) (fun h => ?_) <;> refine R_run hg.ok 1000 rfl rfl ?_
    · refine R_ret hg 5 rfl rfl ?_
      have h : ¬ l[k].1 = m[k].1 := by simpa using h
      rw [hm]; simp [h, bV]
    have h : l[k].1 = m[k].1 := by simpa using h
    refine R_index hg.ok rfl rfl rfl rfl rfl rfl (Int.natCast_nonneg k) (bindRows_get e1) rfl ?_
    refine R_run hg.ok 1000 rfl rfl ?_
    refine R_index hg.ok rfl rfl rfl rfl rfl rfl (Int.natCast_nonneg k) (bindRows_get e2) rfl ?_
    refine R_run hg.ok 1000 rfl rfl ?_
    refine R_call hg.ok (refSame_ok l[k].2 m[k].2 hb) rfl rfl rfl rfl rfl rfl ?_
    refine R_run hg.ok 1000 rfl rfl ?_
    refine R_if rfl rfl (fun h3 => ?_) (fun h3 => ?_) <;> refine R_run hg.ok 1000 rfl rfl ?_
    · refine R_ret hg 5 rfl rfl ?_
      have h3 : Tm.same l[k].2 m[k].2 = false := by simpa using h3
      rw [hm, h3]; simp [bV]
    · have h3 : Tm.same l[k].2 m[k].2 = true := by simpa using h3
      rw [h3, beq_iff_eq.2 h, Bool.true_and, Bool.true_and] at hm
      exact R_next (k + 1) ⟨hk1, hm⟩ (by omega) ⟨.refl _, .refl _, Ent.wrap (by omega) (by omega) (by omega), trivial⟩ rfl
  · have hk1 : l.length ≤ k := ge_dec h (by rw [bindRows_len])
    refine R_ret hg 5 rfl rfl ?_
    rw [hm, List.drop_eq_nil_of_le hk1, List.drop_eq_nil_of_le (by omega)]; rfl
end Go.Proofs.Ytcafgconfcajbaa
