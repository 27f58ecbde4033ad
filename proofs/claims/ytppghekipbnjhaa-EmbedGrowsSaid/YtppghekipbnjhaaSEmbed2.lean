import Derived.Test.YtppghekipbnjhaaSEmbed
import Derived.Test.YtppghekipbnjhaaPlA
namespace Go.Proofs.Ytppghekipbnjhaa
open Go PSL Go.Proofs

set_option maxRecDepth 100000 in
theorem couples_ok (n m : Nat) (c : Nat → Nat → Bool) (x y : Pt) (hx : x.1.fairR = true) (hy : y.1.fairR = true) (hxa : x.2.length = x.1.l.length) (hya : y.2.length = y.1.l.length)
    (H : ∀ (j a b : Nat) (x' y' : Tm), x.2[j]? = some a → y.2[j]? = some b → x.1.l[j]? = some x' → y.1.l[j]? = some y' → a < n ∧ b < m ∧ c a b = Tm.emb y' x') :
    PCtr Try.prog 70 [.d (.sl (tabS m n c)), .agg (partA x), .agg (partA y)] (bV (Tm.coup y.1 x.1)) := by
  have hax := Tm.fair_arity hx
  have no : ¬ (x.1.k = y.1.k ∧ (y.1.k = 3 → x.1.s = y.1.s ∧ x.1.l.length = y.1.l.length ∧ ∀ (j : Nat) (y' x' : Tm), y.1.l[j]? = some y' → x.1.l[j]? = some x' → Tm.emb y' x' = true)) → AV.d (.v (.bool false)) = bV (Tm.coup y.1 x.1) := fun h => by
    have : Tm.coup y.1 x.1 = false := by
      cases hc : Tm.coup y.1 x.1 with
      | false => rfl
      | true => exact absurd (Tm.coup_iff.1 hc) h
    rw [this]; rfl
  refine PCtr.of_R (pf := fun _ => .still) tyOk mixed Try.func70 rfl (by kernel_rfl) (by kernel_rfl) (by simp [Try.ntmps70]) fun w S hg => ?_
  refine R_run hg.ok 1000 rfl rfl ?_
  refine R_if rfl rfl (fun h1 => ?_) (fun h1 => ?_) <;> refine R_run hg.ok 1000 rfl rfl ?_
  · have h1 : ¬ x.1.k = y.1.k := by simpa using h1
    refine R_ret hg 5 rfl rfl ?_
    exact no fun h => h1 h.1
  have h1 : x.1.k = y.1.k := by simpa using h1
  refine R_if rfl rfl (fun h2 => ?_) (fun h2 => ?_) <;> refine R_run hg.ok 1000 rfl rfl ?_
  · have h2 : ¬ x.1.k = 3 := by simpa using h2
    refine R_ret hg 5 rfl rfl ?_
    rw [Tm.coup_iff.2 ⟨h1, fun h => absurd (h1.trans h) h2⟩]; rfl
  have h2 : x.1.k = 3 := by simpa using h2
  refine R_if rfl rfl (fun h3 => ?_) (fun h3 => ?_) <;> refine R_run hg.ok 1000 rfl rfl ?_
  · have h3 : ¬ x.1.s = y.1.s := fun e => by rw [show strEq x.1.s y.1.s = true from Tm.strEq_iff.2 e] at h3; simp at h3
    refine R_ret hg 5 rfl rfl ?_
    exact no fun h => h3 (h.2 (h1.symm.trans h2)).1
  have h3 : x.1.s = y.1.s := Tm.strEq_iff.1 (by simpa using h3)
  refine R_if rfl rfl (fun h4 => ?_) (fun h4 => ?_) <;> refine R_run hg.ok 1000 rfl rfl ?_
  · have h4 : ¬ x.1.l.length = y.1.l.length := by simp [Tm.rows_length] at h4; omega
    refine R_ret hg 5 rfl rfl ?_
    exact no fun h => h4 (h.2 (h1.symm.trans h2)).2.1
  have h4 : x.1.l.length = y.1.l.length := by simp [Tm.rows_length] at h4; omega
  refine R_loop (fun k : Nat => ([(0, .d (.sl (tabS m n c))), (4, .lo 0 0), (5, .lo 1 0), (43, iV x.1.l.length), (44, iV k)], [.box (partA x), .box (partA y)])) (fun k => k ≤ x.1.l.length ∧ ∀ j < k, ∀ (y' x' : Tm), y.1.l[j]? = some y' → x.1.l[j]? = some x' → Tm.emb y' x' = true) (fun k => x.1.l.length - k) 0 ⟨Nat.zero_le _, fun j h => absurd h (Nat.not_lt_zero _)⟩ ⟨.refl _, .refl _, .refl _, Ent.int (by rw [Tm.rows_length]), .refl _, trivial⟩ rfl ?_
  rintro k ⟨hk, hm⟩
  refine R_run hg.ok 1000 rfl rfl ?_
  refine R_if rfl rfl (fun h => ?_) (fun h => ?_) <;> refine R_run hg.ok 1000 rfl rfl ?_
  · have hk1 : k < x.1.l.length := lt_dec h rfl
    obtain ⟨a, ea⟩ : ∃ a, x.2[k]? = some a := ⟨_, List.getElem?_eq_getElem (by omega)⟩
    obtain ⟨b, eb⟩ : ∃ b, y.2[k]? = some b := ⟨_, List.getElem?_eq_getElem (by omega)⟩
    have ex : x.1.l[k]? = some (x.1.l[k]'(by omega)) := List.getElem?_eq_getElem _
    have ey : y.1.l[k]? = some (y.1.l[k]'(by omega)) := List.getElem?_eq_getElem _
    obtain ⟨g1, g2, g3⟩ := H k _ _ _ _ ea eb ex ey
    refine R_indexA hg.ok (4 + k) rfl rfl rfl rfl rfl rfl (Int.natCast_nonneg k) (by omega) (by simp) ?_
    refine R_loadA hg.ok rfl rfl rfl rfl rfl rfl (partA_get (by omega)) ?_
    rw [gd_get ea]
    refine R_run hg.ok 1000 rfl rfl ?_
    refine R_index hg.ok rfl rfl rfl rfl rfl rfl (Int.natCast_nonneg _) (tabS_get (i := a) g1) rfl ?_
    refine R_run hg.ok 1000 rfl rfl ?_
    refine R_indexA hg.ok (4 + k) rfl rfl rfl rfl rfl rfl (Int.natCast_nonneg k) (by omega) (by simp) ?_
    refine R_loadA hg.ok rfl rfl rfl rfl rfl rfl (partA_get (by omega)) ?_
    rw [gd_get eb]
    refine R_run hg.ok 1000 rfl rfl ?_
    refine R_index hg.ok rfl rfl rfl rfl rfl rfl (Int.natCast_nonneg _) (rowS_get (j := b) g2) rfl ?_
    refine R_run hg.ok 1000 rfl rfl ?_
    rw [g3]
    refine R_if rfl rfl (fun h5 => ?_) (fun h5 => ?_) <;> refine R_run hg.ok 1000 rfl rfl ?_
    · refine R_ret hg 5 rfl rfl ?_
      exact no fun h => by rw [(h.2 (h1.symm.trans h2)).2.2 k _ _ ey ex] at h5; simp at h5
    · refine R_next (k + 1) ⟨hk1, fun j hj y' x' hy' hx' => ?_⟩ (by omega) ⟨.refl _, .refl _, .refl _, .refl _, Ent.wrap (by omega) (by omega) (by omega), trivial⟩ rfl
      by_cases e : j = k
      · subst e
        rw [ey] at hy'; rw [ex] at hx'; cases hy'; cases hx'
        simpa using h5
      · exact hm j (by omega) y' x' hy' hx'
  · have hk1 : x.1.l.length ≤ k := ge_dec h rfl
    refine R_ret hg 5 rfl rfl ?_
    rw [Tm.coup_iff.2 ⟨h1, fun _ => ⟨h3, h4, fun j y' x' hy' hx' => hm j (by have := (List.getElem?_eq_some_iff.1 hx').1; omega) y' x' hy' hx'⟩⟩]; rfl

set_option maxRecDepth 100000 in
theorem dives_ok (n m i : Nat) (c : Nat → Nat → Bool) (X : Tm) (y : Pt) (hy : y.1.fairR = true) (hya : y.2.length = y.1.l.length) (hi : i < n)
    (H : ∀ (j b : Nat) (y' : Tm), y.2[j]? = some b → y.1.l[j]? = some y' → b < m ∧ c i b = Tm.emb y' X) :
    PCtr Try.prog 71 [.d (.sl (tabS m n c)), iV i, .agg (partA y)] (bV (Tm.embAny y.1.l X)) := by
  have hay := Tm.fair_arity hy
  refine PCtr.of_R (pf := fun _ => .still) tyOk mixed Try.func71 rfl (by kernel_rfl) (by kernel_rfl) (by simp [Try.ntmps71]) fun w S hg => ?_
  refine R_run hg.ok 1000 rfl rfl ?_
  refine R_loop (fun k : Nat => ([(0, .d (.sl (tabS m n c))), (1, iV i), (5, .lo 0 0), (11, iV y.1.l.length), (12, iV k)], [.box (partA y)])) (fun k => k ≤ y.1.l.length ∧ ∀ j < k, ∀ (y' : Tm), y.1.l[j]? = some y' → Tm.emb y' X = false) (fun k => y.1.l.length - k) 0 ⟨Nat.zero_le _, fun j h => absurd h (Nat.not_lt_zero _)⟩ ⟨.refl _, .refl _, .refl _, Ent.int (by rw [Tm.rows_length]), .refl _, trivial⟩ rfl ?_
  rintro k ⟨hk, hm⟩
  refine R_run hg.ok 1000 rfl rfl ?_
  refine R_if rfl rfl (fun h => ?_) (fun h => ?_) <;> refine R_run hg.ok 1000 rfl rfl ?_
  · have hk1 : k < y.1.l.length := lt_dec h rfl
    obtain ⟨b, eb⟩ : ∃ b, y.2[k]? = some b := ⟨_, List.getElem?_eq_getElem (by omega)⟩
    have ey : y.1.l[k]? = some (y.1.l[k]'(by omega)) := List.getElem?_eq_getElem _
    obtain ⟨g2, g3⟩ := H k _ _ eb ey
    refine R_index hg.ok rfl rfl rfl rfl rfl rfl (Int.natCast_nonneg _) (tabS_get (i := i) hi) rfl ?_
    refine R_run hg.ok 1000 rfl rfl ?_
    refine R_indexA hg.ok (4 + k) rfl rfl rfl rfl rfl rfl (Int.natCast_nonneg k) (by omega) (by simp) ?_
    refine R_loadA hg.ok rfl rfl rfl rfl rfl rfl (partA_get (by omega)) ?_
    rw [gd_get eb]
    refine R_run hg.ok 1000 rfl rfl ?_
    refine R_index hg.ok rfl rfl rfl rfl rfl rfl (Int.natCast_nonneg _) (rowS_get (j := b) g2) rfl ?_
    refine R_run hg.ok 1000 rfl rfl ?_
    rw [g3]
    refine R_if rfl rfl (fun h5 => ?_) (fun h5 => ?_) <;> refine R_run hg.ok 1000 rfl rfl ?_
    · refine R_ret hg 5 rfl rfl ?_
      rw [Tm.embAny_iff.2 ⟨_, List.mem_of_getElem? ey, h5⟩]; rfl
    · refine R_next (k + 1) ⟨hk1, fun j hj y' hy' => ?_⟩ (by omega) ⟨.refl _, .refl _, .refl _, .refl _, Ent.wrap (by omega) (by omega) (by omega), trivial⟩ rfl
      by_cases e : j = k
      · subst e
        rw [ey] at hy'; cases hy'
        exact h5
      · exact hm j (by omega) y' hy'
  · have hk1 : y.1.l.length ≤ k := ge_dec h rfl
    refine R_ret hg 5 rfl rfl ?_
    have : Tm.embAny y.1.l X = false := by
      cases hc : Tm.embAny y.1.l X with
      | false => rfl
      | true =>
        obtain ⟨y', hy', h6⟩ := Tm.embAny_iff.1 hc
        obtain ⟨j, hj⟩ := List.mem_iff_getElem?.1 hy'
        have hjl := (List.getElem?_eq_some_iff.1 hj).1
        rw [hm j (by omega) y' hj] at h6; cases h6
    rw [this]; rfl
end Go.Proofs.Ytppghekipbnjhaa
