import Derived.Test.YtcafgconfcajbaaSLaw5
import Derived.Test.YtcafgconfcajbaaSVari
import Derived.Test.YtcafgconfcajbaaPlC
namespace Go.Proofs.Ytcafgconfcajbaa
open Go PSL Go.Proofs

theorem matchT_size {p t : Tm} : (matchT p t).1.length ≤ p.size ∧ ∀ b ∈ (matchT p t).1, b.2.size ≤ t.size := by
  have hgr := Tm.fitM_grow p t []
  unfold matchT
  split
  · split
    · refine ⟨by have := hgr.1; simpa using this, fun b hb => ?_⟩
      exact (hgr.2 b hb).resolve_left (by simp)
    · exact ⟨by simp, fun b hb => by simp at hb⟩
  · exact ⟨by simp, fun b hb => by simp at hb⟩

theorem matchT_cases (p t : Tm) : ((matchT p t).2.1 = false ∧ (matchT p t).1 = []) ∨ ((matchT p t).2 = (true, 0) ∧ p.rightB = true ∧ t.rightB = true ∧ (matchR p t).2 = true ∧ (matchT p t).1 = (matchR p t).1) := by
  by_cases h1 : p.rightB = true
  · by_cases h2 : t.rightB = true
    · have e := match_same h1 h2
      rw [e]
      cases h3 : (matchR p t).2 with
      | true => exact .inr ⟨rfl, h1, h2, rfl, rfl⟩
      | false =>
        refine .inl ⟨rfl, ?_⟩
        show (matchR p t).1 = []
        unfold matchR at h3 ⊢
        split at h3
        · split at h3
          · simp at h3
          · rename_i a b; rw [if_pos a, if_neg b]
        · rename_i a; rw [if_neg a]
    · have := (instT_bad (p := p) (t := t) (.inr (by simpa using h2))).2
      rw [this]; exact .inl ⟨rfl, rfl⟩
  · have := (instT_bad (p := p) (t := t) (.inl (by simpa using h1))).2
    rw [this]; exact .inl ⟨rfl, rfl⟩

set_option maxRecDepth 100000 in
theorem matchBack_ok (p t : Tm) (hp : p.Ok) (ht : t.Ok) : PCtr Try.prog 4 [p.av, t.av] (bV true) := by
  refine PCtr.of_R (pf := fun _ => .still) tyOk mixed Try.func4 rfl (by kernel_rfl) (by kernel_rfl) (by simp [Try.ntmps4]) fun w S hg => ?_
  refine R_run hg.ok 1000 rfl rfl ?_
  refine R_call hg.ok (some_ok [p, t] (by simp; exact ⟨hp, ht⟩) (by simp)).two rfl rfl rfl rfl rfl rfl ?_
  refine R_run hg.ok 1000 rfl rfl ?_
  refine R_if rfl rfl (fun h => ?_) (fun h => ?_) <;> refine R_run hg.ok 1000 rfl rfl ?_
  · refine R_call hg.ok knows5_ok rfl rfl rfl rfl rfl rfl ?_
    refine R_run hg.ok 1000 rfl rfl ?_
    refine R_ret hg 5 rfl rfl ?_
    rfl
  have hs : Tm.someT [p, t] = true := by simpa using h
  obtain ⟨sp, np⟩ := some_b hs p (by simp)
  obtain ⟨st, nt⟩ := some_b hs t (by simp)
  refine R_call hg.ok (match_ok p t (by omega) (by omega) (np 1) (nt 1)) rfl rfl rfl rfl rfl rfl ?_
  refine R_run hg.ok 1000 rfl rfl ?_
  rcases matchT_cases p t with ⟨h1, h2⟩ | ⟨h1, h2, h3, h4, h5⟩
  · rw [h1, h2]
    refine R_if rfl rfl (fun _ => ?_) (fun h => absurd h (by simp)) <;> refine R_run hg.ok 1000 rfl rfl ?_
    refine R_if rfl rfl (fun _ => ?_) (fun h => absurd h (by simp [bindRows])) <;> refine R_run hg.ok 1000 rfl rfl ?_
    refine R_call hg.ok knows5_ok rfl rfl rfl rfl rfl rfl ?_
    refine R_run hg.ok 1000 rfl rfl ?_
    refine R_ret hg 5 rfl rfl ?_
    rfl
  · have hsz := matchT_size (p := p) (t := t)
    rw [h5] at hsz
    rw [h1, h5]
    have hmay := matchR_may h2 h3 h4
    have hall := may_all hmay
    have hback := matchR_back (right_fair h2) h4
    refine R_if rfl rfl (fun h => absurd h (by simp)) (fun _ => ?_) <;> refine R_run hg.ok 1000 rfl rfl ?_
    refine R_if rfl rfl (fun h => absurd h (by simp)) (fun _ => ?_) <;> refine R_run hg.ok 1000 rfl rfl ?_
    have hfl := fill_ok p (matchR p t).1 (by omega) (np 1) (by omega) (fun b hb => ⟨by have := hsz.2 b hb; omega, fun e he => fair_names (right_fair (hall b hb).2.2) 1 e he⟩)
    rw [fill_match h2 h3 h4] at hfl
    refine R_call hg.ok hfl rfl rfl rfl rfl rfl rfl ?_
    refine R_run hg.ok 1000 rfl rfl ?_
    refine R_if rfl rfl (fun _ => ?_) (fun h => absurd h (by simp)) <;> refine R_run hg.ok 1000 rfl rfl ?_
    refine R_call hg.ok (refSame_ok t t (by omega)) rfl rfl rfl rfl rfl rfl ?_
    refine R_run hg.ok 1000 rfl rfl ?_
    refine R_if rfl rfl (fun _ => ?_) (fun h => absurd h (by rw [Tm.same_refl]; simp)) <;> refine R_run hg.ok 1000 rfl rfl ?_
    refine R_call hg.ok (refVars_ok [p] (by simp [Tm.sizeL]; omega)).one rfl rfl rfl rfl rfl rfl ?_
    refine R_run hg.ok 1000 rfl rfl ?_
    have hlen : (matchR p t).1.length = (Tm.withVL [] [p]).length := by
      have e1 := congrArg List.length hback.2
      rw [List.length_map] at e1
      rw [e1, ← varsT_with [p] (Tm.fairL_plain _ (one_fair (right_fair h2))), varsT_once (one_fair (right_fair h2))]
      simp [Tm.occL]
    refine R_if rfl rfl (fun _ => ?_) (fun h => absurd h (by rw [bindRows_len, irows_length, hlen]; simp)) <;> refine R_run hg.ok 1000 rfl rfl ?_
    refine R_call hg.ok knows5_ok rfl rfl rfl rfl rfl rfl ?_
    refine R_run hg.ok 1000 rfl rfl ?_
    refine R_ret hg 5 rfl rfl ?_
    rfl

theorem inst_walk (t p : Tm) (hp : p.size ≤ 4000 ∧ (∀ x e, e ∈ p.els x → e.2.s.size < 1000000000)) (ht : t.size ≤ 4000 ∧ (∀ x e, e ∈ t.els x → e.2.s.size < 1000000000)) : PCtr Try.prog 21 [t.av, p.av] (bV (instT t p)) :=
  instance_ok t p (by omega) (by omega) (hp.2 1) (ht.2 1)

set_option maxRecDepth 100000 in
theorem matchOrders_ok (a b c : Tm) (ha : a.Ok) (hb : b.Ok) (hc : c.Ok) : PCtr Try.prog 5 [a.av, b.av, c.av] (bV true) := by
  have h3 := some_ok [a, b, c] (by simp; exact ⟨ha, hb, hc⟩) (by simp)
  rw [Tm.rows_eq] at h3
  refine PCtr.of_R (pf := fun _ => .still) tyOk mixed Try.func5 rfl (by kernel_rfl) (by kernel_rfl) (by simp [Try.ntmps5]) fun w S hg => ?_
  refine R_run hg.ok 1000 rfl rfl ?_
  refine R_call hg.ok h3 rfl rfl rfl rfl rfl rfl ?_
  refine R_run hg.ok 1000 rfl rfl ?_
  refine R_if rfl rfl (fun h => ?_) (fun h => ?_) <;> refine R_run hg.ok 1000 rfl rfl ?_
  · refine R_call hg.ok knows5_ok rfl rfl rfl rfl rfl rfl ?_
    refine R_run hg.ok 1000 rfl rfl ?_
    refine R_ret hg 5 rfl rfl ?_
    rfl
  have hs : Tm.someT [a, b, c] = true := by simpa using h
  have ba := some_b hs a (by simp)
  have bb := some_b hs b (by simp)
  have bc := some_b hs c (by simp)
  refine R_call hg.ok (refRight_ok a (by omega) ba.2) rfl rfl rfl rfl rfl rfl ?_
  refine R_run hg.ok 1000 rfl rfl ?_
  refine R_if rfl rfl (fun h1 => ?_) (fun h1 => ?_) <;> refine R_run hg.ok 1000 rfl rfl ?_
  · refine R_call hg.ok knows5_ok rfl rfl rfl rfl rfl rfl ?_
    refine R_run hg.ok 1000 rfl rfl ?_
    refine R_ret hg 5 rfl rfl ?_
    rfl
  refine R_call hg.ok (refRight_ok b (by omega) bb.2) rfl rfl rfl rfl rfl rfl ?_
  refine R_run hg.ok 1000 rfl rfl ?_
  refine R_if rfl rfl (fun h2 => ?_) (fun h2 => ?_) <;> refine R_run hg.ok 1000 rfl rfl ?_
  · refine R_call hg.ok knows5_ok rfl rfl rfl rfl rfl rfl ?_
    refine R_run hg.ok 1000 rfl rfl ?_
    refine R_ret hg 5 rfl rfl ?_
    rfl
  refine R_call hg.ok (refRight_ok c (by omega) bc.2) rfl rfl rfl rfl rfl rfl ?_
  refine R_run hg.ok 1000 rfl rfl ?_
  refine R_if rfl rfl (fun h3 => ?_) (fun h3 => ?_) <;> refine R_run hg.ok 1000 rfl rfl ?_
  · refine R_call hg.ok knows5_ok rfl rfl rfl rfl rfl rfl ?_
    refine R_run hg.ok 1000 rfl rfl ?_
    refine R_ret hg 5 rfl rfl ?_
    rfl
  have ra : a.rightB = true := by simpa using h1
  have rb : b.rightB = true := by simpa using h2
  have rc : c.rightB = true := by simpa using h3
  have htr : instT a b = true → instT b c = true → instT a c = true := fun x y => (instT_iff rc ra).2 (Tm.inst_trans ((instT_iff rb ra).1 x) ((instT_iff rc rb).1 y))
  have haa : instT a a = true := (instT_iff ra ra).2 ⟨_, (Tm.put_self a (right_fair ra)).symm⟩
  have hbo : (instT a b && instT b a) = variantT a b := by
    rw [Bool.eq_iff_iff, Bool.and_eq_true, instT_iff rb ra, instT_iff ra rb]
    have e : variantT a b = true ↔ numOne a = numOne b := by rw [← fits_num ra rb]; unfold variantT; simp [ra, rb]
    rw [e, ← inst_both ra rb]; exact and_comm
  have va : Bear a := ⟨by omega, ba.2⟩
  have vb : Bear b := ⟨by omega, bb.2⟩
  refine R_call hg.ok (inst_walk a b bb ba) rfl rfl rfl rfl rfl rfl ?_
  refine R_run hg.ok 1000 rfl rfl ?_
  refine R_call hg.ok (inst_walk b c bc bb) rfl rfl rfl rfl rfl rfl ?_
  refine R_run hg.ok 1000 rfl rfl ?_
  have fin : ∀ {x : Bool}, x = variantT a b → (x == variantT a b) = true := fun h => by rw [h]; simp
  cases hab : instT a b with
  | false =>
    rw [hab, Bool.false_and] at hbo
    refine R_if rfl rfl (fun h => absurd h (by simp)) (fun _ => ?_) <;> refine R_run hg.ok 1000 rfl rfl ?_
    refine R_if rfl rfl (fun h => absurd h (by simp)) (fun _ => ?_) <;> refine R_run hg.ok 1000 rfl rfl ?_
    refine R_call hg.ok (variant_ok a b va vb) rfl rfl rfl rfl rfl rfl ?_
    refine R_run hg.ok 1000 rfl rfl ?_
    rw [← hbo]
    refine R_if rfl rfl (fun _ => ?_) (fun h => absurd h (by simp)) <;> refine R_run hg.ok 1000 rfl rfl ?_
    refine R_call hg.ok (inst_walk a a ba ba) rfl rfl rfl rfl rfl rfl ?_
    refine R_run hg.ok 1000 rfl rfl ?_
    refine R_if rfl rfl (fun _ => ?_) (fun h => absurd h (by rw [haa]; simp)) <;> refine R_run hg.ok 1000 rfl rfl ?_
    refine R_call hg.ok knows5_ok rfl rfl rfl rfl rfl rfl ?_
    refine R_run hg.ok 1000 rfl rfl ?_
    refine R_ret hg 5 rfl rfl ?_
    rfl
  | true =>
    rw [hab, Bool.true_and] at hbo
    refine R_if rfl rfl (fun _ => ?_) (fun h => absurd h (by simp)) <;> refine R_run hg.ok 1000 rfl rfl ?_
    refine R_if rfl rfl (fun h4 => ?_) (fun h4 => ?_) <;> refine R_run hg.ok 1000 rfl rfl ?_
    · refine R_call hg.ok (inst_walk a c bc ba) rfl rfl rfl rfl rfl rfl ?_
      refine R_run hg.ok 1000 rfl rfl ?_
      refine R_if rfl rfl (fun h => absurd h (by rw [htr hab h4]; simp)) (fun _ => ?_) <;> refine R_run hg.ok 1000 rfl rfl ?_
      refine R_if rfl rfl (fun _ => ?_) (fun h => absurd h (by simp)) <;> refine R_run hg.ok 1000 rfl rfl ?_
      refine R_call hg.ok (inst_walk b a ba bb) rfl rfl rfl rfl rfl rfl ?_
      refine R_run hg.ok 1000 rfl rfl ?_
      refine R_call hg.ok (variant_ok a b va vb) rfl rfl rfl rfl rfl rfl ?_
      refine R_run hg.ok 1000 rfl rfl ?_
      rw [← hbo]
      refine R_if rfl rfl (fun _ => ?_) (fun h => absurd h (by simp)) <;> refine R_run hg.ok 1000 rfl rfl ?_
      refine R_call hg.ok (inst_walk a a ba ba) rfl rfl rfl rfl rfl rfl ?_
      refine R_run hg.ok 1000 rfl rfl ?_
      refine R_if rfl rfl (fun _ => ?_) (fun h => absurd h (by rw [haa]; simp)) <;> refine R_run hg.ok 1000 rfl rfl ?_
      refine R_call hg.ok knows5_ok rfl rfl rfl rfl rfl rfl ?_
      refine R_run hg.ok 1000 rfl rfl ?_
      refine R_ret hg 5 rfl rfl ?_
      rfl
    · refine R_if rfl rfl (fun _ => ?_) (fun h => absurd h (by simp)) <;> refine R_run hg.ok 1000 rfl rfl ?_
      refine R_call hg.ok (inst_walk b a ba bb) rfl rfl rfl rfl rfl rfl ?_
      refine R_run hg.ok 1000 rfl rfl ?_
      refine R_call hg.ok (variant_ok a b va vb) rfl rfl rfl rfl rfl rfl ?_
      refine R_run hg.ok 1000 rfl rfl ?_
      rw [← hbo]
      refine R_if rfl rfl (fun _ => ?_) (fun h => absurd h (by simp)) <;> refine R_run hg.ok 1000 rfl rfl ?_
      refine R_call hg.ok (inst_walk a a ba ba) rfl rfl rfl rfl rfl rfl ?_
      refine R_run hg.ok 1000 rfl rfl ?_
      refine R_if rfl rfl (fun _ => ?_) (fun h => absurd h (by rw [haa]; simp)) <;> refine R_run hg.ok 1000 rfl rfl ?_
      refine R_call hg.ok knows5_ok rfl rfl rfl rfl rfl rfl ?_
      refine R_run hg.ok 1000 rfl rfl ?_
      refine R_ret hg 5 rfl rfl ?_
      rfl
end Go.Proofs.Ytcafgconfcajbaa
