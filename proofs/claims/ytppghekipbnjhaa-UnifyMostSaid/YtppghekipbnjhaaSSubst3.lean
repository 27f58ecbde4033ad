import Derived.Test.YtppghekipbnjhaaSSubst2
namespace Go.Proofs.Ytppghekipbnjhaa
open Go PSL Go.Proofs

set_option maxRecDepth 100000 in
theorem become_ok (B : Binds) (M : Nat) (hS : Sub B M) (hBl : B.length ≤ 4000) (t : Tm) (hf : t.fairR = true) : PCtr Try.prog 79 [.d (.sl (bindRows B)), .d (.map (dmI (ixM (B.map (·.1))))), t.av] (.tup [(if (Tm.bldN (fullS B M t) 3000 1).1 then fullS B M t else zeroT).av, bV (Tm.bldN (fullS B M t) 3000 1).1]) := by
  refine PCtr.of_R (pf := fun _ => .eff) tyOk mixed Try.func79 rfl (by kernel_rfl) (by kernel_rfl) (by simp [Try.ntmps79]) fun w S hg => ?_
  refine R_run hg.ok 1000 rfl rfl ?_
  have hcall := build_walk ⟨[], fun _ => true⟩ B M hS hBl _ t 3000 1 (Nat.le_refl _) hf (by omega) (by omega) (by omega) (by omega)
  generalize Tm.bldN (fullS B M t) 3000 1 = rq at hcall ⊢
  obtain ⟨r, q⟩ := rq
  refine R_callSO hg.ok hg.gup ⟨rfl, rfl⟩ (fun _ _ _ _ h => by cases h) [1, 0, 4, 5] [.box [.d (.sl (bindRows B))], .box [.d (.map (dmI (ixM (B.map (·.1)))))], boxR t, zBxS, .box [iV q], .box [.clo 96 [] [.lo 1 0, .lo 0 0, .lo 4 0, .lo 5 0]]] hcall (fun _ => rfl) rfl rfl rfl rfl rfl rfl rfl rfl ?_
  refine R_run hg.ok 1000 rfl rfl ?_
  refine R_ret hg 5 rfl rfl ?_
  rfl

set_option maxRecDepth 100000 in
theorem apply_ok (B : Binds) (M : Nat) (hS : rightS B = true → Sub B M) (hB : Small B) (t : Tm) (ht : t.size < 1000000000) (hn : ∀ x e, e ∈ t.els x → e.2.s.size < 1000000000) : PCtr Try.prog 43 [.d (.sl (bindRows B)), t.av] (.tup [(applyT B M t).1.av, iV (applyT B M t).2]) := by
  have hl := hB.len
  refine PCtr.of_R (pf := fun _ => .still) tyOk mixed Try.func43 rfl (by kernel_rfl) (by kernel_rfl) (by simp [Try.ntmps43]) fun w S hg => ?_
  refine R_run hg.ok 1000 rfl rfl ?_
  refine R_call hg.ok (subRight_ok B hB) rfl rfl rfl rfl rfl rfl ?_
  refine R_run hg.ok 1000 rfl rfl ?_
  refine R_if rfl rfl (fun h1 => ?_) (fun h1 => ?_) <;> refine R_run hg.ok 1000 rfl rfl ?_
  · refine R_ret hg 5 rfl rfl ?_
    unfold applyT; rw [show rightS B = false by simpa using h1]; rfl
  have h1 : rightS B = true := by simpa using h1
  refine R_call hg.ok (right_ok t ht (hn 1)) rfl rfl rfl rfl rfl rfl ?_
  refine R_run hg.ok 1000 rfl rfl ?_
  rw [rightT_eq]
  refine R_if rfl rfl (fun h2 => ?_) (fun h2 => ?_) <;> refine R_run hg.ok 1000 rfl rfl ?_
  · refine R_ret hg 5 rfl rfl ?_
    unfold applyT; rw [show t.rightB = false by simpa using h2, Bool.and_false]; rfl
  have h2 : t.rightB = true := by simpa using h2
  refine R_call hg.ok (index_ok B (by omega)) rfl rfl rfl rfl rfl rfl ?_
  refine R_run hg.ok 1000 rfl rfl ?_
  have hcall := become_ok B M (hS h1) hl t (right_fair h2)
  have hok := (Tm.bldN_ok (fullS B M t) 3000 1 (by omega) (by omega)).1
  have hb : (Tm.bldN (fullS B M t) 3000 1).1 = (decide ((fullS B M t).size ≤ 3000) && decide ((fullS B M t).depth ≤ 100)) := by
    rw [Bool.eq_iff_iff, hok]; simp; omega
  have ha : applyT B M t = if (Tm.bldN (fullS B M t) 3000 1).1 then (fullS B M t, 0) else (zeroT, 3) := by
    unfold applyT; rw [h1, h2, hb]; rfl
  generalize (Tm.bldN (fullS B M t) 3000 1).1 = r at hcall ha
  refine R_call hg.ok (hcall) rfl rfl rfl rfl rfl rfl ?_
  refine R_run hg.ok 1000 rfl rfl ?_
  rw [ha]
  cases r with
  | true =>
    refine R_if rfl rfl (fun h => absurd h (by simp)) (fun _ => ?_) <;> refine R_run hg.ok 1000 rfl rfl ?_
    refine R_ret hg 5 rfl rfl ?_
    rfl
  | false =>
    refine R_if rfl rfl (fun _ => ?_) (fun h => absurd h (by simp)) <;> refine R_run hg.ok 1000 rfl rfl ?_
    refine R_ret hg 5 rfl rfl ?_
    rfl

set_option maxRecDepth 100000 in
theorem refSome3_ok (B : Binds) (hB : ∀ b ∈ B, b.2.Ok) (hBl : B.length ≤ 140737488355328) : PCtr Try.prog 41 [.d (.sl (bindRows B))] (bV (someS B)) := by
  refine PCtr.of_R (pf := fun _ => .still) tyOk mixed Try.func41 rfl (by kernel_rfl) (by kernel_rfl) (by simp [Try.ntmps41]) fun w S hg => ?_
  refine R_run hg.ok 1000 rfl rfl ?_
  refine R_loop (fun x : Nat × Int => ([(0, .d (.sl (bindRows B))), (3, iV x.2), (4, iV x.1)], [])) (fun x => x.1 ≤ B.length ∧ fewB B 4000 = fewB (B.drop x.1) x.2) (fun x => B.length - x.1) (0, 4000) ⟨Nat.zero_le _, rfl⟩ ⟨.refl _, .refl _, .refl _, trivial⟩ rfl ?_
  rintro ⟨k, q⟩ ⟨hk, hm⟩
  simp only at hk hm
  have last : fewB B 4000 = q → (decide (q ≥ 0) && decide (((bindRows B).length : Int) ≤ 60)) = someS B := fun h => by unfold someS; rw [h, bindRows_len]
  refine R_run hg.ok 1000 rfl rfl ?_
  refine R_if rfl rfl (fun h => ?_) (fun h => ?_) <;> refine R_run hg.ok 1000 rfl rfl ?_
  · have hk1 : k < B.length := lt_dec h (by rw [bindRows_len])
    have e1 : B[k]? = some B[k] := List.getElem?_eq_getElem hk1
    rw [List.drop_eq_getElem_cons hk1, fewB] at hm
    refine R_if rfl rfl (fun h2 => ?_) (fun h2 => ?_) <;> refine R_run hg.ok 1000 rfl rfl ?_
    · rw [if_pos (of_decide_eq_true h2)] at hm
      refine R_index hg.ok rfl rfl rfl rfl rfl rfl (Int.natCast_nonneg _) (bindRows_get e1) rfl ?_
      refine R_run hg.ok 1000 rfl rfl ?_
      refine R_call hg.ok (few_ok _ (hB _ (List.getElem_mem hk1)) _ _) rfl rfl rfl rfl rfl rfl ?_
      refine R_run hg.ok 1000 rfl rfl ?_
      exact R_next (k + 1, B[k].2.few q 200) ⟨hk1, hm⟩ (by simp only; omega) ⟨.refl _, .refl _, Ent.wrap (by simp only; omega) (by simp only; omega) (by simp only; omega), trivial⟩ rfl
    · have h2' := of_decide_eq_false h2
      rw [if_neg h2'] at hm
      refine R_if rfl rfl (fun h3 => absurd (of_decide_eq_true h3) h2') (fun h3 => ?_) <;> refine R_run hg.ok 1000 rfl rfl ?_
      refine R_ret hg 5 rfl rfl ?_
      rw [← last hm, h3]; rfl
  · have hk1 : B.length ≤ k := ge_dec h (by rw [bindRows_len])
    rw [List.drop_eq_nil_of_le hk1, fewB] at hm
    refine R_if rfl rfl (fun h3 => ?_) (fun h3 => ?_) <;> refine R_run hg.ok 1000 rfl rfl ?_
    · refine R_ret hg 5 rfl rfl ?_
      rw [← last hm, h3]; rfl
    · refine R_ret hg 5 rfl rfl ?_
      rw [← last hm, h3]; rfl
end Go.Proofs.Ytppghekipbnjhaa
