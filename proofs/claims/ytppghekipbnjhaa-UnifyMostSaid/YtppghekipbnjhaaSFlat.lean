import Derived.Test.YtppghekipbnjhaaSLaw3b
import Derived.Test.YtppghekipbnjhaaPlFlat
namespace Go.Proofs.Ytppghekipbnjhaa
open Go PSL Go.Proofs

set_option maxRecDepth 100000 in
theorem flat_ok (B : Binds) (M : Nat) (hS : rightS B = true → Sub B M) (hB : Small B) : PCtr Try.prog 42 [.d (.sl (bindRows B))] (.tup [.d (.sl (bindRows (flatR B M).1)), iV (flatR B M).2]) := by
  have hl := hB.len
  refine PCtr.of_R (pf := fun _ => .still) tyOk mixed Try.func42 rfl (by kernel_rfl) (by kernel_rfl) (by simp [Try.ntmps42]) fun w S hg => ?_
  refine R_run hg.ok 1000 rfl rfl ?_
  refine R_call hg.ok (subRight_ok B hB) rfl rfl rfl rfl rfl rfl ?_
  refine R_run hg.ok 1000 rfl rfl ?_
  refine R_if rfl rfl (fun h1 => ?_) (fun h1 => ?_) <;> refine R_run hg.ok 1000 rfl rfl ?_
  · refine R_ret hg 5 rfl rfl ?_
    unfold flatR; rw [if_neg (by simpa using h1)]; rfl
  have h1 : rightS B = true := by simpa using h1
  have hS := hS h1
  refine R_call hg.ok (index_ok B (by omega)) rfl rfl rfl rfl rfl rfl ?_
  refine R_run hg.ok 1000 rfl rfl ?_
  refine R_own 5 5 rfl rfl ?_
  refine R_loop (fun k : Nat => ([(0, .d (.sl (bindRows B))), (4, .d (.map (dmI (ixM (B.map (·.1)))))), (5, .ow 0 k), (15, .d (.sl (bindRows B))), (16, iV B.length), (17, iV k)], [.arr 5 k (bindRows (flatL B M (B.take k)))])) (fun k => k ≤ B.length ∧ ∀ b ∈ B.take k, fitF (fullS B M b.2) = true) (fun k => B.length - k) 0 ⟨Nat.zero_le _, by simp⟩ ⟨.refl _, .refl _, .refl _, .refl _, Ent.int (by rw [bindRows_len]), .refl _, trivial⟩ rfl ?_
  rintro k ⟨hk, hm⟩
  refine R_run hg.ok 1000 rfl rfl ?_
  refine R_if rfl rfl (fun h => ?_) (fun h => ?_) <;> refine R_run hg.ok 1000 rfl rfl ?_
  · have hk1 : k < B.length := lt_dec h rfl
    have e1 : B[k]? = some B[k] := List.getElem?_eq_getElem hk1
    have hc := become_ok B M hS hl B[k].2 (hS.fair _ (List.getElem_mem hk1))
    rw [bldN_fitF] at hc
    refine R_index hg.ok rfl rfl rfl rfl rfl rfl (Int.natCast_nonneg _) (bindRows_get e1) rfl ?_
    refine R_run hg.ok 1000 rfl rfl ?_
    cases hfit : fitF (fullS B M B[k].2) with
    | false =>
      rw [hfit] at hc
      refine R_call hg.ok (hc) rfl rfl rfl rfl rfl rfl ?_
      refine R_run hg.ok 1000 rfl rfl ?_
      refine R_if rfl rfl (fun _ => ?_) (fun h => absurd h (by simp)) <;> refine R_run hg.ok 1000 rfl rfl ?_
      refine R_ret hg 5 rfl rfl ?_
      unfold flatR
      rw [if_pos h1, if_neg (by rw [List.all_eq_true]; intro h; rw [h _ (List.getElem_mem hk1)] at hfit; cases hfit)]; rfl
    | true =>
      rw [hfit] at hc
      refine R_call hg.ok (hc) rfl rfl rfl rfl rfl rfl ?_
      refine R_run hg.ok 1000 rfl rfl ?_
      refine R_if rfl rfl (fun h => absurd h (by simp)) (fun _ => ?_) <;> refine R_run hg.ok 1000 rfl rfl ?_
      refine R_appendO hg.ok (bindRows (flatL B M (B.take (k + 1)))) rfl rfl rfl rfl rfl rfl rfl rfl rfl (by simp) (by simp [one1]) (flatL_snoc e1) (by rw [bindRows_len, flatL_len]; simp; omega) (by rw [bindRows_len, flatL_len]; simp; omega) ?_
      refine R_run hg.ok 1000 rfl rfl ?_
      refine R_dropO 1 [.arr 5 (k + 1) (bindRows (flatL B M (B.take (k + 1))))] (Nat.zero_le _) rfl rfl ?_
      exact R_next (k + 1) ⟨hk1, fun b hb => by
        rw [List.take_add_one, e1] at hb
        rcases List.mem_append.1 hb with hb | hb
        · exact hm b hb
        · simp at hb; rw [hb]; exact hfit⟩ (by omega) ⟨.refl _, .refl _, .refl _, .refl _, .refl _, Ent.wrap (by omega) (by omega) (by omega), trivial⟩ rfl
  · have hk1 : B.length ≤ k := ge_dec h rfl
    refine R_ret hg 5 rfl (sealA_tup (mapO_cons (sealA_ow rfl) rfl)) ?_
    rw [List.take_of_length_le hk1] at hm ⊢
    unfold flatR
    rw [if_pos h1, if_pos (by rw [List.all_eq_true]; exact hm)]; rfl
end Go.Proofs.Ytppghekipbnjhaa
