import Derived.Test.YtcafgconfcajbaaSLaw3b
import Derived.Test.YtcafgconfcajbaaPlFlat
namespace Go.Proofs.Ytcafgconfcajbaa
open Go PSL Go.Proofs

set_option maxRecDepth 100000 in
theorem flat_ok (B : Binds) (M : Nat) (hS : rightS B = true → Sub B M) (hB : Small B) : PCtr Try.prog 35 [.d (.sl (bindRows B))] (.tup [.d (.sl (bindRows (flatR B M).1)), iV (flatR B M).2]) := by
  have hl := hB.len
  refine PCtr.of_R (pf := fun _ => .still) tyOk mixed Try.func35 rfl (by kernel_rfl) (by kernel_rfl) (by simp [Try.ntmps35]) fun w S hg => ?_
  refine R_run hg.ok 1000 rfl rfl ?_
  refine R_call hg.ok (subRight_ok B hB) rfl rfl rfl rfl rfl rfl ?_
  refine R_run hg.ok 1000 rfl rfl ?_
  refine R_if rfl rfl (fun h1 => ?_) (fun h1 => ?_) <;> refine R_run hg.ok 1000 rfl rfl ?_
  · refine R_ret hg 5 rfl rfl ?_
    unfold flatR; rw [if_neg (by simpa using h1)]; rfl
  have h1 : rightS B = true := by simpa using h1
  have hS := hS h1
  refine R_call hg.ok (index_ok B (by omega)) rfl rfl rfl rfl rfl rfl ?_
  refine R_run hg.ok 1000 rfl rfl ?_
  refine R_own 5 5 rfl rfl ?_
  refine R_loop (fun k : Nat => ([(0, .d (.sl (bindRows B))), (4, .d (.map (dmI (ixM (B.map (·.1)))))), (5, .ow 0 k), (15, .d (.sl (bindRows B))), (16, iV B.length), (17, iV k)], [.arr 5 k (bindRows (flatL B M (B.take k)))])) (fun k => k ≤ B.length ∧ ∀ b ∈ B.take k, fitF (fullS B M b.2) = true) (fun k => B.length - k) 0 ⟨Nat.zero_le _, by simp⟩ ⟨.refl _, .refl _, .refl _, .refl _, Ent.int (by rw [bindRows_len]), .refl _, trivial⟩ rfl ?_
  rintro k ⟨hk, hm⟩
  refine R_run hg.ok 1000 rfl rfl ?_
  refine R_if rfl rfl (fun h => ?_) (fun h => ?_) <;> refine R_run hg.ok 1000 rfl rfl ?_
  · have hk1 : k < B.length := lt_dec h rfl
    have e1 : B[k]? = some B[k] := List.getElem?_eq_getElem hk1
    have hc := become_ok B M hS hl B[k].2 (hS.fair _ (List.getElem_mem hk1))
    rw [bldN_fitF] at hc
    refine R_index hg.ok rfl rfl rfl rfl rfl rfl (Int.natCast_nonneg _) (bindRows_get e1) rfl ?_
    refine R_run hg.ok 1000 rfl rfl ?_
    cases hfit : fitF (fullS B M B[k].2) with
    | false =>
      rw [hfit] at hc
      refine R_call hg.ok (hc) rfl rfl rfl rfl rfl rfl ?_
      refine R_run hg.ok 1000 rfl rfl ?_
      refine R_if rfl rfl (fun _ => ?_) (fun h => absurd h (by simp)) <;> refine R_run hg.ok 1000 rfl rfl ?_
      refine R_ret hg 5 rfl rfl ?_
      unfold flatR
      rw [if_pos h1, if_neg (by rw [List.all_eq_true]; intro h; rw [h _ (List.getElem_mem hk1)] at hfit; cases hfit)]; rfl
    | true =>
      rw [hfit] at hc
      refine R_call hg.ok (hc) rfl rfl rfl rfl rfl rfl ?_
      refine R_run hg.ok 1000 rfl rfl ?_
      refine R_if rfl rfl (fun h => absurd h (by simp)) (fun _ => ?_) <;> refine R_run hg.ok 1000 rfl rfl ?_
      refine R_appendO hg.ok (bindRows (flatL B M (B.take (k + 1)))) rfl rfl rfl rfl rfl rfl rfl rfl rfl (by simp) (by simp [one1]) (flatL_snoc e1) (by rw [bindRows_len, flatL_len]; simp; omega) (by rw [bindRows_len, flatL_len]; simp; omega) ?_
      refine R_run hg.ok 1000 rfl rfl ?_
      refine R_dropO 1 [.arr 5 (k + 1) (bindRows (flatL B M (B.take (k + 1))))] (Nat.zero_le _) rfl rfl ?_
      exact R_next (k + 1) ⟨hk1, fun b hb => by
        rw [List.take_add_one, e1] at hb
        rcases List.mem_append.1 hb with hb | hb
        · exact hm b hb
        · simp at hb; rw [hb]; exact hfit⟩ (by omega) ⟨.refl _, .refl _, .refl _, .refl _, .refl _, Ent.wrap (by omega) (by omega) (by omega), trivial⟩ rfl
  · have hk1 : B.length ≤ k := ge_dec h rfl
    refine R_ret hg 5 rfl (sealA_tup (mapO_cons (sealA_ow rfl) rfl)) ?_
    rw [List.take_of_length_le hk1] at hm ⊢
    unfold flatR
    rw [if_pos h1, if_pos (by rw [List.all_eq_true]; exact hm)]; rfl

set_option maxRecDepth 100000 in
theorem refSame3_ok (a : Binds) (ha : ∀ b ∈ a, b.2.size < 1000000000) (hl : a.length < 1000000000) : PCtr Try.prog 36 [.d (.sl (bindRows a)), .d (.sl (bindRows a))] (bV true) := by
  refine PCtr.of_R (pf := fun _ => .still) tyOk mixed Try.func36 rfl (by kernel_rfl) (by kernel_rfl) (by simp [Try.ntmps36]) fun w S hg => ?_
  refine R_run hg.ok 1000 rfl rfl ?_
  refine R_if rfl rfl (fun h => absurd h (by simp)) (fun _ => ?_) <;> refine R_run hg.ok 1000 rfl rfl ?_
  refine R_loop (fun k : Nat => ([(0, .d (.sl (bindRows a))), (1, .d (.sl (bindRows a))), (5, iV k)], [])) (fun k => k ≤ a.length) (fun k => a.length - k) 0 (Nat.zero_le _) ⟨.refl _, .refl _, .refl _, trivial⟩ rfl ?_
  rintro k hk
  refine R_run hg.ok 1000 rfl rfl ?_
  refine R_if rfl rfl (fun h => ?_) (fun h => ?_) <;> refine R_run hg.ok 1000 rfl rfl ?_
  · have hk1 : k < a.length := lt_dec h (by rw [bindRows_len])
    have e1 : a[k]? = some a[k] := List.getElem?_eq_getElem hk1
    refine R_index hg.ok rfl rfl rfl rfl rfl rfl (Int.natCast_nonneg _) (bindRows_get e1) rfl ?_
    refine R_run hg.ok 1000 rfl rfl ?_
    refine R_index hg.ok rfl rfl rfl rfl rfl rfl (Int.natCast_nonneg _) (bindRows_get e1) rfl ?_
    refine R_run hg.ok 1000 rfl rfl ?_
    refine R_if rfl rfl (fun h => absurd h (by simp)) (fun _ => ?_) <;> refine R_run hg.ok 1000 rfl rfl ?_
    refine R_index hg.ok rfl rfl rfl rfl rfl rfl (Int.natCast_nonneg _) (bindRows_get e1) rfl ?_
    refine R_run hg.ok 1000 rfl rfl ?_
    refine R_index hg.ok rfl rfl rfl rfl rfl rfl (Int.natCast_nonneg _) (bindRows_get e1) rfl ?_
    refine R_run hg.ok 1000 rfl rfl ?_
    refine R_call hg.ok (refSame_ok a[k].2 a[k].2 (ha _ (List.getElem_mem hk1))) rfl rfl rfl rfl rfl rfl ?_
    refine R_run hg.ok 1000 rfl rfl ?_
    refine R_if rfl rfl (fun h => absurd h (by rw [Tm.same_refl]; simp)) (fun _ => ?_) <;> refine R_run hg.ok 1000 rfl rfl ?_
    exact R_next (k + 1) hk1 (by omega) ⟨.refl _, .refl _, Ent.wrap (by omega) (by omega) (by omega), trivial⟩ rfl
  · refine R_ret hg 5 rfl rfl ?_
    rfl

set_option maxRecDepth 100000 in
theorem substFlat_ok (B : Binds) (hB : ∀ b ∈ B, b.2.Ok) (hBl : B.length ≤ 140737488355328) (t : Tm) (ht : t.Ok) : PCtr Try.prog 9 [.d (.sl (bindRows B)), t.av] (bV true) := by
  refine PCtr.of_R (pf := fun _ => .still) tyOk mixed Try.func9 rfl (by kernel_rfl) (by kernel_rfl) (by simp [Try.ntmps9]) fun w S hg => ?_
  refine R_run hg.ok 1000 rfl rfl ?_
  refine R_call hg.ok (refSome3_ok B hB hBl) rfl rfl rfl rfl rfl rfl ?_
  refine R_run hg.ok 1000 rfl rfl ?_
  refine R_if rfl rfl (fun h => ?_) (fun h => ?_) <;> refine R_run hg.ok 1000 rfl rfl ?_
  · refine R_call hg.ok (knows3_ok) rfl rfl rfl rfl rfl rfl ?_
    refine R_run hg.ok 1000 rfl rfl ?_
    refine R_ret hg 5 rfl rfl ?_
    rfl
  have hs : someS B = true := by simpa using h
  have sB := someS_small hs
  have hl := (someS_ok hs).1
  refine R_call hg.ok ((some_ok [t] (by simp; exact ht) (by simp)).one) rfl rfl rfl rfl rfl rfl ?_
  refine R_run hg.ok 1000 rfl rfl ?_
  refine R_if rfl rfl (fun h => ?_) (fun h => ?_) <;> refine R_run hg.ok 1000 rfl rfl ?_
  · refine R_call hg.ok (knows3_ok) rfl rfl rfl rfl rfl rfl ?_
    refine R_run hg.ok 1000 rfl rfl ?_
    refine R_ret hg 5 rfl rfl ?_
    rfl
  obtain ⟨st, nt⟩ := some_one (t := t) (by simpa using h)
  obtain ⟨M, hM⟩ := subOr B
  have hfl := flat_ok B M hM sB
  have hR2 := refRight3_ok B sB
  rw [rightR_eq] at hR2
  cases hr : rightS B with
  | false =>
    rw [show flatR B M = ([], 1) by unfold flatR; rw [if_neg (by rw [hr]; simp)]] at hfl
    rw [hr] at hR2
    refine R_call hg.ok (hfl) rfl rfl rfl rfl rfl rfl ?_
    refine R_run hg.ok 1000 rfl rfl ?_
    refine R_call hg.ok (hR2) rfl rfl rfl rfl rfl rfl ?_
    refine R_run hg.ok 1000 rfl rfl ?_
    refine R_if rfl rfl (fun _ => ?_) (fun h => absurd h (by simp)) <;> refine R_run hg.ok 1000 rfl rfl ?_
    repeat
      first
      | (refine R_if rfl rfl (fun _ => ?_) (fun h => absurd h (by first | (simp [bindRows]; done) | (simp [bindRows]; omega))); refine R_run hg.ok 1000 rfl rfl ?_)
      | (refine R_if rfl rfl (fun h => absurd h (by first | (simp [bindRows]; done) | (simp [bindRows]; omega))) (fun _ => ?_); refine R_run hg.ok 1000 rfl rfl ?_)
    refine R_call hg.ok (knows3_ok) rfl rfl rfl rfl rfl rfl ?_
    refine R_run hg.ok 1000 rfl rfl ?_
    refine R_ret hg 5 rfl rfl ?_
    rfl
  | true =>
  rw [hr] at hR2
  have hS := hM hr
  obtain ⟨Q, e, hQ⟩ : ∃ Q e, flatR B M = (Q, e) := ⟨_, _, rfl⟩
  have hQ1 : B.all (fun b => fitF (fullS B M b.2)) = false → Q = [] ∧ e = 3 := fun h => by
    unfold flatR at hQ; rw [if_pos hr, if_neg (by rw [h]; simp)] at hQ; cases hQ; exact ⟨rfl, rfl⟩
  have hQ2 : B.all (fun b => fitF (fullS B M b.2)) = true → Q = flatL B M B ∧ e = 0 := fun h => by
    unfold flatR at hQ; rw [if_pos hr, if_pos h] at hQ; cases hQ; exact ⟨rfl, rfl⟩
  rw [hQ] at hfl
  refine R_call hg.ok (hfl) rfl rfl rfl rfl rfl rfl ?_
  refine R_run hg.ok 1000 rfl rfl ?_
  refine R_call hg.ok (hR2) rfl rfl rfl rfl rfl rfl ?_
  refine R_run hg.ok 1000 rfl rfl ?_
  refine R_if rfl rfl (fun h => absurd h (by simp)) (fun _ => ?_) <;> refine R_run hg.ok 1000 rfl rfl ?_
  refine R_own 7 5 rfl rfl ?_
  refine R_cut2 (fun _ : Unit => ([(0, .d (.sl (bindRows B))), (3, .lo 0 0), (5, .d (.sl (bindRows Q))), (6, iV e), (7, .ow 1 B.length)], [boxR t, .arr 5 B.length (bindRows (flatL B M B))])) (fun _ => B.all (fun b => fitF (fullS B M b.2)) = true) rfl ?_ ?_
  · refine R_loop (fun k : Nat => ([(0, .d (.sl (bindRows B))), (3, .lo 0 0), (5, .d (.sl (bindRows Q))), (6, iV e), (7, .ow 1 k), (8, iV k)], [boxR t, .arr 5 k (bindRows (flatL B M (B.take k)))])) (fun k => k ≤ B.length ∧ ∀ b ∈ B.take k, fitF (fullS B M b.2) = true) (fun k => B.length - k) 0 ⟨Nat.zero_le _, by simp⟩ ⟨.refl _, .refl _, .refl _, .refl _, .refl _, .refl _, trivial⟩ rfl ?_
    rintro k ⟨hk, hm⟩
    refine R_run hg.ok 1000 rfl rfl ?_
    refine R_if rfl rfl (fun h => ?_) (fun h => ?_) <;> refine R_run hg.ok 1000 rfl rfl ?_
    · have hk1 : k < B.length := lt_dec h (by rw [bindRows_len])
      have e1 : B[k]? = some B[k] := List.getElem?_eq_getElem hk1
      have hc := refApply3_ok B M hS (by omega) B[k].2 (hS.fair _ (List.getElem_mem hk1))
      refine R_index hg.ok rfl rfl rfl rfl rfl rfl (Int.natCast_nonneg _) (bindRows_get e1) rfl ?_
      refine R_run hg.ok 1000 rfl rfl ?_
      cases hfit : fitF (fullS B M B[k].2) with
      | false =>
        rw [app3_no hfit] at hc
        obtain ⟨rfl, rfl⟩ := hQ1 (by rw [List.all_eq_false]; exact ⟨_, List.getElem_mem hk1, by rw [hfit]; simp⟩)
        refine R_call hg.ok (hc) rfl rfl rfl rfl rfl rfl ?_
        refine R_run hg.ok 1000 rfl rfl ?_
        refine R_if rfl rfl (fun _ => ?_) (fun h => absurd h (by simp)) <;> refine R_run hg.ok 1000 rfl rfl ?_
        repeat
          first
          | (refine R_if rfl rfl (fun _ => ?_) (fun h => absurd h (by first | (simp [bindRows]; done) | (simp [bindRows]; omega))); refine R_run hg.ok 1000 rfl rfl ?_)
          | (refine R_if rfl rfl (fun h => absurd h (by first | (simp [bindRows]; done) | (simp [bindRows]; omega))) (fun _ => ?_); refine R_run hg.ok 1000 rfl rfl ?_)
        refine R_call hg.ok (knows3_ok) rfl rfl rfl rfl rfl rfl ?_
        refine R_run hg.ok 1000 rfl rfl ?_
        refine R_ret hg 5 rfl rfl ?_
        rfl
      | true =>
        rw [app3_yes hfit] at hc
        refine R_call hg.ok (hc) rfl rfl rfl rfl rfl rfl ?_
        refine R_run hg.ok 1000 rfl rfl ?_
        refine R_if rfl rfl (fun h => absurd h (by simp)) (fun _ => ?_) <;> refine R_run hg.ok 1000 rfl rfl ?_
        refine R_index hg.ok rfl rfl rfl rfl rfl rfl (Int.natCast_nonneg _) (bindRows_get e1) rfl ?_
        refine R_run hg.ok 1000 rfl rfl ?_
        refine R_appendO hg.ok (bindRows (flatL B M (B.take (k + 1)))) rfl rfl rfl rfl rfl rfl rfl rfl rfl (by simp) (by simp [one1]) (flatL_snoc e1) (by rw [bindRows_len, flatL_len]; simp; omega) (by rw [bindRows_len, flatL_len]; simp; omega) ?_
        refine R_run hg.ok 1000 rfl rfl ?_
        refine R_dropO 2 [boxR t, .arr 5 (k + 1) (bindRows (flatL B M (B.take (k + 1))))] (Nat.zero_le _) rfl rfl ?_
        exact R_next (k + 1) ⟨hk1, fun b hb => by
          rw [List.take_add_one, e1] at hb
          rcases List.mem_append.1 hb with hb | hb
          · exact hm b hb
          · simp at hb; rw [hb]; exact hfit⟩ (by omega) ⟨.refl _, .refl _, .refl _, .refl _, .refl _, Ent.wrap (by omega) (by omega) (by omega), trivial⟩ rfl
    · have hk1 : B.length ≤ k := ge_dec h (by rw [bindRows_len])
      have e2 : k = B.length := by omega
      subst e2
      rw [List.take_of_length_le hk1] at hm ⊢
      exact R_to () (by rw [List.all_eq_true]; exact hm) ⟨.refl _, .refl _, .refl _, .refl _, .refl _, trivial⟩ rfl
  rintro _ hall
  obtain ⟨rfl, rfl⟩ := hQ2 hall
  have hQs : ∀ b ∈ flatL B M B, b.2.fairR = true ∧ b.2.size ≤ 3000 := fun b hb => by
    obtain ⟨b0, h0, rfl⟩ := List.mem_map.1 hb
    exact ⟨hS.fairF (hS.fair _ h0), (fitF_iff.1 (List.all_eq_true.1 hall _ h0)).1⟩
  have sQ : Small (flatL B M B) := ⟨by rw [flatL_len]; exact sB.len, fun b hb => by have := (hQs b hb).2; omega, fun b hb x e he => fair_names (hQs b hb).1 x e he⟩
  have hap := apply_ok B M hM sB t (by omega) nt
  have hap2 := apply_ok (flatL B M B) 1 (fun _ => flat_sub hS) sQ t (by omega) nt
  have hrq := subRight_ok (flatL B M B) sQ
  rw [flat_right hS hr hall] at hrq
  rw [flat_apply hS hr hall] at hap2
  have hsm := refSame3_ok (flatL B M B) (fun b hb => by have := (hQs b hb).2; omega) (by rw [flatL_len]; omega)
  have hq : (applyT B M t).1.size < 1000000000 := by
    rcases applyT_cases B M t with he | ⟨_, he⟩
    · obtain ⟨_, _, h1, h2, _⟩ := applyT_ok he
      rw [h1]; omega
    · rw [he]; decide
  generalize applyT B M t = q at hap hap2 hq
  obtain ⟨x, e⟩ := q
  generalize flatL B M B = F at hap2 hrq hsm ⊢
  refine R_freezeO hg.gup 1 [(0, .d (.sl (bindRows B))), (3, .lo 0 0), (5, .d (.sl (bindRows F))), (6, iV 0), (7, .d (.sl (bindRows F)))] [boxR t, .dead] rfl rfl ⟨.refl _, .refl _, .refl _, .refl _, Ent.frz 1 B.length (bindRows F), trivial⟩ ⟨⟨.refl _, .refl _, .refl _, .refl _, trivial⟩, by simp [ObIn], trivial⟩ ?_
  refine R_run hg.ok 1000 rfl rfl ?_
  refine R_call hg.ok (hsm) rfl rfl rfl rfl rfl rfl ?_
  refine R_run hg.ok 1000 rfl rfl ?_
  refine R_if rfl rfl (fun h => absurd h (by simp)) (fun _ => ?_) <;> refine R_run hg.ok 1000 rfl rfl ?_
  repeat
    first
    | (refine R_if rfl rfl (fun _ => ?_) (fun h => absurd h (by first | (simp; done) | (simp; omega))); refine R_run hg.ok 1000 rfl rfl ?_)
    | (refine R_if rfl rfl (fun h => absurd h (by first | (simp; done) | (simp; omega))) (fun _ => ?_); refine R_run hg.ok 1000 rfl rfl ?_)
  refine R_call hg.ok (hrq) rfl rfl rfl rfl rfl rfl ?_
  refine R_run hg.ok 1000 rfl rfl ?_
  repeat
    first
    | (refine R_if rfl rfl (fun _ => ?_) (fun h => absurd h (by first | (simp; done) | (simp; omega))); refine R_run hg.ok 1000 rfl rfl ?_)
    | (refine R_if rfl rfl (fun h => absurd h (by first | (simp; done) | (simp; omega))) (fun _ => ?_); refine R_run hg.ok 1000 rfl rfl ?_)
  refine R_call hg.ok (hap) rfl rfl rfl rfl rfl rfl ?_
  refine R_run hg.ok 1000 rfl rfl ?_
  refine R_call hg.ok (hap2) rfl rfl rfl rfl rfl rfl ?_
  refine R_run hg.ok 1000 rfl rfl ?_
  repeat
    first
    | (refine R_if rfl rfl (fun _ => ?_) (fun h => absurd h (by first | (simp; done) | (simp; omega))); refine R_run hg.ok 1000 rfl rfl ?_)
    | (refine R_if rfl rfl (fun h => absurd h (by first | (simp; done) | (simp; omega))) (fun _ => ?_); refine R_run hg.ok 1000 rfl rfl ?_)
  refine R_call hg.ok (refSame_ok x x hq) rfl rfl rfl rfl rfl rfl ?_
  refine R_run hg.ok 1000 rfl rfl ?_
  repeat
    first
    | (refine R_if rfl rfl (fun _ => ?_) (fun h => absurd h (by first | (simp [Tm.same_refl]; done) | (simp [Tm.same_refl]; omega))); refine R_run hg.ok 1000 rfl rfl ?_)
    | (refine R_if rfl rfl (fun h => absurd h (by first | (simp [Tm.same_refl]; done) | (simp [Tm.same_refl]; omega))) (fun _ => ?_); refine R_run hg.ok 1000 rfl rfl ?_)
  refine R_call hg.ok (knows3_ok) rfl rfl rfl rfl rfl rfl ?_
  refine R_run hg.ok 1000 rfl rfl ?_
  refine R_ret hg 5 rfl rfl ?_
  rfl
end Go.Proofs.Ytcafgconfcajbaa
