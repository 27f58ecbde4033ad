import Derived.Test.YtppghekipbnjhaaSTerm3
import Derived.Test.YtppghekipbnjhaaPlA
namespace Go.Proofs.Ytppghekipbnjhaa
open Go PSL Go.Proofs
set_option maxRecDepth 100000 in
theorem own_ok (t : Tm) (hs : t.s.size < 1000000000) : PCtr Try.prog 89 [t.av] (bV t.ownT) := by
  refine PCtr.of_R (pf := fun _ => .still) tyOk mixed Try.func89 rfl (by kernel_rfl) (by kernel_rfl) (by simp [Try.ntmps89]) fun w S hg => ?_
  refine R_run hg.ok 1000 rfl rfl ?_
  iterate 12
    all_goals try first
      | (refine R_if rfl rfl (fun _ => ?_) (fun _ => ?_) <;> refine R_run hg.ok 1000 rfl rfl ?_)
      | (refine R_call hg.ok (named_ok t.s hs) rfl rfl rfl rfl rfl rfl ?_; refine R_run hg.ok 1000 rfl rfl ?_)
  all_goals refine R_ret hg 5 rfl rfl ?_
  all_goals (simp only [Tm.rows_length, beq_iff_eq, beq_eq_false_iff_ne, ne_eq, decide_eq_true_eq, decide_eq_false_iff_not] at *)
  all_goals (simp_all [Tm.ownT, bV])
  all_goals (intros; omega)

set_option maxRecDepth 100000 in
theorem right_ok (t : Tm) (hd : t.size < 1000000000) (hs : ∀ e ∈ t.els 1, e.2.s.size < 1000000000) : PCtr Try.prog 61 [t.av] (bV (rightT t)) := by
  refine PCtr.of_R (pf := fun _ => .still) tyOk mixed Try.func61 rfl (by kernel_rfl) (by kernel_rfl) (by simp [Try.ntmps61]) fun w S hg => ?_
  refine R_run hg.ok 1000 rfl rfl ?_
  refine R_call hg.ok (each_ok t) rfl rfl rfl rfl rfl rfl ?_
  refine R_run hg.ok 1000 rfl rfl ?_
  refine R_range hg.ok hg.gup ⟨rfl, rfl⟩ rfl (t.els 1) Tm.enc ⟨(t.els 1).map Tm.enc, goR t⟩ rfl (fun n => [boxT t, .box [.d (.v (.bool false))], .box [iV n]]) (fun _ e => [(2, .lo 1 0), (3, .lo 2 0), (4, iV e.1), (5, .lo 3 0)]) (fun n e => [boxT t, .box [.d (.v (.bool false))], .box [iV n], boxT e.2]) _ .ret rfl rfl rfl (each1_ok _ t hd fun _ _ h => els_ys h) rfl (fun _ _ => rfl) rfl ?_ ?_ ?_ rfl rfl ?_
  · intro n x hx _ l w R0 X φ0 _
    refine R_run (gRound_ok hg.ok _ _ _ _ _) 1000 rfl rfl ?_
    exact R_finA ⟨.refl _, .refl _, .refl _, .refl _, trivial⟩ rfl
  · intro n x hx _ l w R0 X φ0 hφ0
    have hn := els_lt hx
    have hg' := gRound_ok hg.ok l w R0 X φ0
    have hgo : goR t (n + 1) = stepR x (n + 1) := by simp only [goR, hx]
    have hw : IntKind.i64.wrap ((n : Int) + 1) = ((n + 1 : Nat) : Int) := wrap_id (by omega) (by omega)
    refine R_run hg' 1000 rfl rfl ?_
    refine R_if rfl rfl (fun h1 => ?_) (fun h1 => ?_)
    · refine R_run hg' 1000 rfl rfl ?_
      refine R_drop 3 (by rw [show (gRound _ l w R0 X φ0).φ0 = φ0 from rfl, hφ0]; exact Nat.le_refl _) rfl ?_
      refine R_obs [boxT t, .box [.d (.v (.bool false))], .box [iV ((n + 1 : Nat) : Int)]] ⟨ObIn.refl _, ⟨Ent.ff, trivial⟩, ⟨Ent.int hw, trivial⟩, trivial⟩ rfl ?_
      exact R_retB (by rw [show (YP.go ⟨_, goR t⟩ (n + 1)) = goR t (n + 1) from rfl, hgo]; simp only [stepR, h1, Bool.true_or, Bool.not_true]) rfl rfl
    refine R_run hg' 1000 rfl rfl ?_
    refine R_if rfl rfl (fun h2 => ?_) (fun h2 => ?_)
    · refine R_run hg' 1000 rfl rfl ?_
      refine R_drop 3 (by rw [show (gRound _ l w R0 X φ0).φ0 = φ0 from rfl, hφ0]; exact Nat.le_refl _) rfl ?_
      refine R_obs [boxT t, .box [.d (.v (.bool false))], .box [iV ((n + 1 : Nat) : Int)]] ⟨ObIn.refl _, ⟨Ent.ff, trivial⟩, ⟨Ent.int hw, trivial⟩, trivial⟩ rfl ?_
      rw [hw] at h2
      exact R_retB (by rw [show (YP.go ⟨_, goR t⟩ (n + 1)) = goR t (n + 1) from rfl, hgo]; simp only [stepR, h2, Bool.or_true, Bool.true_or, Bool.not_true]) rfl rfl
    refine R_run hg' 1000 rfl rfl ?_
    refine R_call hg' (own_ok x.2 (hs x (List.mem_of_getElem? hx))) rfl rfl rfl rfl rfl rfl ?_
    refine R_run hg' 1000 rfl rfl ?_
    rw [hw] at h2
    refine R_if rfl rfl (fun h3 => ?_) (fun h3 => ?_)
    · refine R_run hg' 1000 rfl rfl ?_
      refine R_drop 3 (by rw [show (gRound _ l w R0 X φ0).φ0 = φ0 from rfl, hφ0]; exact Nat.le_refl _) rfl ?_
      refine R_obs [boxT t, .box [.d (.v (.bool false))], .box [iV ((n + 1 : Nat) : Int)]] ⟨ObIn.refl _, ⟨Ent.ff, trivial⟩, ⟨Ent.int hw, trivial⟩, trivial⟩ rfl ?_
      exact R_retB (by rw [show (YP.go ⟨_, goR t⟩ (n + 1)) = goR t (n + 1) from rfl, hgo]; simp only [stepR, h3, Bool.or_true, Bool.not_true]) rfl rfl
    · refine R_run hg' 1000 rfl rfl ?_
      refine R_drop 3 (by rw [show (gRound _ l w R0 X φ0).φ0 = φ0 from rfl, hφ0]; exact Nat.le_refl _) rfl ?_
      refine R_obs [boxT t, .box [.d (.v (.bool false))], .box [iV ((n + 1 : Nat) : Int)]] ⟨ObIn.refl _, ⟨.refl _, trivial⟩, ⟨Ent.int hw, trivial⟩, trivial⟩ rfl ?_
      exact R_finB (by rw [show (YP.go ⟨_, goR t⟩ (n + 1)) = goR t (n + 1) from rfl, hgo]; simp only [stepR, h1, h2, h3, Bool.or_false, Bool.not_false]) rfl
  · intro hgo
    refine R_run hg.ok 1000 rfl rfl ?_
    refine R_ret hg 5 rfl rfl ?_
    cases h : rightT t
    · obtain ⟨h1, h2⟩ := adv_false h
      exact absurd hgo (by rintro (h3 | h3); exact h2 h3; rw [h1] at h3; cases h3)
    · rfl
  · intro h0 hgo
    refine R_ret hg 5 rfl rfl ?_
    cases h : rightT t
    · rfl
    · have h1 := adv_true h
      rw [h1.1] at h0 hgo
      rw [h1.2 (by omega)] at hgo; cases hgo
end Go.Proofs.Ytppghekipbnjhaa
