import Derived.Test.YtoeoeojhelomdaaSTerm4
namespace Go.Proofs.Ytoeoeojhelomdaa
open Go PSL Go.Proofs

set_option maxRecDepth 100000 in
theorem ground_ok (t : Tm) (hd : t.size < 1000000000) : PCtr Try.prog 19 [t.av] (bV (groundT t)) := by
  refine PCtr.of_R (pf := fun _ => .still) tyOk mixed Try.func19 rfl (by kernel_rfl) (by kernel_rfl) (by simp [Try.ntmps19]) fun w S hg => ?_
  refine R_run hg.ok 1000 rfl rfl ?_
  refine R_call hg.ok (each_ok t) rfl rfl rfl rfl rfl rfl ?_
  refine R_run hg.ok 1000 rfl rfl ?_
  refine R_range hg.ok hg.gup ⟨rfl, rfl⟩ rfl (t.els 1) Tm.enc ⟨(t.els 1).map Tm.enc, goG t⟩ rfl (fun n => [boxT t, .box [.d (.v (.bool false))]]) (fun _ e => [(2, .lo 1 0), (4, .lo 2 0)]) (fun n e => [boxT t, .box [.d (.v (.bool false))], boxT e.2]) _ .ret rfl rfl rfl (each1_ok _ t hd fun _ _ h => els_ys h) rfl (fun _ _ => rfl) rfl ?_ ?_ ?_ rfl rfl ?_
  · intro n x hx _ l w R0 X φ0 _
    refine R_run (gRound_ok hg.ok _ _ _ _ _) 1000 rfl rfl ?_
    exact R_finA ⟨.refl _, .refl _, trivial⟩ rfl
  · intro n x hx _ l w R0 X φ0 hφ0
    have hg' := gRound_ok hg.ok l w R0 X φ0
    have hgo : goG t (n + 1) = !(x.2.k == 1) := by simp only [goG, hx]
    refine R_run hg' 1000 rfl rfl ?_
    refine R_if rfl rfl (fun h1 => ?_) (fun h1 => ?_)
    · refine R_run hg' 1000 rfl rfl ?_
      refine R_drop 2 (by rw [show (gRound _ l w R0 X φ0).φ0 = φ0 from rfl, hφ0]; exact Nat.le_refl _) rfl ?_
      refine R_obs [boxT t, .box [.d (.v (.bool false))]] ⟨ObIn.refl _, ⟨Ent.ff, trivial⟩, trivial⟩ rfl ?_
      exact R_retB (by rw [show (YP.go ⟨_, goG t⟩ (n + 1)) = goG t (n + 1) from rfl, hgo, h1]; rfl) rfl rfl
    · refine R_run hg' 1000 rfl rfl ?_
      refine R_drop 2 (by rw [show (gRound _ l w R0 X φ0).φ0 = φ0 from rfl, hφ0]; exact Nat.le_refl _) rfl ?_
      exact R_finB (by rw [show (YP.go ⟨_, goG t⟩ (n + 1)) = goG t (n + 1) from rfl, hgo, h1]; rfl) rfl
  · intro hgo
    refine R_run hg.ok 1000 rfl rfl ?_
    refine R_ret hg 5 rfl rfl ?_
    cases h : groundT t
    · obtain ⟨h1, h2⟩ := adv_false h
      exact absurd hgo (by rintro (h3 | h3); exact h2 h3; rw [h1] at h3; cases h3)
    · rfl
  · intro h0 hgo
    refine R_ret hg 5 rfl rfl ?_
    cases h : groundT t
    · rfl
    · have h1 := adv_true h
      rw [h1.1] at h0 hgo
      rw [h1.2 (by omega)] at hgo; cases hgo
end Go.Proofs.Ytoeoeojhelomdaa
