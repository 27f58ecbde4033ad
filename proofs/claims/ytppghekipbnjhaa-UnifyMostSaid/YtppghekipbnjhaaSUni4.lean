import Derived.Test.YtppghekipbnjhaaSUni3
import Derived.Test.YtppghekipbnjhaaPlUniR
namespace Go.Proofs.Ytppghekipbnjhaa
open Go PSL Go.Proofs

def udone : List Ob := [.box [.mp 1, .ow 2 1], .map (imap (tmM [])), .arr 1 1 []]

set_option maxRecDepth 100000 in
theorem uniUndo_ok (Y : YP) : SCtr Try.prog Y 81 [.lo 0 0, iV 0] (uobj []) (.tup []) udone := by
  refine SCtr.of_R (pf := fun f => bif Nat.beq f 4000000004 then .turn 1 else .eff) tyOk mixed Try.func81 rfl (by kernel_rfl) (by kernel_rfl) (by simp [Try.ntmps81]) (by simp [uobj, udone]) fun w S φ hg => ?_
  have hφ : φ.length = 3 := hg.hs0.len
  refine R_run hg.ok 1000 rfl rfl ?_
  refine R_sliceE hg.ok rfl rfl rfl rfl rfl rfl rfl rfl rfl (by decide) (by decide) ?_
  refine R_run hg.ok 1000 rfl rfl ?_
  refine R_loop (fun _ : Unit => ([(0, .lo 0 0), (1, iV 0), (12, iV 0), (13, iV 0)], uobj [])) (fun _ => True) (fun _ => 0) () trivial ⟨.refl _, .refl _, .refl _, .refl _, trivial⟩ rfl ?_
  rintro _ _
  refine R_run hg.ok 1000 rfl rfl ?_
  refine R_if rfl rfl (fun h => absurd h (by simp)) (fun _ => ?_) <;> refine R_run hg.ok 1000 rfl rfl ?_
  refine R_shrinkO hg.ok [] rfl rfl rfl rfl rfl rfl rfl rfl rfl rfl (by decide) (by decide) rfl ?_
  refine R_run hg.ok 1000 rfl rfl ?_
  exact R_endS hg 3 5 (Nat.le_refl _) rfl rfl rfl
end Go.Proofs.Ytppghekipbnjhaa
