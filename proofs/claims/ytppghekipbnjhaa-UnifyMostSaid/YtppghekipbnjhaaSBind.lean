import Derived.Test.YtppghekipbnjhaaSRef1
import Derived.Test.YtppghekipbnjhaaPlC
import Derived.Test.YtppghekipbnjhaaPlA
namespace Go.Proofs.Ytppghekipbnjhaa
open Go PSL Go.Proofs

set_option maxRecDepth 100000 in
theorem place_ok (l : Binds) (v : Int) (hl : l.length < 1000000000) : PCtr Try.prog 76 [.d (.sl (bindRows l)), iV v] (iV (placeB l v)) := by
  refine PCtr.of_R (pf := fun _ => .still) tyOk mixed Try.func76 rfl (by kernel_rfl) (by kernel_rfl) (by simp [Try.ntmps76]) fun w S hg => ?_
  refine R_run hg.ok 1000 rfl rfl ?_
  refine R_loop (fun k : Nat => ([(0, .d (.sl (bindRows l))), (1, iV v), (5, iV k)], [])) (fun k => k ≤ l.length ∧ placeB l v = atI ((l.drop k).map (·.1)) v k) (fun k => l.length - k) 0 ⟨Nat.zero_le _, rfl⟩ ⟨.refl _, .refl _, .refl _, trivial⟩ rfl ?_
  rintro k ⟨hk, hm⟩
  refine R_run hg.ok 1000 rfl rfl ?_
  refine R_if rfl rfl (fun h => ?_) (fun h => ?_) <;> refine R_run hg.ok 1000 rfl rfl ?_
  · have hk1 : k < l.length := lt_dec h (by rw [bindRows_len])
    have e1 : l[k]? = some l[k] := List.getElem?_eq_getElem hk1
    rw [List.drop_eq_getElem_cons hk1, List.map_cons, atI] at hm
    refine R_index hg.ok rfl rfl rfl rfl rfl rfl (Int.natCast_nonneg k) (bindRows_get e1) rfl ?_
    refine R_run hg.ok 1000 rfl rfl ?_
    refine R_if rfl rfl (fun h => ?_) (fun h => ?_) <;> refine R_run hg.ok 1000 rfl rfl ?_
    · refine R_ret hg 5 rfl rfl ?_
      rw [hm, if_pos (by simpa using h)]; rfl
    · rw [if_neg (by simpa using h)] at hm
      exact R_next (k + 1) ⟨hk1, hm⟩ (by omega) ⟨.refl _, .refl _, Ent.wrap (by omega) (by omega) (by omega), trivial⟩ rfl
  · have hk1 : l.length ≤ k := ge_dec h (by rw [bindRows_len])
    refine R_ret hg 5 rfl rfl ?_
    rw [hm, List.drop_eq_nil_of_le hk1]; rfl
end Go.Proofs.Ytppghekipbnjhaa
