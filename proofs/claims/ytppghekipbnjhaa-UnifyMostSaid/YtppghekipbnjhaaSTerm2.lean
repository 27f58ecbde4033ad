import Derived.Test.YtppghekipbnjhaaSTerm
namespace Go.Proofs.Ytppghekipbnjhaa
open Go PSL Go.Proofs

def boxT (t : Tm) : Ob := .box [.d (.v (.int .i64 t.k)), .d (.v (.string t.s)), .d (.v (.int .i64 t.n)), .d (.sl (Tm.rows t.l))]

theorem adv_all {Y : YP} (h : ∀ n, Y.go n = true) : ∀ (k n : Nat), adv Y k n = (n + k, true)
  | 0, n => rfl
  | k + 1, n => by simp only [adv, h, if_true]; rw [adv_all h k]; congr 1; omega

theorem els_ys {t : Tm} {i : Nat} {e : Int × Tm} (h : (t.els 1)[i]? = some e) : ((t.els 1).map Tm.enc)[i]? = some (Tm.enc e) := by rw [List.getElem?_map, h]; rfl

theorem els_lt {t : Tm} {i : Nat} {e : Int × Tm} (h : (t.els 1)[i]? = some e) : i < t.size := by rw [← Tm.els_len t 1]; exact (List.getElem?_eq_some_iff.1 h).1

set_option maxRecDepth 100000 in
theorem size_ok (t : Tm) (hd : t.size < 1000000000) : PCtr Try.prog 26 [t.av] (iV t.size) := by
  refine PCtr.of_R (pf := fun _ => .still) tyOk mixed Try.func26 rfl (by kernel_rfl) (by kernel_rfl) (by simp [Try.ntmps26]) fun w S hg => ?_
  refine R_run hg.ok 1000 rfl rfl ?_
  refine R_call hg.ok (each_ok t) rfl rfl rfl rfl rfl rfl ?_
  refine R_run hg.ok 1000 rfl rfl ?_
  refine R_range hg.ok hg.gup ⟨rfl, rfl⟩ rfl (t.els 1) Tm.enc ⟨(t.els 1).map Tm.enc, fun _ => true⟩ rfl (fun n => [boxT t, .box [iV n]]) (fun _ _ => [(3, .lo 1 0)]) (fun n _ => [boxT t, .box [iV n]]) _ .ret rfl rfl rfl (each1_ok _ t hd fun _ _ h => els_ys h) rfl (fun _ _ => rfl) rfl ?_ ?_ ?_ rfl rfl (fun _ h => by cases h)
  · intro n x hx _ l w R0 X φ0 _
    refine R_run (gRound_ok hg.ok _ _ _ _ _) 1000 rfl rfl ?_
    exact R_finA ⟨.refl _, trivial⟩ rfl
  · intro n x hx _ l w R0 X φ0 _
    have hn := els_lt hx
    refine R_run (gRound_ok hg.ok _ _ _ _ _) 1000 rfl rfl ?_
    refine R_obs [boxT t, .box [iV ((n + 1 : Nat) : Int)]] ⟨ObIn.refl _, ⟨Ent.wrap (by omega) (by omega) (by omega), trivial⟩, trivial⟩ rfl ?_
    exact R_finB rfl rfl
  · intro _
    rw [adv_all (fun _ => rfl)]
    refine R_run hg.ok 1000 rfl rfl ?_
    refine R_ret hg 5 rfl rfl ?_
    simp only [Nat.zero_add]; rfl
end Go.Proofs.Ytppghekipbnjhaa
