import Derived.Test.YtppghekipbnjhaaSUni
namespace Go.Proofs.Ytppghekipbnjhaa
open Go PSL Go.Proofs

set_option maxRecDepth 100000 in
theorem uniWithin_ok (Y : YP) (B : Binds) (hB : ∀ b ∈ B, b.2.size < 400000000) (hBl : B.length < 1000000) (v : Int) (t : Tm) (ht : t.size < 400000000) : SCtr Try.prog Y 98 [.lo 0 0, iV v, t.av] (uobj B) (bV (Tm.withB B v t)) (uobj B) := by
  refine SCtr.of_R (pf := fun _ => .eff) tyOk mixed Try.func98 rfl (by kernel_rfl) (by kernel_rfl) (by simp [Try.ntmps98]) (by simp [uobj]) fun w S φ hg => ?_
  have hφ : φ.length = 3 := hg.hs0.len
  have keep : ∀ (o : List Ob), (uobj B).map (mapOb (sealT false 3 o 5)) = uobj B := fun o => by
    simp only [uobj, List.map_cons, List.map_nil]
    rw [tmM_mapOb (fun t => rfl)]; rfl
  have hcall := uniLook_ok Y B hB hBl v (B.length + 1) t.size t [] (Nat.le_refl _) ht (by have := List.countP_le_length (p := fun b : Int × Tm => !([] : List Int).contains b.1) (l := B); omega)
  have hren : ∀ (n : Nat) (Z : List Int), (lobj B v Z).map (renOb (rn [0, 1, 2, 4, 3, 7, 6, 8] n)) = uobj B ++ [.box [iV v], .box [.lo 0 0], .box [.mp 6], .map (imap (Z.map fun n => (n, bV true))), .box [.clo 103 [] [.lo 4 0, .lo 3 0, .lo 7 0, .lo 8 0]]] := fun n Z => by
    have e : (renOb (rn [0, 1, 2, 4, 3, 7, 6, 8] n)) = mapOb (renA (rn [0, 1, 2, 4, 3, 7, 6, 8] n)) := by funext o; cases o <;> simp [renOb, mapOb, renL_map]
    rw [e]
    simp only [lobj, uobj, List.map_append, List.map_cons, List.map_nil, List.cons_append, List.nil_append, tmM_mapOb (f := renA (rn [0, 1, 2, 4, 3, 7, 6, 8] n)) (fun _ => rfl), setM_mapOb (f := renA (rn [0, 1, 2, 4, 3, 7, 6, 8] n)) (fun _ => rfl)]
    rfl
  have hw : Tm.withB B v t = (Tm.lkT (Tm.lkF B v (B.length + 1)) t []).1 := rfl
  rw [hw]
  generalize Tm.lkT (Tm.lkF B v (B.length + 1)) t [] = rq at hcall
  obtain ⟨r, Q⟩ := rq
  refine R_run hg.ok 1000 rfl rfl ?_
  refine R_makeMap hg.ok rfl rfl ?_
  refine R_run hg.ok 1000 rfl rfl ?_
  refine R_callSO hg.ok hg.gup hg.wide hg.Y [0, 1, 2, 4, 3, 7, 6, 8] (uobj B ++ [.box [.lo 0 0], .box [iV v], boxR t, .map (imap (Q.map fun n => (n, bV true))), .box [.mp 6], .box [.clo 103 [] [.lo 4 0, .lo 3 0, .lo 7 0, .lo 8 0]]]) hcall (fun _ => rfl) rfl rfl rfl rfl rfl (by rw [hren]; rfl) rfl (by rw [hren]; rfl) ?_
  refine R_run hg.ok 1000 rfl rfl ?_
  exact R_retS hg 3 5 (Nat.le_refl _) rfl rfl (keep _)
end Go.Proofs.Ytppghekipbnjhaa
