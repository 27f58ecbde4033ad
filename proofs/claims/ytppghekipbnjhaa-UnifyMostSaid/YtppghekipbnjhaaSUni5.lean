import Derived.Test.YtppghekipbnjhaaSUni4
namespace Go.Proofs.Ytppghekipbnjhaa
open Go PSL Go.Proofs

theorem walkB_nil (t : Tm) : Tm.walkB [] t = t := by
  unfold Tm.walkB
  simp only [List.length_nil, Tm.walkT]
  split
  · rfl
  · rfl

set_option maxHeartbeats 1600000 in
set_option maxRecDepth 100000 in
theorem uniFail_ok (Y : YP) (a b : Tm) (hx : a.k = 1) (hy : ¬ b.k = 1) (hb : b.size < 400000000) (hw : Tm.withB [] a.n b = true) : SCtr Try.prog Y 80 [.lo 0 0, a.av, b.av] (uobj []) (bV false) (uobj []) := by
  refine SCtr.of_R (pf := pfUni) tyOk mixed Try.func80 rfl (by kernel_rfl) (by kernel_rfl) (by simp [Try.ntmps80]) (by simp [uobj]) fun w S φ hg => ?_
  have hφ : φ.length = 3 := hg.hs0.len
  have cx := uniWalk_ok Y [] .nil a
  have cy := uniWalk_ok Y [] .nil b
  have cw := uniWithin_ok Y [] (by simp) (by decide) a.n b hb
  rw [walkB_nil] at cx cy
  rw [hw] at cw
  refine R_run hg.ok 1000 rfl rfl ?_
  refine R_buildA hg.ok _ rfl rfl rfl rfl rfl rfl rfl rfl ?_
  refine R_run hg.ok 1000 rfl rfl ?_
  refine R_buildO hg.ok (prsRows [(a, b)]) rfl rfl rfl rfl rfl rfl rfl rfl (by simp [prsRows]) (by simp [prsRows]) ?_
  refine R_run hg.ok 1000 rfl rfl ?_
  refine R_makeMap hg.ok rfl rfl ?_
  refine R_run hg.ok 1000 rfl rfl ?_
  refine R_loop (fun _ : Unit => ([(0, .lo 0 0), (7, .ow 5 0), (8, .mp 6)], urObj a b [] 0 [(a, b)] [])) (fun _ => True) (fun _ => 0) () trivial ⟨.refl _, .refl _, .refl _, trivial⟩ rfl ?_
  rintro _ _
  obtain ⟨R, hR⟩ : ∃ R : List (Tm × Tm), R = [] := ⟨[], rfl⟩
  rw [show ([(a, b)] : List (Tm × Tm)) = R ++ [(a, b)] by rw [hR]; rfl]
  have hRn : R.length = 0 := by rw [hR]; rfl
  clear hR
  obtain ⟨x, rfl⟩ : ∃ x, x = a := ⟨a, rfl⟩
  obtain ⟨y, rfl⟩ : ∃ y, y = b := ⟨b, rfl⟩
  refine R_run hg.ok 1000 rfl rfl ?_
  refine R_lenO hg.ok rfl rfl rfl rfl rfl (n := ((R ++ [(x, y)]).length : Int)) (by rw [prsRows_len]) ?_
  refine R_run hg.ok 1000 rfl rfl ?_
  refine R_if rfl rfl (fun _ => ?_) (fun h => absurd h (by simp)) <;> refine R_run hg.ok 1000 rfl rfl ?_
  have hRl : (R ++ [(x, y)]).length = R.length + 1 := by simp
  have hget : (prsRows (R ++ [(x, y)]))[((R.length : Nat) : Int).toNat]? = some (prsRow (x, y)) := prsRows_get (by simp)
  refine R_pair hg.ok 14 (by kernel_rfl) (by kernel_rfl) ?_ ?_
  · refine R_run hg.ok 1000 rfl rfl ?_
    refine R_lenJ hg.ok 10000 (by simp [mayO, Ob.lvl, Ob.isBox]) rfl rfl rfl rfl rfl rfl (n := ((R ++ [(x, y)]).length : Int)) (by rw [prsRows_len]) ?_
    refine R_run hg.ok 1000 rfl rfl ?_
    rw [w64 (n := ((R ++ [(x, y)]).length : Int) - 1) (by omega) (by omega), show ((R ++ [(x, y)]).length : Int) - 1 = ((R.length : Nat) : Int) by omega]
    refine R_indexOJ hg.ok 10000 rfl rfl rfl (by simp [mayO, Ob.lvl, Ob.isBox]) rfl rfl rfl rfl rfl rfl (Int.natCast_nonneg _) (by rw [prsRows_len]; simp) ?_
    refine R_run hg.ok 1000 rfl rfl ?_
    refine R_indexEA hg.ok 0 rfl rfl rfl rfl rfl rfl (by decide) (by decide) rfl ?_
    refine R_run hg.ok 1000 rfl rfl ?_
    refine R_loadEJ hg.ok 10000 rfl rfl rfl (by simp [mayO, Ob.lvl, Ob.isBox]) rfl rfl rfl hget rfl ?_
    refine R_run hg.ok 1000 rfl rfl ?_
    refine R_lenJ hg.ok 10000 (by simp [mayO, Ob.lvl, Ob.isBox]) rfl rfl rfl rfl rfl rfl (n := ((R ++ [(x, y)]).length : Int)) (by rw [prsRows_len]) ?_
    refine R_run hg.ok 1000 rfl rfl ?_
    rw [w64 (n := ((R ++ [(x, y)]).length : Int) - 1) (by omega) (by omega), show ((R ++ [(x, y)]).length : Int) - 1 = ((R.length : Nat) : Int) by omega]
    refine R_indexOJ hg.ok 10000 rfl rfl rfl (by simp [mayO, Ob.lvl, Ob.isBox]) rfl rfl rfl rfl rfl rfl (Int.natCast_nonneg _) (by rw [prsRows_len]; simp) ?_
    refine R_run hg.ok 1000 rfl rfl ?_
    refine R_indexEA hg.ok 4 rfl rfl rfl rfl rfl rfl (by decide) (by decide) rfl ?_
    refine R_run hg.ok 1000 rfl rfl ?_
    refine R_loadEJ hg.ok 10000 rfl rfl rfl (by simp [mayO, Ob.lvl, Ob.isBox]) rfl rfl rfl hget rfl ?_
    refine R_run hg.ok 1000 rfl rfl ?_
    refine R_storeB hg.ok rfl rfl rfl rfl rfl rfl rfl rfl rfl ?_
    refine R_run hg.ok 1000 rfl rfl ?_
    refine R_storeB hg.ok rfl rfl rfl rfl rfl rfl rfl rfl rfl ?_
    refine R_run hg.ok 1000 rfl rfl ?_
    refine R_lenO hg.ok rfl rfl rfl rfl rfl (n := ((R ++ [(x, y)]).length : Int)) (by rw [prsRows_len]) ?_
    refine R_run hg.ok 1000 rfl rfl ?_
    rw [w64 (n := ((R ++ [(x, y)]).length : Int) - 1) (by omega) (by omega), show ((R ++ [(x, y)]).length : Int) - 1 = ((R.length : Nat) : Int) by omega]
    refine R_shrinkO hg.ok (prsRows R) rfl rfl rfl rfl rfl rfl rfl rfl rfl rfl (Int.natCast_nonneg _) (by rw [prsRows_len]; simp; omega) (by simp [prsRows]) ?_
    refine R_run hg.ok 1000 rfl rfl ?_
    refine R_buildA hg.ok _ rfl rfl rfl rfl rfl rfl rfl rfl ?_
    refine R_run hg.ok 1000 rfl rfl ?_
    refine R_if rfl rfl (fun _ => ?_) (fun h => absurd h (by simp [hx])) <;> refine R_run hg.ok 1000 rfl rfl ?_
    refine R_if rfl rfl (fun h => absurd h (by simp [hy])) (fun _ => ?_) <;> refine R_run hg.ok 1000 rfl rfl ?_
    refine R_load4 hg.ok (by show φ.length ≤ 7; omega) rfl rfl rfl rfl rfl rfl rfl ?_
    refine R_run hg.ok 1000 rfl rfl ?_
    refine R_callS3 hg.ok hg.gup hg.wide hg.Y [0, 1, 2] (urObj x y [] 1 R [] ++ [boxR x, boxR y, .box [iV x.n, iV y.n]]) cx (fun _ => rfl) (fun i hi => by show i < φ.length; simp at hi; omega) rfl rfl rfl rfl rfl (by rw [uobj_ren]; rfl) rfl (by rw [uobj_ren]; rfl) ?_
    refine R_run hg.ok 1000 rfl rfl ?_
    refine R_load4 hg.ok (by show φ.length ≤ 8; omega) rfl rfl rfl rfl rfl rfl rfl ?_
    refine R_run hg.ok 1000 rfl rfl ?_
    refine R_callS3 hg.ok hg.gup hg.wide hg.Y [0, 1, 2] (urObj x y [] 1 R [] ++ [boxR x, boxR y, .box [iV x.n, iV y.n]]) cy (fun _ => rfl) (fun i hi => by show i < φ.length; simp at hi; omega) rfl rfl rfl rfl rfl (by rw [uobj_ren]; rfl) rfl (by rw [uobj_ren]; rfl) ?_
    refine R_run hg.ok 1000 rfl rfl ?_
    refine R_storeB hg.ok rfl rfl rfl rfl rfl rfl rfl rfl rfl ?_
    refine R_run hg.ok 1000 rfl rfl ?_
    refine R_storeB hg.ok rfl rfl rfl rfl rfl rfl rfl rfl rfl ?_
    refine R_run hg.ok 1000 rfl rfl ?_
    refine R_if rfl rfl (fun _ => ?_) (fun h => absurd h (by simp [hx])) <;> refine R_run hg.ok 1000 rfl rfl ?_
    refine R_if rfl rfl (fun h => absurd h (by simp [hy])) (fun _ => ?_) <;> refine R_run hg.ok 1000 rfl rfl ?_
    refine R_if rfl rfl (fun _ => ?_) (fun h => absurd h (by simp [hx])) <;> refine R_run hg.ok 1000 rfl rfl ?_
    refine R_load4 hg.ok (by show φ.length ≤ 8; omega) rfl rfl rfl rfl rfl rfl rfl ?_
    refine R_run hg.ok 1000 rfl rfl ?_
    refine R_callSO hg.ok hg.gup hg.wide hg.Y [0, 1, 2] (urObj x y [] 1 R [] ++ [boxR x, boxR y, .box [iV x.n, iV y.n]]) cw (fun _ => rfl) rfl rfl rfl rfl rfl (by rw [uobj_ren]; rfl) rfl (by rw [uobj_ren]; rfl) ?_
    refine R_run hg.ok 1000 rfl rfl ?_
    refine R_if rfl rfl (fun _ => ?_) (fun h => absurd h (by simp)) <;> refine R_run hg.ok 1000 rfl rfl ?_
    exact R_retS hg 3 5 (Nat.le_refl _) rfl rfl rfl
  · refine R_run hg.ok 1000 rfl rfl ?_
    refine R_lenJ hg.ok 10000 (by simp [mayO, Ob.lvl, Ob.isBox]) rfl rfl rfl rfl rfl rfl (n := ((R ++ [(x, y)]).length : Int)) (by rw [prsRows_len]) ?_
    refine R_run hg.ok 1000 rfl rfl ?_
    rw [w64 (n := ((R ++ [(x, y)]).length : Int) - 1) (by omega) (by omega), show ((R ++ [(x, y)]).length : Int) - 1 = ((R.length : Nat) : Int) by omega]
    refine R_indexOJ hg.ok 10000 rfl rfl rfl (by simp [mayO, Ob.lvl, Ob.isBox]) rfl rfl rfl rfl rfl rfl (Int.natCast_nonneg _) (by rw [prsRows_len]; simp) ?_
    refine R_run hg.ok 1000 rfl rfl ?_
    refine R_indexEA hg.ok 0 rfl rfl rfl rfl rfl rfl (by decide) (by decide) rfl ?_
    refine R_run hg.ok 1000 rfl rfl ?_
    refine R_loadEJ hg.ok 10000 rfl rfl rfl (by simp [mayO, Ob.lvl, Ob.isBox]) rfl rfl rfl hget rfl ?_
    refine R_run hg.ok 1000 rfl rfl ?_
    refine R_lenJ hg.ok 10000 (by simp [mayO, Ob.lvl, Ob.isBox]) rfl rfl rfl rfl rfl rfl (n := ((R ++ [(x, y)]).length : Int)) (by rw [prsRows_len]) ?_
    refine R_run hg.ok 1000 rfl rfl ?_
    rw [w64 (n := ((R ++ [(x, y)]).length : Int) - 1) (by omega) (by omega), show ((R ++ [(x, y)]).length : Int) - 1 = ((R.length : Nat) : Int) by omega]
    refine R_indexOJ hg.ok 10000 rfl rfl rfl (by simp [mayO, Ob.lvl, Ob.isBox]) rfl rfl rfl rfl rfl rfl (Int.natCast_nonneg _) (by rw [prsRows_len]; simp) ?_
    refine R_run hg.ok 1000 rfl rfl ?_
    refine R_indexEA hg.ok 4 rfl rfl rfl rfl rfl rfl (by decide) (by decide) rfl ?_
    refine R_run hg.ok 1000 rfl rfl ?_
    refine R_loadEJ hg.ok 10000 rfl rfl rfl (by simp [mayO, Ob.lvl, Ob.isBox]) rfl rfl rfl hget rfl ?_
    refine R_run hg.ok 1000 rfl rfl ?_
    refine R_storeB hg.ok rfl rfl rfl rfl rfl rfl rfl rfl rfl ?_
    refine R_run hg.ok 1000 rfl rfl ?_
    refine R_storeB hg.ok rfl rfl rfl rfl rfl rfl rfl rfl rfl ?_
    refine R_run hg.ok 1000 rfl rfl ?_
    refine R_lenO hg.ok rfl rfl rfl rfl rfl (n := ((R ++ [(x, y)]).length : Int)) (by rw [prsRows_len]) ?_
    refine R_run hg.ok 1000 rfl rfl ?_
    rw [w64 (n := ((R ++ [(x, y)]).length : Int) - 1) (by omega) (by omega), show ((R ++ [(x, y)]).length : Int) - 1 = ((R.length : Nat) : Int) by omega]
    refine R_shrinkO hg.ok (prsRows R) rfl rfl rfl rfl rfl rfl rfl rfl rfl rfl (Int.natCast_nonneg _) (by rw [prsRows_len]; simp; omega) (by simp [prsRows]) ?_
    refine R_run hg.ok 1000 rfl rfl ?_
    refine R_buildA hg.ok _ rfl rfl rfl rfl rfl rfl rfl rfl ?_
    refine R_run hg.ok 1000 rfl rfl ?_
    refine R_if rfl rfl (fun _ => ?_) (fun h => absurd h (by simp [hx])) <;> refine R_run hg.ok 1000 rfl rfl ?_
    refine R_if rfl rfl (fun h => absurd h (by simp [hy])) (fun _ => ?_) <;> refine R_run hg.ok 1000 rfl rfl ?_
    refine R_load4 hg.ok (by show φ.length ≤ 8; omega) rfl rfl rfl rfl rfl rfl rfl ?_
    refine R_run hg.ok 1000 rfl rfl ?_
    refine R_callS3 hg.ok hg.gup hg.wide hg.Y [0, 1, 2] (urObj x y [] 1 R [] ++ [boxR y, boxR x, .box [iV x.n, iV y.n]]) cx (fun _ => rfl) (fun i hi => by show i < φ.length; simp at hi; omega) rfl rfl rfl rfl rfl (by rw [uobj_ren]; rfl) rfl (by rw [uobj_ren]; rfl) ?_
    refine R_run hg.ok 1000 rfl rfl ?_
    refine R_load4 hg.ok (by show φ.length ≤ 7; omega) rfl rfl rfl rfl rfl rfl rfl ?_
    refine R_run hg.ok 1000 rfl rfl ?_
    refine R_callS3 hg.ok hg.gup hg.wide hg.Y [0, 1, 2] (urObj x y [] 1 R [] ++ [boxR y, boxR x, .box [iV x.n, iV y.n]]) cy (fun _ => rfl) (fun i hi => by show i < φ.length; simp at hi; omega) rfl rfl rfl rfl rfl (by rw [uobj_ren]; rfl) rfl (by rw [uobj_ren]; rfl) ?_
    refine R_run hg.ok 1000 rfl rfl ?_
    refine R_storeB hg.ok rfl rfl rfl rfl rfl rfl rfl rfl rfl ?_
    refine R_run hg.ok 1000 rfl rfl ?_
    refine R_storeB hg.ok rfl rfl rfl rfl rfl rfl rfl rfl rfl ?_
    refine R_run hg.ok 1000 rfl rfl ?_
    refine R_if rfl rfl (fun _ => ?_) (fun h => absurd h (by simp [hx])) <;> refine R_run hg.ok 1000 rfl rfl ?_
    refine R_if rfl rfl (fun h => absurd h (by simp [hy])) (fun _ => ?_) <;> refine R_run hg.ok 1000 rfl rfl ?_
    refine R_if rfl rfl (fun _ => ?_) (fun h => absurd h (by simp [hx])) <;> refine R_run hg.ok 1000 rfl rfl ?_
    refine R_load4 hg.ok (by show φ.length ≤ 7; omega) rfl rfl rfl rfl rfl rfl rfl ?_
    refine R_run hg.ok 1000 rfl rfl ?_
    refine R_callSO hg.ok hg.gup hg.wide hg.Y [0, 1, 2] (urObj x y [] 1 R [] ++ [boxR y, boxR x, .box [iV x.n, iV y.n]]) cw (fun _ => rfl) rfl rfl rfl rfl rfl (by rw [uobj_ren]; rfl) rfl (by rw [uobj_ren]; rfl) ?_
    refine R_run hg.ok 1000 rfl rfl ?_
    refine R_if rfl rfl (fun _ => ?_) (fun h => absurd h (by simp)) <;> refine R_run hg.ok 1000 rfl rfl ?_
    exact R_retS hg 3 5 (Nat.le_refl _) rfl rfl rfl
end Go.Proofs.Ytppghekipbnjhaa
