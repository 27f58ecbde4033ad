import Derived.Test.YtppghekipbnjhaaSRef1
import Derived.Test.YtppghekipbnjhaaPslC
namespace Go.Proofs.Ytppghekipbnjhaa
open Go PSL Go.Proofs

def vobjs (acc : List Int) : List Ob := [.map (imap (setI acc)), .box [.mp 0], .box [.ow 3 acc.length], .arr 1 acc.length (irows acc)]
def accN (acc : List Int) (t : Tm) (n : Nat) : List Int := ((t.els 1).take n).foldl stepV acc

theorem vdrop (f : AV → AV) (h : f .tt = .tt) (a : List Int) (r : List Ob) : mapOb f (.map (imap (setI a))) :: r = .map (imap (setI a)) :: r := by rw [mapOb_set h]
theorem setI_snoc (a : List Int) (n : Int) : setI a ++ [(n, .tt)] = setI (a ++ [n]) := by simp [setI]
theorem irows_snoc (a : List Int) (n : Int) : irows a ++ [[.v (.int .i64 n)]] = irows (a ++ [n]) := by simp [irows, irow]

theorem addV_len (l : List Int) (x : Int) : (addV l x).length ≤ l.length + 1 := by unfold addV; split <;> simp
theorem foldl_len : ∀ (l : List (Int × Tm)) (a : List Int), (l.foldl stepV a).length ≤ a.length + l.length
  | [], a => by simp
  | e :: l, a => by
    have := foldl_len l (stepV a e)
    have h2 : (stepV a e).length ≤ a.length + 1 := by unfold stepV; split; exact addV_len _ _; omega
    simp only [List.foldl_cons, List.length_cons]; omega

def varsF (a : List Int) (l : List Tm) : List Int := l.foldl (fun a t => (t.els 1).foldl stepV a) a
theorem varsF_len : ∀ (l : List Tm) (a : List Int), (varsF a l).length ≤ a.length + Tm.sizeL l
  | [], a => by simp [varsF]
  | t :: r, a => by
    have := varsF_len r ((t.els 1).foldl stepV a)
    have h := foldl_len (t.els 1) a
    rw [Tm.els_len] at h
    simp only [varsF, List.foldl_cons, Tm.sizeL] at this ⊢; omega

set_option maxRecDepth 100000 in
theorem vars_ok (l : List Tm) (hsz : Tm.sizeL l < 1000000000) : PCtr Try.prog 62 [.d (.sl (Tm.rows l))] (.d (.sl (irows (varsT l)))) := by
  refine PCtr.of_R (pf := fun _ => .eff) tyOk mixed Try.func62 rfl (by kernel_rfl) (by kernel_rfl) (by simp [Try.ntmps62]) fun w S hg => ?_
  refine R_run hg.ok 1000 rfl rfl ?_
  refine R_makeMap hg.ok rfl rfl ?_
  refine R_run hg.ok 1000 rfl rfl ?_
  refine R_ownB 2 0 1 rfl rfl rfl ?_
  refine R_loop (fun x : Nat × List Int => ([(3, .lo 1 0), (4, .lo 2 0), (10, .d (.sl (Tm.rows l))), (11, iV l.length), (12, iV x.1)], vobjs x.2)) (fun x => x.1 ≤ l.length ∧ varsT l = varsF x.2 (l.drop x.1) ∧ x.2.length + Tm.sizeL (l.drop x.1) ≤ Tm.sizeL l) (fun x => l.length - x.1) (0, []) ⟨Nat.zero_le _, rfl, by simp⟩ ⟨.refl _, .refl _, .refl _, Ent.int (by rw [Tm.rows_length]), .refl _, trivial⟩ rfl ?_
  rintro ⟨k, acc⟩ ⟨hk, hm, hal⟩
  simp only at hk hm hal
  have hl := Tm.len_le_sizeL l
  refine R_run hg.ok 1000 rfl rfl ?_
  refine R_if rfl rfl (fun h => ?_) (fun h => ?_) <;> refine R_run hg.ok 1000 rfl rfl ?_
  · have hk1 : k < l.length := lt_dec h rfl
    have e1 : l[k]? = some l[k] := List.getElem?_eq_getElem hk1
    rw [List.drop_eq_getElem_cons hk1] at hm hal
    simp only [Tm.sizeL] at hal
    refine R_index hg.ok rfl rfl rfl rfl rfl rfl (Int.natCast_nonneg k) (Tm.rows_get e1) rfl ?_
    refine R_run hg.ok 1000 rfl rfl ?_
    refine R_call hg.ok (each_ok l[k]) rfl rfl rfl rfl rfl rfl ?_
    refine R_run hg.ok 1000 rfl rfl ?_
    generalize l[k] = t at *
    refine R_range hg.ok hg.gup ⟨rfl, rfl⟩ rfl (t.els 1) Tm.enc ⟨(t.els 1).map Tm.enc, fun _ => true⟩ rfl (fun n => vobjs (accN acc t n) ++ [boxR t]) (fun _ _ => [(3, .lo 1 0), (4, .lo 2 0), (8, .lo 5 0)]) (fun n e => vobjs (accN acc t n) ++ [boxR t, boxR e.2]) _ .ret rfl rfl rfl (each1_ok _ t (by omega) fun _ _ h => els_ys h) rfl (fun _ _ => rfl) rfl ?_ ?_ ?_ rfl rfl (fun _ h => by cases h)
    · intro n x hx _ L w R0 X φ0 _
      refine R_run (gRound_ok hg.ok _ _ _ _ _) 1000 rfl rfl ?_
      exact R_finA ⟨.refl _, .refl _, .refl _, trivial⟩ rfl
    · intro n x hx _ L w R0 X φ0 hφ0
      have hg' := gRound_ok hg.ok L w R0 X φ0
      have hn := els_lt hx
      have hstep : accN acc t (n + 1) = stepV (accN acc t n) x := by unfold accN; rw [List.take_add_one, hx, List.foldl_append]; rfl
      have hlen : (accN acc t n).length ≤ acc.length + n := by
        have := foldl_len ((t.els 1).take n) acc
        unfold accN; rw [List.length_take] at this; omega
      rw [hstep]
      generalize accN acc t n = a at *
      refine R_run hg' 1000 rfl rfl ?_
      refine R_if rfl rfl (fun h1 => ?_) (fun h1 => ?_) <;> refine R_run hg' 1000 rfl rfl ?_
      · have hx1 : x.2.k = 1 := by simpa using h1
        by_cases hmem : a.contains x.2.n = true
        · refine R_lookupI hg' (setI a) rfl rfl rfl rfl rfl rfl rfl (zv := .bool false) (by kernel_rfl) (v := .tt) (by rw [getI_set, if_pos hmem]; rfl) ?_
          refine R_run hg' 1000 rfl rfl ?_
          refine R_dropO 5 _ (by rw [show (gRound _ L w R0 X φ0).φ0 = φ0 from rfl, hφ0]; exact Nat.le_refl _) rfl (vdrop (trimA 5) rfl _ _) ?_
          exact R_finB rfl (by unfold stepV addV; rw [if_pos hx1, if_pos hmem]; rfl)
        · have hmem' : a.contains x.2.n = false := by simpa using hmem
          refine R_lookupI hg' (setI a) rfl rfl rfl rfl rfl rfl rfl (zv := .bool false) (by kernel_rfl) (v := .ff) (by rw [getI_set, hmem']; rfl) ?_
          refine R_run hg' 1000 rfl rfl ?_
          refine R_mapAddI hg' (setI a) rfl rfl rfl rfl rfl rfl rfl (by rw [getI_set, hmem']; rfl) ?_
          rw [show ∀ E : Env, ev E (.const (.bool true)) = .tt from fun _ => rfl, setI_snoc]
          refine R_run hg' 1000 rfl rfl ?_
          refine R_append hg' rfl rfl rfl rfl rfl rfl rfl rfl rfl (by simp) (by simp [one1]) (by simp [irows_length]; omega) (by simp [irows_length]; omega) ?_
          rw [irows_snoc]
          refine R_run hg' 1000 rfl rfl ?_
          refine R_dropO 5 _ (by rw [show (gRound _ L w R0 X φ0).φ0 = φ0 from rfl, hφ0]; exact Nat.le_refl _) rfl (vdrop (trimA 5) rfl _ _) ?_
          refine R_finB rfl ?_
          unfold stepV addV; rw [if_pos hx1, hmem']
          simp only [Bool.false_eq_true, if_false, vobjs, List.length_append, List.length_cons, List.length_nil]; rfl
      · have hx1 : ¬ x.2.k = 1 := by simpa using h1
        refine R_dropO 5 _ (by rw [show (gRound _ L w R0 X φ0).φ0 = φ0 from rfl, hφ0]; exact Nat.le_refl _) rfl (vdrop (trimA 5) rfl _ _) ?_
        exact R_finB rfl (by unfold stepV; rw [if_neg hx1]; rfl)
    · intro _
      rw [adv_all (fun _ => rfl)]
      refine R_run hg.ok 1000 rfl rfl ?_
      refine R_dropO 4 _ (Nat.zero_le _) rfl (vdrop (trimA 4) rfl _ _) ?_
      have hA : accN acc t (0 + t.size) = (t.els 1).foldl stepV acc := by unfold accN; rw [List.take_of_length_le (by rw [Tm.els_len]; omega)]
      have hfl := foldl_len (t.els 1) acc
      rw [Tm.els_len] at hfl
      rw [hA]
      refine R_next (k + 1, (t.els 1).foldl stepV acc) ⟨hk1, hm, by simp only; omega⟩ (by simp only; omega) ⟨.refl _, .refl _, .refl _, .refl _, Ent.wrap (by simp only; omega) (by simp only; omega) (by simp only; omega), trivial⟩ rfl
  · have hk1 : l.length ≤ k := ge_dec h rfl
    refine R_ret hg 5 rfl (sealA_ow rfl) ?_
    rw [hm, List.drop_eq_nil_of_le hk1]; rfl
end Go.Proofs.Ytppghekipbnjhaa
