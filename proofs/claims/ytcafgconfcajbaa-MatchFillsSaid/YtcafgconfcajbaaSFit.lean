import Derived.Test.YtcafgconfcajbaaSSort
import Derived.Test.YtcafgconfcajbaaPlB
namespace Go.Proofs.Ytcafgconfcajbaa
open Go PSL Go.Proofs

def fwdL (P : List (Int × Int)) : List (Int × AV) := P.map fun p => (p.1, iV p.2)
def bwdL (P : List (Int × Int)) : List (Int × AV) := P.map fun p => (p.2, iV p.1)
def pobjs (P : List (Int × Int)) : List Ob := [.map (imap (fwdL P)), .map (imap (bwdL P))]

theorem getI_fwd : ∀ (P : List (Int × Int)) (n : Int), getI (fwdL P) n = (fwdP P n).map iV
  | [], n => rfl
  | p :: P, n => by
    have ih := getI_fwd P n
    by_cases h : p.1 = n
    · simp [fwdL, getI, fwdP, h]
    · simp only [fwdL, List.map_cons, getI, fwdP, List.find?_cons, show (p.1 == n) = false by simpa using h] at ih ⊢
      rw [if_neg h]; exact ih
theorem getI_bwd : ∀ (P : List (Int × Int)) (n : Int), getI (bwdL P) n = (bwdP P n).map iV
  | [], n => rfl
  | p :: P, n => by
    have ih := getI_bwd P n
    by_cases h : p.2 = n
    · simp [bwdL, getI, bwdP, h]
    · simp only [bwdL, List.map_cons, getI, bwdP, List.find?_cons, show (p.2 == n) = false by simpa using h] at ih ⊢
      rw [if_neg h]; exact ih
theorem fwdL_snoc (P : List (Int × Int)) (m n : Int) : fwdL P ++ [(m, iV n)] = fwdL (P ++ [(m, n)]) := by simp [fwdL]
theorem bwdL_snoc (P : List (Int × Int)) (m n : Int) : bwdL P ++ [(n, iV m)] = bwdL (P ++ [(m, n)]) := by simp [bwdL]
theorem mapOb_prs {f : AV → AV} (h : ∀ n : Int, f (iV n) = iV n) : ∀ (P : List (Int × Int)), mapOb f (.map (imap (fwdL P))) = .map (imap (fwdL P)) ∧ mapOb f (.map (imap (bwdL P))) = .map (imap (bwdL P))
  | [] => ⟨rfl, rfl⟩
  | p :: P => by
    obtain ⟨h1, h2⟩ := mapOb_prs h P
    simp only [mapOb, imap, fwdL, bwdL, List.map_cons, Ob.map.injEq, h, List.cons.injEq, true_and] at h1 h2 ⊢
    exact ⟨h1, h2⟩
theorem pobjs_map {f : AV → AV} (h : ∀ n : Int, f (iV n) = iV n) (P : List (Int × Int)) : (pobjs P).map (mapOb f) = pobjs P := by
  have := mapOb_prs h P
  simp only [pobjs, List.map_cons, List.map_nil, this.1, this.2]
theorem pobjs_ren (f : Nat → Nat) (P : List (Int × Int)) : (pobjs P).map (renOb f) = pobjs P := by
  have h := pobjs_map (f := renA f) (fun n => rfl) P
  have e : (renOb f) = mapOb (renA f) := by funext o; cases o <;> simp [renOb, mapOb, renL_map]
  rw [e]; exact h

set_option maxRecDepth 100000 in
theorem fits_walk (Y : YP) (a : Tm) : ∀ (b : Tm) (P : List (Int × Int)), a.size < 1000000000 → SCtr Try.prog Y 54 [.agg [.mp 0, .mp 1], a.av, b.av] (pobjs P) (bV (Tm.fitsT a b P).1) (pobjs (Tm.fitsT a b P).2) := by
  induction a using Tm.ind with
  | _ a ih =>
  intro b P hsz
  have hl := Tm.len_le_sizeL a.l
  have hs := Tm.size_eq a
  have hc := Tm.fitsT_eq a b P
  refine SCtr.of_R (pf := pfBE) tyOk mixed Try.func54 rfl (by kernel_rfl) (by kernel_rfl) (by simp [Try.ntmps54]) (by simp [pobjs]) fun w S φ hg => ?_
  have hφ : φ.length ≤ 2 := Nat.le_of_eq hg.hs0.len
  refine R_run hg.ok 1000 rfl rfl ?_
  have ret : ∀ {r : Bool} {Q : List (Int × Int)}, Tm.fitsT a b P = (r, Q) → bV r = bV (Tm.fitsT a b P).1 ∧ pobjs Q = pobjs (Tm.fitsT a b P).2 := fun e => by rw [e]; exact ⟨rfl, rfl⟩
  refine R_if rfl rfl (fun h => ?_) (fun h => ?_) <;> refine R_run hg.ok 1000 rfl rfl ?_
  · have e := ret (r := false) (Q := P) (by rw [hc, if_pos (.inl (by simpa using h))])
    rw [← e.1, ← e.2]
    exact R_retS hg 2 5 (Nat.le_refl _) rfl rfl (pobjs_map (fun _ => rfl) P)
  have hk : a.k = b.k := by simpa using h
  refine R_if rfl rfl (fun h => ?_) (fun h => ?_) <;> refine R_run hg.ok 1000 rfl rfl ?_
  · have e := ret (r := false) (Q := P) (by rw [hc, if_pos (.inr (.inl (by simpa using h)))])
    rw [← e.1, ← e.2]
    exact R_retS hg 2 5 (Nat.le_refl _) rfl rfl (pobjs_map (fun _ => rfl) P)
  have hstr : strEq a.s b.s = true := by simpa using h
  refine R_if rfl rfl (fun h => ?_) (fun h => ?_) <;> refine R_run hg.ok 1000 rfl rfl ?_
  · have e := ret (r := false) (Q := P) (by rw [hc, if_pos (.inr (.inr (by simp only [Tm.rows_length] at h; simp at h; omega)))])
    rw [← e.1, ← e.2]
    exact R_retS hg 2 5 (Nat.le_refl _) rfl rfl (pobjs_map (fun _ => rfl) P)
  have hll : a.l.length = b.l.length := by simp only [Tm.rows_length] at h; simp at h; omega
  rw [if_neg (by simp [hk, hstr, hll])] at hc
  refine R_if rfl rfl (fun h => ?_) (fun h => ?_) <;> refine R_run hg.ok 1000 rfl rfl ?_
  · have hk1 : ¬ a.k = 1 := by simpa using h
    rw [if_pos hk1] at hc
    refine R_if rfl rfl (fun h => ?_) (fun h => ?_) <;> refine R_run hg.ok 1000 rfl rfl ?_
    · have e := ret (r := false) (Q := P) (by rw [hc, if_pos (by simpa using h)])
      rw [← e.1, ← e.2]
      exact R_retS hg 2 5 (Nat.le_refl _) rfl rfl (pobjs_map (fun _ => rfl) P)
    rw [if_neg (by simpa using h)] at hc
    refine R_loop (fun x : Nat × List (Int × Int) => ([(3, .lo 2 0), (5, .lo 4 0), (43, .d (.sl (Tm.rows a.l))), (44, iV a.l.length), (45, iV x.1)], pobjs x.2 ++ [.box [.mp 0, .mp 1], boxR a, boxR b])) (fun x => x.1 ≤ a.l.length ∧ Tm.fitsT a b P = Tm.fitsL (a.l.drop x.1) (b.l.drop x.1) x.2) (fun x => a.l.length - x.1) (0, P) ⟨Nat.zero_le _, hc⟩ ⟨.refl _, .refl _, .refl _, Ent.int (by rw [Tm.rows_length]), .refl _, trivial⟩ rfl ?_
    rintro ⟨k, Q⟩ ⟨hk0, hm⟩
    simp only at hk0 hm
    refine R_run hg.ok 1000 rfl rfl ?_
    refine R_if rfl rfl (fun h => ?_) (fun h => ?_) <;> refine R_run hg.ok 1000 rfl rfl ?_
    · have hk1 : k < a.l.length := lt_dec h rfl
      have hk2 : k < b.l.length := by omega
      have e1 : a.l[k]? = some a.l[k] := List.getElem?_eq_getElem hk1
      have e2 : b.l[k]? = some b.l[k] := List.getElem?_eq_getElem hk2
      rw [List.drop_eq_getElem_cons hk1, List.drop_eq_getElem_cons hk2, Tm.fitsL] at hm
      have hsm := Tm.size_mem (List.getElem_mem hk1)
      refine R_index hg.ok rfl rfl rfl rfl rfl rfl (Int.natCast_nonneg k) (Tm.rows_get e1) rfl ?_
      refine R_run hg.ok 1000 rfl rfl ?_
      refine R_index hg.ok rfl rfl rfl rfl rfl rfl (Int.natCast_nonneg k) (Tm.rows_get e2) rfl ?_
      refine R_run hg.ok 1000 rfl rfl ?_
      have hcall := ih _ (List.getElem_mem hk1) b.l[k] Q (by omega)
      generalize hr : Tm.fitsT a.l[k] b.l[k] Q = rq at hcall hm
      obtain ⟨r, Q'⟩ := rq
      refine R_callSO hg.ok hg.gup hg.wide hg.Y [0, 1] (pobjs Q' ++ [.box [.mp 0, .mp 1], boxR a, boxR b, boxR a.l[k]]) hcall (fun _ => rfl) rfl rfl rfl rfl rfl (by rw [pobjs_ren]; rfl) rfl (by rw [pobjs_ren]; rfl) ?_
      refine R_run hg.ok 1000 rfl rfl ?_
      refine R_if rfl rfl (fun h => ?_) (fun h => ?_) <;> refine R_run hg.ok 1000 rfl rfl ?_
      · have hr0 : r = false := by simpa using h
        subst hr0
        have e := ret (r := false) (Q := Q') (by rw [hm]; simp)
        rw [← e.1, ← e.2]
        exact R_retS hg 2 5 (Nat.le_refl _) rfl rfl (pobjs_map (fun _ => rfl) Q')
      · have hr0 : r = true := by simpa using h
        subst hr0
        refine R_dropO 5 (pobjs Q' ++ [.box [.mp 0, .mp 1], boxR a, boxR b]) (by show φ.length ≤ _; omega) rfl (by show (pobjs Q').map _ ++ _ = _; rw [pobjs_map (fun _ => rfl)]; rfl) ?_
        exact R_next (k + 1, Q') ⟨hk1, by rw [hm]; simp⟩ (by simp only; omega) ⟨.refl _, .refl _, .refl _, .refl _, Ent.wrap (by simp only; omega) (by simp only; omega) (by simp only; omega), trivial⟩ rfl
    · have hk1 : a.l.length ≤ k := ge_dec h rfl
      have e := ret (r := true) (Q := Q) (by rw [hm, List.drop_eq_nil_of_le hk1, Tm.fitsL]; simp)
      rw [← e.1, ← e.2]
      exact R_retS hg 2 5 (Nat.le_refl _) rfl rfl (pobjs_map (fun _ => rfl) Q)
  have hk1 : a.k = 1 := by simpa using h
  rw [if_neg (by simpa using hk1)] at hc
  unfold varFit at hc
  cases hf : fwdP P a.n with
  | none =>
    refine R_lookupI hg.ok (fwdL P) rfl rfl rfl rfl rfl rfl rfl (zv := .int .i64 0) (by kernel_rfl) (v := .tup [iV 0, bV false]) (by rw [getI_fwd, hf]; rfl) ?_
    refine R_run hg.ok 1000 rfl rfl ?_
    cases hb : bwdP P b.n with
    | none =>
      simp only [hf, hb] at hc
      refine R_lookupI hg.ok (bwdL P) rfl rfl rfl rfl rfl rfl rfl (zv := .int .i64 0) (by kernel_rfl) (v := .tup [iV 0, bV false]) (by rw [getI_bwd, hb]; rfl) ?_
      refine R_run hg.ok 1000 rfl rfl ?_
      refine R_if rfl rfl (fun _ => ?_) (fun h => absurd h (by simp)) <;> refine R_run hg.ok 1000 rfl rfl ?_
      refine R_if rfl rfl (fun _ => ?_) (fun h => absurd h (by simp)) <;> refine R_run hg.ok 1000 rfl rfl ?_
      refine R_mapAddO hg.ok (fwdL P) (fwdL (P ++ [(a.n, b.n)])) rfl rfl rfl rfl rfl rfl rfl (by rw [getI_fwd, hf]; rfl) rfl (fwdL_snoc _ _ _) ?_
      refine R_run hg.ok 1000 rfl rfl ?_
      refine R_mapAddO hg.ok (bwdL P) (bwdL (P ++ [(a.n, b.n)])) rfl rfl rfl rfl rfl rfl rfl (by rw [getI_bwd, hb]; rfl) rfl (bwdL_snoc _ _ _) ?_
      refine R_run hg.ok 1000 rfl rfl ?_
      have e := ret (r := true) (Q := P ++ [(a.n, b.n)]) hc
      rw [← e.1, ← e.2]
      exact R_retS hg 2 5 (Nat.le_refl _) rfl rfl (pobjs_map (fun _ => rfl) (P ++ [(a.n, b.n)]))
    | some y =>
      simp only [hf, hb] at hc
      refine R_lookupI hg.ok (bwdL P) rfl rfl rfl rfl rfl rfl rfl (zv := .int .i64 0) (by kernel_rfl) (v := .tup [iV y, bV true]) (by rw [getI_bwd, hb]; rfl) ?_
      refine R_run hg.ok 1000 rfl rfl ?_
      refine R_if rfl rfl (fun _ => ?_) (fun h => absurd h (by simp)) <;> refine R_run hg.ok 1000 rfl rfl ?_
      refine R_if rfl rfl (fun h => absurd h (by simp)) (fun _ => ?_) <;> refine R_run hg.ok 1000 rfl rfl ?_
      refine R_if rfl rfl (fun h => absurd h (by simp)) (fun _ => ?_) <;> refine R_run hg.ok 1000 rfl rfl ?_
      have e := ret (r := false) (Q := P) hc
      rw [← e.1, ← e.2]
      exact R_retS hg 2 5 (Nat.le_refl _) rfl rfl (pobjs_map (fun _ => rfl) P)
  | some x =>
    refine R_lookupI hg.ok (fwdL P) rfl rfl rfl rfl rfl rfl rfl (zv := .int .i64 0) (by kernel_rfl) (v := .tup [iV x, bV true]) (by rw [getI_fwd, hf]; rfl) ?_
    refine R_run hg.ok 1000 rfl rfl ?_
    cases hb : bwdP P b.n with
    | none =>
      simp only [hf, hb] at hc
      refine R_lookupI hg.ok (bwdL P) rfl rfl rfl rfl rfl rfl rfl (zv := .int .i64 0) (by kernel_rfl) (v := .tup [iV 0, bV false]) (by rw [getI_bwd, hb]; rfl) ?_
      refine R_run hg.ok 1000 rfl rfl ?_
      refine R_if rfl rfl (fun h => absurd h (by simp)) (fun _ => ?_) <;> refine R_run hg.ok 1000 rfl rfl ?_
      refine R_if rfl rfl (fun _ => ?_) (fun h => absurd h (by simp)) <;> refine R_run hg.ok 1000 rfl rfl ?_
      refine R_if rfl rfl (fun h => absurd h (by simp)) (fun _ => ?_) <;> refine R_run hg.ok 1000 rfl rfl ?_
      have e := ret (r := false) (Q := P) hc
      rw [← e.1, ← e.2]
      exact R_retS hg 2 5 (Nat.le_refl _) rfl rfl (pobjs_map (fun _ => rfl) P)
    | some y =>
      simp only [hf, hb] at hc
      refine R_lookupI hg.ok (bwdL P) rfl rfl rfl rfl rfl rfl rfl (zv := .int .i64 0) (by kernel_rfl) (v := .tup [iV y, bV true]) (by rw [getI_bwd, hb]; rfl) ?_
      refine R_run hg.ok 1000 rfl rfl ?_
      refine R_if rfl rfl (fun h => absurd h (by simp)) (fun _ => ?_) <;> refine R_run hg.ok 1000 rfl rfl ?_
      refine R_if rfl rfl (fun _ => ?_) (fun h => absurd h (by simp)) <;> refine R_run hg.ok 1000 rfl rfl ?_
      refine R_if rfl rfl (fun _ => ?_) (fun h => absurd h (by simp)) <;> refine R_run hg.ok 1000 rfl rfl ?_
      refine R_if rfl rfl (fun h => ?_) (fun h => ?_) <;> refine R_run hg.ok 1000 rfl rfl ?_
      · rw [show (x == b.n) = true from h, Bool.true_and] at hc
        have e := ret hc
        rw [← e.1, ← e.2]
        exact R_retS hg 2 5 (Nat.le_refl _) rfl rfl (pobjs_map (fun _ => rfl) P)
      · rw [show (x == b.n) = false from h, Bool.false_and] at hc
        have e := ret hc
        rw [← e.1, ← e.2]
        exact R_retS hg 2 5 (Nat.le_refl _) rfl rfl (pobjs_map (fun _ => rfl) P)
end Go.Proofs.Ytcafgconfcajbaa
