import Derived.Test.YtppghekipbnjhaaSNumber
import Derived.Test.YtppghekipbnjhaaPlMsg
namespace Go.Proofs.Ytppghekipbnjhaa
open Go PSL Go.Proofs

/-- What a walk through two terms turns: its own closure's cell, the pairs' cell, the pairs. -/
def gobjs (M : Prs) : List Ob := [.box [.clo 85 [] [.lo 0 0, .lo 1 0]], .box [.ow 2 M.length], .arr 8 M.length (prsRows M)]

theorem gobjs_map {f : AV → AV} (h3 : ∀ n, f (.ow 2 n) = .ow 2 n) (h4 : f (.clo 85 [] [.lo 0 0, .lo 1 0]) = .clo 85 [] [.lo 0 0, .lo 1 0]) (M : Prs) : (gobjs M).map (mapOb f) = gobjs M := by
  simp only [gobjs, mapOb, List.map_cons, List.map_nil, h3, h4]

def zBoxM : Ob := .box [.d (.v (.int .i64 0)), .d (.v (.string ByteArray.empty)), .d (.v (.int .i64 0)), .d (.v (.slice none 0 0))]

theorem prs_snoc (M : Prs) (a b : Tm) : prsRows M ++ [[.v (.int .i64 a.k), .v (.string a.s), .v (.int .i64 a.n), .sl (Tm.rows a.l), .v (.int .i64 b.k), .v (.string b.s), .v (.int .i64 b.n), .sl (Tm.rows b.l)]] = prsRows (M ++ [(a, b)]) := by simp [prsRows, prsRow, Tm.row]

theorem rows_snoc (l : List Tm) (x : Tm) : Tm.rows l ++ [[.v (.int .i64 x.k), .v (.string x.s), .v (.int .i64 x.n), .sl (Tm.rows x.l)]] = Tm.rows (l ++ [x]) := by simp [Tm.rows_eq, Tm.row]

set_option maxRecDepth 100000 in
theorem both_walk (Y : YP) (a : Tm) : ∀ (b : Tm) (M : Prs), a.size < 1000000000 → b.size < 1000000000 → (∀ p ∈ M, p.1.size < 1000000000 ∧ p.2.size < 1000000000) → M.length + a.size < 1000000000 → SCtr Try.prog Y 85 [a.av, b.av, .lo 0 0, .lo 1 0] (gobjs M) (Tm.bothT a b M).1.av (gobjs (Tm.bothT a b M).2) := by
  induction a using Tm.ind with
  | _ a ih =>
  intro b M hsz hst hM hMl
  have hl := Tm.len_le_sizeL a.l
  have hs := Tm.size_eq a
  have hs2 := Tm.size_eq b
  have hc := Tm.bothT_eq a b M
  refine SCtr.of_R (pf := pfM) tyOk mixed Try.func85 rfl (by kernel_rfl) (by kernel_rfl) (by simp [Try.ntmps85]) (by simp [gobjs]) fun w S φ hg => ?_
  have hφ : φ.length = 3 := hg.hs0.len
  refine R_run hg.ok 5 rfl rfl ?_
  have ret : ∀ {r : Tm} {Q : Prs}, Tm.bothT a b M = (r, Q) → r.av = (Tm.bothT a b M).1.av ∧ gobjs Q = gobjs (Tm.bothT a b M).2 := fun e => by rw [e]; exact ⟨rfl, rfl⟩
  have keep : ∀ (Q : Prs) (o : List Ob), (gobjs Q).map (mapOb (sealT false 3 o 5)) = gobjs Q := fun Q o => gobjs_map (fun _ => rfl) rfl Q
  refine R_cut1 (fun _ : Unit => ([(2, .lo 0 0), (3, .lo 1 0), (4, .lo 3 0), (5, .lo 4 0), (6, .lo 5 0), (44, bV (like a b))], gobjs M ++ [boxR a, boxR b, zBoxM])) (fun _ => True) rfl ?_ ?_
  · refine R_run hg.ok 1000 rfl rfl ?_
    have no : like a b = false → Ent .ff (bV (like a b)) := fun h => Ent.ffb h
    refine R_if rfl rfl (fun h1 => ?_) (fun h1 => ?_) <;> refine R_run hg.ok 1000 rfl rfl ?_
    rotate_left
    · exact R_to () trivial ⟨.refl _, .refl _, .refl _, .refl _, .refl _, no (by simp [like]; simp at h1; simp [h1]), trivial⟩ rfl
    refine R_if rfl rfl (fun h2 => ?_) (fun h2 => ?_) <;> refine R_run hg.ok 1000 rfl rfl ?_
    rotate_left
    · exact R_to () trivial ⟨.refl _, .refl _, .refl _, .refl _, .refl _, no (by simp [like]; simp at h2; simp [h2]), trivial⟩ rfl
    refine R_if rfl rfl (fun h3 => ?_) (fun h3 => ?_) <;> refine R_run hg.ok 1000 rfl rfl ?_
    rotate_left
    · exact R_to () trivial ⟨.refl _, .refl _, .refl _, .refl _, .refl _, no (by simp [like]; simp at h3; simp [h3]), trivial⟩ rfl
    refine R_if rfl rfl (fun h4 => ?_) (fun h4 => ?_) <;> refine R_run hg.ok 1000 rfl rfl ?_
    rotate_left
    · exact R_to () trivial ⟨.refl _, .refl _, .refl _, .refl _, .refl _, no (by simp [like, h4]), trivial⟩ rfl
    refine R_to () trivial ⟨.refl _, .refl _, .refl _, .refl _, .refl _, Ent.bool ?_, trivial⟩ rfl
    rw [Tm.rows_length, Tm.rows_length]
    simp at h1 h2 h3
    have hb : ¬ b.k = 1 := fun e => h1 (h2.trans e)
    rw [Bool.eq_iff_iff]
    simp [like, h2, h3, h4, hb]
    omega
  rintro ⟨⟩ -
  refine R_run hg.ok 1000 rfl rfl ?_
  refine R_if rfl rfl (fun hk => ?_) (fun hk => ?_) <;> refine R_run hg.ok 1000 rfl rfl ?_
  · rw [if_pos hk] at hc
    obtain ⟨_, _, _, _, hll⟩ := like_iff.1 hk
    refine R_ownB 6 3 4 rfl rfl rfl ?_
    refine R_loop (fun x : Nat × Prs × List Tm => ([(2, .lo 0 0), (5, .lo 4 0), (6, .lo 5 0), (7, .lo 6 0), (53, .d (.sl (Tm.rows a.l))), (54, iV a.l.length), (55, iV x.1)], gobjs x.2.1 ++ [boxR a, boxR b, zBoxM, .box [.d (.v (.int .i64 a.k)), .d (.v (.string a.s)), .d (.v (.int .i64 a.n)), .ow 7 x.1], .arr 4 x.1 (Tm.rows x.2.2)]))
      (fun x => x.1 ≤ a.l.length ∧ x.2.2.length = x.1 ∧ Tm.bothTL a.l b.l M = (x.2.2 ++ (Tm.bothTL (a.l.drop x.1) (b.l.drop x.1) x.2.1).1, (Tm.bothTL (a.l.drop x.1) (b.l.drop x.1) x.2.1).2) ∧ x.2.1.length + Tm.sizeL (a.l.drop x.1) ≤ M.length + Tm.sizeL a.l ∧ ∀ p ∈ x.2.1, p.1.size < 1000000000 ∧ p.2.size < 1000000000)
      (fun x => a.l.length - x.1) (0, M, []) ⟨Nat.zero_le _, rfl, rfl, Nat.le_refl _, hM⟩ ⟨.refl _, .refl _, .refl _, .refl _, .refl _, Ent.int (by rw [Tm.rows_length]), .refl _, trivial⟩ rfl ?_
    rintro ⟨k, Q, acc⟩ ⟨hk0, hal, hm, hQl, hQ⟩
    simp only at hk0 hal hm hQl hQ
    refine R_run hg.ok 1000 rfl rfl ?_
    refine R_if rfl rfl (fun h => ?_) (fun h => ?_) <;> refine R_run hg.ok 1000 rfl rfl ?_
    · have hk1 : k < a.l.length := lt_dec h rfl
      have hk2 : k < b.l.length := by omega
      have e1 : a.l[k]? = some a.l[k] := List.getElem?_eq_getElem hk1
      have e2 : b.l[k]? = some b.l[k] := List.getElem?_eq_getElem hk2
      rw [List.drop_eq_getElem_cons hk1, List.drop_eq_getElem_cons hk2, Tm.bothTL] at hm
      rw [List.drop_eq_getElem_cons hk1, Tm.sizeL] at hQl
      have hsm := Tm.size_mem (List.getElem_mem hk1)
      have hsm2 := Tm.size_mem (List.getElem_mem hk2)
      refine R_index hg.ok rfl rfl rfl rfl rfl rfl (Int.natCast_nonneg k) (Tm.rows_get e1) rfl ?_
      refine R_run hg.ok 1000 rfl rfl ?_
      refine R_load4 hg.ok (by show φ.length ≤ 6; omega) rfl rfl rfl rfl rfl rfl rfl ?_
      refine R_run hg.ok 1000 rfl rfl ?_
      refine R_index hg.ok rfl rfl rfl rfl rfl rfl (Int.natCast_nonneg k) (Tm.rows_get e2) rfl ?_
      refine R_run hg.ok 1000 rfl rfl ?_
      have hcall := ih _ (List.getElem_mem hk1) b.l[k] Q (by omega) (by omega) hQ (by omega)
      have hgr := Tm.both_grow a.l[k] b.l[k] Q
      have hmem := Tm.both_mem a.l[k] b.l[k] Q
      generalize hr : Tm.bothT a.l[k] b.l[k] Q = rq at hcall hm hgr hmem
      obtain ⟨r, Q'⟩ := rq
      have hren : ∀ (n : Nat) (Z : Prs), (gobjs Z).map (renOb (rn [0, 1, 2] n)) = gobjs Z := fun n Z => by
        have e : (renOb (rn [0, 1, 2] n)) = mapOb (renA (rn [0, 1, 2] n)) := by funext o; cases o <;> simp [renOb, mapOb, renL_map]
        rw [e]; exact gobjs_map (fun _ => rfl) rfl Z
      refine R_callS3 hg.ok hg.gup hg.wide hg.Y [0, 1, 2] (gobjs Q' ++ [boxR a, boxR b, zBoxM, .box [.d (.v (.int .i64 a.k)), .d (.v (.string a.s)), .d (.v (.int .i64 a.n)), .ow 7 k], .arr 4 k (Tm.rows acc), boxR a.l[k]]) hcall (fun _ => rfl) (fun i hi => by show i < φ.length; simp at hi; omega) rfl rfl rfl rfl rfl (by rw [hren]; rfl) rfl (by rw [hren]; rfl) ?_
      refine R_run hg.ok 1000 rfl rfl ?_
      refine R_appendO hg.ok (Tm.rows (acc ++ [r])) rfl rfl rfl rfl rfl rfl rfl rfl rfl (by simp) (by simp [one1]) (rows_snoc acc r) (by rw [Tm.rows_length]; simp; omega) (by rw [Tm.rows_length]; simp; omega) ?_
      refine R_run hg.ok 1000 rfl rfl ?_
      refine R_dropO 8 (gobjs Q' ++ [boxR a, boxR b, zBoxM, .box [.d (.v (.int .i64 a.k)), .d (.v (.string a.s)), .d (.v (.int .i64 a.n)), .ow 7 (k + 1)], .arr 4 (k + 1) (Tm.rows (acc ++ [r]))]) (by show φ.length ≤ _; omega) rfl (by show (gobjs Q').map _ ++ _ = _; rw [gobjs_map (fun _ => rfl) rfl]; rfl) ?_
      obtain ⟨Q2, g1, g2⟩ := hgr
      simp only at g1
      refine R_next (k + 1, Q', acc ++ [r]) ⟨hk1, by simp [hal], by rw [hm]; simp, ?_, fun p hp => ?_⟩ (by simp only; omega) ⟨.refl _, .refl _, .refl _, .refl _, .refl _, .refl _, Ent.wrap (by simp only; omega) (by simp only; omega) (by simp only; omega), trivial⟩ rfl
      · simp only; rw [g1]; simp; omega
      · rcases hmem p hp with h | h
        · exact hQ p h
        · omega
    · have hk1 : a.l.length ≤ k := ge_dec h rfl
      rw [List.drop_eq_nil_of_le hk1] at hm
      have e := ret (r := .mk a.k a.s a.n acc) (Q := Q) (by rw [hc, hm]; cases (b.l.drop k) <;> simp [Tm.bothTL])
      rw [← e.1, ← e.2]
      exact R_retS hg 3 5 (Nat.le_refl _) rfl (sealT_term rfl rfl rfl rfl rfl) (keep Q _)
  · rw [if_neg (by rw [hk]; simp)] at hc
    refine R_lenO hg.ok rfl rfl rfl rfl rfl (n := M.length) (by rw [prsRows_len]) ?_
    refine R_run hg.ok 1000 rfl rfl ?_
    refine R_loop (fun k : Nat => ([(3, .lo 1 0), (4, .lo 3 0), (5, .lo 4 0), (6, .lo 5 0), (75, .ow 2 M.length), (76, iV M.length), (77, iV k)], gobjs M ++ [boxR a, boxR b, zBoxM]))
      (fun k => k ≤ M.length ∧ atP M a b 0 = atP (M.drop k) a b k) (fun k => M.length - k) 0 ⟨Nat.zero_le _, rfl⟩ ⟨.refl _, .refl _, .refl _, .refl _, .refl _, .refl _, .refl _, trivial⟩ rfl ?_
    rintro k ⟨hk0, hm⟩
    refine R_run hg.ok 1000 rfl rfl ?_
    refine R_if rfl rfl (fun h => ?_) (fun h => ?_) <;> refine R_run hg.ok 1000 rfl rfl ?_
    · have hk1 : k < M.length := lt_dec h rfl
      have e1 : M[k]? = some M[k] := List.getElem?_eq_getElem hk1
      rw [List.drop_eq_getElem_cons hk1, atP] at hm
      have hMk := hM _ (List.getElem_mem hk1)
      refine R_indexO hg.ok rfl rfl rfl rfl rfl rfl rfl rfl rfl (Int.natCast_nonneg k) (by rw [prsRows_len]; simpa using hk1) ?_
      refine R_run hg.ok 1000 rfl rfl ?_
      refine R_loadE hg.ok rfl rfl rfl rfl rfl rfl (prsRows_get e1) rfl ?_
      refine R_run hg.ok 1000 rfl rfl ?_
      refine R_indexA hg.ok 0 rfl rfl rfl rfl rfl rfl (by decide) (by decide) rfl ?_
      refine R_run hg.ok 1000 rfl rfl ?_
      refine R_call hg.ok (same_ok M[k].1 a hMk.1) rfl rfl rfl rfl rfl rfl ?_
      refine R_run hg.ok 1000 rfl rfl ?_
      refine R_if rfl rfl (fun h1 => ?_) (fun h1 => ?_) <;> refine R_run hg.ok 1000 rfl rfl ?_
      · refine R_indexA hg.ok 4 rfl rfl rfl rfl rfl rfl (by decide) (by decide) rfl ?_
        refine R_run hg.ok 1000 rfl rfl ?_
        refine R_call hg.ok (same_ok M[k].2 b hMk.2) rfl rfl rfl rfl rfl rfl ?_
        refine R_run hg.ok 1000 rfl rfl ?_
        refine R_if rfl rfl (fun h2 => ?_) (fun h2 => ?_) <;> refine R_run hg.ok 1000 rfl rfl ?_
        · rw [if_pos (by rw [h1, h2]; rfl)] at hm
          have e := ret (r := Tm.vT k) (Q := M) (by rw [hc, hm, if_neg (by omega)])
          rw [← e.1, ← e.2]
          exact R_retS hg 3 5 (Nat.le_refl _) rfl rfl (keep M _)
        · rw [if_neg (by rw [h1, h2]; simp)] at hm
          refine R_dropO 6 (gobjs M ++ [boxR a, boxR b, zBoxM]) (by show φ.length ≤ _; omega) rfl (by show (gobjs M).map _ ++ _ = _; rw [gobjs_map (fun _ => rfl) rfl]; rfl) ?_
          exact R_next (k + 1) ⟨hk1, hm⟩ (by omega) ⟨.refl _, .refl _, .refl _, .refl _, .refl _, .refl _, Ent.wrap (by omega) (by omega) (by omega), trivial⟩ rfl
      · rw [if_neg (by rw [h1]; simp)] at hm
        refine R_dropO 6 (gobjs M ++ [boxR a, boxR b, zBoxM]) (by show φ.length ≤ _; omega) rfl (by show (gobjs M).map _ ++ _ = _; rw [gobjs_map (fun _ => rfl) rfl]; rfl) ?_
        exact R_next (k + 1) ⟨hk1, hm⟩ (by omega) ⟨.refl _, .refl _, .refl _, .refl _, .refl _, .refl _, Ent.wrap (by omega) (by omega) (by omega), trivial⟩ rfl
    · have hk1 : M.length ≤ k := ge_dec h rfl
      rw [List.drop_eq_nil_of_le hk1, atP] at hm
      refine R_buildA hg.ok _ rfl rfl rfl rfl rfl rfl rfl rfl ?_
      refine R_run hg.ok 1000 rfl rfl ?_
      refine R_appendO hg.ok (prsRows (M ++ [(a, b)])) rfl rfl rfl rfl rfl rfl rfl rfl rfl (by simp) (by simp [one1]) (prs_snoc M a b) (by rw [prsRows_len]; simp; omega) (by rw [prsRows_len]; simp; omega) ?_
      refine R_run hg.ok 1000 rfl rfl ?_
      refine R_lenO hg.ok rfl rfl rfl rfl rfl (n := ((M.length + 1 : Nat) : Int)) (by rw [prsRows_len]; simp) ?_
      refine R_run hg.ok 1000 rfl rfl ?_
      have e := ret (r := Tm.vT M.length) (Q := M ++ [(a, b)]) (by rw [hc, hm, if_pos (by omega)])
      have e2 : gobjs (M ++ [(a, b)]) = [.box [.clo 85 [] [.lo 0 0, .lo 1 0]], .box [.ow 2 (Nat.succ M.length)], .arr 8 (Nat.succ M.length) (prsRows (M ++ [(a, b)]))] := by simp [gobjs]
      rw [← e.1, ← e.2]
      have e3 : IntKind.i64.wrap (((M.length + 1 : Nat) : Int) - 1) = M.length := by rw [wrap_id (by omega) (by omega)]; omega
      refine R_retS hg 3 5 (Nat.le_refl _) rfl ?_ ((congrArg (List.map _) e2.symm).trans (keep _ _))
      show AV.agg [_, _, .d (.v (.int .i64 (IntKind.i64.wrap (((M.length + 1 : Nat) : Int) - 1)))), _] = _
      rw [e3]; rfl
end Go.Proofs.Ytppghekipbnjhaa
