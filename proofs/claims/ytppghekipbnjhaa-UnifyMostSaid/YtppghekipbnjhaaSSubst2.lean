import Derived.Test.YtppghekipbnjhaaSSubst
import Derived.Test.YtppghekipbnjhaaSSame
namespace Go.Proofs.Ytppghekipbnjhaa
open Go PSL Go.Proofs

/-- What binds must be to be gone through. -/
structure Small (B : Binds) : Prop where
  len : B.length ≤ 4000
  size : ∀ b ∈ B, b.2.size < 400000000
  name : ∀ b ∈ B, ∀ x e, e ∈ b.2.els x → e.2.s.size < 1000000000

theorem dfsAll_drop {adj : Nat → List Nat} {n i : Nat} (h : i < n) (st : List Int) : dfsAll adj n ((List.range n).drop i) st = if (dfsF adj (n + 1) i st).1 then dfsAll adj n ((List.range n).drop (i + 1)) (dfsF adj (n + 1) i st).2 else false := by
  rw [List.drop_eq_getElem_cons (by simpa using h), List.getElem_range, dfsAll]

theorem irows_zero (n : Nat) : List.replicate n [D.v (.int .i64 0)] = irows (List.replicate n 0) := by simp [irows, irow]

set_option maxRecDepth 100000 in
theorem subRight_ok (B : Binds) (hB : Small B) : PCtr Try.prog 77 [.d (.sl (bindRows B))] (bV (rightS B)) := by
  have hl := hB.len
  refine PCtr.of_R (pf := fun _ => .still) tyOk mixed Try.func77 rfl (by kernel_rfl) (by kernel_rfl) (by simp [Try.ntmps77]) fun w S hg => ?_
  refine R_run hg.ok 1000 rfl rfl ?_
  refine R_call hg.ok (index_ok B (by omega)) rfl rfl rfl rfl rfl rfl ?_
  refine R_run hg.ok 1000 rfl rfl ?_
  refine R_lenM hg.ok rfl rfl rfl rfl (n := ((ixM (B.map (·.1))).length : Int)) (by rw [dmI_len]) ?_
  refine R_run hg.ok 1000 rfl rfl ?_
  refine R_if rfl rfl (fun h => ?_) (fun h => ?_) <;> refine R_run hg.ok 1000 rfl rfl ?_
  · have h := of_decide_eq_true h
    refine R_ret hg 5 rfl rfl ?_
    rw [bindRows_len] at h
    have : (ixM (B.map (·.1))).length < B.length := by omega
    simp only [rightS]; rw [decide_eq_true this]; rfl
  have h := of_decide_eq_false h
  rw [bindRows_len] at h
  have hr1 : rightS B = (fineB B && dfsAll (adjB B) B.length (List.range B.length) (List.replicate B.length 0)) := by
    unfold rightS; rw [decide_eq_false (by omega)]; simp
  refine R_loop (fun k : Nat => ([(1, .lo 0 0), (3, .lo 1 0), (16, .d (.sl (bindRows B))), (17, iV B.length), (18, iV k)], [.box [.d (.sl (bindRows B))], .box [.d (.map (dmI (ixM (B.map (·.1)))))]])) (fun k => k ≤ B.length ∧ fineB B = fineB (B.drop k)) (fun k => B.length - k) 0 ⟨Nat.zero_le _, rfl⟩ ⟨.refl _, .refl _, .refl _, Ent.int (by rw [bindRows_len]), .refl _, trivial⟩ rfl ?_
  rintro k ⟨hk, hm⟩
  refine R_run hg.ok 1000 rfl rfl ?_
  refine R_if rfl rfl (fun h => ?_) (fun h => ?_) <;> refine R_run hg.ok 1000 rfl rfl ?_
  · have hk1 : k < B.length := lt_dec h rfl
    have e1 : B[k]? = some B[k] := List.getElem?_eq_getElem hk1
    rw [List.drop_eq_getElem_cons hk1] at hm
    simp only [fineB, List.all_cons] at hm
    have bad : fineB B = false → AV.d (.v (.bool false)) = bV (rightS B) := fun h => by rw [hr1, h]; rfl
    refine R_index hg.ok rfl rfl rfl rfl rfl rfl (Int.natCast_nonneg _) (bindRows_get e1) rfl ?_
    refine R_run hg.ok 1000 rfl rfl ?_
    refine R_if rfl rfl (fun h1 => ?_) (fun h1 => ?_) <;> refine R_run hg.ok 1000 rfl rfl ?_
    · have h1 := of_decide_eq_true h1
      refine R_ret hg 5 rfl rfl ?_
      exact bad (by unfold fineB; rw [hm, decide_eq_false (by omega : ¬ 0 ≤ B[k].1)]; simp)
    have h1 := of_decide_eq_false h1
    refine R_if rfl rfl (fun h2 => ?_) (fun h2 => ?_) <;> refine R_run hg.ok 1000 rfl rfl ?_
    · have h2 := of_decide_eq_true h2
      refine R_ret hg 5 rfl rfl ?_
      exact bad (by unfold fineB; rw [hm, decide_eq_false (by omega : ¬ B[k].1 < 1000000)]; simp)
    have h2 := of_decide_eq_false h2
    refine R_call hg.ok (right_ok B[k].2 (by have := hB.size _ (List.getElem_mem hk1); omega) (hB.name _ (List.getElem_mem hk1) 1)) rfl rfl rfl rfl rfl rfl ?_
    refine R_run hg.ok 1000 rfl rfl ?_
    rw [rightT_eq]
    refine R_if rfl rfl (fun h3 => ?_) (fun h3 => ?_) <;> refine R_run hg.ok 1000 rfl rfl ?_
    · refine R_ret hg 5 rfl rfl ?_
      exact bad (by unfold fineB; rw [hm, show B[k].2.rightB = false by simpa using h3]; simp)
    · refine R_dropO 2 [.box [.d (.sl (bindRows B))], .box [.d (.map (dmI (ixM (B.map (·.1)))))]] (Nat.zero_le _) rfl rfl ?_
      refine R_next (k + 1) ⟨hk1, ?_⟩ (by omega) ⟨.refl _, .refl _, .refl _, .refl _, Ent.wrap (by omega) (by omega) (by omega), trivial⟩ rfl
      unfold fineB
      rw [hm, show B[k].2.rightB = true by simpa using h3, decide_eq_true (by omega : 0 ≤ B[k].1), decide_eq_true (by omega : B[k].1 < 1000000)]
      simp
  have hk1 : B.length ≤ k := ge_dec h rfl
  rw [List.drop_eq_nil_of_le hk1] at hm
  have hr2 : rightS B = dfsAll (adjB B) B.length (List.range B.length) (List.replicate B.length 0) := by rw [hr1, hm]; simp [fineB]
  refine R_makeSlice hg.ok (irows (List.replicate B.length 0)) rfl rfl rfl rfl rfl rfl (by rw [bindRows_len]; omega) (by rw [bindRows_len]; omega) (by rw [bindRows_len]; omega) (by rw [bindRows_len]; exact irows_zero B.length) ?_
  refine R_run hg.ok 1000 rfl rfl ?_
  refine R_loop (fun x : Nat × List Int => ([(7, .lo 4 0), (42, iV B.length), (43, iV x.1)], [.box [.d (.sl (bindRows B))], .box [.d (.map (dmI (ixM (B.map (·.1)))))], .arr 1 0 (irows x.2), .box [.ow 2 0], .box [.clo 95 [] [.lo 3 0, .lo 0 0, .lo 1 0, .lo 4 0]]]))
    (fun x => x.1 ≤ B.length ∧ rightS B = dfsAll (adjB B) B.length ((List.range B.length).drop x.1) x.2 ∧ x.2.length = B.length) (fun x => B.length - x.1) (0, List.replicate B.length 0) ⟨Nat.zero_le _, hr2, by simp⟩ ⟨.refl _, Ent.int (by rw [bindRows_len]), .refl _, trivial⟩ rfl ?_
  rintro ⟨k, st⟩ ⟨hk, hm, hst⟩
  simp only at hk hm hst
  refine R_run hg.ok 1000 rfl rfl ?_
  refine R_if rfl rfl (fun h => ?_) (fun h => ?_) <;> refine R_run hg.ok 1000 rfl rfl ?_
  · have hk1 : k < B.length := lt_dec h rfl
    rw [dfsAll_drop hk1] at hm
    have hz : zeros st < B.length + 1 := by
      have : zeros st ≤ st.length := List.countP_le_length
      omega
    have hcall := ends_walk ⟨[], fun _ => true⟩ B hB.size (by omega) (B.length + 1) k st hk1 hst hz
    have hsh := dfs_shape (adjB B) (B.length + 1) k st
    generalize dfsF (adjB B) (B.length + 1) k st = rq at hcall hm hsh
    obtain ⟨r, Q⟩ := rq
    refine R_callSO hg.ok hg.gup ⟨rfl, rfl⟩ (fun _ _ _ _ h => by cases h) [3, 0, 1, 4, 2] [.box [.d (.sl (bindRows B))], .box [.d (.map (dmI (ixM (B.map (·.1)))))], .arr 1 0 (irows Q), .box [.ow 2 0], .box [.clo 95 [] [.lo 3 0, .lo 0 0, .lo 1 0, .lo 4 0]]] hcall (fun _ => rfl) rfl rfl rfl rfl rfl rfl rfl rfl ?_
    refine R_run hg.ok 1000 rfl rfl ?_
    refine R_if rfl rfl (fun h => ?_) (fun h => ?_) <;> refine R_run hg.ok 1000 rfl rfl ?_
    · refine R_ret hg 5 rfl rfl ?_
      have hr0 : r = false := by simpa using h
      rw [hm, hr0]; rfl
    · have hr0 : r = true := by simpa using h
      exact R_next (k + 1, Q) ⟨hk1, by rw [hm, hr0]; rfl, by rw [← hst]; exact hsh.1⟩ (by simp only; omega) ⟨.refl _, .refl _, Ent.wrap (by simp only; omega) (by simp only; omega) (by simp only; omega), trivial⟩ rfl
  · have hk1 : B.length ≤ k := ge_dec h rfl
    refine R_ret hg 5 rfl rfl ?_
    rw [hm, List.drop_eq_nil_of_le (by simpa using hk1)]; rfl

/-- What a copy turns: how much is left. -/
def bobjs (B : Binds) (left : Int) : List Ob := [.box [.d (.map (dmI (ixM (B.map (·.1)))))], .box [.d (.sl (bindRows B))], .box [iV left], .box [.clo 96 [] [.lo 0 0, .lo 1 0, .lo 2 0, .lo 3 0]]]

theorem bobjs_map {B : Binds} {f : AV → AV} (h1 : ∀ n, f (iV n) = iV n) (h3 : f (.d (.sl (bindRows B))) = .d (.sl (bindRows B))) (h4 : f (.d (.map (dmI (ixM (B.map (·.1)))))) = .d (.map (dmI (ixM (B.map (·.1)))))) (h5 : f (.clo 96 [] [.lo 0 0, .lo 1 0, .lo 2 0, .lo 3 0]) = .clo 96 [] [.lo 0 0, .lo 1 0, .lo 2 0, .lo 3 0]) (left : Int) : (bobjs B left).map (mapOb f) = bobjs B left := by
  simp only [bobjs, mapOb, List.map_cons, List.map_nil, h1, h3, h4, h5]

def zBxS : Ob := .box [.d (.v (.int .i64 0)), .d (.v (.string ByteArray.empty)), .d (.v (.int .i64 0)), .d (.v (.slice none 0 0))]

theorem rowsMap_snoc (F : Tm → Tm) {l : List Tm} {k : Nat} {x : Tm} (h : l[k]? = some x) : Tm.rows ((l.take k).map F) ++ [[.v (.int .i64 (F x).k), .v (.string (F x).s), .v (.int .i64 (F x).n), .sl (Tm.rows (F x).l)]] = Tm.rows ((l.take (k + 1)).map F) := by
  rw [List.take_add_one, h]; simp [Tm.rows_eq, Tm.row]

set_option maxRecDepth 100000 in
theorem build_walk (Y : YP) (B : Binds) (M : Nat) (hS : Sub B M) (hBl : B.length ≤ 4000) : ∀ (N : Nat) (t : Tm) (left deep : Int), (fullS B M t).size ≤ N → t.fairR = true → 0 ≤ left → left ≤ 3000 → 1 ≤ deep → deep ≤ 200 →
    SCtr Try.prog Y 96 [t.av, iV deep, .lo 0 0, .lo 1 0, .lo 2 0, .lo 3 0] (bobjs B left) (.tup [(if (Tm.bldN (fullS B M t) left deep).1 then fullS B M t else zeroT).av, bV (Tm.bldN (fullS B M t) left deep).1]) (bobjs B (Tm.bldN (fullS B M t) left deep).2) := by
  intro N
  induction N with
  | zero => intro t _ _ h; have := Tm.size_eq (fullS B M t); omega
  | succ N ih =>
  intro t left deep hN hf hl0 hl1 hd0 hd1
  refine SCtr.of_R (pf := fun _ => .eff) tyOk mixed Try.func96 rfl (by kernel_rfl) (by kernel_rfl) (by simp [Try.ntmps96]) (by simp [bobjs]) fun w S φ hg => ?_
  have hφ : φ.length = 4 := hg.hs0.len
  have ret : ∀ {r : Bool} {q : Int}, Tm.bldN (fullS B M t) left deep = (r, q) → AV.tup [(if r then fullS B M t else zeroT).av, bV r] = .tup [(if (Tm.bldN (fullS B M t) left deep).1 then fullS B M t else zeroT).av, bV (Tm.bldN (fullS B M t) left deep).1] ∧ bobjs B q = bobjs B (Tm.bldN (fullS B M t) left deep).2 := fun e => by rw [e]; exact ⟨rfl, rfl⟩
  have keep : ∀ (q : Int) (o : List Ob), (bobjs B q).map (mapOb (sealT false 4 o 5)) = bobjs B q := fun q o => bobjs_map (fun _ => rfl) rfl rfl rfl q
  refine R_run hg.ok 1000 rfl rfl ?_
  -- the way from bound variable to bound variable
  refine R_cut2 (fun u : Tm => ([(1, iV deep), (2, .lo 0 0), (3, .lo 1 0), (4, .lo 2 0), (5, .lo 3 0), (6, .lo 4 0), (8, .lo 5 0)], bobjs B left ++ [boxR u, zBxS])) (fun u => u.fairR = true ∧ fullS B M t = fullS B M u ∧ (u.k = 1 → findB B u.n = none)) rfl ?_ ?_
  · refine R_loop (fun x : Nat × Tm => ([(1, iV deep), (2, .lo 0 0), (3, .lo 1 0), (4, .lo 2 0), (5, .lo 3 0), (6, .lo 4 0), (8, .lo 5 0)], bobjs B left ++ [boxR x.2, zBxS])) (fun x => x.2.fairR = true ∧ fullS B M t = fullS B M x.2 ∧ levT B x.1 x.2) (fun x => x.1) (M, t) ⟨hf, rfl, hS.lev t⟩ ⟨.refl _, .refl _, .refl _, .refl _, .refl _, .refl _, .refl _, trivial⟩ rfl ?_
    rintro ⟨m, u⟩ ⟨hu, hfu, hlu⟩
    simp only at hu hfu hlu
    refine R_run hg.ok 1000 rfl rfl ?_
    refine R_if rfl rfl (fun hk0 => ?_) (fun hk0 => ?_) <;> refine R_run hg.ok 1000 rfl rfl ?_
    · have hk : u.k = 1 := by simpa using hk0
      have hgi := getI_ix (B.map (·.1)) u.n
      rcases placeB_find B u.n with ⟨h1, h2⟩ | ⟨j, x, h1, h2, h3⟩
      · rw [show atI (B.map (·.1)) u.n 0 = placeB B u.n from rfl, if_pos h1] at hgi
        refine R_lookupDI hg.ok (ixM (B.map (·.1))) (ixM_iv _) rfl rfl rfl rfl rfl rfl (zv := .int .i64 0) (by kernel_rfl) (v := .tup [iV 0, bV false]) (by rw [hgi]; rfl) ?_
        refine R_run hg.ok 1000 rfl rfl ?_
        refine R_if rfl rfl (fun _ => ?_) (fun h => absurd h (by simp)) <;> refine R_run hg.ok 1000 rfl rfl ?_
        exact R_to u ⟨hu, hfu, fun _ => h2⟩ ⟨.refl _, .refl _, .refl _, .refl _, .refl _, .refl _, .refl _, trivial⟩ rfl
      · rw [show atI (B.map (·.1)) u.n 0 = placeB B u.n from rfl, h1, if_neg (by omega)] at hgi
        refine R_lookupDI hg.ok (ixM (B.map (·.1))) (ixM_iv _) rfl rfl rfl rfl rfl rfl (zv := .int .i64 0) (by kernel_rfl) (v := .tup [iV j, bV true]) (by rw [hgi]; rfl) ?_
        refine R_run hg.ok 1000 rfl rfl ?_
        refine R_if rfl rfl (fun h => absurd h (by simp)) (fun _ => ?_) <;> refine R_run hg.ok 1000 rfl rfl ?_
        refine R_index hg.ok rfl rfl rfl rfl rfl rfl (Int.natCast_nonneg _) (bindRows_get h2) rfl ?_
        refine R_run hg.ok 1000 rfl rfl ?_
        obtain ⟨q, rfl, hq⟩ := lev_find hS.fair hlu (occ_var hk) h3
        exact R_next (q, x) ⟨hS.fair _ (List.mem_of_getElem? h2), by rw [hfu]; exact hS.bound hu hk h3, hq⟩ (by simp only; omega) ⟨.refl _, .refl _, .refl _, .refl _, .refl _, .refl _, .refl _, trivial⟩ rfl
    · have hk : ¬ u.k = 1 := by simpa using hk0
      exact R_to u ⟨hu, hfu, fun h => absurd h hk⟩ ⟨.refl _, .refl _, .refl _, .refl _, .refl _, .refl _, .refl _, trivial⟩ rfl
  rintro u ⟨hu, hfu, hnu⟩
  have hhead := hS.head hu hnu
  have hc := Tm.bldN_eq (fullS B M t) left deep
  have hTl : (fullS B M t).l = u.l.map (fullS B M) := by rw [hfu, hhead]; rfl
  rw [hTl] at hc
  refine R_run hg.ok 1000 rfl rfl ?_
  rw [w64 (n := left - 1) (by omega) (by omega)]
  refine R_if rfl rfl (fun h1 => ?_) (fun h1 => ?_) <;> refine R_run hg.ok 1000 rfl rfl ?_
  · have h1 := of_decide_eq_true h1
    have e := ret (r := false) (q := left - 1) (by rw [hc, if_pos (.inl h1)])
    rw [← e.1, ← e.2]
    exact R_retS hg 4 5 (Nat.le_refl _) rfl rfl (keep _ _)
  have h1 := of_decide_eq_false h1
  refine R_if rfl rfl (fun h2 => ?_) (fun h2 => ?_) <;> refine R_run hg.ok 1000 rfl rfl ?_
  · have h2 := of_decide_eq_true h2
    have e := ret (r := false) (q := left - 1) (by rw [hc, if_pos (.inr h2)])
    rw [← e.1, ← e.2]
    exact R_retS hg 4 5 (Nat.le_refl _) rfl rfl (keep _ _)
  have h2 := of_decide_eq_false h2
  rw [if_neg (by omega)] at hc
  have hszT := Tm.size_eq (fullS B M t)
  rw [hTl] at hszT
  have hll := Tm.len_le_sizeL (u.l.map (fullS B M))
  rw [List.length_map] at hll
  refine R_ownB 6 3 4 rfl rfl rfl ?_
  refine R_loop (fun x : Nat × Int => ([(1, iV deep), (5, .lo 3 0), (8, .lo 5 0), (12, .lo 6 0), (46, .d (.sl (Tm.rows u.l))), (47, iV u.l.length), (48, iV x.1)], bobjs B x.2 ++ [boxR u, zBxS, .box [.d (.v (.int .i64 u.k)), .d (.v (.string u.s)), .d (.v (.int .i64 u.n)), .ow 7 x.1], .arr 4 x.1 (Tm.rows ((u.l.take x.1).map (fullS B M)))]))
    (fun x => x.1 ≤ u.l.length ∧ Tm.bldNL (u.l.map (fullS B M)) (left - 1) (deep + 1) = Tm.bldNL ((u.l.drop x.1).map (fullS B M)) x.2 (deep + 1) ∧ 0 ≤ x.2 ∧ x.2 + x.1 ≤ left - 1) (fun x => u.l.length - x.1) (0, left - 1) ⟨Nat.zero_le _, rfl, by simp only; omega, by simp only; omega⟩ ⟨.refl _, .refl _, .refl _, .refl _, .refl _, Ent.int (by rw [Tm.rows_length]), .refl _, trivial⟩ rfl ?_
  rintro ⟨k, q⟩ ⟨hk, hm, hq0, hq1⟩
  simp only at hk hm hq0 hq1
  refine R_run hg.ok 1000 rfl rfl ?_
  refine R_if rfl rfl (fun h => ?_) (fun h => ?_) <;> refine R_run hg.ok 1000 rfl rfl ?_
  · have hk1 : k < u.l.length := lt_dec h rfl
    have e1 : u.l[k]? = some u.l[k] := List.getElem?_eq_getElem hk1
    rw [List.drop_eq_getElem_cons hk1, List.map_cons, Tm.bldNL] at hm
    have hsm : (fullS B M u.l[k]).size ≤ Tm.sizeL (u.l.map (fullS B M)) := Tm.size_mem (List.mem_map_of_mem (List.getElem_mem hk1))
    refine R_index hg.ok rfl rfl rfl rfl rfl rfl (Int.natCast_nonneg _) (Tm.rows_get e1) rfl ?_
    refine R_run hg.ok 1000 rfl rfl ?_
    have hcall := ih u.l[k] q (deep + 1) (by omega) (Sub.kid_fair hu (List.getElem_mem hk1)) hq0 (by omega) (by omega) (by omega)
    have hbd := Tm.bldN_ok (fullS B M u.l[k]) q (deep + 1) hq0 (by omega)
    have hsz1 := Tm.size_eq (fullS B M u.l[k])
    generalize hrr : Tm.bldN (fullS B M u.l[k]) q (deep + 1) = rq at hcall hm hbd
    obtain ⟨r, q'⟩ := rq
    have hren : ∀ (n : Nat) (Z : Int), (bobjs B Z).map (renOb (rn [0, 1, 2, 3] n)) = bobjs B Z := fun n Z => by
      have e : (renOb (rn [0, 1, 2, 3] n)) = mapOb (renA (rn [0, 1, 2, 3] n)) := by funext o; cases o <;> simp [renOb, mapOb, renL_map]
      rw [e]; exact bobjs_map (fun _ => rfl) rfl rfl rfl Z
    rw [w64 (n := deep + 1) (by omega) (by omega)]
    refine R_callSO hg.ok hg.gup hg.wide hg.Y [0, 1, 2, 3] (bobjs B q' ++ [boxR u, zBxS, .box [.d (.v (.int .i64 u.k)), .d (.v (.string u.s)), .d (.v (.int .i64 u.n)), .ow 7 k], .arr 4 k (Tm.rows ((u.l.take k).map (fullS B M))), boxR u.l[k]]) hcall (fun _ => rfl) rfl rfl rfl rfl rfl (by rw [hren]; rfl) rfl (by rw [hren]; rfl) ?_
    cases r with
    | false =>
      refine R_run hg.ok 1000 rfl rfl ?_
      refine R_if rfl rfl (fun _ => ?_) (fun h => absurd h (by simp)) <;> refine R_run hg.ok 1000 rfl rfl ?_
      have e := ret (r := false) (q := q') (by rw [hc, hm]; simp)
      rw [← e.1, ← e.2]
      exact R_retS hg 4 5 (Nat.le_refl _) rfl rfl (keep _ _)
    | true =>
      refine R_run hg.ok 1000 rfl rfl ?_
      refine R_if rfl rfl (fun h => absurd h (by simp)) (fun _ => ?_) <;> refine R_run hg.ok 1000 rfl rfl ?_
      refine R_appendO hg.ok (Tm.rows ((u.l.take (k + 1)).map (fullS B M))) rfl rfl rfl rfl rfl rfl rfl rfl rfl (by simp) (by simp [one1]) (rowsMap_snoc (fullS B M) e1) (by rw [Tm.rows_length]; simp; omega) (by rw [Tm.rows_length]; simp; omega) ?_
      refine R_run hg.ok 1000 rfl rfl ?_
      refine R_dropO 8 (bobjs B q' ++ [boxR u, zBxS, .box [.d (.v (.int .i64 u.k)), .d (.v (.string u.s)), .d (.v (.int .i64 u.n)), .ow 7 (k + 1)], .arr 4 (k + 1) (Tm.rows ((u.l.take (k + 1)).map (fullS B M)))]) (by show φ.length ≤ _; omega) rfl (by show (bobjs B q').map _ ++ _ = _; rw [bobjs_map (fun _ => rfl) rfl rfl rfl]; rfl) ?_
      have hq' := hbd.2.1 rfl
      have hle := hbd.1.1 rfl
      simp only at hq'
      exact R_next (k + 1, q') ⟨hk1, by rw [hm]; simp, by simp only; omega, by simp only; omega⟩ (by simp only; omega) ⟨.refl _, .refl _, .refl _, .refl _, .refl _, .refl _, Ent.wrap (by simp only; omega) (by simp only; omega) (by simp only; omega), trivial⟩ rfl
  · have hk1 : u.l.length ≤ k := ge_dec h rfl
    rw [List.drop_eq_nil_of_le hk1] at hm
    have e := ret (r := true) (q := q) (by rw [hc, hm]; rfl)
    rw [← e.1, ← e.2]
    rw [List.take_of_length_le hk1]
    have hT : (if true = true then fullS B M t else zeroT) = .mk u.k u.s u.n (u.l.map (fullS B M)) := by simp only [if_true]; rw [hfu, hhead]
    rw [hT]
    refine R_retS hg 4 5 (Nat.le_refl _) rfl ?_ (keep q _)
    exact congrArg (fun x => AV.tup [x, bV true]) (sealT_term (a' := .d (.v (.int .i64 u.k))) (b' := .d (.v (.string u.s))) (c' := .d (.v (.int .i64 u.n))) rfl rfl rfl rfl rfl)
end Go.Proofs.Ytppghekipbnjhaa
