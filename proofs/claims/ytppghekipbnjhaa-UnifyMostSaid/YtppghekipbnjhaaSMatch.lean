import Derived.Test.YtppghekipbnjhaaSNumber
import Derived.Test.YtppghekipbnjhaaPlC
import Derived.Test.YtppghekipbnjhaaPlA
namespace Go.Proofs.Ytppghekipbnjhaa
open Go PSL Go.Proofs

theorem rowsSnoc {l : List Tm} {k : Nat} {x : Tm} (h : l[k]? = some x) : Tm.rows (l.take k) ++ [Tm.row x] = Tm.rows (l.take (k + 1)) := by
  rw [List.take_add_one, h]; simp [Tm.rows_eq]

set_option maxRecDepth 100000 in
theorem copied_ok (t : Tm) : t.size < 1000000000 → PCtr Try.prog 88 [t.av] t.av := by
  induction t using Tm.ind with
  | _ t ih =>
  intro hsz
  have hl := Tm.len_le_sizeL t.l
  have hs := Tm.size_eq t
  refine PCtr.of_R (pf := pfB) tyOk mixed Try.func88 rfl (by kernel_rfl) (by kernel_rfl) (by simp [Try.ntmps88]) fun w S hg => ?_
  refine R_run hg.ok 1000 rfl rfl ?_
  refine R_ownB 0 3 4 rfl rfl rfl ?_
  refine R_loop (fun k : Nat => ([(1, .lo 0 0), (2, .lo 1 0), (9, .d (.sl (Tm.rows t.l))), (10, iV t.l.length), (11, iV k)], [.box [.d (.v (.int .i64 t.k)), .d (.v (.string t.s)), .d (.v (.int .i64 t.n)), .ow 2 k], .box [.d (.v (.int .i64 0)), .d (.v (.string ByteArray.empty)), .d (.v (.int .i64 0)), .d (.v (.slice none 0 0))], .arr 4 k (Tm.rows (t.l.take k))]))
    (fun k => k ≤ t.l.length) (fun k => t.l.length - k) 0 (Nat.zero_le _) ⟨.refl _, .refl _, .refl _, Ent.int (by rw [Tm.rows_length]), .refl _, trivial⟩ rfl ?_
  intro k hk
  refine R_run hg.ok 1000 rfl rfl ?_
  refine R_if rfl rfl (fun h => ?_) (fun h => ?_) <;> refine R_run hg.ok 1000 rfl rfl ?_
  · have hk1 : k < t.l.length := lt_dec h rfl
    have e1 : t.l[k]? = some t.l[k] := List.getElem?_eq_getElem hk1
    have hm := Tm.size_mem (List.getElem_mem hk1)
    refine R_index hg.ok rfl rfl rfl rfl rfl rfl (Int.natCast_nonneg k) (Tm.rows_get e1) rfl ?_
    refine R_run hg.ok 1000 rfl rfl ?_
    refine R_call hg.ok (ih _ (List.getElem_mem hk1) (by omega)) rfl rfl rfl rfl rfl rfl ?_
    refine R_run hg.ok 1000 rfl rfl ?_
    refine R_appendO hg.ok _ rfl rfl rfl rfl rfl rfl rfl rfl rfl (by simp) (by simp [one1]) (rowsSnoc e1) (by rw [Tm.rows_length]; simp; omega) (by rw [Tm.rows_length]; simp; omega) ?_
    refine R_run hg.ok 1000 rfl rfl ?_
    refine R_drop 3 (Nat.zero_le _) rfl ?_
    exact R_next (k + 1) hk1 (by omega) ⟨.refl _, .refl _, .refl _, .refl _, Ent.wrap (by omega) (by omega) (by omega), trivial⟩ rfl
  · have hk1 : t.l.length ≤ k := ge_dec h rfl
    refine R_ret hg 5 rfl (sealA_term rfl rfl rfl rfl) ?_
    rw [List.take_of_length_le hk1]; rfl

/-- The cells of a match under way, and what they hold. -/
def mobjs (B : Binds) : List Ob := [.box [.mp 3], .box [.ow 4 B.length], .box [.clo 87 [] [.lo 0 0, .lo 1 0, .lo 2 0]], .map (imap (numM (B.map (·.1)) 0)), .arr 5 B.length (bindRows B)]

theorem mobjs_map {f : AV → AV} (h1 : ∀ n : Int, f (iV n) = iV n) (h2 : f (.mp 3) = .mp 3) (h3 : ∀ n, f (.ow 4 n) = .ow 4 n) (h4 : f (.clo 87 [] [.lo 0 0, .lo 1 0, .lo 2 0]) = .clo 87 [] [.lo 0 0, .lo 1 0, .lo 2 0]) (B : Binds) : (mobjs B).map (mapOb f) = mobjs B := by
  simp only [mobjs, List.map_cons, List.map_nil, mapOb_num h1]
  simp only [mapOb, List.map_cons, List.map_nil, h2, h3, h4]

theorem numM_map_snoc (B : Binds) (n : Int) (t : Tm) : numM (B.map (·.1)) 0 ++ [(n, iV (B.length : Int))] = numM ((B ++ [(n, t)]).map (·.1)) 0 := by
  have := numM_snoc (B.map (·.1)) 0 n
  simp only [List.length_map, Int.zero_add] at this
  rw [this]; simp

theorem bind_snoc (B : Binds) (n : Int) (t : Tm) : bindRows B ++ [[.v (.int .i64 n), .v (.int .i64 t.k), .v (.string t.s), .v (.int .i64 t.n), .sl (Tm.rows t.l)]] = bindRows (B ++ [(n, t)]) := by simp [bindRows, bindRow, Tm.row]

set_option maxRecDepth 100000 in
theorem fit_walk (Y : YP) (p : Tm) : ∀ (t : Tm) (B : Binds), p.size < 1000000000 → t.size < 1000000000 → (∀ b ∈ B, b.2.size < 1000000000) → B.length + p.size < 1000000000 → SCtr Try.prog Y 87 [p.av, t.av, .lo 0 0, .lo 1 0, .lo 2 0] (mobjs B) (bV (Tm.fitM p t B).1) (mobjs (Tm.fitM p t B).2) := by
  induction p using Tm.ind with
  | _ p ih =>
  intro t B hsz hst hB hBl
  have hl := Tm.len_le_sizeL p.l
  have hs := Tm.size_eq p
  have hc := Tm.fitM_eq p t B
  refine SCtr.of_R (pf := fun _ => .eff) tyOk mixed Try.func87 rfl (by kernel_rfl) (by kernel_rfl) (by simp [Try.ntmps87]) (by simp [mobjs]) fun w S φ hg => ?_
  have hφ : φ.length ≤ 5 := Nat.le_of_eq hg.hs0.len
  refine R_run hg.ok 1000 rfl rfl ?_
  have ret : ∀ {r : Bool} {Q : Binds}, Tm.fitM p t B = (r, Q) → bV r = bV (Tm.fitM p t B).1 ∧ mobjs Q = mobjs (Tm.fitM p t B).2 := fun e => by rw [e]; exact ⟨rfl, rfl⟩
  have keep : ∀ (Q : Binds) (o : List Ob), (mobjs Q).map (mapOb (sealT false 5 o 5)) = mobjs Q := fun Q o => mobjs_map (fun _ => rfl) rfl (fun _ => rfl) rfl Q
  refine R_if rfl rfl (fun h => ?_) (fun h => ?_) <;> refine R_run hg.ok 1000 rfl rfl ?_
  · have hk : p.k = 1 := by simpa using h
    rw [if_pos hk] at hc
    unfold addB at hc
    rcases placeB_find B p.n with ⟨h1, h2⟩ | ⟨k, x, h1, h2, h3⟩
    · simp only [h2] at hc
      have h1 : atI (B.map (·.1)) p.n 0 < 0 := h1
      refine R_lookupI hg.ok (numM (B.map (·.1)) 0) rfl rfl rfl rfl rfl rfl rfl (zv := .int .i64 0) (by kernel_rfl) (v := .tup [iV 0, bV false]) (by rw [getI_num _ _ _ (Int.le_refl _), if_pos h1]; rfl) ?_
      refine R_run hg.ok 1000 rfl rfl ?_
      refine R_if rfl rfl (fun h => absurd h (by simp)) (fun _ => ?_) <;> refine R_run hg.ok 1000 rfl rfl ?_
      refine R_lenO hg.ok rfl rfl rfl rfl rfl (n := B.length) (by rw [bindRows_len]) ?_
      refine R_run hg.ok 1000 rfl rfl ?_
      refine R_mapAddO hg.ok (numM (B.map (·.1)) 0) (numM (List.map (fun x : Int × Tm => x.1) (B ++ [(p.n, t)])) 0) rfl rfl rfl rfl rfl rfl rfl (by rw [getI_num _ _ _ (Int.le_refl _), if_pos h1]) rfl (numM_map_snoc B p.n t) ?_
      refine R_run hg.ok 1000 rfl rfl ?_
      refine R_appendO hg.ok (bindRows (B ++ [(p.n, t)])) rfl rfl rfl rfl rfl rfl rfl rfl rfl (by simp) (by simp [one1]) (bind_snoc _ _ _) (by simp [bindRows_len]; omega) (by simp [bindRows_len]; omega) ?_
      refine R_run hg.ok 1000 rfl rfl ?_
      have e := ret hc
      have e2 : mobjs (B ++ [(p.n, t)]) = [.box [.mp 3], .box [.ow 4 (Nat.succ B.length)], .box [.clo 87 [] [.lo 0 0, .lo 1 0, .lo 2 0]], .map (imap (numM ((B ++ [(p.n, t)]).map (·.1)) 0)), .arr 5 (Nat.succ B.length) (bindRows (B ++ [(p.n, t)]))] := by simp [mobjs]
      rw [← e.1, ← e.2]
      exact R_retS hg 5 5 (Nat.le_refl _) rfl rfl ((congrArg (List.map _) e2.symm).trans (keep _ _))
    · simp only [h3] at hc
      have h1 : atI (B.map (·.1)) p.n 0 = k := h1
      have hkl := (List.getElem?_eq_some_iff.1 h2).1
      have hx := hB _ (List.mem_of_getElem? h2)
      refine R_lookupI hg.ok (numM (B.map (·.1)) 0) rfl rfl rfl rfl rfl rfl rfl (zv := .int .i64 0) (by kernel_rfl) (v := .tup [iV k, bV true]) (by rw [getI_num _ _ _ (Int.le_refl _), h1, if_neg (by omega)]; rfl) ?_
      refine R_run hg.ok 1000 rfl rfl ?_
      refine R_if rfl rfl (fun _ => ?_) (fun h => absurd h (by simp)) <;> refine R_run hg.ok 1000 rfl rfl ?_
      refine R_indexO hg.ok rfl rfl rfl rfl rfl rfl rfl rfl rfl (Int.natCast_nonneg k) (by rw [bindRows_len]; simpa using hkl) ?_
      refine R_run hg.ok 1000 rfl rfl ?_
      refine R_loadE hg.ok rfl rfl rfl rfl rfl rfl (bindRows_get h2) rfl ?_
      refine R_run hg.ok 1000 rfl rfl ?_
      refine R_call hg.ok (same_ok x t hx) rfl rfl rfl rfl rfl rfl ?_
      refine R_run hg.ok 1000 rfl rfl ?_
      have e := ret hc
      rw [← e.1, ← e.2]
      exact R_retS hg 5 5 (Nat.le_refl _) rfl rfl (keep B _)
  have hk : ¬ p.k = 1 := by simpa using h
  rw [if_neg hk] at hc
  have bad : Tm.differ p t = true → Tm.fitM p t B = (false, B) := fun h => by rw [hc, if_pos h]
  refine R_if rfl rfl (fun h1 => ?_) (fun h1 => ?_) <;> refine R_run hg.ok 1000 rfl rfl ?_
  · have e := ret (bad (by have : ¬ p.k = t.k := (by simpa using h1); simp [Tm.differ, this]))
    rw [← e.1, ← e.2]
    exact R_retS hg 5 5 (Nat.le_refl _) rfl rfl (keep B _)
  refine R_if rfl rfl (fun h2 => ?_) (fun h2 => ?_) <;> refine R_run hg.ok 1000 rfl rfl ?_
  · have e := ret (bad (by have : ¬ p.n = t.n := (by simpa using h2); simp [Tm.differ, this]))
    rw [← e.1, ← e.2]
    exact R_retS hg 5 5 (Nat.le_refl _) rfl rfl (keep B _)
  refine R_if rfl rfl (fun h3 => ?_) (fun h3 => ?_) <;> refine R_run hg.ok 1000 rfl rfl ?_
  · have e := ret (bad (by simp only [Tm.differ, h3]; simp))
    rw [← e.1, ← e.2]
    exact R_retS hg 5 5 (Nat.le_refl _) rfl rfl (keep B _)
  refine R_if rfl rfl (fun h4 => ?_) (fun h4 => ?_) <;> refine R_run hg.ok 1000 rfl rfl ?_
  · have e := ret (bad (by simp only [Tm.rows_length] at h4; have : ¬ p.l.length = t.l.length := (by simp at h4; omega); simp [Tm.differ, this]))
    rw [← e.1, ← e.2]
    exact R_retS hg 5 5 (Nat.le_refl _) rfl rfl (keep B _)
  have hll : p.l.length = t.l.length := by simp only [Tm.rows_length] at h4; simp at h4; omega
  rw [if_neg (by simp only [Tm.differ, h3]; have a1 : p.k = t.k := (by simpa using h1); have a2 : p.n = t.n := (by simpa using h2); simp [a1, a2, hll])] at hc
  have hts := Tm.size_eq t
  refine R_loop (fun x : Nat × Binds => ([(4, .lo 2 0), (6, .lo 6 0), (71, .d (.sl (Tm.rows p.l))), (72, iV p.l.length), (73, iV x.1)], mobjs x.2 ++ [boxR p, boxR t])) (fun x => x.1 ≤ p.l.length ∧ Tm.fitM p t B = Tm.fitML (p.l.drop x.1) (t.l.drop x.1) x.2 ∧ x.2.length + Tm.sizeL (p.l.drop x.1) ≤ B.length + Tm.sizeL p.l ∧ ∀ b ∈ x.2, b.2.size < 1000000000) (fun x => p.l.length - x.1) (0, B) ⟨Nat.zero_le _, hc, Nat.le_refl _, hB⟩ ⟨.refl _, .refl _, .refl _, Ent.int (by rw [Tm.rows_length]), .refl _, trivial⟩ rfl ?_
  rintro ⟨k, Q⟩ ⟨hk0, hm, hQl, hQ⟩
  simp only at hk0 hm hQl hQ
  refine R_run hg.ok 1000 rfl rfl ?_
  refine R_if rfl rfl (fun h => ?_) (fun h => ?_) <;> refine R_run hg.ok 1000 rfl rfl ?_
  · have hk1 : k < p.l.length := lt_dec h rfl
    have hk2 : k < t.l.length := by omega
    have e1 : p.l[k]? = some p.l[k] := List.getElem?_eq_getElem hk1
    have e2 : t.l[k]? = some t.l[k] := List.getElem?_eq_getElem hk2
    rw [List.drop_eq_getElem_cons hk1, List.drop_eq_getElem_cons hk2, Tm.fitML] at hm
    rw [List.drop_eq_getElem_cons hk1, Tm.sizeL] at hQl
    have hsm := Tm.size_mem (List.getElem_mem hk1)
    have hsm2 := Tm.size_mem (List.getElem_mem hk2)
    refine R_index hg.ok rfl rfl rfl rfl rfl rfl (Int.natCast_nonneg k) (Tm.rows_get e1) rfl ?_
    refine R_run hg.ok 1000 rfl rfl ?_
    refine R_index hg.ok rfl rfl rfl rfl rfl rfl (Int.natCast_nonneg k) (Tm.rows_get e2) rfl ?_
    refine R_run hg.ok 1000 rfl rfl ?_
    have hcall := ih _ (List.getElem_mem hk1) t.l[k] Q (by omega) (by omega) hQ (by omega)
    have hgr := Tm.fitM_grow p.l[k] t.l[k] Q
    generalize hr : Tm.fitM p.l[k] t.l[k] Q = rq at hcall hm hgr
    obtain ⟨r, Q'⟩ := rq
    have hren : ∀ (n : Nat) (Z : Binds), (mobjs Z).map (renOb (rn [0, 1, 2, 3, 4] n)) = mobjs Z := fun n Z => by
      have e : (renOb (rn [0, 1, 2, 3, 4] n)) = mapOb (renA (rn [0, 1, 2, 3, 4] n)) := by funext o; cases o <;> simp [renOb, mapOb, renL_map]
      rw [e]; exact mobjs_map (fun _ => rfl) rfl (fun _ => rfl) rfl Z
    refine R_callSO hg.ok hg.gup hg.wide hg.Y [0, 1, 2, 3, 4] (mobjs Q' ++ [boxR p, boxR t, boxR p.l[k]]) hcall (fun _ => rfl) rfl rfl rfl rfl rfl (by rw [hren]; rfl) rfl (by rw [hren]; rfl) ?_
    refine R_run hg.ok 1000 rfl rfl ?_
    refine R_if rfl rfl (fun h => ?_) (fun h => ?_) <;> refine R_run hg.ok 1000 rfl rfl ?_
    · have hr0 : r = false := by simpa using h
      subst hr0
      have e := ret (r := false) (Q := Q') (by rw [hm]; simp)
      rw [← e.1, ← e.2]
      exact R_retS hg 5 5 (Nat.le_refl _) rfl rfl (keep Q' _)
    · have hr0 : r = true := by simpa using h
      subst hr0
      refine R_dropO 7 (mobjs Q' ++ [boxR p, boxR t]) (by show φ.length ≤ _; omega) rfl (by show (mobjs Q').map _ ++ _ = _; rw [mobjs_map (fun _ => rfl) rfl (fun _ => rfl) rfl]; rfl) ?_
      refine R_next (k + 1, Q') ⟨hk1, by rw [hm]; simp, ?_, fun b hb => ?_⟩ (by simp only; omega) ⟨.refl _, .refl _, .refl _, .refl _, Ent.wrap (by simp only; omega) (by simp only; omega) (by simp only; omega), trivial⟩ rfl
      · have := hgr.1; simp only at this ⊢; omega
      · rcases hgr.2 b hb with h | h
        · exact hQ b h
        · omega
  · have hk1 : p.l.length ≤ k := ge_dec h rfl
    have e := ret (r := true) (Q := Q) (by rw [hm, List.drop_eq_nil_of_le hk1, Tm.fitML]; simp)
    rw [← e.1, ← e.2]
    exact R_retS hg 5 5 (Nat.le_refl _) rfl rfl (keep Q _)
set_option maxRecDepth 100000 in
theorem match_ok (p t : Tm) (hp : p.size < 400000000) (ht : t.size < 400000000) (np : ∀ e ∈ p.els 1, e.2.s.size < 1000000000) (nt : ∀ e ∈ t.els 1, e.2.s.size < 1000000000) : PCtr Try.prog 60 [p.av, t.av] (.tup [.d (.sl (bindRows (matchT p t).1)), bV (matchT p t).2.1, iV (matchT p t).2.2]) := by
  refine PCtr.of_R (pf := fun _ => .still) tyOk mixed Try.func60 rfl (by kernel_rfl) (by kernel_rfl) (by simp [Try.ntmps60]) fun w S hg => ?_
  refine R_run hg.ok 1000 rfl rfl ?_
  refine R_call hg.ok (right_ok p (by omega) np) rfl rfl rfl rfl rfl rfl ?_
  refine R_run hg.ok 1000 rfl rfl ?_
  refine R_if rfl rfl (fun h1 => ?_) (fun h1 => ?_) <;> refine R_run hg.ok 1000 rfl rfl ?_
  · refine R_ret hg 5 rfl rfl ?_
    have h1 : rightT p = false := by simpa using h1
    simp only [matchT, h1, Bool.false_and]; rfl
  have h1 : rightT p = true := by simpa using h1
  refine R_call hg.ok (right_ok t (by omega) nt) rfl rfl rfl rfl rfl rfl ?_
  refine R_run hg.ok 1000 rfl rfl ?_
  refine R_if rfl rfl (fun h2 => ?_) (fun h2 => ?_) <;> refine R_run hg.ok 1000 rfl rfl ?_
  · refine R_ret hg 5 rfl rfl ?_
    have h2 : rightT t = false := by simpa using h2
    simp only [matchT, h1, h2, Bool.and_false]; rfl
  have h2 : rightT t = true := by simpa using h2
  have hm : matchT p t = if (Tm.fitM p t []).1 then ((Tm.fitM p t []).2, true, 0) else ([], false, 0) := by
    simp only [matchT, h1, h2, Bool.and_self, if_true]
  refine R_makeMap hg.ok rfl rfl ?_
  first
  | (refine R_run hg.ok 3 rfl rfl ?_; refine R_ownB 4 0 5 rfl rfl rfl ?_)
  | (refine R_run hg.ok 4 rfl rfl ?_; refine R_ownB 4 0 5 rfl rfl rfl ?_)
  | (refine R_run hg.ok 5 rfl rfl ?_; refine R_ownB 4 0 5 rfl rfl rfl ?_)
  | (refine R_run hg.ok 6 rfl rfl ?_; refine R_ownB 4 0 5 rfl rfl rfl ?_)
  | (refine R_run hg.ok 7 rfl rfl ?_; refine R_ownB 4 0 5 rfl rfl rfl ?_)
  | (refine R_run hg.ok 8 rfl rfl ?_; refine R_ownB 4 0 5 rfl rfl rfl ?_)
  | (refine R_run hg.ok 9 rfl rfl ?_; refine R_ownB 4 0 5 rfl rfl rfl ?_)
  | (refine R_run hg.ok 10 rfl rfl ?_; refine R_ownB 4 0 5 rfl rfl rfl ?_)
  | (refine R_run hg.ok 11 rfl rfl ?_; refine R_ownB 4 0 5 rfl rfl rfl ?_)
  | (refine R_run hg.ok 12 rfl rfl ?_; refine R_ownB 4 0 5 rfl rfl rfl ?_)
  refine R_run hg.ok 1000 rfl rfl ?_
  have hgr := Tm.fitM_grow p t []
  have hcall := fit_walk ⟨[], fun _ => true⟩ p t [] (by omega) (by omega) (by simp) (by simp; omega)
  generalize hF : Tm.fitM p t [] = F at hcall hm hgr
  obtain ⟨r, Q⟩ := F
  simp only [List.length_nil, Nat.zero_add] at hgr
  refine R_callSO hg.ok hg.gup ⟨rfl, rfl⟩ (fun _ _ _ _ h => by cases h) [3, 4, 6, 2, 5] [boxR p, boxR t, .map (imap (numM (Q.map (·.1)) 0)), .box [.mp 2], .box [.ow 5 Q.length], .arr 5 Q.length (bindRows Q), .box [.clo 87 [] [.lo 3 0, .lo 4 0, .lo 6 0]]] hcall (fun _ => rfl) rfl rfl rfl rfl rfl rfl rfl (by simp only [mobjs, List.map_cons, List.map_nil, renOb_num]; rfl) ?_
  refine R_run hg.ok 1000 rfl rfl ?_
  refine R_if rfl rfl (fun h => ?_) (fun h => ?_) <;> refine R_run hg.ok 1000 rfl rfl ?_
  · have hr : r = false := by simpa using h
    subst hr
    refine R_ret hg 5 rfl rfl ?_
    rw [hm]; rfl
  have hr : r = true := by simpa using h
  subst hr
  refine R_lenO hg.ok rfl rfl rfl rfl rfl (n := Q.length) (by rw [bindRows_len]) ?_
  refine R_run hg.ok 1000 rfl rfl ?_
  refine R_loop (fun k : Nat => ([(8, .lo 4 0), (27, iV Q.length), (28, iV k)], [boxR p, boxR t, .map (imap (numM (Q.map (·.1)) 0)), .box [.mp 2], .box [.ow 5 Q.length], .arr 5 Q.length (bindRows Q), .box [.clo 87 [] [.lo 3 0, .lo 4 0, .lo 6 0]]])) (fun k => k ≤ Q.length) (fun k => Q.length - k) 0 (Nat.zero_le _) ⟨.refl _, .refl _, .refl _, trivial⟩ rfl ?_
  intro k hk
  refine R_run hg.ok 1000 rfl rfl ?_
  refine R_if rfl rfl (fun h => ?_) (fun h => ?_) <;> refine R_run hg.ok 1000 rfl rfl ?_
  · have hk1 : k < Q.length := lt_dec h rfl
    have e1 : Q[k]? = some Q[k] := List.getElem?_eq_getElem hk1
    have hqs : Q[k].2.size < 1000000000 := by
      have := (hgr.2 _ (List.getElem_mem hk1)).resolve_left (by simp); omega
    have hset : (bindRows Q).set k (bindRow Q[k]) = bindRows Q := by
      refine List.ext_getElem (by simp) fun i h1 h2 => ?_
      rw [List.getElem_set]; split
      · rename_i e; subst e; simp [bindRows]
      · rfl
    refine R_indexO hg.ok rfl rfl rfl rfl rfl rfl rfl rfl rfl (Int.natCast_nonneg k) (by rw [bindRows_len]; simpa using hk1) ?_
    refine R_run hg.ok 1000 rfl rfl ?_
    refine R_loadE hg.ok rfl rfl rfl rfl rfl rfl (bindRows_get e1) rfl ?_
    refine R_run hg.ok 1000 rfl rfl ?_
    refine R_call hg.ok (copied_ok Q[k].2 hqs) rfl rfl rfl rfl rfl rfl ?_
    refine R_run hg.ok 1000 rfl rfl ?_
    refine R_indexO hg.ok rfl rfl rfl rfl rfl rfl rfl rfl rfl (Int.natCast_nonneg k) (by rw [bindRows_len]; simpa using hk1) ?_
    refine R_run hg.ok 1000 rfl rfl ?_
    refine R_storeEO hg.ok (bindRows Q) rfl rfl rfl rfl rfl (bindRows_get e1) rfl rfl rfl (by decide) hset ?_
    refine R_run hg.ok 1000 rfl rfl ?_
    exact R_next (k + 1) hk1 (by omega) ⟨.refl _, .refl _, Ent.wrap (by omega) (by omega) (by omega), trivial⟩ rfl
  · refine R_ret hg 5 rfl (sealA_tup (mapO_cons (sealA_ow rfl) rfl)) ?_
    rw [hm]; rfl

set_option maxRecDepth 100000 in
theorem instance_ok (t p : Tm) (hp : p.size < 400000000) (ht : t.size < 400000000) (np : ∀ e ∈ p.els 1, e.2.s.size < 1000000000) (nt : ∀ e ∈ t.els 1, e.2.s.size < 1000000000) : PCtr Try.prog 23 [t.av, p.av] (bV ((matchT p t).2.1 && (matchT p t).2.2 == 0)) := by
  refine PCtr.of_R (pf := fun _ => .still) tyOk mixed Try.func23 rfl (by kernel_rfl) (by kernel_rfl) (by simp [Try.ntmps23]) fun w S hg => ?_
  refine R_run hg.ok 1000 rfl rfl ?_
  refine R_call hg.ok (match_ok p t hp ht np nt) rfl rfl rfl rfl rfl rfl ?_
  refine R_run hg.ok 1000 rfl rfl ?_
  refine R_if rfl rfl (fun h1 => ?_) (fun h1 => ?_) <;> refine R_run hg.ok 1000 rfl rfl ?_
  · refine R_ret hg 5 rfl rfl ?_
    rw [h1]; rfl
  · refine R_ret hg 5 rfl rfl ?_
    rw [h1]; rfl
end Go.Proofs.Ytppghekipbnjhaa
