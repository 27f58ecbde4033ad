import Derived.Test.YtppghekipbnjhaaSVars
import Derived.Test.YtppghekipbnjhaaSBind
import Derived.Test.YtppghekipbnjhaaPlSubst2
import Derived.Test.YtppghekipbnjhaaPlArith
namespace Go.Proofs.Ytppghekipbnjhaa
open Go PSL Go.Proofs

set_option maxRecDepth 100000 in
theorem index_ok (B : Binds) (hl : B.length < 1000000000) : PCtr Try.prog 78 [.d (.sl (bindRows B))] (.d (.map (dmI (ixM (B.map (·.1)))))) := by
  refine PCtr.of_R (pf := fun _ => .eff) tyOk mixed Try.func78 rfl (by kernel_rfl) (by kernel_rfl) (by simp [Try.ntmps78]) fun w S hg => ?_
  refine R_run hg.ok 1000 rfl rfl ?_
  refine R_makeMap hg.ok rfl rfl ?_
  refine R_run hg.ok 1000 rfl rfl ?_
  refine R_loop (fun x : Nat × List (Int × AV) => ([(3, .mp 0), (9, .d (.sl (bindRows B))), (10, iV B.length), (11, iV x.1)], [.map (imap x.2)])) (fun x => x.1 ≤ B.length ∧ ixM (B.map (·.1)) = ixGo ((B.map (·.1)).drop x.1) x.1 x.2 ∧ ∀ p ∈ x.2, ∃ n, p.2 = iV n) (fun x => B.length - x.1) (0, []) ⟨Nat.zero_le _, rfl, by simp⟩ ⟨.refl _, .refl _, Ent.int (by rw [bindRows_len]), .refl _, trivial⟩ rfl ?_
  rintro ⟨k, A⟩ ⟨hk, hm, hA⟩
  simp only at hk hm hA
  refine R_run hg.ok 1000 rfl rfl ?_
  refine R_if rfl rfl (fun h => ?_) (fun h => ?_)
  rotate_left
  · have hk1 : B.length ≤ k := ge_dec h rfl
    rw [List.drop_eq_nil_of_le (by simpa using hk1), ixGo] at hm
    rw [hm]
    refine R_freezeM hg.gup 0 (dmI A) (Nat.zero_le _) (by rw [dmI_map hA]; rfl) rfl ?_
    refine R_run hg.ok 1000 rfl rfl ?_
    refine R_ret hg 5 rfl rfl ?_
    rfl
  refine R_run hg.ok 1000 rfl rfl ?_
  have hk1 : k < B.length := lt_dec h rfl
  have e1 : B[k]? = some B[k] := List.getElem?_eq_getElem hk1
  rw [List.drop_eq_getElem_cons (by simpa using hk1), List.getElem_map, ixGo] at hm
  refine R_index hg.ok rfl rfl rfl rfl rfl rfl (Int.natCast_nonneg _) (bindRows_get e1) rfl ?_
  refine R_run hg.ok 1000 rfl rfl ?_
  cases hf : getI A B[k].1 with
  | some x =>
    rw [hf] at hm
    refine R_lookupI hg.ok A rfl rfl rfl rfl rfl rfl rfl (zv := .int .i64 0) (by kernel_rfl) (v := .tup [x, bV true]) (by rw [hf]; rfl) ?_
    obtain ⟨n, rfl⟩ := getI_iv hA hf
    refine R_run hg.ok 1000 rfl rfl ?_
    refine R_if rfl rfl (fun h => absurd h (by simp)) (fun _ => ?_) <;> refine R_run hg.ok 1000 rfl rfl ?_
    refine R_dropO 1 [.map (imap A)] (Nat.zero_le _) rfl (by show [mapOb _ (.map (imap A))] = _; rw [mapOb_iv (fun _ => rfl) hA]) ?_
    exact R_next (k + 1, A) ⟨hk1, hm, hA⟩ (by simp only; omega) ⟨.refl _, .refl _, .refl _, Ent.wrap (by simp only; omega) (by simp only; omega) (by simp only; omega), trivial⟩ rfl
  | none =>
    rw [hf] at hm
    refine R_lookupI hg.ok A rfl rfl rfl rfl rfl rfl rfl (zv := .int .i64 0) (by kernel_rfl) (v := .tup [iV 0, bV false]) (by rw [hf]; rfl) ?_
    refine R_run hg.ok 1000 rfl rfl ?_
    refine R_if rfl rfl (fun _ => ?_) (fun h => absurd h (by simp)) <;> refine R_run hg.ok 1000 rfl rfl ?_
    refine R_mapAddO hg.ok A (A ++ [(B[k].1, iV k)]) rfl rfl rfl rfl rfl rfl rfl hf rfl rfl ?_
    refine R_run hg.ok 1000 rfl rfl ?_
    have hA' : ∀ p ∈ A ++ [(B[k].1, iV (k : Int))], ∃ n, p.2 = iV n := fun p hp => by
      rcases List.mem_append.1 hp with hp | hp
      · exact hA p hp
      · simp at hp; exact ⟨k, by rw [hp]⟩
    refine R_dropO 1 [.map (imap (A ++ [(B[k].1, iV k)]))] (Nat.zero_le _) rfl (by show [mapOb _ (.map (imap (A ++ [(B[k].1, iV k)])))] = _; rw [mapOb_iv (fun _ => rfl) hA']) ?_
    exact R_next (k + 1, A ++ [(B[k].1, iV k)]) ⟨hk1, hm, hA'⟩ (by simp only; omega) ⟨.refl _, .refl _, .refl _, Ent.wrap (by simp only; omega) (by simp only; omega) (by simp only; omega), trivial⟩ rfl

/-- What a walk through the binds turns: which were looked through. -/
def eobjs (B : Binds) (st : List Int) : List Ob := [.box [.ow 4 0], .box [.d (.sl (bindRows B))], .box [.d (.map (dmI (ixM (B.map (·.1)))))], .box [.clo 95 [] [.lo 0 0, .lo 1 0, .lo 2 0, .lo 3 0]], .arr 1 0 (irows st)]

theorem eobjs_map {B : Binds} {f : AV → AV} (h2 : f (.ow 4 0) = .ow 4 0) (h3 : f (.d (.sl (bindRows B))) = .d (.sl (bindRows B))) (h4 : f (.d (.map (dmI (ixM (B.map (·.1)))))) = .d (.map (dmI (ixM (B.map (·.1)))))) (h5 : f (.clo 95 [] [.lo 0 0, .lo 1 0, .lo 2 0, .lo 3 0]) = .clo 95 [] [.lo 0 0, .lo 1 0, .lo 2 0, .lo 3 0]) (st : List Int) : (eobjs B st).map (mapOb f) = eobjs B st := by
  simp only [eobjs, mapOb, List.map_cons, List.map_nil, h2, h3, h4, h5]

theorem getD_get {st : List Int} {i : Nat} (h : i < st.length) : st[i]? = some (st.getD i 0) := by
  rw [List.getElem?_eq_getElem h, List.getD_eq_getElem?_getD, List.getElem?_eq_getElem h]; rfl

set_option maxRecDepth 100000 in
theorem ends_walk (Y : YP) (B : Binds) (hB : ∀ b ∈ B, b.2.size < 400000000) (hBl : B.length < 1000000) : ∀ (f i : Nat) (st : List Int), i < B.length → st.length = B.length → zeros st < f → SCtr Try.prog Y 95 [iV i, .lo 0 0, .lo 1 0, .lo 2 0, .lo 3 0] (eobjs B st) (bV (dfsF (adjB B) f i st).1) (eobjs B (dfsF (adjB B) f i st).2) := by
  intro f
  induction f with
  | zero => intro i st _ _ h; omega
  | succ f ih =>
  intro i st hi hst hz
  have e1 : B[i]? = some B[i] := List.getElem?_eq_getElem hi
  have hsz := hB _ (List.getElem_mem hi)
  refine SCtr.of_R (pf := fun _ => .eff) tyOk mixed Try.func95 rfl (by kernel_rfl) (by kernel_rfl) (by simp [Try.ntmps95]) (by simp [eobjs]) fun w S φ hg => ?_
  have hφ : φ.length = 5 := hg.hs0.len
  have ret : ∀ {r : Bool} {Q : List Int}, dfsF (adjB B) (f + 1) i st = (r, Q) → bV r = bV (dfsF (adjB B) (f + 1) i st).1 ∧ eobjs B Q = eobjs B (dfsF (adjB B) (f + 1) i st).2 := fun e => by rw [e]; exact ⟨rfl, rfl⟩
  have keep : ∀ (Q : List Int) (o : List Ob), (eobjs B Q).map (mapOb (sealT false 5 o 5)) = eobjs B Q := fun Q o => eobjs_map rfl rfl rfl rfl Q
  have hget : ∀ {Q : List Int}, Q.length = B.length → (irows Q)[((i : Nat) : Int).toNat]? = some [.v (.int .i64 (Q.getD i 0))] := fun h => irows_get (getD_get (by omega))
  refine R_run hg.ok 1000 rfl rfl ?_
  refine R_indexO hg.ok rfl rfl rfl rfl rfl rfl rfl rfl rfl (Int.natCast_nonneg i) (by rw [irows_length]; simpa [hst] using hi) ?_
  refine R_run hg.ok 1000 rfl rfl ?_
  refine R_loadE hg.ok rfl rfl rfl rfl rfl rfl (hget hst) rfl ?_
  refine R_run hg.ok 1000 rfl rfl ?_
  refine R_if rfl rfl (fun h0 => ?_) (fun h0 => ?_) <;> refine R_run hg.ok 1000 rfl rfl ?_
  · have h0 : ¬ st.getD i 0 = 0 := by simpa using h0
    refine R_indexO hg.ok rfl rfl rfl rfl rfl rfl rfl rfl rfl (Int.natCast_nonneg i) (by rw [irows_length]; simpa [hst] using hi) ?_
    refine R_run hg.ok 1000 rfl rfl ?_
    refine R_loadE hg.ok rfl rfl rfl rfl rfl rfl (hget hst) rfl ?_
    refine R_run hg.ok 1000 rfl rfl ?_
    have e := ret (r := st.getD i 0 == 2) (Q := st) (by simp only [dfsF, if_pos h0]; congr 1)
    rw [← e.1, ← e.2]
    exact R_retS hg 5 5 (Nat.le_refl _) rfl rfl (keep st _)
  have h0 : st.getD i 0 = 0 := by simpa using h0
  have hdf : dfsF (adjB B) (f + 1) i st = if (dfsL (dfsF (adjB B) f) (adjB B i) (st.set i 1)).1 then (true, (dfsL (dfsF (adjB B) f) (adjB B i) (st.set i 1)).2.set i 2) else (false, (dfsL (dfsF (adjB B) f) (adjB B i) (st.set i 1)).2) := by
    simp only [dfsF]; rw [if_neg (by simpa using h0)]
  have hz1 := (zeros_set st i 1 (by omega)).2 (by omega) h0
  refine R_indexO hg.ok rfl rfl rfl rfl rfl rfl rfl rfl rfl (Int.natCast_nonneg i) (by rw [irows_length]; simpa [hst] using hi) ?_
  refine R_run hg.ok 1000 rfl rfl ?_
  refine R_storeEO hg.ok (irows (st.set i 1)) rfl rfl rfl rfl rfl (hget hst) rfl rfl rfl (by decide) irows_set ?_
  refine R_run hg.ok 1000 rfl rfl ?_
  refine R_index hg.ok rfl rfl rfl rfl rfl rfl (Int.natCast_nonneg i) (bindRows_get e1) rfl ?_
  refine R_run hg.ok 1000 rfl rfl ?_
  refine R_call hg.ok ((vars_ok [B[i].2] (by simp [Tm.sizeL]; omega)).one) rfl rfl rfl rfl rfl rfl ?_
  refine R_run hg.ok 1000 rfl rfl ?_
  have hvl : (varsT [B[i].2]).length ≤ Tm.sizeL [B[i].2] := by have := varsF_len [B[i].2] []; simpa [varsF, varsT] using this
  simp only [Tm.sizeL] at hvl
  rw [placesOf e1] at hdf
  generalize varsT [B[i].2] = V at hdf hvl ⊢
  refine R_loop (fun x : Nat × List Int => ([(0, iV i), (1, .lo 0 0), (3, .lo 2 0), (4, .lo 3 0), (30, .d (.sl (irows V))), (31, iV V.length), (32, iV x.1)], eobjs B x.2))
    (fun x => x.1 ≤ V.length ∧ dfsL (dfsF (adjB B) f) (V.filterMap fun v => if placeB B v < 0 then none else some (placeB B v).toNat) (st.set i 1) = dfsL (dfsF (adjB B) f) ((V.drop x.1).filterMap fun v => if placeB B v < 0 then none else some (placeB B v).toNat) x.2 ∧ x.2.length = B.length ∧ zeros x.2 ≤ zeros (st.set i 1)) (fun x => V.length - x.1) (0, st.set i 1)
    ⟨Nat.zero_le _, rfl, by simp [hst], Nat.le_refl _⟩ ⟨.refl _, .refl _, .refl _, .refl _, .refl _, Ent.int (by rw [irows_length]), .refl _, trivial⟩ rfl ?_
  rintro ⟨k, Q⟩ ⟨hk, hm, hQ, hzQ⟩
  simp only at hk hm hQ hzQ
  refine R_run hg.ok 1000 rfl rfl ?_
  refine R_if rfl rfl (fun h => ?_) (fun h => ?_) <;> refine R_run hg.ok 1000 rfl rfl ?_
  · have hk1 : k < V.length := lt_dec h rfl
    have e2 : V[k]? = some V[k] := List.getElem?_eq_getElem hk1
    rw [List.drop_eq_getElem_cons hk1, List.filterMap_cons] at hm
    refine R_index hg.ok rfl rfl rfl rfl rfl rfl (Int.natCast_nonneg _) (irows_get e2) rfl ?_
    refine R_run hg.ok 1000 rfl rfl ?_
    have hgi := getI_ix (B.map (·.1)) V[k]
    by_cases hp : placeB B V[k] < 0
    · rw [show atI (B.map (·.1)) V[k] 0 = placeB B V[k] from rfl, if_pos hp] at hgi
      rw [if_pos hp] at hm
      refine R_lookupDI hg.ok (ixM (B.map (·.1))) (ixM_iv _) rfl rfl rfl rfl rfl rfl (zv := .int .i64 0) (by kernel_rfl) (v := .tup [iV 0, bV false]) (by rw [hgi]; rfl) ?_
      refine R_run hg.ok 1000 rfl rfl ?_
      refine R_if rfl rfl (fun h => absurd h (by simp)) (fun _ => ?_) <;> refine R_run hg.ok 1000 rfl rfl ?_
      exact R_next (k + 1, Q) ⟨hk1, hm, hQ, hzQ⟩ (by simp only; omega) ⟨.refl _, .refl _, .refl _, .refl _, .refl _, .refl _, Ent.wrap (by simp only; omega) (by simp only; omega) (by simp only; omega), trivial⟩ rfl
    · rw [show atI (B.map (·.1)) V[k] 0 = placeB B V[k] from rfl, if_neg hp] at hgi
      rw [if_neg hp] at hm
      obtain ⟨j, hj, hjl⟩ : ∃ j : Nat, placeB B V[k] = j ∧ j < B.length := by
        rcases placeB_find B V[k] with ⟨h1, _⟩ | ⟨j, t, h1, h2, _⟩
        · exact absurd h1 hp
        · exact ⟨j, h1, (List.getElem?_eq_some_iff.1 h2).1⟩
      rw [hj] at hgi hm
      simp only [Int.toNat_natCast, dfsL] at hm
      refine R_lookupDI hg.ok (ixM (B.map (·.1))) (ixM_iv _) rfl rfl rfl rfl rfl rfl (zv := .int .i64 0) (by kernel_rfl) (v := .tup [iV j, bV true]) (by rw [hgi]; rfl) ?_
      refine R_run hg.ok 1000 rfl rfl ?_
      refine R_if rfl rfl (fun _ => ?_) (fun h => absurd h (by simp)) <;> refine R_run hg.ok 1000 rfl rfl ?_
      have hcall := ih j Q hjl hQ (by omega)
      have hsh := dfs_shape (adjB B) f j Q
      generalize hr : dfsF (adjB B) f j Q = rq at hcall hm hsh
      obtain ⟨r, Q'⟩ := rq
      have hren : ∀ (n : Nat) (Z : List Int), (eobjs B Z).map (renOb (rn [0, 1, 2, 3, 4] n)) = eobjs B Z := fun n Z => by
        have e : (renOb (rn [0, 1, 2, 3, 4] n)) = mapOb (renA (rn [0, 1, 2, 3, 4] n)) := by funext o; cases o <;> simp [renOb, mapOb, renL_map]
        rw [e]; exact eobjs_map rfl rfl rfl rfl Z
      refine R_callSO hg.ok hg.gup hg.wide hg.Y [0, 1, 2, 3, 4] (eobjs B Q') hcall (fun _ => rfl) rfl rfl rfl rfl rfl (by rw [hren]; rfl) rfl (by rw [hren]; rfl) ?_
      refine R_run hg.ok 1000 rfl rfl ?_
      refine R_if rfl rfl (fun h => ?_) (fun h => ?_) <;> refine R_run hg.ok 1000 rfl rfl ?_
      · have hr0 : r = false := by simpa using h
        subst hr0
        have e := ret (r := false) (Q := Q') (by rw [hdf, hm]; simp)
        rw [← e.1, ← e.2]
        exact R_retS hg 5 5 (Nat.le_refl _) rfl rfl (keep Q' _)
      · have hr0 : r = true := by simpa using h
        subst hr0
        refine R_next (k + 1, Q') ⟨hk1, by rw [hm]; simp, by rw [← hQ]; exact hsh.1, by have := hsh.2; simp only at this ⊢; omega⟩ (by simp only; omega) ⟨.refl _, .refl _, .refl _, .refl _, .refl _, .refl _, Ent.wrap (by simp only; omega) (by simp only; omega) (by simp only; omega), trivial⟩ rfl
  · have hk1 : V.length ≤ k := ge_dec h rfl
    rw [List.drop_eq_nil_of_le hk1] at hm
    refine R_indexO hg.ok rfl rfl rfl rfl rfl rfl rfl rfl rfl (Int.natCast_nonneg i) (by rw [irows_length]; simpa [hQ] using hi) ?_
    refine R_run hg.ok 1000 rfl rfl ?_
    refine R_storeEO hg.ok (irows (Q.set i 2)) rfl rfl rfl rfl rfl (hget hQ) rfl rfl rfl (by decide) irows_set ?_
    refine R_run hg.ok 1000 rfl rfl ?_
    have e := ret (r := true) (Q := Q.set i 2) (by rw [hdf, hm]; rfl)
    rw [← e.1, ← e.2]
    exact R_retS hg 5 5 (Nat.le_refl _) rfl rfl (keep (Q.set i 2) _)
end Go.Proofs.Ytppghekipbnjhaa
