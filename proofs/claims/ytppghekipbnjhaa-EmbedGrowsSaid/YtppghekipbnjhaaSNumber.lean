import Derived.Test.YtppghekipbnjhaaSTurn
import Derived.Test.YtppghekipbnjhaaPlB
namespace Go.Proofs.Ytppghekipbnjhaa
open Go PSL Go.Proofs

theorem varsT_one_len (t : Tm) : (varsT [t]).length ≤ t.size := by
  have := varsF_len [t] []
  simpa [varsF, varsT, Tm.sizeL] using this

theorem addV_nodup {l : List Int} {x : Int} (h : l.Nodup) : (addV l x).Nodup := by
  unfold addV
  split
  · exact h
  · rename_i hc
    rw [List.nodup_append]
    refine ⟨h, by simp, fun a ha b hb => ?_⟩
    simp at hb; subst hb
    rintro rfl
    exact hc (by simpa using ha)
theorem foldl_nodup : ∀ (l : List (Int × Tm)) (a : List Int), a.Nodup → (l.foldl stepV a).Nodup
  | [], a, h => h
  | e :: l, a, h => by
    refine foldl_nodup l _ ?_
    unfold stepV; split
    · exact addV_nodup h
    · exact h
theorem varsF_nodup : ∀ (l : List Tm) (a : List Int), a.Nodup → (varsF a l).Nodup
  | [], a, h => h
  | t :: l, a, h => varsF_nodup l _ (foldl_nodup _ _ h)
theorem varsT_nodup (l : List Tm) : (varsT l).Nodup := varsF_nodup l [] (by simp)

theorem take_not_mem {l : List Int} (h : l.Nodup) {k : Nat} (hk : k < l.length) : l[k] ∉ l.take k := by
  intro hm
  obtain ⟨i, hi, e⟩ := List.mem_iff_getElem.1 hm
  rw [List.length_take] at hi
  rw [List.getElem_take] at e
  have := (List.nodup_iff_pairwise_ne.1 h)
  rw [List.pairwise_iff_getElem] at this
  exact this i k (by omega) hk (by omega) e

set_option maxRecDepth 100000 in
theorem number_ok (l : List Tm) (hsz : Tm.sizeL l < 1000000000) (hns : ∀ t ∈ l, ∀ e ∈ t.els 1, e.2.s.size < 1000000000) : PCtr Try.prog 25 [.d (.sl (Tm.rows l))] (.tup [.d (.sl (Tm.rows (numberT l).1)), iV (numberT l).2.1, iV (numberT l).2.2]) := by
  have hl := Tm.len_le_sizeL l
  have hvl : (varsT l).length ≤ Tm.sizeL l := by have := varsF_len l []; simpa [varsF, varsT] using this
  refine PCtr.of_R (pf := fun _ => .look 0) tyOk mixed Try.func25 rfl (by kernel_rfl) (by kernel_rfl) (by simp [Try.ntmps25]) fun w S hg => ?_
  refine R_run hg.ok 1000 rfl rfl ?_
  refine R_loop (fun k : Nat => ([(0, .d (.sl (Tm.rows l))), (13, .d (.sl (Tm.rows l))), (14, iV l.length), (15, iV k)], [])) (fun k => k ≤ l.length ∧ l.all rightT = (l.drop k).all rightT) (fun k => l.length - k) 0 ⟨Nat.zero_le _, rfl⟩ ⟨.refl _, .refl _, Ent.int (by rw [Tm.rows_length]), .refl _, trivial⟩ rfl ?_
  rintro k ⟨hk, hm⟩
  refine R_run hg.ok 1000 rfl rfl ?_
  refine R_if rfl rfl (fun h => ?_) (fun h => ?_) <;> refine R_run hg.ok 1000 rfl rfl ?_
  · have hk1 : k < l.length := lt_dec h rfl
    have e1 : l[k]? = some l[k] := List.getElem?_eq_getElem hk1
    have hsm := Tm.size_mem (List.getElem_mem hk1)
    rw [List.drop_eq_getElem_cons hk1, List.all_cons] at hm
    refine R_index hg.ok rfl rfl rfl rfl rfl rfl (Int.natCast_nonneg k) (Tm.rows_get e1) rfl ?_
    refine R_run hg.ok 1000 rfl rfl ?_
    refine R_call hg.ok (right_ok l[k] (by omega) (hns _ (List.getElem_mem hk1))) rfl rfl rfl rfl rfl rfl ?_
    refine R_run hg.ok 1000 rfl rfl ?_
    refine R_if rfl rfl (fun h => ?_) (fun h => ?_) <;> refine R_run hg.ok 1000 rfl rfl ?_
    · refine R_ret hg 5 rfl rfl ?_
      have h : rightT l[k] = false := by simpa using h
      simp only [numberT, hm, h, Bool.false_and]; rfl
    · have h : rightT l[k] = true := by simpa using h
      refine R_drop 0 (Nat.zero_le _) rfl ?_
      refine R_next (k + 1) ⟨hk1, by rw [hm, h, Bool.true_and]⟩ (by omega) ⟨.refl _, .refl _, .refl _, Ent.wrap (by omega) (by omega) (by omega), trivial⟩ rfl
  have hk1 : l.length ≤ k := ge_dec h rfl
  rw [List.drop_eq_nil_of_le hk1, List.all_nil] at hm
  refine R_makeMap hg.ok rfl rfl ?_
  refine R_run hg.ok 1000 rfl rfl ?_
  refine R_call hg.ok (vars_ok l hsz) rfl rfl rfl rfl rfl rfl ?_
  refine R_run hg.ok 1000 rfl rfl ?_
  have hnd := varsT_nodup l
  generalize hV : varsT l = V at *
  refine R_loop (fun k : Nat => ([(0, .d (.sl (Tm.rows l))), (7, .lo 1 0), (25, .d (.sl (irows V))), (26, iV V.length), (27, iV k)], [.map (imap (numM (V.take k) 0)), .box [.mp 0]])) (fun k => k ≤ V.length) (fun k => V.length - k) 0 (Nat.zero_le _) ⟨.refl _, .refl _, .refl _, Ent.int (by rw [irows_length]), .refl _, trivial⟩ rfl ?_
  intro k hk
  refine R_run hg.ok 1000 rfl rfl ?_
  refine R_if rfl rfl (fun h => ?_) (fun h => ?_) <;> refine R_run hg.ok 1000 rfl rfl ?_
  · have hk1 : k < V.length := lt_dec h rfl
    have e1 : V[k]? = some V[k] := List.getElem?_eq_getElem hk1
    refine R_index hg.ok rfl rfl rfl rfl rfl rfl (Int.natCast_nonneg k) (irows_get e1) rfl ?_
    refine R_run hg.ok 1000 rfl rfl ?_
    refine R_mapAddO hg.ok (numM (V.take k) 0) (numM (V.take (k + 1)) 0) rfl rfl rfl rfl rfl rfl rfl (by rw [getI_num _ _ _ (Int.le_refl _), atI_not_mem (take_not_mem hnd hk1)]; rfl) rfl (by rw [List.take_add_one, e1, Option.toList_some, ← numM_snoc, List.length_take, Nat.min_eq_left hk, Int.zero_add]; rfl) ?_
    refine R_run hg.ok 1000 rfl rfl ?_
    exact R_next (k + 1) hk1 (by omega) ⟨.refl _, .refl _, .refl _, .refl _, Ent.wrap (by omega) (by omega) (by omega), trivial⟩ rfl
  have hk1 : V.length ≤ k := ge_dec h rfl
  rw [List.take_of_length_le hk1]
  refine R_own 10 4 rfl rfl ?_
  refine R_loop (fun k : Nat => ([(7, .lo 1 0), (10, .ow 2 k), (36, .d (.sl (Tm.rows l))), (37, iV l.length), (38, iV k)], [.map (imap (numM V 0)), .box [.mp 0], .arr 4 k (Tm.rows (Tm.turnTL (placeG V) (l.take k)))])) (fun k => k ≤ l.length) (fun k => l.length - k) 0 (Nat.zero_le _) ⟨.refl _, .refl _, .refl _, Ent.int (by rw [Tm.rows_length]), .refl _, trivial⟩ rfl ?_
  intro k hk
  refine R_run hg.ok 1000 rfl rfl ?_
  refine R_if rfl rfl (fun h => ?_) (fun h => ?_) <;> refine R_run hg.ok 1000 rfl rfl ?_
  · have hk1 : k < l.length := lt_dec h rfl
    have e1 : l[k]? = some l[k] := List.getElem?_eq_getElem hk1
    have hsm := Tm.size_mem (List.getElem_mem hk1)
    refine R_index hg.ok rfl rfl rfl rfl rfl rfl (Int.natCast_nonneg k) (Tm.rows_get e1) rfl ?_
    refine R_run hg.ok 1000 rfl rfl ?_
    refine R_callL hg.ok hg.gup ⟨rfl, rfl⟩ (fun _ _ _ _ h => by cases h) [1, 0] (turnedN_ok ⟨[], fun _ => true⟩ V l[k] (by omega)) (fun _ => rfl) rfl rfl rfl rfl rfl (some2 (renOb_num _ _)) rfl (cong1 (renOb_num _ _)) ?_
    refine R_run hg.ok 1000 rfl rfl ?_
    refine R_appendO hg.ok _ rfl rfl rfl rfl rfl rfl rfl rfl rfl (by simp) (by simp [one1]) (turn_snoc e1) (by rw [Tm.rows_length, Tm.turnTL_map]; simp; omega) (by rw [Tm.rows_length, Tm.turnTL_map]; simp; omega) ?_
    refine R_run hg.ok 1000 rfl rfl ?_
    refine R_dropO 3 _ (Nat.zero_le _) rfl (cong1 (mapOb_num (fun _ => rfl) _ _)) ?_
    exact R_next (k + 1) hk1 (by omega) ⟨.refl _, .refl _, .refl _, .refl _, Ent.wrap (by omega) (by omega) (by omega), trivial⟩ rfl
  · have hk1 : l.length ≤ k := ge_dec h rfl
    refine R_ret hg 5 rfl (sealA_tup (mapO_cons (sealA_ow rfl) rfl)) ?_
    have hlen : (imap (numM V 0)).length = V.length := by simp [imap, numM_len]
    simp only [numberT, hV, hm, if_true, List.take_of_length_le hk1, hlen]; rfl
end Go.Proofs.Ytppghekipbnjhaa
