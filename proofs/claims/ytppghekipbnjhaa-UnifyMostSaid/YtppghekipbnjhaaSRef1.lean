import Derived.Test.YtppghekipbnjhaaSSame
namespace Go.Proofs.Ytppghekipbnjhaa
open Go PSL Go.Proofs

set_option maxRecDepth 100000 in
theorem refSize_ok (t : Tm) : t.size < 1000000000 → PCtr Try.prog 55 [t.av] (iV t.size) := by
  induction t using Tm.ind with
  | _ t ih =>
  intro hsz
  refine PCtr.of_R (pf := fun _ => .still) tyOk mixed Try.func55 rfl (by kernel_rfl) (by kernel_rfl) (by simp [Try.ntmps55]) fun w S hg => ?_
  refine R_run hg.ok 1000 rfl rfl ?_
  refine R_loop (fun x : Nat × Nat => ([(1, .lo 0 0), (3, iV x.2), (4, iV x.1)], [boxR t])) (fun x => x.1 ≤ t.l.length ∧ t.size = x.2 + Tm.sizeL (t.l.drop x.1)) (fun x => t.l.length - x.1) (0, 1) ⟨Nat.zero_le _, Tm.size_eq t⟩ ⟨.refl _, .refl _, .refl _, trivial⟩ rfl ?_
  rintro ⟨k, m⟩ ⟨hk, hm⟩
  simp only at hk hm
  have hl := Tm.len_le_sizeL t.l
  have hs := Tm.size_eq t
  refine R_run hg.ok 1000 rfl rfl ?_
  refine R_if rfl rfl (fun h => ?_) (fun h => ?_) <;> refine R_run hg.ok 1000 rfl rfl ?_
  · have hk1 : k < t.l.length := lt_dec h (by rw [Tm.rows_length])
    have e1 : t.l[k]? = some t.l[k] := List.getElem?_eq_getElem hk1
    rw [List.drop_eq_getElem_cons hk1, Tm.sizeL] at hm
    refine R_index hg.ok rfl rfl rfl rfl rfl rfl (Int.natCast_nonneg k) (Tm.rows_get e1) rfl ?_
    refine R_run hg.ok 1000 rfl rfl ?_
    refine R_call hg.ok (ih _ (List.getElem_mem hk1) (by omega)) rfl rfl rfl rfl rfl rfl ?_
    refine R_run hg.ok 1000 rfl rfl ?_
    exact R_next (k + 1, m + t.l[k].size) ⟨hk1, by simp only; omega⟩ (by simp only; omega) ⟨.refl _, Ent.wrap (by omega) (by omega) (by omega), Ent.wrap (by omega) (by omega) (by omega), trivial⟩ rfl
  · have hk1 : t.l.length ≤ k := ge_dec h (by rw [Tm.rows_length])
    refine R_ret hg 5 rfl rfl ?_
    rw [List.drop_eq_nil_of_le hk1, Tm.sizeL] at hm
    simp only [hm, Nat.add_zero]; rfl

set_option maxRecDepth 100000 in
theorem refDeep_ok (t : Tm) : t.size < 1000000000 → PCtr Try.prog 56 [t.av] (iV t.depth) := by
  induction t using Tm.ind with
  | _ t ih =>
  intro hsz
  refine PCtr.of_R (pf := fun _ => .still) tyOk mixed Try.func56 rfl (by kernel_rfl) (by kernel_rfl) (by simp [Try.ntmps56]) fun w S hg => ?_
  refine R_run hg.ok 1000 rfl rfl ?_
  refine R_loop (fun x : Nat × Nat => ([(1, .lo 0 0), (3, iV x.2), (4, iV x.1)], [boxR t])) (fun x => x.1 ≤ t.l.length ∧ Tm.depthL t.l = max x.2 (Tm.depthL (t.l.drop x.1))) (fun x => t.l.length - x.1) (0, 0) ⟨Nat.zero_le _, by simp⟩ ⟨.refl _, .refl _, .refl _, trivial⟩ rfl ?_
  rintro ⟨k, m⟩ ⟨hk, hm⟩
  simp only at hk hm
  have hl := Tm.len_le_sizeL t.l
  have hs := Tm.size_eq t
  have hd := Tm.depth_eq t
  have hds := Tm.depth_le_size t
  refine R_run hg.ok 1000 rfl rfl ?_
  refine R_if rfl rfl (fun h => ?_) (fun h => ?_) <;> refine R_run hg.ok 1000 rfl rfl ?_
  · have hk1 : k < t.l.length := lt_dec h (by rw [Tm.rows_length])
    have e1 : t.l[k]? = some t.l[k] := List.getElem?_eq_getElem hk1
    have hsm := Tm.size_mem (List.getElem_mem hk1)
    rw [List.drop_eq_getElem_cons hk1, Tm.depthL] at hm
    refine R_index hg.ok rfl rfl rfl rfl rfl rfl (Int.natCast_nonneg k) (Tm.rows_get e1) rfl ?_
    refine R_run hg.ok 1000 rfl rfl ?_
    refine R_call hg.ok (ih _ (List.getElem_mem hk1) (by omega)) rfl rfl rfl rfl rfl rfl ?_
    refine R_run hg.ok 1000 rfl rfl ?_
    refine R_if rfl rfl (fun h => ?_) (fun h => ?_) <;> refine R_run hg.ok 1000 rfl rfl ?_
    · have h := of_decide_eq_true h
      exact R_next (k + 1, t.l[k].depth) ⟨hk1, by simp only; omega⟩ (by simp only; omega) ⟨.refl _, .refl _, Ent.wrap (by omega) (by omega) (by omega), trivial⟩ rfl
    · have h := of_decide_eq_false h
      exact R_next (k + 1, m) ⟨hk1, by simp only; omega⟩ (by simp only; omega) ⟨.refl _, .refl _, Ent.wrap (by omega) (by omega) (by omega), trivial⟩ rfl
  · have hk1 : t.l.length ≤ k := ge_dec h (by rw [Tm.rows_length])
    refine R_ret hg 5 rfl rfl ?_
    rw [List.drop_eq_nil_of_le hk1, Tm.depthL] at hm
    rw [w64 (by omega) (by omega), hd, hm]; simp [iV]

set_option maxRecDepth 100000 in
theorem refSame_ok (a : Tm) : ∀ b, a.size < 1000000000 → PCtr Try.prog 19 [a.av, b.av] (bV (a.same b)) := by
  induction a using Tm.ind with
  | _ a ih =>
  intro b hsz
  refine PCtr.of_R (pf := fun _ => .still) tyOk mixed Try.func19 rfl (by kernel_rfl) (by kernel_rfl) (by simp [Try.ntmps19]) fun w S hg => ?_
  refine R_run hg.ok 1000 rfl rfl ?_
  iterate 4
    refine R_if rfl rfl (fun _ => ?_) (fun _ => ?_) <;> refine R_run hg.ok 1000 rfl rfl ?_
    · refine R_ret hg 5 rfl rfl ?_
      simp_all [Tm.same_eq, bV, Tm.rows_length]
      try exact Tm.sameL_len (by omega)
  refine R_loop (fun k : Nat => ([(2, .lo 0 0), (3, .lo 1 0), (5, iV k)], [boxR a, boxR b])) (fun k => k ≤ a.l.length ∧ a.l.length = b.l.length ∧ a.same b = Tm.sameL (a.l.drop k) (b.l.drop k)) (fun k => a.l.length - k) 0 ?_ ⟨.refl _, .refl _, .refl _, trivial⟩ rfl ?_
  · simp_all [Tm.same_eq, Tm.rows_length]
    omega
  rintro k ⟨hk0, hl, hk⟩
  have hszl := Tm.len_le_sizeL a.l
  have hsz2 := Tm.size_eq a
  refine R_run hg.ok 1000 rfl rfl ?_
  refine R_if rfl rfl (fun h => ?_) (fun h => ?_) <;> refine R_run hg.ok 1000 rfl rfl ?_
  · have hk1 := lt_dec (n := a.l.length) h (by rw [Tm.rows_length])
    have hk2 : k < b.l.length := by omega
    have e1 : a.l[k]? = some a.l[k] := List.getElem?_eq_getElem hk1
    have e2 : b.l[k]? = some b.l[k] := List.getElem?_eq_getElem hk2
    rw [List.drop_eq_getElem_cons hk1, List.drop_eq_getElem_cons hk2, Tm.sameL] at hk
    have hm := Tm.size_mem (List.getElem_mem hk1)
    refine R_index hg.ok rfl rfl rfl rfl rfl rfl (Int.natCast_nonneg k) (Tm.rows_get e1) rfl ?_
    refine R_run hg.ok 1000 rfl rfl ?_
    refine R_index hg.ok rfl rfl rfl rfl rfl rfl (Int.natCast_nonneg k) (Tm.rows_get e2) rfl ?_
    refine R_run hg.ok 1000 rfl rfl ?_
    refine R_call hg.ok (ih _ (List.getElem_mem hk1) b.l[k] (by omega)) rfl rfl rfl rfl rfl rfl ?_
    refine R_run hg.ok 1000 rfl rfl ?_
    refine R_if rfl rfl (fun h => ?_) (fun h => ?_) <;> refine R_run hg.ok 1000 rfl rfl ?_
    · refine R_ret hg 5 rfl rfl ?_
      rw [hk]; simp_all [bV]
    · refine R_next (k + 1) ⟨hk1, hl, ?_⟩ (by omega) ⟨.refl _, .refl _, Ent.wrap (by omega) (by omega) (by omega), trivial⟩ rfl
      rw [hk]; simp_all
  · refine R_ret hg 5 rfl rfl ?_
    have hk1 := ge_dec (n := a.l.length) h (by rw [Tm.rows_length])
    rw [hk, List.drop_eq_nil_of_le (by omega), List.drop_eq_nil_of_le (by omega)]; rfl

set_option maxRecDepth 100000 in
theorem fair_ok (t : Tm) : t.size < 1000000000 → (∀ x e, e ∈ t.els x → e.2.s.size < 1000000000) → PCtr Try.prog 54 [t.av] (bV t.fairR) := by
  induction t using Tm.ind with
  | _ t ih =>
  intro hsz hns
  have hn0 : t.s.size < 1000000000 := hns 0 (0, t) (by rw [Tm.els_eq]; simp)
  have hl := Tm.len_le_sizeL t.l
  have hs := Tm.size_eq t
  refine PCtr.of_R (pf := fun _ => .still) tyOk mixed Try.func54 rfl (by kernel_rfl) (by kernel_rfl) (by simp [Try.ntmps54]) fun w S hg => ?_
  refine R_run hg.ok 1000 rfl rfl ?_
  refine R_loop (fun k : Nat => ([(1, .lo 0 0), (3, iV k)], [boxR t])) (fun k => k ≤ t.s.size ∧ ∀ i (hi : i < t.s.size), i < k → byteOk t.s[i] = true) (fun k => t.s.size - k) 0 ⟨Nat.zero_le _, fun i _ h => absurd h (Nat.not_lt_zero _)⟩ ⟨.refl _, .refl _, trivial⟩ rfl ?_
  intro k hk
  refine R_run hg.ok 1000 rfl rfl ?_
  refine R_if rfl rfl (fun h => ?_) (fun h => ?_) <;> refine R_run hg.ok 1000 rfl rfl ?_
  · have hk1 := lt_dec (n := t.s.size) h rfl
    refine R_indexS hg.ok rfl rfl rfl rfl rfl (Int.natCast_nonneg k) (byte_at hk1) ?_
    refine R_run hg.ok 1000 rfl rfl ?_
    have bad : byteOk t.s[k] = false → t.fairR = false := fun h => by rw [Tm.fairR_eq, not_all_bytes hk1 h]; rfl
    refine R_if rfl rfl (fun h2 => ?_) (fun h2 => ?_) <;> refine R_run hg.ok 1000 rfl rfl ?_
    · refine R_ret hg 5 rfl rfl ?_
      rw [bad (by unfold byteOk; rw [h2]; rfl)]; rfl
    refine R_indexS hg.ok rfl rfl rfl rfl rfl (Int.natCast_nonneg k) (byte_at hk1) ?_
    refine R_run hg.ok 1000 rfl rfl ?_
    refine R_if rfl rfl (fun h3 => ?_) (fun h3 => ?_) <;> refine R_run hg.ok 1000 rfl rfl ?_
    · refine R_ret hg 5 rfl rfl ?_
      rw [bad (by unfold byteOk; rw [h3]; simp)]; rfl
    refine R_next (k + 1) ⟨hk1, fun i hi hik => ?_⟩ (by omega) ⟨.refl _, Ent.wrap (by omega) (by omega) (by omega), trivial⟩ rfl
    rcases Nat.lt_or_ge i k with h | h
    · exact hk.2 i hi h
    · have : i = k := by omega
      subst this
      unfold byteOk; rw [h2, h3]; rfl
  have hk1 := ge_dec (n := t.s.size) h rfl
  have hall : t.s.data.toList.all byteOk = true := all_bytes fun i hi => hk.2 i hi (by omega)
  refine R_loop (fun k : Nat => ([(1, .lo 0 0), (4, iV k)], [boxR t])) (fun k => k ≤ t.l.length ∧ Tm.fairRL t.l = Tm.fairRL (t.l.drop k)) (fun k => t.l.length - k) 0 ⟨Nat.zero_le _, rfl⟩ ⟨.refl _, .refl _, trivial⟩ rfl ?_
  rintro k ⟨hk, hm⟩
  refine R_run hg.ok 1000 rfl rfl ?_
  refine R_if rfl rfl (fun h => ?_) (fun h => ?_) <;> refine R_run hg.ok 1000 rfl rfl ?_
  · have hk1 : k < t.l.length := lt_dec h (by rw [Tm.rows_length])
    have e1 : t.l[k]? = some t.l[k] := List.getElem?_eq_getElem hk1
    have hsm := Tm.size_mem (List.getElem_mem hk1)
    rw [List.drop_eq_getElem_cons hk1, Tm.fairRL] at hm
    refine R_index hg.ok rfl rfl rfl rfl rfl rfl (Int.natCast_nonneg k) (Tm.rows_get e1) rfl ?_
    refine R_run hg.ok 1000 rfl rfl ?_
    refine R_call hg.ok (ih _ (List.getElem_mem hk1) (by omega) (fun x e he => hns (x - 1) e (by rw [Tm.els_eq]; exact List.mem_cons_of_mem _ (Tm.els_memL (List.getElem_mem hk1) (by rw [Int.sub_add_cancel]; exact he))))) rfl rfl rfl rfl rfl rfl ?_
    refine R_run hg.ok 1000 rfl rfl ?_
    refine R_if rfl rfl (fun h => ?_) (fun h => ?_) <;> refine R_run hg.ok 1000 rfl rfl ?_
    · refine R_ret hg 5 rfl rfl ?_
      rw [Tm.fairR_eq, hm]; simp_all [bV]
    · refine R_next (k + 1) ⟨hk1, ?_⟩ (by omega) ⟨.refl _, Ent.wrap (by omega) (by omega) (by omega), trivial⟩ rfl
      rw [hm]; simp_all
  have hk1 : t.l.length ≤ k := ge_dec h (by rw [Tm.rows_length])
  rw [List.drop_eq_nil_of_le hk1, Tm.fairRL] at hm
  iterate 12
    all_goals try (refine R_if rfl rfl (fun _ => ?_) (fun _ => ?_) <;> refine R_run hg.ok 1000 rfl rfl ?_)
  all_goals refine R_ret hg 5 rfl rfl ?_
  all_goals (rw [Tm.fairR_eq, hall, hm]; unfold Tm.kindR)
  all_goals (simp only [Tm.rows_length, beq_iff_eq, beq_eq_false_iff_ne, ne_eq, decide_eq_true_eq, decide_eq_false_iff_not] at *)
  all_goals (simp_all [bV])
  all_goals (intros; omega)

set_option maxRecDepth 100000 in
theorem refRight_ok (t : Tm) (hsz : t.size < 1000000000) (hns : ∀ x e, e ∈ t.els x → e.2.s.size < 1000000000) : PCtr Try.prog 18 [t.av] (bV t.rightB) := by
  refine PCtr.of_R (pf := fun _ => .still) tyOk mixed Try.func18 rfl (by kernel_rfl) (by kernel_rfl) (by simp [Try.ntmps18]) fun w S hg => ?_
  refine R_run hg.ok 1000 rfl rfl ?_
  refine R_call hg.ok (fair_ok t hsz hns) rfl rfl rfl rfl rfl rfl ?_
  refine R_run hg.ok 1000 rfl rfl ?_
  refine R_if rfl rfl (fun _ => ?_) (fun _ => ?_) <;> refine R_run hg.ok 1000 rfl rfl ?_
  · refine R_call hg.ok (refSize_ok t hsz) rfl rfl rfl rfl rfl rfl ?_
    refine R_run hg.ok 1000 rfl rfl ?_
    refine R_if rfl rfl (fun _ => ?_) (fun _ => ?_) <;> refine R_run hg.ok 1000 rfl rfl ?_
    · refine R_call hg.ok (refDeep_ok t hsz) rfl rfl rfl rfl rfl rfl ?_
      refine R_run hg.ok 1000 rfl rfl ?_
      refine R_ret hg 5 rfl rfl ?_
      simp only [decide_eq_true_eq] at *
      unfold Tm.rightB
      show bV _ = bV _
      congr 1
      rw [Bool.eq_iff_iff]
      simp_all
      omega
    · refine R_ret hg 5 rfl rfl ?_
      simp only [decide_eq_false_iff_not] at *
      unfold Tm.rightB
      simp_all [bV]
      intros; omega
  · refine R_ret hg 5 rfl rfl ?_
    unfold Tm.rightB
    simp_all [bV]

set_option maxRecDepth 100000 in
theorem few_ok (t : Tm) : t.Ok → ∀ m d : Int, PCtr Try.prog 31 [t.av, iV m, iV d] (iV (t.few m d)) := by
  induction t using Tm.ind with
  | _ t ih =>
  intro hok m d
  refine PCtr.of_R (pf := fun _ => .still) tyOk mixed Try.func31 rfl (by kernel_rfl) (by kernel_rfl) (by simp [Try.ntmps31]) fun w S hg => ?_
  refine R_run hg.ok 1000 rfl rfl ?_
  iterate 3
    refine R_if rfl rfl (fun _ => ?_) (fun _ => ?_) <;> refine R_run hg.ok 1000 rfl rfl ?_
    · refine R_ret hg 5 rfl rfl ?_
      rw [Tm.few_eq, if_pos (by simp_all [Tm.fewStep])]; rfl
  have hfs : Tm.fewStep t.s m d = false := by simp_all [Tm.fewStep]
  have hlen := hok.len
  refine R_loop (fun x : Nat × Int => ([(1, iV x.2), (2, iV d), (3, .lo 0 0), (7, iV x.1)], [boxR t])) (fun x => x.1 ≤ t.l.length ∧ t.few m d = Tm.fewL (t.l.drop x.1) x.2 (IntKind.i64.wrap (d - 1))) (fun x => t.l.length - x.1) (0, IntKind.i64.wrap (m - 1)) ⟨Nat.zero_le _, by rw [Tm.few_eq, hfs]; rfl⟩ ⟨.refl _, .refl _, .refl _, .refl _, trivial⟩ rfl ?_
  rintro ⟨k, q⟩ ⟨hk, hm⟩
  simp only at hk hm
  refine R_run hg.ok 1000 rfl rfl ?_
  refine R_if rfl rfl (fun h => ?_) (fun h => ?_) <;> refine R_run hg.ok 1000 rfl rfl ?_
  · have hk1 : k < t.l.length := lt_dec h (by rw [Tm.rows_length])
    have e1 : t.l[k]? = some t.l[k] := List.getElem?_eq_getElem hk1
    rw [List.drop_eq_getElem_cons hk1, Tm.fewL] at hm
    refine R_if rfl rfl (fun h2 => ?_) (fun h2 => ?_) <;> refine R_run hg.ok 1000 rfl rfl ?_
    · rw [if_pos (of_decide_eq_true h2)] at hm
      refine R_index hg.ok rfl rfl rfl rfl rfl rfl (Int.natCast_nonneg k) (Tm.rows_get e1) rfl ?_
      refine R_run hg.ok 1000 rfl rfl ?_
      refine R_call hg.ok (ih _ (List.getElem_mem hk1) (hok.sub (List.getElem_mem hk1)) _ _) rfl rfl rfl rfl rfl rfl ?_
      refine R_run hg.ok 1000 rfl rfl ?_
      exact R_next (k + 1, t.l[k].few q (IntKind.i64.wrap (d - 1))) ⟨hk1, hm⟩ (by simp only; omega) ⟨.refl _, .refl _, .refl _, Ent.wrap (by simp only; omega) (by simp only; omega) (by simp only; omega), trivial⟩ rfl
    · rw [if_neg (of_decide_eq_false h2)] at hm
      refine R_ret hg 5 rfl rfl ?_
      rw [hm]; rfl
  · have hk1 : t.l.length ≤ k := ge_dec h (by rw [Tm.rows_length])
    refine R_ret hg 5 rfl rfl ?_
    rw [List.drop_eq_nil_of_le hk1, Tm.fewL] at hm
    rw [hm]; rfl

set_option maxRecDepth 100000 in
theorem some_ok (l : List Tm) (hl : ∀ t ∈ l, t.Ok) (hlen : l.length < 4611686018427387904) : PCtr Try.prog 14 [.d (.sl (Tm.rows l))] (bV (Tm.someT l)) := by
  refine PCtr.of_R (pf := fun _ => .still) tyOk mixed Try.func14 rfl (by kernel_rfl) (by kernel_rfl) (by simp [Try.ntmps14]) fun w S hg => ?_
  refine R_run hg.ok 1000 rfl rfl ?_
  refine R_loop (fun x : Nat × Int => ([(0, .d (.sl (Tm.rows l))), (3, iV x.2), (4, iV x.1)], [])) (fun x => x.1 ≤ l.length ∧ Tm.fewL l 4000 200 = Tm.fewL (l.drop x.1) x.2 200) (fun x => l.length - x.1) (0, 4000) ⟨Nat.zero_le _, rfl⟩ ⟨.refl _, .refl _, .refl _, trivial⟩ rfl ?_
  rintro ⟨k, q⟩ ⟨hk, hm⟩
  simp only at hk hm
  refine R_run hg.ok 1000 rfl rfl ?_
  refine R_if rfl rfl (fun h => ?_) (fun h => ?_) <;> refine R_run hg.ok 1000 rfl rfl ?_
  · have hk1 : k < l.length := lt_dec h (by rw [Tm.rows_length])
    have e1 : l[k]? = some l[k] := List.getElem?_eq_getElem hk1
    rw [List.drop_eq_getElem_cons hk1, Tm.fewL] at hm
    refine R_if rfl rfl (fun h2 => ?_) (fun h2 => ?_) <;> refine R_run hg.ok 1000 rfl rfl ?_
    · rw [if_pos (of_decide_eq_true h2)] at hm
      refine R_index hg.ok rfl rfl rfl rfl rfl rfl (Int.natCast_nonneg k) (Tm.rows_get e1) rfl ?_
      refine R_run hg.ok 1000 rfl rfl ?_
      refine R_call hg.ok (few_ok _ (hl _ (List.getElem_mem hk1)) _ _) rfl rfl rfl rfl rfl rfl ?_
      refine R_run hg.ok 1000 rfl rfl ?_
      exact R_next (k + 1, l[k].few q 200) ⟨hk1, hm⟩ (by simp only; omega) ⟨.refl _, .refl _, Ent.wrap (by simp only; omega) (by simp only; omega) (by simp only; omega), trivial⟩ rfl
    · rw [if_neg (of_decide_eq_false h2)] at hm
      refine R_if rfl rfl (fun h3 => ?_) (fun h3 => ?_) <;> refine R_run hg.ok 1000 rfl rfl ?_
      · simp_all
      · refine R_ret hg 5 rfl rfl ?_
        unfold Tm.someT
        rw [hm]; simp_all [bV]
        try (intros; omega)
  · have hk1 : l.length ≤ k := ge_dec h (by rw [Tm.rows_length])
    rw [List.drop_eq_nil_of_le hk1, Tm.fewL] at hm
    refine R_if rfl rfl (fun h3 => ?_) (fun h3 => ?_) <;> refine R_run hg.ok 1000 rfl rfl ?_
    · refine R_ret hg 5 rfl rfl ?_
      unfold Tm.someT
      rw [hm]; simp_all [bV, Tm.rows_length]
    · refine R_ret hg 5 rfl rfl ?_
      unfold Tm.someT
      rw [hm]; simp_all [bV]
      try (intros; omega)

set_option maxRecDepth 100000 in
theorem sameAll_ok (a b : List Tm) (ha : Tm.sizeL a < 1000000000) : PCtr Try.prog 40 [.d (.sl (Tm.rows a)), .d (.sl (Tm.rows b))] (bV (Tm.sameL a b)) := by
  refine PCtr.of_R (pf := fun _ => .still) tyOk mixed Try.func40 rfl (by kernel_rfl) (by kernel_rfl) (by simp [Try.ntmps40]) fun w S hg => ?_
  refine R_run hg.ok 1000 rfl rfl ?_
  refine R_if rfl rfl (fun h => ?_) (fun h => ?_) <;> refine R_run hg.ok 1000 rfl rfl ?_
  · refine R_ret hg 5 rfl rfl ?_
    rw [Tm.sameL_len (by simp only [Tm.rows_length, bne_iff_ne, ne_eq] at h; omega)]; rfl
  have hl : a.length = b.length := by simp only [Tm.rows_length, bne_eq_false_iff_eq] at h; omega
  refine R_loop (fun k : Nat => ([(0, .d (.sl (Tm.rows a))), (1, .d (.sl (Tm.rows b))), (5, iV k)], [])) (fun k => k ≤ a.length ∧ Tm.sameL a b = Tm.sameL (a.drop k) (b.drop k)) (fun k => a.length - k) 0 ⟨Nat.zero_le _, rfl⟩ ⟨.refl _, .refl _, .refl _, trivial⟩ rfl ?_
  rintro k ⟨hk, hm⟩
  have hal := Tm.len_le_sizeL a
  refine R_run hg.ok 1000 rfl rfl ?_
  refine R_if rfl rfl (fun h => ?_) (fun h => ?_) <;> refine R_run hg.ok 1000 rfl rfl ?_
  · have hk1 : k < a.length := lt_dec h (by rw [Tm.rows_length])
    have hk2 : k < b.length := by omega
    have e1 : a[k]? = some a[k] := List.getElem?_eq_getElem hk1
    have e2 : b[k]? = some b[k] := List.getElem?_eq_getElem hk2
    have hsm := Tm.size_mem (List.getElem_mem hk1)
    rw [List.drop_eq_getElem_cons hk1, List.drop_eq_getElem_cons hk2, Tm.sameL] at hm
    refine R_index hg.ok rfl rfl rfl rfl rfl rfl (Int.natCast_nonneg k) (Tm.rows_get e1) rfl ?_
    refine R_run hg.ok 1000 rfl rfl ?_
    refine R_index hg.ok rfl rfl rfl rfl rfl rfl (Int.natCast_nonneg k) (Tm.rows_get e2) rfl ?_
    refine R_run hg.ok 1000 rfl rfl ?_
    refine R_call hg.ok (refSame_ok a[k] b[k] (by omega)) rfl rfl rfl rfl rfl rfl ?_
    refine R_run hg.ok 1000 rfl rfl ?_
    refine R_if rfl rfl (fun h => ?_) (fun h => ?_) <;> refine R_run hg.ok 1000 rfl rfl ?_
    · refine R_ret hg 5 rfl rfl ?_
      rw [hm]; simp_all [bV]
    · refine R_next (k + 1) ⟨hk1, ?_⟩ (by omega) ⟨.refl _, .refl _, Ent.wrap (by omega) (by omega) (by omega), trivial⟩ rfl
      rw [hm]; simp_all
  · have hk1 : a.length ≤ k := ge_dec h (by rw [Tm.rows_length])
    refine R_ret hg 5 rfl rfl ?_
    rw [hm, List.drop_eq_nil_of_le hk1, List.drop_eq_nil_of_le (by omega)]; rfl

set_option maxRecDepth 100000 in
theorem at_ok (l : List Int) (n : Int) (ha : l.length < 1000000000) : PCtr Try.prog 37 [.d (.sl (irows l)), iV n] (iV (atI l n 0)) := by
  refine PCtr.of_R (pf := fun _ => .still) tyOk mixed Try.func37 rfl (by kernel_rfl) (by kernel_rfl) (by simp [Try.ntmps37]) fun w S hg => ?_
  refine R_run hg.ok 1000 rfl rfl ?_
  refine R_loop (fun k : Nat => ([(0, .d (.sl (irows l))), (1, iV n), (5, iV k)], [])) (fun k => k ≤ l.length ∧ atI l n 0 = atI (l.drop k) n k) (fun k => l.length - k) 0 ⟨Nat.zero_le _, rfl⟩ ⟨.refl _, .refl _, .refl _, trivial⟩ rfl ?_
  rintro k ⟨hk, hm⟩
  refine R_run hg.ok 1000 rfl rfl ?_
  refine R_if rfl rfl (fun h => ?_) (fun h => ?_) <;> refine R_run hg.ok 1000 rfl rfl ?_
  · have hk1 : k < l.length := lt_dec h (by rw [irows_length])
    have e1 : l[k]? = some l[k] := List.getElem?_eq_getElem hk1
    rw [List.drop_eq_getElem_cons hk1, atI] at hm
    refine R_index hg.ok rfl rfl rfl rfl rfl rfl (Int.natCast_nonneg k) (irows_get e1) rfl ?_
    refine R_run hg.ok 1000 rfl rfl ?_
    refine R_if rfl rfl (fun h => ?_) (fun h => ?_) <;> refine R_run hg.ok 1000 rfl rfl ?_
    · refine R_ret hg 5 rfl rfl ?_
      rw [hm, if_pos (by simpa using h)]; rfl
    · refine R_next (k + 1) ⟨hk1, ?_⟩ (by omega) ⟨.refl _, .refl _, Ent.wrap (by omega) (by omega) (by omega), trivial⟩ rfl
      rw [hm, if_neg (by simpa using h)]; rfl
  · have hk1 : l.length ≤ k := ge_dec h (by rw [irows_length])
    refine R_ret hg 5 rfl rfl ?_
    rw [hm, List.drop_eq_nil_of_le hk1]; rfl
end Go.Proofs.Ytppghekipbnjhaa
