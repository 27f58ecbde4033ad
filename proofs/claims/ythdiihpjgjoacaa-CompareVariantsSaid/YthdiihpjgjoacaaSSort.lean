import Derived.Test.YthdiihpjgjoacaaSCmp
import Derived.Test.YthdiihpjgjoacaaPlSort
import Derived.Test.YthdiihpjgjoacaaPlCut
namespace Go.Proofs.Ythdiihpjgjoacaa
open Go PSL Go.Proofs

/-- Terms that a walk bears. -/
def Bear (t : Tm) : Prop := t.size < 1000000000 ∧ ∀ x e, e ∈ t.els x → e.2.s.size < 1000000000

theorem rows_cons' (x : Tm) (l : List Tm) : Tm.rows (x :: l) = Tm.row x :: Tm.rows l := by simp [Tm.rows_eq]
theorem rows_app (a b : List Tm) : Tm.rows a ++ Tm.rows b = Tm.rows (a ++ b) := by simp [Tm.rows_eq]
theorem rows_take (a : List Tm) (n : Nat) : (Tm.rows a).take n = Tm.rows (a.take n) := by simp [Tm.rows_eq, List.map_take]
theorem rows_drop (a : List Tm) (n : Nat) : (Tm.rows a).drop n = Tm.rows (a.drop n) := by simp [Tm.rows_eq, List.map_drop]
theorem rowsz (l : List Tm) : ∀ r ∈ Tm.rows l, r.length = 4 := by
  intro r hr; rw [Tm.rows_eq] at hr; obtain ⟨t, _, rfl⟩ := List.mem_map.1 hr; rfl
theorem rows_snoc (o : List Tm) (x : Tm) : Tm.rows o ++ [[.v (.int .i64 x.k), .v (.string x.s), .v (.int .i64 x.n), .sl (Tm.rows x.l)]] = Tm.rows (o ++ [x]) := by
  cases x; simp [Tm.rows_eq, Tm.row]
theorem rows_one1 (l : List Tm) : ∀ r ∈ Tm.rows l, ∀ x ∈ r, one1 (.d x) = true := by
  intro r hr x hx
  rw [Tm.rows_eq] at hr
  obtain ⟨t, _, rfl⟩ := List.mem_map.1 hr
  simp [Tm.row] at hx
  rcases hx with rfl | rfl | rfl | rfl <;> rfl

set_option maxRecDepth 100000 in
theorem merged_ok (n : Nat) : ∀ (l : List Tm), l.length ≤ n → l.length < 1000000000 → (∀ t ∈ l, Bear t) → PCtr Try.prog 60 [.d (.sl (Tm.rows l)), .clo 54 [.agg []] []] (.d (.sl (Tm.rows (Tm.msort l)))) := by
  induction n using Nat.strongRecOn with
  | _ n ih =>
  intro l hn hlen hB
  refine PCtr.of_R (pf := pfB) tyOk mixed Try.func60 rfl (by kernel_rfl) (by kernel_rfl) (by simp [Try.ntmps60]) fun w S hg => ?_
  refine R_run hg.ok 1000 rfl rfl ?_
  refine R_if rfl rfl (fun h => ?_) (fun h => ?_) <;> refine R_run hg.ok 1000 rfl rfl ?_
  · have h := of_decide_eq_true h
    rw [Tm.rows_length] at h
    refine R_appendF hg.ok (rows := []) rfl rfl (.inl rfl) rfl (.inl rfl) rfl rfl rfl (by simp) (rowsz l) (by simp [Tm.rows_length]; omega) (by simp [Tm.rows_length]; omega) ?_
    refine R_run hg.ok 1000 rfl rfl ?_
    refine R_ret hg 5 rfl (sealA_ow rfl) ?_
    rw [Tm.msort_eq, if_pos (by omega)]; rfl
  have h := of_decide_eq_false h
  rw [Tm.rows_length] at h
  have hq : IntKind.i64.wrap ((l.length : Int).tdiv 2) = ((l.length / 2 : Nat) : Int) := by
    rw [Int.tdiv_eq_ediv_of_nonneg (by omega), w64 (by omega) (by omega)]; omega
  refine R_quo hg.ok rfl rfl rfl rfl (by decide) ?_
  rw [Tm.rows_length, hq]
  refine R_run hg.ok 1000 rfl rfl ?_
  refine R_sliceO hg.ok (Tm.rows (l.take (l.length / 2))) rfl rfl rfl rfl rfl rfl rfl (rowsz l) (by decide) (by omega) (by rw [Tm.rows_length]; omega) (by rw [← rows_take]; simp only [Int.toNat_natCast]; rfl) ?_
  refine R_run hg.ok 1000 rfl rfl ?_
  refine R_call hg.ok (ih (l.take (l.length / 2)).length (by rw [List.length_take]; omega) _ (Nat.le_refl _) (by rw [List.length_take]; omega) (fun t ht => hB t (List.mem_of_mem_take ht))) rfl rfl rfl rfl rfl rfl ?_
  refine R_run hg.ok 1000 rfl rfl ?_
  refine R_quo hg.ok rfl rfl rfl rfl (by decide) ?_
  rw [Tm.rows_length, hq]
  refine R_run hg.ok 1000 rfl rfl ?_
  refine R_sliceO hg.ok (Tm.rows (l.drop (l.length / 2))) rfl rfl rfl rfl rfl rfl rfl (rowsz l) (by omega) (by rw [Tm.rows_length]; omega) (Int.le_refl _) (by rw [← rows_drop, Tm.rows_length]; apply List.take_of_length_le; simp [Tm.rows_length]) ?_
  refine R_run hg.ok 1000 rfl rfl ?_
  refine R_call hg.ok (ih (l.drop (l.length / 2)).length (by rw [List.length_drop]; omega) _ (Nat.le_refl _) (by rw [List.length_drop]; omega) (fun t ht => hB t (List.mem_of_mem_drop ht))) rfl rfl rfl rfl rfl rfl ?_
  refine R_run hg.ok 1000 rfl rfl ?_
  have hms : Tm.msort l = Tm.mergeT (Tm.msort (l.take (l.length / 2))) (Tm.msort (l.drop (l.length / 2))) := by rw [Tm.msort_eq l, if_neg (by omega)]
  have hl1 := Tm.msort_len _ (l.take (l.length / 2)) (Nat.le_refl _)
  have hl2 := Tm.msort_len _ (l.drop (l.length / 2)) (Nat.le_refl _)
  have hB1 : ∀ t ∈ Tm.msort (l.take (l.length / 2)), Bear t := fun t ht => hB t (List.mem_of_mem_take (Tm.msort_mem _ _ (Nat.le_refl _) t ht))
  have hB2 : ∀ t ∈ Tm.msort (l.drop (l.length / 2)), Bear t := fun t ht => hB t (List.mem_of_mem_drop (Tm.msort_mem _ _ (Nat.le_refl _) t ht))
  rw [List.length_take] at hl1
  rw [List.length_drop] at hl2
  generalize Tm.msort (l.take (l.length / 2)) = A at *
  generalize Tm.msort (l.drop (l.length / 2)) = B at *
  refine R_own 7 4 rfl rfl ?_
  refine R_loop (fun x : List Tm × List Tm × List Tm × Nat => ([(1, .clo 54 [.agg []] []), (5, .d (.sl (Tm.rows x.2.1))), (6, .d (.sl (Tm.rows x.2.2.1))), (7, .ow 0 x.2.2.2)], [.arr 4 x.2.2.2 (Tm.rows x.1)])) (fun x => Tm.mergeT A B = x.1 ++ Tm.mergeT x.2.1 x.2.2.1 ∧ x.1.length + x.2.1.length + x.2.2.1.length ≤ l.length ∧ ∀ t ∈ x.2.1, Bear t) (fun x => x.2.1.length + x.2.2.1.length) ([], A, B, 0) ⟨rfl, by simp; omega, hB1⟩ ⟨.refl _, .refl _, .refl _, .refl _, trivial⟩ rfl ?_
  rintro ⟨o, a, b, s⟩ ⟨hm, hal, hBa⟩
  simp only at hm hal hBa
  refine R_run hg.ok 1000 rfl rfl ?_
  refine R_if rfl rfl (fun h => ?_) (fun h => ?_) <;> refine R_run hg.ok 1000 rfl rfl ?_
  · refine R_if rfl rfl (fun h2 => ?_) (fun h2 => ?_) <;> refine R_run hg.ok 1000 rfl rfl ?_
    · match a, b, h, h2 with
      | [], _, h, _ => simp [Tm.rows_eq] at h
      | _ :: _, [], _, h2 => simp [Tm.rows_eq] at h2
      | x :: a, y :: b, _, _ => ?_
      rw [Tm.mergeT_cons] at hm
      simp only [List.length_cons] at hal
      have hbx := hBa x List.mem_cons_self
      refine R_index hg.ok rfl rfl rfl rfl rfl rfl (Int.le_refl 0) (by rw [rows_cons']; rfl) rfl ?_
      refine R_run hg.ok 1000 rfl rfl ?_
      refine R_index hg.ok rfl rfl rfl rfl rfl rfl (Int.le_refl 0) (by rw [rows_cons']; rfl) rfl ?_
      refine R_run hg.ok 1000 rfl rfl ?_
      refine R_call hg.ok (order_ok x y hbx.1 hbx.2) rfl rfl rfl rfl rfl rfl ?_
      refine R_run hg.ok 1000 rfl rfl ?_
      refine R_if rfl rfl (fun h3 => ?_) (fun h3 => ?_) <;> refine R_run hg.ok 1000 rfl rfl ?_
      · rw [if_pos (of_decide_eq_true h3)] at hm
        refine R_index hg.ok rfl rfl rfl rfl rfl rfl (Int.le_refl 0) (by rw [rows_cons']; rfl) rfl ?_
        refine R_run hg.ok 1000 rfl rfl ?_
        refine R_appendO hg.ok (Tm.rows (o ++ [x])) rfl rfl rfl rfl rfl rfl rfl rfl rfl (by simp) (by simp [one1]) (rows_snoc _ _) (by rw [Tm.rows_length]; simp; omega) (by rw [Tm.rows_length]; simp; omega) ?_
        refine R_run hg.ok 1000 rfl rfl ?_
        refine R_sliceO hg.ok (Tm.rows a) rfl rfl rfl rfl rfl rfl rfl (rowsz (x :: a)) (by decide) (by rw [Tm.rows_length]; simp only [List.length_cons]; omega) (Int.le_refl _) (by rw [rows_cons']; simp) ?_
        refine R_run hg.ok 1000 rfl rfl ?_
        exact R_next (o ++ [x], a, y :: b, s + 1) ⟨by rw [hm]; simp, by simp; omega, fun t ht => hBa t (List.mem_cons_of_mem _ ht)⟩ (by simp only [List.length_cons]; omega) ⟨.refl _, .refl _, .refl _, .refl _, trivial⟩ rfl
      rw [if_neg (of_decide_eq_false h3)] at hm
      refine R_if rfl rfl (fun h4 => ?_) (fun h4 => ?_) <;> refine R_run hg.ok 1000 rfl rfl ?_
      · rw [if_pos (of_decide_eq_true h4)] at hm
        refine R_index hg.ok rfl rfl rfl rfl rfl rfl (Int.le_refl 0) (by rw [rows_cons']; rfl) rfl ?_
        refine R_run hg.ok 1000 rfl rfl ?_
        refine R_appendO hg.ok (Tm.rows (o ++ [y])) rfl rfl rfl rfl rfl rfl rfl rfl rfl (by simp) (by simp [one1]) (rows_snoc _ _) (by rw [Tm.rows_length]; simp; omega) (by rw [Tm.rows_length]; simp; omega) ?_
        refine R_run hg.ok 1000 rfl rfl ?_
        refine R_sliceO hg.ok (Tm.rows b) rfl rfl rfl rfl rfl rfl rfl (rowsz (y :: b)) (by decide) (by rw [Tm.rows_length]; simp only [List.length_cons]; omega) (Int.le_refl _) (by rw [rows_cons']; simp) ?_
        refine R_run hg.ok 1000 rfl rfl ?_
        exact R_next (o ++ [y], x :: a, b, s + 1) ⟨by rw [hm]; simp, by simp; omega, hBa⟩ (by simp only [List.length_cons]; omega) ⟨.refl _, .refl _, .refl _, .refl _, trivial⟩ rfl
      · rw [if_neg (of_decide_eq_false h4)] at hm
        refine R_sliceO hg.ok (Tm.rows b) rfl rfl rfl rfl rfl rfl rfl (rowsz (y :: b)) (by decide) (by rw [Tm.rows_length]; simp only [List.length_cons]; omega) (Int.le_refl _) (by rw [rows_cons']; simp) ?_
        refine R_run hg.ok 1000 rfl rfl ?_
        exact R_next (o, x :: a, b, s) ⟨hm, by simp; omega, hBa⟩ (by simp only [List.length_cons]; omega) ⟨.refl _, .refl _, .refl _, .refl _, trivial⟩ rfl
    · have hb0 : b = [] := by simpa [Tm.rows_length] using h2
      subst hb0
      refine R_appendO hg.ok (Tm.rows (o ++ a)) rfl rfl rfl rfl rfl rfl rfl rfl rfl (rowsz a) (rows_one1 a) (rows_app _ _) (by simp only [Tm.rows_length]; omega) (by simp only [Tm.rows_length]; omega) ?_
      refine R_run hg.ok 1000 rfl rfl ?_
      refine R_appendO hg.ok (Tm.rows (o ++ a)) rfl rfl rfl rfl rfl rfl rfl rfl rfl (by simp [Tm.rows_eq]) (by simp [Tm.rows_eq]) (by simp [Tm.rows_eq]) (by simp only [Tm.rows_length, List.length_append]; omega) (by simp only [Tm.rows_length, List.length_append]; omega) ?_
      refine R_run hg.ok 1000 rfl rfl ?_
      refine R_ret hg 5 rfl (sealA_ow rfl) ?_
      rw [hms, hm, Tm.mergeT_nil]
  · have ha0 : a = [] := by simpa [Tm.rows_length] using h
    subst ha0
    refine R_appendO hg.ok (Tm.rows o) rfl rfl rfl rfl rfl rfl rfl rfl rfl (by simp [Tm.rows_eq]) (by simp [Tm.rows_eq]) (by simp [Tm.rows_eq]) (by simp only [Tm.rows_length]; omega) (by simp only [Tm.rows_length]; omega) ?_
    refine R_run hg.ok 1000 rfl rfl ?_
    refine R_appendO hg.ok (Tm.rows (o ++ b)) rfl rfl rfl rfl rfl rfl rfl rfl rfl (rowsz b) (rows_one1 b) (rows_app _ _) (by simp only [Tm.rows_length]; omega) (by simp only [Tm.rows_length]; omega) ?_
    refine R_run hg.ok 1000 rfl rfl ?_
    refine R_ret hg 5 rfl (sealA_ow rfl) ?_
    rw [hms, hm]; simp [Tm.mergeT]

/-- What Sort answers. -/
def sortT (l : List Tm) : List Tm × Int := if l.all rightT then (Tm.msort l, 0) else ([], 1)

set_option maxRecDepth 100000 in
theorem sort_ok (l : List Tm) (hlen : l.length < 1000000000) (hB : ∀ t ∈ l, Bear t) : PCtr Try.prog 21 [.d (.sl (Tm.rows l))] (.tup [.d (.sl (Tm.rows (sortT l).1)), iV (sortT l).2]) := by
  refine PCtr.of_R (pf := fun _ => .still) tyOk mixed Try.func21 rfl (by kernel_rfl) (by kernel_rfl) (by simp [Try.ntmps21]) fun w S hg => ?_
  refine R_run hg.ok 1000 rfl rfl ?_
  refine R_loop (fun k : Nat => ([(0, .d (.sl (Tm.rows l))), (7, .d (.sl (Tm.rows l))), (8, iV l.length), (9, iV k)], [])) (fun k => k ≤ l.length ∧ l.all rightT = (l.drop k).all rightT) (fun k => l.length - k) 0 ⟨Nat.zero_le _, rfl⟩ ⟨.refl _, .refl _, Ent.int (by rw [Tm.rows_length]), .refl _, trivial⟩ rfl ?_
  rintro k ⟨hk, hm⟩
  refine R_run hg.ok 1000 rfl rfl ?_
  refine R_if rfl rfl (fun h => ?_) (fun h => ?_) <;> refine R_run hg.ok 1000 rfl rfl ?_
  · have hk1 : k < l.length := lt_dec h rfl
    have e1 : l[k]? = some l[k] := List.getElem?_eq_getElem hk1
    have hb := hB _ (List.getElem_mem hk1)
    rw [List.drop_eq_getElem_cons hk1, List.all_cons] at hm
    refine R_index hg.ok rfl rfl rfl rfl rfl rfl (Int.natCast_nonneg k) (Tm.rows_get e1) rfl ?_
    refine R_run hg.ok 1000 rfl rfl ?_
    refine R_call hg.ok (right_ok l[k] hb.1 (hb.2 1)) rfl rfl rfl rfl rfl rfl ?_
    refine R_run hg.ok 1000 rfl rfl ?_
    refine R_if rfl rfl (fun h => ?_) (fun h => ?_) <;> refine R_run hg.ok 1000 rfl rfl ?_
    · refine R_ret hg 5 rfl rfl ?_
      have h : rightT l[k] = false := by simpa using h
      simp only [sortT, hm, h, Bool.false_and]; rfl
    · have h : rightT l[k] = true := by simpa using h
      refine R_drop 0 (Nat.zero_le _) rfl ?_
      exact R_next (k + 1) ⟨hk1, by rw [hm, h, Bool.true_and]⟩ (by omega) ⟨.refl _, .refl _, .refl _, Ent.wrap (by omega) (by omega) (by omega), trivial⟩ rfl
  · have hk1 : l.length ≤ k := ge_dec h rfl
    rw [List.drop_eq_nil_of_le hk1, List.all_nil] at hm
    refine R_call hg.ok (merged_ok _ l (Nat.le_refl _) hlen hB) rfl rfl rfl rfl rfl rfl ?_
    refine R_run hg.ok 1000 rfl rfl ?_
    refine R_ret hg 5 rfl rfl ?_
    simp only [sortT, hm, if_true]; rfl

theorem insR_split {x : Tm} {o : List Tm} {k : Nat} (hk : k < o.length) : Tm.insR x (o.drop k) = if Tm.cmpR o[k] x < 0 then o[k] :: Tm.insR x (o.drop (k + 1)) else if Tm.cmpR o[k] x = 0 then o.drop k else x :: o.drop k := by
  rw [List.drop_eq_getElem_cons hk, Tm.insR]

set_option maxRecDepth 100000 in
theorem refSort_ok (l : List Tm) (hlen : l.length < 1000000000) (hB : ∀ t ∈ l, Bear t) : PCtr Try.prog 23 [.d (.sl (Tm.rows l))] (.d (.sl (Tm.rows (Tm.sortFrom [] l)))) := by
  refine PCtr.of_R (pf := pfB) tyOk mixed Try.func23 rfl (by kernel_rfl) (by kernel_rfl) (by simp [Try.ntmps23]) fun w S hg => ?_
  refine R_run hg.ok 1000 rfl rfl ?_
  refine R_loop (fun x : Nat × List Tm => ([(0, .d (.sl (Tm.rows l))), (3, .d (.sl (Tm.rows x.2))), (4, iV x.1)], [])) (fun x => x.1 ≤ l.length ∧ Tm.sortFrom [] l = Tm.sortFrom x.2 (l.drop x.1) ∧ x.2.length ≤ x.1 ∧ ∀ t ∈ x.2, t ∈ l) (fun x => l.length - x.1) (0, []) ⟨Nat.zero_le _, rfl, Nat.le_refl _, by simp⟩ ⟨.refl _, .nil, .refl _, trivial⟩ rfl ?_
  rintro ⟨k, o⟩ ⟨hk, hm, hol, hom⟩
  simp only at hk hm hol hom
  refine R_run hg.ok 1000 rfl rfl ?_
  refine R_if rfl rfl (fun h => ?_) (fun h => ?_) <;> refine R_run hg.ok 1000 rfl rfl ?_
  · have hk1 : k < l.length := lt_dec h (by rw [Tm.rows_length])
    have e1 : l[k]? = some l[k] := List.getElem?_eq_getElem hk1
    rw [List.drop_eq_getElem_cons hk1] at hm
    have hm : Tm.sortFrom [] l = Tm.sortFrom (Tm.insR l[k] o) (l.drop (k + 1)) := hm
    have hil := Tm.insR_len l[k] o
    have him : ∀ t ∈ Tm.insR l[k] o, t ∈ l := fun t ht => (Tm.insR_mem _ _ _ ht).elim (fun e => e ▸ List.getElem_mem hk1) (hom t)
    refine R_cut2 (fun at_ : Nat => ([(0, .d (.sl (Tm.rows l))), (3, .d (.sl (Tm.rows o))), (4, iV k), (5, iV at_)], [])) (fun at_ => at_ ≤ o.length ∧ Tm.insR l[k] o = o.take at_ ++ Tm.insR l[k] (o.drop at_) ∧ ∀ h : at_ < o.length, ¬ Tm.cmpR o[at_] l[k] < 0) rfl ?_ ?_
    · refine R_loop (fun at_ : Nat => ([(0, .d (.sl (Tm.rows l))), (3, .d (.sl (Tm.rows o))), (4, iV k), (5, iV at_)], [])) (fun at_ => at_ ≤ o.length ∧ Tm.insR l[k] o = o.take at_ ++ Tm.insR l[k] (o.drop at_)) (fun at_ => o.length - at_) 0 ⟨Nat.zero_le _, rfl⟩ ⟨.refl _, .refl _, .refl _, .refl _, trivial⟩ rfl ?_
      rintro j ⟨hj, hjm⟩
      refine R_run hg.ok 1000 rfl rfl ?_
      refine R_if rfl rfl (fun h => ?_) (fun h => ?_) <;> refine R_run hg.ok 1000 rfl rfl ?_
      · have hj1 : j < o.length := lt_dec h (by rw [Tm.rows_length])
        have e2 : o[j]? = some o[j] := List.getElem?_eq_getElem hj1
        have hb := hB _ (hom _ (List.getElem_mem hj1))
        refine R_index hg.ok rfl rfl rfl rfl rfl rfl (Int.natCast_nonneg j) (Tm.rows_get e2) rfl ?_
        refine R_run hg.ok 1000 rfl rfl ?_
        refine R_index hg.ok rfl rfl rfl rfl rfl rfl (Int.natCast_nonneg k) (Tm.rows_get e1) rfl ?_
        refine R_run hg.ok 1000 rfl rfl ?_
        refine R_call hg.ok (refCmp_ok o[j] l[k] hb.1) rfl rfl rfl rfl rfl rfl ?_
        refine R_run hg.ok 1000 rfl rfl ?_
        refine R_if rfl rfl (fun h => ?_) (fun h => ?_) <;> refine R_run hg.ok 1000 rfl rfl ?_
        · rw [insR_split hj1, if_pos (of_decide_eq_true h)] at hjm
          refine R_next (j + 1) ⟨hj1, ?_⟩ (by omega) ⟨.refl _, .refl _, .refl _, Ent.wrap (by omega) (by omega) (by omega), trivial⟩ rfl
          rw [hjm, List.take_add_one, e2, Option.toList_some, List.append_assoc]; rfl
        · exact R_to j ⟨hj, hjm, fun _ => of_decide_eq_false h⟩ ⟨.refl _, .refl _, .refl _, .refl _, trivial⟩ rfl
      · have hj1 : o.length ≤ j := ge_dec h (by rw [Tm.rows_length])
        exact R_to j ⟨hj, hjm, fun h => by omega⟩ ⟨.refl _, .refl _, .refl _, .refl _, trivial⟩ rfl
    · rintro j ⟨hj, hjm, hstop⟩
      have key : Tm.insR l[k] (o.drop j) = l[k] :: o.drop j → Tm.insR l[k] o = o.take j ++ [l[k]] ++ o.drop j := fun e => by rw [hjm, e]; simp
      refine R_run hg.ok 1000 rfl rfl ?_
      refine R_if rfl rfl (fun h => ?_) (fun h => ?_) <;> refine R_run hg.ok 1000 rfl rfl ?_
      · have hj1 : j < o.length := lt_dec h (by rw [Tm.rows_length])
        have e2 : o[j]? = some o[j] := List.getElem?_eq_getElem hj1
        have hb := hB _ (hom _ (List.getElem_mem hj1))
        rw [insR_split hj1, if_neg (hstop hj1)] at hjm key
        refine R_index hg.ok rfl rfl rfl rfl rfl rfl (Int.natCast_nonneg j) (Tm.rows_get e2) rfl ?_
        refine R_run hg.ok 1000 rfl rfl ?_
        refine R_index hg.ok rfl rfl rfl rfl rfl rfl (Int.natCast_nonneg k) (Tm.rows_get e1) rfl ?_
        refine R_run hg.ok 1000 rfl rfl ?_
        refine R_call hg.ok (refCmp_ok o[j] l[k] hb.1) rfl rfl rfl rfl rfl rfl ?_
        refine R_run hg.ok 1000 rfl rfl ?_
        refine R_if rfl rfl (fun h => ?_) (fun h => ?_) <;> refine R_run hg.ok 1000 rfl rfl ?_
        · have h : Tm.cmpR o[j] l[k] = 0 := by simpa using h
          rw [if_pos h, List.take_append_drop] at hjm
          refine R_next (k + 1, o) ⟨hk1, by rw [hm, hjm], by simp only; omega, hom⟩ (by simp only; omega) ⟨.refl _, .refl _, Ent.wrap (by omega) (by omega) (by omega), trivial⟩ rfl
        · have h : ¬ Tm.cmpR o[j] l[k] = 0 := by simpa using h
          rw [if_neg h] at key
          have key := key rfl
          refine R_sliceO hg.ok (Tm.rows (o.take j)) rfl rfl rfl rfl rfl rfl rfl (rowsz o) (by decide) (by omega) (by rw [Tm.rows_length]; omega) (by rw [← rows_take]; simp only [Int.toNat_natCast]; rfl) ?_
          refine R_run hg.ok 1000 rfl rfl ?_
          refine R_appendF hg.ok (rows := []) rfl rfl (.inl rfl) rfl (.inl rfl) rfl rfl rfl (by simp) (rowsz (o.take j)) (by simp [Tm.rows_length]; omega) (by simp [Tm.rows_length]; omega) ?_
          refine R_run hg.ok 1000 rfl rfl ?_
          refine R_index hg.ok rfl rfl rfl rfl rfl rfl (Int.natCast_nonneg k) (Tm.rows_get e1) rfl ?_
          refine R_run hg.ok 1000 rfl rfl ?_
          refine R_appendO hg.ok (Tm.rows (o.take j ++ [l[k]])) rfl rfl rfl rfl rfl rfl rfl rfl rfl (by simp) (by simp [one1]) (rows_snoc _ _) (by simp [Tm.rows_length]; omega) (by simp [Tm.rows_length]; omega) ?_
          refine R_run hg.ok 1000 rfl rfl ?_
          refine R_sliceO hg.ok (Tm.rows (o.drop j)) rfl rfl rfl rfl rfl rfl rfl (rowsz o) (by omega) (by rw [Tm.rows_length]; omega) (Int.le_refl _) (by rw [← rows_drop, Tm.rows_length]; apply List.take_of_length_le; simp [Tm.rows_length]) ?_
          refine R_run hg.ok 1000 rfl rfl ?_
          refine R_appendO hg.ok (Tm.rows (o.take j ++ [l[k]] ++ o.drop j)) rfl rfl rfl rfl rfl rfl rfl rfl rfl (rowsz _) (rows_one1 _) (rows_app _ _) (by simp [Tm.rows_length]; omega) (by simp [Tm.rows_length]; omega) ?_
          refine R_run hg.ok 1000 rfl rfl ?_
          rw [← key]
          refine R_freezeO hg.gup 0 [(0, .d (.sl (Tm.rows l))), (3, .d (.sl (Tm.rows (Tm.insR l[k] o)))), (4, iV (k + 1 : Nat))] [.dead] rfl rfl ⟨.refl _, Ent.frz 0 2 (Tm.rows (Tm.insR l[k] o)), Ent.wrap (by omega) (by omega) (by omega), trivial⟩ ⟨ObIn.refl _, trivial⟩ ?_
          refine R_drop 0 (Nat.zero_le _) rfl ?_
          exact R_next (k + 1, Tm.insR l[k] o) ⟨hk1, hm, by simp only; omega, him⟩ (by simp only; omega) ⟨.refl _, .refl _, .refl _, trivial⟩ rfl
      · have hj1 : o.length ≤ j := ge_dec h (by rw [Tm.rows_length])
        have key := key (by rw [List.drop_eq_nil_of_le hj1]; rfl)
        refine R_sliceO hg.ok (Tm.rows (o.take j)) rfl rfl rfl rfl rfl rfl rfl (rowsz o) (by decide) (by omega) (by rw [Tm.rows_length]; omega) (by rw [← rows_take]; simp only [Int.toNat_natCast]; rfl) ?_
        refine R_run hg.ok 1000 rfl rfl ?_
        refine R_appendF hg.ok (rows := []) rfl rfl (.inl rfl) rfl (.inl rfl) rfl rfl rfl (by simp) (rowsz (o.take j)) (by simp [Tm.rows_length]; omega) (by simp [Tm.rows_length]; omega) ?_
        refine R_run hg.ok 1000 rfl rfl ?_
        refine R_index hg.ok rfl rfl rfl rfl rfl rfl (Int.natCast_nonneg k) (Tm.rows_get e1) rfl ?_
        refine R_run hg.ok 1000 rfl rfl ?_
        refine R_appendO hg.ok (Tm.rows (o.take j ++ [l[k]])) rfl rfl rfl rfl rfl rfl rfl rfl rfl (by simp) (by simp [one1]) (rows_snoc _ _) (by simp [Tm.rows_length]; omega) (by simp [Tm.rows_length]; omega) ?_
        refine R_run hg.ok 1000 rfl rfl ?_
        refine R_sliceO hg.ok (Tm.rows (o.drop j)) rfl rfl rfl rfl rfl rfl rfl (rowsz o) (by omega) (by rw [Tm.rows_length]; omega) (Int.le_refl _) (by rw [← rows_drop, Tm.rows_length]; apply List.take_of_length_le; simp [Tm.rows_length]) ?_
        refine R_run hg.ok 1000 rfl rfl ?_
        refine R_appendO hg.ok (Tm.rows (o.take j ++ [l[k]] ++ o.drop j)) rfl rfl rfl rfl rfl rfl rfl rfl rfl (rowsz _) (rows_one1 _) (rows_app _ _) (by simp [Tm.rows_length]; omega) (by simp [Tm.rows_length]; omega) ?_
        refine R_run hg.ok 1000 rfl rfl ?_
        rw [← key]
        refine R_freezeO hg.gup 0 [(0, .d (.sl (Tm.rows l))), (3, .d (.sl (Tm.rows (Tm.insR l[k] o)))), (4, iV (k + 1 : Nat))] [.dead] rfl rfl ⟨.refl _, Ent.frz 0 2 (Tm.rows (Tm.insR l[k] o)), Ent.wrap (by omega) (by omega) (by omega), trivial⟩ ⟨ObIn.refl _, trivial⟩ ?_
        refine R_drop 0 (Nat.zero_le _) rfl ?_
        exact R_next (k + 1, Tm.insR l[k] o) ⟨hk1, hm, by simp only; omega, him⟩ (by simp only; omega) ⟨.refl _, .refl _, .refl _, trivial⟩ rfl
  · have hk1 : l.length ≤ k := ge_dec h (by rw [Tm.rows_length])
    refine R_ret hg 5 rfl rfl ?_
    rw [hm, List.drop_eq_nil_of_le hk1]; rfl
end Go.Proofs.Ythdiihpjgjoacaa
