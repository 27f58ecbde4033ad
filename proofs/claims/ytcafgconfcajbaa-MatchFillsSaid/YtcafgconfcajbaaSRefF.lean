import Derived.Test.YtcafgconfcajbaaSBind
import Derived.Test.YtcafgconfcajbaaPlC
namespace Go.Proofs.Ytcafgconfcajbaa
open Go PSL Go.Proofs

theorem putSnocR {B : Binds} {l : List Tm} {k : Nat} {x : Tm} (h : l[k]? = some x) : Tm.rows (Tm.putBL B (l.take k)) ++ [Tm.row (Tm.putB B x)] = Tm.rows (Tm.putBL B (l.take (k + 1))) := by
  rw [List.take_add_one, h, Tm.putBL_map, Tm.putBL_map]; simp [Tm.rows_eq]

set_option maxRecDepth 100000 in
theorem refFill_ok (B : Binds) (hl : B.length < 1000000000) (p : Tm) : p.size < 1000000000 → p.plain = true → PCtr Try.prog 19 [p.av, .d (.sl (bindRows B))] (Tm.putB B p).av := by
  induction p using Tm.ind with
  | _ p ih =>
  intro hsz hpl
  have hl := Tm.len_le_sizeL p.l
  have hs := Tm.size_eq p
  have hc := Tm.putB_eq B p
  refine PCtr.of_R (pf := pfB) tyOk mixed Try.func19 rfl (by kernel_rfl) (by kernel_rfl) (by simp [Try.ntmps19]) fun w S hg => ?_
  refine R_run hg.ok 1000 rfl rfl ?_
  refine R_if rfl rfl (fun h => ?_) (fun h => ?_) <;> refine R_run hg.ok 1000 rfl rfl ?_
  · have hk : p.k = 1 := by simpa using h
    rw [if_pos hk] at hc
    refine R_call hg.ok (place_ok B p.n (by omega)) rfl rfl rfl rfl rfl rfl ?_
    refine R_run hg.ok 1000 rfl rfl ?_
    rcases placeB_find B p.n with ⟨h1, h2⟩ | ⟨k, t, h1, h2, h3⟩
    · refine R_if rfl rfl (fun h => absurd (of_decide_eq_true h) (by omega)) (fun _ => ?_) <;> refine R_run hg.ok 1000 rfl rfl ?_
      refine R_ret hg 5 rfl rfl ?_
      rw [hc, h2]
      have hpe : p.l = [] := by
        rw [Tm.plain_eq] at hpl; simp [hk] at hpl; exact hpl.1
      simp only [Option.getD_none, hpe, Tm.putBL]
      rfl
    · rw [h1]
      refine R_if rfl rfl (fun _ => ?_) (fun h => absurd (Int.natCast_nonneg k) (of_decide_eq_false h)) <;> refine R_run hg.ok 1000 rfl rfl ?_
      refine R_index hg.ok rfl rfl rfl rfl rfl rfl (Int.natCast_nonneg k) (bindRows_get h2) rfl ?_
      refine R_run hg.ok 1000 rfl rfl ?_
      refine R_ret hg 5 rfl rfl ?_
      rw [hc, h3]; rfl
  have hk : ¬ p.k = 1 := by simpa using h
  rw [if_neg hk] at hc
  have hpll : Tm.plainL p.l = true := by
    rw [Tm.plain_eq] at hpl; simp only [Bool.and_eq_true] at hpl; exact hpl.2
  refine R_ownB 2 3 4 rfl rfl rfl ?_
  refine R_loop (fun k : Nat => ([(1, .d (.sl (bindRows B))), (2, .lo 0 0), (4, .lo 1 0), (6, .lo 2 0), (7, iV k)], [boxR p, .box [.d (.v (.int .i64 0)), .d (.v (.string ByteArray.empty)), .d (.v (.int .i64 0)), .d (.v (.slice none 0 0))], .box [.d (.v (.int .i64 p.k)), .d (.v (.string p.s)), .d (.v (.int .i64 p.n)), .ow 3 k], .arr 4 k (Tm.rows (Tm.putBL B (p.l.take k)))]))
    (fun k => k ≤ p.l.length) (fun k => p.l.length - k) 0 (Nat.zero_le _) ⟨.refl _, .refl _, .refl _, .refl _, .refl _, trivial⟩ rfl ?_
  intro k hk0
  refine R_run hg.ok 1000 rfl rfl ?_
  refine R_if rfl rfl (fun h => ?_) (fun h => ?_) <;> refine R_run hg.ok 1000 rfl rfl ?_
  · have hk1 : k < p.l.length := lt_dec h (by rw [Tm.rows_length])
    have e1 : p.l[k]? = some p.l[k] := List.getElem?_eq_getElem hk1
    have hm := Tm.size_mem (List.getElem_mem hk1)
    refine R_index hg.ok rfl rfl rfl rfl rfl rfl (Int.natCast_nonneg k) (Tm.rows_get e1) rfl ?_
    refine R_run hg.ok 1000 rfl rfl ?_
    refine R_call hg.ok (ih _ (List.getElem_mem hk1) (by omega) (Tm.plainL_mem hpll (List.getElem_mem hk1))) rfl rfl rfl rfl rfl rfl ?_
    refine R_run hg.ok 1000 rfl rfl ?_
    refine R_appendO hg.ok _ rfl rfl rfl rfl rfl rfl rfl rfl rfl (by simp) (by simp [one1]) (putSnocR e1) (by rw [Tm.rows_length, Tm.putBL_map]; simp; omega) (by rw [Tm.rows_length, Tm.putBL_map]; simp; omega) ?_
    refine R_run hg.ok 1000 rfl rfl ?_
    exact R_next (k + 1) hk1 (by omega) ⟨.refl _, .refl _, .refl _, .refl _, Ent.wrap (by omega) (by omega) (by omega), trivial⟩ rfl
  · have hk1 : p.l.length ≤ k := ge_dec h (by rw [Tm.rows_length])
    refine R_ret hg 5 rfl (sealA_term rfl rfl rfl rfl) ?_
    rw [List.take_of_length_le hk1, hc]; rfl

set_option maxRecDepth 100000 in
theorem may_ok (p : Tm) (B : Binds) (hp : p.size < 1000000000) (np : ∀ x e, e ∈ p.els x → e.2.s.size < 1000000000) (hl : B.length < 1000000000) (hB : ∀ b ∈ B, b.2.size < 1000000000 ∧ ∀ x e, e ∈ b.2.els x → e.2.s.size < 1000000000) : PCtr Try.prog 17 [p.av, .d (.sl (bindRows B))] (bV (p.rightB && mayR B B 0)) := by
  refine PCtr.of_R (pf := fun _ => .still) tyOk mixed Try.func17 rfl (by kernel_rfl) (by kernel_rfl) (by simp [Try.ntmps17]) fun w S hg => ?_
  refine R_run hg.ok 1000 rfl rfl ?_
  refine R_call hg.ok (refRight_ok p hp np) rfl rfl rfl rfl rfl rfl ?_
  refine R_run hg.ok 1000 rfl rfl ?_
  refine R_if rfl rfl (fun h => ?_) (fun h => ?_) <;> refine R_run hg.ok 1000 rfl rfl ?_
  · refine R_ret hg 5 rfl rfl ?_
    have h : p.rightB = false := by simpa using h
    rw [h]; rfl
  have h : p.rightB = true := by simpa using h
  rw [h, Bool.true_and]
  refine R_loop (fun k : Nat => ([(1, .d (.sl (bindRows B))), (5, iV k)], [boxR p])) (fun k => k ≤ B.length ∧ mayR B B 0 = mayR B (B.drop k) k) (fun k => B.length - k) 0 ⟨Nat.zero_le _, rfl⟩ ⟨.refl _, .refl _, trivial⟩ rfl ?_
  rintro k ⟨hk, hm⟩
  refine R_run hg.ok 1000 rfl rfl ?_
  refine R_if rfl rfl (fun h => ?_) (fun h => ?_) <;> refine R_run hg.ok 1000 rfl rfl ?_
  · have hk1 : k < B.length := lt_dec h (by rw [bindRows_len])
    have e1 : B[k]? = some B[k] := List.getElem?_eq_getElem hk1
    have hb := hB _ (List.getElem_mem hk1)
    rw [List.drop_eq_getElem_cons hk1, mayR] at hm
    refine R_index hg.ok rfl rfl rfl rfl rfl rfl (Int.natCast_nonneg k) (bindRows_get e1) rfl ?_
    refine R_run hg.ok 1000 rfl rfl ?_
    refine R_if rfl rfl (fun h1 => ?_) (fun h1 => ?_) <;> refine R_run hg.ok 1000 rfl rfl ?_
    · refine R_ret hg 5 rfl rfl ?_
      have h1 := of_decide_eq_true h1
      rw [hm, show decide (0 ≤ B[k].1) = false from decide_eq_false (by omega)]; simp [bV]
    have h1 := of_decide_eq_false h1
    rw [show decide (0 ≤ B[k].1) = true from decide_eq_true (by omega), Bool.true_and] at hm
    refine R_index hg.ok rfl rfl rfl rfl rfl rfl (Int.natCast_nonneg k) (bindRows_get e1) rfl ?_
    refine R_run hg.ok 1000 rfl rfl ?_
    refine R_if rfl rfl (fun h2 => ?_) (fun h2 => ?_) <;> refine R_run hg.ok 1000 rfl rfl ?_
    · refine R_ret hg 5 rfl rfl ?_
      have h2 := of_decide_eq_true h2
      rw [hm, show decide (B[k].1 < 1000000) = false from decide_eq_false (by omega)]; simp [bV]
    have h2 := of_decide_eq_false h2
    rw [show decide (B[k].1 < 1000000) = true from decide_eq_true (by omega), Bool.true_and] at hm
    refine R_index hg.ok rfl rfl rfl rfl rfl rfl (Int.natCast_nonneg k) (bindRows_get e1) rfl ?_
    refine R_run hg.ok 1000 rfl rfl ?_
    refine R_call hg.ok (refRight_ok B[k].2 hb.1 hb.2) rfl rfl rfl rfl rfl rfl ?_
    refine R_run hg.ok 1000 rfl rfl ?_
    refine R_if rfl rfl (fun h3 => ?_) (fun h3 => ?_) <;> refine R_run hg.ok 1000 rfl rfl ?_
    · refine R_ret hg 5 rfl rfl ?_
      have h3 : B[k].2.rightB = false := by simpa using h3
      rw [hm, h3]; simp [bV]
    have h3 : B[k].2.rightB = true := by simpa using h3
    rw [h3, Bool.true_and] at hm
    refine R_index hg.ok rfl rfl rfl rfl rfl rfl (Int.natCast_nonneg k) (bindRows_get e1) rfl ?_
    refine R_run hg.ok 1000 rfl rfl ?_
    refine R_call hg.ok (place_ok B B[k].1 hl) rfl rfl rfl rfl rfl rfl ?_
    refine R_run hg.ok 1000 rfl rfl ?_
    refine R_if rfl rfl (fun h4 => ?_) (fun h4 => ?_) <;> refine R_run hg.ok 1000 rfl rfl ?_
    · refine R_ret hg 5 rfl rfl ?_
      have h4 : ¬ placeB B B[k].1 = k := by simpa using h4
      rw [hm, decide_eq_false h4]; simp [bV]
    · have h4 : placeB B B[k].1 = k := by simpa using h4
      rw [decide_eq_true h4, Bool.true_and] at hm
      exact R_next (k + 1) ⟨hk1, hm⟩ (by omega) ⟨.refl _, Ent.wrap (by omega) (by omega) (by omega), trivial⟩ rfl
  · have hk1 : B.length ≤ k := ge_dec h (by rw [bindRows_len])
    refine R_ret hg 5 rfl rfl ?_
    rw [hm, List.drop_eq_nil_of_le hk1]; rfl

theorem fun5_ok (s : ByteArray) (l : List Tm) : PCtr Try.prog 44 [.d (.v (.string s)), .d (.sl (Tm.rows l))] (Tm.mk 3 s 0 l).av := by
  refine PCtr.of_R (pf := fun _ => .still) tyOk mixed Try.func44 rfl (by kernel_rfl) (by kernel_rfl) (by simp [Try.ntmps44]) fun w S hg => ?_
  refine R_run hg.ok 1000 rfl rfl ?_
  refine R_ret hg 5 rfl rfl ?_
  rfl
end Go.Proofs.Ytcafgconfcajbaa
