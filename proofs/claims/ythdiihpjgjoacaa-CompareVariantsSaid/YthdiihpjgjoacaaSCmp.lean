import Derived.Test.YthdiihpjgjoacaaSNumber
import Derived.Test.YthdiihpjgjoacaaPlCmp
import Derived.Test.YthdiihpjgjoacaaPlOps
namespace Go.Proofs.Ythdiihpjgjoacaa
open Go PSL Go.Proofs

theorem sign_ok (n : Int) : PCtr Try.prog 86 [iV n] (iV (signI n)) := by
  refine PCtr.of_R (pf := fun _ => .still) tyOk mixed Try.func86 rfl (by kernel_rfl) (by kernel_rfl) (by simp [Try.ntmps86]) fun w S hg => ?_
  refine R_run hg.ok 1000 rfl rfl ?_
  refine R_if rfl rfl (fun h => ?_) (fun h => ?_) <;> refine R_run hg.ok 1000 rfl rfl ?_
  · refine R_ret hg 5 rfl rfl ?_
    have h := of_decide_eq_true h
    simp only [signI, if_pos h]; rfl
  have h := of_decide_eq_false h
  refine R_if rfl rfl (fun h2 => ?_) (fun h2 => ?_) <;> refine R_run hg.ok 1000 rfl rfl ?_
  · refine R_ret hg 5 rfl rfl ?_
    have h2 := of_decide_eq_true h2
    simp only [signI, if_neg h, if_pos h2]; rfl
  · refine R_ret hg 5 rfl rfl ?_
    have h2 := of_decide_eq_false h2
    simp only [signI, if_neg h, if_neg h2]; rfl

theorem cmpnum_ok (m n : Int) : PCtr Try.prog 87 [iV m, iV n] (iV (numI m n)) := by
  refine PCtr.of_R (pf := fun _ => .still) tyOk mixed Try.func87 rfl (by kernel_rfl) (by kernel_rfl) (by simp [Try.ntmps87]) fun w S hg => ?_
  refine R_run hg.ok 1000 rfl rfl ?_
  refine R_if rfl rfl (fun h => ?_) (fun h => ?_) <;> refine R_run hg.ok 1000 rfl rfl ?_
  · refine R_ret hg 5 rfl rfl ?_
    have h := of_decide_eq_true h
    simp only [numI, if_pos h]; rfl
  have h := of_decide_eq_false h
  refine R_if rfl rfl (fun h2 => ?_) (fun h2 => ?_) <;> refine R_run hg.ok 1000 rfl rfl ?_
  · refine R_ret hg 5 rfl rfl ?_
    have h2 := of_decide_eq_true h2
    simp only [numI, if_neg h, if_pos h2]; rfl
  · refine R_ret hg 5 rfl rfl ?_
    have h2 := of_decide_eq_false h2
    simp only [numI, if_neg h, if_neg h2]; rfl

theorem namesL_end : ∀ (a b : List UInt8), a = [] ∨ b = [] → namesL a b = numI a.length b.length
  | [], [], _ => rfl
  | [], y :: b, _ => by simp only [namesL, numI, List.length_nil, List.length_cons]; rw [if_pos (by omega)]
  | x :: a, [], _ => by simp only [namesL, numI, List.length_nil, List.length_cons]; rw [if_neg (by omega), if_pos (by omega)]
  | x :: a, y :: b, h => by simp at h

theorem numI_sub (m n k : Int) : numI (m - k) (n - k) = numI m n := by
  unfold numI; repeat' split
  all_goals omega

theorem byte_drop {s : ByteArray} {k : Nat} (h : k < s.size) : s.data.toList.drop k = s[k] :: s.data.toList.drop (k + 1) := by
  rw [List.drop_eq_getElem_cons (by simpa using h)]; rfl

set_option maxRecDepth 100000 in
theorem names_ok (a b : ByteArray) (ha : a.size < 1000000000) : PCtr Try.prog 88 [.d (.v (.string a)), .d (.v (.string b))] (iV (namesB a b)) := by
  refine PCtr.of_R (pf := fun _ => .still) tyOk mixed Try.func88 rfl (by kernel_rfl) (by kernel_rfl) (by simp [Try.ntmps88]) fun w S hg => ?_
  refine R_run hg.ok 1000 rfl rfl ?_
  refine R_min hg.ok rfl rfl rfl rfl ?_
  refine R_run hg.ok 1000 rfl rfl ?_
  have hmin : (min (a.size : Int) (b.size : Int)) = ((min a.size b.size : Nat) : Int) := by omega
  rw [hmin]
  generalize hM : min a.size b.size = M
  refine R_loop (fun k : Nat => ([(0, .d (.v (.string a))), (1, .d (.v (.string b))), (10, iV M), (11, iV k)], [])) (fun k => k ≤ M ∧ namesB a b = namesL (a.data.toList.drop k) (b.data.toList.drop k)) (fun k => M - k) 0 ⟨Nat.zero_le _, rfl⟩ ⟨.refl _, .refl _, .refl _, .refl _, trivial⟩ rfl ?_
  rintro k ⟨hk0, hm⟩
  refine R_run hg.ok 1000 rfl rfl ?_
  refine R_if rfl rfl (fun h => ?_) (fun h => ?_) <;> refine R_run hg.ok 1000 rfl rfl ?_
  · have hk1 : k < M := lt_dec h rfl
    have hka : k < a.size := by omega
    have hkb : k < b.size := by omega
    rw [byte_drop hka, byte_drop hkb, namesL] at hm
    refine R_indexS hg.ok rfl rfl rfl rfl rfl (Int.natCast_nonneg k) (byte_at hka) ?_
    refine R_run hg.ok 1000 rfl rfl ?_
    refine R_indexS hg.ok rfl rfl rfl rfl rfl (Int.natCast_nonneg k) (byte_at hkb) ?_
    refine R_run hg.ok 1000 rfl rfl ?_
    refine R_if rfl rfl (fun h2 => ?_) (fun h2 => ?_) <;> refine R_run hg.ok 1000 rfl rfl ?_
    · refine R_indexS hg.ok rfl rfl rfl rfl rfl (Int.natCast_nonneg k) (byte_at hka) ?_
      refine R_run hg.ok 1000 rfl rfl ?_
      refine R_indexS hg.ok rfl rfl rfl rfl rfl (Int.natCast_nonneg k) (byte_at hkb) ?_
      refine R_run hg.ok 1000 rfl rfl ?_
      have e1 : IntKind.i64.wrap (a[k].toNat : Int) = a[k].toNat := w64 (by omega) (by have := a[k].toNat_lt; omega)
      have e2 : IntKind.i64.wrap (b[k].toNat : Int) = b[k].toNat := w64 (by omega) (by have := b[k].toNat_lt; omega)
      rw [e1, e2]
      refine R_call hg.ok (cmpnum_ok _ _) rfl rfl rfl rfl rfl rfl ?_
      refine R_run hg.ok 1000 rfl rfl ?_
      refine R_ret hg 5 rfl rfl ?_
      have hne : ¬ a[k] = b[k] := fun e => by simp [e] at h2
      rw [hm, if_neg hne]; rfl
    · have he : a[k] = b[k] := by
        have : (a[k].toNat : Int) = b[k].toNat := by simpa using h2
        exact UInt8.toNat_inj.1 (by omega)
      rw [if_pos he] at hm
      exact R_next (k + 1) ⟨hk1, hm⟩ (by omega) ⟨.refl _, .refl _, .refl _, Ent.wrap (by omega) (by omega) (by omega), trivial⟩ rfl
  · have hk1 : M ≤ k := ge_dec h rfl
    refine R_call hg.ok (cmpnum_ok _ _) rfl rfl rfl rfl rfl rfl ?_
    refine R_run hg.ok 1000 rfl rfl ?_
    refine R_ret hg 5 rfl rfl ?_
    have hab : a.data.toList.length = a.size := by simp
    have hbb : b.data.toList.length = b.size := by simp
    rw [hm, namesL_end _ _ (by rw [List.drop_eq_nil_iff, List.drop_eq_nil_iff, hab, hbb]; omega), List.length_drop, List.length_drop, hab, hbb, Int.ofNat_sub (by omega), Int.ofNat_sub (by omega), numI_sub]; rfl

set_option maxRecDepth 100000 in
theorem order_ok (a : Tm) : ∀ b, a.size < 1000000000 → (∀ x e, e ∈ a.els x → e.2.s.size < 1000000000) → PCtr Try.prog 54 [.agg [], a.av, b.av] (iV (Tm.cmpT a b)) := by
  induction a using Tm.ind with
  | _ a ih =>
  intro b hsz hns
  have hn0 : a.s.size < 1000000000 := hns 0 (0, a) (by rw [Tm.els_eq]; simp)
  have hl := Tm.len_le_sizeL a.l
  have hs := Tm.size_eq a
  have hc := Tm.cmpT_eq a b
  refine PCtr.of_R (pf := fun _ => .still) tyOk mixed Try.func54 rfl (by kernel_rfl) (by kernel_rfl) (by simp [Try.ntmps54]) fun w S hg => ?_
  refine R_run hg.ok 1000 rfl rfl ?_
  refine R_if rfl rfl (fun h => ?_) (fun h => ?_) <;> refine R_run hg.ok 1000 rfl rfl ?_
  · have h : ¬ a.k = b.k := by simpa using h
    refine R_call hg.ok (sign_ok _) rfl rfl rfl rfl rfl rfl ?_
    refine R_run hg.ok 1000 rfl rfl ?_
    refine R_ret hg 5 rfl rfl ?_
    rw [hc, if_pos h]; rfl
  have h1 : a.k = b.k := by simpa using h
  rw [if_neg (by simpa using h1)] at hc
  refine R_if rfl rfl (fun h => ?_) (fun h => ?_) <;> refine R_run hg.ok 1000 rfl rfl ?_
  · have h : ¬ a.k = 3 := by simpa using h
    refine R_call hg.ok (cmpnum_ok _ _) rfl rfl rfl rfl rfl rfl ?_
    refine R_run hg.ok 1000 rfl rfl ?_
    refine R_ret hg 5 rfl rfl ?_
    rw [hc, if_pos h]; rfl
  have h2 : a.k = 3 := by simpa using h
  rw [if_neg (by simpa using h2)] at hc
  refine R_call hg.ok (cmpnum_ok _ _) rfl rfl rfl rfl rfl rfl ?_
  refine R_run hg.ok 1000 rfl rfl ?_
  refine R_if rfl rfl (fun h => ?_) (fun h => ?_) <;> refine R_run hg.ok 1000 rfl rfl ?_
  · refine R_ret hg 5 rfl rfl ?_
    simp only [Tm.rows_length] at *
    rw [hc, if_pos (by simpa using h)]; rfl
  simp only [Tm.rows_length] at h
  rw [if_neg (by simpa using h)] at hc
  have hll : a.l.length = b.l.length := by
    have : numI (a.l.length : Int) b.l.length = 0 := by simpa using h
    have := numI_zero.1 this; omega
  refine R_call hg.ok (names_ok _ _ hn0) rfl rfl rfl rfl rfl rfl ?_
  refine R_run hg.ok 1000 rfl rfl ?_
  refine R_if rfl rfl (fun h => ?_) (fun h => ?_) <;> refine R_run hg.ok 1000 rfl rfl ?_
  · refine R_ret hg 5 rfl rfl ?_
    rw [hc, if_pos (by simpa using h)]; rfl
  rw [if_neg (by simpa using h)] at hc
  refine R_loop (fun k : Nat => ([(3, .lo 0 0), (5, .lo 2 0), (50, .d (.sl (Tm.rows a.l))), (51, iV a.l.length), (52, iV k)], [.box [], boxR a, boxR b])) (fun k => k ≤ a.l.length ∧ Tm.cmpT a b = Tm.cmpTL (a.l.drop k) (b.l.drop k)) (fun k => a.l.length - k) 0 ⟨Nat.zero_le _, hc⟩ ⟨.refl _, .refl _, .refl _, Ent.int (by rw [Tm.rows_length]), .refl _, trivial⟩ rfl ?_
  rintro k ⟨hk0, hm⟩
  refine R_run hg.ok 1000 rfl rfl ?_
  refine R_if rfl rfl (fun h => ?_) (fun h => ?_) <;> refine R_run hg.ok 1000 rfl rfl ?_
  · have hk1 : k < a.l.length := lt_dec h rfl
    have hk2 : k < b.l.length := by omega
    have e1 : a.l[k]? = some a.l[k] := List.getElem?_eq_getElem hk1
    have e2 : b.l[k]? = some b.l[k] := List.getElem?_eq_getElem hk2
    rw [List.drop_eq_getElem_cons hk1, List.drop_eq_getElem_cons hk2, Tm.cmpTL] at hm
    have hsm := Tm.size_mem (List.getElem_mem hk1)
    refine R_index hg.ok rfl rfl rfl rfl rfl rfl (Int.natCast_nonneg k) (Tm.rows_get e1) rfl ?_
    refine R_run hg.ok 1000 rfl rfl ?_
    refine R_index hg.ok rfl rfl rfl rfl rfl rfl (Int.natCast_nonneg k) (Tm.rows_get e2) rfl ?_
    refine R_run hg.ok 1000 rfl rfl ?_
    refine R_call hg.ok (ih _ (List.getElem_mem hk1) b.l[k] (by omega) (fun x e he => hns (x - 1) e (by rw [Tm.els_eq]; exact List.mem_cons_of_mem _ (Tm.els_memL (List.getElem_mem hk1) (by rw [Int.sub_add_cancel]; exact he))))) rfl rfl rfl rfl rfl rfl ?_
    refine R_run hg.ok 1000 rfl rfl ?_
    refine R_if rfl rfl (fun h => ?_) (fun h => ?_) <;> refine R_run hg.ok 1000 rfl rfl ?_
    · refine R_ret hg 5 rfl rfl ?_
      rw [hm, if_pos (by simpa using h)]; rfl
    · rw [if_neg (by simpa using h)] at hm
      refine R_drop 3 (Nat.zero_le _) rfl ?_
      exact R_next (k + 1) ⟨hk1, hm⟩ (by omega) ⟨.refl _, .refl _, .refl _, .refl _, Ent.wrap (by omega) (by omega) (by omega), trivial⟩ rfl
  · have hk1 : a.l.length ≤ k := ge_dec h rfl
    refine R_ret hg 5 rfl rfl ?_
    rw [hm, List.drop_eq_nil_of_le hk1, List.drop_eq_nil_of_le (by omega)]; rfl

set_option maxRecDepth 100000 in
theorem refCmp_ok (a : Tm) : ∀ b, a.size < 1000000000 → PCtr Try.prog 20 [a.av, b.av] (iV (Tm.cmpR a b)) := by
  induction a using Tm.ind with
  | _ a ih =>
  intro b hsz
  have hl := Tm.len_le_sizeL a.l
  have hs := Tm.size_eq a
  have hc := Tm.cmpR_eq a b
  refine PCtr.of_R (pf := fun _ => .still) tyOk mixed Try.func20 rfl (by kernel_rfl) (by kernel_rfl) (by simp [Try.ntmps20]) fun w S hg => ?_
  refine R_run hg.ok 1000 rfl rfl ?_
  refine R_if rfl rfl (fun h => ?_) (fun h => ?_) <;> refine R_run hg.ok 1000 rfl rfl ?_
  · refine R_ret hg 5 rfl rfl ?_
    rw [hc, if_pos (of_decide_eq_true h)]; rfl
  rw [if_neg (of_decide_eq_false h)] at hc
  refine R_if rfl rfl (fun h => ?_) (fun h => ?_) <;> refine R_run hg.ok 1000 rfl rfl ?_
  · refine R_ret hg 5 rfl rfl ?_
    rw [hc, if_pos (of_decide_eq_true h)]; rfl
  rw [if_neg (of_decide_eq_false h)] at hc
  refine R_if rfl rfl (fun h => ?_) (fun h => ?_) <;> refine R_run hg.ok 1000 rfl rfl ?_
  · refine R_ret hg 5 rfl rfl ?_
    rw [hc, if_pos (.inl (of_decide_eq_true h))]; rfl
  refine R_if rfl rfl (fun h2 => ?_) (fun h2 => ?_) <;> refine R_run hg.ok 1000 rfl rfl ?_
  · refine R_ret hg 5 rfl rfl ?_
    rw [hc, if_pos (.inr (by simpa [Tm.rows_length] using h2))]; rfl
  have h := of_decide_eq_false h
  rw [if_neg (by simp [Tm.rows_length] at h2; omega)] at hc
  refine R_if rfl rfl (fun h => ?_) (fun h => ?_) <;> refine R_run hg.ok 1000 rfl rfl ?_
  · refine R_ret hg 5 rfl rfl ?_
    rw [hc, if_pos (.inl (of_decide_eq_true h))]; rfl
  refine R_if rfl rfl (fun h2 => ?_) (fun h2 => ?_) <;> refine R_run hg.ok 1000 rfl rfl ?_
  · refine R_ret hg 5 rfl rfl ?_
    rw [hc, if_pos (.inr (by simpa [Tm.rows_length] using h2))]; rfl
  have h := of_decide_eq_false h
  have hll : ¬ ((a.l.length : Int) > b.l.length) := by simp [Tm.rows_length] at h2; omega
  rw [if_neg (by omega)] at hc
  refine R_if rfl rfl (fun h => ?_) (fun h => ?_) <;> refine R_run hg.ok 1000 rfl rfl ?_
  · refine R_ret hg 5 rfl rfl ?_
    rw [hc, if_pos h]; rfl
  rw [if_neg (by simpa using h)] at hc
  refine R_if rfl rfl (fun h => ?_) (fun h => ?_) <;> refine R_run hg.ok 1000 rfl rfl ?_
  · refine R_ret hg 5 rfl rfl ?_
    rw [hc, if_pos h]; rfl
  rw [if_neg (by simpa using h)] at hc
  refine R_loop (fun k : Nat => ([(2, .lo 0 0), (3, .lo 1 0), (5, iV k)], [boxR a, boxR b])) (fun k => k ≤ a.l.length ∧ Tm.cmpR a b = Tm.cmpRL (a.l.drop k) (b.l.drop k)) (fun k => a.l.length - k) 0 ⟨Nat.zero_le _, hc⟩ ⟨.refl _, .refl _, .refl _, trivial⟩ rfl ?_
  rintro k ⟨hk0, hm⟩
  refine R_run hg.ok 1000 rfl rfl ?_
  refine R_if rfl rfl (fun h => ?_) (fun h => ?_) <;> refine R_run hg.ok 1000 rfl rfl ?_
  · have hk1 : k < a.l.length := lt_dec h (by rw [Tm.rows_length])
    have hk2 : k < b.l.length := by omega
    have e1 : a.l[k]? = some a.l[k] := List.getElem?_eq_getElem hk1
    have e2 : b.l[k]? = some b.l[k] := List.getElem?_eq_getElem hk2
    rw [List.drop_eq_getElem_cons hk1, List.drop_eq_getElem_cons hk2, Tm.cmpRL] at hm
    have hsm := Tm.size_mem (List.getElem_mem hk1)
    refine R_index hg.ok rfl rfl rfl rfl rfl rfl (Int.natCast_nonneg k) (Tm.rows_get e1) rfl ?_
    refine R_run hg.ok 1000 rfl rfl ?_
    refine R_index hg.ok rfl rfl rfl rfl rfl rfl (Int.natCast_nonneg k) (Tm.rows_get e2) rfl ?_
    refine R_run hg.ok 1000 rfl rfl ?_
    refine R_call hg.ok (ih _ (List.getElem_mem hk1) b.l[k] (by omega)) rfl rfl rfl rfl rfl rfl ?_
    refine R_run hg.ok 1000 rfl rfl ?_
    refine R_if rfl rfl (fun h => ?_) (fun h => ?_) <;> refine R_run hg.ok 1000 rfl rfl ?_
    · refine R_ret hg 5 rfl rfl ?_
      rw [hm, if_pos (by simpa using h)]; rfl
    · rw [if_neg (by simpa using h)] at hm
      exact R_next (k + 1) ⟨hk1, hm⟩ (by omega) ⟨.refl _, .refl _, Ent.wrap (by omega) (by omega) (by omega), trivial⟩ rfl
  · have hk1 : a.l.length ≤ k := ge_dec h (by rw [Tm.rows_length])
    refine R_ret hg 5 rfl rfl ?_
    rw [hm, List.drop_eq_nil_of_le hk1]
    cases (b.l.drop k) <;> rfl
end Go.Proofs.Ythdiihpjgjoacaa
