import Derived.Test.YtppghekipbnjhaaSMsg
import Derived.Test.YtppghekipbnjhaaSMatch
namespace Go.Proofs.Ytppghekipbnjhaa
open Go PSL Go.Proofs

theorem rows4 (l : List Tm) : ∀ r ∈ Tm.rows l, r.length = 4 := by
  intro r hr; rw [Tm.rows_eq, List.mem_map] at hr; obtain ⟨t, _, rfl⟩ := hr; rfl

/-- What is known of terms that are gone through. -/
def Small4 (t : Tm) : Prop := t.size ≤ 4000 ∧ ∀ x e, e ∈ t.els x → e.2.s.size < 1000000000

theorem small_fair {t : Tm} (h : t.rightB = true) : Small4 t := ⟨by have := (Tm.rightB_iff.1 h).2.1; omega, fun x e he => fair_names (right_fair h) x e he⟩

set_option maxRecDepth 100000 in
theorem msgRight_ok (l : List Tm) (hl : l.length < 1000000000) (hb : ∀ t ∈ l, Small4 t) : PCtr Try.prog 52 [.d (.sl (Tm.rows l))] (bV (l.all rightT)) := by
  refine PCtr.of_R (pf := fun _ => .still) tyOk mixed Try.func52 rfl (by kernel_rfl) (by kernel_rfl) (by simp [Try.ntmps52]) fun w S hg => ?_
  refine R_run hg.ok 1000 rfl rfl ?_
  refine R_loop (fun k : Nat => ([(5, .d (.sl (Tm.rows l))), (6, iV l.length), (7, iV k)], [])) (fun k => k ≤ l.length ∧ l.all rightT = (l.drop k).all rightT) (fun k => l.length - k) 0 ⟨Nat.zero_le _, rfl⟩ ⟨.refl _, Ent.int (by rw [Tm.rows_length]), .refl _, trivial⟩ rfl ?_
  rintro k ⟨hk, hm⟩
  refine R_run hg.ok 1000 rfl rfl ?_
  refine R_if rfl rfl (fun h => ?_) (fun h => ?_) <;> refine R_run hg.ok 1000 rfl rfl ?_
  · have hk1 : k < l.length := lt_dec h rfl
    have e1 : l[k]? = some l[k] := List.getElem?_eq_getElem hk1
    have hs := hb _ (List.getElem_mem hk1)
    rw [List.drop_eq_getElem_cons hk1, List.all_cons] at hm
    refine R_index hg.ok rfl rfl rfl rfl rfl rfl (Int.natCast_nonneg _) (Tm.rows_get e1) rfl ?_
    refine R_run hg.ok 1000 rfl rfl ?_
    refine R_call hg.ok (right_ok l[k] (by have := hs.1; omega) (hs.2 1)) rfl rfl rfl rfl rfl rfl ?_
    refine R_run hg.ok 1000 rfl rfl ?_
    refine R_if rfl rfl (fun h => ?_) (fun h => ?_) <;> refine R_run hg.ok 1000 rfl rfl ?_
    · refine R_ret hg 5 rfl rfl ?_
      have h : rightT l[k] = false := by simpa using h
      rw [hm, h]; rfl
    · have h : rightT l[k] = true := by simpa using h
      refine R_drop 0 (Nat.zero_le _) rfl ?_
      refine R_next (k + 1) ⟨hk1, by rw [hm, h, Bool.true_and]⟩ (by omega) ⟨.refl _, .refl _, Ent.wrap (by omega) (by omega) (by omega), trivial⟩ rfl
  · have hk1 : l.length ≤ k := ge_dec h rfl
    rw [List.drop_eq_nil_of_le hk1] at hm
    refine R_ret hg 5 rfl rfl ?_
    rw [hm]; rfl

set_option maxRecDepth 100000 in
theorem of_ok (a b : Tm) (ha : a.size < 400000000) (hb : b.size < 400000000) : PCtr Try.prog 53 [a.av, b.av] (.tup [(Tm.bothT a b []).1.av, iV (Tm.bothT a b []).2.length]) := by
  refine PCtr.of_R (pf := pfO) tyOk mixed Try.func53 rfl (by kernel_rfl) (by kernel_rfl) (by simp [Try.ntmps53]) fun w S hg => ?_
  first
  | (refine R_run hg.ok 3 rfl rfl ?_; refine R_ownB 3 0 8 rfl rfl rfl ?_)
  | (refine R_run hg.ok 4 rfl rfl ?_; refine R_ownB 3 0 8 rfl rfl rfl ?_)
  | (refine R_run hg.ok 5 rfl rfl ?_; refine R_ownB 3 0 8 rfl rfl rfl ?_)
  | (refine R_run hg.ok 6 rfl rfl ?_; refine R_ownB 3 0 8 rfl rfl rfl ?_)
  | (refine R_run hg.ok 7 rfl rfl ?_; refine R_ownB 3 0 8 rfl rfl rfl ?_)
  | (refine R_run hg.ok 8 rfl rfl ?_; refine R_ownB 3 0 8 rfl rfl rfl ?_)
  | (refine R_run hg.ok 9 rfl rfl ?_; refine R_ownB 3 0 8 rfl rfl rfl ?_)
  | (refine R_run hg.ok 10 rfl rfl ?_; refine R_ownB 3 0 8 rfl rfl rfl ?_)
  | (refine R_run hg.ok 11 rfl rfl ?_; refine R_ownB 3 0 8 rfl rfl rfl ?_)
  | (refine R_run hg.ok 12 rfl rfl ?_; refine R_ownB 3 0 8 rfl rfl rfl ?_)
  refine R_run hg.ok 1000 rfl rfl ?_
  have hgr := Tm.both_grow a b []
  have hcall := both_walk ⟨[], fun _ => true⟩ a b [] (by omega) (by omega) (by simp) (by simp; omega)
  generalize hF : Tm.bothT a b [] = F at hcall hgr
  obtain ⟨r, Q⟩ := F
  simp only [List.nil_append] at hgr
  refine R_callSO hg.ok hg.gup ⟨rfl, rfl⟩ (fun _ _ _ _ h => by cases h) [5, 3, 4] [boxR a, boxR b, zBoxM, .box [.ow 4 Q.length], .arr 8 Q.length (prsRows Q), .box [.clo 85 [] [.lo 5 0, .lo 3 0]]] hcall (fun _ => rfl) rfl rfl rfl rfl rfl rfl rfl rfl ?_
  refine R_run hg.ok 1000 rfl rfl ?_
  refine R_loadJ hg.ok 102 (by simp [mayO, len]) rfl rfl rfl rfl rfl rfl rfl ?_
  refine R_run hg.ok 1000 rfl rfl ?_
  refine R_lenJ hg.ok 102 (by simp [mayO, len]) rfl rfl rfl rfl rfl rfl (n := Q.length) (by rw [prsRows_len]) ?_
  refine R_storeJ hg.ok rfl rfl rfl rfl rfl rfl rfl rfl rfl ?_
  refine R_run hg.ok 1000 rfl rfl ?_
  refine R_ret hg 5 rfl rfl ?_
  rfl

set_option maxRecDepth 100000 in
theorem msgOf_ok (a b : Tm) (ha : Small4 a) (hb : Small4 b) : PCtr Try.prog 16 [a.av, b.av] (.tup [(msgT a b).1.av, iV (msgT a b).2]) := by
  have hr := msgRight_ok [a, b] (by simp) (by simp; exact ⟨ha, hb⟩)
  refine PCtr.of_R (pf := fun _ => .still) tyOk mixed Try.func16 rfl (by kernel_rfl) (by kernel_rfl) (by simp [Try.ntmps16]) fun w S hg => ?_
  refine R_run hg.ok 1000 rfl rfl ?_
  refine R_call hg.ok (hr.two) rfl rfl rfl rfl rfl rfl ?_
  refine R_run hg.ok 1000 rfl rfl ?_
  refine R_if rfl rfl (fun h => ?_) (fun h => ?_) <;> refine R_run hg.ok 1000 rfl rfl ?_
  · refine R_ret hg 5 rfl rfl ?_
    rw [show msgT a b = (zeroT, 1) from if_neg (by revert h; simp only [List.all_cons, List.all_nil, Bool.and_true]; cases rightT a <;> cases rightT b <;> simp)]; rfl
  · rw [show msgT a b = ((Tm.bothT a b []).1, 0) from if_pos (by revert h; simp only [List.all_cons, List.all_nil, Bool.and_true]; cases rightT a <;> cases rightT b <;> simp)]
    refine R_call hg.ok (of_ok a b (by have := ha.1; omega) (by have := hb.1; omega)) rfl rfl rfl rfl rfl rfl ?_
    refine R_run hg.ok 1000 rfl rfl ?_
    refine R_ret hg 5 rfl rfl ?_
    rfl

set_option maxRecDepth 100000 in
theorem msgApart_ok (a b : Tm) (ha : Small4 a) (hb : Small4 b) : PCtr Try.prog 17 [a.av, b.av] (.tup [iV (apartT a b).1, iV (apartT a b).2]) := by
  have hr := msgRight_ok [a, b] (by simp) (by simp; exact ⟨ha, hb⟩)
  refine PCtr.of_R (pf := fun _ => .still) tyOk mixed Try.func17 rfl (by kernel_rfl) (by kernel_rfl) (by simp [Try.ntmps17]) fun w S hg => ?_
  refine R_run hg.ok 1000 rfl rfl ?_
  refine R_call hg.ok (hr.two) rfl rfl rfl rfl rfl rfl ?_
  refine R_run hg.ok 1000 rfl rfl ?_
  refine R_if rfl rfl (fun h => ?_) (fun h => ?_) <;> refine R_run hg.ok 1000 rfl rfl ?_
  · refine R_ret hg 5 rfl rfl ?_
    rw [show apartT a b = (0, 1) from if_neg (by revert h; simp only [List.all_cons, List.all_nil, Bool.and_true]; cases rightT a <;> cases rightT b <;> simp)]; rfl
  · rw [show apartT a b = (((Tm.bothT a b []).2.length : Int), 0) from if_pos (by revert h; simp only [List.all_cons, List.all_nil, Bool.and_true]; cases rightT a <;> cases rightT b <;> simp)]
    refine R_call hg.ok (of_ok a b (by have := ha.1; omega) (by have := hb.1; omega)) rfl rfl rfl rfl rfl rfl ?_
    refine R_run hg.ok 1000 rfl rfl ?_
    refine R_ret hg 5 rfl rfl ?_
    rfl

set_option maxRecDepth 100000 in
theorem msgAll_ok (l : List Tm) (hl : l.length < 1000000000) (hb : ∀ t ∈ l, Small4 t) : PCtr Try.prog 22 [.d (.sl (Tm.rows l))] (.tup [(msgAll l).1.av, iV (msgAll l).2]) := by
  refine PCtr.of_R (pf := fun _ => .still) tyOk mixed Try.func22 rfl (by kernel_rfl) (by kernel_rfl) (by simp [Try.ntmps22]) fun w S hg => ?_
  refine R_run hg.ok 1000 rfl rfl ?_
  cases l with
  | nil =>
    refine R_if rfl rfl (fun _ => ?_) (fun h => absurd h (by simp [Tm.rows])) <;> refine R_run hg.ok 1000 rfl rfl ?_
    refine R_ret hg 5 rfl rfl ?_
    rfl
  | cons t r =>
    refine R_if rfl rfl (fun h => absurd h (by simp [Tm.rows_length]; omega)) (fun _ => ?_) <;> refine R_run hg.ok 1000 rfl rfl ?_
    refine R_call hg.ok (msgRight_ok (t :: r) hl hb) rfl rfl rfl rfl rfl rfl ?_
    refine R_run hg.ok 1000 rfl rfl ?_
    refine R_if rfl rfl (fun h => ?_) (fun h => ?_) <;> refine R_run hg.ok 1000 rfl rfl ?_
    · refine R_ret hg 5 rfl rfl ?_
      rw [show msgAll (t :: r) = (zeroT, 1) from if_neg (by revert h; cases ((t :: r).all rightT) <;> simp)]; rfl
    have hr : (t :: r).all rightT = true := by revert h; cases ((t :: r).all rightT) <;> simp
    rw [show msgAll (t :: r) = (foldM (Tm.bothT t t []).1 r, 0) from if_pos hr]
    have ht := (hb t (by simp)).1
    refine R_index hg.ok rfl rfl rfl rfl rfl rfl (by decide) (Tm.rows_get (l := t :: r) (i := 0) rfl) rfl ?_
    refine R_run hg.ok 1000 rfl rfl ?_
    refine R_index hg.ok rfl rfl rfl rfl rfl rfl (by decide) (Tm.rows_get (l := t :: r) (i := 0) rfl) rfl ?_
    refine R_run hg.ok 1000 rfl rfl ?_
    refine R_call hg.ok (of_ok t t (by omega) (by omega)) rfl rfl rfl rfl rfl rfl ?_
    refine R_run hg.ok 1000 rfl rfl ?_
    refine R_sliceO hg.ok (Tm.rows r) rfl rfl rfl rfl rfl rfl rfl (rows4 _) (by decide) (by rw [Tm.rows_length]; simp; omega) (Int.le_refl _) (by simp [Tm.rows_eq]; exact List.take_of_length_le (by simp)) ?_
    refine R_run hg.ok 1000 rfl rfl ?_
    have h0 := Tm.both_size t t []
    have hrl : r.length < 1000000000 := by simp at hl; omega
    refine R_loop (fun x : Nat × Tm => ([(2, .lo 0 0), (4, .lo 1 0), (27, .d (.sl (Tm.rows r))), (28, iV r.length), (29, iV x.1)], [zBoxM, boxR x.2])) (fun x => x.1 ≤ r.length ∧ foldM (Tm.bothT t t []).1 r = foldM x.2 (r.drop x.1) ∧ x.2.size ≤ 4000) (fun x => r.length - x.1) (0, (Tm.bothT t t []).1) ⟨Nat.zero_le _, rfl, by simp only; omega⟩ ⟨.refl _, .refl _, .refl _, Ent.int (by rw [Tm.rows_length]), .refl _, trivial⟩ rfl ?_
    rintro ⟨k, o⟩ ⟨hk, hm, ho⟩
    simp only at hk hm ho
    refine R_run hg.ok 1000 rfl rfl ?_
    refine R_if rfl rfl (fun h => ?_) (fun h => ?_) <;> refine R_run hg.ok 1000 rfl rfl ?_
    · have hk1 : k < r.length := lt_dec h rfl
      have e1 : r[k]? = some r[k] := List.getElem?_eq_getElem hk1
      have hs := (hb r[k] (by simp)).1
      rw [List.drop_eq_getElem_cons hk1] at hm
      refine R_index hg.ok rfl rfl rfl rfl rfl rfl (Int.natCast_nonneg _) (Tm.rows_get e1) rfl ?_
      refine R_run hg.ok 1000 rfl rfl ?_
      refine R_call hg.ok (of_ok o r[k] (by omega) (by omega)) rfl rfl rfl rfl rfl rfl ?_
      refine R_run hg.ok 1000 rfl rfl ?_
      refine R_drop 2 (Nat.zero_le _) rfl ?_
      have h5 := Tm.both_size o r[k] []
      exact R_next (k + 1, (Tm.bothT o r[k] []).1) ⟨hk1, hm, by simp only; omega⟩ (by simp only; omega) ⟨.refl _, .refl _, .refl _, .refl _, Ent.wrap (by simp only; omega) (by simp only; omega) (by simp only; omega), trivial⟩ rfl
    · have hk1 : r.length ≤ k := ge_dec h rfl
      rw [List.drop_eq_nil_of_le hk1] at hm
      rw [hm]
      refine R_ret hg 5 rfl rfl ?_
      rfl
end Go.Proofs.Ytppghekipbnjhaa
