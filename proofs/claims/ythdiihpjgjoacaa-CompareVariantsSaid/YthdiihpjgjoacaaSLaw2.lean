import Derived.Test.YthdiihpjgjoacaaSVari
import Derived.Test.YthdiihpjgjoacaaPlLe
namespace Go.Proofs.Ythdiihpjgjoacaa
open Go PSL Go.Proofs

def compareT (a b : Tm) : Int × Int := if rightT a && rightT b then (Tm.cmpT a b, 0) else (0, 1)

set_option maxRecDepth 100000 in
theorem compare_ok (a b : Tm) (ha : Bear a) (hb : Bear b) : PCtr Try.prog 16 [a.av, b.av] (.tup [iV (compareT a b).1, iV (compareT a b).2]) := by
  refine PCtr.of_R (pf := fun _ => .still) tyOk mixed Try.func16 rfl (by kernel_rfl) (by kernel_rfl) (by simp [Try.ntmps16]) fun w S hg => ?_
  refine R_run hg.ok 1000 rfl rfl ?_
  refine R_call hg.ok (right_ok a ha.1 (ha.2 1)) rfl rfl rfl rfl rfl rfl ?_
  refine R_run hg.ok 1000 rfl rfl ?_
  refine R_if rfl rfl (fun h1 => ?_) (fun h1 => ?_) <;> refine R_run hg.ok 1000 rfl rfl ?_
  · refine R_ret hg 5 rfl rfl ?_
    have h1 : rightT a = false := by simpa using h1
    simp only [compareT, h1, Bool.false_and]; rfl
  have h1 : rightT a = true := by simpa using h1
  refine R_call hg.ok (right_ok b hb.1 (hb.2 1)) rfl rfl rfl rfl rfl rfl ?_
  refine R_run hg.ok 1000 rfl rfl ?_
  refine R_if rfl rfl (fun h2 => ?_) (fun h2 => ?_) <;> refine R_run hg.ok 1000 rfl rfl ?_
  · refine R_ret hg 5 rfl rfl ?_
    have h2 : rightT b = false := by simpa using h2
    simp only [compareT, h1, h2, Bool.and_false]; rfl
  have h2 : rightT b = true := by simpa using h2
  refine R_call hg.ok (order_ok a b ha.1 ha.2) rfl rfl rfl rfl rfl rfl ?_
  refine R_run hg.ok 1000 rfl rfl ?_
  refine R_ret hg 5 rfl rfl ?_
  simp only [compareT, h1, h2, Bool.and_self, if_true]; rfl

def kq : Tm := .mk 3 ⟨#[97]⟩ 0 []
def kf : Tm := .mk 3 ⟨#[102]⟩ 0 [kq]
def k5 : Tm := .mk 2 ByteArray.empty 5 []
def k1 : Tm := .mk 1 ByteArray.empty 1 []
def k2 : Tm := .mk 2 ByteArray.empty 0 []
def k7 : Tm := .mk 1 ByteArray.empty 7 []
theorem bear_fair {t : Tm} (h : t.fairR = true) (hs : t.size < 1000000000) : Bear t := ⟨hs, fun d e he => fair_names h d e he⟩
theorem kq_b : Bear kq := bear_fair (by kernel_rfl) (by decide)
theorem kf_b : Bear kf := bear_fair (by kernel_rfl) (by decide)
theorem k5_b : Bear k5 := bear_fair (by kernel_rfl) (by decide)
theorem k1_b : Bear k1 := bear_fair (by kernel_rfl) (by decide)
theorem k2_b : Bear k2 := bear_fair (by kernel_rfl) (by decide)
theorem k7_b : Bear k7 := bear_fair (by kernel_rfl) (by decide)
theorem kSort : sortT [kf, kq, k5, k1, kq] = ([k1, k5, kq, kf], 0) := by
  have h1 : [kf, kq, k5, k1, kq].all rightT = true := by kernel_rfl
  have h2 : [kf, kq, k5, k1, kq].all Tm.fairR = true := by kernel_rfl
  have h3 : Tm.msort [kf, kq, k5, k1, kq] = [k1, k5, kq, kf] := by
    rw [Tm.sort_same _ (fun x hx => List.all_eq_true.1 h2 x hx)]; kernel_rfl
  simp only [sortT, h1, if_true, h3]

set_option maxRecDepth 100000 in
theorem knows2_ok : PCtr Try.prog 15 [] (bV true) := by
  have hS := sort_ok [kf, kq, k5, k1, kq] (by decide) (by intro t ht; simp at ht; rcases ht with rfl | rfl | rfl | rfl | rfl <;> first | exact kf_b | exact kq_b | exact k5_b | exact k1_b)
  rw [kSort] at hS
  have hC := compare_ok kq k2 kq_b k2_b
  rw [show compareT kq k2 = (1, 0) by kernel_rfl] at hC
  have hV := variant_ok k1 k7 k1_b k7_b
  rw [show variantT k1 k7 = true by kernel_rfl] at hV
  refine PCtr.of_R (pf := fun _ => .still) tyOk mixed Try.func15 rfl (by kernel_rfl) (by kernel_rfl) (by simp [Try.ntmps15]) fun w S hg => ?_
  refine R_run hg.ok 1000 rfl rfl ?_
  refine R_callN hg.ok hS rfl rfl rfl rfl (by kernel_rfl) rfl rfl ?_
  refine R_run hg.ok 1000 rfl rfl ?_
  refine R_callN hg.ok hC rfl rfl rfl rfl (by kernel_rfl) rfl rfl ?_
  refine R_run hg.ok 1000 rfl rfl ?_
  repeat
    first
    | (refine R_if rfl rfl (fun _ => ?_) (fun h => absurd h (by decide)); refine R_run hg.ok 1000 rfl rfl ?_)
    | (refine R_index hg.ok rfl rfl rfl rfl rfl rfl (by decide) rfl rfl ?_; refine R_run hg.ok 1000 rfl rfl ?_)
    | (refine R_if rfl rfl (fun _ => ?_) (fun h => absurd (h.symm.trans (Tm.strEq_iff.2 rfl)) (by simp)); refine R_run hg.ok 1000 rfl rfl ?_)
  refine R_callN hg.ok hV rfl rfl rfl rfl (by kernel_rfl) rfl rfl ?_
  refine R_run hg.ok 1000 rfl rfl ?_
  refine R_ret hg 5 rfl rfl ?_
  rfl

theorem Tm.sizeL_le {M : Nat} : ∀ (r : List Tm), (∀ t ∈ r, t.size ≤ M) → Tm.sizeL r ≤ r.length * M
  | [], _ => by simp [Tm.sizeL]
  | t :: r, h => by
    have h1 := Tm.sizeL_le r fun x hx => h x (List.mem_cons_of_mem _ hx)
    have h2 := h t List.mem_cons_self
    simp only [Tm.sizeL, List.length_cons, Nat.add_mul]; omega
theorem Tm.sortFrom_len : ∀ (l o : List Tm), (Tm.sortFrom o l).length ≤ o.length + l.length
  | [], o => by simp [Tm.sortFrom]
  | x :: l, o => by
    have h1 := Tm.sortFrom_len l (Tm.insR x o)
    have h2 := Tm.insR_len x o
    show (Tm.sortFrom (Tm.insR x o) l).length ≤ _
    simp only [List.length_cons]; omega

theorem signI_rng (n : Int) : -1 ≤ signI n ∧ signI n ≤ 1 := by unfold signI; repeat' split <;> omega
theorem numI_rng (m n : Int) : -1 ≤ numI m n ∧ numI m n ≤ 1 := by unfold numI; repeat' split <;> omega
theorem namesB_rng (m n : ByteArray) : -1 ≤ namesB m n ∧ namesB m n ≤ 1 := by have := (namesL_less m.data.toList n.data.toList).2.2; unfold namesB; omega
theorem cmpT_rng (a : Tm) : ∀ b, -1 ≤ Tm.cmpT a b ∧ Tm.cmpT a b ≤ 1 := by
  induction a using Tm.ind with
  | _ a ih =>
  intro b
  rw [Tm.cmpT_eq]
  have key : ∀ (l m : List Tm), (∀ x ∈ l, ∀ y, -1 ≤ Tm.cmpT x y ∧ Tm.cmpT x y ≤ 1) → -1 ≤ Tm.cmpTL l m ∧ Tm.cmpTL l m ≤ 1 := by
    intro l
    induction l with
    | nil => intro m _; simp [Tm.cmpTL]
    | cons x l ihl =>
      intro m h
      cases m with
      | nil => simp [Tm.cmpTL]
      | cons y m =>
        simp only [Tm.cmpTL]
        split
        · exact h x (by simp) y
        · exact ihl m fun z hz => h z (by simp [hz])
  split
  · exact signI_rng _
  · split
    · exact numI_rng _ _
    · split
      · exact numI_rng _ _
      · split
        · exact namesB_rng _ _
        · exact key _ _ ih

theorem bear_some {l : List Tm} (h : Tm.someT l = true) : ∀ t ∈ l, Bear t := by
  obtain ⟨h1, _, _, h4⟩ := Tm.someT_ok h
  intro t ht
  refine ⟨by have := Tm.size_mem ht; omega, fun x e he => by have := h4 x e (Tm.els_memL ht he); omega⟩

theorem compare_good {a b : Tm} (ha : a.rightB = true) (hb : b.rightB = true) : compareT a b = (Tm.cmpR a b, 0) := by
  unfold compareT
  rw [rightT_eq, rightT_eq, ha, hb, ← Tm.cmp_same a b (right_fair ha) (right_fair hb)]; rfl

set_option maxRecDepth 100000 in
theorem compareTells_ok (a b : Tm) (ha : a.Ok) (hb : b.Ok) : PCtr Try.prog 3 [a.av, b.av] (bV true) := by
  refine PCtr.of_R (pf := fun _ => .still) tyOk mixed Try.func3 rfl (by kernel_rfl) (by kernel_rfl) (by simp [Try.ntmps3]) fun w S hg => ?_
  refine R_run hg.ok 1000 rfl rfl ?_
  refine R_call hg.ok (some_ok [a, b] (by simp; exact ⟨ha, hb⟩) (by simp)).two rfl rfl rfl rfl rfl rfl ?_
  refine R_run hg.ok 1000 rfl rfl ?_
  refine R_if rfl rfl (fun h => ?_) (fun h => ?_) <;> refine R_run hg.ok 1000 rfl rfl ?_
  · refine R_call hg.ok knows2_ok rfl rfl rfl rfl rfl rfl ?_
    refine R_run hg.ok 1000 rfl rfl ?_
    refine R_ret hg 5 rfl rfl ?_
    rfl
  have hs : Tm.someT [a, b] = true := by simpa using h
  have ba := bear_some hs a (by simp)
  have bb := bear_some hs b (by simp)
  refine R_call hg.ok (compare_ok a b ba bb) rfl rfl rfl rfl rfl rfl ?_
  refine R_run hg.ok 1000 rfl rfl ?_
  refine R_call hg.ok (variant_ok a b ba bb) rfl rfl rfl rfl rfl rfl ?_
  refine R_run hg.ok 1000 rfl rfl ?_
  refine R_call hg.ok (refVariant_ok a b ba bb) rfl rfl rfl rfl rfl rfl ?_
  refine R_run hg.ok 1000 rfl rfl ?_
  refine R_if rfl rfl (fun h => absurd h (by simp)) (fun _ => ?_) <;> refine R_run hg.ok 1000 rfl rfl ?_
  refine R_call hg.ok (refRight_ok a ba.1 ba.2) rfl rfl rfl rfl rfl rfl ?_
  refine R_run hg.ok 1000 rfl rfl ?_
  have bad : (a.rightB = false ∨ b.rightB = false) → compareT a b = (0, 1) := fun h => by
    unfold compareT
    rw [rightT_eq, rightT_eq]
    rcases h with h | h <;> rw [h] <;> simp
  refine R_if rfl rfl (fun h1 => ?_) (fun h1 => ?_) <;> refine R_run hg.ok 1000 rfl rfl ?_
  · have e := bad (.inl (by simpa using h1))
    rw [e]
    refine R_if rfl rfl (fun _ => ?_) (fun h => absurd h (by simp)) <;> refine R_run hg.ok 1000 rfl rfl ?_
    refine R_if rfl rfl (fun _ => ?_) (fun h => absurd h (by simp)) <;> refine R_run hg.ok 1000 rfl rfl ?_
    refine R_call hg.ok knows2_ok rfl rfl rfl rfl rfl rfl ?_
    refine R_run hg.ok 1000 rfl rfl ?_
    refine R_ret hg 5 rfl rfl ?_
    rfl
  have h1 : a.rightB = true := by simpa using h1
  refine R_call hg.ok (refRight_ok b bb.1 bb.2) rfl rfl rfl rfl rfl rfl ?_
  refine R_run hg.ok 1000 rfl rfl ?_
  refine R_if rfl rfl (fun h2 => ?_) (fun h2 => ?_) <;> refine R_run hg.ok 1000 rfl rfl ?_
  · have e := bad (.inr (by simpa using h2))
    rw [e]
    refine R_if rfl rfl (fun _ => ?_) (fun h => absurd h (by simp)) <;> refine R_run hg.ok 1000 rfl rfl ?_
    refine R_if rfl rfl (fun _ => ?_) (fun h => absurd h (by simp)) <;> refine R_run hg.ok 1000 rfl rfl ?_
    refine R_call hg.ok knows2_ok rfl rfl rfl rfl rfl rfl ?_
    refine R_run hg.ok 1000 rfl rfl ?_
    refine R_ret hg 5 rfl rfl ?_
    rfl
  have h2 : b.rightB = true := by simpa using h2
  rw [compare_good h1 h2]
  refine R_call hg.ok (refCmp_ok a b ba.1) rfl rfl rfl rfl rfl rfl ?_
  refine R_run hg.ok 1000 rfl rfl ?_
  refine R_if rfl rfl (fun _ => ?_) (fun h => absurd h (by simp)) <;> refine R_run hg.ok 1000 rfl rfl ?_
  refine R_if rfl rfl (fun _ => ?_) (fun h => absurd h (by simp)) <;> refine R_run hg.ok 1000 rfl rfl ?_
  refine R_call hg.ok knows2_ok rfl rfl rfl rfl rfl rfl ?_
  refine R_run hg.ok 1000 rfl rfl ?_
  refine R_ret hg 5 rfl rfl ?_
  rfl

set_option maxRecDepth 100000 in
theorem compareSorts_ok (l : List Tm) (hok : ∀ t ∈ l, t.Ok) (hlen : l.length < 4611686018427387904) : PCtr Try.prog 4 [.d (.sl (Tm.rows l))] (bV true) := by
  refine PCtr.of_R (pf := fun _ => .still) tyOk mixed Try.func4 rfl (by kernel_rfl) (by kernel_rfl) (by simp [Try.ntmps4]) fun w S hg => ?_
  refine R_run hg.ok 1000 rfl rfl ?_
  refine R_call hg.ok (some_ok l hok hlen) rfl rfl rfl rfl rfl rfl ?_
  refine R_run hg.ok 1000 rfl rfl ?_
  refine R_if rfl rfl (fun h => ?_) (fun h => ?_) <;> refine R_run hg.ok 1000 rfl rfl ?_
  · refine R_call hg.ok knows2_ok rfl rfl rfl rfl rfl rfl ?_
    refine R_run hg.ok 1000 rfl rfl ?_
    refine R_ret hg 5 rfl rfl ?_
    rfl
  have hs : Tm.someT l = true := by simpa using h
  have hB := bear_some hs
  obtain ⟨hsz, _, hln, _⟩ := Tm.someT_ok hs
  refine R_call hg.ok (sort_ok l (by omega) hB) rfl rfl rfl rfl rfl rfl ?_
  refine R_run hg.ok 1000 rfl rfl ?_
  refine R_loop (fun k : Nat => ([(0, .d (.sl (Tm.rows l))), (3, .d (.sl (Tm.rows (sortT l).1))), (4, iV (sortT l).2), (5, iV k)], [])) (fun k => k ≤ l.length ∧ l.all rightT = (l.drop k).all rightT) (fun k => l.length - k) 0 ⟨Nat.zero_le _, rfl⟩ ⟨.refl _, .refl _, .refl _, .refl _, trivial⟩ rfl ?_
  rintro k ⟨hk, hm⟩
  refine R_run hg.ok 1000 rfl rfl ?_
  refine R_if rfl rfl (fun h => ?_) (fun h => ?_) <;> refine R_run hg.ok 1000 rfl rfl ?_
  · have hk1 : k < l.length := lt_dec h (by rw [Tm.rows_length])
    have e1 : l[k]? = some l[k] := List.getElem?_eq_getElem hk1
    have hb := hB _ (List.getElem_mem hk1)
    rw [List.drop_eq_getElem_cons hk1, List.all_cons, rightT_eq] at hm
    refine R_index hg.ok rfl rfl rfl rfl rfl rfl (Int.natCast_nonneg k) (Tm.rows_get e1) rfl ?_
    refine R_run hg.ok 1000 rfl rfl ?_
    refine R_call hg.ok (refRight_ok l[k] hb.1 hb.2) rfl rfl rfl rfl rfl rfl ?_
    refine R_run hg.ok 1000 rfl rfl ?_
    refine R_if rfl rfl (fun h => ?_) (fun h => ?_) <;> refine R_run hg.ok 1000 rfl rfl ?_
    · have h : l[k].rightB = false := by simpa using h
      have e : sortT l = ([], 1) := by simp only [sortT, hm, h, Bool.false_and]; rfl
      rw [e]
      refine R_if rfl rfl (fun _ => ?_) (fun h => absurd h (by simp [Tm.rows_eq])) <;> refine R_run hg.ok 1000 rfl rfl ?_
      refine R_if rfl rfl (fun _ => ?_) (fun h => absurd h (by simp)) <;> refine R_run hg.ok 1000 rfl rfl ?_
      refine R_call hg.ok knows2_ok rfl rfl rfl rfl rfl rfl ?_
      refine R_run hg.ok 1000 rfl rfl ?_
      refine R_ret hg 5 rfl rfl ?_
      rfl
    · have h : l[k].rightB = true := by simpa using h
      exact R_next (k + 1) ⟨hk1, by rw [hm, h, Bool.true_and]⟩ (by omega) ⟨.refl _, .refl _, .refl _, Ent.wrap (by omega) (by omega) (by omega), trivial⟩ rfl
  have hk1 : l.length ≤ k := ge_dec h (by rw [Tm.rows_length])
  rw [List.drop_eq_nil_of_le hk1, List.all_nil] at hm
  have hr := all_rights.1 hm
  have e : sortT l = (Tm.sortFrom [] l, 0) := by
    simp only [sortT, hm, if_true]; rw [Tm.sort_same l fun x hx => right_fair (hr x hx)]
  rw [e]
  refine R_call hg.ok (refSort_ok l (by omega) hB) rfl rfl rfl rfl rfl rfl ?_
  refine R_run hg.ok 1000 rfl rfl ?_
  refine R_call hg.ok (sameAll_ok (Tm.sortFrom [] l) (Tm.sortFrom [] l) ?_) rfl rfl rfl rfl rfl rfl ?_
  · have h1 := Tm.sizeL_le (M := 4000) (Tm.sortFrom [] l) fun t ht => by
      have := ((Tm.sortFrom_sorted l [] (fun z hz => right_fair (hr z hz)) (by simp) .nil).2 t).1 ht
      have := Tm.size_mem (this.resolve_right (by simp)); omega
    have h2 := Tm.sortFrom_len l []
    simp only [List.length_nil] at h2
    have := Nat.mul_le_mul_right 4000 (show (Tm.sortFrom [] l).length ≤ 100 by omega)
    omega
  refine R_run hg.ok 1000 rfl rfl ?_
  refine R_if rfl rfl (fun _ => ?_) (fun h => absurd h (by rw [Tm.sameL_refl]; simp)) <;> refine R_run hg.ok 1000 rfl rfl ?_
  refine R_if rfl rfl (fun _ => ?_) (fun h => absurd h (by simp)) <;> refine R_run hg.ok 1000 rfl rfl ?_
  refine R_call hg.ok knows2_ok rfl rfl rfl rfl rfl rfl ?_
  refine R_run hg.ok 1000 rfl rfl ?_
  refine R_ret hg 5 rfl rfl ?_
  rfl

set_option maxRecDepth 100000 in
theorem compareOrders_ok (a b c : Tm) (ha : a.Ok) (hb : b.Ok) (hc : c.Ok) : PCtr Try.prog 7 [a.av, b.av, c.av] (bV true) := by
  have h3 := some_ok [a, b, c] (by simp; exact ⟨ha, hb, hc⟩) (by simp)
  rw [Tm.rows_eq] at h3
  refine PCtr.of_R (pf := fun _ => .still) tyOk mixed Try.func7 rfl (by kernel_rfl) (by kernel_rfl) (by simp [Try.ntmps7]) fun w S hg => ?_
  refine R_run hg.ok 1000 rfl rfl ?_
  refine R_call hg.ok h3 rfl rfl rfl rfl rfl rfl ?_
  refine R_run hg.ok 1000 rfl rfl ?_
  refine R_if rfl rfl (fun h => ?_) (fun h => ?_) <;> refine R_run hg.ok 1000 rfl rfl ?_
  · refine R_call hg.ok knows2_ok rfl rfl rfl rfl rfl rfl ?_
    refine R_run hg.ok 1000 rfl rfl ?_
    refine R_ret hg 5 rfl rfl ?_
    rfl
  have hs : Tm.someT [a, b, c] = true := by simpa using h
  have ba := bear_some hs a (by simp)
  have bb := bear_some hs b (by simp)
  have bc := bear_some hs c (by simp)
  refine R_call hg.ok (refRight_ok a ba.1 ba.2) rfl rfl rfl rfl rfl rfl ?_
  refine R_run hg.ok 1000 rfl rfl ?_
  refine R_if rfl rfl (fun h1 => ?_) (fun h1 => ?_) <;> refine R_run hg.ok 1000 rfl rfl ?_
  · refine R_call hg.ok knows2_ok rfl rfl rfl rfl rfl rfl ?_
    refine R_run hg.ok 1000 rfl rfl ?_
    refine R_ret hg 5 rfl rfl ?_
    rfl
  refine R_call hg.ok (refRight_ok b bb.1 bb.2) rfl rfl rfl rfl rfl rfl ?_
  refine R_run hg.ok 1000 rfl rfl ?_
  refine R_if rfl rfl (fun h2 => ?_) (fun h2 => ?_) <;> refine R_run hg.ok 1000 rfl rfl ?_
  · refine R_call hg.ok knows2_ok rfl rfl rfl rfl rfl rfl ?_
    refine R_run hg.ok 1000 rfl rfl ?_
    refine R_ret hg 5 rfl rfl ?_
    rfl
  refine R_call hg.ok (refRight_ok c bc.1 bc.2) rfl rfl rfl rfl rfl rfl ?_
  refine R_run hg.ok 1000 rfl rfl ?_
  refine R_if rfl rfl (fun h3 => ?_) (fun h3 => ?_) <;> refine R_run hg.ok 1000 rfl rfl ?_
  · refine R_call hg.ok knows2_ok rfl rfl rfl rfl rfl rfl ?_
    refine R_run hg.ok 1000 rfl rfl ?_
    refine R_ret hg 5 rfl rfl ?_
    rfl
  have ra : a.rightB = true := by simpa using h1
  have rb : b.rightB = true := by simpa using h2
  have rc : c.rightB = true := by simpa using h3
  have fa := right_fair ra
  have fb := right_fair rb
  have fc := right_fair rc
  have cmpE : ∀ {x y : Tm}, x.rightB = true → y.rightB = true → compareT x y = (Tm.cmpT x y, 0) := fun {x y} hx hy => by
    unfold compareT; rw [rightT_eq, rightT_eq, hx, hy]; rfl
  have hab := compare_ok a b ba bb
  have hbc := compare_ok b c bb bc
  have hac := compare_ok a c ba bc
  have hba := compare_ok b a bb ba
  rw [cmpE ra rb] at hab
  rw [cmpE rb rc] at hbc
  rw [cmpE ra rc] at hac
  rw [cmpE rb ra] at hba
  refine R_call hg.ok hab rfl rfl rfl rfl rfl rfl ?_
  refine R_run hg.ok 1000 rfl rfl ?_
  refine R_call hg.ok hbc rfl rfl rfl rfl rfl rfl ?_
  refine R_run hg.ok 1000 rfl rfl ?_
  refine R_call hg.ok hac rfl rfl rfl rfl rfl rfl ?_
  refine R_run hg.ok 1000 rfl rfl ?_
  refine R_call hg.ok hba rfl rfl rfl rfl rfl rfl ?_
  refine R_run hg.ok 1000 rfl rfl ?_
  refine R_call hg.ok (same_ok a b ba.1) rfl rfl rfl rfl rfl rfl ?_
  refine R_run hg.ok 1000 rfl rfl ?_
  obtain ⟨l1, l2, l3, l4⟩ := Tm.cmp_trans a b c fa fb fc
  have ht := Tm.cmp_turn a b fa fb
  have hz := Tm.cmp_zero a b fa fb
  have hrx := cmpT_rng a b
  have l5 : Tm.cmpT a b = 0 → Tm.cmpT b c = 0 → Tm.cmpT a c = 0 := fun e1 e2 => by
    have e1 := (Tm.cmp_zero a b fa fb).1 e1
    have e2 := (Tm.cmp_zero b c fb fc).1 e2
    exact (Tm.cmp_zero a c fa fc).2 (e1.trans e2)
  rw [← Tm.same_iff] at hz
  have hsm : ((Tm.cmpT a b == 0) == Tm.same a b) = true := by
    rw [beq_iff_eq, Bool.eq_iff_iff, beq_iff_eq]; exact hz
  have hng : (Tm.cmpT b a == IntKind.i64.wrap (0 - Tm.cmpT a b)) = true := by
    rw [w64 (by omega) (by omega), beq_iff_eq]; omega
  refine R_if rfl rfl (fun _ => ?_) (fun h => absurd (h.symm.trans hsm) (by simp)) <;> refine R_run hg.ok 1000 rfl rfl ?_
  refine R_if rfl rfl (fun _ => ?_) (fun h => absurd (h.symm.trans hng) (by simp)) <;> refine R_run hg.ok 1000 rfl rfl ?_
  repeat'
    first
    | (refine R_if rfl rfl (fun h => ?_) (fun h => ?_) <;> refine R_run hg.ok 1000 rfl rfl ?_)
    | (refine R_call hg.ok knows2_ok rfl rfl rfl rfl rfl rfl ?_; refine R_run hg.ok 1000 rfl rfl ?_; refine R_ret hg 5 rfl rfl ?_; rfl)
    | (exfalso; simp only [decide_eq_true_eq, decide_eq_false_iff_not] at *; omega)
end Go.Proofs.Ythdiihpjgjoacaa
