import Derived.Test.YtppghekipbnjhaaSRef7b
import Derived.Test.YtppghekipbnjhaaSRef1
import Derived.Test.YtppghekipbnjhaaSTerm2
import Derived.Test.YtppghekipbnjhaaSLaw1
namespace Go.Proofs.Ytppghekipbnjhaa
open Go PSL Go.Proofs

theorem fun7_ok (s : ByteArray) (l : List Tm) : PCtr Try.prog 66 [.d (.v (.string s)), .d (.sl (Tm.rows l))] (Tm.mk 3 s 0 l).av := by
  refine PCtr.of_R (pf := fun _ => .still) tyOk mixed Try.func66 rfl (by kernel_rfl) (by kernel_rfl) (by simp [Try.ntmps66]) fun w S hg => ?_
  refine R_run hg.ok 1000 rfl rfl ?_
  refine R_ret hg 5 rfl rfl ?_
  rfl

theorem in7_ok (a b : Tm) (ha : a.size < 1000000000) (na : ∀ x e, e ∈ a.els x → e.2.s.size < 1000000000) (hb : b.size < 1000000000) (nb : ∀ x e, e ∈ b.els x → e.2.s.size < 1000000000) : PCtr Try.prog 30 [a.av, b.av] (bV (inT a b)) := embIn_ok a b ha (na 1) hb (nb 1)

set_option maxRecDepth 100000 in
theorem whistle_ok (l : List Tm) (t : Tm) (hl : l.length < 1000000) (hs : ∀ x ∈ l, x.size < 1000000000 ∧ ∀ d e, e ∈ x.els d → e.2.s.size < 1000000000) (ht : t.size < 1000000000) (nt : ∀ x e, e ∈ t.els x → e.2.s.size < 1000000000) : PCtr Try.prog 67 [.d (.sl (Tm.rows l)), t.av] (iV (whGo l t l.length)) := by
  refine PCtr.of_R (pf := fun _ => .still) tyOk mixed Try.func67 rfl (by kernel_rfl) (by kernel_rfl) (by simp [Try.ntmps67]) fun w S hg => ?_
  refine R_run hg.ok 1000 rfl rfl ?_
  rw [Tm.rows_length, w64 (n := (l.length : Int) - 1) (by omega) (by omega)]
  refine R_loop (fun k : Nat => ([(0, .d (.sl (Tm.rows l))), (3, .lo 0 0), (5, iV ((k : Int) - 1))], [boxR t])) (fun k => k ≤ l.length ∧ whGo l t l.length = whGo l t k) (fun k => k) l.length ⟨Nat.le_refl _, rfl⟩ ⟨.refl _, .refl _, .refl _, trivial⟩ rfl ?_
  rintro k ⟨hk, hm⟩
  refine R_run hg.ok 1000 rfl rfl ?_
  refine R_if rfl rfl (fun h => ?_) (fun h => ?_) <;> refine R_run hg.ok 1000 rfl rfl ?_
  · have h := of_decide_eq_true h
    obtain ⟨j, rfl⟩ : ∃ j, k = j + 1 := ⟨k - 1, by omega⟩
    have e1 : l[j]? = some (l[j]'(by omega)) := List.getElem?_eq_getElem _
    have hx := hs _ (List.mem_of_getElem? e1)
    rw [show ((j + 1 : Nat) : Int) - 1 = (j : Int) by omega]
    refine R_index hg.ok rfl rfl rfl rfl rfl rfl (Int.natCast_nonneg _) (Tm.rows_get e1) rfl ?_
    refine R_run hg.ok 1000 rfl rfl ?_
    refine R_call hg.ok (in7_ok _ t hx.1 hx.2 ht nt) rfl rfl rfl rfl rfl rfl ?_
    refine R_run hg.ok 1000 rfl rfl ?_
    simp only [whGo, e1] at hm
    refine R_if rfl rfl (fun h2 => ?_) (fun h2 => ?_) <;> refine R_run hg.ok 1000 rfl rfl ?_
    · rw [if_pos h2] at hm
      refine R_ret hg 5 rfl rfl ?_
      rw [hm]; rfl
    · rw [if_neg (by rw [h2]; simp)] at hm
      exact R_next j ⟨by omega, hm⟩ (by omega) ⟨.refl _, .refl _, Ent.wrap (by omega) (by omega) (by omega), trivial⟩ rfl
  · have h := of_decide_eq_false h
    have h0 : k = 0 := by omega
    subst h0
    refine R_ret hg 5 rfl rfl ?_
    rw [hm]; rfl

def k7A : Tm := .mk 3 ⟨#[97]⟩ 0 []
def k7B : Tm := .mk 3 ⟨#[98]⟩ 0 []
def k7F (l : List Tm) : Tm := .mk 3 ⟨#[102]⟩ 0 l
def k7G (l : List Tm) : Tm := .mk 3 ⟨#[103]⟩ 0 l

theorem in7_fair (a b : Tm) (ha : a.rightB = true) (hb : b.rightB = true) : PCtr Try.prog 30 [a.av, b.av] (bV (inT a b)) :=
  in7_ok a b (right_small ha) (fair_names (right_fair ha)) (right_small hb) (fair_names (right_fair hb))

set_option maxRecDepth 100000 in
theorem knows7_ok : PCtr Try.prog 28 [] (bV true) := by
  have h1 := in7_fair (k7F [k7A]) (k7F [k7G [k7A]]) (by kernel_rfl) (by kernel_rfl)
  rw [show inT (k7F [k7A]) (k7F [k7G [k7A]]) = true by kernel_rfl] at h1
  have h2 := in7_fair (k7F [k7A]) (k7G [k7F [k7A], k7B]) (by kernel_rfl) (by kernel_rfl)
  rw [show inT (k7F [k7A]) (k7G [k7F [k7A], k7B]) = true by kernel_rfl] at h2
  have h3 := in7_fair (k7F [k7A, k7B]) (k7F [k7B, k7A]) (by kernel_rfl) (by kernel_rfl)
  rw [show inT (k7F [k7A, k7B]) (k7F [k7B, k7A]) = false by kernel_rfl] at h3
  have hs : ∀ x ∈ [k7A, k7A, k7B], x.size < 1000000000 ∧ ∀ d e, e ∈ x.els d → e.2.s.size < 1000000000 := fun x hx => by
    have hr : x.rightB = true := by
      simp only [List.mem_cons, List.not_mem_nil, or_false] at hx
      rcases hx with rfl | rfl | rfl <;> kernel_rfl
    exact ⟨right_small hr, fair_names (right_fair hr)⟩
  have ha : k7A.rightB = true := by kernel_rfl
  have h4 := whistle_ok [k7A, k7A, k7B] k7A (by decide) hs (right_small ha) (fair_names (right_fair ha))
  rw [show whGo [k7A, k7A, k7B] k7A [k7A, k7A, k7B].length = 1 by kernel_rfl] at h4
  have h5 := whistle_ok [] k7A (by decide) (by simp) (right_small ha) (fair_names (right_fair ha))
  rw [show whGo [] k7A [].length = -1 from rfl] at h5
  refine PCtr.of_R (pf := fun _ => .still) tyOk mixed Try.func28 rfl (by kernel_rfl) (by kernel_rfl) (by simp [Try.ntmps28]) fun w S hg => ?_
  refine R_run hg.ok 1000 rfl rfl ?_
  refine R_callN hg.ok (fun7_ok ⟨#[97]⟩ []) rfl rfl rfl rfl (by kernel_rfl) rfl rfl ?_
  refine R_run hg.ok 1000 rfl rfl ?_
  refine R_callN hg.ok (fun7_ok ⟨#[98]⟩ []) rfl rfl rfl rfl (by kernel_rfl) rfl rfl ?_
  refine R_run hg.ok 1000 rfl rfl ?_
  refine R_callN hg.ok (fun7_ok ⟨#[102]⟩ [k7A]) rfl rfl rfl rfl (by kernel_rfl) rfl rfl ?_
  refine R_run hg.ok 1000 rfl rfl ?_
  refine R_callN hg.ok (fun7_ok ⟨#[103]⟩ [k7A]) rfl rfl rfl rfl (by kernel_rfl) rfl rfl ?_
  refine R_run hg.ok 1000 rfl rfl ?_
  refine R_callN hg.ok (fun7_ok ⟨#[102]⟩ [k7G [k7A]]) rfl rfl rfl rfl (by kernel_rfl) rfl rfl ?_
  refine R_run hg.ok 1000 rfl rfl ?_
  refine R_callN hg.ok (h1) rfl rfl rfl rfl (by kernel_rfl) rfl rfl ?_
  refine R_run hg.ok 1000 rfl rfl ?_
  repeat
    first
    | (refine R_if rfl rfl (fun _ => ?_) (fun h => absurd h (by first | (simp; done) | (simp; omega))); refine R_run hg.ok 1000 rfl rfl ?_)
    | (refine R_if rfl rfl (fun h => absurd h (by first | (simp; done) | (simp; omega))) (fun _ => ?_); refine R_run hg.ok 1000 rfl rfl ?_)
  refine R_callN hg.ok (fun7_ok ⟨#[102]⟩ [k7A]) rfl rfl rfl rfl (by kernel_rfl) rfl rfl ?_
  refine R_run hg.ok 1000 rfl rfl ?_
  refine R_callN hg.ok (fun7_ok ⟨#[102]⟩ [k7A]) rfl rfl rfl rfl (by kernel_rfl) rfl rfl ?_
  refine R_run hg.ok 1000 rfl rfl ?_
  refine R_callN hg.ok (fun7_ok ⟨#[103]⟩ [k7F [k7A], k7B]) rfl rfl rfl rfl (by kernel_rfl) rfl rfl ?_
  refine R_run hg.ok 1000 rfl rfl ?_
  refine R_callN hg.ok (h2) rfl rfl rfl rfl (by kernel_rfl) rfl rfl ?_
  refine R_run hg.ok 1000 rfl rfl ?_
  repeat
    first
    | (refine R_if rfl rfl (fun _ => ?_) (fun h => absurd h (by first | (simp; done) | (simp; omega))); refine R_run hg.ok 1000 rfl rfl ?_)
    | (refine R_if rfl rfl (fun h => absurd h (by first | (simp; done) | (simp; omega))) (fun _ => ?_); refine R_run hg.ok 1000 rfl rfl ?_)
  refine R_callN hg.ok (fun7_ok ⟨#[102]⟩ [k7A, k7B]) rfl rfl rfl rfl (by kernel_rfl) rfl rfl ?_
  refine R_run hg.ok 1000 rfl rfl ?_
  refine R_callN hg.ok (fun7_ok ⟨#[102]⟩ [k7B, k7A]) rfl rfl rfl rfl (by kernel_rfl) rfl rfl ?_
  refine R_run hg.ok 1000 rfl rfl ?_
  refine R_callN hg.ok (h3) rfl rfl rfl rfl (by kernel_rfl) rfl rfl ?_
  refine R_run hg.ok 1000 rfl rfl ?_
  repeat
    first
    | (refine R_if rfl rfl (fun _ => ?_) (fun h => absurd h (by first | (simp; done) | (simp; omega))); refine R_run hg.ok 1000 rfl rfl ?_)
    | (refine R_if rfl rfl (fun h => absurd h (by first | (simp; done) | (simp; omega))) (fun _ => ?_); refine R_run hg.ok 1000 rfl rfl ?_)
  refine R_callN hg.ok (h4) rfl rfl rfl rfl (by kernel_rfl) rfl rfl ?_
  refine R_run hg.ok 1000 rfl rfl ?_
  repeat
    first
    | (refine R_if rfl rfl (fun _ => ?_) (fun h => absurd h (by first | (simp; done) | (simp; omega))); refine R_run hg.ok 1000 rfl rfl ?_)
    | (refine R_if rfl rfl (fun h => absurd h (by first | (simp; done) | (simp; omega))) (fun _ => ?_); refine R_run hg.ok 1000 rfl rfl ?_)
  refine R_callN hg.ok (h5) rfl rfl rfl rfl (by kernel_rfl) rfl rfl ?_
  refine R_run hg.ok 1000 rfl rfl ?_
  refine R_ret hg 5 rfl rfl ?_
  rfl

set_option maxRecDepth 100000 in
theorem small7_ok (l : List Tm) (hl : ∀ t ∈ l, t.Ok) (hlen : l.length < 4611686018427387904) : PCtr Try.prog 27 [.d (.sl (Tm.rows l))] (bV (smallS l)) := by
  refine PCtr.of_R (pf := fun _ => .still) tyOk mixed Try.func27 rfl (by kernel_rfl) (by kernel_rfl) (by simp [Try.ntmps27]) fun w S hg => ?_
  refine R_run hg.ok 1000 rfl rfl ?_
  refine R_loop (fun x : Nat × Int => ([(0, .d (.sl (Tm.rows l))), (3, iV x.2), (4, iV x.1)], [])) (fun x => x.1 ≤ l.length ∧ Tm.fewL l 60 200 = Tm.fewL (l.drop x.1) x.2 200) (fun x => l.length - x.1) (0, 60) ⟨Nat.zero_le _, rfl⟩ ⟨.refl _, .refl _, .refl _, trivial⟩ rfl ?_
  rintro ⟨k, q⟩ ⟨hk, hm⟩
  simp only at hk hm
  refine R_run hg.ok 1000 rfl rfl ?_
  refine R_if rfl rfl (fun h => ?_) (fun h => ?_) <;> refine R_run hg.ok 1000 rfl rfl ?_
  · have hk1 : k < l.length := lt_dec h (by rw [Tm.rows_length])
    have e1 : l[k]? = some l[k] := List.getElem?_eq_getElem hk1
    rw [List.drop_eq_getElem_cons hk1, Tm.fewL] at hm
    refine R_if rfl rfl (fun h2 => ?_) (fun h2 => ?_) <;> refine R_run hg.ok 1000 rfl rfl ?_
    · rw [if_pos (of_decide_eq_true h2)] at hm
      refine R_index hg.ok rfl rfl rfl rfl rfl rfl (Int.natCast_nonneg _) (Tm.rows_get e1) rfl ?_
      refine R_run hg.ok 1000 rfl rfl ?_
      refine R_call hg.ok (few_ok _ (hl _ (List.getElem_mem hk1)) _ _) rfl rfl rfl rfl rfl rfl ?_
      refine R_run hg.ok 1000 rfl rfl ?_
      exact R_next (k + 1, l[k].few q 200) ⟨hk1, hm⟩ (by simp only; omega) ⟨.refl _, .refl _, Ent.wrap (by simp only; omega) (by simp only; omega) (by simp only; omega), trivial⟩ rfl
    · have h2 := of_decide_eq_false h2
      rw [if_neg h2] at hm
      refine R_ret hg 5 rfl rfl ?_
      unfold smallS
      rw [hm]; rfl
  · have hk1 : l.length ≤ k := ge_dec h (by rw [Tm.rows_length])
    rw [List.drop_eq_nil_of_le hk1, Tm.fewL] at hm
    refine R_ret hg 5 rfl rfl ?_
    unfold smallS
    rw [hm]; rfl

theorem blind_head (t : Tm) : Tm.blind t = .mk t.k t.s 0 (t.l.map Tm.blind) := Tm.blind_eq t

set_option maxRecDepth 100000 in
theorem blind_ok : ∀ (N : Nat) (t : Tm), t.size ≤ N → N ≤ 10000 → PCtr Try.prog 32 [t.av] (Tm.blind t).av := by
  intro N
  induction N with
  | zero => intro t h; have := Tm.size_eq t; omega
  | succ N ih =>
  intro t hN hb
  have hsz := Tm.size_eq t
  have hll := Tm.len_le_sizeL t.l
  refine PCtr.of_R (pf := fun _ => .still) tyOk mixed Try.func32 rfl (by kernel_rfl) (by kernel_rfl) (by simp [Try.ntmps32]) fun w S hg => ?_
  refine R_run hg.ok 1000 rfl rfl ?_
  refine R_ownB 2 3 4 rfl rfl rfl ?_
  refine R_loop (fun k : Nat => ([(1, .lo 0 0), (2, .lo 1 0), (3, .lo 2 0), (4, iV k)], [boxR t, zBxS, .box [.d (.v (.int .i64 t.k)), .d (.v (.string t.s)), .d (.v (.int .i64 0)), .ow 3 k], .arr 4 k (Tm.rows ((t.l.take k).map Tm.blind))])) (fun k => k ≤ t.l.length) (fun k => t.l.length - k) 0 (Nat.zero_le _) ⟨.refl _, .refl _, .refl _, .refl _, trivial⟩ rfl ?_
  rintro k hk
  refine R_run hg.ok 1000 rfl rfl ?_
  refine R_if rfl rfl (fun h => ?_) (fun h => ?_) <;> refine R_run hg.ok 1000 rfl rfl ?_
  · have hk1 : k < t.l.length := lt_dec h (by rw [Tm.rows_length])
    have e1 : t.l[k]? = some t.l[k] := List.getElem?_eq_getElem hk1
    refine R_index hg.ok rfl rfl rfl rfl rfl rfl (Int.natCast_nonneg _) (Tm.rows_get e1) rfl ?_
    refine R_run hg.ok 1000 rfl rfl ?_
    refine R_call hg.ok (ih t.l[k] (by have := Tm.size_mem (List.getElem_mem hk1); omega) (by omega)) rfl rfl rfl rfl rfl rfl ?_
    refine R_run hg.ok 1000 rfl rfl ?_
    refine R_appendO hg.ok (Tm.rows ((t.l.take (k + 1)).map Tm.blind)) rfl rfl rfl rfl rfl rfl rfl rfl rfl (by simp) (by simp [one1]) (rowsMap_snoc Tm.blind e1) (by rw [Tm.rows_length]; simp; omega) (by rw [Tm.rows_length]; simp; omega) ?_
    refine R_run hg.ok 1000 rfl rfl ?_
    exact R_next (k + 1) hk1 (by omega) ⟨.refl _, .refl _, .refl _, Ent.wrap (by omega) (by omega) (by omega), trivial⟩ rfl
  · have hk1 : t.l.length ≤ k := ge_dec h (by rw [Tm.rows_length])
    rw [List.take_of_length_le hk1, blind_head]
    refine R_ret hg 5 rfl (sealA_term rfl rfl rfl rfl) ?_
    rfl

theorem names7 {t : Tm} (h : ∀ x e, e ∈ t.els x → e.2.s.size ≤ 100) : ∀ x e, e ∈ t.els x → e.2.s.size < 1000000000 := fun x e he => by have := h x e he; omega

set_option maxRecDepth 100000 in
theorem embedTells_ok (a b : Tm) (ha : a.Ok) (hb : b.Ok) : PCtr Try.prog 7 [a.av, b.av] (bV true) := by
  refine PCtr.of_R (pf := fun _ => .still) tyOk mixed Try.func7 rfl (by kernel_rfl) (by kernel_rfl) (by simp [Try.ntmps7]) fun w S hg => ?_
  refine R_run hg.ok 1000 rfl rfl ?_
  refine R_call hg.ok ((small7_ok [a, b] (by simp; exact ⟨ha, hb⟩) (by simp)).two) rfl rfl rfl rfl rfl rfl ?_
  refine R_run hg.ok 1000 rfl rfl ?_
  refine R_if rfl rfl (fun h => ?_) (fun h => ?_) <;> refine R_run hg.ok 1000 rfl rfl ?_
  · refine R_call hg.ok (knows7_ok) rfl rfl rfl rfl rfl rfl ?_
    refine R_run hg.ok 1000 rfl rfl ?_
    refine R_ret hg 5 rfl rfl ?_
    rfl
  have hs : smallS [a, b] = true := by simpa using h
  obtain ⟨h1, h2⟩ := smallS_ok hs
  simp only [Tm.sizeL] at h1
  have na := names7 (t := a) fun x e he => h2 x e (Tm.els_memL (by simp) he)
  have nb := names7 (t := b) fun x e he => h2 x e (Tm.els_memL (by simp) he)
  have hI := in7_ok a b (by omega) na (by omega) nb
  unfold inT at hI
  refine R_call hg.ok (refRight_ok a (by omega) na) rfl rfl rfl rfl rfl rfl ?_
  refine R_run hg.ok 1000 rfl rfl ?_
  refine R_if rfl rfl (fun ra => ?_) (fun ra => ?_) <;> refine R_run hg.ok 1000 rfl rfl ?_
  · refine R_call hg.ok (refRight_ok b (by omega) nb) rfl rfl rfl rfl rfl rfl ?_
    refine R_run hg.ok 1000 rfl rfl ?_
    refine R_if rfl rfl (fun rb => ?_) (fun rb => ?_) <;> refine R_run hg.ok 1000 rfl rfl ?_
    · refine R_call hg.ok (refIn_ok a b (right_fair ra) (right_fair rb) (by omega) (by omega)) rfl rfl rfl rfl rfl rfl ?_
      refine R_run hg.ok 1000 rfl rfl ?_
      refine R_call hg.ok (hI) rfl rfl rfl rfl rfl rfl ?_
      refine R_run hg.ok 1000 rfl rfl ?_
      refine R_if rfl rfl (fun _ => ?_) (fun h => absurd h (by rw [ra, rb]; simp)) <;> refine R_run hg.ok 1000 rfl rfl ?_
      refine R_call hg.ok (knows7_ok) rfl rfl rfl rfl rfl rfl ?_
      refine R_run hg.ok 1000 rfl rfl ?_
      refine R_ret hg 5 rfl rfl ?_
      rfl
    · refine R_call hg.ok (hI) rfl rfl rfl rfl rfl rfl ?_
      refine R_run hg.ok 1000 rfl rfl ?_
      refine R_if rfl rfl (fun _ => ?_) (fun h => absurd h (by rw [rb]; simp)) <;> refine R_run hg.ok 1000 rfl rfl ?_
      refine R_call hg.ok (knows7_ok) rfl rfl rfl rfl rfl rfl ?_
      refine R_run hg.ok 1000 rfl rfl ?_
      refine R_ret hg 5 rfl rfl ?_
      rfl
  · refine R_call hg.ok (hI) rfl rfl rfl rfl rfl rfl ?_
    refine R_run hg.ok 1000 rfl rfl ?_
    refine R_if rfl rfl (fun _ => ?_) (fun h => absurd h (by rw [ra]; simp)) <;> refine R_run hg.ok 1000 rfl rfl ?_
    refine R_call hg.ok (knows7_ok) rfl rfl rfl rfl rfl rfl ?_
    refine R_run hg.ok 1000 rfl rfl ?_
    refine R_ret hg 5 rfl rfl ?_
    rfl

set_option maxRecDepth 100000 in
theorem embedOrders_ok (a b c : Tm) (ha : a.Ok) (hb : b.Ok) (hc : c.Ok) : PCtr Try.prog 8 [a.av, b.av, c.av] (bV true) := by
  obtain ⟨a1, a2, a3⟩ := few_bound a (m := 500) (d := 200) (by omega) (by omega) (by omega)
  obtain ⟨b1, b2, b3⟩ := few_bound b (m := a.few 500 200) (d := 200) (by omega) (by omega) (by omega)
  obtain ⟨c1, c2, c3⟩ := few_bound c (m := b.few (a.few 500 200) 200) (d := 200) (by omega) (by omega) (by omega)
  refine PCtr.of_R (pf := fun _ => .still) tyOk mixed Try.func8 rfl (by kernel_rfl) (by kernel_rfl) (by simp [Try.ntmps8]) fun w S hg => ?_
  refine R_run hg.ok 1000 rfl rfl ?_
  refine R_call hg.ok (few_ok a ha 500 200) rfl rfl rfl rfl rfl rfl ?_
  refine R_run hg.ok 1000 rfl rfl ?_
  refine R_call hg.ok (few_ok b hb _ 200) rfl rfl rfl rfl rfl rfl ?_
  refine R_run hg.ok 1000 rfl rfl ?_
  refine R_call hg.ok (few_ok c hc _ 200) rfl rfl rfl rfl rfl rfl ?_
  refine R_run hg.ok 1000 rfl rfl ?_
  refine R_if rfl rfl (fun h => ?_) (fun h => ?_) <;> refine R_run hg.ok 1000 rfl rfl ?_
  · refine R_call hg.ok (knows7_ok) rfl rfl rfl rfl rfl rfl ?_
    refine R_run hg.ok 1000 rfl rfl ?_
    refine R_ret hg 5 rfl rfl ?_
    rfl
  have h := of_decide_eq_false h
  obtain ⟨c4, nc⟩ := c3 (by omega)
  obtain ⟨b4, nb⟩ := b3 (by omega)
  obtain ⟨a4, na⟩ := a3 (by omega)
  have na := names7 na
  have nb := names7 nb
  have nc := names7 nc
  refine R_call hg.ok (refRight_ok a (by omega) na) rfl rfl rfl rfl rfl rfl ?_
  refine R_run hg.ok 1000 rfl rfl ?_
  refine R_if rfl rfl (fun ra => ?_) (fun ra => ?_) <;> refine R_run hg.ok 1000 rfl rfl ?_
  · refine R_call hg.ok (knows7_ok) rfl rfl rfl rfl rfl rfl ?_
    refine R_run hg.ok 1000 rfl rfl ?_
    refine R_ret hg 5 rfl rfl ?_
    rfl
  have ra : a.rightB = true := by simpa using ra
  refine R_call hg.ok (refRight_ok b (by omega) nb) rfl rfl rfl rfl rfl rfl ?_
  refine R_run hg.ok 1000 rfl rfl ?_
  refine R_if rfl rfl (fun rb => ?_) (fun rb => ?_) <;> refine R_run hg.ok 1000 rfl rfl ?_
  · refine R_call hg.ok (knows7_ok) rfl rfl rfl rfl rfl rfl ?_
    refine R_run hg.ok 1000 rfl rfl ?_
    refine R_ret hg 5 rfl rfl ?_
    rfl
  have rb : b.rightB = true := by simpa using rb
  refine R_call hg.ok (refRight_ok c (by omega) nc) rfl rfl rfl rfl rfl rfl ?_
  refine R_run hg.ok 1000 rfl rfl ?_
  refine R_if rfl rfl (fun rc => ?_) (fun rc => ?_) <;> refine R_run hg.ok 1000 rfl rfl ?_
  · refine R_call hg.ok (knows7_ok) rfl rfl rfl rfl rfl rfl ?_
    refine R_run hg.ok 1000 rfl rfl ?_
    refine R_ret hg 5 rfl rfl ?_
    rfl
  have rc : c.rightB = true := by simpa using rc
  refine R_loop (fun k : Nat => ([(3, .lo 0 0), (4, .lo 1 0), (5, .lo 2 0), (8, iV k)], [boxR a, boxR b, boxR c])) (fun k => k ≤ a.l.length) (fun k => a.l.length - k) 0 (Nat.zero_le _) ⟨.refl _, .refl _, .refl _, .refl _, trivial⟩ rfl ?_
  rintro k hk
  refine R_run hg.ok 1000 rfl rfl ?_
  refine R_if rfl rfl (fun h => ?_) (fun h => ?_) <;> refine R_run hg.ok 1000 rfl rfl ?_
  · have hk1 : k < a.l.length := lt_dec h (by rw [Tm.rows_length])
    have e1 : a.l[k]? = some a.l[k] := List.getElem?_eq_getElem hk1
    have hx := List.getElem_mem hk1
    have rx : (a.l[k]).rightB = true := by
      have r := Tm.rightB_iff.1 ra
      have d := Tm.depth_mem hx
      have e := Tm.depth_eq a
      have z := Tm.size_kid hx
      exact Tm.rightB_iff.2 ⟨Tm.fair_kid r.1 hx, by omega, by omega⟩
    have ll := Tm.len_le_sizeL a.l
    have sz := Tm.size_eq a
    refine R_index hg.ok rfl rfl rfl rfl rfl rfl (Int.natCast_nonneg _) (Tm.rows_get e1) rfl ?_
    refine R_run hg.ok 1000 rfl rfl ?_
    refine R_call hg.ok (in7_fair a.l[k] a rx ra) rfl rfl rfl rfl rfl rfl ?_
    refine R_run hg.ok 1000 rfl rfl ?_
    refine R_if rfl rfl (fun h => absurd h (by unfold inT; rw [rx, ra, Tm.emb_kid hx]; simp)) (fun _ => ?_) <;> refine R_run hg.ok 1000 rfl rfl ?_
    exact R_next (k + 1) hk1 (by omega) ⟨.refl _, .refl _, .refl _, Ent.wrap (by omega) (by omega) (by omega), trivial⟩ rfl
  have iaa : inT a a = true := by unfold inT; rw [ra, Tm.emb_refl _ a (Nat.le_refl _)]; rfl
  have hab := in7_fair a b ra rb
  have hbc := in7_fair b c rb rc
  have hac := in7_fair a c ra rc
  have tr : inT a b = true → inT b c = true → inT a c = true := fun h1 h2 => by
    simp only [inT, Bool.and_eq_true] at h1 h2 ⊢
    exact ⟨⟨ra, rc⟩, Tm.emb_trans _ c b a (Nat.le_refl _) (right_fair rb) h2.2 h1.2⟩
  refine R_call hg.ok (in7_fair a a ra ra) rfl rfl rfl rfl rfl rfl ?_
  refine R_run hg.ok 1000 rfl rfl ?_
  refine R_if rfl rfl (fun _ => ?_) (fun h => absurd h (by rw [iaa]; simp)) <;> refine R_run hg.ok 1000 rfl rfl ?_
  refine R_call hg.ok (hab) rfl rfl rfl rfl rfl rfl ?_
  refine R_run hg.ok 1000 rfl rfl ?_
  refine R_if rfl rfl (fun h1 => ?_) (fun h1 => ?_) <;> refine R_run hg.ok 1000 rfl rfl ?_
  · repeat
      first
      | (refine R_if rfl rfl (fun _ => ?_) (fun h => absurd h (by first | (simp; done) | (simp; omega))); refine R_run hg.ok 1000 rfl rfl ?_)
      | (refine R_if rfl rfl (fun h => absurd h (by first | (simp; done) | (simp; omega))) (fun _ => ?_); refine R_run hg.ok 1000 rfl rfl ?_)
    refine R_call hg.ok (knows7_ok) rfl rfl rfl rfl rfl rfl ?_
    refine R_run hg.ok 1000 rfl rfl ?_
    refine R_ret hg 5 rfl rfl ?_
    rfl
  have h1 : inT a b = true := by simpa using h1
  refine R_call hg.ok (hbc) rfl rfl rfl rfl rfl rfl ?_
  refine R_run hg.ok 1000 rfl rfl ?_
  refine R_if rfl rfl (fun h2 => ?_) (fun h2 => ?_) <;> refine R_run hg.ok 1000 rfl rfl ?_
  · repeat
      first
      | (refine R_if rfl rfl (fun _ => ?_) (fun h => absurd h (by first | (simp; done) | (simp; omega))); refine R_run hg.ok 1000 rfl rfl ?_)
      | (refine R_if rfl rfl (fun h => absurd h (by first | (simp; done) | (simp; omega))) (fun _ => ?_); refine R_run hg.ok 1000 rfl rfl ?_)
    refine R_call hg.ok (knows7_ok) rfl rfl rfl rfl rfl rfl ?_
    refine R_run hg.ok 1000 rfl rfl ?_
    refine R_ret hg 5 rfl rfl ?_
    rfl
  have h2 : inT b c = true := by simpa using h2
  refine R_call hg.ok (hac) rfl rfl rfl rfl rfl rfl ?_
  refine R_run hg.ok 1000 rfl rfl ?_
  repeat
    first
    | (refine R_if rfl rfl (fun _ => ?_) (fun h => absurd h (by first | (simp [tr h1 h2]; done) | (simp [tr h1 h2]; omega))); refine R_run hg.ok 1000 rfl rfl ?_)
    | (refine R_if rfl rfl (fun h => absurd h (by first | (simp [tr h1 h2]; done) | (simp [tr h1 h2]; omega))) (fun _ => ?_); refine R_run hg.ok 1000 rfl rfl ?_)
  refine R_call hg.ok (knows7_ok) rfl rfl rfl rfl rfl rfl ?_
  refine R_run hg.ok 1000 rfl rfl ?_
  refine R_ret hg 5 rfl rfl ?_
  rfl

set_option maxRecDepth 100000 in
theorem embedGrows_ok (a b : Tm) (ha : a.Ok) (hb : b.Ok) : PCtr Try.prog 9 [a.av, b.av] (bV true) := by
  obtain ⟨a1, a2, a3⟩ := few_bound a (m := 500) (d := 200) (by omega) (by omega) (by omega)
  obtain ⟨b1, b2, b3⟩ := few_bound b (m := a.few 500 200) (d := 200) (by omega) (by omega) (by omega)
  refine PCtr.of_R (pf := fun _ => .still) tyOk mixed Try.func9 rfl (by kernel_rfl) (by kernel_rfl) (by simp [Try.ntmps9]) fun w S hg => ?_
  refine R_run hg.ok 1000 rfl rfl ?_
  refine R_call hg.ok (few_ok a ha 500 200) rfl rfl rfl rfl rfl rfl ?_
  refine R_run hg.ok 1000 rfl rfl ?_
  refine R_call hg.ok (few_ok b hb _ 200) rfl rfl rfl rfl rfl rfl ?_
  refine R_run hg.ok 1000 rfl rfl ?_
  refine R_if rfl rfl (fun h => ?_) (fun h => ?_) <;> refine R_run hg.ok 1000 rfl rfl ?_
  · refine R_call hg.ok (knows7_ok) rfl rfl rfl rfl rfl rfl ?_
    refine R_run hg.ok 1000 rfl rfl ?_
    refine R_ret hg 5 rfl rfl ?_
    rfl
  have h := of_decide_eq_false h
  obtain ⟨b4, nb⟩ := b3 (by omega)
  obtain ⟨a4, na⟩ := a3 (by omega)
  have na := names7 na
  have nb := names7 nb
  refine R_call hg.ok (in7_ok a b (by omega) na (by omega) nb) rfl rfl rfl rfl rfl rfl ?_
  refine R_run hg.ok 1000 rfl rfl ?_
  refine R_if rfl rfl (fun h1 => ?_) (fun h1 => ?_) <;> refine R_run hg.ok 1000 rfl rfl ?_
  · refine R_call hg.ok (knows7_ok) rfl rfl rfl rfl rfl rfl ?_
    refine R_run hg.ok 1000 rfl rfl ?_
    refine R_ret hg 5 rfl rfl ?_
    rfl
  have h1 : inT a b = true := by simpa using h1
  simp only [inT, Bool.and_eq_true] at h1
  obtain ⟨⟨ra, rb⟩, he⟩ := h1
  obtain ⟨g1, g2⟩ := Tm.emb_grows _ b a (Nat.le_refl _) (right_fair rb) (right_fair ra) he
  refine R_call hg.ok (size_ok a (by omega)) rfl rfl rfl rfl rfl rfl ?_
  refine R_run hg.ok 1000 rfl rfl ?_
  refine R_call hg.ok (size_ok b (by omega)) rfl rfl rfl rfl rfl rfl ?_
  refine R_run hg.ok 1000 rfl rfl ?_
  refine R_if rfl rfl (fun _ => ?_) (fun h => absurd h (by simp; omega)) <;> refine R_run hg.ok 1000 rfl rfl ?_
  refine R_if rfl rfl (fun h2 => ?_) (fun h2 => ?_) <;> refine R_run hg.ok 1000 rfl rfl ?_
  · repeat
      first
      | (refine R_if rfl rfl (fun _ => ?_) (fun h => absurd h (by first | (simp; done) | (simp; omega))); refine R_run hg.ok 1000 rfl rfl ?_)
      | (refine R_if rfl rfl (fun h => absurd h (by first | (simp; done) | (simp; omega))) (fun _ => ?_); refine R_run hg.ok 1000 rfl rfl ?_)
    refine R_call hg.ok (knows7_ok) rfl rfl rfl rfl rfl rfl ?_
    refine R_run hg.ok 1000 rfl rfl ?_
    refine R_ret hg 5 rfl rfl ?_
    rfl
  have h2 := of_decide_eq_false h2
  have e : Tm.blind a = Tm.blind b := g2 (by omega)
  refine R_call hg.ok (blind_ok 10000 a (by omega) (by omega)) rfl rfl rfl rfl rfl rfl ?_
  refine R_run hg.ok 1000 rfl rfl ?_
  refine R_call hg.ok (blind_ok 10000 b (by omega) (by omega)) rfl rfl rfl rfl rfl rfl ?_
  refine R_run hg.ok 1000 rfl rfl ?_
  rw [e]
  refine R_call hg.ok (refSame_ok (Tm.blind b) (Tm.blind b) (by rw [Tm.blind_size]; omega)) rfl rfl rfl rfl rfl rfl ?_
  refine R_run hg.ok 1000 rfl rfl ?_
  repeat
    first
    | (refine R_if rfl rfl (fun _ => ?_) (fun h => absurd h (by first | (simp [Tm.same_refl]; done) | (simp [Tm.same_refl]; omega))); refine R_run hg.ok 1000 rfl rfl ?_)
    | (refine R_if rfl rfl (fun h => absurd h (by first | (simp [Tm.same_refl]; done) | (simp [Tm.same_refl]; omega))) (fun _ => ?_); refine R_run hg.ok 1000 rfl rfl ?_)
  refine R_call hg.ok (knows7_ok) rfl rfl rfl rfl rfl rfl ?_
  refine R_run hg.ok 1000 rfl rfl ?_
  refine R_ret hg 5 rfl rfl ?_
  rfl
end Go.Proofs.Ytppghekipbnjhaa
