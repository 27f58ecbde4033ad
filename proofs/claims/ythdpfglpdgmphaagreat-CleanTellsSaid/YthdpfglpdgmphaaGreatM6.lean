import Derived.Test.YthdpfglpdgmphaaGreatM5
namespace Go.Proofs.YthdpfglpdgmphaaGreat
open Go PSL Go.Proofs

theorem sgOf_dec (a b : Tm) : decide (sgOf a = sgOf b) = (strEq a.s b.s && (((Tm.rows a.l).length : Int) == ((Tm.rows b.l).length : Int))) := by
 rw [Tm.rows_length, Tm.rows_length, Bool.eq_iff_iff]
 simp only [decide_eq_true_eq, sgOf, Prod.mk.injEq, Bool.and_eq_true, beq_iff_eq, Tm.strEq_iff]

theorem hasH_drop {l : List Cs} {k : Nat} {c : Cs} (p : Sg) (h : l[k]? = some c) : hasH (l.drop k) p = (decide (sgOf c.head = p) || hasH (l.drop (k + 1)) p) := by
 obtain ⟨hk, he⟩ := List.getElem?_eq_some_iff.1 h
 rw [List.drop_eq_getElem_cons hk, he]; rfl

theorem there1_or (has : Sg → Bool) (g : Gl) : there1 has g = (((g.k != 1) || has (sgOf g.t)) && thereL has g.a && thereL has g.b && thereL has g.c) := by
 rw [there1_eq]
 have : (!((g.k == 1) && !has (sgOf g.t))) = ((g.k != 1) || has (sgOf g.t)) := by
  show _ = (!(g.k == 1) || has (sgOf g.t))
  cases (g.k == 1) <;> cases has (sgOf g.t) <;> rfl
 rw [this]

set_option maxHeartbeats 4000000 in
set_option maxRecDepth 100000 in
theorem refThere_ok (p : List Cs) (hp : p.length ≤ 1000000) (l : List Gl) : Gl.sizeL l ≤ 1000000 → PCtr Tryz.prog 14 [.d (.sl (Gl.rows l)), prV p] (bV (thereL (hasH p) l)) := by
 refine Gl.indL (p := fun l => Gl.sizeL l ≤ 1000000 → PCtr Tryz.prog 14 [.d (.sl (Gl.rows l)), prV p] (bV (thereL (hasH p) l))) (fun l hsub => ?_) l
 intro hl
 have hlen := Gl.len_size l
 have hrl := Gl.rows_length l
 have hrp := Cs.rows_len p
 refine PCtr.of_R (pf := fun _ => .eff) tyOk mixed Tryz.func14 rfl (by kernel_rfl) (by kernel_rfl) (by simp [Tryz.ntmps14]) fun w S hg => ?_
 refine R_run hg.ok 1000 rfl rfl ?_
 refine R_loop (fun k : Nat => ([(0, .d (.sl (Gl.rows l))), (3, .lo 0 0), (5, iV k)], [.box [.d (.sl (Cs.rows p))]])) (fun k => k ≤ l.length ∧ thereL (hasH p) l = thereL (hasH p) (l.drop k)) (fun k => l.length - k) 0 ⟨Nat.zero_le _, rfl⟩ ⟨.refl _, .refl _, .refl _, trivial⟩ rfl ?_
 rintro i ⟨hi, hm⟩
 refine R_run hg.ok 1000 rfl rfl ?_
 refine R_if rfl rfl (fun h => ?_) (fun h => ?_) <;> refine R_run hg.ok 1000 rfl rfl ?_
 rotate_left
 ·have hk1 : l.length ≤ i := ge_dec h (by rw [hrl])
  refine R_ret hg 5 rfl rfl ?_
  rw [hm, List.drop_eq_nil_of_le hk1]; rfl
 have hk1 : i < l.length := lt_dec h (by rw [hrl])
 have e1 : l[i]? = some l[i] := List.getElem?_eq_getElem hk1
 have hmem := List.getElem_mem hk1
 rw [List.drop_eq_getElem_cons hk1] at hm
 generalize l[i] = g at e1 hm hmem
 have hsz := Gl.size_mem hmem
 have hge := Gl.size_eq g
 obtain ⟨sa, sb, sc⟩ := hsub g hmem
 simp only [thereL, there1_or] at hm
 refine R_index hg.ok rfl rfl rfl rfl rfl rfl (Int.natCast_nonneg _) (Gl.rows_get e1) rfl ?_
 refine R_run hg.ok 1000 rfl rfl ?_
 refine R_cut2 (fun _ : Unit => ([(0, .d (.sl (Gl.rows l))), (3, .lo 0 0), (5, iV i), (6, bV ((g.k != 1) || hasH p (sgOf g.t)))], [.box [.d (.sl (Cs.rows p))]])) (fun _ => True) rfl ?_ ?_
 ·refine R_loop (fun x : Nat × Bool => ([(0, .d (.sl (Gl.rows l))), (3, .lo 0 0), (5, iV i), (6, bV x.2), (7, iV x.1)], [.box [.d (.sl (Cs.rows p))]])) (fun x => x.1 ≤ p.length ∧ ((g.k != 1) || hasH p (sgOf g.t)) = (x.2 || hasH (p.drop x.1) (sgOf g.t))) (fun x => p.length - x.1) (0, g.k != 1) ⟨Nat.zero_le _, rfl⟩ ⟨.refl _, .refl _, .refl _, .refl _, .refl _, trivial⟩ rfl ?_
  rintro ⟨k, f⟩ ⟨hk, hn⟩
  refine R_run hg.ok 1000 rfl rfl ?_
  refine R_if rfl rfl (fun h => ?_) (fun h => ?_) <;> refine R_run hg.ok 1000 rfl rfl ?_
  rotate_left
  ·have hk2 : p.length ≤ k := ge_dec h (by rw [hrp])
   have hn : ((g.k != 1) || hasH p (sgOf g.t)) = (f || hasH (p.drop k) (sgOf g.t)) := hn
   rw [List.drop_eq_nil_of_le hk2] at hn
   exact R_to () trivial ⟨.refl _, .refl _, .refl _, by rw [hn, show hasH [] (sgOf g.t) = false from rfl, Bool.or_false]; exact .refl _, trivial⟩ rfl
  have hk2 : k < p.length := lt_dec h (by rw [hrp])
  have e2 : p[k]? = some p[k] := List.getElem?_eq_getElem hk2
  generalize p[k] = c at e2
  have hn : ((g.k != 1) || hasH p (sgOf g.t)) = (f || hasH (p.drop k) (sgOf g.t)) := hn
  rw [hasH_drop _ e2, sgOf_dec] at hn
  refine R_index hg.ok rfl rfl rfl rfl rfl rfl (Int.natCast_nonneg _) (Cs.rows_get e2) rfl ?_
  refine R_run hg.ok 1000 rfl rfl ?_
  cases f with
  | true =>
   refine R_if rfl rfl (fun _ => ?_) (fun h => absurd h (by simp)) <;> refine R_run hg.ok 1000 rfl rfl ?_
   refine R_dropO 1 [.box [.d (.sl (Cs.rows p))]] (Nat.zero_le _) rfl rfl ?_
   exact R_next (k + 1, true) ⟨hk2, hn⟩ (by simp only; omega) ⟨.refl _, .refl _, .refl _, (by first | exact .refl _ | exact .tt), Ent.wrap (by simp only; omega) (by simp only; omega) (by simp only; omega), trivial⟩ rfl
  | false =>
   refine R_if rfl rfl (fun h => absurd h (by simp)) (fun _ => ?_) <;> refine R_run hg.ok 1000 rfl rfl ?_
   refine R_index hg.ok rfl rfl rfl rfl rfl rfl (Int.natCast_nonneg _) (Gl.rows_get e1) rfl ?_
   refine R_run hg.ok 1000 rfl rfl ?_
   refine R_if rfl rfl (fun n1 => ?_) (fun n1 => ?_) <;> refine R_run hg.ok 1000 rfl rfl ?_
   ·refine R_index hg.ok rfl rfl rfl rfl rfl rfl (Int.natCast_nonneg _) (Gl.rows_get e1) rfl ?_
    refine R_run hg.ok 1000 rfl rfl ?_
    rw [n1, Bool.true_and, Bool.false_or] at hn
    refine R_dropO 1 [.box [.d (.sl (Cs.rows p))]] (Nat.zero_le _) rfl rfl ?_
    exact R_next (k + 1, ((Tm.rows c.head.l).length : Int) == ((Tm.rows g.t.l).length : Int)) ⟨hk2, hn⟩ (by simp only; omega) ⟨.refl _, .refl _, .refl _, .refl _, Ent.wrap (by simp only; omega) (by simp only; omega) (by simp only; omega), trivial⟩ rfl
   ·rw [n1, Bool.false_and, Bool.false_or] at hn
    refine R_dropO 1 [.box [.d (.sl (Cs.rows p))]] (Nat.zero_le _) rfl rfl ?_
    exact R_next (k + 1, false) ⟨hk2, hn⟩ (by simp only; omega) ⟨.refl _, .refl _, .refl _, (by first | exact .refl _ | exact .ff), Ent.wrap (by simp only; omega) (by simp only; omega) (by simp only; omega), trivial⟩ rfl
 rintro _ _
 refine R_run hg.ok 1000 rfl rfl ?_
 refine R_if rfl rfl (fun n0 => ?_) (fun n0 => ?_) <;> refine R_run hg.ok 1000 rfl rfl ?_
 ·refine R_ret hg 5 rfl rfl ?_
  rw [hm, show ((g.k != 1) || hasH p (sgOf g.t)) = false from (Bool.not_eq_true' _).mp n0]; rfl
 have n0 : ((g.k != 1) || hasH p (sgOf g.t)) = true := (Bool.not_eq_false' _).mp n0
 refine R_index hg.ok rfl rfl rfl rfl rfl rfl (Int.natCast_nonneg _) (Gl.rows_get e1) rfl ?_
 refine R_run hg.ok 1000 rfl rfl ?_
 refine R_call hg.ok (sa (by omega)) rfl rfl rfl rfl rfl rfl ?_
 refine R_run hg.ok 1000 rfl rfl ?_
 refine R_if rfl rfl (fun n1 => ?_) (fun n1 => ?_) <;> refine R_run hg.ok 1000 rfl rfl ?_
 ·refine R_ret hg 5 rfl rfl ?_
  rw [hm, n0, show thereL (hasH p) g.a = false by simpa using n1]; rfl
 have n1 : thereL (hasH p) g.a = true := by simpa using n1
 refine R_index hg.ok rfl rfl rfl rfl rfl rfl (Int.natCast_nonneg _) (Gl.rows_get e1) rfl ?_
 refine R_run hg.ok 1000 rfl rfl ?_
 refine R_call hg.ok (sb (by omega)) rfl rfl rfl rfl rfl rfl ?_
 refine R_run hg.ok 1000 rfl rfl ?_
 refine R_if rfl rfl (fun n2 => ?_) (fun n2 => ?_) <;> refine R_run hg.ok 1000 rfl rfl ?_
 ·refine R_ret hg 5 rfl rfl ?_
  rw [hm, n0, n1, show thereL (hasH p) g.b = false by simpa using n2]; rfl
 have n2 : thereL (hasH p) g.b = true := by simpa using n2
 refine R_index hg.ok rfl rfl rfl rfl rfl rfl (Int.natCast_nonneg _) (Gl.rows_get e1) rfl ?_
 refine R_run hg.ok 1000 rfl rfl ?_
 refine R_call hg.ok (sc (by omega)) rfl rfl rfl rfl rfl rfl ?_
 refine R_run hg.ok 1000 rfl rfl ?_
 refine R_if rfl rfl (fun n3 => ?_) (fun n3 => ?_) <;> refine R_run hg.ok 1000 rfl rfl ?_
 ·refine R_ret hg 5 rfl rfl ?_
  rw [hm, n0, n1, n2, show thereL (hasH p) g.c = false by simpa using n3]; rfl
 have n3 : thereL (hasH p) g.c = true := by simpa using n3
 rw [n0, n1, n2, n3] at hm
 exact R_next (i + 1) ⟨hk1, hm⟩ (by omega) ⟨.refl _, .refl _, Ent.wrap (by omega) (by omega) (by omega), trivial⟩ rfl

set_option maxRecDepth 100000 in
theorem refCheck_ok (l : List Cs) (hl : ∀ c ∈ l, SmC c) (hlen : l.length ≤ 1000000) : PCtr Tryz.prog 10 [prV l] (.tup [iV (checkR l).1, iV (checkR l).2]) := by
 have hrl := Cs.rows_len l
 refine PCtr.of_R (pf := fun _ => .eff) tyOk mixed Tryz.func10 rfl (by kernel_rfl) (by kernel_rfl) (by simp [Tryz.ntmps10]) fun w S hg => ?_
 refine R_run hg.ok 1000 rfl rfl ?_
 by_cases h2 : 200 < l.length
 ·refine R_if rfl rfl (fun _ => ?_) (fun h => absurd (of_decide_eq_false h) (by omega)) <;> refine R_run hg.ok 1000 rfl rfl ?_
  refine R_ret hg 5 rfl rfl ?_
  unfold checkR; rw [if_pos h2]; rfl
 refine R_if rfl rfl (fun h => absurd (of_decide_eq_true h) (by omega)) (fun _ => ?_) <;> refine R_run hg.ok 1000 rfl rfl ?_
 have hc0 : checkR l = match firstN clsB l 0 with
  | some i => ((i : Int), 1)
  | none => match firstN (fun c => thereL (hasH l) c.body) l 0 with
   | some i => ((i : Int), 9)
   | none => (0, 0) := by unfold checkR; rw [if_neg h2]; rfl
 refine R_cut2 (fun _ : Unit => ([(1, .lo 0 0)], [.box [.d (.sl (Cs.rows l))]])) (fun _ => firstN clsB l 0 = none) rfl ?_ ?_
 ·refine R_loop (fun k : Nat => ([(1, .lo 0 0), (4, iV k)], [.box [.d (.sl (Cs.rows l))]])) (fun k => k ≤ l.length ∧ firstN clsB l 0 = firstN clsB (l.drop k) k) (fun k => l.length - k) 0 ⟨Nat.zero_le _, rfl⟩ ⟨.refl _, .refl _, trivial⟩ rfl ?_
  rintro k ⟨hk, hm⟩
  refine R_run hg.ok 1000 rfl rfl ?_
  refine R_if rfl rfl (fun h => ?_) (fun h => ?_) <;> refine R_run hg.ok 1000 rfl rfl ?_
  ·have hk1 : k < l.length := lt_dec h (by rw [hrl])
   have e1 : l[k]? = some l[k] := List.getElem?_eq_getElem hk1
   have hs := hl _ (List.getElem_mem hk1)
   generalize l[k] = c at e1 hs
   rw [firstN_drop clsB e1] at hm
   have hcl := refClause_ok c hs
   rw [← cls_same] at hcl
   refine R_index hg.ok rfl rfl rfl rfl rfl rfl (Int.natCast_nonneg _) (Cs.rows_get e1) rfl ?_
   refine R_run hg.ok 1000 rfl rfl ?_
   refine R_call hg.ok (hcl) rfl rfl rfl rfl rfl rfl ?_
   refine R_run hg.ok 1000 rfl rfl ?_
   refine R_if rfl rfl (fun h => ?_) (fun h => ?_) <;> refine R_run hg.ok 1000 rfl rfl ?_
   ·have h : clsB c = false := by simpa using h
    rw [if_neg (by rw [h]; simp)] at hm
    rw [hc0, hm]
    refine R_ret hg 5 rfl rfl ?_
    rfl
   ·have h : clsB c = true := by simpa using h
    rw [if_pos h] at hm
    exact R_next (k + 1) ⟨hk1, hm⟩ (by omega) ⟨.refl _, Ent.wrap (by omega) (by omega) (by omega), trivial⟩ rfl
  ·have hk1 : l.length ≤ k := ge_dec h (by rw [hrl])
   rw [List.drop_eq_nil_of_le hk1] at hm
   exact R_to () hm ⟨.refl _, trivial⟩ rfl
 rintro _ hn
 rw [hn] at hc0
 simp only at hc0
 refine R_run hg.ok 1000 rfl rfl ?_
 refine R_loop (fun k : Nat => ([(1, .lo 0 0), (5, iV k)], [.box [.d (.sl (Cs.rows l))]])) (fun k => k ≤ l.length ∧ firstN (fun c => thereL (hasH l) c.body) l 0 = firstN (fun c => thereL (hasH l) c.body) (l.drop k) k) (fun k => l.length - k) 0 ⟨Nat.zero_le _, rfl⟩ ⟨.refl _, .refl _, trivial⟩ rfl ?_
 rintro k ⟨hk, hm⟩
 refine R_run hg.ok 1000 rfl rfl ?_
 refine R_if rfl rfl (fun h => ?_) (fun h => ?_) <;> refine R_run hg.ok 1000 rfl rfl ?_
 ·have hk1 : k < l.length := lt_dec h (by rw [hrl])
  have e1 : l[k]? = some l[k] := List.getElem?_eq_getElem hk1
  have hs := hl _ (List.getElem_mem hk1)
  generalize l[k] = c at e1 hs
  rw [firstN_drop (fun c => thereL (hasH l) c.body) e1] at hm
  refine R_index hg.ok rfl rfl rfl rfl rfl rfl (Int.natCast_nonneg _) (Cs.rows_get e1) rfl ?_
  refine R_run hg.ok 1000 rfl rfl ?_
  refine R_call hg.ok (refThere_ok l hlen c.body hs.size) rfl rfl rfl rfl rfl rfl ?_
  refine R_run hg.ok 1000 rfl rfl ?_
  refine R_if rfl rfl (fun h => ?_) (fun h => ?_) <;> refine R_run hg.ok 1000 rfl rfl ?_
  ·have h : thereL (hasH l) c.body = false := by simpa using h
   rw [if_neg (by rw [h]; simp)] at hm
   rw [hc0, hm]
   refine R_ret hg 5 rfl rfl ?_
   rfl
  ·have h : thereL (hasH l) c.body = true := by simpa using h
   rw [if_pos h] at hm
   exact R_next (k + 1) ⟨hk1, hm⟩ (by omega) ⟨.refl _, Ent.wrap (by omega) (by omega) (by omega), trivial⟩ rfl
 ·have hk1 : l.length ≤ k := ge_dec h (by rw [hrl])
  rw [List.drop_eq_nil_of_le hk1] at hm
  rw [hc0, hm]
  refine R_ret hg 5 rfl rfl ?_
  rfl

set_option maxRecDepth 100000 in
theorem refFewG_ok (l : List Gl) : ∀ (m d : Int), (∀ g ∈ l, g.Ok) → l.length ≤ 140737488355328 → -1000 ≤ d ∧ d ≤ 1000 → PCtr Tryz.prog 25 [.d (.sl (Gl.rows l)), iV m, iV d] (iV (fewGL l m d)) := by
 refine Gl.indL (p := fun l => ∀ (m d : Int), (∀ g ∈ l, g.Ok) → l.length ≤ 140737488355328 → -1000 ≤ d ∧ d ≤ 1000 → PCtr Tryz.prog 25 [.d (.sl (Gl.rows l)), iV m, iV d] (iV (fewGL l m d))) (fun l hsub => ?_) l
 intro m d hok hlen hd0
 have hrl := Gl.rows_length l
 refine PCtr.of_R (pf := fun _ => .still) tyOk mixed Tryz.func25 rfl (by kernel_rfl) (by kernel_rfl) (by simp [Tryz.ntmps25]) fun w S hg => ?_
 refine R_run hg.ok 1000 rfl rfl ?_
 by_cases hd : d < 1
 ·refine R_if rfl rfl (fun _ => ?_) (fun h => absurd (of_decide_eq_false h) (by omega)) <;> refine R_run hg.ok 1000 rfl rfl ?_
  refine R_ret hg 5 rfl rfl ?_
  unfold fewGL; rw [if_pos hd]; rfl
 refine R_if rfl rfl (fun h => absurd (of_decide_eq_true h) (by omega)) (fun _ => ?_) <;> refine R_run hg.ok 1000 rfl rfl ?_
 have hfe : fewGL l m d = fewGo l m d := by unfold fewGL; rw [if_neg hd]
 rw [hfe]
 have hwd : IntKind.i64.wrap (d - 1) = d - 1 := w64 (by omega) (by omega)
 refine R_loop (fun x : Nat × Int => ([(0, .d (.sl (Gl.rows l))), (1, iV x.2), (2, iV d), (7, iV x.1)], [])) (fun x => x.1 ≤ l.length ∧ fewGo l m d = fewGo (l.drop x.1) x.2 d) (fun x => l.length - x.1) (0, m) ⟨Nat.zero_le _, rfl⟩ ⟨.refl _, .refl _, .refl _, .refl _, trivial⟩ rfl ?_
 rintro ⟨k, q⟩ ⟨hk, hm⟩
 have hm : fewGo l m d = fewGo (l.drop k) q d := hm
 have hk : k ≤ l.length := hk
 refine R_run hg.ok 1000 rfl rfl ?_
 refine R_if rfl rfl (fun h => ?_) (fun h => ?_) <;> refine R_run hg.ok 1000 rfl rfl ?_
 rotate_left
 ·have hk1 : l.length ≤ k := ge_dec h (by rw [hrl])
  refine R_ret hg 5 rfl rfl ?_
  rw [hm, List.drop_eq_nil_of_le hk1]; rfl
 have hk1 : k < l.length := lt_dec h (by rw [hrl])
 have e1 : l[k]? = some l[k] := List.getElem?_eq_getElem hk1
 have hmem := List.getElem_mem hk1
 rw [List.drop_eq_getElem_cons hk1, fewGo] at hm
 generalize l[k] = g at e1 hm hmem
 obtain ⟨sa, sb, sc⟩ := hsub g hmem
 have ho := hok g hmem
 refine R_if rfl rfl (fun h2 => ?_) (fun h2 => ?_) <;> refine R_run hg.ok 1000 rfl rfl ?_
 ·rw [if_pos (of_decide_eq_true h2), fewG1_eq] at hm
  refine R_index hg.ok rfl rfl rfl rfl rfl rfl (Int.natCast_nonneg _) (Gl.rows_get e1) rfl ?_
  refine R_run hg.ok 1000 rfl rfl ?_
  refine R_call hg.ok (few_ok g.t ho.tm.1 q 200) rfl rfl rfl rfl rfl rfl ?_
  refine R_run hg.ok 1000 rfl rfl ?_
  refine R_index hg.ok rfl rfl rfl rfl rfl rfl (Int.natCast_nonneg _) (Gl.rows_get e1) rfl ?_
  refine R_run hg.ok 1000 rfl rfl ?_
  rw [hwd]
  refine R_call hg.ok (sa (g.t.few q 200) (d - 1) ho.ma ho.la (by omega)) rfl rfl rfl rfl rfl rfl ?_
  refine R_run hg.ok 1000 rfl rfl ?_
  refine R_index hg.ok rfl rfl rfl rfl rfl rfl (Int.natCast_nonneg _) (Gl.rows_get e1) rfl ?_
  refine R_run hg.ok 1000 rfl rfl ?_
  rw [hwd]
  refine R_call hg.ok (sb (fewGL g.a (g.t.few q 200) (d - 1)) (d - 1) ho.mb ho.lb (by omega)) rfl rfl rfl rfl rfl rfl ?_
  refine R_run hg.ok 1000 rfl rfl ?_
  refine R_index hg.ok rfl rfl rfl rfl rfl rfl (Int.natCast_nonneg _) (Gl.rows_get e1) rfl ?_
  refine R_run hg.ok 1000 rfl rfl ?_
  rw [hwd]
  refine R_call hg.ok (sc (fewGL g.b (fewGL g.a (g.t.few q 200) (d - 1)) (d - 1)) (d - 1) ho.mc ho.lc (by omega)) rfl rfl rfl rfl rfl rfl ?_
  refine R_run hg.ok 1000 rfl rfl ?_
  exact R_next (k + 1, fewGL g.c (fewGL g.b (fewGL g.a (g.t.few q 200) (d - 1)) (d - 1)) (d - 1)) ⟨hk1, hm⟩ (by simp only; omega) ⟨.refl _, .refl _, .refl _, Ent.wrap (by simp only; omega) (by simp only; omega) (by simp only; omega), trivial⟩ rfl
 ·rw [if_neg (of_decide_eq_false h2)] at hm
  refine R_ret hg 5 rfl rfl ?_
  rw [hm]; rfl

set_option maxRecDepth 100000 in
theorem refSomeP_ok (l : List Cs) (hok : ∀ c ∈ l, c.Ok) (hlen : l.length ≤ 140737488355328) : PCtr Tryz.prog 7 [prV l] (bV (somP l)) := by
 have hrl := Cs.rows_len l
 refine PCtr.of_R (pf := fun _ => .eff) tyOk mixed Tryz.func7 rfl (by kernel_rfl) (by kernel_rfl) (by simp [Tryz.ntmps7]) fun w S hg => ?_
 refine R_run hg.ok 1000 rfl rfl ?_
 refine R_cut2 (fun _ : Unit => ([(1, .lo 0 0), (3, iV (somGo l 3000))], [.box [.d (.sl (Cs.rows l))]])) (fun _ => True) rfl ?_ ?_
 ·refine R_loop (fun x : Nat × Int => ([(1, .lo 0 0), (3, iV x.2), (4, iV x.1)], [.box [.d (.sl (Cs.rows l))]])) (fun x => x.1 ≤ l.length ∧ somGo l 3000 = somGo (l.drop x.1) x.2) (fun x => l.length - x.1) (0, 3000) ⟨Nat.zero_le _, rfl⟩ ⟨.refl _, .refl _, .refl _, trivial⟩ rfl ?_
  rintro ⟨k, q⟩ ⟨hk, hm⟩
  have hm : somGo l 3000 = somGo (l.drop k) q := hm
  have hk : k ≤ l.length := hk
  refine R_run hg.ok 1000 rfl rfl ?_
  refine R_if rfl rfl (fun h => ?_) (fun h => ?_) <;> refine R_run hg.ok 1000 rfl rfl ?_
  rotate_left
  ·have hk1 : l.length ≤ k := ge_dec h (by rw [hrl])
   refine R_to () trivial ⟨.refl _, ?_, trivial⟩ rfl
   rw [hm, List.drop_eq_nil_of_le hk1]; exact .refl _
  have hk1 : k < l.length := lt_dec h (by rw [hrl])
  have e1 : l[k]? = some l[k] := List.getElem?_eq_getElem hk1
  have hmem := List.getElem_mem hk1
  rw [List.drop_eq_getElem_cons hk1, somGo] at hm
  generalize l[k] = c at e1 hm hmem
  have ho := hok c hmem
  refine R_if rfl rfl (fun h2 => ?_) (fun h2 => ?_) <;> refine R_run hg.ok 1000 rfl rfl ?_
  ·rw [if_pos (of_decide_eq_true h2)] at hm
   refine R_index hg.ok rfl rfl rfl rfl rfl rfl (Int.natCast_nonneg _) (Cs.rows_get e1) rfl ?_
   refine R_run hg.ok 1000 rfl rfl ?_
   refine R_call hg.ok (few_ok c.head ho.head.1 q 200) rfl rfl rfl rfl rfl rfl ?_
   refine R_run hg.ok 1000 rfl rfl ?_
   refine R_index hg.ok rfl rfl rfl rfl rfl rfl (Int.natCast_nonneg _) (Cs.rows_get e1) rfl ?_
   refine R_run hg.ok 1000 rfl rfl ?_
   refine R_call hg.ok (refFewG_ok c.body (c.head.few q 200) 30 ho.body ho.len (by omega)) rfl rfl rfl rfl rfl rfl ?_
   refine R_run hg.ok 1000 rfl rfl ?_
   exact R_next (k + 1, fewGL c.body (c.head.few q 200) 30) ⟨hk1, hm⟩ (by simp only; omega) ⟨.refl _, .refl _, Ent.wrap (by simp only; omega) (by simp only; omega) (by simp only; omega), trivial⟩ rfl
  ·rw [if_neg (of_decide_eq_false h2)] at hm
   refine R_to () trivial ⟨.refl _, ?_, trivial⟩ rfl
   rw [hm]; exact .refl _
 rintro _ _
 refine R_run hg.ok 1000 rfl rfl ?_
 unfold somP
 refine R_if rfl rfl (fun h2 => ?_) (fun h2 => ?_) <;> refine R_run hg.ok 1000 rfl rfl ?_
 ·refine R_ret hg 5 rfl rfl ?_
  rw [show decide (somGo l 3000 ≥ 0) = true from h2, Bool.true_and]
  rw [show decide (((Cs.rows l).length : Int) ≤ 210) = decide (l.length ≤ 210) by rw [hrl]; exact decide_eq_decide.2 (by omega)]
  rfl
 ·refine R_ret hg 5 rfl rfl ?_
  rw [show decide (somGo l 3000 ≥ 0) = false from h2]; rfl
end Go.Proofs.YthdpfglpdgmphaaGreat

namespace Go.Proofs.YthdpfglpdgmphaaGreat
open Go PSL Go.Proofs

set_option maxRecDepth 100000 in
theorem asRoots_ok (roots : List Sg) (hr : roots.length ≤ 1000) : PCtr Tryz.prog 19 [.d (.sl (sgR roots))] (.d (.sl (sgR roots))) := by
 refine PCtr.of_R (pf := fun _ => .still) tyOk mixed Tryz.func19 rfl (by kernel_rfl) (by kernel_rfl) (by simp [Tryz.ntmps19]) fun w S hg => ?_
 refine R_run hg.ok 1000 rfl rfl ?_
 refine R_own 3 2 rfl rfl ?_
 refine R_loop (fun k : Nat => ([(0, .d (.sl (sgR roots))), (3, .ow 0 k), (4, iV k)], [.arr 2 k (sgR (roots.take k))])) (fun k => k ≤ roots.length) (fun k => roots.length - k) 0 (Nat.zero_le _) ⟨.refl _, .refl _, .refl _, trivial⟩ rfl ?_
 rintro k hk
 have htl : (roots.take k).length = k := by rw [List.length_take]; omega
 refine R_run hg.ok 1000 rfl rfl ?_
 refine R_if rfl rfl (fun h => ?_) (fun h => ?_) <;> refine R_run hg.ok 1000 rfl rfl ?_
 ·have hk1 : k < roots.length := lt_dec h (by rw [sgR_len])
  have e1 : roots[k]? = some roots[k] := List.getElem?_eq_getElem hk1
  generalize roots[k] = p at e1
  refine R_index hg.ok rfl rfl rfl rfl rfl rfl (Int.natCast_nonneg _) (sgR_get e1) rfl ?_
  refine R_run hg.ok 1000 rfl rfl ?_
  refine R_index hg.ok rfl rfl rfl rfl rfl rfl (Int.natCast_nonneg _) (sgR_get e1) rfl ?_
  refine R_run hg.ok 1000 rfl rfl ?_
  refine R_appendO hg.ok (sgR (roots.take (k + 1))) rfl rfl rfl rfl rfl rfl rfl rfl rfl (by simp) (by simp [one1]) (by rw [List.take_add_one, e1]; exact sgR_snoc _ p) (by rw [sgR_len, htl]; simp; omega) (by rw [sgR_len, htl]; simp; omega) ?_
  refine R_run hg.ok 1000 rfl rfl ?_
  exact R_next (k + 1) hk1 (by omega) ⟨.refl _, .refl _, Ent.wrap (by omega) (by omega) (by omega), trivial⟩ rfl
 ·have hk1 : roots.length ≤ k := ge_dec h (by rw [sgR_len])
  rw [List.take_of_length_le hk1]
  refine R_ret hg 5 rfl (sealA_ow rfl) ?_
  rfl
end Go.Proofs.YthdpfglpdgmphaaGreat

namespace PSL
open Go Go.RowKit

def plain2 : Op → Bool
 | .call { callee := .builtin .append, .. } => true
 | .build .. => true
 | .buildSlice .. => true
 | o => plainOp o

theorem plain2_sem {o : Oper} (h : plain2 o.op = true) (ro : Option Nat) (ρ : Operand → Value) (P : Program) (w : World) : (∃ v w', (o.semAt ro ρ).run P w = .ok (.value v) w') ∨ (∃ x w', (o.semAt ro ρ).run P w = .halt x w') := by
 have key : ∀ s : Sem Value, (∃ v w', (do pure (Next.value (← s)) : Sem Next).run P w = .ok (.value v) w') ∨ (∃ x w', (do pure (Next.value (← s)) : Sem Next).run P w = .halt x w') := fun s => by
  rw [Sem.run_bind]
  cases s.run P w with
  | ok v w' => exact .inl ⟨v, w', rfl⟩
  | halt x w' => exact .inr ⟨x, w', rfl⟩
 have e : o.semAt ro ρ = execOp ρ o := Oper.semAt_eq ro ρ o (fun c hc => by rw [hc] at h; cases h)
 rw [e]
 unfold execOp
 cases ho : o.op <;> rw [ho] at h
 case call c =>
  obtain ⟨cal, args, ts⟩ := c
  cases cal
  case builtin b =>
   cases b <;> first
    | (cases h; done)
    | (simp only [resolve, Sem.run_bind, Sem.run_pure, Result.andThen_ok, invoke, builtin]
       first
       | (have := key (Builtin.len_ ts o.type (args.map ρ)); simp only [Sem.run_bind] at this; exact this)
       | (have := key (Builtin.append_ ts o.type (args.map ρ)); simp only [Sem.run_bind] at this; exact this)
       | exact key _)
  all_goals cases h
 case nilCheck x =>
  have hp : (∃ v w', (runtimePanic .nilDeref : Sem Next).run P w = .ok (.value v) w') ∨ (∃ x w', (runtimePanic .nilDeref : Sem Next).run P w = .halt x w') := .inr ⟨_, _, rfl⟩
  have bind : ∀ {α : Type} (s : Sem α) (k : α → Sem Next) (w : World), (∀ a w', (∃ v w2, (k a).run P w' = .ok (.value v) w2) ∨ (∃ x w2, (k a).run P w' = .halt x w2)) → (∃ v w', (s >>= k).run P w = .ok (.value v) w') ∨ (∃ x w', (s >>= k).run P w = .halt x w') := fun s k w h => by
   rw [Sem.run_bind]
   cases s.run P w with
   | halt x w' => exact .inr ⟨x, w', rfl⟩
   | ok a w' => exact h a w'
  simp only
  split
  ·exact hp
  ·exact hp
  ·exact hp
  ·split
   ·exact hp
   ·refine bind _ _ _ fun a w' => ?_
    refine bind _ _ _ fun b w' => ?_
    split
    ·exact bind _ _ _ fun c w' => .inl ⟨_, _, rfl⟩
    ·exact .inl ⟨_, _, rfl⟩
   ·exact .inl ⟨_, _, rfl⟩
  ·exact .inl ⟨_, _, rfl⟩
 all_goals first
  | (cases h; done)
  | exact key _
  | exact .inl ⟨_, _, rfl⟩
section
variable {g : G} {pf : Nat → Cls} {ops : Array Oper}

theorem any_of_drF {q : Nat} (hok : ∀ (j : Nat) (o : Oper), ops[j]? = some o → (∀ e ∈ o.after.toList, Region.binds .any e = true → e.on < j) ∧ ∀ (i : Nat) (x : Oper), i < j → ops[i]? = some x → conf pf ops x o = true → Reach ops i j ∨ j = q) {K : Env → List Ob → Prop} (hK : KC K) {Q : Exit → Act → World → Prop} (hQ : ∀ E objs a w, K E objs → Sat g E objs a w → Q .normal a w) :
  ∀ (fuel : Nat) (listed : Array Bool) (R : List Nat) (E : Env) (objs : List Ob) (a : Act) (w : World), listed.size = ops.size → Cl ops listed → (∀ i, i ∈ R ↔ i < ops.size ∧ listed.getD i true = false) → R.Pairwise (· < ·) → R.length ≤ fuel → q ∉ R →
   Dr g pf ops (R.filterMap (ops[·]?)) E objs K → Sat g E objs a w → wpAnyIn g.F g.dep g.P .any ops Q fuel listed a w := by
 intro fuel
 induction fuel with
 | zero =>
  intro listed R E objs a w hls hc hR _ hf hpq hd hs
  have : R = [] := List.length_eq_zero_iff.1 (by omega)
  subst this
  refine ⟨?_, hQ E objs a w hd hs⟩
  apply List.eq_nil_iff_forall_not_mem.2
  intro i hi
  obtain ⟨h1, h2, _⟩ := mem_ready.1 hi
  exact absurd ((hR i).2 ⟨h1, h2⟩) (by simp)
 | succ fuel ih =>
  intro listed R E objs a w hls hc hR hp hf hpq hd hs
  refine ⟨fun hnil => ?_, fun i hi => ?_⟩
  ·cases R with
   | nil => exact hQ E objs a w hd hs
   | cons k R' =>
    exfalso
    obtain ⟨hk1, hk2⟩ := (hR k).1 (by simp)
    have ho : ops[k]? = some ops[k] := Array.getElem?_eq_getElem hk1
    have : k ∈ Region.ready .any ops listed := by
     refine mem_ready.2 ⟨hk1, hk2, ops[k], ho, fun e he hb => ?_⟩
     have hlt := (hok k _ ho).1 e he hb
     have hnot : e.on ∉ (k :: R') := fun hm => by
      rcases List.mem_cons.1 hm with hm | hm
      ·omega
      ·have := (List.pairwise_cons.1 hp).1 _ hm; omega
     have hsz : e.on < listed.size := by omega
     have h2 : ¬ (listed.getD e.on true = false) := fun h2 => hnot ((hR e.on).2 ⟨by omega, h2⟩)
     simp only [Array.getD, hsz, dif_pos] at h2 ⊢
     simpa using h2
    rw [hnil] at this; cases this
  ·obtain ⟨hi1, hi2, o, ho, hdeps⟩ := mem_ready.1 hi
   obtain ⟨pre, post, rfl⟩ := List.append_of_mem ((hR i).2 ⟨hi1, hi2⟩)
   have hpre : ∀ k ∈ pre, k < i := fun k hk => (List.pairwise_append.1 hp).2.2 k hk i (by simp)
   have hd' : Dr g pf ops (pre.filterMap (ops[·]?) ++ o :: post.filterMap (ops[·]?)) E objs K := by
    have : (pre ++ i :: post).filterMap (ops[·]?) = pre.filterMap (ops[·]?) ++ o :: post.filterMap (ops[·]?) := by
     rw [List.filterMap_append, List.filterMap_cons, ho]
    rw [← this]; exact hd
   obtain ⟨v, objs', hloc, hrest⟩ := Dr.front hK (fun x hx => by
    obtain ⟨k, hk, hkx⟩ := List.mem_filterMap.1 hx
    cases hcf : conf pf ops x o
    ·rfl
    ·exfalso
     have hreach : Reach ops k i := by
      rcases (hok i o ho).2 k x (hpre k hk) hkx hcf with h | h2
      ·exact h
      ·exfalso
       exact hpq (by rw [← h2]; simp)
     have hl := reach_listed hc hreach (fun o' ho' e he hb => by rw [ho] at ho'; cases ho'; exact hdeps e he hb)
     obtain ⟨_, hk2⟩ := (hR k).1 (by simp [hk])
     have hsz : k < listed.size := by have := hpre k hk; omega
     simp only [Array.getD, hsz, dif_pos] at hl hk2
     rw [hl] at hk2; cases hk2) hd'
   have hstep := hloc.step E objs objs' a w (fun t _ => .refl _) (.inr (.inr ⟨rfl, rfl⟩)) hs Q
   refine wpOpIn_mono (K := fun a' w' => Sat g (putO E o.dst v) objs' a' w') (fun a' w' hs' => ?_) (by unfold wpOpIn; rw [ho]; exact hstep)
   have hget : ∀ (k : Nat) (d : Bool), (listed.setIfInBounds i true).getD k d = if k = i then true else listed.getD k d := by
    intro k d
    simp only [Array.getD_eq_getD_getElem?, Array.getElem?_setIfInBounds]
    by_cases hki : k = i
    ·subst hki
     simp [hls, hi1]
    ·rw [if_neg (fun e => hki e.symm), if_neg hki]
   refine ih _ (pre ++ post) _ objs' a' w' (by simp [hls]) ?_ ?_ ?_ ?_ ?_ ?_ hs'
   ·intro k o' hk hko e he hb
    rw [hget] at hk ⊢
    by_cases hki : k = i
    ·subst hki
     rw [ho] at hko; cases hko
     have := hdeps e he hb
     split
     ·rfl
     ·exact this
    ·rw [if_neg hki] at hk
     have := hc k o' hk hko e he hb
     split
     ·rfl
     ·exact this
   ·intro k
    rw [hget]
    have hk := hR k
    have hnd : i ∉ pre ++ post := by
     intro hm
     rcases List.mem_append.1 hm with hm | hm
     ·have := hpre i hm; omega
     ·have := (List.pairwise_cons.1 (List.pairwise_append.1 hp).2.1).1 i hm; omega
    by_cases hki : k = i
    ·subst hki
     simp only [if_true]
     exact ⟨fun h => absurd h hnd, fun h => by simp at h⟩
    ·simp only [hki, if_false]
     rw [← hk]
     simp [hki]
   ·obtain ⟨p1, p2, p3⟩ := List.pairwise_append.1 hp
    exact List.pairwise_append.2 ⟨p1, (List.pairwise_cons.1 p2).2, fun x hx y hy => p3 x hx y (by simp [hy])⟩
   ·simp at hf ⊢; omega
   ·exact fun hm => hpq (by simp only [List.mem_append, List.mem_cons] at hm ⊢; exact hm.imp id .inr)
   ·rw [List.filterMap_append]; exact hrest

theorem wpOpIn_all {F : Fence} {n : Nat} {P : Program} {Q : Exit → Act → World → Prop} {i : Nat} {o : Oper} {ι : Type} (x0 : ι) (ho : ops[i]? = some o) (hp : plain2 o.op = true) {K : ι → Act → World → Prop} {a : Act} {w : World} (h : ∀ x, wpOpIn F n P ops Q i (K x) a w) : wpOpIn F n P ops Q i (fun a' w' => ∀ x, K x a' w') a w := by
 have h0 := h x0
 unfold wpOpIn at *
 rw [ho] at h0 ⊢
 have h : ∀ x, _ := fun x => by have := h x; rw [ho] at this; exact this
 simp only at h h0 ⊢
 split
 ·rename_i hw
  rw [if_pos hw] at h0
  have h : ∀ x, _ := fun x => by have := h x; rw [if_pos hw] at this; exact this
  unfold Oper.wpIn at *
  refine ⟨h0.1, ?_⟩
  have h0 := h0.2
  have h : ∀ x, _ := fun x => (h x).2
  rcases plain2_sem hp F.round a.eval P w with ⟨v, w', e⟩ | ⟨x, w', e⟩
  ·rw [e] at h0 ⊢
   intro x
   have := h x
   rw [e] at this; exact this
  ·rw [e] at h0 ⊢
   cases x <;> exact h0
 ·rename_i hw
  rw [if_neg hw] at h0
  refine ⟨h0.1, fun x => ?_⟩
  have := h x
  rw [if_neg hw] at this; exact this.2
end
end PSL
namespace PSL
open Go Go.RowKit
section
variable {g : G} {pf : Nat → Cls} {ops : Array Oper}

def FltB (pf : Nat → Cls) (ops : Array Oper) (oq : Oper) (B : List Nat) : Prop := B = [] ∨ ∃ b B' y, B = b :: B' ∧ ops[b]? = some y ∧ conf pf ops y oq = true

def ncB (pf : Nat → Cls) (ops : Array Oper) (oq : Oper) (k : Nat) : Bool := match ops[k]? with
 | some y => !conf pf ops y oq
 | none => true

theorem mem_tw {α : Type} {p : α → Bool} : ∀ {l : List α} {x : α}, x ∈ l.takeWhile p → p x = true
 | y :: l, x, h => by
  rw [List.takeWhile_cons] at h
  split at h
  ·rcases List.mem_cons.1 h with rfl | h
   ·assumption
   ·exact mem_tw h
  ·cases h

theorem any_of_flt {q : Nat} {oq : Oper} (hoq : ops[q]? = some oq) (hok : ∀ (j : Nat) (o : Oper), ops[j]? = some o → (∀ e ∈ o.after.toList, Region.binds .any e = true → e.on < j) ∧ (∀ (i : Nat) (x : Oper), i < j → ops[i]? = some x → conf pf ops x o = true → Reach ops i j ∨ j = q) ∧ (q < j → Reach ops q j))
  (hps : ∀ (i j : Nat) (x y : Oper), i < j → j < q → ops[i]? = some x → ops[j]? = some y → conf pf ops x oq = true → conf pf ops oq y = true → Reach ops i j)
  {K : Env → List Ob → Prop} (hK : KC K) {Q : Exit → Act → World → Prop} (hQ : ∀ E objs a w, K E objs → Sat g E objs a w → Q .normal a w) (post : List Nat) :
  ∀ (fuel : Nat) (listed : Array Bool) (R : List Nat) (a : Act) (w : World), (∀ i ∈ R, ∀ o, ops[i]? = some o → plain2 o.op = true) → listed.size = ops.size → Cl ops listed → (∀ i, i ∈ R ++ q :: post ↔ i < ops.size ∧ listed.getD i true = false) → (R ++ q :: post).Pairwise (· < ·) → (R ++ q :: post).length ≤ fuel →
   (∀ A B : List Nat, R = A ++ B → FltB pf ops oq B → ∃ E objs, Dr g pf ops (A.filterMap (ops[·]?) ++ oq :: (B ++ post).filterMap (ops[·]?)) E objs K ∧ Sat g E objs a w) → wpAnyIn g.F g.dep g.P .any ops Q fuel listed a w := by
 intro fuel
 induction fuel with
 | zero => intro listed R a w _ _ _ _ _ hf _; simp at hf
 | succ fuel ih =>
  intro listed R a w hpl hls hc hR hp hf hd
  obtain ⟨pp1, pp2, pp3⟩ := List.pairwise_append.1 hp
  have hRq : ∀ k ∈ R, k < q := fun k hk => pp3 k hk q (by simp)
  have hpost : ∀ k ∈ post, q < k := fun k hk => (List.pairwise_cons.1 pp2).1 k hk
  have unl : ∀ k, k ∈ R ++ q :: post → listed.getD k false = false := fun k hk => by
   obtain ⟨h1, h2⟩ := (hR k).1 hk
   have hsz : k < listed.size := by omega
   simp only [Array.getD, hsz, dif_pos] at h2 ⊢
   exact h2
  refine ⟨fun hnil => ?_, fun i hi => ?_⟩
  ·exfalso
   obtain ⟨k, R', hkR⟩ : ∃ k R', R ++ q :: post = k :: R' := by
    cases R with
    | nil => exact ⟨q, _, rfl⟩
    | cons k r => exact ⟨k, _, rfl⟩
   rw [hkR] at hR hp
   obtain ⟨hk1, hk2⟩ := (hR k).1 (by simp)
   have ho : ops[k]? = some ops[k] := Array.getElem?_eq_getElem hk1
   have : k ∈ Region.ready .any ops listed := by
    refine mem_ready.2 ⟨hk1, hk2, ops[k], ho, fun e he hb => ?_⟩
    have hlt := (hok k _ ho).1 e he hb
    have hnot : e.on ∉ (k :: R') := fun hm => by
     rcases List.mem_cons.1 hm with hm | hm
     ·omega
     ·have := (List.pairwise_cons.1 hp).1 _ hm; omega
    have hsz : e.on < listed.size := by omega
    have h2 : ¬ (listed.getD e.on true = false) := fun h2 => hnot ((hR e.on).2 ⟨by omega, h2⟩)
    simp only [Array.getD, hsz, dif_pos] at h2 ⊢
    simpa using h2
   rw [hnil] at this; cases this
  ·obtain ⟨hi1, hi2, o, ho, hdeps⟩ := mem_ready.1 hi
   have hreachF : ∀ k, k ∈ R ++ q :: post → Reach ops k i → False := fun k hk hr => by
    have hl := reach_listed hc hr (fun o' ho' e he hb => by rw [ho] at ho'; cases ho'; exact hdeps e he hb)
    rw [unl k hk] at hl; cases hl
   have hmem := (hR i).2 ⟨hi1, hi2⟩
   rcases List.mem_append.1 hmem with hmem | hmem
   ·obtain ⟨RA, RB, rfl⟩ := List.append_of_mem hmem
    have hiq : i < q := hRq i hmem
    have hRA : ∀ k ∈ RA, k < i := fun k hk => (List.pairwise_append.1 pp1).2.2 k hk i (by simp)
    have hcf : ∀ k x, k ∈ RA → ops[k]? = some x → conf pf ops x o = false := fun k x hk hkx => by
     cases hc1 : conf pf ops x o
     ·rfl
     ·exfalso
      rcases (hok i o ho).2.1 k x (hRA k hk) hkx hc1 with h | h
      ·exact hreachF k (by simp [hk]) h
      ·omega
    have hfm : ∀ {A : List Nat}, (∀ k ∈ A, k ∈ RA) → ∀ x ∈ A.filterMap (ops[·]?), conf pf ops x o = false := fun hA x hx => by
     obtain ⟨k, hk, hkx⟩ := List.mem_filterMap.1 hx
     exact hcf k x (hA k hk) hkx
    have H : ∀ x : {p : List Nat × List Nat // RA ++ RB = p.1 ++ p.2 ∧ FltB pf ops oq p.2}, ∃ E1 o1, Dr g pf ops (x.1.1.filterMap (ops[·]?) ++ oq :: (x.1.2 ++ post).filterMap (ops[·]?)) E1 o1 K ∧ wpOpIn g.F g.dep g.P ops Q i (fun a' w' => Sat g E1 o1 a' w') a w := by
     rintro ⟨⟨A, B⟩, hab, hB⟩
     have one : ∀ (a' : List Nat), A = RA ++ a' → RB = a' ++ B → ∃ E1 o1, Dr g pf ops (A.filterMap (ops[·]?) ++ oq :: (B ++ post).filterMap (ops[·]?)) E1 o1 K ∧ wpOpIn g.F g.dep g.P ops Q i (fun a' w' => Sat g E1 o1 a' w') a w := fun a' h1 h2 => by
      obtain ⟨E, objs, hdr, hs⟩ := hd (RA ++ i :: a') B (by rw [h2]; simp) hB
      rw [List.filterMap_append, List.filterMap_cons, ho, List.append_assoc] at hdr
      obtain ⟨v, objs', hloc, hrest⟩ := Dr.front hK (hfm fun k hk => hk) hdr
      refine ⟨_, objs', by rw [h1, List.filterMap_append, List.append_assoc]; exact hrest, ?_⟩
      unfold wpOpIn; rw [ho]
      exact hloc.step E objs objs' a w (fun t _ => .refl _) (.inr (.inr ⟨rfl, rfl⟩)) hs Q
     rcases List.append_eq_append_iff.1 hab with ⟨a', h1, h2⟩ | ⟨c', h1, h2⟩
     ·exact one a' h1 h2
     ·cases c' with
      | nil => exact one [] (by simpa using h1.symm) (by simpa using h2.symm)
      | cons b c' =>
       simp only at h2 hB
       have hB2 : FltB pf ops oq ((b :: c') ++ i :: RB) := by
        rcases hB with h | ⟨b2, B', y, h3, h4, h5⟩
        ·rw [h2] at h; cases h
        ·rw [h2] at h3; cases h3
         exact .inr ⟨b, _, y, rfl, h4, h5⟩
       obtain ⟨E, objs, hdr, hs⟩ := hd A ((b :: c') ++ i :: RB) (by rw [h1]; simp) hB2
       have e : A.filterMap (ops[·]?) ++ oq :: ((b :: c') ++ i :: RB ++ post).filterMap (ops[·]?) = (A.filterMap (ops[·]?) ++ oq :: (b :: c').filterMap (ops[·]?)) ++ o :: (RB ++ post).filterMap (ops[·]?) := by
        rw [List.append_assoc, List.filterMap_append, List.cons_append, List.filterMap_cons (a := i), ho]; simp
       rw [e] at hdr
       obtain ⟨v, objs', hloc, hrest⟩ := Dr.front hK (fun x hx => by
        rcases List.mem_append.1 hx with hx | hx
        ·exact hfm (fun k hk => by rw [h1]; simp [hk]) x hx
        ·rcases List.mem_cons.1 hx with rfl | hx
         ·cases hc1 : conf pf ops x o
          ·rfl
          ·exfalso
           rcases hB2 with h | ⟨b2, B', y, h3, h4, h5⟩
           ·cases h
           ·cases h3
            exact hreachF b (by rw [h1]; simp) (hps b i y o (hRA b (by rw [h1]; simp)) hiq h4 ho h5 hc1)
         ·exact hfm (fun k hk => by rw [h1]; exact List.mem_append.2 (.inr hk)) x hx) hdr
       refine ⟨_, objs', by
        show Dr g pf ops (A.filterMap (ops[·]?) ++ oq :: (B ++ post).filterMap (ops[·]?)) _ _ K
        rw [h2, List.append_assoc, List.filterMap_append]
        rw [List.append_assoc, List.cons_append] at hrest; exact hrest, ?_⟩
       unfold wpOpIn; rw [ho]
       exact hloc.step E objs objs' a w (fun t _ => .refl _) (.inr (.inr ⟨rfl, rfl⟩)) hs Q
    have hall := wpOpIn_all (F := g.F) (n := g.dep) (P := g.P) (Q := Q) (⟨(RA ++ RB, []), by simp, .inl rfl⟩ : {p : List Nat × List Nat // RA ++ RB = p.1 ++ p.2 ∧ FltB pf ops oq p.2}) ho (hpl i (by simp) o ho) (K := fun x a' w' => Sat g (H x).choose (H x).choose_spec.choose a' w') (fun x => (H x).choose_spec.choose_spec.2)
    refine wpOpIn_mono (fun a' w' hs' => ?_) hall
    have hds := draw_step (pre := RA) (post := RB ++ q :: post) hls hc (by intro k; rw [← hR k]; simp) (by simpa using hp) hi1 ho hdeps
    refine ih _ (RA ++ RB) a' w' (fun j hj o' ho' => hpl j (by simp only [List.mem_append, List.mem_cons] at hj ⊢; exact hj.imp id .inr) o' ho') hds.1 hds.2.1 (by intro k; rw [← hds.2.2.1 k]; simp) (by simpa using hds.2.2.2) (by simp at hf ⊢; omega) fun A B hab hB => ?_
    exact ⟨_, _, (H ⟨(A, B), hab, hB⟩).choose_spec.choose_spec.1, hs' ⟨(A, B), hab, hB⟩⟩
   ·rcases List.mem_cons.1 hmem with hiq | hmem
    ·subst hiq
     rw [hoq] at ho; cases ho
     have hAB : R = R.takeWhile (ncB pf ops oq) ++ R.dropWhile (ncB pf ops oq) := List.takeWhile_append_dropWhile.symm
     have hB : FltB pf ops oq (R.dropWhile (ncB pf ops oq)) := by
      cases hdw : R.dropWhile (ncB pf ops oq) with
      | nil => exact .inl rfl
      | cons b B' =>
       right
       have hb : ncB pf ops oq b = false := by
        have := List.head_dropWhile_not (ncB pf ops oq) (show R.dropWhile (ncB pf ops oq) ≠ [] by rw [hdw]; simp)
        simpa [hdw] using this
       unfold ncB at hb
       cases hob : ops[b]? with
       | none => rw [hob] at hb; cases hb
       | some y => rw [hob] at hb; exact ⟨b, B', y, rfl, hob, by simpa using hb⟩
     obtain ⟨E, objs, hdr, hs⟩ := hd _ _ hAB hB
     obtain ⟨v, objs', hloc, hrest⟩ := Dr.front hK (fun x hx => by
      obtain ⟨k, hk, hkx⟩ := List.mem_filterMap.1 hx
      have := mem_tw hk
      unfold ncB at this
      rw [hkx] at this; simpa using this) hdr
     have hstep := hloc.step E objs objs' a w (fun t _ => .refl _) (.inr (.inr ⟨rfl, rfl⟩)) hs Q
     refine wpOpIn_mono (K := fun a' w' => Sat g (putO E oq.dst v) objs' a' w') (fun a' w' hs' => ?_) (by unfold wpOpIn; rw [hoq]; exact hstep)
     have hds := draw_step (pre := R) (post := post) hls hc hR hp hi1 hoq hdeps
     have e : (R ++ post).filterMap (ops[·]?) = (R.takeWhile (ncB pf ops oq)).filterMap (ops[·]?) ++ (R.dropWhile (ncB pf ops oq) ++ post).filterMap (ops[·]?) := by rw [← List.filterMap_append, ← List.append_assoc, ← hAB]
     refine any_of_drF (fun j o ho => ⟨(hok j o ho).1, (hok j o ho).2.1⟩) hK hQ fuel _ (R ++ post) _ objs' a' w' hds.1 hds.2.1 hds.2.2.1 hds.2.2.2 (by simp at hf ⊢; omega) (fun h => ?_) (by rw [e]; exact hrest) hs'
     rcases List.mem_append.1 h with h | h
     ·have := hRq _ h; omega
     ·have := hpost _ h; omega
    ·exact (hreachF q (by simp) ((hok i o ho).2.2 (hpost i hmem))).elim
end
end PSL
namespace PSL
open Go Go.RowKit
section
variable {g : G} {pf : Nat → Cls} {ops : Array Oper}

def ordGoF (q : Nat) (oq : Oper) (pf : Nat → Cls) (ops : Array Oper) : List Oper → List Nat → List Oper → Bool
 | _, _, [] => true
 | prev, acc, o :: r =>
  (o.after.toList.all fun e => !Region.binds .any e || Nat.blt e.on (len prev)) &&
  (prev.zipIdx.all fun x => !conf pf ops x.1 o || (maskOf acc o).testBit x.2 || Nat.beq (len prev) q) &&
  (Nat.ble (len prev) q || (maskOf acc o).testBit q) &&
  (prev.zipIdx.all fun x => !conf pf ops x.1 oq || !conf pf ops oq o || (maskOf acc o).testBit x.2 || Nat.ble q (len prev)) &&
  ordGoF q oq pf ops (prev ++ [o]) (acc ++ [maskOf acc o]) r

theorem ordGoF_spec {q : Nat} {oq : Oper} : ∀ (rest prev : List Oper) (acc : List Nat), ops.toList = prev ++ rest → acc.length = prev.length → (∀ j i m, acc[j]? = some m → m.testBit i = true → Reach ops i j) → ordGoF q oq pf ops prev acc rest = true →
  ∀ (j : Nat) (o : Oper), prev.length ≤ j → ops[j]? = some o → (∀ e ∈ o.after.toList, Region.binds .any e = true → e.on < j) ∧ (∀ (i : Nat) (x : Oper), i < j → ops[i]? = some x → conf pf ops x o = true → Reach ops i j ∨ j = q) ∧ (q < j → Reach ops q j) ∧ (∀ (i : Nat) (x : Oper), i < j → j < q → ops[i]? = some x → conf pf ops x oq = true → conf pf ops oq o = true → Reach ops i j)
 | [], prev, acc, h, _, _, _, j, o, hj, ho => by
  have : j < ops.size := (Array.getElem?_eq_some_iff.1 ho).1
  have : ops.size = prev.length := by rw [← Array.length_toList, h]; simp
  omega
 | o' :: r, prev, acc, h, hl, hr, hg, j, o, hj, ho => by
  simp only [ordGoF, Bool.and_eq_true] at hg
  obtain ⟨⟨⟨⟨h1, h2⟩, h4⟩, h5⟩, h3⟩ := hg
  have hcur : ops[prev.length]? = some o' := by rw [← Array.getElem?_toList, h]; simp
  have hm : ∀ i, (maskOf acc o').testBit i = true → Reach ops i prev.length := fun i hi => by
   obtain ⟨e, e1, e2, e3⟩ := maskOf_bit hi
   rcases e3 with e3 | ⟨m, e3, e4⟩
   ·exact .one hcur e1 e2 e3
   ·exact .step hcur e1 e2 rfl (hr _ _ _ e3 e4)
  rcases Nat.eq_or_lt_of_le hj with hj | hj
  ·subst hj
   rw [hcur] at ho; cases ho
   have hmem : ∀ (i : Nat) (x : Oper), i < prev.length → ops[i]? = some x → (x, i) ∈ prev.zipIdx := fun i x hi hx => by
    rw [List.mem_zipIdx_iff_getElem?]
    rw [← Array.getElem?_toList, h, List.getElem?_append_left hi] at hx
    exact hx
   refine ⟨fun e he hbd => ?_, fun i x hi hx hc => ?_, fun hq => ?_, fun i x hi hq hx hc1 hc2 => ?_⟩
   ·have := List.all_eq_true.1 h1 e he
    rw [len_eq] at this
    simpa [Nat.blt_eq, hbd] using this
   ·have := List.all_eq_true.1 h2 _ (hmem i x hi hx)
    simp only [hc, Bool.not_true, Bool.false_or, Bool.or_eq_true] at this
    rcases this with this | g2
    ·exact .inl (hm i this)
    ·rw [len_eq] at g2; exact .inr (natBeq g2)
   ·simp only [Bool.or_eq_true, len_eq, Nat.ble_eq] at h4
    rcases h4 with h4 | h4
    ·omega
    ·exact hm _ h4
   ·have := List.all_eq_true.1 h5 _ (hmem i x hi hx)
    simp only [hc1, hc2, Bool.not_true, Bool.false_or, Bool.or_eq_true, len_eq, Nat.ble_eq] at this
    rcases this with this | this
    ·exact hm i this
    ·omega
  ·refine ordGoF_spec r (prev ++ [o']) (acc ++ [maskOf acc o']) (by rw [h]; simp) (by simp [hl]) (fun j i m hj hi => ?_) h3 j o (by simp; omega) ho
   rcases Nat.lt_or_ge j acc.length with hlt | hge
   ·rw [List.getElem?_append_left hlt] at hj; exact hr j i m hj hi
   ·rw [List.getElem?_append_right hge] at hj
    have : j - acc.length = 0 := by
     rcases Nat.eq_zero_or_pos (j - acc.length) with h | h
     ·exact h
     ·rw [List.getElem?_eq_none (by simp; omega)] at hj; cases hj
    rw [this] at hj; simp at hj; subst hj
    have : j = prev.length := by omega
    subst this
    exact hm i hi
end
end PSL
namespace PSL
open Go Go.RowKit
section
variable {g : G} {pf : Nat → Cls} {ops : Array Oper}

def fltL (m q : Nat) (oq : Oper) (l : List Oper) : List Oper := l.take m ++ oq :: ((l.drop m).take (q - m) ++ l.drop (q + 1))

theorem wp_flt (hg : GOk g) {q : Nat} {oq : Oper} (hoq : ops[q]? = some oq) (hok : ordGoF q oq pf ops [] [] ops.toList = true) {K : Env → List Ob → Prop} (hK : KC K) {Q : Exit → Act → World → Prop} (hQ : ∀ E objs a w, K E objs → Sat g E objs a w → Q .normal a w)
  {E : Env} {objs : List Ob} (hpl : ((ops.toList.take q).all fun o => plain2 o.op) = true) (hd : ∀ m, m ≤ q → (m = q ∨ ∃ y, ops[m]? = some y ∧ conf pf ops y oq = true) → Dr g pf ops (fltL m q oq ops.toList) E objs K) {a : Act} {w : World} (hs : Sat g E objs a w) (id : Nat) : (Code.region id ops true).wpIn g.F g.dep g.P Q a w := by
 refine wpIn_region_any hg.mixed ?_
 have hq : q < ops.size := (Array.getElem?_eq_some_iff.1 hoq).1
 have hsz : ops.toList.length = ops.size := by simp
 have hspec := ordGoF_spec (pf := pf) (ops := ops) ops.toList [] [] rfl rfl (by simp) hok
 have f : ∀ a n, a + n ≤ ops.size → (List.range' a n).filterMap (ops[·]?) = (ops.toList.drop a).take n := fun a n h => by
  have := fm_range ops.toList a n (by omega)
  simpa using this
 have hrange : List.range ops.size = List.range' 0 q ++ q :: List.range' (q + 1) (ops.size - (q + 1)) := by
  obtain ⟨m, hm⟩ : ∃ m, ops.size = q + (1 + m) := ⟨ops.size - (q + 1), by omega⟩
  have e1 : ops.size - (q + 1) = m := by omega
  rw [e1, List.range_eq_range', hm, ← List.range'_append, ← List.range'_append]
  simp [List.range'_succ]
 refine any_of_flt hoq (fun j o ho => ⟨(hspec j o (Nat.zero_le _) ho).1, (hspec j o (Nat.zero_le _) ho).2.1, (hspec j o (Nat.zero_le _) ho).2.2.1⟩) (fun i j x y hij hjq hx hy h1 h2 => (hspec j y (Nat.zero_le _) hy).2.2.2 i x hij hjq hx h1 h2) hK hQ (List.range' (q + 1) (ops.size - (q + 1))) ops.size (Array.replicate ops.size false) (List.range' 0 q) a _ ?_ (by simp) ?_ ?_ ?_ ?_ ?_
 ·intro j hj o ho
  have hj : j < q := by have := List.mem_range'.1 hj; omega
  exact List.all_eq_true.1 hpl o (List.mem_iff_getElem?.2 ⟨j, by rw [List.getElem?_take_of_lt hj, Array.getElem?_toList]; exact ho⟩)
 ·intro k o hk
  simp [Array.getD] at hk
 ·intro i
  rw [← hrange]
  simp only [List.mem_range, Array.getD, Array.size_replicate]
  constructor
  ·intro h; simp [h]
  ·intro h; exact h.1
 ·rw [← hrange]; exact List.pairwise_lt_range
 ·rw [← hrange]; simp
 ·intro A B hab hB
  obtain ⟨m, hm, rfl, rfl⟩ := List.range'_eq_append_iff.1 hab
  rw [Nat.mul_one] at hB ⊢
  refine ⟨E, objs, ?_, hs.drew⟩
  have := hd m hm (by
   rcases hB with h | ⟨b, B', y, h1, h2, h3⟩
   ·left
    have := congrArg List.length h
    simp at this; omega
   ·right
    have hb : b = 0 + m := by
     have : (List.range' (0 + m) (q - m)).head? = some b := by rw [h1]; rfl
     cases hqm : q - m with
     | zero => rw [hqm] at this; simp at this
     | succ n => rw [hqm, List.range'_succ] at this; simp at this; omega
    exact ⟨y, by rw [← h2, hb]; simp, h3⟩)
  unfold fltL at this
  rw [List.filterMap_append, f 0 m (by omega), f (0 + m) (q - m) (by omega), f (q + 1) _ (by omega), List.drop_zero]
  rw [List.take_of_length_le (i := ops.size - (q + 1)) (by simp)]
  simpa using this
end
end PSL
namespace PSL
open Go Go.RowKit
section
variable {g : G} {pf : Nat → Cls} {ops : Array Oper}

theorem R_float {Fin : Exit → Act → World → Prop} (hg : GOk g) (q : Nat) (oq : Oper) {id : Nat} {k : List It} {E : Env} {objs : List Ob} (hoq : ops[q]? = some oq) (hx : ordGoF q oq pf ops [] [] ops.toList = true) (hpl : ((ops.toList.take q).all fun o => plain2 o.op) = true) (h : ∀ m, m ≤ q → (m = q ∨ ∃ y, ops[m]? = some y ∧ conf pf ops y oq = true) → R g pf Fin (.dr ops (fltL m q oq ops.toList) :: k) E objs) : R g pf Fin (.code (.region id ops true) :: k) E objs := by
 rintro ⟨ho1, ho⟩
 intro a w hs
 simp only [KP]
 have hQ : ∀ E objs a w, RK g Fin k E objs → Sat g E objs a w → KP g Fin k .normal a w := fun _ _ a w hr hs => hr a w hs
 exact wp_flt hg hoq hx (RK_kc k) hQ hpl (fun m h1 h2 => by have := h m h1 h2 ho; simpa only using this) hs id
end
end PSL

namespace Go.Proofs.YthdpfglpdgmphaaGreat
open Go PSL Go.Proofs
def pfSom : Nat → Cls := fun f => bif Nat.beq f 7 then .look 0 else bif Nat.beq f 4900100001 then .turn 100 else bif Nat.beq f 4000000007 then .loadB else .still
def som14 (l : List Cs) (q : Cs) : Bool := somP (l ++ [q]) && decide ((l.length : Int) ≤ 60)

theorem cs_six (l : List Cs) : ∀ r ∈ Cs.rows l, r.length = 6 := fun r hr => by
 unfold Cs.rows at hr
 obtain ⟨c, _, rfl⟩ := List.mem_map.1 hr; rfl

set_option maxRecDepth 100000 in
theorem refSome14_ok (l : List Cs) (q : Cs) (hok : ∀ c ∈ l, c.Ok) (hq : q.Ok) (hb : l.length * 88 ≤ 140737488351232) : PCtr Tryz.prog 15 [prV l, q.av] (bV (som14 l q)) := by
 have hcl := Cs.rows_len l
 have hall : ∀ c ∈ l ++ [q], c.Ok := fun c hc => by
  rcases List.mem_append.1 hc with hc | hc
  ·exact hok c hc
  ·rw [List.mem_singleton.1 hc]; exact hq
 refine PCtr.of_R (pf := pfSom) tyOk mixed Tryz.func15 rfl (by kernel_rfl) (by kernel_rfl) (by simp [Tryz.ntmps15]) fun w S hg => ?_
 refine R_run hg.ok 1000 rfl rfl ?_
 refine R_float hg.ok 8 _ rfl (by kernel_rfl) (by kernel_rfl) ?_
 intro m hm hB
 have h3 : m = 3 ∨ m = 6 ∨ m = 8 := by
  rcases hB with h | ⟨y, h1, h2⟩
  ·exact .inr (.inr h)
  ·have : m = 0 ∨ m = 1 ∨ m = 2 ∨ m = 3 ∨ m = 4 ∨ m = 5 ∨ m = 6 ∨ m = 7 ∨ m = 8 := by omega
   rcases this with rfl | rfl | rfl | rfl | rfl | rfl | rfl | rfl | rfl <;> first | (left; rfl) | (right; left; rfl) | (right; right; rfl) | (cases h1; exact absurd (h2.symm.trans (show _ = false by kernel_rfl)) (by decide))
 clear hB hm
 rcases h3 with rfl | rfl | rfl
 ·refine R_run hg.ok 1000 rfl rfl ?_
  refine R_appendF hg.ok rfl rfl (.inl rfl) rfl (.inl rfl) rfl rfl rfl (by simp) (cs_six l) (by rw [hcl]; simp; omega) (by rw [hcl]; simp; omega) ?_
  refine R_run hg.ok 1000 rfl rfl ?_
  refine R_appendO hg.ok (Cs.rows (l ++ [q])) rfl rfl rfl rfl rfl rfl rfl rfl rfl (by simp) (by simp [one1]) (Cs.rows_snoc l q) (by simp [hcl]; omega) (by simp [hcl]; omega) ?_
  refine R_run hg.ok 1000 rfl rfl ?_
  refine R_callO hg.ok hg.gup (refSomeP_ok (l ++ [q]) hall (by simp; omega)) rfl rfl rfl rfl (mapO_cons (sealA_agg (mapO_cons (sealA_ow rfl) rfl)) rfl) rfl rfl ?_
  refine R_run hg.ok 1000 rfl rfl ?_
  unfold som14
  refine R_if rfl rfl (fun h => ?_) (fun h => ?_) <;> refine R_run hg.ok 1000 rfl rfl ?_
  ·refine R_ret hg 5 rfl rfl ?_
   rw [h, hcl]; rfl
  ·refine R_ret hg 5 rfl rfl ?_
   rw [h]; rfl
 ·refine R_run hg.ok 1000 rfl rfl ?_
  refine R_appendF hg.ok rfl rfl (.inl rfl) rfl (.inl rfl) rfl rfl rfl (by simp) (cs_six l) (by rw [hcl]; simp; omega) (by rw [hcl]; simp; omega) ?_
  refine R_run hg.ok 1000 rfl rfl ?_
  refine R_appendO hg.ok (Cs.rows (l ++ [q])) rfl rfl rfl rfl rfl rfl rfl rfl rfl (by simp) (by simp [one1]) (Cs.rows_snoc l q) (by simp [hcl]; omega) (by simp [hcl]; omega) ?_
  refine R_run hg.ok 1000 rfl rfl ?_
  refine R_callO hg.ok hg.gup (refSomeP_ok (l ++ [q]) hall (by simp; omega)) rfl rfl rfl rfl (mapO_cons (sealA_agg (mapO_cons (sealA_ow rfl) rfl)) rfl) rfl rfl ?_
  refine R_run hg.ok 1000 rfl rfl ?_
  unfold som14
  refine R_if rfl rfl (fun h => ?_) (fun h => ?_) <;> refine R_run hg.ok 1000 rfl rfl ?_
  ·refine R_ret hg 5 rfl rfl ?_
   rw [h, hcl]; rfl
  ·refine R_ret hg 5 rfl rfl ?_
   rw [h]; rfl
 ·refine R_run hg.ok 1000 rfl rfl ?_
  refine R_appendF hg.ok rfl rfl (.inl rfl) rfl (.inl rfl) rfl rfl rfl (by simp) (cs_six l) (by rw [hcl]; simp; omega) (by rw [hcl]; simp; omega) ?_
  refine R_run hg.ok 1000 rfl rfl ?_
  refine R_appendO hg.ok (Cs.rows (l ++ [q])) rfl rfl rfl rfl rfl rfl rfl rfl rfl (by simp) (by simp [one1]) (Cs.rows_snoc l q) (by simp [hcl]; omega) (by simp [hcl]; omega) ?_
  refine R_run hg.ok 1000 rfl rfl ?_
  refine R_callO hg.ok hg.gup (refSomeP_ok (l ++ [q]) hall (by simp; omega)) rfl rfl rfl rfl (mapO_cons (sealA_agg (mapO_cons (sealA_ow rfl) rfl)) rfl) rfl rfl ?_
  refine R_run hg.ok 1000 rfl rfl ?_
  unfold som14
  refine R_if rfl rfl (fun h => ?_) (fun h => ?_) <;> refine R_run hg.ok 1000 rfl rfl ?_
  ·refine R_ret hg 5 rfl rfl ?_
   rw [h, hcl]; rfl
  ·refine R_ret hg 5 rfl rfl ?_
   rw [h]; rfl
end Go.Proofs.YthdpfglpdgmphaaGreat

namespace Go.Proofs.YthdpfglpdgmphaaGreat
open Go PSL Go.Proofs
def rootT (p : Sg) (j : Nat) : Tm := .mk 3 p.1 0 (List.replicate j zeroT)
def rootG (p : Sg) (j : Nat) : Gl := .mk 1 (rootT p j) [] [] []

theorem rep_snoc (j : Nat) : Tm.rows (List.replicate j zeroT) ++ [[.v (.int .i64 0), .v (.string ByteArray.empty), .v (.int .i64 0), .sl []]] = Tm.rows (List.replicate (j + 1) zeroT) := by
 rw [List.replicate_succ', ← tm_snoc]; rfl

theorem rep_size : ∀ j : Nat, Tm.sizeL (List.replicate j zeroT) = j
 | 0 => rfl
 | j + 1 => by
  have := rep_size j
  have e : zeroT.size = 1 := rfl
  rw [List.replicate_succ]
  simp only [Tm.sizeL]; omega

theorem rootG_size (p : Sg) (j : Nat) (hj : j ≤ 100) : Gl.sizeL [rootG p j] ≤ 1000000 := by
 have h := rep_size j
 have e := Tm.size_eq (rootT p j)
 simp only [Gl.sizeL, Gl.size_eq]
 show (rootT p j).size + 0 + 0 + 0 + 0 ≤ 1000000
 have e2 : (rootT p j).l = List.replicate j zeroT := rfl
 rw [e2, h] at e
 omega

theorem rootG_there (l : List Cs) {p : Sg} {j : Nat} (h : (j : Int) = p.2) : thereL (hasH l) [rootG p j] = hasH l p := by
 have e : sgOf (rootT p j) = p := by
  unfold sgOf rootT
  show (p.1, ((List.replicate j zeroT).length : Int)) = p
  rw [List.length_replicate, h]
 simp only [thereL, there1_eq]
 show (!(((1 : Int) == 1) && !hasH l (sgOf (rootT p j))) && true && true && true && true) = hasH l p
 rw [e]; simp

set_option maxHeartbeats 4000000 in
set_option maxRecDepth 100000 in
theorem there21_ok (l : List Cs) (roots : List Sg) (hl : l.length ≤ 1000) (hr : roots.length ≤ 1000) : PCtr Tryz.prog 21 [prV l, .d (.sl (sgR roots))] (bV (thereP l roots)) := by
 refine PCtr.of_R (pf := fun _ => .eff) tyOk mixed Tryz.func21 rfl (by kernel_rfl) (by kernel_rfl) (by simp [Tryz.ntmps21]) fun w S hg => ?_
 refine R_run hg.ok 1000 rfl rfl ?_
 refine R_loop (fun i : Nat => ([(1, .d (.sl (sgR roots))), (2, .lo 0 0), (5, iV i)], [.box [.d (.sl (Cs.rows l))]])) (fun i => i ≤ roots.length ∧ thereP l roots = thereP l (roots.drop i)) (fun i => roots.length - i) 0 ⟨Nat.zero_le _, rfl⟩ ⟨.refl _, .refl _, .refl _, trivial⟩ rfl ?_
 rintro i ⟨hi, hm⟩
 refine R_run hg.ok 1000 rfl rfl ?_
 refine R_if rfl rfl (fun h => ?_) (fun h => ?_) <;> refine R_run hg.ok 1000 rfl rfl ?_
 ·have hi1 : i < roots.length := lt_dec h (by rw [sgR_len])
  have e1 : roots[i]? = some roots[i] := List.getElem?_eq_getElem hi1
  rw [List.drop_eq_getElem_cons hi1, thereP_cons] at hm
  generalize roots[i] = p at e1 hm
  refine R_index hg.ok rfl rfl rfl rfl rfl rfl (Int.natCast_nonneg _) (sgR_get e1) rfl ?_
  refine R_run hg.ok 1000 rfl rfl ?_
  refine R_index hg.ok rfl rfl rfl rfl rfl rfl (Int.natCast_nonneg _) (sgR_get e1) rfl ?_
  refine R_run hg.ok 1000 rfl rfl ?_
  by_cases c1 : p.2 < 0
  ·rw [decide_eq_false (show ¬ 0 ≤ p.2 by omega)] at hm
   refine R_if rfl rfl (fun _ => ?_) (fun h => absurd h (by simp [c1])) <;> refine R_run hg.ok 1000 rfl rfl ?_
   refine R_ret hg 5 rfl rfl ?_
   rw [hm]; rfl
  refine R_if rfl rfl (fun h => absurd h (by simp [c1])) (fun _ => ?_) <;> refine R_run hg.ok 1000 rfl rfl ?_
  refine R_index hg.ok rfl rfl rfl rfl rfl rfl (Int.natCast_nonneg _) (sgR_get e1) rfl ?_
  refine R_run hg.ok 1000 rfl rfl ?_
  by_cases c2 : p.2 > 8
  ·rw [decide_eq_false (show ¬ p.2 ≤ 8 by omega), Bool.and_false] at hm
   refine R_if rfl rfl (fun _ => ?_) (fun h => absurd h (by simp [c2])) <;> refine R_run hg.ok 1000 rfl rfl ?_
   refine R_ret hg 5 rfl rfl ?_
   rw [hm]; rfl
  refine R_if rfl rfl (fun h => absurd h (by simp [c2])) (fun _ => ?_) <;> refine R_run hg.ok 1000 rfl rfl ?_
  rw [decide_eq_true (show 0 ≤ p.2 by omega), decide_eq_true (show p.2 ≤ 8 by omega)] at hm
  refine R_ownB 1 3 4 rfl rfl rfl ?_
  refine R_loop (fun j : Nat => ([(1, .d (.sl (sgR roots))), (2, .lo 0 0), (5, iV i), (6, .lo 1 0), (7, iV j)], [.box [.d (.sl (Cs.rows l))], .box [iV 3, .d (.v (.string p.1)), iV 0, .ow 2 j], .arr 4 j (Tm.rows (List.replicate j zeroT))])) (fun j => (j : Int) ≤ p.2) (fun j => p.2.toNat - j) 0 (by omega) ⟨.refl _, .refl _, .refl _, .refl _, .refl _, trivial⟩ rfl ?_
  rintro j hj
  have hrl : (Tm.rows (List.replicate j zeroT)).length = j := by rw [Tm.rows_length, List.length_replicate]
  refine R_run hg.ok 1000 rfl rfl ?_
  refine R_index hg.ok rfl rfl rfl rfl rfl rfl (Int.natCast_nonneg _) (sgR_get e1) rfl ?_
  refine R_run hg.ok 1000 rfl rfl ?_
  refine R_if rfl rfl (fun h => ?_) (fun h => ?_)
  ·refine R_run hg.ok 1000 rfl rfl ?_
   have hj1 : (j : Int) < p.2 := of_decide_eq_true h
   refine R_weak [(1, .d (.sl (sgR roots))), (2, .lo 0 0), (5, iV i), (6, .lo 1 0), (7, iV j), (44, .ow 2 j), (46, .d (.sl [[.v (.int .i64 0), .v (.string ByteArray.empty), .v (.int .i64 0), .sl []]]))] ⟨.refl _, .refl _, .refl _, .refl _, .refl _, .refl _, Ent.row1 ⟨.refl _, .refl _, .refl _, .nil, trivial⟩, trivial⟩ ?_
   refine R_appendO hg.ok (Tm.rows (List.replicate (j + 1) zeroT)) rfl rfl rfl rfl rfl rfl rfl rfl rfl (by simp) (by simp [one1]) (rep_snoc j) (by rw [hrl]; simp; omega) (by rw [hrl]; simp; omega) ?_
   refine R_run hg.ok 1000 rfl rfl ?_
   exact R_next (j + 1) (by show ((j + 1 : Nat) : Int) ≤ p.2; omega) (by omega) ⟨.refl _, .refl _, .refl _, .refl _, Ent.wrap (by omega) (by omega) (by omega), trivial⟩ rfl
  ·have hj1 : ¬ (j : Int) < p.2 := of_decide_eq_false h
   have hje : (j : Int) = p.2 := by omega
   refine R_freezeO hg.gup 2 [(1, .d (.sl (sgR roots))), (2, .lo 0 0), (5, iV i), (6, .lo 1 0), (40, .ff)] [.box [.d (.sl (Cs.rows l))], .box [iV 3, .d (.v (.string p.1)), iV 0, .d (.sl (Tm.rows (List.replicate j zeroT)))], .dead] rfl rfl ⟨.refl _, .refl _, .refl _, .refl _, .refl _, trivial⟩ ⟨⟨.refl _, trivial⟩, ⟨.refl _, .refl _, .refl _, Ent.frz 2 j _, trivial⟩, trivial, trivial⟩ ?_
   refine R_run hg.ok 1000 rfl rfl ?_
   refine R_weak [(1, .d (.sl (sgR roots))), (2, .lo 0 0), (5, iV i), (51, .d (.sl (Gl.rows [rootG p j]))), (52, prV l)] ⟨.refl _, .refl _, .refl _, Ent.row1 ⟨.refl _, .refl _, .refl _, .refl _, .refl _, .nil, .nil, .nil, trivial⟩, .refl _, trivial⟩ ?_
   refine R_call hg.ok (refThere_ok l (by omega) [rootG p j] (rootG_size p j (by omega))) rfl rfl rfl rfl rfl rfl ?_
   refine R_run hg.ok 1000 rfl rfl ?_
   rw [rootG_there l hje]
   cases hh : hasH l p with
   | false =>
    rw [hh] at hm
    refine R_if rfl rfl (fun _ => ?_) (fun h => absurd h (by simp)) <;> refine R_run hg.ok 1000 rfl rfl ?_
    refine R_ret hg 5 rfl rfl ?_
    rw [hm]; rfl
   | true =>
    rw [hh] at hm
    refine R_if rfl rfl (fun h => absurd h (by simp)) (fun _ => ?_) <;> refine R_run hg.ok 1000 rfl rfl ?_
    refine R_dropO 1 [.box [.d (.sl (Cs.rows l))]] (Nat.zero_le _) rfl rfl ?_
    exact R_next (i + 1) ⟨hi1, hm⟩ (by omega) ⟨.refl _, .refl _, Ent.wrap (by omega) (by omega) (by omega), trivial⟩ rfl
 ·have hi1 : roots.length ≤ i := ge_dec h (by rw [sgR_len])
  rw [List.drop_eq_nil_of_le hi1] at hm
  refine R_ret hg 5 rfl rfl ?_
  rw [hm]; rfl
end Go.Proofs.YthdpfglpdgmphaaGreat

namespace Go.Proofs.YthdpfglpdgmphaaGreat
open Go PSL Go.Proofs
def AlikeG (l : List Gl) : Prop := Gl.sizeL l ≤ 1000000 → PCtr Tryz.prog 71 [.d (.sl (Gl.rows l)), .d (.sl (Gl.rows l))] (bV true)

theorem sameT_ok (t : Tm) (h : t.size < 1000000000) : PCtr Tryz.prog 70 [t.av, t.av] (bV true) := by
 have := refSame_ok t t h
 rwa [Tm.same_refl] at this

set_option maxHeartbeats 4000000 in
set_option maxRecDepth 100000 in
theorem sameGoals_ok (l : List Gl) : AlikeG l := by
 refine Gl.indL (p := AlikeG) (fun l hsub => ?_) l
 intro hl
 have hlen := Gl.len_size l
 refine PCtr.of_R (pf := fun _ => .still) tyOk mixed Tryz.func71 rfl (by kernel_rfl) (by kernel_rfl) (by simp [Tryz.ntmps71]) fun w S hg => ?_
 refine R_run hg.ok 1000 rfl rfl ?_
 refine R_if rfl rfl (fun h => absurd h (by simp)) (fun _ => ?_) <;> refine R_run hg.ok 1000 rfl rfl ?_
 refine R_loop (fun k : Nat => ([(0, .d (.sl (Gl.rows l))), (1, .d (.sl (Gl.rows l))), (5, iV k)], [])) (fun k => k ≤ l.length) (fun k => l.length - k) 0 (Nat.zero_le _) ⟨.refl _, .refl _, .refl _, trivial⟩ rfl ?_
 rintro k hk
 refine R_run hg.ok 1000 rfl rfl ?_
 refine R_if rfl rfl (fun h => ?_) (fun h => ?_) <;> refine R_run hg.ok 1000 rfl rfl ?_
 ·have hk1 : k < l.length := lt_dec h (by rw [Gl.rows_length])
  have e1 : l[k]? = some l[k] := List.getElem?_eq_getElem hk1
  have hmem := List.getElem_mem hk1
  generalize l[k] = g at e1 hmem
  have hsz := Gl.size_mem hmem
  have hge := Gl.size_eq g
  obtain ⟨sa, sb, sc⟩ := hsub g hmem
  refine R_index hg.ok rfl rfl rfl rfl rfl rfl (Int.natCast_nonneg _) (Gl.rows_get e1) rfl ?_
  refine R_run hg.ok 1000 rfl rfl ?_
  refine R_index hg.ok rfl rfl rfl rfl rfl rfl (Int.natCast_nonneg _) (Gl.rows_get e1) rfl ?_
  refine R_run hg.ok 1000 rfl rfl ?_
  refine R_if rfl rfl (fun h => absurd h (by simp)) (fun _ => ?_) <;> refine R_run hg.ok 1000 rfl rfl ?_
  refine R_index hg.ok rfl rfl rfl rfl rfl rfl (Int.natCast_nonneg _) (Gl.rows_get e1) rfl ?_
  refine R_run hg.ok 1000 rfl rfl ?_
  refine R_index hg.ok rfl rfl rfl rfl rfl rfl (Int.natCast_nonneg _) (Gl.rows_get e1) rfl ?_
  refine R_run hg.ok 1000 rfl rfl ?_
  refine R_call hg.ok (sameT_ok g.t (by omega)) rfl rfl rfl rfl rfl rfl ?_
  refine R_run hg.ok 1000 rfl rfl ?_
  refine R_if rfl rfl (fun h => absurd h (by simp)) (fun _ => ?_) <;> refine R_run hg.ok 1000 rfl rfl ?_
  refine R_index hg.ok rfl rfl rfl rfl rfl rfl (Int.natCast_nonneg _) (Gl.rows_get e1) rfl ?_
  refine R_run hg.ok 1000 rfl rfl ?_
  refine R_index hg.ok rfl rfl rfl rfl rfl rfl (Int.natCast_nonneg _) (Gl.rows_get e1) rfl ?_
  refine R_run hg.ok 1000 rfl rfl ?_
  refine R_call hg.ok (sa (by omega)) rfl rfl rfl rfl rfl rfl ?_
  refine R_run hg.ok 1000 rfl rfl ?_
  refine R_if rfl rfl (fun h => absurd h (by simp)) (fun _ => ?_) <;> refine R_run hg.ok 1000 rfl rfl ?_
  refine R_index hg.ok rfl rfl rfl rfl rfl rfl (Int.natCast_nonneg _) (Gl.rows_get e1) rfl ?_
  refine R_run hg.ok 1000 rfl rfl ?_
  refine R_index hg.ok rfl rfl rfl rfl rfl rfl (Int.natCast_nonneg _) (Gl.rows_get e1) rfl ?_
  refine R_run hg.ok 1000 rfl rfl ?_
  refine R_call hg.ok (sb (by omega)) rfl rfl rfl rfl rfl rfl ?_
  refine R_run hg.ok 1000 rfl rfl ?_
  refine R_if rfl rfl (fun h => absurd h (by simp)) (fun _ => ?_) <;> refine R_run hg.ok 1000 rfl rfl ?_
  refine R_index hg.ok rfl rfl rfl rfl rfl rfl (Int.natCast_nonneg _) (Gl.rows_get e1) rfl ?_
  refine R_run hg.ok 1000 rfl rfl ?_
  refine R_index hg.ok rfl rfl rfl rfl rfl rfl (Int.natCast_nonneg _) (Gl.rows_get e1) rfl ?_
  refine R_run hg.ok 1000 rfl rfl ?_
  refine R_call hg.ok (sc (by omega)) rfl rfl rfl rfl rfl rfl ?_
  refine R_run hg.ok 1000 rfl rfl ?_
  refine R_if rfl rfl (fun h => absurd h (by simp)) (fun _ => ?_) <;> refine R_run hg.ok 1000 rfl rfl ?_
  exact R_next (k + 1) hk1 (by omega) ⟨.refl _, .refl _, Ent.wrap (by omega) (by omega) (by omega), trivial⟩ rfl
 ·refine R_ret hg 5 rfl rfl ?_
  rfl

set_option maxRecDepth 100000 in
theorem sameClause_ok (x : Cs) (hx : SmC x) : PCtr Tryz.prog 47 [x.av, x.av] (bV true) := by
 refine PCtr.of_R (pf := fun _ => .still) tyOk mixed Tryz.func47 rfl (by kernel_rfl) (by kernel_rfl) (by simp [Tryz.ntmps47]) fun w S hg => ?_
 refine R_run hg.ok 1000 rfl rfl ?_
 refine R_if rfl rfl (fun _ => ?_) (fun h => absurd h (by simp)) <;> refine R_run hg.ok 1000 rfl rfl ?_
 refine R_call hg.ok (sameT_ok x.head (by have := hx.head.1; omega)) rfl rfl rfl rfl rfl rfl ?_
 refine R_run hg.ok 1000 rfl rfl ?_
 refine R_if rfl rfl (fun _ => ?_) (fun h => absurd h (by simp)) <;> refine R_run hg.ok 1000 rfl rfl ?_
 refine R_call hg.ok (sameGoals_ok x.body hx.size) rfl rfl rfl rfl rfl rfl ?_
 refine R_run hg.ok 1000 rfl rfl ?_
 refine R_ret hg 5 rfl rfl ?_
 rfl

set_option maxRecDepth 100000 in
theorem sameProg_ok (l : List Cs) (hl : Med l) : PCtr Tryz.prog 22 [prV l, prV l] (bV true) := by
 have hlen := hl.len
 refine PCtr.of_R (pf := fun _ => .still) tyOk mixed Tryz.func22 rfl (by kernel_rfl) (by kernel_rfl) (by simp [Tryz.ntmps22]) fun w S hg => ?_
 refine R_run hg.ok 1000 rfl rfl ?_
 refine R_if rfl rfl (fun h => absurd h (by simp)) (fun _ => ?_) <;> refine R_run hg.ok 1000 rfl rfl ?_
 refine R_loop (fun k : Nat => ([(2, .lo 0 0), (3, .lo 1 0), (5, iV k)], [.box [.d (.sl (Cs.rows l))], .box [.d (.sl (Cs.rows l))]])) (fun k => k ≤ l.length) (fun k => l.length - k) 0 (Nat.zero_le _) ⟨.refl _, .refl _, .refl _, trivial⟩ rfl ?_
 rintro k hk
 refine R_run hg.ok 1000 rfl rfl ?_
 refine R_if rfl rfl (fun h => ?_) (fun h => ?_) <;> refine R_run hg.ok 1000 rfl rfl ?_
 ·have hk1 : k < l.length := lt_dec h (by rw [Cs.rows_len])
  have e1 : l[k]? = some l[k] := List.getElem?_eq_getElem hk1
  have hmem := List.getElem_mem hk1
  generalize l[k] = c at e1 hmem
  refine R_index hg.ok rfl rfl rfl rfl rfl rfl (Int.natCast_nonneg _) (Cs.rows_get e1) rfl ?_
  refine R_run hg.ok 1000 rfl rfl ?_
  refine R_index hg.ok rfl rfl rfl rfl rfl rfl (Int.natCast_nonneg _) (Cs.rows_get e1) rfl ?_
  refine R_run hg.ok 1000 rfl rfl ?_
  refine R_call hg.ok (sameClause_ok c (hl.sm c hmem)) rfl rfl rfl rfl rfl rfl ?_
  refine R_run hg.ok 1000 rfl rfl ?_
  refine R_if rfl rfl (fun h => absurd h (by simp)) (fun _ => ?_) <;> refine R_run hg.ok 1000 rfl rfl ?_
  exact R_next (k + 1) hk1 (by omega) ⟨.refl _, .refl _, Ent.wrap (by omega) (by omega) (by omega), trivial⟩ rfl
 ·refine R_ret hg 5 rfl rfl ?_
  rfl
end Go.Proofs.YthdpfglpdgmphaaGreat

namespace PSL
open Go
def sgRows21 (l : List Sg) : List (List D) := l.map fun p => [.v (.string p.1), .v (.int .i64 p.2)]
section
variable {ty : Nat → Option Ty} {T TT TG TS B : Nat} {n : Nat} {τ : Ty} {row : List D} {a : AV}

theorem arg_progB {TC TP s : Nat} {τs τc : Ty} (hT : IsTerm ty TT) (hG : IsGoal ty TG TT) (hC : IsClause ty TC TT TG) (hB : B ≤ 140737488355328) (hτ : ty TP = some τ) (hsh : τ.sh = .struct [(0, s)]) (hs : ty s = some τs) (hss : τs.sh = .slice TC) (hc : ty TC = some τc) (h : HasTy ty B n TP row) (ha : a = avOf τ row) : ∃ l : List Cs, a = prV l ∧ (∀ x ∈ l, x.Ok) ∧ l.length ≤ 140737488355328 ∧ l.length * τc.bytes ≤ B := by
 obtain ⟨l, h1, h2, h3⟩ := arg_prog hT hG hC hB hτ hsh hs hss h ha
 refine ⟨l, h1, h2, h3, ?_⟩
 cases n with
 | zero => simp [HasTy] at h
 | succ n =>
  simp only [HasTy, hτ, hsh, HasFs] at h
  obtain ⟨_, ra, _, g1, rfl, g2, g3, rfl⟩ := h
  rw [hs] at g1; cases g1
  cases n with
  | zero => simp [HasTy] at g3
  | succ n =>
   obtain ⟨rows, rfl, hlen, _⟩ := has_slice hs hss g3
   have hb := hlen τc hc
   have e : a = .agg [.d (.sl rows)] := by rw [ha]; unfold avOf Ty.agg; rw [hsh]; rfl
   rw [h1] at e
   unfold prV at e
   simp only [AV.agg.injEq, List.cons.injEq, AV.d.injEq, D.sl.injEq, and_true] at e
   rw [← e, Cs.rows_len] at hb
   exact hb

theorem arg_sgs {ts ti : Nat} {τr τs τi : Ty} (hτ : ty TS = some τ) (hs : τ.sh = .slice T) (htr : ty T = some τr) (hrs : τr.sh = .struct [(0, ts), (1, ti)]) (h1 : ty ts = some τs) (h1s : τs.sh = .str) (h2 : ty ti = some τi) (h2s : τi.sh = .int .i64) (h : HasTy ty B n TS row) (ha : a = avOf τ row) : ∃ l : List Sg, a = .d (.sl (sgRows21 l)) := by
 cases n with
 | zero => simp [HasTy] at h
 | succ n =>
  obtain ⟨rows, rfl, hlen, hrows⟩ := has_slice hτ hs h
  have hch : ∃ l : List Sg, rows = sgRows21 l := by
   clear h ha hlen
   induction rows with
   | nil => exact ⟨[], rfl⟩
   | cons r rows ihr =>
    obtain ⟨l, hl⟩ := ihr fun x hx => hrows x (List.mem_cons_of_mem _ hx)
    have hr0 := hrows r List.mem_cons_self
    cases n with
    | zero => simp [HasTy] at hr0
    | succ n =>
     simp only [HasTy, htr, hrs, HasFs] at hr0
     obtain ⟨_, ra, _, g1, rfl, g2, g3, _, rb, _, g4, rfl, g5, g6, rfl⟩ := hr0
     rw [h1] at g1; cases g1
     rw [h2] at g4; cases g4
     obtain ⟨s, rfl, _⟩ := has_str h1 h1s g3
     obtain ⟨m, rfl, _⟩ := has_int h2 h2s g6
     exact ⟨(s, m) :: l, by simp [sgRows21] at hl ⊢; exact hl⟩
  obtain ⟨l, rfl⟩ := hch
  refine ⟨l, ?_⟩
  rw [ha]; unfold avOf Ty.agg; rw [hs]
end
end PSL

namespace Go.Proofs.YthdpfglpdgmphaaGreat
open Go PSL Go.Proofs
def k21 : Bs := [112, 40, 88, 41, 32, 58, 45, 32, 33, 44, 32, 113, 40, 88, 41, 46, 32, 112, 40, 97, 41, 46, 32, 113, 40, 98, 41, 32, 58, 45, 32, 102, 97, 105, 108, 46, 32, 113, 40, 99, 41, 46, 32, 114, 46]
def k21C : List Clau := [(fnT [58, 45] [fnT [112] [Tm.vT 0], fnT [44] [fnT [33] [], fnT [113] [Tm.vT 0]]], [[88]]), (fnT [112] [fnT [97] []], []), (fnT [58, 45] [fnT [113] [fnT [98] []], fnT [102, 97, 105, 108] []], []), (fnT [113] [fnT [99] []], []), (fnT [114] [], [])]
def k21P : List Cs := [⟨fnT [112] [Tm.vT 0], [.mk 3 zeroT [] [] [], .mk 1 (fnT [113] [Tm.vT 0]) [] [] []], 1⟩, ⟨fnT [112] [fnT [97] []], [], 0⟩, ⟨fnT [113] [fnT [98] []], [.mk 2 (fnT [102, 97, 105, 108] []) [] [] []], 0⟩, ⟨fnT [113] [fnT [99] []], [], 0⟩, ⟨fnT [114] [], [], 0⟩]
def k21Q : List Cs := [⟨fnT [112] [Tm.vT 0], [.mk 3 zeroT [] [] [], .mk 1 (fnT [113] [Tm.vT 0]) [] [] []], 1⟩, ⟨fnT [113] [fnT [99] []], [], 0⟩]
def k21R : List Sg := [(Tx [112], 1)]
theorem k21_read : clauR rightT false k21 = some (k21C, 0, 0) := by rw [rightT_fun]; kernel_rfl
theorem k21_load : loadL k21C 0 [] = (k21P, 0, 0) := by kernel_rfl

theorem k21_ctr : PCtr Tryz.prog 26 [txA k21] (.tup [prV k21P, iV 0, iV 0]) := by
 have h := load_ok k21 (by decide) k21_read (List.all_eq_true.1 (show (k21C.all fun x => noCh x.1) = true by kernel_rfl))
 rw [if_neg (by decide), k21_load] at h
 exact h

theorem k21_med : Med k21P := by
 have z : SmT zeroT := ⟨by decide, fun x e he => by
  simp only [zeroT, Tm.els, Tm.elsL, List.mem_singleton] at he
  subst he; show (0 : Nat) < 1000000000; decide⟩
 have h1 : SmT (fnT [112] [Tm.vT 0]) := smT_right (by kernel_rfl)
 have h2 : SmT (fnT [113] [Tm.vT 0]) := smT_right (by kernel_rfl)
 have h3 : SmT (fnT [112] [fnT [97] []]) := smT_right (by kernel_rfl)
 have h4 : SmT (fnT [113] [fnT [98] []]) := smT_right (by kernel_rfl)
 have h5 : SmT (fnT [102, 97, 105, 108] []) := smT_right (by kernel_rfl)
 have h6 : SmT (fnT [113] [fnT [99] []]) := smT_right (by kernel_rfl)
 have h7 : SmT (fnT [114] []) := smT_right (by kernel_rfl)
 refine ⟨fun c hc => ?_, by decide, by decide⟩
 simp only [k21P, List.mem_cons, List.not_mem_nil, or_false] at hc
 rcases hc with rfl | rfl | rfl | rfl | rfl
 ·exact ⟨h1, by simp only [allGL, allG]; exact ⟨⟨z, trivial, trivial, trivial⟩, ⟨h2, trivial, trivial, trivial⟩, trivial⟩, by decide⟩
 ·exact ⟨h3, by simp only [allGL], by decide⟩
 ·exact ⟨h4, by simp only [allGL, allG]; exact ⟨⟨h5, trivial, trivial, trivial⟩, trivial⟩, by decide⟩
 ·exact ⟨h6, by simp only [allGL], by decide⟩
 ·exact ⟨h7, by simp only [allGL], by decide⟩

theorem k21_clean : PCtr Tryz.prog 20 [prV k21P, .d (.sl (sgR k21R))] (.tup [prV k21Q, iV 0]) := by
 have h := clean_ok k21P k21R k21_med (by decide)
 rwa [show cleanA k21P k21R = (k21Q, 0) by kernel_rfl] at h

theorem k21_reached : PCtr Tryz.prog 17 [prV k21P, .d (.sl (sgR k21R))] (.d (.sl (sgR [(Tx [112], 1), (Tx [113], 1)]))) := by
 have h := reached_ok k21P k21R k21_med (by decide)
 rwa [show reachedP k21P k21R = [(Tx [112], 1), (Tx [113], 1)] by kernel_rfl] at h

set_option maxRecDepth 100000 in
theorem knows21_ok : PCtr Tryz.prog 16 [] (bV true) := by
 refine PCtr.of_R (pf := fun _ => .eff) tyOk mixed Tryz.func16 rfl (by kernel_rfl) (by kernel_rfl) (by simp [Tryz.ntmps16]) fun w S hg => ?_
 refine R_run hg.ok 1000 rfl rfl ?_
 refine R_call hg.ok (k21_ctr) rfl rfl rfl rfl rfl rfl ?_
 refine R_run hg.ok 1000 rfl rfl ?_
 refine R_call hg.ok (k21_clean) rfl rfl rfl rfl rfl rfl ?_
 refine R_run hg.ok 1000 rfl rfl ?_
 refine R_call hg.ok (k21_reached) rfl rfl rfl rfl rfl rfl ?_
 refine R_run hg.ok 1000 rfl rfl ?_
 repeat
  first
  | (refine R_if rfl rfl (fun _ => ?_) (fun h => absurd h (by decide +kernel)); refine R_run hg.ok 1000 rfl rfl ?_)
  | (refine R_index hg.ok rfl rfl rfl rfl rfl rfl (by decide) rfl rfl ?_; refine R_run hg.ok 1000 rfl rfl ?_)
 refine R_ret hg 5 rfl rfl ?_
 show bV (strEq (Tx [113]) ⟨#[113]⟩) = bV true
 rw [show strEq (Tx [113]) ⟨#[113]⟩ = true by decide +kernel]
end Go.Proofs.YthdpfglpdgmphaaGreat

namespace Go.Proofs.YthdpfglpdgmphaaGreat
open Go PSL Go.Proofs
def zeroC : Cs := ⟨zeroT, [], 0⟩

theorem zeroC_ok : zeroC.Ok := ⟨⟨fun d e he => by
  simp only [zeroC, zeroT, Tm.els, Tm.elsL, List.mem_singleton] at he
  subst he; exact ⟨Nat.zero_le _, by show (0 : Nat) ≤ _; omega⟩, fun d e he => by
  simp only [zeroC, zeroT, Tm.els, Tm.elsL, List.mem_singleton] at he
  subst he; exact ⟨(by unfold I64; decide : I64 0), (by unfold I64; decide : I64 0)⟩⟩, ⟨by decide, by decide⟩, Nat.zero_le _, fun g h => by cases h⟩

theorem som14_med {l : List Cs} {q : Cs} (h : som14 l q = true) : Med l ∧ l.length ≤ 60 := by
 unfold som14 at h
 simp only [Bool.and_eq_true, decide_eq_true_eq] at h
 obtain ⟨h1, h2⟩ := h
 obtain ⟨a, b, c⟩ := somP_sm h1
 have hm : Med (l ++ [q]) := ⟨a, b, c⟩
 exact ⟨hm.sub (List.sublist_append_left l [q]), by omega⟩
theorem cleanA_bad {l : List Cs} {roots : List Sg} (h : (checkR l).2 ≠ 0) : cleanA l roots = ([], 1) := by unfold cleanA; rw [if_pos h]
theorem cleanA_none {l : List Cs} {roots : List Sg} (h : (checkR l).2 = 0) (h2 : roots.all (hasH l) = false) : cleanA l roots = ([], 1) := by unfold cleanA; rw [if_neg (by rw [h]; simp), h2]; rfl
theorem cleanD_med {l : List Cs} (roots : List Sg) (h : Med l) : Med (cleanD l roots) := h.sub ((clean_sub l roots).trans (live_eq l ▸ live_sub2 l))

set_option maxRecDepth 100000 in
theorem cleanTells_ok (l : List Cs) (roots : List Sg) (hok : ∀ c ∈ l, c.Ok) (hb : l.length * 88 ≤ 140737488351232) : PCtr Tryz.prog 6 [prV l, .d (.sl (sgR roots))] (bV true) := by
 have hs := refSome14_ok l zeroC hok zeroC_ok hb
 refine PCtr.of_R (pf := fun _ => .still) tyOk mixed Tryz.func6 rfl (by kernel_rfl) (by kernel_rfl) (by simp [Tryz.ntmps6]) fun w S hg => ?_
 refine R_run hg.ok 1000 rfl rfl ?_
 cases hp : som14 l zeroC with
 | false =>
  rw [hp] at hs
  refine R_call hg.ok (hs) rfl rfl rfl rfl rfl rfl ?_
  refine R_run hg.ok 1000 rfl rfl ?_
  refine R_if rfl rfl (fun _ => ?_) (fun h => absurd h (by simp)) <;> refine R_run hg.ok 1000 rfl rfl ?_
  refine R_call hg.ok (knows21_ok) rfl rfl rfl rfl rfl rfl ?_
  refine R_run hg.ok 1000 rfl rfl ?_
  refine R_ret hg 5 rfl rfl ?_
  rfl
 | true =>
  rw [hp] at hs
  obtain ⟨hm, h60⟩ := som14_med hp
  refine R_call hg.ok (hs) rfl rfl rfl rfl rfl rfl ?_
  refine R_run hg.ok 1000 rfl rfl ?_
  refine R_if rfl rfl (fun h => absurd h (by simp)) (fun _ => ?_) <;> refine R_run hg.ok 1000 rfl rfl ?_
  refine R_if rfl rfl (fun h => ?_) (fun h => ?_) <;> refine R_run hg.ok 1000 rfl rfl ?_
  ·refine R_call hg.ok (knows21_ok) rfl rfl rfl rfl rfl rfl ?_
   refine R_run hg.ok 1000 rfl rfl ?_
   refine R_ret hg 5 rfl rfl ?_
   rfl
  have hr : roots.length ≤ 60 := by
   have := of_decide_eq_false h
   rw [sgR_len] at this; omega
  have hc := clean_ok l roots hm (by omega)
  have hth := there21_ok l roots (by omega) (by omega)
  by_cases h0 : (checkR l).2 = 0
  ·rw [thereP_ok h0] at hth
   cases h1 : roots.all (hasH l) with
   | false =>
    rw [cleanA_none h0 h1] at hc
    rw [h1] at hth
    refine R_call hg.ok (hc) rfl rfl rfl rfl rfl rfl ?_
    refine R_run hg.ok 1000 rfl rfl ?_
    refine R_call hg.ok (refCheck_ok l hm.sm (by omega)) rfl rfl rfl rfl rfl rfl ?_
    refine R_run hg.ok 1000 rfl rfl ?_
    refine R_if rfl rfl (fun h => absurd h (by simp [h0])) (fun _ => ?_) <;> refine R_run hg.ok 1000 rfl rfl ?_
    refine R_call hg.ok (hth) rfl rfl rfl rfl rfl rfl ?_
    refine R_run hg.ok 1000 rfl rfl ?_
    refine R_if rfl rfl (fun _ => ?_) (fun h => absurd h (by simp)) <;> refine R_run hg.ok 1000 rfl rfl ?_
    refine R_if rfl rfl (fun _ => ?_) (fun h => absurd h (by simp [Cs.rows])) <;> refine R_run hg.ok 1000 rfl rfl ?_
    refine R_if rfl rfl (fun _ => ?_) (fun h => absurd h (by simp)) <;> refine R_run hg.ok 1000 rfl rfl ?_
    refine R_call hg.ok (knows21_ok) rfl rfl rfl rfl rfl rfl ?_
    refine R_run hg.ok 1000 rfl rfl ?_
    refine R_ret hg 5 rfl rfl ?_
    rfl
   | true =>
    obtain ⟨t1, t2, t3⟩ := clean_tells (roots := roots) h0 h1
    rw [t1] at hc
    rw [h1] at hth
    have hm2 := cleanD_med roots hm
    have hc2 := clean_ok (cleanD l roots) roots hm2 (by omega)
    rw [t2] at hc2
    have hcc := check_ok (cleanD l roots) hm2.sm
    rw [t3] at hcc
    refine R_call hg.ok (hc) rfl rfl rfl rfl rfl rfl ?_
    refine R_run hg.ok 1000 rfl rfl ?_
    refine R_call hg.ok (refCheck_ok l hm.sm (by omega)) rfl rfl rfl rfl rfl rfl ?_
    refine R_run hg.ok 1000 rfl rfl ?_
    refine R_if rfl rfl (fun h => absurd h (by simp [h0])) (fun _ => ?_) <;> refine R_run hg.ok 1000 rfl rfl ?_
    refine R_call hg.ok (hth) rfl rfl rfl rfl rfl rfl ?_
    refine R_run hg.ok 1000 rfl rfl ?_
    refine R_if rfl rfl (fun h => absurd h (by simp)) (fun _ => ?_) <;> refine R_run hg.ok 1000 rfl rfl ?_
    refine R_call hg.ok (hc2) rfl rfl rfl rfl rfl rfl ?_
    refine R_run hg.ok 1000 rfl rfl ?_
    refine R_call hg.ok (hcc) rfl rfl rfl rfl rfl rfl ?_
    refine R_run hg.ok 1000 rfl rfl ?_
    refine R_call hg.ok (asRoots_ok roots (by omega)) rfl rfl rfl rfl rfl rfl ?_
    refine R_run hg.ok 1000 rfl rfl ?_
    refine R_call hg.ok (refClean_ok l roots hm (by omega)) rfl rfl rfl rfl rfl rfl ?_
    refine R_run hg.ok 1000 rfl rfl ?_
    refine R_call hg.ok (sameProg_ok (cleanD l roots) hm2) rfl rfl rfl rfl rfl rfl ?_
    refine R_run hg.ok 1000 rfl rfl ?_
    refine R_if rfl rfl (fun _ => ?_) (fun h => absurd h (by simp)) <;> refine R_run hg.ok 1000 rfl rfl ?_
    refine R_if rfl rfl (fun _ => ?_) (fun h => absurd h (by simp)) <;> refine R_run hg.ok 1000 rfl rfl ?_
    refine R_call hg.ok (sameProg_ok (cleanD l roots) hm2) rfl rfl rfl rfl rfl rfl ?_
    refine R_run hg.ok 1000 rfl rfl ?_
    refine R_if rfl rfl (fun _ => ?_) (fun h => absurd h (by simp)) <;> refine R_run hg.ok 1000 rfl rfl ?_
    refine R_if rfl rfl (fun _ => ?_) (fun h => absurd h (by simp)) <;> refine R_run hg.ok 1000 rfl rfl ?_
    refine R_if rfl rfl (fun _ => ?_) (fun h => absurd h (by simp)) <;> refine R_run hg.ok 1000 rfl rfl ?_
    refine R_call hg.ok (knows21_ok) rfl rfl rfl rfl rfl rfl ?_
    refine R_run hg.ok 1000 rfl rfl ?_
    refine R_ret hg 5 rfl rfl ?_
    rfl
  ·rw [cleanA_bad h0] at hc
   refine R_call hg.ok (hc) rfl rfl rfl rfl rfl rfl ?_
   refine R_run hg.ok 1000 rfl rfl ?_
   refine R_call hg.ok (refCheck_ok l hm.sm (by omega)) rfl rfl rfl rfl rfl rfl ?_
   refine R_run hg.ok 1000 rfl rfl ?_
   refine R_if rfl rfl (fun _ => ?_) (fun h => absurd h (by simp [h0])) <;> refine R_run hg.ok 1000 rfl rfl ?_
   refine R_if rfl rfl (fun _ => ?_) (fun h => absurd h (by simp [Cs.rows])) <;> refine R_run hg.ok 1000 rfl rfl ?_
   refine R_if rfl rfl (fun _ => ?_) (fun h => absurd h (by simp)) <;> refine R_run hg.ok 1000 rfl rfl ?_
   refine R_call hg.ok (knows21_ok) rfl rfl rfl rfl rfl rfl ?_
   refine R_run hg.ok 1000 rfl rfl ?_
   refine R_ret hg 5 rfl rfl ?_
   rfl
end Go.Proofs.YthdpfglpdgmphaaGreat
