import Derived.Test.YthdpfglpdgmphaaM3
namespace Go.Proofs.Ythdpfglpdgmphaa
open Go PSL Go.Proofs

set_option maxRecDepth 100000 in
theorem refSize_ok (t : Tm) : t.size < 1000000000 → PCtr Try.prog 32 [t.av] (iV t.size) := by
  induction t using Tm.ind with
  | _ t ih =>
  intro hsz
  refine PCtr.of_R (pf := fun _ => .still) tyOk mixed Try.func32 rfl (by kernel_rfl) (by kernel_rfl) (by simp [Try.ntmps32]) fun w S hg => ?_
  refine R_run hg.ok 1000 rfl rfl ?_
  refine R_loop (fun x : Nat × Nat => ([(1, .lo 0 0), (3, iV x.2), (4, iV x.1)], [boxR t])) (fun x => x.1 ≤ t.l.length ∧ t.size = x.2 + Tm.sizeL (t.l.drop x.1)) (fun x => t.l.length - x.1) (0, 1) ⟨Nat.zero_le _, Tm.size_eq t⟩ ⟨.refl _, .refl _, .refl _, trivial⟩ rfl ?_
  rintro ⟨k, m⟩ ⟨hk, hm⟩
  simp only at hk hm
  have hl := Tm.len_le_sizeL t.l
  have hs := Tm.size_eq t
  refine R_run hg.ok 1000 rfl rfl ?_
  refine R_if rfl rfl (fun h => ?_) (fun h => ?_) <;> refine R_run hg.ok 1000 rfl rfl ?_
  · have hk1 : k < t.l.length := lt_dec h (by rw [Tm.rows_length])
    have e1 : t.l[k]? = some t.l[k] := List.getElem?_eq_getElem hk1
    rw [List.drop_eq_getElem_cons hk1, Tm.sizeL] at hm
    refine R_index hg.ok rfl rfl rfl rfl rfl rfl (Int.natCast_nonneg k) (Tm.rows_get e1) rfl ?_
    refine R_run hg.ok 1000 rfl rfl ?_
    refine R_call hg.ok (ih _ (List.getElem_mem hk1) (by omega)) rfl rfl rfl rfl rfl rfl ?_
    refine R_run hg.ok 1000 rfl rfl ?_
    exact R_next (k + 1, m + t.l[k].size) ⟨hk1, by simp only; omega⟩ (by simp only; omega) ⟨.refl _, Ent.wrap (by omega) (by omega) (by omega), Ent.wrap (by omega) (by omega) (by omega), trivial⟩ rfl
  · have hk1 : t.l.length ≤ k := ge_dec h (by rw [Tm.rows_length])
    refine R_ret hg 5 rfl rfl ?_
    rw [List.drop_eq_nil_of_le hk1, Tm.sizeL] at hm
    simp only [hm, Nat.add_zero]; rfl

set_option maxRecDepth 100000 in
theorem refDeep_ok (t : Tm) : t.size < 1000000000 → PCtr Try.prog 33 [t.av] (iV t.depth) := by
  induction t using Tm.ind with
  | _ t ih =>
  intro hsz
  refine PCtr.of_R (pf := fun _ => .still) tyOk mixed Try.func33 rfl (by kernel_rfl) (by kernel_rfl) (by simp [Try.ntmps33]) fun w S hg => ?_
  refine R_run hg.ok 1000 rfl rfl ?_
  refine R_loop (fun x : Nat × Nat => ([(1, .lo 0 0), (3, iV x.2), (4, iV x.1)], [boxR t])) (fun x => x.1 ≤ t.l.length ∧ Tm.depthL t.l = max x.2 (Tm.depthL (t.l.drop x.1))) (fun x => t.l.length - x.1) (0, 0) ⟨Nat.zero_le _, by simp⟩ ⟨.refl _, .refl _, .refl _, trivial⟩ rfl ?_
  rintro ⟨k, m⟩ ⟨hk, hm⟩
  simp only at hk hm
  have hl := Tm.len_le_sizeL t.l
  have hs := Tm.size_eq t
  have hd := Tm.depth_eq t
  have hds := Tm.depth_le_size t
  refine R_run hg.ok 1000 rfl rfl ?_
  refine R_if rfl rfl (fun h => ?_) (fun h => ?_) <;> refine R_run hg.ok 1000 rfl rfl ?_
  · have hk1 : k < t.l.length := lt_dec h (by rw [Tm.rows_length])
    have e1 : t.l[k]? = some t.l[k] := List.getElem?_eq_getElem hk1
    have hsm := Tm.size_mem (List.getElem_mem hk1)
    rw [List.drop_eq_getElem_cons hk1, Tm.depthL] at hm
    refine R_index hg.ok rfl rfl rfl rfl rfl rfl (Int.natCast_nonneg k) (Tm.rows_get e1) rfl ?_
    refine R_run hg.ok 1000 rfl rfl ?_
    refine R_call hg.ok (ih _ (List.getElem_mem hk1) (by omega)) rfl rfl rfl rfl rfl rfl ?_
    refine R_run hg.ok 1000 rfl rfl ?_
    refine R_if rfl rfl (fun h => ?_) (fun h => ?_) <;> refine R_run hg.ok 1000 rfl rfl ?_
    · have h := of_decide_eq_true h
      exact R_next (k + 1, t.l[k].depth) ⟨hk1, by simp only; omega⟩ (by simp only; omega) ⟨.refl _, .refl _, Ent.wrap (by omega) (by omega) (by omega), trivial⟩ rfl
    · have h := of_decide_eq_false h
      exact R_next (k + 1, m) ⟨hk1, by simp only; omega⟩ (by simp only; omega) ⟨.refl _, .refl _, Ent.wrap (by omega) (by omega) (by omega), trivial⟩ rfl
  · have hk1 : t.l.length ≤ k := ge_dec h (by rw [Tm.rows_length])
    refine R_ret hg 5 rfl rfl ?_
    rw [List.drop_eq_nil_of_le hk1, Tm.depthL] at hm
    rw [w64 (by omega) (by omega), hd, hm]; simp [iV]

set_option maxRecDepth 100000 in
theorem refSame_ok (a : Tm) : ∀ b, a.size < 1000000000 → PCtr Try.prog 11 [a.av, b.av] (bV (a.same b)) := by
  induction a using Tm.ind with
  | _ a ih =>
  intro b hsz
  refine PCtr.of_R (pf := fun _ => .still) tyOk mixed Try.func11 rfl (by kernel_rfl) (by kernel_rfl) (by simp [Try.ntmps11]) fun w S hg => ?_
  refine R_run hg.ok 1000 rfl rfl ?_
  iterate 4
    refine R_if rfl rfl (fun _ => ?_) (fun _ => ?_) <;> refine R_run hg.ok 1000 rfl rfl ?_
    · refine R_ret hg 5 rfl rfl ?_
      simp_all [Tm.same_eq, bV, Tm.rows_length]
      try exact Tm.sameL_len (by omega)
  refine R_loop (fun k : Nat => ([(2, .lo 0 0), (3, .lo 1 0), (5, iV k)], [boxR a, boxR b])) (fun k => k ≤ a.l.length ∧ a.l.length = b.l.length ∧ a.same b = Tm.sameL (a.l.drop k) (b.l.drop k)) (fun k => a.l.length - k) 0 ?_ ⟨.refl _, .refl _, .refl _, trivial⟩ rfl ?_
  · simp_all [Tm.same_eq, Tm.rows_length]
    omega
  rintro k ⟨hk0, hl, hk⟩
  have hszl := Tm.len_le_sizeL a.l
  have hsz2 := Tm.size_eq a
  refine R_run hg.ok 1000 rfl rfl ?_
  refine R_if rfl rfl (fun h => ?_) (fun h => ?_) <;> refine R_run hg.ok 1000 rfl rfl ?_
  · have hk1 := lt_dec (n := a.l.length) h (by rw [Tm.rows_length])
    have hk2 : k < b.l.length := by omega
    have e1 : a.l[k]? = some a.l[k] := List.getElem?_eq_getElem hk1
    have e2 : b.l[k]? = some b.l[k] := List.getElem?_eq_getElem hk2
    rw [List.drop_eq_getElem_cons hk1, List.drop_eq_getElem_cons hk2, Tm.sameL] at hk
    have hm := Tm.size_mem (List.getElem_mem hk1)
    refine R_index hg.ok rfl rfl rfl rfl rfl rfl (Int.natCast_nonneg k) (Tm.rows_get e1) rfl ?_
    refine R_run hg.ok 1000 rfl rfl ?_
    refine R_index hg.ok rfl rfl rfl rfl rfl rfl (Int.natCast_nonneg k) (Tm.rows_get e2) rfl ?_
    refine R_run hg.ok 1000 rfl rfl ?_
    refine R_call hg.ok (ih _ (List.getElem_mem hk1) b.l[k] (by omega)) rfl rfl rfl rfl rfl rfl ?_
    refine R_run hg.ok 1000 rfl rfl ?_
    refine R_if rfl rfl (fun h => ?_) (fun h => ?_) <;> refine R_run hg.ok 1000 rfl rfl ?_
    · refine R_ret hg 5 rfl rfl ?_
      rw [hk]; simp_all [bV]
    · refine R_next (k + 1) ⟨hk1, hl, ?_⟩ (by omega) ⟨.refl _, .refl _, Ent.wrap (by omega) (by omega) (by omega), trivial⟩ rfl
      rw [hk]; simp_all
  · refine R_ret hg 5 rfl rfl ?_
    have hk1 := ge_dec (n := a.l.length) h (by rw [Tm.rows_length])
    rw [hk, List.drop_eq_nil_of_le (by omega), List.drop_eq_nil_of_le (by omega)]; rfl

set_option maxRecDepth 100000 in
theorem fair_ok (t : Tm) : t.size < 1000000000 → (∀ x e, e ∈ t.els x → e.2.s.size < 1000000000) → PCtr Try.prog 31 [t.av] (bV t.fairR) := by
  induction t using Tm.ind with
  | _ t ih =>
  intro hsz hns
  have hn0 : t.s.size < 1000000000 := hns 0 (0, t) (by rw [Tm.els_eq]; simp)
  have hl := Tm.len_le_sizeL t.l
  have hs := Tm.size_eq t
  refine PCtr.of_R (pf := fun _ => .still) tyOk mixed Try.func31 rfl (by kernel_rfl) (by kernel_rfl) (by simp [Try.ntmps31]) fun w S hg => ?_
  refine R_run hg.ok 1000 rfl rfl ?_
  refine R_loop (fun k : Nat => ([(1, .lo 0 0), (3, iV k)], [boxR t])) (fun k => k ≤ t.s.size ∧ ∀ i (hi : i < t.s.size), i < k → byteOk t.s[i] = true) (fun k => t.s.size - k) 0 ⟨Nat.zero_le _, fun i _ h => absurd h (Nat.not_lt_zero _)⟩ ⟨.refl _, .refl _, trivial⟩ rfl ?_
  intro k hk
  refine R_run hg.ok 1000 rfl rfl ?_
  refine R_if rfl rfl (fun h => ?_) (fun h => ?_) <;> refine R_run hg.ok 1000 rfl rfl ?_
  · have hk1 := lt_dec (n := t.s.size) h rfl
    refine R_indexS hg.ok rfl rfl rfl rfl rfl (Int.natCast_nonneg k) (byte_at hk1) ?_
    refine R_run hg.ok 1000 rfl rfl ?_
    have bad : byteOk t.s[k] = false → t.fairR = false := fun h => by rw [Tm.fairR_eq, not_all_bytes hk1 h]; rfl
    refine R_if rfl rfl (fun h2 => ?_) (fun h2 => ?_) <;> refine R_run hg.ok 1000 rfl rfl ?_
    · refine R_ret hg 5 rfl rfl ?_
      rw [bad (by unfold byteOk; rw [h2]; rfl)]; rfl
    refine R_indexS hg.ok rfl rfl rfl rfl rfl (Int.natCast_nonneg k) (byte_at hk1) ?_
    refine R_run hg.ok 1000 rfl rfl ?_
    refine R_if rfl rfl (fun h3 => ?_) (fun h3 => ?_) <;> refine R_run hg.ok 1000 rfl rfl ?_
    · refine R_ret hg 5 rfl rfl ?_
      rw [bad (by unfold byteOk; rw [h3]; simp)]; rfl
    refine R_next (k + 1) ⟨hk1, fun i hi hik => ?_⟩ (by omega) ⟨.refl _, Ent.wrap (by omega) (by omega) (by omega), trivial⟩ rfl
    rcases Nat.lt_or_ge i k with h | h
    · exact hk.2 i hi h
    · have : i = k := by omega
      subst this
      unfold byteOk; rw [h2, h3]; rfl
  have hk1 := ge_dec (n := t.s.size) h rfl
  have hall : t.s.data.toList.all byteOk = true := all_bytes fun i hi => hk.2 i hi (by omega)
  refine R_loop (fun k : Nat => ([(1, .lo 0 0), (4, iV k)], [boxR t])) (fun k => k ≤ t.l.length ∧ Tm.fairRL t.l = Tm.fairRL (t.l.drop k)) (fun k => t.l.length - k) 0 ⟨Nat.zero_le _, rfl⟩ ⟨.refl _, .refl _, trivial⟩ rfl ?_
  rintro k ⟨hk, hm⟩
  refine R_run hg.ok 1000 rfl rfl ?_
  refine R_if rfl rfl (fun h => ?_) (fun h => ?_) <;> refine R_run hg.ok 1000 rfl rfl ?_
  · have hk1 : k < t.l.length := lt_dec h (by rw [Tm.rows_length])
    have e1 : t.l[k]? = some t.l[k] := List.getElem?_eq_getElem hk1
    have hsm := Tm.size_mem (List.getElem_mem hk1)
    rw [List.drop_eq_getElem_cons hk1, Tm.fairRL] at hm
    refine R_index hg.ok rfl rfl rfl rfl rfl rfl (Int.natCast_nonneg k) (Tm.rows_get e1) rfl ?_
    refine R_run hg.ok 1000 rfl rfl ?_
    refine R_call hg.ok (ih _ (List.getElem_mem hk1) (by omega) (fun x e he => hns (x - 1) e (by rw [Tm.els_eq]; exact List.mem_cons_of_mem _ (Tm.els_memL (List.getElem_mem hk1) (by rw [Int.sub_add_cancel]; exact he))))) rfl rfl rfl rfl rfl rfl ?_
    refine R_run hg.ok 1000 rfl rfl ?_
    refine R_if rfl rfl (fun h => ?_) (fun h => ?_) <;> refine R_run hg.ok 1000 rfl rfl ?_
    · refine R_ret hg 5 rfl rfl ?_
      rw [Tm.fairR_eq, hm]; simp_all [bV]
    · refine R_next (k + 1) ⟨hk1, ?_⟩ (by omega) ⟨.refl _, Ent.wrap (by omega) (by omega) (by omega), trivial⟩ rfl
      rw [hm]; simp_all
  have hk1 : t.l.length ≤ k := ge_dec h (by rw [Tm.rows_length])
  rw [List.drop_eq_nil_of_le hk1, Tm.fairRL] at hm
  iterate 12
    all_goals try (refine R_if rfl rfl (fun _ => ?_) (fun _ => ?_) <;> refine R_run hg.ok 1000 rfl rfl ?_)
  all_goals refine R_ret hg 5 rfl rfl ?_
  all_goals (rw [Tm.fairR_eq, hall, hm]; unfold Tm.kindR)
  all_goals (simp only [Tm.rows_length, beq_iff_eq, beq_eq_false_iff_ne, ne_eq, decide_eq_true_eq, decide_eq_false_iff_not] at *)
  all_goals (simp_all [bV])
  all_goals (intros; omega)

set_option maxRecDepth 100000 in
theorem refRight_ok (t : Tm) (hsz : t.size < 1000000000) (hns : ∀ x e, e ∈ t.els x → e.2.s.size < 1000000000) : PCtr Try.prog 15 [t.av] (bV t.rightB) := by
  refine PCtr.of_R (pf := fun _ => .still) tyOk mixed Try.func15 rfl (by kernel_rfl) (by kernel_rfl) (by simp [Try.ntmps15]) fun w S hg => ?_
  refine R_run hg.ok 1000 rfl rfl ?_
  refine R_call hg.ok (fair_ok t hsz hns) rfl rfl rfl rfl rfl rfl ?_
  refine R_run hg.ok 1000 rfl rfl ?_
  refine R_if rfl rfl (fun _ => ?_) (fun _ => ?_) <;> refine R_run hg.ok 1000 rfl rfl ?_
  · refine R_call hg.ok (refSize_ok t hsz) rfl rfl rfl rfl rfl rfl ?_
    refine R_run hg.ok 1000 rfl rfl ?_
    refine R_if rfl rfl (fun _ => ?_) (fun _ => ?_) <;> refine R_run hg.ok 1000 rfl rfl ?_
    · refine R_call hg.ok (refDeep_ok t hsz) rfl rfl rfl rfl rfl rfl ?_
      refine R_run hg.ok 1000 rfl rfl ?_
      refine R_ret hg 5 rfl rfl ?_
      simp only [decide_eq_true_eq] at *
      unfold Tm.rightB
      show bV _ = bV _
      congr 1
      rw [Bool.eq_iff_iff]
      simp_all
      omega
    · refine R_ret hg 5 rfl rfl ?_
      simp only [decide_eq_false_iff_not] at *
      unfold Tm.rightB
      simp_all [bV]
      intros; omega
  · refine R_ret hg 5 rfl rfl ?_
    unfold Tm.rightB
    simp_all [bV]
end Go.Proofs.Ythdpfglpdgmphaa

namespace Go.Proofs.Ythdpfglpdgmphaa
open Go PSL Go.Proofs
theorem rightT_fun : rightT = Tm.rightB := funext rightT_eq

set_option maxRecDepth 100000 in
theorem clausesBad_ok (S0 : Bs) (a e : Int) (he : e ≠ 0) (h : PCtr Try.prog 19 [txA S0] (.tup [.d (.sl (tkRows [])), iV a, iV e])) : PCtr Try.prog 9 [txA S0] (.tup [.d (.sl (clRows [])), iV a, iV e]) := by
  refine PCtr.of_R (pf := fun _ => .eff) tyOk mixed Try.func9 rfl (by kernel_rfl) (by kernel_rfl) (by simp [Try.ntmps9]) fun w S hg => ?_
  refine R_run hg.ok 1000 rfl rfl ?_
  refine R_call hg.ok (h) rfl rfl rfl rfl rfl rfl ?_
  refine R_run hg.ok 1000 rfl rfl ?_
  refine R_if rfl rfl (fun _ => ?_) (fun h => absurd h (by simp [he])) <;> refine R_run hg.ok 1000 rfl rfl ?_
  refine R_ret hg 5 rfl rfl ?_
  rfl

/-- The clauses of a text. -/
theorem clausesT_ok (S0 : Bs) (hS : S0.length ≤ 9000) {c : List Clau} {a e : Int} (h : clauR rightT false S0 = some (c, a, e)) : PCtr Try.prog 9 [txA S0] (.tup [.d (.sl (clRows c)), iV a, iV e]) := by
  unfold clauR at h
  by_cases he : (tokT S0).2.2 ≠ 0
  · rw [if_pos he] at h
    have ht := tokens_ok S0 hS
    unfold tokR at ht
    rw [(tok_bad he).1] at ht
    cases h
    exact clausesBad_ok S0 _ _ he ht
  · rw [if_neg he] at h
    obtain ⟨h8, ht, _⟩ := tok_ok (Decidable.not_not.1 he)
    have hpl := toks_plc ht
    have hgd := toks_good _ _ _ _ ht
    have hlen := toks_len _ S0 0 _ ht
    refine clauses_ok S0 hS _ (by omega) (fun t ht => ⟨(hpl t ht).1, (hpl t ht).2, (hgd t ht).lo, (hgd t ht).hi⟩) (tokR_ok (by omega) ht) _ (fun st t st' hi hx he => ?_) c a e h
    have := read_small (by omega) hS hgd hi hx he
    exact ⟨by have := this.1; omega, fun e he => by have := this.2 1 e he; omega⟩
theorem oneT_ok9 (S0 : Bs) (hS : S0.length ≤ 9000) {c : List Clau} {a e : Int} (h : clauR rightT false S0 = some (c, a, e)) : PCtr Try.prog 13 [txA S0] (.tup [clA (oneR S0.length (c, a, e)).1, iV (oneR S0.length (c, a, e)).2.1, iV (oneR S0.length (c, a, e)).2.2]) := one_ok S0 c a e (clausesT_ok S0 hS h)
end Go.Proofs.Ythdpfglpdgmphaa

namespace Go.Proofs.Ythdpfglpdgmphaa
open Go PSL Go.Proofs
def know9a : Bs := [97, 32, 58, 45, 32, 98, 44, 32, 92, 43, 32, 88, 32, 61, 32, 45, 49, 46]
def know9b : Bs := [97, 32, 98, 46]
def kn9c : Clau := (fnT [58, 45] [fnT [97] [], fnT [44] [fnT [98] [], fnT [92, 43] [fnT [61] [Tm.vT 0, nmT (-1)]]]], [[88]])
theorem know9a_read : clauR rightT false know9a = some ([kn9c], 0, 0) := by rw [rightT_fun]; kernel_rfl
theorem know9b_read : clauR rightT false know9b = some ([], 2, 2) := by rw [rightT_fun]; kernel_rfl

set_option maxRecDepth 100000 in
theorem knows9_ok : PCtr Try.prog 8 [] (bV true) := by
  have h1 : PCtr Try.prog 13 [txA know9a] (.tup [clA kn9c, iV 0, iV 0]) := oneT_ok9 know9a (by decide) know9a_read
  have h2 : PCtr Try.prog 13 [txA know9b] (.tup [clA (zeroT, []), iV 2, iV 2]) := oneT_ok9 know9b (by decide) know9b_read
  refine PCtr.of_R (pf := fun _ => .eff) tyOk mixed Try.func8 rfl (by kernel_rfl) (by kernel_rfl) (by simp [Try.ntmps8]) fun w S hg => ?_
  refine R_run hg.ok 1000 rfl rfl ?_
  refine R_call hg.ok (h1) rfl rfl rfl rfl rfl rfl ?_
  refine R_run hg.ok 1000 rfl rfl ?_
  refine R_call hg.ok (h2) rfl rfl rfl rfl rfl rfl ?_
  refine R_run hg.ok 1000 rfl rfl ?_
  repeat
    first
    | (refine R_if rfl rfl (fun _ => ?_) (fun h => absurd h (by decide +kernel)); refine R_run hg.ok 1000 rfl rfl ?_)
    | (refine R_index hg.ok rfl rfl rfl rfl rfl rfl (by decide) rfl rfl ?_; refine R_run hg.ok 1000 rfl rfl ?_)
  refine R_ret hg 5 rfl rfl ?_
  rfl
end Go.Proofs.Ythdpfglpdgmphaa

namespace Go.Proofs.Ythdpfglpdgmphaa
open Go PSL Go.Proofs
theorem clRows_get {c : List Clau} {i : Nat} {x : Clau} (h : c[i]? = some x) : (clRows c)[i]? = some (clRow x) := by simp [clRows, h]
end Go.Proofs.Ythdpfglpdgmphaa

namespace Go.Proofs.Ythdpfglpdgmphaa
open Go PSL Go.Proofs
def vobjs (acc : List Int) : List Ob := [.map (imap (setI acc)), .box [.mp 0], .box [.ow 3 acc.length], .arr 1 acc.length (irows acc)]
def accN (acc : List Int) (t : Tm) (n : Nat) : List Int := ((t.els 1).take n).foldl stepV acc
theorem vdrop (f : AV → AV) (h : f .tt = .tt) (a : List Int) (r : List Ob) : mapOb f (.map (imap (setI a))) :: r = .map (imap (setI a)) :: r := by rw [mapOb_set h]
theorem setI_snoc (a : List Int) (n : Int) : setI a ++ [(n, .tt)] = setI (a ++ [n]) := by simp [setI]
theorem irows_snoc (a : List Int) (n : Int) : irows a ++ [[.v (.int .i64 n)]] = irows (a ++ [n]) := by simp [irows, irow]
theorem addV_len (l : List Int) (x : Int) : (addV l x).length ≤ l.length + 1 := by unfold addV; split <;> simp

theorem foldl_lenV : ∀ (l : List (Int × Tm)) (a : List Int), (l.foldl stepV a).length ≤ a.length + l.length
  | [], a => by simp
  | e :: l, a => by
    have := foldl_lenV l (stepV a e)
    have h2 : (stepV a e).length ≤ a.length + 1 := by unfold stepV; split; exact addV_len _ _; omega
    simp only [List.foldl_cons, List.length_cons]; omega
def varsF (a : List Int) (l : List Tm) : List Int := l.foldl (fun a t => (t.els 1).foldl stepV a) a

theorem varsF_len : ∀ (l : List Tm) (a : List Int), (varsF a l).length ≤ a.length + Tm.sizeL l
  | [], a => by simp [varsF]
  | t :: r, a => by
    have := varsF_len r ((t.els 1).foldl stepV a)
    have h := foldl_lenV (t.els 1) a
    rw [Tm.els_len] at h
    simp only [varsF, List.foldl_cons, Tm.sizeL] at this ⊢; omega

set_option maxRecDepth 100000 in
theorem vars_ok (l : List Tm) (hsz : Tm.sizeL l < 1000000000) : PCtr Try.prog 28 [.d (.sl (Tm.rows l))] (.d (.sl (irows (varsT l)))) := by
  refine PCtr.of_R (pf := fun _ => .eff) tyOk mixed Try.func28 rfl (by kernel_rfl) (by kernel_rfl) (by simp [Try.ntmps28]) fun w S hg => ?_
  refine R_run hg.ok 1000 rfl rfl ?_
  refine R_makeMap hg.ok rfl rfl ?_
  refine R_run hg.ok 1000 rfl rfl ?_
  refine R_ownB 2 0 1 rfl rfl rfl ?_
  refine R_loop (fun x : Nat × List Int => ([(3, .lo 1 0), (4, .lo 2 0), (10, .d (.sl (Tm.rows l))), (11, iV l.length), (12, iV x.1)], vobjs x.2)) (fun x => x.1 ≤ l.length ∧ varsT l = varsF x.2 (l.drop x.1) ∧ x.2.length + Tm.sizeL (l.drop x.1) ≤ Tm.sizeL l) (fun x => l.length - x.1) (0, []) ⟨Nat.zero_le _, rfl, by simp⟩ ⟨.refl _, .refl _, .refl _, Ent.int (by rw [Tm.rows_length]), .refl _, trivial⟩ rfl ?_
  rintro ⟨k, acc⟩ ⟨hk, hm, hal⟩
  simp only at hk hm hal
  have hl := Tm.len_le_sizeL l
  refine R_run hg.ok 1000 rfl rfl ?_
  refine R_if rfl rfl (fun h => ?_) (fun h => ?_) <;> refine R_run hg.ok 1000 rfl rfl ?_
  · have hk1 : k < l.length := lt_dec h rfl
    have e1 : l[k]? = some l[k] := List.getElem?_eq_getElem hk1
    rw [List.drop_eq_getElem_cons hk1] at hm hal
    simp only [Tm.sizeL] at hal
    refine R_index hg.ok rfl rfl rfl rfl rfl rfl (Int.natCast_nonneg k) (Tm.rows_get e1) rfl ?_
    refine R_run hg.ok 1000 rfl rfl ?_
    refine R_call hg.ok (each_ok l[k]) rfl rfl rfl rfl rfl rfl ?_
    refine R_run hg.ok 1000 rfl rfl ?_
    generalize l[k] = t at *
    refine R_range hg.ok hg.gup ⟨rfl, rfl⟩ rfl (t.els 1) Tm.enc ⟨(t.els 1).map Tm.enc, fun _ => true⟩ rfl (fun n => vobjs (accN acc t n) ++ [boxR t]) (fun _ _ => [(3, .lo 1 0), (4, .lo 2 0), (8, .lo 5 0)]) (fun n e => vobjs (accN acc t n) ++ [boxR t, boxR e.2]) _ .ret rfl rfl rfl (each1_ok _ t (by omega) fun _ _ h => els_ys h) rfl (fun _ _ => rfl) rfl ?_ ?_ ?_ rfl rfl (fun _ h => by cases h)
    · intro n x hx _ L w R0 X φ0 _
      refine R_run (gRound_ok hg.ok _ _ _ _ _) 1000 rfl rfl ?_
      exact R_finA ⟨.refl _, .refl _, .refl _, trivial⟩ rfl
    · intro n x hx _ L w R0 X φ0 hφ0
      have hg' := gRound_ok hg.ok L w R0 X φ0
      have hn := els_lt hx
      have hstep : accN acc t (n + 1) = stepV (accN acc t n) x := by unfold accN; rw [List.take_add_one, hx, List.foldl_append]; rfl
      have hlen : (accN acc t n).length ≤ acc.length + n := by
        have := foldl_lenV ((t.els 1).take n) acc
        unfold accN; rw [List.length_take] at this; omega
      rw [hstep]
      generalize accN acc t n = a at *
      refine R_run hg' 1000 rfl rfl ?_
      refine R_if rfl rfl (fun h1 => ?_) (fun h1 => ?_) <;> refine R_run hg' 1000 rfl rfl ?_
      · have hx1 : x.2.k = 1 := by simpa using h1
        by_cases hmem : a.contains x.2.n = true
        · refine R_lookupI hg' (setI a) rfl rfl rfl rfl rfl rfl rfl (zv := .bool false) (by kernel_rfl) (v := .tt) (by rw [getI_set, if_pos hmem]; rfl) ?_
          refine R_run hg' 1000 rfl rfl ?_
          refine R_dropO 5 _ (by rw [show (gRound _ L w R0 X φ0).φ0 = φ0 from rfl, hφ0]; exact Nat.le_refl _) rfl (vdrop (trimA 5) rfl _ _) ?_
          exact R_finB rfl (by unfold stepV addV; rw [if_pos hx1, if_pos hmem]; rfl)
        · have hmem' : a.contains x.2.n = false := by simpa using hmem
          refine R_lookupI hg' (setI a) rfl rfl rfl rfl rfl rfl rfl (zv := .bool false) (by kernel_rfl) (v := .ff) (by rw [getI_set, hmem']; rfl) ?_
          refine R_run hg' 1000 rfl rfl ?_
          refine R_mapAddI hg' (setI a) rfl rfl rfl rfl rfl rfl rfl (by rw [getI_set, hmem']; rfl) ?_
          rw [show ∀ E : Env, ev E (.const (.bool true)) = .tt from fun _ => rfl, setI_snoc]
          refine R_run hg' 1000 rfl rfl ?_
          refine R_append hg' rfl rfl rfl rfl rfl rfl rfl rfl rfl (by simp) (by simp [one1]) (by simp [irows_length]; omega) (by simp [irows_length]; omega) ?_
          rw [irows_snoc]
          refine R_run hg' 1000 rfl rfl ?_
          refine R_dropO 5 _ (by rw [show (gRound _ L w R0 X φ0).φ0 = φ0 from rfl, hφ0]; exact Nat.le_refl _) rfl (vdrop (trimA 5) rfl _ _) ?_
          refine R_finB rfl ?_
          unfold stepV addV; rw [if_pos hx1, hmem']
          simp only [Bool.false_eq_true, if_false, vobjs, List.length_append, List.length_cons, List.length_nil]; rfl
      · have hx1 : ¬ x.2.k = 1 := by simpa using h1
        refine R_dropO 5 _ (by rw [show (gRound _ L w R0 X φ0).φ0 = φ0 from rfl, hφ0]; exact Nat.le_refl _) rfl (vdrop (trimA 5) rfl _ _) ?_
        exact R_finB rfl (by unfold stepV; rw [if_neg hx1]; rfl)
    · intro _
      rw [adv_allT (fun _ => rfl)]
      refine R_run hg.ok 1000 rfl rfl ?_
      refine R_dropO 4 _ (Nat.zero_le _) rfl (vdrop (trimA 4) rfl _ _) ?_
      have hA : accN acc t (0 + t.size) = (t.els 1).foldl stepV acc := by unfold accN; rw [List.take_of_length_le (by rw [Tm.els_len]; omega)]
      have hfl := foldl_lenV (t.els 1) acc
      rw [Tm.els_len] at hfl
      rw [hA]
      refine R_next (k + 1, (t.els 1).foldl stepV acc) ⟨hk1, hm, by simp only; omega⟩ (by simp only; omega) ⟨.refl _, .refl _, .refl _, .refl _, Ent.wrap (by simp only; omega) (by simp only; omega) (by simp only; omega), trivial⟩ rfl
  · have hk1 : l.length ≤ k := ge_dec h rfl
    refine R_ret hg 5 rfl (sealA_ow rfl) ?_
    rw [hm, List.drop_eq_nil_of_le hk1]; rfl
end Go.Proofs.Ythdpfglpdgmphaa

namespace Go.Proofs.Ythdpfglpdgmphaa
open Go PSL Go.Proofs
def plObjs (l : List Int) : List Ob := [.box [.mp 1], .map (imap (numM l 0))]

theorem getI_num : ∀ (l : List Int) (n i : Int), 0 ≤ i → getI (numM l i) n = if atI l n i < 0 then none else some (iV (atI l n i))
  | [], n, i, h => rfl
  | x :: l, n, i, h => by
    have ih := getI_num l n (i + 1) (by omega)
    by_cases hx : x = n
    · have e : atI (x :: l) n i = i := by simp [atI, hx]
      rw [e, if_neg (by omega)]; simp [numM, getI, hx]
    · have e : atI (x :: l) n i = atI l n (i + 1) := by simp [atI, hx]
      rw [e, ← ih]; simp [numM, getI, hx]

theorem turn_snoc {l : List Tm} {k : Nat} {x : Tm} {g : Int → Int} (h : l[k]? = some x) : Tm.rows (Tm.turnTL g (l.take k)) ++ [Tm.row (Tm.turnT g x)] = Tm.rows (Tm.turnTL g (l.take (k + 1))) := by
  rw [List.take_add_one, h]
  simp [Tm.turnTL_map, Tm.rows_eq]

set_option maxRecDepth 100000 in
theorem number1_ok (Y : YP) (n : Int) (l : List Int) : SCtr Try.prog Y 30 [iV n, .lo 0 0] (plObjs l) (iV (placeG l n)) (plObjs l) := by
  refine SCtr.of_R (pf := fun _ => .eff) tyOk mixed Try.func30 rfl (by kernel_rfl) (by kernel_rfl) (by simp [Try.ntmps30]) (by simp [plObjs]) fun w S φ hg => ?_
  refine R_run hg.ok 1000 rfl rfl ?_
  refine R_lookupI hg.ok (numM l 0) rfl rfl rfl rfl rfl rfl rfl (zv := .int .i64 0) (by kernel_rfl) (v := iV (placeG l n)) (by rw [getI_num _ _ _ (Int.le_refl _)]; unfold placeG; split <;> rfl) ?_
  refine R_run hg.ok 1000 rfl rfl ?_
  refine R_retS hg 2 5 (Nat.le_refl _) rfl rfl ?_
  show [Ob.box [AV.mp 1], mapOb _ (Ob.map (imap (numM l 0)))] = _
  rw [mapOb_num (fun _ => rfl)]; rfl

set_option maxRecDepth 100000 in
theorem turnedN_ok (Y : YP) (vs : List Int) (t : Tm) : t.size < 1000000000 → SCtr Try.prog Y 29 [t.av, .clo 30 [] [.lo 0 0]] (plObjs vs) (Tm.turnT (placeG vs) t).av (plObjs vs) := by
  induction t using Tm.ind with
  | _ t ih =>
  intro hsz
  have hl := Tm.len_le_sizeL t.l
  have hs := Tm.size_eq t
  refine SCtr.of_R (pf := fun _ => .look 0) tyOk mixed Try.func29 rfl (by kernel_rfl) (by kernel_rfl) (by simp [Try.ntmps29]) (by simp [plObjs]) fun w S φ hg => ?_
  have hφ : φ.length ≤ 2 := Nat.le_of_eq hg.hs0.len
  obtain ⟨n', hn'⟩ : ∃ n', n' = if t.k = 1 then (placeG vs) t.n else t.n := ⟨_, rfl⟩
  refine R_run hg.ok 1000 rfl rfl ?_
  refine R_if rfl rfl (fun h => ?_) (fun h => ?_) <;> refine R_run hg.ok 1000 rfl rfl ?_
  · have hkk : t.k = 1 := by simpa using h
    rw [if_pos hkk] at hn'
    have hc := number1_ok Y t.n vs
    rw [show iV _ = iV n' from congrArg iV hn'.symm] at hc
    refine R_callSO hg.ok hg.gup hg.wide hg.Y [0, 1] (([.box [.mp 1], .map (imap (numM vs 0))] : List Ob) ++ [boxR t, .box [.d (.v (.int .i64 0)), .d (.v (.string ByteArray.empty)), .d (.v (.int .i64 0)), .d (.v (.slice none 0 0))]]) hc (fun _ => rfl) rfl rfl rfl rfl rfl (some2 (renOb_num _ _)) rfl (cong2 (renOb_num _ _)) ?_
    refine R_run hg.ok 1000 rfl rfl ?_
    refine R_obs (([.box [.mp 1], .map (imap (numM vs 0))] : List Ob) ++ [.box [.d (.v (.int .i64 t.k)), .d (.v (.string t.s)), .d (.v (.int .i64 n')), .d (.v (.slice none 0 0))], .box [.d (.v (.int .i64 0)), .d (.v (.string ByteArray.empty)), .d (.v (.int .i64 0)), .d (.v (.slice none 0 0))]]) ?_ rfl ?_
    · exact ⟨ObIn.refl _, ObIn.refl _, ⟨.refl _, .refl _, Ent.int (by first|rfl|exact hn'.symm), .refl _, trivial⟩, ObIn.refl _, trivial⟩
    refine R_ownB 2 3 4 rfl rfl rfl ?_
    refine R_loop (fun k : Nat => ([(1, .clo 30 [] [.lo 0 0]), (2, .lo 2 0), (4, .lo 3 0), (19, .d (.sl (Tm.rows t.l))), (20, iV t.l.length), (21, iV k)], ([.box [.mp 1], .map (imap (numM vs 0))] : List Ob) ++ [.box [.d (.v (.int .i64 t.k)), .d (.v (.string t.s)), .d (.v (.int .i64 n')), .ow 4 k], .box [.d (.v (.int .i64 0)), .d (.v (.string ByteArray.empty)), .d (.v (.int .i64 0)), .d (.v (.slice none 0 0))], .arr 4 k (Tm.rows (Tm.turnTL (placeG vs) (t.l.take k)))]))
      (fun k => k ≤ t.l.length) (fun k => t.l.length - k) 0 (Nat.zero_le _) ⟨.refl _, .refl _, .refl _, .refl _, Ent.int (by rw [Tm.rows_length]), .refl _, trivial⟩ rfl ?_
    intro k hk
    refine R_run hg.ok 1000 rfl rfl ?_
    refine R_if rfl rfl (fun h => ?_) (fun h => ?_) <;> refine R_run hg.ok 1000 rfl rfl ?_
    · have hk1 : k < t.l.length := lt_dec h rfl
      have e1 : t.l[k]? = some t.l[k] := List.getElem?_eq_getElem hk1
      have hm := Tm.size_mem (List.getElem_mem hk1)
      refine R_index hg.ok rfl rfl rfl rfl rfl rfl (Int.natCast_nonneg k) (Tm.rows_get e1) rfl ?_
      refine R_run hg.ok 1000 rfl rfl ?_
      refine R_callL hg.ok hg.gup hg.wide hg.Y [0, 1] (ih _ (List.getElem_mem hk1) (by omega)) (fun _ => rfl) rfl rfl rfl rfl rfl (some2 (renOb_num _ _)) rfl (cong2 (renOb_num _ _)) ?_
      refine R_run hg.ok 1000 rfl rfl ?_
      refine R_appendO hg.ok _ rfl rfl rfl rfl rfl rfl rfl rfl rfl (by simp) (by simp [one1]) (turn_snoc e1) (by rw [Tm.rows_length, Tm.turnTL_map]; simp; omega) (by rw [Tm.rows_length, Tm.turnTL_map]; simp; omega) ?_
      refine R_run hg.ok 1000 rfl rfl ?_
      refine R_dropO 5 _ (by show φ.length ≤ _; omega) rfl (cong2 (mapOb_num (fun _ => rfl) _ _)) ?_
      exact R_next (k + 1) hk1 (by omega) ⟨.refl _, .refl _, .refl _, .refl _, .refl _, Ent.wrap (by omega) (by omega) (by omega), trivial⟩ rfl
    · have hk1 : t.l.length ≤ k := ge_dec h rfl
      refine R_retS hg 2 5 (Nat.le_refl _) rfl ((sealT_term rfl rfl rfl rfl rfl).trans ?_) (cong2 (mapOb_num (fun _ => rfl) _ _))
      rw [List.take_of_length_le hk1, Tm.turnT_eq, if_pos hkk]; subst hn'; rfl
  · have hkk : ¬ t.k = 1 := by simpa using h
    rw [if_neg hkk] at hn'
    refine R_obs (([.box [.mp 1], .map (imap (numM vs 0))] : List Ob) ++ [.box [.d (.v (.int .i64 t.k)), .d (.v (.string t.s)), .d (.v (.int .i64 n')), .d (.v (.slice none 0 0))], .box [.d (.v (.int .i64 0)), .d (.v (.string ByteArray.empty)), .d (.v (.int .i64 0)), .d (.v (.slice none 0 0))]]) ?_ rfl ?_
    · exact ⟨ObIn.refl _, ObIn.refl _, ⟨.refl _, .refl _, Ent.int (by first|rfl|exact hn'.symm), .refl _, trivial⟩, ObIn.refl _, trivial⟩
    refine R_ownB 2 3 4 rfl rfl rfl ?_
    refine R_loop (fun k : Nat => ([(1, .clo 30 [] [.lo 0 0]), (2, .lo 2 0), (4, .lo 3 0), (19, .d (.sl (Tm.rows t.l))), (20, iV t.l.length), (21, iV k)], ([.box [.mp 1], .map (imap (numM vs 0))] : List Ob) ++ [.box [.d (.v (.int .i64 t.k)), .d (.v (.string t.s)), .d (.v (.int .i64 n')), .ow 4 k], .box [.d (.v (.int .i64 0)), .d (.v (.string ByteArray.empty)), .d (.v (.int .i64 0)), .d (.v (.slice none 0 0))], .arr 4 k (Tm.rows (Tm.turnTL (placeG vs) (t.l.take k)))]))
      (fun k => k ≤ t.l.length) (fun k => t.l.length - k) 0 (Nat.zero_le _) ⟨.refl _, .refl _, .refl _, .refl _, Ent.int (by rw [Tm.rows_length]), .refl _, trivial⟩ rfl ?_
    intro k hk
    refine R_run hg.ok 1000 rfl rfl ?_
    refine R_if rfl rfl (fun h => ?_) (fun h => ?_) <;> refine R_run hg.ok 1000 rfl rfl ?_
    · have hk1 : k < t.l.length := lt_dec h rfl
      have e1 : t.l[k]? = some t.l[k] := List.getElem?_eq_getElem hk1
      have hm := Tm.size_mem (List.getElem_mem hk1)
      refine R_index hg.ok rfl rfl rfl rfl rfl rfl (Int.natCast_nonneg k) (Tm.rows_get e1) rfl ?_
      refine R_run hg.ok 1000 rfl rfl ?_
      refine R_callL hg.ok hg.gup hg.wide hg.Y [0, 1] (ih _ (List.getElem_mem hk1) (by omega)) (fun _ => rfl) rfl rfl rfl rfl rfl (some2 (renOb_num _ _)) rfl (cong2 (renOb_num _ _)) ?_
      refine R_run hg.ok 1000 rfl rfl ?_
      refine R_appendO hg.ok _ rfl rfl rfl rfl rfl rfl rfl rfl rfl (by simp) (by simp [one1]) (turn_snoc e1) (by rw [Tm.rows_length, Tm.turnTL_map]; simp; omega) (by rw [Tm.rows_length, Tm.turnTL_map]; simp; omega) ?_
      refine R_run hg.ok 1000 rfl rfl ?_
      refine R_dropO 5 _ (by show φ.length ≤ _; omega) rfl (cong2 (mapOb_num (fun _ => rfl) _ _)) ?_
      exact R_next (k + 1) hk1 (by omega) ⟨.refl _, .refl _, .refl _, .refl _, .refl _, Ent.wrap (by omega) (by omega) (by omega), trivial⟩ rfl
    · have hk1 : t.l.length ≤ k := ge_dec h rfl
      refine R_retS hg 2 5 (Nat.le_refl _) rfl ((sealT_term rfl rfl rfl rfl rfl).trans ?_) (cong2 (mapOb_num (fun _ => rfl) _ _))
      rw [List.take_of_length_le hk1, Tm.turnT_eq, if_neg hkk]; subst hn'; rfl
end Go.Proofs.Ythdpfglpdgmphaa

namespace Go.Proofs.Ythdpfglpdgmphaa
open Go PSL Go.Proofs

theorem addV_nodup {l : List Int} {x : Int} (h : l.Nodup) : (addV l x).Nodup := by
  unfold addV
  split
  · exact h
  · rename_i hc
    rw [List.nodup_append]
    refine ⟨h, by simp, fun a ha b hb => ?_⟩
    simp at hb; subst hb
    rintro rfl
    exact hc (by simpa using ha)

theorem foldl_nodup : ∀ (l : List (Int × Tm)) (a : List Int), a.Nodup → (l.foldl stepV a).Nodup
  | [], a, h => h
  | e :: l, a, h => by
    refine foldl_nodup l _ ?_
    unfold stepV; split
    · exact addV_nodup h
    · exact h

theorem varsF_nodup : ∀ (l : List Tm) (a : List Int), a.Nodup → (varsF a l).Nodup
  | [], a, h => h
  | t :: l, a, h => varsF_nodup l _ (foldl_nodup _ _ h)
theorem varsT_nodup (l : List Tm) : (varsT l).Nodup := varsF_nodup l [] (by simp)

theorem take_not_mem {l : List Int} (h : l.Nodup) {k : Nat} (hk : k < l.length) : l[k] ∉ l.take k := by
  intro hm
  obtain ⟨i, hi, e⟩ := List.mem_iff_getElem.1 hm
  rw [List.length_take] at hi
  rw [List.getElem_take] at e
  have := (List.nodup_iff_pairwise_ne.1 h)
  rw [List.pairwise_iff_getElem] at this
  exact this i k (by omega) hk (by omega) e

set_option maxRecDepth 100000 in
theorem termNumber_ok (l : List Tm) (hsz : Tm.sizeL l < 1000000000) (hns : ∀ t ∈ l, ∀ e ∈ t.els 1, e.2.s.size < 1000000000) : PCtr Try.prog 14 [.d (.sl (Tm.rows l))] (.tup [.d (.sl (Tm.rows (numberT l).1)), iV (numberT l).2.1, iV (numberT l).2.2]) := by
  have hl := Tm.len_le_sizeL l
  have hvl : (varsT l).length ≤ Tm.sizeL l := by have := varsF_len l []; simpa [varsF, varsT] using this
  refine PCtr.of_R (pf := fun _ => .look 0) tyOk mixed Try.func14 rfl (by kernel_rfl) (by kernel_rfl) (by simp [Try.ntmps14]) fun w S hg => ?_
  refine R_run hg.ok 1000 rfl rfl ?_
  refine R_loop (fun k : Nat => ([(0, .d (.sl (Tm.rows l))), (13, .d (.sl (Tm.rows l))), (14, iV l.length), (15, iV k)], [])) (fun k => k ≤ l.length ∧ l.all rightT = (l.drop k).all rightT) (fun k => l.length - k) 0 ⟨Nat.zero_le _, rfl⟩ ⟨.refl _, .refl _, Ent.int (by rw [Tm.rows_length]), .refl _, trivial⟩ rfl ?_
  rintro k ⟨hk, hm⟩
  refine R_run hg.ok 1000 rfl rfl ?_
  refine R_if rfl rfl (fun h => ?_) (fun h => ?_) <;> refine R_run hg.ok 1000 rfl rfl ?_
  · have hk1 : k < l.length := lt_dec h rfl
    have e1 : l[k]? = some l[k] := List.getElem?_eq_getElem hk1
    have hsm := Tm.size_mem (List.getElem_mem hk1)
    rw [List.drop_eq_getElem_cons hk1, List.all_cons] at hm
    refine R_index hg.ok rfl rfl rfl rfl rfl rfl (Int.natCast_nonneg k) (Tm.rows_get e1) rfl ?_
    refine R_run hg.ok 1000 rfl rfl ?_
    refine R_call hg.ok (right_ok l[k] (by omega) (hns _ (List.getElem_mem hk1))) rfl rfl rfl rfl rfl rfl ?_
    refine R_run hg.ok 1000 rfl rfl ?_
    refine R_if rfl rfl (fun h => ?_) (fun h => ?_) <;> refine R_run hg.ok 1000 rfl rfl ?_
    · refine R_ret hg 5 rfl rfl ?_
      have h : rightT l[k] = false := by simpa using h
      simp only [numberT, hm, h, Bool.false_and]; rfl
    · have h : rightT l[k] = true := by simpa using h
      refine R_drop 0 (Nat.zero_le _) rfl ?_
      refine R_next (k + 1) ⟨hk1, by rw [hm, h, Bool.true_and]⟩ (by omega) ⟨.refl _, .refl _, .refl _, Ent.wrap (by omega) (by omega) (by omega), trivial⟩ rfl
  have hk1 : l.length ≤ k := ge_dec h rfl
  rw [List.drop_eq_nil_of_le hk1, List.all_nil] at hm
  refine R_makeMap hg.ok rfl rfl ?_
  refine R_run hg.ok 1000 rfl rfl ?_
  refine R_call hg.ok (vars_ok l hsz) rfl rfl rfl rfl rfl rfl ?_
  refine R_run hg.ok 1000 rfl rfl ?_
  have hnd := varsT_nodup l
  generalize hV : varsT l = V at *
  refine R_loop (fun k : Nat => ([(0, .d (.sl (Tm.rows l))), (7, .lo 1 0), (25, .d (.sl (irows V))), (26, iV V.length), (27, iV k)], [.map (imap (numM (V.take k) 0)), .box [.mp 0]])) (fun k => k ≤ V.length) (fun k => V.length - k) 0 (Nat.zero_le _) ⟨.refl _, .refl _, .refl _, Ent.int (by rw [irows_length]), .refl _, trivial⟩ rfl ?_
  intro k hk
  refine R_run hg.ok 1000 rfl rfl ?_
  refine R_if rfl rfl (fun h => ?_) (fun h => ?_) <;> refine R_run hg.ok 1000 rfl rfl ?_
  · have hk1 : k < V.length := lt_dec h rfl
    have e1 : V[k]? = some V[k] := List.getElem?_eq_getElem hk1
    refine R_index hg.ok rfl rfl rfl rfl rfl rfl (Int.natCast_nonneg k) (irows_get e1) rfl ?_
    refine R_run hg.ok 1000 rfl rfl ?_
    refine R_mapAddO hg.ok (numM (V.take k) 0) (numM (V.take (k + 1)) 0) rfl rfl rfl rfl rfl rfl rfl (by rw [getI_num _ _ _ (Int.le_refl _), atI_not_mem (take_not_mem hnd hk1)]; rfl) rfl (by rw [List.take_add_one, e1, Option.toList_some, ← numM_snoc, List.length_take, Nat.min_eq_left hk, Int.zero_add]; rfl) ?_
    refine R_run hg.ok 1000 rfl rfl ?_
    exact R_next (k + 1) hk1 (by omega) ⟨.refl _, .refl _, .refl _, .refl _, Ent.wrap (by omega) (by omega) (by omega), trivial⟩ rfl
  have hk1 : V.length ≤ k := ge_dec h rfl
  rw [List.take_of_length_le hk1]
  refine R_own 10 4 rfl rfl ?_
  refine R_loop (fun k : Nat => ([(7, .lo 1 0), (10, .ow 2 k), (36, .d (.sl (Tm.rows l))), (37, iV l.length), (38, iV k)], [.map (imap (numM V 0)), .box [.mp 0], .arr 4 k (Tm.rows (Tm.turnTL (placeG V) (l.take k)))])) (fun k => k ≤ l.length) (fun k => l.length - k) 0 (Nat.zero_le _) ⟨.refl _, .refl _, .refl _, Ent.int (by rw [Tm.rows_length]), .refl _, trivial⟩ rfl ?_
  intro k hk
  refine R_run hg.ok 1000 rfl rfl ?_
  refine R_if rfl rfl (fun h => ?_) (fun h => ?_) <;> refine R_run hg.ok 1000 rfl rfl ?_
  · have hk1 : k < l.length := lt_dec h rfl
    have e1 : l[k]? = some l[k] := List.getElem?_eq_getElem hk1
    have hsm := Tm.size_mem (List.getElem_mem hk1)
    refine R_index hg.ok rfl rfl rfl rfl rfl rfl (Int.natCast_nonneg k) (Tm.rows_get e1) rfl ?_
    refine R_run hg.ok 1000 rfl rfl ?_
    refine R_callL hg.ok hg.gup ⟨rfl, rfl⟩ (fun _ _ _ _ h => by cases h) [1, 0] (turnedN_ok ⟨[], fun _ => true⟩ V l[k] (by omega)) (fun _ => rfl) rfl rfl rfl rfl rfl (some2 (renOb_num _ _)) rfl (cong1 (renOb_num _ _)) ?_
    refine R_run hg.ok 1000 rfl rfl ?_
    refine R_appendO hg.ok _ rfl rfl rfl rfl rfl rfl rfl rfl rfl (by simp) (by simp [one1]) (turn_snoc e1) (by rw [Tm.rows_length, Tm.turnTL_map]; simp; omega) (by rw [Tm.rows_length, Tm.turnTL_map]; simp; omega) ?_
    refine R_run hg.ok 1000 rfl rfl ?_
    refine R_dropO 3 _ (Nat.zero_le _) rfl (cong1 (mapOb_num (fun _ => rfl) _ _)) ?_
    exact R_next (k + 1) hk1 (by omega) ⟨.refl _, .refl _, .refl _, .refl _, Ent.wrap (by omega) (by omega) (by omega), trivial⟩ rfl
  · have hk1 : l.length ≤ k := ge_dec h rfl
    refine R_ret hg 5 rfl (sealA_tup (mapO_cons (sealA_ow rfl) rfl)) ?_
    have hlen : (imap (numM V 0)).length = V.length := by simp [imap, numM_len]
    simp only [numberT, hV, hm, if_true, List.take_of_length_le hk1, hlen]; rfl
end Go.Proofs.Ythdpfglpdgmphaa

namespace Go.Proofs.Ythdpfglpdgmphaa
open Go PSL Go.Proofs

set_option maxHeartbeats 1600000 in
set_option maxRecDepth 100000 in
theorem readNumbers_ok (s : ByteArray) : PCtr Try.prog 6 [.d (.v (.string s))] (bV true) := by
  rw [← Tx_data s]
  generalize s.data.toList = L
  refine PCtr.of_R (pf := fun _ => .eff) tyOk mixed Try.func6 rfl (by kernel_rfl) (by kernel_rfl) (by simp [Try.ntmps6]) fun w S hg => ?_
  refine R_run hg.ok 1000 rfl rfl ?_
  refine R_if rfl rfl (fun h => ?_) (fun h => ?_) <;> refine R_run hg.ok 1000 rfl rfl ?_
  · refine R_call hg.ok (knows9_ok) rfl rfl rfl rfl rfl rfl ?_
    refine R_run hg.ok 1000 rfl rfl ?_
    refine R_ret hg 5 rfl rfl ?_
    rfl
  have hL : L.length ≤ 9000 := by have := of_decide_eq_false h; rw [Tx_size] at this; omega
  obtain ⟨⟨c, a, e⟩, hr⟩ := clau_ok rightT false L
  obtain ⟨f1, f2, f3, f4⟩ := clau_facts hL hr
  have hct := clau_count hr
  refine R_call hg.ok (clausesT_ok L hL hr) rfl rfl rfl rfl rfl rfl ?_
  refine R_run hg.ok 1000 rfl rfl ?_
  by_cases he : e ≠ 0
  · rw [f1 he]
    refine R_if rfl rfl (fun _ => ?_) (fun h => absurd h (by simp [he])) <;> refine R_run hg.ok 1000 rfl rfl ?_
    refine R_if rfl rfl (fun _ => ?_) (fun h => absurd h (by simp [clRows])) <;> refine R_run hg.ok 1000 rfl rfl ?_
    refine R_if rfl rfl (fun _ => ?_) (fun h => absurd h (by simp; omega)) <;> refine R_run hg.ok 1000 rfl rfl ?_
    refine R_if rfl rfl (fun _ => ?_) (fun h => absurd h (by simp [Tx_size]; omega)) <;> refine R_run hg.ok 1000 rfl rfl ?_
    refine R_call hg.ok (knows9_ok) rfl rfl rfl rfl rfl rfl ?_
    refine R_run hg.ok 1000 rfl rfl ?_
    refine R_ret hg 5 rfl rfl ?_
    rfl
  have he : e = 0 := Decidable.not_not.1 he
  subst he
  obtain ⟨rfl, hcn⟩ := f2 rfl
  refine R_if rfl rfl (fun h => absurd h (by simp)) (fun _ => ?_) <;> refine R_run hg.ok 1000 rfl rfl ?_
  refine R_loop (fun k : Nat => ([(3, .d (.sl (clRows c))), (4, iV 0), (6, iV k)], [])) (fun k => k ≤ c.length) (fun k => c.length - k) 0 (Nat.zero_le _) ⟨.refl _, .refl _, .refl _, trivial⟩ rfl ?_
  rintro k hk
  refine R_run hg.ok 1000 rfl rfl ?_
  refine R_if rfl rfl (fun h => ?_) (fun h => ?_) <;> refine R_run hg.ok 1000 rfl rfl ?_
  · have hk1 : k < c.length := lt_dec h (by rw [clRows_len])
    have e1 : c[k]? = some c[k] := List.getElem?_eq_getElem hk1
    have hm := hcn c[k] (List.getElem_mem hk1)
    generalize c[k] = x at e1 hm
    have hN := termNumber_ok [x.1] (by have := right_small hm.right; simpa [Tm.sizeL] using this) (fun t ht => by
      have : t = x.1 := by simpa using ht
      subst this
      exact fun e he => fair_names (right_fair hm.right) 1 e he)
    rw [hm.num] at hN
    have hS := refSame_ok x.1 x.1 (right_small hm.right)
    rw [(Tm.same_iff x.1 x.1).2 rfl] at hS
    have hR := refRight_ok x.1 (right_small hm.right) (fair_names (right_fair hm.right))
    rw [hm.right] at hR
    refine R_index hg.ok rfl rfl rfl rfl rfl rfl (Int.natCast_nonneg _) (clRows_get e1) rfl ?_
    refine R_run hg.ok 1000 rfl rfl ?_
    refine R_call hg.ok (hN.one) rfl rfl rfl rfl rfl rfl ?_
    refine R_run hg.ok 1000 rfl rfl ?_
    refine R_if rfl rfl (fun h => absurd h (by simp [Tm.rows])) (fun _ => ?_) <;> refine R_run hg.ok 1000 rfl rfl ?_
    refine R_if rfl rfl (fun h => absurd h (by simp)) (fun _ => ?_) <;> refine R_run hg.ok 1000 rfl rfl ?_
    refine R_index hg.ok rfl rfl rfl rfl rfl rfl (by decide) (show (Tm.rows [x.1])[Int.toNat 0]? = some (Tm.row x.1) from Tm.rows_get (i := 0) rfl) rfl ?_
    refine R_run hg.ok 1000 rfl rfl ?_
    refine R_call hg.ok (hS) rfl rfl rfl rfl rfl rfl ?_
    refine R_run hg.ok 1000 rfl rfl ?_
    refine R_if rfl rfl (fun h => absurd h (by simp)) (fun _ => ?_) <;> refine R_run hg.ok 1000 rfl rfl ?_
    refine R_index hg.ok rfl rfl rfl rfl rfl rfl (Int.natCast_nonneg _) (clRows_get e1) rfl ?_
    refine R_run hg.ok 1000 rfl rfl ?_
    refine R_if rfl rfl (fun h => absurd h (by simp [strRows_len])) (fun _ => ?_) <;> refine R_run hg.ok 1000 rfl rfl ?_
    refine R_call hg.ok (hR) rfl rfl rfl rfl rfl rfl ?_
    refine R_run hg.ok 1000 rfl rfl ?_
    refine R_if rfl rfl (fun h => absurd h (by simp)) (fun _ => ?_) <;> refine R_run hg.ok 1000 rfl rfl ?_
    refine R_dropO 0 [] (Nat.zero_le _) rfl rfl ?_
    exact R_next (k + 1) hk1 (by omega) ⟨.refl _, .refl _, Ent.wrap (by omega) (by omega) (by omega), trivial⟩ rfl
  · refine R_if rfl rfl (fun _ => ?_) (fun h => absurd h (by simp)) <;> refine R_run hg.ok 1000 rfl rfl ?_
    refine R_call hg.ok (knows9_ok) rfl rfl rfl rfl rfl rfl ?_
    refine R_run hg.ok 1000 rfl rfl ?_
    refine R_ret hg 5 rfl rfl ?_
    rfl
end Go.Proofs.Ythdpfglpdgmphaa
