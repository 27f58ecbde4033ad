import Derived.Test.YtppghekipbnjhaaSMsg2
import Derived.Test.YtppghekipbnjhaaSRef1
import Derived.Test.YtppghekipbnjhaaPlA
namespace Go.Proofs.Ytppghekipbnjhaa
open Go PSL Go.Proofs

set_option maxRecDepth 100000 in
theorem like_ok (a b : Tm) : PCtr Try.prog 58 [a.av, b.av] (bV (like a b)) := by
  have no : like a b = false → bV false = bV (like a b) := fun h => by rw [h]
  refine PCtr.of_R (pf := fun _ => .still) tyOk mixed Try.func58 rfl (by kernel_rfl) (by kernel_rfl) (by simp [Try.ntmps58]) fun w S hg => ?_
  refine R_run hg.ok 1000 rfl rfl ?_
  refine R_if rfl rfl (fun h1 => ?_) (fun h1 => ?_) <;> refine R_run hg.ok 1000 rfl rfl ?_
  rotate_left
  · refine R_ret hg 5 rfl rfl ?_
    exact no (by simp [like]; simp at h1; simp [h1])
  refine R_if rfl rfl (fun h2 => ?_) (fun h2 => ?_) <;> refine R_run hg.ok 1000 rfl rfl ?_
  rotate_left
  · refine R_ret hg 5 rfl rfl ?_
    exact no (by simp [like]; simp at h2; simp [h2])
  refine R_if rfl rfl (fun h3 => ?_) (fun h3 => ?_) <;> refine R_run hg.ok 1000 rfl rfl ?_
  rotate_left
  · refine R_ret hg 5 rfl rfl ?_
    exact no (by simp [like]; simp at h3; simp [h3])
  refine R_if rfl rfl (fun h4 => ?_) (fun h4 => ?_) <;> refine R_run hg.ok 1000 rfl rfl ?_
  rotate_left
  · refine R_ret hg 5 rfl rfl ?_
    exact no (by simp [like, h4])
  refine R_ret hg 5 rfl rfl ?_
  rw [Tm.rows_length, Tm.rows_length]
  simp at h1 h2 h3
  have hb : ¬ b.k = 1 := fun e => h1 (h2.trans e)
  have : ((a.l.length : Int) == (b.l.length : Int)) = like a b := by
    rw [Bool.eq_iff_iff]
    simp [like, h2, h3, h4, hb]
    omega
  rw [← this]; rfl

set_option maxRecDepth 100000 in
theorem atP_ok (M : Prs) (a b : Tm) (hl : M.length < 1000000000) (hM : ∀ p ∈ M, p.1.size < 1000000000 ∧ p.2.size < 1000000000) : PCtr Try.prog 59 [.d (.sl (prsRows M)), a.av, b.av] (iV (atP M a b 0)) := by
  refine PCtr.of_R (pf := fun _ => .still) tyOk mixed Try.func59 rfl (by kernel_rfl) (by kernel_rfl) (by simp [Try.ntmps59]) fun w S hg => ?_
  refine R_run hg.ok 1000 rfl rfl ?_
  refine R_loop (fun k : Nat => ([(0, .d (.sl (prsRows M))), (4, .lo 0 0), (5, .lo 1 0), (7, iV k)], [boxR a, boxR b])) (fun k => k ≤ M.length ∧ atP M a b 0 = atP (M.drop k) a b k) (fun k => M.length - k) 0 ⟨Nat.zero_le _, rfl⟩ ⟨.refl _, .refl _, .refl _, .refl _, trivial⟩ rfl ?_
  rintro k ⟨hk0, hm⟩
  refine R_run hg.ok 1000 rfl rfl ?_
  refine R_if rfl rfl (fun h => ?_) (fun h => ?_) <;> refine R_run hg.ok 1000 rfl rfl ?_
  · have hk1 : k < M.length := lt_dec h (by rw [prsRows_len])
    have e1 : M[k]? = some M[k] := List.getElem?_eq_getElem hk1
    rw [List.drop_eq_getElem_cons hk1, atP] at hm
    have hMk := hM _ (List.getElem_mem hk1)
    refine R_index hg.ok rfl rfl rfl rfl rfl rfl (Int.natCast_nonneg _) (prsRows_get e1) rfl ?_
    refine R_run hg.ok 1000 rfl rfl ?_
    refine R_call hg.ok (refSame_ok M[k].1 a hMk.1) rfl rfl rfl rfl rfl rfl ?_
    refine R_run hg.ok 1000 rfl rfl ?_
    refine R_if rfl rfl (fun h1 => ?_) (fun h1 => ?_) <;> refine R_run hg.ok 1000 rfl rfl ?_
    · refine R_index hg.ok rfl rfl rfl rfl rfl rfl (Int.natCast_nonneg _) (prsRows_get e1) rfl ?_
      refine R_run hg.ok 1000 rfl rfl ?_
      refine R_call hg.ok (refSame_ok M[k].2 b hMk.2) rfl rfl rfl rfl rfl rfl ?_
      refine R_run hg.ok 1000 rfl rfl ?_
      refine R_if rfl rfl (fun h2 => ?_) (fun h2 => ?_) <;> refine R_run hg.ok 1000 rfl rfl ?_
      · rw [if_pos (by rw [h1, h2]; rfl)] at hm
        refine R_ret hg 5 rfl rfl ?_
        rw [hm]; rfl
      · rw [if_neg (by rw [h1, h2]; simp)] at hm
        exact R_next (k + 1) ⟨hk1, hm⟩ (by omega) ⟨.refl _, .refl _, .refl _, Ent.wrap (by omega) (by omega) (by omega), trivial⟩ rfl
    · rw [if_neg (by rw [h1]; simp)] at hm
      exact R_next (k + 1) ⟨hk1, hm⟩ (by omega) ⟨.refl _, .refl _, .refl _, Ent.wrap (by omega) (by omega) (by omega), trivial⟩ rfl
  · have hk1 : M.length ≤ k := ge_dec h (by rw [prsRows_len])
    rw [List.drop_eq_nil_of_le hk1, atP] at hm
    refine R_ret hg 5 rfl rfl ?_
    rw [hm]; rfl

theorem drop_len {α : Type} {l : List α} {k : Nat} (h : l.length ≤ k) : l.drop k = [] := List.drop_eq_nil_of_le h

set_option maxRecDepth 100000 in
theorem pairs_ok (a : Tm) : ∀ (b : Tm) (M : Prs), a.size < 1000000000 → b.size < 1000000000 → (∀ p ∈ M, p.1.size < 1000000000 ∧ p.2.size < 1000000000) → M.length + a.size < 1000000000 → PCtr Try.prog 21 [.d (.sl (prsRows M)), a.av, b.av] (.d (.sl (prsRows (Tm.pairsT a b M)))) := by
  induction a using Tm.ind with
  | _ a ih =>
  intro b M hsz hst hM hMl
  have hl := Tm.len_le_sizeL a.l
  have hs := Tm.size_eq a
  have hs2 := Tm.size_eq b
  have hc := Tm.pairsT_eq a b M
  refine PCtr.of_R (pf := pfB) tyOk mixed Try.func21 rfl (by kernel_rfl) (by kernel_rfl) (by simp [Try.ntmps21]) fun w S hg => ?_
  refine R_run hg.ok 1000 rfl rfl ?_
  refine R_call hg.ok (like_ok a b) rfl rfl rfl rfl rfl rfl ?_
  refine R_run hg.ok 1000 rfl rfl ?_
  refine R_if rfl rfl (fun hk => ?_) (fun hk => ?_) <;> refine R_run hg.ok 1000 rfl rfl ?_
  · have hk : like a b = false := by simpa using hk
    rw [if_neg (by rw [hk]; simp)] at hc
    refine R_call hg.ok (atP_ok M a b (by omega) hM) rfl rfl rfl rfl rfl rfl ?_
    refine R_run hg.ok 1000 rfl rfl ?_
    refine R_if rfl rfl (fun h => ?_) (fun h => ?_) <;> refine R_run hg.ok 1000 rfl rfl ?_
    · rw [if_pos (of_decide_eq_true h)] at hc
      refine R_appendF hg.ok (rows := []) rfl rfl (.inl rfl) rfl (.inl rfl) rfl rfl rfl (by simp) (prsRows_sz M) (by simp [prsRows_len]; omega) (by simp [prsRows_len]; omega) ?_
      refine R_run hg.ok 1000 rfl rfl ?_
      refine R_appendO hg.ok (prsRows (M ++ [(a, b)])) rfl rfl rfl rfl rfl rfl rfl rfl rfl (by simp) (by simp [one1]) (prs_snoc M a b) (by simp [prsRows_len]; omega) (by simp [prsRows_len]; omega) ?_
      refine R_run hg.ok 1000 rfl rfl ?_
      refine R_ret hg 5 rfl (sealA_ow rfl) ?_
      rw [hc]
    · rw [if_neg (of_decide_eq_false h)] at hc
      refine R_ret hg 5 rfl rfl ?_
      rw [hc]
  · have hk : like a b = true := by simpa using hk
    rw [if_pos hk] at hc
    obtain ⟨_, _, _, _, hll⟩ := like_iff.1 hk
    refine R_loop (fun x : Nat × Prs => ([(0, .d (.sl (prsRows x.2))), (4, .lo 0 0), (5, .lo 1 0), (7, iV x.1)], [boxR a, boxR b]))
      (fun x => x.1 ≤ a.l.length ∧ Tm.pairsTL a.l b.l M = Tm.pairsTL (a.l.drop x.1) (b.l.drop x.1) x.2 ∧ x.2.length + Tm.sizeL (a.l.drop x.1) ≤ M.length + Tm.sizeL a.l ∧ ∀ p ∈ x.2, p.1.size < 1000000000 ∧ p.2.size < 1000000000)
      (fun x => a.l.length - x.1) (0, M) ⟨Nat.zero_le _, rfl, Nat.le_refl _, hM⟩ ⟨.refl _, .refl _, .refl _, .refl _, trivial⟩ rfl ?_
    rintro ⟨k, Q⟩ ⟨hk0, hm, hQl, hQ⟩
    simp only at hk0 hm hQl hQ
    refine R_run hg.ok 1000 rfl rfl ?_
    refine R_if rfl rfl (fun h => ?_) (fun h => ?_) <;> refine R_run hg.ok 1000 rfl rfl ?_
    · have hk1 : k < a.l.length := lt_dec h (by rw [Tm.rows_length])
      have hk2 : k < b.l.length := by omega
      have e1 : a.l[k]? = some a.l[k] := List.getElem?_eq_getElem hk1
      have e2 : b.l[k]? = some b.l[k] := List.getElem?_eq_getElem hk2
      rw [List.drop_eq_getElem_cons hk1, List.drop_eq_getElem_cons hk2, Tm.pairsTL] at hm
      rw [List.drop_eq_getElem_cons hk1, Tm.sizeL] at hQl
      have hsm := Tm.size_mem (List.getElem_mem hk1)
      have hsm2 := Tm.size_mem (List.getElem_mem hk2)
      refine R_index hg.ok rfl rfl rfl rfl rfl rfl (Int.natCast_nonneg _) (Tm.rows_get e1) rfl ?_
      refine R_run hg.ok 1000 rfl rfl ?_
      refine R_index hg.ok rfl rfl rfl rfl rfl rfl (Int.natCast_nonneg _) (Tm.rows_get e2) rfl ?_
      refine R_run hg.ok 1000 rfl rfl ?_
      refine R_call hg.ok (ih _ (List.getElem_mem hk1) b.l[k] Q (by omega) (by omega) hQ (by omega)) rfl rfl rfl rfl rfl rfl ?_
      refine R_run hg.ok 1000 rfl rfl ?_
      have h1 := Tm.both_pairs a.l[k] b.l[k] Q
      have h2 := Tm.both_mem a.l[k] b.l[k] Q
      obtain ⟨h3, Q2, h4, h5⟩ := h1
      rw [h3] at h2
      refine R_next (k + 1, Tm.pairsT a.l[k] b.l[k] Q) ⟨hk1, hm, by simp only; rw [h4]; simp; omega, fun p hp => ?_⟩ (by simp only; omega) ⟨.refl _, .refl _, .refl _, Ent.wrap (by simp only; omega) (by simp only; omega) (by simp only; omega), trivial⟩ rfl
      rcases h2 p hp with h | h
      · exact hQ p h
      · omega
    · have hk1 : a.l.length ≤ k := ge_dec h (by rw [Tm.rows_length])
      rw [drop_len hk1] at hm
      refine R_ret hg 5 rfl rfl ?_
      rw [hc, hm]; cases (b.l.drop k) <;> rfl

theorem build_snoc (M : Prs) {l m : List Tm} {k : Nat} {x y : Tm} (h : l[k]? = some x) (h2 : m[k]? = some y) : Tm.rows (Tm.buildTL M (l.take k) (m.take k)) ++ [[.v (.int .i64 (Tm.buildT M x y).k), .v (.string (Tm.buildT M x y).s), .v (.int .i64 (Tm.buildT M x y).n), .sl (Tm.rows (Tm.buildT M x y).l)]] = Tm.rows (Tm.buildTL M (l.take (k + 1)) (m.take (k + 1))) := by
  have key : ∀ (l m : List Tm) (k : Nat), l[k]? = some x → m[k]? = some y → Tm.buildTL M (l.take (k + 1)) (m.take (k + 1)) = Tm.buildTL M (l.take k) (m.take k) ++ [Tm.buildT M x y] := by
    intro l
    induction l with
    | nil => intro m k h; simp at h
    | cons a l ih =>
      intro m k h h2
      cases m with
      | nil => simp at h2
      | cons b m =>
        cases k with
        | zero => simp at h h2; subst h; subst h2; simp [Tm.buildTL]
        | succ k =>
          have := ih m k (by simpa using h) (by simpa using h2)
          simp only [List.take_succ_cons, Tm.buildTL, List.cons_append] at this ⊢
          rw [this]
  rw [key l m k h h2]; exact rows_snoc _ _

set_option maxRecDepth 100000 in
theorem build_ok (M : Prs) (hl : M.length < 1000000000) (hM : ∀ p ∈ M, p.1.size < 1000000000 ∧ p.2.size < 1000000000) (a : Tm) : ∀ (b : Tm), a.size < 1000000000 → PCtr Try.prog 57 [.d (.sl (prsRows M)), a.av, b.av] (Tm.buildT M a b).av := by
  induction a using Tm.ind with
  | _ a ih =>
  intro b hsz
  have hl2 := Tm.len_le_sizeL a.l
  have hs := Tm.size_eq a
  have hc := Tm.buildT_eq M a b
  refine PCtr.of_R (pf := pfB) tyOk mixed Try.func57 rfl (by kernel_rfl) (by kernel_rfl) (by simp [Try.ntmps57]) fun w S hg => ?_
  refine R_run hg.ok 1000 rfl rfl ?_
  refine R_call hg.ok (like_ok a b) rfl rfl rfl rfl rfl rfl ?_
  refine R_run hg.ok 1000 rfl rfl ?_
  refine R_if rfl rfl (fun hk => ?_) (fun hk => ?_) <;> refine R_run hg.ok 1000 rfl rfl ?_
  · have hk : like a b = false := by simpa using hk
    rw [if_neg (by rw [hk]; simp)] at hc
    refine R_call hg.ok (atP_ok M a b hl hM) rfl rfl rfl rfl rfl rfl ?_
    refine R_run hg.ok 1000 rfl rfl ?_
    refine R_ret hg 5 rfl rfl ?_
    rw [hc]; rfl
  · have hk : like a b = true := by simpa using hk
    rw [if_pos hk] at hc
    obtain ⟨_, _, _, _, hll⟩ := like_iff.1 hk
    refine R_ownB 3 3 4 rfl rfl rfl ?_
    refine R_loop (fun k : Nat => ([(0, .d (.sl (prsRows M))), (4, .lo 0 0), (5, .lo 1 0), (6, .lo 2 0), (7, .lo 3 0), (8, iV k)], [boxR a, boxR b, zBoxM, .box [.d (.v (.int .i64 a.k)), .d (.v (.string a.s)), .d (.v (.int .i64 a.n)), .ow 4 k], .arr 4 k (Tm.rows (Tm.buildTL M (a.l.take k) (b.l.take k)))]))
      (fun k => k ≤ a.l.length) (fun k => a.l.length - k) 0 (Nat.zero_le _) ⟨.refl _, .refl _, .refl _, .refl _, .refl _, .refl _, trivial⟩ rfl ?_
    intro k hk0
    refine R_run hg.ok 1000 rfl rfl ?_
    refine R_if rfl rfl (fun h => ?_) (fun h => ?_) <;> refine R_run hg.ok 1000 rfl rfl ?_
    · have hk1 : k < a.l.length := lt_dec h (by rw [Tm.rows_length])
      have hk2 : k < b.l.length := by omega
      have e1 : a.l[k]? = some a.l[k] := List.getElem?_eq_getElem hk1
      have e2 : b.l[k]? = some b.l[k] := List.getElem?_eq_getElem hk2
      have hsm := Tm.size_mem (List.getElem_mem hk1)
      refine R_index hg.ok rfl rfl rfl rfl rfl rfl (Int.natCast_nonneg _) (Tm.rows_get e1) rfl ?_
      refine R_run hg.ok 1000 rfl rfl ?_
      refine R_index hg.ok rfl rfl rfl rfl rfl rfl (Int.natCast_nonneg _) (Tm.rows_get e2) rfl ?_
      refine R_run hg.ok 1000 rfl rfl ?_
      refine R_call hg.ok (ih _ (List.getElem_mem hk1) b.l[k] (by omega)) rfl rfl rfl rfl rfl rfl ?_
      refine R_run hg.ok 1000 rfl rfl ?_
      have hlen : (Tm.buildTL M (a.l.take k) (b.l.take k)).length ≤ k := by
        have key : ∀ (l m : List Tm), (Tm.buildTL M l m).length ≤ l.length := by
          intro l
          induction l with
          | nil => intro m; cases m <;> simp [Tm.buildTL]
          | cons a l ih => intro m; cases m with
            | nil => simp [Tm.buildTL]
            | cons b m => simp [Tm.buildTL, ih m]
        have := key (a.l.take k) (b.l.take k)
        simp at this; omega
      refine R_appendO hg.ok _ rfl rfl rfl rfl rfl rfl rfl rfl rfl (by simp) (by simp [one1]) (build_snoc M e1 e2) (by rw [Tm.rows_length]; simp; omega) (by rw [Tm.rows_length]; simp; omega) ?_
      refine R_run hg.ok 1000 rfl rfl ?_
      exact R_next (k + 1) hk1 (by omega) ⟨.refl _, .refl _, .refl _, .refl _, .refl _, Ent.wrap (by omega) (by omega) (by omega), trivial⟩ rfl
    · have hk1 : a.l.length ≤ k := ge_dec h (by rw [Tm.rows_length])
      refine R_ret hg 5 rfl (sealA_term rfl rfl rfl rfl) ?_
      rw [List.take_of_length_le hk1, List.take_of_length_le (by omega), hc]; rfl

set_option maxRecDepth 100000 in
theorem refOf_ok (a b : Tm) (ha : a.size < 100000000) (hb : b.size < 100000000) : PCtr Try.prog 20 [a.av, b.av] (Tm.bothT a b []).1.av := by
  have h1 := Tm.both_pairs a b []
  obtain ⟨h3, Q2, h4, h5⟩ := h1
  have h6 := Tm.both_mem a b []
  have h7 := Tm.both_build a b [] []
  rw [List.append_nil, h3] at h7
  rw [h3] at h6
  rw [List.nil_append] at h4
  have hp := pairs_ok a b [] (by omega) (by omega) (by simp) (by simp; omega)
  refine PCtr.of_R (pf := fun _ => .still) tyOk mixed Try.func20 rfl (by kernel_rfl) (by kernel_rfl) (by simp [Try.ntmps20]) fun w S hg => ?_
  refine R_run hg.ok 1000 rfl rfl ?_
  refine R_call hg.ok (hp) rfl rfl rfl rfl rfl rfl ?_
  refine R_run hg.ok 1000 rfl rfl ?_
  refine R_call hg.ok (build_ok (Tm.pairsT a b []) (by rw [h4]; omega) (fun p hp => by have := (h6 p hp).resolve_left (by simp); omega) a b (by omega)) rfl rfl rfl rfl rfl rfl ?_
  refine R_run hg.ok 1000 rfl rfl ?_
  refine R_ret hg 5 rfl rfl ?_
  rw [h7]; rfl

set_option maxRecDepth 100000 in
theorem refAll_ok (t : Tm) (r : List Tm) (hl : r.length < 100000000) (hb : ∀ x ∈ t :: r, Small4 x) : PCtr Try.prog 24 [.d (.sl (Tm.rows (t :: r)))] (foldM (Tm.bothT t t []).1 r).av := by
  have ht := (hb t (by simp)).1
  refine PCtr.of_R (pf := fun _ => .still) tyOk mixed Try.func24 rfl (by kernel_rfl) (by kernel_rfl) (by simp [Try.ntmps24]) fun w S hg => ?_
  refine R_run hg.ok 1000 rfl rfl ?_
  refine R_index hg.ok rfl rfl rfl rfl rfl rfl (by decide) (Tm.rows_get (l := t :: r) (i := 0) rfl) rfl ?_
  refine R_run hg.ok 1000 rfl rfl ?_
  refine R_index hg.ok rfl rfl rfl rfl rfl rfl (by decide) (Tm.rows_get (l := t :: r) (i := 0) rfl) rfl ?_
  refine R_run hg.ok 1000 rfl rfl ?_
  refine R_call hg.ok (refOf_ok t t (by omega) (by omega)) rfl rfl rfl rfl rfl rfl ?_
  refine R_run hg.ok 1000 rfl rfl ?_
  have h0 := Tm.both_size t t []
  refine R_loop (fun x : Nat × Tm => ([(0, .d (.sl (Tm.rows (t :: r)))), (2, .lo 0 0), (3, .lo 1 0), (4, iV (x.1 + 1 : Nat))], [zBoxM, boxR x.2])) (fun x => x.1 ≤ r.length ∧ foldM (Tm.bothT t t []).1 r = foldM x.2 (r.drop x.1) ∧ x.2.size ≤ 4000) (fun x => r.length - x.1) (0, (Tm.bothT t t []).1) ⟨Nat.zero_le _, rfl, by simp only; omega⟩ ⟨.refl _, .refl _, .refl _, .refl _, trivial⟩ rfl ?_
  rintro ⟨k, o⟩ ⟨hk, hm, ho⟩
  simp only at hk hm ho
  refine R_run hg.ok 1000 rfl rfl ?_
  refine R_if rfl rfl (fun h => ?_) (fun h => ?_) <;> refine R_run hg.ok 1000 rfl rfl ?_
  · have hk1 : k < r.length := by have := lt_dec (n := r.length + 1) h (by rw [Tm.rows_length]; simp); omega
    have e1 : (t :: r)[k + 1]? = some r[k] := by simp [List.getElem?_eq_getElem hk1]
    have hs := (hb r[k] (by simp)).1
    rw [List.drop_eq_getElem_cons hk1] at hm
    refine R_index hg.ok rfl rfl rfl rfl rfl rfl (Int.natCast_nonneg _) (Tm.rows_get e1) rfl ?_
    refine R_run hg.ok 1000 rfl rfl ?_
    refine R_call hg.ok (refOf_ok o r[k] (by omega) (by omega)) rfl rfl rfl rfl rfl rfl ?_
    refine R_run hg.ok 1000 rfl rfl ?_
    have h5 := Tm.both_size o r[k] []
    exact R_next (k + 1, (Tm.bothT o r[k] []).1) ⟨hk1, hm, by simp only; omega⟩ (by simp only; omega) ⟨.refl _, .refl _, .refl _, Ent.wrap (by simp only; omega) (by simp only; omega) (by simp only; omega), trivial⟩ rfl
  · have hk1 : r.length ≤ k := by have := ge_dec (n := r.length + 1) h (by rw [Tm.rows_length]; simp); omega
    rw [List.drop_eq_nil_of_le hk1] at hm
    rw [hm]
    refine R_ret hg 5 rfl rfl ?_
    rfl

theorem fun6_ok (s : ByteArray) (l : List Tm) : PCtr Try.prog 51 [.d (.v (.string s)), .d (.sl (Tm.rows l))] (Tm.mk 3 s 0 l).av := by
  refine PCtr.of_R (pf := fun _ => .still) tyOk mixed Try.func51 rfl (by kernel_rfl) (by kernel_rfl) (by simp [Try.ntmps51]) fun w S hg => ?_
  refine R_run hg.ok 1000 rfl rfl ?_
  refine R_ret hg 5 rfl rfl ?_
  rfl
end Go.Proofs.Ytppghekipbnjhaa
