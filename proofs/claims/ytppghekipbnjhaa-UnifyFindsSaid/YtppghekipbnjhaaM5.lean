import Derived.Test.YtppghekipbnjhaaM4
namespace Go.Proofs.Ytppghekipbnjhaa
open Go PSL Go.Proofs

set_option maxRecDepth 100000 in
theorem ref4Walk_ok (B : Binds) (hc : Tm.chainB B) (hl : B.length < 1000000000) : ∀ (f : Nat) (t : Tm), (∀ (j : Nat) (c : Int × Tm), B[j]? = some c → t.k = 1 → c.1 = t.n → B.length - j ≤ f) → PCtr Try.prog 93 [.d (.sl (bindRows B)), t.av] (Tm.walkT B f t).av := by
  intro f
  induction f with
  | zero =>
    intro t hf
    refine PCtr.of_R (pf := pfB) tyOk mixed Try.func93 rfl (by kernel_rfl) (by kernel_rfl) (by simp [Try.ntmps93]) fun w S hg => ?_
    refine R_run hg.ok 1000 rfl rfl ?_
    refine R_if rfl rfl (fun h => ?_) (fun h => ?_) <;> refine R_run hg.ok 1000 rfl rfl ?_
    · have hk : t.k = 1 := by simpa using h
      rcases placeB_find B t.n with ⟨h1, h2⟩ | ⟨k, x, h1, h2, h3⟩
      · refine R_call hg.ok (place_ok B t.n hl) rfl rfl rfl rfl rfl rfl ?_
        refine R_run hg.ok 1000 rfl rfl ?_
        refine R_if rfl rfl (fun h => absurd h (by simp; omega)) (fun _ => ?_) <;> refine R_run hg.ok 1000 rfl rfl ?_
        refine R_ret hg 5 rfl rfl ?_
        rfl
      · have := hf k _ h2 hk rfl
        have := (List.getElem?_eq_some_iff.1 h2).1
        omega
    · refine R_ret hg 5 rfl rfl ?_
      rfl
  | succ f ih =>
    intro t hf
    refine PCtr.of_R (pf := pfB) tyOk mixed Try.func93 rfl (by kernel_rfl) (by kernel_rfl) (by simp [Try.ntmps93]) fun w S hg => ?_
    refine R_run hg.ok 1000 rfl rfl ?_
    refine R_if rfl rfl (fun h => ?_) (fun h => ?_) <;> refine R_run hg.ok 1000 rfl rfl ?_
    · have hk : t.k = 1 := by simpa using h
      rcases placeB_find B t.n with ⟨h1, h2⟩ | ⟨k, x, h1, h2, h3⟩
      · refine R_call hg.ok (place_ok B t.n hl) rfl rfl rfl rfl rfl rfl ?_
        refine R_run hg.ok 1000 rfl rfl ?_
        refine R_if rfl rfl (fun h => absurd h (by simp; omega)) (fun _ => ?_) <;> refine R_run hg.ok 1000 rfl rfl ?_
        refine R_ret hg 5 rfl rfl ?_
        simp only [Tm.walkT]
        rw [if_pos hk, h2]; rfl
      · have hlt := (List.getElem?_eq_some_iff.1 h2).1
        have hfk := hf k _ h2 hk rfl
        refine R_call hg.ok (place_ok B t.n hl) rfl rfl rfl rfl rfl rfl ?_
        refine R_run hg.ok 1000 rfl rfl ?_
        rw [h1]
        refine R_if rfl rfl (fun _ => ?_) (fun h => absurd h (by simp)) <;> refine R_run hg.ok 1000 rfl rfl ?_
        refine R_index hg.ok rfl rfl rfl rfl rfl rfl (Int.natCast_nonneg _) (bindRows_get h2) rfl ?_
        refine R_run hg.ok 1000 rfl rfl ?_
        refine R_call hg.ok (ih x (fun j c hc' hxk hcn => by have := hc.chain k _ h2 hxk j c hc' hcn; omega)) rfl rfl rfl rfl rfl rfl ?_
        refine R_run hg.ok 1000 rfl rfl ?_
        refine R_ret hg 5 rfl rfl ?_
        simp only [Tm.walkT]
        rw [if_pos hk, h3]; rfl
    · have hk : ¬ t.k = 1 := by simpa using h
      refine R_ret hg 5 rfl rfl ?_
      simp only [Tm.walkT]
      rw [if_neg hk]; rfl
theorem ref4WalkB_ok (B : Binds) (hc : Tm.chainB B) (hl : B.length < 1000000000) (t : Tm) : PCtr Try.prog 93 [.d (.sl (bindRows B)), t.av] (Tm.walkB B t).av := ref4Walk_ok B hc hl _ t fun j c _ _ _ => by omega

set_option maxRecDepth 100000 in
theorem ref4In_ok (Y : YP) (M : List Int) (n : Int) (hM : M.length < 1000000000) : SCtr Try.prog Y 104 [.ow 0 M.length, iV n] [.arr 1 M.length (irows M)] (bV (M.contains n)) [.arr 1 M.length (irows M)] := by
  refine SCtr.of_R (pf := fun _ => .eff) tyOk mixed Try.func104 rfl (by kernel_rfl) (by kernel_rfl) (by simp [Try.ntmps104]) (by simp) fun w S φ hg => ?_
  have hφ : φ.length = 1 := hg.hs0.len
  refine R_run hg.ok 1000 rfl rfl ?_
  refine R_loop (fun k : Nat => ([(0, .ow 0 M.length), (1, iV n), (5, iV k)], [.arr 1 M.length (irows M)])) (fun k => k ≤ M.length ∧ M.contains n = (M.drop k).contains n) (fun k => M.length - k) 0 ⟨Nat.zero_le _, rfl⟩ ⟨.refl _, .refl _, .refl _, trivial⟩ rfl ?_
  rintro k ⟨hk, hm⟩
  refine R_run hg.ok 1000 rfl rfl ?_
  refine R_lenO hg.ok rfl rfl rfl rfl rfl (n := (M.length : Int)) (by rw [irows_length]) ?_
  refine R_run hg.ok 1000 rfl rfl ?_
  refine R_if rfl rfl (fun h => ?_) (fun h => ?_) <;> refine R_run hg.ok 1000 rfl rfl ?_
  · have hk1 : k < M.length := lt_dec h rfl
    have e1 : M[k]? = some M[k] := List.getElem?_eq_getElem hk1
    rw [List.drop_eq_getElem_cons hk1, contains_cons'] at hm
    generalize M[k] = m at e1 hm
    refine R_indexO hg.ok rfl rfl rfl rfl rfl rfl rfl rfl rfl (Int.natCast_nonneg k) (by rw [irows_length]; simpa using hk1) ?_
    refine R_run hg.ok 1000 rfl rfl ?_
    refine R_loadE hg.ok rfl rfl rfl rfl rfl rfl (irows_get e1) rfl ?_
    refine R_run hg.ok 1000 rfl rfl ?_
    refine R_if rfl rfl (fun h2 => ?_) (fun h2 => ?_) <;> refine R_run hg.ok 1000 rfl rfl ?_
    · have h2 : m = n := by simpa using h2
      rw [hm, decide_eq_true h2]
      exact R_retS hg 1 5 (Nat.le_refl _) rfl rfl rfl
    · have h2 : ¬ m = n := by simpa using h2
      exact R_next (k + 1) ⟨hk1, by rw [hm, decide_eq_false h2, Bool.false_or]⟩ (by omega) ⟨.refl _, .refl _, Ent.wrap (by omega) (by omega) (by omega), trivial⟩ rfl
  · have hk1 : M.length ≤ k := ge_dec h rfl
    rw [hm, List.drop_eq_nil_of_le hk1]
    exact R_retS hg 1 5 (Nat.le_refl _) rfl rfl rfl

set_option maxRecDepth 100000 in
theorem ref4Look_ok (Y : YP) (B : Binds) (hB : ∀ b ∈ B, b.2.size < 400000000) (hBl : B.length < 1000000) (v : Int) : ∀ (u : Nat) (n : Nat) (t : Tm) (M : List Int), t.size ≤ n → t.size < 400000000 → M.Nodup → (∀ m ∈ M, findB B m ≠ none) → (B.countP fun b => !M.contains b.1) < u → SCtr Try.prog Y 102 [.d (.sl (bindRows B)), iV v, t.av, .ow 0 M.length] [.arr 1 M.length (irows M)] (.tup [bV (Tm.lkT (Tm.lkF B v u) t M).1, .ow 0 (Tm.lkT (Tm.lkF B v u) t M).2.length]) [.arr 1 (Tm.lkT (Tm.lkF B v u) t M).2.length (irows (Tm.lkT (Tm.lkF B v u) t M).2)] := by
  intro u
  induction u with
  | zero => intro n t M _ _ _ _ h; omega
  | succ u ihu =>
  intro n
  induction n with
  | zero => intro t M h _; have := Tm.size_pos t; omega
  | succ n ihn =>
  intro t M hn ht hnd hmb hu
  have hMl : M.length ≤ B.length := Tm.nodup_bound hnd hmb
  refine SCtr.of_R (pf := pfBE) tyOk mixed Try.func102 rfl (by kernel_rfl) (by kernel_rfl) (by simp [Try.ntmps102]) (by simp) fun w S φ hg => ?_
  have hφ : φ.length = 1 := hg.hs0.len
  have ret : ∀ {r : Bool} {Q : List Int}, Tm.lkT (Tm.lkF B v (u + 1)) t M = (r, Q) → (Tm.lkT (Tm.lkF B v (u + 1)) t M).1 = r ∧ (Tm.lkT (Tm.lkF B v (u + 1)) t M).2 = Q := fun e => by rw [e]; exact ⟨rfl, rfl⟩
  refine R_run hg.ok 1000 rfl rfl ?_
  refine R_if rfl rfl (fun h1 => ?_) (fun h1 => ?_) <;> refine R_run hg.ok 1000 rfl rfl ?_
  · have hk1 : t.k = 1 := by simpa using h1
    rcases placeB_find B t.n with ⟨p1, p2⟩ | ⟨j, x, p1, p2, p3⟩
    · refine R_call hg.ok (place_ok B t.n (by omega)) rfl rfl rfl rfl rfl rfl ?_
      refine R_run hg.ok 1000 rfl rfl ?_
      refine R_if rfl rfl (fun _ => ?_) (fun h => absurd h (by simp; omega)) <;> refine R_run hg.ok 1000 rfl rfl ?_
      have e := ret (r := decide (t.n = v)) (Q := M) (by
        rw [Tm.lkT_var hk1]; simp only [Tm.lkF]
        by_cases h2 : t.n = v
        · rw [if_pos h2, decide_eq_true h2]
        · rw [if_neg h2, p2, decide_eq_false h2])
      rw [e.1, e.2]
      exact R_retS hg 1 5 (Nat.le_refl _) rfl rfl rfl
    · refine R_call hg.ok (place_ok B t.n (by omega)) rfl rfl rfl rfl rfl rfl ?_
      refine R_run hg.ok 1000 rfl rfl ?_
      rw [p1]
      refine R_if rfl rfl (fun h => absurd h (by simp)) (fun _ => ?_) <;> refine R_run hg.ok 1000 rfl rfl ?_
      refine R_if rfl rfl (fun h2 => ?_) (fun h2 => ?_) <;> refine R_run hg.ok 1000 rfl rfl ?_
      · have h2 : t.n = v := by simpa using h2
        have e := ret (r := decide (t.n = v)) (Q := M) (by
          rw [Tm.lkT_var hk1]; simp only [Tm.lkF]; rw [if_pos h2, decide_eq_true h2])
        rw [e.1, e.2]
        exact R_retS hg 1 5 (Nat.le_refl _) rfl rfl rfl
      · have h2 : ¬ t.n = v := by simpa using h2
        refine R_callSO hg.ok hg.gup hg.wide hg.Y [0] [.arr 1 M.length (irows M), boxR t] (ref4In_ok Y M t.n (by omega)) (fun _ => rfl) rfl rfl rfl rfl rfl rfl rfl rfl ?_
        refine R_run hg.ok 1000 rfl rfl ?_
        cases hc : M.contains t.n with
        | true =>
          refine R_if rfl rfl (fun _ => ?_) (fun h => absurd h (by simp)) <;> refine R_run hg.ok 1000 rfl rfl ?_
          have e := ret (r := false) (Q := M) (by rw [Tm.lkT_var hk1]; simp only [Tm.lkF]; rw [if_neg h2, p3]; simp only; rw [hc, if_pos rfl])
          rw [e.1, e.2]
          exact R_retS hg 1 5 (Nat.le_refl _) rfl rfl rfl
        | false =>
          refine R_if rfl rfl (fun h => absurd h (by simp)) (fun _ => ?_) <;> refine R_run hg.ok 1000 rfl rfl ?_
          have hcm : t.n ∉ M := by simpa using hc
          have hcall := ihu x.size x (M ++ [t.n]) (Nat.le_refl _) (hB _ (Tm.findB_mem p3)) (by rw [List.nodup_append]; exact ⟨hnd, by simp, fun a ha b hb => by simp at hb; subst hb; exact fun e => hcm (e ▸ ha)⟩) (fun m hm => by
            rcases List.mem_append.1 hm with hm | hm
            · exact hmb m hm
            · simp only [List.mem_singleton] at hm; subst hm; rw [p3]; simp) (by have := Tm.count_lt p3 hc; omega)
          have hq : Tm.lkT (Tm.lkF B v (u + 1)) t M = Tm.lkT (Tm.lkF B v u) x (M ++ [t.n]) := by
            rw [Tm.lkT_var hk1]; simp only [Tm.lkF]; rw [if_neg h2, p3]; simp only; rw [hc, if_neg (by simp)]
          rw [hq]
          rw [show (M ++ [t.n]).length = M.length + 1 by simp] at hcall
          generalize Tm.lkT (Tm.lkF B v u) x (M ++ [t.n]) = rq at hcall
          obtain ⟨r, Q⟩ := rq
          refine R_index hg.ok rfl rfl rfl rfl rfl rfl (Int.natCast_nonneg _) (bindRows_get p2) rfl ?_
          refine R_run hg.ok 1000 rfl rfl ?_
          refine R_appendO hg.ok (irows (M ++ [t.n])) rfl rfl rfl rfl rfl rfl rfl rfl rfl (by simp) (by simp [one1]) (irows_snoc1 _ _) (by rw [irows_length]; simp; omega) (by rw [irows_length]; simp; omega) ?_
          refine R_run hg.ok 1000 rfl rfl ?_
          refine R_callSO hg.ok hg.gup hg.wide hg.Y [0] [.arr 1 Q.length (irows Q), boxR t] hcall (fun _ => rfl) rfl rfl rfl rfl rfl rfl rfl rfl ?_
          refine R_run hg.ok 1000 rfl rfl ?_
          exact R_retS hg 1 5 (Nat.le_refl _) rfl rfl rfl
  have hk1 : t.k ≠ 1 := by simpa using h1
  have hl0 : Tm.lkT (Tm.lkF B v (u + 1)) t M = Tm.lkTL (Tm.lkF B v (u + 1)) t.l M := Tm.lkT_fun hk1
  have hsz : Tm.sizeL t.l ≤ n := by have := Tm.size_eq t; omega
  have hll := Tm.length_le_sizeL t.l
  have hsz2 := Tm.size_eq t
  refine R_loop (fun x : Nat × List Int => ([(0, .d (.sl (bindRows B))), (1, iV v), (3, .ow 0 x.2.length), (6, .lo 1 0), (11, iV x.1)], [.arr 1 x.2.length (irows x.2), boxR t])) (fun x => x.1 ≤ t.l.length ∧ Tm.lkT (Tm.lkF B v (u + 1)) t M = Tm.lkTL (Tm.lkF B v (u + 1)) (t.l.drop x.1) x.2 ∧ (x.2.Nodup ∧ ∀ m ∈ x.2, findB B m ≠ none) ∧ (B.countP fun b => !x.2.contains b.1) < u + 1) (fun x => t.l.length - x.1) (0, M) ⟨Nat.zero_le _, hl0, ⟨hnd, hmb⟩, hu⟩ ⟨.refl _, .refl _, .refl _, .refl _, .refl _, trivial⟩ rfl ?_
  rintro ⟨k, Q⟩ ⟨hk, hm, hQn, hQ⟩
  simp only at hk hm hQn hQ
  refine R_run hg.ok 1000 rfl rfl ?_
  refine R_if rfl rfl (fun h => ?_) (fun h => ?_) <;> refine R_run hg.ok 1000 rfl rfl ?_
  · have hkl : k < t.l.length := lt_dec h (by rw [Tm.rows_length])
    have e1 : t.l[k]? = some t.l[k] := List.getElem?_eq_getElem hkl
    have hms := Tm.size_mem (List.getElem_mem hkl)
    rw [List.drop_eq_getElem_cons hkl] at hm
    generalize t.l[k] = x at e1 hms hm
    simp only [Tm.lkTL] at hm
    refine R_index hg.ok rfl rfl rfl rfl rfl rfl (Int.natCast_nonneg _) (Tm.rows_get e1) rfl ?_
    refine R_run hg.ok 1000 rfl rfl ?_
    have hcall := ihn x Q (by omega) (by omega) hQn.1 hQn.2 hQ
    obtain ⟨R0, hext⟩ := Tm.lkT_ext (Tm.lkF_ext B v (u + 1)) x Q
    have hcnt := Tm.count_le B Q R0
    rw [← hext] at hcnt
    have hkeep := Tm.lkT_keep (Tm.lkF_keep B v (u + 1)) x Q hQn
    generalize Tm.lkT (Tm.lkF B v (u + 1)) x Q = rq at hcall hm hcnt hkeep
    obtain ⟨r, Q'⟩ := rq
    simp only at hm hcnt hkeep
    refine R_callSO hg.ok hg.gup hg.wide hg.Y [0] [.arr 1 Q'.length (irows Q'), boxR t] hcall (fun _ => rfl) rfl rfl rfl rfl rfl rfl rfl rfl ?_
    refine R_run hg.ok 1000 rfl rfl ?_
    refine R_if rfl rfl (fun h2 => ?_) (fun h2 => ?_) <;> refine R_run hg.ok 1000 rfl rfl ?_
    · have h2 : r = true := h2
      subst h2
      have e := ret (r := true) (Q := Q') (by rw [hm, if_pos rfl])
      rw [e.1, e.2]
      exact R_retS hg 1 5 (Nat.le_refl _) rfl rfl rfl
    · have h2 : r = false := h2
      subst h2
      exact R_next (k + 1, Q') ⟨hkl, by rw [hm, if_neg (by simp)], hkeep, by simp only; omega⟩ (by simp only; omega) ⟨.refl _, .refl _, .refl _, .refl _, Ent.wrap (by simp only; omega) (by simp only; omega) (by simp only; omega), trivial⟩ rfl
  · have hkl : t.l.length ≤ k := ge_dec h (by rw [Tm.rows_length])
    rw [List.drop_eq_nil_of_le hkl] at hm
    have e := ret (r := false) (Q := Q) (by rw [hm]; simp [Tm.lkTL])
    rw [e.1, e.2]
    exact R_retS hg 1 5 (Nat.le_refl _) rfl rfl rfl

set_option maxRecDepth 100000 in
theorem ref4Within_ok (B : Binds) (hB : ∀ b ∈ B, b.2.size < 400000000) (hBl : B.length < 1000000) (v : Int) (t : Tm) (ht : t.size < 400000000) : PCtr Try.prog 94 [.d (.sl (bindRows B)), iV v, t.av] (bV (Tm.withB B v t)) := by
  have hcall := ref4Look_ok ⟨[], fun _ => true⟩ B hB hBl v (B.length + 1) t.size t [] (Nat.le_refl _) ht (by simp) (by simp) (by have := List.countP_le_length (p := fun b : Int × Tm => !([] : List Int).contains b.1) (l := B); omega)
  have hw : Tm.withB B v t = (Tm.lkT (Tm.lkF B v (B.length + 1)) t []).1 := rfl
  rw [hw]
  generalize Tm.lkT (Tm.lkF B v (B.length + 1)) t [] = rq at hcall
  obtain ⟨r, Q⟩ := rq
  have hc := SCtr.nilE (axs := [.d (.sl (bindRows B)), iV v, t.av]) (y := .tup [bV r, .d (.sl (irows Q))]) hcall rfl (by simp [sealA, mapO, nth, bV])
  refine PCtr.of_R (pf := fun _ => .still) tyOk mixed Try.func94 rfl (by kernel_rfl) (by kernel_rfl) (by simp [Try.ntmps94]) fun w S hg => ?_
  refine R_run hg.ok 1000 rfl rfl ?_
  refine R_callV hg.ok hg.gup hc rfl rfl rfl rfl rfl rfl ?_
  refine R_run hg.ok 1000 rfl rfl ?_
  refine R_ret hg 5 rfl rfl ?_
  rfl
end Go.Proofs.Ytppghekipbnjhaa

namespace Go.Proofs.Ytppghekipbnjhaa
open Go PSL Go.Proofs
def mrows (met : Tm.Met) : List (List D) := met.map fun m => [.v (.int .i64 m.1), .v (.int .i64 m.2)]
theorem mrows_len (met : Tm.Met) : (mrows met).length = met.length := by simp [mrows]
theorem mrows_get {met : Tm.Met} {i : Nat} {m : Int × Int} (h : met[i]? = some m) : (mrows met)[i]? = some [.v (.int .i64 m.1), .v (.int .i64 m.2)] := by simp [mrows, h]
theorem mrows_snoc (met : Tm.Met) (m : Int × Int) : mrows met ++ [[.v (.int .i64 m.1), .v (.int .i64 m.2)]] = mrows (met ++ [m]) := by simp [mrows]
theorem bindRows_snoc (l : Binds) (v : Int) (t : Tm) : bindRows l ++ [[.v (.int .i64 v), .v (.int .i64 t.k), .v (.string t.s), .v (.int .i64 t.n), .sl (Tm.rows t.l)]] = bindRows (l ++ [(v, t)]) := by simp [bindRows, bindRow, Tm.row]

theorem met_cons {m : Int × Int} {met : Tm.Met} {p : Int × Int} : (m :: met).contains p = (decide (m = p) || met.contains p) := by
  simp only [List.contains_cons]; congr 1; rw [Bool.eq_iff_iff]; simp; exact eq_comm
def pfR4 : Nat → Cls := fun f => bif Nat.beq f 4000000007 then .loadB else bif Nat.beq f 4000000006 then .turn 201 else bif Nat.beq f 4000100033 then .look 10001 else bif Nat.beq f 4000100042 then .look 10001 else .eff

set_option maxHeartbeats 1600000 in
set_option maxRecDepth 100000 in
theorem ref4Uni_ok (Y : YP) {S : List Int} {N : Nat} (hSl : S.length ≤ 1000) (hN : N ≤ 1000000) : ∀ (f : Nat) (l : Binds) (a b : Tm) (met : Tm.Met) (l' : Binds) (met' : Tm.Met) (ok : Bool), Tm.refU f l a b met = some (l', met', ok) → Tm.UG S N [(a, b)] l → Tm.MetS S met → SCtr Try.prog Y 74 [.d (.sl (bindRows l)), a.av, b.av, .ow 0 met.length] [.arr 2 met.length (mrows met)] (.tup [.d (.sl (bindRows l')), .ow 0 met'.length, bV ok]) [.arr 2 met'.length (mrows met')] := by
  intro f
  induction f with
  | zero => intro l a b met l' met' ok h; cases h
  | succ f ih =>
  intro l a b met l' met' ok hr hU hM
  refine SCtr.of_R (pf := pfR4) tyOk mixed Try.func74 rfl (by kernel_rfl) (by kernel_rfl) (by simp [Try.ntmps74]) (by simp) fun w S0 φ hg => ?_
  have hφ : φ.length = 1 := hg.hs0.len
  have hll : l.length ≤ S.length := nodup_le (l.map (·.1)) S hU.chain.nodup (fun v hv => by
    obtain ⟨c, hc, rfl⟩ := List.mem_map.1 hv
    exact (hU.vb c hc).1) |> (by simpa using ·)
  have hml : met.length ≤ 1000 * 1000 := Nat.le_trans hM.len (Nat.mul_le_mul hSl hSl)
  have hsb : ∀ c ∈ l, c.2.size < 400000000 := fun c hc => by have := hU.sb c hc; omega
  have cwa := ref4WalkB_ok l hU.chain (by omega) a
  have cwb := ref4WalkB_ok l hU.chain (by omega) b
  have zwa := hU.walk1.size
  have zwb := hU.walk2.size
  have hargs := fun hx hy => hU.args (sw := true) hx hy
  unfold Tm.refU at hr
  refine R_run hg.ok 5 rfl rfl ?_
  refine R_cut2 (fun _ : Unit => ([(0, .d (.sl (bindRows l))), (3, .ow 0 (Tm.metU a b met).length), (5, .lo 1 0), (6, .lo 2 0)], [.arr 2 (Tm.metU a b met).length (mrows (Tm.metU a b met)), boxR a, boxR b])) (fun _ => Tm.skipU a b met = false) rfl ?_ ?_
  · refine R_run hg.ok 1000 rfl rfl ?_
    have one : ¬ (a.k = 1 ∧ b.k = 1) → Tm.skipU a b met = false ∧ Tm.metU a b met = met := fun h => by
      have : (decide (a.k = 1) && decide (b.k = 1)) = false := by simpa using h
      unfold Tm.skipU Tm.metU
      rw [this]
      exact ⟨rfl, rfl⟩
    refine R_if rfl rfl (fun h1 => ?_) (fun h1 => ?_) <;> refine R_run hg.ok 1000 rfl rfl ?_
    · have h1 : a.k = 1 := by simpa using h1
      refine R_if rfl rfl (fun h2 => ?_) (fun h2 => ?_) <;> refine R_run hg.ok 1000 rfl rfl ?_
      · have h2 : b.k = 1 := by simpa using h2
        have hm2 : Tm.metU a b met = met ++ [(a.n, b.n)] := by simp [Tm.metU, h1, h2]
        have hs2 : Tm.skipU a b met = met.contains (a.n, b.n) := by simp only [Tm.skipU, h1, h2, decide_true, Bool.true_and]
        refine R_loop (fun k : Nat => ([(0, .d (.sl (bindRows l))), (3, .ow 0 met.length), (5, .lo 1 0), (6, .lo 2 0), (11, iV k)], [.arr 2 met.length (mrows met), boxR a, boxR b])) (fun k => k ≤ met.length ∧ met.contains (a.n, b.n) = (met.drop k).contains (a.n, b.n)) (fun k => met.length - k) 0 ⟨Nat.zero_le _, rfl⟩ ⟨.refl _, .refl _, .refl _, .refl _, .refl _, trivial⟩ rfl ?_
        rintro k ⟨hk, hm⟩
        refine R_run hg.ok 1000 rfl rfl ?_
        refine R_lenO hg.ok rfl rfl rfl rfl rfl (n := (met.length : Int)) (by rw [mrows_len]) ?_
        refine R_run hg.ok 1000 rfl rfl ?_
        refine R_if rfl rfl (fun h => ?_) (fun h => ?_) <;> refine R_run hg.ok 1000 rfl rfl ?_
        · have hk1 : k < met.length := lt_dec h rfl
          have e1 : met[k]? = some met[k] := List.getElem?_eq_getElem hk1
          rw [List.drop_eq_getElem_cons hk1, met_cons] at hm
          generalize met[k] = m at e1 hm
          obtain ⟨m1, m2⟩ := m
          refine R_indexOJ hg.ok 10000 rfl rfl rfl (by simp [mayO, Ob.lvl, Ob.isBox]) rfl rfl rfl rfl rfl rfl (Int.natCast_nonneg _) (by rw [mrows_len]; simpa using hk1) ?_
          refine R_run hg.ok 1000 rfl rfl ?_
          refine R_loadEJ hg.ok 10000 rfl rfl rfl (by simp [mayO, Ob.lvl, Ob.isBox]) rfl rfl rfl (mrows_get e1) rfl ?_
          refine R_run hg.ok 1000 rfl rfl ?_
          refine R_if rfl rfl (fun h3 => ?_) (fun h3 => ?_) <;> refine R_run hg.ok 1000 rfl rfl ?_
          · have h3 : m1 = a.n := by simpa using h3
            refine R_indexOJ hg.ok 10000 rfl rfl rfl (by simp [mayO, Ob.lvl, Ob.isBox]) rfl rfl rfl rfl rfl rfl (Int.natCast_nonneg _) (by rw [mrows_len]; simpa using hk1) ?_
            refine R_run hg.ok 1000 rfl rfl ?_
            refine R_loadEJ hg.ok 10000 rfl rfl rfl (by simp [mayO, Ob.lvl, Ob.isBox]) rfl rfl rfl (mrows_get e1) rfl ?_
            refine R_run hg.ok 1000 rfl rfl ?_
            refine R_if rfl rfl (fun h4 => ?_) (fun h4 => ?_) <;> refine R_run hg.ok 1000 rfl rfl ?_
            · have h4 : m2 = b.n := by simpa using h4
              have hsk : Tm.skipU a b met = true := by rw [hs2, hm, h3, h4]; simp
              rw [if_pos hsk] at hr
              cases hr
              exact R_retS hg 1 5 (Nat.le_refl _) rfl rfl rfl
            · have h4 : ¬ m2 = b.n := by simpa using h4
              exact R_next (k + 1) ⟨hk1, by rw [hm]; simp [h4]⟩ (by omega) ⟨.refl _, .refl _, .refl _, .refl _, Ent.wrap (by omega) (by omega) (by omega), trivial⟩ rfl
          · have h3 : ¬ m1 = a.n := by simpa using h3
            exact R_next (k + 1) ⟨hk1, by rw [hm]; simp [h3]⟩ (by omega) ⟨.refl _, .refl _, .refl _, .refl _, Ent.wrap (by omega) (by omega) (by omega), trivial⟩ rfl
        · have hk1 : met.length ≤ k := ge_dec h rfl
          rw [List.drop_eq_nil_of_le hk1] at hm
          have hsk : Tm.skipU a b met = false := by rw [hs2, hm]; rfl
          refine R_appendO hg.ok (mrows (met ++ [(a.n, b.n)])) rfl rfl rfl rfl rfl rfl rfl rfl rfl (by simp) (by simp [one1]) (mrows_snoc met (a.n, b.n)) (by rw [mrows_len]; simp; omega) (by rw [mrows_len]; simp; omega) ?_
          refine R_run hg.ok 1000 rfl rfl ?_
          refine R_to () hsk ⟨.refl _, by rw [hm2]; simp only [List.length_append, List.length_singleton]; exact .refl _, .refl _, .refl _, trivial⟩ ?_
          rw [hm2]; simp only [List.length_append, List.length_singleton]; rfl
      · have h2 : ¬ b.k = 1 := by simpa using h2
        obtain ⟨o1, o2⟩ := one fun h => h2 h.2
        refine R_to () o1 ⟨.refl _, by rw [o2]; exact .refl _, .refl _, .refl _, trivial⟩ ?_
        rw [o2]; rfl
    · have h1 : ¬ a.k = 1 := by simpa using h1
      obtain ⟨o1, o2⟩ := one fun h => h1 h.1
      refine R_to () o1 ⟨.refl _, by rw [o2]; exact .refl _, .refl _, .refl _, trivial⟩ ?_
      rw [o2]; rfl
  rintro _ hs
  rw [if_neg (by rw [hs]; simp)] at hr
  have hM' := hM.more hs (hU.vt (a, b) (by simp)).1 (hU.vt (a, b) (by simp)).2
  have hml' : (Tm.metU a b met).length ≤ 1000 * 1000 := Nat.le_trans hM'.len (Nat.mul_le_mul hSl hSl)
  have hzs : ∀ v : Int, ∀ t : Tm, t.size ≤ N → PCtr Try.prog 94 [.d (.sl (bindRows l)), iV v, t.av] (bV (Tm.withB l v t)) := fun v t ht => ref4Within_ok l hsb (by omega) v t (by omega)
  generalize Tm.metU a b met = m1 at *
  refine R_run hg.ok 1000 rfl rfl ?_
  refine R_call hg.ok (cwa) rfl rfl rfl rfl rfl rfl ?_
  refine R_run hg.ok 1000 rfl rfl ?_
  refine R_call hg.ok (cwb) rfl rfl rfl rfl rfl rfl ?_
  refine R_run hg.ok 1000 rfl rfl ?_
  generalize Tm.walkB l a = a' at *
  generalize Tm.walkB l b = b' at *
  by_cases hv : a'.k = 1 ∧ b'.k = 1 ∧ a'.n = b'.n
  · rw [if_pos hv] at hr
    cases hr
    refine R_if rfl rfl (fun _ => ?_) (fun h => absurd h (by simp [hv.1])) <;> refine R_run hg.ok 1000 rfl rfl ?_
    refine R_if rfl rfl (fun _ => ?_) (fun h => absurd h (by simp [hv.2.1])) <;> refine R_run hg.ok 1000 rfl rfl ?_
    refine R_if rfl rfl (fun _ => ?_) (fun h => absurd h (by simp [hv.2.2])) <;> refine R_run hg.ok 1000 rfl rfl ?_
    exact R_retS hg 1 5 (Nat.le_refl _) rfl rfl rfl
  rw [if_neg hv] at hr
  by_cases hb : b'.k = 1
  · rw [if_pos hb] at hr
    cases hr
    have hw := hzs b'.n a' zwa
    by_cases ha : a'.k = 1
    · refine R_if rfl rfl (fun _ => ?_) (fun h => absurd h (by simp [ha])) <;> refine R_run hg.ok 1000 rfl rfl ?_
      refine R_if rfl rfl (fun _ => ?_) (fun h => absurd h (by simp [hb])) <;> refine R_run hg.ok 1000 rfl rfl ?_
      refine R_if rfl rfl (fun h => absurd h (by have : ¬ a'.n = b'.n := fun e => hv ⟨ha, hb, e⟩; simp [this])) (fun _ => ?_) <;> refine R_run hg.ok 1000 rfl rfl ?_
      refine R_if rfl rfl (fun _ => ?_) (fun h => absurd h (by simp [hb])) <;> refine R_run hg.ok 1000 rfl rfl ?_
      refine R_appendF hg.ok (rows := []) rfl rfl (.inl rfl) rfl (.inl rfl) rfl rfl rfl (by simp) (bindRows_sz l) (by simp [bindRows_len]; omega) (by simp [bindRows_len]; omega) ?_
      refine R_run hg.ok 1000 rfl rfl ?_
      refine R_appendO hg.ok (bindRows (l ++ [(b'.n, a')])) rfl rfl rfl rfl rfl rfl rfl rfl rfl (by simp) (by simp [one1]) (bindRows_snoc l b'.n a') (by simp [bindRows_len]; omega) (by simp [bindRows_len]; omega) ?_
      refine R_run hg.ok 1000 rfl rfl ?_
      refine R_call hg.ok (hw) rfl rfl rfl rfl rfl rfl ?_
      refine R_run hg.ok 1000 rfl rfl ?_
      exact R_retS hg 1 5 (Nat.le_refl _) rfl rfl rfl
    · refine R_if rfl rfl (fun h => absurd h (by simp [ha])) (fun _ => ?_) <;> refine R_run hg.ok 1000 rfl rfl ?_
      refine R_if rfl rfl (fun _ => ?_) (fun h => absurd h (by simp [hb])) <;> refine R_run hg.ok 1000 rfl rfl ?_
      refine R_appendF hg.ok (rows := []) rfl rfl (.inl rfl) rfl (.inl rfl) rfl rfl rfl (by simp) (bindRows_sz l) (by simp [bindRows_len]; omega) (by simp [bindRows_len]; omega) ?_
      refine R_run hg.ok 1000 rfl rfl ?_
      refine R_appendO hg.ok (bindRows (l ++ [(b'.n, a')])) rfl rfl rfl rfl rfl rfl rfl rfl rfl (by simp) (by simp [one1]) (bindRows_snoc l b'.n a') (by simp [bindRows_len]; omega) (by simp [bindRows_len]; omega) ?_
      refine R_run hg.ok 1000 rfl rfl ?_
      refine R_call hg.ok (hw) rfl rfl rfl rfl rfl rfl ?_
      refine R_run hg.ok 1000 rfl rfl ?_
      exact R_retS hg 1 5 (Nat.le_refl _) rfl rfl rfl
  rw [if_neg hb] at hr
  by_cases ha : a'.k = 1
  · rw [if_pos ha] at hr
    cases hr
    have hw := hzs a'.n b' zwb
    refine R_if rfl rfl (fun _ => ?_) (fun h => absurd h (by simp [ha])) <;> refine R_run hg.ok 1000 rfl rfl ?_
    refine R_if rfl rfl (fun h => absurd h (by simp [hb])) (fun _ => ?_) <;> refine R_run hg.ok 1000 rfl rfl ?_
    refine R_if rfl rfl (fun h => absurd h (by simp [hb])) (fun _ => ?_) <;> refine R_run hg.ok 1000 rfl rfl ?_
    refine R_if rfl rfl (fun _ => ?_) (fun h => absurd h (by simp [ha])) <;> refine R_run hg.ok 1000 rfl rfl ?_
    refine R_appendF hg.ok (rows := []) rfl rfl (.inl rfl) rfl (.inl rfl) rfl rfl rfl (by simp) (bindRows_sz l) (by simp [bindRows_len]; omega) (by simp [bindRows_len]; omega) ?_
    refine R_run hg.ok 1000 rfl rfl ?_
    refine R_appendO hg.ok (bindRows (l ++ [(a'.n, b')])) rfl rfl rfl rfl rfl rfl rfl rfl rfl (by simp) (by simp [one1]) (bindRows_snoc l a'.n b') (by simp [bindRows_len]; omega) (by simp [bindRows_len]; omega) ?_
    refine R_run hg.ok 1000 rfl rfl ?_
    refine R_call hg.ok (hw) rfl rfl rfl rfl rfl rfl ?_
    refine R_run hg.ok 1000 rfl rfl ?_
    exact R_retS hg 1 5 (Nat.le_refl _) rfl rfl rfl
  rw [if_neg ha] at hr
  have hargs := hargs ha hb
  rw [List.append_nil, show Tm.ordU true a'.l b'.l = a'.l.zip b'.l from rfl] at hargs
  have bad : Tm.clashB a' b' = true → some (l, m1, false) = some (l', met', ok) := fun h => by rw [if_pos h] at hr; exact hr
  refine R_if rfl rfl (fun h => absurd h (by simp [ha])) (fun _ => ?_) <;> refine R_run hg.ok 1000 rfl rfl ?_
  refine R_if rfl rfl (fun h => absurd h (by simp [hb])) (fun _ => ?_) <;> refine R_run hg.ok 1000 rfl rfl ?_
  refine R_if rfl rfl (fun h => absurd h (by simp [ha])) (fun _ => ?_) <;> refine R_run hg.ok 1000 rfl rfl ?_
  refine R_if rfl rfl (fun c1 => ?_) (fun c1 => ?_) <;> refine R_run hg.ok 1000 rfl rfl ?_
  · have c1 : ¬ a'.k = b'.k := by simpa using c1
    cases bad (by simp [Tm.clashB, c1])
    exact R_retS hg 1 5 (Nat.le_refl _) rfl rfl rfl
  have c1 : a'.k = b'.k := by simpa using c1
  refine R_if rfl rfl (fun c2 => ?_) (fun c2 => ?_) <;> refine R_run hg.ok 1000 rfl rfl ?_
  · have c2 : ¬ a'.n = b'.n := by simpa using c2
    cases bad (by simp [Tm.clashB, c2])
    exact R_retS hg 1 5 (Nat.le_refl _) rfl rfl rfl
  have c2 : a'.n = b'.n := by simpa using c2
  refine R_if rfl rfl (fun c3 => ?_) (fun c3 => ?_) <;> refine R_run hg.ok 1000 rfl rfl ?_
  · have c3 : strEq a'.s b'.s = false := by simpa using c3
    cases bad (by simp [Tm.clashB, c3])
    exact R_retS hg 1 5 (Nat.le_refl _) rfl rfl rfl
  have c3 : strEq a'.s b'.s = true := by simpa using c3
  refine R_if rfl rfl (fun c4 => ?_) (fun c4 => ?_) <;> refine R_run hg.ok 1000 rfl rfl ?_
  · have c4 : ¬ a'.l.length = b'.l.length := by simp [Tm.rows_length] at c4; omega
    cases bad (by simp [Tm.clashB, c4])
    exact R_retS hg 1 5 (Nat.le_refl _) rfl rfl rfl
  have c4 : a'.l.length = b'.l.length := by simp [Tm.rows_length] at c4; omega
  have hcl : Tm.clashB a' b' = false := by simp [Tm.clashB, c1, c2, c3, c4]
  rw [if_neg (by rw [hcl]; simp)] at hr
  have hla := Tm.length_le_sizeL a'.l
  have hsa := Tm.size_eq a'
  have hzl : (a'.l.zip b'.l).length = a'.l.length := by rw [List.length_zip]; omega
  refine R_loop (fun x : Nat × Binds × Tm.Met => ([(0, .d (.sl (bindRows x.2.1))), (3, .ow 0 x.2.2.length), (5, .lo 1 0), (6, .lo 2 0), (12, iV x.1)], [.arr 2 x.2.2.length (mrows x.2.2), boxR a', boxR b'])) (fun x => x.1 ≤ a'.l.length ∧ Tm.refUL (Tm.refU f) x.2.1 ((a'.l.zip b'.l).drop x.1) x.2.2 = some (l', met', ok) ∧ Tm.UG S N ((a'.l.zip b'.l).drop x.1) x.2.1 ∧ Tm.MetS S x.2.2) (fun x => a'.l.length - x.1) (0, l, m1) ⟨Nat.zero_le _, hr, hargs, hM'⟩ ⟨.refl _, .refl _, .refl _, .refl _, .refl _, trivial⟩ rfl ?_
  rintro ⟨k, l2, m2⟩ ⟨hk, hq, hU2, hM2⟩
  simp only at hk hq hU2 hM2
  refine R_run hg.ok 1000 rfl rfl ?_
  refine R_if rfl rfl (fun h => ?_) (fun h => ?_) <;> refine R_run hg.ok 1000 rfl rfl ?_
  · have hk1 : k < a'.l.length := lt_dec h (by rw [Tm.rows_length])
    have e1 : a'.l[k]? = some a'.l[k] := List.getElem?_eq_getElem hk1
    have e2 : b'.l[k]? = some (b'.l[k]'(by omega)) := List.getElem?_eq_getElem (by omega)
    have e3 : (a'.l.zip b'.l).drop k = (a'.l[k], b'.l[k]'(by omega)) :: (a'.l.zip b'.l).drop (k + 1) := by
      rw [List.drop_eq_getElem_cons (by omega), List.getElem_zip]
    rw [e3] at hq hU2
    generalize a'.l[k] = x at *
    generalize (b'.l[k]'(by omega)) = y at *
    simp only [Tm.refUL] at hq
    cases hq3 : Tm.refU f l2 x y m2 with
    | none => rw [hq3] at hq; cases hq
    | some r =>
    rw [hq3] at hq
    obtain ⟨l3, m3, ok3⟩ := r
    have hcall := ih l2 x y m2 l3 m3 ok3 hq3 (hU2.sub (by simp)) hM2
    refine R_index hg.ok rfl rfl rfl rfl rfl rfl (Int.natCast_nonneg _) (Tm.rows_get e1) rfl ?_
    refine R_run hg.ok 1000 rfl rfl ?_
    refine R_index hg.ok rfl rfl rfl rfl rfl rfl (Int.natCast_nonneg _) (Tm.rows_get e2) rfl ?_
    refine R_run hg.ok 1000 rfl rfl ?_
    refine R_callSO hg.ok hg.gup hg.wide hg.Y [0] [.arr 2 m3.length (mrows m3), boxR a', boxR b'] hcall (fun _ => rfl) rfl rfl rfl rfl rfl rfl rfl rfl ?_
    refine R_run hg.ok 1000 rfl rfl ?_
    cases ok3 with
    | false =>
      refine R_if rfl rfl (fun _ => ?_) (fun h => absurd h (by simp)) <;> refine R_run hg.ok 1000 rfl rfl ?_
      cases hq
      exact R_retS hg 1 5 (Nat.le_refl _) rfl rfl rfl
    | true =>
      refine R_if rfl rfl (fun h => absurd h (by simp)) (fun _ => ?_) <;> refine R_run hg.ok 1000 rfl rfl ?_
      obtain ⟨g1, g2⟩ := Tm.refU_good f l2 x y m2 l3 m3 hq3 _ hU2 hM2
      exact R_next (k + 1, l3, m3) ⟨hk1, hq, g1, g2⟩ (by simp only; omega) ⟨.refl _, .refl _, .refl _, .refl _, Ent.wrap (by simp only; omega) (by simp only; omega) (by simp only; omega), trivial⟩ rfl
  · have hk1 : a'.l.length ≤ k := ge_dec h (by rw [Tm.rows_length])
    rw [List.drop_eq_nil_of_le (by omega)] at hq
    cases hq
    exact R_retS hg 1 5 (Nat.le_refl _) rfl rfl rfl
end Go.Proofs.Ytppghekipbnjhaa

namespace Go.Proofs.Ytppghekipbnjhaa
open Go PSL Go.Proofs

set_option maxRecDepth 100000 in
theorem ref4Unify_ok {S : List Int} {N : Nat} (hSl : S.length ≤ 1000) (hN : N ≤ 1000000) {l : Binds} {a b : Tm} (hU : Tm.UG S N [(a, b)] l) : ∃ (l' : Binds) (ok : Bool), PCtr Try.prog 35 [.d (.sl (bindRows l)), a.av, b.av] (.tup [.d (.sl (bindRows l')), bV ok]) ∧ Tm.UG S N [] l' ∧ (ok = true → ∀ σ, Tm.solB σ l' ↔ Tm.solB σ l ∧ Tm.putF σ a = Tm.putF σ b) ∧ (ok = false → l' = l ∧ ∀ σ, Tm.solB σ l → Tm.putF σ a ≠ Tm.putF σ b) := by
  obtain ⟨n, B', ok, hrun, hg1, _, hyes, hno⟩ := Tm.unify_main true hU
  obtain ⟨l1, met1, ok1, hr, hf, ht⟩ := Tm.urun_ref n a b [] l B' [] ok hrun
  have hc := SCtr.nilE (axs := [.d (.sl (bindRows l)), a.av, b.av]) (y := .tup [.d (.sl (bindRows l1)), .d (.sl (mrows met1)), bV ok1]) (ref4Uni_ok ⟨[], fun _ => true⟩ hSl hN n l a b [] l1 met1 ok1 hr hU (Tm.MetS.nil S)) rfl (by simp [sealA, mapO, nth, bV])
  cases ok1 with
  | true =>
    obtain ⟨n1, _, h1⟩ := ht rfl
    cases h1
    refine ⟨_, true, ?_, hg1, fun _ => hyes rfl, fun h => (by cases h)⟩
    refine PCtr.of_R (pf := fun _ => .still) tyOk mixed Try.func35 rfl (by kernel_rfl) (by kernel_rfl) (by simp [Try.ntmps35]) fun w S hg => ?_
    refine R_run hg.ok 1000 rfl rfl ?_
    refine R_callV hg.ok hg.gup hc rfl rfl rfl rfl rfl rfl ?_
    refine R_run hg.ok 1000 rfl rfl ?_
    refine R_if rfl rfl (fun h => absurd h (by simp)) (fun _ => ?_) <;> refine R_run hg.ok 1000 rfl rfl ?_
    refine R_ret hg 5 rfl rfl ?_
    rfl
  | false =>
    have := hf rfl
    subst this
    refine ⟨l, false, ?_, hU.sub (by simp), fun h => (by cases h), fun _ => ⟨rfl, hno rfl⟩⟩
    refine PCtr.of_R (pf := fun _ => .still) tyOk mixed Try.func35 rfl (by kernel_rfl) (by kernel_rfl) (by simp [Try.ntmps35]) fun w S hg => ?_
    refine R_run hg.ok 1000 rfl rfl ?_
    refine R_callV hg.ok hg.gup hc rfl rfl rfl rfl rfl rfl ?_
    refine R_run hg.ok 1000 rfl rfl ?_
    refine R_if rfl rfl (fun _ => ?_) (fun h => absurd h (by simp)) <;> refine R_run hg.ok 1000 rfl rfl ?_
    refine R_ret hg 5 rfl rfl ?_
    rfl
def num4 (n : Nat) : List Int := (List.range n).map fun (i : Nat) => (i : Int)
theorem num4_snoc (n : Nat) : num4 n ++ [(n : Int)] = num4 (n + 1) := by simp [num4, List.range_succ]
theorem num4_len (n : Nat) : (num4 n).length = n := by simp [num4]

theorem toG_num4 {V : List Int} {v : Int} (hv : v ∈ V) : toG V (num4 V.length) v = placeG V v := by
  obtain ⟨h1, h2, h3⟩ := placeG_mem hv
  rw [h1] at h2 h3
  unfold toG num4
  rw [h1, List.getElem?_map, List.getElem?_range (by omega)]
  simp; omega

theorem turn4_snoc {g : Int → Int} {l : List Tm} {k : Nat} {x : Tm} (h : l[k]? = some x) : Tm.rows (Tm.turnTL g (l.take k)) ++ [Tm.row (Tm.turnT g x)] = Tm.rows (Tm.turnTL g (l.take (k + 1))) := by
  rw [List.take_add_one, h, Tm.turnTL_map, Tm.turnTL_map]; simp [Tm.rows_eq]

set_option maxRecDepth 100000 in
theorem ref4Numbered_ok (l : List Tm) (hf : Tm.fairRL l = true) (hsz : Tm.sizeL l < 1000000000) : PCtr Try.prog 50 [.d (.sl (Tm.rows l))] (.d (.sl (Tm.rows (numL l)))) := by
  have hll := Tm.length_le_sizeL l
  have hvl : (varsT l).length ≤ Tm.sizeL l := by have := varsF_len l []; simpa [varsF, varsT] using this
  have hv := refVars_ok l hsz
  rw [← varsT_with l (Tm.fairL_plain _ hf)] at hv
  have hVm : ∀ v, v ∈ varsT l ↔ v ∈ Tm.occL l := fun v => varsT_mem hf
  unfold numL
  generalize varsT l = V at *
  refine PCtr.of_R (pf := pfB) tyOk mixed Try.func50 rfl (by kernel_rfl) (by kernel_rfl) (by simp [Try.ntmps50]) fun w S hg => ?_
  refine R_run hg.ok 1000 rfl rfl ?_
  refine R_call hg.ok (hv) rfl rfl rfl rfl rfl rfl ?_
  refine R_run hg.ok 1000 rfl rfl ?_
  refine R_own 4 1 rfl rfl ?_
  refine R_cut2 (fun _ : Unit => ([(0, .d (.sl (Tm.rows l))), (3, .d (.sl (irows V))), (4, .ow 0 V.length)], [.arr 1 V.length (irows (num4 V.length))])) (fun _ => True) rfl ?_ ?_
  · refine R_loop (fun k : Nat => ([(0, .d (.sl (Tm.rows l))), (3, .d (.sl (irows V))), (4, .ow 0 k), (5, iV k)], [.arr 1 k (irows (num4 k))])) (fun k => k ≤ V.length) (fun k => V.length - k) 0 (Nat.zero_le _) ⟨.refl _, .refl _, .refl _, .refl _, trivial⟩ rfl ?_
    intro j hj
    refine R_run hg.ok 1000 rfl rfl ?_
    refine R_if rfl rfl (fun h => ?_) (fun h => ?_) <;> refine R_run hg.ok 1000 rfl rfl ?_
    · have hj1 : j < V.length := lt_dec h (by rw [irows_length])
      refine R_appendO hg.ok (irows (num4 (j + 1))) rfl rfl rfl rfl rfl rfl rfl rfl rfl (by simp) (by simp [one1]) (by rw [← num4_snoc]; exact irows_snoc _ _) (by simp [irows_length, num4_len]; omega) (by simp [irows_length, num4_len]; omega) ?_
      refine R_run hg.ok 1000 rfl rfl ?_
      exact R_next (j + 1) hj1 (by omega) ⟨.refl _, .refl _, .refl _, Ent.wrap (by omega) (by omega) (by omega), trivial⟩ rfl
    · have hj1 : V.length ≤ j := ge_dec h (by rw [irows_length])
      obtain rfl : j = V.length := by omega
      exact R_to () trivial ⟨.refl _, .refl _, .refl _, trivial⟩ rfl
  rintro _ _
  refine R_freezeO hg.gup 0 [(0, .d (.sl (Tm.rows l))), (3, .d (.sl (irows V))), (4, .d (.sl (irows (num4 V.length))))] [.dead] rfl rfl ⟨.refl _, .refl _, Ent.frz 0 V.length (irows (num4 V.length)), trivial⟩ ⟨by simp [ObIn], trivial⟩ ?_
  refine R_run hg.ok 1000 rfl rfl ?_
  refine R_own 6 4 rfl rfl ?_
  refine R_loop (fun k : Nat => ([(0, .d (.sl (Tm.rows l))), (3, .d (.sl (irows V))), (4, .d (.sl (irows (num4 V.length)))), (6, .ow 1 k), (7, iV k)], [.dead, .arr 4 k (Tm.rows (Tm.turnTL (placeG V) (l.take k)))])) (fun k => k ≤ l.length) (fun k => l.length - k) 0 (Nat.zero_le _) ⟨.refl _, .refl _, .refl _, .refl _, .refl _, trivial⟩ rfl ?_
  intro k hk
  refine R_run hg.ok 1000 rfl rfl ?_
  refine R_if rfl rfl (fun h => ?_) (fun h => ?_) <;> refine R_run hg.ok 1000 rfl rfl ?_
  · have hk1 : k < l.length := lt_dec h (by rw [Tm.rows_length])
    have e1 : l[k]? = some l[k] := List.getElem?_eq_getElem hk1
    have hmem := List.getElem_mem hk1
    generalize l[k] = x at e1 hmem
    have fx := Tm.fairRL_iff.1 hf x hmem
    have hms := Tm.size_mem hmem
    have hocc : ∀ v ∈ Tm.occ x, v ∈ V := fun v hv => (hVm v).2 (occ_sub hmem hv)
    have hT := refTurn_ok V (num4 V.length) (by rw [num4_len]; exact Nat.le_refl _) (by rw [num4_len]; omega) x (by omega) fun d e he hk => (atI_mem 0 (hocc _ (Tm.occ_of he hk (Tm.fair_plain _ fx)))).1
    rw [Tm.turnR_turnT _ x fx, Tm.turn_congr x fx (fun v hv => toG_num4 (hocc v hv))] at hT
    refine R_index hg.ok rfl rfl rfl rfl rfl rfl (Int.natCast_nonneg _) (Tm.rows_get e1) rfl ?_
    refine R_run hg.ok 1000 rfl rfl ?_
    refine R_call hg.ok (hT) rfl rfl rfl rfl rfl rfl ?_
    refine R_run hg.ok 1000 rfl rfl ?_
    refine R_appendO hg.ok (Tm.rows (Tm.turnTL (placeG V) (l.take (k + 1)))) rfl rfl rfl rfl rfl rfl rfl rfl rfl (by simp) (by simp [one1]) (turn4_snoc e1) (by rw [Tm.rows_length, Tm.turnTL_map]; simp; omega) (by rw [Tm.rows_length, Tm.turnTL_map]; simp; omega) ?_
    refine R_run hg.ok 1000 rfl rfl ?_
    exact R_next (k + 1) hk1 (by omega) ⟨.refl _, .refl _, .refl _, .refl _, Ent.wrap (by omega) (by omega) (by omega), trivial⟩ rfl
  · have hk1 : l.length ≤ k := ge_dec h (by rw [Tm.rows_length])
    refine R_ret hg 5 rfl (sealA_ow rfl) ?_
    rw [List.take_of_length_le hk1]

theorem full4_snoc {B : Binds} {M : Nat} {l : List Tm} {k : Nat} {x : Tm} (h : l[k]? = some x) : Tm.rows ((l.take k).map (fullS B M)) ++ [Tm.row (fullS B M x)] = Tm.rows ((l.take (k + 1)).map (fullS B M)) := by
  rw [List.take_add_one, h]; simp [Tm.rows_eq]

/-- What terms become, if all fit. -/
def seenS (B : Binds) (M : Nat) (l : List Tm) : List Tm × Bool := if l.all (fun t => fitF (fullS B M t)) then (numL (l.map (fullS B M)), true) else ([], false)

theorem sizeL_le {n : Nat} : ∀ l : List Tm, (∀ t ∈ l, t.size ≤ n) → Tm.sizeL l ≤ l.length * n
  | [], _ => by simp [Tm.sizeL]
  | t :: l, h => by
    have h1 := h t (by simp)
    have h2 := sizeL_le l fun x hx => h x (by simp [hx])
    simp only [Tm.sizeL, List.length_cons, Nat.succ_mul]
    omega

set_option maxRecDepth 100000 in
theorem ref4Seen_ok (B : Binds) (M : Nat) (hS : Sub B M) (hBl : B.length ≤ 4000) (l : List Tm) (hf : Tm.fairRL l = true) (hl : l.length ≤ 10000) : PCtr Try.prog 39 [.d (.sl (bindRows B)), .d (.sl (Tm.rows l))] (.tup [.d (.sl (Tm.rows (seenS B M l).1)), bV (seenS B M l).2]) := by
  refine PCtr.of_R (pf := pfB) tyOk mixed Try.func39 rfl (by kernel_rfl) (by kernel_rfl) (by simp [Try.ntmps39]) fun w S hg => ?_
  refine R_run hg.ok 1000 rfl rfl ?_
  refine R_own 6 4 rfl rfl ?_
  refine R_cut2 (fun _ : Unit => ([(6, .ow 0 l.length)], [.arr 4 l.length (Tm.rows (l.map (fullS B M)))])) (fun _ => ∀ t ∈ l, fitF (fullS B M t) = true) rfl ?_ ?_
  · refine R_loop (fun k : Nat => ([(0, .d (.sl (bindRows B))), (1, .d (.sl (Tm.rows l))), (6, .ow 0 k), (7, iV k)], [.arr 4 k (Tm.rows ((l.take k).map (fullS B M)))])) (fun k => k ≤ l.length ∧ ∀ t ∈ l.take k, fitF (fullS B M t) = true) (fun k => l.length - k) 0 ⟨Nat.zero_le _, by simp⟩ ⟨.refl _, .refl _, .refl _, .refl _, trivial⟩ rfl ?_
    rintro k ⟨hk, hm⟩
    refine R_run hg.ok 1000 rfl rfl ?_
    refine R_if rfl rfl (fun h => ?_) (fun h => ?_) <;> refine R_run hg.ok 1000 rfl rfl ?_
    · have hk1 : k < l.length := lt_dec h (by rw [Tm.rows_length])
      have e1 : l[k]? = some l[k] := List.getElem?_eq_getElem hk1
      have hmem := List.getElem_mem hk1
      generalize l[k] = x at e1 hmem
      have hc := refApply3_ok B M hS hBl x (Tm.fairRL_iff.1 hf x hmem)
      refine R_index hg.ok rfl rfl rfl rfl rfl rfl (Int.natCast_nonneg _) (Tm.rows_get e1) rfl ?_
      refine R_run hg.ok 1000 rfl rfl ?_
      cases hfit : fitF (fullS B M x) with
      | false =>
        rw [app3_no hfit] at hc
        refine R_call hg.ok (hc) rfl rfl rfl rfl rfl rfl ?_
        refine R_run hg.ok 1000 rfl rfl ?_
        refine R_if rfl rfl (fun _ => ?_) (fun h => absurd h (by simp)) <;> refine R_run hg.ok 1000 rfl rfl ?_
        refine R_ret hg 5 rfl rfl ?_
        have : l.all (fun t => fitF (fullS B M t)) = false := by rw [List.all_eq_false]; exact ⟨x, hmem, by rw [hfit]; simp⟩
        unfold seenS
        rw [if_neg (by rw [this]; simp)]; rfl
      | true =>
        rw [app3_yes hfit] at hc
        refine R_call hg.ok (hc) rfl rfl rfl rfl rfl rfl ?_
        refine R_run hg.ok 1000 rfl rfl ?_
        refine R_if rfl rfl (fun h => absurd h (by simp)) (fun _ => ?_) <;> refine R_run hg.ok 1000 rfl rfl ?_
        refine R_appendO hg.ok (Tm.rows ((l.take (k + 1)).map (fullS B M))) rfl rfl rfl rfl rfl rfl rfl rfl rfl (by simp) (by simp [one1]) (full4_snoc e1) (by rw [Tm.rows_length]; simp; omega) (by rw [Tm.rows_length]; simp; omega) ?_
        refine R_run hg.ok 1000 rfl rfl ?_
        refine R_dropO 1 [.arr 4 (k + 1) (Tm.rows ((l.take (k + 1)).map (fullS B M)))] (Nat.zero_le _) rfl rfl ?_
        exact R_next (k + 1) ⟨hk1, fun t ht => by
          rw [List.take_add_one, e1] at ht
          rcases List.mem_append.1 ht with ht | ht
          · exact hm t ht
          · simp at ht; rw [ht]; exact hfit⟩ (by omega) ⟨.refl _, .refl _, .refl _, Ent.wrap (by omega) (by omega) (by omega), trivial⟩ rfl
    · have hk1 : l.length ≤ k := ge_dec h (by rw [Tm.rows_length])
      obtain rfl : k = l.length := by omega
      rw [List.take_length] at hm ⊢
      exact R_to () hm ⟨.refl _, trivial⟩ rfl
  rintro _ hm
  refine R_freezeO hg.gup 0 [(6, .d (.sl (Tm.rows (l.map (fullS B M)))))] [.dead] rfl rfl ⟨Ent.frz 0 l.length _, trivial⟩ ⟨by simp [ObIn], trivial⟩ ?_
  have hall : l.all (fun t => fitF (fullS B M t)) = true := by rw [List.all_eq_true]; exact hm
  have hsz : Tm.sizeL (l.map (fullS B M)) < 1000000000 := by
    have := sizeL_le (n := 3000) (l.map (fullS B M)) fun t ht => by
      obtain ⟨x, hx, rfl⟩ := List.mem_map.1 ht
      exact (fitF_iff.1 (hm x hx)).1
    rw [List.length_map] at this
    have : l.length * 3000 ≤ 10000 * 3000 := Nat.mul_le_mul_right _ hl
    omega
  have hff : Tm.fairRL (l.map (fullS B M)) = true := Tm.fairRL_iff.2 fun t ht => by
    obtain ⟨x, hx, rfl⟩ := List.mem_map.1 ht
    exact hS.fairF (Tm.fairRL_iff.1 hf x hx)
  refine R_run hg.ok 1000 rfl rfl ?_
  refine R_call hg.ok (ref4Numbered_ok _ hff hsz) rfl rfl rfl rfl rfl rfl ?_
  refine R_run hg.ok 1000 rfl rfl ?_
  refine R_ret hg 5 rfl rfl ?_
  unfold seenS
  rw [if_pos hall]; rfl
end Go.Proofs.Ytppghekipbnjhaa

namespace Go.Proofs.Ytppghekipbnjhaa
open Go PSL Go.Proofs

theorem vT_fair4 {v : Int} {l : List Tm} (hf : Tm.fairRL l = true) (hv : v ∈ Tm.withVL [] l) : (Tm.vT v).fairR = true := by
  rw [← varsT_with l (Tm.fairL_plain l hf)] at hv
  obtain ⟨h1, h2⟩ := varsT_range hf hv
  exact Tm.vT_fair' h1 h2

theorem vT_snoc {l : List Tm} {V : List Int} {k : Nat} {v : Int} (h : V[k]? = some v) : Tm.rows (l ++ (V.take k).map Tm.vT) ++ [[.v (.int .i64 1), .v (.string ByteArray.empty), .v (.int .i64 v), .sl []]] = Tm.rows (l ++ (V.take (k + 1)).map Tm.vT) := by
  rw [List.take_add_one, h]
  simp only [Option.toList_some, List.map_append, List.map_cons, List.map_nil, ← List.append_assoc]
  generalize l ++ (V.take k).map Tm.vT = m
  induction m with
  | nil => rfl
  | cons x m ih => simp only [Tm.rows_eq, List.map_cons, List.cons_append] at ih ⊢; rw [ih]
theorem vT_ent (v : Int) : Ent (.d (.sl [[.v (.int .i64 1), .v (.string ByteArray.empty), .v (.int .i64 v), .v (.slice none 0 0)]])) (.d (.sl [[.v (.int .i64 1), .v (.string ByteArray.empty), .v (.int .i64 v), .sl []]])) := fun _ _ _ _ h => aLe_ok (by simp [aLe, dLe, rowLe, rowsLe, vLe, kEq, Tm.strEq_iff]) h
def row1 (t : Tm) : List D := [.v (.int .i64 t.k), .v (.string t.s), .v (.int .i64 t.n), .sl (Tm.rows t.l)]

theorem vT_snoc2 (a b : Tm) {V : List Int} {v : Int} (h : V[0]? = some v) : [row1 a, row1 b] ++ [[.v (.int .i64 1), .v (.string ByteArray.empty), .v (.int .i64 v), .sl []]] = Tm.rows ([a, b] ++ (V.take 1).map Tm.vT) := by
  rw [← vT_snoc (l := [a, b]) h, show Tm.rows ([a, b] ++ (V.take 0).map Tm.vT) = [row1 a, row1 b] by rw [Tm.rows_eq]; rfl]

/-- Binds with the same solutions are seen alike. -/
theorem seen_alike {S S' : List Int} {N N' : Nat} {B C : Binds} (hB : Tm.UG S N [] B) (hC : Tm.UG S' N' [] C) (h : ∀ σ, Tm.solB σ B ↔ Tm.solB σ C) {l : List Tm} (hf : Tm.fairRL l = true) : seenS C C.length l = seenS B B.length l := by
  unfold seenS
  rw [Tm.fits_same hB hC h hf, (Tm.same_sols hB hC h hf).1]

set_option maxRecDepth 100000 in
theorem unifyFinds_ok (a b : Tm) (ha : a.Ok) (hb : b.Ok) : PCtr Try.prog 10 [a.av, b.av] (bV true) := by
  refine PCtr.of_R (pf := fun _ => .still) tyOk mixed Try.func10 rfl (by kernel_rfl) (by kernel_rfl) (by simp [Try.ntmps10]) fun w S hg => ?_
  refine R_run hg.ok 1000 rfl rfl ?_
  refine R_call hg.ok ((sm4_ok [a, b] (by simp; exact ⟨ha, hb⟩) (by simp)).two) rfl rfl rfl rfl rfl rfl ?_
  refine R_run hg.ok 1000 rfl rfl ?_
  refine R_if rfl rfl (fun h => ?_) (fun h => ?_) <;> refine R_run hg.ok 1000 rfl rfl ?_
  · refine R_call hg.ok (knows4j_ok) rfl rfl rfl rfl rfl rfl ?_
    refine R_run hg.ok 1000 rfl rfl ?_
    refine R_ret hg 5 rfl rfl ?_
    rfl
  have hs : smallS [a, b] = true := by simpa using h
  obtain ⟨h1, h2⟩ := smallS_ok hs
  simp only [Tm.sizeL] at h1
  have na := nm4 (t := a) fun x e he => h2 x e (Tm.els_memL (by simp) he)
  have nb := nm4 (t := b) fun x e he => h2 x e (Tm.els_memL (by simp) he)
  have hRa := refRight_ok a (by omega) na
  have hRb := refRight_ok b (by omega) nb
  cases hr : (a.rightB && b.rightB) with
  | false =>
    refine R_call hg.ok (mgjNot_ok a b hr (by omega) (by omega) (na 1) (nb 1)) rfl rfl rfl rfl rfl rfl ?_
    refine R_run hg.ok 1000 rfl rfl ?_
    refine R_call hg.ok (hRa) rfl rfl rfl rfl rfl rfl ?_
    refine R_run hg.ok 1000 rfl rfl ?_
    cases ra : a.rightB with
    | false =>
      refine R_if rfl rfl (fun _ => ?_) (fun h => absurd h (by simp)) <;> refine R_run hg.ok 1000 rfl rfl ?_
      repeat
        first
        | (refine R_if rfl rfl (fun _ => ?_) (fun h => absurd h (by first | (simp; done) | (simp; omega))); refine R_run hg.ok 1000 rfl rfl ?_)
        | (refine R_if rfl rfl (fun h => absurd h (by first | (simp; done) | (simp; omega))) (fun _ => ?_); refine R_run hg.ok 1000 rfl rfl ?_)
      refine R_call hg.ok (knows4j_ok) rfl rfl rfl rfl rfl rfl ?_
      refine R_run hg.ok 1000 rfl rfl ?_
      refine R_ret hg 5 rfl rfl ?_
      rfl
    | true =>
      rw [ra, Bool.true_and] at hr
      rw [hr] at hRb
      refine R_if rfl rfl (fun h => absurd h (by simp)) (fun _ => ?_) <;> refine R_run hg.ok 1000 rfl rfl ?_
      refine R_call hg.ok (hRb) rfl rfl rfl rfl rfl rfl ?_
      refine R_run hg.ok 1000 rfl rfl ?_
      refine R_if rfl rfl (fun _ => ?_) (fun h => absurd h (by simp)) <;> refine R_run hg.ok 1000 rfl rfl ?_
      repeat
        first
        | (refine R_if rfl rfl (fun _ => ?_) (fun h => absurd h (by first | (simp; done) | (simp; omega))); refine R_run hg.ok 1000 rfl rfl ?_)
        | (refine R_if rfl rfl (fun h => absurd h (by first | (simp; done) | (simp; omega))) (fun _ => ?_); refine R_run hg.ok 1000 rfl rfl ?_)
      refine R_call hg.ok (knows4j_ok) rfl rfl rfl rfl rfl rfl ?_
      refine R_run hg.ok 1000 rfl rfl ?_
      refine R_ret hg 5 rfl rfl ?_
      rfl
  | true =>
    simp only [Bool.and_eq_true] at hr
    obtain ⟨ra, rb⟩ := hr
    rw [ra] at hRa
    rw [rb] at hRb
    have fab : Tm.fairRL [a, b] = true := Tm.fairRL_iff.2 fun t ht => by
      simp only [List.mem_cons, List.not_mem_nil, or_false] at ht
      rcases ht with rfl | rfl
      · exact right_fair ra
      · exact right_fair rb
    have hvt := (refVars_ok [a, b] (by simp [Tm.sizeL]; omega)).two
    have hwl := Tm.withVL_len [a, b] []
    have hwv := varsT_with [a, b] (Tm.fairL_plain _ fab)
    have hwf : ∀ v ∈ Tm.withVL [] [a, b], (Tm.vT v).fairR = true := fun v hv => vT_fair4 fab hv
    simp only [Tm.sizeL, List.length_nil] at hwl
    have hmem : ∀ v, v ∈ Tm.occL [a, b] → v ∈ Tm.withVL [] [a, b] := fun v hv => by rw [← hwv]; exact (varsT_mem fab).2 hv
    generalize Tm.withVL [] [a, b] = V at hvt hwl hmem hwf
    have hU : Tm.UG V 60 [(a, b)] [] := (Tm.UG.nil V 60).pair ra rb (by omega) (by omega) (fun v hv => hmem v (by simp [Tm.occL, hv])) (fun v hv => hmem v (by simp [Tm.occL, hv]))
    obtain ⟨n, B', ok, hrun, hG, ⟨X, hX⟩, p1, p2⟩ := Tm.unify_main false hU
    obtain ⟨C', ok2, hdoc, hG2, q1, q2⟩ := ref4Unify_ok (by omega) (by decide) hU
    obtain ⟨hok, hsame⟩ := Tm.both_runs (fun σ => Iff.rfl) hG hG2 p1 p2 q1 (fun h => (q2 h).2)
    have hBl := hG.blen
    have hCl := hG2.blen
    have hM := mgj_ok (S := V) (N := 60) (by omega) (by decide) B' ok a b n (Tm.UState.first (right_fair ra) (by omega) hrun hU) hG.chain.nodup (by omega) ra rb (na 1) (nb 1)
    subst hok
    cases ok with
    | false =>
      refine R_call hg.ok (hM) rfl rfl rfl rfl rfl rfl ?_
      refine R_run hg.ok 1000 rfl rfl ?_
      repeat
        first
        | (refine R_if rfl rfl (fun _ => ?_) (fun h => absurd h (by first | (simp; done) | (simp; omega))); refine R_run hg.ok 1000 rfl rfl ?_)
        | (refine R_if rfl rfl (fun h => absurd h (by first | (simp; done) | (simp; omega))) (fun _ => ?_); refine R_run hg.ok 1000 rfl rfl ?_)
      refine R_call hg.ok (hRa) rfl rfl rfl rfl rfl rfl ?_
      refine R_run hg.ok 1000 rfl rfl ?_
      refine R_if rfl rfl (fun h => absurd h (by simp)) (fun _ => ?_) <;> refine R_run hg.ok 1000 rfl rfl ?_
      refine R_call hg.ok (hRb) rfl rfl rfl rfl rfl rfl ?_
      refine R_run hg.ok 1000 rfl rfl ?_
      refine R_if rfl rfl (fun h => absurd h (by simp)) (fun _ => ?_) <;> refine R_run hg.ok 1000 rfl rfl ?_
      refine R_call hg.ok (hdoc) rfl rfl rfl rfl rfl rfl ?_
      refine R_run hg.ok 1000 rfl rfl ?_
      repeat
        first
        | (refine R_if rfl rfl (fun _ => ?_) (fun h => absurd h (by first | (simp; done) | (simp; omega))); refine R_run hg.ok 1000 rfl rfl ?_)
        | (refine R_if rfl rfl (fun h => absurd h (by first | (simp; done) | (simp; omega))) (fun _ => ?_); refine R_run hg.ok 1000 rfl rfl ?_)
      refine R_call hg.ok (knows4j_ok) rfl rfl rfl rfl rfl rfl ?_
      refine R_run hg.ok 1000 rfl rfl ?_
      refine R_ret hg 5 rfl rfl ?_
      rfl
    | true =>
    have hsame := hsame rfl
    have hal := Tm.full_alike hG (right_fair ra) (right_fair rb) fun σ hσ => ((p1 rfl σ).1 hσ).2
    have fL : Tm.fairRL ([a, b] ++ V.map Tm.vT) = true := Tm.fairRL_iff.2 fun t ht => by
      rcases List.mem_append.1 ht with ht | ht
      · exact Tm.fairRL_iff.1 fab t ht
      · obtain ⟨v, hv, rfl⟩ := List.mem_map.1 ht
        exact hwf v hv
    have lL : ([a, b] ++ V.map Tm.vT).length ≤ 10000 := by simp; omega
    have hSB := ref4Seen_ok B' B'.length hG.sub_ (by omega) _ fL lL
    have hSC := ref4Seen_ok C' C'.length hG2.sub_ (by omega) _ fL lL
    have hE := seen_alike hG hG2 hsame fL
    rw [hE] at hSC
    clear hE
    refine R_call hg.ok (hM) rfl rfl rfl rfl rfl rfl ?_
    refine R_run hg.ok 1000 rfl rfl ?_
    repeat
      first
      | (refine R_if rfl rfl (fun _ => ?_) (fun h => absurd h (by first | (simp; done) | (simp; omega))); refine R_run hg.ok 1000 rfl rfl ?_)
      | (refine R_if rfl rfl (fun h => absurd h (by first | (simp; done) | (simp; omega))) (fun _ => ?_); refine R_run hg.ok 1000 rfl rfl ?_)
    refine R_call hg.ok (hRa) rfl rfl rfl rfl rfl rfl ?_
    refine R_run hg.ok 1000 rfl rfl ?_
    refine R_if rfl rfl (fun h => absurd h (by simp)) (fun _ => ?_) <;> refine R_run hg.ok 1000 rfl rfl ?_
    refine R_call hg.ok (hRb) rfl rfl rfl rfl rfl rfl ?_
    refine R_run hg.ok 1000 rfl rfl ?_
    refine R_if rfl rfl (fun h => absurd h (by simp)) (fun _ => ?_) <;> refine R_run hg.ok 1000 rfl rfl ?_
    refine R_call hg.ok (hdoc) rfl rfl rfl rfl rfl rfl ?_
    refine R_run hg.ok 1000 rfl rfl ?_
    repeat
      first
      | (refine R_if rfl rfl (fun _ => ?_) (fun h => absurd h (by first | (simp; done) | (simp; omega))); refine R_run hg.ok 1000 rfl rfl ?_)
      | (refine R_if rfl rfl (fun h => absurd h (by first | (simp; done) | (simp; omega))) (fun _ => ?_); refine R_run hg.ok 1000 rfl rfl ?_)
    refine R_call hg.ok (hvt) rfl rfl rfl rfl rfl rfl ?_
    refine R_run hg.ok 1000 rfl rfl ?_
    refine R_cut2 (fun _ : Unit => ([(2, .lo 0 0), (3, .lo 1 0), (5, .d (.sl (bindRows B'))), (8, .d (.sl (bindRows C'))), (10, .d (.sl (irows V)))], [boxR a, boxR b])) (fun _ => True) rfl ?_ ?_
    · refine R_loop (fun k : Nat => ([(2, .lo 0 0), (3, .lo 1 0), (5, .d (.sl (bindRows B'))), (8, .d (.sl (bindRows C'))), (10, .d (.sl (irows V))), (11, iV k)], [boxR a, boxR b])) (fun k => k ≤ B'.length) (fun k => B'.length - k) 0 (Nat.zero_le _) ⟨.refl _, .refl _, .refl _, .refl _, .refl _, .refl _, trivial⟩ rfl ?_
      intro k hk
      refine R_run hg.ok 1000 rfl rfl ?_
      refine R_if rfl rfl (fun h => ?_) (fun h => ?_) <;> refine R_run hg.ok 1000 rfl rfl ?_
      · have hk1 : k < B'.length := lt_dec h (by rw [bindRows_len])
        have e1 : B'[k]? = some B'[k] := List.getElem?_eq_getElem hk1
        have hv := (hG.vb _ (List.getElem_mem hk1)).1
        refine R_index hg.ok rfl rfl rfl rfl rfl rfl (Int.natCast_nonneg _) (bindRows_get e1) rfl ?_
        refine R_run hg.ok 1000 rfl rfl ?_
        refine R_call hg.ok (at_ok V B'[k].1 (by omega)) rfl rfl rfl rfl rfl rfl ?_
        refine R_run hg.ok 1000 rfl rfl ?_
        refine R_if rfl rfl (fun h => absurd h (by have := (atI_mem 0 hv).1; simp; omega)) (fun _ => ?_) <;> refine R_run hg.ok 1000 rfl rfl ?_
        exact R_next (k + 1) hk1 (by omega) ⟨.refl _, .refl _, .refl _, .refl _, .refl _, Ent.wrap (by omega) (by omega) (by omega), trivial⟩ rfl
      · exact R_to () trivial ⟨.refl _, .refl _, .refl _, .refl _, .refl _, trivial⟩ rfl
    rintro _ _
    refine R_run hg.ok 1000 rfl rfl ?_
    have sB : Small B' := ⟨by omega, fun b hb => by have := hG.sb b hb; omega, fun b hb x e he => fair_names (hG.fairb b hb).1 x e he⟩
    refine R_call hg.ok (refRight3_ok B' sB) rfl rfl rfl rfl rfl rfl ?_
    refine R_run hg.ok 1000 rfl rfl ?_
    rw [rightR_eq, hG.right (by decide)]
    refine R_if rfl rfl (fun h => absurd h (by simp)) (fun _ => ?_) <;> refine R_run hg.ok 1000 rfl rfl ?_
    refine R_cut2 (fun _ : Unit => ([(5, .d (.sl (bindRows B'))), (8, .d (.sl (bindRows C'))), (12, .d (.sl (Tm.rows ([a, b] ++ V.map Tm.vT))))], [])) (fun _ => True) rfl ?_ ?_
    · refine R_loop (fun k : Nat => match k with
        | 0 => ([(5, .d (.sl (bindRows B'))), (8, .d (.sl (bindRows C'))), (10, .d (.sl (irows V))), (12, .fs (row1 a :: [row1 b])), (13, iV (0 : Nat))], [boxR a, boxR b])
        | j + 1 => ([(5, .d (.sl (bindRows B'))), (8, .d (.sl (bindRows C'))), (10, .d (.sl (irows V))), (12, .ow 2 j), (13, iV (j + 1 : Nat))], [boxR a, boxR b, .arr 4 j (Tm.rows ([a, b] ++ (V.take (j + 1)).map Tm.vT))])) (fun k => k ≤ V.length) (fun k => V.length - k) 0 (Nat.zero_le _) ⟨.refl _, .refl _, .refl _, .refl _, .refl _, trivial⟩ rfl ?_
      intro k hk
      cases k with
      | zero =>
        refine R_run hg.ok 1000 rfl rfl ?_
        refine R_if rfl rfl (fun h => ?_) (fun h => ?_) <;> refine R_run hg.ok 1000 rfl rfl ?_
        · have hk1 : 0 < V.length := lt_dec h (by rw [irows_length])
          have e1 : V[0]? = some V[0] := List.getElem?_eq_getElem hk1
          generalize V[0] = v at e1
          refine R_index hg.ok rfl rfl rfl rfl rfl rfl (Int.natCast_nonneg _) (irows_get e1) rfl ?_
          refine R_run hg.ok 1000 rfl rfl ?_
          refine R_see 110 rfl ((Ent.fs _).trans (vT_ent v)) ?_
          refine R_appendF hg.ok rfl rfl (.inl rfl) rfl (.inr (by simp)) rfl rfl rfl (by simp [row1]) (by simp) (by simp) (by simp) ?_
          refine R_run hg.ok 1000 rfl rfl ?_
          exact R_next 1 hk1 (by omega) ⟨.refl _, .refl _, .refl _, .refl _, Ent.wrap (by simp) (by simp) (by simp), trivial⟩ (congrArg (fun r => [boxR a, boxR b, Ob.arr 4 0 r]) (vT_snoc2 a b e1))
        · have hk1 : V.length ≤ 0 := ge_dec h (by rw [irows_length])
          have hV : V = [] := List.length_eq_zero_iff.1 (by omega)
          subst hV
          refine R_weak [(5, .d (.sl (bindRows B'))), (8, .d (.sl (bindRows C'))), (12, .d (.sl (Tm.rows ([a, b] ++ List.map Tm.vT []))))] ⟨.refl _, .refl _, by rw [Tm.rows_eq]; exact Ent.fs _, trivial⟩ ?_
          refine R_dropO 0 [] (Nat.zero_le _) rfl rfl ?_
          exact R_to () trivial ⟨.refl _, .refl _, .refl _, trivial⟩ rfl
      | succ j =>
        refine R_run hg.ok 1000 rfl rfl ?_
        refine R_if rfl rfl (fun h => ?_) (fun h => ?_) <;> refine R_run hg.ok 1000 rfl rfl ?_
        · have hk1 : j + 1 < V.length := lt_dec h (by rw [irows_length])
          have e1 : V[j + 1]? = some V[j + 1] := List.getElem?_eq_getElem hk1
          generalize V[j + 1] = v at e1
          refine R_index hg.ok rfl rfl rfl rfl rfl rfl (Int.natCast_nonneg _) (irows_get e1) rfl ?_
          refine R_run hg.ok 1000 rfl rfl ?_
          refine R_see 110 rfl ((Ent.fs _).trans (vT_ent v)) ?_
          refine R_appendO hg.ok (Tm.rows ([a, b] ++ (V.take (j + 2)).map Tm.vT)) rfl rfl rfl rfl rfl rfl rfl rfl rfl (by simp) (by simp [one1]) (vT_snoc e1) (by rw [Tm.rows_length]; simp; omega) (by rw [Tm.rows_length]; simp; omega) ?_
          refine R_run hg.ok 1000 rfl rfl ?_
          exact R_next (j + 2) hk1 (by omega) ⟨.refl _, .refl _, .refl _, .refl _, Ent.wrap (by omega) (by omega) (by omega), trivial⟩ rfl
        · have hk1 : V.length ≤ j + 1 := ge_dec h (by rw [irows_length])
          rw [List.take_of_length_le hk1]
          refine R_freezeO hg.gup 2 [(5, .d (.sl (bindRows B'))), (8, .d (.sl (bindRows C'))), (12, .d (.sl (Tm.rows ([a, b] ++ V.map Tm.vT))))] [boxR a, boxR b, .dead] rfl rfl ⟨.refl _, .refl _, Ent.frz 2 j _, trivial⟩ ⟨.refl _, .refl _, by simp [ObIn], trivial⟩ ?_
          refine R_dropO 0 [] (Nat.zero_le _) rfl rfl ?_
          exact R_to () trivial ⟨.refl _, .refl _, .refl _, trivial⟩ rfl
    rintro _ _
    refine R_run hg.ok 1000 rfl rfl ?_
    refine R_call hg.ok (hSB) rfl rfl rfl rfl rfl rfl ?_
    refine R_run hg.ok 1000 rfl rfl ?_
    refine R_call hg.ok (hSC) rfl rfl rfl rfl rfl rfl ?_
    refine R_run hg.ok 1000 rfl rfl ?_
    have hsz : Tm.sizeL (seenS B' B'.length ([a, b] ++ V.map Tm.vT)).1 < 1000000000 := by
      unfold seenS
      split
      · rename_i hall
        unfold numL
        rw [Tm.sizeL_turn]
        have := sizeL_le (n := 3000) (([a, b] ++ V.map Tm.vT).map (fullS B' B'.length)) fun t ht => by
          obtain ⟨x, hx, rfl⟩ := List.mem_map.1 ht
          exact (fitF_iff.1 (List.all_eq_true.1 hall x hx)).1
        rw [List.length_map] at this
        have : ([a, b] ++ V.map Tm.vT).length * 3000 ≤ 10000 * 3000 := Nat.mul_le_mul_right _ lL
        omega
      · simp [Tm.sizeL]
    have hxy : (seenS B' B'.length ([a, b] ++ V.map Tm.vT)).2 = true → ∃ x l, (seenS B' B'.length ([a, b] ++ V.map Tm.vT)).1 = x :: x :: l := fun h => by
      unfold seenS at h ⊢
      split
      · unfold numL
        rw [Tm.turnTL_map]
        simp only [List.map_cons, List.cons_append, List.nil_append, hal]
        exact ⟨_, _, rfl⟩
      · rename_i hc; rw [if_neg hc] at h; cases h
    generalize seenS B' B'.length ([a, b] ++ V.map Tm.vT) = r at hsz hxy
    obtain ⟨r, fits⟩ := r
    cases fits with
    | false =>
      repeat
        first
        | (refine R_if rfl rfl (fun _ => ?_) (fun h => absurd h (by first | (simp; done) | (simp; omega))); refine R_run hg.ok 1000 rfl rfl ?_)
        | (refine R_if rfl rfl (fun h => absurd h (by first | (simp; done) | (simp; omega))) (fun _ => ?_); refine R_run hg.ok 1000 rfl rfl ?_)
      refine R_call hg.ok (knows4j_ok) rfl rfl rfl rfl rfl rfl ?_
      refine R_run hg.ok 1000 rfl rfl ?_
      refine R_ret hg 5 rfl rfl ?_
      rfl
    | true =>
      obtain ⟨x, l, hx⟩ := hxy rfl
      simp only at hx hsz
      subst hx
      simp only [Tm.sizeL] at hsz
      repeat
        first
        | (refine R_if rfl rfl (fun _ => ?_) (fun h => absurd h (by first | (simp; done) | (simp; omega))); refine R_run hg.ok 1000 rfl rfl ?_)
        | (refine R_if rfl rfl (fun h => absurd h (by first | (simp; done) | (simp; omega))) (fun _ => ?_); refine R_run hg.ok 1000 rfl rfl ?_)
      refine R_index hg.ok rfl rfl rfl rfl rfl rfl (by decide) (Tm.rows_get (l := x :: x :: l) rfl) rfl ?_
      refine R_run hg.ok 1000 rfl rfl ?_
      refine R_index hg.ok rfl rfl rfl rfl rfl rfl (by decide) (Tm.rows_get (l := x :: x :: l) rfl) rfl ?_
      refine R_run hg.ok 1000 rfl rfl ?_
      refine R_call hg.ok (refSame_ok x x (by omega)) rfl rfl rfl rfl rfl rfl ?_
      refine R_run hg.ok 1000 rfl rfl ?_
      rw [Tm.same_refl]
      refine R_if rfl rfl (fun _ => ?_) (fun h => absurd h (by simp)) <;> refine R_run hg.ok 1000 rfl rfl ?_
      refine R_call hg.ok (sameAll_ok (x :: x :: l) (x :: x :: l) (by simp only [Tm.sizeL]; omega)) rfl rfl rfl rfl rfl rfl ?_
      refine R_run hg.ok 1000 rfl rfl ?_
      rw [Tm.sameL_refl]
      repeat
        first
        | (refine R_if rfl rfl (fun _ => ?_) (fun h => absurd h (by first | (simp; done) | (simp; omega))); refine R_run hg.ok 1000 rfl rfl ?_)
        | (refine R_if rfl rfl (fun h => absurd h (by first | (simp; done) | (simp; omega))) (fun _ => ?_); refine R_run hg.ok 1000 rfl rfl ?_)
      refine R_call hg.ok (knows4j_ok) rfl rfl rfl rfl rfl rfl ?_
      refine R_run hg.ok 1000 rfl rfl ?_
      refine R_ret hg 5 rfl rfl ?_
      rfl
end Go.Proofs.Ytppghekipbnjhaa
