import Derived.Test.YtppghekipbnjhaaSFill
import Derived.Test.YtppghekipbnjhaaSSame
import Derived.Test.YtppghekipbnjhaaPlUni
import Derived.Test.YtppghekipbnjhaaPlPair
namespace Go.Proofs.Ytppghekipbnjhaa
open Go PSL Go.Proofs

/-- A store: its box, its map, its trail. -/
def uobj (B : Binds) : List Ob := [.box [.mp 1, .ow 2 B.length], .map (imap (tmM B)), .arr 1 B.length (irows (B.map (·.1)))]

def zTmV : Value := .agg #[.int .i64 0, .string ByteArray.empty, .int .i64 0, .slice none 0 0]

def zTmA : AV := .agg [iV 0, .d (.v (.string ByteArray.empty)), iV 0, .d (.v (.slice none 0 0))]

theorem tmM_snoc (B : Binds) (v : Int) (t : Tm) : tmM B ++ [(v, t.av)] = tmM (B ++ [(v, t)]) := by simp [tmM]

theorem tmM_mapOb {f : AV → AV} (h : ∀ t : Tm, f t.av = t.av) (B : Binds) : mapOb f (.map (imap (tmM B))) = .map (imap (tmM B)) := by
  simp [mapOb, imap, tmM, h]

theorem irows_snoc1 (l : List Int) (v : Int) : irows l ++ [[.v (.int .i64 v)]] = irows (l ++ [v]) := by simp [irows, irow]

set_option maxRecDepth 100000 in
theorem uniNew_ok (Y : YP) : SCtr Try.prog Y 44 [] [] (.lo 1 0) [.map [], .box [.mp 0, .d (.v (.slice none 0 0))]] := by
  refine SCtr.of_R (pf := fun _ => .eff) tyOk mixed Try.func44 rfl (by kernel_rfl) (by kernel_rfl) (by simp [Try.ntmps44]) (by simp) fun w S φ hg => ?_
  refine R_run hg.ok 1000 rfl rfl ?_
  refine R_makeMap hg.ok rfl rfl ?_
  refine R_run hg.ok 1000 rfl rfl ?_
  exact R_retS hg 2 5 (by simp) rfl rfl rfl

set_option maxRecDepth 100000 in
theorem uniWalk_ok (Y : YP) (B : Binds) (hc : Tm.chainB B) (t : Tm) : SCtr Try.prog Y 97 [.lo 0 0, t.av] (uobj B) (Tm.walkB B t).av (uobj B) := by
  refine SCtr.of_R (pf := fun _ => .eff) tyOk mixed Try.func97 rfl (by kernel_rfl) (by kernel_rfl) (by simp [Try.ntmps97]) (by simp [uobj]) fun w S φ hg => ?_
  have hφ : φ.length = 3 := hg.hs0.len
  have fuel0 : ∀ (j : Nat) (c : Int × Tm), B[j]? = some c → t.k = 1 → c.1 = t.n → B.length - j ≤ B.length + 1 := fun j c _ _ _ => by omega
  have keep : ∀ (o : List Ob), (uobj B).map (mapOb (sealT false 3 o 5)) = uobj B := fun o => by
    simp only [uobj, List.map_cons, List.map_nil]
    rw [tmM_mapOb (fun t => rfl)]; rfl
  refine R_run hg.ok 1000 rfl rfl ?_
  refine R_loop (fun x : Nat × Tm => ([(0, .lo 0 0), (3, .lo 3 0), (4, .lo 4 0)], uobj B ++ [boxR x.2, .box [.d (.v (.int .i64 0)), .d (.v (.string ByteArray.empty)), .d (.v (.int .i64 0)), .d (.v (.slice none 0 0))]])) (fun x => Tm.walkB B t = Tm.walkT B x.1 x.2 ∧ ∀ (j : Nat) (c : Int × Tm), B[j]? = some c → x.2.k = 1 → c.1 = x.2.n → B.length - j ≤ x.1) (fun x => x.1) (B.length + 1, t) ⟨rfl, fuel0⟩ ⟨.refl _, .refl _, .refl _, trivial⟩ rfl ?_
  rintro ⟨f, u⟩ ⟨hm, hf⟩
  simp only at hm hf
  refine R_run hg.ok 1000 rfl rfl ?_
  refine R_if rfl rfl (fun h1 => ?_) (fun h1 => ?_) <;> refine R_run hg.ok 1000 rfl rfl ?_
  · have hk1 : u.k = 1 := by simpa using h1
    cases hb : findB B u.n with
    | none =>
      refine R_lookupI hg.ok (tmM B) rfl rfl rfl rfl rfl rfl rfl (zv := zTmV) (by kernel_rfl) (v := .tup [zTmA, bV false]) (by rw [getI_tm, hb]; rfl) ?_
      refine R_run hg.ok 1000 rfl rfl ?_
      refine R_if rfl rfl (fun _ => ?_) (fun h => absurd h (by simp)) <;> refine R_run hg.ok 1000 rfl rfl ?_
      have e : Tm.walkB B t = u := by
        rw [hm]
        cases f with
        | zero => rfl
        | succ f => simp only [Tm.walkT]; rw [if_pos hk1, hb]
      rw [e]
      exact R_retS hg 3 5 (Nat.le_refl _) rfl rfl (keep _)
    | some x =>
      obtain ⟨j, hj⟩ := Tm.findB_at hb
      have hjl := (List.getElem?_eq_some_iff.1 hj).1
      have h2 := hf j _ hj hk1 rfl
      obtain ⟨f, rfl⟩ : ∃ g, f = g + 1 := ⟨f - 1, by omega⟩
      refine R_lookupI hg.ok (tmM B) rfl rfl rfl rfl rfl rfl rfl (zv := zTmV) (by kernel_rfl) (v := .tup [x.av, bV true]) (by rw [getI_tm, hb]; rfl) ?_
      refine R_run hg.ok 1000 rfl rfl ?_
      refine R_if rfl rfl (fun h => absurd h (by simp)) (fun _ => ?_) <;> refine R_run hg.ok 1000 rfl rfl ?_
      refine R_dropO 5 (uobj B ++ [boxR x, .box [.d (.v (.int .i64 0)), .d (.v (.string ByteArray.empty)), .d (.v (.int .i64 0)), .d (.v (.slice none 0 0))]]) (by show φ.length ≤ _; omega) rfl ?_ ?_
      · simp only [uobj, List.cons_append, List.nil_append]
        show _ :: mapOb _ (.map (imap (tmM B))) :: _ = _
        rw [tmM_mapOb (fun t => rfl)]; rfl
      refine R_next (f, x) ⟨?_, fun j' c hc' hk hn => ?_⟩ (by simp only; omega) ⟨.refl _, .refl _, .refl _, trivial⟩ rfl
      · rw [hm]; simp only [Tm.walkT]; rw [if_pos hk1, hb]
      · have := hc.chain j _ hj hk j' c hc' hn
        omega
  · have hk1 : ¬ u.k = 1 := by simpa using h1
    have e : Tm.walkB B t = u := by
      rw [hm]
      cases f with
      | zero => rfl
      | succ f => simp only [Tm.walkT]; rw [if_neg hk1]
    rw [e]
    exact R_retS hg 3 5 (Nat.le_refl _) rfl rfl (keep _)

set_option maxRecDepth 100000 in
theorem uniBind_ok (Y : YP) (B : Binds) (v : Int) (t : Tm) (hv : findB B v = none) (hB : B.length < 1000000) : SCtr Try.prog Y 99 [.lo 0 0, iV v, t.av] (uobj B) (.tup []) (uobj (B ++ [(v, t)])) := by
  refine SCtr.of_R (pf := fun _ => .eff) tyOk mixed Try.func99 rfl (by kernel_rfl) (by kernel_rfl) (by simp [Try.ntmps99]) (by simp [uobj]) fun w S φ hg => ?_
  have hφ : φ.length = 3 := hg.hs0.len
  refine R_run hg.ok 1000 rfl rfl ?_
  refine R_mapAddI hg.ok (tmM B) rfl rfl rfl rfl rfl rfl rfl (by rw [getI_tm, hv]; rfl) ?_
  refine R_run hg.ok 1000 rfl rfl ?_
  refine R_appendO hg.ok (irows (B.map (·.1) ++ [v])) rfl rfl rfl rfl rfl rfl rfl rfl rfl (by simp) (by simp [one1]) (irows_snoc1 _ _) (by rw [irows_length]; simp; omega) (by rw [irows_length]; simp; omega) ?_
  refine R_run hg.ok 1000 rfl rfl ?_
  refine R_endS hg 3 5 (Nat.le_refl _) rfl rfl ?_
  have e1 : imap (tmM B ++ [(v, t.av)]) = imap (tmM (B ++ [(v, t)])) := by rw [tmM_snoc]
  have e2 : B.map (·.1) ++ [v] = (B ++ [(v, t)]).map (·.1) := by simp
  have e3 : (B ++ [(v, t)]).length = B.length + 1 := by simp
  show [_, mapOb _ (.map (imap (tmM B ++ [(v, t.av)]))), _] = _
  rw [e1, tmM_mapOb (fun t => rfl), e2]
  unfold uobj
  rw [e3]; rfl

def lobj (B : Binds) (v : Int) (M : List Int) : List Ob := uobj B ++ [.box [iV v], .box [.lo 0 0], .box [.mp 6], .map (imap (M.map fun n => (n, bV true))), .box [.clo 103 [] [.lo 3 0, .lo 4 0, .lo 5 0, .lo 7 0]]]

theorem setM_get : ∀ (M : List Int) (n : Int), getI (M.map fun n => (n, bV true)) n = if M.contains n then some (bV true) else none
  | [], n => rfl
  | m :: M, n => by
    simp only [List.map_cons, getI, List.contains_cons]
    by_cases h : m = n
    · simp [h]
    · rw [if_neg h, setM_get M n]
      have : (n == m) = false := by simp; exact fun e => h e.symm
      rw [this, Bool.false_or]

theorem setM_mapOb {f : AV → AV} (h : ∀ b, f (bV b) = bV b) (M : List Int) : mapOb f (.map (imap (M.map fun n => (n, bV true)))) = .map (imap (M.map fun n => (n, bV true))) := by
  simp [mapOb, imap, h]

theorem lobj_map {f : AV → AV} (ht : ∀ t : Tm, f t.av = t.av) (hb : ∀ b, f (bV b) = bV b) (hi : ∀ n, f (iV n) = iV n) (h1 : f (.mp 1) = .mp 1) (h2 : ∀ s, f (.ow 2 s) = .ow 2 s) (h3 : f (.lo 0 0) = .lo 0 0) (h4 : f (.mp 6) = .mp 6) (h5 : f (.clo 103 [] [.lo 3 0, .lo 4 0, .lo 5 0, .lo 7 0]) = .clo 103 [] [.lo 3 0, .lo 4 0, .lo 5 0, .lo 7 0]) (B : Binds) (v : Int) (M : List Int) : (lobj B v M).map (mapOb f) = lobj B v M := by
  simp only [lobj, uobj, List.map_append, List.map_cons, List.map_nil, List.cons_append, List.nil_append, tmM_mapOb ht, setM_mapOb hb]
  simp [mapOb, h1, h2, h3, h4, h5, hi]

set_option maxRecDepth 100000 in
theorem uniLook_ok (Y : YP) (B : Binds) (hB : ∀ b ∈ B, b.2.size < 400000000) (hBl : B.length < 1000000) (v : Int) : ∀ (u : Nat) (n : Nat) (t : Tm) (M : List Int), t.size ≤ n → t.size < 400000000 → (B.countP fun b => !M.contains b.1) < u → SCtr Try.prog Y 103 [t.av, .lo 3 0, .lo 4 0, .lo 5 0, .lo 7 0] (lobj B v M) (bV (Tm.lkT (Tm.lkF B v u) t M).1) (lobj B v (Tm.lkT (Tm.lkF B v u) t M).2) := by
  intro u
  induction u with
  | zero => intro n t M _ _ h; omega
  | succ u ihu =>
  intro n
  induction n with
  | zero => intro t M h _; have := Tm.size_pos t; omega
  | succ n ihn =>
  intro t M hn ht hu
  refine SCtr.of_R (pf := fun _ => .eff) tyOk mixed Try.func103 rfl (by kernel_rfl) (by kernel_rfl) (by simp [Try.ntmps103]) (by simp [lobj, uobj]) fun w S φ hg => ?_
  have hφ : φ.length = 8 := hg.hs0.len
  have keep : ∀ (Q : List Int) (o : List Ob), (lobj B v Q).map (mapOb (sealT false 8 o 5)) = lobj B v Q := fun Q o => lobj_map (fun _ => rfl) (fun _ => rfl) (fun _ => rfl) rfl (fun _ => rfl) rfl rfl rfl B v Q
  have hren : ∀ (n : Nat) (Z : List Int), (lobj B v Z).map (renOb (rn [0, 1, 2, 3, 4, 5, 6, 7] n)) = lobj B v Z := fun n Z => by
    have e : (renOb (rn [0, 1, 2, 3, 4, 5, 6, 7] n)) = mapOb (renA (rn [0, 1, 2, 3, 4, 5, 6, 7] n)) := by funext o; cases o <;> simp [renOb, mapOb, renL_map]
    rw [e]; exact lobj_map (fun _ => rfl) (fun _ => rfl) (fun _ => rfl) rfl (fun _ => rfl) rfl rfl rfl B v Z
  have ret : ∀ {r : Bool} {Q : List Int}, Tm.lkT (Tm.lkF B v (u + 1)) t M = (r, Q) → bV r = bV (Tm.lkT (Tm.lkF B v (u + 1)) t M).1 ∧ lobj B v Q = lobj B v (Tm.lkT (Tm.lkF B v (u + 1)) t M).2 := fun e => by rw [e]; exact ⟨rfl, rfl⟩
  refine R_run hg.ok 1000 rfl rfl ?_
  refine R_if rfl rfl (fun h1 => ?_) (fun h1 => ?_) <;> refine R_run hg.ok 1000 rfl rfl ?_
  · have hk1 : t.k = 1 := by simpa using h1
    refine R_if rfl rfl (fun h2 => ?_) (fun h2 => ?_) <;> refine R_run hg.ok 1000 rfl rfl ?_
    · have h2 : t.n = v := by simpa using h2
      have e := ret (r := true) (Q := M) (by rw [Tm.lkT_var hk1]; simp only [Tm.lkF]; rw [if_pos h2])
      rw [← e.1, ← e.2]
      exact R_retS hg 8 5 (Nat.le_refl _) rfl rfl (keep M _)
    have h2 : ¬ t.n = v := by simpa using h2
    cases hb : findB B t.n with
    | none =>
      refine R_lookupI hg.ok (tmM B) rfl rfl rfl rfl rfl rfl rfl (zv := zTmV) (by kernel_rfl) (v := .tup [zTmA, bV false]) (by rw [getI_tm, hb]; rfl) ?_
      refine R_run hg.ok 1000 rfl rfl ?_
      refine R_if rfl rfl (fun _ => ?_) (fun h => absurd h (by simp)) <;> refine R_run hg.ok 1000 rfl rfl ?_
      have e := ret (r := false) (Q := M) (by rw [Tm.lkT_var hk1]; simp only [Tm.lkF]; rw [if_neg h2, hb])
      rw [← e.1, ← e.2]
      exact R_retS hg 8 5 (Nat.le_refl _) rfl rfl (keep M _)
    | some x =>
      refine R_lookupI hg.ok (tmM B) rfl rfl rfl rfl rfl rfl rfl (zv := zTmV) (by kernel_rfl) (v := .tup [x.av, bV true]) (by rw [getI_tm, hb]; rfl) ?_
      refine R_run hg.ok 1000 rfl rfl ?_
      refine R_if rfl rfl (fun h => absurd h (by simp)) (fun _ => ?_) <;> refine R_run hg.ok 1000 rfl rfl ?_
      have hg1 := setM_get M t.n
      cases hc : M.contains t.n with
      | true =>
        rw [hc, if_pos rfl] at hg1
        refine R_lookupI hg.ok (M.map fun n => (n, bV true)) rfl rfl rfl rfl rfl rfl rfl (zv := .bool false) (by kernel_rfl) (v := bV true) (by rw [hg1]; rfl) ?_
        refine R_run hg.ok 1000 rfl rfl ?_
        refine R_if rfl rfl (fun _ => ?_) (fun h => absurd h (by simp)) <;> refine R_run hg.ok 1000 rfl rfl ?_
        have e := ret (r := false) (Q := M) (by rw [Tm.lkT_var hk1]; simp only [Tm.lkF]; rw [if_neg h2, hb]; simp only; rw [hc, if_pos rfl])
        rw [← e.1, ← e.2]
        exact R_retS hg 8 5 (Nat.le_refl _) rfl rfl (keep M _)
      | false =>
        rw [hc, if_neg (by simp)] at hg1
        refine R_lookupI hg.ok (M.map fun n => (n, bV true)) rfl rfl rfl rfl rfl rfl rfl (zv := .bool false) (by kernel_rfl) (v := .ff) (by rw [hg1]; rfl) ?_
        refine R_run hg.ok 1000 rfl rfl ?_
        refine R_mapAddW hg.ok (bV true) (M.map fun n => (n, bV true)) ((M ++ [t.n]).map fun n => (n, bV true)) rfl rfl rfl rfl rfl rfl rfl hg1 .tt (by simp) ?_
        refine R_run hg.ok 1000 rfl rfl ?_
        have hcall := ihu x.size x (M ++ [t.n]) (Nat.le_refl _) (hB _ (Tm.findB_mem hb)) (by have := Tm.count_lt hb hc; omega)
        have hq : Tm.lkT (Tm.lkF B v (u + 1)) t M = Tm.lkT (Tm.lkF B v u) x (M ++ [t.n]) := by
          rw [Tm.lkT_var hk1]; simp only [Tm.lkF]; rw [if_neg h2, hb]; simp only; rw [hc, if_neg (by simp)]
        rw [hq]
        generalize Tm.lkT (Tm.lkF B v u) x (M ++ [t.n]) = rq at hcall
        obtain ⟨r, Q⟩ := rq
        refine R_callSO hg.ok hg.gup hg.wide hg.Y [0, 1, 2, 3, 4, 5, 6, 7] (lobj B v Q ++ [boxR t, boxR x]) hcall (fun _ => rfl) rfl rfl rfl rfl rfl (by rw [hren]; rfl) rfl (by rw [hren]; rfl) ?_
        refine R_run hg.ok 1000 rfl rfl ?_
        exact R_retS hg 8 5 (Nat.le_refl _) rfl rfl (keep Q _)
  have hk1 : t.k ≠ 1 := by simpa using h1
  have hl0 : Tm.lkT (Tm.lkF B v (u + 1)) t M = Tm.lkTL (Tm.lkF B v (u + 1)) t.l M := Tm.lkT_fun hk1
  have hsz : Tm.sizeL t.l ≤ n := by have := Tm.size_eq t; omega
  have hll := Tm.length_le_sizeL t.l
  have hsz2 := Tm.size_eq t
  refine R_loop (fun x : Nat × List Int => ([(4, .lo 7 0), (43, .d (.sl (Tm.rows t.l))), (44, iV t.l.length), (45, iV x.1)], lobj B v x.2 ++ [boxR t])) (fun x => x.1 ≤ t.l.length ∧ Tm.lkT (Tm.lkF B v (u + 1)) t M = Tm.lkTL (Tm.lkF B v (u + 1)) (t.l.drop x.1) x.2 ∧ (B.countP fun b => !x.2.contains b.1) < u + 1) (fun x => t.l.length - x.1) (0, M) ⟨Nat.zero_le _, hl0, hu⟩ ⟨.refl _, .refl _, Ent.int (by rw [Tm.rows_length]), .refl _, trivial⟩ rfl ?_
  rintro ⟨k, Q⟩ ⟨hk, hm, hQ⟩
  simp only at hk hm hQ
  refine R_run hg.ok 1000 rfl rfl ?_
  refine R_if rfl rfl (fun h => ?_) (fun h => ?_) <;> refine R_run hg.ok 1000 rfl rfl ?_
  · have hkl : k < t.l.length := lt_dec h rfl
    have e1 : t.l[k]? = some t.l[k] := List.getElem?_eq_getElem hkl
    have hms := Tm.size_mem (List.getElem_mem hkl)
    rw [List.drop_eq_getElem_cons hkl] at hm
    generalize t.l[k] = x at e1 hms hm
    simp only [Tm.lkTL] at hm
    refine R_index hg.ok rfl rfl rfl rfl rfl rfl (Int.natCast_nonneg _) (Tm.rows_get e1) rfl ?_
    refine R_run hg.ok 1000 rfl rfl ?_
    have hcall := ihn x Q (by omega) (by omega) hQ
    obtain ⟨R0, hext⟩ := Tm.lkT_ext (Tm.lkF_ext B v (u + 1)) x Q
    have hcnt := Tm.count_le B Q R0
    rw [← hext] at hcnt
    generalize Tm.lkT (Tm.lkF B v (u + 1)) x Q = rq at hcall hm hcnt
    obtain ⟨r, Q'⟩ := rq
    simp only at hm hcnt
    refine R_callSO hg.ok hg.gup hg.wide hg.Y [0, 1, 2, 3, 4, 5, 6, 7] (lobj B v Q' ++ [boxR t, boxR x]) hcall (fun _ => rfl) rfl rfl rfl rfl rfl (by rw [hren]; rfl) rfl (by rw [hren]; rfl) ?_
    refine R_run hg.ok 1000 rfl rfl ?_
    refine R_if rfl rfl (fun h2 => ?_) (fun h2 => ?_) <;> refine R_run hg.ok 1000 rfl rfl ?_
    · have h2 : r = true := h2
      subst h2
      have e := ret (r := true) (Q := Q') (by rw [hm, if_pos rfl])
      rw [← e.1, ← e.2]
      exact R_retS hg 8 5 (Nat.le_refl _) rfl rfl (keep Q' _)
    · have h2 : r = false := h2
      subst h2
      refine R_dropO 9 (lobj B v Q' ++ [boxR t]) (by show φ.length ≤ _; omega) rfl ?_ ?_
      · show (lobj B v Q').map _ ++ _ = _
        rw [lobj_map (fun _ => rfl) (fun _ => rfl) (fun _ => rfl) rfl (fun _ => rfl) rfl rfl rfl B v Q']; rfl
      exact R_next (k + 1, Q') ⟨hkl, by rw [hm, if_neg (by simp)], by simp only; omega⟩ (by simp only; omega) ⟨.refl _, .refl _, .refl _, Ent.wrap (by simp only; omega) (by simp only; omega) (by simp only; omega), trivial⟩ rfl
  · have hkl : t.l.length ≤ k := ge_dec h rfl
    rw [List.drop_eq_nil_of_le hkl] at hm
    have e := ret (r := false) (Q := Q) (by rw [hm]; simp [Tm.lkTL])
    rw [← e.1, ← e.2]
    exact R_retS hg 8 5 (Nat.le_refl _) rfl rfl (keep Q _)
end Go.Proofs.Ytppghekipbnjhaa
