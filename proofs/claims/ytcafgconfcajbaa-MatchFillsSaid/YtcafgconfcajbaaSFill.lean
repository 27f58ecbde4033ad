import Derived.Test.YtcafgconfcajbaaSMatch
import Derived.Test.YtcafgconfcajbaaPlC
import Derived.Test.YtcafgconfcajbaaPlA
namespace Go.Proofs.Ytcafgconfcajbaa
open Go PSL Go.Proofs

theorem sealT_tup2 {nz : Bool} {n0 : Nat} {objs : List Ob} {n : Nat} {x y x' y' : AV} (h1 : sealT nz n0 objs n x = x') (h2 : sealT nz n0 objs n y = y') : sealT nz n0 objs (n + 1) (.tup [x, y]) = .tup [x', y'] := by
  rw [sealT]; simp only [List.map_cons, List.map_nil, h1, h2]

def nilM : AV := .d (.v (.map none))
def okT (ok : Bool) (t : Tm) : Tm := if ok then t else zeroT

set_option maxRecDepth 100000 in
theorem fillN_walk (Y : YP) (t : Tm) : ∀ (left deep : Int), t.size < 1000000000 → 0 ≤ left → left ≤ 3000 → 1 ≤ deep → deep ≤ 101 → SCtr Try.prog Y 46 [.lo 0 0, t.av, iV deep] [.box [nilM, iV left]] (.tup [(okT (Tm.fillN t left deep).1 t).av, bV (Tm.fillN t left deep).1]) [.box [nilM, iV (Tm.fillN t left deep).2]] := by
  induction t using Tm.ind with
  | _ t ih =>
  intro left deep hsz h0 h1 h2 h3
  have hl := Tm.len_le_sizeL t.l
  have hs := Tm.size_eq t
  have hc := Tm.fillN_eq t left deep
  refine SCtr.of_R (pf := fun _ => .eff) tyOk mixed Try.func46 rfl (by kernel_rfl) (by kernel_rfl) (by simp [Try.ntmps46]) (by simp) fun w S φ hg => ?_
  have hφ : φ.length ≤ 1 := Nat.le_of_eq hg.hs0.len
  refine R_run hg.ok 1000 rfl rfl ?_
  refine R_cut1 (fun _ : Unit => ([(0, .lo 0 0), (2, iV deep), (4, .lo 1 0), (6, .lo 2 0), (8, nilM)], [.box [nilM, iV left], boxR t, .box [.d (.v (.int .i64 0)), .d (.v (.string ByteArray.empty)), .d (.v (.int .i64 0)), .d (.v (.slice none 0 0))]])) (fun _ => True) rfl ?_ ?_
  · refine R_if rfl rfl (fun h => ?_) (fun h => ?_) <;> refine R_run hg.ok 1000 rfl rfl ?_
    · refine R_lookupNil hg.ok rfl rfl rfl rfl rfl rfl (zv := .agg #[.int .i64 0, .string ByteArray.empty, .int .i64 0, .slice none 0 0]) (by kernel_rfl) (v := .tup [.agg [iV 0, .d (.v (.string ByteArray.empty)), iV 0, .d (.v (.slice none 0 0))], bV false]) rfl ?_
      refine R_run hg.ok 1000 rfl rfl ?_
      refine R_if rfl rfl (fun h => absurd h (by simp)) (fun _ => ?_) <;> refine R_run hg.ok 1000 rfl rfl ?_
      refine R_dropO 3 [.box [nilM, iV left], boxR t, .box [.d (.v (.int .i64 0)), .d (.v (.string ByteArray.empty)), .d (.v (.int .i64 0)), .d (.v (.slice none 0 0))]] (by show φ.length ≤ _; omega) rfl rfl ?_
      exact R_to () trivial ⟨.refl _, .refl _, .refl _, .refl _, .refl _, trivial⟩ rfl
    · exact R_to () trivial ⟨.refl _, .refl _, .refl _, .refl _, .refl _, trivial⟩ rfl
  rintro _ _
  refine R_run hg.ok 1000 rfl rfl ?_
  have hw : IntKind.i64.wrap (left - 1) = left - 1 := w64 (by omega) (by omega)
  have hd1 : IntKind.i64.wrap (deep + 1) = deep + 1 := w64 (by omega) (by omega)
  rw [hw]
  have bad : left - 1 < 0 ∨ deep > 100 → Tm.fillN t left deep = (false, left - 1) := fun h => by rw [hc, if_pos h]
  refine R_if rfl rfl (fun h => ?_) (fun h => ?_) <;> refine R_run hg.ok 1000 rfl rfl ?_
  · rw [bad (.inl (of_decide_eq_true h))]
    exact R_retS hg 1 5 (Nat.le_refl _) rfl rfl rfl
  have g1 := of_decide_eq_false h
  refine R_if rfl rfl (fun h => ?_) (fun h => ?_) <;> refine R_run hg.ok 1000 rfl rfl ?_
  · rw [bad (.inr (of_decide_eq_true h))]
    exact R_retS hg 1 5 (Nat.le_refl _) rfl rfl rfl
  have g2 := of_decide_eq_false h
  rw [if_neg (by omega)] at hc
  refine R_ownB 3 3 4 rfl rfl rfl ?_
  refine R_loop (fun x : Nat × Int => ([(0, .lo 0 0), (2, iV deep), (6, .lo 2 0), (11, .lo 3 0), (12, .lo 4 0), (60, .d (.sl (Tm.rows t.l))), (61, iV t.l.length), (62, iV x.1)], [.box [nilM, iV (left - 1)], boxR t, .box [.d (.v (.int .i64 0)), .d (.v (.string ByteArray.empty)), .d (.v (.int .i64 0)), .d (.v (.slice none 0 0))], .box [.d (.v (.int .i64 t.k)), .d (.v (.string t.s)), .d (.v (.int .i64 t.n)), .ow 5 x.1], .box [nilM, iV x.2], .arr 4 x.1 (Tm.rows (t.l.take x.1))]))
    (fun x => x.1 ≤ t.l.length ∧ Tm.fillNL t.l (left - 1) (deep + 1) = Tm.fillNL (t.l.drop x.1) x.2 (deep + 1) ∧ 0 ≤ x.2 ∧ x.2 ≤ 3000) (fun x => t.l.length - x.1) (0, left - 1) ⟨Nat.zero_le _, rfl, by omega, by omega⟩ ⟨.refl _, .refl _, .refl _, .refl _, .refl _, .refl _, Ent.int (by rw [Tm.rows_length]), .refl _, trivial⟩ rfl ?_
  rintro ⟨k, l⟩ ⟨hk, hm, hl0, hl1⟩
  simp only at hk hm hl0 hl1
  refine R_run hg.ok 1000 rfl rfl ?_
  refine R_if rfl rfl (fun h => ?_) (fun h => ?_) <;> refine R_run hg.ok 1000 rfl rfl ?_
  · have hk1 : k < t.l.length := lt_dec h rfl
    have e1 : t.l[k]? = some t.l[k] := List.getElem?_eq_getElem hk1
    have hsm := Tm.size_mem (List.getElem_mem hk1)
    rw [List.drop_eq_getElem_cons hk1, Tm.fillNL] at hm
    refine R_index hg.ok rfl rfl rfl rfl rfl rfl (Int.natCast_nonneg k) (Tm.rows_get e1) rfl ?_
    refine R_run hg.ok 1000 rfl rfl ?_
    rw [hd1]
    have hcall := ih _ (List.getElem_mem hk1) l (deep + 1) (by omega) hl0 hl1 (by omega) (by omega)
    have hok := Tm.fillN_ok t.l[k] l (deep + 1) hl0 (by omega)
    generalize hr : Tm.fillN t.l[k] l (deep + 1) = rq at hcall hm hok
    obtain ⟨r, l2⟩ := rq
    refine R_callSO hg.ok hg.gup hg.wide hg.Y [4] [.box [nilM, iV (left - 1)], boxR t, .box [.d (.v (.int .i64 0)), .d (.v (.string ByteArray.empty)), .d (.v (.int .i64 0)), .d (.v (.slice none 0 0))], .box [.d (.v (.int .i64 t.k)), .d (.v (.string t.s)), .d (.v (.int .i64 t.n)), .ow 5 k], .box [nilM, iV l2], .arr 4 k (Tm.rows (t.l.take k)), boxR t.l[k]] hcall (fun _ => rfl) rfl rfl rfl rfl rfl rfl rfl rfl ?_
    cases r with
    | false =>
      refine R_run hg.ok 1000 rfl rfl ?_
      refine R_if rfl rfl (fun _ => ?_) (fun h => absurd h (by simp)) <;> refine R_run hg.ok 1000 rfl rfl ?_
      rw [hc, hm]
      exact R_retS hg 1 5 (Nat.le_refl _) rfl rfl rfl
    | true =>
      refine R_run hg.ok 1000 rfl rfl ?_
      refine R_if rfl rfl (fun h => absurd h (by simp)) (fun _ => ?_) <;> refine R_run hg.ok 1000 rfl rfl ?_
      refine R_appendO hg.ok _ rfl rfl rfl rfl rfl rfl rfl rfl rfl (by simp) (by simp [one1]) (rowsSnoc e1) (by rw [Tm.rows_length]; simp; omega) (by rw [Tm.rows_length]; simp; omega) ?_
      refine R_run hg.ok 1000 rfl rfl ?_
      refine R_dropO 6 _ (by show φ.length ≤ _; omega) rfl rfl ?_
      have e2 := hok.2 rfl
      have e3 := hok.1.1 rfl
      simp only at e2 e3
      exact R_next (k + 1, l2) ⟨hk1, by rw [hm]; simp, by simp only; omega, by simp only; omega⟩ (by simp only; omega) ⟨.refl _, .refl _, .refl _, .refl _, .refl _, .refl _, .refl _, Ent.wrap (by simp only; omega) (by simp only; omega) (by simp only; omega), trivial⟩ rfl
  · have hk1 : t.l.length ≤ k := ge_dec h rfl
    have e2 : Tm.fillN t left deep = (true, l) := by rw [hc, hm, List.drop_eq_nil_of_le hk1]; simp [Tm.fillNL]
    rw [e2]
    refine R_retS hg 1 5 (Nat.le_refl _) rfl ((sealT_tup2 (sealT_term rfl rfl rfl rfl rfl) rfl).trans ?_) rfl
    rw [List.take_of_length_le hk1]; rfl

theorem findB_size {B : Binds} {n : Int} {p : Tm} (hB : ∀ b ∈ B, b.2.size < 1000000000) (h : findB B n = some p) : p.size < 1000000000 := by
  unfold findB at h
  obtain ⟨z, hz, rfl⟩ := Option.map_eq_some_iff.1 h
  exact hB _ (List.mem_of_find?_eq_some hz)

def tmM (B : Binds) : List (Int × AV) := B.map fun b => (b.1, b.2.av)
theorem getI_tm : ∀ (B : Binds) (n : Int), getI (tmM B) n = (findB B n).map Tm.av
  | [], n => rfl
  | b :: B, n => by
    have ih := getI_tm B n
    by_cases h : b.1 = n
    · simp [tmM, getI, findB, h]
    · simp only [tmM, List.map_cons, getI, findB, List.find?_cons, show (b.1 == n) = false by simpa using h] at ih ⊢
      rw [if_neg h]; exact ih
theorem mapOb_tm {f : AV → AV} (h : ∀ t : Tm, f t.av = t.av) (B : Binds) : mapOb f (.map (imap (tmM B))) = .map (imap (tmM B)) := by
  simp [mapOb, imap, tmM, h]
theorem renOb_tm {f : Nat → Nat} (B : Binds) : renOb f (.map (imap (tmM B))) = .map (imap (tmM B)) := by
  have h := mapOb_tm (f := renA f) (fun t => by simp [Tm.av, renA, renL]) B
  simpa only [mapOb, renOb] using h
theorem putSnoc {B : Binds} {l : List Tm} {k : Nat} {x : Tm} (h : l[k]? = some x) : Tm.rows (Tm.putBL B (l.take k)) ++ [Tm.row (Tm.putB B x)] = Tm.rows (Tm.putBL B (l.take (k + 1))) := by
  rw [List.take_add_one, h, Tm.putBL_map, Tm.putBL_map]; simp [Tm.rows_eq]

set_option maxRecDepth 100000 in
theorem fillB_walk (Y : YP) (B : Binds) (hB : ∀ b ∈ B, b.2.size < 1000000000) (t : Tm) : ∀ (left deep : Int), t.size < 1000000000 → 0 ≤ left → left ≤ 3000 → 1 ≤ deep → deep ≤ 101 → SCtr Try.prog Y 46 [.lo 0 0, t.av, iV deep] [.box [.mp 1, iV left], .map (imap (tmM B))] (.tup [(okT (Tm.fillB B t left deep).1 (Tm.putB B t)).av, bV (Tm.fillB B t left deep).1]) [.box [.mp 1, iV (Tm.fillB B t left deep).2], .map (imap (tmM B))] := by
  induction t using Tm.ind with
  | _ t ih =>
  intro left deep hsz h0 h1 h2 h3
  have hl := Tm.len_le_sizeL t.l
  have hs := Tm.size_eq t
  have hc := Tm.fillB_eq B t left deep
  have hp := Tm.putB_eq B t
  refine SCtr.of_R (pf := fun _ => .eff) tyOk mixed Try.func46 rfl (by kernel_rfl) (by kernel_rfl) (by simp [Try.ntmps46]) (by simp) fun w S φ hg => ?_
  have hφ : φ.length ≤ 2 := Nat.le_of_eq hg.hs0.len
  have keep : ∀ (o : List Ob) (n : Int), [Ob.box [.mp 1, iV n], .map (imap (tmM B))].map (mapOb (sealT false 2 o 5)) = [Ob.box [.mp 1, iV n], .map (imap (tmM B))] := fun o n => by
    simp only [List.map_cons, List.map_nil, mapOb_tm (f := sealT false 2 o 5) (fun _ => rfl)]; rfl
  refine R_run hg.ok 1000 rfl rfl ?_
  refine R_cut1 (fun x : Tm × Bool => ([(0, .lo 0 0), (2, iV deep), (4, .lo 2 0), (6, .lo 3 0), (8, bif x.2 then .mp 1 else nilM)], [.box [.mp 1, iV left], .map (imap (tmM B)), boxR x.1, .box [.d (.v (.int .i64 0)), .d (.v (.string ByteArray.empty)), .d (.v (.int .i64 0)), .d (.v (.slice none 0 0))]])) (fun x => (x.2 = false ∧ t.k = 1 ∧ findB B t.n = some x.1) ∨ (x.2 = true ∧ x.1 = t ∧ (if t.k = 1 then findB B t.n else none) = none)) rfl ?_ ?_
  · refine R_if rfl rfl (fun h => ?_) (fun h => ?_) <;> refine R_run hg.ok 1000 rfl rfl ?_
    · have hk : t.k = 1 := by simpa using h
      cases hf : findB B t.n with
      | none =>
        refine R_lookupI hg.ok (tmM B) rfl rfl rfl rfl rfl rfl rfl (zv := .agg #[.int .i64 0, .string ByteArray.empty, .int .i64 0, .slice none 0 0]) (by kernel_rfl) (v := .tup [.agg [iV 0, .d (.v (.string ByteArray.empty)), iV 0, .d (.v (.slice none 0 0))], bV false]) (by rw [getI_tm, hf]; rfl) ?_
        refine R_run hg.ok 1000 rfl rfl ?_
        refine R_if rfl rfl (fun h => absurd h (by simp)) (fun _ => ?_) <;> refine R_run hg.ok 1000 rfl rfl ?_
        refine R_dropO 4 [.box [.mp 1, iV left], .map (imap (tmM B)), boxR t, .box [.d (.v (.int .i64 0)), .d (.v (.string ByteArray.empty)), .d (.v (.int .i64 0)), .d (.v (.slice none 0 0))]] (by show φ.length ≤ _; omega) rfl (cong2 (mapOb_tm (fun _ => rfl) B)) ?_
        exact R_to (t, true) (.inr ⟨rfl, rfl, by rw [if_pos hk]⟩) ⟨.refl _, .refl _, .refl _, .refl _, .refl _, trivial⟩ rfl
      | some p =>
        refine R_lookupI hg.ok (tmM B) rfl rfl rfl rfl rfl rfl rfl (zv := .agg #[.int .i64 0, .string ByteArray.empty, .int .i64 0, .slice none 0 0]) (by kernel_rfl) (v := .tup [p.av, bV true]) (by rw [getI_tm, hf]; rfl) ?_
        refine R_run hg.ok 1000 rfl rfl ?_
        refine R_if rfl rfl (fun _ => ?_) (fun h => absurd h (by simp)) <;> refine R_run hg.ok 1000 rfl rfl ?_
        refine R_dropO 4 [.box [.mp 1, iV left], .map (imap (tmM B)), boxR p, .box [.d (.v (.int .i64 0)), .d (.v (.string ByteArray.empty)), .d (.v (.int .i64 0)), .d (.v (.slice none 0 0))]] (by show φ.length ≤ _; omega) rfl (cong2 (mapOb_tm (fun _ => rfl) B)) ?_
        exact R_to (p, false) (.inl ⟨rfl, hk, rfl⟩) ⟨.refl _, .refl _, .refl _, .refl _, .refl _, trivial⟩ rfl
    · have hk : ¬ t.k = 1 := by simpa using h
      exact R_to (t, true) (.inr ⟨rfl, rfl, by rw [if_neg hk]⟩) ⟨.refl _, .refl _, .refl _, .refl _, .refl _, trivial⟩ rfl
  have hw : IntKind.i64.wrap (left - 1) = left - 1 := w64 (by omega) (by omega)
  have hd1 : IntKind.i64.wrap (deep + 1) = deep + 1 := w64 (by omega) (by omega)
  rintro ⟨p, b⟩ hinv
  simp only at hinv
  rcases hinv with ⟨rfl, hk, hf⟩ | ⟨rfl, rfl, hf⟩
  · have hpB : p.size < 1000000000 := findB_size hB hf
    have hpl := Tm.len_le_sizeL p.l
    have hps := Tm.size_eq p
    rw [if_pos hk] at hc hp
    simp only [hf, Option.getD_some] at hc hp
    have hp' : Tm.putB B t = p := hp
    rw [Tm.fillN_eq] at hc
    refine R_run hg.ok 1000 rfl rfl ?_
    rw [hw]
    have bad : left - 1 < 0 ∨ deep > 100 → Tm.fillB B t left deep = (false, left - 1) := fun h => by rw [hc, if_pos h]
    refine R_if rfl rfl (fun h => ?_) (fun h => ?_) <;> refine R_run hg.ok 1000 rfl rfl ?_
    · rw [bad (.inl (of_decide_eq_true h))]
      exact R_retS hg 2 5 (Nat.le_refl _) rfl rfl (keep _ _)
    have g1 := of_decide_eq_false h
    refine R_if rfl rfl (fun h => ?_) (fun h => ?_) <;> refine R_run hg.ok 1000 rfl rfl ?_
    · rw [bad (.inr (of_decide_eq_true h))]
      exact R_retS hg 2 5 (Nat.le_refl _) rfl rfl (keep _ _)
    have g2 := of_decide_eq_false h
    rw [if_neg (by omega)] at hc
    refine R_ownB 4 3 4 rfl rfl rfl ?_
    refine R_loop (fun x : Nat × Int => ([(0, .lo 0 0), (2, iV deep), (6, .lo 3 0), (11, .lo 4 0), (12, .lo 5 0), (60, .d (.sl (Tm.rows p.l))), (61, iV p.l.length), (62, iV x.1)], [.box [.mp 1, iV (left - 1)], .map (imap (tmM B)), boxR p, .box [.d (.v (.int .i64 0)), .d (.v (.string ByteArray.empty)), .d (.v (.int .i64 0)), .d (.v (.slice none 0 0))], .box [.d (.v (.int .i64 p.k)), .d (.v (.string p.s)), .d (.v (.int .i64 p.n)), .ow 6 x.1], .box [nilM, iV x.2], .arr 4 x.1 (Tm.rows (id (p.l.take x.1)))]))
      (fun x => x.1 ≤ p.l.length ∧ Tm.fillNL p.l (left - 1) (deep + 1) = Tm.fillNL (p.l.drop x.1) x.2 (deep + 1) ∧ 0 ≤ x.2 ∧ x.2 ≤ 3000) (fun x => p.l.length - x.1) (0, left - 1) ⟨Nat.zero_le _, rfl, by omega, by omega⟩ ⟨.refl _, .refl _, .refl _, .refl _, .refl _, .refl _, Ent.int (by rw [Tm.rows_length]), .refl _, trivial⟩ rfl ?_
    rintro ⟨k, l⟩ ⟨hk0, hm, hl0, hl1⟩
    simp only at hk0 hm hl0 hl1
    refine R_run hg.ok 1000 rfl rfl ?_
    refine R_if rfl rfl (fun h => ?_) (fun h => ?_) <;> refine R_run hg.ok 1000 rfl rfl ?_
    · have hk1 : k < p.l.length := lt_dec h rfl
      have e1 : p.l[k]? = some p.l[k] := List.getElem?_eq_getElem hk1
      have hsm := Tm.size_mem (List.getElem_mem hk1)
      rw [List.drop_eq_getElem_cons hk1, Tm.fillNL] at hm
      refine R_index hg.ok rfl rfl rfl rfl rfl rfl (Int.natCast_nonneg k) (Tm.rows_get e1) rfl ?_
      refine R_run hg.ok 1000 rfl rfl ?_
      rw [hd1]
      have hcall := fillN_walk Y p.l[k] l (deep + 1) (by omega) hl0 hl1 (by omega) (by omega)
      have hok := Tm.fillN_ok p.l[k] l (deep + 1) hl0 (by omega)
      generalize hr : Tm.fillN p.l[k] l (deep + 1) = rq at hcall hm hok
      obtain ⟨r, l2⟩ := rq
      refine R_callSO hg.ok hg.gup hg.wide hg.Y [5] [.box [.mp 1, iV (left - 1)], .map (imap (tmM B)), boxR p, .box [.d (.v (.int .i64 0)), .d (.v (.string ByteArray.empty)), .d (.v (.int .i64 0)), .d (.v (.slice none 0 0))], .box [.d (.v (.int .i64 p.k)), .d (.v (.string p.s)), .d (.v (.int .i64 p.n)), .ow 6 k], .box [nilM, iV l2], .arr 4 k (Tm.rows (id (p.l.take k))), boxR p.l[k]] hcall (fun _ => rfl) rfl rfl rfl rfl rfl rfl rfl rfl ?_
      cases r with
      | false =>
        refine R_run hg.ok 1000 rfl rfl ?_
        refine R_if rfl rfl (fun _ => ?_) (fun h => absurd h (by simp)) <;> refine R_run hg.ok 1000 rfl rfl ?_
        rw [hc, hm]
        exact R_retS hg 2 5 (Nat.le_refl _) rfl rfl (keep _ _)
      | true =>
        refine R_run hg.ok 1000 rfl rfl ?_
        refine R_if rfl rfl (fun h => absurd h (by simp)) (fun _ => ?_) <;> refine R_run hg.ok 1000 rfl rfl ?_
        refine R_appendO hg.ok _ rfl rfl rfl rfl rfl rfl rfl rfl rfl (by simp) (by simp [one1]) (rowsSnoc e1) (by rw [Tm.rows_length]; simp; omega) (by rw [Tm.rows_length]; simp; omega) ?_
        refine R_run hg.ok 1000 rfl rfl ?_
        refine R_dropO 7 _ (by show φ.length ≤ _; omega) rfl (cong2 (mapOb_tm (fun _ => rfl) B)) ?_
        have e2 := hok.2 rfl
        have e3 := hok.1.1 rfl
        simp only at e2 e3
        exact R_next (k + 1, l2) ⟨hk1, by rw [hm]; simp, by simp only; omega, by simp only; omega⟩ (by simp only; omega) ⟨.refl _, .refl _, .refl _, .refl _, .refl _, .refl _, .refl _, Ent.wrap (by simp only; omega) (by simp only; omega) (by simp only; omega), trivial⟩ rfl
    · have hk1 : p.l.length ≤ k := ge_dec h rfl
      have e2 : Tm.fillB B t left deep = (true, l) := by rw [hc, hm, List.drop_eq_nil_of_le hk1]; simp [Tm.fillNL]
      rw [e2]
      refine R_retS hg 2 5 (Nat.le_refl _) rfl ((sealT_tup2 (sealT_term rfl rfl rfl rfl rfl) rfl).trans ?_) (keep _ _)
      rw [List.take_of_length_le hk1, hp']; rfl
  · simp only [hf] at hc
    have hp' : Tm.putB B p = .mk p.k p.s p.n (Tm.putBL B p.l) := by
      rw [hp]; split
      · rename_i hk; rw [if_pos hk] at hf; rw [hf]; rfl
      · rfl
    refine R_run hg.ok 1000 rfl rfl ?_
    rw [hw]
    have bad : left - 1 < 0 ∨ deep > 100 → Tm.fillB B p left deep = (false, left - 1) := fun h => by rw [hc, if_pos h]
    refine R_if rfl rfl (fun h => ?_) (fun h => ?_) <;> refine R_run hg.ok 1000 rfl rfl ?_
    · rw [bad (.inl (of_decide_eq_true h))]
      exact R_retS hg 2 5 (Nat.le_refl _) rfl rfl (keep _ _)
    have g1 := of_decide_eq_false h
    refine R_if rfl rfl (fun h => ?_) (fun h => ?_) <;> refine R_run hg.ok 1000 rfl rfl ?_
    · rw [bad (.inr (of_decide_eq_true h))]
      exact R_retS hg 2 5 (Nat.le_refl _) rfl rfl (keep _ _)
    have g2 := of_decide_eq_false h
    rw [if_neg (by omega)] at hc
    refine R_ownB 4 3 4 rfl rfl rfl ?_
    refine R_loop (fun x : Nat × Int => ([(0, .lo 0 0), (2, iV deep), (6, .lo 3 0), (11, .lo 4 0), (12, .lo 5 0), (60, .d (.sl (Tm.rows p.l))), (61, iV p.l.length), (62, iV x.1)], [.box [.mp 1, iV (left - 1)], .map (imap (tmM B)), boxR p, .box [.d (.v (.int .i64 0)), .d (.v (.string ByteArray.empty)), .d (.v (.int .i64 0)), .d (.v (.slice none 0 0))], .box [.d (.v (.int .i64 p.k)), .d (.v (.string p.s)), .d (.v (.int .i64 p.n)), .ow 6 x.1], .box [.mp 1, iV x.2], .arr 4 x.1 (Tm.rows (Tm.putBL B (p.l.take x.1)))]))
      (fun x => x.1 ≤ p.l.length ∧ Tm.fillBL B p.l (left - 1) (deep + 1) = Tm.fillBL B (p.l.drop x.1) x.2 (deep + 1) ∧ 0 ≤ x.2 ∧ x.2 ≤ 3000) (fun x => p.l.length - x.1) (0, left - 1) ⟨Nat.zero_le _, rfl, by omega, by omega⟩ ⟨.refl _, .refl _, .refl _, .refl _, .refl _, .refl _, Ent.int (by rw [Tm.rows_length]), .refl _, trivial⟩ rfl ?_
    rintro ⟨k, l⟩ ⟨hk0, hm, hl0, hl1⟩
    simp only at hk0 hm hl0 hl1
    refine R_run hg.ok 1000 rfl rfl ?_
    refine R_if rfl rfl (fun h => ?_) (fun h => ?_) <;> refine R_run hg.ok 1000 rfl rfl ?_
    · have hk1 : k < p.l.length := lt_dec h rfl
      have e1 : p.l[k]? = some p.l[k] := List.getElem?_eq_getElem hk1
      have hsm := Tm.size_mem (List.getElem_mem hk1)
      rw [List.drop_eq_getElem_cons hk1, Tm.fillBL] at hm
      refine R_index hg.ok rfl rfl rfl rfl rfl rfl (Int.natCast_nonneg k) (Tm.rows_get e1) rfl ?_
      refine R_run hg.ok 1000 rfl rfl ?_
      rw [hd1]
      have hcall := ih _ (List.getElem_mem hk1) l (deep + 1) (by omega) hl0 hl1 (by omega) (by omega)
      have hok := Tm.fillB_ok B p.l[k] l (deep + 1) hl0 (by omega)
      generalize hr : Tm.fillB B p.l[k] l (deep + 1) = rq at hcall hm hok
      obtain ⟨r, l2⟩ := rq
      refine R_callSO hg.ok hg.gup hg.wide hg.Y [5, 1] [.box [.mp 1, iV (left - 1)], .map (imap (tmM B)), boxR p, .box [.d (.v (.int .i64 0)), .d (.v (.string ByteArray.empty)), .d (.v (.int .i64 0)), .d (.v (.slice none 0 0))], .box [.d (.v (.int .i64 p.k)), .d (.v (.string p.s)), .d (.v (.int .i64 p.n)), .ow 6 k], .box [.mp 1, iV l2], .arr 4 k (Tm.rows (Tm.putBL B (p.l.take k))), boxR p.l[k]] hcall (fun _ => rfl) rfl rfl rfl rfl rfl (some2 (renOb_tm B)) rfl (by rw [List.map_cons, List.map_cons, List.map_nil, renOb_tm]; rfl) ?_
      cases r with
      | false =>
        refine R_run hg.ok 1000 rfl rfl ?_
        refine R_if rfl rfl (fun _ => ?_) (fun h => absurd h (by simp)) <;> refine R_run hg.ok 1000 rfl rfl ?_
        rw [hc, hm]
        exact R_retS hg 2 5 (Nat.le_refl _) rfl rfl (keep _ _)
      | true =>
        refine R_run hg.ok 1000 rfl rfl ?_
        refine R_if rfl rfl (fun h => absurd h (by simp)) (fun _ => ?_) <;> refine R_run hg.ok 1000 rfl rfl ?_
        refine R_appendO hg.ok _ rfl rfl rfl rfl rfl rfl rfl rfl rfl (by simp) (by simp [one1]) (putSnoc e1) (by rw [Tm.rows_length, Tm.putBL_map]; simp; omega) (by rw [Tm.rows_length, Tm.putBL_map]; simp; omega) ?_
        refine R_run hg.ok 1000 rfl rfl ?_
        refine R_dropO 7 _ (by show φ.length ≤ _; omega) rfl (cong2 (mapOb_tm (fun _ => rfl) B)) ?_
        have e2 := hok.2 rfl
        have e3 := hok.1.1 rfl
        simp only at e2 e3
        exact R_next (k + 1, l2) ⟨hk1, by rw [hm]; simp, by simp only; omega, by simp only; omega⟩ (by simp only; omega) ⟨.refl _, .refl _, .refl _, .refl _, .refl _, .refl _, .refl _, Ent.wrap (by simp only; omega) (by simp only; omega) (by simp only; omega), trivial⟩ rfl
    · have hk1 : p.l.length ≤ k := ge_dec h rfl
      have e2 : Tm.fillB B p left deep = (true, l) := by rw [hc, hm, List.drop_eq_nil_of_le hk1]; simp [Tm.fillBL]
      rw [e2]
      refine R_retS hg 2 5 (Nat.le_refl _) rfl ((sealT_tup2 (sealT_term rfl rfl rfl rfl rfl) rfl).trans ?_) (keep _ _)
      rw [List.take_of_length_le hk1, hp']; rfl
end Go.Proofs.Ytcafgconfcajbaa
