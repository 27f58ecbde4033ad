import Derived.Test.YtoeoeojhelomdaaSLaw1c
namespace Go.Proofs.Ytoeoeojhelomdaa
open Go PSL Go.Proofs

def ups (l : List Tm) (m : Int) : List Tm := l.map fun t => (shiftT t m).1
def highs (l : List Tm) (m : Int) : Bool := l.any fun t => (shiftT t m).2 != 0

theorem ups_snoc {l : List Tm} {k : Nat} {x : Tm} {m : Int} (h : l[k]? = some x) : Tm.rows (ups (l.take k) m) ++ [Tm.row (shiftT x m).1] = Tm.rows (ups (l.take (k + 1)) m) := by
  rw [List.take_add_one, h]
  simp [ups, Tm.rows_eq]
theorem highs_snoc {l : List Tm} {k : Nat} {x : Tm} {m : Int} (h : l[k]? = some x) : highs (l.take (k + 1)) m = (highs (l.take k) m || ((shiftT x m).2 != 0)) := by
  rw [List.take_add_one, h]
  simp [highs]

theorem shiftT_size (t : Tm) (m : Int) : (shiftT t m).1.size ≤ t.size := by
  have := Tm.size_eq t
  unfold shiftT
  split
  · split
    · show (1 : Nat) ≤ _; omega
    · split
      · show (1 : Nat) ≤ _; omega
      · rw [Tm.size_turn]; exact Nat.le_refl _
  · show (1 : Nat) ≤ _; omega
theorem ups_size (l : List Tm) (m : Int) : Tm.sizeL (ups l m) ≤ Tm.sizeL l := by
  induction l with
  | nil => exact Nat.le_refl _
  | cons t l ih => have := shiftT_size t m; simp only [ups, List.map_cons, Tm.sizeL] at ih ⊢; omega
theorem zeroT_names : ∀ e ∈ zeroT.els 1, e.2.s.size < 1000000000 := kZ_els

mutual
theorem turn_names (g : Int → Int) : ∀ (t : Tm), (∀ d e, e ∈ t.els d → e.2.s.size < 1000000000) → ∀ d e, e ∈ (Tm.turnT g t).els d → e.2.s.size < 1000000000
  | .mk k s n l, h, d, e, he => by
    simp only [Tm.turnT, Tm.els, List.mem_cons] at he
    rcases he with rfl | he
    · exact h d (d, .mk k s n l) (by simp [Tm.els])
    · exact turnL_names g l (fun d e he => h (d - 1) e (by rw [Tm.els]; exact List.mem_cons_of_mem _ (by rw [Int.sub_add_cancel]; exact he))) _ _ he
theorem turnL_names (g : Int → Int) : ∀ (l : List Tm), (∀ d e, e ∈ Tm.elsL l d → e.2.s.size < 1000000000) → ∀ d e, e ∈ Tm.elsL (Tm.turnTL g l) d → e.2.s.size < 1000000000
  | [], _, d, e, he => by simp [Tm.turnTL, Tm.elsL] at he
  | t :: r, h, d, e, he => by
    simp only [Tm.turnTL, Tm.elsL, List.mem_append] at he
    rcases he with he | he
    · exact turn_names g t (fun d e he => h d e (by simp [Tm.elsL, he])) d e he
    · exact turnL_names g r (fun d e he => h d e (by simp [Tm.elsL, he])) d e he
end

theorem shiftT_names {t : Tm} (m : Int) (h : ∀ d e, e ∈ t.els d → e.2.s.size < 1000000000) : ∀ e ∈ (shiftT t m).1.els 1, e.2.s.size < 1000000000 := by
  unfold shiftT
  split
  · split
    · exact zeroT_names
    · split
      · exact zeroT_names
      · exact fun e he => turn_names _ t h 1 e he
  · exact zeroT_names

def idxs (n : Nat) : List Int := (List.range n).map fun (i : Nat) => (i : Int)
theorem idxs_snoc (n : Nat) : idxs n ++ [(n : Int)] = idxs (n + 1) := by simp [idxs, List.range_succ]
theorem idxs_len (n : Nat) : (idxs n).length = n := by simp [idxs]
theorem toG_idxs {V : List Int} {v : Int} (hv : v ∈ V) : toG V (idxs V.length) v = placeG V v := by
  have h := atI_mem 0 hv
  have h1 : (atI V v 0).toNat < V.length := by omega
  unfold toG idxs
  rw [(placeG_mem hv).1]
  simp [h1]
  omega

set_option maxRecDepth 100000 in
theorem termNumbers_ok (l : List Tm) (hok : ∀ t ∈ l, t.Ok) (hlen : l.length < 4611686018427387904) (m : Int) (hm : 0 ≤ m ∧ m ≤ 65535) : PCtr Try.prog 12 [.d (.sl (Tm.rows l)), .d (.v (.int .u16 m))] (bV true) := by
  refine PCtr.of_R (pf := fun _ => .still) tyOk mixed Try.func12 rfl (by kernel_rfl) (by kernel_rfl) (by simp [Try.ntmps12]) fun w S hg => ?_
  refine R_run hg.ok 1000 rfl rfl ?_
  refine R_call hg.ok (some_ok l hok hlen) rfl rfl rfl rfl rfl rfl ?_
  refine R_run hg.ok 1000 rfl rfl ?_
  refine R_if rfl rfl (fun h => ?_) (fun h => ?_) <;> refine R_run hg.ok 1000 rfl rfl ?_
  · refine R_call hg.ok knows1_ok rfl rfl rfl rfl rfl rfl ?_
    refine R_run hg.ok 1000 rfl rfl ?_
    refine R_ret hg 5 rfl rfl ?_
    rfl
  have hs : Tm.someT l = true := by simpa using h
  have hsz := some_sub hs
  have hll := Tm.len_le_sizeL l
  have hall := els_of_some hs
  have hsz4 := (Tm.someT_ok hs).1
  have hwm : IntKind.i64.wrap m = m := w64 (by omega) (by omega)
  refine R_call hg.ok (number_ok l hsz fun t ht => els1 (hall t ht).2) rfl rfl rfl rfl rfl rfl ?_
  refine R_run hg.ok 1000 rfl rfl ?_
  generalize hN : numberT l = N
  obtain ⟨X, n, e⟩ := N
  simp only
  refine R_own 8 4 rfl rfl ?_
  refine R_cut2 (fun _ : Unit => ([(0, .d (.sl (Tm.rows l))), (1, .d (.v (.int .u16 m))), (5, .d (.sl (Tm.rows X))), (6, iV n), (7, iV e), (8, .ow 0 l.length), (9, bV (highs l m))], [.arr 4 l.length (Tm.rows (ups l m))])) (fun _ => ∀ t ∈ l, t.rightB = true) rfl ?_ ?_
  refine R_loop (fun k : Nat => ([(0, .d (.sl (Tm.rows l))), (1, .d (.v (.int .u16 m))), (5, .d (.sl (Tm.rows X))), (6, iV n), (7, iV e), (8, .ow 0 k), (9, bV (highs (l.take k) m)), (10, iV k)], [.arr 4 k (Tm.rows (ups (l.take k) m))])) (fun k => k ≤ l.length ∧ ∀ t ∈ l.take k, t.rightB = true) (fun k => l.length - k) 0 ⟨Nat.zero_le _, by simp⟩ ⟨.refl _, .refl _, .refl _, .refl _, .refl _, .refl _, Ent.ffb rfl, .refl _, trivial⟩ rfl ?_
  rintro k ⟨hk, hrt⟩
  refine R_run hg.ok 1000 rfl rfl ?_
  refine R_if rfl rfl (fun h => ?_) (fun h => ?_) <;> refine R_run hg.ok 1000 rfl rfl ?_
  · have hk1 : k < l.length := lt_dec h (by rw [Tm.rows_length])
    have e1 : l[k]? = some l[k] := List.getElem?_eq_getElem hk1
    have hmem := List.getElem_mem hk1
    obtain ⟨ha1, ha2⟩ := hall _ hmem
    refine R_index hg.ok rfl rfl rfl rfl rfl rfl (Int.natCast_nonneg k) (Tm.rows_get e1) rfl ?_
    refine R_run hg.ok 1000 rfl rfl ?_
    refine R_call hg.ok (refRight_ok l[k] ha1 ha2) rfl rfl rfl rfl rfl rfl ?_
    refine R_run hg.ok 1000 rfl rfl ?_
    refine R_if rfl rfl (fun h => ?_) (fun h => ?_) <;> refine R_run hg.ok 1000 rfl rfl ?_
    · have hr : l[k].rightB = false := by simpa using h
      have hno : numberT l = ([], 0, 1) := by
        unfold numberT
        rw [if_neg]
        rw [all_rights]
        intro hc
        rw [hc _ hmem] at hr; cases hr
      rw [hN] at hno
      cases hno
      refine R_run hg.ok 1000 rfl rfl ?_
      refine R_if rfl rfl (fun _ => ?_) (fun h => absurd h (by decide)) <;> refine R_run hg.ok 1000 rfl rfl ?_
      refine R_if rfl rfl (fun _ => ?_) (fun h => absurd h (by decide)) <;> refine R_run hg.ok 1000 rfl rfl ?_
      refine R_if rfl rfl (fun _ => ?_) (fun h => absurd h (by decide)) <;> refine R_run hg.ok 1000 rfl rfl ?_
      refine R_call hg.ok knows1_ok rfl rfl rfl rfl rfl rfl ?_
      refine R_run hg.ok 1000 rfl rfl ?_
      refine R_ret hg 5 rfl rfl ?_
      rfl
    have hr : l[k].rightB = true := by simpa using h
    refine R_index hg.ok rfl rfl rfl rfl rfl rfl (Int.natCast_nonneg k) (Tm.rows_get e1) rfl ?_
    refine R_run hg.ok 1000 rfl rfl ?_
    have hc := shift_ok l[k] (IntKind.i64.wrap m) ha1 (els1 ha2)
    rw [show (shiftT l[k] (IntKind.i64.wrap m)) = shiftT l[k] m by rw [hwm]] at hc
    refine R_call hg.ok hc rfl rfl rfl rfl rfl rfl ?_
    refine R_run hg.ok 1000 rfl rfl ?_
    refine R_cut1 (fun _ : Unit => ([(0, .d (.sl (Tm.rows l))), (1, .d (.v (.int .u16 m))), (5, .d (.sl (Tm.rows X))), (6, iV n), (7, iV e), (8, .ow 0 k), (9, bV (highs (l.take (k + 1)) m)), (10, iV k), (11, .lo 1 0)], [.arr 4 k (Tm.rows (ups (l.take k) m)), boxR (shiftT l[k] m).1])) (fun _ => True) rfl ?_ ?_
    · refine R_if rfl rfl (fun h => ?_) (fun h => ?_) <;> refine R_run hg.ok 1000 rfl rfl ?_
      · exact R_to () trivial ⟨.refl _, .refl _, .refl _, .refl _, .refl _, .refl _, Ent.ttb (by rw [highs_snoc e1, h]; rfl), .refl _, .refl _, trivial⟩ rfl
      · exact R_to () trivial ⟨.refl _, .refl _, .refl _, .refl _, .refl _, .refl _, Ent.bool (by rw [highs_snoc e1, h, Bool.false_or]), .refl _, .refl _, trivial⟩ rfl
    rintro _ _
    refine R_run hg.ok 1000 rfl rfl ?_
    have hul : (ups (l.take k) m).length = k := by simp [ups]; omega
    refine R_appendO hg.ok _ rfl rfl rfl rfl rfl rfl rfl rfl rfl (by simp) (by simp [one1]) (ups_snoc e1) (by rw [Tm.rows_length, hul]; simp; omega) (by rw [Tm.rows_length, hul]; simp; omega) ?_
    refine R_run hg.ok 1000 rfl rfl ?_
    refine R_drop 1 (Nat.zero_le _) rfl ?_
    refine R_next (k + 1) ⟨hk1, fun t ht => ?_⟩ (by omega) ⟨.refl _, .refl _, .refl _, .refl _, .refl _, .refl _, .refl _, Ent.wrap (by omega) (by omega) (by omega), trivial⟩ rfl
    rw [List.take_add_one, e1, List.mem_append] at ht
    rcases ht with ht | ht
    · exact hrt t ht
    · simp at ht; rw [ht]; exact hr
  have hk1 : l.length ≤ k := ge_dec h (by rw [Tm.rows_length])
  obtain rfl : k = l.length := by omega
  rw [List.take_length] at hrt ⊢
  exact R_to () hrt ⟨.refl _, .refl _, .refl _, .refl _, .refl _, .refl _, .refl _, trivial⟩ rfl
  rintro _ hrt
  have hf := fairL_of hrt
  have hVr : ∀ v ∈ varsT l, 0 ≤ v ∧ v < 1000000 := fun v hv => varsT_range hf hv
  have hVl : (varsT l).length ≤ Tm.sizeL l := by have := varsF_len l []; simpa [varsF, varsT] using this
  have hN2 : numberT l = (Tm.turnTL (placeG (varsT l)) l, ((varsT l).length : Int), 0) := by unfold numberT; rw [if_pos (all_rights.2 hrt)]
  have hagain := number_again hrt (by omega)
  rw [hN2] at hagain
  rw [hN] at hN2
  obtain ⟨hX, hn, he⟩ : X = Tm.turnTL (placeG (varsT l)) l ∧ n = (varsT l).length ∧ e = 0 := by simpa using hN2
  rw [← hX] at hagain
  have hXs : Tm.sizeL X = Tm.sizeL l := by rw [hX, Tm.sizeL_turn]
  have hXn : ∀ t ∈ X, ∀ e ∈ t.els 1, e.2.s.size < 1000000000 := by
    rw [hX]
    intro t ht
    rw [Tm.turnTL_map] at ht
    obtain ⟨x, hx, rfl⟩ := List.mem_map.1 ht
    exact fun e he => turn_names _ x (hall x hx).2 1 e he
  refine R_freezeO hg.gup 0 [(0, .d (.sl (Tm.rows l))), (5, .d (.sl (Tm.rows X))), (6, iV n), (7, iV e), (8, .d (.sl (Tm.rows (ups l m)))), (9, bV (highs l m))] [.dead] rfl rfl ⟨.refl _, .refl _, .refl _, .refl _, Ent.frz 0 l.length (Tm.rows (ups l m)), .refl _, trivial⟩ ⟨by simp [ObIn], trivial⟩ ?_
  refine R_run hg.ok 1000 rfl rfl ?_
  refine R_call hg.ok (refVars_ok l hsz) rfl rfl rfl rfl rfl rfl ?_
  rw [← varsT_with l (Tm.fairL_plain _ hf)]
  refine R_run hg.ok 1000 rfl rfl ?_
  refine R_own 14 1 rfl rfl ?_
  generalize hV : varsT l = V at *
  refine R_cut2 (fun _ : Unit => ([(0, .d (.sl (Tm.rows l))), (5, .d (.sl (Tm.rows X))), (6, iV n), (7, iV e), (8, .d (.sl (Tm.rows (ups l m)))), (9, bV (highs l m)), (13, .d (.sl (irows V))), (14, .ow 1 V.length)], [.dead, .arr 1 V.length (irows (idxs V.length))])) (fun _ => True) rfl ?_ ?_
  refine R_loop (fun k : Nat => ([(0, .d (.sl (Tm.rows l))), (5, .d (.sl (Tm.rows X))), (6, iV n), (7, iV e), (8, .d (.sl (Tm.rows (ups l m)))), (9, bV (highs l m)), (13, .d (.sl (irows V))), (14, .ow 1 k), (15, iV k)], [.dead, .arr 1 k (irows (idxs k))])) (fun k => k ≤ V.length) (fun k => V.length - k) 0 (Nat.zero_le _) ⟨.refl _, .refl _, .refl _, .refl _, .refl _, .refl _, .refl _, .refl _, .refl _, trivial⟩ rfl ?_
  intro j hj
  refine R_run hg.ok 1000 rfl rfl ?_
  refine R_if rfl rfl (fun h => ?_) (fun h => ?_) <;> refine R_run hg.ok 1000 rfl rfl ?_
  · have hj1 : j < V.length := lt_dec h (by rw [irows_length])
    refine R_appendO hg.ok (irows (idxs (j + 1))) rfl rfl rfl rfl rfl rfl rfl rfl rfl (by simp) (by simp [one1]) (by rw [← idxs_snoc]; exact irows_snoc _ _) (by simp [irows_length, idxs_len]; omega) (by simp [irows_length, idxs_len]; omega) ?_
    refine R_run hg.ok 1000 rfl rfl ?_
    exact R_next (j + 1) hj1 (by omega) ⟨.refl _, .refl _, .refl _, .refl _, .refl _, .refl _, .refl _, .refl _, Ent.wrap (by omega) (by omega) (by omega), trivial⟩ rfl
  have hj1 : V.length ≤ j := ge_dec h (by rw [irows_length])
  obtain rfl : j = V.length := by omega
  exact R_to () trivial ⟨.refl _, .refl _, .refl _, .refl _, .refl _, .refl _, .refl _, .refl _, trivial⟩ rfl
  rintro _ _
  refine R_freezeO hg.gup 1 [(0, .d (.sl (Tm.rows l))), (5, .d (.sl (Tm.rows X))), (6, iV n), (7, iV e), (8, .d (.sl (Tm.rows (ups l m)))), (9, bV (highs l m)), (13, .d (.sl (irows V))), (14, .d (.sl (irows (idxs V.length))))] [.dead, .dead] rfl rfl ⟨.refl _, .refl _, .refl _, .refl _, .refl _, .refl _, .refl _, Ent.frz 1 V.length (irows (idxs V.length)), trivial⟩ ⟨by simp [ObIn], by simp [ObIn], trivial⟩ ?_
  have hVm : ∀ v, v ∈ V ↔ v ∈ Tm.occL l := fun v => by rw [← hV]; exact varsT_mem hf
  refine R_run hg.ok 1000 rfl rfl ?_
  refine R_own 16 4 rfl rfl ?_
  refine R_cut2 (fun _ : Unit => ([(5, .d (.sl (Tm.rows X))), (6, iV n), (7, iV e), (8, .d (.sl (Tm.rows (ups l m)))), (9, bV (highs l m)), (13, .d (.sl (irows V))), (16, .ow 2 l.length)], [.dead, .dead, .arr 4 l.length (Tm.rows (Tm.turnRL (toG V (idxs V.length)) l))])) (fun _ => True) rfl ?_ ?_
  refine R_loop (fun k : Nat => ([(0, .d (.sl (Tm.rows l))), (5, .d (.sl (Tm.rows X))), (6, iV n), (7, iV e), (8, .d (.sl (Tm.rows (ups l m)))), (9, bV (highs l m)), (13, .d (.sl (irows V))), (14, .d (.sl (irows (idxs V.length)))), (16, .ow 2 k), (17, iV k)], [.dead, .dead, .arr 4 k (Tm.rows (Tm.turnRL (toG V (idxs V.length)) (l.take k)))])) (fun k => k ≤ l.length) (fun k => l.length - k) 0 (Nat.zero_le _) ⟨.refl _, .refl _, .refl _, .refl _, .refl _, .refl _, .refl _, .refl _, .refl _, .refl _, trivial⟩ rfl ?_
  intro q hq
  refine R_run hg.ok 1000 rfl rfl ?_
  refine R_if rfl rfl (fun h => ?_) (fun h => ?_) <;> refine R_run hg.ok 1000 rfl rfl ?_
  · have hq1 : q < l.length := lt_dec h (by rw [Tm.rows_length])
    have e1 : l[q]? = some l[q] := List.getElem?_eq_getElem hq1
    have hmem := List.getElem_mem hq1
    obtain ⟨ha1, ha2⟩ := hall _ hmem
    refine R_index hg.ok rfl rfl rfl rfl rfl rfl (Int.natCast_nonneg q) (Tm.rows_get e1) rfl ?_
    refine R_run hg.ok 1000 rfl rfl ?_
    refine R_call hg.ok (refTurn_ok V (idxs V.length) (by rw [idxs_len]; exact Nat.le_refl _) (by rw [idxs_len]; omega) l[q] ha1 fun d e he hk => ?_) rfl rfl rfl rfl rfl rfl ?_
    · exact (atI_mem 0 ((hVm _).2 (occ_sub hmem (Tm.occ_of he hk (Tm.fair_plain _ (right_fair (hrt _ hmem))))))).1
    refine R_run hg.ok 1000 rfl rfl ?_
    refine R_appendO hg.ok _ rfl rfl rfl rfl rfl rfl rfl rfl rfl (by simp) (by simp [one1]) (turnR_snoc e1) (by rw [Tm.rows_length, Tm.turnRL_map]; simp; omega) (by rw [Tm.rows_length, Tm.turnRL_map]; simp; omega) ?_
    refine R_run hg.ok 1000 rfl rfl ?_
    exact R_next (q + 1) hq1 (by omega) ⟨.refl _, .refl _, .refl _, .refl _, .refl _, .refl _, .refl _, .refl _, .refl _, Ent.wrap (by omega) (by omega) (by omega), trivial⟩ rfl
  have hq1 : l.length ≤ q := ge_dec h (by rw [Tm.rows_length])
  obtain rfl : q = l.length := by omega
  rw [List.take_length]
  exact R_to () trivial ⟨.refl _, .refl _, .refl _, .refl _, .refl _, .refl _, .refl _, trivial⟩ rfl
  rintro _ _
  have hwant : Tm.turnRL (toG V (idxs V.length)) l = X := by
    rw [Tm.turnRL_turnTL _ l hf, hX]
    exact Tm.turnL_congr l hf fun v hv => toG_idxs ((hVm v).2 hv)
  rw [hwant]
  refine R_freezeO hg.gup 2 [(5, .d (.sl (Tm.rows X))), (6, iV n), (7, iV e), (8, .d (.sl (Tm.rows (ups l m)))), (9, bV (highs l m)), (13, .d (.sl (irows V))), (16, .d (.sl (Tm.rows X)))] [.dead, .dead, .dead] rfl rfl ⟨.refl _, .refl _, .refl _, .refl _, .refl _, .refl _, Ent.frz 2 l.length (Tm.rows X), trivial⟩ ⟨by simp [ObIn], by simp [ObIn], by simp [ObIn], trivial⟩ ?_
  refine R_run hg.ok 1000 rfl rfl ?_
  have hNX := number_ok X (by omega) hXn
  rw [hagain] at hNX
  refine R_call hg.ok hNX rfl rfl rfl rfl rfl rfl ?_
  refine R_run hg.ok 1000 rfl rfl ?_
  have hsame := sameAll_ok X X (by omega)
  rw [Tm.sameL_refl] at hsame
  refine R_call hg.ok hsame rfl rfl rfl rfl rfl rfl ?_
  refine R_run hg.ok 1000 rfl rfl ?_
  refine R_if rfl rfl (fun h => absurd h (by decide)) (fun _ => ?_) <;> refine R_run hg.ok 1000 rfl rfl ?_
  refine R_if rfl rfl (fun h => absurd h (by rw [hn, irows_length]; simp)) (fun _ => ?_) <;> refine R_run hg.ok 1000 rfl rfl ?_
  refine R_if rfl rfl (fun h => absurd h (by rw [he]; simp)) (fun _ => ?_) <;> refine R_run hg.ok 1000 rfl rfl ?_
  refine R_call hg.ok hsame rfl rfl rfl rfl rfl rfl ?_
  refine R_run hg.ok 1000 rfl rfl ?_
  refine R_if rfl rfl (fun h => absurd h (by decide)) (fun _ => ?_) <;> refine R_run hg.ok 1000 rfl rfl ?_
  refine R_if rfl rfl (fun h => absurd h (by rw [hn]; simp)) (fun _ => ?_) <;> refine R_run hg.ok 1000 rfl rfl ?_
  refine R_if rfl rfl (fun h => absurd h (by simp)) (fun _ => ?_) <;> refine R_run hg.ok 1000 rfl rfl ?_
  have hup := ups_size l m
  have hNU := number_ok (ups l m) (by omega) (by
    intro t ht
    obtain ⟨x, hx, rfl⟩ := List.mem_map.1 ht
    exact shiftT_names m (hall x hx).2)
  refine R_call hg.ok hNU rfl rfl rfl rfl rfl rfl ?_
  refine R_run hg.ok 1000 rfl rfl ?_
  refine R_if rfl rfl (fun hh => ?_) (fun hh => ?_) <;> refine R_run hg.ok 1000 rfl rfl ?_
  · refine R_call hg.ok knows1_ok rfl rfl rfl rfl rfl rfl ?_
    refine R_run hg.ok 1000 rfl rfl ?_
    refine R_ret hg 5 rfl rfl ?_
    rfl
  have hno : ∀ t ∈ l, (shiftT t m).2 = 0 := by
    intro t ht
    have := List.any_eq_false.1 hh t ht
    simpa using this
  have hgood : ∀ t ∈ l, okF (varsT [t]) m = true := fun t ht => by
    cases hb : okF (varsT [t]) m
    · have := shift_bad (by unfold I64; omega) (hrt t ht) hb
      have h2 := hno t ht
      rw [this] at h2; cases h2
    · rfl
  have hvs : ∀ v ∈ Tm.occL l, 0 ≤ v ∧ v + m < 1000000 ∧ IntKind.i64.wrap (v + m) = v + m := fun v hv => by
    obtain ⟨t, ht, hvt⟩ := Tm.occL_mem hv
    exact (shift_good (hrt t ht) (hgood t ht)).2.2.2 v ((varsT_mem (one_fair (right_fair (hrt t ht)))).2 (by simpa [Tm.occL] using hvt))
  have hups : ups l m = Tm.turnTL (fun n => IntKind.i64.wrap (n + m)) l := by
    rw [Tm.turnTL_map]
    exact List.map_congr_left fun t ht => by rw [(shift_good (hrt t ht) (hgood t ht)).1]
  have hNu : numberT (ups l m) = (X, n, e) := by
    rw [hups, ← hN]
    refine number_turn hrt (fun v hv => ?_) fun x hx y hy he => ?_
    · obtain ⟨h1, h2, h3⟩ := hvs v hv
      simp only [h3]; omega
    · simp only [(hvs x hx).2.2, (hvs y hy).2.2] at he; omega
  rw [hNu]
  refine R_run hg.ok 1000 rfl rfl ?_
  refine R_call hg.ok hsame rfl rfl rfl rfl rfl rfl ?_
  refine R_run hg.ok 1000 rfl rfl ?_
  refine R_if rfl rfl (fun _ => ?_) (fun h => absurd h (by decide)) <;> refine R_run hg.ok 1000 rfl rfl ?_
  refine R_if rfl rfl (fun _ => ?_) (fun h => absurd h (by simp)) <;> refine R_run hg.ok 1000 rfl rfl ?_
  refine R_if rfl rfl (fun _ => ?_) (fun h => absurd h (by rw [he]; simp)) <;> refine R_run hg.ok 1000 rfl rfl ?_
  refine R_call hg.ok knows1_ok rfl rfl rfl rfl rfl rfl ?_
  refine R_run hg.ok 1000 rfl rfl ?_
  refine R_ret hg 5 rfl rfl ?_
  rfl
end Go.Proofs.Ytoeoeojhelomdaa
