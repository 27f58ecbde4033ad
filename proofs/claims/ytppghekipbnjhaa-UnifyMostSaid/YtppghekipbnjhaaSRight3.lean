import Derived.Test.YtppghekipbnjhaaSSubst3
import Derived.Test.YtppghekipbnjhaaSRefV
import Derived.Test.YtppghekipbnjhaaPlWarsh
namespace Go.Proofs.Ytppghekipbnjhaa
open Go PSL Go.Proofs

/-- Is a place among those? -/
def hasP (B : Binds) (L : List Int) (j : Nat) : Bool := L.any fun v => decide (placeB B v = j)

theorem hasP_take {B : Binds} {L : List Int} {k : Nat} {v : Int} (h : L[k]? = some v) (j : Nat) : hasP B (L.take (k + 1)) j = (hasP B (L.take k) j || decide (placeB B v = j)) := by
  rw [List.take_add_one, h]; simp [hasP]

theorem hasP_edge {B : Binds} {i : Nat} {b : Int × Tm} (hb : B[i]? = some b) (hf : b.2.fairR = true) (j : Nat) : hasP B (Tm.withVL [] [b.2]) j = edge (adjB B) i j := by
  rw [Bool.eq_iff_iff]
  have hm : ∀ v, v ∈ Tm.withVL [] [b.2] ↔ v ∈ varsT [b.2] := fun v => by
    rw [Tm.withVL_occ, Tm.mem_foldl, varsT_once (one_fair hf)]
    simp [Tm.mem_once]
  simp only [hasP, List.any_eq_true, decide_eq_true_eq, edge, List.contains_iff_mem, adjB, hb, List.mem_filterMap]
  constructor
  · rintro ⟨v, h1, h2⟩
    exact ⟨v, (hm v).1 h1, by rw [if_neg (by omega), h2]; rfl⟩
  · rintro ⟨v, h1, h2⟩
    split at h2
    · cases h2
    · simp only [Option.some.injEq] at h2
      exact ⟨v, (hm v).2 h1, by omega⟩

theorem place_lt {B : Binds} {v : Int} (h : 0 ≤ placeB B v) : (placeB B v).toNat < B.length := by
  rcases placeB_find B v with ⟨h3, _⟩ | ⟨j, t, h3, h4, _⟩
  · omega
  · rw [h3]; have := (List.getElem?_eq_some_iff.1 h4).1; simpa using this

theorem okAt_get {B : Binds} {i : Nat} {b : Int × Tm} (hb : B[i]? = some b) : okAt B i = (decide (0 ≤ b.1) && decide (b.1 < 1000000) && decide (placeB B b.1 = i) && b.2.rightB) := by rw [okAt, hb]

theorem warsh_upd {C c : Nat → Nat → Bool} {k n i j : Nat} (hc : ∀ a < n, ∀ b < n, c a b = if a < i ∨ (a = i ∧ b < j) then warsh C (k + 1) a b else warsh C k a b) (v1 : c i j = warsh C k i j) (v2 : c i k = warsh C k i k) (v3 : c k j = warsh C k k j) (b : Bool) (hb : b = (c i j || (c i k && c k j))) :
    ∀ a < n, ∀ d < n, upd2 c i j b a d = if a < i ∨ (a = i ∧ d < j + 1) then warsh C (k + 1) a d else warsh C k a d := fun a ha d hd => by
  unfold upd2
  by_cases ea : a = i
  · rw [if_pos ea]
    unfold upd1
    by_cases ed : d = j
    · rw [if_pos ed, if_pos (by omega), ea, ed, hb, v1, v2, v3]; rfl
    · rw [if_neg ed, hc a ha d hd]
      by_cases hdj : d < j
      · rw [if_pos (by omega), if_pos (by omega)]
      · rw [if_neg (by omega), if_neg (by omega)]
  · rw [if_neg ea, hc a ha d hd]
    by_cases hai : a < i
    · rw [if_pos (by omega), if_pos (by omega)]
    · rw [if_neg (by omega), if_neg (by omega)]

def pfRight : Nat → Cls := fun f => bif Nat.beq f 4000100110 then .turn 100 else bif Nat.beq f 4000100118 then .turn 100 else bif Nat.beq f 4000100126 then .turn 100 else bif Nat.beq f 4000100141 then .turn 100 else .still

set_option maxRecDepth 100000 in
theorem refRight3_ok (B : Binds) (hB : Small B) : PCtr Try.prog 38 [.d (.sl (bindRows B))] (bV (rightR B)) := by
  have hl := hB.len
  refine PCtr.of_R (pf := pfRight) tyOk mixed Try.func38 rfl (by kernel_rfl) (by kernel_rfl) (by simp [Try.ntmps38]) fun w S hg => ?_
  refine R_run hg.ok 1000 rfl rfl ?_
  have bad : ∀ i, i < B.length → okAt B i = false → AV.d (.v (.bool false)) = bV (rightR B) := fun i hi h => by
    have : (List.range B.length).all (okAt B) = false := by
      rw [List.all_eq_false]; exact ⟨i, by simpa using hi, by rw [h]; simp⟩
    unfold rightR; rw [this]; rfl
  refine R_own 4 1 rfl rfl ?_
  refine R_matNew rfl ?_
  refine R_cut2 (fun hds : List (Nat × Nat × Nat) => ([(0, .d (.sl (bindRows B))), (3, iV B.length), (4, .ow 0 B.length)], [.arr 1 B.length (hdN hds B.length), .mat hds (tabD B.length B.length (edge (adjB B)))])) (fun hds => hds.length = B.length ∧ (List.range B.length).all (okAt B) = true) rfl ?_ ?_
  · refine R_loop (fun x : Nat × List (Nat × Nat × Nat) => ([(0, .d (.sl (bindRows B))), (3, iV B.length), (4, .ow 0 x.1), (5, iV x.1)], [.arr 1 x.1 (hdN x.2 B.length), .mat x.2 (tabD B.length x.1 (edge (adjB B)))])) (fun x => x.1 ≤ B.length ∧ x.2.length = x.1 ∧ ∀ i < x.1, okAt B i = true) (fun x => B.length - x.1) (0, []) ⟨Nat.zero_le _, rfl, fun _ h => absurd h (Nat.not_lt_zero _)⟩ ⟨.refl _, Ent.int (by rw [bindRows_len]), .refl _, .refl _, trivial⟩ rfl ?_
    rintro ⟨i, hds⟩ ⟨hi, hh, hm⟩
    simp only at hi hh hm
    refine R_run hg.ok 1000 rfl rfl ?_
    refine R_if rfl rfl (fun h => ?_) (fun h => ?_) <;> refine R_run hg.ok 1000 rfl rfl ?_
    · have hk1 : i < B.length := lt_dec h rfl
      have e1 : B[i]? = some B[i] := List.getElem?_eq_getElem hk1
      have hok := okAt_get e1
      refine R_index hg.ok rfl rfl rfl rfl rfl rfl (Int.natCast_nonneg _) (bindRows_get e1) rfl ?_
      refine R_run hg.ok 1000 rfl rfl ?_
      refine R_if rfl rfl (fun h1 => ?_) (fun h1 => ?_) <;> refine R_run hg.ok 1000 rfl rfl ?_
      · refine R_ret hg 5 rfl rfl ?_
        exact bad i hk1 (by rw [hok, decide_eq_false (by have := of_decide_eq_true h1; omega : ¬ 0 ≤ B[i].1)]; simp)
      have h1 := of_decide_eq_false h1
      refine R_index hg.ok rfl rfl rfl rfl rfl rfl (Int.natCast_nonneg _) (bindRows_get e1) rfl ?_
      refine R_run hg.ok 1000 rfl rfl ?_
      refine R_if rfl rfl (fun h2 => ?_) (fun h2 => ?_) <;> refine R_run hg.ok 1000 rfl rfl ?_
      · refine R_ret hg 5 rfl rfl ?_
        exact bad i hk1 (by rw [hok, decide_eq_false (by have := of_decide_eq_true h2; omega : ¬ B[i].1 < 1000000)]; simp)
      have h2 := of_decide_eq_false h2
      refine R_index hg.ok rfl rfl rfl rfl rfl rfl (Int.natCast_nonneg _) (bindRows_get e1) rfl ?_
      refine R_run hg.ok 1000 rfl rfl ?_
      refine R_call hg.ok (place_ok B B[i].1 (by omega)) rfl rfl rfl rfl rfl rfl ?_
      refine R_run hg.ok 1000 rfl rfl ?_
      refine R_if rfl rfl (fun h3 => ?_) (fun h3 => ?_) <;> refine R_run hg.ok 1000 rfl rfl ?_
      · refine R_ret hg 5 rfl rfl ?_
        exact bad i hk1 (by rw [hok, decide_eq_false (by simpa using h3 : ¬ placeB B B[i].1 = i)]; simp)
      have h3 : placeB B B[i].1 = i := by simpa using h3
      refine R_index hg.ok rfl rfl rfl rfl rfl rfl (Int.natCast_nonneg _) (bindRows_get e1) rfl ?_
      refine R_run hg.ok 1000 rfl rfl ?_
      refine R_call hg.ok (refRight_ok B[i].2 (by have := hB.size _ (List.getElem_mem hk1); omega) (hB.name _ (List.getElem_mem hk1))) rfl rfl rfl rfl rfl rfl ?_
      refine R_run hg.ok 1000 rfl rfl ?_
      refine R_if rfl rfl (fun h4 => ?_) (fun h4 => ?_) <;> refine R_run hg.ok 1000 rfl rfl ?_
      · refine R_ret hg 5 rfl rfl ?_
        exact bad i hk1 (by rw [hok, show B[i].2.rightB = false by simpa using h4]; simp)
      have h4 : B[i].2.rightB = true := by simpa using h4
      have hf := right_fair h4
      have hoki : okAt B i = true := by rw [hok, h3, h4, decide_eq_true (by omega : 0 ≤ B[i].1), decide_eq_true (by omega : B[i].1 < 1000000)]; simp
      refine R_makeSlice hg.ok ((rowD B.length fun _ => false).map fun d => [d]) rfl rfl rfl rfl rfl rfl (Int.natCast_nonneg _) (by omega) (by omega) (rowD_false B.length) ?_
      refine R_run hg.ok 1000 rfl rfl ?_
      refine R_index hg.ok rfl rfl rfl rfl rfl rfl (Int.natCast_nonneg _) (bindRows_get e1) rfl ?_
      refine R_run hg.ok 1000 rfl rfl ?_
      have hsz := hB.size _ (List.getElem_mem hk1)
      have hvt := (refVars_ok [B[i].2] (by simp [Tm.sizeL]; omega)).one
      have hwl := Tm.withVL_len [B[i].2] []
      have hed := hasP_edge e1 hf
      simp only [Tm.sizeL, List.length_nil] at hwl
      generalize Tm.withVL [] [B[i].2] = W at hvt hwl hed
      refine R_call hg.ok (hvt) rfl rfl rfl rfl rfl rfl ?_
      refine R_run hg.ok 1000 rfl rfl ?_
      refine R_cut2 (fun _ : Unit => ([(0, .d (.sl (bindRows B))), (3, iV B.length), (4, .ow 0 i), (5, iV i), (6, .ow 2 0)], [.arr 1 i (hdN hds B.length), .mat hds (tabD B.length i (edge (adjB B))), .arr 1 0 ((rowD B.length (edge (adjB B) i)).map fun d => [d])])) (fun _ => True) rfl ?_ ?_
      · refine R_loop (fun x : Nat × (Nat → Bool) => ([(0, .d (.sl (bindRows B))), (3, iV B.length), (4, .ow 0 i), (5, iV i), (6, .ow 2 0), (7, .d (.sl (irows W))), (8, iV x.1)], [.arr 1 i (hdN hds B.length), .mat hds (tabD B.length i (edge (adjB B))), .arr 1 0 ((rowD B.length x.2).map fun d => [d])])) (fun x => x.1 ≤ W.length ∧ ∀ j, x.2 j = hasP B (W.take x.1) j) (fun x => W.length - x.1) (0, fun _ => false) ⟨Nat.zero_le _, fun _ => rfl⟩ ⟨.refl _, .refl _, .refl _, .refl _, .refl _, .refl _, .refl _, trivial⟩ rfl ?_
        rintro ⟨k, r⟩ ⟨hk, hr⟩
        simp only at hk hr
        refine R_run hg.ok 1000 rfl rfl ?_
        refine R_if rfl rfl (fun h => ?_) (fun h => ?_) <;> refine R_run hg.ok 1000 rfl rfl ?_
        · have hk2 : k < W.length := lt_dec h (by rw [irows_length])
          have e2 : W[k]? = some W[k] := List.getElem?_eq_getElem hk2
          refine R_index hg.ok rfl rfl rfl rfl rfl rfl (Int.natCast_nonneg _) (irows_get e2) rfl ?_
          refine R_run hg.ok 1000 rfl rfl ?_
          refine R_call hg.ok (place_ok B W[k] (by omega)) rfl rfl rfl rfl rfl rfl ?_
          refine R_run hg.ok 1000 rfl rfl ?_
          refine R_if rfl rfl (fun h5 => ?_) (fun h5 => ?_) <;> refine R_run hg.ok 1000 rfl rfl ?_
          · have h5 := of_decide_eq_true h5
            have hpl := place_lt h5
            refine R_indexO hg.ok rfl rfl rfl rfl rfl rfl rfl rfl rfl h5 (by rw [List.length_map, rowD_len]; exact hpl) ?_
            refine R_run hg.ok 1000 rfl rfl ?_
            refine R_storeE hg.ok rfl rfl rfl rfl rfl (row := [.v (.bool (r (placeB B W[k]).toNat))]) (by rw [List.getElem?_map, rowD_get hpl]; rfl) rfl rfl rfl (by decide) ?_
            refine R_run hg.ok 1000 rfl rfl ?_
            refine R_next (k + 1, upd1 r (placeB B W[k]).toNat true) ⟨hk2, fun j => ?_⟩ (by simp only; omega) ⟨.refl _, .refl _, .refl _, .refl _, .refl _, .refl _, Ent.wrap (by simp only; omega) (by simp only; omega) (by simp only; omega), trivial⟩ ?_
            · rw [hasP_take e2, ← hr j]
              simp only [upd1]
              split
              · rename_i e; rw [decide_eq_true (by omega)]; simp
              · rename_i e; rw [decide_eq_false (by omega)]; simp
            · show [Ob.arr 1 i (hdN hds B.length), .mat hds (tabD B.length i (edge (adjB B))), .arr 1 0 (((rowD B.length r).map fun d => [d]).set (placeB B W[k]).toNat [.v (.bool true)])] = _
              rw [rowD_setM]
          · have h5 := of_decide_eq_false h5
            refine R_next (k + 1, r) ⟨hk2, fun j => ?_⟩ (by simp only; omega) ⟨.refl _, .refl _, .refl _, .refl _, .refl _, .refl _, Ent.wrap (by simp only; omega) (by simp only; omega) (by simp only; omega), trivial⟩ rfl
            rw [hasP_take e2, ← hr j, decide_eq_false (by omega)]; simp
        · have hk2 : W.length ≤ k := ge_dec h (by rw [irows_length])
          refine R_to () trivial ⟨.refl _, .refl _, .refl _, .refl _, .refl _, trivial⟩ ?_
          rw [rowD_congr (r' := edge (adjB B) i) fun j _ => by show r j = _; rw [hr j, List.take_of_length_le hk2, hed j]]
      rintro _ _
      refine R_adopt 6 2 1 0 B.length (rowD B.length (edge (adjB B) i)) rfl rfl rfl (fun h => by have := congrArg List.length h; rw [List.length_map, rowD_len, List.length_nil] at this; omega) rfl (rowD_len _ _) rfl fun x => ?_
      refine R_run hg.ok 1000 rfl rfl ?_
      refine R_appendO hg.ok (hdN (hds ++ [x]) B.length) rfl rfl rfl rfl rfl rfl rfl rfl rfl (by simp) (by simp [one1, hdV]) (hdN_snoc hds B.length x) (by rw [hdN_len]; simp; omega) (by rw [hdN_len]; simp; omega) ?_
      refine R_run hg.ok 1000 rfl rfl ?_
      refine R_dropO 2 [.arr 1 (i + 1) (hdN (hds ++ [x]) B.length), .mat (hds ++ [x]) (tabD B.length (i + 1) (edge (adjB B)))] (Nat.zero_le _) rfl (by rw [← tabD_snoc]; rfl) ?_
      exact R_next (i + 1, hds ++ [x]) ⟨hk1, by simp [hh], fun j hj => by
        by_cases e : j = i
        · rw [e]; exact hoki
        · exact hm j (by omega)⟩ (by simp only; omega) ⟨.refl _, .refl _, .refl _, Ent.wrap (by simp only; omega) (by simp only; omega) (by simp only; omega), trivial⟩ rfl
    · have hk1 : B.length ≤ i := ge_dec h rfl
      have e : i = B.length := by omega
      subst e
      exact R_to hds ⟨hh, List.all_eq_true.2 fun i hi => hm i (by simpa using hi)⟩ ⟨.refl _, .refl _, .refl _, trivial⟩ rfl
  rintro hds ⟨hh, hall⟩
  have hrr : rightR B = ((List.range B.length).all fun i => !warsh (edge (adjB B)) B.length i i) := by unfold rightR; rw [hall]; simp
  generalize edge (adjB B) = C at hrr
  generalize B.length = n at *
  have hy : ∀ i, i < n → ∃ y, hds[i]? = some y := fun i hi => ⟨_, List.getElem?_eq_getElem (by omega)⟩
  refine R_run hg.ok 1000 rfl rfl ?_
  refine R_loop (fun x : Nat × (Nat → Nat → Bool) => ([(3, iV n), (4, .ow 0 n), (10, iV x.1)], [.arr 1 n (hdN hds n), .mat hds (tabD n n x.2)])) (fun x => x.1 ≤ n ∧ ∀ i < n, ∀ j < n, x.2 i j = warsh C x.1 i j) (fun x => n - x.1) (0, C) ⟨Nat.zero_le _, fun _ _ _ _ => rfl⟩ ⟨.refl _, .refl _, .refl _, trivial⟩ rfl ?_
  rintro ⟨k, c⟩ ⟨hk, hc⟩
  simp only at hk hc
  refine R_run hg.ok 1000 rfl rfl ?_
  refine R_if rfl rfl (fun h => ?_) (fun h => ?_) <;> refine R_run hg.ok 1000 rfl rfl ?_
  · have hk1 : k < n := lt_dec h rfl
    obtain ⟨yk, hyk⟩ := hy k hk1
    refine R_loop (fun x : Nat × (Nat → Nat → Bool) => ([(3, iV n), (4, .ow 0 n), (10, iV k), (11, iV x.1)], [.arr 1 n (hdN hds n), .mat hds (tabD n n x.2)])) (fun x => x.1 ≤ n ∧ ∀ i < n, ∀ j < n, x.2 i j = if i < x.1 then warsh C (k + 1) i j else warsh C k i j) (fun x => n - x.1) (0, c) ⟨Nat.zero_le _, fun i hi j hj => by rw [if_neg (Nat.not_lt_zero _)]; exact hc i hi j hj⟩ ⟨.refl _, .refl _, .refl _, .refl _, trivial⟩ rfl ?_
    rintro ⟨i, c1⟩ ⟨hi, hc1⟩
    simp only at hi hc1
    refine R_run hg.ok 1000 rfl rfl ?_
    refine R_if rfl rfl (fun h => ?_) (fun h => ?_) <;> refine R_run hg.ok 1000 rfl rfl ?_
    · have hi1 : i < n := lt_dec h rfl
      obtain ⟨yi, hyi⟩ := hy i hi1
      refine R_loop (fun x : Nat × (Nat → Nat → Bool) => ([(3, iV n), (4, .ow 0 n), (10, iV k), (11, iV i), (12, iV x.1)], [.arr 1 n (hdN hds n), .mat hds (tabD n n x.2)])) (fun x => x.1 ≤ n ∧ ∀ a < n, ∀ b < n, x.2 a b = if a < i ∨ (a = i ∧ b < x.1) then warsh C (k + 1) a b else warsh C k a b) (fun x => n - x.1) (0, c1) ⟨Nat.zero_le _, fun a ha b hb => by show c1 a b = _; rw [hc1 a ha b hb]; simp⟩ ⟨.refl _, .refl _, .refl _, .refl _, .refl _, trivial⟩ rfl ?_
      rintro ⟨j, c2⟩ ⟨hj, hc2⟩
      simp only at hj hc2
      refine R_run hg.ok 1000 rfl rfl ?_
      refine R_if rfl rfl (fun h => ?_) (fun h => ?_) <;> refine R_run hg.ok 1000 rfl rfl ?_
      · have hj1 : j < n := lt_dec h rfl
        have v1 : c2 i j = warsh C k i j := by rw [hc2 i hi1 j hj1, if_neg (by omega)]
        have v2 : c2 i k = warsh C k i k := by rw [hc2 i hi1 k hk1]; split <;> simp [warsh_col]
        have v3 : c2 k j = warsh C k k j := by rw [hc2 k hk1 j hj1]; split <;> simp [warsh_row]
        have fin := warsh_upd (C := C) (k := k) (n := n) hc2 (i := i) (j := j) v1 v2 v3
        -- the row that is stored into
        refine R_indexO hg.ok rfl rfl rfl rfl rfl rfl rfl rfl rfl (Int.natCast_nonneg i) (by rw [hdN_len]; simp; omega) ?_
        refine R_run hg.ok 1000 rfl rfl ?_
        refine R_loadE hg.ok rfl rfl rfl rfl rfl rfl (hdN_get hyi) rfl ?_
        refine R_run hg.ok 1000 rfl rfl ?_
        refine R_indexO hg.ok rfl rfl rfl rfl rfl rfl rfl rfl rfl (Int.natCast_nonneg i) (by rw [hdN_len]; simp; omega) ?_
        refine R_run hg.ok 1000 rfl rfl ?_
        refine R_loadE hg.ok rfl rfl rfl rfl rfl rfl (hdN_get hyi) rfl ?_
        refine R_run hg.ok 1000 rfl rfl ?_
        refine R_indexM hg.ok (y := yi) (len := n) rfl rfl rfl rfl rfl rfl rfl (Int.natCast_nonneg j) (by simpa using hj1) ?_
        refine R_run hg.ok 1000 rfl rfl ?_
        refine R_loadM hg.ok 1 i (.v (.bool (c2 i j))) rfl rfl rfl rfl rfl rfl rfl rfl hyi (tabD_get hi1) (rowD_get hj1) ?_
        refine R_run hg.ok 1000 rfl rfl ?_
        refine R_if rfl rfl (fun g1 => ?_) (fun g1 => ?_) <;> refine R_run hg.ok 1000 rfl rfl ?_
        · -- it comes there already
          refine R_indexM hg.ok (y := yi) (len := n) rfl rfl rfl rfl rfl rfl rfl (Int.natCast_nonneg j) (by simpa using hj1) ?_
          refine R_run hg.ok 1000 rfl rfl ?_
          refine R_storeM hg.ok 1 i (.v (.bool true)) rfl rfl rfl rfl rfl rfl hyi (tabD_get hi1) (by rw [rowD_len]; exact hj1) rfl rfl ?_
          refine R_run hg.ok 1000 rfl rfl ?_
          exact R_next (j + 1, upd2 c2 i j true) ⟨hj1, fin true (by rw [g1]; simp)⟩ (by simp only; omega) ⟨.refl _, .refl _, .refl _, .refl _, Ent.wrap (by simp only; omega) (by simp only; omega) (by simp only; omega), trivial⟩ (by rw [← tabD_set]; rfl)
        refine R_indexO hg.ok rfl rfl rfl rfl rfl rfl rfl rfl rfl (Int.natCast_nonneg i) (by rw [hdN_len]; simp; omega) ?_
        refine R_run hg.ok 1000 rfl rfl ?_
        refine R_loadE hg.ok rfl rfl rfl rfl rfl rfl (hdN_get hyi) rfl ?_
        refine R_run hg.ok 1000 rfl rfl ?_
        refine R_indexM hg.ok (y := yi) (len := n) rfl rfl rfl rfl rfl rfl rfl (Int.natCast_nonneg k) (by simpa using hk1) ?_
        refine R_run hg.ok 1000 rfl rfl ?_
        refine R_loadM hg.ok 1 i (.v (.bool (c2 i k))) rfl rfl rfl rfl rfl rfl rfl rfl hyi (tabD_get hi1) (rowD_get hk1) ?_
        refine R_run hg.ok 1000 rfl rfl ?_
        refine R_if rfl rfl (fun g2 => ?_) (fun g2 => ?_) <;> refine R_run hg.ok 1000 rfl rfl ?_
        · refine R_indexO hg.ok rfl rfl rfl rfl rfl rfl rfl rfl rfl (Int.natCast_nonneg k) (by rw [hdN_len]; simp; omega) ?_
          refine R_run hg.ok 1000 rfl rfl ?_
          refine R_loadE hg.ok rfl rfl rfl rfl rfl rfl (hdN_get hyk) rfl ?_
          refine R_run hg.ok 1000 rfl rfl ?_
          refine R_indexM hg.ok (y := yk) (len := n) rfl rfl rfl rfl rfl rfl rfl (Int.natCast_nonneg j) (by simpa using hj1) ?_
          refine R_run hg.ok 1000 rfl rfl ?_
          refine R_loadM hg.ok 1 k (.v (.bool (c2 k j))) rfl rfl rfl rfl rfl rfl rfl rfl hyk (tabD_get hk1) (rowD_get hj1) ?_
          refine R_run hg.ok 1000 rfl rfl ?_
          refine R_indexM hg.ok (y := yi) (len := n) rfl rfl rfl rfl rfl rfl rfl (Int.natCast_nonneg j) (by simpa using hj1) ?_
          refine R_run hg.ok 1000 rfl rfl ?_
          refine R_storeM hg.ok 1 i (.v (.bool (c2 k j))) rfl rfl rfl rfl rfl rfl hyi (tabD_get hi1) (by rw [rowD_len]; exact hj1) rfl rfl ?_
          refine R_run hg.ok 1000 rfl rfl ?_
          exact R_next (j + 1, upd2 c2 i j (c2 k j)) ⟨hj1, fin (c2 k j) (by rw [g1, g2]; simp)⟩ (by simp only; omega) ⟨.refl _, .refl _, .refl _, .refl _, Ent.wrap (by simp only; omega) (by simp only; omega) (by simp only; omega), trivial⟩ (by rw [← tabD_set]; rfl)
        refine R_indexM hg.ok (y := yi) (len := n) rfl rfl rfl rfl rfl rfl rfl (Int.natCast_nonneg j) (by simpa using hj1) ?_
        refine R_run hg.ok 1000 rfl rfl ?_
        refine R_storeM hg.ok 1 i (.v (.bool false)) rfl rfl rfl rfl rfl rfl hyi (tabD_get hi1) (by rw [rowD_len]; exact hj1) rfl rfl ?_
        refine R_run hg.ok 1000 rfl rfl ?_
        exact R_next (j + 1, upd2 c2 i j false) ⟨hj1, fin false (by rw [g1, g2]; simp)⟩ (by simp only; omega) ⟨.refl _, .refl _, .refl _, .refl _, Ent.wrap (by simp only; omega) (by simp only; omega) (by simp only; omega), trivial⟩ (by rw [← tabD_set]; rfl)
      · have hj1 : n ≤ j := ge_dec h rfl
        refine R_next (i + 1, c2) ⟨hi1, fun a ha b hb => ?_⟩ (by simp only; omega) ⟨.refl _, .refl _, .refl _, Ent.wrap (by simp only; omega) (by simp only; omega) (by simp only; omega), trivial⟩ rfl
        show c2 a b = _
        rw [hc2 a ha b hb]
        by_cases e : a < i + 1
        · rw [if_pos e, if_pos (by omega)]
        · rw [if_neg e, if_neg (by omega)]
    · have hi1 : n ≤ i := ge_dec h rfl
      refine R_next (k + 1, c1) ⟨hk1, fun a ha b hb => ?_⟩ (by simp only; omega) ⟨.refl _, .refl _, Ent.wrap (by simp only; omega) (by simp only; omega) (by simp only; omega), trivial⟩ rfl
      show c1 a b = _
      rw [hc1 a ha b hb, if_pos (by omega)]
  · have hk1 : n ≤ k := ge_dec h rfl
    have e : k = n := by omega
    subst e
    refine R_loop (fun i : Nat => ([(3, iV k), (4, .ow 0 k), (13, iV i)], [.arr 1 k (hdN hds k), .mat hds (tabD k k c)])) (fun i => i ≤ k ∧ ∀ a < i, warsh C k a a = false) (fun i => k - i) 0 ⟨Nat.zero_le _, fun _ h => absurd h (Nat.not_lt_zero _)⟩ ⟨.refl _, .refl _, .refl _, trivial⟩ rfl ?_
    rintro i ⟨hi, hd⟩
    refine R_run hg.ok 1000 rfl rfl ?_
    refine R_if rfl rfl (fun h => ?_) (fun h => ?_) <;> refine R_run hg.ok 1000 rfl rfl ?_
    · have hi1 : i < k := lt_dec h rfl
      obtain ⟨yi, hyi⟩ := hy i hi1
      have hcc := hc i hi1 i hi1
      refine R_indexO hg.ok rfl rfl rfl rfl rfl rfl rfl rfl rfl (Int.natCast_nonneg i) (by rw [hdN_len]; simp; omega) ?_
      refine R_run hg.ok 1000 rfl rfl ?_
      refine R_loadE hg.ok rfl rfl rfl rfl rfl rfl (hdN_get hyi) rfl ?_
      refine R_run hg.ok 1000 rfl rfl ?_
      refine R_indexM hg.ok (y := yi) (len := k) rfl rfl rfl rfl rfl rfl rfl (Int.natCast_nonneg i) (by simpa using hi1) ?_
      refine R_run hg.ok 1000 rfl rfl ?_
      refine R_loadM hg.ok 1 i (.v (.bool (c i i))) rfl rfl rfl rfl rfl rfl rfl rfl hyi (tabD_get hi1) (rowD_get hi1) ?_
      refine R_run hg.ok 1000 rfl rfl ?_
      refine R_if rfl rfl (fun g1 => ?_) (fun g1 => ?_) <;> refine R_run hg.ok 1000 rfl rfl ?_
      · refine R_ret hg 5 rfl rfl ?_
        rw [hrr, List.all_eq_false.2 ⟨i, by simpa using hi1, by rw [← hcc, g1]; simp⟩]; rfl
      · exact R_next (i + 1) ⟨hi1, fun a ha => by
          by_cases e : a = i
          · rw [e, ← hcc, g1]
          · exact hd a (by omega)⟩ (by omega) ⟨.refl _, .refl _, Ent.wrap (by omega) (by omega) (by omega), trivial⟩ rfl
    · have hi1 : k ≤ i := ge_dec h rfl
      refine R_ret hg 5 rfl rfl ?_
      rw [hrr, List.all_eq_true.2 fun a ha => by rw [hd a (Nat.lt_of_lt_of_le (by simpa using ha) hi1)]; rfl]; rfl
end Go.Proofs.Ytppghekipbnjhaa
