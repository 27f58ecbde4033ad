import Derived.Test.YtcafgconfcajbaaPlRen
namespace PSL
open Go

theorem fair_names {t : Tm} (h : t.fairR = true) : ∀ d e, e ∈ t.els d → e.2.s.size < 1000000000 := fun d e he => by
  have h1 := (Tm.fair_els t d).2 h e he
  rw [Tm.ownT_eq] at h1
  simp only [Bool.and_eq_true, Tm.kindR] at h1
  have h2 := h1.2
  split at h2
  · simp only [Bool.and_eq_true, Tm.strEq_iff] at h2
    rw [h2.1.2]; decide
  · split at h2
    · simp only [Bool.and_eq_true, Tm.strEq_iff] at h2
      rw [h2.1]; decide
    · simp only [Bool.and_eq_true, decide_eq_true_eq] at h2
      have := h2.1.2; omega

theorem right_small {t : Tm} (h : t.rightB = true) : t.size < 1000000000 := by have := (Tm.rightB_iff.1 h).2.1; omega
theorem right_fair {t : Tm} (h : t.rightB = true) : t.fairR = true := (Tm.rightB_iff.1 h).1

def zeroT : Tm := .mk 0 ByteArray.empty 0 []
def bigV (by_ : Int) (n : Int) : Bool := decide (by_ ≥ IntKind.i64.wrap (1000000 - n))
def shiftT (t : Tm) (by_ : Int) : Tm × Int :=
  if rightT t then (if by_ < 0 then (zeroT, 3) else if (varsT [t]).any (bigV by_) then (zeroT, 3) else (Tm.turnT (fun n => IntKind.i64.wrap (n + by_)) t, 0)) else (zeroT, 1)
def numberT (l : List Tm) : List Tm × Int × Int :=
  if l.all rightT then (Tm.turnTL (placeG (varsT l)) l, (varsT l).length, 0) else ([], 0, 1)

def smallV (by_ : Int) (v : Int) : Bool := decide (IntKind.i64.wrap (v + by_) < 1000000)
def okF (V : List Int) (by_ : Int) : Bool := (decide (by_ ≥ 0) && decide (by_ ≤ 1000000) && V.all (smallV by_)) || (decide (by_ > 1000000) && V.isEmpty)

theorem one_fair {t : Tm} (h : t.fairR = true) : Tm.fairRL [t] = true := by simp [Tm.fairRL, h]

theorem varsT_mem {l : List Tm} (h : Tm.fairRL l = true) {v : Int} : v ∈ varsT l ↔ v ∈ Tm.occL l := by rw [varsT_once h, Tm.mem_once]
theorem varsT_range {l : List Tm} (h : Tm.fairRL l = true) {v : Int} (hv : v ∈ varsT l) : 0 ≤ v ∧ v < 1000000 := Tm.occL_range l h v ((varsT_mem h).1 hv)

theorem shift_bad {t : Tm} {by_ : Int} (hb : I64 by_) (h : t.rightB = true) (ho : okF (varsT [t]) by_ = false) : shiftT t by_ = (zeroT, 3) := by
  have hr : rightT t = true := by rw [rightT_eq]; exact h
  have hf := one_fair (right_fair h)
  unfold shiftT
  rw [if_pos hr]
  split
  · rfl
  · rename_i h0
    have : (varsT [t]).any (bigV by_) = true := by
      simp only [okF, Bool.or_eq_false_iff, Bool.and_eq_false_iff, decide_eq_false_iff_not, List.all_eq_false, List.isEmpty_eq_false_iff] at ho
      rw [List.any_eq_true]
      obtain ⟨h1, h2⟩ := ho
      rcases h1 with (h1 | h1) | ⟨v, hv, h1⟩
      · omega
      · rcases h2 with h2 | h2
        · omega
        · obtain ⟨v, hv⟩ := List.exists_mem_of_ne_nil _ h2
          have := varsT_range hf hv
          refine ⟨v, hv, ?_⟩
          simp only [bigV, decide_eq_true_eq]
          rw [w64 (by omega) (by omega)]; omega
      · have := varsT_range hf hv
        refine ⟨v, hv, ?_⟩
        simp only [bigV, decide_eq_true_eq]
        rw [w64 (by omega) (by omega)]
        simp only [smallV, decide_eq_true_eq] at h1
        by_cases h5 : by_ < 1000000
        · rw [w64 (by omega) (by omega)] at h1; omega
        · omega
    rw [if_pos this]

theorem shift_good {t : Tm} {by_ : Int} (h : t.rightB = true) (ho : okF (varsT [t]) by_ = true) : shiftT t by_ = (Tm.turnT (fun n => IntKind.i64.wrap (n + by_)) t, 0) ∧ 0 ≤ by_ ∧ (varsT [t] ≠ [] → by_ ≤ 1000000) ∧ ∀ v ∈ varsT [t], 0 ≤ v ∧ v + by_ < 1000000 ∧ IntKind.i64.wrap (v + by_) = v + by_ := by
  have hr : rightT t = true := by rw [rightT_eq]; exact h
  have hf := one_fair (right_fair h)
  have key : 0 ≤ by_ ∧ (varsT [t] ≠ [] → by_ ≤ 1000000) ∧ ∀ v ∈ varsT [t], 0 ≤ v ∧ v + by_ < 1000000 ∧ IntKind.i64.wrap (v + by_) = v + by_ := by
    simp only [okF, Bool.or_eq_true, Bool.and_eq_true, decide_eq_true_eq, List.all_eq_true, List.isEmpty_iff] at ho
    rcases ho with ⟨⟨h1, h2⟩, h3⟩ | ⟨h1, h2⟩
    · refine ⟨h1, fun _ => h2, fun v hv => ?_⟩
      have h4 := varsT_range hf hv
      have h5 := h3 v hv
      simp only [smallV, decide_eq_true_eq] at h5
      have hw : IntKind.i64.wrap (v + by_) = v + by_ := w64 (by omega) (by omega)
      rw [hw] at h5
      exact ⟨h4.1, h5, hw⟩
    · exact ⟨by omega, fun h => absurd h2 h, fun v hv => by rw [h2] at hv; simp at hv⟩
  refine ⟨?_, key⟩
  unfold shiftT
  rw [if_pos hr, if_neg (by omega)]
  have : ¬ (varsT [t]).any (bigV by_) = true := by
    rw [List.any_eq_true]
    rintro ⟨v, hv, hb⟩
    obtain ⟨h1, h2, _⟩ := key.2.2 v hv
    simp only [bigV, decide_eq_true_eq] at hb
    rw [w64 (by omega) (by omega)] at hb
    omega
  rw [if_neg this]

theorem shift_none {t : Tm} {by_ : Int} (h : t.rightB = false) : shiftT t by_ = (zeroT, 1) := by
  unfold shiftT
  rw [if_neg (by rw [rightT_eq, h]; simp)]

theorem once_nil {l : List Int} (h : Tm.once l = []) : l = [] := by
  cases l with
  | nil => rfl
  | cons x l => have : x ∈ Tm.once (x :: l) := Tm.mem_once.2 (by simp); rw [h] at this; simp at this

/-- Variables of a term with others. -/
theorem varsT_turn {l : List Tm} {g : Int → Int} (h : Tm.fairRL l = true) (hg : ∀ v ∈ Tm.occL l, 0 ≤ g v ∧ g v < 1000000) (hi : ∀ x ∈ Tm.occL l, ∀ y ∈ Tm.occL l, g x = g y → x = y) : varsT (Tm.turnTL g l) = (varsT l).map g := by
  rw [varsT_once (Tm.fairL_turn g l h hg), varsT_once h, Tm.occL_turn, Tm.once_map hi]

theorem shift_twice {t : Tm} {by_ m : Int} (h : t.rightB = true) (ho : okF (varsT [t]) by_ = true) (hm : 0 ≤ m ∧ m ≤ 65535) (hne : varsT [t] ≠ []) :
    shiftT (Tm.turnT (fun n => IntKind.i64.wrap (n + by_)) t) m = shiftT t (IntKind.i64.wrap (by_ + m)) := by
  obtain ⟨_, h0, h1, h2⟩ := shift_good h ho
  have h1 := h1 hne
  have hf := one_fair (right_fair h)
  have hocc : ∀ v ∈ Tm.occL [t], 0 ≤ v ∧ v + by_ < 1000000 ∧ IntKind.i64.wrap (v + by_) = v + by_ := fun v hv => h2 v ((varsT_mem hf).2 hv)
  have hR : (Tm.turnT (fun n => IntKind.i64.wrap (n + by_)) t).rightB = true := Tm.right_turn h fun v hv => by
    obtain ⟨h3, h4, h5⟩ := hocc v (by simpa [Tm.occL] using hv)
    rw [h5]; omega
  have hw : IntKind.i64.wrap (by_ + m) = by_ + m := w64 (by omega) (by omega)
  have hV : varsT [Tm.turnT (fun n => IntKind.i64.wrap (n + by_)) t] = (varsT [t]).map (fun n => IntKind.i64.wrap (n + by_)) := by
    have := varsT_turn (l := [t]) (g := fun n => IntKind.i64.wrap (n + by_)) hf (fun v hv => by
      obtain ⟨h3, h4, h5⟩ := hocc v hv
      simp only [h5]; omega) (fun x hx y hy he => by
      simp only [(hocc x hx).2.2, (hocc y hy).2.2] at he; omega)
    simpa [Tm.turnTL] using this
  have hr : rightT t = true := by rw [rightT_eq]; exact h
  have hr2 : rightT (Tm.turnT (fun n => IntKind.i64.wrap (n + by_)) t) = true := by rw [rightT_eq]; exact hR
  unfold shiftT
  rw [if_pos hr, if_pos hr2, hw, if_neg (show ¬ m < 0 by omega), if_neg (show ¬ by_ + m < 0 by omega), hV]
  have hany : ((varsT [t]).map fun n => IntKind.i64.wrap (n + by_)).any (bigV m) = (varsT [t]).any (bigV (by_ + m)) := by
    rw [List.any_map, Bool.eq_iff_iff, List.any_eq_true, List.any_eq_true]
    have : ∀ v ∈ varsT [t], (bigV m ∘ fun n => IntKind.i64.wrap (n + by_)) v = bigV (by_ + m) v := fun v hv => by
      obtain ⟨h3, h4, h5⟩ := h2 v hv
      simp only [Function.comp, h5, bigV]
      rw [w64 (by omega) (by omega), w64 (by omega) (by omega)]
      apply decide_eq_decide.2; omega
    constructor
    · rintro ⟨v, hv, he⟩; exact ⟨v, hv, by rw [← this v hv]; exact he⟩
    · rintro ⟨v, hv, he⟩; exact ⟨v, hv, by rw [this v hv]; exact he⟩
  rw [hany]
  split
  · rfl
  · rename_i hn
    rw [Tm.turn_comp]
    congr 1
    refine Tm.turn_congr t (right_fair h) fun v hv => ?_
    have hv' : v ∈ varsT [t] := (varsT_mem hf).2 (by simpa [Tm.occL] using hv)
    obtain ⟨h3, h4, h5⟩ := h2 v hv'
    rw [h5]; congr 1; omega

theorem getD_map {V : List Int} {g : Int → Int} {v : Int} (hv : v ∈ V) : ((V.map g)[(atI V v 0).toNat]?).getD 0 = g v := by
  have key : ∀ (V : List Int) (i : Nat), v ∈ V → ((V.map g)[(atI V v i).toNat - i]?).getD 0 = g v := by
    intro V
    induction V with
    | nil => intro i h; simp at h
    | cons x V ih =>
      intro i h
      simp only [atI]
      by_cases hx : x = v
      · rw [if_pos hx]; simp [hx]
      · rw [if_neg hx]
        have hv := (List.mem_cons.1 h).resolve_left fun e => hx e.symm
        have h1 := ih (i + 1) hv
        have h2 := atI_mem (l := V) (n := v) ((i : Int) + 1) hv
        have e : (atI V v ((i : Int) + 1)).toNat - i = ((atI V v ((i : Int) + 1)).toNat - (i + 1)) + 1 := by omega
        rw [e, List.map_cons, List.getElem?_cons_succ]
        have e2 : ((i + 1 : Nat) : Int) = (i : Int) + 1 := by omega
        rw [e2] at h1
        exact h1
  simpa using key V 0 hv

/-! ### numbering -/
theorem place_self {l : List Tm} (h : Tm.fairRL l = true) {v : Int} (hv : v ∈ Tm.occL l) : placeG (varsT l) v = atI (varsT l) v 0 ∧ 0 ≤ placeG (varsT l) v ∧ placeG (varsT l) v < (varsT l).length := placeG_mem ((varsT_mem h).2 hv)

theorem occ_sub {l : List Tm} {t : Tm} (ht : t ∈ l) {v : Int} (hv : v ∈ Tm.occ t) : v ∈ Tm.occL l := by
  induction l with
  | nil => simp at ht
  | cons x l ih =>
    simp only [Tm.occL, List.mem_append]
    rcases List.mem_cons.1 ht with rfl | ht
    · exact .inl hv
    · exact .inr (ih ht)

theorem all_rights {l : List Tm} : l.all rightT = true ↔ ∀ t ∈ l, t.rightB = true := by
  simp only [List.all_eq_true, rightT_eq]
theorem fairL_of {l : List Tm} (h : ∀ t ∈ l, t.rightB = true) : Tm.fairRL l = true := Tm.fairRL_iff.2 fun t ht => right_fair (h t ht)

theorem rightL_turn {l : List Tm} {g : Int → Int} (h : ∀ t ∈ l, t.rightB = true) (hg : ∀ v ∈ Tm.occL l, 0 ≤ g v ∧ g v < 1000000) : ∀ t ∈ Tm.turnTL g l, t.rightB = true := by
  intro t ht
  rw [Tm.turnTL_map] at ht
  obtain ⟨x, hx, rfl⟩ := List.mem_map.1 ht
  exact Tm.right_turn (h x hx) fun v hv => hg v (occ_sub hx hv)

/-- Terms with other variables, one to one, are numbered as they were. -/
theorem number_turn {l : List Tm} {g : Int → Int} (h : ∀ t ∈ l, t.rightB = true) (hg : ∀ v ∈ Tm.occL l, 0 ≤ g v ∧ g v < 1000000) (hi : ∀ x ∈ Tm.occL l, ∀ y ∈ Tm.occL l, g x = g y → x = y) : numberT (Tm.turnTL g l) = numberT l := by
  have hf := fairL_of h
  have h2 := rightL_turn h hg
  have hV := varsT_turn hf hg hi
  unfold numberT
  rw [if_pos (all_rights.2 h), if_pos (all_rights.2 h2), hV, List.length_map, Tm.turnL_comp]
  congr 1
  refine Tm.turnL_congr l hf fun v hv => ?_
  exact placeG_map fun x hx he => hi x ((varsT_mem hf).1 hx) v hv he

theorem number_again {l : List Tm} (h : ∀ t ∈ l, t.rightB = true) (hs : (varsT l).length < 1000000) : numberT (numberT l).1 = numberT l := by
  have hf := fairL_of h
  have e : (numberT l).1 = Tm.turnTL (placeG (varsT l)) l := by unfold numberT; rw [if_pos (all_rights.2 h)]
  rw [e]
  refine number_turn h (fun v hv => ?_) fun x hx y hy he => placeG_inj ((varsT_mem hf).2 hx) ((varsT_mem hf).2 hy) he
  obtain ⟨_, h1, h2⟩ := place_self hf hv
  omega
end PSL
