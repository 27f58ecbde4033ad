import Derived.Test.YtppghekipbnjhaaPlWarsh
namespace PSL
open Go

def fitF (T : Tm) : Bool := decide (T.size ≤ 3000) && decide (T.depth ≤ 100)
theorem fitF_iff {T : Tm} : fitF T = true ↔ T.size ≤ 3000 ∧ T.depth ≤ 100 := by simp [fitF]
theorem bldN_fitF (T : Tm) : (Tm.bldN T 3000 1).1 = fitF T := by
  rw [Bool.eq_iff_iff, (Tm.bldN_ok T 3000 1 (by omega) (by omega)).1, fitF_iff]; omega
theorem app3_yes {T : Tm} (h : fitF T = true) : app3 T = (T, 0) := by unfold app3; exact if_pos h
theorem app3_no {T : Tm} (h : fitF T = false) : app3 T = (zeroT, 3) := by unfold app3; exact if_neg (by rw [show (decide (T.size ≤ 3000) && decide (T.depth ≤ 100)) = fitF T from rfl, h]; simp)

def flatL (B : Binds) (M : Nat) (L : Binds) : Binds := L.map fun b => (b.1, fullS B M b.2)
def flatR (B : Binds) (M : Nat) : Binds × Int := if rightS B then (if B.all (fun b => fitF (fullS B M b.2)) then (flatL B M B, 0) else ([], 3)) else ([], 1)

theorem flatL_len (B : Binds) (M : Nat) (L : Binds) : (flatL B M L).length = L.length := by simp [flatL]
theorem flatL_keys (B : Binds) (M : Nat) (L : Binds) : (flatL B M L).map (·.1) = L.map (·.1) := by simp [flatL]
theorem flatL_place (B : Binds) (M : Nat) (L : Binds) (v : Int) : placeB (flatL B M L) v = placeB L v := by unfold placeB; rw [flatL_keys]
theorem flatL_find (B : Binds) (M : Nat) : ∀ (L : Binds) (v : Int), findB (flatL B M L) v = (findB L v).map (fullS B M)
  | [], _ => rfl
  | b :: L, v => by
    have ih := flatL_find B M L v
    show findB ((b.1, fullS B M b.2) :: flatL B M L) v = _
    rw [findB_cons, findB_cons]
    split
    · rfl
    · exact ih
theorem flatL_get {B : Binds} {M : Nat} {L : Binds} {i : Nat} {b : Int × Tm} (h : L[i]? = some b) : (flatL B M L)[i]? = some (b.1, fullS B M b.2) := by rw [flatL, List.getElem?_map, h]; rfl
theorem flatL_snoc {B : Binds} {M : Nat} {L : Binds} {k : Nat} {b : Int × Tm} (h : L[k]? = some b) : bindRows (flatL B M (L.take k)) ++ [bindRow (b.1, fullS B M b.2)] = bindRows (flatL B M (L.take (k + 1))) := by
  rw [List.take_add_one, h]; simp [bindRows, flatL]

section
variable {B : Binds} {M : Nat}

theorem flat_adj (hS : Sub B M) (i : Nat) : adjB (flatL B M B) i = [] := by
  unfold adjB
  split
  · rename_i b hb
    rw [flatL, List.getElem?_map] at hb
    cases hbi : B[i]? with
    | none => rw [hbi] at hb; cases hb
    | some b0 =>
      rw [hbi] at hb; cases hb
      rw [List.filterMap_eq_nil_iff]
      intro v hv
      have hf0 := hS.fair b0 (List.mem_of_getElem? hbi)
      have hfx := hS.fairF hf0
      rw [varsT_once (one_fair hfx)] at hv
      have hm : v ∈ Tm.occ (fullS B M b0.2) := by simpa [Tm.occL, Tm.mem_once] using hv
      rw [flatL_place, if_pos (findB_place.1 (hS.free b0.2 v hm))]
  · rfl

theorem flat_right (hS : Sub B M) (hr : rightS B = true) (hok : B.all (fun b => fitF (fullS B M b.2)) = true) : rightS (flatL B M B) = true := by
  rw [← rightR_eq]
  obtain ⟨hn, hb, _⟩ := rightS_spec hr
  have hn2 : ((flatL B M B).map (·.1)).Nodup := by rw [flatL_keys]; exact hn
  unfold rightR
  rw [Bool.and_eq_true, List.all_eq_true, List.all_eq_true]
  constructor
  · intro i hi
    have hil : i < B.length := by have : i < (flatL B M B).length := by simpa using hi
                                  rwa [flatL_len] at this
    have e1 : B[i]? = some (B[i]'hil) := List.getElem?_eq_getElem _
    have e2 := flatL_get (B := B) (M := M) e1
    have hmem := List.mem_of_getElem? e1
    have h1 := hb _ hmem
    have h2 := fitF_iff.1 (List.all_eq_true.1 hok _ hmem)
    have h3 := nodup_place.1 hn2 i _ e2
    have h4 : (fullS B M (B[i]'hil).2).rightB = true := Tm.rightB_iff.2 ⟨hS.fairF (hS.fair _ hmem), h2.1, h2.2⟩
    rw [okAt, e2]
    simp only at h3
    simp [h1.1, h1.2.1, h3, h4]
  · intro i hi
    cases hw : warsh (edge (adjB (flatL B M B))) (flatL B M B).length i i with
    | false => rfl
    | true =>
      have key : ∀ {i j : Nat}, Way (edge (adjB (flatL B M B))) i j → False := fun h => by
        cases h with
        | one h => simp [edge, flat_adj hS] at h
        | snoc _ h => simp [edge, flat_adj hS] at h
      exact (key (warsh_way _ _ _ _ hw)).elim

theorem flat_sub (hS : Sub B M) : Sub (flatL B M B) 1 := ⟨fun b hb => by
    obtain ⟨b0, h0, rfl⟩ := List.mem_map.1 hb
    exact hS.fairF (hS.fair b0 h0), fun i _ => .mk fun k hk => by rw [flat_adj hS] at hk; simp at hk⟩

theorem flat_full (hS : Sub B M) {t : Tm} (hf : t.fairR = true) : fullS (flatL B M B) 1 t = fullS B M t := by
  rw [hS.fix hf]
  simp only [fullS]
  refine Tm.putF_congr t fun v _ => ?_
  rw [flatL_find]
  cases findB B v <;> rfl

theorem flat_apply (hS : Sub B M) (hr : rightS B = true) (hok : B.all (fun b => fitF (fullS B M b.2)) = true) (t : Tm) : applyT (flatL B M B) 1 t = applyT B M t := by
  cases htr : t.rightB with
  | false => rw [applyT_arg (by rw [htr]; simp), applyT_arg (by rw [htr]; simp)]
  | true => rw [applyT_app3 (flat_right hS hr hok) htr, applyT_app3 hr htr, flat_full hS (right_fair htr)]
end

/-- Are binds alike? -/
def sameS (a b : Binds) : Bool := decide (a.length = b.length) && (List.range a.length).all fun i => match a[i]?, b[i]? with
  | some x, some y => decide (x.1 = y.1) && x.2.same y.2
  | _, _ => false
theorem sameS_refl (a : Binds) : sameS a a = true := by
  unfold sameS
  rw [decide_eq_true rfl, Bool.true_and, List.all_eq_true]
  intro i hi
  have hil : i < a.length := by simpa using hi
  rw [List.getElem?_eq_getElem hil]
  simp [Tm.same_refl]
end PSL
