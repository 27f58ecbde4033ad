import Derived.Test.YtcafgconfcajbaaPlInst
namespace PSL
open Go
namespace Tm
mutual
theorem putF_comp (σ τ : Int → Tm) : ∀ (p : Tm), putF τ (putF σ p) = putF (fun v => putF τ (σ v)) p
  | mk k s n l => by
    simp only [putF]
    by_cases hk : k = 1
    · simp [hk]
    · simp only [if_neg hk, putF, putFL_comp σ τ l]
theorem putFL_comp (σ τ : Int → Tm) : ∀ (l : List Tm), putFL τ (putFL σ l) = putFL (fun v => putF τ (σ v)) l
  | [] => rfl
  | x :: r => by simp only [putFL, putF_comp σ τ x, putFL_comp σ τ r]
end
mutual
theorem turn_put (g : Int → Int) : ∀ (p : Tm), fairR p = true → turnT g p = putF (fun v => vT (g v)) p
  | mk k s n l, h => by
    have hl := fairR_mk h
    simp only [turnT, putF]
    by_cases hk : k = 1
    · obtain ⟨rfl, rfl⟩ := hl.2 hk
      subst hk
      simp [turnTL, vT]
    · rw [if_neg hk, if_neg hk, turnL_put g l hl.1]
theorem turnL_put (g : Int → Int) : ∀ (l : List Tm), fairRL l = true → turnTL g l = putFL (fun v => vT (g v)) l
  | [], _ => rfl
  | x :: r, h => by
    simp only [fairRL, Bool.and_eq_true] at h
    simp only [turnTL, putFL, turn_put g x h.1, turnL_put g r h.2]
end
theorem put_self (p : Tm) (h : fairR p = true) : putF vT p = p := by
  have := turn_put (fun n => n) p h
  rw [turn_self] at this; exact this.symm

mutual
/-- Terms put for variables, told by what comes of it. -/
theorem putF_inj {σ τ : Int → Tm} : ∀ (p : Tm), putF σ p = putF τ p → ∀ v ∈ occ p, σ v = τ v
  | mk k s n l, h, v, hv => by
    simp only [putF] at h
    simp only [occ] at hv
    by_cases hk : k = 1
    · simp only [if_pos hk, List.mem_singleton] at h hv
      subst hv; exact h
    · simp only [if_neg hk, Tm.mk.injEq, true_and] at h hv
      exact putFL_inj l h v hv
theorem putFL_inj {σ τ : Int → Tm} : ∀ (l : List Tm), putFL σ l = putFL τ l → ∀ v ∈ occL l, σ v = τ v
  | [], _, v, hv => by simp [occL] at hv
  | x :: r, h, v, hv => by
    simp only [putFL, List.cons.injEq] at h
    simp only [occL, List.mem_append] at hv
    exact hv.elim (putF_inj x h.1 v) (putFL_inj r h.2 v)
end

mutual
theorem fair_put {σ : Int → Tm} : ∀ (p : Tm), fairR (putF σ p) = true → ∀ v ∈ occ p, fairR (σ v) = true
  | mk k s n l, h, v, hv => by
    simp only [putF] at h
    simp only [occ] at hv
    by_cases hk : k = 1
    · simp only [if_pos hk, List.mem_singleton] at h hv
      subst hv; exact h
    · simp only [if_neg hk] at h hv
      exact fairL_put l (fairR_mk h).1 v hv
theorem fairL_put {σ : Int → Tm} : ∀ (l : List Tm), fairRL (putFL σ l) = true → ∀ v ∈ occL l, fairR (σ v) = true
  | [], _, v, hv => by simp [occL] at hv
  | x :: r, h, v, hv => by
    simp only [putFL, fairRL, Bool.and_eq_true] at h
    simp only [occL, List.mem_append] at hv
    exact hv.elim (fair_put x h.1 v) (fairL_put r h.2 v)
end

theorem inst_trans {a b c : Tm} (h1 : ∃ σ, a = putF σ b) (h2 : ∃ σ, b = putF σ c) : ∃ σ, a = putF σ c := by
  obtain ⟨σ, rfl⟩ := h1
  obtain ⟨τ, rfl⟩ := h2
  exact ⟨_, putF_comp τ σ c⟩
end Tm

/-- Variants are one another with other variables, one to one. -/
theorem num_turn {a b : Tm} (ha : a.rightB = true) (hb : b.rightB = true) (h : numOne a = numOne b) : ∃ g : Int → Int, b = Tm.turnT g a := by
  have fa := right_fair ha
  have fb := right_fair hb
  have h1 := (Tm.fits_ok a b [] fa fb (by intro x hx; simp at hx)).1.1 ((fits_num ha hb).2 h)
  rw [List.nil_append] at h1
  obtain ⟨g, hg, _⟩ := Tm.good_fun (Tm.occ_bare_len h1.1) h1.2
  refine ⟨g, Tm.bare_occ _ _ ?_ (by rw [Tm.occ_turn, hg]) (Tm.fair_plain _ fb) ?_⟩
  · show Tm.turnT _ b = Tm.turnT _ (Tm.turnT g a)
    rw [Tm.turn_comp]; exact h1.1.symm
  · refine Tm.fair_plain _ (Tm.fair_turn g a fa fun v hv => ?_)
    exact Tm.occ_range b fb _ (by rw [hg]; exact List.mem_map_of_mem hv)

/-- Terms are variants, just if each is an instance of the other. -/
theorem inst_both {a b : Tm} (ha : a.rightB = true) (hb : b.rightB = true) : ((∃ σ, b = Tm.putF σ a) ∧ (∃ σ, a = Tm.putF σ b)) ↔ numOne a = numOne b := by
  have fa := right_fair ha
  have fb := right_fair hb
  constructor
  · rintro ⟨⟨σ, hσ⟩, ⟨τ, hτ⟩⟩
    have hfix : Tm.putF (fun v => Tm.putF τ (σ v)) a = Tm.putF Tm.vT a := by
      rw [← Tm.putF_comp, ← hσ, ← hτ, Tm.put_self a fa]
    have hv := Tm.putF_inj a hfix
    have hfs := Tm.fair_put a (σ := σ) (by rw [← hσ]; exact fb)
    have hk : ∀ v ∈ Tm.occ a, σ v = Tm.vT (σ v).n ∧ τ (σ v).n = Tm.vT v := fun v h => by
      have e := hv v h
      have f := hfs v h
      generalize σ v = x at e f
      cases x with
      | mk k s n l =>
        simp only [Tm.putF] at e
        by_cases hk : k = 1
        · obtain ⟨rfl, rfl⟩ := (Tm.fairR_mk f).2 hk
          subst hk
          rw [if_pos rfl] at e
          exact ⟨rfl, e⟩
        · rw [if_neg hk] at e
          exact absurd (congrArg Tm.k e) hk
    have eb : b = Tm.turnT (fun v => (σ v).n) a := by
      rw [hσ, Tm.turn_put _ a fa]; exact Tm.putF_congr a fun v h => (hk v h).1
    have hocc : Tm.occ b = (Tm.occ a).map fun v => (σ v).n := by
      have := congrArg Tm.occ eb; rwa [Tm.occ_turn] at this
    rw [eb]
    refine (numOne_turn ha (fun v h => Tm.occ_range b fb _ (by rw [hocc]; exact List.mem_map_of_mem (f := fun v => (σ v).n) h)) fun x hx y hy e => ?_).symm
    have e1 := (hk x hx).2
    have e2 := (hk y hy).2
    have e : (σ x).n = (σ y).n := e
    rw [e, e2] at e1
    exact (congrArg Tm.n e1).symm
  · intro h
    obtain ⟨g, hg⟩ := num_turn ha hb h
    obtain ⟨g', hg'⟩ := num_turn hb ha h.symm
    exact ⟨⟨_, hg.trans (Tm.turn_put g a fa)⟩, ⟨_, hg'.trans (Tm.turn_put g' b fb)⟩⟩

/-- Is a term an instance of a pattern? -/
def instT (t p : Tm) : Bool := (matchT p t).2.1 && (matchT p t).2.2 == 0
theorem instT_iff {t p : Tm} (hp : p.rightB = true) (ht : t.rightB = true) : instT t p = true ↔ ∃ σ, t = Tm.putF σ p := by
  unfold instT
  rw [match_same hp ht, ← matchR_iff]; simp
theorem instT_bad {t p : Tm} (h : p.rightB = false ∨ t.rightB = false) : instT t p = false ∧ matchT p t = ([], false, 1) := by
  unfold instT matchT
  rw [rightT_eq, rightT_eq]
  rcases h with h | h <;> rw [h] <;> simp
end PSL
