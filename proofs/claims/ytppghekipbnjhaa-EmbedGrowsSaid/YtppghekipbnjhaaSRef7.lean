import Derived.Test.YtppghekipbnjhaaSEmbed3
namespace Go.Proofs.Ytppghekipbnjhaa
open Go PSL Go.Proofs

set_option maxRecDepth 100000 in
theorem refParts_walk (Y : YP) : ∀ (N : Nat) (t : Tm) (P : List Pt), t.size ≤ N → t.fairR = true → P.length + t.size ≤ 10000 →
    SCtr Try.prog Y 68 [.ow 0 P.length, t.av] [.arr 5 P.length (rpRows P)] (.ow 0 (Tm.prt t P).length) [.arr 5 (Tm.prt t P).length (rpRows (Tm.prt t P))] := by
  intro N
  induction N with
  | zero => intro t _ h; have := Tm.size_eq t; omega
  | succ N ih =>
  intro t P hN hf hb
  refine SCtr.of_R (pf := fun _ => .eff) tyOk mixed Try.func68 rfl (by kernel_rfl) (by kernel_rfl) (by simp [Try.ntmps68]) (by simp) fun w S φ hg => ?_
  have hφ : φ.length = 1 := hg.hs0.len
  have hsz := Tm.size_eq t
  have hll := Tm.len_le_sizeL t.l
  have hpe := Tm.prt_eq t P
  refine R_run hg.ok 1000 rfl rfl ?_
  refine R_own 5 1 rfl rfl ?_
  refine R_cut2 (fun x : List Pt × List Nat => ([(0, .ow 0 x.1.length), (3, .lo 1 0), (5, .ow 2 x.2.length)], [.arr 5 x.1.length (rpRows x.1), boxR t, .arr 1 x.2.length (irows (natL x.2))])) (fun x => Tm.prtL t.l P [] = x ∧ x.1.length ≤ 9999) rfl ?_ ?_
  · refine R_loop (fun x : Nat × List Pt × List Nat => ([(0, .ow 0 x.2.1.length), (3, .lo 1 0), (5, .ow 2 x.2.2.length), (6, iV x.1)], [.arr 5 x.2.1.length (rpRows x.2.1), boxR t, .arr 1 x.2.2.length (irows (natL x.2.2))]))
      (fun x => x.1 ≤ t.l.length ∧ Tm.prtL t.l P [] = Tm.prtL (t.l.drop x.1) x.2.1 x.2.2 ∧ x.2.2.length = x.1 ∧ x.2.1.length + Tm.sizeL (t.l.drop x.1) ≤ 9999) (fun x => t.l.length - x.1) (0, P, []) ⟨Nat.zero_le _, rfl, rfl, by simp only [List.drop_zero]; omega⟩ ⟨.refl _, .refl _, .refl _, .refl _, trivial⟩ rfl ?_
    rintro ⟨k, Q, at_⟩ ⟨hk, hm, hat, hq⟩
    simp only at hk hm hat hq
    refine R_run hg.ok 1000 rfl rfl ?_
    refine R_if rfl rfl (fun h => ?_) (fun h => ?_) <;> refine R_run hg.ok 1000 rfl rfl ?_
    · have hk1 : k < t.l.length := lt_dec h (by rw [Tm.rows_length])
      have e1 : t.l[k]? = some t.l[k] := List.getElem?_eq_getElem hk1
      rw [List.drop_eq_getElem_cons hk1] at hm hq
      rw [Tm.prtL] at hm
      simp only [Tm.sizeL] at hq
      have hpl := Tm.prt_len t.l[k] Q
      have hpp := prt_pos t.l[k] Q
      refine R_index hg.ok rfl rfl rfl rfl rfl rfl (Int.natCast_nonneg _) (Tm.rows_get e1) rfl ?_
      refine R_run hg.ok 1000 rfl rfl ?_
      have hcall := ih t.l[k] Q (by have := Tm.size_mem (List.getElem_mem hk1); omega) (Tm.fair_kid hf (List.getElem_mem hk1)) (by omega)
      generalize Tm.prt t.l[k] Q = Q' at hcall hm hpl hpp
      refine R_callSO hg.ok hg.gup hg.wide hg.Y [0] [.arr 5 Q'.length (rpRows Q'), boxR t, .arr 1 at_.length (irows (natL at_))] hcall (fun _ => rfl) rfl rfl rfl rfl rfl rfl rfl rfl ?_
      refine R_run hg.ok 1000 rfl rfl ?_
      refine R_lenO hg.ok rfl rfl rfl rfl rfl (n := (Q'.length : Int)) (by rw [rpRows_len]) ?_
      refine R_run hg.ok 1000 rfl rfl ?_
      rw [w64 (n := (Q'.length : Int) - 1) (by omega) (by omega), show (Q'.length : Int) - 1 = ((Q'.length - 1 : Nat) : Int) by omega]
      refine R_appendO hg.ok (irows (natL (at_ ++ [Q'.length - 1]))) rfl rfl rfl rfl rfl rfl rfl rfl rfl (by simp) (by simp [one1]) (natL_snoc at_ (Q'.length - 1)) (by rw [irows_length, natL_len]; simp; omega) (by rw [irows_length, natL_len]; simp; omega) ?_
      refine R_run hg.ok 1000 rfl rfl ?_
      exact R_next (k + 1, Q', at_ ++ [Q'.length - 1]) ⟨hk1, hm, by simp [hat], by simp only; omega⟩ (by simp only; omega) ⟨.refl _, .refl _, by simp only [List.length_append, List.length_singleton]; exact .refl _, Ent.wrap (by simp only; omega) (by simp only; omega) (by simp only; omega), trivial⟩ (by simp only [List.length_append, List.length_singleton]; rfl)
    · have hk1 : t.l.length ≤ k := ge_dec h (by rw [Tm.rows_length])
      rw [List.drop_eq_nil_of_le hk1] at hm hq
      rw [Tm.prtL] at hm
      exact R_to (Q, at_) ⟨hm, by simp only; omega⟩ ⟨.refl _, .refl _, .refl _, trivial⟩ rfl
  rintro ⟨Q, at_⟩ ⟨hm, hq⟩
  rw [hm] at hpe
  simp only at hpe hq
  rw [hpe]
  refine R_freezeO hg.gup 2 [(0, .ow 0 Q.length), (3, .lo 1 0), (5, .d (.sl (irows (natL at_))))] [.arr 5 Q.length (rpRows Q), boxR t, .dead] rfl rfl ⟨.refl _, .refl _, Ent.frz 2 at_.length (irows (natL at_)), trivial⟩ ⟨by simp [ObIn, mapOb], ⟨.refl _, .refl _, .refl _, .refl _, trivial⟩, by simp [ObIn], trivial⟩ ?_
  refine R_run hg.ok 1000 rfl rfl ?_
  refine R_appendO hg.ok (rpRows (Q ++ [(t, at_)])) rfl rfl rfl rfl rfl rfl rfl rfl rfl (by simp) (by simp [one1]) (rpRows_snoc Q (t, at_)) (by rw [rpRows_len]; simp; omega) (by rw [rpRows_len]; simp; omega) ?_
  refine R_run hg.ok 1000 rfl rfl ?_
  rw [show (Q ++ [(t, at_)]).length = Q.length + 1 by simp]
  exact R_retS hg 1 5 (Nat.le_refl _) rfl rfl rfl

theorem refParts_ok (t : Tm) (hf : t.fairR = true) (hb : t.size ≤ 10000) : PCtr Try.prog 68 [.d (.v (.slice none 0 0)), t.av] (.d (.sl (rpRows (Tm.prt t [])))) :=
  (refParts_walk ⟨[], fun _ => true⟩ _ t [] (Nat.le_refl _) hf (by simpa using hb)).nil rfl
end Go.Proofs.Ytppghekipbnjhaa
