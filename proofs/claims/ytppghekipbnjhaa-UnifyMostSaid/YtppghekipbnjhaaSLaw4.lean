import Derived.Test.YtppghekipbnjhaaSUni7
namespace Go.Proofs.Ytppghekipbnjhaa
open Go PSL Go.Proofs

theorem uniF_siz {N : Nat} : ∀ (f : Nat) (T : List (Tm × Tm)) (B : Binds) (met : List (Int × Int)) (B' : Binds), Tm.uniF f T B met = some (some B') → Tm.sizT N T → Tm.sizB N B → Tm.sizB N B'
  | 0, _, _, _, _, h, _, _ => by simp [Tm.uniF] at h
  | f + 1, T, B, met, B', h, hT, hB => by
    rcases List.eq_nil_or_concat T with rfl | ⟨R, p, rfl⟩
    · simp [Tm.uniF] at h; subst h; exact hB
    obtain ⟨x, y⟩ := p
    rw [List.concat_eq_append, Tm.uniF_snoc] at h
    rw [List.concat_eq_append] at hT
    have hR : Tm.sizT N R := fun q hq => hT q (by simp [hq])
    have zx : (Tm.walkB B x).size ≤ N := Tm.walk_siz hB _ x (hT (x, y) (by simp)).1
    have zy : (Tm.walkB B y).size ≤ N := Tm.walk_siz hB _ y (hT (x, y) (by simp)).2
    simp only at h
    split at h
    · exact uniF_siz f _ _ _ _ h hR hB
    · split at h
      · exact uniF_siz f _ _ _ _ h hR hB
      · split at h
        · split at h
          · simp at h
          · exact uniF_siz f _ _ _ _ h hR (hB.snoc zy)
        · split at h
          · split at h
            · simp at h
            · exact uniF_siz f _ _ _ _ h hR (hB.snoc zx)
          · split at h
            · simp at h
            · exact uniF_siz f _ _ _ _ h (hR.zip zx zy) hB

theorem vT_names (v : Int) : ∀ x e, e ∈ (Tm.vT v).els x → e.2.s.size < 1000000000 := fun x e he => by
  simp only [Tm.vT, Tm.els, Tm.elsL, List.mem_singleton] at he
  subst he; show ByteArray.empty.size < _; decide

theorem vT_size (v : Int) : (Tm.vT v).size = 1 := by simp [Tm.vT, Tm.size, Tm.sizeL]

theorem flatR_split (B : Binds) (M : Nat) : (∃ e, e ≠ 0 ∧ flatR B M = ([], e)) ∨ (rightS B = true ∧ B.all (fun b => fitF (fullS B M b.2)) = true ∧ flatR B M = (flatL B M B, 0)) := by
  unfold flatR
  split
  · rename_i h
    split
    · rename_i h2; exact .inr ⟨h, h2, rfl⟩
    · exact .inl ⟨3, by decide, rfl⟩
  · exact .inl ⟨1, by decide, rfl⟩

theorem unify_alike {F : Binds} (hS : Sub F 1) (hr : rightS F = true) {a b : Tm} (fa : a.fairR = true) (fb : b.fairR = true) (sa : a.size ≤ 3000) (sb : b.size ≤ 3000) (hz : (fullS F 1 a).size ≤ 3000) (he : fullS F 1 a = fullS F 1 b) :
    ∃ (σ : Int → Tm) (B' : Binds), Tm.URound σ B' ((fullS F 1 a).size + 1) [(a, b)] [] [] ∧ Tm.chainB B' ∧ Tm.fairBB B' ∧ B'.length ≤ 3001 ∧ Tm.sizB 3000 B' ∧ ∀ (M : Nat) (v : Int), rightS B' = true → Sub B' M → (Tm.vT v).rightB = true → (fullS B' M (Tm.vT v)).size ≤ 3000 → (fullS B' M (Tm.vT v)).depth ≤ 100 → applyT F 1 (fullS B' M (Tm.vT v)) = applyT F 1 (Tm.vT v) := by
  obtain ⟨σ, hσ⟩ : ∃ σ : Int → Tm, ∀ t, t.fairR = true → fullS F 1 t = Tm.putF σ t := ⟨_, fun t ht => hS.fix ht⟩
  have ea := hσ a fa
  have eb := hσ b fb
  have hI : Tm.UInv σ [(a, b)] [] := ⟨fun b hb => (by cases hb), fun p hp => (by simp at hp; subst hp; simp only; rw [← ea, ← eb, he]), Tm.chainB.nil, fun b hb => (by cases hb), fun p hp => (by simp at hp; subst hp; exact ⟨fa, fb⟩)⟩
  have hsum : Tm.sumS σ [(a, b)] < (fullS F 1 a).size + 1 := by
    simp [Tm.sumS, ← ea]
  obtain ⟨B', g1, g2, g3, g4, g5⟩ := Tm.uni_ok ((fullS F 1 a).size + 1) [(a, b)] [] [] hI hsum
  simp only [List.length_nil] at g5
  have st : Tm.sizT 3000 [(a, b)] := fun p hp => (by simp at hp; subst hp; exact ⟨sa, sb⟩)
  have sb0 : Tm.sizB 3000 [] := fun b hb => (by cases hb)
  refine ⟨σ, B', ⟨hI, hsum, by simp; omega, st, sb0, g1⟩, g3, g4, by omega, uniF_siz _ _ _ _ _ g1 st sb0, fun M v h1 h2 h3 h4 h5 => ?_⟩
  have hf := right_fair h3
  have hfx := h2.fairF hf
  have hxr : (fullS B' M (Tm.vT v)).rightB = true := Tm.rightB_iff.2 ⟨hfx, by omega, by omega⟩
  rw [applyT_app3 hr hxr, applyT_app3 hr h3, hσ _ hfx, hσ _ hf, Tm.full_sol g2 M _ hf g4]

set_option maxRecDepth 100000 in
theorem unifyMost_ok (a b : Tm) (L : Binds) (ha : a.Ok) (hb : b.Ok) (hL : ∀ b ∈ L, b.2.Ok) (hLl : L.length ≤ 140737488355328) : PCtr Try.prog 11 [a.av, b.av, .d (.sl (bindRows L))] (bV true) := by
  refine PCtr.of_R (pf := fun _ => .still) tyOk mixed Try.func11 rfl (by kernel_rfl) (by kernel_rfl) (by simp [Try.ntmps11]) fun w S hg => ?_
  refine R_run hg.ok 1000 rfl rfl ?_
  refine R_call hg.ok ((sm4_ok [a, b] (by simp; exact ⟨ha, hb⟩) (by simp)).two) rfl rfl rfl rfl rfl rfl ?_
  refine R_run hg.ok 1000 rfl rfl ?_
  refine R_if rfl rfl (fun h => ?_) (fun h => ?_) <;> refine R_run hg.ok 1000 rfl rfl ?_
  · refine R_call hg.ok (knows4_ok) rfl rfl rfl rfl rfl rfl ?_
    refine R_run hg.ok 1000 rfl rfl ?_
    refine R_ret hg 5 rfl rfl ?_
    rfl
  have hs : smallS [a, b] = true := by simpa using h
  obtain ⟨h1, h2⟩ := smallS_ok hs
  simp only [Tm.sizeL] at h1
  have na := nm4 (t := a) fun x e he => h2 x e (Tm.els_memL (by simp) he)
  have nb := nm4 (t := b) fun x e he => h2 x e (Tm.els_memL (by simp) he)
  refine R_call hg.ok (refSome3_ok L hL hLl) rfl rfl rfl rfl rfl rfl ?_
  refine R_run hg.ok 1000 rfl rfl ?_
  refine R_if rfl rfl (fun h => ?_) (fun h => ?_) <;> refine R_run hg.ok 1000 rfl rfl ?_
  · refine R_call hg.ok (knows4_ok) rfl rfl rfl rfl rfl rfl ?_
    refine R_run hg.ok 1000 rfl rfl ?_
    refine R_ret hg 5 rfl rfl ?_
    rfl
  have hs : someS L = true := by simpa using h
  have sL := someS_small hs
  refine R_call hg.ok (refRight_ok a (by omega) na) rfl rfl rfl rfl rfl rfl ?_
  refine R_run hg.ok 1000 rfl rfl ?_
  refine R_if rfl rfl (fun h => ?_) (fun h => ?_) <;> refine R_run hg.ok 1000 rfl rfl ?_
  · refine R_call hg.ok (knows4_ok) rfl rfl rfl rfl rfl rfl ?_
    refine R_run hg.ok 1000 rfl rfl ?_
    refine R_ret hg 5 rfl rfl ?_
    rfl
  have ra : a.rightB = true := by simpa using h
  refine R_call hg.ok (refRight_ok b (by omega) nb) rfl rfl rfl rfl rfl rfl ?_
  refine R_run hg.ok 1000 rfl rfl ?_
  refine R_if rfl rfl (fun h => ?_) (fun h => ?_) <;> refine R_run hg.ok 1000 rfl rfl ?_
  · refine R_call hg.ok (knows4_ok) rfl rfl rfl rfl rfl rfl ?_
    refine R_run hg.ok 1000 rfl rfl ?_
    refine R_ret hg 5 rfl rfl ?_
    rfl
  have rb : b.rightB = true := by simpa using h
  obtain ⟨M, hM⟩ := subOr L
  have hfl := flat_ok L M hM sL
  rcases flatR_split L M with ⟨e, he, hq⟩ | ⟨hr0, hall, hq⟩
  · rw [hq] at hfl
    refine R_call hg.ok (hfl) rfl rfl rfl rfl rfl rfl ?_
    refine R_run hg.ok 1000 rfl rfl ?_
    refine R_if rfl rfl (fun _ => ?_) (fun h => absurd h (by simpa using he)) <;> refine R_run hg.ok 1000 rfl rfl ?_
    repeat
      first
      | (refine R_if rfl rfl (fun _ => ?_) (fun h => absurd h (by first | (simp [bindRows]; done) | (simp [bindRows]; omega))); refine R_run hg.ok 1000 rfl rfl ?_)
      | (refine R_if rfl rfl (fun h => absurd h (by first | (simp [bindRows]; done) | (simp [bindRows]; omega))) (fun _ => ?_); refine R_run hg.ok 1000 rfl rfl ?_)
    refine R_call hg.ok (knows4_ok) rfl rfl rfl rfl rfl rfl ?_
    refine R_run hg.ok 1000 rfl rfl ?_
    refine R_ret hg 5 rfl rfl ?_
    rfl
  rw [hq] at hfl
  have hS0 := hM hr0
  have hS : Sub (flatL L M L) 1 := flat_sub hS0
  have hr : rightS (flatL L M L) = true := flat_right hS0 hr0 hall
  have hQs : ∀ b ∈ flatL L M L, b.2.fairR = true ∧ b.2.size ≤ 3000 := fun b hb => by
    obtain ⟨b0, h0, rfl⟩ := List.mem_map.1 hb
    exact ⟨hS0.fairF (hS0.fair _ h0), (fitF_iff.1 (List.all_eq_true.1 hall _ h0)).1⟩
  have sF : Small (flatL L M L) := ⟨by rw [flatL_len]; exact sL.len, fun b hb => by have := (hQs b hb).2; omega, fun b hb x e he => fair_names (hQs b hb).1 x e he⟩
  generalize flatL L M L = F at hfl hS hr sF
  clear hQs hall hq
  have hA := apply_ok F 1 (fun _ => hS) sF a (by omega) na
  have hB := apply_ok F 1 (fun _ => hS) sF b (by omega) nb
  obtain ⟨x, ea, hxa⟩ : ∃ x e, applyT F 1 a = (x, e) := ⟨_, _, rfl⟩
  obtain ⟨y, eb, hyb⟩ : ∃ x e, applyT F 1 b = (x, e) := ⟨_, _, rfl⟩
  rw [hxa] at hA
  rw [hyb] at hB
  simp only at hA hB
  refine R_call hg.ok (hfl) rfl rfl rfl rfl rfl rfl ?_
  refine R_run hg.ok 1000 rfl rfl ?_
  refine R_if rfl rfl (fun h => absurd h (by simp)) (fun _ => ?_) <;> refine R_run hg.ok 1000 rfl rfl ?_
  refine R_call hg.ok (hA) rfl rfl rfl rfl rfl rfl ?_
  refine R_run hg.ok 1000 rfl rfl ?_
  refine R_call hg.ok (hB) rfl rfl rfl rfl rfl rfl ?_
  refine R_run hg.ok 1000 rfl rfl ?_
  refine R_if rfl rfl (fun h => ?_) (fun h => ?_) <;> refine R_run hg.ok 1000 rfl rfl ?_
  · refine R_call hg.ok (knows4_ok) rfl rfl rfl rfl rfl rfl ?_
    refine R_run hg.ok 1000 rfl rfl ?_
    refine R_ret hg 5 rfl rfl ?_
    rfl
  have ea0 : ea = 0 := by simpa using h
  subst ea0
  refine R_if rfl rfl (fun h => ?_) (fun h => ?_) <;> refine R_run hg.ok 1000 rfl rfl ?_
  · refine R_call hg.ok (knows4_ok) rfl rfl rfl rfl rfl rfl ?_
    refine R_run hg.ok 1000 rfl rfl ?_
    refine R_ret hg 5 rfl rfl ?_
    rfl
  have eb0 : eb = 0 := by simpa using h
  subst eb0
  obtain ⟨_, _, ga, gz, _⟩ := applyT_ok (B := F) (M := 1) (t := a) (by rw [hxa])
  obtain ⟨_, _, gb, _, _⟩ := applyT_ok (B := F) (M := 1) (t := b) (by rw [hyb])
  rw [hxa] at ga
  rw [hyb] at gb
  simp only at ga gb
  subst ga
  subst gb
  refine R_call hg.ok (refSame_ok (fullS F 1 a) (fullS F 1 b) (by omega)) rfl rfl rfl rfl rfl rfl ?_
  refine R_run hg.ok 1000 rfl rfl ?_
  refine R_if rfl rfl (fun h => ?_) (fun h => ?_) <;> refine R_run hg.ok 1000 rfl rfl ?_
  · refine R_call hg.ok (knows4_ok) rfl rfl rfl rfl rfl rfl ?_
    refine R_run hg.ok 1000 rfl rfl ?_
    refine R_ret hg 5 rfl rfl ?_
    rfl
  have hab : fullS F 1 a = fullS F 1 b := (Tm.same_iff _ _).1 (by simpa using h)
  obtain ⟨σ, B', hU, hc, hfb, hBl, hBz, hap⟩ := unify_alike hS hr (right_fair ra) (right_fair rb) (by omega) (by omega) gz hab
  have sB' : Small B' := ⟨by omega, fun b hb => by have := hBz b hb; omega, fun b hb x e he => fair_names (hfb b hb).1 x e he⟩
  obtain ⟨M', hM'⟩ := subOr B'
  refine R_call hg.ok (mgu_ok σ B' a b _ hU hc (by omega) ra rb (na 1) (nb 1)) rfl rfl rfl rfl rfl rfl ?_
  refine R_run hg.ok 1000 rfl rfl ?_
  repeat
    first
    | (refine R_if rfl rfl (fun _ => ?_) (fun h => absurd h (by first | (simp; done) | (simp; omega))); refine R_run hg.ok 1000 rfl rfl ?_)
    | (refine R_if rfl rfl (fun h => absurd h (by first | (simp; done) | (simp; omega))) (fun _ => ?_); refine R_run hg.ok 1000 rfl rfl ?_)
  have hvt := (refVars_ok [a, b] (by simp [Tm.sizeL]; omega)).two
  have hwl := Tm.withVL_len [a, b] []
  simp only [Tm.sizeL, List.length_nil] at hwl
  generalize Tm.withVL [] [a, b] = V at hvt hwl
  refine R_call hg.ok (hvt) rfl rfl rfl rfl rfl rfl ?_
  refine R_run hg.ok 1000 rfl rfl ?_
  refine R_loop (fun k : Nat => ([(7, .d (.sl (bindRows F))), (13, .d (.sl (bindRows B'))), (16, .d (.sl (irows V))), (17, iV k)], [boxR a, boxR b, boxR (fullS F 1 a), boxR (fullS F 1 b)])) (fun k => k ≤ V.length) (fun k => V.length - k) 0 (Nat.zero_le _) ⟨.refl _, .refl _, .refl _, .refl _, trivial⟩ rfl ?_
  intro k hk
  refine R_run hg.ok 1000 rfl rfl ?_
  refine R_if rfl rfl (fun h => ?_) (fun h => ?_) <;> refine R_run hg.ok 1000 rfl rfl ?_
  · have hk1 : k < V.length := lt_dec h (by rw [irows_length])
    have e1 : V[k]? = some V[k] := List.getElem?_eq_getElem hk1
    generalize V[k] = v at e1
    refine R_index hg.ok rfl rfl rfl rfl rfl rfl (Int.natCast_nonneg _) (irows_get e1) rfl ?_
    refine R_run hg.ok 1000 rfl rfl ?_
    have hO := apply_ok B' M' hM' sB' (Tm.vT v) (by rw [vT_size]; decide) (vT_names v)
    obtain ⟨o, eo, ho⟩ : ∃ x e, applyT B' M' (Tm.vT v) = (x, e) := ⟨_, _, rfl⟩
    rw [ho] at hO
    refine R_call hg.ok (hO) rfl rfl rfl rfl rfl rfl ?_
    refine R_run hg.ok 1000 rfl rfl ?_
    refine R_if rfl rfl (fun h => ?_) (fun h => ?_) <;> refine R_run hg.ok 1000 rfl rfl ?_
    · refine R_dropO 4 [boxR a, boxR b, boxR (fullS F 1 a), boxR (fullS F 1 b)] (Nat.zero_le _) rfl rfl ?_
      exact R_next (k + 1) hk1 (by omega) ⟨.refl _, .refl _, .refl _, Ent.wrap (by omega) (by omega) (by omega), trivial⟩ rfl
    have eo0 : eo = 0 := by simpa using h
    subst eo0
    obtain ⟨hr', hvr, go, gz', gd'⟩ := applyT_ok (B := B') (M := M') (t := Tm.vT v) (by rw [ho])
    rw [ho] at go
    simp only at go
    have hS' := hM' hr'
    have hal := hap M' v hr' hS' hvr gz' gd'
    have hof := hS'.fairF (right_fair hvr)
    rw [← go] at hal gz' hof
    have hQ1 := apply_ok F 1 (fun _ => hS) sF o (by omega) (fun x e he => fair_names hof x e he)
    have hQ2 := apply_ok F 1 (fun _ => hS) sF (Tm.vT v) (by rw [vT_size]; decide) (vT_names v)
    rw [hal] at hQ1
    have hq : (applyT F 1 (Tm.vT v)).1.size < 1000000000 := by
      rcases applyT_cases F 1 (Tm.vT v) with he | ⟨_, he⟩
      · obtain ⟨_, _, h1, h2, _⟩ := applyT_ok he
        rw [h1]; omega
      · rw [he]; decide
    generalize applyT F 1 (Tm.vT v) = q at hQ1 hQ2 hq
    obtain ⟨q, eq⟩ := q
    refine R_call hg.ok (hQ1) rfl rfl rfl rfl rfl rfl ?_
    refine R_run hg.ok 1000 rfl rfl ?_
    refine R_call hg.ok (hQ2) rfl rfl rfl rfl rfl rfl ?_
    refine R_run hg.ok 1000 rfl rfl ?_
    refine R_if rfl rfl (fun h => absurd h (by simp)) (fun _ => ?_) <;> refine R_run hg.ok 1000 rfl rfl ?_
    refine R_call hg.ok (refSame_ok q q hq) rfl rfl rfl rfl rfl rfl ?_
    refine R_run hg.ok 1000 rfl rfl ?_
    refine R_if rfl rfl (fun h => absurd h (by rw [Tm.same_refl]; simp)) (fun _ => ?_) <;> refine R_run hg.ok 1000 rfl rfl ?_
    refine R_dropO 4 [boxR a, boxR b, boxR (fullS F 1 a), boxR (fullS F 1 b)] (Nat.zero_le _) rfl rfl ?_
    exact R_next (k + 1) hk1 (by omega) ⟨.refl _, .refl _, .refl _, Ent.wrap (by omega) (by omega) (by omega), trivial⟩ rfl
  · refine R_call hg.ok (knows4_ok) rfl rfl rfl rfl rfl rfl ?_
    refine R_run hg.ok 1000 rfl rfl ?_
    refine R_ret hg 5 rfl rfl ?_
    rfl
end Go.Proofs.Ytppghekipbnjhaa
