import Derived.Test.YtppghekipbnjhaaSTerm4
import Derived.Test.YtppghekipbnjhaaSSubst2
import Derived.Test.YtppghekipbnjhaaPlEmbed2
namespace Go.Proofs.Ytppghekipbnjhaa
open Go PSL Go.Proofs

def pobjs (P : List Pt) : List Ob := [.box [.clo 92 [] [.lo 0 0, .lo 1 0]], .box [.ow 2 P.length], .arr 12 P.length (partRows P)]

theorem pobjs_map {f : AV → AV} {P : List Pt} (h1 : f (.ow 2 P.length) = .ow 2 P.length) (h2 : f (.clo 92 [] [.lo 0 0, .lo 1 0]) = .clo 92 [] [.lo 0 0, .lo 1 0]) : (pobjs P).map (mapOb f) = pobjs P := by
  simp only [pobjs, mapOb, List.map_cons, List.map_nil, h1, h2]

theorem prt_pos (t : Tm) (P : List Pt) : 1 ≤ (Tm.prt t P).length := by rw [Tm.prt_len]; have := Tm.size_eq t; omega

set_option maxRecDepth 100000 in
theorem parts_walk (Y : YP) : ∀ (N : Nat) (t : Tm) (P : List Pt), t.size ≤ N → t.fairR = true → P.length + t.size ≤ 10000 →
    SCtr Try.prog Y 92 [t.av, .lo 0 0, .lo 1 0] (pobjs P) (iV ((Tm.prt t P).length - 1 : Nat)) (pobjs (Tm.prt t P)) := by
  intro N
  induction N with
  | zero => intro t _ h; have := Tm.size_eq t; omega
  | succ N ih =>
  intro t P hN hf hb
  refine SCtr.of_R (pf := fun _ => .eff) tyOk mixed Try.func92 rfl (by kernel_rfl) (by kernel_rfl) (by simp [Try.ntmps92]) (by simp [pobjs]) fun w S φ hg => ?_
  have hφ : φ.length = 3 := hg.hs0.len
  have hsz := Tm.size_eq t
  have hll := Tm.len_le_sizeL t.l
  have har := Tm.fair_arity hf
  have hpe := Tm.prt_eq t P
  refine R_run hg.ok 1000 rfl rfl ?_
  refine R_loop (fun x : Nat × List Pt × List Nat => ([(1, .lo 0 0), (2, .lo 1 0), (5, .lo 4 0), (11, .d (.sl (Tm.rows t.l))), (12, iV t.l.length), (13, iV x.1)], pobjs x.2.1 ++ [boxR t, .box (partA (t, x.2.2))]))
    (fun x => x.1 ≤ t.l.length ∧ Tm.prtL t.l P [] = Tm.prtL (t.l.drop x.1) x.2.1 x.2.2 ∧ x.2.2.length = x.1 ∧ x.2.1.length + Tm.sizeL (t.l.drop x.1) ≤ 9999) (fun x => t.l.length - x.1) (0, P, []) ⟨Nat.zero_le _, rfl, rfl, by simp only [List.drop_zero]; omega⟩ ⟨.refl _, .refl _, .refl _, .refl _, Ent.int (by rw [Tm.rows_length]), .refl _, trivial⟩ rfl ?_
  rintro ⟨k, Q, at_⟩ ⟨hk, hm, hat, hq⟩
  simp only at hk hm hat hq
  refine R_run hg.ok 1000 rfl rfl ?_
  refine R_if rfl rfl (fun h => ?_) (fun h => ?_) <;> refine R_run hg.ok 1000 rfl rfl ?_
  · have hk1 : k < t.l.length := lt_dec h rfl
    have e1 : t.l[k]? = some t.l[k] := List.getElem?_eq_getElem hk1
    rw [List.drop_eq_getElem_cons hk1] at hm hq
    rw [Tm.prtL] at hm
    simp only [Tm.sizeL] at hq
    have hpl := Tm.prt_len t.l[k] Q
    have hpp := prt_pos t.l[k] Q
    refine R_index hg.ok rfl rfl rfl rfl rfl rfl (Int.natCast_nonneg _) (Tm.rows_get e1) rfl ?_
    refine R_run hg.ok 1000 rfl rfl ?_
    have hcall := ih t.l[k] Q (by have := Tm.size_mem (List.getElem_mem hk1); omega) (Tm.fair_kid hf (List.getElem_mem hk1)) (by omega)
    generalize Tm.prt t.l[k] Q = Q' at hcall hm hpl hpp
    have hren : ∀ (n : Nat) (Z : List Pt), (pobjs Z).map (renOb (rn [0, 1, 2] n)) = pobjs Z := fun n Z => by
      have e : (renOb (rn [0, 1, 2] n)) = mapOb (renA (rn [0, 1, 2] n)) := by funext o; cases o <;> simp [renOb, mapOb, renL_map]
      rw [e]; exact pobjs_map rfl rfl
    refine R_callSO hg.ok hg.gup hg.wide hg.Y [0, 1, 2] (pobjs Q' ++ [boxR t, .box (partA (t, at_)), boxR t.l[k]]) hcall (fun _ => rfl) rfl rfl rfl rfl rfl (by rw [hren]; rfl) rfl (by rw [hren]; rfl) ?_
    refine R_run hg.ok 1000 rfl rfl ?_
    refine R_indexA hg.ok (4 + k) rfl rfl rfl rfl rfl rfl (Int.natCast_nonneg k) (by omega) (by simp) ?_
    refine R_storeA hg.ok (pobjs Q' ++ [boxR t, .box (partA (t, at_ ++ [Q'.length - 1])), boxR t.l[k]]) rfl rfl rfl rfl rfl rfl rfl rfl (by show 4 + k + 1 ≤ 12; omega) ?_ ?_
    · rw [← partA_set t (Q'.length - 1) at_ (by omega), hat]; rfl
    refine R_run hg.ok 1000 rfl rfl ?_
    refine R_dropO 5 (pobjs Q' ++ [boxR t, .box (partA (t, at_ ++ [Q'.length - 1]))]) (by show φ.length ≤ _; omega) rfl ?_ ?_
    · show (pobjs Q').map _ ++ _ = _
      rw [pobjs_map rfl rfl]; rfl
    exact R_next (k + 1, Q', at_ ++ [Q'.length - 1]) ⟨hk1, hm, by simp [hat], by simp only; omega⟩ (by simp only; omega) ⟨.refl _, .refl _, .refl _, .refl _, .refl _, Ent.wrap (by simp only; omega) (by simp only; omega) (by simp only; omega), trivial⟩ rfl
  · have hk1 : t.l.length ≤ k := ge_dec h rfl
    rw [List.drop_eq_nil_of_le hk1] at hm hq
    rw [Tm.prtL] at hm
    rw [hm] at hpe
    simp only at hpe
    rw [hpe]
    refine R_appendO hg.ok (partRows (Q ++ [(t, at_)])) rfl rfl rfl rfl rfl rfl rfl rfl rfl (by simp) (by simp [one1]) (partRows_snoc Q (t, at_)) (by rw [partRows_len]; simp; omega) (by rw [partRows_len]; simp; omega) ?_
    refine R_run hg.ok 1000 rfl rfl ?_
    refine R_lenO hg.ok rfl rfl rfl rfl rfl (n := ((Q.length + 1 : Nat) : Int)) (by rw [partRows_len]; simp) ?_
    refine R_run hg.ok 1000 rfl rfl ?_
    rw [w64 (n := ((Q.length + 1 : Nat) : Int) - 1) (by omega) (by omega), show ((Q.length + 1 : Nat) : Int) - 1 = (((Q ++ [(t, at_)]).length - 1 : Nat) : Int) by simp]
    refine R_retS hg 3 5 (Nat.le_refl _) rfl rfl ?_
    rw [pobjs, show (Q ++ [(t, at_)]).length = Q.length + 1 by simp]
    rfl

set_option maxRecDepth 100000 in
theorem parts_ok (t : Tm) (hf : t.fairR = true) (hb : t.size ≤ 10000) : PCtr Try.prog 69 [t.av] (.d (.sl (partRows (Tm.prt t [])))) := by
  refine PCtr.of_R (pf := fun _ => .eff) tyOk mixed Try.func69 rfl (by kernel_rfl) (by kernel_rfl) (by simp [Try.ntmps69]) fun w S hg => ?_
  refine R_run hg.ok 6 rfl rfl ?_
  refine R_ownB 1 0 12 rfl rfl rfl ?_
  refine R_run hg.ok 1000 rfl rfl ?_
  have hcall := parts_walk ⟨[], fun _ => true⟩ _ t [] (Nat.le_refl _) hf (by simpa using hb)
  generalize Tm.prt t [] = Q at hcall ⊢
  refine R_callSO hg.ok hg.gup ⟨rfl, rfl⟩ (fun _ _ _ _ h => by cases h) [3, 1, 2] [boxR t, .box [.ow 2 Q.length], .arr 12 Q.length (partRows Q), .box [.clo 92 [] [.lo 3 0, .lo 1 0]]] hcall (fun _ => rfl) rfl rfl rfl rfl rfl rfl rfl rfl ?_
  refine R_run hg.ok 1000 rfl rfl ?_
  refine R_ret hg 5 rfl (sealA_ow rfl) ?_
  rfl
end Go.Proofs.Ytppghekipbnjhaa
