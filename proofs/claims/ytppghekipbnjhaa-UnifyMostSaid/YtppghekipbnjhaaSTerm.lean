import Derived.Test.YtppghekipbnjhaaPlA
import Derived.Test.YtppghekipbnjhaaSTy
namespace Go.Proofs.Ytppghekipbnjhaa
open Go PSL Go.Proofs

def wobjs (n : Nat) : List Ob := [.yld n, .box [.yl 0], .box [.clo 101 [] [.lo 1 0, .lo 2 0]]]

set_option maxRecDepth 100000 in
theorem walk_ok (Y : YP) (t : Tm) : ∀ (d : Int) (n : Nat), 0 ≤ d → d + t.size < 4611686018427387904 → (∀ (i : Nat) (e : Int × Tm), (t.els d)[i]? = some e → Y.ys[n + i]? = some (Tm.enc e)) → (n = 0 ∨ Y.go n = true) →
    SCtr Try.prog Y 101 [t.av, iV d, .lo 1 0, .lo 2 0] (wobjs n) (bV (adv Y t.size n).2) (wobjs (adv Y t.size n).1) := by
  induction t using Tm.ind with
  | _ t ih =>
  intro d n hd0 hd hy hgo
  refine SCtr.of_R (pf := fun _ => .eff) tyOk mixed Try.func101 rfl (by kernel_rfl) (by kernel_rfl) (by simp [Try.ntmps101]) (by simp [wobjs]) fun w S φ hg => ?_
  refine R_run hg.ok 1000 rfl rfl ?_
  refine R_yield hg rfl rfl rfl rfl rfl rfl rfl (avs := [iV d, t.av]) ?_ hgo ?_
  · exact hy 0 (d, t) (by rw [Tm.els_eq]; rfl)
  refine R_run hg.ok 1000 rfl rfl ?_
  have hsz := Tm.size_eq t
  have hlen := Tm.len_le_sizeL t.l
  refine R_if rfl rfl (fun h1 => ?_) (fun h1 => ?_)
  · refine R_run hg.ok 1000 rfl rfl ?_
    have h1 : (!Y.go (n + 1)) = true := h1
    have h2 : Y.go (n + 1) = false := by simpa using h1
    have h3 : adv Y t.size n = (n + 1, false) := by rw [hsz, Nat.add_comm]; simp [adv, h2]
    refine R_retS hg 3 5 (Nat.le_refl _) rfl ?_ ?_
    · rw [h3]; rfl
    · rw [h3]; rfl
  have h1 : (!Y.go (n + 1)) = false := h1
  have h2 : Y.go (n + 1) = true := by simpa using h1
  refine R_run hg.ok 1000 rfl rfl ?_
  refine R_loop (fun k : Nat => ([(1, iV d), (2, .lo 1 0), (3, .lo 2 0), (4, .lo 3 0), (15, .d (.sl (Tm.rows t.l))), (16, iV (t.l.length : Int)), (17, iV k)], wobjs (n + (1 + Tm.sizeL (t.l.take k))) ++ [.box [.d (.v (.int .i64 t.k)), .d (.v (.string t.s)), .d (.v (.int .i64 t.n)), .d (.sl (Tm.rows t.l))]]))
    (fun k => k ≤ t.l.length ∧ adv Y (1 + Tm.sizeL (t.l.take k)) n = (n + (1 + Tm.sizeL (t.l.take k)), true)) (fun k => t.l.length - k) 0 ?_ ?_ ?_ ?_
  · refine ⟨Nat.zero_le _, ?_⟩
    simp [Tm.sizeL, adv, h2]
  · exact ⟨.refl _, .refl _, .refl _, .refl _, .refl _, Ent.int (by rw [Tm.rows_length]), .refl _, trivial⟩
  · rfl
  intro k hk
  refine R_run hg.ok 1000 rfl rfl ?_
  refine R_if rfl rfl (fun h1 => ?_) (fun h1 => ?_)
  · have hk1 : k < t.l.length := by have := of_decide_eq_true h1; omega
    have e1 : t.l[k]? = some t.l[k] := List.getElem?_eq_getElem hk1
    have hszk := Tm.sizeL_take_succ e1
    have hmem := Tm.size_mem (List.getElem_mem hk1)
    refine R_run hg.ok 1000 rfl rfl ?_
    refine R_index hg.ok rfl rfl rfl rfl rfl rfl (Int.natCast_nonneg k) (Tm.rows_get e1) rfl ?_
    refine R_run hg.ok 1000 rfl rfl ?_
    refine R_see 24 rfl (Ent.wrap rfl (by omega) (by omega)) ?_
    refine R_callS hg.ok hg.gup hg.wide hg.Y [0, 1, 2] (ih _ (List.getElem_mem hk1) (d + 1) (n + (1 + Tm.sizeL (t.l.take k))) (by omega) (by omega) ?_ ?_) (fun _ => rfl) rfl rfl rfl rfl rfl rfl rfl ?_
    · intro i e he
      have hlt := (List.getElem?_eq_some_iff.1 he).1
      have := hy (1 + Tm.sizeL (t.l.take k) + i) e (by
        rw [Tm.els_eq, show 1 + Tm.sizeL (t.l.take k) + i = Tm.sizeL (t.l.take k) + i + 1 by omega, List.getElem?_cons_succ]
        have hsplit : t.l = t.l.take k ++ (t.l[k] :: t.l.drop (k + 1)) := by rw [← List.drop_eq_getElem_cons hk1, List.take_append_drop]
        rw [hsplit, Tm.elsL_append, List.getElem?_append_right (by rw [Tm.elsL_len]; rw [← hsplit]; omega), Tm.elsL_len, ← hsplit]
        simp only [Tm.elsL]
        rw [List.getElem?_append_left (by omega), show Tm.sizeL (List.take k t.l) + i - Tm.sizeL (List.take k t.l) = i by omega]
        exact he)
      rw [show n + (1 + Tm.sizeL (t.l.take k)) + i = n + (1 + Tm.sizeL (t.l.take k) + i) by omega]; exact this
    · right
      exact (adv_true (by rw [hk.2])).2 (by omega)
    refine R_run hg.ok 1000 rfl rfl ?_
    have hle : Tm.sizeL t.l = Tm.sizeL (t.l.take k) + (t.l[k].size + Tm.sizeL (t.l.drop (k + 1))) := by
      conv => lhs; rw [← List.take_append_drop k t.l, List.drop_eq_getElem_cons hk1]
      rw [Tm.sizeL_append, Tm.sizeL]
    refine R_if rfl rfl (fun h3 => ?_) (fun h3 => ?_)
    · have h3 : (!(adv Y t.l[k].size (n + (1 + Tm.sizeL (t.l.take k)))).2) = true := h3
      have h4 : (adv Y t.l[k].size (n + (1 + Tm.sizeL (t.l.take k)))).2 = false := by simpa using h3
      refine R_run hg.ok 1000 rfl rfl ?_
      have h5 : adv Y t.size n = adv Y t.l[k].size (n + (1 + Tm.sizeL (t.l.take k))) := by
        rw [hsz, hle, ← Nat.add_assoc, adv_add_true hk.2, adv_add, if_neg (by rw [h4]; simp)]
      refine R_retS hg 3 5 (Nat.le_refl _) rfl ?_ ?_
      · rw [h5, h4]; rfl
      · rw [h5]; rfl
    have h3 : (!(adv Y t.l[k].size (n + (1 + Tm.sizeL (t.l.take k)))).2) = false := h3
    have h4 : (adv Y t.l[k].size (n + (1 + Tm.sizeL (t.l.take k)))).2 = true := by simpa using h3
    have h6 := adv_eq h4
    refine R_run hg.ok 1000 rfl rfl ?_
    refine R_drop 4 (by rw [hg.hs0.len]; simp [wobjs]) rfl ?_
    have h7 : n + (1 + Tm.sizeL (t.l.take (k + 1))) = n + (1 + Tm.sizeL (t.l.take k)) + t.l[k].size := by rw [hszk]; omega
    refine R_next (k + 1) ⟨hk1, ?_⟩ (by omega) ⟨.refl _, .refl _, .refl _, .refl _, .refl _, .refl _, Ent.wrap (by omega) (by omega) (by omega), trivial⟩ ?_
    · rw [hszk, ← Nat.add_assoc 1, adv_add_true hk.2, h6]; simp only [Nat.add_assoc]
    · rw [h6]; show _ = wobjs (n + (1 + Tm.sizeL (t.l.take (k + 1)))) ++ _; rw [h7]; rfl
  · refine R_run hg.ok 1000 rfl rfl ?_
    have h3 : ¬ ((k : Int) < (t.l.length : Int)) := of_decide_eq_false h1
    have hkl : k = t.l.length := by omega
    have h4 : adv Y t.size n = (n + (1 + Tm.sizeL (t.l.take k)), true) := by
      have := hk.2
      rw [hkl, List.take_length] at this ⊢
      rw [hsz]; exact this
    refine R_retS hg 3 5 (Nat.le_refl _) rfl ?_ ?_
    · rw [h4]; rfl
    · rw [h4]; rfl

set_option maxRecDepth 100000 in
theorem all_ok (Y : YP) (t : Tm) (n : Nat) (hd : t.size < 1000000000) (hy : ∀ (i : Nat) (e : Int × Tm), (t.els 1)[i]? = some e → Y.ys[n + i]? = some (Tm.enc e)) (hgo : n = 0 ∨ Y.go n = true) :
    SCtr Try.prog Y 91 [t.av, .yl 0] [.yld n] (bV (adv Y t.size n).2) [.yld (adv Y t.size n).1] := by
  refine SCtr.of_R (pf := fun _ => .eff) tyOk mixed Try.func91 rfl (by kernel_rfl) (by kernel_rfl) (by simp [Try.ntmps91]) (by simp) fun w S φ hg => ?_
  refine R_run hg.ok 1000 rfl rfl ?_
  refine R_callS hg.ok hg.gup hg.wide hg.Y [0, 2, 3] (walk_ok Y t 1 n (by omega) (by omega) hy hgo) (fun _ => rfl) rfl rfl rfl rfl rfl rfl rfl ?_
  refine R_run hg.ok 1000 rfl rfl ?_
  refine R_retS hg 1 5 (Nat.le_refl _) rfl ?_ ?_
  · rfl
  · rfl

set_option maxRecDepth 100000 in
theorem each1_ok (Y : YP) (t : Tm) (hd : t.size < 1000000000) (hy : ∀ (i : Nat) (e : Int × Tm), (t.els 1)[i]? = some e → Y.ys[i]? = some (Tm.enc e)) :
    SCtr Try.prog Y 90 [.yl 0, .d (.ptr (Tm.row t))] [.yld 0] (.tup []) [.yld (adv Y t.size 0).1] := by
  refine SCtr.of_R (pf := fun _ => .eff) tyOk mixed Try.func90 rfl (by kernel_rfl) (by kernel_rfl) (by simp [Try.ntmps90]) (by simp) fun w S φ hg => ?_
  refine R_run hg.ok 1000 rfl rfl ?_
  refine R_callS hg.ok hg.gup hg.wide hg.Y [0] (all_ok Y t 0 hd (by simpa using hy) (.inl rfl)) (fun _ => rfl) rfl rfl rfl rfl rfl rfl rfl ?_
  refine R_run hg.ok 1000 rfl rfl ?_
  refine R_endS hg 1 5 (Nat.le_refl _) rfl ?_ ?_
  · rfl
  · rfl

set_option maxRecDepth 100000 in
theorem each_ok (t : Tm) : PCtr Try.prog 65 [t.av] (.clo 90 [] [.d (.ptr (Tm.row t))]) := by
  refine PCtr.of_R (pf := fun _ => .still) tyOk mixed Try.func65 rfl (by kernel_rfl) (by kernel_rfl) (by simp [Try.ntmps65]) fun w S hg => ?_
  refine R_run hg.ok 1000 rfl rfl ?_
  refine R_ret hg 5 rfl rfl ?_
  rfl
end Go.Proofs.Ytppghekipbnjhaa
