import Derived.Test.YtppghekipbnjhaaSEmbed2
namespace Go.Proofs.Ytppghekipbnjhaa
open Go PSL Go.Proofs

def pfEmb : Nat → Cls := fun f => bif Nat.beq f 70 then .look 0 else bif Nat.beq f 71 then .look 0 else bif Nat.beq f 4000100081 then .turn 100 else .still

set_option maxRecDepth 100000 in
theorem embIn_ok (a b : Tm) (ha : a.size < 1000000000) (na : ∀ e ∈ a.els 1, e.2.s.size < 1000000000) (hb : b.size < 1000000000) (nb : ∀ e ∈ b.els 1, e.2.s.size < 1000000000) : PCtr Try.prog 30 [a.av, b.av] (bV (a.rightB && b.rightB && Tm.emb b a)) := by
  refine PCtr.of_R (pf := pfEmb) tyOk mixed Try.func30 rfl (by kernel_rfl) (by kernel_rfl) (by simp [Try.ntmps30]) fun w S hg => ?_
  refine R_run hg.ok 1000 rfl rfl ?_
  refine R_call hg.ok (right_ok a ha na) rfl rfl rfl rfl rfl rfl ?_
  refine R_run hg.ok 1000 rfl rfl ?_
  rw [rightT_eq]
  refine R_if rfl rfl (fun h1 => ?_) (fun h1 => ?_) <;> refine R_run hg.ok 1000 rfl rfl ?_
  · refine R_ret hg 5 rfl rfl ?_
    rw [show a.rightB = false by simpa using h1]; rfl
  have h1 : a.rightB = true := by simpa using h1
  refine R_call hg.ok (right_ok b hb nb) rfl rfl rfl rfl rfl rfl ?_
  refine R_run hg.ok 1000 rfl rfl ?_
  rw [rightT_eq]
  refine R_if rfl rfl (fun h2 => ?_) (fun h2 => ?_) <;> refine R_run hg.ok 1000 rfl rfl ?_
  · refine R_ret hg 5 rfl rfl ?_
    rw [show b.rightB = false by simpa using h2, h1]; rfl
  have h2 : b.rightB = true := by simpa using h2
  have ra := Tm.rightB_iff.1 h1
  have rb := Tm.rightB_iff.1 h2
  rw [h1, h2, Bool.true_and, Bool.true_and]
  refine R_call hg.ok (parts_ok a ra.1 (by omega)) rfl rfl rfl rfl rfl rfl ?_
  refine R_run hg.ok 1000 rfl rfl ?_
  refine R_call hg.ok (parts_ok b rb.1 (by omega)) rfl rfl rfl rfl rfl rfl ?_
  refine R_run hg.ok 1000 rfl rfl ?_
  have gL := (Tm.prt_good a [] ra.1 Tm.Good.nil)
  have gM := (Tm.prt_good b [] rb.1 Tm.Good.nil)
  have lL := Tm.prt_len a []
  have lM := Tm.prt_len b []
  have pL := prt_pos a []
  have pM := prt_pos b []
  generalize Tm.prt a [] = L at gL lL pL ⊢
  generalize Tm.prt b [] = M at gM lM pM ⊢
  obtain ⟨gL, _, xa, eL⟩ := gL
  obtain ⟨gM, _, xb, eM⟩ := gM
  have last : embT L M (L.length - 1) (M.length - 1) = Tm.emb b a := embT_at eL eM
  obtain ⟨n, hn⟩ : ∃ n, n = L.length := ⟨_, rfl⟩
  obtain ⟨m, hm⟩ : ∃ m, m = M.length := ⟨_, rfl⟩
  simp only [List.length_nil, Nat.zero_add] at lL lM
  refine R_makeSlice hg.ok (nilRows n) rfl rfl rfl rfl rfl rfl (Int.natCast_nonneg _) (by rw [partRows_len]; omega) (by rw [partRows_len]; omega) (by rw [partRows_len, ← hn]; rfl) ?_
  refine R_run hg.ok 1000 rfl rfl ?_
  refine R_lenO hg.ok rfl rfl rfl rfl rfl (n := (n : Int)) (by simp [nilRows]) ?_
  refine R_run hg.ok 1000 rfl rfl ?_
  refine R_matNew rfl ?_
  refine R_cut2 (fun hds : List (Nat × Nat × Nat) => ([(5, .d (.sl (partRows L))), (6, .d (.sl (partRows M))), (7, .ow 2 0)], [boxR a, boxR b, .arr 1 0 (hdN hds m), .mat hds (tabD m n fun _ _ => false)])) (fun hds => hds.length = n) rfl ?_ ?_
  · refine R_loop (fun x : Nat × List (Nat × Nat × Nat) => ([(5, .d (.sl (partRows L))), (6, .d (.sl (partRows M))), (7, .ow 2 0), (29, iV n), (30, iV x.1)], [boxR a, boxR b, .arr 1 0 (hdN x.2 m ++ nilRows (n - x.1)), .mat x.2 (tabD m x.1 fun _ _ => false)])) (fun x => x.1 ≤ n ∧ x.2.length = x.1) (fun x => n - x.1) (0, []) ⟨Nat.zero_le _, rfl⟩ ⟨.refl _, .refl _, .refl _, .refl _, .refl _, trivial⟩ rfl ?_
    rintro ⟨k, hds⟩ ⟨hk, hh⟩
    simp only at hk hh
    refine R_run hg.ok 1000 rfl rfl ?_
    refine R_if rfl rfl (fun h => ?_) (fun h => ?_)
    · have hk1 : k < n := lt_dec h rfl
      refine R_run hg.ok 7 rfl rfl ?_
      refine R_halves 5 ?_
      refine R_run hg.ok 1000 rfl rfl ?_
      refine R_makeSlice hg.ok ((rowD m fun _ => false).map fun d => [d]) rfl rfl rfl rfl rfl rfl (Int.natCast_nonneg _) (by rw [partRows_len]; omega) (by rw [partRows_len]; omega) (by rw [partRows_len, ← hm]; exact rowD_false m) ?_
      refine R_run hg.ok 1000 rfl rfl ?_
      refine R_adopt 37 4 3 0 m (rowD m fun _ => false) rfl rfl rfl (fun h => by have := congrArg List.length h; rw [List.length_map, rowD_len, List.length_nil] at this; omega) rfl (rowD_len _ _) rfl fun x => ?_
      refine R_mark ?_
      refine R_run hg.ok 1000 rfl rfl ?_
      refine R_indexO hg.ok rfl rfl rfl rfl rfl rfl rfl rfl rfl (Int.natCast_nonneg k) (by simp [nilRows, hdN_len]; omega) ?_
      refine R_run hg.ok 1000 rfl rfl ?_
      refine R_storeEO hg.ok (hdN (hds ++ [x]) m ++ nilRows (n - (k + 1))) rfl rfl rfl rfl rfl (row := [.v (.slice none 0 0)]) ?_ rfl rfl rfl (by decide) (hdNil_set hh hk1) ?_
      · show (hdN hds m ++ nilRows (n - k))[k]? = _
        rw [List.getElem?_append_right (by rw [hdN_len]; omega), hdN_len, hh, Nat.sub_self, nilRows, List.getElem?_replicate, if_pos (by omega)]
      refine R_run hg.ok 1000 rfl rfl ?_
      refine R_dropO 4 [boxR a, boxR b, .arr 1 0 (hdN (hds ++ [x]) m ++ nilRows (n - (k + 1))), .mat (hds ++ [x]) (tabD m (k + 1) fun _ _ => false)] (Nat.zero_le _) rfl (by rw [← tabD_snoc]; rfl) ?_
      exact R_next (k + 1, hds ++ [x]) ⟨hk1, by simp [hh]⟩ (by simp only; omega) ⟨.refl _, .refl _, .refl _, .refl _, Ent.wrap (by simp only; omega) (by simp only; omega) (by simp only; omega), trivial⟩ rfl
    · refine R_run hg.ok 1000 rfl rfl ?_
      have hk1 : n ≤ k := ge_dec h rfl
      have e : k = n := by omega
      subst e
      refine R_to hds hh ⟨.refl _, .refl _, .refl _, trivial⟩ ?_
      rw [Nat.sub_self, nilRows, List.replicate_zero, List.append_nil]
      rfl
  rintro hds hh
  have hy : ∀ i, i < n → ∃ y, hds[i]? = some y := fun i hi => ⟨_, List.getElem?_eq_getElem (by omega)⟩
  refine R_run hg.ok 1000 rfl rfl ?_
  refine R_loop (fun x : Nat × (Nat → Nat → Bool) => ([(5, .d (.sl (partRows L))), (6, .d (.sl (partRows M))), (7, .ow 2 0), (40, .d (.sl (partRows M))), (41, iV m), (42, iV x.1)], [boxR a, boxR b, .arr 1 0 (hdN hds m), .mat hds (tabD m n x.2)])) (fun x => x.1 ≤ m ∧ ∀ i < n, ∀ j < x.1, x.2 i j = embT L M i j) (fun x => m - x.1) (0, fun _ _ => false) ⟨Nat.zero_le _, fun _ _ _ h => absurd h (Nat.not_lt_zero _)⟩ ⟨.refl _, .refl _, .refl _, .refl _, Ent.int (by rw [partRows_len, hm]), .refl _, trivial⟩ rfl ?_
  rintro ⟨k, c⟩ ⟨hk, hc⟩
  simp only at hk hc
  refine R_run hg.ok 1000 rfl rfl ?_
  refine R_if rfl rfl (fun h => ?_) (fun h => ?_) <;> refine R_run hg.ok 1000 rfl rfl ?_
  · have hk1 : k < m := lt_dec h rfl
    obtain ⟨y, ey⟩ : ∃ y, M[k]? = some y := ⟨_, List.getElem?_eq_getElem (by omega)⟩
    obtain ⟨fy, ly, _⟩ := gM k y.1 y.2 ey
    refine R_index hg.ok rfl rfl rfl rfl rfl rfl (Int.natCast_nonneg _) (partRows_get ey) rfl ?_
    refine R_run hg.ok 1000 rfl rfl ?_
    refine R_loop (fun x : Nat × (Nat → Nat → Bool) => ([(5, .d (.sl (partRows L))), (6, .d (.sl (partRows M))), (7, .ow 2 0), (9, iV k), (10, .lo 4 0), (40, .d (.sl (partRows M))), (41, iV m), (42, iV k), (47, .d (.sl (partRows L))), (48, iV n), (49, iV x.1)], [boxR a, boxR b, .arr 1 0 (hdN hds m), .mat hds (tabD m n x.2), .box (partA y)])) (fun x => x.1 ≤ n ∧ (∀ i < n, ∀ j < k, x.2 i j = embT L M i j) ∧ ∀ i < x.1, x.2 i k = embT L M i k) (fun x => n - x.1) (0, c) ⟨Nat.zero_le _, hc, fun _ h => absurd h (Nat.not_lt_zero _)⟩ ⟨.refl _, .refl _, .refl _, .refl _, .refl _, .refl _, .refl _, .refl _, .refl _, Ent.int (by rw [partRows_len, hn]), .refl _, trivial⟩ rfl ?_
    rintro ⟨i, c1⟩ ⟨hi, hc1, hd1⟩
    simp only at hi hc1 hd1
    refine R_run hg.ok 1000 rfl rfl ?_
    refine R_if rfl rfl (fun h => ?_) (fun h => ?_) <;> refine R_run hg.ok 1000 rfl rfl ?_
    · have hi1 : i < n := lt_dec h rfl
      obtain ⟨x, ex⟩ : ∃ x, L[i]? = some x := ⟨_, List.getElem?_eq_getElem (by omega)⟩
      obtain ⟨fx, lx, _⟩ := gL i x.1 x.2 ex
      obtain ⟨yi, hyi⟩ := hy i hi1
      have hcc := couples_ok n m c1 x y fx fy lx ly (by rw [hm]; exact coup_table gL gM hn.symm ex ey hc1)
      have hdd := dives_ok n m i c1 x.1 y fy ly hi1 (by rw [hm]; exact dive_table gM hn.symm ex ey hc1)
      have ee : embT L M i k = (Tm.coup y.1 x.1 || Tm.embAny y.1.l x.1) := by rw [embT_at ex ey, Tm.emb_eq]
      have upd : ∀ v : Bool, v = (Tm.coup y.1 x.1 || Tm.embAny y.1.l x.1) → (∀ a < n, ∀ b < k, upd2 c1 i k v a b = embT L M a b) ∧ ∀ a < i + 1, upd2 c1 i k v a k = embT L M a k := fun v hv => by
        refine ⟨fun a ha b hb => ?_, fun a ha => ?_⟩
        · unfold upd2
          split
          · rename_i e; subst e; unfold upd1; rw [if_neg (by omega)]; exact hc1 a ha b hb
          · exact hc1 a ha b hb
        · unfold upd2
          split
          · rename_i e; subst e; unfold upd1; rw [if_pos rfl, hv, ee]
          · exact hd1 a (by omega)
      have hrows := hdRows_N (n := m) (k := n) (c := c1) hh
      refine R_index hg.ok rfl rfl rfl rfl rfl rfl (Int.natCast_nonneg _) (partRows_get ex) rfl ?_
      refine R_run hg.ok 1000 rfl rfl ?_
      refine R_indexO hg.ok rfl rfl rfl rfl rfl rfl rfl rfl rfl (Int.natCast_nonneg i) (by rw [hdN_len]; simp; omega) ?_
      refine R_run hg.ok 1000 rfl rfl ?_
      refine R_loadE hg.ok rfl rfl rfl rfl rfl rfl (hdN_get hyi) rfl ?_
      refine R_run hg.ok 1000 rfl rfl ?_
      refine R_callM hg.ok hg.gup hcc 2 0 3 rfl rfl rfl rfl (by rw [hrows]; rfl) rfl rfl rfl ?_
      refine R_run hg.ok 1000 rfl rfl ?_
      refine R_if rfl rfl (fun g1 => ?_) (fun g1 => ?_) <;> refine R_run hg.ok 1000 rfl rfl ?_
      · refine R_indexM hg.ok (y := yi) (len := m) rfl rfl rfl rfl rfl rfl rfl (Int.natCast_nonneg k) (by simpa using hk1) ?_
        refine R_run hg.ok 1000 rfl rfl ?_
        refine R_storeM hg.ok 3 i (.v (.bool true)) rfl rfl rfl rfl rfl rfl hyi (tabD_get hi1) (by rw [rowD_len]; exact hk1) rfl rfl ?_
        refine R_run hg.ok 1000 rfl rfl ?_
        refine R_dropO 5 [boxR a, boxR b, .arr 1 0 (hdN hds m), .mat hds (tabD m n (upd2 c1 i k true)), .box (partA y)] (Nat.zero_le _) rfl (by rw [← tabD_set]; rfl) ?_
        obtain ⟨u1, u2⟩ := upd true (by rw [g1]; rfl)
        exact R_next (i + 1, upd2 c1 i k true) ⟨hi1, u1, u2⟩ (by simp only; omega) ⟨.refl _, .refl _, .refl _, .refl _, .refl _, .refl _, .refl _, .refl _, .refl _, .refl _, Ent.wrap (by simp only; omega) (by simp only; omega) (by simp only; omega), trivial⟩ rfl
      · refine R_callM hg.ok hg.gup hdd 2 0 3 rfl rfl rfl rfl (by rw [hrows]; rfl) rfl rfl rfl ?_
        refine R_run hg.ok 1000 rfl rfl ?_
        refine R_indexM hg.ok (y := yi) (len := m) rfl rfl rfl rfl rfl rfl rfl (Int.natCast_nonneg k) (by simpa using hk1) ?_
        refine R_run hg.ok 1000 rfl rfl ?_
        refine R_storeM hg.ok 3 i (.v (.bool (Tm.embAny y.1.l x.1))) rfl rfl rfl rfl rfl rfl hyi (tabD_get hi1) (by rw [rowD_len]; exact hk1) rfl rfl ?_
        refine R_run hg.ok 1000 rfl rfl ?_
        refine R_dropO 5 [boxR a, boxR b, .arr 1 0 (hdN hds m), .mat hds (tabD m n (upd2 c1 i k (Tm.embAny y.1.l x.1))), .box (partA y)] (Nat.zero_le _) rfl (by rw [← tabD_set]; rfl) ?_
        obtain ⟨u1, u2⟩ := upd (Tm.embAny y.1.l x.1) (by rw [g1]; rfl)
        exact R_next (i + 1, upd2 c1 i k (Tm.embAny y.1.l x.1)) ⟨hi1, u1, u2⟩ (by simp only; omega) ⟨.refl _, .refl _, .refl _, .refl _, .refl _, .refl _, .refl _, .refl _, .refl _, .refl _, Ent.wrap (by simp only; omega) (by simp only; omega) (by simp only; omega), trivial⟩ rfl
    · have hi1 : n ≤ i := ge_dec h rfl
      refine R_dropO 4 [boxR a, boxR b, .arr 1 0 (hdN hds m), .mat hds (tabD m n c1)] (Nat.zero_le _) rfl rfl ?_
      refine R_next (k + 1, c1) ⟨hk1, fun a ha b hb => ?_⟩ (by simp only; omega) ⟨.refl _, .refl _, .refl _, .refl _, .refl _, Ent.wrap (by simp only; omega) (by simp only; omega) (by simp only; omega), trivial⟩ rfl
      by_cases e : b = k
      · subst e; exact hd1 a (by omega)
      · exact hc1 a ha b (by simp only at hb; omega)
  · have hk1 : m ≤ k := ge_dec h rfl
    obtain ⟨yn, hyn⟩ := hy (n - 1) (by omega)
    rw [partRows_len, ← hn, w64 (n := (n : Int) - 1) (by omega) (by omega), show (n : Int) - 1 = ((n - 1 : Nat) : Int) by omega]
    refine R_indexO hg.ok rfl rfl rfl rfl rfl rfl rfl rfl rfl (Int.natCast_nonneg (n - 1)) (by rw [hdN_len]; simp; omega) ?_
    refine R_run hg.ok 1000 rfl rfl ?_
    refine R_loadE hg.ok rfl rfl rfl rfl rfl rfl (hdN_get hyn) rfl ?_
    refine R_run hg.ok 1000 rfl rfl ?_
    rw [partRows_len, ← hm, w64 (n := (m : Int) - 1) (by omega) (by omega), show (m : Int) - 1 = ((m - 1 : Nat) : Int) by omega]
    refine R_indexM hg.ok (y := yn) (len := m) rfl rfl rfl rfl rfl rfl rfl (Int.natCast_nonneg (m - 1)) (by simp; omega) ?_
    refine R_run hg.ok 1000 rfl rfl ?_
    refine R_loadM hg.ok 3 (n - 1) (.v (.bool (c (n - 1) (m - 1)))) rfl rfl rfl rfl rfl rfl rfl rfl hyn (tabD_get (by omega)) (rowD_get (by omega)) ?_
    refine R_run hg.ok 1000 rfl rfl ?_
    refine R_ret hg 5 rfl rfl ?_
    rw [hc (n - 1) (by omega) (m - 1) (by omega), hn, hm, last]; rfl
end Go.Proofs.Ytppghekipbnjhaa
