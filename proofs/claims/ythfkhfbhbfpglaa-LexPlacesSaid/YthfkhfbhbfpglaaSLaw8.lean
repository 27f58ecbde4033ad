import Derived.Test.YthfkhfbhbfpglaaSRef8e
namespace Go.Proofs.Ythfkhfbhbfpglaa
open Go PSL Go.Proofs

theorem tkRows_get {l : List Tk} {i : Nat} {t : Tk} (h : l[i]? = some t) : (tkRows l)[i]? = some (tkD t) := by simp [tkRows, h]

def pfSame8 : Nat → Cls := fun f => bif Nat.beq f 4000000006 then .turn 200 else bif Nat.beq f 4000100033 then .look 200 else bif Nat.beq f 4900100006 then .turn 100 else .still

set_option maxRecDepth 100000 in
theorem same8_ok (l : List Tk) (hl : l.length ≤ 9000) (hb : ∀ t ∈ l, -1 ≤ t.at_ ∧ t.at_ ≤ 10000) : PCtr Try.prog 13 [.d (.sl (tkRows l)), .d (.sl (tkRows l)), iV 0, iV 0] (bV true) := by
  refine PCtr.of_R (pf := pfSame8) tyOk mixed Try.func13 rfl (by kernel_rfl) (by kernel_rfl) (by simp [Try.ntmps13]) fun w S hg => ?_
  refine R_run hg.ok 1000 rfl rfl ?_
  have hn : (tkRows l).length = l.length := tkRows_len l
  rw [w64 (n := ((tkRows l).length : Int) + 0) (by omega) (by omega)]
  refine R_if rfl rfl (fun h => absurd h (by simp)) (fun _ => ?_) <;> refine R_run hg.ok 1000 rfl rfl ?_
  refine R_loop (fun k : Nat => ([(0, .d (.sl (tkRows l))), (1, .d (.sl (tkRows l))), (2, iV 0), (3, iV 0), (9, iV k)], [])) (fun k => k ≤ l.length) (fun k => l.length - k) 0 (Nat.zero_le _) ⟨.refl _, .refl _, .refl _, .refl _, .refl _, trivial⟩ rfl ?_
  rintro k hk
  refine R_run hg.ok 1000 rfl rfl ?_
  refine R_if rfl rfl (fun h => ?_) (fun h => ?_) <;> refine R_run hg.ok 1000 rfl rfl ?_
  · have hk1 : k < l.length := lt_dec h (by rw [tkRows_len])
    have e1 : l[k]? = some l[k] := List.getElem?_eq_getElem hk1
    have hbk := hb l[k] (List.getElem_mem hk1)
    generalize l[k] = t at e1 hbk
    refine R_pair hg.ok 10 (by kernel_rfl) (by kernel_rfl) ?_ ?_
    · refine R_run hg.ok 1000 rfl rfl ?_
      rw [w64 (n := (0 : Int) + (k : Int)) (by omega) (by omega), Int.zero_add]
      refine R_index hg.ok rfl rfl rfl rfl rfl rfl (Int.natCast_nonneg k) (tkRows_get e1) rfl ?_
      refine R_run hg.ok 1000 rfl rfl ?_
      refine R_index hg.ok rfl rfl rfl rfl rfl rfl (Int.natCast_nonneg k) (tkRows_get e1) rfl ?_
      refine R_run hg.ok 1000 rfl rfl ?_
      refine R_loadD hg.ok rfl rfl rfl rfl rfl ?_
      refine R_run hg.ok 1000 rfl rfl ?_
      refine R_if rfl rfl (fun h => absurd h (by simp)) (fun _ => ?_) <;> refine R_run hg.ok 1000 rfl rfl ?_
      refine R_if rfl rfl (fun h => absurd h (by simp [strEq])) (fun _ => ?_) <;> refine R_run hg.ok 1000 rfl rfl ?_
      refine R_if rfl rfl (fun h => absurd h (by simp)) (fun _ => ?_) <;> refine R_run hg.ok 1000 rfl rfl ?_
      rw [w64 (n := t.at_ + 0) (by omega) (by omega)]
      refine R_if rfl rfl (fun h => absurd h (by simp)) (fun _ => ?_) <;> refine R_run hg.ok 1000 rfl rfl ?_
      refine R_if rfl rfl (fun h => absurd h (by simp)) (fun _ => ?_) <;> refine R_run hg.ok 1000 rfl rfl ?_
      refine R_dropO 0 [] (Nat.zero_le _) rfl rfl ?_
      exact R_next (k + 1) hk1 (by omega) ⟨.refl _, .refl _, .refl _, .refl _, Ent.wrap (by omega) (by omega) (by omega), trivial⟩ rfl
    · refine R_run hg.ok 1000 rfl rfl ?_
      rw [w64 (n := (0 : Int) + (k : Int)) (by omega) (by omega), Int.zero_add]
      refine R_index hg.ok rfl rfl rfl rfl rfl rfl (Int.natCast_nonneg k) (tkRows_get e1) rfl ?_
      refine R_run hg.ok 1000 rfl rfl ?_
      refine R_index hg.ok rfl rfl rfl rfl rfl rfl (Int.natCast_nonneg k) (tkRows_get e1) rfl ?_
      refine R_run hg.ok 1000 rfl rfl ?_
      refine R_loadD hg.ok rfl rfl rfl rfl rfl ?_
      refine R_run hg.ok 1000 rfl rfl ?_
      refine R_if rfl rfl (fun h => absurd h (by simp)) (fun _ => ?_) <;> refine R_run hg.ok 1000 rfl rfl ?_
      refine R_if rfl rfl (fun h => absurd h (by simp [strEq])) (fun _ => ?_) <;> refine R_run hg.ok 1000 rfl rfl ?_
      refine R_if rfl rfl (fun h => absurd h (by simp)) (fun _ => ?_) <;> refine R_run hg.ok 1000 rfl rfl ?_
      rw [w64 (n := t.at_ + 0) (by omega) (by omega)]
      refine R_if rfl rfl (fun h => absurd h (by simp)) (fun _ => ?_) <;> refine R_run hg.ok 1000 rfl rfl ?_
      refine R_if rfl rfl (fun h => absurd h (by simp)) (fun _ => ?_) <;> refine R_run hg.ok 1000 rfl rfl ?_
      refine R_dropO 0 [] (Nat.zero_le _) rfl rfl ?_
      exact R_next (k + 1) hk1 (by omega) ⟨.refl _, .refl _, .refl _, .refl _, Ent.wrap (by omega) (by omega) (by omega), trivial⟩ rfl
  · refine R_ret hg 5 rfl rfl ?_
    rfl

def know1 : Bs := [102, 40, 88, 49, 41, 46, 32, 97, 61, 46, 98]

def know2 : Bs := [97, 32, 1]

theorem know1_toks : tokT know1 = ([⟨1, [102], 0, 0, true⟩, ⟨4, [40], 0, 1, false⟩, ⟨2, [88, 49], 0, 2, false⟩, ⟨4, [41], 0, 4, false⟩, ⟨5, [46], 0, 5, false⟩, ⟨1, [97], 0, 7, false⟩, ⟨1, [61, 46], 0, 8, false⟩, ⟨1, [98], 0, 10, false⟩], 0, 0) := by decide +kernel

theorem know2_toks : tokT know2 = ([], 2, 2) := by decide +kernel

set_option maxRecDepth 100000 in
theorem knows8_ok : PCtr Try.prog 10 [] (bV true) := by
  have h1 := tokens_ok know1 (by decide)
  have h2 := tokens_ok know2 (by decide)
  unfold tokR at h1 h2
  rw [know1_toks] at h1
  rw [know2_toks] at h2
  refine PCtr.of_R (pf := fun _ => .still) tyOk mixed Try.func10 rfl (by kernel_rfl) (by kernel_rfl) (by simp [Try.ntmps10]) fun w S hg => ?_
  refine R_run hg.ok 1000 rfl rfl ?_
  refine R_call hg.ok (h1) rfl rfl rfl rfl rfl rfl ?_
  refine R_run hg.ok 1000 rfl rfl ?_
  refine R_call hg.ok (h2) rfl rfl rfl rfl rfl rfl ?_
  refine R_run hg.ok 1000 rfl rfl ?_
  refine R_if rfl rfl (fun _ => ?_) (fun h => absurd h (by decide +kernel)) <;> refine R_run hg.ok 1000 rfl rfl ?_
  refine R_index hg.ok rfl rfl rfl rfl rfl rfl (by decide) rfl rfl ?_
  refine R_run hg.ok 1000 rfl rfl ?_
  refine R_if rfl rfl (fun _ => ?_) (fun h => absurd h (by decide +kernel)) <;> refine R_run hg.ok 1000 rfl rfl ?_
  refine R_index hg.ok rfl rfl rfl rfl rfl rfl (by decide) rfl rfl ?_
  refine R_run hg.ok 1000 rfl rfl ?_
  refine R_if rfl rfl (fun _ => ?_) (fun h => absurd h (by decide +kernel)) <;> refine R_run hg.ok 1000 rfl rfl ?_
  refine R_index hg.ok rfl rfl rfl rfl rfl rfl (by decide) rfl rfl ?_
  refine R_run hg.ok 1000 rfl rfl ?_
  refine R_if rfl rfl (fun _ => ?_) (fun h => absurd h (by decide +kernel)) <;> refine R_run hg.ok 1000 rfl rfl ?_
  refine R_index hg.ok rfl rfl rfl rfl rfl rfl (by decide) rfl rfl ?_
  refine R_run hg.ok 1000 rfl rfl ?_
  refine R_if rfl rfl (fun _ => ?_) (fun h => absurd h (by decide +kernel)) <;> refine R_run hg.ok 1000 rfl rfl ?_
  refine R_index hg.ok rfl rfl rfl rfl rfl rfl (by decide) rfl rfl ?_
  refine R_run hg.ok 1000 rfl rfl ?_
  refine R_if rfl rfl (fun _ => ?_) (fun h => absurd h (by decide +kernel)) <;> refine R_run hg.ok 1000 rfl rfl ?_
  refine R_index hg.ok rfl rfl rfl rfl rfl rfl (by decide) rfl rfl ?_
  refine R_run hg.ok 1000 rfl rfl ?_
  repeat
    first
    | (refine R_if rfl rfl (fun _ => ?_) (fun h => absurd h (by decide +kernel)); refine R_run hg.ok 1000 rfl rfl ?_)
  refine R_ret hg 5 rfl rfl ?_
  rfl

theorem toks_in (f : Nat) : ∀ (L : Bs) (i : Nat) (l : List Tk), toks f L i = .ok l → ∀ t ∈ l, (i : Int) ≤ t.at_ ∧ t.at_ < L.length := by
  induction f with
  | zero => intro L i l h t ht; simp only [toks, Except.ok.injEq] at h; subst h; simp at ht
  | succ f ih =>
    intro L i l h t ht
    rw [toks_P] at h
    unfold toksP at h
    by_cases hlt : passN L i < L.length
    · rw [if_pos hlt] at h
      have hle : i ≤ passN L i := by
        by_cases hi : i ≤ L.length
        · exact (pass_le hi).1
        · unfold passN; omega
      cases hone : oneT L (passN L i) with
      | none => rw [hone] at h; cases h
      | some x =>
        obtain ⟨u, to⟩ := x
        rw [hone] at h
        have hto := oneT_to hone
        have hat := oneT_at hone
        simp only at h
        cases hr : toks f L to with
        | error j => rw [hr] at h; cases h
        | ok r =>
          rw [hr] at h
          simp only [Except.ok.injEq] at h
          subst h
          rcases List.mem_cons.1 ht with e | e
          · subst e; omega
          · have := ih L to r hr t e; omega
    · rw [if_neg hlt] at h
      simp only [Except.ok.injEq] at h; subst h; simp at ht

set_option maxRecDepth 100000 in
theorem lexCuts_ok (s : ByteArray) : PCtr Try.prog 3 [.d (.v (.string s))] (bV true) := by
  rw [← Tx_data s]
  generalize s.data.toList = L
  refine PCtr.of_R (pf := fun _ => .still) tyOk mixed Try.func3 rfl (by kernel_rfl) (by kernel_rfl) (by simp [Try.ntmps3]) fun w S hg => ?_
  refine R_run hg.ok 1000 rfl rfl ?_
  refine R_if rfl rfl (fun h => ?_) (fun h => ?_) <;> refine R_run hg.ok 1000 rfl rfl ?_
  · refine R_call hg.ok (knows8_ok) rfl rfl rfl rfl rfl rfl ?_
    refine R_run hg.ok 1000 rfl rfl ?_
    refine R_ret hg 5 rfl rfl ?_
    rfl
  have hL : L.length ≤ 9000 := by have := of_decide_eq_false h; rw [Tx_size] at this; omega
  have hat : ∀ t ∈ (tokT L).1, -1 ≤ t.at_ ∧ t.at_ ≤ 10000 := by
    unfold tokT
    split
    · simp
    · split
      · rename_i l hl
        intro t ht
        have := toks_in _ L 0 l hl t ht
        omega
      · simp
  have hlen : (tokT L).1.length ≤ 9000 := by
    unfold tokT
    split
    · simp
    · split
      · rename_i l hl
        exact Nat.le_trans (toks_len _ L 0 l hl) (by simpa using hL)
      · simp
  refine R_call hg.ok (tokens_ok L hL) rfl rfl rfl rfl rfl rfl ?_
  refine R_run hg.ok 1000 rfl rfl ?_
  refine R_call hg.ok (tokens8_ok L hL) rfl rfl rfl rfl rfl rfl ?_
  refine R_run hg.ok 1000 rfl rfl ?_
  refine R_call hg.ok (same8_ok (tokT L).1 hlen hat) rfl rfl rfl rfl rfl rfl ?_
  refine R_run hg.ok 1000 rfl rfl ?_
  repeat
    first
    | (refine R_if rfl rfl (fun _ => ?_) (fun h => absurd h (by first | (simp [hL]; done) | (simp [hL]; omega))); refine R_run hg.ok 1000 rfl rfl ?_)
    | (refine R_if rfl rfl (fun h => absurd h (by first | (simp [hL]; done) | (simp [hL]; omega))) (fun _ => ?_); refine R_run hg.ok 1000 rfl rfl ?_)
  refine R_call hg.ok (knows8_ok) rfl rfl rfl rfl rfl rfl ?_
  refine R_run hg.ok 1000 rfl rfl ?_
  refine R_ret hg 5 rfl rfl ?_
  rfl
end Go.Proofs.Ythfkhfbhbfpglaa
