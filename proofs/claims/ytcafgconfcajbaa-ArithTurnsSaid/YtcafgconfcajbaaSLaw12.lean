import Derived.Test.YtcafgconfcajbaaSArith4
namespace Go.Proofs.Ytcafgconfcajbaa
open Go PSL Go.Proofs

set_option maxRecDepth 100000 in
theorem two_ok (s : ByteArray) (a b : Int) : PCtr Try.prog 40 [.d (.v (.string s)), iV a, iV b] (twoT s a b).av := by
  refine PCtr.res ?_ (two_le s a b)
  refine PCtr.of_R (pf := fun _ => .still) tyOk mixed Try.func40 rfl (by kernel_rfl) (by kernel_rfl) (by simp [Try.ntmps40]) fun w S hg => ?_
  refine R_run hg.ok 1000 rfl rfl ?_
  refine R_ret hg 5 rfl rfl ?_
  rfl

set_option maxRecDepth 100000 in
theorem evalAllR_ok (t : Tm) (hf : t.Fit) (hs : t.size < 1000000000) (hn : ∀ x e, e ∈ t.els x → e.2.s.size < 1000000000) : PCtr Try.prog 39 [t.av] (.tup [iV (evalAll t).1, iV (evalAll t).2]) := by
  refine PCtr.of_R (pf := fun _ => .still) tyOk mixed Try.func39 rfl (by kernel_rfl) (by kernel_rfl) (by simp [Try.ntmps39]) fun w S hg => ?_
  refine R_run hg.ok 1000 rfl rfl ?_
  refine R_call hg.ok (refRight_ok t hs hn) rfl rfl rfl rfl rfl rfl ?_
  refine R_run hg.ok 1000 rfl rfl ?_
  refine R_if rfl rfl (fun h => ?_) (fun h => ?_) <;> refine R_run hg.ok 1000 rfl rfl ?_
  · refine R_ret hg 5 rfl rfl ?_
    unfold evalAll; rw [if_neg (by simpa using h)]; rfl
  · refine R_call hg.ok (evalR_ok t hf) rfl rfl rfl rfl rfl rfl ?_
    refine R_run hg.ok 1000 rfl rfl ?_
    refine R_ret hg 5 rfl rfl ?_
    unfold evalAll; rw [if_pos (by simpa using h)]; rfl

theorem eval2_ok {s : ByteArray} (h : isOp s = true) (a b : Int) (ha : I64 a) (hb : I64 b) : PCtr Try.prog 38 [(twoT s a b).av] (.tup [iV (outX (doX s a b)).1, iV (outX (doX s a b)).2]) := by
  have hr := right_fair (twoT_right h a b)
  have := evalE_ok (twoT s a b) (twoT_fit ha hb) (by simp [twoT, Tm.size, Tm.sizeL]) (fun e he => fair_names hr 1 e he)
  rwa [evalAll_two h] at this

set_option maxRecDepth 100000 in
theorem compareR_ok (s : ByteArray) (a b : Int) (ha : I64 a) (hb : I64 b) : PCtr Try.prog 43 [.d (.v (.string s)), iV a, iV b] (.tup [bV (cmpX s a b).1, iV (cmpX s a b).2]) := by
  unfold I64 at ha hb
  have hw : (IntKind.i64.wrap (a - b) == 0) = (a == b) := by
    rw [Bool.eq_iff_iff, wrapI]; simp only [beq_iff_eq]; split <;> omega
  have hlt : decide (b < a) = decide (a > b) := rfl
  refine PCtr.of_R (pf := fun _ => .still) tyOk mixed Try.func43 rfl (by kernel_rfl) (by kernel_rfl) (by simp [Try.ntmps43]) fun w S hg => ?_
  refine R_run hg.ok 1000 rfl rfl ?_
  rcases cmp_cases s with rfl | rfl | rfl | rfl | rfl | rfl | ⟨n1, n2, n3, n4, n5, n6⟩
  · repeat
      first
      | (refine R_if rfl rfl (fun _ => ?_) (fun h => absurd (h.symm.trans (Tm.strEq_iff.2 rfl)) (by simp)); refine R_run hg.ok 1000 rfl rfl ?_)
      | (refine R_if rfl rfl (fun h => absurd (Tm.strEq_iff.1 h) (by decide)) (fun _ => ?_); refine R_run hg.ok 1000 rfl rfl ?_)
    refine R_ret hg 5 rfl rfl ?_
    rw [show cmpX _ a b = (a == b, 0) by unfold cmpX; simp [Tm.strEq_iff]]
    simp only [strSelf, strNe (show (⟨#[61, 92, 61]⟩ : ByteArray) ≠ ⟨#[61, 58, 61]⟩ by decide), strNe (show (⟨#[62, 61]⟩ : ByteArray) ≠ ⟨#[60]⟩ by decide), strNe (show (⟨#[61, 60]⟩ : ByteArray) ≠ ⟨#[62]⟩ by decide), hw]
    refine congrArg (fun x => AV.tup [bV x, iV 0]) ?_
    rw [Bool.eq_iff_iff]; simp
  · repeat
      first
      | (refine R_if rfl rfl (fun _ => ?_) (fun h => absurd (h.symm.trans (Tm.strEq_iff.2 rfl)) (by simp)); refine R_run hg.ok 1000 rfl rfl ?_)
      | (refine R_if rfl rfl (fun h => absurd (Tm.strEq_iff.1 h) (by decide)) (fun _ => ?_); refine R_run hg.ok 1000 rfl rfl ?_)
    refine R_ret hg 5 rfl rfl ?_
    rw [show cmpX _ a b = (a != b, 0) by unfold cmpX; simp [Tm.strEq_iff]]
    simp only [strSelf, strNe (show (⟨#[61, 92, 61]⟩ : ByteArray) ≠ ⟨#[61, 58, 61]⟩ by decide), strNe (show (⟨#[62, 61]⟩ : ByteArray) ≠ ⟨#[60]⟩ by decide), strNe (show (⟨#[61, 60]⟩ : ByteArray) ≠ ⟨#[62]⟩ by decide), hw]
    refine congrArg (fun x => AV.tup [bV x, iV 0]) ?_
    rw [Bool.eq_iff_iff]; simp
  · repeat
      first
      | (refine R_if rfl rfl (fun _ => ?_) (fun h => absurd (h.symm.trans (Tm.strEq_iff.2 rfl)) (by simp)); refine R_run hg.ok 1000 rfl rfl ?_)
      | (refine R_if rfl rfl (fun h => absurd (Tm.strEq_iff.1 h) (by decide)) (fun _ => ?_); refine R_run hg.ok 1000 rfl rfl ?_)
    refine R_ret hg 5 rfl rfl ?_
    rw [show cmpX _ a b = (decide (a < b), 0) by unfold cmpX; simp [Tm.strEq_iff]]
    simp only [strSelf, strNe (show (⟨#[61, 92, 61]⟩ : ByteArray) ≠ ⟨#[61, 58, 61]⟩ by decide), strNe (show (⟨#[62, 61]⟩ : ByteArray) ≠ ⟨#[60]⟩ by decide), strNe (show (⟨#[61, 60]⟩ : ByteArray) ≠ ⟨#[62]⟩ by decide), hw]
    refine congrArg (fun x => AV.tup [bV x, iV 0]) ?_
    rw [Bool.eq_iff_iff]; simp
  · repeat
      first
      | (refine R_if rfl rfl (fun _ => ?_) (fun h => absurd (h.symm.trans (Tm.strEq_iff.2 rfl)) (by simp)); refine R_run hg.ok 1000 rfl rfl ?_)
      | (refine R_if rfl rfl (fun h => absurd (Tm.strEq_iff.1 h) (by decide)) (fun _ => ?_); refine R_run hg.ok 1000 rfl rfl ?_)
    refine R_ret hg 5 rfl rfl ?_
    rw [show cmpX _ a b = (decide (a > b), 0) by unfold cmpX; simp [Tm.strEq_iff]]
    simp only [strSelf, strNe (show (⟨#[61, 92, 61]⟩ : ByteArray) ≠ ⟨#[61, 58, 61]⟩ by decide), strNe (show (⟨#[62, 61]⟩ : ByteArray) ≠ ⟨#[60]⟩ by decide), strNe (show (⟨#[61, 60]⟩ : ByteArray) ≠ ⟨#[62]⟩ by decide), hw]
    refine congrArg (fun x => AV.tup [bV x, iV 0]) ?_
    rw [Bool.eq_iff_iff]; simp
  · repeat
      first
      | (refine R_if rfl rfl (fun _ => ?_) (fun h => absurd (h.symm.trans (Tm.strEq_iff.2 rfl)) (by simp)); refine R_run hg.ok 1000 rfl rfl ?_)
      | (refine R_if rfl rfl (fun h => absurd (Tm.strEq_iff.1 h) (by decide)) (fun _ => ?_); refine R_run hg.ok 1000 rfl rfl ?_)
    refine R_ret hg 5 rfl rfl ?_
    rw [show cmpX _ a b = (decide (a ≤ b), 0) by unfold cmpX; simp [Tm.strEq_iff]]
    simp only [strSelf, strNe (show (⟨#[61, 92, 61]⟩ : ByteArray) ≠ ⟨#[61, 58, 61]⟩ by decide), strNe (show (⟨#[62, 61]⟩ : ByteArray) ≠ ⟨#[60]⟩ by decide), strNe (show (⟨#[61, 60]⟩ : ByteArray) ≠ ⟨#[62]⟩ by decide), hw]
    refine congrArg (fun x => AV.tup [bV x, iV 0]) ?_
    rw [Bool.eq_iff_iff]; simp
  · repeat
      first
      | (refine R_if rfl rfl (fun _ => ?_) (fun h => absurd (h.symm.trans (Tm.strEq_iff.2 rfl)) (by simp)); refine R_run hg.ok 1000 rfl rfl ?_)
      | (refine R_if rfl rfl (fun h => absurd (Tm.strEq_iff.1 h) (by decide)) (fun _ => ?_); refine R_run hg.ok 1000 rfl rfl ?_)
    refine R_ret hg 5 rfl rfl ?_
    rw [show cmpX _ a b = (decide (a ≥ b), 0) by unfold cmpX; simp [Tm.strEq_iff]]
    simp only [strSelf, strNe (show (⟨#[61, 92, 61]⟩ : ByteArray) ≠ ⟨#[61, 58, 61]⟩ by decide), strNe (show (⟨#[62, 61]⟩ : ByteArray) ≠ ⟨#[60]⟩ by decide), strNe (show (⟨#[61, 60]⟩ : ByteArray) ≠ ⟨#[62]⟩ by decide), hw]
    refine congrArg (fun x => AV.tup [bV x, iV 0]) ?_
    rw [Bool.eq_iff_iff]; simp
  · refine R_if rfl rfl (fun h => absurd (Tm.strEq_iff.1 h) n3) (fun _ => ?_) <;> refine R_run hg.ok 1000 rfl rfl ?_
    refine R_if rfl rfl (fun h => absurd (Tm.strEq_iff.1 h) n6) (fun _ => ?_) <;> refine R_run hg.ok 1000 rfl rfl ?_
    refine R_if rfl rfl (fun h => absurd (Tm.strEq_iff.1 h) n4) (fun _ => ?_) <;> refine R_run hg.ok 1000 rfl rfl ?_
    refine R_if rfl rfl (fun h => absurd (Tm.strEq_iff.1 h) n5) (fun _ => ?_) <;> refine R_run hg.ok 1000 rfl rfl ?_
    refine R_if rfl rfl (fun h => absurd (Tm.strEq_iff.1 h) n1) (fun _ => ?_) <;> refine R_run hg.ok 1000 rfl rfl ?_
    refine R_if rfl rfl (fun h => absurd (Tm.strEq_iff.1 h) n2) (fun _ => ?_) <;> refine R_run hg.ok 1000 rfl rfl ?_
    refine R_ret hg 5 rfl rfl ?_
    rw [show cmpX s a b = (false, 1) by unfold cmpX; simp [Tm.strEq_iff, n1, n2, n3, n4, n5, n6]]; rfl

set_option maxRecDepth 100000 in
theorem knows12_ok : PCtr Try.prog 37 [] (bV true) := by
  have i7 : I64 (-7) := by unfold I64; omega
  have i2 : I64 2 := by unfold I64; omega
  have i1 : I64 1 := by unfold I64; omega
  have i0 : I64 0 := by unfold I64; omega
  have h1 := eval2_ok (s := sQuo) (opsL_op _ (by simp [opsL])) (-7) 2 i7 i2
  rw [show outX (doX sQuo (-7) 2) = (-3, 0) by rw [doX_quo]; rfl] at h1
  have h2 := eval2_ok (s := sMod) (opsL_op _ (by simp [opsL])) (-7) 2 i7 i2
  rw [show outX (doX sMod (-7) 2) = (1, 0) by rw [doX_mod]; rfl] at h2
  have h3 := eval2_ok (s := sMod) (opsL_op _ (by simp [opsL])) 1 0 i1 i0
  rw [show outX (doX sMod 1 0) = (0, 6) by rw [doX_mod]; rfl] at h3
  have h4 := compareX_ok ⟨#[61, 60]⟩ 2 2
  rw [show cmpX ⟨#[61, 60]⟩ 2 2 = (true, 0) by unfold cmpX; simp [Tm.strEq_iff]] at h4
  refine PCtr.of_R (pf := fun _ => .still) tyOk mixed Try.func37 rfl (by kernel_rfl) (by kernel_rfl) (by simp [Try.ntmps37]) fun w S hg => ?_
  refine R_run hg.ok 1000 rfl rfl ?_
  refine R_call hg.ok (two_ok sQuo (-7) 2) rfl rfl rfl rfl rfl rfl ?_
  refine R_run hg.ok 1000 rfl rfl ?_
  refine R_call hg.ok (h1) rfl rfl rfl rfl rfl rfl ?_
  refine R_run hg.ok 1000 rfl rfl ?_
  refine R_call hg.ok (two_ok sMod (-7) 2) rfl rfl rfl rfl rfl rfl ?_
  refine R_run hg.ok 1000 rfl rfl ?_
  refine R_call hg.ok (h2) rfl rfl rfl rfl rfl rfl ?_
  refine R_run hg.ok 1000 rfl rfl ?_
  refine R_call hg.ok (two_ok sMod 1 0) rfl rfl rfl rfl rfl rfl ?_
  refine R_run hg.ok 1000 rfl rfl ?_
  refine R_call hg.ok (h3) rfl rfl rfl rfl rfl rfl ?_
  refine R_run hg.ok 1000 rfl rfl ?_
  refine R_call hg.ok (h4) rfl rfl rfl rfl rfl rfl ?_
  refine R_run hg.ok 1000 rfl rfl ?_
  repeat (refine R_if rfl rfl (fun _ => ?_) (fun h => absurd h (by decide)); refine R_run hg.ok 1000 rfl rfl ?_)
  refine R_ret hg 5 rfl rfl ?_
  rfl

set_option maxRecDepth 100000 in
theorem arithEvals_ok (t : Tm) (ht : t.Ok) (hf : t.Fit) : PCtr Try.prog 10 [t.av] (bV true) := by
  refine PCtr.of_R (pf := fun _ => .still) tyOk mixed Try.func10 rfl (by kernel_rfl) (by kernel_rfl) (by simp [Try.ntmps10]) fun w S hg => ?_
  refine R_run hg.ok 1000 rfl rfl ?_
  refine R_call hg.ok ((some_ok [t] (by simp; exact ht) (by simp)).one) rfl rfl rfl rfl rfl rfl ?_
  refine R_run hg.ok 1000 rfl rfl ?_
  refine R_if rfl rfl (fun h => ?_) (fun h => ?_) <;> refine R_run hg.ok 1000 rfl rfl ?_
  · refine R_call hg.ok (knows12_ok) rfl rfl rfl rfl rfl rfl ?_
    refine R_run hg.ok 1000 rfl rfl ?_
    refine R_ret hg 5 rfl rfl ?_
    rfl
  have hs : Tm.someT [t] = true := by simpa using h
  obtain ⟨h1, _, _, h4⟩ := Tm.someT_ok hs
  have hsz : t.size ≤ 4000 := by have := Tm.size_mem (l := [t]) (x := t) (by simp); omega
  have hn : ∀ x e, e ∈ t.els x → e.2.s.size < 1000000000 := fun x e he => by have := h4 x e (Tm.els_memL (by simp) he); omega
  refine R_call hg.ok (evalE_ok t hf (by omega) (hn 1)) rfl rfl rfl rfl rfl rfl ?_
  refine R_run hg.ok 1000 rfl rfl ?_
  refine R_call hg.ok (evalAllR_ok t hf (by omega) hn) rfl rfl rfl rfl rfl rfl ?_
  refine R_run hg.ok 1000 rfl rfl ?_
  refine R_if rfl rfl (fun _ => ?_) (fun h => absurd h (by simp)) <;> refine R_run hg.ok 1000 rfl rfl ?_
  refine R_if rfl rfl (fun _ => ?_) (fun h => absurd h (by simp)) <;> refine R_run hg.ok 1000 rfl rfl ?_
  refine R_call hg.ok (knows12_ok) rfl rfl rfl rfl rfl rfl ?_
  refine R_run hg.ok 1000 rfl rfl ?_
  refine R_ret hg 5 rfl rfl ?_
  rfl

def opRows : List (List D) := opsL.map fun s => [.v (.string s)]
theorem opRows_get {k : Nat} {s : ByteArray} (h : opsL[k]? = some s) : opRows[k]? = some [.v (.string s)] := by simp [opRows, h]

set_option maxRecDepth 100000 in
theorem arithDoes_ok (a b : Int) (ha : I64 a) (hb : I64 b) (s : ByteArray) : PCtr Try.prog 11 [iV a, iV b, .d (.v (.string s))] (bV true) := by
  refine PCtr.of_R (pf := fun _ => .still) tyOk mixed Try.func11 rfl (by kernel_rfl) (by kernel_rfl) (by simp [Try.ntmps11]) fun w S hg => ?_
  refine R_run hg.ok 1000 rfl rfl ?_
  refine R_loop (fun k : Nat => ([(0, iV a), (1, iV b), (2, .d (.v (.string s))), (7, .d (.sl opRows)), (8, iV k)], [])) (fun k => k ≤ 5) (fun k => 5 - k) 0 (Nat.zero_le _) ⟨.refl _, .refl _, .refl _, .fs _, .refl _, trivial⟩ rfl ?_
  intro k hk
  refine R_run hg.ok 1000 rfl rfl ?_
  refine R_if rfl rfl (fun h => ?_) (fun h => ?_) <;> refine R_run hg.ok 1000 rfl rfl ?_
  · have hk1 : k < 5 := lt_dec h rfl
    have e1 : opsL[k]? = some (opsL[k]'hk1) := List.getElem?_eq_getElem hk1
    have hop : isOp (opsL[k]'hk1) = true := opsL_op _ (List.getElem_mem hk1)
    generalize opsL[k]'hk1 = q at e1 hop
    refine R_index hg.ok rfl rfl rfl rfl rfl rfl (Int.natCast_nonneg _) (opRows_get e1) rfl ?_
    refine R_run hg.ok 1000 rfl rfl ?_
    refine R_call hg.ok (two_ok q a b) rfl rfl rfl rfl rfl rfl ?_
    refine R_run hg.ok 1000 rfl rfl ?_
    refine R_call hg.ok (eval2_ok hop a b ha hb) rfl rfl rfl rfl rfl rfl ?_
    refine R_run hg.ok 1000 rfl rfl ?_
    refine R_index hg.ok rfl rfl rfl rfl rfl rfl (Int.natCast_nonneg _) (opRows_get e1) rfl ?_
    refine R_run hg.ok 1000 rfl rfl ?_
    refine R_call hg.ok (doR_ok q a b ha hb) rfl rfl rfl rfl rfl rfl ?_
    refine R_run hg.ok 1000 rfl rfl ?_
    cases hd : (doX q a b).2 with
    | true =>
      rw [show outX (doX q a b) = ((doX q a b).1, 0) by unfold outX; rw [if_pos hd]]
      refine R_if rfl rfl (fun h => absurd h (by simp)) (fun _ => ?_) <;> refine R_run hg.ok 1000 rfl rfl ?_
      refine R_if rfl rfl (fun h => absurd h (by simp)) (fun _ => ?_) <;> refine R_run hg.ok 1000 rfl rfl ?_
      refine R_if rfl rfl (fun _ => ?_) (fun h => absurd h (by simp)) <;> refine R_run hg.ok 1000 rfl rfl ?_
      refine R_if rfl rfl (fun h => absurd h (by simp)) (fun _ => ?_) <;> refine R_run hg.ok 1000 rfl rfl ?_
      exact R_next (k + 1) hk1 (by omega) ⟨.refl _, .refl _, .refl _, .refl _, Ent.wrap (by omega) (by omega) (by omega), trivial⟩ rfl
    | false =>
      rw [show outX (doX q a b) = (0, 6) by unfold outX; rw [if_neg (by rw [hd]; simp)]]
      refine R_if rfl rfl (fun h => absurd h (by simp)) (fun _ => ?_) <;> refine R_run hg.ok 1000 rfl rfl ?_
      refine R_if rfl rfl (fun _ => ?_) (fun h => absurd h (by simp)) <;> refine R_run hg.ok 1000 rfl rfl ?_
      refine R_if rfl rfl (fun h => absurd h (by simp)) (fun _ => ?_) <;> refine R_run hg.ok 1000 rfl rfl ?_
      refine R_if rfl rfl (fun h => absurd h (by simp)) (fun _ => ?_) <;> refine R_run hg.ok 1000 rfl rfl ?_
      refine R_if rfl rfl (fun h => absurd h (by simp)) (fun _ => ?_) <;> refine R_run hg.ok 1000 rfl rfl ?_
      exact R_next (k + 1) hk1 (by omega) ⟨.refl _, .refl _, .refl _, .refl _, Ent.wrap (by omega) (by omega) (by omega), trivial⟩ rfl
  · refine R_call hg.ok (compareX_ok s a b) rfl rfl rfl rfl rfl rfl ?_
    refine R_run hg.ok 1000 rfl rfl ?_
    refine R_call hg.ok (compareR_ok s a b ha hb) rfl rfl rfl rfl rfl rfl ?_
    refine R_run hg.ok 1000 rfl rfl ?_
    refine R_if rfl rfl (fun _ => ?_) (fun h => absurd h (by simp)) <;> refine R_run hg.ok 1000 rfl rfl ?_
    refine R_if rfl rfl (fun _ => ?_) (fun h => absurd h (by simp)) <;> refine R_run hg.ok 1000 rfl rfl ?_
    refine R_call hg.ok (knows12_ok) rfl rfl rfl rfl rfl rfl ?_
    refine R_run hg.ok 1000 rfl rfl ?_
    refine R_ret hg 5 rfl rfl ?_
    rfl
theorem I64_sub {a b : Int} (ha : I64 a) (hb : I64 b) : (a.tmod b).natAbs ≤ a.natAbs ∧ I64 (a.tmod b) := by
  have h := Int.natAbs_tmod a b
  have h2 := Nat.mod_le a.natAbs b.natAbs
  unfold I64 at *
  have h1 : 0 ≤ a → 0 ≤ a.tmod b := fun h => Int.tmod_nonneg b h
  have h3 : a ≤ 0 → a.tmod b ≤ 0 := fun h => by
    have := Int.tmod_nonneg b (a := -a) (by omega)
    rw [Int.neg_tmod] at this
    omega
  omega

set_option maxRecDepth 100000 in
theorem parts1_ok (a b q m L : Int) (hC : m = 0 ∧ 0 < b) (h1 : PCtr Try.prog 38 [(twoT sQuo a b).av] (.tup [iV q, iV 0])) (h2 : PCtr Try.prog 38 [(twoT sMod a b).av] (.tup [iV m, iV 0]))
    (ia : -9223372036854775808 ≤ a ∧ a ≤ 9223372036854775807) (ib : -9223372036854775808 ≤ b ∧ b ≤ 9223372036854775807) (im : -9223372036854775808 ≤ m ∧ m ≤ 9223372036854775807)
    (hbd : (0 < b → 0 ≤ m ∧ m < b) ∧ (b < 0 → b < m ∧ m ≤ 0)) (hL : (0 ≤ a → 0 ≤ L) ∧ (a ≤ 0 → L ≤ 0)) (hmf : m = L ∨ (m = L + b ∧ IntKind.i64.wrap (L + b) = m)) (e2 : IntKind.i64.wrap (a - IntKind.i64.wrap (q * b)) = L) :
    PCtr Try.prog 12 [iV a, iV b] (bV true) := by
  have h0 : b ≠ 0 := by omega
  refine PCtr.of_R (pf := fun _ => .still) tyOk mixed Try.func12 rfl (by kernel_rfl) (by kernel_rfl) (by simp [Try.ntmps12]) fun w S hg => ?_
  refine R_run hg.ok 1000 rfl rfl ?_
  refine R_call hg.ok (two_ok sQuo a b) rfl rfl rfl rfl rfl rfl ?_
  refine R_run hg.ok 1000 rfl rfl ?_
  refine R_call hg.ok (h1) rfl rfl rfl rfl rfl rfl ?_
  refine R_run hg.ok 1000 rfl rfl ?_
  refine R_call hg.ok (two_ok sMod a b) rfl rfl rfl rfl rfl rfl ?_
  refine R_run hg.ok 1000 rfl rfl ?_
  refine R_call hg.ok (h2) rfl rfl rfl rfl rfl rfl ?_
  refine R_run hg.ok 1000 rfl rfl ?_
  clear h1 h2
  repeat
    first
    | (refine R_if rfl rfl (fun _ => ?_) (fun h => absurd h (by first | (simp; done) | (simp; omega))); refine R_run hg.ok 1000 rfl rfl ?_)
    | (refine R_if rfl rfl (fun h => absurd h (by first | (simp; done) | (simp; omega))) (fun _ => ?_); refine R_run hg.ok 1000 rfl rfl ?_)
  rw [e2]
  clear e2
  rcases hmf with hmf | ⟨hmf, e3⟩
  · by_cases hL0 : L = 0
    · repeat
        first
        | (refine R_if rfl rfl (fun _ => ?_) (fun h => absurd h (by first | (simp; done) | (simp; omega))); refine R_run hg.ok 1000 rfl rfl ?_)
        | (refine R_if rfl rfl (fun h => absurd h (by first | (simp; done) | (simp; omega))) (fun _ => ?_); refine R_run hg.ok 1000 rfl rfl ?_)
      refine R_call hg.ok (knows12_ok) rfl rfl rfl rfl rfl rfl ?_
      refine R_run hg.ok 1000 rfl rfl ?_
      refine R_ret hg 5 rfl rfl ?_
      rfl
    · repeat
        first
        | (refine R_if rfl rfl (fun _ => ?_) (fun h => absurd h (by first | (simp; done) | (simp; omega))); refine R_run hg.ok 1000 rfl rfl ?_)
        | (refine R_if rfl rfl (fun h => absurd h (by first | (simp; done) | (simp; omega))) (fun _ => ?_); refine R_run hg.ok 1000 rfl rfl ?_)
      refine R_call hg.ok (knows12_ok) rfl rfl rfl rfl rfl rfl ?_
      refine R_run hg.ok 1000 rfl rfl ?_
      refine R_ret hg 5 rfl rfl ?_
      rfl
  · by_cases hL0 : L = 0
    · repeat
        first
        | (refine R_if rfl rfl (fun _ => ?_) (fun h => absurd h (by first | (simp [e3]; done) | (simp [e3]; omega))); refine R_run hg.ok 1000 rfl rfl ?_)
        | (refine R_if rfl rfl (fun h => absurd h (by first | (simp [e3]; done) | (simp [e3]; omega))) (fun _ => ?_); refine R_run hg.ok 1000 rfl rfl ?_)
      refine R_call hg.ok (knows12_ok) rfl rfl rfl rfl rfl rfl ?_
      refine R_run hg.ok 1000 rfl rfl ?_
      refine R_ret hg 5 rfl rfl ?_
      rfl
    · repeat
        first
        | (refine R_if rfl rfl (fun _ => ?_) (fun h => absurd h (by first | (simp [e3]; done) | (simp [e3]; omega))); refine R_run hg.ok 1000 rfl rfl ?_)
        | (refine R_if rfl rfl (fun h => absurd h (by first | (simp [e3]; done) | (simp [e3]; omega))) (fun _ => ?_); refine R_run hg.ok 1000 rfl rfl ?_)
      refine R_call hg.ok (knows12_ok) rfl rfl rfl rfl rfl rfl ?_
      refine R_run hg.ok 1000 rfl rfl ?_
      refine R_ret hg 5 rfl rfl ?_
      rfl


set_option maxRecDepth 100000 in
theorem parts2_ok (a b q m L : Int) (hC : m = 0 ∧ b < 0) (h1 : PCtr Try.prog 38 [(twoT sQuo a b).av] (.tup [iV q, iV 0])) (h2 : PCtr Try.prog 38 [(twoT sMod a b).av] (.tup [iV m, iV 0]))
    (ia : -9223372036854775808 ≤ a ∧ a ≤ 9223372036854775807) (ib : -9223372036854775808 ≤ b ∧ b ≤ 9223372036854775807) (im : -9223372036854775808 ≤ m ∧ m ≤ 9223372036854775807)
    (hbd : (0 < b → 0 ≤ m ∧ m < b) ∧ (b < 0 → b < m ∧ m ≤ 0)) (hL : (0 ≤ a → 0 ≤ L) ∧ (a ≤ 0 → L ≤ 0)) (hmf : m = L ∨ (m = L + b ∧ IntKind.i64.wrap (L + b) = m)) (e2 : IntKind.i64.wrap (a - IntKind.i64.wrap (q * b)) = L) :
    PCtr Try.prog 12 [iV a, iV b] (bV true) := by
  have h0 : b ≠ 0 := by omega
  refine PCtr.of_R (pf := fun _ => .still) tyOk mixed Try.func12 rfl (by kernel_rfl) (by kernel_rfl) (by simp [Try.ntmps12]) fun w S hg => ?_
  refine R_run hg.ok 1000 rfl rfl ?_
  refine R_call hg.ok (two_ok sQuo a b) rfl rfl rfl rfl rfl rfl ?_
  refine R_run hg.ok 1000 rfl rfl ?_
  refine R_call hg.ok (h1) rfl rfl rfl rfl rfl rfl ?_
  refine R_run hg.ok 1000 rfl rfl ?_
  refine R_call hg.ok (two_ok sMod a b) rfl rfl rfl rfl rfl rfl ?_
  refine R_run hg.ok 1000 rfl rfl ?_
  refine R_call hg.ok (h2) rfl rfl rfl rfl rfl rfl ?_
  refine R_run hg.ok 1000 rfl rfl ?_
  clear h1 h2
  repeat
    first
    | (refine R_if rfl rfl (fun _ => ?_) (fun h => absurd h (by first | (simp; done) | (simp; omega))); refine R_run hg.ok 1000 rfl rfl ?_)
    | (refine R_if rfl rfl (fun h => absurd h (by first | (simp; done) | (simp; omega))) (fun _ => ?_); refine R_run hg.ok 1000 rfl rfl ?_)
  rw [e2]
  clear e2
  rcases hmf with hmf | ⟨hmf, e3⟩
  · by_cases hL0 : L = 0
    · repeat
        first
        | (refine R_if rfl rfl (fun _ => ?_) (fun h => absurd h (by first | (simp; done) | (simp; omega))); refine R_run hg.ok 1000 rfl rfl ?_)
        | (refine R_if rfl rfl (fun h => absurd h (by first | (simp; done) | (simp; omega))) (fun _ => ?_); refine R_run hg.ok 1000 rfl rfl ?_)
      refine R_call hg.ok (knows12_ok) rfl rfl rfl rfl rfl rfl ?_
      refine R_run hg.ok 1000 rfl rfl ?_
      refine R_ret hg 5 rfl rfl ?_
      rfl
    · repeat
        first
        | (refine R_if rfl rfl (fun _ => ?_) (fun h => absurd h (by first | (simp; done) | (simp; omega))); refine R_run hg.ok 1000 rfl rfl ?_)
        | (refine R_if rfl rfl (fun h => absurd h (by first | (simp; done) | (simp; omega))) (fun _ => ?_); refine R_run hg.ok 1000 rfl rfl ?_)
      refine R_call hg.ok (knows12_ok) rfl rfl rfl rfl rfl rfl ?_
      refine R_run hg.ok 1000 rfl rfl ?_
      refine R_ret hg 5 rfl rfl ?_
      rfl
  · by_cases hL0 : L = 0
    · repeat
        first
        | (refine R_if rfl rfl (fun _ => ?_) (fun h => absurd h (by first | (simp [e3]; done) | (simp [e3]; omega))); refine R_run hg.ok 1000 rfl rfl ?_)
        | (refine R_if rfl rfl (fun h => absurd h (by first | (simp [e3]; done) | (simp [e3]; omega))) (fun _ => ?_); refine R_run hg.ok 1000 rfl rfl ?_)
      refine R_call hg.ok (knows12_ok) rfl rfl rfl rfl rfl rfl ?_
      refine R_run hg.ok 1000 rfl rfl ?_
      refine R_ret hg 5 rfl rfl ?_
      rfl
    · repeat
        first
        | (refine R_if rfl rfl (fun _ => ?_) (fun h => absurd h (by first | (simp [e3]; done) | (simp [e3]; omega))); refine R_run hg.ok 1000 rfl rfl ?_)
        | (refine R_if rfl rfl (fun h => absurd h (by first | (simp [e3]; done) | (simp [e3]; omega))) (fun _ => ?_); refine R_run hg.ok 1000 rfl rfl ?_)
      refine R_call hg.ok (knows12_ok) rfl rfl rfl rfl rfl rfl ?_
      refine R_run hg.ok 1000 rfl rfl ?_
      refine R_ret hg 5 rfl rfl ?_
      rfl


set_option maxRecDepth 100000 in
theorem parts3_ok (a b q m L : Int) (hC : m ≠ 0 ∧ 0 < b) (h1 : PCtr Try.prog 38 [(twoT sQuo a b).av] (.tup [iV q, iV 0])) (h2 : PCtr Try.prog 38 [(twoT sMod a b).av] (.tup [iV m, iV 0]))
    (ia : -9223372036854775808 ≤ a ∧ a ≤ 9223372036854775807) (ib : -9223372036854775808 ≤ b ∧ b ≤ 9223372036854775807) (im : -9223372036854775808 ≤ m ∧ m ≤ 9223372036854775807)
    (hbd : (0 < b → 0 ≤ m ∧ m < b) ∧ (b < 0 → b < m ∧ m ≤ 0)) (hL : (0 ≤ a → 0 ≤ L) ∧ (a ≤ 0 → L ≤ 0)) (hmf : m = L ∨ (m = L + b ∧ IntKind.i64.wrap (L + b) = m)) (e2 : IntKind.i64.wrap (a - IntKind.i64.wrap (q * b)) = L) :
    PCtr Try.prog 12 [iV a, iV b] (bV true) := by
  have h0 : b ≠ 0 := by omega
  refine PCtr.of_R (pf := fun _ => .still) tyOk mixed Try.func12 rfl (by kernel_rfl) (by kernel_rfl) (by simp [Try.ntmps12]) fun w S hg => ?_
  refine R_run hg.ok 1000 rfl rfl ?_
  refine R_call hg.ok (two_ok sQuo a b) rfl rfl rfl rfl rfl rfl ?_
  refine R_run hg.ok 1000 rfl rfl ?_
  refine R_call hg.ok (h1) rfl rfl rfl rfl rfl rfl ?_
  refine R_run hg.ok 1000 rfl rfl ?_
  refine R_call hg.ok (two_ok sMod a b) rfl rfl rfl rfl rfl rfl ?_
  refine R_run hg.ok 1000 rfl rfl ?_
  refine R_call hg.ok (h2) rfl rfl rfl rfl rfl rfl ?_
  refine R_run hg.ok 1000 rfl rfl ?_
  clear h1 h2
  repeat
    first
    | (refine R_if rfl rfl (fun _ => ?_) (fun h => absurd h (by first | (simp; done) | (simp; omega))); refine R_run hg.ok 1000 rfl rfl ?_)
    | (refine R_if rfl rfl (fun h => absurd h (by first | (simp; done) | (simp; omega))) (fun _ => ?_); refine R_run hg.ok 1000 rfl rfl ?_)
  rw [e2]
  clear e2
  rcases hmf with hmf | ⟨hmf, e3⟩
  · by_cases hL0 : L = 0
    · repeat
        first
        | (refine R_if rfl rfl (fun _ => ?_) (fun h => absurd h (by first | (simp; done) | (simp; omega))); refine R_run hg.ok 1000 rfl rfl ?_)
        | (refine R_if rfl rfl (fun h => absurd h (by first | (simp; done) | (simp; omega))) (fun _ => ?_); refine R_run hg.ok 1000 rfl rfl ?_)
      refine R_call hg.ok (knows12_ok) rfl rfl rfl rfl rfl rfl ?_
      refine R_run hg.ok 1000 rfl rfl ?_
      refine R_ret hg 5 rfl rfl ?_
      rfl
    · repeat
        first
        | (refine R_if rfl rfl (fun _ => ?_) (fun h => absurd h (by first | (simp; done) | (simp; omega))); refine R_run hg.ok 1000 rfl rfl ?_)
        | (refine R_if rfl rfl (fun h => absurd h (by first | (simp; done) | (simp; omega))) (fun _ => ?_); refine R_run hg.ok 1000 rfl rfl ?_)
      refine R_call hg.ok (knows12_ok) rfl rfl rfl rfl rfl rfl ?_
      refine R_run hg.ok 1000 rfl rfl ?_
      refine R_ret hg 5 rfl rfl ?_
      rfl
  · by_cases hL0 : L = 0
    · repeat
        first
        | (refine R_if rfl rfl (fun _ => ?_) (fun h => absurd h (by first | (simp [e3]; done) | (simp [e3]; omega))); refine R_run hg.ok 1000 rfl rfl ?_)
        | (refine R_if rfl rfl (fun h => absurd h (by first | (simp [e3]; done) | (simp [e3]; omega))) (fun _ => ?_); refine R_run hg.ok 1000 rfl rfl ?_)
      refine R_call hg.ok (knows12_ok) rfl rfl rfl rfl rfl rfl ?_
      refine R_run hg.ok 1000 rfl rfl ?_
      refine R_ret hg 5 rfl rfl ?_
      rfl
    · repeat
        first
        | (refine R_if rfl rfl (fun _ => ?_) (fun h => absurd h (by first | (simp [e3]; done) | (simp [e3]; omega))); refine R_run hg.ok 1000 rfl rfl ?_)
        | (refine R_if rfl rfl (fun h => absurd h (by first | (simp [e3]; done) | (simp [e3]; omega))) (fun _ => ?_); refine R_run hg.ok 1000 rfl rfl ?_)
      refine R_call hg.ok (knows12_ok) rfl rfl rfl rfl rfl rfl ?_
      refine R_run hg.ok 1000 rfl rfl ?_
      refine R_ret hg 5 rfl rfl ?_
      rfl


set_option maxRecDepth 100000 in
theorem parts4_ok (a b q m L : Int) (hC : m ≠ 0 ∧ b < 0) (h1 : PCtr Try.prog 38 [(twoT sQuo a b).av] (.tup [iV q, iV 0])) (h2 : PCtr Try.prog 38 [(twoT sMod a b).av] (.tup [iV m, iV 0]))
    (ia : -9223372036854775808 ≤ a ∧ a ≤ 9223372036854775807) (ib : -9223372036854775808 ≤ b ∧ b ≤ 9223372036854775807) (im : -9223372036854775808 ≤ m ∧ m ≤ 9223372036854775807)
    (hbd : (0 < b → 0 ≤ m ∧ m < b) ∧ (b < 0 → b < m ∧ m ≤ 0)) (hL : (0 ≤ a → 0 ≤ L) ∧ (a ≤ 0 → L ≤ 0)) (hmf : m = L ∨ (m = L + b ∧ IntKind.i64.wrap (L + b) = m)) (e2 : IntKind.i64.wrap (a - IntKind.i64.wrap (q * b)) = L) :
    PCtr Try.prog 12 [iV a, iV b] (bV true) := by
  have h0 : b ≠ 0 := by omega
  refine PCtr.of_R (pf := fun _ => .still) tyOk mixed Try.func12 rfl (by kernel_rfl) (by kernel_rfl) (by simp [Try.ntmps12]) fun w S hg => ?_
  refine R_run hg.ok 1000 rfl rfl ?_
  refine R_call hg.ok (two_ok sQuo a b) rfl rfl rfl rfl rfl rfl ?_
  refine R_run hg.ok 1000 rfl rfl ?_
  refine R_call hg.ok (h1) rfl rfl rfl rfl rfl rfl ?_
  refine R_run hg.ok 1000 rfl rfl ?_
  refine R_call hg.ok (two_ok sMod a b) rfl rfl rfl rfl rfl rfl ?_
  refine R_run hg.ok 1000 rfl rfl ?_
  refine R_call hg.ok (h2) rfl rfl rfl rfl rfl rfl ?_
  refine R_run hg.ok 1000 rfl rfl ?_
  clear h1 h2
  repeat
    first
    | (refine R_if rfl rfl (fun _ => ?_) (fun h => absurd h (by first | (simp; done) | (simp; omega))); refine R_run hg.ok 1000 rfl rfl ?_)
    | (refine R_if rfl rfl (fun h => absurd h (by first | (simp; done) | (simp; omega))) (fun _ => ?_); refine R_run hg.ok 1000 rfl rfl ?_)
  rw [e2]
  clear e2
  rcases hmf with hmf | ⟨hmf, e3⟩
  · by_cases hL0 : L = 0
    · repeat
        first
        | (refine R_if rfl rfl (fun _ => ?_) (fun h => absurd h (by first | (simp; done) | (simp; omega))); refine R_run hg.ok 1000 rfl rfl ?_)
        | (refine R_if rfl rfl (fun h => absurd h (by first | (simp; done) | (simp; omega))) (fun _ => ?_); refine R_run hg.ok 1000 rfl rfl ?_)
      refine R_call hg.ok (knows12_ok) rfl rfl rfl rfl rfl rfl ?_
      refine R_run hg.ok 1000 rfl rfl ?_
      refine R_ret hg 5 rfl rfl ?_
      rfl
    · repeat
        first
        | (refine R_if rfl rfl (fun _ => ?_) (fun h => absurd h (by first | (simp; done) | (simp; omega))); refine R_run hg.ok 1000 rfl rfl ?_)
        | (refine R_if rfl rfl (fun h => absurd h (by first | (simp; done) | (simp; omega))) (fun _ => ?_); refine R_run hg.ok 1000 rfl rfl ?_)
      refine R_call hg.ok (knows12_ok) rfl rfl rfl rfl rfl rfl ?_
      refine R_run hg.ok 1000 rfl rfl ?_
      refine R_ret hg 5 rfl rfl ?_
      rfl
  · by_cases hL0 : L = 0
    · repeat
        first
        | (refine R_if rfl rfl (fun _ => ?_) (fun h => absurd h (by first | (simp [e3]; done) | (simp [e3]; omega))); refine R_run hg.ok 1000 rfl rfl ?_)
        | (refine R_if rfl rfl (fun h => absurd h (by first | (simp [e3]; done) | (simp [e3]; omega))) (fun _ => ?_); refine R_run hg.ok 1000 rfl rfl ?_)
      refine R_call hg.ok (knows12_ok) rfl rfl rfl rfl rfl rfl ?_
      refine R_run hg.ok 1000 rfl rfl ?_
      refine R_ret hg 5 rfl rfl ?_
      rfl
    · repeat
        first
        | (refine R_if rfl rfl (fun _ => ?_) (fun h => absurd h (by first | (simp [e3]; done) | (simp [e3]; omega))); refine R_run hg.ok 1000 rfl rfl ?_)
        | (refine R_if rfl rfl (fun h => absurd h (by first | (simp [e3]; done) | (simp [e3]; omega))) (fun _ => ?_); refine R_run hg.ok 1000 rfl rfl ?_)
      refine R_call hg.ok (knows12_ok) rfl rfl rfl rfl rfl rfl ?_
      refine R_run hg.ok 1000 rfl rfl ?_
      refine R_ret hg 5 rfl rfl ?_
      rfl


set_option maxRecDepth 100000 in
theorem parts5_ok (a b : Int) (hx : a = -9223372036854775808 ∧ b = -1) (h1 : PCtr Try.prog 38 [(twoT sQuo a b).av] (.tup [iV 0, iV 6])) (h2 : PCtr Try.prog 38 [(twoT sMod a b).av] (.tup [iV 0, iV 0])) :
    PCtr Try.prog 12 [iV a, iV b] (bV true) := by
  refine PCtr.of_R (pf := fun _ => .still) tyOk mixed Try.func12 rfl (by kernel_rfl) (by kernel_rfl) (by simp [Try.ntmps12]) fun w S hg => ?_
  refine R_run hg.ok 1000 rfl rfl ?_
  refine R_call hg.ok (two_ok sQuo a b) rfl rfl rfl rfl rfl rfl ?_
  refine R_run hg.ok 1000 rfl rfl ?_
  refine R_call hg.ok (h1) rfl rfl rfl rfl rfl rfl ?_
  refine R_run hg.ok 1000 rfl rfl ?_
  refine R_call hg.ok (two_ok sMod a b) rfl rfl rfl rfl rfl rfl ?_
  refine R_run hg.ok 1000 rfl rfl ?_
  refine R_call hg.ok (h2) rfl rfl rfl rfl rfl rfl ?_
  refine R_run hg.ok 1000 rfl rfl ?_
  clear h1 h2
  repeat
    first
    | (refine R_if rfl rfl (fun _ => ?_) (fun h => absurd h (by first | (simp; done) | (simp; omega))); refine R_run hg.ok 1000 rfl rfl ?_)
    | (refine R_if rfl rfl (fun h => absurd h (by first | (simp; done) | (simp; omega))) (fun _ => ?_); refine R_run hg.ok 1000 rfl rfl ?_)
  refine R_call hg.ok (knows12_ok) rfl rfl rfl rfl rfl rfl ?_
  refine R_run hg.ok 1000 rfl rfl ?_
  refine R_ret hg 5 rfl rfl ?_
  rfl

set_option maxRecDepth 100000 in
theorem parts6_ok (a b : Int) (h0 : b = 0) (h1 : PCtr Try.prog 38 [(twoT sQuo a b).av] (.tup [iV 0, iV 6])) (h2 : PCtr Try.prog 38 [(twoT sMod a b).av] (.tup [iV 0, iV 6])) :
    PCtr Try.prog 12 [iV a, iV b] (bV true) := by
  refine PCtr.of_R (pf := fun _ => .still) tyOk mixed Try.func12 rfl (by kernel_rfl) (by kernel_rfl) (by simp [Try.ntmps12]) fun w S hg => ?_
  refine R_run hg.ok 1000 rfl rfl ?_
  refine R_call hg.ok (two_ok sQuo a b) rfl rfl rfl rfl rfl rfl ?_
  refine R_run hg.ok 1000 rfl rfl ?_
  refine R_call hg.ok (h1) rfl rfl rfl rfl rfl rfl ?_
  refine R_run hg.ok 1000 rfl rfl ?_
  refine R_call hg.ok (two_ok sMod a b) rfl rfl rfl rfl rfl rfl ?_
  refine R_run hg.ok 1000 rfl rfl ?_
  refine R_call hg.ok (h2) rfl rfl rfl rfl rfl rfl ?_
  refine R_run hg.ok 1000 rfl rfl ?_
  refine R_if rfl rfl (fun _ => ?_) (fun h => absurd h (by simp; exact h0)) <;> refine R_run hg.ok 1000 rfl rfl ?_
  refine R_if rfl rfl (fun _ => ?_) (fun h => absurd h (by simp)) <;> refine R_run hg.ok 1000 rfl rfl ?_
  refine R_if rfl rfl (fun _ => ?_) (fun h => absurd h (by simp)) <;> refine R_run hg.ok 1000 rfl rfl ?_
  refine R_call hg.ok (knows12_ok) rfl rfl rfl rfl rfl rfl ?_
  refine R_run hg.ok 1000 rfl rfl ?_
  refine R_ret hg 5 rfl rfl ?_
  rfl

theorem arithParts_ok (a b : Int) (ha : I64 a) (hb : I64 b) : PCtr Try.prog 12 [iV a, iV b] (bV true) := by
  have h1 := eval2_ok (s := sQuo) (opsL_op _ (by simp [opsL])) a b ha hb
  have h2 := eval2_ok (s := sMod) (opsL_op _ (by simp [opsL])) a b ha hb
  rw [doX_quo] at h1
  rw [doX_mod] at h2
  by_cases h0 : b = 0
  · rw [if_pos h0, show outX (0, false) = (0, 6) from rfl] at h1 h2
    exact parts6_ok a b h0 h1 h2
  rw [if_neg h0] at h1 h2
  have hmI := modF_I64 (a := a) hb h0
  rw [chk_in hmI, show outX (modF a b, true) = (modF a b, 0) from rfl] at h2
  have hbd := modF_bound (a := a) h0
  obtain ⟨t1, t2, t3⟩ := tmod_lt a b h0
  obtain ⟨t4, t5⟩ := I64_sub ha hb
  have hsp := Int.mul_tdiv_add_tmod a b
  have hmf : modF a b = a.tmod b ∨ (modF a b = a.tmod b + b ∧ IntKind.i64.wrap (a.tmod b + b) = modF a b) := by
    have : modF a b = a.tmod b ∨ modF a b = a.tmod b + b := by
      unfold modF
      split
      · exact .inr rfl
      · exact .inl rfl
    rcases this with h | h
    · exact .inl h
    · refine .inr ⟨h, ?_⟩
      rw [← h]; unfold I64 at hmI; exact wrap_id (by omega) (by omega)
  have hin := tdiv_in ha h0
  rw [outX_chk] at h1
  unfold I64 at ha hb hmI t5
  cases hi : inR (a.tdiv b) with
  | true =>
    rw [hi, if_pos rfl] at h1
    have e2 : IntKind.i64.wrap (a - IntKind.i64.wrap (a.tdiv b * b)) = a.tmod b := by
      rw [Int.mul_comm]
      generalize b * a.tdiv b = P at hsp ⊢
      rw [wrap_id (n := P) (by omega) (by omega), wrap_id (by omega) (by omega)]; omega
    by_cases hm0 : modF a b = 0 <;> by_cases hb0 : 0 < b
    · exact parts1_ok a b _ _ _ ⟨hm0, hb0⟩ h1 h2 ha hb hmI hbd ⟨t2, t3⟩ hmf e2
    · exact parts2_ok a b _ _ _ ⟨hm0, by omega⟩ h1 h2 ha hb hmI hbd ⟨t2, t3⟩ hmf e2
    · exact parts3_ok a b _ _ _ ⟨hm0, hb0⟩ h1 h2 ha hb hmI hbd ⟨t2, t3⟩ hmf e2
    · exact parts4_ok a b _ _ _ ⟨hm0, by omega⟩ h1 h2 ha hb hmI hbd ⟨t2, t3⟩ hmf e2
  | false =>
    have hx : a = -9223372036854775808 ∧ b = -1 := by
      by_cases hx : a = -9223372036854775808 ∧ b = -1
      · exact hx
      · rw [hin.2 hx] at hi; cases hi
    rw [hi, if_neg (by simp)] at h1
    have hm0 : modF a b = 0 := by omega
    rw [hm0] at h2
    exact parts5_ok a b hx h1 h2

set_option maxRecDepth 100000 in
theorem arithTurns_ok (a b : Int) (ha : I64 a) (hb : I64 b) : PCtr Try.prog 13 [iV a, iV b] (bV true) := by
  have h1 := eval2_ok (s := sPlus) (opsL_op _ (by simp [opsL])) a b ha hb
  have h2 := eval2_ok (s := sPlus) (opsL_op _ (by simp [opsL])) b a hb ha
  have h3 := eval2_ok (s := sMul) (opsL_op _ (by simp [opsL])) a b ha hb
  have h4 := eval2_ok (s := sMul) (opsL_op _ (by simp [opsL])) b a hb ha
  rw [doX_plus, outX_chk] at h1
  rw [doX_plus, Int.add_comm, outX_chk] at h2
  rw [doX_mul, outX_chk] at h3
  rw [doX_mul, Int.mul_comm, outX_chk] at h4
  have hS := fun (h : inR (a + b) = true) => eval2_ok (s := sMinus) (opsL_op _ (by simp [opsL])) (a + b) b (inR_iff.1 h) hb
  rw [doX_minus, show a + b - b = a by omega, chk_in ha, show outX (a, true) = (a, 0) from rfl] at hS
  have hP := fun (h : inR (a * b) = true) => eval2_ok (s := sQuo) (opsL_op _ (by simp [opsL])) (a * b) b (inR_iff.1 h) hb
  rw [doX_quo] at hP
  refine PCtr.of_R (pf := fun _ => .still) tyOk mixed Try.func13 rfl (by kernel_rfl) (by kernel_rfl) (by simp [Try.ntmps13]) fun w S hg => ?_
  refine R_run hg.ok 1000 rfl rfl ?_
  refine R_call hg.ok (two_ok sPlus a b) rfl rfl rfl rfl rfl rfl ?_
  refine R_run hg.ok 1000 rfl rfl ?_
  refine R_call hg.ok (h1) rfl rfl rfl rfl rfl rfl ?_
  refine R_run hg.ok 1000 rfl rfl ?_
  refine R_call hg.ok (two_ok sPlus b a) rfl rfl rfl rfl rfl rfl ?_
  refine R_run hg.ok 1000 rfl rfl ?_
  refine R_call hg.ok (h2) rfl rfl rfl rfl rfl rfl ?_
  refine R_run hg.ok 1000 rfl rfl ?_
  refine R_call hg.ok (two_ok sMul a b) rfl rfl rfl rfl rfl rfl ?_
  refine R_run hg.ok 1000 rfl rfl ?_
  refine R_call hg.ok (h3) rfl rfl rfl rfl rfl rfl ?_
  refine R_run hg.ok 1000 rfl rfl ?_
  refine R_call hg.ok (two_ok sMul b a) rfl rfl rfl rfl rfl rfl ?_
  refine R_run hg.ok 1000 rfl rfl ?_
  refine R_call hg.ok (h4) rfl rfl rfl rfl rfl rfl ?_
  refine R_run hg.ok 1000 rfl rfl ?_
  clear h1 h2 h3 h4
  refine R_if rfl rfl (fun h => absurd h (by simp)) (fun _ => ?_) <;> refine R_run hg.ok 1000 rfl rfl ?_
  refine R_if rfl rfl (fun h => absurd h (by simp)) (fun _ => ?_) <;> refine R_run hg.ok 1000 rfl rfl ?_
  refine R_if rfl rfl (fun h => absurd h (by simp)) (fun _ => ?_) <;> refine R_run hg.ok 1000 rfl rfl ?_
  refine R_if rfl rfl (fun h => absurd h (by simp)) (fun _ => ?_) <;> refine R_run hg.ok 1000 rfl rfl ?_
  cases hs : inR (a + b) with
  | true =>
    simp only [if_true]
    refine R_if rfl rfl (fun _ => ?_) (fun h => absurd h (by simp)) <;> refine R_run hg.ok 1000 rfl rfl ?_
    refine R_call hg.ok (two_ok sMinus (a + b) b) rfl rfl rfl rfl rfl rfl ?_
    refine R_run hg.ok 1000 rfl rfl ?_
    refine R_call hg.ok (hS hs) rfl rfl rfl rfl rfl rfl ?_
    refine R_run hg.ok 1000 rfl rfl ?_
    refine R_if rfl rfl (fun h => absurd h (by simp)) (fun _ => ?_) <;> refine R_run hg.ok 1000 rfl rfl ?_
    refine R_if rfl rfl (fun h => absurd h (by simp)) (fun _ => ?_) <;> refine R_run hg.ok 1000 rfl rfl ?_
    cases hp : inR (a * b) with
    | true =>
      simp only [if_true]
      refine R_if rfl rfl (fun _ => ?_) (fun h => absurd h (by simp)) <;> refine R_run hg.ok 1000 rfl rfl ?_
      by_cases hb0 : b = 0
      · refine R_if rfl rfl (fun h => absurd h (by simp; exact hb0)) (fun _ => ?_) <;> refine R_run hg.ok 1000 rfl rfl ?_
        refine R_call hg.ok (knows12_ok) rfl rfl rfl rfl rfl rfl ?_
        refine R_run hg.ok 1000 rfl rfl ?_
        refine R_ret hg 5 rfl rfl ?_
        rfl
      · refine R_if rfl rfl (fun _ => ?_) (fun h => absurd h (by simp; exact hb0)) <;> refine R_run hg.ok 1000 rfl rfl ?_
        have hq := hP hp
        rw [if_neg hb0, Int.mul_tdiv_cancel a hb0, chk_in ha, show outX (a, true) = (a, 0) from rfl] at hq
        refine R_call hg.ok (two_ok sQuo (a * b) b) rfl rfl rfl rfl rfl rfl ?_
        refine R_run hg.ok 1000 rfl rfl ?_
        refine R_call hg.ok (hq) rfl rfl rfl rfl rfl rfl ?_
        refine R_run hg.ok 1000 rfl rfl ?_
        refine R_if rfl rfl (fun h => absurd h (by simp)) (fun _ => ?_) <;> refine R_run hg.ok 1000 rfl rfl ?_
        refine R_if rfl rfl (fun h => absurd h (by simp)) (fun _ => ?_) <;> refine R_run hg.ok 1000 rfl rfl ?_
        refine R_call hg.ok (knows12_ok) rfl rfl rfl rfl rfl rfl ?_
        refine R_run hg.ok 1000 rfl rfl ?_
        refine R_ret hg 5 rfl rfl ?_
        rfl
    | false =>
      simp only [Bool.false_eq_true, if_false]
      refine R_if rfl rfl (fun h => absurd h (by simp)) (fun _ => ?_) <;> refine R_run hg.ok 1000 rfl rfl ?_
      refine R_call hg.ok (knows12_ok) rfl rfl rfl rfl rfl rfl ?_
      refine R_run hg.ok 1000 rfl rfl ?_
      refine R_ret hg 5 rfl rfl ?_
      rfl
  | false =>
    simp only [Bool.false_eq_true, if_false]
    refine R_if rfl rfl (fun h => absurd h (by simp)) (fun _ => ?_) <;> refine R_run hg.ok 1000 rfl rfl ?_
    cases hp : inR (a * b) with
    | true =>
      simp only [if_true]
      refine R_if rfl rfl (fun _ => ?_) (fun h => absurd h (by simp)) <;> refine R_run hg.ok 1000 rfl rfl ?_
      by_cases hb0 : b = 0
      · refine R_if rfl rfl (fun h => absurd h (by simp; exact hb0)) (fun _ => ?_) <;> refine R_run hg.ok 1000 rfl rfl ?_
        refine R_call hg.ok (knows12_ok) rfl rfl rfl rfl rfl rfl ?_
        refine R_run hg.ok 1000 rfl rfl ?_
        refine R_ret hg 5 rfl rfl ?_
        rfl
      · refine R_if rfl rfl (fun _ => ?_) (fun h => absurd h (by simp; exact hb0)) <;> refine R_run hg.ok 1000 rfl rfl ?_
        have hq := hP hp
        rw [if_neg hb0, Int.mul_tdiv_cancel a hb0, chk_in ha, show outX (a, true) = (a, 0) from rfl] at hq
        refine R_call hg.ok (two_ok sQuo (a * b) b) rfl rfl rfl rfl rfl rfl ?_
        refine R_run hg.ok 1000 rfl rfl ?_
        refine R_call hg.ok (hq) rfl rfl rfl rfl rfl rfl ?_
        refine R_run hg.ok 1000 rfl rfl ?_
        refine R_if rfl rfl (fun h => absurd h (by simp)) (fun _ => ?_) <;> refine R_run hg.ok 1000 rfl rfl ?_
        refine R_if rfl rfl (fun h => absurd h (by simp)) (fun _ => ?_) <;> refine R_run hg.ok 1000 rfl rfl ?_
        refine R_call hg.ok (knows12_ok) rfl rfl rfl rfl rfl rfl ?_
        refine R_run hg.ok 1000 rfl rfl ?_
        refine R_ret hg 5 rfl rfl ?_
        rfl
    | false =>
      simp only [Bool.false_eq_true, if_false]
      refine R_if rfl rfl (fun h => absurd h (by simp)) (fun _ => ?_) <;> refine R_run hg.ok 1000 rfl rfl ?_
      refine R_call hg.ok (knows12_ok) rfl rfl rfl rfl rfl rfl ?_
      refine R_run hg.ok 1000 rfl rfl ?_
      refine R_ret hg 5 rfl rfl ?_
      rfl
end Go.Proofs.Ytcafgconfcajbaa
