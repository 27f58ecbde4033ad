import Derived.Test.YthfkhfbhbfpglaaSLaw8
import Derived.Test.YthfkhfbhbfpglaaSEq8
import Derived.Test.YthfkhfbhbfpglaaPlLex3
namespace Go.Proofs.Ythfkhfbhbfpglaa
open Go PSL Go.Proofs

def tkV (t : Tk) : List Value := [.int .i64 t.kind, .string (Tx t.text), .int .i64 t.n, .int .i64 t.at_, .bool t.opn]

set_option maxHeartbeats 800000 in
set_option maxRecDepth 100000 in
theorem lexJoins_ok (a b : ByteArray) : PCtr Try.prog 4 [.d (.v (.string a)), .d (.v (.string b))] (bV true) := by
  rw [← Tx_data a, ← Tx_data b]
  generalize a.data.toList = A
  generalize b.data.toList = B
  refine PCtr.of_R (pf := fun _ => .eff) tyOk mixed Try.func4 rfl (by kernel_rfl) (by kernel_rfl) (by simp [Try.ntmps4]) fun w S hg => ?_
  refine R_run hg.ok 1000 rfl rfl ?_
  refine R_if rfl rfl (fun h1 => ?_) (fun h1 => ?_) <;> refine R_run hg.ok 1000 rfl rfl ?_
  · refine R_call hg.ok (knows8_ok) rfl rfl rfl rfl rfl rfl ?_
    refine R_run hg.ok 1000 rfl rfl ?_
    refine R_ret hg 5 rfl rfl ?_
    rfl
  refine R_if rfl rfl (fun h2 => ?_) (fun h2 => ?_) <;> refine R_run hg.ok 1000 rfl rfl ?_
  · refine R_call hg.ok (knows8_ok) rfl rfl rfl rfl rfl rfl ?_
    refine R_run hg.ok 1000 rfl rfl ?_
    refine R_ret hg 5 rfl rfl ?_
    rfl
  have hA : A.length ≤ 3000 := by have := of_decide_eq_false h1; rw [Tx_size] at this; omega
  have hB : B.length ≤ 3000 := by have := of_decide_eq_false h2; rw [Tx_size] at this; omega
  have hCl : (A ++ 10 :: B).length = A.length + 1 + B.length := by simp; omega
  have cA := tokens_ok A (by omega)
  have cB := tokens_ok B (by omega)
  have cC := tokens_ok (A ++ 10 :: B) (by omega)
  cases eA : toks (A.length + 1) A 0 with
  | error j =>
    rw [tokR_bad (by omega) eA] at cA
    refine R_call hg.ok (cA) rfl rfl rfl rfl rfl rfl ?_
    refine R_run hg.ok 1000 rfl rfl ?_
    refine R_call hg.ok (cB) rfl rfl rfl rfl rfl rfl ?_
    refine R_run hg.ok 1000 rfl rfl ?_
    refine R_concat hg.ok (Tx (A ++ [10])) rfl rfl rfl rfl (by rw [Tx_size]; simp [ByteArray.size]; omega) (Tx_app A [10]) ?_
    refine R_run hg.ok 1000 rfl rfl ?_
    refine R_concat hg.ok (Tx (A ++ 10 :: B)) rfl rfl rfl rfl (by rw [Tx_size, Tx_size]; simp; omega) (by rw [Tx_app]; simp) ?_
    refine R_run hg.ok 1000 rfl rfl ?_
    refine R_call hg.ok (cC) rfl rfl rfl rfl rfl rfl ?_
    refine R_run hg.ok 1000 rfl rfl ?_
    repeat
      first
      | (refine R_if rfl rfl (fun _ => ?_) (fun h => absurd h (by first | (simp [hA]; done) | (simp [hA]; omega))); refine R_run hg.ok 1000 rfl rfl ?_)
      | (refine R_if rfl rfl (fun h => absurd h (by first | (simp [hA]; done) | (simp [hA]; omega))) (fun _ => ?_); refine R_run hg.ok 1000 rfl rfl ?_)
    refine R_call hg.ok (knows8_ok) rfl rfl rfl rfl rfl rfl ?_
    refine R_run hg.ok 1000 rfl rfl ?_
    refine R_ret hg 5 rfl rfl ?_
    rfl
  | ok l =>
    have hj := toks_join A B (c := 10) rfl (A.length + 1) 0 l (by omega) (Nat.zero_le _) eA ((A ++ 10 :: B).length + 1) (by omega)
    rw [tokR_ok (by omega) eA] at cA
    have hl := toks_len _ A 0 l eA
    cases eB : toks (B.length + 1) B 0 with
    | error j =>
      rw [eB] at hj
      rw [tokR_bad (by omega) eB] at cB
      rw [tokR_bad (j := A.length + 1 + j) (by omega) hj] at cC
      refine R_call hg.ok (cA) rfl rfl rfl rfl rfl rfl ?_
      refine R_run hg.ok 1000 rfl rfl ?_
      refine R_call hg.ok (cB) rfl rfl rfl rfl rfl rfl ?_
      refine R_run hg.ok 1000 rfl rfl ?_
      refine R_concat hg.ok (Tx (A ++ [10])) rfl rfl rfl rfl (by rw [Tx_size]; simp [ByteArray.size]; omega) (Tx_app A [10]) ?_
      refine R_run hg.ok 1000 rfl rfl ?_
      refine R_concat hg.ok (Tx (A ++ 10 :: B)) rfl rfl rfl rfl (by rw [Tx_size, Tx_size]; simp; omega) (by rw [Tx_app]; simp) ?_
      refine R_run hg.ok 1000 rfl rfl ?_
      refine R_call hg.ok (cC) rfl rfl rfl rfl rfl rfl ?_
      refine R_run hg.ok 1000 rfl rfl ?_
      have hj2 := toks_bad _ B 0 j eB
      refine R_if rfl rfl (fun h => absurd h (by simp)) (fun _ => ?_) <;> refine R_run hg.ok 1000 rfl rfl ?_
      refine R_if rfl rfl (fun _ => ?_) (fun h => absurd h (by simp)) <;> refine R_run hg.ok 1000 rfl rfl ?_
      refine R_if rfl rfl (fun _ => ?_) (fun h => absurd h (by simp)) <;> refine R_run hg.ok 1000 rfl rfl ?_
      rw [w64 (n := (j : Int) + ((Tx A).size : Int)) (by rw [Tx_size]; omega) (by rw [Tx_size]; omega), w64 (n := (j : Int) + ((Tx A).size : Int) + 1) (by rw [Tx_size]; omega) (by rw [Tx_size]; omega)]
      refine R_if rfl rfl (fun _ => ?_) (fun h => absurd h (by simp [Tx_size]; omega)) <;> refine R_run hg.ok 1000 rfl rfl ?_
      repeat
        first
        | (refine R_if rfl rfl (fun _ => ?_) (fun h => absurd h (by first | (simp [hA]; done) | (simp [hA]; omega))); refine R_run hg.ok 1000 rfl rfl ?_)
        | (refine R_if rfl rfl (fun h => absurd h (by first | (simp [hA]; done) | (simp [hA]; omega))) (fun _ => ?_); refine R_run hg.ok 1000 rfl rfl ?_)
      refine R_call hg.ok (knows8_ok) rfl rfl rfl rfl rfl rfl ?_
      refine R_run hg.ok 1000 rfl rfl ?_
      refine R_ret hg 5 rfl rfl ?_
      rfl
    | ok m =>
      have hm := toks_len _ B 0 m eB
      have hin := toks_in _ B 0 m eB
      rw [eB] at hj
      rw [tokR_ok (by omega) eB] at cB
      rw [tokR_ok (l := l ++ m.map (shT (A.length + 1))) (by omega) hj] at cC
      refine R_call hg.ok (cA) rfl rfl rfl rfl rfl rfl ?_
      refine R_run hg.ok 1000 rfl rfl ?_
      refine R_call hg.ok (cB) rfl rfl rfl rfl rfl rfl ?_
      refine R_run hg.ok 1000 rfl rfl ?_
      refine R_concat hg.ok (Tx (A ++ [10])) rfl rfl rfl rfl (by rw [Tx_size]; simp [ByteArray.size]; omega) (Tx_app A [10]) ?_
      refine R_run hg.ok 1000 rfl rfl ?_
      refine R_concat hg.ok (Tx (A ++ 10 :: B)) rfl rfl rfl rfl (by rw [Tx_size, Tx_size]; simp; omega) (by rw [Tx_app]; simp) ?_
      refine R_run hg.ok 1000 rfl rfl ?_
      refine R_call hg.ok (cC) rfl rfl rfl rfl rfl rfl ?_
      refine R_run hg.ok 1000 rfl rfl ?_
      have nl : (tkRows l).length = l.length := tkRows_len l
      have nm : (tkRows m).length = m.length := tkRows_len m
      have nc : (tkRows (l ++ m.map (shT (A.length + 1)))).length = l.length + m.length := by rw [tkRows_len]; simp
      refine R_if rfl rfl (fun h => absurd h (by simp)) (fun _ => ?_) <;> refine R_run hg.ok 1000 rfl rfl ?_
      refine R_if rfl rfl (fun h => absurd h (by simp)) (fun _ => ?_) <;> refine R_run hg.ok 1000 rfl rfl ?_
      refine R_if rfl rfl (fun h => absurd h (by simp)) (fun _ => ?_) <;> refine R_run hg.ok 1000 rfl rfl ?_
      refine R_if rfl rfl (fun h => absurd h (by simp)) (fun _ => ?_) <;> refine R_run hg.ok 1000 rfl rfl ?_
      rw [w64 (n := ((tkRows l).length : Int) + ((tkRows m).length : Int)) (by omega) (by omega)]
      refine R_if rfl rfl (fun h => absurd h (by simp; omega)) (fun _ => ?_) <;> refine R_run hg.ok 1000 rfl rfl ?_
      refine R_loop (fun k : Nat => ([(0, txA A), (5, .d (.sl (tkRows l))), (8, .d (.sl (tkRows m))), (11, .d (.sl (tkRows (l ++ m.map (shT (A.length + 1)))))), (14, iV k)], [])) (fun k => k ≤ l.length) (fun k => l.length - k) 0 (Nat.zero_le _) ⟨.refl _, .refl _, .refl _, .refl _, .refl _, trivial⟩ rfl ?_
      rintro k hk
      refine R_run hg.ok 1000 rfl rfl ?_
      refine R_if rfl rfl (fun h => ?_) (fun h => ?_) <;> refine R_run hg.ok 1000 rfl rfl ?_
      · have hk1 : k < l.length := lt_dec h (by rw [tkRows_len])
        have e1 : l[k]? = some l[k] := List.getElem?_eq_getElem hk1
        have e2 : (l ++ m.map (shT (A.length + 1)))[k]? = some l[k] := by rw [List.getElem?_append_left hk1]; exact e1
        generalize l[k] = t at e1 e2
        refine R_index hg.ok rfl rfl rfl rfl rfl rfl (Int.natCast_nonneg k) (tkRows_get e2) rfl ?_
        refine R_run hg.ok 1000 rfl rfl ?_
        refine R_index hg.ok rfl rfl rfl rfl rfl rfl (Int.natCast_nonneg k) (tkRows_get e1) rfl ?_
        refine R_run hg.ok 1000 rfl rfl ?_
        refine R_neqV hg.ok (tkV t) (tkV t) false rfl rfl rfl rfl (fun w => tok_neq w _ _ _ _ _ _ _) ?_
        refine R_run hg.ok 1000 rfl rfl ?_
        refine R_if rfl rfl (fun h => absurd h (by simp)) (fun _ => ?_) <;> refine R_run hg.ok 1000 rfl rfl ?_
        exact R_next (k + 1) hk1 (by omega) ⟨.refl _, .refl _, .refl _, .refl _, Ent.wrap (by omega) (by omega) (by omega), trivial⟩ rfl
      have hk1 : l.length ≤ k := ge_dec h (by rw [tkRows_len])
      refine R_loop (fun k : Nat => ([(0, txA A), (5, .d (.sl (tkRows l))), (8, .d (.sl (tkRows m))), (11, .d (.sl (tkRows (l ++ m.map (shT (A.length + 1)))))), (15, iV k)], [])) (fun k => k ≤ m.length) (fun k => m.length - k) 0 (Nat.zero_le _) ⟨.refl _, .refl _, .refl _, .refl _, .refl _, trivial⟩ rfl ?_
      rintro k hk
      refine R_run hg.ok 1000 rfl rfl ?_
      refine R_if rfl rfl (fun h => ?_) (fun h => ?_) <;> refine R_run hg.ok 1000 rfl rfl ?_
      · have hk1 : k < m.length := lt_dec h (by rw [tkRows_len])
        have e1 : m[k]? = some m[k] := List.getElem?_eq_getElem hk1
        have e2 : (l ++ m.map (shT (A.length + 1)))[l.length + k]? = some (shT (A.length + 1) m[k]) := by
          rw [List.getElem?_append_right (by omega), Nat.add_sub_cancel_left, List.getElem?_map, e1]; rfl
        have hb := hin m[k] (List.getElem_mem hk1)
        generalize m[k] = t at e1 e2 hb
        refine R_index hg.ok rfl rfl rfl rfl rfl rfl (Int.natCast_nonneg k) (tkRows_get e1) rfl ?_
        refine R_run hg.ok 1000 rfl rfl ?_
        rw [w64 (n := t.at_ + ((Tx A).size : Int)) (by rw [Tx_size]; omega) (by rw [Tx_size]; omega), w64 (n := t.at_ + ((Tx A).size : Int) + 1) (by rw [Tx_size]; omega) (by rw [Tx_size]; omega), show t.at_ + ((Tx A).size : Int) + 1 = t.at_ + ((A.length + 1 : Nat) : Int) by rw [Tx_size]; omega]
        rw [w64 (n := ((tkRows l).length : Int) + (k : Int)) (by omega) (by omega), show ((tkRows l).length : Int) + (k : Int) = ((l.length + k : Nat) : Int) by omega]
        refine R_index hg.ok rfl rfl rfl rfl rfl rfl (Int.natCast_nonneg (l.length + k)) (tkRows_get e2) rfl ?_
        refine R_run hg.ok 1000 rfl rfl ?_
        refine R_neqV hg.ok (tkV (shT (A.length + 1) t)) (tkV (shT (A.length + 1) t)) false rfl rfl rfl rfl (fun w => tok_neq w _ _ _ _ _ _ _) ?_
        refine R_run hg.ok 1000 rfl rfl ?_
        refine R_if rfl rfl (fun h => absurd h (by simp)) (fun _ => ?_) <;> refine R_run hg.ok 1000 rfl rfl ?_
        refine R_dropO 0 [] (Nat.zero_le _) rfl rfl ?_
        exact R_next (k + 1) hk1 (by omega) ⟨.refl _, .refl _, .refl _, .refl _, Ent.wrap (by omega) (by omega) (by omega), trivial⟩ rfl
      · refine R_call hg.ok (knows8_ok) rfl rfl rfl rfl rfl rfl ?_
        refine R_run hg.ok 1000 rfl rfl ?_
        refine R_ret hg 5 rfl rfl ?_
        rfl
end Go.Proofs.Ythfkhfbhbfpglaa
