import Derived.Test.YthfkhfbhbfpglaaSCommon
import Derived.Test.YthfkhfbhbfpglaaPlLex2
import Derived.Test.YthfkhfbhbfpglaaPlA
namespace Go.Proofs.Ythfkhfbhbfpglaa
open Go PSL Go.Proofs

def u8A (c : UInt8) : AV := .d (.v (.int .u8 c.toNat))

def txA (L : Bs) : AV := .d (.v (.string (Tx L)))

theorem bvEq {a b : Bool} (h : a = true ↔ b = true) : bV a = bV b := by rw [Bool.eq_iff_iff.2 h]

theorem bvT {b : Bool} (h : b = true) : AV.d (.v (.bool true)) = bV b := by rw [h]; rfl

theorem bvF {b : Bool} (h : b = false) : AV.d (.v (.bool false)) = bV b := by rw [h]; rfl

set_option maxRecDepth 100000 in
theorem low_ok (c : UInt8) : PCtr Try.prog 42 [u8A c] (bV (lowC c)) := by
  refine PCtr.of_R (pf := fun _ => .still) tyOk mixed Try.func42 rfl (by kernel_rfl) (by kernel_rfl) (by simp [Try.ntmps42]) fun w S hg => ?_
  refine R_run hg.ok 1000 rfl rfl ?_
  refine R_if rfl rfl (fun h => ?_) (fun h => ?_) <;> refine R_run hg.ok 1000 rfl rfl ?_
  · have h := of_decide_eq_true h
    refine R_ret hg 5 rfl rfl ?_
    exact bvEq (by simp [lowC]; omega)
  · have h := of_decide_eq_false h
    refine R_ret hg 5 rfl rfl ?_
    exact bvF (by simp [lowC]; omega)

set_option maxRecDepth 100000 in
theorem digit_ok (c : UInt8) : PCtr Try.prog 46 [u8A c] (bV (dgC c)) := by
  refine PCtr.of_R (pf := fun _ => .still) tyOk mixed Try.func46 rfl (by kernel_rfl) (by kernel_rfl) (by simp [Try.ntmps46]) fun w S hg => ?_
  refine R_run hg.ok 1000 rfl rfl ?_
  refine R_if rfl rfl (fun h => ?_) (fun h => ?_) <;> refine R_run hg.ok 1000 rfl rfl ?_
  · have h := of_decide_eq_true h
    refine R_ret hg 5 rfl rfl ?_
    exact bvEq (by simp [dgC]; omega)
  · have h := of_decide_eq_false h
    refine R_ret hg 5 rfl rfl ?_
    exact bvF (by simp [dgC]; omega)

set_option maxRecDepth 100000 in
theorem great_ok (c : UInt8) : PCtr Try.prog 43 [u8A c] (bV (grtC c)) := by
  refine PCtr.of_R (pf := fun _ => .still) tyOk mixed Try.func43 rfl (by kernel_rfl) (by kernel_rfl) (by simp [Try.ntmps43]) fun w S hg => ?_
  refine R_run hg.ok 1000 rfl rfl ?_
  refine R_if rfl rfl (fun h => ?_) (fun h => ?_) <;> refine R_run hg.ok 1000 rfl rfl ?_
  · have h := of_decide_eq_true h
    refine R_if rfl rfl (fun h2 => ?_) (fun h2 => ?_) <;> refine R_run hg.ok 1000 rfl rfl ?_
    · have h2 := of_decide_eq_true h2
      refine R_ret hg 5 rfl rfl ?_
      exact bvT (by simp [grtC]; omega)
    · have h2 := of_decide_eq_false h2
      refine R_ret hg 5 rfl rfl ?_
      exact bvEq (by simp [grtC]; omega)
  · have h := of_decide_eq_false h
    refine R_ret hg 5 rfl rfl ?_
    exact bvEq (by simp [grtC]; omega)

set_option maxRecDepth 100000 in
theorem blank_ok (c : UInt8) : PCtr Try.prog 39 [u8A c] (bV (blkC c)) := by
  refine PCtr.of_R (pf := fun _ => .still) tyOk mixed Try.func39 rfl (by kernel_rfl) (by kernel_rfl) (by simp [Try.ntmps39]) fun w S hg => ?_
  refine R_run hg.ok 1000 rfl rfl ?_
  refine R_if rfl rfl (fun h => ?_) (fun h => ?_) <;> refine R_run hg.ok 1000 rfl rfl ?_
  · refine R_ret hg 5 rfl rfl ?_
    exact bvT (by simp at h; simp [blkC]; omega)
  refine R_if rfl rfl (fun h2 => ?_) (fun h2 => ?_) <;> refine R_run hg.ok 1000 rfl rfl ?_
  · refine R_ret hg 5 rfl rfl ?_
    exact bvT (by simp at h2; simp [blkC]; omega)
  · refine R_ret hg 5 rfl rfl ?_
    exact bvEq (by simp at h h2; simp [blkC]; omega)

set_option maxRecDepth 100000 in
theorem follows_ok (c : UInt8) : PCtr Try.prog 44 [u8A c] (bV (folC c)) := by
  refine PCtr.of_R (pf := fun _ => .still) tyOk mixed Try.func44 rfl (by kernel_rfl) (by kernel_rfl) (by simp [Try.ntmps44]) fun w S hg => ?_
  refine R_run hg.ok 1000 rfl rfl ?_
  refine R_call hg.ok (digit_ok c) rfl rfl rfl rfl rfl rfl ?_
  refine R_run hg.ok 1000 rfl rfl ?_
  refine R_if rfl rfl (fun h => ?_) (fun h => ?_) <;> refine R_run hg.ok 1000 rfl rfl ?_
  · refine R_ret hg 5 rfl rfl ?_
    exact bvT (by simp [folC, h])
  refine R_call hg.ok (low_ok c) rfl rfl rfl rfl rfl rfl ?_
  refine R_run hg.ok 1000 rfl rfl ?_
  refine R_if rfl rfl (fun h2 => ?_) (fun h2 => ?_) <;> refine R_run hg.ok 1000 rfl rfl ?_
  · refine R_ret hg 5 rfl rfl ?_
    exact bvT (by simp [folC, h2])
  refine R_call hg.ok (great_ok c) rfl rfl rfl rfl rfl rfl ?_
  refine R_run hg.ok 1000 rfl rfl ?_
  refine R_ret hg 5 rfl rfl ?_
  exact bvEq (by simp [folC, h, h2])

theorem w8 (c : UInt8) : IntKind.u8.wrap (c.toNat : Int) = c.toNat := by
  have := c.toNat_lt
  simp [IntKind.wrap, IntKind.signed, IntKind.bits]; omega

theorem decode_ascii {L : Bs} {i : Nat} {c : UInt8} (h : L[i]? = some c) (hc : c.toNat < 128) : Utf8.decode (Tx L) i = (c.toNat, 1) := by
  have hl := (List.getElem?_eq_some_iff.1 h).1
  have e : (Tx L).get! (i + 0) = c := by
    show (Tx L).data[i]! = c
    have := (List.getElem?_eq_some_iff.1 h).2
    simp [Tx, hl, this]
  unfold Utf8.decode
  simp only [e]
  rw [if_pos (by omega)]

set_option maxRecDepth 100000 in
theorem among_ok (R : Bs) (hR : R.all (fun c => decide (c.toNat < 128)) = true) (c : UInt8) : PCtr Try.prog 49 [txA R, u8A c] (bV (R.contains c)) := by
  refine PCtr.of_R (pf := fun _ => .eff) tyOk mixed Try.func49 rfl (by kernel_rfl) (by kernel_rfl) (by simp [Try.ntmps49]) fun w S hg => ?_
  refine R_run hg.ok 1000 rfl rfl ?_
  refine R_rangeS hg.ok rfl rfl rfl rfl ?_
  refine R_run hg.ok 1000 rfl rfl ?_
  refine R_loop (fun k : Nat => ([(1, u8A c), (8, .lo 0 0)], [.itr (Tx R) k])) (fun k => k ≤ R.length ∧ R.contains c = (R.drop k).contains c) (fun k => R.length - k) 0 ⟨Nat.zero_le _, by simp⟩ ⟨.refl _, .refl _, trivial⟩ rfl ?_
  rintro k ⟨hk, hm⟩
  refine R_run hg.ok 1000 rfl rfl ?_
  by_cases hk1 : k < R.length
  · have e1 : R[k]? = some R[k] := List.getElem?_eq_getElem hk1
    have ha : R[k].toNat < 128 := by simpa using List.all_eq_true.1 hR _ (List.getElem_mem hk1)
    rw [List.drop_eq_getElem_cons hk1, List.contains_cons] at hm
    refine R_nextS hg.ok rfl rfl rfl rfl (by rw [Tx_size]; exact hk1) (decode_ascii e1 ha) ?_
    refine R_run hg.ok 1000 rfl rfl ?_
    rw [w8 R[k]]
    refine R_if rfl rfl (fun h => ?_) (fun h => ?_) <;> refine R_run hg.ok 1000 rfl rfl ?_
    · refine R_ret hg 5 rfl rfl ?_
      refine bvT ?_
      have h : R[k] = c := UInt8.toNat_inj.1 (by simp at h; omega)
      rw [hm, h]; simp
    · refine R_next (k + 1) ⟨hk1, ?_⟩ (by omega) ⟨.refl _, .refl _, trivial⟩ rfl
      have h : ¬ R[k] = c := fun e => by rw [e] at h; simp at h
      rw [hm, show (c == R[k]) = false by simp; exact fun e => h e.symm, Bool.false_or]
  · refine R_nextE hg.ok rfl rfl rfl rfl (by rw [Tx_size]; omega) ?_
    refine R_run hg.ok 1000 rfl rfl ?_
    refine R_ret hg 5 rfl rfl ?_
    rw [hm, List.drop_eq_nil_of_le (by omega)]; rfl

set_option maxRecDepth 100000 in
theorem sign1_ok (c : UInt8) : PCtr Try.prog 50 [u8A c] (bV (sgnC c)) := by
  have h := among_ok sgnL (by decide) c
  refine PCtr.of_R (pf := fun _ => .still) tyOk mixed Try.func50 rfl (by kernel_rfl) (by kernel_rfl) (by simp [Try.ntmps50]) fun w S hg => ?_
  refine R_run hg.ok 1000 rfl rfl ?_
  refine R_call hg.ok (h) rfl rfl rfl rfl rfl rfl ?_
  refine R_run hg.ok 1000 rfl rfl ?_
  refine R_ret hg 5 rfl rfl ?_
  rfl

set_option maxRecDepth 100000 in
theorem line_ok (c : UInt8) : PCtr Try.prog 41 [u8A c] (bV (!decide (c.toNat = 10))) := by
  refine PCtr.of_R (pf := fun _ => .still) tyOk mixed Try.func41 rfl (by kernel_rfl) (by kernel_rfl) (by simp [Try.ntmps41]) fun w S hg => ?_
  refine R_run hg.ok 1000 rfl rfl ?_
  refine R_ret hg 5 rfl rfl ?_
  exact bvEq (by simp; omega)

def cutO (L : Bs) (i : Nat) : List Ob := [.box [txA L, iV i]]

set_option maxRecDepth 100000 in
theorem run_walk (Y : YP) (f : Nat) (p : UInt8 → Bool) (hp : ∀ c, PCtr Try.prog f [u8A c] (bV (p c))) (L : Bs) (j i : Nat) (hi : i ≤ L.length) (hL : L.length ≤ 9000) : SCtr Try.prog Y 40 [.lo 0 0, iV i, .clo f [] []] (cutO L j) (iV (runB p L i)) (cutO L j) := by
  refine SCtr.of_R (pf := fun _ => .eff) tyOk mixed Try.func40 rfl (by kernel_rfl) (by kernel_rfl) (by simp [Try.ntmps40]) (by simp [cutO]) fun w S φ hg => ?_
  have hφ : φ.length = 1 := hg.hs0.len
  refine R_run hg.ok 1000 rfl rfl ?_
  refine R_loop (fun k : Nat => ([(0, .lo 0 0), (1, iV k), (2, .clo f [] [])], cutO L j)) (fun k => k ≤ L.length ∧ runB p L i = runB p L k) (fun k => L.length - k) i ⟨hi, rfl⟩ ⟨.refl _, .refl _, .refl _, trivial⟩ rfl ?_
  rintro k ⟨hk, hm⟩
  refine R_run hg.ok 1000 rfl rfl ?_
  refine R_if rfl rfl (fun h => ?_) (fun h => ?_) <;> refine R_run hg.ok 1000 rfl rfl ?_
  · have hk1 : k < L.length := lt_dec h (by rw [Tx_size])
    have e1 : L[k]? = some L[k] := List.getElem?_eq_getElem hk1
    refine R_indexS hg.ok rfl rfl rfl rfl rfl (Int.natCast_nonneg k) (b := L[k]) (by rw [Tx_get]; exact e1) ?_
    refine R_run hg.ok 1000 rfl rfl ?_
    refine R_call hg.ok (hp L[k]) rfl rfl rfl rfl rfl rfl ?_
    refine R_run hg.ok 1000 rfl rfl ?_
    refine R_if rfl rfl (fun h2 => ?_) (fun h2 => ?_) <;> refine R_run hg.ok 1000 rfl rfl ?_
    · exact R_next (k + 1) ⟨hk1, by rw [hm, runB_step e1 h2]⟩ (by omega) ⟨.refl _, Ent.wrap (by omega) (by omega) (by omega), .refl _, trivial⟩ rfl
    · rw [hm, runB_stop e1 h2]
      exact R_retS hg 1 5 (Nat.le_refl _) rfl rfl rfl
  · have hk1 : L.length ≤ k := ge_dec h (by rw [Tx_size])
    rw [hm, runB_end hk1]
    exact R_retS hg 1 5 (Nat.le_refl _) rfl rfl rfl

set_option maxRecDepth 100000 in
theorem pass_walk (Y : YP) (L : Bs) (i : Nat) (hi : i ≤ L.length) (hL : L.length ≤ 9000) : SCtr Try.prog Y 22 [.lo 0 0] (cutO L i) (.tup []) (cutO L (passN L i)) := by
  refine SCtr.of_R (pf := fun _ => .eff) tyOk mixed Try.func22 rfl (by kernel_rfl) (by kernel_rfl) (by simp [Try.ntmps22]) (by simp [cutO]) fun w S φ hg => ?_
  have hφ : φ.length = 1 := hg.hs0.len
  refine R_run hg.ok 1000 rfl rfl ?_
  refine R_loop (fun k : Nat => ([(0, .lo 0 0)], cutO L k)) (fun k => k ≤ L.length ∧ passN L i = passN L k) (fun k => L.length - k) i ⟨hi, rfl⟩ ⟨.refl _, trivial⟩ rfl ?_
  rintro k ⟨hk, hm⟩
  refine R_run hg.ok 1000 rfl rfl ?_
  refine R_if rfl rfl (fun h => ?_) (fun h => ?_) <;> refine R_run hg.ok 1000 rfl rfl ?_
  · have hk1 : k < L.length := lt_dec h (by rw [Tx_size])
    have e1 : L[k]? = some L[k] := List.getElem?_eq_getElem hk1
    refine R_indexS hg.ok rfl rfl rfl rfl rfl (Int.natCast_nonneg k) (b := L[k]) (by rw [Tx_get]; exact e1) ?_
    refine R_run hg.ok 1000 rfl rfl ?_
    refine R_call hg.ok (blank_ok L[k]) rfl rfl rfl rfl rfl rfl ?_
    refine R_run hg.ok 1000 rfl rfl ?_
    refine R_if rfl rfl (fun h2 => ?_) (fun h2 => ?_) <;> refine R_run hg.ok 1000 rfl rfl ?_
    · rw [w64 (n := (k : Int) + 1) (by omega) (by omega)]
      exact R_next (k + 1) ⟨hk1, by rw [hm, pass_blank e1 h2]⟩ (by omega) ⟨.refl _, trivial⟩ rfl
    · refine R_indexS hg.ok rfl rfl rfl rfl rfl (Int.natCast_nonneg k) (b := L[k]) (by rw [Tx_get]; exact e1) ?_
      refine R_run hg.ok 1000 rfl rfl ?_
      refine R_if rfl rfl (fun h3 => ?_) (fun h3 => ?_) <;> refine R_run hg.ok 1000 rfl rfl ?_
      · have h3 : L[k].toNat = 37 := by simp at h3; omega
        obtain ⟨g1, g2⟩ := pass_line e1 h3
        have g3 := (runB_le (p := nlC) (L := L) (i := k) (by omega)).2
        have hcall := run_walk Y 41 nlC line_ok L k k hk hL
        refine R_callSO hg.ok hg.gup hg.wide hg.Y [0] (cutO L k) hcall (fun _ => rfl) rfl rfl rfl rfl rfl rfl rfl rfl ?_
        refine R_run hg.ok 1000 rfl rfl ?_
        exact R_next (runB nlC L k) ⟨g3, by rw [hm, g1]⟩ (by omega) ⟨.refl _, trivial⟩ rfl
      · have h3 : ¬ L[k].toNat = 37 := by simp at h3; omega
        rw [hm, pass_stop e1 h2 h3]
        exact R_retS hg 1 5 (Nat.le_refl _) rfl rfl rfl
  · have hk1 : L.length ≤ k := ge_dec h (by rw [Tx_size])
    rw [hm, pass_end hk1]
    exact R_endS hg 1 5 (Nat.le_refl _) rfl rfl rfl

def tkD (t : Tk) : List D := [.v (.int .i64 t.kind), .v (.string (Tx t.text)), .v (.int .i64 t.n), .v (.int .i64 t.at_), .v (.bool t.opn)]

def tkA (t : Tk) : AV := .agg [.d (.v (.int .i64 t.kind)), .d (.v (.string (Tx t.text))), .d (.v (.int .i64 t.n)), .d (.v (.int .i64 t.at_)), .d (.v (.bool t.opn))]

def namB (text : Bs) : Bool := decide (1 ≤ text.length) && decide (text.length ≤ 20)

def pfNamed : Nat → Cls := fun f => bif Nat.beq f 4000200008 then .turn 101 else bif Nat.beq f 4000300035 then .look 102 else bif Nat.beq f 4000300039 then .look 102 else .eff

set_option maxRecDepth 100000 in
theorem named_walk (Y : YP) (L : Bs) (i : Nat) (kind : Int) (text : Bs) (to : Nat) (hto : to ≤ L.length) (hL : L.length ≤ 9000) (hi : i ≤ 9000) : SCtr Try.prog Y 45 [.lo 0 0, iV kind, txA text, iV to] (cutO L i) (.tup [tkA ⟨kind, text, 0, i, opnB L to⟩, iV to, bV (namB text)]) (cutO L i) := by
  refine SCtr.of_R (pf := pfNamed) tyOk mixed Try.func45 rfl (by kernel_rfl) (by kernel_rfl) (by simp [Try.ntmps45]) (by simp [cutO]) fun w S φ hg => ?_
  have hφ : φ.length = 1 := hg.hs0.len
  refine R_run hg.ok 1000 rfl rfl ?_
  refine R_if rfl rfl (fun h => ?_) (fun h => ?_) <;> refine R_run hg.ok 1000 rfl rfl ?_
  · have hk1 : to < L.length := lt_dec h (by rw [Tx_size])
    have e1 : L[to]? = some L[to] := List.getElem?_eq_getElem hk1
    have ho : (((L[to].toNat : Int)) == 40) = opnB L to := by
      rw [opnB, e1, Bool.eq_iff_iff, beq_iff_eq, decide_eq_true_eq]; omega
    refine R_indexS hg.ok rfl rfl rfl rfl rfl (Int.natCast_nonneg to) (b := L[to]) (by rw [Tx_get]; exact e1) ?_
    refine R_run hg.ok 1000 rfl rfl ?_
    rw [ho]
    refine R_lenStr hg.ok rfl rfl rfl rfl (n := (text.length : Int)) (by rw [Tx_size]) ?_
    refine R_run hg.ok 1000 rfl rfl ?_
    refine R_if rfl rfl (fun h2 => ?_) (fun h2 => ?_) <;> refine R_run hg.ok 1000 rfl rfl ?_
    · refine R_lenStr hg.ok rfl rfl rfl rfl (n := (text.length : Int)) (by rw [Tx_size]) ?_
      refine R_run hg.ok 1000 rfl rfl ?_
      refine R_storeJ hg.ok rfl rfl rfl rfl rfl rfl rfl rfl rfl ?_
      refine R_run hg.ok 1000 rfl rfl ?_
      rw [show decide ((text.length : Int) ≤ 20) = namB text by rw [namB, decide_eq_true (by have := of_decide_eq_true h2; omega : 1 ≤ text.length), Bool.true_and, Bool.eq_iff_iff, decide_eq_true_eq, decide_eq_true_eq]; omega]
      exact R_retS hg 1 5 (Nat.le_refl _) rfl rfl rfl
    · refine R_storeJ hg.ok rfl rfl rfl rfl rfl rfl rfl rfl rfl ?_
      refine R_run hg.ok 1000 rfl rfl ?_
      rw [show namB text = false by rw [namB, decide_eq_false (by have := of_decide_eq_false h2; omega : ¬ 1 ≤ text.length), Bool.false_and]]
      exact R_retS hg 1 5 (Nat.le_refl _) rfl rfl rfl
  · have hk1 : L.length ≤ to := ge_dec h (by rw [Tx_size])
    have ho : opnB L to = false := by rw [opnB, List.getElem?_eq_none hk1]
    rw [ho]
    refine R_lenStr hg.ok rfl rfl rfl rfl (n := (text.length : Int)) (by rw [Tx_size]) ?_
    refine R_run hg.ok 1000 rfl rfl ?_
    refine R_if rfl rfl (fun h2 => ?_) (fun h2 => ?_) <;> refine R_run hg.ok 1000 rfl rfl ?_
    · refine R_lenStr hg.ok rfl rfl rfl rfl (n := (text.length : Int)) (by rw [Tx_size]) ?_
      refine R_run hg.ok 1000 rfl rfl ?_
      refine R_storeJ hg.ok rfl rfl rfl rfl rfl rfl rfl rfl rfl ?_
      refine R_run hg.ok 1000 rfl rfl ?_
      rw [show decide ((text.length : Int) ≤ 20) = namB text by rw [namB, decide_eq_true (by have := of_decide_eq_true h2; omega : 1 ≤ text.length), Bool.true_and, Bool.eq_iff_iff, decide_eq_true_eq, decide_eq_true_eq]; omega]
      exact R_retS hg 1 5 (Nat.le_refl _) rfl rfl rfl
    · refine R_storeJ hg.ok rfl rfl rfl rfl rfl rfl rfl rfl rfl ?_
      refine R_run hg.ok 1000 rfl rfl ?_
      rw [show namB text = false by rw [namB, decide_eq_false (by have := of_decide_eq_false h2; omega : ¬ 1 ≤ text.length), Bool.false_and]]
      exact R_retS hg 1 5 (Nat.le_refl _) rfl rfl rfl
end Go.Proofs.Ythfkhfbhbfpglaa
