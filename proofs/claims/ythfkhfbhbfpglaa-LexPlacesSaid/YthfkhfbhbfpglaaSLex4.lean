import Derived.Test.YthfkhfbhbfpglaaSLex3
namespace Go.Proofs.Ythfkhfbhbfpglaa
open Go PSL Go.Proofs

theorem one_next {L : Bs} {i : Nat} {c : UInt8} (hc : L[i]? = some c) : oneT L i = if (nextR L i c).2.2 = true then some ((nextR L i c).1, (nextR L i c).2.1) else none := by
  have nm : ∀ (kind : Int) (text : Bs) (to : Nat), nameT L kind text i to = if (namR L kind text i to).2.2 = true then some ((namR L kind text i to).1, (namR L kind text i to).2.1) else none := fun kind text to => by simp [nameT, namR, namB]
  unfold oneT nextR
  rw [hc]
  simp only
  split
  · exact nm _ _ _
  split
  · exact nm _ _ _
  split
  · unfold numP
    cases numT (cutB L i (runB dgC L i)) with
    | none => rfl
    | some n => rfl
  split
  · unfold quoR
    cases quo (L.drop (i + 1)) with
    | none => rfl
    | some x => obtain ⟨t, k⟩ := x; simp [nameT, namR, namB]
  split
  · exact nm _ _ _
  split
  · exact nm _ _ _
  split
  · rfl
  split
  · rfl
  · exact nm _ _ _

def preE (out : List Tk) : Except Nat (List Tk) → Except Nat (List Tk)
  | .ok l => .ok (out ++ l)
  | .error j => .error j

def toksP (f : Nat) (L : Bs) (i : Nat) : Except Nat (List Tk) := if i < L.length then (match oneT L i with
      | none => .error i
      | some (t, to) => match toks f L to with
        | .ok l => .ok (t :: l)
        | .error j => .error j) else .ok []

theorem toks_P (f : Nat) (L : Bs) (i : Nat) : toks (f + 1) L i = toksP f L (passN L i) := rfl

theorem preE_snoc (out : List Tk) (t : Tk) (e : Except Nat (List Tk)) : preE (out ++ [t]) e = preE out (match e with
        | .ok l => .ok (t :: l)
        | .error j => .error j) := by
  cases e with
  | ok l => simp [preE]
  | error j => rfl

def tkRows (l : List Tk) : List (List D) := l.map tkD

theorem tkRows_len (l : List Tk) : (tkRows l).length = l.length := by simp [tkRows]

def tokR (L : Bs) : AV := .tup [.d (.sl (tkRows (tokT L).1)), iV (tokT L).2.1, iV (tokT L).2.2]

theorem tokR_ok {L : Bs} {l : List Tk} (hL : ¬ 8000 < L.length) (h : toks (L.length + 1) L 0 = .ok l) : tokR L = .tup [.d (.sl (tkRows l)), iV 0, iV 0] := by
  unfold tokR tokT; rw [if_neg hL, h]

theorem tokR_bad {L : Bs} {j : Nat} (hL : ¬ 8000 < L.length) (h : toks (L.length + 1) L 0 = .error j) : tokR L = .tup [.d (.sl []), iV j, iV 2] := by
  unfold tokR tokT; rw [if_neg hL, h]; rfl

set_option maxRecDepth 100000 in
theorem tokens_ok (L : Bs) (hL : L.length ≤ 9000) : PCtr Try.prog 11 [txA L] (tokR L) := by
  refine PCtr.of_R (pf := fun _ => .eff) tyOk mixed Try.func11 rfl (by kernel_rfl) (by kernel_rfl) (by simp [Try.ntmps11]) fun w S hg => ?_
  refine R_run hg.ok 1000 rfl rfl ?_
  refine R_if rfl rfl (fun h => ?_) (fun h => ?_)
  · refine R_run hg.ok 1000 rfl rfl ?_
    have h : 8000 < L.length := by have := of_decide_eq_true h; rw [Tx_size] at this; omega
    refine R_ret hg 5 rfl rfl ?_
    unfold tokR tokT
    rw [if_pos h]; rfl
  have hbig : ¬ 8000 < L.length := by have := of_decide_eq_false h; rw [Tx_size] at this; omega
  have hpass := fun i => pass_walk ⟨[], fun _ => true⟩ L i
  first
  | (refine R_run hg.ok 5 rfl rfl ?_; refine R_own 6 5 rfl rfl ?_)
  | (refine R_run hg.ok 6 rfl rfl ?_; refine R_own 6 5 rfl rfl ?_)
  | (refine R_run hg.ok 7 rfl rfl ?_; refine R_own 6 5 rfl rfl ?_)
  | (refine R_run hg.ok 8 rfl rfl ?_; refine R_own 6 5 rfl rfl ?_)
  | (refine R_run hg.ok 9 rfl rfl ?_; refine R_own 6 5 rfl rfl ?_)
  | (refine R_run hg.ok 10 rfl rfl ?_; refine R_own 6 5 rfl rfl ?_)
  | (refine R_run hg.ok 11 rfl rfl ?_; refine R_own 6 5 rfl rfl ?_)
  | (refine R_run hg.ok 12 rfl rfl ?_; refine R_own 6 5 rfl rfl ?_)
  | (refine R_run hg.ok 13 rfl rfl ?_; refine R_own 6 5 rfl rfl ?_)
  refine R_run hg.ok 1000 rfl rfl ?_
  refine R_callSO hg.ok hg.gup ⟨rfl, rfl⟩ (fun _ _ _ _ h => by cases h) [0] (cutO L (passN L 0) ++ [.arr 5 0 []]) (hpass 0 (by omega) hL) (fun _ => rfl) rfl rfl rfl rfl rfl rfl rfl rfl ?_
  refine R_run hg.ok 1000 rfl rfl ?_
  have h0 : toks (L.length + 1) L 0 = preE [] (toksP L.length L (passN L 0)) := by
    rw [toks_P]; cases toksP L.length L (passN L 0) <;> rfl
  refine R_loop (fun x : Nat × Nat × List Tk => ([(0, txA L), (5, .lo 0 0), (6, .ow 1 x.2.2.length)], cutO L x.2.1 ++ [.arr 5 x.2.2.length (tkRows x.2.2)])) (fun x => x.2.1 ≤ L.length ∧ L.length - x.2.1 ≤ x.1 ∧ x.2.2.length ≤ x.2.1 ∧ toks (L.length + 1) L 0 = preE x.2.2 (toksP x.1 L x.2.1)) (fun x => L.length - x.2.1) (L.length, passN L 0, []) ⟨(pass_le (by omega)).2, by simp only; omega, Nat.zero_le _, h0⟩ ⟨.refl _, .refl _, .refl _, trivial⟩ rfl ?_
  rintro ⟨f, i, out⟩ ⟨hi, hf, ho, hm⟩
  simp only at hi hf ho hm
  refine R_run hg.ok 1000 rfl rfl ?_
  refine R_if rfl rfl (fun h1 => ?_) (fun h1 => ?_) <;> refine R_run hg.ok 1000 rfl rfl ?_
  · have h1 : i < L.length := lt_dec h1 (by rw [Tx_size])
    have hc : L[i]? = some L[i] := List.getElem?_eq_getElem h1
    have hone := one_next hc
    have hn := next_walk ⟨[], fun _ => true⟩ L i L[i] hc hL
    have hP : toksP f L i = match oneT L i with
      | none => .error i
      | some (t, to) => match toks f L to with
        | .ok l => .ok (t :: l)
        | .error j => .error j := by unfold toksP; rw [if_pos h1]
    generalize nextR L i L[i] = q at hone hn
    obtain ⟨t, to, ok⟩ := q
    simp only at hone
    refine R_callSO hg.ok hg.gup ⟨rfl, rfl⟩ (fun _ _ _ _ h => by cases h) [0] (cutO L i ++ [.arr 5 out.length (tkRows out)]) hn (fun _ => rfl) rfl rfl rfl rfl rfl rfl rfl rfl ?_
    refine R_run hg.ok 1000 rfl rfl ?_
    refine R_if rfl rfl (fun h2 => ?_) (fun h2 => ?_) <;> refine R_run hg.ok 1000 rfl rfl ?_
    · have h2 : ok = false := by simpa using h2
      rw [h2, if_neg (by simp)] at hone
      rw [hone] at hP
      refine R_ret hg 5 rfl rfl ?_
      rw [tokR_bad hbig (j := i) (by rw [hm, hP]; rfl)]
      rfl
    · have h2 : ok = true := by simpa using h2
      rw [h2, if_pos rfl] at hone
      rw [hone] at hP
      have hto := oneT_to hone
      simp only at hP
      have hf1 : f = (f - 1) + 1 := by omega
      rw [hf1, toks_P] at hP
      have hps := pass_le (L := L) (i := to) hto.2
      refine R_appendO hg.ok (tkRows (out ++ [t])) rfl rfl rfl rfl rfl rfl rfl rfl rfl (by simp) (by simp [one1]) (by simp [tkRows, tkD]) (by rw [tkRows_len]; simp; omega) (by rw [tkRows_len]; simp; omega) ?_
      refine R_run hg.ok 1000 rfl rfl ?_
      refine R_callSO hg.ok hg.gup ⟨rfl, rfl⟩ (fun _ _ _ _ h => by cases h) [0] (cutO L (passN L to) ++ [.arr 5 (out.length + 1) (tkRows (out ++ [t])), .box [.d (.v (.int .i64 t.kind)), .d (.v (.string (Tx t.text))), .d (.v (.int .i64 t.n)), .d (.v (.int .i64 t.at_)), .d (.v (.bool t.opn))]]) (hpass to hto.2 hL) (fun _ => rfl) rfl rfl rfl rfl rfl rfl rfl rfl ?_
      refine R_run hg.ok 1000 rfl rfl ?_
      refine R_dropO 2 (cutO L (passN L to) ++ [.arr 5 (out.length + 1) (tkRows (out ++ [t]))]) (Nat.zero_le _) rfl rfl ?_
      refine R_next (f - 1, passN L to, out ++ [t]) ⟨hps.2, by simp only; omega, by simp; omega, ?_⟩ (by simp only; omega) ⟨.refl _, .refl _, by simp only [List.length_append, List.length_singleton]; exact .refl _, trivial⟩ (by simp only [List.length_append, List.length_singleton])
      simp only
      rw [hm, preE_snoc, ← hP, ← hf1]
  · have h1 : L.length ≤ i := ge_dec h1 (by rw [Tx_size])
    refine R_ret hg 5 rfl (sealA_tup (mapO_cons (sealA_ow rfl) rfl)) ?_
    rw [tokR_ok hbig (l := out) (by rw [hm]; unfold toksP; rw [if_neg (by omega)]; simp [preE])]
    rfl
end Go.Proofs.Ythfkhfbhbfpglaa
