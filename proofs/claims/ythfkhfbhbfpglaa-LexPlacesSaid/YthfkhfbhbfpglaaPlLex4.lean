import Derived.Test.YthfkhfbhbfpglaaPlLex3
namespace PSL
open Go

theorem tw_self {p : UInt8 → Bool} : ∀ {l : Bs}, l.all p = true → l.takeWhile p = l
  | [], _ => rfl
  | x :: l, h => by
    simp only [List.all_cons, Bool.and_eq_true] at h
    rw [List.takeWhile_cons_of_pos h.1, tw_self h.2]
theorem tw_all (p : UInt8 → Bool) : ∀ l : Bs, (l.takeWhile p).all p = true
  | [] => rfl
  | x :: l => by
    by_cases h : p x = true
    · rw [List.takeWhile_cons_of_pos h, List.all_cons, h, tw_all p l]; rfl
    · rw [List.takeWhile_cons_of_neg h]; rfl
theorem tw_take (p : UInt8 → Bool) : ∀ l : Bs, l.take (l.takeWhile p).length = l.takeWhile p
  | [] => by simp
  | x :: l => by
    by_cases h : p x = true
    · rw [List.takeWhile_cons_of_pos h, List.length_cons, List.take_succ_cons, tw_take p l]
    · rw [List.takeWhile_cons_of_neg h]; rfl
theorem cut_run (p : UInt8 → Bool) (L : Bs) (i : Nat) : cutB L i (runB p L i) = (L.drop i).takeWhile p := by
  unfold cutB runB; rw [Nat.add_sub_cancel_left, tw_take]
theorem run_alone {p : UInt8 → Bool} (h32 : p 32 = false) {x : Bs} (hx : x.all p = true) : runB p (x ++ [32]) 0 = x.length := by
  unfold runB; rw [List.drop_zero, tw_app h32, tw_self hx]; omega
theorem cut_alone (x r : Bs) : cutB (x ++ r) 0 x.length = x := by unfold cutB; simp
theorem name_alone {kind : Int} {x : Bs} (h1 : 1 ≤ x.length) (h2 : x.length ≤ 20) : nameT (x ++ [32]) kind x 0 x.length = some (⟨kind, x, 0, 0, false⟩, x.length) := by
  unfold nameT
  rw [if_pos ⟨h1, h2⟩]
  have : opnB (x ++ [32]) x.length = false := by unfold opnB; simp
  rw [this]; rfl

def goodC (c : UInt8) : Bool := lowC c || grtC c || dgC c || mrkC c || sgnC c || decide (c.toNat = 33) || decide (c.toNat = 59) || decide (c.toNat = 39)
theorem good_nb {c : UInt8} (h : goodC c = true) : blkC c = false ∧ c.toNat ≠ 37 := by
  have := byte_all (p := fun c => !goodC c || (!blkC c && !decide (c.toNat = 37))) (by decide +kernel) c
  simp only [h, Bool.not_true, Bool.false_or, Bool.and_eq_true, Bool.not_eq_true', decide_eq_false_iff_not] at this
  exact this
theorem tok_alone {x : Bs} {c : UInt8} {r : Bs} {u : Tk} (hx : x = c :: r) (hg : goodC c = true) (hl : x.length ≤ 3000) (h : oneT (x ++ [32]) 0 = some (u, x.length)) : tokT (x ++ [32]) = ([u], 0, 0) := by
  obtain ⟨hb, h37⟩ := good_nb hg
  have hl2 : (x ++ [32]).length = x.length + 1 := by simp
  have h0 : (x ++ [32])[0]? = some c := by rw [hx]; rfl
  have p0 : passN (x ++ [32]) 0 = 0 := pass_stop h0 hb h37
  have p1 : passN (x ++ [32]) x.length = x.length + 1 := by
    unfold passN; simp [skipL, blkC]
  have ht : toks ((x ++ [32]).length + 1) (x ++ [32]) 0 = .ok [u] := by
    rw [hl2]
    simp only [toks]
    rw [p0, hl2, if_pos (by omega), h]
    simp only
    rw [p1, if_neg (by omega)]
  unfold tokT
  rw [if_neg (by omega), ht]

theorem one_alone {L : Bs} {i : Nat} {t : Tk} {to : Nat} {c : UInt8} (h : oneT L i = some (t, to)) (hc : L[i]? = some c) (h39 : c.toNat ≠ 39) :
    t.text = cutB L i to ∧ i + t.text.length = to ∧ goodC c = true ∧ (t.kind = 5 ∨ t.text = [46] ∨ oneT (t.text ++ [32]) 0 = some (⟨t.kind, t.text, t.n, 0, false⟩, t.text.length)) := by
  have hto := oneT_to h
  have hi := (List.getElem?_eq_some_iff.1 hc).1
  have he := (List.getElem?_eq_some_iff.1 hc).2
  have hd : L.drop i = c :: L.drop (i + 1) := by rw [List.drop_eq_getElem_cons hi, he]
  have rl := fun (p : UInt8 → Bool) => (runB_le (p := p) (L := L) (i := i) (by omega))
  have head : ∀ p : UInt8 → Bool, p c = true → cutB L i (runB p L i) = c :: (L.drop (i + 1)).takeWhile p := fun p hp => by
    rw [cut_run, hd, List.takeWhile_cons_of_pos hp]
  have first : ∀ {x r : Bs}, x = c :: r → (x ++ [32])[0]? = some c := fun h => by rw [h]; rfl
  have clen : ∀ p : UInt8 → Bool, i + (cutB L i (runB p L i)).length = runB p L i := fun p => by
    rw [cutB_len (rl p).1 (rl p).2]; have := (rl p).1; omega
  unfold oneT at h
  rw [hc] at h
  simp only at h
  by_cases g1 : lowC c = true
  · rw [if_pos g1] at h
    obtain ⟨rfl, rfl, l1, l2⟩ := nameT_to h
    have hf : folC c = true := by simp [folC, g1]
    refine ⟨rfl, clen folC, by simp [goodC, g1], .inr (.inr ?_)⟩
    simp only
    have hh := head folC hf
    have hall : (cutB L i (runB folC L i)).all folC = true := by rw [cut_run]; exact tw_all _ _
    generalize cutB L i (runB folC L i) = x at *
    unfold oneT
    rw [first hh]
    simp only
    rw [if_pos g1, run_alone (by decide) hall, cut_alone, name_alone l1 l2]
  rw [if_neg g1] at h
  by_cases g2 : grtC c = true
  · rw [if_pos g2] at h
    obtain ⟨rfl, rfl, l1, l2⟩ := nameT_to h
    have hf : folC c = true := by simp [folC, g2]
    refine ⟨rfl, clen folC, by simp [goodC, g2], .inr (.inr ?_)⟩
    simp only
    have hh := head folC hf
    have hall : (cutB L i (runB folC L i)).all folC = true := by rw [cut_run]; exact tw_all _ _
    generalize cutB L i (runB folC L i) = x at *
    unfold oneT
    rw [first hh]
    simp only
    rw [if_neg g1, if_pos g2, run_alone (by decide) hall, cut_alone, name_alone l1 l2]
  rw [if_neg g2] at h
  by_cases g3 : dgC c = true
  · rw [if_pos g3] at h
    cases hn : numT (cutB L i (runB dgC L i)) with
    | none => rw [hn] at h; cases h
    | some n =>
      rw [hn] at h
      cases h
      refine ⟨rfl, clen dgC, by simp [goodC, g3], .inr (.inr ?_)⟩
      simp only
      have hh := head dgC g3
      have hall : (cutB L i (runB dgC L i)).all dgC = true := by rw [cut_run]; exact tw_all _ _
      generalize cutB L i (runB dgC L i) = x at *
      unfold oneT
      rw [first hh]
      simp only
      rw [if_neg g1, if_neg g2, if_pos g3, run_alone (by decide) hall, cut_alone, hn]
      rfl
  rw [if_neg g3, if_neg h39] at h
  by_cases g5 : c.toNat = 91 ∧ (L[i + 1]?.map UInt8.toNat) = some 93
  · rw [if_pos g5] at h
    obtain ⟨rfl, rfl, l1, l2⟩ := nameT_to h
    have e91 : c = 91 := UInt8.toNat_inj.1 g5.1
    obtain ⟨d, hdd, hd93⟩ : ∃ d, L[i + 1]? = some d ∧ d.toNat = 93 := by
      have := g5.2
      cases hx : L[i + 1]? with
      | none => rw [hx] at this; simp at this
      | some d => rw [hx] at this; exact ⟨d, rfl, by simpa using this⟩
    have e93 : d = 93 := UInt8.toNat_inj.1 hd93
    have hi1 := (List.getElem?_eq_some_iff.1 hdd).1
    have he1 := (List.getElem?_eq_some_iff.1 hdd).2
    have hd1 : L.drop (i + 1) = d :: L.drop (i + 1 + 1) := by rw [List.drop_eq_getElem_cons hi1, he1]
    refine ⟨?_, rfl, by rw [e91]; decide, .inr (.inr (by simp only; decide +kernel))⟩
    simp only
    unfold cutB
    rw [hd, hd1, e91, e93, Nat.add_sub_cancel_left]; rfl
  rw [if_neg g5] at h
  have hc1 : cutB L i (i + 1) = [c] := by unfold cutB; rw [hd, Nat.add_sub_cancel_left]; rfl
  by_cases g6 : c.toNat = 33 ∨ c.toNat = 59
  · rw [if_pos g6] at h
    obtain ⟨rfl, rfl, l1, l2⟩ := nameT_to h
    refine ⟨hc1.symm, rfl, by simp [goodC]; omega, .inr (.inr ?_)⟩
    rcases g6 with g | g
    · have e : c = 33 := UInt8.toNat_inj.1 g
      subst e; simp only; decide +kernel
    · have e : c = 59 := UInt8.toNat_inj.1 g
      subst e; simp only; decide +kernel
  rw [if_neg g6] at h
  by_cases g7 : mrkC c = true
  · rw [if_pos g7] at h
    cases h
    refine ⟨hc1.symm, rfl, by simp [goodC, g7], .inr (.inr ?_)⟩
    have := byte_all (p := fun c => !mrkC c || decide (oneT ([c] ++ [32]) 0 = some (⟨4, [c], 0, 0, false⟩, 1))) (by decide +kernel) c
    rw [g7] at this
    simpa using this
  rw [if_neg g7] at h
  by_cases g8 : runB sgnC L i = i + 1 ∧ c.toNat = 46 ∧ endAft L (i + 1) = true
  · rw [if_pos g8] at h
    cases h
    have e46 : c = 46 := UInt8.toNat_inj.1 g8.2.1
    exact ⟨by rw [hc1, e46], rfl, by rw [e46]; decide, .inl rfl⟩
  rw [if_neg g8] at h
  obtain ⟨rfl, rfl, l1, l2⟩ := nameT_to h
  have hs : sgnC c = true := by
    cases hs : sgnC c with
    | true => rfl
    | false =>
      rw [cut_run, hd, List.takeWhile_cons_of_neg (by rw [hs]; simp)] at l1
      simp at l1
  have n91 : c.toNat ≠ 91 := by
    have := byte_all (p := fun c => !sgnC c || !decide (c.toNat = 91)) (by decide +kernel) c
    rw [hs] at this; simpa using this
  refine ⟨rfl, clen sgnC, by simp [goodC, hs], ?_⟩
  simp only
  have hh := head sgnC hs
  have hall : (cutB L i (runB sgnC L i)).all sgnC = true := by rw [cut_run]; exact tw_all _ _
  generalize cutB L i (runB sgnC L i) = x at *
  by_cases hdot : x = [46]
  · exact .inr (.inl hdot)
  refine .inr (.inr ?_)
  unfold oneT
  rw [first hh]
  simp only
  rw [if_neg g1, if_neg g2, if_neg g3, if_neg h39, if_neg (fun g => n91 g.1), if_neg g6, if_neg g7, run_alone (by decide) hall, if_neg, cut_alone, name_alone l1 l2]
  rintro ⟨k1, k2, _⟩
  have e46 : c = 46 := UInt8.toNat_inj.1 k2
  apply hdot
  rw [hh, e46] at k1 ⊢
  simp only [List.length_cons] at k1
  rw [List.length_eq_zero_iff.1 (show ((L.drop (i + 1)).takeWhile sgnC).length = 0 by omega)]

theorem one_opn {L : Bs} {i : Nat} {t : Tk} {to : Nat} (h : oneT L i = some (t, to)) : t.opn = true → t.kind ≤ 2 := by
  intro ho
  have nm : ∀ {kind : Int} {text : Bs} {e : Nat}, kind ≤ 2 → nameT L kind text i e = some (t, to) → t.kind ≤ 2 := fun hk h => by
    obtain ⟨_, rfl, _⟩ := nameT_to h; exact hk
  unfold oneT at h
  split at h
  · cases h
  split at h
  · exact nm (by decide) h
  split at h
  · exact nm (by decide) h
  split at h
  · rename_i c _ _ _ _
    cases hn : numT (cutB L i (runB dgC L i)) with
    | none => rw [hn] at h; cases h
    | some n => rw [hn] at h; cases h; cases ho
  split at h
  · split at h
    · exact nm (by decide) h
    · cases h
  split at h
  · exact nm (by decide) h
  split at h
  · exact nm (by decide) h
  split at h
  · cases h; cases ho
  split at h
  · cases h; cases ho
  · exact nm (by decide) h

/-- What is said of the tokens of a text. -/
structure PlaceT (L : Bs) (lo : Nat) (t : Tk) : Prop where
  lo : (lo : Int) ≤ t.at_
  hi : t.at_ < L.length
  opn : t.opn = true → t.kind ≤ 2
  cut : ∀ c, L[t.at_.toNat]? = some c → c.toNat ≠ 39 → t.kind ≠ 5 → t.at_.toNat + t.text.length ≤ L.length ∧ cutB L t.at_.toNat (t.at_.toNat + t.text.length) = t.text ∧ (t.text ≠ [46] → L.length ≤ 3000 → tokT (t.text ++ [32]) = ([⟨t.kind, t.text, t.n, 0, false⟩], 0, 0))

theorem toks_place : ∀ (f : Nat) (L : Bs) (i : Nat) (l : List Tk), toks f L i = .ok l → (∀ t ∈ l, PlaceT L i t) ∧ ∀ k t u, l[k]? = some t → l[k + 1]? = some u → t.at_ < u.at_
  | 0, L, i, l, h => by simp only [toks, Except.ok.injEq] at h; subst h; exact ⟨by simp, by simp⟩
  | f + 1, L, i, l, h => by
    simp only [toks] at h
    by_cases hp : passN L i < L.length
    · rw [if_pos hp] at h
      have hle : i ≤ passN L i := by unfold passN; omega
      cases hone : oneT L (passN L i) with
      | none => rw [hone] at h; cases h
      | some x =>
        obtain ⟨t, to⟩ := x
        rw [hone] at h
        have hto := oneT_to hone
        have hat := oneT_at hone
        simp only at h
        cases hr : toks f L to with
        | error j => rw [hr] at h; cases h
        | ok r =>
          rw [hr] at h
          simp only [Except.ok.injEq] at h
          subst h
          obtain ⟨h1, h2⟩ := toks_place f L to r hr
          refine ⟨fun u hu => ?_, fun k u v hu hv => ?_⟩
          · rcases List.mem_cons.1 hu with e | e
            · subst e
              refine ⟨by omega, by omega, one_opn hone, fun c hc h39 h5 => ?_⟩
              rw [hat, Int.toNat_natCast] at hc ⊢
              obtain ⟨g1, g2, g3, g4⟩ := one_alone hone hc h39
              refine ⟨by omega, by rw [g2, ← g1], fun hd h3 => ?_⟩
              rcases g4 with g4 | g4 | g4
              · exact absurd g4 h5
              · exact absurd g4 hd
              · have hi := (List.getElem?_eq_some_iff.1 hc).1
                have he := (List.getElem?_eq_some_iff.1 hc).2
                have hx : ∃ r, u.text = c :: r := by
                  rw [g1]; unfold cutB
                  rw [List.drop_eq_getElem_cons hi, he]
                  obtain ⟨n, hn⟩ : ∃ n, to - passN L i = n + 1 := ⟨to - passN L i - 1, by omega⟩
                  rw [hn]; exact ⟨_, rfl⟩
                obtain ⟨r', hx⟩ := hx
                exact tok_alone hx g3 (by omega) g4
            · have hq := h1 u e
              exact ⟨by have := hq.lo; omega, hq.hi, hq.opn, hq.cut⟩
          · cases k with
            | zero =>
              simp only [List.getElem?_cons_zero, Option.some.injEq, Nat.zero_add, List.getElem?_cons_succ] at hu hv
              subst hu
              have := (h1 v (List.mem_iff_getElem?.2 ⟨0, hv⟩)).lo
              omega
            | succ k =>
              simp only [List.getElem?_cons_succ] at hu hv
              exact h2 k u v hu hv
    · rw [if_neg hp] at h
      simp only [Except.ok.injEq] at h; subst h; exact ⟨by simp, by simp⟩
end PSL
