import Derived.Test.YtcafgconfcajbaaPlLaw1
namespace PSL
open Go

def numI (a b : Int) : Int := if a < b then -1 else if a > b then 1 else 0
def signI (n : Int) : Int := if n > 0 then 1 else if n < 0 then -1 else 0

def namesL : List UInt8 → List UInt8 → Int
  | [], [] => 0
  | [], _ :: _ => -1
  | _ :: _, [] => 1
  | x :: a, y :: b => if x = y then namesL a b else numI x.toNat y.toNat
def namesB (a b : ByteArray) : Int := namesL a.data.toList b.data.toList

namespace Tm
mutual
/-- What the program's comparison answers. -/
def cmpT : Tm → Tm → Int
  | mk k s n l, mk k' s' n' l' =>
    if k ≠ k' then signI (IntKind.i64.wrap (k - k')) else if k ≠ 3 then numI n n' else if numI l.length l'.length ≠ 0 then numI l.length l'.length
    else if namesB s s' ≠ 0 then namesB s s' else cmpTL l l'
def cmpTL : List Tm → List Tm → Int
  | x :: a, y :: b => if cmpT x y ≠ 0 then cmpT x y else cmpTL a b
  | _, _ => 0
end
theorem cmpT_eq (a b : Tm) : cmpT a b = if a.k ≠ b.k then signI (IntKind.i64.wrap (a.k - b.k)) else if a.k ≠ 3 then numI a.n b.n else if numI a.l.length b.l.length ≠ 0 then numI a.l.length b.l.length
    else if namesB a.s b.s ≠ 0 then namesB a.s b.s else cmpTL a.l b.l := by cases a; cases b; simp only [cmpT]; rfl

mutual
/-- What the reference's comparison answers. -/
def cmpR : Tm → Tm → Int
  | mk k s n l, mk k' s' n' l' =>
    if k < k' then -1 else if k > k' then 1 else if n < n' ∨ (l.length : Int) < l'.length then -1 else if n > n' ∨ (l.length : Int) > l'.length then 1
    else if Op.bytesLess s.toList s'.toList then -1 else if !(Op.bytesLess s.toList s'.toList || strEq s s') then 1 else cmpRL l l'
def cmpRL : List Tm → List Tm → Int
  | x :: a, y :: b => if cmpR x y ≠ 0 then cmpR x y else cmpRL a b
  | _, _ => 0
end
theorem cmpR_eq (a b : Tm) : cmpR a b = if a.k < b.k then -1 else if a.k > b.k then 1 else if a.n < b.n ∨ (a.l.length : Int) < b.l.length then -1 else if a.n > b.n ∨ (a.l.length : Int) > b.l.length then 1
    else if Op.bytesLess a.s.toList b.s.toList then -1 else if !(Op.bytesLess a.s.toList b.s.toList || strEq a.s b.s) then 1 else cmpRL a.l b.l := by cases a; cases b; simp only [cmpR]; rfl
end Tm

theorem namesL_less : ∀ (a b : List UInt8), (Op.bytesLess a b = true ↔ namesL a b = -1) ∧ (namesL a b = 0 ↔ a = b) ∧ (namesL a b = -1 ∨ namesL a b = 0 ∨ namesL a b = 1)
  | [], [] => by simp [Op.bytesLess, namesL]
  | [], y :: b => by simp [Op.bytesLess, namesL]
  | x :: a, [] => by simp [Op.bytesLess, namesL]
  | x :: a, y :: b => by
    have h := namesL_less a b
    simp only [Op.bytesLess, namesL]
    by_cases hx : x = y
    · subst hx
      have : ¬ x < x := by simp [UInt8.lt_iff_toNat_lt]
      simp only [this, decide_false, Bool.false_or, beq_self_eq_true, Bool.true_and, if_true, List.cons.injEq, true_and]
      exact h
    · rw [if_neg hx]
      have hne : ¬ x.toNat = y.toNat := fun e => hx (UInt8.toNat_inj.1 e)
      have hlt : (x < y) ↔ x.toNat < y.toNat := UInt8.lt_iff_toNat_lt
      simp only [Bool.or_eq_true, decide_eq_true_eq, Bool.and_eq_true, beq_iff_eq, hx, false_and, or_false, hlt, numI, List.cons.injEq]
      by_cases h1 : x.toNat < y.toNat
      · simp [h1]
      · have h2 : ((y.toNat : Int) < x.toNat) := by omega
        have h3 : ¬ ((x.toNat : Int) < y.toNat) := by omega
        simp [h1, h2, h3]

theorem namesB_less (a b : ByteArray) : (Op.bytesLess a.toList b.toList = true ↔ namesB a b = -1) ∧ (namesB a b = 0 ↔ a = b) ∧ (namesB a b = -1 ∨ namesB a b = 0 ∨ namesB a b = 1) := by
  have h := namesL_less a.data.toList b.data.toList
  rw [Tm.toList_data, Tm.toList_data]
  refine ⟨h.1, ?_, h.2.2⟩
  unfold namesB
  rw [h.2.1]
  constructor
  · intro e; cases a; cases b; simpa using e
  · rintro rfl; rfl

theorem namesL_turn : ∀ (a b : List UInt8), namesL b a = - namesL a b
  | [], [] => rfl
  | [], _ :: _ => rfl
  | _ :: _, [] => rfl
  | x :: a, y :: b => by
    simp only [namesL]
    by_cases h : x = y
    · subst h; simp [namesL_turn a b]
    · rw [if_neg h, if_neg (fun e => h e.symm)]
      unfold numI; repeat' split
      all_goals omega

theorem numI_turn (a b : Int) : numI b a = - numI a b := by
  unfold numI; repeat' split
  all_goals omega
theorem numI_zero {a b : Int} : numI a b = 0 ↔ a = b := by
  unfold numI; repeat' split
  all_goals omega
theorem numI_cases (a b : Int) : (numI a b = -1 ∧ a < b) ∨ (numI a b = 0 ∧ a = b) ∨ (numI a b = 1 ∧ b < a) := by
  unfold numI; repeat' split
  all_goals omega

/-- Ways to compare that are an order. -/
structure Ord3 (x y z w : Int) : Prop where
  -- x: a to b, y: b to c, z: a to c
  lt1 : x < 0 → y ≤ 0 → z < 0
  lt2 : x ≤ 0 → y < 0 → z < 0
  gt1 : x > 0 → y ≥ 0 → z > 0
  gt2 : x ≥ 0 → y > 0 → z > 0

theorem numI_trans (a b c : Int) : Ord3 (numI a b) (numI b c) (numI a c) 0 := by
  have h1 := numI_cases a b
  have h2 := numI_cases b c
  have h3 := numI_cases a c
  constructor <;> omega

theorem namesL_trans : ∀ (a b c : List UInt8), Ord3 (namesL a b) (namesL b c) (namesL a c) 0
  | [], [], [] => by constructor <;> simp [namesL]
  | [], [], _ :: _ => by constructor <;> simp [namesL]
  | [], _ :: _, [] => by constructor <;> simp [namesL]
  | [], y :: b, z :: c => by
    have := (namesL_less (y :: b) (z :: c)).2.2
    constructor <;> simp [namesL] <;> omega
  | _ :: _, [], [] => by constructor <;> simp [namesL]
  | _ :: _, [], _ :: _ => by constructor <;> simp [namesL]
  | x :: a, y :: b, [] => by
    have := (namesL_less (x :: a) (y :: b)).2.2
    constructor <;> simp [namesL] <;> omega
  | x :: a, y :: b, z :: c => by
    have ih := namesL_trans a b c
    have hn : ∀ u v : UInt8, ¬ u = v → (numI u.toNat v.toNat = -1 ∧ u.toNat < v.toNat) ∨ (numI u.toNat v.toNat = 1 ∧ v.toNat < u.toNat) := fun u v h => by
      have := numI_cases u.toNat v.toNat
      have : u.toNat ≠ v.toNat := fun e => h (UInt8.toNat_inj.1 e)
      omega
    have l1 := (namesL_less a b).2.2
    have l2 := (namesL_less b c).2.2
    simp only [namesL]
    by_cases h1 : x = y <;> by_cases h2 : y = z
    · subst h1; subst h2; simpa using ih
    · subst h1
      have := hn x z h2
      simp only [if_pos, if_neg h2]
      constructor <;> omega
    · subst h2
      have := hn x y h1
      simp only [if_pos, if_neg h1]
      constructor <;> omega
    · rw [if_neg h1, if_neg h2]
      have g1 := hn x y h1
      have g2 := hn y z h2
      by_cases h3 : x = z
      · subst h3; constructor <;> omega
      · rw [if_neg h3]
        have g3 := hn x z h3
        constructor <;> omega

namespace Tm
/-- Kinds that terms have. -/
theorem fair_kind {t : Tm} (h : fairR t = true) : (t.k = 1 ∨ t.k = 2 ∨ t.k = 3) ∧ (t.k ≠ 3 → t.s = ByteArray.empty ∧ t.l = []) ∧ (t.k = 3 → t.n = 0) := by
  rw [fairR_eq] at h
  simp only [Bool.and_eq_true, kindR] at h
  have h2 := h.2
  split at h2
  · rename_i hk
    simp only [Bool.and_eq_true, strEq_iff, beq_iff_eq] at h2
    exact ⟨.inl hk, fun _ => ⟨h2.1.2, List.length_eq_zero_iff.1 (by omega)⟩, fun e => by omega⟩
  · split at h2
    · rename_i hk
      simp only [Bool.and_eq_true, strEq_iff, beq_iff_eq] at h2
      exact ⟨.inr (.inl hk), fun _ => ⟨h2.1, List.length_eq_zero_iff.1 (by omega)⟩, fun e => by omega⟩
    · simp only [Bool.and_eq_true, beq_iff_eq] at h2
      exact ⟨.inr (.inr h2.1.1.1.1), fun e => absurd h2.1.1.1.1 e, fun _ => h2.1.1.1.2⟩
theorem fair_l {t : Tm} (h : fairR t = true) : fairRL t.l = true := by rw [fairR_eq] at h; simp only [Bool.and_eq_true] at h; exact h.1.2

theorem sign_sub {a b : Int} (ha : a = 1 ∨ a = 2 ∨ a = 3) (hb : b = 1 ∨ b = 2 ∨ b = 3) : signI (IntKind.i64.wrap (a - b)) = numI a b := by
  rw [w64 (by omega) (by omega)]
  unfold signI numI
  repeat' split
  all_goals omega

mutual
theorem cmp_same : ∀ (a b : Tm), fairR a = true → fairR b = true → cmpT a b = cmpR a b
  | mk k s n l, mk k' s' n' l', ha, hb => by
    obtain ⟨a1, a2, a3⟩ := fair_kind ha
    obtain ⟨b1, b2, b3⟩ := fair_kind hb
    have al := fair_l ha
    have bl := fair_l hb
    simp only [Tm.k, Tm.n, Tm.s, Tm.l] at *
    have hL := cmpL_same l l' al bl
    have hs := namesB_less s s'
    simp only [cmpT, cmpR]
    by_cases hk : k = k'
    · subst hk
      rw [if_neg (show ¬ k ≠ k by omega), if_neg (show ¬ k < k by omega), if_neg (show ¬ k > k by omega)]
      by_cases h3 : k = 3
      · rw [if_neg (show ¬ k ≠ 3 by omega), a3 h3, b3 h3]
        have hl := numI_cases l.length l'.length
        rcases hl with ⟨h4, h5⟩ | ⟨h4, h5⟩ | ⟨h4, h5⟩
        · rw [h4, if_pos (show (-1 : Int) ≠ 0 by decide), if_pos (show (0 : Int) < 0 ∨ (l.length : Int) < l'.length by omega)]
        · rw [h4, if_neg (show ¬ (0 : Int) ≠ 0 by decide), if_neg (show ¬ ((0 : Int) < 0 ∨ (l.length : Int) < l'.length) by omega), if_neg (show ¬ ((0 : Int) > 0 ∨ (l.length : Int) > l'.length) by omega)]
          rcases hs.2.2 with h6 | h6 | h6
          · rw [if_pos (show namesB s s' ≠ 0 by omega), if_pos (hs.1.2 h6), h6]
          · have : Op.bytesLess s.toList s'.toList = false := by
              cases hb : Op.bytesLess s.toList s'.toList
              · rfl
              · have := hs.1.1 hb; omega
            rw [if_neg (show ¬ namesB s s' ≠ 0 by omega), this]
            have he : strEq s s' = true := strEq_iff.2 (hs.2.1.1 h6)
            rw [he]; simpa using hL
          · have : Op.bytesLess s.toList s'.toList = false := by
              cases hb : Op.bytesLess s.toList s'.toList
              · rfl
              · have := hs.1.1 hb; omega
            rw [if_pos (show namesB s s' ≠ 0 by omega), this, h6]
            have he : strEq s s' = false := by
              cases he : strEq s s'
              · rfl
              · have := hs.2.1.2 (strEq_iff.1 he); omega
            rw [he]; rfl
        · rw [h4, if_pos (show (1 : Int) ≠ 0 by decide), if_neg (show ¬ ((0 : Int) < 0 ∨ (l.length : Int) < l'.length) by omega), if_pos (show (0 : Int) > 0 ∨ (l.length : Int) > l'.length by omega)]
      · rw [if_pos h3]
        obtain ⟨hs1, hl1⟩ := a2 h3
        obtain ⟨hs2, hl2⟩ := b2 h3
        subst hs1; subst hl1; subst hs2; subst hl2
        have hl := numI_cases n n'
        have e1 : Op.bytesLess ByteArray.empty.toList ByteArray.empty.toList = false := by rw [toList_data]; rfl
        have e2 : strEq ByteArray.empty ByteArray.empty = true := strEq_iff.2 rfl
        rcases hl with ⟨h4, h5⟩ | ⟨h4, h5⟩ | ⟨h4, h5⟩
        · rw [h4, if_pos (show n < n' ∨ _ from .inl h5)]
        · rw [h4, if_neg (by simp; omega), if_neg (by simp; omega), e1, e2]; rfl
        · rw [h4, if_neg (by simp; omega), if_pos (show n > n' ∨ _ from .inl h5)]
    · rw [if_pos hk, sign_sub a1 b1]
      have := numI_cases k k'
      by_cases h1 : k < k'
      · rw [if_pos h1]; omega
      · rw [if_neg h1, if_pos (by omega)]; omega
theorem cmpL_same : ∀ (a b : List Tm), fairRL a = true → fairRL b = true → cmpTL a b = cmpRL a b
  | [], [], _, _ => rfl
  | [], _ :: _, _, _ => rfl
  | _ :: _, [], _, _ => rfl
  | x :: a, y :: b, ha, hb => by
    simp only [fairRL, Bool.and_eq_true] at ha hb
    simp only [cmpTL, cmpRL, cmp_same x y ha.1 hb.1, cmpL_same a b ha.2 hb.2]
end

mutual
theorem cmp_turn : ∀ (a b : Tm), fairR a = true → fairR b = true → cmpT b a = - cmpT a b
  | mk k s n l, mk k' s' n' l', ha, hb => by
    obtain ⟨a1, a2, a3⟩ := fair_kind ha
    obtain ⟨b1, b2, b3⟩ := fair_kind hb
    have al := fair_l ha
    have bl := fair_l hb
    simp only [Tm.k, Tm.n, Tm.s, Tm.l] at *
    have hL := cmpL_turn l l' al bl
    have hn : namesB s' s = - namesB s s' := namesL_turn _ _
    simp only [cmpT]
    by_cases hk : k = k'
    · subst hk
      simp only [if_neg (show ¬ k ≠ k by omega)]
      by_cases h3 : k = 3
      · simp only [if_neg (show ¬ k ≠ 3 by omega)]
        rw [numI_turn l.length l'.length, hn, hL]
        by_cases h4 : numI l.length l'.length = 0
        · rw [h4]; simp
          by_cases h5 : namesB s s' = 0
          · simp [h5]
          · simp [h5]
        · have h5 : - numI l.length l'.length ≠ 0 := by omega
          rw [if_pos h5, if_pos h4]
      · simp only [if_pos (show k ≠ 3 from h3)]
        rw [numI_turn]
    · rw [if_pos hk, if_pos (show k' ≠ k from fun e => hk e.symm), sign_sub a1 b1, sign_sub b1 a1, numI_turn]
theorem cmpL_turn : ∀ (a b : List Tm), fairRL a = true → fairRL b = true → cmpTL b a = - cmpTL a b
  | [], [], _, _ => rfl
  | [], _ :: _, _, _ => rfl
  | _ :: _, [], _, _ => rfl
  | x :: a, y :: b, ha, hb => by
    simp only [fairRL, Bool.and_eq_true] at ha hb
    simp only [cmpTL, cmp_turn x y ha.1 hb.1, cmpL_turn a b ha.2 hb.2]
    by_cases h : cmpT x y = 0
    · rw [h]; simp
    · have h2 : - cmpT x y ≠ 0 := by omega
      rw [if_pos h2, if_pos h]
end

mutual
theorem cmp_zero : ∀ (a b : Tm), fairR a = true → fairR b = true → (cmpT a b = 0 ↔ a = b)
  | mk k s n l, mk k' s' n' l', ha, hb => by
    obtain ⟨a1, a2, a3⟩ := fair_kind ha
    obtain ⟨b1, b2, b3⟩ := fair_kind hb
    have al := fair_l ha
    have bl := fair_l hb
    simp only [Tm.k, Tm.n, Tm.s, Tm.l] at *
    have hs := (namesB_less s s').2.1
    simp only [cmpT, mk.injEq]
    by_cases hk : k = k'
    · subst hk
      rw [if_neg (show ¬ k ≠ k by omega)]
      by_cases h3 : k = 3
      · rw [if_neg (show ¬ k ≠ 3 by omega), a3 h3, b3 h3]
        by_cases h4 : numI l.length l'.length = 0
        · rw [if_neg (show ¬ numI l.length l'.length ≠ 0 by omega)]
          have h4 := numI_zero.1 h4
          by_cases h5 : namesB s s' = 0
          · rw [if_neg (show ¬ namesB s s' ≠ 0 by omega)]
            have hL := cmpL_zero l l' al bl (by omega)
            rw [hL]
            have := hs.1 h5
            simp [this]
          · rw [if_pos h5]
            have : ¬ s = s' := fun e => h5 (hs.2 e)
            simp [this, h5]
        · rw [if_pos h4]
          have h6 : ¬ l = l' := fun e => h4 (by rw [e]; exact numI_zero.2 rfl)
          simp [h4, h6]
      · rw [if_pos h3, numI_zero]
        obtain ⟨hs1, hl1⟩ := a2 h3
        obtain ⟨hs2, hl2⟩ := b2 h3
        subst hs1; subst hl1; subst hs2; subst hl2
        simp
    · rw [if_pos hk, sign_sub a1 b1, numI_zero]
      simp [hk]
theorem cmpL_zero : ∀ (a b : List Tm), fairRL a = true → fairRL b = true → a.length = b.length → (cmpTL a b = 0 ↔ a = b)
  | [], [], _, _, _ => by simp [cmpTL]
  | [], _ :: _, _, _, h => by simp at h
  | _ :: _, [], _, _, h => by simp at h
  | x :: a, y :: b, ha, hb, h => by
    simp only [fairRL, Bool.and_eq_true] at ha hb
    have h1 := cmp_zero x y ha.1 hb.1
    have h2 := cmpL_zero a b ha.2 hb.2 (by simpa using h)
    simp only [cmpTL, List.cons.injEq]
    by_cases h : cmpT x y = 0
    · rw [if_neg (show ¬ cmpT x y ≠ 0 by omega), h2]; simp [h1.1 h]
    · rw [if_pos h]
      have : ¬ x = y := fun e => h (h1.2 e)
      simp [h, this]
end

mutual
theorem cmp_trans : ∀ (a b c : Tm), fairR a = true → fairR b = true → fairR c = true → Ord3 (cmpT a b) (cmpT b c) (cmpT a c) 0
  | mk k s n l, mk k' s' n' l', mk k2 s2 n2 l2, ha, hb, hc => by
    obtain ⟨a1, a2, a3⟩ := fair_kind ha
    obtain ⟨b1, b2, b3⟩ := fair_kind hb
    obtain ⟨c1, c2, c3⟩ := fair_kind hc
    have al := fair_l ha
    have bl := fair_l hb
    have cl := fair_l hc
    simp only [Tm.k, Tm.n, Tm.s, Tm.l] at *
    simp only [cmpT]
    by_cases h1 : k = k'
    · subst h1
      simp only [if_neg (show ¬ k ≠ k by omega)]
      by_cases h2 : k = k2
      · subst h2
        simp only [if_neg (show ¬ k ≠ k by omega)]
        by_cases h3 : k = 3
        · simp only [if_neg (show ¬ k ≠ 3 by omega)]
          have g1 := numI_cases l.length l'.length
          have g2 := numI_cases l'.length l2.length
          have g3 := numI_cases l.length l2.length
          have n1 := namesL_trans s.data.toList s'.data.toList s2.data.toList
          have m1 := (namesB_less s s').2.2
          have m2 := (namesB_less s' s2).2.2
          have m3 := (namesB_less s s2).2.2
          have z1 := (namesB_less s s').2.1
          have z2 := (namesB_less s' s2).2.1
          have z3 := (namesB_less s s2).2.1
          change Ord3 (namesB s s') (namesB s' s2) (namesB s s2) 0 at n1
          by_cases e1 : numI l.length l'.length = 0 <;> by_cases e2 : numI l'.length l2.length = 0
          · have e3 : numI l.length l2.length = 0 := by omega
            rw [if_neg (by omega : ¬ numI l.length l'.length ≠ 0), if_neg (by omega : ¬ numI l'.length l2.length ≠ 0), if_neg (by omega : ¬ numI l.length l2.length ≠ 0)]
            have ih := cmpL_trans l l' l2 al bl cl (by omega) (by omega)
            by_cases f1 : namesB s s' = 0 <;> by_cases f2 : namesB s' s2 = 0
            · have f3 : namesB s s2 = 0 := z3.2 ((z1.1 f1).trans (z2.1 f2))
              rw [if_neg (by omega : ¬ namesB s s' ≠ 0), if_neg (by omega : ¬ namesB s' s2 ≠ 0), if_neg (by omega : ¬ namesB s s2 ≠ 0)]
              exact ih
            · have f3 : namesB s s2 = namesB s' s2 := by rw [z1.1 f1]
              rw [if_neg (by omega : ¬ namesB s s' ≠ 0), if_pos f2, f3, if_pos f2]
              constructor <;> omega
            · have f3 : namesB s s2 = namesB s s' := by rw [z2.1 f2]
              rw [if_neg (by omega : ¬ namesB s' s2 ≠ 0), if_pos f1, f3, if_pos f1]
              constructor <;> omega
            · rw [if_pos f1, if_pos f2]
              have ⟨o1, o2, o3, o4⟩ := n1
              by_cases f3 : namesB s s2 = 0
              · rw [if_neg (by omega : ¬ namesB s s2 ≠ 0)]
                constructor <;> omega
              · rw [if_pos f3]; constructor <;> omega
          · rw [if_pos e2, if_pos (by omega : numI l.length l2.length ≠ 0)]
            constructor <;> omega
          · rw [if_pos e1, if_pos (by omega : numI l.length l2.length ≠ 0)]
            constructor <;> omega
          · rw [if_pos e1, if_pos e2]
            by_cases e3 : numI l.length l2.length = 0
            · constructor <;> omega
            · rw [if_pos e3]; constructor <;> omega
        · simp only [if_pos (show k ≠ 3 from h3)]; exact numI_trans n n' n2
      · rw [if_pos h2, if_pos h2, sign_sub a1 c1]
        have := numI_cases k k2
        constructor <;> omega
    · by_cases h2 : k' = k2
      · subst h2
        rw [if_pos h1, sign_sub a1 b1, if_neg (by omega : ¬ k' ≠ k')]
        have := numI_cases k k'
        constructor <;> omega
      · rw [if_pos h1, if_pos h2, sign_sub a1 b1, sign_sub b1 c1]
        have g1 := numI_cases k k'
        have g2 := numI_cases k' k2
        by_cases h3 : k = k2
        · subst h3; constructor <;> omega
        · rw [if_pos h3, sign_sub a1 c1]
          have g3 := numI_cases k k2
          constructor <;> omega
theorem cmpL_trans : ∀ (a b c : List Tm), fairRL a = true → fairRL b = true → fairRL c = true → a.length = b.length → b.length = c.length → Ord3 (cmpTL a b) (cmpTL b c) (cmpTL a c) 0
  | [], [], [], _, _, _, _, _ => by constructor <;> simp [cmpTL]
  | [], [], _ :: _, _, _, _, _, h => by simp at h
  | [], _ :: _, _, _, _, _, h, _ => by simp at h
  | _ :: _, [], _, _, _, _, h, _ => by simp at h
  | _ :: _, _ :: _, [], _, _, _, _, h => by simp at h
  | x :: a, y :: b, z :: c, ha, hb, hc, h1, h2 => by
    simp only [fairRL, Bool.and_eq_true] at ha hb hc
    have ih := cmpL_trans a b c ha.2 hb.2 hc.2 (by simpa using h1) (by simpa using h2)
    have ⟨o1, o2, o3, o4⟩ := cmp_trans x y z ha.1 hb.1 hc.1
    have z1 := cmp_zero x y ha.1 hb.1
    have z2 := cmp_zero y z hb.1 hc.1
    have z3 := cmp_zero x z ha.1 hc.1
    simp only [cmpTL]
    by_cases f1 : cmpT x y = 0 <;> by_cases f2 : cmpT y z = 0
    · have f3 : cmpT x z = 0 := z3.2 ((z1.1 f1).trans (z2.1 f2))
      rw [if_neg (by omega : ¬ cmpT x y ≠ 0), if_neg (by omega : ¬ cmpT y z ≠ 0), if_neg (by omega : ¬ cmpT x z ≠ 0)]
      exact ih
    · have f3 : cmpT x z = cmpT y z := by rw [z1.1 f1]
      rw [if_neg (by omega : ¬ cmpT x y ≠ 0), if_pos f2, f3, if_pos f2]
      constructor <;> omega
    · have f3 : cmpT x z = cmpT x y := by rw [z2.1 f2]
      rw [if_neg (by omega : ¬ cmpT y z ≠ 0), if_pos f1, f3, if_pos f1]
      constructor <;> omega
    · rw [if_pos f1, if_pos f2]
      by_cases f3 : cmpT x z = 0
      · rw [if_neg (by omega : ¬ cmpT x z ≠ 0)]
        constructor <;> omega
      · rw [if_pos f3]; constructor <;> omega
end
end Tm
end PSL
