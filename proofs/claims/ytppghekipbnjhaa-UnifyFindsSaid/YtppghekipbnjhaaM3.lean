import Derived.Test.YtppghekipbnjhaaM2
namespace PSL
open Go
namespace Tm

def walkT (B : Binds) : Nat → Tm → Tm
  | 0, t => t
  | f + 1, t => if t.k = 1 then (match findB B t.n with | some x => walkT B f x | none => t) else t
def walkB (B : Binds) (t : Tm) : Tm := walkT B (B.length + 1) t

mutual
def lkT (g : Int → List Int → Bool × List Int) : Tm → List Int → Bool × List Int
  | mk k _ n l, M => if k = 1 then g n M else lkTL g l M
def lkTL (g : Int → List Int → Bool × List Int) : List Tm → List Int → Bool × List Int
  | [], M => (false, M)
  | x :: r, M => if (lkT g x M).1 then (true, (lkT g x M).2) else lkTL g r (lkT g x M).2
end

/-- Is a variable beneath a variable? Each bound one is gone into once. -/
def lkF (B : Binds) (v : Int) : Nat → Int → List Int → Bool × List Int
  | 0, n, M => (decide (n = v), M)
  | u + 1, n, M => if n = v then (true, M) else match findB B n with
    | none => (false, M)
    | some x => if M.contains n then (false, M) else lkT (lkF B v u) x (M ++ [n])
def withB (B : Binds) (v : Int) (t : Tm) : Bool := (lkT (lkF B v (B.length + 1)) t []).1
def clashB (x y : Tm) : Bool := decide (x.k ≠ y.k) || decide (x.n ≠ y.n) || !strEq x.s y.s || decide (x.l.length ≠ y.l.length)

def uniF : Nat → List (Tm × Tm) → Binds → List (Int × Int) → Option (Option Binds)
  | 0, _, _, _ => none
  | f + 1, T, B, met => match T.getLast? with
    | none => some (some B)
    | some (x, y) =>
      if (decide (x.k = 1) && decide (y.k = 1)) && met.contains (x.n, y.n) then uniF f T.dropLast B met else
      let met' := if decide (x.k = 1) && decide (y.k = 1) then met ++ [(x.n, y.n)] else met
      let x' := walkB B x
      let y' := walkB B y
      if x'.k = 1 ∧ y'.k = 1 ∧ x'.n = y'.n then uniF f T.dropLast B met'
      else if x'.k = 1 then (if withB B x'.n y' then some none else uniF f T.dropLast (B ++ [(x'.n, y')]) met')
      else if y'.k = 1 then (if withB B y'.n x' then some none else uniF f T.dropLast (B ++ [(y'.n, x')]) met')
      else if clashB x' y' then some none
      else uniF f (T.dropLast ++ x'.l.zip y'.l) B met'
def solB (σ : Int → Tm) (B : Binds) : Prop := ∀ b ∈ B, σ b.1 = putF σ b.2

theorem putF_var {σ : Int → Tm} {t : Tm} (h : t.k = 1) : putF σ t = σ t.n := by
  cases t; simp only [k, n] at h ⊢; simp only [putF]; rw [if_pos h]

theorem putF_fun {σ : Int → Tm} {t : Tm} (h : t.k ≠ 1) : putF σ t = mk t.k t.s t.n (putFL σ t.l) := by
  cases t; simp only [k, n, s, l] at h ⊢; simp only [putF]; rw [if_neg h]
theorem size_pos (t : Tm) : 1 ≤ size t := by rw [size_eq]; omega

theorem walk_sol {σ : Int → Tm} {B : Binds} (h : solB σ B) : ∀ (f : Nat) (t : Tm), putF σ (walkT B f t) = putF σ t
  | 0, t => rfl
  | f + 1, t => by
    simp only [walkT]
    by_cases hk : t.k = 1
    · rw [if_pos hk]
      cases hf : findB B t.n with
      | none => rfl
      | some x =>
        simp only
        rw [walk_sol h f x, putF_var hk, h _ (findB_mem hf)]
    · rw [if_neg hk]

/-- What was found beneath is no greater. -/
def lkOk (σ : Int → Tm) (v : Int) (g : Int → List Int → Bool × List Int) : Prop := ∀ n M, (g n M).1 = true → size (σ v) ≤ size (σ n)

mutual
theorem lkT_size {σ : Int → Tm} {v : Int} {g : Int → List Int → Bool × List Int} (hg : lkOk σ v g) : ∀ (t : Tm) (M : List Int), (lkT g t M).1 = true → size (σ v) ≤ size (putF σ t) ∧ (t.k ≠ 1 → size (σ v) < size (putF σ t))
  | mk k s n l, M, h => by
    simp only [lkT] at h
    by_cases hk : k = 1
    · rw [if_pos hk] at h
      have := hg n M h
      simp only [putF, if_pos hk, Tm.k]
      exact ⟨this, fun hne => absurd hk hne⟩
    · rw [if_neg hk] at h
      have := lkTL_size hg l M h
      simp only [putF, if_neg hk, size]
      exact ⟨by omega, fun _ => by omega⟩
theorem lkTL_size {σ : Int → Tm} {v : Int} {g : Int → List Int → Bool × List Int} (hg : lkOk σ v g) : ∀ (l : List Tm) (M : List Int), (lkTL g l M).1 = true → size (σ v) ≤ sizeL (putFL σ l)
  | [], M, h => by simp [lkTL] at h
  | x :: r, M, h => by
    simp only [lkTL] at h
    simp only [putFL, sizeL]
    by_cases hx : (lkT g x M).1 = true
    · have := (lkT_size hg x M hx).1; omega
    · rw [if_neg hx] at h
      have := lkTL_size hg r _ h; omega
end

theorem lkF_ok {σ : Int → Tm} {B : Binds} (h : solB σ B) (v : Int) : ∀ u, lkOk σ v (lkF B v u)
  | 0, n, M, hl => by simp only [lkF, decide_eq_true_eq] at hl; rw [hl]; exact Nat.le_refl _
  | u + 1, n, M, hl => by
    simp only [lkF] at hl
    by_cases hn : n = v
    · rw [hn]; exact Nat.le_refl _
    · rw [if_neg hn] at hl
      cases hf : findB B n with
      | none => rw [hf] at hl; cases hl
      | some x =>
        rw [hf] at hl
        simp only at hl
        split at hl
        · cases hl
        · have := (lkT_size (lkF_ok h v u) x _ hl).1
          rw [h _ (findB_mem hf)]; exact this

theorem withB_no {σ : Int → Tm} {B : Binds} (h : solB σ B) {v : Int} {t : Tm} (he : σ v = putF σ t) (hv : ¬ (t.k = 1 ∧ (t.n = v ∨ findB B t.n ≠ none))) : withB B v t = false := by
  cases hw : withB B v t with
  | false => rfl
  | true =>
    exfalso
    unfold withB at hw
    by_cases hk : t.k = 1
    · cases t with
      | mk k s n l =>
        simp only [Tm.k, Tm.n] at hk hv
        simp only [lkT, if_pos hk, lkF] at hw
        rw [if_neg (fun e => hv ⟨hk, .inl e⟩)] at hw
        cases hf : findB B n with
        | none => rw [hf] at hw; cases hw
        | some x => exact hv ⟨hk, .inr (by rw [hf]; simp)⟩
    · have := (lkT_size (lkF_ok h v _) t [] hw).2 hk
      rw [← he] at this; omega
end Tm
end PSL
namespace PSL
open Go
namespace Tm

/-- Chains of variables go on from bind to later bind. -/
structure chainB (B : Binds) : Prop where
  nodup : (B.map (·.1)).Nodup
  chain : ∀ (i : Nat) (b : Int × Tm), B[i]? = some b → b.2.k = 1 → ∀ (j : Nat) (c : Int × Tm), B[j]? = some c → c.1 = b.2.n → i < j
theorem chainB.nil : chainB [] := ⟨by simp, by simp⟩

theorem findB_none_iff {B : Binds} {v : Int} : findB B v = none ↔ ∀ b ∈ B, b.1 ≠ v := by
  unfold findB
  rw [Option.map_eq_none_iff, List.find?_eq_none]
  simp

theorem findB_at {B : Binds} {v : Int} {x : Tm} (h : findB B v = some x) : ∃ j : Nat, B[j]? = some (v, x) := by
  obtain ⟨j, hj⟩ := List.mem_iff_getElem?.1 (findB_mem h)
  exact ⟨j, hj⟩

theorem chainB.snoc {B : Binds} (h : chainB B) {v : Int} {t : Tm} (hv : findB B v = none) (ht : t.k = 1 → findB B t.n = none ∧ t.n ≠ v) : chainB (B ++ [(v, t)]) := by
  have hv' := findB_none_iff.1 hv
  constructor
  · rw [List.map_append, List.nodup_append]
    refine ⟨h.nodup, by simp, ?_⟩
    intro a ha b hb
    simp only [List.map_cons, List.map_nil, List.mem_singleton] at hb
    subst hb
    obtain ⟨c, hc, rfl⟩ := List.mem_map.1 ha
    exact hv' c hc
  · intro i b hb hk j c hc hcn
    rcases Nat.lt_or_ge i B.length with hi | hi
    · rw [List.getElem?_append_left hi] at hb
      rcases Nat.lt_or_ge j B.length with hj | hj
      · rw [List.getElem?_append_left hj] at hc
        exact h.chain i b hb hk j c hc hcn
      · omega
    · rw [List.getElem?_append_right hi] at hb
      have hi0 : i - B.length = 0 := by
        rcases Nat.eq_zero_or_pos (i - B.length) with h | h
        · exact h
        · rw [List.getElem?_eq_none (by simp; omega)] at hb; cases hb
      rw [hi0] at hb; simp at hb; subst hb
      obtain ⟨h1, h2⟩ := ht hk
      exfalso
      rcases Nat.lt_or_ge j B.length with hj | hj
      · rw [List.getElem?_append_left hj] at hc
        exact findB_none_iff.1 h1 c (List.mem_of_getElem? hc) hcn
      · rw [List.getElem?_append_right hj] at hc
        have hj0 : j - B.length = 0 := by
          rcases Nat.eq_zero_or_pos (j - B.length) with h | h
          · exact h
          · rw [List.getElem?_eq_none (by simp; omega)] at hc; cases hc
        rw [hj0] at hc; simp at hc; subst hc
        exact h2 hcn.symm

theorem walk_end {B : Binds} (h : chainB B) : ∀ (f : Nat) (t : Tm), (∀ (j : Nat) (c : Int × Tm), B[j]? = some c → t.k = 1 → c.1 = t.n → B.length - j ≤ f) → (walkT B f t).k = 1 → findB B (walkT B f t).n = none
  | 0, t, hj, hk => by
    simp only [walkT] at hk ⊢
    cases hf : findB B t.n with
    | none => rfl
    | some x =>
      obtain ⟨j, hx⟩ := findB_at hf
      have h1 := hj j _ hx hk rfl
      have := (List.getElem?_eq_some_iff.1 hx).1
      omega
  | f + 1, t, hj, hk => by
    simp only [walkT] at hk ⊢
    by_cases ht : t.k = 1
    · rw [if_pos ht] at hk ⊢
      cases hf : findB B t.n with
      | none => exact hf
      | some x =>
        rw [hf] at hk
        simp only at hk ⊢
        obtain ⟨j, hx⟩ := findB_at hf
        have h1 := hj j _ hx ht rfl
        refine walk_end h f x (fun j' c hc hxk hcn => ?_) hk
        have := h.chain j _ hx hxk j' c hc hcn
        omega
    · rw [if_neg ht] at hk
      exact absurd hk ht
theorem walkB_end {B : Binds} (h : chainB B) {t : Tm} (hk : (walkB B t).k = 1) : findB B (walkB B t).n = none := walk_end h _ t (fun j c hc _ _ => by omega) hk
def fairBB (B : Binds) : Prop := ∀ b ∈ B, b.2.fairR = true ∧ 0 ≤ b.1 ∧ b.1 < 1000000

theorem walk_fair {B : Binds} (h : fairBB B) : ∀ (f : Nat) (t : Tm), t.fairR = true → (walkT B f t).fairR = true
  | 0, t, ht => ht
  | f + 1, t, ht => by
    simp only [walkT]
    split
    · split
      · rename_i x hx; exact walk_fair h f x (h _ (findB_mem hx)).1
      · exact ht
    · exact ht
def sumS (σ : Int → Tm) (T : List (Tm × Tm)) : Nat := (T.map fun p => size (putF σ p.1)).sum
theorem sumS_app (σ : Int → Tm) (A B : List (Tm × Tm)) : sumS σ (A ++ B) = sumS σ A + sumS σ B := by simp [sumS]

theorem sumS_zip (σ : Int → Tm) : ∀ (l m : List Tm), l.length = m.length → sumS σ (l.zip m) = sizeL (putFL σ l)
  | [], [], _ => rfl
  | [], _ :: _, h => by simp at h
  | _ :: _, [], h => by simp at h
  | a :: l, b :: m, h => by
    have := sumS_zip σ l m (by simpa using h)
    simp only [sumS, List.zip_cons_cons, List.map_cons, List.sum_cons, putFL, sizeL] at this ⊢
    omega

theorem zip_sol {σ : Int → Tm} : ∀ (l m : List Tm), putFL σ l = putFL σ m → ∀ p ∈ l.zip m, putF σ p.1 = putF σ p.2
  | [], m, _, p, hp => by simp at hp
  | _ :: _, [], _, p, hp => by simp at hp
  | a :: l, b :: m, h, p, hp => by
    simp only [putFL, List.cons.injEq] at h
    rcases List.mem_cons.1 (by simpa using hp) with e | e
    · rw [e]; exact h.1
    · exact zip_sol l m h.2 p e

structure UInv (σ : Int → Tm) (T : List (Tm × Tm)) (B : Binds) : Prop where
  solb : solB σ B
  solt : ∀ p ∈ T, putF σ p.1 = putF σ p.2
  chain : chainB B
  fairb : fairBB B
  fairt : ∀ p ∈ T, p.1.fairR = true ∧ p.2.fairR = true

/-- What binds make of a term, a unifier makes the same of. -/
theorem full_sol {σ : Int → Tm} {B : Binds} (h : solB σ B) : ∀ (M : Nat) (t : Tm), t.fairR = true → fairBB B → putF σ (fullS B M t) = putF σ t := by
  intro M
  induction M with
  | zero => intro t _ _; rfl
  | succ M ih =>
    intro t hf hb
    simp only [fullS]
    rw [putF_comp]
    congr 1
    funext v
    cases hv : findB B v with
    | none => simp only; rw [putF_var (show (vT v).k = 1 from rfl)]; rfl
    | some x => simp only; rw [ih x (hb _ (findB_mem hv)).1 hb, h _ (findB_mem hv)]
end Tm
end PSL
namespace PSL
open Go
namespace Tm

/-- What was met stays so. -/
def lkExt (g : Int → List Int → Bool × List Int) : Prop := ∀ n M, ∃ R, (g n M).2 = M ++ R

mutual
theorem lkT_ext {g : Int → List Int → Bool × List Int} (hg : lkExt g) : ∀ (t : Tm) (M : List Int), ∃ R, (lkT g t M).2 = M ++ R
  | mk k s n l, M => by
    simp only [lkT]
    split
    · exact hg n M
    · exact lkTL_ext hg l M
theorem lkTL_ext {g : Int → List Int → Bool × List Int} (hg : lkExt g) : ∀ (l : List Tm) (M : List Int), ∃ R, (lkTL g l M).2 = M ++ R
  | [], M => ⟨[], by simp [lkTL]⟩
  | x :: r, M => by
    obtain ⟨R, h⟩ := lkT_ext hg x M
    simp only [lkTL]
    split
    · exact ⟨R, h⟩
    · obtain ⟨R2, h2⟩ := lkTL_ext hg r (lkT g x M).2
      exact ⟨R ++ R2, by rw [h2, h, List.append_assoc]⟩
end

theorem lkF_ext (B : Binds) (v : Int) : ∀ u, lkExt (lkF B v u)
  | 0, n, M => ⟨[], by simp [lkF]⟩
  | u + 1, n, M => by
    simp only [lkF]
    split
    · exact ⟨[], by simp⟩
    · split
      · exact ⟨[], by simp⟩
      · split
        · exact ⟨[], by simp⟩
        · rename_i x _ _
          obtain ⟨R, h⟩ := lkT_ext (lkF_ext B v u) x (M ++ [n])
          exact ⟨n :: R, by rw [h, List.append_assoc]; rfl⟩

theorem count_le (B : Binds) (M R : List Int) : (B.countP fun b => !(M ++ R).contains b.1) ≤ B.countP fun b => !M.contains b.1 := by
  apply List.countP_mono_left
  intro b _ h
  simp only [Bool.not_eq_true', List.contains_eq_mem, decide_eq_false_iff_not, List.mem_append, not_or] at h ⊢
  exact h.1

theorem count_lt {B : Binds} {M : List Int} {n : Int} {x : Tm} (hx : findB B n = some x) (hM : M.contains n = false) : (B.countP fun b => !(M ++ [n]).contains b.1) < B.countP fun b => !M.contains b.1 := by
  obtain ⟨j, hj⟩ := List.mem_iff_append.1 (findB_mem hx)
  obtain ⟨r, rfl⟩ := hj
  have h1 := count_le j M [n]
  have h2 := count_le r M [n]
  have h3 : (!(M ++ [n]).contains n) = false := by simp
  have h4 : (!M.contains n) = true := by rw [hM]; rfl
  simp only [List.countP_append, List.countP_cons, h3, h4]
  simp only [if_true, Bool.false_eq_true, if_false]
  omega

theorem lkT_var {g : Int → List Int → Bool × List Int} {t : Tm} {M : List Int} (h : t.k = 1) : lkT g t M = g t.n M := by
  cases t; simp only [k, n] at h ⊢; simp only [lkT]; rw [if_pos h]

theorem lkT_fun {g : Int → List Int → Bool × List Int} {t : Tm} {M : List Int} (h : t.k ≠ 1) : lkT g t M = lkTL g t.l M := by
  cases t; simp only [k, l] at h ⊢; simp only [lkT]; rw [if_neg h]
end Tm
end PSL
namespace PSL

theorem Tm.length_le_sizeL : ∀ l : List Tm, l.length ≤ Tm.sizeL l
  | [] => by simp
  | x :: l => by have := Tm.length_le_sizeL l; have := Tm.size_pos x; simp only [List.length_cons, Tm.sizeL]; omega
end PSL
namespace PSL
open Go
namespace Tm

theorem UInv.pop {σ : Int → Tm} {R : List (Tm × Tm)} {p : Tm × Tm} {B : Binds} (h : UInv σ (R ++ [p]) B) : UInv σ R B :=
  ⟨h.solb, fun q hq => h.solt q (by simp [hq]), h.chain, h.fairb, fun q hq => h.fairt q (by simp [hq])⟩

theorem UInv.bind {σ : Int → Tm} {R : List (Tm × Tm)} {B : Binds} (h : UInv σ R B) {u t : Tm} (hk : u.k = 1) (hfu : u.fairR = true) (hft : t.fairR = true) (he : putF σ u = putF σ t) (hu : findB B u.n = none) (ht : t.k = 1 → findB B t.n = none ∧ t.n ≠ u.n) : UInv σ R (B ++ [(u.n, t)]) := by
  refine ⟨fun b hb => ?_, h.solt, h.chain.snoc hu ht, fun b hb => ?_, h.fairt⟩
  · rcases List.mem_append.1 hb with hb | hb
    · exact h.solb b hb
    · simp only [List.mem_singleton] at hb; subst hb; simp only; rw [← putF_var (σ := σ) hk]; exact he
  · rcases List.mem_append.1 hb with hb | hb
    · exact h.fairb b hb
    · simp only [List.mem_singleton] at hb; subst hb; exact ⟨hft, occ_range u hfu u.n (occ_var hk)⟩

theorem UInv.zip {σ : Int → Tm} {R : List (Tm × Tm)} {B : Binds} (h : UInv σ R B) {x y : Tm} (hkx : x.k ≠ 1) (hky : y.k ≠ 1) (fx : x.fairR = true) (fy : y.fairR = true) (he : putF σ x = putF σ y) : UInv σ (R ++ x.l.zip y.l) B ∧ x.k = y.k ∧ x.s = y.s ∧ x.n = y.n ∧ x.l.length = y.l.length ∧ sumS σ (R ++ x.l.zip y.l) + 1 = sumS σ R + size (putF σ x) := by
  have hsz : size (putF σ x) = 1 + sizeL (putFL σ x.l) := by rw [putF_fun hkx]; simp only [size]
  rw [putF_fun hkx, putF_fun hky] at he
  simp only [Tm.mk.injEq] at he
  obtain ⟨e1, e2, e3, e4⟩ := he
  have hlen : x.l.length = y.l.length := by rw [← putFL_len σ, e4, putFL_len]
  refine ⟨⟨h.solb, fun q hq => ?_, h.chain, h.fairb, fun q hq => ?_⟩, e1, e2, e3, hlen, ?_⟩
  · rcases List.mem_append.1 hq with hq | hq
    · exact h.solt q hq
    · exact zip_sol _ _ e4 q hq
  · rcases List.mem_append.1 hq with hq | hq
    · exact h.fairt q hq
    · have h1 := List.of_mem_zip hq
      exact ⟨Sub.kid_fair fx h1.1, Sub.kid_fair fy h1.2⟩
  · rw [sumS_app, sumS_zip σ _ _ hlen, hsz]; omega

/-- No term is greater than one bound. -/
def sizT (N : Nat) (T : List (Tm × Tm)) : Prop := ∀ p ∈ T, p.1.size ≤ N ∧ p.2.size ≤ N
def sizB (N : Nat) (B : Binds) : Prop := ∀ b ∈ B, b.2.size ≤ N

theorem walk_siz {N : Nat} {B : Binds} (h : sizB N B) : ∀ (f : Nat) (t : Tm), t.size ≤ N → (walkT B f t).size ≤ N
  | 0, t, ht => ht
  | f + 1, t, ht => by
    simp only [walkT]
    split
    · split
      · rename_i x hx; exact walk_siz h f x (h _ (findB_mem hx))
      · exact ht
    · exact ht

theorem sizB.snoc {N : Nat} {B : Binds} (h : sizB N B) {v : Int} {t : Tm} (ht : t.size ≤ N) : sizB N (B ++ [(v, t)]) := fun b hb => by
  rcases List.mem_append.1 hb with hb | hb
  · exact h b hb
  · simp only [List.mem_singleton] at hb; subst hb; exact ht

theorem sizT.zip {N : Nat} {R : List (Tm × Tm)} (h : sizT N R) {x y : Tm} (hx : x.size ≤ N) (hy : y.size ≤ N) : sizT N (R ++ x.l.zip y.l) := fun q hq => by
  rcases List.mem_append.1 hq with hq | hq
  · exact h q hq
  · have h1 := List.of_mem_zip hq
    have h2 := size_mem h1.1
    have h3 := size_mem h1.2
    have h4 := size_eq x
    have h5 := size_eq y
    omega

/-- What stands between one round and the next. -/
structure URound (σ : Int → Tm) (B' : Binds) (n : Nat) (T : List (Tm × Tm)) (B : Binds) (met : List (Int × Int)) : Prop where
  inv : UInv σ T B
  sum : sumS σ T < n
  few : n + B.length ≤ 20000
  st : sizT 3000 T
  sb : sizB 3000 B
  run : uniF n T B met = some (some B')

theorem URound.pop {σ : Int → Tm} {B' : Binds} {n : Nat} {R : List (Tm × Tm)} {x y : Tm} {B : Binds} {met : List (Int × Int)} (h : URound σ B' n (R ++ [(x, y)]) B met) : ∃ n', n = n' + 1 ∧ sumS σ R + size (putF σ x) < n' + 1 ∧ sizT 3000 R ∧ UInv σ R B ∧ x.size ≤ 3000 ∧ y.size ≤ 3000 ∧ x.fairR = true ∧ y.fairR = true ∧ putF σ x = putF σ y := by
  have h1 := h.sum
  refine ⟨n - 1, by omega, ?_, fun q hq => h.st q (by simp [hq]), h.inv.pop, (h.st (x, y) (by simp)).1, (h.st (x, y) (by simp)).2, (h.inv.fairt (x, y) (by simp)).1, (h.inv.fairt (x, y) (by simp)).2, h.inv.solt (x, y) (by simp)⟩
  rw [sumS_app] at h1
  have : sumS σ [(x, y)] = size (putF σ x) := by simp [sumS]
  omega

theorem uniF_snoc (n : Nat) (R : List (Tm × Tm)) (x y : Tm) (B : Binds) (met : List (Int × Int)) : uniF (n + 1) (R ++ [(x, y)]) B met =
      if (decide (x.k = 1) && decide (y.k = 1)) && met.contains (x.n, y.n) then uniF n R B met else
      let met' := if decide (x.k = 1) && decide (y.k = 1) then met ++ [(x.n, y.n)] else met
      let x' := walkB B x
      let y' := walkB B y
      if x'.k = 1 ∧ y'.k = 1 ∧ x'.n = y'.n then uniF n R B met'
      else if x'.k = 1 then (if withB B x'.n y' then some none else uniF n R (B ++ [(x'.n, y')]) met')
      else if y'.k = 1 then (if withB B y'.n x' then some none else uniF n R (B ++ [(y'.n, x')]) met')
      else if clashB x' y' then some none
      else uniF n (R ++ x'.l.zip y'.l) B met' := by
  simp only [uniF, List.getLast?_append, List.getLast?_singleton, Option.or_some, List.dropLast_concat, Option.some_or]
end Tm
end PSL
namespace PSL
open Go
namespace Tm
def metU (x y : Tm) (met : List (Int × Int)) : List (Int × Int) := if decide (x.k = 1) && decide (y.k = 1) then met ++ [(x.n, y.n)] else met
def skipU (x y : Tm) (met : List (Int × Int)) : Bool := (decide (x.k = 1) && decide (y.k = 1)) && met.contains (x.n, y.n)
section
variable {σ : Int → Tm} {B' : Binds} {n : Nat} {R : List (Tm × Tm)} {x y : Tm} {B : Binds} {met : List (Int × Int)}

theorem URound.skip (h : URound σ B' (n + 1) (R ++ [(x, y)]) B met) (hs : skipU x y met = true) : URound σ B' n R B met := by
  obtain ⟨m, hm, h1, h2, h3, _⟩ := h.pop
  obtain rfl : m = n := by omega
  have hr := h.run
  rw [uniF_snoc, if_pos (show ((decide (x.k = 1) && decide (y.k = 1)) && met.contains (x.n, y.n)) = true from hs)] at hr
  have := size_pos (putF σ x)
  exact ⟨h3, by omega, by have := h.few; omega, h2, h.sb, hr⟩

theorem URound.step (h : URound σ B' (n + 1) (R ++ [(x, y)]) B met) (hs : skipU x y met = false) :
    ((walkB B x).k = 1 → findB B (walkB B x).n = none) ∧ ((walkB B y).k = 1 → findB B (walkB B y).n = none) ∧ (walkB B x).size ≤ 3000 ∧ (walkB B y).size ≤ 3000 ∧
    ((walkB B x).k = 1 ∧ (walkB B y).k = 1 ∧ (walkB B x).n = (walkB B y).n → URound σ B' n R B (metU x y met)) ∧
    (¬ ((walkB B x).k = 1 ∧ (walkB B y).k = 1 ∧ (walkB B x).n = (walkB B y).n) →
      ((walkB B x).k = 1 → withB B (walkB B x).n (walkB B y) = false ∧ URound σ B' n R (B ++ [((walkB B x).n, walkB B y)]) (metU x y met)) ∧
      (¬ (walkB B x).k = 1 → ((walkB B y).k = 1 → withB B (walkB B y).n (walkB B x) = false ∧ URound σ B' n R (B ++ [((walkB B y).n, walkB B x)]) (metU x y met)) ∧
        (¬ (walkB B y).k = 1 → (walkB B x).k = (walkB B y).k ∧ (walkB B x).s = (walkB B y).s ∧ (walkB B x).n = (walkB B y).n ∧ (walkB B x).l.length = (walkB B y).l.length ∧ URound σ B' n (R ++ (walkB B x).l.zip (walkB B y).l) B (metU x y met)))) := by
  obtain ⟨m, hm, h1, h2, h3, sx, sy, fx, fy, he⟩ := h.pop
  obtain rfl : m = n := by omega
  have hr := h.run
  rw [uniF_snoc, if_neg (by rw [show ((decide (x.k = 1) && decide (y.k = 1)) && met.contains (x.n, y.n)) = false from hs]; simp)] at hr
  have hr : (if (walkB B x).k = 1 ∧ (walkB B y).k = 1 ∧ (walkB B x).n = (walkB B y).n then uniF m R B (metU x y met)
      else if (walkB B x).k = 1 then (if withB B (walkB B x).n (walkB B y) then some none else uniF m R (B ++ [((walkB B x).n, walkB B y)]) (metU x y met))
      else if (walkB B y).k = 1 then (if withB B (walkB B y).n (walkB B x) then some none else uniF m R (B ++ [((walkB B y).n, walkB B x)]) (metU x y met))
      else if clashB (walkB B x) (walkB B y) then some none
      else uniF m (R ++ (walkB B x).l.zip (walkB B y).l) B (metU x y met)) = some (some B') := hr
  have wx : putF σ (walkB B x) = putF σ x := walk_sol h.inv.solb _ x
  have wy : putF σ (walkB B y) = putF σ y := walk_sol h.inv.solb _ y
  have ex := walkB_end h.inv.chain (t := x)
  have ey := walkB_end h.inv.chain (t := y)
  have gx : (walkB B x).fairR = true := walk_fair h.inv.fairb _ x fx
  have gy : (walkB B y).fairR = true := walk_fair h.inv.fairb _ y fy
  have zx : (walkB B x).size ≤ 3000 := walk_siz h.sb _ x sx
  have zy : (walkB B y).size ≤ 3000 := walk_siz h.sb _ y sy
  have few := h.few
  have sb := h.sb
  have solb := h.inv.solb
  rw [← wx, ← wy] at he
  rw [← wx] at h1
  clear wx wy
  generalize walkB B x = x' at *
  generalize walkB B y = y' at *
  generalize metU x y met = met' at *
  have hp := size_pos (putF σ x')
  refine ⟨ex, ey, zx, zy, fun hc => ?_, fun hc => ⟨fun hk => ?_, fun hkx => ⟨fun hk => ?_, fun hky => ?_⟩⟩⟩
  · rw [if_pos hc] at hr
    exact ⟨h3, by omega, by omega, h2, sb, hr⟩
  · rw [if_neg hc, if_pos hk] at hr
    have hw : withB B x'.n y' = false := withB_no solb (by rw [← putF_var (σ := σ) hk]; exact he) (fun ⟨g1, g2⟩ => by
        rcases g2 with g2 | g2
        · exact hc ⟨hk, g1, g2.symm⟩
        · exact g2 (ey g1))
    rw [hw, if_neg (by simp)] at hr
    exact ⟨hw, h3.bind hk gx gy he (ex hk) (fun g => ⟨ey g, fun e => hc ⟨hk, g, e.symm⟩⟩), by omega, by simp; omega, h2, sb.snoc zy, hr⟩
  · rw [if_neg hc, if_neg hkx, if_pos hk] at hr
    have hw : withB B y'.n x' = false := withB_no solb (by rw [← putF_var (σ := σ) hk]; exact he.symm) (fun ⟨g1, _⟩ => hkx g1)
    rw [hw, if_neg (by simp)] at hr
    exact ⟨hw, h3.bind hk gy gx he.symm (ey hk) (fun g => absurd g hkx), by omega, by simp; omega, h2, sb.snoc zx, hr⟩
  · obtain ⟨g1, g2, g3, g4, g5, g6⟩ := h3.zip hkx hky gx gy he
    have hcl : clashB x' y' = false := by unfold clashB; simp [g2, g3, g4, g5, strEq]
    rw [if_neg hc, if_neg hkx, if_neg hky, hcl, if_neg (by simp)] at hr
    exact ⟨g2, g3, g4, g5, g1, by omega, by omega, h2.zip zx zy, sb, hr⟩
end
end Tm
end PSL

namespace PSL
open Go Go.RowKit Go.MapKept
def pkV (p : Int × Int) : Value := .agg #[.int .i64 p.1, .int .i64 p.2]
def pmap (l : List ((Int × Int) × AV)) : List (Value × AV) := l.map fun e => (pkV e.1, e.2)

def getP : List ((Int × Int) × AV) → Int × Int → Option AV
  | [], _ => none
  | e :: r, p => if e.1 = p then some e.2 else getP r p

structure PKey (P : Program) (kt : TypeId) : Prop where
  und : ∃ n e, P.underlying kt = some (.array n e)
  eq : ∀ p q w, (Op.equal kt (pkV p) (pkV q)).run P w = .ok (decide (p = q)) w
  ck : ∀ b p w, (Instr.checkKey b 10000 kt (pkV p)).run P w = .ok () w

theorem findP_ok {P : Program} {kt : TypeId} (hk : PKey P kt) {S : Nat → Prop} {w : World} {φ : List Phy} (p : Int × Int) : ∀ {l : List ((Int × Int) × AV)} {ents : List MapEntry} {i : Nat}, EntsOk S w φ (pmap l) ents →
    match getP l p with
    | none => (Instr.findAsking kt (pkV p) ents i).run P w = .ok none w
    | some x => ∃ j v, (Instr.findAsking kt (pkV p) ents i).run P w = .ok (some (j, v)) w ∧ RV S w φ x v
  | [], ents, i, h => by
    cases ents with
    | nil => simp [getP, Instr.findAsking]
    | cons _ _ => have := h.1; simp [pmap] at this
  | e :: l, ents, i, h => by
    cases ents with
    | nil => have := h.1; simp [pmap] at this
    | cons f ents =>
      obtain ⟨h1, h2⟩ := h
      simp only [pmap, List.map_cons, List.cons.injEq] at h1
      obtain ⟨hf, h1⟩ := h1
      simp only [pmap, List.map_cons, RVs] at h2
      simp only [getP]
      by_cases he : e.1 = p
      · rw [if_pos he]
        refine ⟨i, f.val, ?_, h2.1⟩
        simp only [Instr.findAsking, Sem.run_bind, ← hf, hk.eq, Result.andThen_ok]
        simp [he]
      · rw [if_neg he]
        have hd : decide (p = e.1) = false := decide_eq_false fun h => he h.symm
        have := findP_ok hk p (l := l) (ents := ents) (i := i + 1) ⟨by simpa [pmap] using h1, by simpa [pmap] using h2.2⟩
        have hstep : (Instr.findAsking kt (pkV p) (f :: ents) i).run P w = (Instr.findAsking kt (pkV p) ents (i + 1)).run P w := by
          simp only [Instr.findAsking, Sem.run_bind, ← hf, hk.eq, Result.andThen_ok, hd]
          simp
        cases hg : getP l p with
        | none => rw [hg] at this; simp only at this ⊢; rw [hstep]; exact this
        | some x => rw [hg] at this; simp only at this ⊢; rw [hstep]; exact this

theorem run_findKeyP {P : Program} {kt : TypeId} (hk : PKey P kt) {w : World} (p : Int × Int) {ents : List MapEntry} (h : ents = [] ∨ ∃ q, ∃ f r, ents = f :: r ∧ f.key = pkV q) : (Instr.findKey kt (pkV p) ents).run P w = (Instr.findAsking kt (pkV p) ents 0).run P w := by
  obtain ⟨n, e, hu⟩ := hk.und
  rcases h with rfl | ⟨q, f, r, rfl, hf⟩
  · simp [Instr.findKey, run_underlying hu, Instr.findNow, Instr.findAsking]
  · simp [Instr.findKey, run_underlying hu, Instr.findNow, Instr.sameNow, pkV]

theorem entsP_head {S : Nat → Prop} {w : World} {φ : List Phy} {l : List ((Int × Int) × AV)} {ents : List MapEntry} (h : EntsOk S w φ (pmap l) ents) : ents = [] ∨ ∃ q, ∃ f r, ents = f :: r ∧ f.key = pkV q := by
  cases ents with
  | nil => exact .inl rfl
  | cons f r =>
    cases l with
    | nil => have := h.1; simp [pmap] at this
    | cons e l =>
      have := h.1
      simp only [pmap, List.map_cons, List.cons.injEq] at this
      exact .inr ⟨e.1, f, r, rfl, this.1.symm⟩
section
variable {g : G} {pf : Nat → Cls} {ops : Array Oper} {Fin : Exit → Act → World → Prop}

theorem pk_rv {S : Nat → Prop} {w : World} {φ : List Phy} {a b : Int} {v : Value} (h : RV S w φ (.agg [iV a, iV b]) v) : v = pkV (a, b) := by
  simp only [RV] at h
  obtain ⟨cs, rfl, h⟩ := h
  match cs, h with
  | [x, y], h =>
    simp only [RVs, iV, RV, and_true] at h
    obtain ⟨h1, h2⟩ := h
    cases h1; cases h2
    rfl
  | [], h => simp [RVs] at h
  | [_], h => simp [RVs] at h
  | _ :: _ :: _ :: _, h => simp [RVs] at h

theorem R_lookupP (hg : GOk g) {dst : Option Nat} {T : Nat} {x y : Operand} {ok : Bool} {ty : Nat} {pos : String} {after : Array Edge} {gd : Option (Nat × Bool)} {rest : List Oper} {k : List It} {E : Env} {objs : List Ob}
    {i q by_ kt et : Nat} {z : List Value} {a b : Int} {zv : Value} (l : List ((Int × Int) × AV)) (hk : PKey g.P kt)
    (hgd : guardA ops.toList E gd = some true) (hd : dstOk ⟨g.ty, g.N⟩ dst = true) (hx : ev E x = .mp i) (ho : nth objs i = some (.map (pmap l))) (hy : ev E y = .agg [iV a, iV b]) (hT : g.ty T = some ⟨q, by_, z, .map kt et⟩)
    (hz : (g.P.info? et).bind (·.zero) = some zv) {v : AV} (hv : lookI' ok (cstV zv) (getP l (a, b)) = v)
    (hr : R g pf Fin (.dr ops rest :: k) (putO E dst v) objs) : R g pf Fin (.dr ops (⟨dst, .lookup T x y ok, ty, pos, after, gd⟩ :: rest) :: k) E objs := by
  subst hv
  refine R_op (LocOp.lookingM hg 1 hgd hd (by simp) fun φ a' w objs₁ hgr hρ hs => ?_) hr
  simp only [Op.operands] at hρ
  have hxv := hρ x (by simp)
  rw [hx] at hxv
  have hyv := hρ y (by simp)
  rw [hy] at hyv
  have hvy := pk_rv hyv
  simp only [RV] at hxv
  obtain ⟨b', hb, hxv⟩ := hxv
  have ho : nth objs₁ i = some (.map (pmap l)) := by
    rw [nth_eq] at ho ⊢
    exact Gr.same hgr ho (by rw [← hs.len]; exact (List.getElem?_eq_some_iff.1 hb).1) (by simp [Ob.lvl])
  have hko := obj_at hs hb ho
  simp only [ObOk] at hko
  obtain ⟨ents, clk, hheap, hents⟩ := hko
  have hT' : g.P.underlying T = some (.map kt et) := by have := (hg.ty _ _ hT).sh; simpa only [ShFact] using this
  have hzero : (zeroValue et).run g.P w = .ok zv w := by
    obtain ⟨inf, h1, h2⟩ := Option.bind_eq_some_iff.1 hz
    simp [zeroValue, typeInfo, h1, h2]
  have hzR : RV (SS g.S0 φ) w φ (cstV zv) zv := rv_restr (l := []) (E := []) (E₁ := []) (a := { tmps := #[], defers := [] }) (by simp) (fun t => by simp [lk, RV]) (.const zv)
  have hfind := findP_ok hk (a, b) (i := 0) hents
  have hfk := run_findKeyP hk (w := w) (a, b) (entsP_head hents)
  cases hg' : getP l (a, b) with
  | none =>
    rw [hg'] at hfind
    simp only at hfind
    refine out_val hs (vv := if ok then .tuple #[zv, .bool false] else zv) ?_ ?_
    · simp [execOp, Instr.lookup, run_underlying hT', hxv, run_getObj_map hheap, hvy, hk.ck, hfk, hfind, hzero]
    · simp only [lookI']
      cases ok
      · simpa using hzR
      · simp only [if_true, RV]
        exact ⟨[zv, .bool false], rfl, by simp only [RVs, RV, bV, and_true]; exact ⟨hzR, .v _⟩⟩
  | some x =>
    rw [hg'] at hfind
    simp only at hfind
    obtain ⟨j, vv, h1, h2⟩ := hfind
    refine out_val hs (vv := if ok then .tuple #[vv, .bool true] else vv) ?_ ?_
    · simp [execOp, Instr.lookup, run_underlying hT', hxv, run_getObj_map hheap, hvy, hk.ck, hfk, h1]
    · simp only [lookI']
      cases ok
      · simpa using h2
      · simp only [if_true, RV]
        exact ⟨[vv, .bool true], rfl, by simp only [RVs, RV, bV, and_true]; exact ⟨h2, .v _⟩⟩

/-- A new entry. -/
theorem R_mapAddP (hg : GOk g) {dst : Option Nat} {T : Nat} {x y v : Operand} {ty : Nat} {pos : String} {after : Array Edge} {gd : Option (Nat × Bool)} {rest : List Oper} {k : List It} {E : Env} {objs : List Ob}
    {i q by_ kt et : Nat} {z : List Value} {a b : Int} (l : List ((Int × Int) × AV)) (hk : PKey g.P kt)
    (hgd : guardA ops.toList E gd = some true) (hd : dstOk ⟨g.ty, g.N⟩ dst = true) (hx : ev E x = .mp i) (ho : nth objs i = some (.map (pmap l))) (hy : ev E y = .agg [iV a, iV b]) (hT : g.ty T = some ⟨q, by_, z, .map kt et⟩)
    (hf : getP l (a, b) = none)
    (hr : R g pf Fin (.dr ops rest :: k) (putO E dst .any) (setN objs i (.map (pmap (l ++ [((a, b), ev E v)]))))) : R g pf Fin (.dr ops (⟨dst, .mapUpdate T x y v, ty, pos, after, gd⟩ :: rest) :: k) E objs := by
  refine R_op (LocOp.turning hg (grow_map ho) hgd hd (by simp) fun φ a' w hρ hs => ?_) hr
  simp only [Op.operands] at hρ
  have hxv := hρ x (by simp)
  rw [hx] at hxv
  have hyv := hρ y (by simp)
  rw [hy] at hyv
  have hvy := pk_rv hyv
  have hvv := hρ v (by simp)
  simp only [RV] at hxv
  obtain ⟨b', hb, hxv⟩ := hxv
  have hko := obj_at hs hb ho
  simp only [ObOk] at hko
  obtain ⟨ents, clk, hheap, hents⟩ := hko
  have hT' : g.P.underlying T = some (.map kt et) := by have := (hg.ty _ _ hT).sh; simpa only [ShFact] using this
  have hfind := findP_ok hk (a, b) (i := 0) hents
  have hfk := run_findKeyP hk (w := w) (a, b) (entsP_head hents)
  rw [hf] at hfind
  simp only at hfind
  have hset := heap_set (o' := .map (ents.push { key := pkV (a, b), val := a'.eval v, born := clk }) (clk + 1)) hheap
  rw [setN_eq]
  refine ⟨.skip, undef, { w with heap := w.heap.setIfInBounds b' (.map (ents.push { key := pkV (a, b), val := a'.eval v, born := clk }) (clk + 1)) }, φ.set i (.blk b'), ?_, .inr ⟨rfl, rfl⟩, by simp [RV], ?_⟩
  · simp [execOp, Instr.mapUpdate, run_underlying hT', hxv, run_getObj_map hheap, hvy, hk.ck, hfk, hfind, run_setObj_map _ hheap]
  · refine Stp.swap hs hb (.inl rfl) (by simp) (fun c _ hc => hset.2 c fun e => hc (by rw [e]; rfl)) (fun b' hb => .inl hb) rfl rfl rfl fun hkeep hle => ?_
    simp only [ObOk]
    refine ⟨_, _, hset.1, ?_, ?_⟩
    · have := hents.1
      simp only [pmap, List.map_append, List.map_map, List.map_cons, List.map_nil, Array.toList_push] at this ⊢
      rw [this]
    · have := (hents.2.mono hkeep hle).append (l' := [ev E v]) (vs' := [a'.eval v]) (by simp only [RVs, and_true]; exact hvv.mono hkeep hle)
      simpa [pmap] using this

/-- A new entry, of which less is kept in mind. -/
theorem R_mapAddW (hg : GOk g) {dst : Option Nat} {T : Nat} {x y v : Operand} {ty : Nat} {pos : String} {after : Array Edge} {gd : Option (Nat × Bool)} {rest : List Oper} {k : List It} {E : Env} {objs : List Ob}
    {i q by_ q' by' kt et : Nat} {z z' : List Value} {n : Int} (v' : AV) (l l' : List (Int × AV))
    (hgd : guardA ops.toList E gd = some true) (hd : dstOk ⟨g.ty, g.N⟩ dst = true) (hx : ev E x = .mp i) (ho : nth objs i = some (.map (imap l))) (hy : ev E y = .d (.v (.int .i64 n))) (hT : g.ty T = some ⟨q, by_, z, .map kt et⟩)
    (hkt : g.ty kt = some ⟨q', by', z', .int .i64⟩) (hf : getI l n = none) (hv : Ent (ev E v) v') (hl : l ++ [(n, v')] = l')
    (hr : R g pf Fin (.dr ops rest :: k) (putO E dst .any) (setN objs i (.map (imap l')))) : R g pf Fin (.dr ops (⟨dst, .mapUpdate T x y v, ty, pos, after, gd⟩ :: rest) :: k) E objs := by
  subst hl
  have hu := (hg.ty _ _ hkt).sh
  simp only [ShFact] at hu
  obtain ⟨r, h1, h2⟩ := findA_getI (k' := .i64) (n := n) (l := l) (i := 0)
  have : r = none := by rw [hf] at h2; cases r with
    | none => rfl
    | some _ => simp at h2
  subst this
  refine R_op (LocOp.turning hg (grow_map ho) hgd hd (by simp) fun φ a w hρ hs => ?_) hr
  simp only [Op.operands] at hρ
  have hxv := hρ x (by simp)
  rw [hx] at hxv
  have hyv := hρ y (by simp)
  rw [hy] at hyv
  have hvv := hv _ _ _ _ (hρ v (by simp))
  simp only [RV] at hxv hyv
  obtain ⟨b, hb, hxv⟩ := hxv
  generalize hvy : a.eval y = vy at hyv
  cases hyv
  have hk := obj_at hs hb ho
  simp only [ObOk] at hk
  obtain ⟨ents, clk, hheap, hents⟩ := hk
  have hT' : g.P.underlying T = some (.map kt et) := by have := (hg.ty _ _ hT).sh; simpa only [ShFact] using this
  have hfind := findA_ok hents h1
  simp only at hfind
  have hset := heap_set (o' := .map (ents.push { key := .int .i64 n, val := a.eval v, born := clk }) (clk + 1)) hheap
  rw [setN_eq]
  refine ⟨.skip, undef, { w with heap := w.heap.setIfInBounds b (.map (ents.push { key := .int .i64 n, val := a.eval v, born := clk }) (clk + 1)) }, φ.set i (.blk b), ?_, .inr ⟨rfl, rfl⟩, by simp [RV], ?_⟩
  · simp [execOp, Instr.mapUpdate, run_underlying hT', hxv, run_getObj_map hheap, hvy, run_checkKey hu (show IsKey (.int .i64) (.int .i64 n) by simp [IsKey]), run_findKey hu hfind, run_setObj_map _ hheap]
  · refine Stp.swap hs hb (.inl rfl) (by simp) (fun c _ hc => hset.2 c fun e => hc (by rw [e]; rfl)) (fun b' hb => .inl hb) rfl rfl rfl fun hkeep hle => ?_
    simp only [ObOk]
    refine ⟨_, _, hset.1, ?_, ?_⟩
    · have := hents.1
      simp only [imap, List.map_append, List.map_map, List.map_cons, List.map_nil, Array.toList_push] at this ⊢
      rw [this]
    · have := (hents.2.mono hkeep hle).append (l' := [v']) (vs' := [a.eval v]) (by simp only [RVs, and_true]; exact hvv.mono hkeep hle)
      simpa [imap] using this

open Classical in
/-- A slice of one element written out, as data. -/
theorem R_buildF (hg : GOk g) {dst : Option Nat} {T : Nat} {x : Operand} {ty : Nat} {pos : String} {after : Array Edge} {gd : Option (Nat × Bool)} {rest : List Oper} {k : List It} {E : Env} {objs : List Ob} (v : AV)
    (hgd : guardA ops.toList E gd = some true) (hd : dstOk ⟨g.ty, g.N⟩ dst = true) (h : stepS g.ty (fun y => if y = x then ev E x else .any) (.buildSlice T 1 #[(0, x)]) = some v)
    (hr : R g pf Fin (.dr ops rest :: k) (putO E dst v) objs) : R g pf Fin (.dr ops (⟨dst, .buildSlice T 1 #[(0, x)], ty, pos, after, gd⟩ :: rest) :: k) E objs := by
  refine R_op (LocOp.up (LocOp.quiet hg hgd hd (by simp) fun φ o₁ a w hρ hs => ?_)) hr
  simp only [Op.operands] at hρ
  have hxv := hρ x (by simp)
  refine stepOp_ok (ρA := fun y => if y = x then ev E x else .any) hg.ty hs (fun y => ?_) ?_
  · split
    · rename_i h; rw [h]; exact hxv
    · simp [RV]
  · simp only [stepOp, h]

theorem buildS_one {ty : Nat → Option Ty} {T e sz by_ : Nat} {z : List Value} {τ : Ty} {x : Operand} {v : AV} {rows : List (List D)} (hT : ty T = some ⟨sz, by_, z, .slice e⟩) (he : ty e = some τ) (hr : rowsOf [(0, v)] 0 τ.size = some rows) (hl : rows.length = 1) (hb : τ.size ≤ 1000) : (open Classical in stepS ty (fun y => if y = x then v else .any) (.buildSlice T 1 #[(0, x)])) = some (.fs rows) := by
  have h1 : Nat.beq (len rows) 1 = true := by rw [len_eq, hl]; rfl
  have h2 : Nat.ble τ.size 100000 = true := Nat.ble_eq_true_of_le (by omega)
  have h3 : Nat.ble 1 100000 = true := rfl
  simp [stepS, hT, he, hr, h1, h2, h3]

theorem R_mapAddPO (hg : GOk g) {dst : Option Nat} {T : Nat} {x y v : Operand} {ty : Nat} {pos : String} {after : Array Edge} {gd : Option (Nat × Bool)} {rest : List Oper} {k : List It} {E : Env} {objs : List Ob}
    {i q by_ kt et : Nat} {z : List Value} {a b : Int} {v' : AV} (l l' : List ((Int × Int) × AV)) (hk : PKey g.P kt)
    (hgd : guardA ops.toList E gd = some true) (hd : dstOk ⟨g.ty, g.N⟩ dst = true) (hx : ev E x = .mp i) (ho : nth objs i = some (.map (pmap l))) (hy : ev E y = .agg [iV a, iV b]) (hT : g.ty T = some ⟨q, by_, z, .map kt et⟩)
    (hf : getP l (a, b) = none) (hv : ev E v = v') (hl : l ++ [((a, b), v')] = l')
    (hr : R g pf Fin (.dr ops rest :: k) (putO E dst .any) (setN objs i (.map (pmap l')))) : R g pf Fin (.dr ops (⟨dst, .mapUpdate T x y v, ty, pos, after, gd⟩ :: rest) :: k) E objs := by
  subst hl; subst hv
  exact R_mapAddP hg l hk hgd hd hx ho hy hT hf hr
end
end PSL

namespace Go.Proofs.Ytppghekipbnjhaa
open Go PSL Go.Proofs
def zTmV : Value := .agg #[.int .i64 0, .string ByteArray.empty, .int .i64 0, .slice none 0 0]
def zTmA : AV := .agg [iV 0, .d (.v (.string ByteArray.empty)), iV 0, .d (.v (.slice none 0 0))]
theorem tmM_snoc (B : Binds) (v : Int) (t : Tm) : tmM B ++ [(v, t.av)] = tmM (B ++ [(v, t)]) := by simp [tmM]

theorem tmM_mapOb {f : AV → AV} (h : ∀ t : Tm, f t.av = t.av) (B : Binds) : mapOb f (.map (imap (tmM B))) = .map (imap (tmM B)) := by
  simp [mapOb, imap, tmM, h]
theorem irows_snoc1 (l : List Int) (v : Int) : irows l ++ [[.v (.int .i64 v)]] = irows (l ++ [v]) := by simp [irows, irow]

set_option maxRecDepth 100000 in
theorem uniNew_ok (Y : YP) : SCtr Try.prog Y 44 [] [] (.lo 1 0) [.map [], .box [.mp 0, .d (.v (.slice none 0 0))]] := by
  refine SCtr.of_R (pf := fun _ => .eff) tyOk mixed Try.func44 rfl (by kernel_rfl) (by kernel_rfl) (by simp [Try.ntmps44]) (by simp) fun w S φ hg => ?_
  refine R_run hg.ok 1000 rfl rfl ?_
  refine R_makeMap hg.ok rfl rfl ?_
  refine R_run hg.ok 1000 rfl rfl ?_
  exact R_retS hg 2 5 (by simp) rfl rfl rfl

theorem setM_get : ∀ (M : List Int) (n : Int), getI (M.map fun n => (n, bV true)) n = if M.contains n then some (bV true) else none
  | [], n => rfl
  | m :: M, n => by
    simp only [List.map_cons, getI, List.contains_cons]
    by_cases h : m = n
    · simp [h]
    · rw [if_neg h, setM_get M n]
      have : (n == m) = false := by simp; exact fun e => h e.symm
      rw [this, Bool.false_or]

theorem setM_mapOb {f : AV → AV} (h : ∀ b, f (bV b) = bV b) (M : List Int) : mapOb f (.map (imap (M.map fun n => (n, bV true)))) = .map (imap (M.map fun n => (n, bV true))) := by
  simp [mapOb, imap, h]
end Go.Proofs.Ytppghekipbnjhaa

namespace PSL
open Go
abbrev Prs := List (Tm × Tm)
def prsRow (p : Tm × Tm) : List D := Tm.row p.1 ++ Tm.row p.2
def prsRows (M : Prs) : List (List D) := M.map prsRow
theorem prsRows_len (l : Prs) : (prsRows l).length = l.length := by simp [prsRows]
theorem prsRows_get {l : Prs} {i : Nat} {x : Tm × Tm} (h : l[i]? = some x) : (prsRows l)[i]? = some (prsRow x) := by simp [prsRows, h]
namespace Tm
end Tm
end PSL
namespace PSL
open Go
end PSL

namespace Go.Proofs.Ytppghekipbnjhaa
open Go PSL Go.Proofs
theorem prs_snoc (M : Prs) (a b : Tm) : prsRows M ++ [[.v (.int .i64 a.k), .v (.string a.s), .v (.int .i64 a.n), .sl (Tm.rows a.l), .v (.int .i64 b.k), .v (.string b.s), .v (.int .i64 b.n), .sl (Tm.rows b.l)]] = prsRows (M ++ [(a, b)]) := by simp [prsRows, prsRow, Tm.row]
end Go.Proofs.Ytppghekipbnjhaa

namespace Go.Proofs.Ytppghekipbnjhaa
open Go PSL Go.Proofs

theorem pairCk (d : Nat) (b : Bool) (p : Int × Int) (w : World) : (Instr.checkKey b (d + 1 + 1) 133 (pkV p)).run Try.prog w = .ok () w := by
  obtain ⟨i, hi⟩ := info_of_underlying Try.underlying3
  simp [Instr.checkKey, pkV, part, run_sizeOf w hi, Std.Legacy.Range.forIn_eq_forIn_range', Std.Legacy.Range.size, List.range']

theorem pairEq (d : Nat) (p q : Int × Int) (w : World) : (Op.equalIn (d + 1 + 1) 133 (pkV p) (pkV q)).run Try.prog w = .ok (decide (p = q)) w := by
  obtain ⟨i, hi⟩ := info_of_underlying Try.underlying3
  have hc : Try.prog.cellsOf 3 = 1 := by kernel_rfl
  unfold pkV
  rw [run_equalIn_array (w := w) (d + 1) _ _ Try.underlying133 hi, hc]
  simp only [List.range, List.range.loop, Op.eqItems]
  obtain ⟨p1, p2⟩ := p
  obtain ⟨q1, q2⟩ := q
  simp [part, run_equalIn_int _ _ _ _ _ _ _ Try.underlying3]
  by_cases h1 : p1 = q1 <;> by_cases h2 : p2 = q2 <;> simp [h1, h2]
theorem uniKey : PKey Try.prog 133 := ⟨⟨_, _, Try.underlying133⟩, fun p q w => pairEq 9998 p q w, fun b p w => pairCk 9998 b p w⟩
def pfUni : Nat → Cls := fun f => bif Nat.beq f 4800100000 then .turn 100 else bif Nat.beq f 4000000005 then .turn 0 else bif Nat.beq f 4000000004 then .turn 1 else bif Nat.beq f 4900100004 then .turn 100 else bif Nat.beq f 4000000006 then .turn 201 else bif Nat.beq f 4000100027 then .look 10001 else bif Nat.beq f 4000100034 then .look 10001 else bif Nat.beq f 4000300023 then .look 10001 else bif Nat.beq f 4000300030 then .look 10001 else bif Nat.beq f 4000200009 then .turn 10000 else bif Nat.beq f 4000200010 then .turn 10000 else bif Nat.beq f 97 then .turn 3 else bif Nat.beq f 4000100009 then .look 4 else bif Nat.beq f 4000100010 then .look 4 else .eff
def metP (met : List (Int × Int)) : List ((Int × Int) × AV) := met.map fun p => (p, AV.tt)

theorem metP_get : ∀ (met : List (Int × Int)) (p : Int × Int), getP (metP met) p = if met.contains p then some AV.tt else none
  | [], p => rfl
  | m :: met, p => by
    simp only [metP, List.map_cons, getP, List.contains_cons]
    by_cases h : m = p
    · simp [h]
    · rw [if_neg h, show getP (List.map (fun p => (p, AV.tt)) met) p = getP (metP met) p from rfl, metP_get met p]
      have : (p == m) = false := by simp; exact fun e => h e.symm
      rw [this, Bool.false_or]

theorem metP_mapOb {f : AV → AV} (h : f .tt = .tt) (met : List (Int × Int)) : mapOb f (.map (pmap (metP met))) = .map (pmap (metP met)) := by
  simp [mapOb, pmap, metP, h]
theorem prs_snoc2 (M : List (Tm × Tm)) (a b : Tm) : prsRows M ++ [[.v (.int .i64 a.k), .v (.string a.s), .v (.int .i64 a.n), .sl (Tm.rows a.l), .v (.int .i64 b.k), .v (.string b.s), .v (.int .i64 b.n), .sl (Tm.rows b.l)]] = prsRows (M ++ [(a, b)]) := prs_snoc M a b
end Go.Proofs.Ytppghekipbnjhaa

namespace PSL
open Go
namespace Tm

/-- What was met newly leads to what was met, and never to the variable. -/
def Cl (B : Binds) (v : Int) (M M' : List Int) : Prop := ∀ n ∈ M', n ∈ M ∨ ∃ x, findB B n = some x ∧ ∀ u ∈ occ x, u ≠ v ∧ (findB B u ≠ none → u ∈ M')

theorem Cl.trans {B : Binds} {v : Int} {M M1 M2 : List Int} (h1 : Cl B v M M1) (h2 : Cl B v M1 M2) (hs : ∀ n ∈ M1, n ∈ M2) : Cl B v M M2 := fun n hn => by
  rcases h2 n hn with h | h
  · rcases h1 n h with h | ⟨x, hx, hu⟩
    · exact .inl h
    · exact .inr ⟨x, hx, fun u hu1 => ⟨(hu u hu1).1, fun hb => hs u ((hu u hu1).2 hb)⟩⟩
  · exact .inr h
def cntB (B : Binds) (M : List Int) : Nat := B.countP fun b => !M.contains b.1

/-- A search that finds nothing. -/
def lkCl (B : Binds) (v : Int) (u : Nat) (g : Int → List Int → Bool × List Int) : Prop := ∀ n M, cntB B M < u → (g n M).1 = false → (∀ m ∈ M, m ∈ (g n M).2) ∧ Cl B v M (g n M).2 ∧ n ≠ v ∧ (findB B n ≠ none → n ∈ (g n M).2)

mutual
theorem lkT_cl {B : Binds} {v : Int} {u : Nat} {g : Int → List Int → Bool × List Int} (he : lkExt g) (hg : lkCl B v u g) : ∀ (t : Tm) (M : List Int), cntB B M < u → (lkT g t M).1 = false → (∀ m ∈ M, m ∈ (lkT g t M).2) ∧ Cl B v M (lkT g t M).2 ∧ ∀ n ∈ occ t, n ≠ v ∧ (findB B n ≠ none → n ∈ (lkT g t M).2)
  | mk k s n l, M, hM, h => by
    simp only [lkT, occ] at h ⊢
    split at h
    · rename_i hk
      rw [if_pos hk, if_pos hk]
      obtain ⟨h1, h2, h3, h4⟩ := hg n M hM h
      exact ⟨h1, h2, fun m hm => by simp only [List.mem_singleton] at hm; subst hm; exact ⟨h3, h4⟩⟩
    · rename_i hk
      rw [if_neg hk, if_neg hk]
      exact lkTL_cl he hg l M hM h
theorem lkTL_cl {B : Binds} {v : Int} {u : Nat} {g : Int → List Int → Bool × List Int} (he : lkExt g) (hg : lkCl B v u g) : ∀ (l : List Tm) (M : List Int), cntB B M < u → (lkTL g l M).1 = false → (∀ m ∈ M, m ∈ (lkTL g l M).2) ∧ Cl B v M (lkTL g l M).2 ∧ ∀ n ∈ occL l, n ≠ v ∧ (findB B n ≠ none → n ∈ (lkTL g l M).2)
  | [], M, hM, h => by simp only [lkTL, occL]; exact ⟨fun m hm => hm, fun n hn => .inl hn, by simp⟩
  | x :: r, M, hM, h => by
    simp only [lkTL, occL] at h ⊢
    cases hx : (lkT g x M).1 with
    | true => rw [hx] at h; simp at h
    | false =>
      rw [hx] at h
      simp only [Bool.false_eq_true, if_false] at h ⊢
      obtain ⟨h1, h2, h3⟩ := lkT_cl he hg x M hM hx
      obtain ⟨R, hR⟩ := lkT_ext he x M
      have hM1 : cntB B (lkT g x M).2 < u := by
        have := count_le B M R
        rw [hR]; unfold cntB at hM ⊢; omega
      obtain ⟨g1, g2, g3⟩ := lkTL_cl he hg r _ hM1 h
      refine ⟨fun m hm => g1 m (h1 m hm), h2.trans g2 g1, fun n hn => ?_⟩
      rcases List.mem_append.1 hn with hn | hn
      · exact ⟨(h3 n hn).1, fun hb => g1 n ((h3 n hn).2 hb)⟩
      · exact g3 n hn
end

theorem lkF_cl (B : Binds) (v : Int) : ∀ u, lkCl B v u (lkF B v u)
  | 0, n, M, hM, _ => by omega
  | u + 1, n, M, hM, h => by
    simp only [lkF] at h ⊢
    by_cases hn : n = v
    · rw [if_pos hn] at h; cases h
    rw [if_neg hn] at h ⊢
    cases hf : findB B n with
    | none => exact ⟨fun m hm => hm, fun m hm => .inl hm, hn, fun h => absurd rfl h⟩
    | some x =>
      rw [hf] at h
      simp only at h ⊢
      split at h
      · rename_i hc
        rw [if_pos hc]
        exact ⟨fun m hm => hm, fun m hm => .inl hm, hn, fun _ => by simpa using hc⟩
      · rename_i hc
        rw [if_neg hc]
        have hc' : M.contains n = false := by simpa using hc
        have hl := count_lt hf hc'
        obtain ⟨h1, h2, h3⟩ := lkT_cl (lkF_ext B v u) (lkF_cl B v u) x (M ++ [n]) (by unfold cntB at hM ⊢; omega) h
        have hnm := h1 n (by simp)
        refine ⟨fun m hm => h1 m (by simp [hm]), fun m hm => ?_, hn, fun _ => hnm⟩
        rcases h2 m hm with h | h
        · rcases List.mem_append.1 h with h | h
          · exact .inl h
          · simp only [List.mem_singleton] at h; subst h
            exact .inr ⟨x, hf, h3⟩
        · exact .inr h

/-- What is not within is not in what a term becomes. -/
theorem withB_free {B : Binds} {v : Int} {t : Tm} (h : withB B v t = false) : ∀ M, v ∉ occ (fullS B M t) := by
  unfold withB at h
  obtain ⟨_, h2, h3⟩ := lkT_cl (lkF_ext B v _) (lkF_cl B v (B.length + 1)) t [] (by unfold cntB; exact Nat.lt_succ_of_le List.countP_le_length) h
  generalize (lkT (lkF B v (B.length + 1)) t []).2 = M' at h2 h3
  have main : ∀ (m : Nat) (x : Tm), (∀ n ∈ occ x, n ≠ v ∧ (findB B n ≠ none → n ∈ M')) → ∀ z ∈ occ (fullS B m x), z ≠ v := by
    intro m
    induction m with
    | zero => intro x hx z hz; exact (hx z hz).1
    | succ m ih =>
      intro x hx z hz
      simp only [fullS] at hz
      obtain ⟨u, hu, hz⟩ := occ_putF x z hz
      cases hf : findB B u with
      | none =>
        rw [hf] at hz
        simp [occ, vT] at hz
        rw [hz]; exact (hx u hu).1
      | some y =>
        rw [hf] at hz
        have hm := (hx u hu).2 (by rw [hf]; simp)
        rcases h2 u hm with h | ⟨y', hy, hc⟩
        · cases h
        · rw [hf] at hy; cases hy
          exact ih y hc z hz
  exact fun M hv => main M t h3 v hv rfl
end Tm
end PSL

namespace PSL
open Go
namespace Tm

theorem find_nodup {B : Binds} (h : (B.map (·.1)).Nodup) {b : Int × Tm} (hb : b ∈ B) : findB B b.1 = some b.2 := by
  induction B with
  | nil => cases hb
  | cons c B ih =>
    rw [findB_cons]
    simp only [List.map_cons, List.nodup_cons] at h
    rcases List.mem_cons.1 hb with rfl | hb
    · rw [if_pos rfl]
    · rw [if_neg (fun e => h.1 (by rw [e]; exact List.mem_map.2 ⟨b, hb, rfl⟩))]
      exact ih h.2 hb
def cntR (B : Binds) (ρ : Int → Nat) (r : Nat) : Nat := B.countP fun b => decide (ρ b.1 < r)

theorem cntR_le (B : Binds) (ρ : Int → Nat) {r r' : Nat} (h : r ≤ r') : cntR B ρ r ≤ cntR B ρ r' := by
  apply List.countP_mono_left
  intro b _ hb
  simp only [decide_eq_true_eq] at hb ⊢
  omega

theorem cntR_lt {B : Binds} {ρ : Int → Nat} {b : Int × Tm} (hb : b ∈ B) : cntR B ρ (ρ b.1) < cntR B ρ (ρ b.1 + 1) := by
  obtain ⟨l, r, rfl⟩ := List.mem_iff_append.1 hb
  have h1 := cntR_le l ρ (show ρ b.1 ≤ ρ b.1 + 1 by omega)
  have h2 := cntR_le r ρ (show ρ b.1 ≤ ρ b.1 + 1 by omega)
  unfold cntR at *
  simp only [List.countP_append, List.countP_cons]
  have e1 : decide (ρ b.1 < ρ b.1) = false := by simp
  have e2 : decide (ρ b.1 < ρ b.1 + 1) = true := by simp
  rw [e1, e2]
  simp only [if_true, Bool.false_eq_true, if_false]
  omega

theorem rank_okn {B : Binds} {ρ : Int → Nat} (hf : ∀ b ∈ B, b.2.fairR = true) (hρ : ∀ b ∈ B, ∀ u ∈ occ b.2, findB B u ≠ none → ρ u < ρ b.1) : ∀ (r i : Nat) (b : Int × Tm), B[i]? = some b → ρ b.1 = r → Okn (adjB B) (cntR B ρ (r + 1)) i := by
  intro r
  induction r using Nat.strongRecOn with
  | ind r ih =>
    intro i b hb hr
    have hm := List.mem_of_getElem? hb
    have h1 := cntR_lt (ρ := ρ) hm
    rw [hr] at h1
    obtain ⟨m, hm'⟩ : ∃ m, cntR B ρ (r + 1) = m + 1 := ⟨cntR B ρ (r + 1) - 1, by omega⟩
    rw [hm']
    refine .mk fun k hk => ?_
    simp only [adjB, hb, List.mem_filterMap] at hk
    obtain ⟨v, hv, hk⟩ := hk
    rw [varsT_mem (one_fair (hf _ hm))] at hv
    simp only [occL, List.append_nil] at hv
    rcases placeB_find B v with ⟨h1, h2⟩ | ⟨j, t, h2, h3, h4⟩
    · rw [if_pos h1] at hk; cases hk
    · rw [if_neg (by omega)] at hk
      simp only [Option.some.injEq] at hk
      have hlt := hρ b hm v hv (by rw [h4]; simp)
      have hkj : k = j := by omega
      subst hkj
      have := ih (ρ v) (by omega) k (v, t) h3 rfl
      refine this.mono ?_
      have := cntR_le B ρ (show ρ v + 1 ≤ r by omega)
      omega

theorem sub_rank {B : Binds} {ρ : Int → Nat} (hf : ∀ b ∈ B, b.2.fairR = true) (hρ : ∀ b ∈ B, ∀ u ∈ occ b.2, findB B u ≠ none → ρ u < ρ b.1) : Sub B B.length :=
  ⟨hf, fun i hi => (rank_okn hf hρ _ i B[i] (List.getElem?_eq_getElem hi) rfl).mono (by unfold cntR; exact List.countP_le_length)⟩

mutual
theorem occ_size {σ : Int → Tm} : ∀ (t : Tm) (u : Int), u ∈ occ t → size (σ u) ≤ size (putF σ t) ∧ (t.k ≠ 1 → size (σ u) < size (putF σ t))
  | mk k s n l, u, h => by
    simp only [occ] at h
    by_cases hk : k = 1
    · rw [if_pos hk, List.mem_singleton] at h
      subst h
      simp only [putF, if_pos hk, Tm.k]
      exact ⟨Nat.le_refl _, fun h => absurd hk h⟩
    · rw [if_neg hk] at h
      have := occL_size (σ := σ) l u h
      simp only [putF, if_neg hk, size]
      exact ⟨by omega, fun _ => by omega⟩
theorem occL_size {σ : Int → Tm} : ∀ (l : List Tm) (u : Int), u ∈ occL l → size (σ u) ≤ sizeL (putFL σ l)
  | [], u, h => by simp [occL] at h
  | t :: l, u, h => by
    simp only [occL, List.mem_append] at h
    simp only [putFL, sizeL]
    rcases h with h | h
    · have := (occ_size (σ := σ) t u h).1; omega
    · have := occL_size (σ := σ) l u h; omega
end

theorem occ_of_var {t : Tm} (hk : t.k = 1) {u : Int} (h : u ∈ occ t) : u = t.n := by
  cases t; simp only [k] at hk; simp only [occ, if_pos hk, List.mem_singleton] at h; exact h

/-- Binds with a solution are acyclic. -/
theorem sol_rank {σ : Int → Tm} {B : Binds} (hs : solB σ B) (hc : chainB B) : ∃ ρ : Int → Nat, ∀ b ∈ B, ∀ u ∈ occ b.2, findB B u ≠ none → ρ u < ρ b.1 := by
  refine ⟨fun v => size (σ v) * (B.length + 1) + (B.length - (placeB B v).toNat), fun b hb u hu hub => ?_⟩
  show size (σ u) * (B.length + 1) + (B.length - (placeB B u).toNat) < size (σ b.1) * (B.length + 1) + (B.length - (placeB B b.1).toNat)
  have hbs := hs b hb
  have h1 := occ_size (σ := σ) b.2 u hu
  by_cases hk : b.2.k = 1
  · have he := occ_of_var hk hu
    rw [putF_var hk, ← he] at hbs
    rw [hbs]
    rcases placeB_find B u with ⟨g1, g2⟩ | ⟨j, t, g1, g2, g3⟩
    · exact absurd g2 hub
    rcases placeB_find B b.1 with ⟨e1, e2⟩ | ⟨i, t', e1, e2, e3⟩
    · rw [find_nodup hc.nodup hb] at e2; cases e2
    rw [find_nodup hc.nodup hb] at e3
    simp only [Option.some.injEq] at e3
    subst e3
    have := hc.chain i _ e2 hk j _ g2 he
    have := (List.getElem?_eq_some_iff.1 g2).1
    rw [g1, e1]
    simp only [Int.toNat_natCast]
    omega
  · have h2 := h1.2 hk
    rw [← hbs] at h2
    have : (size (σ u) + 1) * (B.length + 1) ≤ size (σ b.1) * (B.length + 1) := Nat.mul_le_mul_right _ h2
    rw [Nat.add_mul] at this
    omega

theorem sub_sol {σ : Int → Tm} {B : Binds} (hs : solB σ B) (hc : chainB B) (hf : fairBB B) : Sub B B.length :=
  (sol_rank hs hc).elim fun _ h => sub_rank (fun b hb => (hf b hb).1) h

/-- What binds make of a variable. -/
def fullV (B : Binds) (v : Int) : Tm := match findB B v with | some x => fullS B B.length x | none => vT v
theorem sub_putV {B : Binds} (h : Sub B B.length) {t : Tm} (hf : t.fairR = true) : putF (fullV B) t = fullS B B.length t := (h.fix hf).symm

theorem sub_solV {B : Binds} (h : Sub B B.length) (hc : chainB B) : solB (fullV B) B := fun b hb => by
  rw [sub_putV h (h.fair b hb)]
  unfold fullV
  rw [find_nodup hc.nodup hb]
theorem fullV_free {B : Binds} {v : Int} (h : findB B v = none) : fullV B v = vT v := by unfold fullV; rw [h]

/-- A bind more. -/
theorem bind_sol {σ : Int → Tm} {B : Binds} (hs : solB σ B) (hc : chainB B) (hf : fairBB B) {v : Int} {w : Tm} (hv : findB B v = none) (hw : w.fairR = true) (hn : withB B v w = false) : ∃ σ', solB σ' (B ++ [(v, w)]) := by
  have hS := sub_sol hs hc hf
  have hfree := withB_free hn B.length
  have hfw := hS.fairF hw
  refine ⟨fun z => putF (fun u => if u = v then putF (fullV B) w else vT u) (fullV B z), fun b hb => ?_⟩
  simp only
  rw [← putF_comp]
  rcases List.mem_append.1 hb with hb | hb
  · rw [sub_solV hS hc b hb]
  · simp only [List.mem_singleton] at hb; subst hb
    simp only
    rw [fullV_free hv, putF_var (show (vT v).k = 1 from rfl)]
    simp only [vT, Tm.n, if_true]
    rw [sub_putV hS hw]
    refine (put_id _ hfw fun u hu => ?_).symm
    rw [if_neg (fun e => hfree (by rw [← e]; exact hu))]; rfl
end Tm
end PSL

namespace PSL
open Go
namespace Tm
def pickU (sw : Bool) (x y : Tm) : Tm × Tm := if (sw || decide (x.k ≠ 1)) && decide (y.k = 1) then (y, x) else (x, y)
def sameV (x y : Tm) : Prop := x.k = 1 ∧ y.k = 1 ∧ x.n = y.n
def ordU (sw : Bool) (l m : List Tm) : List (Tm × Tm) := if sw then l.zip m else (l.zip m).reverse
theorem ordU_mem {sw : Bool} {l m : List Tm} {p : Tm × Tm} : p ∈ ordU sw l m ↔ p ∈ l.zip m := by cases sw <;> simp [ordU]

theorem pickU_or {sw : Bool} {x y u w : Tm} (h : pickU sw x y = (u, w)) : (u = x ∧ w = y) ∨ (u = y ∧ w = x ∧ y.k = 1) := by
  unfold pickU at h
  split at h
  · rename_i hc
    simp only [Bool.and_eq_true, decide_eq_true_eq] at hc
    cases h; exact .inr ⟨rfl, rfl, hc.2⟩
  · cases h; exact .inl ⟨rfl, rfl⟩

theorem pickU_fun {sw : Bool} {x y u w : Tm} (h : pickU sw x y = (u, w)) (hu : u.k ≠ 1) : x.k ≠ 1 ∧ y.k ≠ 1 := by
  unfold pickU at h
  split at h
  · rename_i hc
    simp only [Bool.and_eq_true, decide_eq_true_eq] at hc
    cases h; exact absurd hc.2 hu
  · rename_i hc
    cases h
    refine ⟨hu, fun hy => hc ?_⟩
    simp [hu, hy]

inductive URun (sw : Bool) : Nat → List (Tm × Tm) → Binds → List (Int × Int) → Binds → Bool → Prop
  | done {n : Nat} {B : Binds} {met : List (Int × Int)} : URun sw n [] B met B true
  | skip {n : Nat} {x y : Tm} {R : List (Tm × Tm)} {B B' : Binds} {met : List (Int × Int)} {ok : Bool} (hs : skipU x y met = true) (h : URun sw n R B met B' ok) : URun sw (n + 1) ((x, y) :: R) B met B' ok
  | same {n : Nat} {x y : Tm} {R : List (Tm × Tm)} {B B' : Binds} {met : List (Int × Int)} {ok : Bool} (hs : skipU x y met = false) (hv : sameV (walkB B x) (walkB B y)) (h : URun sw n R B (metU x y met) B' ok) : URun sw (n + 1) ((x, y) :: R) B met B' ok
  | occ {n : Nat} {x y u w : Tm} {R : List (Tm × Tm)} {B : Binds} {met : List (Int × Int)} (hs : skipU x y met = false) (hv : ¬ sameV (walkB B x) (walkB B y)) (hp : pickU sw (walkB B x) (walkB B y) = (u, w)) (hk : u.k = 1) (hw : withB B u.n w = true) : URun sw (n + 1) ((x, y) :: R) B met B false
  | bind {n : Nat} {x y u w : Tm} {R : List (Tm × Tm)} {B B' : Binds} {met : List (Int × Int)} {ok : Bool} (hs : skipU x y met = false) (hv : ¬ sameV (walkB B x) (walkB B y)) (hp : pickU sw (walkB B x) (walkB B y) = (u, w)) (hk : u.k = 1) (hw : withB B u.n w = false) (h : URun sw n R (B ++ [(u.n, w)]) (metU x y met) B' ok) : URun sw (n + 1) ((x, y) :: R) B met B' ok
  | clash {n : Nat} {x y : Tm} {R : List (Tm × Tm)} {B : Binds} {met : List (Int × Int)} (hs : skipU x y met = false) (hx : (walkB B x).k ≠ 1) (hy : (walkB B y).k ≠ 1) (hc : clashB (walkB B x) (walkB B y) = true) : URun sw (n + 1) ((x, y) :: R) B met B false
  | args {n : Nat} {x y : Tm} {R : List (Tm × Tm)} {B B' : Binds} {met : List (Int × Int)} {ok : Bool} (hs : skipU x y met = false) (hx : (walkB B x).k ≠ 1) (hy : (walkB B y).k ≠ 1) (hc : clashB (walkB B x) (walkB B y) = false) (h : URun sw n (ordU sw (walkB B x).l (walkB B y).l ++ R) B (metU x y met) B' ok) : URun sw (n + 1) ((x, y) :: R) B met B' ok

/-- What holds of each state. -/
structure UG (S : List Int) (N : Nat) (T : List (Tm × Tm)) (B : Binds) : Prop where
  chain : chainB B
  fairb : fairBB B
  fairt : ∀ p ∈ T, p.1.fairR = true ∧ p.2.fairR = true
  st : sizT N T
  sb : sizB N B
  sol : ∃ σ, solB σ B
  vb : ∀ b ∈ B, b.1 ∈ S ∧ ∀ u ∈ occ b.2, u ∈ S
  vt : ∀ p ∈ T, (∀ u ∈ occ p.1, u ∈ S) ∧ ∀ u ∈ occ p.2, u ∈ S

theorem walk_occ {S : List Int} {B : Binds} (h : ∀ b ∈ B, b.1 ∈ S ∧ ∀ u ∈ occ b.2, u ∈ S) : ∀ (f : Nat) (t : Tm), (∀ u ∈ occ t, u ∈ S) → ∀ u ∈ occ (walkT B f t), u ∈ S
  | 0, t, ht => ht
  | f + 1, t, ht => by
    simp only [walkT]
    split
    · split
      · rename_i x hx; exact walk_occ h f x (h _ (findB_mem hx)).2
      · exact ht
    · exact ht

structure UW (S : List Int) (N : Nat) (B : Binds) (x : Tm) : Prop where
  fair : x.fairR = true
  size : x.size ≤ N
  occ : ∀ u ∈ occ x, u ∈ S
  nd : x.k = 1 → findB B x.n = none
section
variable {S : List Int} {N : Nat} {x y : Tm} {R : List (Tm × Tm)} {B : Binds}

theorem UG.tail {p : Tm × Tm} (h : UG S N (p :: R) B) : UG S N R B :=
  ⟨h.chain, h.fairb, fun q hq => h.fairt q (by simp [hq]), fun q hq => h.st q (by simp [hq]), h.sb, h.sol, h.vb, fun q hq => h.vt q (by simp [hq])⟩

theorem UG.walk1 (h : UG S N ((x, y) :: R) B) : UW S N B (walkB B x) :=
  ⟨walk_fair h.fairb _ x (h.fairt (x, y) (by simp)).1, walk_siz h.sb _ x (h.st (x, y) (by simp)).1, walk_occ h.vb _ x (h.vt (x, y) (by simp)).1, walkB_end h.chain⟩

theorem UG.walk2 (h : UG S N ((x, y) :: R) B) : UW S N B (walkB B y) :=
  ⟨walk_fair h.fairb _ y (h.fairt (x, y) (by simp)).2, walk_siz h.sb _ y (h.st (x, y) (by simp)).2, walk_occ h.vb _ y (h.vt (x, y) (by simp)).2, walkB_end h.chain⟩

theorem UG.pick {sw : Bool} {u w : Tm} (h : UG S N ((x, y) :: R) B) (hv : ¬ sameV (walkB B x) (walkB B y)) (hp : pickU sw (walkB B x) (walkB B y) = (u, w)) (hk : u.k = 1) : UW S N B u ∧ UW S N B w ∧ (w.k = 1 → w.n ≠ u.n) := by
  rcases pickU_or hp with ⟨rfl, rfl⟩ | ⟨rfl, rfl, _⟩
  · exact ⟨h.walk1, h.walk2, fun hw e => hv ⟨hk, hw, e.symm⟩⟩
  · exact ⟨h.walk2, h.walk1, fun hw e => hv ⟨hw, hk, e⟩⟩

theorem UG.bind {sw : Bool} {u w : Tm} (h : UG S N ((x, y) :: R) B) (hv : ¬ sameV (walkB B x) (walkB B y)) (hp : pickU sw (walkB B x) (walkB B y) = (u, w)) (hk : u.k = 1) (hw : withB B u.n w = false) : UG S N R (B ++ [(u.n, w)]) := by
  obtain ⟨hu, hw1, hne⟩ := h.pick hv hp hk
  obtain ⟨σ, hs⟩ := h.sol
  have ht := h.tail
  refine ⟨h.chain.snoc (hu.nd hk) fun h1 => ⟨hw1.nd h1, hne h1⟩, fun b hb => ?_, ht.fairt, ht.st, h.sb.snoc hw1.size, bind_sol hs h.chain h.fairb (hu.nd hk) hw1.fair hw, fun b hb => ?_, ht.vt⟩
  · rcases List.mem_append.1 hb with hb | hb
    · exact h.fairb b hb
    · simp only [List.mem_singleton] at hb; subst hb
      exact ⟨hw1.fair, occ_range u hu.fair u.n (occ_var hk)⟩
  · rcases List.mem_append.1 hb with hb | hb
    · exact h.vb b hb
    · simp only [List.mem_singleton] at hb; subst hb
      exact ⟨hu.occ _ (occ_var hk), hw1.occ⟩

theorem occ_kid {t x : Tm} (hk : t.k ≠ 1) (hx : x ∈ t.l) {u : Int} (hu : u ∈ occ x) : u ∈ occ t := by
  cases t; simp only [k, l] at hk hx; simp only [occ, if_neg hk]
  clear hk
  rename_i l
  induction l with
  | nil => cases hx
  | cons a l ih =>
    simp only [occL, List.mem_append]
    rcases List.mem_cons.1 hx with rfl | hx
    · exact .inl hu
    · exact .inr (ih hx)

theorem UG.args {sw : Bool} (h : UG S N ((x, y) :: R) B) (hx : (walkB B x).k ≠ 1) (hy : (walkB B y).k ≠ 1) : UG S N (ordU sw (walkB B x).l (walkB B y).l ++ R) B := by
  have ht := h.tail
  have h1 := h.walk1
  have h2 := h.walk2
  generalize walkB B x = x' at *
  generalize walkB B y = y' at *
  have hz : ∀ p ∈ ordU sw x'.l y'.l, p.1 ∈ x'.l ∧ p.2 ∈ y'.l := fun p hp => List.of_mem_zip (ordU_mem.1 hp)
  refine ⟨h.chain, h.fairb, fun q hq => ?_, fun q hq => ?_, h.sb, h.sol, h.vb, fun q hq => ?_⟩
  · rcases List.mem_append.1 hq with hq | hq
    · exact ⟨Sub.kid_fair h1.fair (hz q hq).1, Sub.kid_fair h2.fair (hz q hq).2⟩
    · exact ht.fairt q hq
  · rcases List.mem_append.1 hq with hq | hq
    · have g1 := size_mem (hz q hq).1
      have g2 := size_mem (hz q hq).2
      have g3 := size_eq x'
      have g4 := size_eq y'
      have g5 := h1.size
      have g6 := h2.size
      omega
    · exact ht.st q hq
  · rcases List.mem_append.1 hq with hq | hq
    · exact ⟨fun u hu => h1.occ u (occ_kid hx (hz q hq).1 hu), fun u hu => h2.occ u (occ_kid hy (hz q hq).2 hu)⟩
    · exact ht.vt q hq
end
def unbU (S : List Int) (B : Binds) : Nat := S.countP fun v => (findB B v).isNone

theorem findB_snoc (B : Binds) (v z : Int) (w : Tm) : findB (B ++ [(v, w)]) z = match findB B z with | some x => some x | none => if v = z then some w else none := by
  induction B with
  | nil => simp [findB_cons, findB]
  | cons b B ih =>
    simp only [List.cons_append, findB_cons]
    split
    · rfl
    · exact ih

theorem unbU_lt {S : List Int} {B : Binds} {v : Int} (hv : v ∈ S) (hb : findB B v = none) (w : Tm) : unbU S (B ++ [(v, w)]) < unbU S B := by
  obtain ⟨l, r, rfl⟩ := List.mem_iff_append.1 hv
  have mono : ∀ l : List Int, (l.countP fun z => (findB (B ++ [(v, w)]) z).isNone) ≤ l.countP fun z => (findB B z).isNone := fun l => by
    apply List.countP_mono_left
    intro z _ hz
    rw [findB_snoc] at hz
    cases hf : findB B z with
    | none => rfl
    | some x => rw [hf] at hz; simp at hz
  have h1 := mono l
  have h2 := mono r
  unfold unbU
  simp only [List.countP_append, List.countP_cons]
  rw [hb, findB_snoc, hb]
  simp
  omega
theorem sumS_rev (σ : Int → Tm) (T : List (Tm × Tm)) : sumS σ T.reverse = sumS σ T := by simp [sumS]

theorem sumS_ord (σ : Int → Tm) (sw : Bool) (l m : List Tm) (h : l.length = m.length) : sumS σ (ordU sw l m) = sizeL (putFL σ l) := by
  cases sw
  · rw [ordU, if_neg (by simp), sumS_rev, sumS_zip σ l m h]
  · rw [ordU, if_pos rfl, sumS_zip σ l m h]
theorem sumS_cons (σ : Int → Tm) (p : Tm × Tm) (T : List (Tm × Tm)) : sumS σ (p :: T) = size (putF σ p.1) + sumS σ T := by simp [sumS]

theorem clash_no {x y : Tm} (h : clashB x y = false) : x.k = y.k ∧ x.s = y.s ∧ x.n = y.n ∧ x.l.length = y.l.length := by
  unfold clashB at h
  simp only [Bool.or_eq_false_iff, decide_eq_false_iff_not, Decidable.not_not, Bool.not_eq_false'] at h
  obtain ⟨⟨⟨h1, h2⟩, h3⟩, h4⟩ := h
  exact ⟨h1, Tm.strEq_iff.1 h3, h2, h4⟩

theorem urun_ends (sw : Bool) {S : List Int} {N : Nat} : ∀ (c : Nat) (s : Nat) (σ : Int → Tm) (T : List (Tm × Tm)) (B : Binds) (met : List (Int × Int)), UG S N T B → unbU S B ≤ c → solB σ B → sumS σ T ≤ s → ∃ n B' ok, URun sw n T B met B' ok := by
  intro c
  induction c using Nat.strongRecOn with
  | ind c ihc =>
    intro s
    induction s with
    | zero =>
      intro σ T B met hU hc hs hsum
      cases T with
      | nil => exact ⟨0, B, true, .done⟩
      | cons p T =>
        rw [sumS_cons] at hsum
        have := size_pos (putF σ p.1)
        omega
    | succ s ih =>
      intro σ T B met hU hc hs hsum
      cases T with
      | nil => exact ⟨0, B, true, .done⟩
      | cons p T =>
        obtain ⟨x, y⟩ := p
        rw [sumS_cons] at hsum
        have hpos := size_pos (putF σ x)
        simp only at hsum
        cases hsk : skipU x y met with
        | true =>
          obtain ⟨n, B', ok, h⟩ := ih σ T B met hU.tail hc hs (by omega)
          exact ⟨n + 1, B', ok, .skip hsk h⟩
        | false =>
          by_cases hv : sameV (walkB B x) (walkB B y)
          · obtain ⟨n, B', ok, h⟩ := ih σ T B (metU x y met) hU.tail hc hs (by omega)
            exact ⟨n + 1, B', ok, .same hsk hv h⟩
          · obtain ⟨u, w, hp⟩ : ∃ u w, pickU sw (walkB B x) (walkB B y) = (u, w) := ⟨_, _, rfl⟩
            by_cases hk : u.k = 1
            · cases hw : withB B u.n w with
              | true => exact ⟨1, B, false, .occ (n := 0) hsk hv hp hk hw⟩
              | false =>
                have hb := hU.bind hv hp hk hw
                obtain ⟨hu, _, _⟩ := hU.pick hv hp hk
                have hlt := unbU_lt (hu.occ _ (occ_var hk)) (hu.nd hk) w
                obtain ⟨σ', hs'⟩ := hb.sol
                obtain ⟨n, B', ok, h⟩ := ihc _ (by omega) (sumS σ' T) σ' T _ (metU x y met) hb (Nat.le_refl _) hs' (Nat.le_refl _)
                exact ⟨n + 1, B', ok, .bind hsk hv hp hk hw h⟩
            · obtain ⟨hx, hy⟩ := pickU_fun hp hk
              cases hcl : clashB (walkB B x) (walkB B y) with
              | true => exact ⟨1, B, false, .clash (n := 0) hsk hx hy hcl⟩
              | false =>
                obtain ⟨_, _, _, hlen⟩ := clash_no hcl
                have hz : size (putF σ x) = 1 + sizeL (putFL σ (walkB B x).l) := by
                  rw [← walk_sol hs (B.length + 1) x, show walkT B (B.length + 1) x = walkB B x from rfl, putF_fun hx]; simp only [size]
                obtain ⟨n, B', ok, h⟩ := ih σ (ordU sw (walkB B x).l (walkB B y).l ++ T) B (metU x y met) (hU.args hx hy) hc hs (by rw [sumS_app, sumS_ord σ sw _ _ hlen]; omega)
                exact ⟨n + 1, B', ok, .args hsk hx hy hcl h⟩

theorem urun_finds {sw : Bool} {S : List Int} {N : Nat} {σ : Int → Tm} {n : Nat} {T : List (Tm × Tm)} {B B' : Binds} {met : List (Int × Int)} {ok : Bool} (h : URun sw n T B met B' ok) : UG S N T B → solB σ B → (∀ p ∈ T, putF σ p.1 = putF σ p.2) → ok = true ∧ solB σ B' := by
  induction h with
  | done => exact fun _ hs _ => ⟨rfl, hs⟩
  | skip _ _ ih => exact fun hU hs ht => ih hU.tail hs fun p hp => ht p (by simp [hp])
  | same _ _ _ ih => exact fun hU hs ht => ih hU.tail hs fun p hp => ht p (by simp [hp])
  | occ hsk hv hp hk hw =>
    intro hU hs ht
    rename_i x y u w R B met
    have he := ht (x, y) (by simp)
    simp only at he
    rw [← walk_sol hs (B.length + 1) x, ← walk_sol hs (B.length + 1) y] at he
    obtain ⟨hu, hw1, hne⟩ := hU.pick hv hp hk
    have he2 : putF σ u = putF σ w := by
      rcases pickU_or hp with ⟨rfl, rfl⟩ | ⟨rfl, rfl, _⟩
      · exact he
      · exact he.symm
    rw [putF_var hk] at he2
    rw [withB_no hs he2 (fun ⟨h1, h2⟩ => by
      rcases h2 with h2 | h2
      · exact hne h1 h2
      · exact h2 (hw1.nd h1))] at hw
    cases hw
  | bind hsk hv hp hk hw _ ih =>
    intro hU hs ht
    rename_i n x y u w R B B' met ok _
    have he := ht (x, y) (by simp)
    simp only at he
    rw [← walk_sol hs (B.length + 1) x, ← walk_sol hs (B.length + 1) y] at he
    have he2 : putF σ u = putF σ w := by
      rcases pickU_or hp with ⟨rfl, rfl⟩ | ⟨rfl, rfl, _⟩
      · exact he
      · exact he.symm
    rw [putF_var hk] at he2
    refine ih (hU.bind hv hp hk hw) (fun b hb => ?_) fun p hp => ht p (by simp [hp])
    rcases List.mem_append.1 hb with hb | hb
    · exact hs b hb
    · simp only [List.mem_singleton] at hb; subst hb; exact he2
  | clash hsk hx hy hc =>
    intro hU hs ht
    rename_i n x y R B met
    have he := ht (x, y) (by simp)
    simp only at he
    rw [← walk_sol hs (B.length + 1) x, ← walk_sol hs (B.length + 1) y] at he
    change putF σ (walkB B x) = putF σ (walkB B y) at he
    generalize walkB B x = x' at *
    generalize walkB B y = y' at *
    rw [putF_fun hx, putF_fun hy] at he
    simp only [Tm.mk.injEq] at he
    obtain ⟨e1, e2, e3, e4⟩ := he
    have hlen : x'.l.length = y'.l.length := by rw [← putFL_len σ, e4, putFL_len]
    unfold clashB at hc
    simp [e1, e2, e3, hlen, strEq] at hc
  | args hsk hx hy hc _ ih =>
    intro hU hs ht
    rename_i n x y R B B' met ok _
    have he := ht (x, y) (by simp)
    simp only at he
    rw [← walk_sol hs (B.length + 1) x, ← walk_sol hs (B.length + 1) y] at he
    refine ih (hU.args hx hy) hs fun p hp => ?_
    rcases List.mem_append.1 hp with hp | hp
    · change putF σ (walkB B x) = putF σ (walkB B y) at he
      rw [putF_fun hx, putF_fun hy] at he
      simp only [Tm.mk.injEq] at he
      exact zip_sol _ _ he.2.2.2 p (ordU_mem.1 hp)
    · exact ht p (by simp [hp])
end Tm
end PSL

namespace PSL
open Go
namespace Tm

theorem urun_good {sw : Bool} {S : List Int} {N : Nat} {n : Nat} {T : List (Tm × Tm)} {B B' : Binds} {met : List (Int × Int)} {ok : Bool} (h : URun sw n T B met B' ok) : UG S N T B → UG S N [] B' ∧ ∃ X, B' = B ++ X := by
  induction h with
  | done => exact fun hU => ⟨hU, [], by simp⟩
  | skip _ _ ih => exact fun hU => ih hU.tail
  | same _ _ _ ih => exact fun hU => ih hU.tail
  | occ hsk hv hp hk hw =>
    intro hU
    exact ⟨⟨hU.chain, hU.fairb, by simp, fun p hp => (by cases hp), hU.sb, hU.sol, hU.vb, by simp⟩, [], by simp⟩
  | bind hsk hv hp hk hw _ ih =>
    intro hU
    obtain ⟨h1, X, h2⟩ := ih (hU.bind hv hp hk hw)
    exact ⟨h1, _, by rw [h2, List.append_assoc]⟩
  | clash hsk hx hy hc =>
    intro hU
    exact ⟨⟨hU.chain, hU.fairb, by simp, fun p hp => (by cases hp), hU.sb, hU.sol, hU.vb, by simp⟩, [], by simp⟩
  | args hsk hx hy hc _ ih => exact fun hU => ih (hU.args hx hy)

theorem walk_more {B : Binds} {v : Int} {w : Tm} (hw : w.k = 1 → findB B w.n = none ∧ w.n ≠ v) : ∀ (f : Nat) (t : Tm), ((walkT B f t).k = 1 → findB B (walkT B f t).n = none) → walkT (B ++ [(v, w)]) (f + 1) t = if (walkT B f t).k = 1 ∧ (walkT B f t).n = v then w else walkT B f t := by
  have hend : ∀ f, walkT (B ++ [(v, w)]) f w = w := fun f => by
    cases f with
    | zero => rfl
    | succ f =>
      simp only [walkT]
      split
      · rename_i hk
        obtain ⟨h1, h2⟩ := hw hk
        rw [findB_snoc, h1]
        simp only
        rw [if_neg (fun e => h2 e.symm)]
      · rfl
  have stop : ∀ (f : Nat) (t : Tm), (t.k = 1 → findB B t.n = none) → walkT (B ++ [(v, w)]) (f + 1) t = if t.k = 1 ∧ t.n = v then w else t := fun f t ht => by
    simp only [walkT]
    by_cases hk : t.k = 1
    · rw [if_pos hk, findB_snoc, ht hk]
      simp only
      by_cases hn : v = t.n
      · rw [if_pos hn, if_pos ⟨hk, hn.symm⟩]; exact hend f
      · rw [if_neg hn, if_neg (fun e => hn e.2.symm)]
    · rw [if_neg hk, if_neg (fun e => hk e.1)]
  intro f
  induction f with
  | zero => exact fun t ht => stop 0 t ht
  | succ f ih =>
    intro t ht
    by_cases hk : t.k = 1
    · cases hf : findB B t.n with
      | none =>
        have e : walkT B (f + 1) t = t := by simp only [walkT]; rw [if_pos hk, hf]
        rw [e]
        exact stop _ t fun _ => hf
      | some x =>
        have e : walkT B (f + 1) t = walkT B f x := by simp only [walkT]; rw [if_pos hk, hf]
        rw [e] at ht ⊢
        rw [← ih x ht]
        have e2 : ∀ f', walkT (B ++ [(v, w)]) (f' + 1) t = walkT (B ++ [(v, w)]) f' x := fun f' => by
          conv => lhs; unfold walkT
          rw [if_pos hk, findB_snoc, hf]
        exact e2 _
    · have e : walkT B (f + 1) t = t := by simp only [walkT]; rw [if_neg hk]
      rw [e]
      exact stop _ t fun h => absurd h hk

theorem walkB_more {B : Binds} (hc : chainB B) {v : Int} {w : Tm} (hw : w.k = 1 → findB B w.n = none ∧ w.n ≠ v) (t : Tm) : walkB (B ++ [(v, w)]) t = if (walkB B t).k = 1 ∧ (walkB B t).n = v then w else walkB B t := by
  have e : walkB (B ++ [(v, w)]) t = walkT (B ++ [(v, w)]) (B.length + 1 + 1) t := by unfold walkB; simp
  rw [e]
  exact walk_more hw (B.length + 1) t (walkB_end hc)

/-- Two that were gone through are alike, as far as those beneath are. -/
def GoodU (B : Binds) (V : Tm × Tm → Prop) (p : Tm × Tm) : Prop := walkB B p.1 = walkB B p.2 ∨ ((walkB B p.1).k ≠ 1 ∧ (walkB B p.2).k ≠ 1 ∧ (walkB B p.1).k = (walkB B p.2).k ∧ (walkB B p.1).s = (walkB B p.2).s ∧ (walkB B p.1).n = (walkB B p.2).n ∧ (walkB B p.1).l.length = (walkB B p.2).l.length ∧ ∀ q ∈ (walkB B p.1).l.zip (walkB B p.2).l, V q)

theorem GoodU.mono {B : Binds} {V V' : Tm × Tm → Prop} {p : Tm × Tm} (h : GoodU B V p) (hV : ∀ q, V q → V' q) : GoodU B V' p := by
  rcases h with h | ⟨h1, h2, h3, h4, h5, h6, h7⟩
  · exact .inl h
  · exact .inr ⟨h1, h2, h3, h4, h5, h6, fun q hq => hV q (h7 q hq)⟩

theorem GoodU.more {B : Binds} {V : Tm × Tm → Prop} {p : Tm × Tm} (h : GoodU B V p) (hc : chainB B) {v : Int} {w : Tm} (hw : w.k = 1 → findB B w.n = none ∧ w.n ≠ v) : GoodU (B ++ [(v, w)]) V p := by
  rcases h with h | ⟨h1, h2, h3⟩
  · exact .inl (by rw [walkB_more hc hw, walkB_more hc hw, h])
  · refine .inr ?_
    rw [walkB_more hc hw, walkB_more hc hw, if_neg (fun e => h1 e.1), if_neg (fun e => h2 e.1)]
    exact ⟨h1, h2, h3⟩

theorem fair_var {t : Tm} (hf : t.fairR = true) (hk : t.k = 1) : t = vT t.n := by
  obtain ⟨k, s, n, l⟩ := t
  simp only [Tm.k] at hk
  subst hk
  obtain ⟨_, h⟩ := fairR_mk hf
  obtain ⟨rfl, rfl⟩ := h rfl
  rfl

theorem skipU_mem {x y : Tm} {met : List (Int × Int)} (h : skipU x y met = true) : x.k = 1 ∧ y.k = 1 ∧ (x.n, y.n) ∈ met := by
  simp only [skipU, Bool.and_eq_true, decide_eq_true_eq] at h
  exact ⟨h.1.1, h.1.2, by simpa using h.2⟩

theorem metU_mem {x y : Tm} {met : List (Int × Int)} {m : Int × Int} (h : m ∈ metU x y met) : m ∈ met ∨ (x.k = 1 ∧ y.k = 1 ∧ m = (x.n, y.n)) := by
  unfold metU at h
  split at h
  · rename_i hc
    simp only [Bool.and_eq_true, decide_eq_true_eq] at hc
    rcases List.mem_append.1 h with h | h
    · exact .inl h
    · simp only [List.mem_singleton] at h; exact .inr ⟨hc.1, hc.2, h⟩
  · exact .inl h

theorem urun_sound {sw : Bool} {S : List Int} {N : Nat} {n : Nat} {T : List (Tm × Tm)} {B B' : Binds} {met : List (Int × Int)} {ok : Bool} (h : URun sw n T B met B' ok) : UG S N T B → ok = true → ∀ V : Tm × Tm → Prop, (∀ p, V p → GoodU B (fun q => V q ∨ q ∈ T) p) → (∀ m ∈ met, V (vT m.1, vT m.2)) → ∃ V' : Tm × Tm → Prop, (∀ p, V p → V' p) ∧ (∀ p ∈ T, V' p) ∧ ∀ p, V' p → GoodU B' V' p := by
  induction h with
  | done => exact fun _ _ V hV _ => ⟨V, fun _ h => h, by simp, fun p hp => (hV p hp).mono fun q hq => by rcases hq with h | h; exact h; cases h⟩
  | skip hs h ih =>
    intro hU hok V hV hm
    rename_i n x y R B B' met ok
    obtain ⟨h1, h2, h3⟩ := skipU_mem hs
    have hxy : V (x, y) := by
      have := hm _ h3
      rw [← fair_var (hU.fairt (x, y) (by simp)).1 h1, ← fair_var (hU.fairt (x, y) (by simp)).2 h2] at this
      exact this
    obtain ⟨V', g1, g2, g3⟩ := ih hU.tail hok V (fun p hp => (hV p hp).mono fun q hq => by
      rcases hq with h | h
      · exact .inl h
      · rcases List.mem_cons.1 h with rfl | h
        · exact .inl hxy
        · exact .inr h) hm
    exact ⟨V', g1, fun p hp => by
      rcases List.mem_cons.1 hp with rfl | h
      · exact g1 _ hxy
      · exact g2 p h, g3⟩
  | same hs hv h ih =>
    intro hU hok V hV hm
    rename_i n x y R B B' met ok
    obtain ⟨V', g1, g2, g3⟩ := ih hU.tail hok (fun q => V q ∨ q = (x, y)) (fun p hp => by
      rcases hp with hp | rfl
      · exact (hV p hp).mono fun q hq => by
          rcases hq with h | h
          · exact .inl (.inl h)
          · rcases List.mem_cons.1 h with rfl | h
            · exact .inl (.inr rfl)
            · exact .inr h
      · refine .inl ?_
        simp only
        rw [fair_var hU.walk1.fair hv.1, fair_var hU.walk2.fair hv.2.1, hv.2.2]) (fun m hmm => by
      rcases metU_mem hmm with h | ⟨k1, k2, rfl⟩
      · exact .inl (hm m h)
      · refine .inr ?_
        simp only
        rw [← fair_var (hU.fairt (x, y) (by simp)).1 k1, ← fair_var (hU.fairt (x, y) (by simp)).2 k2])
    exact ⟨V', fun p hp => g1 p (.inl hp), fun p hp => by
      rcases List.mem_cons.1 hp with rfl | h
      · exact g1 _ (.inr rfl)
      · exact g2 p h, g3⟩
  | occ => exact fun _ h => (by cases h)
  | clash => exact fun _ h => (by cases h)
  | bind hs hv hp hk hw h ih =>
    intro hU hok V hV hm
    rename_i n x y u w R B B' met ok
    obtain ⟨hu, hw1, hne⟩ := hU.pick hv hp hk
    have hend : w.k = 1 → findB B w.n = none ∧ w.n ≠ u.n := fun h => ⟨hw1.nd h, hne h⟩
    obtain ⟨V', g1, g2, g3⟩ := ih (hU.bind hv hp hk hw) hok (fun q => V q ∨ q = (x, y)) (fun p hp1 => by
      rcases hp1 with hp1 | rfl
      · refine ((hV p hp1).more hU.chain hend).mono fun q hq => ?_
        rcases hq with h | h
        · exact .inl (.inl h)
        · rcases List.mem_cons.1 h with rfl | h
          · exact .inl (.inr rfl)
          · exact .inr h
      · refine .inl ?_
        simp only
        rw [walkB_more hU.chain hend, walkB_more hU.chain hend]
        rcases pickU_or hp with ⟨rfl, rfl⟩ | ⟨rfl, rfl, _⟩
        · rw [if_pos ⟨hk, rfl⟩, if_neg (fun e => hne e.1 e.2)]
        · rw [if_pos (⟨hk, rfl⟩ : (walkB B y).k = 1 ∧ (walkB B y).n = (walkB B y).n), if_neg (fun e => hne e.1 e.2)]) (fun m hmm => by
      rcases metU_mem hmm with h | ⟨k1, k2, rfl⟩
      · exact .inl (hm m h)
      · refine .inr ?_
        simp only
        rw [← fair_var (hU.fairt (x, y) (by simp)).1 k1, ← fair_var (hU.fairt (x, y) (by simp)).2 k2])
    exact ⟨V', fun p hp => g1 p (.inl hp), fun p hp => by
      rcases List.mem_cons.1 hp with rfl | h
      · exact g1 _ (.inr rfl)
      · exact g2 p h, g3⟩
  | args hs hx hy hc h ih =>
    intro hU hok V hV hm
    rename_i n x y R B B' met ok
    obtain ⟨e1, e2, e3, e4⟩ := clash_no hc
    obtain ⟨V', g1, g2, g3⟩ := ih (hU.args hx hy) hok (fun q => V q ∨ q = (x, y)) (fun p hp1 => by
      rcases hp1 with hp1 | rfl
      · refine (hV p hp1).mono fun q hq => ?_
        rcases hq with h | h
        · exact .inl (.inl h)
        · rcases List.mem_cons.1 h with rfl | h
          · exact .inl (.inr rfl)
          · exact .inr (List.mem_append.2 (.inr h))
      · exact .inr ⟨hx, hy, e1, e2, e3, e4, fun q hq => .inr (List.mem_append.2 (.inl (ordU_mem.2 hq)))⟩) (fun m hmm => by
      rcases metU_mem hmm with h | ⟨k1, k2, rfl⟩
      · exact .inl (hm m h)
      · refine .inr ?_
        simp only
        rw [← fair_var (hU.fairt (x, y) (by simp)).1 k1, ← fair_var (hU.fairt (x, y) (by simp)).2 k2])
    exact ⟨V', fun p hp => g1 p (.inl hp), fun p hp => by
      rcases List.mem_cons.1 hp with rfl | h
      · exact g1 _ (.inr rfl)
      · exact g2 p (List.mem_append.2 (.inr h)), g3⟩

theorem sol_zip {σ : Int → Tm} : ∀ (l m : List Tm), l.length = m.length → (∀ q ∈ l.zip m, putF σ q.1 = putF σ q.2) → putFL σ l = putFL σ m
  | [], [], _, _ => rfl
  | [], _ :: _, h, _ => by simp at h
  | _ :: _, [], h, _ => by simp at h
  | a :: l, b :: m, h, hq => by
    simp only [putFL, List.cons.injEq]
    exact ⟨hq (a, b) (by simp), sol_zip l m (by simpa using h) fun q h => hq q (by simp [h])⟩

theorem kid_putsize {σ : Int → Tm} {x z : Tm} (hx : x.k ≠ 1) (hz : z ∈ x.l) : size (putF σ z) < size (putF σ x) := by
  rw [putF_fun hx]
  simp only [size]
  have : ∀ l : List Tm, z ∈ l → size (putF σ z) ≤ sizeL (putFL σ l) := fun l => by
    induction l with
    | nil => intro h; cases h
    | cons a l ih =>
      intro h
      simp only [putFL, sizeL]
      rcases List.mem_cons.1 h with rfl | h
      · omega
      · have := ih h; omega
  have := this x.l hz
  omega

theorem good_sol {σ : Int → Tm} {B : Binds} (hs : solB σ B) {V : Tm × Tm → Prop} (hV : ∀ p, V p → GoodU B V p) : ∀ (c : Nat) (p : Tm × Tm), V p → size (putF σ p.1) ≤ c → putF σ p.1 = putF σ p.2 := by
  intro c
  induction c with
  | zero => intro p _ h; have := size_pos (putF σ p.1); omega
  | succ c ih =>
    intro p hp h
    rw [← walk_sol hs (B.length + 1) p.1, ← walk_sol hs (B.length + 1) p.2]
    rw [← walk_sol hs (B.length + 1) p.1] at h
    change size (putF σ (walkB B p.1)) ≤ _ at h
    show putF σ (walkB B p.1) = putF σ (walkB B p.2)
    rcases hV p hp with e | ⟨h1, h2, h3, h4, h5, h6, h7⟩
    · rw [e]
    · rw [putF_fun h1, putF_fun h2, h3, h4, h5, sol_zip _ _ h6 fun q hq => ih q (h7 q hq) (by
        have := kid_putsize (σ := σ) h1 (List.of_mem_zip hq).1
        omega)]

/-- Unification of two, from any state. -/
theorem unify_main (sw : Bool) {S : List Int} {N : Nat} {a b : Tm} {B : Binds} (hU : UG S N [(a, b)] B) : ∃ n B' ok, URun sw n [(a, b)] B [] B' ok ∧ UG S N [] B' ∧ (∃ X, B' = B ++ X) ∧ (ok = true → ∀ σ, solB σ B' ↔ solB σ B ∧ putF σ a = putF σ b) ∧ (ok = false → ∀ σ, solB σ B → putF σ a ≠ putF σ b) := by
  obtain ⟨σ0, h0⟩ := hU.sol
  obtain ⟨n, B', ok, h⟩ := urun_ends sw (unbU S B) (sumS σ0 [(a, b)]) σ0 [(a, b)] B [] hU (Nat.le_refl _) h0 (Nat.le_refl _)
  obtain ⟨g1, X, g2⟩ := urun_good h hU
  refine ⟨n, B', ok, h, g1, ⟨X, g2⟩, fun hok σ => ⟨fun hs => ?_, fun ⟨hs, he⟩ => ?_⟩, fun hok σ hs he => ?_⟩
  · obtain ⟨V', _, v2, v3⟩ := urun_sound h hU hok (fun _ => False) (fun p hp => hp.elim) (fun m hm => by cases hm)
    refine ⟨fun b hb => hs b (by rw [g2]; simp [hb]), good_sol hs v3 _ (a, b) (v2 _ (by simp)) (Nat.le_refl _)⟩
  · exact (urun_finds h hU hs (fun p hp => by simp at hp; subst hp; exact he)).2
  · have := (urun_finds h hU hs (fun p hp => by simp at hp; subst hp; exact he)).1
    rw [hok] at this; cases this
end Tm
end PSL

namespace PSL
open Go

theorem rightS_of {B : Binds} {M : Nat} (hS : Sub B M) (hn : (B.map (·.1)).Nodup) (hb : ∀ b ∈ B, 0 ≤ b.1 ∧ b.1 < 1000000 ∧ b.2.rightB = true) : rightS B = true := by
  rw [← rightR_eq]
  unfold rightR
  rw [Bool.and_eq_true, List.all_eq_true, List.all_eq_true]
  constructor
  · intro i hi
    have hil : i < B.length := by simpa using hi
    have e1 : B[i]? = some (B[i]'hil) := List.getElem?_eq_getElem _
    have h1 := hb _ (List.mem_of_getElem? e1)
    have h3 := nodup_place.1 hn i _ e1
    rw [okAt, e1]
    simp [h1.1, h1.2.1, h1.2.2, h3]
  · intro i hi
    cases hw : warsh (edge (adjB B)) B.length i i with
    | false => rfl
    | true => exact absurd (hS.okn i (by simpa using hi)) (okn_round (warsh_way _ _ _ _ hw))
def numL (l : List Tm) : List Tm := Tm.turnTL (placeG (varsT l)) l

theorem numL_turn {l : List Tm} {g : Int → Int} (hf : Tm.fairRL l = true) (hg : ∀ v ∈ Tm.occL l, 0 ≤ g v ∧ g v < 1000000) (hi : ∀ x ∈ Tm.occL l, ∀ y ∈ Tm.occL l, g x = g y → x = y) : numL (Tm.turnTL g l) = numL l := by
  have hV := varsT_turn hf hg hi
  unfold numL
  rw [hV, Tm.turnL_comp]
  refine Tm.turnL_congr l hf fun v hv => ?_
  exact placeG_map fun x hx he => hi x ((varsT_mem hf).1 hx) v hv he

theorem put_selfL {l : List Tm} (h : Tm.fairRL l = true) : Tm.putFL Tm.vT l = l := by
  rw [Tm.putFL_map]
  conv => rhs; rw [← List.map_id l]
  exact List.map_congr_left fun t ht => Tm.put_self t (Tm.fairRL_iff.1 h t ht)

theorem numL_both {l m : List Tm} (fl : Tm.fairRL l = true) (fm : Tm.fairRL m = true) {σ τ : Int → Tm} (hσ : m = Tm.putFL σ l) (hτ : l = Tm.putFL τ m) : numL m = numL l ∧ ∃ g : Int → Int, m = Tm.turnTL g l := by
  have hfix : Tm.putFL (fun v => Tm.putF τ (σ v)) l = Tm.putFL Tm.vT l := by
    rw [← Tm.putFL_comp, ← hσ, ← hτ, put_selfL fl]
  have hv := Tm.putFL_inj l hfix
  have hfs := Tm.fairL_put l (σ := σ) (by rw [← hσ]; exact fm)
  have hk : ∀ v ∈ Tm.occL l, σ v = Tm.vT (σ v).n ∧ τ (σ v).n = Tm.vT v := fun v h => by
    have e := hv v h
    have f := hfs v h
    generalize σ v = x at e f
    cases x with
    | mk k s n l =>
      simp only [Tm.putF] at e
      by_cases hk : k = 1
      · obtain ⟨rfl, rfl⟩ := (Tm.fairR_mk f).2 hk
        subst hk
        rw [if_pos rfl] at e
        exact ⟨rfl, e⟩
      · rw [if_neg hk] at e
        exact absurd (congrArg Tm.k e) hk
  have eb : m = Tm.turnTL (fun v => (σ v).n) l := by
    rw [hσ, Tm.turnL_put _ l fl]; exact Tm.putFL_congr l fun v h => (hk v h).1
  have hocc : Tm.occL m = (Tm.occL l).map fun v => (σ v).n := by
    have := congrArg Tm.occL eb; rwa [Tm.occL_turn] at this
  refine ⟨?_, _, eb⟩
  rw [eb]
  refine numL_turn fl (fun v h => Tm.occL_range m fm _ (by rw [hocc]; exact List.mem_map_of_mem (f := fun v => (σ v).n) h)) fun x hx y hy e => ?_
  have e1 := (hk x hx).2
  have e2 := (hk y hy).2
  have e : (σ x).n = (σ y).n := e
  rw [e, e2] at e1
  exact (congrArg Tm.n e1).symm
namespace Tm

theorem solL {σ : Int → Tm} {B : Binds} {M : Nat} (h : solB σ B) (hb : fairBB B) : ∀ l : List Tm, fairRL l = true → putFL σ (l.map (fullS B M)) = putFL σ l
  | [], _ => rfl
  | t :: l, hf => by
    simp only [fairRL, Bool.and_eq_true] at hf
    simp only [List.map_cons, putFL, full_sol h M t hf.1 hb, solL h hb l hf.2]

theorem putVL {B : Binds} (h : Sub B B.length) {l : List Tm} (hf : fairRL l = true) : putFL (fullV B) l = l.map (fullS B B.length) := by
  rw [putFL_map]
  exact List.map_congr_left fun t ht => sub_putV h (fairRL_iff.1 hf t ht)

/-- Binds with the same solutions make the same of terms, but for names. -/
theorem same_sols {S S' : List Int} {N N' : Nat} {B C : Binds} (hB : UG S N [] B) (hC : UG S' N' [] C) (h : ∀ σ, solB σ B ↔ solB σ C) {l : List Tm} (hf : fairRL l = true) : numL (l.map (fullS C C.length)) = numL (l.map (fullS B B.length)) ∧ ∃ g : Int → Int, l.map (fullS C C.length) = turnTL g (l.map (fullS B B.length)) := by
  obtain ⟨σ1, h1⟩ := hB.sol
  obtain ⟨σ2, h2⟩ := hC.sol
  have sB := sub_sol h1 hB.chain hB.fairb
  have sC := sub_sol h2 hC.chain hC.fairb
  have vB := sub_solV sB hB.chain
  have vC := sub_solV sC hC.chain
  have fB : fairRL (l.map (fullS B B.length)) = true := fairRL_iff.2 fun t ht => by
    obtain ⟨x, hx, rfl⟩ := List.mem_map.1 ht
    exact sB.fairF (fairRL_iff.1 hf x hx)
  have fC : fairRL (l.map (fullS C C.length)) = true := fairRL_iff.2 fun t ht => by
    obtain ⟨x, hx, rfl⟩ := List.mem_map.1 ht
    exact sC.fairF (fairRL_iff.1 hf x hx)
  refine numL_both fB fC (σ := fullV C) (τ := fullV B) ?_ ?_
  · rw [solL ((h _).2 vC) hB.fairb l hf, putVL sC hf]
  · rw [solL ((h _).1 vB) hC.fairb l hf, putVL sB hf]
end Tm

theorem nodup_le {α : Type} [DecidableEq α] : ∀ (l L : List α), l.Nodup → (∀ x ∈ l, x ∈ L) → l.length ≤ L.length
  | [], L, _, _ => Nat.zero_le _
  | x :: l, L, hn, hs => by
    obtain ⟨a, b, rfl⟩ := List.mem_iff_append.1 (hs x (by simp))
    simp only [List.nodup_cons] at hn
    have := nodup_le l (a ++ b) hn.2 fun y hy => by
      have := hs y (by simp [hy])
      simp only [List.mem_append, List.mem_cons] at this ⊢
      rcases this with h | h | h
      · exact .inl h
      · subst h; exact absurd hy hn.1
      · exact .inr h
    simp only [List.length_append, List.length_cons] at this ⊢
    omega
namespace Tm

theorem nodup_bound {B : Binds} {M : List Int} (hn : M.Nodup) (hb : ∀ m ∈ M, findB B m ≠ none) : M.length ≤ B.length := by
  have := nodup_le M (B.map (·.1)) hn fun m hm => by
    cases hf : findB B m with
    | none => exact absurd hf (hb m hm)
    | some x => exact List.mem_map.2 ⟨_, findB_mem hf, rfl⟩
  simpa using this

/-- What was met is bound, and no one twice. -/
def MetK (B : Binds) (M : List Int) : Prop := M.Nodup ∧ ∀ m ∈ M, findB B m ≠ none
def lkKeep (B : Binds) (g : Int → List Int → Bool × List Int) : Prop := ∀ n M, MetK B M → MetK B (g n M).2

mutual
theorem lkT_keep {B : Binds} {g : Int → List Int → Bool × List Int} (hg : lkKeep B g) : ∀ (t : Tm) (M : List Int), MetK B M → MetK B (lkT g t M).2
  | mk k s n l, M, h => by
    simp only [lkT]
    split
    · exact hg n M h
    · exact lkTL_keep hg l M h
theorem lkTL_keep {B : Binds} {g : Int → List Int → Bool × List Int} (hg : lkKeep B g) : ∀ (l : List Tm) (M : List Int), MetK B M → MetK B (lkTL g l M).2
  | [], M, h => h
  | x :: r, M, h => by
    simp only [lkTL]
    split
    · exact lkT_keep hg x M h
    · exact lkTL_keep hg r _ (lkT_keep hg x M h)
end

theorem lkF_keep (B : Binds) (v : Int) : ∀ u, lkKeep B (lkF B v u)
  | 0, n, M, h => h
  | u + 1, n, M, h => by
    simp only [lkF]
    split
    · exact h
    · split
      · exact h
      · rename_i x hx
        split
        · exact h
        · rename_i hc
          have hc' : n ∉ M := by simpa using hc
          refine lkT_keep (lkF_keep B v u) x _ ⟨?_, fun m hm => ?_⟩
          · rw [List.nodup_append]; exact ⟨h.1, by simp, fun a ha b hb => by simp at hb; subst hb; exact fun e => hc' (e ▸ ha)⟩
          · rcases List.mem_append.1 hm with hm | hm
            · exact h.2 m hm
            · simp only [List.mem_singleton] at hm; subst hm; rw [hx]; simp
end Tm
namespace Tm
abbrev Met := List (Int × Int)

def refUL (g : Binds → Tm → Tm → Met → Option (Binds × Met × Bool)) : Binds → List (Tm × Tm) → Met → Option (Binds × Met × Bool)
  | l, [], met => some (l, met, true)
  | l, (x, y) :: r, met => match g l x y met with
    | none => none
    | some (l', met', true) => refUL g l' r met'
    | some (_, met', false) => some (l, met', false)

def refU : Nat → Binds → Tm → Tm → Met → Option (Binds × Met × Bool)
  | 0, _, _, _, _ => none
  | f + 1, l, a, b, met =>
    if skipU a b met then some (l, met, true)
    else if (walkB l a).k = 1 ∧ (walkB l b).k = 1 ∧ (walkB l a).n = (walkB l b).n then some (l, metU a b met, true)
    else if (walkB l b).k = 1 then some (l ++ [((walkB l b).n, walkB l a)], metU a b met, !withB l (walkB l b).n (walkB l a))
    else if (walkB l a).k = 1 then some (l ++ [((walkB l a).n, walkB l b)], metU a b met, !withB l (walkB l a).n (walkB l b))
    else if clashB (walkB l a) (walkB l b) then some (l, metU a b met, false)
    else refUL (refU f) l ((walkB l a).l.zip (walkB l b).l) (metU a b met)

theorem refUL_mono {g g' : Binds → Tm → Tm → Met → Option (Binds × Met × Bool)} (h : ∀ l a b met r, g l a b met = some r → g' l a b met = some r) : ∀ (T : List (Tm × Tm)) (l : Binds) (met : Met) (r : Binds × Met × Bool), refUL g l T met = some r → refUL g' l T met = some r
  | [], l, met, r, hr => hr
  | (x, y) :: T, l, met, r, hr => by
    simp only [refUL] at hr ⊢
    cases hg : g l x y met with
    | none => rw [hg] at hr; cases hr
    | some q =>
      rw [hg] at hr
      rw [h _ _ _ _ _ hg]
      obtain ⟨l', met', ok⟩ := q
      cases ok with
      | true => exact refUL_mono h T l' met' r hr
      | false => exact hr

theorem refU_mono : ∀ (f : Nat) (l : Binds) (a b : Tm) (met : Met) (r : Binds × Met × Bool), refU f l a b met = some r → refU (f + 1) l a b met = some r
  | 0, l, a, b, met, r, h => by cases h
  | f + 1, l, a, b, met, r, h => by
    unfold refU at h ⊢
    split at h
    · rename_i hc; rw [if_pos hc]; exact h
    · rename_i hc
      rw [if_neg hc]
      split at h
      · rename_i hc; rw [if_pos hc]; exact h
      · rename_i hc
        rw [if_neg hc]
        split at h
        · rename_i hc; rw [if_pos hc]; exact h
        · rename_i hc
          rw [if_neg hc]
          split at h
          · rename_i hc; rw [if_pos hc]; exact h
          · rename_i hc
            rw [if_neg hc]
            split at h
            · rename_i hc; rw [if_pos hc]; exact h
            · rename_i hc
              rw [if_neg hc]
              exact refUL_mono (refU_mono f) _ _ _ _ h

/-- The document's way is a run. -/
theorem urun_ref : ∀ (n : Nat) (a b : Tm) (R : List (Tm × Tm)) (l B' : Binds) (met : Met) (ok : Bool), URun true n ((a, b) :: R) l met B' ok → ∃ l1 met1 ok1, refU n l a b met = some (l1, met1, ok1) ∧ (ok1 = false → ok = false) ∧ (ok1 = true → ∃ n1, n1 < n ∧ URun true n1 R l1 met1 B' ok) := by
  intro n
  induction n using Nat.strongRecOn with
  | ind n ih =>
    intro a b R l B' met ok h
    cases h with
    | skip hs h => exact ⟨l, met, true, by unfold refU; rw [if_pos hs], by simp, fun _ => ⟨_, Nat.lt_succ_self _, h⟩⟩
    | same hs hv h => unfold sameV at hv; exact ⟨l, metU a b met, true, by unfold refU; rw [if_neg (by rw [hs]; simp), if_pos hv], by simp, fun _ => ⟨_, Nat.lt_succ_self _, h⟩⟩
    | occ hs hv hp hk hw =>
      rename_i m u w
      unfold sameV at hv
      refine ⟨l ++ [(u.n, w)], metU a b met, false, ?_, by simp, by simp⟩
      unfold refU
      rw [if_neg (by rw [hs]; simp), if_neg hv]
      unfold pickU at hp
      by_cases hb : (walkB l b).k = 1
      · rw [if_pos (by simp [hb])] at hp
        cases hp
        rw [if_pos hb, hw]; rfl
      · rw [if_neg (by simp [hb])] at hp
        cases hp
        rw [if_neg hb, if_pos hk, hw]; rfl
    | bind hs hv hp hk hw h =>
      rename_i m u w
      unfold sameV at hv
      refine ⟨l ++ [(u.n, w)], metU a b met, true, ?_, by simp, fun _ => ⟨_, Nat.lt_succ_self _, h⟩⟩
      unfold refU
      rw [if_neg (by rw [hs]; simp), if_neg hv]
      unfold pickU at hp
      by_cases hb : (walkB l b).k = 1
      · rw [if_pos (by simp [hb])] at hp
        cases hp
        rw [if_pos hb, hw]; rfl
      · rw [if_neg (by simp [hb])] at hp
        cases hp
        rw [if_neg hb, if_pos hk, hw]; rfl
    | clash hs hx hy hc =>
      refine ⟨l, metU a b met, false, ?_, by simp, by simp⟩
      unfold refU
      rw [if_neg (by rw [hs]; simp), if_neg (fun e => hx e.1), if_neg hy, if_neg hx, if_pos hc]
    | args hs hx hy hc h =>
      rename_i m
      have key : ∀ (T : List (Tm × Tm)) (k : Nat) (l2 : Binds) (met2 : Met), k < m + 1 → URun true k (T ++ R) l2 met2 B' ok → ∃ l1 met1 ok1, refUL (refU m) l2 T met2 = some (l1, met1, ok1) ∧ (ok1 = false → ok = false) ∧ (ok1 = true → ∃ n1, n1 < m + 1 ∧ URun true n1 R l1 met1 B' ok) := by
        intro T
        induction T with
        | nil => exact fun k l2 met2 hk h => ⟨l2, met2, true, rfl, by simp, fun _ => ⟨k, hk, h⟩⟩
        | cons p T ihT =>
          intro k l2 met2 hk h
          obtain ⟨x, y⟩ := p
          obtain ⟨l3, met3, ok3, g1, g2, g3⟩ := ih k hk x y (T ++ R) l2 B' met2 ok h
          have up : ∀ d, refU (k + d) l2 x y met2 = some (l3, met3, ok3) := fun d => by
            induction d with
            | zero => exact g1
            | succ d ihd => exact refU_mono _ _ _ _ _ _ ihd
          have g1' : refU m l2 x y met2 = some (l3, met3, ok3) := by
            have := up (m - k)
            rwa [show k + (m - k) = m by omega] at this
          cases ok3 with
          | false => exact ⟨l2, met3, false, by simp only [refUL, g1'], fun _ => g2 rfl, by simp⟩
          | true =>
            obtain ⟨n1, h1, h2⟩ := g3 rfl
            obtain ⟨l1, met1, ok1, e1, e2, e3⟩ := ihT n1 l3 met3 (by omega) h2
            exact ⟨l1, met1, ok1, by simp only [refUL, g1']; exact e1, e2, e3⟩
      obtain ⟨l1, met1, ok1, e1, e2, e3⟩ := key _ m l (metU a b met) (Nat.lt_succ_self _) h
      refine ⟨l1, met1, ok1, ?_, e2, e3⟩
      unfold refU
      rw [if_neg (by rw [hs]; simp), if_neg (fun e => hx e.1), if_neg hy, if_neg hx, if_neg (by rw [hc]; simp)]
      exact e1
end Tm
end PSL

namespace PSL
open Go
namespace Tm

theorem UG.sub {S : List Int} {N : Nat} {T T' : List (Tm × Tm)} {B : Binds} (h : UG S N T B) (hs : ∀ p ∈ T', p ∈ T) : UG S N T' B :=
  ⟨h.chain, h.fairb, fun p hp => h.fairt p (hs p hp), fun p hp => h.st p (hs p hp), h.sb, h.sol, h.vb, fun p hp => h.vt p (hs p hp)⟩

/-- What was met: of some variables, and no two twice. -/
def MetS (S : List Int) (met : Met) : Prop := met.Nodup ∧ ∀ m ∈ met, m.1 ∈ S ∧ m.2 ∈ S
theorem MetS.nil (S : List Int) : MetS S [] := ⟨by simp, by simp⟩

theorem MetS.len {S : List Int} {met : Met} (h : MetS S met) : met.length ≤ S.length * S.length := by
  have h1 := nodup_le met (S.flatMap fun a => S.map fun b => (a, b)) h.1 fun m hm => by
    obtain ⟨h1, h2⟩ := h.2 m hm
    exact List.mem_flatMap.2 ⟨m.1, h1, List.mem_map.2 ⟨m.2, h2, rfl⟩⟩
  have h2 : ∀ L : List Int, (L.flatMap fun a => S.map fun b => (a, b)).length = L.length * S.length := fun L => by
    induction L with
    | nil => simp
    | cons a L ih => rw [List.flatMap_cons, List.length_append, ih, List.length_map, List.length_cons, Nat.succ_mul]; omega
  rw [h2] at h1; exact h1

theorem MetS.more {S : List Int} {met : Met} (h : MetS S met) {a b : Tm} (hs : skipU a b met = false) (ha : ∀ u ∈ occ a, u ∈ S) (hb : ∀ u ∈ occ b, u ∈ S) : MetS S (metU a b met) := by
  unfold metU
  split
  · rename_i hc
    have hc' := hc
    simp only [Bool.and_eq_true, decide_eq_true_eq] at hc'
    have hn : (a.n, b.n) ∉ met := by
      unfold skipU at hs
      rw [hc, Bool.true_and] at hs
      simpa using hs
    refine ⟨?_, fun m hm => ?_⟩
    · rw [List.nodup_append]
      exact ⟨h.1, by simp, fun x hx y hy => by simp at hy; subst hy; exact fun e => hn (e ▸ hx)⟩
    · rcases List.mem_append.1 hm with hm | hm
      · exact h.2 m hm
      · simp only [List.mem_singleton] at hm; subst hm
        exact ⟨ha _ (occ_var hc'.1), hb _ (occ_var hc'.2)⟩
  · exact h

theorem refU_good {S : List Int} {N : Nat} : ∀ (f : Nat) (l : Binds) (a b : Tm) (met : Met) (l' : Binds) (met' : Met), refU f l a b met = some (l', met', true) → ∀ R, UG S N ((a, b) :: R) l → MetS S met → UG S N R l' ∧ MetS S met'
  | 0, _, _, _, _, _, _, h => by cases h
  | f + 1, l, a, b, met, l', met', h => by
    intro R hU hM
    unfold refU at h
    split at h
    · cases h; exact ⟨hU.tail, hM⟩
    rename_i hs
    have hs' : skipU a b met = false := by simpa using hs
    have hM' := hM.more hs' (hU.vt (a, b) (by simp)).1 (hU.vt (a, b) (by simp)).2
    split at h
    · cases h; exact ⟨hU.tail, hM'⟩
    rename_i hv
    split at h
    · rename_i hb
      simp only [Option.some.injEq, Prod.mk.injEq, Bool.not_eq_true'] at h
      obtain ⟨rfl, rfl, hw⟩ := h
      exact ⟨hU.bind (sw := true) hv (by unfold pickU; rw [if_pos (by simp [hb])]) hb hw, hM'⟩
    rename_i hb
    split at h
    · rename_i ha
      simp only [Option.some.injEq, Prod.mk.injEq, Bool.not_eq_true'] at h
      obtain ⟨rfl, rfl, hw⟩ := h
      exact ⟨hU.bind (sw := true) hv (by unfold pickU; rw [if_neg (by simp [hb])]) ha hw, hM'⟩
    rename_i ha
    split at h
    · cases h
    have key : ∀ (T : List (Tm × Tm)) (l2 : Binds) (met2 : Met), refUL (refU f) l2 T met2 = some (l', met', true) → UG S N (T ++ R) l2 → MetS S met2 → UG S N R l' ∧ MetS S met' := by
      intro T
      induction T with
      | nil => intro l2 met2 h hU hM; cases h; exact ⟨hU, hM⟩
      | cons p T ih =>
        obtain ⟨x, y⟩ := p
        intro l2 met2 h hU hM
        simp only [refUL] at h
        split at h
        · cases h
        · rename_i l3 met3 hq
          obtain ⟨h1, h2⟩ := refU_good f l2 x y met2 l3 met3 hq (T ++ R) hU hM
          exact ih l3 met3 h h1 h2
        · cases h
    exact key _ l _ h (hU.args (sw := true) ha hb) hM'
end Tm
end PSL

namespace PSL
open Go
namespace Tm

mutual
theorem put_depth {σ : Int → Tm} {D : Nat} : ∀ (t : Tm), (∀ v ∈ occ t, depth (σ v) ≤ D) → depth (putF σ t) ≤ depth t + D
  | mk k s n l, h => by
    simp only [putF]
    by_cases hk : k = 1
    · rw [if_pos hk]
      have := h n (by simp [occ, hk])
      omega
    · rw [if_neg hk]
      have := putL_depth l fun v hv => h v (by simp [occ, hk, hv])
      simp only [depth]
      omega
theorem putL_depth {σ : Int → Tm} {D : Nat} : ∀ (l : List Tm), (∀ v ∈ occL l, depth (σ v) ≤ D) → depthL (putFL σ l) ≤ depthL l + D
  | [], _ => by simp [putFL, depthL]
  | t :: r, h => by
    have h1 := put_depth t fun v hv => h v (by simp [occL, hv])
    have h2 := putL_depth r fun v hv => h v (by simp [occL, hv])
    simp only [putFL, depthL]
    omega
end

theorem full_depth {B : Binds} {N : Nat} (h1 : 1 ≤ N) (h : ∀ b ∈ B, depth b.2 ≤ N) : ∀ (M : Nat) (t : Tm), depth (fullS B M t) ≤ depth t + M * N
  | 0, t => by simp [fullS]
  | M + 1, t => by
    simp only [fullS]
    refine put_depth t fun v _ => ?_
    rw [Nat.succ_mul]
    split
    · rename_i x hx
      have h2 := full_depth h1 h M x
      have h3 := h _ (findB_mem hx)
      simp only at h3
      omega
    · simp only [vT, depth, depthL]; omega

theorem kid_depth {σ : Int → Tm} {t x : Tm} (hk : t.k ≠ 1) (hx : x ∈ t.l) : depth (putF σ x) + 1 ≤ depth (putF σ t) := by
  rw [putF_fun hk, depth]
  have : ∀ l : List Tm, x ∈ l → depth (putF σ x) ≤ depthL (putFL σ l) := fun l => by
    induction l with
    | nil => intro h; cases h
    | cons a l ih =>
      intro h
      simp only [putFL, depthL]
      rcases List.mem_cons.1 h with rfl | h
      · omega
      · have := ih h; omega
  have := this t.l hx
  omega

/-- What stands between one round and the next; the pairs as the slice has them. -/
structure UState (S : List Int) (N : Nat) (a0 : Tm) (n : Nat) (T : List (Tm × Tm)) (B : Binds) (met : Met) (B' : Binds) (ok : Bool) : Prop where
  run : URun false n T.reverse B met B' ok
  ug : UG S N T B
  lev : ∀ (i : Nat) (p : Tm × Tm), T[i]? = some p → ∃ l, i ≤ N * l ∧ ∀ σ, solB σ B → depth (putF σ p.1) + l ≤ depth (putF σ a0)
  fa : a0.fairR = true
  sa : a0.size ≤ N
section
variable {S : List Int} {N : Nat} {a0 : Tm} {n : Nat} {R T : List (Tm × Tm)} {x y : Tm} {B B' : Binds} {met : Met} {ok : Bool}

theorem UG.blen (h : UG S N T B) : B.length ≤ S.length := by
  have := nodup_le (B.map (·.1)) S h.chain.nodup (fun v hv => by
    obtain ⟨c, hc, rfl⟩ := List.mem_map.1 hv
    exact (h.vb c hc).1)
  simpa using this
theorem UG.perm (h : UG S N T B) {T' : List (Tm × Tm)} (hs : ∀ p, p ∈ T' → p ∈ T) : UG S N T' B := h.sub hs

theorem UState.len (h : UState S N a0 n T B met B' ok) : T.length ≤ N * (N + S.length * N) + 1 := by
  obtain ⟨σ, hs⟩ := h.ug.sol
  have hS := sub_sol hs h.ug.chain h.ug.fairb
  have hv := sub_solV hS h.ug.chain
  have h1 : 1 ≤ N := by have := size_pos a0; have := h.sa; omega
  rcases List.eq_nil_or_concat T with rfl | ⟨R, p, rfl⟩
  · simp
  obtain ⟨l, g1, g2⟩ := h.lev R.length p (by simp)
  have g3 := g2 _ hv
  rw [sub_putV hS h.fa] at g3
  have g4 := full_depth h1 (B := B) (fun b hb => Nat.le_trans (depth_le_size _) (h.ug.sb b hb)) B.length a0
  have g5 := depth_le_size a0
  have g6 := h.sa
  have g7 : B.length * N ≤ S.length * N := Nat.mul_le_mul_right _ h.ug.blen
  have g8 : N * l ≤ N * (N + S.length * N) := Nat.mul_le_mul_left _ (by omega)
  simp only [List.concat_eq_append, List.length_append, List.length_singleton]
  omega

theorem UState.nil (h : UState S N a0 n [] B met B' ok) : B' = B ∧ ok = true := by
  have := h.run
  simp only [List.reverse_nil] at this
  cases this
  exact ⟨rfl, rfl⟩

theorem UState.pos (h : UState S N a0 n (R ++ [(x, y)]) B met B' ok) : ∃ m, n = m + 1 := by
  have := h.run
  rw [List.reverse_append] at this
  cases this <;> exact ⟨_, rfl⟩

theorem UState.first (ha : a0.fairR = true) (hs : a0.size ≤ N) {b0 : Tm} (h : URun false n [(a0, b0)] B [] B' ok) (hU : UG S N [(a0, b0)] B) : UState S N a0 n [(a0, b0)] B [] B' ok :=
  ⟨h, hU, fun i p hp => by
    cases i with
    | zero => simp at hp; subst hp; exact ⟨0, Nat.zero_le _, fun σ _ => Nat.le_refl _⟩
    | succ i => simp at hp, ha, hs⟩

theorem lev_tail (h : UState S N a0 n (R ++ [(x, y)]) B met B' ok) : ∀ (i : Nat) (p : Tm × Tm), R[i]? = some p → ∃ l, i ≤ N * l ∧ ∀ σ, solB σ B → depth (putF σ p.1) + l ≤ depth (putF σ a0) := fun i p hp =>
  h.lev i p (by rw [List.getElem?_append_left (List.getElem?_eq_some_iff.1 hp).1]; exact hp)

theorem UState.skip (h : UState S N a0 (n + 1) (R ++ [(x, y)]) B met B' ok) (hs : skipU x y met = true) : UState S N a0 n R B met B' ok := by
  have hr := h.run
  rw [List.reverse_append] at hr
  have ht := lev_tail h
  have hg := h.ug.perm (T' := R) (by simp +contextual)
  cases hr with
  | skip _ h1 => exact ⟨h1, hg, ht, h.fa, h.sa⟩
  | same h1 => rw [hs] at h1; cases h1
  | occ h1 => rw [hs] at h1; cases h1
  | bind h1 => rw [hs] at h1; cases h1
  | clash h1 => rw [hs] at h1; cases h1
  | args h1 => rw [hs] at h1; cases h1

theorem UState.step (h : UState S N a0 (n + 1) (R ++ [(x, y)]) B met B' ok) (hs : skipU x y met = false) :
    ((walkB B x).k = 1 → findB B (walkB B x).n = none) ∧ ((walkB B y).k = 1 → findB B (walkB B y).n = none) ∧ (walkB B x).size ≤ N ∧ (walkB B y).size ≤ N ∧
    ((walkB B x).k = 1 ∧ (walkB B y).k = 1 ∧ (walkB B x).n = (walkB B y).n → UState S N a0 n R B (metU x y met) B' ok) ∧
    (¬ ((walkB B x).k = 1 ∧ (walkB B y).k = 1 ∧ (walkB B x).n = (walkB B y).n) →
      ((walkB B x).k = 1 → (withB B (walkB B x).n (walkB B y) = true → B' = B ∧ ok = false) ∧ (withB B (walkB B x).n (walkB B y) = false → UState S N a0 n R (B ++ [((walkB B x).n, walkB B y)]) (metU x y met) B' ok)) ∧
      (¬ (walkB B x).k = 1 → ((walkB B y).k = 1 → (withB B (walkB B y).n (walkB B x) = true → B' = B ∧ ok = false) ∧ (withB B (walkB B y).n (walkB B x) = false → UState S N a0 n R (B ++ [((walkB B y).n, walkB B x)]) (metU x y met) B' ok)) ∧
        (¬ (walkB B y).k = 1 → (clashB (walkB B x) (walkB B y) = true → B' = B ∧ ok = false) ∧ (clashB (walkB B x) (walkB B y) = false → UState S N a0 n (R ++ (walkB B x).l.zip (walkB B y).l) B (metU x y met) B' ok)))) := by
  have hr := h.run
  rw [List.reverse_append] at hr
  have ht := lev_tail h
  have hU : UG S N ((x, y) :: R) B := h.ug.perm (by simp +contextual [or_comm])
  have hlast := h.lev R.length (x, y) (by simp)
  have h1 := hU.walk1
  have h2 := hU.walk2
  have wx : ∀ σ, solB σ B → putF σ (walkB B x) = putF σ x := fun σ hσ => walk_sol hσ _ x
  have hargs := fun hx hy => hU.args (sw := true) hx hy
  have hbind := fun (u w : Tm) hv hp hk hw => hU.bind (sw := false) (u := u) (w := w) hv hp hk hw
  have tmono : ∀ B1 : Binds, (∃ X, B1 = B ++ X) → ∀ (i : Nat) (p : Tm × Tm), R[i]? = some p → ∃ l, i ≤ N * l ∧ ∀ σ, solB σ B1 → depth (putF σ p.1) + l ≤ depth (putF σ a0) := fun B1 ⟨X, hX⟩ i p hp => by
    obtain ⟨l, g1, g2⟩ := ht i p hp
    exact ⟨l, g1, fun σ hσ => g2 σ fun b hb => hσ b (by rw [hX]; simp [hb])⟩
  have targs : (walkB B x).k ≠ 1 → ∀ (i : Nat) (p : Tm × Tm), (R ++ (walkB B x).l.zip (walkB B y).l)[i]? = some p → ∃ l, i ≤ N * l ∧ ∀ σ, solB σ B → depth (putF σ p.1) + l ≤ depth (putF σ a0) := fun hx i p hp => by
    by_cases hi : i < R.length
    · rw [List.getElem?_append_left hi] at hp; exact ht i p hp
    · rw [List.getElem?_append_right (by omega)] at hp
      obtain ⟨l, g1, g2⟩ := hlast
      have hil := (List.getElem?_eq_some_iff.1 hp).1
      rw [List.length_zip] at hil
      have hll := length_le_sizeL (walkB B x).l
      have hsz := size_eq (walkB B x)
      have hz := h1.size
      refine ⟨l + 1, by rw [Nat.mul_succ]; omega, fun σ hσ => ?_⟩
      have g3 := g2 σ hσ
      simp only at g3
      rw [← wx σ hσ] at g3
      have g4 := kid_depth (σ := σ) hx (List.of_mem_zip (List.mem_of_getElem? hp)).1
      omega
  clear wx
  generalize hwx : walkB B x = x' at *
  generalize hwy : walkB B y = y' at *
  have hR0 : UG S N R B := hU.tail
  refine ⟨h1.nd, h2.nd, h1.size, h2.size, fun hv => ?_, fun hv => ⟨fun hk => ?_, fun hkx => ⟨fun hk => ?_, fun hky => ?_⟩⟩⟩
  · cases hr with
    | skip g => rw [hs] at g; cases g
    | same _ _ g => exact ⟨g, hR0, ht, h.fa, h.sa⟩
    | occ _ g => rw [hwx, hwy] at g; exact absurd hv g
    | bind _ g => rw [hwx, hwy] at g; exact absurd hv g
    | clash _ g => rw [hwx] at g; exact absurd hv.1 g
    | args _ g => rw [hwx] at g; exact absurd hv.1 g
  · have hp : pickU false x' y' = (x', y') := by unfold pickU; rw [if_neg (by simp [hk])]
    cases hr with
    | skip g => rw [hs] at g; cases g
    | same _ g => rw [hwx, hwy] at g; exact absurd g hv
    | occ _ _ g _ gw =>
      rw [hwx, hwy, hp] at g; cases g
      exact ⟨fun _ => ⟨rfl, rfl⟩, fun e => by rw [gw] at e; cases e⟩
    | bind _ _ g _ gw gr =>
      rw [hwx, hwy, hp] at g; cases g
      exact ⟨fun e => (by rw [gw] at e; cases e), fun e => ⟨gr, hbind _ _ hv hp hk gw, tmono _ ⟨_, rfl⟩, h.fa, h.sa⟩⟩
    | clash _ g => rw [hwx] at g; exact absurd hk g
    | args _ g => rw [hwx] at g; exact absurd hk g
  · have hp : pickU false x' y' = (y', x') := by unfold pickU; rw [if_pos (by simp [hk, hkx])]
    cases hr with
    | skip g => rw [hs] at g; cases g
    | same _ g => rw [hwx, hwy] at g; exact absurd g hv
    | occ _ _ g _ gw =>
      rw [hwx, hwy, hp] at g; cases g
      exact ⟨fun _ => ⟨rfl, rfl⟩, fun e => by rw [gw] at e; cases e⟩
    | bind _ _ g _ gw gr =>
      rw [hwx, hwy, hp] at g; cases g
      exact ⟨fun e => (by rw [gw] at e; cases e), fun e => ⟨gr, hbind _ _ hv hp hk gw, tmono _ ⟨_, rfl⟩, h.fa, h.sa⟩⟩
    | clash _ _ g => rw [hwy] at g; exact absurd hk g
    | args _ _ g => rw [hwy] at g; exact absurd hk g
  · have hp : pickU false x' y' = (x', y') := by unfold pickU; rw [if_neg (by simp [hky])]
    cases hr with
    | skip g => rw [hs] at g; cases g
    | same _ g => rw [hwx, hwy] at g; exact absurd g hv
    | occ _ _ g gk => rw [hwx, hwy, hp] at g; cases g; exact absurd gk hkx
    | bind _ _ g gk => rw [hwx, hwy, hp] at g; cases g; exact absurd gk hkx
    | clash _ _ _ g =>
      rw [hwx, hwy] at g
      exact ⟨fun _ => ⟨rfl, rfl⟩, fun e => by rw [g] at e; cases e⟩
    | args _ _ _ g gr =>
      rw [hwx, hwy] at g gr
      refine ⟨fun e => (by rw [g] at e; cases e), fun _ => ⟨?_, (hargs hkx hky).perm fun p hp => ?_, targs hkx, h.fa, h.sa⟩⟩
      · rw [List.reverse_append]; exact gr
      · rcases List.mem_append.1 hp with hp | hp
        · exact List.mem_append.2 (.inr hp)
        · exact List.mem_append.2 (.inl (ordU_mem.2 hp))
end

/-- The program's order, to be run. -/
def ugF : Nat → List (Tm × Tm) → Binds → Met → Option (Binds × Bool)
  | 0, _, _, _ => none
  | _ + 1, [], B, _ => some (B, true)
  | f + 1, (x, y) :: R, B, met =>
    if skipU x y met then ugF f R B met
    else if (walkB B x).k = 1 ∧ (walkB B y).k = 1 ∧ (walkB B x).n = (walkB B y).n then ugF f R B (metU x y met)
    else if (pickU false (walkB B x) (walkB B y)).1.k = 1 then (if withB B (pickU false (walkB B x) (walkB B y)).1.n (pickU false (walkB B x) (walkB B y)).2 then some (B, false) else ugF f R (B ++ [((pickU false (walkB B x) (walkB B y)).1.n, (pickU false (walkB B x) (walkB B y)).2)]) (metU x y met))
    else if clashB (walkB B x) (walkB B y) then some (B, false)
    else ugF f (ordU false (walkB B x).l (walkB B y).l ++ R) B (metU x y met)

theorem ugF_run : ∀ (n : Nat) (T : List (Tm × Tm)) (B : Binds) (met : Met) (B' : Binds) (ok : Bool), ugF n T B met = some (B', ok) → URun false n T B met B' ok
  | 0, _, _, _, _, _, h => by cases h
  | f + 1, [], B, met, B', ok, h => by simp only [ugF] at h; cases h; exact .done
  | f + 1, (x, y) :: R, B, met, B', ok, h => by
    simp only [ugF] at h
    split at h
    · rename_i hs; exact .skip hs (ugF_run f _ _ _ _ _ h)
    rename_i hs
    have hs' : skipU x y met = false := by simpa using hs
    split at h
    · rename_i hv; exact .same hs' hv (ugF_run f _ _ _ _ _ h)
    rename_i hv
    split at h
    · rename_i hk
      split at h
      · rename_i hw; cases h; exact .occ hs' hv rfl hk hw
      · rename_i hw; exact .bind hs' hv (u := (pickU false (walkB B x) (walkB B y)).1) (w := (pickU false (walkB B x) (walkB B y)).2) rfl hk (by simpa using hw) (ugF_run f _ _ _ _ _ h)
    rename_i hk
    obtain ⟨hx, hy⟩ := pickU_fun (u := (pickU false (walkB B x) (walkB B y)).1) (w := (pickU false (walkB B x) (walkB B y)).2) rfl hk
    split at h
    · rename_i hc; cases h; exact .clash hs' hx hy hc
    · rename_i hc; exact .args hs' hx hy (by simpa using hc) (ugF_run f _ _ _ _ _ h)
end Tm
end PSL

namespace PSL
open Go Go.RowKit
section
variable {g : G} {pf : Nat → Cls} {ops : Array Oper} {Fin : Exit → Act → World → Prop}

/-- An object of one's own is not nil. -/
theorem R_eqNil (hg : GOk g) {dst : Option Nat} {T T' : Nat} {x : Operand} {ty : Nat} {pos : String} {after : Array Edge} {gd : Option (Nat × Bool)} {rest : List Oper} {k : List It} {E : Env} {objs : List Ob} {i off : Nat} {e : TypeId}
    (hu : g.P.underlying T = some (.pointer e)) (hgd : guardA ops.toList E gd = some true) (hd : dstOk ⟨g.ty, g.N⟩ dst = true) (hx : ev E x = .lo i off)
    (hr : R g pf Fin (.dr ops rest :: k) (putO E dst (.d (.v (.bool false)))) objs) : R g pf Fin (.dr ops (⟨dst, .binOp .eql T x (.const (.pointer none)) T', ty, pos, after, gd⟩ :: rest) :: k) E objs := by
  refine R_op (LocOp.up (LocOp.quiet hg hgd hd (by simp) fun φ objs w' w hρ hs' => ?_)) hr
  simp only [Op.operands] at hρ
  have hxv := hρ x (by simp)
  rw [hx] at hxv
  simp only [RV] at hxv
  obtain ⟨b, _, hvx⟩ := hxv
  refine out_val hs' (vv := .bool false) ?_ (by simp only [RV]; exact .v _)
  have h1 : ∀ d, (Op.equalIn (d + 1) T (.pointer (some ⟨b, off, none⟩)) (.pointer none)).run g.P w = .ok false w := fun d => by
    simp [Op.equalIn, run_underlying hu]
  have h2 : (Op.equal T (.pointer (some ⟨b, off, none⟩)) (.pointer none)).run g.P w = .ok false w := h1 9999
  have h3 : (eqGuard .eql T x (.const (.pointer none)) (.pointer (some ⟨b, off, none⟩)) (.pointer none)).run g.P w = .ok () w := by simp [eqGuard]
  have h4 : w'.eval (.const (.pointer none)) = .pointer none := rfl
  simp only [execOp, Sem.run_bind, hvx, h4, h3, Result.andThen_ok, binOp, h2, Sem.run_pure]
end
end PSL

namespace PSL
open Go Go.RowKit Go.MapKept

theorem erase_map {α β : Type} (f : α → β) : ∀ (l : List α) (i : Nat), (l.eraseIdx i).map f = (l.map f).eraseIdx i
  | [], _ => rfl
  | _ :: _, 0 => rfl
  | a :: l, i + 1 => by simp only [List.eraseIdx_cons_succ, List.map_cons, erase_map f l i]

theorem findI_at {k' : IntKind} {n : Int} {v : AV} {l2 : List (Int × AV)} : ∀ {l1 : List (Int × AV)} {i : Nat}, (∀ p ∈ l1, p.1 ≠ n) → findA (.int k') (.int .i64 n) (imap (l1 ++ (n, v) :: l2)) i = some (some (i + l1.length, v))
  | [], i, _ => by simp [imap, findA, Instr.sameNow]
  | p :: l1, i, h => by
    have h1 : (n == p.1) = false := by have := h p (by simp); simp; exact fun e => this e.symm
    have := findI_at (k' := k') (n := n) (v := v) (l2 := l2) (l1 := l1) (i := i + 1) fun q hq => h q (by simp [hq])
    simp only [List.cons_append, imap, List.map_cons, findA, Instr.sameNow, if_true, h1] at this ⊢
    rw [this]
    simp only [List.length_cons, Option.some.injEq, Prod.mk.injEq, and_true]
    omega

theorem RVs_cut {S : Nat → Prop} {w : World} {φ : List Phy} {x : AV} {l2 : List AV} : ∀ {l1 : List AV} {vs : List Value}, RVs S w φ (l1 ++ x :: l2) vs → RVs S w φ (l1 ++ l2) (vs.eraseIdx l1.length)
  | [], [], h => by simp [RVs] at h
  | [], v :: vs, h => by simp only [List.nil_append, RVs] at h; simpa using h.2
  | a :: l1, [], h => by simp [RVs] at h
  | a :: l1, v :: vs, h => by
    simp only [List.cons_append, RVs, List.length_cons, List.eraseIdx_cons_succ] at h ⊢
    exact ⟨h.1, RVs_cut h.2⟩
section
variable {g : G} {pf : Nat → Cls} {ops : Array Oper} {Fin : Exit → Act → World → Prop}

/-- An entry is struck out. -/
theorem R_deleteI (hg : GOk g) {dst : Option Nat} {T T' : Nat} {x y : Operand} {ty : Nat} {pos : String} {after : Array Edge} {gd : Option (Nat × Bool)} {rest : List Oper} {k : List It} {E : Env} {objs : List Ob}
    {i q by_ q' by' kt et : Nat} {z z' : List Value} {n : Int} {v : AV} {l : List (Int × AV)} (l1 l2 l' : List (Int × AV))
    (hgd : guardA ops.toList E gd = some true) (hd : dstOk ⟨g.ty, g.N⟩ dst = true) (hx : ev E x = .mp i) (ho : nth objs i = some (.map (imap l))) (hy : ev E y = .d (.v (.int .i64 n))) (hT : g.ty T = some ⟨q, by_, z, .map kt et⟩)
    (hkt : g.ty kt = some ⟨q', by', z', .int .i64⟩) (hl : l = l1 ++ (n, v) :: l2) (hn : ∀ p ∈ l1, p.1 ≠ n) (hl' : l1 ++ l2 = l')
    (hr : R g pf Fin (.dr ops rest :: k) (putO E dst .any) (setN objs i (.map (imap l')))) : R g pf Fin (.dr ops (⟨dst, .call { callee := .builtin .delete, args := #[x, y], argTypes := #[T, T'] }, ty, pos, after, gd⟩ :: rest) :: k) E objs := by
  subst hl'
  subst hl
  have hu := (hg.ty _ _ hkt).sh
  simp only [ShFact] at hu
  refine R_op (LocOp.effect hg hgd hd (by simp) fun φ a w hρ hs => ?_) hr
  simp only [Op.operands, Call.operands] at hρ
  have hxv := hρ x (by simp)
  rw [hx] at hxv
  have hyv := hρ y (by simp)
  rw [hy] at hyv
  simp only [RV] at hxv hyv
  obtain ⟨b, hb, hxv⟩ := hxv
  generalize hvy : a.eval y = vy at hyv
  cases hyv
  have hk := obj_at hs hb ho
  simp only [ObOk] at hk
  obtain ⟨ents, clk, hheap, hents⟩ := hk
  have hT' : g.P.underlying T = some (.map kt et) := by have := (hg.ty _ _ hT).sh; simpa only [ShFact] using this
  obtain ⟨v0, hfind, _, _, _, _⟩ := findA_ok hents (findI_at (k' := .i64) (n := n) (v := v) (l2 := l2) (i := 0) hn)
  rw [Nat.zero_add] at hfind
  have hlen : ents.toList.length = l1.length + (l2.length + 1) := by
    have := congrArg List.length hents.1
    simpa [imap] using this.symm
  have hsub : (ents.eraseIdxIfInBounds l1.length).toList = ents.toList.eraseIdx l1.length := by
    unfold Array.eraseIdxIfInBounds
    rw [dif_pos (by simp at hlen; omega)]
    simp
  have hset := heap_set (o' := .map (ents.eraseIdxIfInBounds l1.length) clk) hheap
  have he : ents.isEmpty = false := by
    cases hc : ents.isEmpty with
    | false => rfl
    | true =>
      have : ents.toList.length = 0 := by simpa using Array.isEmpty_iff.1 hc
      omega
  have hrun : (Builtin.delete_ #[T, T'] ty #[.map (some b), .int .i64 n]).run g.P w = .ok (.tuple #[]) { w with heap := w.heap.setIfInBounds b (.map (ents.eraseIdxIfInBounds l1.length) clk) } := by
    simp [Builtin.delete_, run_underlying hT', run_getObj_map hheap, run_checkKey hu (show IsKey (.int .i64) (.int .i64 n) by simp [IsKey]), run_findKey hu hfind, run_setObj_map _ hheap]
  rw [setN_eq]
  refine ⟨.value (.tuple #[]), .tuple #[], { w with heap := w.heap.setIfInBounds b (.map (ents.eraseIdxIfInBounds l1.length) clk) }, φ.set i (.blk b), ?_, .inl rfl, by simp [RV], ?_⟩
  · simp only [execOp, resolve, invoke, builtin, Sem.run_bind, Sem.run_pure, Result.andThen_ok, List.map_toArray, List.map_cons, List.map_nil, hxv, hvy, hrun]
  · refine Stp.swap hs hb (.inl rfl) (by simp) (fun c _ hc => hset.2 c fun e => hc (by rw [e]; rfl)) (fun b' hb => .inl hb) rfl rfl rfl fun hkeep hle => ?_
    simp only [ObOk]
    refine ⟨_, _, hset.1, ?_, ?_⟩
    · have h1 := hents.1
      rw [hsub, erase_map, ← h1]
      simp [imap, List.eraseIdx_append_of_length_le]
    · have h2 := (hents.2.mono hkeep hle)
      rw [hsub, erase_map]
      have h3 : (imap (l1 ++ (n, v) :: l2)).map (·.2) = (imap l1).map (·.2) ++ v :: (imap l2).map (·.2) := by simp [imap]
      rw [h3] at h2
      have h4 := RVs_cut h2
      have h5 : ((imap l1).map (·.2)).length = l1.length := by simp [imap]
      rw [h5] at h4
      simpa [imap] using h4
end

theorem RVs_nilE {S S' : Nat → Prop} {w : World} {φ : List Phy} {sz : Nat} (hk : Keep S w S' w) (hφ : φ = [Phy.sli sz 0 (.slice none 0 0) none]) : ∀ {axs : List AV} {vs : List Value}, pureL axs = true → RVs S w [] (axs ++ [.d (.v (.slice none 0 0))]) vs → RVs S' w φ (axs ++ [.ow 0 0]) vs
  | [], [], _, h => by simp [RVs] at h
  | [], v :: vs, _, h => by
    simp only [List.nil_append, RVs, RV] at h ⊢
    obtain ⟨h1, h2⟩ := h
    cases h1
    refine ⟨⟨⟨none, 0, 0, rfl⟩, _, by rw [hφ]; rfl, fun sz' s' x' ob' he => ?_⟩, ?_⟩
    · cases he; exact ⟨Nat.le_refl _, fun _ => rfl⟩
    · cases vs with
      | nil => simp [RVs]
      | cons v vs => simp [RVs] at h2
  | a :: axs, [], _, h => by simp [RVs] at h
  | a :: axs, v :: vs, hp, h => by
    simp only [pureL, Bool.and_eq_true] at hp
    simp only [List.cons_append, RVs] at h ⊢
    exact ⟨RV.pure hk hp.1 h.1, RVs_nilE hk hφ hp.2 h.2⟩

/-- A handed slice, the last argument, that is nil. -/
theorem SCtr.nilE {P : Program} {Y : YP} {f sz : Nat} {axs : List AV} {r y : AV} {objs1 : List Ob} (h : SCtr P Y f (axs ++ [.ow 0 0]) [.arr sz 0 []] r objs1) (hp : pureL axs = true) (hy : sealA objs1 5 r = some y) : PCtr P f (axs ++ [.d (.v (.slice none 0 0))]) y := by
  refine ⟨h.call, fun S w vals hS hv => ?_⟩
  have hnb : ∀ b, ¬ bls [Phy.sli sz 0 (.slice none 0 0) none] b := by
    rintro b ⟨i, p, h1, h2⟩
    cases i with
    | zero => simp at h1; subst h1; simp [Phy.bl] at h2
    | succ i => simp at h1
  have hHS : HS S [Phy.sli sz 0 (.slice none 0 0) none] [.arr sz 0 []] w := by
    refine ⟨rfl, fun i ph ob h1 h2 => ?_, fun i j p q b h1 h2 h3 h4 => absurd ⟨i, p, h1, h3⟩ (hnb b), fun b hb => absurd hb (hnb b), hS⟩
    cases i with
    | zero => simp at h1 h2; subst h1; subst h2; simp only [ObOk]; exact ⟨trivial, trivial, by simp, .inl ⟨none, rfl, trivial, trivial⟩⟩
    | succ i => simp at h1
  have hk : Keep S w (SS S [Phy.sli sz 0 (.slice none 0 0) none]) w := fun b hb _ => ⟨⟨hb, hnb b⟩, rfl⟩
  have hcall := h.run S _ w vals hHS (fun b hb => absurd hb (hnb b)) (fun i l I B hi => by
    cases i with
    | zero => simp at hi
    | succ i => simp at hi) (RVs_nilE hk rfl hp hv)
  refine hcall.mono ?_
  rintro e w' ⟨v, φ', rfl, hr, hst⟩
  have hbl : ∀ b, bls φ' b → S b := fun b hb => (hst.own b hb).elim (fun h => absurd h (hnb b)) (hS b)
  refine ⟨v, rfl, ?_, ⟨hst.os, hst.tape, hst.out, hst.size, fun b hb => hst.fr b hb (hnb b)⟩⟩
  exact sealA_ok hbl hst.hs 5 hr hy
end PSL

namespace Go.Proofs.Ytppghekipbnjhaa
open Go PSL Go.Proofs

/-- A store whose trail was cut some times. -/
def uobd (d : Nat) (B : Binds) : List Ob := [.box [.mp 1, .ow 2 (B.length + d)], .map (imap (tmM B)), .arr 1 (B.length + d) (irows (B.map (·.1)))]

set_option maxRecDepth 100000 in
theorem unjWalk_ok (Y : YP) (d : Nat) (B : Binds) (hc : Tm.chainB B) (t : Tm) : SCtr Try.prog Y 97 [.lo 0 0, t.av] (uobd d B) (Tm.walkB B t).av (uobd d B) := by
  refine SCtr.of_R (pf := fun _ => .eff) tyOk mixed Try.func97 rfl (by kernel_rfl) (by kernel_rfl) (by simp [Try.ntmps97]) (by simp [uobd]) fun w S φ hg => ?_
  have hφ : φ.length = 3 := hg.hs0.len
  have fuel0 : ∀ (j : Nat) (c : Int × Tm), B[j]? = some c → t.k = 1 → c.1 = t.n → B.length - j ≤ B.length + 1 := fun j c _ _ _ => by omega
  have keep : ∀ (o : List Ob), (uobd d B).map (mapOb (sealT false 3 o 5)) = uobd d B := fun o => by
    simp only [uobd, List.map_cons, List.map_nil]
    rw [tmM_mapOb (fun t => rfl)]; rfl
  refine R_run hg.ok 1000 rfl rfl ?_
  refine R_loop (fun x : Nat × Tm => ([(0, .lo 0 0), (3, .lo 3 0), (4, .lo 4 0)], uobd d B ++ [boxR x.2, .box [.d (.v (.int .i64 0)), .d (.v (.string ByteArray.empty)), .d (.v (.int .i64 0)), .d (.v (.slice none 0 0))]])) (fun x => Tm.walkB B t = Tm.walkT B x.1 x.2 ∧ ∀ (j : Nat) (c : Int × Tm), B[j]? = some c → x.2.k = 1 → c.1 = x.2.n → B.length - j ≤ x.1) (fun x => x.1) (B.length + 1, t) ⟨rfl, fuel0⟩ ⟨.refl _, .refl _, .refl _, trivial⟩ rfl ?_
  rintro ⟨f, u⟩ ⟨hm, hf⟩
  simp only at hm hf
  refine R_run hg.ok 1000 rfl rfl ?_
  refine R_if rfl rfl (fun h1 => ?_) (fun h1 => ?_) <;> refine R_run hg.ok 1000 rfl rfl ?_
  · have hk1 : u.k = 1 := by simpa using h1
    cases hb : findB B u.n with
    | none =>
      refine R_lookupI hg.ok (tmM B) rfl rfl rfl rfl rfl rfl rfl (zv := zTmV) (by kernel_rfl) (v := .tup [zTmA, bV false]) (by rw [getI_tm, hb]; rfl) ?_
      refine R_run hg.ok 1000 rfl rfl ?_
      refine R_if rfl rfl (fun _ => ?_) (fun h => absurd h (by simp)) <;> refine R_run hg.ok 1000 rfl rfl ?_
      have e : Tm.walkB B t = u := by
        rw [hm]
        cases f with
        | zero => rfl
        | succ f => simp only [Tm.walkT]; rw [if_pos hk1, hb]
      rw [e]
      exact R_retS hg 3 5 (Nat.le_refl _) rfl rfl (keep _)
    | some x =>
      obtain ⟨j, hj⟩ := Tm.findB_at hb
      have hjl := (List.getElem?_eq_some_iff.1 hj).1
      have h2 := hf j _ hj hk1 rfl
      obtain ⟨f, rfl⟩ : ∃ g, f = g + 1 := ⟨f - 1, by omega⟩
      refine R_lookupI hg.ok (tmM B) rfl rfl rfl rfl rfl rfl rfl (zv := zTmV) (by kernel_rfl) (v := .tup [x.av, bV true]) (by rw [getI_tm, hb]; rfl) ?_
      refine R_run hg.ok 1000 rfl rfl ?_
      refine R_if rfl rfl (fun h => absurd h (by simp)) (fun _ => ?_) <;> refine R_run hg.ok 1000 rfl rfl ?_
      refine R_dropO 5 (uobd d B ++ [boxR x, .box [.d (.v (.int .i64 0)), .d (.v (.string ByteArray.empty)), .d (.v (.int .i64 0)), .d (.v (.slice none 0 0))]]) (by show φ.length ≤ _; omega) rfl ?_ ?_
      · simp only [uobd, List.cons_append, List.nil_append]
        show _ :: mapOb _ (.map (imap (tmM B))) :: _ = _
        rw [tmM_mapOb (fun t => rfl)]; rfl
      refine R_next (f, x) ⟨?_, fun j' c hc' hk hn => ?_⟩ (by simp only; omega) ⟨.refl _, .refl _, .refl _, trivial⟩ rfl
      · rw [hm]; simp only [Tm.walkT]; rw [if_pos hk1, hb]
      · have := hc.chain j _ hj hk j' c hc' hn
        omega
  · have hk1 : ¬ u.k = 1 := by simpa using h1
    have e : Tm.walkB B t = u := by
      rw [hm]
      cases f with
      | zero => rfl
      | succ f => simp only [Tm.walkT]; rw [if_neg hk1]
    rw [e]
    exact R_retS hg 3 5 (Nat.le_refl _) rfl rfl (keep _)

set_option maxRecDepth 100000 in
theorem unjBind_ok (Y : YP) (d : Nat) (B : Binds) (v : Int) (t : Tm) (hv : findB B v = none) (hB : B.length < 1000000) : SCtr Try.prog Y 99 [.lo 0 0, iV v, t.av] (uobd d B) (.tup []) (uobd d (B ++ [(v, t)])) := by
  refine SCtr.of_R (pf := fun _ => .eff) tyOk mixed Try.func99 rfl (by kernel_rfl) (by kernel_rfl) (by simp [Try.ntmps99]) (by simp [uobd]) fun w S φ hg => ?_
  have hφ : φ.length = 3 := hg.hs0.len
  refine R_run hg.ok 1000 rfl rfl ?_
  refine R_mapAddI hg.ok (tmM B) rfl rfl rfl rfl rfl rfl rfl (by rw [getI_tm, hv]; rfl) ?_
  refine R_run hg.ok 1000 rfl rfl ?_
  refine R_appendO hg.ok (irows (B.map (·.1) ++ [v])) rfl rfl rfl rfl rfl rfl rfl rfl rfl (by simp) (by simp [one1]) (irows_snoc1 _ _) (by rw [irows_length]; simp; omega) (by rw [irows_length]; simp; omega) ?_
  refine R_run hg.ok 1000 rfl rfl ?_
  refine R_endS hg 3 5 (Nat.le_refl _) rfl rfl ?_
  have e1 : imap (tmM B ++ [(v, t.av)]) = imap (tmM (B ++ [(v, t)])) := by rw [tmM_snoc]
  have e2 : B.map (·.1) ++ [v] = (B ++ [(v, t)]).map (·.1) := by simp
  have e3 : (B ++ [(v, t)]).length + d = B.length + d + 1 := by simp; omega
  show [_, mapOb _ (.map (imap (tmM B ++ [(v, t.av)]))), _] = _
  rw [e1, tmM_mapOb (fun t => rfl), e2]
  unfold uobd
  rw [e3]; rfl
def lobd (d : Nat) (B : Binds) (v : Int) (M : List Int) : List Ob := uobd d B ++ [.box [iV v], .box [.lo 0 0], .box [.mp 6], .map (imap (M.map fun n => (n, bV true))), .box [.clo 103 [] [.lo 3 0, .lo 4 0, .lo 5 0, .lo 7 0]]]

theorem lobd_map {f : AV → AV} (ht : ∀ t : Tm, f t.av = t.av) (hb : ∀ b, f (bV b) = bV b) (hi : ∀ n, f (iV n) = iV n) (h1 : f (.mp 1) = .mp 1) (h2 : ∀ s, f (.ow 2 s) = .ow 2 s) (h3 : f (.lo 0 0) = .lo 0 0) (h4 : f (.mp 6) = .mp 6) (h5 : f (.clo 103 [] [.lo 3 0, .lo 4 0, .lo 5 0, .lo 7 0]) = .clo 103 [] [.lo 3 0, .lo 4 0, .lo 5 0, .lo 7 0]) (d : Nat) (B : Binds) (v : Int) (M : List Int) : (lobd d B v M).map (mapOb f) = lobd d B v M := by
  simp only [lobd, uobd, List.map_append, List.map_cons, List.map_nil, List.cons_append, List.nil_append, tmM_mapOb ht, setM_mapOb hb]
  simp [mapOb, h1, h2, h3, h4, h5, hi]

set_option maxRecDepth 100000 in
theorem unjLook_ok (Y : YP) (d : Nat) (B : Binds) (hB : ∀ b ∈ B, b.2.size < 400000000) (hBl : B.length < 1000000) (v : Int) : ∀ (u : Nat) (n : Nat) (t : Tm) (M : List Int), t.size ≤ n → t.size < 400000000 → (B.countP fun b => !M.contains b.1) < u → SCtr Try.prog Y 103 [t.av, .lo 3 0, .lo 4 0, .lo 5 0, .lo 7 0] (lobd d B v M) (bV (Tm.lkT (Tm.lkF B v u) t M).1) (lobd d B v (Tm.lkT (Tm.lkF B v u) t M).2) := by
  intro u
  induction u with
  | zero => intro n t M _ _ h; omega
  | succ u ihu =>
  intro n
  induction n with
  | zero => intro t M h _; have := Tm.size_pos t; omega
  | succ n ihn =>
  intro t M hn ht hu
  refine SCtr.of_R (pf := fun _ => .eff) tyOk mixed Try.func103 rfl (by kernel_rfl) (by kernel_rfl) (by simp [Try.ntmps103]) (by simp [lobd, uobd]) fun w S φ hg => ?_
  have hφ : φ.length = 8 := hg.hs0.len
  have keep : ∀ (Q : List Int) (o : List Ob), (lobd d B v Q).map (mapOb (sealT false 8 o 5)) = lobd d B v Q := fun Q o => lobd_map (fun _ => rfl) (fun _ => rfl) (fun _ => rfl) rfl (fun _ => rfl) rfl rfl rfl d B v Q
  have hren : ∀ (n : Nat) (Z : List Int), (lobd d B v Z).map (renOb (rn [0, 1, 2, 3, 4, 5, 6, 7] n)) = lobd d B v Z := fun n Z => by
    have e : (renOb (rn [0, 1, 2, 3, 4, 5, 6, 7] n)) = mapOb (renA (rn [0, 1, 2, 3, 4, 5, 6, 7] n)) := by funext o; cases o <;> simp [renOb, mapOb, renL_map]
    rw [e]; exact lobd_map (fun _ => rfl) (fun _ => rfl) (fun _ => rfl) rfl (fun _ => rfl) rfl rfl rfl d B v Z
  have ret : ∀ {r : Bool} {Q : List Int}, Tm.lkT (Tm.lkF B v (u + 1)) t M = (r, Q) → bV r = bV (Tm.lkT (Tm.lkF B v (u + 1)) t M).1 ∧ lobd d B v Q = lobd d B v (Tm.lkT (Tm.lkF B v (u + 1)) t M).2 := fun e => by rw [e]; exact ⟨rfl, rfl⟩
  refine R_run hg.ok 1000 rfl rfl ?_
  refine R_if rfl rfl (fun h1 => ?_) (fun h1 => ?_) <;> refine R_run hg.ok 1000 rfl rfl ?_
  · have hk1 : t.k = 1 := by simpa using h1
    refine R_if rfl rfl (fun h2 => ?_) (fun h2 => ?_) <;> refine R_run hg.ok 1000 rfl rfl ?_
    · have h2 : t.n = v := by simpa using h2
      have e := ret (r := true) (Q := M) (by rw [Tm.lkT_var hk1]; simp only [Tm.lkF]; rw [if_pos h2])
      rw [← e.1, ← e.2]
      exact R_retS hg 8 5 (Nat.le_refl _) rfl rfl (keep M _)
    have h2 : ¬ t.n = v := by simpa using h2
    cases hb : findB B t.n with
    | none =>
      refine R_lookupI hg.ok (tmM B) rfl rfl rfl rfl rfl rfl rfl (zv := zTmV) (by kernel_rfl) (v := .tup [zTmA, bV false]) (by rw [getI_tm, hb]; rfl) ?_
      refine R_run hg.ok 1000 rfl rfl ?_
      refine R_if rfl rfl (fun _ => ?_) (fun h => absurd h (by simp)) <;> refine R_run hg.ok 1000 rfl rfl ?_
      have e := ret (r := false) (Q := M) (by rw [Tm.lkT_var hk1]; simp only [Tm.lkF]; rw [if_neg h2, hb])
      rw [← e.1, ← e.2]
      exact R_retS hg 8 5 (Nat.le_refl _) rfl rfl (keep M _)
    | some x =>
      refine R_lookupI hg.ok (tmM B) rfl rfl rfl rfl rfl rfl rfl (zv := zTmV) (by kernel_rfl) (v := .tup [x.av, bV true]) (by rw [getI_tm, hb]; rfl) ?_
      refine R_run hg.ok 1000 rfl rfl ?_
      refine R_if rfl rfl (fun h => absurd h (by simp)) (fun _ => ?_) <;> refine R_run hg.ok 1000 rfl rfl ?_
      have hg1 := setM_get M t.n
      cases hc : M.contains t.n with
      | true =>
        rw [hc, if_pos rfl] at hg1
        refine R_lookupI hg.ok (M.map fun n => (n, bV true)) rfl rfl rfl rfl rfl rfl rfl (zv := .bool false) (by kernel_rfl) (v := bV true) (by rw [hg1]; rfl) ?_
        refine R_run hg.ok 1000 rfl rfl ?_
        refine R_if rfl rfl (fun _ => ?_) (fun h => absurd h (by simp)) <;> refine R_run hg.ok 1000 rfl rfl ?_
        have e := ret (r := false) (Q := M) (by rw [Tm.lkT_var hk1]; simp only [Tm.lkF]; rw [if_neg h2, hb]; simp only; rw [hc, if_pos rfl])
        rw [← e.1, ← e.2]
        exact R_retS hg 8 5 (Nat.le_refl _) rfl rfl (keep M _)
      | false =>
        rw [hc, if_neg (by simp)] at hg1
        refine R_lookupI hg.ok (M.map fun n => (n, bV true)) rfl rfl rfl rfl rfl rfl rfl (zv := .bool false) (by kernel_rfl) (v := .ff) (by rw [hg1]; rfl) ?_
        refine R_run hg.ok 1000 rfl rfl ?_
        refine R_mapAddW hg.ok (bV true) (M.map fun n => (n, bV true)) ((M ++ [t.n]).map fun n => (n, bV true)) rfl rfl rfl rfl rfl rfl rfl hg1 .tt (by simp) ?_
        refine R_run hg.ok 1000 rfl rfl ?_
        have hcall := ihu x.size x (M ++ [t.n]) (Nat.le_refl _) (hB _ (Tm.findB_mem hb)) (by have := Tm.count_lt hb hc; omega)
        have hq : Tm.lkT (Tm.lkF B v (u + 1)) t M = Tm.lkT (Tm.lkF B v u) x (M ++ [t.n]) := by
          rw [Tm.lkT_var hk1]; simp only [Tm.lkF]; rw [if_neg h2, hb]; simp only; rw [hc, if_neg (by simp)]
        rw [hq]
        generalize Tm.lkT (Tm.lkF B v u) x (M ++ [t.n]) = rq at hcall
        obtain ⟨r, Q⟩ := rq
        refine R_callSO hg.ok hg.gup hg.wide hg.Y [0, 1, 2, 3, 4, 5, 6, 7] (lobd d B v Q ++ [boxR t, boxR x]) hcall (fun _ => rfl) rfl rfl rfl rfl rfl (by rw [hren]; rfl) rfl (by rw [hren]; rfl) ?_
        refine R_run hg.ok 1000 rfl rfl ?_
        exact R_retS hg 8 5 (Nat.le_refl _) rfl rfl (keep Q _)
  have hk1 : t.k ≠ 1 := by simpa using h1
  have hl0 : Tm.lkT (Tm.lkF B v (u + 1)) t M = Tm.lkTL (Tm.lkF B v (u + 1)) t.l M := Tm.lkT_fun hk1
  have hsz : Tm.sizeL t.l ≤ n := by have := Tm.size_eq t; omega
  have hll := Tm.length_le_sizeL t.l
  have hsz2 := Tm.size_eq t
  refine R_loop (fun x : Nat × List Int => ([(4, .lo 7 0), (43, .d (.sl (Tm.rows t.l))), (44, iV t.l.length), (45, iV x.1)], lobd d B v x.2 ++ [boxR t])) (fun x => x.1 ≤ t.l.length ∧ Tm.lkT (Tm.lkF B v (u + 1)) t M = Tm.lkTL (Tm.lkF B v (u + 1)) (t.l.drop x.1) x.2 ∧ (B.countP fun b => !x.2.contains b.1) < u + 1) (fun x => t.l.length - x.1) (0, M) ⟨Nat.zero_le _, hl0, hu⟩ ⟨.refl _, .refl _, Ent.int (by rw [Tm.rows_length]), .refl _, trivial⟩ rfl ?_
  rintro ⟨k, Q⟩ ⟨hk, hm, hQ⟩
  simp only at hk hm hQ
  refine R_run hg.ok 1000 rfl rfl ?_
  refine R_if rfl rfl (fun h => ?_) (fun h => ?_) <;> refine R_run hg.ok 1000 rfl rfl ?_
  · have hkl : k < t.l.length := lt_dec h rfl
    have e1 : t.l[k]? = some t.l[k] := List.getElem?_eq_getElem hkl
    have hms := Tm.size_mem (List.getElem_mem hkl)
    rw [List.drop_eq_getElem_cons hkl] at hm
    generalize t.l[k] = x at e1 hms hm
    simp only [Tm.lkTL] at hm
    refine R_index hg.ok rfl rfl rfl rfl rfl rfl (Int.natCast_nonneg _) (Tm.rows_get e1) rfl ?_
    refine R_run hg.ok 1000 rfl rfl ?_
    have hcall := ihn x Q (by omega) (by omega) hQ
    obtain ⟨R0, hext⟩ := Tm.lkT_ext (Tm.lkF_ext B v (u + 1)) x Q
    have hcnt := Tm.count_le B Q R0
    rw [← hext] at hcnt
    generalize Tm.lkT (Tm.lkF B v (u + 1)) x Q = rq at hcall hm hcnt
    obtain ⟨r, Q'⟩ := rq
    simp only at hm hcnt
    refine R_callSO hg.ok hg.gup hg.wide hg.Y [0, 1, 2, 3, 4, 5, 6, 7] (lobd d B v Q' ++ [boxR t, boxR x]) hcall (fun _ => rfl) rfl rfl rfl rfl rfl (by rw [hren]; rfl) rfl (by rw [hren]; rfl) ?_
    refine R_run hg.ok 1000 rfl rfl ?_
    refine R_if rfl rfl (fun h2 => ?_) (fun h2 => ?_) <;> refine R_run hg.ok 1000 rfl rfl ?_
    · have h2 : r = true := h2
      subst h2
      have e := ret (r := true) (Q := Q') (by rw [hm, if_pos rfl])
      rw [← e.1, ← e.2]
      exact R_retS hg 8 5 (Nat.le_refl _) rfl rfl (keep Q' _)
    · have h2 : r = false := h2
      subst h2
      refine R_dropO 9 (lobd d B v Q' ++ [boxR t]) (by show φ.length ≤ _; omega) rfl ?_ ?_
      · show (lobd d B v Q').map _ ++ _ = _
        rw [lobd_map (fun _ => rfl) (fun _ => rfl) (fun _ => rfl) rfl (fun _ => rfl) rfl rfl rfl d B v Q']; rfl
      exact R_next (k + 1, Q') ⟨hkl, by rw [hm, if_neg (by simp)], by simp only; omega⟩ (by simp only; omega) ⟨.refl _, .refl _, .refl _, Ent.wrap (by simp only; omega) (by simp only; omega) (by simp only; omega), trivial⟩ rfl
  · have hkl : t.l.length ≤ k := ge_dec h rfl
    rw [List.drop_eq_nil_of_le hkl] at hm
    have e := ret (r := false) (Q := Q) (by rw [hm]; simp [Tm.lkTL])
    rw [← e.1, ← e.2]
    exact R_retS hg 8 5 (Nat.le_refl _) rfl rfl (keep Q _)

set_option maxRecDepth 100000 in
theorem unjWithin_ok (Y : YP) (d : Nat) (B : Binds) (hB : ∀ b ∈ B, b.2.size < 400000000) (hBl : B.length < 1000000) (v : Int) (t : Tm) (ht : t.size < 400000000) : SCtr Try.prog Y 98 [.lo 0 0, iV v, t.av] (uobd d B) (bV (Tm.withB B v t)) (uobd d B) := by
  refine SCtr.of_R (pf := fun _ => .eff) tyOk mixed Try.func98 rfl (by kernel_rfl) (by kernel_rfl) (by simp [Try.ntmps98]) (by simp [uobd]) fun w S φ hg => ?_
  have hφ : φ.length = 3 := hg.hs0.len
  have keep : ∀ (o : List Ob), (uobd d B).map (mapOb (sealT false 3 o 5)) = uobd d B := fun o => by
    simp only [uobd, List.map_cons, List.map_nil]
    rw [tmM_mapOb (fun t => rfl)]; rfl
  have hcall := unjLook_ok Y d B hB hBl v (B.length + 1) t.size t [] (Nat.le_refl _) ht (by have := List.countP_le_length (p := fun b : Int × Tm => !([] : List Int).contains b.1) (l := B); omega)
  have hren : ∀ (n : Nat) (Z : List Int), (lobd d B v Z).map (renOb (rn [0, 1, 2, 4, 3, 7, 6, 8] n)) = uobd d B ++ [.box [iV v], .box [.lo 0 0], .box [.mp 6], .map (imap (Z.map fun n => (n, bV true))), .box [.clo 103 [] [.lo 4 0, .lo 3 0, .lo 7 0, .lo 8 0]]] := fun n Z => by
    have e : (renOb (rn [0, 1, 2, 4, 3, 7, 6, 8] n)) = mapOb (renA (rn [0, 1, 2, 4, 3, 7, 6, 8] n)) := by funext o; cases o <;> simp [renOb, mapOb, renL_map]
    rw [e]
    simp only [lobd, uobd, List.map_append, List.map_cons, List.map_nil, List.cons_append, List.nil_append, tmM_mapOb (f := renA (rn [0, 1, 2, 4, 3, 7, 6, 8] n)) (fun _ => rfl), setM_mapOb (f := renA (rn [0, 1, 2, 4, 3, 7, 6, 8] n)) (fun _ => rfl)]
    rfl
  have hw : Tm.withB B v t = (Tm.lkT (Tm.lkF B v (B.length + 1)) t []).1 := rfl
  rw [hw]
  generalize Tm.lkT (Tm.lkF B v (B.length + 1)) t [] = rq at hcall
  obtain ⟨r, Q⟩ := rq
  refine R_run hg.ok 1000 rfl rfl ?_
  refine R_makeMap hg.ok rfl rfl ?_
  refine R_run hg.ok 1000 rfl rfl ?_
  refine R_callSO hg.ok hg.gup hg.wide hg.Y [0, 1, 2, 4, 3, 7, 6, 8] (uobd d B ++ [.box [.lo 0 0], .box [iV v], boxR t, .map (imap (Q.map fun n => (n, bV true))), .box [.mp 6], .box [.clo 103 [] [.lo 4 0, .lo 3 0, .lo 7 0, .lo 8 0]]]) hcall (fun _ => rfl) rfl rfl rfl rfl rfl (by rw [hren]; rfl) rfl (by rw [hren]; rfl) ?_
  refine R_run hg.ok 1000 rfl rfl ?_
  exact R_retS hg 3 5 (Nat.le_refl _) rfl rfl (keep _)
end Go.Proofs.Ytppghekipbnjhaa
