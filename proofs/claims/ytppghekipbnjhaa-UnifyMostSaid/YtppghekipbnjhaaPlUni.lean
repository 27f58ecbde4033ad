import Derived.Test.YtppghekipbnjhaaPlFlat
namespace PSL
open Go
namespace Tm

/-! ### unification, as the program does it -/
def walkT (B : Binds) : Nat → Tm → Tm
  | 0, t => t
  | f + 1, t => if t.k = 1 then (match findB B t.n with | some x => walkT B f x | none => t) else t
def walkB (B : Binds) (t : Tm) : Tm := walkT B (B.length + 1) t

mutual
def lkT (g : Int → List Int → Bool × List Int) : Tm → List Int → Bool × List Int
  | mk k _ n l, M => if k = 1 then g n M else lkTL g l M
def lkTL (g : Int → List Int → Bool × List Int) : List Tm → List Int → Bool × List Int
  | [], M => (false, M)
  | x :: r, M => if (lkT g x M).1 then (true, (lkT g x M).2) else lkTL g r (lkT g x M).2
end
/-- Is a variable beneath a variable? Each bound one is gone into once. -/
def lkF (B : Binds) (v : Int) : Nat → Int → List Int → Bool × List Int
  | 0, n, M => (decide (n = v), M)
  | u + 1, n, M => if n = v then (true, M) else match findB B n with
    | none => (false, M)
    | some x => if M.contains n then (false, M) else lkT (lkF B v u) x (M ++ [n])
def withB (B : Binds) (v : Int) (t : Tm) : Bool := (lkT (lkF B v (B.length + 1)) t []).1

def clashB (x y : Tm) : Bool := decide (x.k ≠ y.k) || decide (x.n ≠ y.n) || !strEq x.s y.s || decide (x.l.length ≠ y.l.length)

def uniF : Nat → List (Tm × Tm) → Binds → List (Int × Int) → Option (Option Binds)
  | 0, _, _, _ => none
  | f + 1, T, B, met => match T.getLast? with
    | none => some (some B)
    | some (x, y) =>
      if (decide (x.k = 1) && decide (y.k = 1)) && met.contains (x.n, y.n) then uniF f T.dropLast B met else
      let met' := if decide (x.k = 1) && decide (y.k = 1) then met ++ [(x.n, y.n)] else met
      let x' := walkB B x
      let y' := walkB B y
      if x'.k = 1 ∧ y'.k = 1 ∧ x'.n = y'.n then uniF f T.dropLast B met'
      else if x'.k = 1 then (if withB B x'.n y' then some none else uniF f T.dropLast (B ++ [(x'.n, y')]) met')
      else if y'.k = 1 then (if withB B y'.n x' then some none else uniF f T.dropLast (B ++ [(y'.n, x')]) met')
      else if clashB x' y' then some none
      else uniF f (T.dropLast ++ x'.l.zip y'.l) B met'

def solB (σ : Int → Tm) (B : Binds) : Prop := ∀ b ∈ B, σ b.1 = putF σ b.2

theorem putF_var {σ : Int → Tm} {t : Tm} (h : t.k = 1) : putF σ t = σ t.n := by
  cases t; simp only [k, n] at h ⊢; simp only [putF]; rw [if_pos h]
theorem putF_fun {σ : Int → Tm} {t : Tm} (h : t.k ≠ 1) : putF σ t = mk t.k t.s t.n (putFL σ t.l) := by
  cases t; simp only [k, n, s, l] at h ⊢; simp only [putF]; rw [if_neg h]
theorem size_pos (t : Tm) : 1 ≤ size t := by rw [size_eq]; omega

theorem walk_sol {σ : Int → Tm} {B : Binds} (h : solB σ B) : ∀ (f : Nat) (t : Tm), putF σ (walkT B f t) = putF σ t
  | 0, t => rfl
  | f + 1, t => by
    simp only [walkT]
    by_cases hk : t.k = 1
    · rw [if_pos hk]
      cases hf : findB B t.n with
      | none => rfl
      | some x =>
        simp only
        rw [walk_sol h f x, putF_var hk, h _ (findB_mem hf)]
    · rw [if_neg hk]

/-- What was found beneath is no greater. -/
def lkOk (σ : Int → Tm) (v : Int) (g : Int → List Int → Bool × List Int) : Prop := ∀ n M, (g n M).1 = true → size (σ v) ≤ size (σ n)

mutual
theorem lkT_size {σ : Int → Tm} {v : Int} {g : Int → List Int → Bool × List Int} (hg : lkOk σ v g) : ∀ (t : Tm) (M : List Int), (lkT g t M).1 = true → size (σ v) ≤ size (putF σ t) ∧ (t.k ≠ 1 → size (σ v) < size (putF σ t))
  | mk k s n l, M, h => by
    simp only [lkT] at h
    by_cases hk : k = 1
    · rw [if_pos hk] at h
      have := hg n M h
      simp only [putF, if_pos hk, Tm.k]
      exact ⟨this, fun hne => absurd hk hne⟩
    · rw [if_neg hk] at h
      have := lkTL_size hg l M h
      simp only [putF, if_neg hk, size]
      exact ⟨by omega, fun _ => by omega⟩
theorem lkTL_size {σ : Int → Tm} {v : Int} {g : Int → List Int → Bool × List Int} (hg : lkOk σ v g) : ∀ (l : List Tm) (M : List Int), (lkTL g l M).1 = true → size (σ v) ≤ sizeL (putFL σ l)
  | [], M, h => by simp [lkTL] at h
  | x :: r, M, h => by
    simp only [lkTL] at h
    simp only [putFL, sizeL]
    by_cases hx : (lkT g x M).1 = true
    · have := (lkT_size hg x M hx).1; omega
    · rw [if_neg hx] at h
      have := lkTL_size hg r _ h; omega
end
theorem lkF_ok {σ : Int → Tm} {B : Binds} (h : solB σ B) (v : Int) : ∀ u, lkOk σ v (lkF B v u)
  | 0, n, M, hl => by simp only [lkF, decide_eq_true_eq] at hl; rw [hl]; exact Nat.le_refl _
  | u + 1, n, M, hl => by
    simp only [lkF] at hl
    by_cases hn : n = v
    · rw [hn]; exact Nat.le_refl _
    · rw [if_neg hn] at hl
      cases hf : findB B n with
      | none => rw [hf] at hl; cases hl
      | some x =>
        rw [hf] at hl
        simp only at hl
        split at hl
        · cases hl
        · have := (lkT_size (lkF_ok h v u) x _ hl).1
          rw [h _ (findB_mem hf)]; exact this

theorem withB_no {σ : Int → Tm} {B : Binds} (h : solB σ B) {v : Int} {t : Tm} (he : σ v = putF σ t) (hv : ¬ (t.k = 1 ∧ (t.n = v ∨ findB B t.n ≠ none))) : withB B v t = false := by
  cases hw : withB B v t with
  | false => rfl
  | true =>
    exfalso
    unfold withB at hw
    by_cases hk : t.k = 1
    · cases t with
      | mk k s n l =>
        simp only [Tm.k, Tm.n] at hk hv
        simp only [lkT, if_pos hk, lkF] at hw
        rw [if_neg (fun e => hv ⟨hk, .inl e⟩)] at hw
        cases hf : findB B n with
        | none => rw [hf] at hw; cases hw
        | some x => exact hv ⟨hk, .inr (by rw [hf]; simp)⟩
    · have := (lkT_size (lkF_ok h v _) t [] hw).2 hk
      rw [← he] at this; omega
end Tm
end PSL
namespace PSL
open Go
namespace Tm

/-- Chains of variables go on from bind to later bind. -/
structure chainB (B : Binds) : Prop where
  nodup : (B.map (·.1)).Nodup
  chain : ∀ (i : Nat) (b : Int × Tm), B[i]? = some b → b.2.k = 1 → ∀ (j : Nat) (c : Int × Tm), B[j]? = some c → c.1 = b.2.n → i < j

theorem chainB.nil : chainB [] := ⟨by simp, by simp⟩
theorem findB_none_iff {B : Binds} {v : Int} : findB B v = none ↔ ∀ b ∈ B, b.1 ≠ v := by
  unfold findB
  rw [Option.map_eq_none_iff, List.find?_eq_none]
  simp
theorem findB_at {B : Binds} {v : Int} {x : Tm} (h : findB B v = some x) : ∃ j : Nat, B[j]? = some (v, x) := by
  obtain ⟨j, hj⟩ := List.mem_iff_getElem?.1 (findB_mem h)
  exact ⟨j, hj⟩
theorem chainB.snoc {B : Binds} (h : chainB B) {v : Int} {t : Tm} (hv : findB B v = none) (ht : t.k = 1 → findB B t.n = none ∧ t.n ≠ v) : chainB (B ++ [(v, t)]) := by
  have hv' := findB_none_iff.1 hv
  constructor
  · rw [List.map_append, List.nodup_append]
    refine ⟨h.nodup, by simp, ?_⟩
    intro a ha b hb
    simp only [List.map_cons, List.map_nil, List.mem_singleton] at hb
    subst hb
    obtain ⟨c, hc, rfl⟩ := List.mem_map.1 ha
    exact hv' c hc
  · intro i b hb hk j c hc hcn
    rcases Nat.lt_or_ge i B.length with hi | hi
    · rw [List.getElem?_append_left hi] at hb
      rcases Nat.lt_or_ge j B.length with hj | hj
      · rw [List.getElem?_append_left hj] at hc
        exact h.chain i b hb hk j c hc hcn
      · omega
    · rw [List.getElem?_append_right hi] at hb
      have hi0 : i - B.length = 0 := by
        rcases Nat.eq_zero_or_pos (i - B.length) with h | h
        · exact h
        · rw [List.getElem?_eq_none (by simp; omega)] at hb; cases hb
      rw [hi0] at hb; simp at hb; subst hb
      obtain ⟨h1, h2⟩ := ht hk
      exfalso
      rcases Nat.lt_or_ge j B.length with hj | hj
      · rw [List.getElem?_append_left hj] at hc
        exact findB_none_iff.1 h1 c (List.mem_of_getElem? hc) hcn
      · rw [List.getElem?_append_right hj] at hc
        have hj0 : j - B.length = 0 := by
          rcases Nat.eq_zero_or_pos (j - B.length) with h | h
          · exact h
          · rw [List.getElem?_eq_none (by simp; omega)] at hc; cases hc
        rw [hj0] at hc; simp at hc; subst hc
        exact h2 hcn.symm

theorem walk_end {B : Binds} (h : chainB B) : ∀ (f : Nat) (t : Tm), (∀ (j : Nat) (c : Int × Tm), B[j]? = some c → t.k = 1 → c.1 = t.n → B.length - j ≤ f) → (walkT B f t).k = 1 → findB B (walkT B f t).n = none
  | 0, t, hj, hk => by
    simp only [walkT] at hk ⊢
    cases hf : findB B t.n with
    | none => rfl
    | some x =>
      obtain ⟨j, hx⟩ := findB_at hf
      have h1 := hj j _ hx hk rfl
      have := (List.getElem?_eq_some_iff.1 hx).1
      omega
  | f + 1, t, hj, hk => by
    simp only [walkT] at hk ⊢
    by_cases ht : t.k = 1
    · rw [if_pos ht] at hk ⊢
      cases hf : findB B t.n with
      | none => exact hf
      | some x =>
        rw [hf] at hk
        simp only at hk ⊢
        obtain ⟨j, hx⟩ := findB_at hf
        have h1 := hj j _ hx ht rfl
        refine walk_end h f x (fun j' c hc hxk hcn => ?_) hk
        have := h.chain j _ hx hxk j' c hc hcn
        omega
    · rw [if_neg ht] at hk
      exact absurd hk ht
theorem walkB_end {B : Binds} (h : chainB B) {t : Tm} (hk : (walkB B t).k = 1) : findB B (walkB B t).n = none := walk_end h _ t (fun j c hc _ _ => by omega) hk

def fairBB (B : Binds) : Prop := ∀ b ∈ B, b.2.fairR = true ∧ 0 ≤ b.1 ∧ b.1 < 1000000
theorem walk_fair {B : Binds} (h : fairBB B) : ∀ (f : Nat) (t : Tm), t.fairR = true → (walkT B f t).fairR = true
  | 0, t, ht => ht
  | f + 1, t, ht => by
    simp only [walkT]
    split
    · split
      · rename_i x hx; exact walk_fair h f x (h _ (findB_mem hx)).1
      · exact ht
    · exact ht

def sumS (σ : Int → Tm) (T : List (Tm × Tm)) : Nat := (T.map fun p => size (putF σ p.1)).sum
theorem sumS_app (σ : Int → Tm) (A B : List (Tm × Tm)) : sumS σ (A ++ B) = sumS σ A + sumS σ B := by simp [sumS]
theorem sumS_zip (σ : Int → Tm) : ∀ (l m : List Tm), l.length = m.length → sumS σ (l.zip m) = sizeL (putFL σ l)
  | [], [], _ => rfl
  | [], _ :: _, h => by simp at h
  | _ :: _, [], h => by simp at h
  | a :: l, b :: m, h => by
    have := sumS_zip σ l m (by simpa using h)
    simp only [sumS, List.zip_cons_cons, List.map_cons, List.sum_cons, putFL, sizeL] at this ⊢
    omega
theorem zip_sol {σ : Int → Tm} : ∀ (l m : List Tm), putFL σ l = putFL σ m → ∀ p ∈ l.zip m, putF σ p.1 = putF σ p.2
  | [], m, _, p, hp => by simp at hp
  | _ :: _, [], _, p, hp => by simp at hp
  | a :: l, b :: m, h, p, hp => by
    simp only [putFL, List.cons.injEq] at h
    rcases List.mem_cons.1 (by simpa using hp) with e | e
    · rw [e]; exact h.1
    · exact zip_sol l m h.2 p e

structure UInv (σ : Int → Tm) (T : List (Tm × Tm)) (B : Binds) : Prop where
  solb : solB σ B
  solt : ∀ p ∈ T, putF σ p.1 = putF σ p.2
  chain : chainB B
  fairb : fairBB B
  fairt : ∀ p ∈ T, p.1.fairR = true ∧ p.2.fairR = true

theorem uni_ok {σ : Int → Tm} : ∀ (f : Nat) (T : List (Tm × Tm)) (B : Binds) (met : List (Int × Int)), UInv σ T B → sumS σ T < f → ∃ B', uniF f T B met = some (some B') ∧ solB σ B' ∧ chainB B' ∧ fairBB B' ∧ B'.length ≤ B.length + f
  | 0, _, _, _, _, h => by omega
  | f + 1, T, B, met, hI, hs => by
    rcases List.eq_nil_or_concat T with rfl | ⟨R, p, rfl⟩
    · exact ⟨B, by simp [uniF], hI.solb, hI.chain, hI.fairb, by omega⟩
    obtain ⟨x, y⟩ := p
    have hR : ∀ q ∈ R, putF σ q.1 = putF σ q.2 := fun q hq => hI.solt q (by simp [hq])
    have hRf : ∀ q ∈ R, q.1.fairR = true ∧ q.2.fairR = true := fun q hq => hI.fairt q (by simp [hq])
    have hxy := hI.solt (x, y) (by simp)
    have hfx := (hI.fairt (x, y) (by simp)).1
    have hfy := (hI.fairt (x, y) (by simp)).2
    simp only at hxy hfx hfy
    have hpos := size_pos (putF σ x)
    rw [List.concat_eq_append, sumS_app] at hs
    have hs1 : sumS σ [(x, y)] = size (putF σ x) := by simp [sumS]
    rw [hs1] at hs
    have rest : ∀ (B1 : Binds) (met1 : List (Int × Int)), UInv σ R B1 → B1.length ≤ B.length + 1 → ∃ B', uniF f R B1 met1 = some (some B') ∧ solB σ B' ∧ chainB B' ∧ fairBB B' ∧ B'.length ≤ B.length + (f + 1) := fun B1 met1 h1 h2 => by
      obtain ⟨B', g1, g2, g3, g4, g5⟩ := uni_ok f R B1 met1 h1 (by omega)
      exact ⟨B', g1, g2, g3, g4, by omega⟩
    have hIR : UInv σ R B := ⟨hI.solb, hR, hI.chain, hI.fairb, hRf⟩
    simp only [uniF, List.concat_eq_append, List.getLast?_append, List.getLast?_singleton, Option.or_some, List.dropLast_concat, Option.some_or]
    split
    · exact rest B met hIR (by omega)
    generalize hm : (if (decide (x.k = 1) && decide (y.k = 1)) = true then met ++ [(x.n, y.n)] else met) = met'
    have wx : putF σ (walkB B x) = putF σ x := walk_sol hI.solb _ x
    have wy : putF σ (walkB B y) = putF σ y := walk_sol hI.solb _ y
    have ex := walkB_end hI.chain (t := x)
    have ey := walkB_end hI.chain (t := y)
    have fx : (walkB B x).fairR = true := walk_fair hI.fairb _ x hfx
    have fy : (walkB B y).fairR = true := walk_fair hI.fairb _ y hfy
    rw [← wx, ← wy] at hxy
    rw [← wx] at hs hpos
    generalize walkB B x = x' at *
    generalize walkB B y = y' at *
    have range : ∀ {t : Tm}, t.fairR = true → t.k = 1 → 0 ≤ t.n ∧ t.n < 1000000 := fun {t} hf hk => occ_range t hf t.n (occ_var hk)
    have snoc : ∀ {u t : Tm}, u.k = 1 → u.fairR = true → t.fairR = true → putF σ u = putF σ t → findB B u.n = none → (t.k = 1 → findB B t.n = none ∧ t.n ≠ u.n) → UInv σ R (B ++ [(u.n, t)]) := fun {u t} hk hfu hft he hu ht => by
      refine ⟨fun b hb => ?_, hR, hI.chain.snoc hu ht, fun b hb => ?_, hRf⟩
      · rcases List.mem_append.1 hb with hb | hb
        · exact hI.solb b hb
        · simp only [List.mem_singleton] at hb; subst hb; simp only; rw [← putF_var (σ := σ) hk]; exact he
      · rcases List.mem_append.1 hb with hb | hb
        · exact hI.fairb b hb
        · simp only [List.mem_singleton] at hb; subst hb; exact ⟨hft, range hfu hk⟩
    split
    · exact rest B met' hIR (by omega)
    rename_i hn
    split
    · rename_i hk
      have hw : withB B x'.n y' = false := withB_no hI.solb (by rw [← putF_var (σ := σ) hk]; exact hxy) (fun ⟨h1, h2⟩ => by
        rcases h2 with h2 | h2
        · exact hn ⟨hk, h1, h2.symm⟩
        · exact h2 (ey h1))
      rw [hw, if_neg (by simp)]
      exact rest _ met' (snoc hk fx fy hxy (ex hk) (fun h1 => ⟨ey h1, fun e => hn ⟨hk, h1, e.symm⟩⟩)) (by simp)
    rename_i hkx
    split
    · rename_i hk
      have hw : withB B y'.n x' = false := withB_no hI.solb (by rw [← putF_var (σ := σ) hk]; exact hxy.symm) (fun ⟨h1, _⟩ => hkx h1)
      rw [hw, if_neg (by simp)]
      exact rest _ met' (snoc hk fy fx hxy.symm (ey hk) (fun h1 => absurd h1 hkx)) (by simp)
    rename_i hky
    rw [putF_fun hkx, putF_fun hky] at hxy
    simp only [Tm.mk.injEq] at hxy
    obtain ⟨e1, e2, e3, e4⟩ := hxy
    have hlen : x'.l.length = y'.l.length := by rw [← putFL_len σ, e4, putFL_len]
    have hcl : clashB x' y' = false := by
      unfold clashB
      simp [e1, e2, e3, hlen, strEq]
    rw [hcl, if_neg (by simp)]
    have hsz : size (putF σ x') = 1 + sizeL (putFL σ x'.l) := by rw [putF_fun hkx]; simp only [size]
    have hI2 : UInv σ (R ++ x'.l.zip y'.l) B := by
      refine ⟨hI.solb, fun q hq => ?_, hI.chain, hI.fairb, fun q hq => ?_⟩
      · rcases List.mem_append.1 hq with hq | hq
        · exact hR q hq
        · exact zip_sol _ _ e4 q hq
      · rcases List.mem_append.1 hq with hq | hq
        · exact hRf q hq
        · have h1 := List.of_mem_zip hq
          exact ⟨Sub.kid_fair fx h1.1, Sub.kid_fair fy h1.2⟩
    obtain ⟨B', g1, g2, g3, g4, g5⟩ := uni_ok f (R ++ x'.l.zip y'.l) B met' hI2 (by rw [sumS_app, sumS_zip σ _ _ hlen]; omega)
    exact ⟨B', g1, g2, g3, g4, by omega⟩

/-- What binds make of a term, a unifier makes the same of. -/
theorem full_sol {σ : Int → Tm} {B : Binds} (h : solB σ B) : ∀ (M : Nat) (t : Tm), t.fairR = true → fairBB B → putF σ (fullS B M t) = putF σ t := by
  intro M
  induction M with
  | zero => intro t _ _; rfl
  | succ M ih =>
    intro t hf hb
    simp only [fullS]
    rw [putF_comp]
    congr 1
    funext v
    cases hv : findB B v with
    | none => simp only; rw [putF_var (show (vT v).k = 1 from rfl)]; rfl
    | some x => simp only; rw [ih x (hb _ (findB_mem hv)).1 hb, h _ (findB_mem hv)]
end Tm
end PSL
namespace PSL
open Go
namespace Tm
/-- What was met stays so. -/
def lkExt (g : Int → List Int → Bool × List Int) : Prop := ∀ n M, ∃ R, (g n M).2 = M ++ R
mutual
theorem lkT_ext {g : Int → List Int → Bool × List Int} (hg : lkExt g) : ∀ (t : Tm) (M : List Int), ∃ R, (lkT g t M).2 = M ++ R
  | mk k s n l, M => by
    simp only [lkT]
    split
    · exact hg n M
    · exact lkTL_ext hg l M
theorem lkTL_ext {g : Int → List Int → Bool × List Int} (hg : lkExt g) : ∀ (l : List Tm) (M : List Int), ∃ R, (lkTL g l M).2 = M ++ R
  | [], M => ⟨[], by simp [lkTL]⟩
  | x :: r, M => by
    obtain ⟨R, h⟩ := lkT_ext hg x M
    simp only [lkTL]
    split
    · exact ⟨R, h⟩
    · obtain ⟨R2, h2⟩ := lkTL_ext hg r (lkT g x M).2
      exact ⟨R ++ R2, by rw [h2, h, List.append_assoc]⟩
end
theorem lkF_ext (B : Binds) (v : Int) : ∀ u, lkExt (lkF B v u)
  | 0, n, M => ⟨[], by simp [lkF]⟩
  | u + 1, n, M => by
    simp only [lkF]
    split
    · exact ⟨[], by simp⟩
    · split
      · exact ⟨[], by simp⟩
      · split
        · exact ⟨[], by simp⟩
        · rename_i x _ _
          obtain ⟨R, h⟩ := lkT_ext (lkF_ext B v u) x (M ++ [n])
          exact ⟨n :: R, by rw [h, List.append_assoc]; rfl⟩
theorem count_le (B : Binds) (M R : List Int) : (B.countP fun b => !(M ++ R).contains b.1) ≤ B.countP fun b => !M.contains b.1 := by
  apply List.countP_mono_left
  intro b _ h
  simp only [Bool.not_eq_true', List.contains_eq_mem, decide_eq_false_iff_not, List.mem_append, not_or] at h ⊢
  exact h.1
theorem count_lt {B : Binds} {M : List Int} {n : Int} {x : Tm} (hx : findB B n = some x) (hM : M.contains n = false) : (B.countP fun b => !(M ++ [n]).contains b.1) < B.countP fun b => !M.contains b.1 := by
  obtain ⟨j, hj⟩ := List.mem_iff_append.1 (findB_mem hx)
  obtain ⟨r, rfl⟩ := hj
  have h1 := count_le j M [n]
  have h2 := count_le r M [n]
  have h3 : (!(M ++ [n]).contains n) = false := by simp
  have h4 : (!M.contains n) = true := by rw [hM]; rfl
  simp only [List.countP_append, List.countP_cons, h3, h4]
  simp only [if_true, Bool.false_eq_true, if_false]
  omega
theorem lkT_var {g : Int → List Int → Bool × List Int} {t : Tm} {M : List Int} (h : t.k = 1) : lkT g t M = g t.n M := by
  cases t; simp only [k, n] at h ⊢; simp only [lkT]; rw [if_pos h]
theorem lkT_fun {g : Int → List Int → Bool × List Int} {t : Tm} {M : List Int} (h : t.k ≠ 1) : lkT g t M = lkTL g t.l M := by
  cases t; simp only [k, l] at h ⊢; simp only [lkT]; rw [if_neg h]
end Tm
end PSL
namespace PSL
theorem Tm.length_le_sizeL : ∀ l : List Tm, l.length ≤ Tm.sizeL l
  | [] => by simp
  | x :: l => by have := Tm.length_le_sizeL l; have := Tm.size_pos x; simp only [List.length_cons, Tm.sizeL]; omega
end PSL
namespace PSL
open Go
namespace Tm
theorem UInv.pop {σ : Int → Tm} {R : List (Tm × Tm)} {p : Tm × Tm} {B : Binds} (h : UInv σ (R ++ [p]) B) : UInv σ R B :=
  ⟨h.solb, fun q hq => h.solt q (by simp [hq]), h.chain, h.fairb, fun q hq => h.fairt q (by simp [hq])⟩
theorem UInv.bind {σ : Int → Tm} {R : List (Tm × Tm)} {B : Binds} (h : UInv σ R B) {u t : Tm} (hk : u.k = 1) (hfu : u.fairR = true) (hft : t.fairR = true) (he : putF σ u = putF σ t) (hu : findB B u.n = none) (ht : t.k = 1 → findB B t.n = none ∧ t.n ≠ u.n) : UInv σ R (B ++ [(u.n, t)]) := by
  refine ⟨fun b hb => ?_, h.solt, h.chain.snoc hu ht, fun b hb => ?_, h.fairt⟩
  · rcases List.mem_append.1 hb with hb | hb
    · exact h.solb b hb
    · simp only [List.mem_singleton] at hb; subst hb; simp only; rw [← putF_var (σ := σ) hk]; exact he
  · rcases List.mem_append.1 hb with hb | hb
    · exact h.fairb b hb
    · simp only [List.mem_singleton] at hb; subst hb; exact ⟨hft, occ_range u hfu u.n (occ_var hk)⟩
theorem UInv.zip {σ : Int → Tm} {R : List (Tm × Tm)} {B : Binds} (h : UInv σ R B) {x y : Tm} (hkx : x.k ≠ 1) (hky : y.k ≠ 1) (fx : x.fairR = true) (fy : y.fairR = true) (he : putF σ x = putF σ y) : UInv σ (R ++ x.l.zip y.l) B ∧ x.k = y.k ∧ x.s = y.s ∧ x.n = y.n ∧ x.l.length = y.l.length ∧ sumS σ (R ++ x.l.zip y.l) + 1 = sumS σ R + size (putF σ x) := by
  have hsz : size (putF σ x) = 1 + sizeL (putFL σ x.l) := by rw [putF_fun hkx]; simp only [size]
  rw [putF_fun hkx, putF_fun hky] at he
  simp only [Tm.mk.injEq] at he
  obtain ⟨e1, e2, e3, e4⟩ := he
  have hlen : x.l.length = y.l.length := by rw [← putFL_len σ, e4, putFL_len]
  refine ⟨⟨h.solb, fun q hq => ?_, h.chain, h.fairb, fun q hq => ?_⟩, e1, e2, e3, hlen, ?_⟩
  · rcases List.mem_append.1 hq with hq | hq
    · exact h.solt q hq
    · exact zip_sol _ _ e4 q hq
  · rcases List.mem_append.1 hq with hq | hq
    · exact h.fairt q hq
    · have h1 := List.of_mem_zip hq
      exact ⟨Sub.kid_fair fx h1.1, Sub.kid_fair fy h1.2⟩
  · rw [sumS_app, sumS_zip σ _ _ hlen, hsz]; omega
theorem sumS_len (σ : Int → Tm) : ∀ T : List (Tm × Tm), T.length ≤ sumS σ T
  | [] => by simp
  | p :: T => by
    have := sumS_len σ T
    have := size_pos (putF σ p.1)
    simp only [sumS, List.map_cons, List.sum_cons, List.length_cons] at *
    omega

/-- No term is greater than one bound. -/
def sizT (N : Nat) (T : List (Tm × Tm)) : Prop := ∀ p ∈ T, p.1.size ≤ N ∧ p.2.size ≤ N
def sizB (N : Nat) (B : Binds) : Prop := ∀ b ∈ B, b.2.size ≤ N
theorem walk_siz {N : Nat} {B : Binds} (h : sizB N B) : ∀ (f : Nat) (t : Tm), t.size ≤ N → (walkT B f t).size ≤ N
  | 0, t, ht => ht
  | f + 1, t, ht => by
    simp only [walkT]
    split
    · split
      · rename_i x hx; exact walk_siz h f x (h _ (findB_mem hx))
      · exact ht
    · exact ht
theorem sizB.snoc {N : Nat} {B : Binds} (h : sizB N B) {v : Int} {t : Tm} (ht : t.size ≤ N) : sizB N (B ++ [(v, t)]) := fun b hb => by
  rcases List.mem_append.1 hb with hb | hb
  · exact h b hb
  · simp only [List.mem_singleton] at hb; subst hb; exact ht
theorem sizT.zip {N : Nat} {R : List (Tm × Tm)} (h : sizT N R) {x y : Tm} (hx : x.size ≤ N) (hy : y.size ≤ N) : sizT N (R ++ x.l.zip y.l) := fun q hq => by
  rcases List.mem_append.1 hq with hq | hq
  · exact h q hq
  · have h1 := List.of_mem_zip hq
    have h2 := size_mem h1.1
    have h3 := size_mem h1.2
    have h4 := size_eq x
    have h5 := size_eq y
    omega

/-- What stands between one round and the next. -/
structure URound (σ : Int → Tm) (B' : Binds) (n : Nat) (T : List (Tm × Tm)) (B : Binds) (met : List (Int × Int)) : Prop where
  inv : UInv σ T B
  sum : sumS σ T < n
  few : n + B.length ≤ 20000
  st : sizT 3000 T
  sb : sizB 3000 B
  run : uniF n T B met = some (some B')

theorem URound.pop {σ : Int → Tm} {B' : Binds} {n : Nat} {R : List (Tm × Tm)} {x y : Tm} {B : Binds} {met : List (Int × Int)} (h : URound σ B' n (R ++ [(x, y)]) B met) : ∃ n', n = n' + 1 ∧ sumS σ R + size (putF σ x) < n' + 1 ∧ sizT 3000 R ∧ UInv σ R B ∧ x.size ≤ 3000 ∧ y.size ≤ 3000 ∧ x.fairR = true ∧ y.fairR = true ∧ putF σ x = putF σ y := by
  have h1 := h.sum
  refine ⟨n - 1, by omega, ?_, fun q hq => h.st q (by simp [hq]), h.inv.pop, (h.st (x, y) (by simp)).1, (h.st (x, y) (by simp)).2, (h.inv.fairt (x, y) (by simp)).1, (h.inv.fairt (x, y) (by simp)).2, h.inv.solt (x, y) (by simp)⟩
  rw [sumS_app] at h1
  have : sumS σ [(x, y)] = size (putF σ x) := by simp [sumS]
  omega
theorem uniF_snoc (n : Nat) (R : List (Tm × Tm)) (x y : Tm) (B : Binds) (met : List (Int × Int)) : uniF (n + 1) (R ++ [(x, y)]) B met =
      if (decide (x.k = 1) && decide (y.k = 1)) && met.contains (x.n, y.n) then uniF n R B met else
      let met' := if decide (x.k = 1) && decide (y.k = 1) then met ++ [(x.n, y.n)] else met
      let x' := walkB B x
      let y' := walkB B y
      if x'.k = 1 ∧ y'.k = 1 ∧ x'.n = y'.n then uniF n R B met'
      else if x'.k = 1 then (if withB B x'.n y' then some none else uniF n R (B ++ [(x'.n, y')]) met')
      else if y'.k = 1 then (if withB B y'.n x' then some none else uniF n R (B ++ [(y'.n, x')]) met')
      else if clashB x' y' then some none
      else uniF n (R ++ x'.l.zip y'.l) B met' := by
  simp only [uniF, List.getLast?_append, List.getLast?_singleton, Option.or_some, List.dropLast_concat, Option.some_or]
end Tm
end PSL
namespace PSL
open Go
namespace Tm
def metU (x y : Tm) (met : List (Int × Int)) : List (Int × Int) := if decide (x.k = 1) && decide (y.k = 1) then met ++ [(x.n, y.n)] else met
def skipU (x y : Tm) (met : List (Int × Int)) : Bool := (decide (x.k = 1) && decide (y.k = 1)) && met.contains (x.n, y.n)

section
variable {σ : Int → Tm} {B' : Binds} {n : Nat} {R : List (Tm × Tm)} {x y : Tm} {B : Binds} {met : List (Int × Int)}
theorem URound.skip (h : URound σ B' (n + 1) (R ++ [(x, y)]) B met) (hs : skipU x y met = true) : URound σ B' n R B met := by
  obtain ⟨m, hm, h1, h2, h3, _⟩ := h.pop
  obtain rfl : m = n := by omega
  have hr := h.run
  rw [uniF_snoc, if_pos (show ((decide (x.k = 1) && decide (y.k = 1)) && met.contains (x.n, y.n)) = true from hs)] at hr
  have := size_pos (putF σ x)
  exact ⟨h3, by omega, by have := h.few; omega, h2, h.sb, hr⟩
theorem URound.step (h : URound σ B' (n + 1) (R ++ [(x, y)]) B met) (hs : skipU x y met = false) :
    ((walkB B x).k = 1 → findB B (walkB B x).n = none) ∧ ((walkB B y).k = 1 → findB B (walkB B y).n = none) ∧ (walkB B x).size ≤ 3000 ∧ (walkB B y).size ≤ 3000 ∧
    ((walkB B x).k = 1 ∧ (walkB B y).k = 1 ∧ (walkB B x).n = (walkB B y).n → URound σ B' n R B (metU x y met)) ∧
    (¬ ((walkB B x).k = 1 ∧ (walkB B y).k = 1 ∧ (walkB B x).n = (walkB B y).n) →
      ((walkB B x).k = 1 → withB B (walkB B x).n (walkB B y) = false ∧ URound σ B' n R (B ++ [((walkB B x).n, walkB B y)]) (metU x y met)) ∧
      (¬ (walkB B x).k = 1 → ((walkB B y).k = 1 → withB B (walkB B y).n (walkB B x) = false ∧ URound σ B' n R (B ++ [((walkB B y).n, walkB B x)]) (metU x y met)) ∧
        (¬ (walkB B y).k = 1 → (walkB B x).k = (walkB B y).k ∧ (walkB B x).s = (walkB B y).s ∧ (walkB B x).n = (walkB B y).n ∧ (walkB B x).l.length = (walkB B y).l.length ∧ URound σ B' n (R ++ (walkB B x).l.zip (walkB B y).l) B (metU x y met)))) := by
  obtain ⟨m, hm, h1, h2, h3, sx, sy, fx, fy, he⟩ := h.pop
  obtain rfl : m = n := by omega
  have hr := h.run
  rw [uniF_snoc, if_neg (by rw [show ((decide (x.k = 1) && decide (y.k = 1)) && met.contains (x.n, y.n)) = false from hs]; simp)] at hr
  have hr : (if (walkB B x).k = 1 ∧ (walkB B y).k = 1 ∧ (walkB B x).n = (walkB B y).n then uniF m R B (metU x y met)
      else if (walkB B x).k = 1 then (if withB B (walkB B x).n (walkB B y) then some none else uniF m R (B ++ [((walkB B x).n, walkB B y)]) (metU x y met))
      else if (walkB B y).k = 1 then (if withB B (walkB B y).n (walkB B x) then some none else uniF m R (B ++ [((walkB B y).n, walkB B x)]) (metU x y met))
      else if clashB (walkB B x) (walkB B y) then some none
      else uniF m (R ++ (walkB B x).l.zip (walkB B y).l) B (metU x y met)) = some (some B') := hr
  have wx : putF σ (walkB B x) = putF σ x := walk_sol h.inv.solb _ x
  have wy : putF σ (walkB B y) = putF σ y := walk_sol h.inv.solb _ y
  have ex := walkB_end h.inv.chain (t := x)
  have ey := walkB_end h.inv.chain (t := y)
  have gx : (walkB B x).fairR = true := walk_fair h.inv.fairb _ x fx
  have gy : (walkB B y).fairR = true := walk_fair h.inv.fairb _ y fy
  have zx : (walkB B x).size ≤ 3000 := walk_siz h.sb _ x sx
  have zy : (walkB B y).size ≤ 3000 := walk_siz h.sb _ y sy
  have few := h.few
  have sb := h.sb
  have solb := h.inv.solb
  rw [← wx, ← wy] at he
  rw [← wx] at h1
  clear wx wy
  generalize walkB B x = x' at *
  generalize walkB B y = y' at *
  generalize metU x y met = met' at *
  have hp := size_pos (putF σ x')
  refine ⟨ex, ey, zx, zy, fun hc => ?_, fun hc => ⟨fun hk => ?_, fun hkx => ⟨fun hk => ?_, fun hky => ?_⟩⟩⟩
  · rw [if_pos hc] at hr
    exact ⟨h3, by omega, by omega, h2, sb, hr⟩
  · rw [if_neg hc, if_pos hk] at hr
    have hw : withB B x'.n y' = false := withB_no solb (by rw [← putF_var (σ := σ) hk]; exact he) (fun ⟨g1, g2⟩ => by
        rcases g2 with g2 | g2
        · exact hc ⟨hk, g1, g2.symm⟩
        · exact g2 (ey g1))
    rw [hw, if_neg (by simp)] at hr
    exact ⟨hw, h3.bind hk gx gy he (ex hk) (fun g => ⟨ey g, fun e => hc ⟨hk, g, e.symm⟩⟩), by omega, by simp; omega, h2, sb.snoc zy, hr⟩
  · rw [if_neg hc, if_neg hkx, if_pos hk] at hr
    have hw : withB B y'.n x' = false := withB_no solb (by rw [← putF_var (σ := σ) hk]; exact he.symm) (fun ⟨g1, _⟩ => hkx g1)
    rw [hw, if_neg (by simp)] at hr
    exact ⟨hw, h3.bind hk gy gx he.symm (ey hk) (fun g => absurd g hkx), by omega, by simp; omega, h2, sb.snoc zx, hr⟩
  · obtain ⟨g1, g2, g3, g4, g5, g6⟩ := h3.zip hkx hky gx gy he
    have hcl : clashB x' y' = false := by unfold clashB; simp [g2, g3, g4, g5, strEq]
    rw [if_neg hc, if_neg hkx, if_neg hky, hcl, if_neg (by simp)] at hr
    exact ⟨g2, g3, g4, g5, g1, by omega, by omega, h2.zip zx zy, sb, hr⟩
end
end Tm
end PSL
