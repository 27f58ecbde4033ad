import Derived.Test.YtcgkgofmldhokaaGreatM5
import Derived.Laws.StructEq
import Derived.Test.YtcgkgofmldhokaaGreatPslB
namespace PSL
open Go
namespace Tm
def pickU (sw : Bool) (x y : Tm) : Tm × Tm := if (sw || decide (x.k ≠ 1)) && decide (y.k = 1) then (y, x) else (x, y)
def sameV (x y : Tm) : Prop := x.k = 1 ∧ y.k = 1 ∧ x.n = y.n
def ordU (sw : Bool) (l m : List Tm) : List (Tm × Tm) := if sw then l.zip m else (l.zip m).reverse
theorem ordU_mem {sw : Bool} {l m : List Tm} {p : Tm × Tm} : p ∈ ordU sw l m ↔ p ∈ l.zip m := by cases sw <;> simp [ordU]

theorem pickU_or {sw : Bool} {x y u w : Tm} (h : pickU sw x y = (u, w)) : (u = x ∧ w = y) ∨ (u = y ∧ w = x ∧ y.k = 1) := by
 unfold pickU at h
 split at h
 ·rename_i hc
  simp only [Bool.and_eq_true, decide_eq_true_eq] at hc
  cases h; exact .inr ⟨rfl, rfl, hc.2⟩
 ·cases h; exact .inl ⟨rfl, rfl⟩

inductive URun (sw : Bool) : Nat → List (Tm × Tm) → Binds → List (Int × Int) → Binds → Bool → Prop
 | done {n : Nat} {B : Binds} {met : List (Int × Int)} : URun sw n [] B met B true
 | skip {n : Nat} {x y : Tm} {R : List (Tm × Tm)} {B B' : Binds} {met : List (Int × Int)} {ok : Bool} (hs : skipU x y met = true) (h : URun sw n R B met B' ok) : URun sw (n + 1) ((x, y) :: R) B met B' ok
 | same {n : Nat} {x y : Tm} {R : List (Tm × Tm)} {B B' : Binds} {met : List (Int × Int)} {ok : Bool} (hs : skipU x y met = false) (hv : sameV (walkB B x) (walkB B y)) (h : URun sw n R B (metU x y met) B' ok) : URun sw (n + 1) ((x, y) :: R) B met B' ok
 | occ {n : Nat} {x y u w : Tm} {R : List (Tm × Tm)} {B : Binds} {met : List (Int × Int)} (hs : skipU x y met = false) (hv : ¬ sameV (walkB B x) (walkB B y)) (hp : pickU sw (walkB B x) (walkB B y) = (u, w)) (hk : u.k = 1) (hw : withB B u.n w = true) : URun sw (n + 1) ((x, y) :: R) B met B false
 | bind {n : Nat} {x y u w : Tm} {R : List (Tm × Tm)} {B B' : Binds} {met : List (Int × Int)} {ok : Bool} (hs : skipU x y met = false) (hv : ¬ sameV (walkB B x) (walkB B y)) (hp : pickU sw (walkB B x) (walkB B y) = (u, w)) (hk : u.k = 1) (hw : withB B u.n w = false) (h : URun sw n R (B ++ [(u.n, w)]) (metU x y met) B' ok) : URun sw (n + 1) ((x, y) :: R) B met B' ok
 | clash {n : Nat} {x y : Tm} {R : List (Tm × Tm)} {B : Binds} {met : List (Int × Int)} (hs : skipU x y met = false) (hx : (walkB B x).k ≠ 1) (hy : (walkB B y).k ≠ 1) (hc : clashB (walkB B x) (walkB B y) = true) : URun sw (n + 1) ((x, y) :: R) B met B false
 | args {n : Nat} {x y : Tm} {R : List (Tm × Tm)} {B B' : Binds} {met : List (Int × Int)} {ok : Bool} (hs : skipU x y met = false) (hx : (walkB B x).k ≠ 1) (hy : (walkB B y).k ≠ 1) (hc : clashB (walkB B x) (walkB B y) = false) (h : URun sw n (ordU sw (walkB B x).l (walkB B y).l ++ R) B (metU x y met) B' ok) : URun sw (n + 1) ((x, y) :: R) B met B' ok

structure UG (S : List Int) (N : Nat) (T : List (Tm × Tm)) (B : Binds) : Prop where
 chain : chainB B
 fairb : fairBB B
 fairt : ∀ p ∈ T, p.1.fairR = true ∧ p.2.fairR = true
 st : sizT N T
 sb : sizB N B
 sol : ∃ σ, solB σ B
 vb : ∀ b ∈ B, b.1 ∈ S ∧ ∀ u ∈ occ b.2, u ∈ S
 vt : ∀ p ∈ T, (∀ u ∈ occ p.1, u ∈ S) ∧ ∀ u ∈ occ p.2, u ∈ S

theorem walk_occ {S : List Int} {B : Binds} (h : ∀ b ∈ B, b.1 ∈ S ∧ ∀ u ∈ occ b.2, u ∈ S) : ∀ (f : Nat) (t : Tm), (∀ u ∈ occ t, u ∈ S) → ∀ u ∈ occ (walkT B f t), u ∈ S
 | 0, t, ht => ht
 | f + 1, t, ht => by
  simp only [walkT]
  split
  ·split
   ·rename_i x hx; exact walk_occ h f x (h _ (findB_mem hx)).2
   ·exact ht
  ·exact ht

structure UW (S : List Int) (N : Nat) (B : Binds) (x : Tm) : Prop where
 fair : x.fairR = true
 size : x.size ≤ N
 occ : ∀ u ∈ occ x, u ∈ S
 nd : x.k = 1 → findB B x.n = none
section
variable {S : List Int} {N : Nat} {x y : Tm} {R : List (Tm × Tm)} {B : Binds}

theorem UG.tail {p : Tm × Tm} (h : UG S N (p :: R) B) : UG S N R B :=
 ⟨h.chain, h.fairb, fun q hq => h.fairt q (by simp [hq]), fun q hq => h.st q (by simp [hq]), h.sb, h.sol, h.vb, fun q hq => h.vt q (by simp [hq])⟩

theorem UG.walk1 (h : UG S N ((x, y) :: R) B) : UW S N B (walkB B x) :=
 ⟨walk_fair h.fairb _ x (h.fairt (x, y) (by simp)).1, walk_siz h.sb _ x (h.st (x, y) (by simp)).1, walk_occ h.vb _ x (h.vt (x, y) (by simp)).1, walkB_end h.chain⟩

theorem UG.walk2 (h : UG S N ((x, y) :: R) B) : UW S N B (walkB B y) :=
 ⟨walk_fair h.fairb _ y (h.fairt (x, y) (by simp)).2, walk_siz h.sb _ y (h.st (x, y) (by simp)).2, walk_occ h.vb _ y (h.vt (x, y) (by simp)).2, walkB_end h.chain⟩

theorem UG.pick {sw : Bool} {u w : Tm} (h : UG S N ((x, y) :: R) B) (hv : ¬ sameV (walkB B x) (walkB B y)) (hp : pickU sw (walkB B x) (walkB B y) = (u, w)) (hk : u.k = 1) : UW S N B u ∧ UW S N B w ∧ (w.k = 1 → w.n ≠ u.n) := by
 rcases pickU_or hp with ⟨rfl, rfl⟩ | ⟨rfl, rfl, _⟩
 ·exact ⟨h.walk1, h.walk2, fun hw e => hv ⟨hk, hw, e.symm⟩⟩
 ·exact ⟨h.walk2, h.walk1, fun hw e => hv ⟨hw, hk, e⟩⟩

theorem UG.bind {sw : Bool} {u w : Tm} (h : UG S N ((x, y) :: R) B) (hv : ¬ sameV (walkB B x) (walkB B y)) (hp : pickU sw (walkB B x) (walkB B y) = (u, w)) (hk : u.k = 1) (hw : withB B u.n w = false) : UG S N R (B ++ [(u.n, w)]) := by
 obtain ⟨hu, hw1, hne⟩ := h.pick hv hp hk
 obtain ⟨σ, hs⟩ := h.sol
 have ht := h.tail
 refine ⟨h.chain.snoc (hu.nd hk) fun h1 => ⟨hw1.nd h1, hne h1⟩, fun b hb => ?_, ht.fairt, ht.st, h.sb.snoc hw1.size, bind_sol hs h.chain h.fairb (hu.nd hk) hw1.fair hw, fun b hb => ?_, ht.vt⟩
 ·rcases List.mem_append.1 hb with hb | hb
  ·exact h.fairb b hb
  ·simp only [List.mem_singleton] at hb; subst hb
   exact ⟨hw1.fair, occ_range u hu.fair u.n (occ_var hk)⟩
 ·rcases List.mem_append.1 hb with hb | hb
  ·exact h.vb b hb
  ·simp only [List.mem_singleton] at hb; subst hb
   exact ⟨hu.occ _ (occ_var hk), hw1.occ⟩

theorem occ_kid {t x : Tm} (hk : t.k ≠ 1) (hx : x ∈ t.l) {u : Int} (hu : u ∈ occ x) : u ∈ occ t := by
 cases t; simp only [k, l] at hk hx; simp only [occ, if_neg hk]
 clear hk
 rename_i l
 induction l with
 | nil => cases hx
 | cons a l ih =>
  simp only [occL, List.mem_append]
  rcases List.mem_cons.1 hx with rfl | hx
  ·exact .inl hu
  ·exact .inr (ih hx)

theorem UG.args {sw : Bool} (h : UG S N ((x, y) :: R) B) (hx : (walkB B x).k ≠ 1) (hy : (walkB B y).k ≠ 1) : UG S N (ordU sw (walkB B x).l (walkB B y).l ++ R) B := by
 have ht := h.tail
 have h1 := h.walk1
 have h2 := h.walk2
 generalize walkB B x = x' at *
 generalize walkB B y = y' at *
 have hz : ∀ p ∈ ordU sw x'.l y'.l, p.1 ∈ x'.l ∧ p.2 ∈ y'.l := fun p hp => List.of_mem_zip (ordU_mem.1 hp)
 refine ⟨h.chain, h.fairb, fun q hq => ?_, fun q hq => ?_, h.sb, h.sol, h.vb, fun q hq => ?_⟩
 ·rcases List.mem_append.1 hq with hq | hq
  ·exact ⟨Sub.kid_fair h1.fair (hz q hq).1, Sub.kid_fair h2.fair (hz q hq).2⟩
  ·exact ht.fairt q hq
 ·rcases List.mem_append.1 hq with hq | hq
  ·have g1 := size_mem (hz q hq).1
   have g2 := size_mem (hz q hq).2
   have g3 := size_eq x'
   have g4 := size_eq y'
   have g5 := h1.size
   have g6 := h2.size
   omega
  ·exact ht.st q hq
 ·rcases List.mem_append.1 hq with hq | hq
  ·exact ⟨fun u hu => h1.occ u (occ_kid hx (hz q hq).1 hu), fun u hu => h2.occ u (occ_kid hy (hz q hq).2 hu)⟩
  ·exact ht.vt q hq
end

theorem findB_snoc (B : Binds) (v z : Int) (w : Tm) : findB (B ++ [(v, w)]) z = match findB B z with | some x => some x | none => if v = z then some w else none := by
 induction B with
 | nil => simp [findB_cons, findB]
 | cons b B ih =>
  simp only [List.cons_append, findB_cons]
  split
  ·rfl
  ·exact ih
end Tm
end PSL

namespace PSL
open Go
namespace Tm

theorem walk_more {B : Binds} {v : Int} {w : Tm} (hw : w.k = 1 → findB B w.n = none ∧ w.n ≠ v) : ∀ (f : Nat) (t : Tm), ((walkT B f t).k = 1 → findB B (walkT B f t).n = none) → walkT (B ++ [(v, w)]) (f + 1) t = if (walkT B f t).k = 1 ∧ (walkT B f t).n = v then w else walkT B f t := by
 have hend : ∀ f, walkT (B ++ [(v, w)]) f w = w := fun f => by
  cases f with
  | zero => rfl
  | succ f =>
   simp only [walkT]
   split
   ·rename_i hk
    obtain ⟨h1, h2⟩ := hw hk
    rw [findB_snoc, h1]
    simp only
    rw [if_neg (fun e => h2 e.symm)]
   ·rfl
 have stop : ∀ (f : Nat) (t : Tm), (t.k = 1 → findB B t.n = none) → walkT (B ++ [(v, w)]) (f + 1) t = if t.k = 1 ∧ t.n = v then w else t := fun f t ht => by
  simp only [walkT]
  by_cases hk : t.k = 1
  ·rw [if_pos hk, findB_snoc, ht hk]
   simp only
   by_cases hn : v = t.n
   ·rw [if_pos hn, if_pos ⟨hk, hn.symm⟩]; exact hend f
   ·rw [if_neg hn, if_neg (fun e => hn e.2.symm)]
  ·rw [if_neg hk, if_neg (fun e => hk e.1)]
 intro f
 induction f with
 | zero => exact fun t ht => stop 0 t ht
 | succ f ih =>
  intro t ht
  by_cases hk : t.k = 1
  ·cases hf : findB B t.n with
   | none =>
    have e : walkT B (f + 1) t = t := by simp only [walkT]; rw [if_pos hk, hf]
    rw [e]
    exact stop _ t fun _ => hf
   | some x =>
    have e : walkT B (f + 1) t = walkT B f x := by simp only [walkT]; rw [if_pos hk, hf]
    rw [e] at ht ⊢
    rw [← ih x ht]
    have e2 : ∀ f', walkT (B ++ [(v, w)]) (f' + 1) t = walkT (B ++ [(v, w)]) f' x := fun f' => by
     conv => lhs; unfold walkT
     rw [if_pos hk, findB_snoc, hf]
    exact e2 _
  ·have e : walkT B (f + 1) t = t := by simp only [walkT]; rw [if_neg hk]
   rw [e]
   exact stop _ t fun h => absurd h hk

theorem walkB_more {B : Binds} (hc : chainB B) {v : Int} {w : Tm} (hw : w.k = 1 → findB B w.n = none ∧ w.n ≠ v) (t : Tm) : walkB (B ++ [(v, w)]) t = if (walkB B t).k = 1 ∧ (walkB B t).n = v then w else walkB B t := by
 have e : walkB (B ++ [(v, w)]) t = walkT (B ++ [(v, w)]) (B.length + 1 + 1) t := by unfold walkB; simp
 rw [e]
 exact walk_more hw (B.length + 1) t (walkB_end hc)

def GoodU (B : Binds) (V : Tm × Tm → Prop) (p : Tm × Tm) : Prop := walkB B p.1 = walkB B p.2 ∨ ((walkB B p.1).k ≠ 1 ∧ (walkB B p.2).k ≠ 1 ∧ (walkB B p.1).k = (walkB B p.2).k ∧ (walkB B p.1).s = (walkB B p.2).s ∧ (walkB B p.1).n = (walkB B p.2).n ∧ (walkB B p.1).l.length = (walkB B p.2).l.length ∧ ∀ q ∈ (walkB B p.1).l.zip (walkB B p.2).l, V q)

theorem GoodU.mono {B : Binds} {V V' : Tm × Tm → Prop} {p : Tm × Tm} (h : GoodU B V p) (hV : ∀ q, V q → V' q) : GoodU B V' p := by
 rcases h with h | ⟨h1, h2, h3, h4, h5, h6, h7⟩
 ·exact .inl h
 ·exact .inr ⟨h1, h2, h3, h4, h5, h6, fun q hq => hV q (h7 q hq)⟩

theorem GoodU.more {B : Binds} {V : Tm × Tm → Prop} {p : Tm × Tm} (h : GoodU B V p) (hc : chainB B) {v : Int} {w : Tm} (hw : w.k = 1 → findB B w.n = none ∧ w.n ≠ v) : GoodU (B ++ [(v, w)]) V p := by
 rcases h with h | ⟨h1, h2, h3⟩
 ·exact .inl (by rw [walkB_more hc hw, walkB_more hc hw, h])
 ·refine .inr ?_
  rw [walkB_more hc hw, walkB_more hc hw, if_neg (fun e => h1 e.1), if_neg (fun e => h2 e.1)]
  exact ⟨h1, h2, h3⟩
end Tm
end PSL

namespace PSL
open Go

theorem rightS_of {B : Binds} {M : Nat} (hS : Sub B M) (hn : (B.map (·.1)).Nodup) (hb : ∀ b ∈ B, 0 ≤ b.1 ∧ b.1 < 1000000 ∧ b.2.rightB = true) : rightS B = true := by
 rw [← rightR_eq]
 unfold rightR
 rw [Bool.and_eq_true, List.all_eq_true, List.all_eq_true]
 constructor
 ·intro i hi
  have hil : i < B.length := by simpa using hi
  have e1 : B[i]? = some (B[i]'hil) := List.getElem?_eq_getElem _
  have h1 := hb _ (List.mem_of_getElem? e1)
  have h3 := nodup_place.1 hn i _ e1
  rw [okAt, e1]
  simp [h1.1, h1.2.1, h1.2.2, h3]
 ·intro i hi
  cases hw : warsh (edge (adjB B)) B.length i i with
  | false => rfl
  | true => exact absurd (hS.okn i (by simpa using hi)) (okn_round (warsh_way _ _ _ _ hw))
namespace Tm
end Tm

theorem nodup_le {α : Type} [DecidableEq α] : ∀ (l L : List α), l.Nodup → (∀ x ∈ l, x ∈ L) → l.length ≤ L.length
 | [], L, _, _ => Nat.zero_le _
 | x :: l, L, hn, hs => by
  obtain ⟨a, b, rfl⟩ := List.mem_iff_append.1 (hs x (by simp))
  simp only [List.nodup_cons] at hn
  have := nodup_le l (a ++ b) hn.2 fun y hy => by
   have := hs y (by simp [hy])
   simp only [List.mem_append, List.mem_cons] at this ⊢
   rcases this with h | h | h
   ·exact .inl h
   ·subst h; exact absurd hy hn.1
   ·exact .inr h
  simp only [List.length_append, List.length_cons] at this ⊢
  omega
namespace Tm
end Tm
namespace Tm
abbrev Met := List (Int × Int)
end Tm
end PSL

namespace PSL
open Go
namespace Tm

theorem UG.sub {S : List Int} {N : Nat} {T T' : List (Tm × Tm)} {B : Binds} (h : UG S N T B) (hs : ∀ p ∈ T', p ∈ T) : UG S N T' B :=
 ⟨h.chain, h.fairb, fun p hp => h.fairt p (hs p hp), fun p hp => h.st p (hs p hp), h.sb, h.sol, h.vb, fun p hp => h.vt p (hs p hp)⟩

def MetS (S : List Int) (met : Met) : Prop := met.Nodup ∧ ∀ m ∈ met, m.1 ∈ S ∧ m.2 ∈ S
theorem MetS.nil (S : List Int) : MetS S [] := ⟨by simp, by simp⟩

theorem MetS.len {S : List Int} {met : Met} (h : MetS S met) : met.length ≤ S.length * S.length := by
 have h1 := nodup_le met (S.flatMap fun a => S.map fun b => (a, b)) h.1 fun m hm => by
  obtain ⟨h1, h2⟩ := h.2 m hm
  exact List.mem_flatMap.2 ⟨m.1, h1, List.mem_map.2 ⟨m.2, h2, rfl⟩⟩
 have h2 : ∀ L : List Int, (L.flatMap fun a => S.map fun b => (a, b)).length = L.length * S.length := fun L => by
  induction L with
  | nil => simp
  | cons a L ih => rw [List.flatMap_cons, List.length_append, ih, List.length_map, List.length_cons, Nat.succ_mul]; omega
 rw [h2] at h1; exact h1

theorem MetS.more {S : List Int} {met : Met} (h : MetS S met) {a b : Tm} (hs : skipU a b met = false) (ha : ∀ u ∈ occ a, u ∈ S) (hb : ∀ u ∈ occ b, u ∈ S) : MetS S (metU a b met) := by
 unfold metU
 split
 ·rename_i hc
  have hc' := hc
  simp only [Bool.and_eq_true, decide_eq_true_eq] at hc'
  have hn : (a.n, b.n) ∉ met := by
   unfold skipU at hs
   rw [hc, Bool.true_and] at hs
   simpa using hs
  refine ⟨?_, fun m hm => ?_⟩
  ·rw [List.nodup_append]
   exact ⟨h.1, by simp, fun x hx y hy => by simp at hy; subst hy; exact fun e => hn (e ▸ hx)⟩
  ·rcases List.mem_append.1 hm with hm | hm
   ·exact h.2 m hm
   ·simp only [List.mem_singleton] at hm; subst hm
    exact ⟨ha _ (occ_var hc'.1), hb _ (occ_var hc'.2)⟩
 ·exact h
end Tm
end PSL

namespace PSL
open Go
namespace Tm

mutual
theorem put_depth {σ : Int → Tm} {D : Nat} : ∀ (t : Tm), (∀ v ∈ occ t, depth (σ v) ≤ D) → depth (putF σ t) ≤ depth t + D
 | mk k s n l, h => by
  simp only [putF]
  by_cases hk : k = 1
  ·rw [if_pos hk]
   have := h n (by simp [occ, hk])
   omega
  ·rw [if_neg hk]
   have := putL_depth l fun v hv => h v (by simp [occ, hk, hv])
   simp only [depth]
   omega
theorem putL_depth {σ : Int → Tm} {D : Nat} : ∀ (l : List Tm), (∀ v ∈ occL l, depth (σ v) ≤ D) → depthL (putFL σ l) ≤ depthL l + D
 | [], _ => by simp [putFL, depthL]
 | t :: r, h => by
  have h1 := put_depth t fun v hv => h v (by simp [occL, hv])
  have h2 := putL_depth r fun v hv => h v (by simp [occL, hv])
  simp only [putFL, depthL]
  omega
end

theorem full_depth {B : Binds} {N : Nat} (h1 : 1 ≤ N) (h : ∀ b ∈ B, depth b.2 ≤ N) : ∀ (M : Nat) (t : Tm), depth (fullS B M t) ≤ depth t + M * N
 | 0, t => by simp [fullS]
 | M + 1, t => by
  simp only [fullS]
  refine put_depth t fun v _ => ?_
  rw [Nat.succ_mul]
  split
  ·rename_i x hx
   have h2 := full_depth h1 h M x
   have h3 := h _ (findB_mem hx)
   simp only at h3
   omega
  ·simp only [vT, depth, depthL]; omega

theorem kid_depth {σ : Int → Tm} {t x : Tm} (hk : t.k ≠ 1) (hx : x ∈ t.l) : depth (putF σ x) + 1 ≤ depth (putF σ t) := by
 rw [putF_fun hk, depth]
 have : ∀ l : List Tm, x ∈ l → depth (putF σ x) ≤ depthL (putFL σ l) := fun l => by
  induction l with
  | nil => intro h; cases h
  | cons a l ih =>
   intro h
   simp only [putFL, depthL]
   rcases List.mem_cons.1 h with rfl | h
   ·omega
   ·have := ih h; omega
 have := this t.l hx
 omega

structure UState (S : List Int) (N : Nat) (a0 : Tm) (n : Nat) (T : List (Tm × Tm)) (B : Binds) (met : Met) (B' : Binds) (ok : Bool) : Prop where
 run : URun false n T.reverse B met B' ok
 ug : UG S N T B
 lev : ∀ (i : Nat) (p : Tm × Tm), T[i]? = some p → ∃ l, i ≤ N * l ∧ ∀ σ, solB σ B → depth (putF σ p.1) + l ≤ depth (putF σ a0)
 fa : a0.fairR = true
 sa : a0.size ≤ N
section
variable {S : List Int} {N : Nat} {a0 : Tm} {n : Nat} {R T : List (Tm × Tm)} {x y : Tm} {B B' : Binds} {met : Met} {ok : Bool}

theorem UG.blen (h : UG S N T B) : B.length ≤ S.length := by
 have := nodup_le (B.map (·.1)) S h.chain.nodup (fun v hv => by
  obtain ⟨c, hc, rfl⟩ := List.mem_map.1 hv
  exact (h.vb c hc).1)
 simpa using this
theorem UG.perm (h : UG S N T B) {T' : List (Tm × Tm)} (hs : ∀ p, p ∈ T' → p ∈ T) : UG S N T' B := h.sub hs

theorem UState.len (h : UState S N a0 n T B met B' ok) : T.length ≤ N * (N + S.length * N) + 1 := by
 obtain ⟨σ, hs⟩ := h.ug.sol
 have hS := sub_sol hs h.ug.chain h.ug.fairb
 have hv := sub_solV hS h.ug.chain
 have h1 : 1 ≤ N := by have := size_pos a0; have := h.sa; omega
 rcases List.eq_nil_or_concat T with rfl | ⟨R, p, rfl⟩
 ·simp
 obtain ⟨l, g1, g2⟩ := h.lev R.length p (by simp)
 have g3 := g2 _ hv
 rw [sub_putV hS h.fa] at g3
 have g4 := full_depth h1 (B := B) (fun b hb => Nat.le_trans (depth_le_size _) (h.ug.sb b hb)) B.length a0
 have g5 := depth_le_size a0
 have g6 := h.sa
 have g7 : B.length * N ≤ S.length * N := Nat.mul_le_mul_right _ h.ug.blen
 have g8 : N * l ≤ N * (N + S.length * N) := Nat.mul_le_mul_left _ (by omega)
 simp only [List.concat_eq_append, List.length_append, List.length_singleton]
 omega

theorem UState.nil (h : UState S N a0 n [] B met B' ok) : B' = B ∧ ok = true := by
 have := h.run
 simp only [List.reverse_nil] at this
 cases this
 exact ⟨rfl, rfl⟩

theorem UState.pos (h : UState S N a0 n (R ++ [(x, y)]) B met B' ok) : ∃ m, n = m + 1 := by
 have := h.run
 rw [List.reverse_append] at this
 cases this <;> exact ⟨_, rfl⟩

theorem UState.first (ha : a0.fairR = true) (hs : a0.size ≤ N) {b0 : Tm} (h : URun false n [(a0, b0)] B [] B' ok) (hU : UG S N [(a0, b0)] B) : UState S N a0 n [(a0, b0)] B [] B' ok :=
 ⟨h, hU, fun i p hp => by
  cases i with
  | zero => simp at hp; subst hp; exact ⟨0, Nat.zero_le _, fun σ _ => Nat.le_refl _⟩
  | succ i => simp at hp, ha, hs⟩

theorem lev_tail (h : UState S N a0 n (R ++ [(x, y)]) B met B' ok) : ∀ (i : Nat) (p : Tm × Tm), R[i]? = some p → ∃ l, i ≤ N * l ∧ ∀ σ, solB σ B → depth (putF σ p.1) + l ≤ depth (putF σ a0) := fun i p hp =>
 h.lev i p (by rw [List.getElem?_append_left (List.getElem?_eq_some_iff.1 hp).1]; exact hp)

theorem UState.skip (h : UState S N a0 (n + 1) (R ++ [(x, y)]) B met B' ok) (hs : skipU x y met = true) : UState S N a0 n R B met B' ok := by
 have hr := h.run
 rw [List.reverse_append] at hr
 have ht := lev_tail h
 have hg := h.ug.perm (T' := R) (by simp +contextual)
 cases hr with
 | skip _ h1 => exact ⟨h1, hg, ht, h.fa, h.sa⟩
 | same h1 => rw [hs] at h1; cases h1
 | occ h1 => rw [hs] at h1; cases h1
 | bind h1 => rw [hs] at h1; cases h1
 | clash h1 => rw [hs] at h1; cases h1
 | args h1 => rw [hs] at h1; cases h1

theorem UState.step (h : UState S N a0 (n + 1) (R ++ [(x, y)]) B met B' ok) (hs : skipU x y met = false) :
  ((walkB B x).k = 1 → findB B (walkB B x).n = none) ∧ ((walkB B y).k = 1 → findB B (walkB B y).n = none) ∧ (walkB B x).size ≤ N ∧ (walkB B y).size ≤ N ∧
  ((walkB B x).k = 1 ∧ (walkB B y).k = 1 ∧ (walkB B x).n = (walkB B y).n → UState S N a0 n R B (metU x y met) B' ok) ∧
  (¬ ((walkB B x).k = 1 ∧ (walkB B y).k = 1 ∧ (walkB B x).n = (walkB B y).n) →
   ((walkB B x).k = 1 → (withB B (walkB B x).n (walkB B y) = true → B' = B ∧ ok = false) ∧ (withB B (walkB B x).n (walkB B y) = false → UState S N a0 n R (B ++ [((walkB B x).n, walkB B y)]) (metU x y met) B' ok)) ∧
   (¬ (walkB B x).k = 1 → ((walkB B y).k = 1 → (withB B (walkB B y).n (walkB B x) = true → B' = B ∧ ok = false) ∧ (withB B (walkB B y).n (walkB B x) = false → UState S N a0 n R (B ++ [((walkB B y).n, walkB B x)]) (metU x y met) B' ok)) ∧
    (¬ (walkB B y).k = 1 → (clashB (walkB B x) (walkB B y) = true → B' = B ∧ ok = false) ∧ (clashB (walkB B x) (walkB B y) = false → UState S N a0 n (R ++ (walkB B x).l.zip (walkB B y).l) B (metU x y met) B' ok)))) := by
 have hr := h.run
 rw [List.reverse_append] at hr
 have ht := lev_tail h
 have hU : UG S N ((x, y) :: R) B := h.ug.perm (by simp +contextual [or_comm])
 have hlast := h.lev R.length (x, y) (by simp)
 have h1 := hU.walk1
 have h2 := hU.walk2
 have wx : ∀ σ, solB σ B → putF σ (walkB B x) = putF σ x := fun σ hσ => walk_sol hσ _ x
 have hargs := fun hx hy => hU.args (sw := true) hx hy
 have hbind := fun (u w : Tm) hv hp hk hw => hU.bind (sw := false) (u := u) (w := w) hv hp hk hw
 have tmono : ∀ B1 : Binds, (∃ X, B1 = B ++ X) → ∀ (i : Nat) (p : Tm × Tm), R[i]? = some p → ∃ l, i ≤ N * l ∧ ∀ σ, solB σ B1 → depth (putF σ p.1) + l ≤ depth (putF σ a0) := fun B1 ⟨X, hX⟩ i p hp => by
  obtain ⟨l, g1, g2⟩ := ht i p hp
  exact ⟨l, g1, fun σ hσ => g2 σ fun b hb => hσ b (by rw [hX]; simp [hb])⟩
 have targs : (walkB B x).k ≠ 1 → ∀ (i : Nat) (p : Tm × Tm), (R ++ (walkB B x).l.zip (walkB B y).l)[i]? = some p → ∃ l, i ≤ N * l ∧ ∀ σ, solB σ B → depth (putF σ p.1) + l ≤ depth (putF σ a0) := fun hx i p hp => by
  by_cases hi : i < R.length
  ·rw [List.getElem?_append_left hi] at hp; exact ht i p hp
  ·rw [List.getElem?_append_right (by omega)] at hp
   obtain ⟨l, g1, g2⟩ := hlast
   have hil := (List.getElem?_eq_some_iff.1 hp).1
   rw [List.length_zip] at hil
   have hll := length_le_sizeL (walkB B x).l
   have hsz := size_eq (walkB B x)
   have hz := h1.size
   refine ⟨l + 1, by rw [Nat.mul_succ]; omega, fun σ hσ => ?_⟩
   have g3 := g2 σ hσ
   simp only at g3
   rw [← wx σ hσ] at g3
   have g4 := kid_depth (σ := σ) hx (List.of_mem_zip (List.mem_of_getElem? hp)).1
   omega
 clear wx
 generalize hwx : walkB B x = x' at *
 generalize hwy : walkB B y = y' at *
 have hR0 : UG S N R B := hU.tail
 refine ⟨h1.nd, h2.nd, h1.size, h2.size, fun hv => ?_, fun hv => ⟨fun hk => ?_, fun hkx => ⟨fun hk => ?_, fun hky => ?_⟩⟩⟩
 ·cases hr with
  | skip g => rw [hs] at g; cases g
  | same _ _ g => exact ⟨g, hR0, ht, h.fa, h.sa⟩
  | occ _ g => rw [hwx, hwy] at g; exact absurd hv g
  | bind _ g => rw [hwx, hwy] at g; exact absurd hv g
  | clash _ g => rw [hwx] at g; exact absurd hv.1 g
  | args _ g => rw [hwx] at g; exact absurd hv.1 g
 ·have hp : pickU false x' y' = (x', y') := by unfold pickU; rw [if_neg (by simp [hk])]
  cases hr with
  | skip g => rw [hs] at g; cases g
  | same _ g => rw [hwx, hwy] at g; exact absurd g hv
  | occ _ _ g _ gw =>
   rw [hwx, hwy, hp] at g; cases g
   exact ⟨fun _ => ⟨rfl, rfl⟩, fun e => by rw [gw] at e; cases e⟩
  | bind _ _ g _ gw gr =>
   rw [hwx, hwy, hp] at g; cases g
   exact ⟨fun e => (by rw [gw] at e; cases e), fun e => ⟨gr, hbind _ _ hv hp hk gw, tmono _ ⟨_, rfl⟩, h.fa, h.sa⟩⟩
  | clash _ g => rw [hwx] at g; exact absurd hk g
  | args _ g => rw [hwx] at g; exact absurd hk g
 ·have hp : pickU false x' y' = (y', x') := by unfold pickU; rw [if_pos (by simp [hk, hkx])]
  cases hr with
  | skip g => rw [hs] at g; cases g
  | same _ g => rw [hwx, hwy] at g; exact absurd g hv
  | occ _ _ g _ gw =>
   rw [hwx, hwy, hp] at g; cases g
   exact ⟨fun _ => ⟨rfl, rfl⟩, fun e => by rw [gw] at e; cases e⟩
  | bind _ _ g _ gw gr =>
   rw [hwx, hwy, hp] at g; cases g
   exact ⟨fun e => (by rw [gw] at e; cases e), fun e => ⟨gr, hbind _ _ hv hp hk gw, tmono _ ⟨_, rfl⟩, h.fa, h.sa⟩⟩
  | clash _ _ g => rw [hwy] at g; exact absurd hk g
  | args _ _ g => rw [hwy] at g; exact absurd hk g
 ·have hp : pickU false x' y' = (x', y') := by unfold pickU; rw [if_neg (by simp [hky])]
  cases hr with
  | skip g => rw [hs] at g; cases g
  | same _ g => rw [hwx, hwy] at g; exact absurd g hv
  | occ _ _ g gk => rw [hwx, hwy, hp] at g; cases g; exact absurd gk hkx
  | bind _ _ g gk => rw [hwx, hwy, hp] at g; cases g; exact absurd gk hkx
  | clash _ _ _ g =>
   rw [hwx, hwy] at g
   exact ⟨fun _ => ⟨rfl, rfl⟩, fun e => by rw [g] at e; cases e⟩
  | args _ _ _ g gr =>
   rw [hwx, hwy] at g gr
   refine ⟨fun e => (by rw [g] at e; cases e), fun _ => ⟨?_, (hargs hkx hky).perm fun p hp => ?_, targs hkx, h.fa, h.sa⟩⟩
   ·rw [List.reverse_append]; exact gr
   ·rcases List.mem_append.1 hp with hp | hp
    ·exact List.mem_append.2 (.inr hp)
    ·exact List.mem_append.2 (.inl (ordU_mem.2 hp))
end
end Tm
end PSL

namespace PSL
open Go
namespace Tm

structure NeedI (B : Binds) (W : List Int) (R : List Int) (Q : Binds) : Prop where
 nodup : (Q.map (·.1)).Nodup
 look : ∀ b ∈ Q, findB B b.1 = some b.2
 all : ∀ v, (v ∈ W ∨ ∃ b ∈ Q, v ∈ occ b.2) → findB B v = none ∨ v ∈ Q.map (·.1) ∨ v ∈ R

theorem NeedI.first (B : Binds) (W : List Int) : NeedI B W W [] := ⟨by simp, by simp, fun v h => by
 rcases h with h | ⟨b, hb, _⟩
 ·exact .inr (.inr h)
 ·cases hb⟩

theorem NeedI.skip {B : Binds} {W R : List Int} {Q : Binds} {v : Int} (h : NeedI B W (v :: R) Q) (hv : findB B v = none ∨ v ∈ Q.map (·.1)) : NeedI B W R Q := ⟨h.nodup, h.look, fun u hu => by
 rcases h.all u hu with h1 | h1 | h1
 ·exact .inl h1
 ·exact .inr (.inl h1)
 ·rcases List.mem_cons.1 h1 with rfl | h1
  ·rcases hv with hv | hv
   ·exact .inl hv
   ·exact .inr (.inl hv)
  ·exact .inr (.inr h1)⟩

theorem NeedI.more {B : Binds} (hB : ∀ b ∈ B, b.2.fairR = true) {W R : List Int} {Q : Binds} {v : Int} {x : Tm} (h : NeedI B W (v :: R) Q) (hx : findB B v = some x) (hv : v ∉ Q.map (·.1)) : NeedI B W (R ++ varsT [x]) (Q ++ [(v, x)]) := by
 have hf : fairRL [x] = true := fairRL_iff.2 fun t ht => by
  rw [List.mem_singleton] at ht; subst ht; exact hB _ (findB_mem hx)
 refine ⟨?_, fun b hb => ?_, fun u hu => ?_⟩
 ·rw [List.map_append, List.nodup_append]
  refine ⟨h.nodup, by simp, fun a ha b hb => ?_⟩
  simp only [List.map_cons, List.map_nil, List.mem_singleton] at hb
  subst hb
  exact fun e => hv (e ▸ ha)
 ·rcases List.mem_append.1 hb with hb | hb
  ·exact h.look b hb
  ·rw [List.mem_singleton] at hb; subst hb; exact hx
 ·have key : (u ∈ W ∨ ∃ b ∈ Q, u ∈ occ b.2) ∨ u ∈ occ x := by
   rcases hu with hu | ⟨b, hb, hu⟩
   ·exact .inl (.inl hu)
   ·rcases List.mem_append.1 hb with hb | hb
    ·exact .inl (.inr ⟨b, hb, hu⟩)
    ·rw [List.mem_singleton] at hb; subst hb; exact .inr hu
  rcases key with hu | hu
  ·rcases h.all u hu with h1 | h1 | h1
   ·exact .inl h1
   ·exact .inr (.inl (by rw [List.map_append]; exact List.mem_append.2 (.inl h1)))
   ·rcases List.mem_cons.1 h1 with rfl | h1
    ·exact .inr (.inl (by rw [List.map_append]; exact List.mem_append.2 (.inr (by simp))))
    ·exact .inr (.inr (List.mem_append.2 (.inl h1)))
  ·refine .inr (.inr (List.mem_append.2 (.inr ((varsT_mem hf).2 ?_))))
   simpa [occL] using hu
theorem UG.sub_ {S : List Int} {N : Nat} {T : List (Tm × Tm)} {B : Binds} (h : UG S N T B) : Sub B B.length := h.sol.elim fun _ hs => sub_sol hs h.chain h.fairb

theorem UG.right {S : List Int} {N : Nat} (hN : N ≤ 100) {T : List (Tm × Tm)} {B : Binds} (h : UG S N T B) : rightS B = true := by
 refine rightS_of h.sub_ h.chain.nodup fun b hb => ?_
 obtain ⟨h1, h2, h3⟩ := h.fairb b hb
 have h4 := h.sb b hb
 have h5 := Tm.depth_le_size b.2
 exact ⟨h2, h3, Tm.rightB_iff.2 ⟨h1, by omega, by omega⟩⟩
end Tm
end PSL

namespace PSL
open Go
namespace Tm

theorem UG.nil (S : List Int) (N : Nat) : UG S N [] [] :=
 ⟨chainB.nil, fun b hb => (by cases hb), fun p hp => (by cases hp), fun p hp => (by cases hp), fun b hb => (by cases hb), ⟨vT, fun b hb => (by cases hb)⟩, fun b hb => (by cases hb), fun p hp => (by cases hp)⟩
end Tm
end PSL

namespace PSL
open Go
namespace Tm
end Tm
end PSL

namespace PSL
open Go

def mvIs (d : Int) (x : Is) : Is := if x.op = 14 ∨ x.op = 16 then ⟨x.op, x.v, x.n + d, x.s⟩ else x

theorem mvIs_facts (d : Int) (x : Is) : (mvIs d x).op = x.op ∧ (mvIs d x).v = x.v ∧ (mvIs d x).s = x.s ∧ (mvIs d x).n = if x.op = 14 ∨ x.op = 16 then x.n + d else x.n := by
 unfold mvIs; split <;> exact ⟨rfl, rfl, rfl, rfl⟩
def noJmp (l : List Is) : Prop := ∀ x ∈ l, x.op ≠ 14 ∧ x.op ≠ 16
theorem noJmp_app {a b : List Is} (ha : noJmp a) (hb : noJmp b) : noJmp (a ++ b) := fun x hx => (List.mem_append.1 hx).elim (ha x) (hb x)

theorem mv_stay {l : List Is} (d : Int) (h : noJmp l) : l.map (mvIs d) = l := by
 induction l with
 | nil => rfl
 | cons x r ih =>
  have hx := h x List.mem_cons_self
  rw [List.map_cons, ih fun y hy => h y (List.mem_cons_of_mem _ hy)]
  congr 1
  unfold mvIs; rw [if_neg (by omega)]

theorem noJmp_one {o v n : Int} {s : ByteArray} (h : o ≠ 14 ∧ o ≠ 16) : noJmp [⟨o, v, n, s⟩] := fun x hx => by
 rw [List.mem_singleton] at hx; subst hx; exact h

mutual
theorem headG_no : ∀ (t : Tm) (met : List Int), noJmp (headG t met).1
 | .mk k s n l, met => by
  rw [headG]
  split
  ·refine noJmp_one ?_
   split <;> decide
  ·split
   ·exact noJmp_one (by decide)
   ·intro x hx
    rcases List.mem_cons.1 hx with rfl | hx
    ·exact (by decide : (4 : Int) ≠ 14 ∧ (4 : Int) ≠ 16)
    ·exact headGL_no l met x hx
theorem headGL_no : ∀ (l : List Tm) (met : List Int), noJmp (headGL l met).1
 | [], met => fun x hx => by rw [headGL] at hx; cases hx
 | t :: r, met => by
  rw [headGL]
  exact noJmp_app (headG_no t met) (headGL_no r _)
end

mutual
theorem putG_no : ∀ t : Tm, noJmp (putG t)
 | .mk k s n l => by
  rw [putG]
  refine noJmp_app (putGL_no l) ?_
  unfold instG
  split
  ·exact noJmp_one (by decide)
  ·split
   ·exact noJmp_one (by decide)
   ·exact noJmp_one (by decide)
theorem putGL_no : ∀ l : List Tm, noJmp (putGL l)
 | [] => fun x hx => by rw [putGL] at hx; cases hx
 | t :: r => by
  rw [putGL]
  exact noJmp_app (putG_no t) (putGL_no r)
end

theorem freshG_no (met : List Int) (n : Nat) : noJmp (freshG met n) := fun x hx => by
 unfold freshG at hx
 obtain ⟨v, _, rfl⟩ := List.mem_map.1 hx
 exact (by decide : (5 : Int) ≠ 14 ∧ (5 : Int) ≠ 16)
theorem asksG_no (op : Int) (h : op ≠ 14 ∧ op ≠ 16) (t : Tm) : noJmp (asksG op t) := noJmp_app (putGL_no _) (noJmp_one h)

theorem notCode_mv (at_ d : Nat) (v : Int) (A : List Is) : notCode (at_ + d) v (A.map (mvIs d)) = (notCode at_ v A).map (mvIs d) := by
 unfold notCode
 simp only [List.map_append, List.map_cons, List.map_nil, List.length_map]
 have h1 : mvIs d ⟨13, v, 0, e0⟩ = ⟨13, v, 0, e0⟩ := rfl
 have h2 : mvIs d ⟨15, v, 0, e0⟩ = ⟨15, v, 0, e0⟩ := rfl
 have h3 : mvIs d ⟨17, 0, 0, e0⟩ = ⟨17, 0, 0, e0⟩ := rfl
 have h4 : ∀ n : Int, mvIs d ⟨14, 0, n, e0⟩ = ⟨14, 0, n + d, e0⟩ := fun _ => rfl
 rw [h1, h2, h3, h4]
 congr 5
 omega

theorem ifCode_mv (at_ d : Nat) (v : Int) (A B C : List Is) : ifCode (at_ + d) v (A.map (mvIs d)) (B.map (mvIs d)) (C.map (mvIs d)) = (ifCode at_ v A B C).map (mvIs d) := by
 unfold ifCode
 simp only [List.map_append, List.map_cons, List.map_nil, List.length_map]
 have h1 : mvIs d ⟨13, v, 0, e0⟩ = ⟨13, v, 0, e0⟩ := rfl
 have h2 : mvIs d ⟨15, v, 0, e0⟩ = ⟨15, v, 0, e0⟩ := rfl
 have h4 : ∀ n : Int, mvIs d ⟨14, 0, n, e0⟩ = ⟨14, 0, n + d, e0⟩ := fun _ => rfl
 have h5 : ∀ n : Int, mvIs d ⟨16, 0, n, e0⟩ = ⟨16, 0, n + d, e0⟩ := fun _ => rfl
 rw [h1, h2, h4, h5]
 have e1 : ((at_ + d + 2 + A.length + 1 + B.length + 1 : Nat) : Int) = ((at_ + 2 + A.length + 1 + B.length + 1 : Nat) : Int) + d := by omega
 have e2 : ((at_ + d + 2 + A.length + 1 + B.length + 1 + C.length : Nat) : Int) = ((at_ + 2 + A.length + 1 + B.length + 1 + C.length : Nat) : Int) + d := by omega
 rw [e1, e2]

mutual
theorem golD_mv : ∀ (g : Gl) (at_ d : Nat) (v : Int), golD g (at_ + d) v = (golD g at_ v).map (mvIs d)
 | .mk k t a b c, at_, d, v => by
  have ha := golDL_mv a (at_ + 2) d (v + 1)
  rw [show at_ + 2 + d = at_ + d + 2 by omega] at ha
  rw [golD, golD]
  dsimp only
  rw [ha]
  generalize golDL a (at_ + 2) (v + 1) = A at *
  have hb := golDL_mv b (at_ + 2 + A.length + 1) d (v + 1 + testsGL a)
  rw [show at_ + 2 + A.length + 1 + d = at_ + d + 2 + A.length + 1 by omega] at hb
  rw [List.length_map, hb]
  generalize golDL b (at_ + 2 + A.length + 1) (v + 1 + testsGL a) = B at *
  have hc := golDL_mv c (at_ + 2 + A.length + 1 + B.length + 1) d (v + 1 + testsGL a + testsGL b)
  rw [show at_ + 2 + A.length + 1 + B.length + 1 + d = at_ + d + 2 + A.length + 1 + B.length + 1 by omega] at hc
  rw [List.length_map, hc]
  by_cases h1 : k = 1 ∨ k = 2
  ·rw [if_pos h1, if_pos h1, mv_stay d (asksG_no (8 + k) (by omega) t)]
  rw [if_neg h1, if_neg h1]
  by_cases h3 : k = 3
  ·rw [if_pos h3, if_pos h3]; rfl
  rw [if_neg h3, if_neg h3]
  by_cases h5 : k = 5
  ·rw [if_pos h5, if_pos h5, notCode_mv]
  ·rw [if_neg h5, if_neg h5, ifCode_mv]
theorem golDL_mv : ∀ (l : List Gl) (at_ d : Nat) (v : Int), golDL l (at_ + d) v = (golDL l at_ v).map (mvIs d)
 | [], _, _, _ => by rw [golDL, golDL]; rfl
 | g :: r, at_, d, v => by
  have h1 := golD_mv g at_ d v
  have h2 := golDL_mv r (at_ + (golD g at_ v).length) d (v + testsG g)
  rw [golDL, golDL, h1, List.map_append, List.length_map, ← h2, show at_ + d + (golD g at_ v).length = at_ + (golD g at_ v).length + d by omega]
end
theorem clsH_no (c : Cs) : noJmp (clsH c) := noJmp_app (headGL_no _ _) (freshG_no _ _)

theorem clsC_mv (c : Cs) (at_ : Nat) : clsC c at_ = (clsC c 0).map (mvIs at_) := by
 unfold clsC
 rw [List.map_append, List.map_append, mv_stay at_ (clsH_no c), Nat.zero_add, Nat.add_comm at_, golDL_mv]; rfl

def jmpIn (N : Int) (l : List Is) : Prop := ∀ x ∈ l, x.op = 14 ∨ x.op = 16 → 0 ≤ x.n ∧ x.n ≤ N
theorem jmpIn_app {N : Int} {a b : List Is} (ha : jmpIn N a) (hb : jmpIn N b) : jmpIn N (a ++ b) := fun x hx => (List.mem_append.1 hx).elim (ha x) (hb x)
theorem jmpIn_no {N : Int} {l : List Is} (h : noJmp l) : jmpIn N l := fun x hx hj => by have := h x hx; omega

theorem jmpIn_one {N o v n : Int} {s : ByteArray} (h : 0 ≤ n ∧ n ≤ N) : jmpIn N [⟨o, v, n, s⟩] := fun x hx _ => by
 rw [List.mem_singleton] at hx; subst hx; exact h

mutual
theorem golD_jmp : ∀ (g : Gl) (at_ : Nat) (v N : Int), (at_ : Int) + (golD g at_ v).length ≤ N → jmpIn N (golD g at_ v)
 | .mk k t a b c, at_, v, N => by
  have ha := golDL_jmp a (at_ + 2) (v + 1) N
  rw [golD]
  dsimp only
  generalize golDL a (at_ + 2) (v + 1) = A at *
  have hb := golDL_jmp b (at_ + 2 + A.length + 1) (v + 1 + testsGL a) N
  generalize golDL b (at_ + 2 + A.length + 1) (v + 1 + testsGL a) = B at *
  have hc := golDL_jmp c (at_ + 2 + A.length + 1 + B.length + 1) (v + 1 + testsGL a + testsGL b) N
  generalize golDL c (at_ + 2 + A.length + 1 + B.length + 1) (v + 1 + testsGL a + testsGL b) = C at *
  by_cases h1 : k = 1 ∨ k = 2
  ·rw [if_pos h1]; intro _; exact jmpIn_no (asksG_no (8 + k) (by omega) t)
  rw [if_neg h1]
  by_cases h3 : k = 3
  ·rw [if_pos h3]; intro _; exact jmpIn_no (noJmp_one (by decide))
  rw [if_neg h3]
  by_cases h5 : k = 5
  ·rw [if_pos h5]
   unfold notCode
   intro hN
   simp only [List.length_append, List.length_cons, List.length_nil] at hN
   refine jmpIn_app (jmpIn_app ?_ (ha (by omega))) (jmpIn_no (noJmp_app (a := [⟨15, v, 0, e0⟩]) (noJmp_one (by decide)) (noJmp_one (by decide))))
   exact jmpIn_app (a := [⟨13, v, 0, e0⟩]) (jmpIn_no (noJmp_one (by decide))) (jmpIn_one ⟨by omega, by omega⟩)
  ·rw [if_neg h5]
   unfold ifCode
   intro hN
   simp only [List.length_append, List.length_cons, List.length_nil] at hN
   refine jmpIn_app (jmpIn_app (jmpIn_app (jmpIn_app (jmpIn_app ?_ (ha (by omega))) (jmpIn_no (noJmp_one (by decide)))) (hb (by omega))) (jmpIn_one ⟨by omega, by omega⟩)) (hc (by omega))
   exact jmpIn_app (a := [⟨13, v, 0, e0⟩]) (jmpIn_no (noJmp_one (by decide))) (jmpIn_one ⟨by omega, by omega⟩)
theorem golDL_jmp : ∀ (l : List Gl) (at_ : Nat) (v N : Int), (at_ : Int) + (golDL l at_ v).length ≤ N → jmpIn N (golDL l at_ v)
 | [], _, _, _, _ => fun x hx => by rw [golDL] at hx; cases hx
 | g :: r, at_, v, N, h => by
  rw [golDL] at h ⊢
  rw [List.length_append] at h
  exact jmpIn_app (golD_jmp g at_ v N (by omega)) (golDL_jmp r _ _ N (by omega))
end

theorem clsC_jmp (c : Cs) (at_ : Nat) (N : Int) (h : (at_ : Int) + (clsC c at_).length ≤ N) : jmpIn N (clsC c at_) := by
 unfold clsC at h ⊢
 simp only [List.length_append, List.length_singleton] at h
 exact jmpIn_app (jmpIn_app (jmpIn_no (clsH_no c)) (golDL_jmp _ _ _ _ (by omega))) (jmpIn_no (noJmp_one (by decide)))
end PSL
namespace PSL
open Go
section
variable {ty : Nat → Option Ty} {T B : Nat} {n : Nat} {τ : Ty} {row : List D} {a : AV}
end
end PSL

namespace PSL
open Go
end PSL

namespace Go.Proofs.YtcgkgofmldhokaaGreat
open Go PSL Go.Proofs
def pfQry : Nat → Cls := fun f => bif Nat.beq f 4000200004 then .turn 101 else bif Nat.beq f 4000100081 then .look 102 else .eff
theorem vT_entQ (v : Int) : Ent (.d (.sl [[.v (.int .i64 1), .v (.string ByteArray.empty), .v (.int .i64 v), .v (.slice none 0 0)]])) (.d (.sl [[.v (.int .i64 1), .v (.string ByteArray.empty), .v (.int .i64 v), .sl []]])) := fun _ _ _ _ h => aLe_ok (by simp [aLe, dLe, rowLe, rowsLe, vLe, kEq, Tm.strEq_iff]) h

set_option maxHeartbeats 4000000 in
set_option maxRecDepth 100000 in
theorem query_ok (S0 : Bs) (hS : S0.length ≤ 9000) {x : Clau} {q : Int} (h : clauR rightT false S0 = some ([x], q, 0)) (hnc : noCh x.1 = true) (p : List Cs) (hp : ∀ c ∈ p, SmC c) (hpl : p.length ≤ 1000000) (hck : (checkR p).2 = 0) (hg0 : (goalsT x.1).2 = 0) (h8 : x.2.length ≤ 8) (hth : thereL (hasH p) (goalsT x.1).1 = true) :
  PCtr Tryz.prog 30 [txA S0, prV p] (.tup [(qryC x).av, .d (.sl (strRows x.2)), iV 0, iV 0]) := by
 obtain ⟨_, f2, _, _⟩ := clau_facts hS h
 have hx := (f2 rfl).2 x (by simp)
 have hs := smT_right hx.right
 have h3 := (Tm.rightB_iff.1 hx.right).2.1
 have hc1 := check_ok p hp
 rw [hck] at hc1
 have hone := oneT_ok9 S0 hS h
 rw [show oneR S0.length ([x], q, 0) = (x, 0, 0) from rfl] at hone
 have hgo := goals_ok x.1 hs hnc
 rw [hg0] at hgo
 have hsz : Gl.sizeL (goalsT x.1).1 ≤ 1000000 := by
  obtain ⟨_, g2, _⟩ := golF_ok x.1.size x.1 (20, 0) 1 true hs
  unfold goalsT
  split
  ·split
   ·simp [Gl.sizeL]
   ·simp only; omega
  ·simp [Gl.sizeL]
 have hto := theres_ok (goalsT x.1).1 p hsz hpl
 rw [hth] at hto
 have hrn := strRows_len x.2
 unfold qryC
 generalize (goalsT x.1).1 = B at *
 refine PCtr.of_R (pf := pfQry) tyOk mixed Tryz.func30 rfl (by kernel_rfl) (by kernel_rfl) (by simp [Tryz.ntmps30]) fun w S hg => ?_
 refine R_run hg.ok 1000 rfl rfl ?_
 refine R_call hg.ok (hc1) rfl rfl rfl rfl rfl rfl ?_
 refine R_run hg.ok 1000 rfl rfl ?_
 refine R_if rfl rfl (fun h => absurd h (by simp)) (fun _ => ?_) <;> refine R_run hg.ok 1000 rfl rfl ?_
 refine R_call hg.ok (hone) rfl rfl rfl rfl rfl rfl ?_
 refine R_run hg.ok 1000 rfl rfl ?_
 refine R_if rfl rfl (fun h => absurd h (by simp)) (fun _ => ?_) <;> refine R_run hg.ok 1000 rfl rfl ?_
 refine R_call hg.ok (hgo) rfl rfl rfl rfl rfl rfl ?_
 refine R_run hg.ok 1000 rfl rfl ?_
 refine R_if rfl rfl (fun h => absurd h (by simp)) (fun _ => ?_) <;> refine R_run hg.ok 1000 rfl rfl ?_
 rw [hrn]
 refine R_if rfl rfl (fun h => absurd (of_decide_eq_true h) (by omega)) (fun _ => ?_) <;> refine R_run hg.ok 1000 rfl rfl ?_
 refine R_call hg.ok (hto) rfl rfl rfl rfl rfl rfl ?_
 refine R_run hg.ok 1000 rfl rfl ?_
 refine R_if rfl rfl (fun h => absurd h (by simp)) (fun _ => ?_) <;> refine R_run hg.ok 1000 rfl rfl ?_
 refine R_ownB 3 3 4 rfl rfl rfl ?_
 refine R_loop (fun y : Nat × Nat => ([(4, .lo 1 0), (10, .lo 2 0), (13, .lo 3 0), (66, iV x.2.length), (67, iV y.1)], [.box [.d (.sl (Cs.rows p))], .box [.d (.v (.int .i64 0)), .d (.v (.string ByteArray.empty)), .d (.v (.int .i64 0)), .d (.v (.slice none 0 0)), .d (.v (.slice none 0 0)), .d (.v (.int .i64 0))], clB x, .box [.d (.v (.int .i64 3)), .d (.v (.string (Tx [63]))), .d (.v (.int .i64 0)), .ow 4 y.2, .d (.sl (Gl.rows B)), .d (.v (.int .i64 x.2.length))], .arr 4 y.2 (Tm.rows (varL y.1))])) (fun y => y.1 ≤ x.2.length) (fun y => x.2.length - y.1) (0, 0) (Nat.zero_le _) ⟨.refl _, .refl _, .refl _, .refl _, .refl _, trivial⟩ rfl ?_
 rintro ⟨k, s⟩ hk
 have hk : k ≤ x.2.length := hk
 refine R_run hg.ok 1000 rfl rfl ?_
 refine R_if rfl rfl (fun h => ?_) (fun h => ?_)
 ·refine R_run hg.ok 1000 rfl rfl ?_
  have hk1 : k < x.2.length := lt_dec h rfl
  refine R_see 75 rfl ((Ent.fs _).trans (vT_entQ (k : Int))) ?_
  refine R_appendO hg.ok (Tm.rows (varL (k + 1))) rfl rfl rfl rfl rfl rfl rfl rfl rfl (by simp) (by simp [one1]) (by rw [← varL_snoc, Tm.rows_eq, Tm.rows_eq, List.map_append]; rfl) (by rw [Tm.rows_length, varL_len]; simp; omega) (by rw [Tm.rows_length, varL_len]; simp; omega) ?_
  refine R_run hg.ok 1000 rfl rfl ?_
  exact R_next (k + 1, Nat.succ s) hk1 (by simp only; omega) ⟨.refl _, .refl _, .refl _, .refl _, Ent.wrap (by simp only; omega) (by simp only; omega) (by simp only; omega), trivial⟩ rfl
 ·have hk1 : x.2.length ≤ k := ge_dec h rfl
  have hke : k = x.2.length := by omega
  subst hke
  refine R_freezeO hg.gup 4 [(4, .lo 1 0), (10, .lo 2 0), (13, .lo 3 0), (68, .ff)] [.box [.d (.sl (Cs.rows p))], .box [.d (.v (.int .i64 0)), .d (.v (.string ByteArray.empty)), .d (.v (.int .i64 0)), .d (.v (.slice none 0 0)), .d (.v (.slice none 0 0)), .d (.v (.int .i64 0))], clB x, .box [.d (.v (.int .i64 3)), .d (.v (.string (Tx [63]))), .d (.v (.int .i64 0)), .d (.sl (Tm.rows (varL x.2.length))), .d (.sl (Gl.rows B)), .d (.v (.int .i64 x.2.length))], .dead] rfl rfl ⟨.refl _, .refl _, .refl _, .refl _, trivial⟩ ⟨⟨.refl _, trivial⟩, ⟨.refl _, .refl _, .refl _, .refl _, .refl _, .refl _, trivial⟩, ⟨.refl _, .refl _, .refl _, .refl _, .refl _, trivial⟩, ⟨.refl _, .refl _, .refl _, Ent.frz 4 s _, .refl _, .refl _, trivial⟩, trivial, trivial⟩ ?_
  refine R_run hg.ok 1000 rfl rfl ?_
  refine R_loadJ hg.ok 101 (by rintro (⟨h, _⟩ | h | ⟨h, _⟩) <;> omega) rfl rfl rfl rfl rfl rfl rfl ?_
  refine R_run hg.ok 1000 rfl rfl ?_
  refine R_storeJ hg.ok rfl rfl rfl rfl rfl rfl rfl rfl rfl ?_
  refine R_run hg.ok 1000 rfl rfl ?_
  refine R_ret hg 5 rfl rfl ?_
  rfl
end Go.Proofs.YtcgkgofmldhokaaGreat

namespace Go.Proofs.YtcgkgofmldhokaaGreat
open Go PSL Go.Proofs
end Go.Proofs.YtcgkgofmldhokaaGreat

namespace Go.Proofs.YtcgkgofmldhokaaGreat
open Go PSL Go.Proofs
end Go.Proofs.YtcgkgofmldhokaaGreat

namespace Go.Proofs.YtcgkgofmldhokaaGreat
open Go PSL Go.Proofs
def okT (ok : Bool) (t : Tm) : Tm := if ok then t else zeroT
end Go.Proofs.YtcgkgofmldhokaaGreat

namespace PSL
open Go Go.RowKit Go.MapKept
section
variable {g : G} {pf : Nat → Cls} {ops : Array Oper} {Fin : Exit → Act → World → Prop}
end
end PSL

namespace Go.Proofs.YtcgkgofmldhokaaGreat
open Go PSL Go.Proofs
end Go.Proofs.YtcgkgofmldhokaaGreat

namespace Go.Proofs.YtcgkgofmldhokaaGreat
open Go PSL Go.Proofs
end Go.Proofs.YtcgkgofmldhokaaGreat

namespace Go.Proofs.YtcgkgofmldhokaaGreat
open Go PSL Go.Proofs
theorem rows_snoc (l : List Tm) (x : Tm) : Tm.rows l ++ [[.v (.int .i64 x.k), .v (.string x.s), .v (.int .i64 x.n), .sl (Tm.rows x.l)]] = Tm.rows (l ++ [x]) := by simp [Tm.rows_eq, Tm.row]
end Go.Proofs.YtcgkgofmldhokaaGreat

namespace Go.Proofs.YtcgkgofmldhokaaGreat
open Go PSL Go.Proofs
end Go.Proofs.YtcgkgofmldhokaaGreat

namespace Go.Proofs.YtcgkgofmldhokaaGreat
open Go PSL Go.Proofs
end Go.Proofs.YtcgkgofmldhokaaGreat

namespace PSL
open Go Go.RowKit
section
variable {g : G} {pf : Nat → Cls} {ops : Array Oper} {Fin : Exit → Act → World → Prop}
end
end PSL

namespace Go.Proofs.YtcgkgofmldhokaaGreat
open Go PSL Go.Proofs
end Go.Proofs.YtcgkgofmldhokaaGreat

namespace Go.Proofs.YtcgkgofmldhokaaGreat
open Go PSL Go.Proofs
end Go.Proofs.YtcgkgofmldhokaaGreat

namespace Go.Proofs.YtcgkgofmldhokaaGreat
open Go PSL Go.Proofs
end Go.Proofs.YtcgkgofmldhokaaGreat

namespace Go.Proofs.YtcgkgofmldhokaaGreat
open Go PSL Go.Proofs
end Go.Proofs.YtcgkgofmldhokaaGreat

namespace Go.Proofs.YtcgkgofmldhokaaGreat
open Go PSL Go.Proofs
end Go.Proofs.YtcgkgofmldhokaaGreat

namespace Go.Proofs.YtcgkgofmldhokaaGreat
open Go PSL Go.Proofs
end Go.Proofs.YtcgkgofmldhokaaGreat

namespace Go.Proofs.YtcgkgofmldhokaaGreat
open Go PSL Go.Proofs
end Go.Proofs.YtcgkgofmldhokaaGreat

namespace Go.Proofs.YtcgkgofmldhokaaGreat
open Go PSL Go.Proofs
end Go.Proofs.YtcgkgofmldhokaaGreat

namespace Go.Proofs.YtcgkgofmldhokaaGreat
open Go PSL Go.Proofs
end Go.Proofs.YtcgkgofmldhokaaGreat

namespace Go.Proofs.YtcgkgofmldhokaaGreat
open Go PSL Go.Proofs
end Go.Proofs.YtcgkgofmldhokaaGreat

namespace Go.Proofs.YtcgkgofmldhokaaGreat
open Go PSL Go.Proofs
end Go.Proofs.YtcgkgofmldhokaaGreat

namespace Go.Proofs.YtcgkgofmldhokaaGreat
open Go PSL Go.Proofs
end Go.Proofs.YtcgkgofmldhokaaGreat

namespace Go.Proofs.YtcgkgofmldhokaaGreat
open Go PSL Go.Proofs
end Go.Proofs.YtcgkgofmldhokaaGreat

namespace Go.Proofs.YtcgkgofmldhokaaGreat
open Go PSL Go.Proofs
end Go.Proofs.YtcgkgofmldhokaaGreat

namespace PSL
open Go Go.RowKit Go.MapKept
section
variable {g : G} {pf : Nat → Cls} {ops : Array Oper} {Fin : Exit → Act → World → Prop}
end
end PSL

namespace Go.Proofs.YtcgkgofmldhokaaGreat
open Go PSL Go.Proofs
end Go.Proofs.YtcgkgofmldhokaaGreat

namespace Go.Proofs.YtcgkgofmldhokaaGreat
open Go PSL Go.Proofs
end Go.Proofs.YtcgkgofmldhokaaGreat

namespace Go.Proofs.YtcgkgofmldhokaaGreat
open Go PSL Go.Proofs
end Go.Proofs.YtcgkgofmldhokaaGreat

namespace Go.Proofs.YtcgkgofmldhokaaGreat
open Go PSL Go.Proofs
def kyV (k : Ky) : Value := .agg #[.int .i64 k.kind, .int .i64 k.n, .string k.s]
def kyEqB (a b : Ky) : Bool := (a.kind == b.kind) && (a.n == b.n) && strEq a.s b.s
def isV (x : Is) : Value := .agg #[.int .i64 x.op, .int .i64 x.v, .int .i64 x.n, .string x.s]
def isEqB (a b : Is) : Bool := (a.op == b.op) && (a.v == b.v) && (a.n == b.n) && strEq a.s b.s

theorem kyEqual (d : Nat) (a b : Ky) (w : World) : (Op.equalIn (d + 1 + 1) 48 (kyV a) (kyV b)).run Tryz.prog w = .ok (kyEqB a b) w := by
 obtain ⟨k, n, s⟩ := a
 obtain ⟨k', n', s'⟩ := b
 unfold kyV kyEqB
 rw [run_equalIn_agg w (d + 1) 48 _ _ (by rw [Program.fieldsOf, Tryz.underlying48]) Tryz.stoodInHeld48]
 rw [Program.fieldsOf, Tryz.underlying48]
 simp [Op.eqFields, part, run_equalIn_int _ _ _ _ _ _ _ Tryz.underlying3, run_equalIn_string _ _ _ _ _ Tryz.underlying9]
 by_cases h1 : k = k'
 ·by_cases h2 : n = n'
  ·by_cases h3 : s = s'
   ·simp [h1, h2, h3, strEq]
   ·have h4 : ¬ s.toList = s'.toList := fun e => h3 (Tm.strEq_iff.1 (by simp [strEq, e]))
    simp [h1, h2, strEq, h4, h3]
  ·simp [h1, h2]
 ·simp [h1]

theorem isEqual (d : Nat) (a b : Is) (w : World) : (Op.equalIn (d + 1 + 1) 86 (isV a) (isV b)).run Tryz.prog w = .ok (isEqB a b) w := by
 obtain ⟨o, k, n, s⟩ := a
 obtain ⟨o', k', n', s'⟩ := b
 unfold isV isEqB
 rw [run_equalIn_agg w (d + 1) 86 _ _ (by rw [Program.fieldsOf, Tryz.underlying86]) Tryz.stoodInHeld86]
 rw [Program.fieldsOf, Tryz.underlying86]
 simp [Op.eqFields, part, run_equalIn_int _ _ _ _ _ _ _ Tryz.underlying3, run_equalIn_string _ _ _ _ _ Tryz.underlying9]
 by_cases h0 : o = o'
 ·by_cases h1 : k = k'
  ·by_cases h2 : n = n'
   ·by_cases h3 : s = s'
    ·simp [h0, h1, h2, h3, strEq]
    ·have h4 : ¬ s.toList = s'.toList := fun e => h3 (Tm.strEq_iff.1 (by simp [strEq, e]))
     simp [h0, h1, h2, strEq, h4, h3]
   ·simp [h0, h1, h2]
  ·simp [h0, h1]
 ·simp [h0]

theorem kyEql (x y : Operand) (a b : Ky) (w : World) : ((do eqGuard .eql 48 x y (kyV a) (kyV b); binOp .eql 48 (kyV a) (kyV b)) : Sem Value).run Tryz.prog w = .ok (.bool (kyEqB a b)) w := by
 have h := kyEqual 9998 a b w
 unfold kyV at h ⊢
 simp only [Sem.run_bind]
 rw [run_eqGuard_agg _ _ _ _ _ _ _ Tryz.eqGuardType48]
 simp only [Result.andThen_ok]
 rw [run_eql_struct, h]
 rfl

theorem isEql (x y : Operand) (a b : Is) (w : World) : ((do eqGuard .eql 86 x y (isV a) (isV b); binOp .eql 86 (isV a) (isV b)) : Sem Value).run Tryz.prog w = .ok (.bool (isEqB a b)) w := by
 have h := isEqual 9998 a b w
 unfold isV at h ⊢
 simp only [Sem.run_bind]
 rw [run_eqGuard_agg _ _ _ _ _ _ _ Tryz.eqGuardType86]
 simp only [Result.andThen_ok]
 rw [run_eql_struct, h]
 rfl
end Go.Proofs.YtcgkgofmldhokaaGreat

namespace Go.Proofs.YtcgkgofmldhokaaGreat
open Go PSL Go.Proofs
end Go.Proofs.YtcgkgofmldhokaaGreat

namespace Go.Proofs.YtcgkgofmldhokaaGreat
open Go PSL Go.Proofs
end Go.Proofs.YtcgkgofmldhokaaGreat

namespace Go.Proofs.YtcgkgofmldhokaaGreat
open Go PSL Go.Proofs
end Go.Proofs.YtcgkgofmldhokaaGreat

namespace Go.Proofs.YtcgkgofmldhokaaGreat
open Go PSL Go.Proofs
def sgR (l : List Sg) : List (List D) := l.map fun p => [.v (.string p.1), .v (.int .i64 p.2)]
end Go.Proofs.YtcgkgofmldhokaaGreat

namespace Go.Proofs.YtcgkgofmldhokaaGreat
open Go PSL Go.Proofs
end Go.Proofs.YtcgkgofmldhokaaGreat

namespace Go.Proofs.YtcgkgofmldhokaaGreat
open Go PSL Go.Proofs
end Go.Proofs.YtcgkgofmldhokaaGreat

namespace Go.Proofs.YtcgkgofmldhokaaGreat
open Go PSL Go.Proofs
end Go.Proofs.YtcgkgofmldhokaaGreat

namespace Go.Proofs.YtcgkgofmldhokaaGreat
open Go PSL Go.Proofs
end Go.Proofs.YtcgkgofmldhokaaGreat

namespace Go.Proofs.YtcgkgofmldhokaaGreat
open Go PSL Go.Proofs
end Go.Proofs.YtcgkgofmldhokaaGreat

namespace PSL
open Go Go.RowKit
section
variable {g : G} {pf : Nat → Cls} {ops : Array Oper}
end
section
variable {g : G} {pf : Nat → Cls} {ops : Array Oper} {Fin : Exit → Act → World → Prop}
end
end PSL
namespace PSL
open Go Go.RowKit

def DEnt (x y : D) : Prop := ∀ (S : Nat → Prop) (w : World) (v : Value), Rd S w x v → Rd S w y v

def RowEnt : List D → List D → Prop
 | [], [] => True
 | x :: r, y :: t => DEnt x y ∧ RowEnt r t
 | _, _ => False
theorem DEnt.refl (x : D) : DEnt x x := fun _ _ _ h => h
theorem DEnt.nil : DEnt (.v (.slice none 0 0)) (.sl []) := fun S w v h => by cases h; exact .nil _ _

theorem RowEnt.len : ∀ {r t : List D}, RowEnt r t → r.length = t.length
 | [], [], _ => rfl
 | _ :: _, _ :: _, h => by simp [RowEnt.len h.2]
 | [], _ :: _, h => h.elim
 | _ :: _, [], h => h.elim

theorem RowEnt.get : ∀ {r t : List D} {j : Nat} {y : D}, RowEnt r t → t[j]? = some y → ∃ x, r[j]? = some x ∧ DEnt x y
 | [], [], j, y, _, hj => by simp at hj
 | x :: r, z :: t, 0, y, h, hj => by
  simp only [List.getElem?_cons_zero, Option.some.injEq] at hj
  subst hj; exact ⟨x, rfl, h.1⟩
 | x :: r, z :: t, j + 1, y, h, hj => by
  simp only [List.getElem?_cons_succ] at hj ⊢
  exact RowEnt.get h.2 hj
 | [], _ :: _, _, _, h, _ => h.elim
 | _ :: _, [], _, _, h, _ => h.elim

theorem Ent.row1 {row row' : List D} (h : RowEnt row row') : Ent (.fs [row]) (.d (.sl [row'])) := fun S w φ v hv => by
 have hv := Ent.fs [row] S w φ v hv
 simp only [RV] at hv ⊢
 cases hv with
 | @sl _ b o cap sz cs T fr g hS hb hl hc hsz hg hr =>
  refine .sl (sz := sz) g hS hb hl hc (fun i r hi => ?_) (fun i r j x hi hj => ?_) (fun i r j x hi hj => ?_)
  ·cases i with
   | zero => cases hi; rw [← h.len]; exact hsz 0 row rfl
   | succ i => simp at hi
  ·cases i with
   | zero =>
    cases hi
    obtain ⟨x', h1, h2⟩ := h.get hj
    exact hg 0 row j x' rfl h1
   | succ i => simp at hi
  ·cases i with
   | zero =>
    cases hi
    obtain ⟨x', h1, h2⟩ := h.get hj
    exact h2 _ _ _ (hr 0 row j x' rfl h1)
   | succ i => simp at hi
end PSL

namespace Go.Proofs.YtcgkgofmldhokaaGreat
open Go PSL Go.Proofs
end Go.Proofs.YtcgkgofmldhokaaGreat

namespace Go.Proofs.YtcgkgofmldhokaaGreat
open Go PSL Go.Proofs
end Go.Proofs.YtcgkgofmldhokaaGreat

namespace Go.Proofs.YtcgkgofmldhokaaGreat
open Go PSL Go.Proofs
end Go.Proofs.YtcgkgofmldhokaaGreat

namespace Go.Proofs.YtcgkgofmldhokaaGreat
open Go PSL Go.Proofs
end Go.Proofs.YtcgkgofmldhokaaGreat

namespace PSL
open Go Go.RowKit

def plain2 : Op → Bool
 | .call { callee := .builtin .append, .. } => true
 | .build .. => true
 | .buildSlice .. => true
 | o => plainOp o

theorem plain2_sem {o : Oper} (h : plain2 o.op = true) (ro : Option Nat) (ρ : Operand → Value) (P : Program) (w : World) : (∃ v w', (o.semAt ro ρ).run P w = .ok (.value v) w') ∨ (∃ x w', (o.semAt ro ρ).run P w = .halt x w') := by
 have key : ∀ s : Sem Value, (∃ v w', (do pure (Next.value (← s)) : Sem Next).run P w = .ok (.value v) w') ∨ (∃ x w', (do pure (Next.value (← s)) : Sem Next).run P w = .halt x w') := fun s => by
  rw [Sem.run_bind]
  cases s.run P w with
  | ok v w' => exact .inl ⟨v, w', rfl⟩
  | halt x w' => exact .inr ⟨x, w', rfl⟩
 have e : o.semAt ro ρ = execOp ρ o := Oper.semAt_eq ro ρ o (fun c hc => by rw [hc] at h; cases h)
 rw [e]
 unfold execOp
 cases ho : o.op <;> rw [ho] at h
 case call c =>
  obtain ⟨cal, args, ts⟩ := c
  cases cal
  case builtin b =>
   cases b <;> first
    | (cases h; done)
    | (simp only [resolve, Sem.run_bind, Sem.run_pure, Result.andThen_ok, invoke, builtin]
       first
       | (have := key (Builtin.len_ ts o.type (args.map ρ)); simp only [Sem.run_bind] at this; exact this)
       | (have := key (Builtin.append_ ts o.type (args.map ρ)); simp only [Sem.run_bind] at this; exact this)
       | exact key _)
  all_goals cases h
 case nilCheck x =>
  have hp : (∃ v w', (runtimePanic .nilDeref : Sem Next).run P w = .ok (.value v) w') ∨ (∃ x w', (runtimePanic .nilDeref : Sem Next).run P w = .halt x w') := .inr ⟨_, _, rfl⟩
  have bind : ∀ {α : Type} (s : Sem α) (k : α → Sem Next) (w : World), (∀ a w', (∃ v w2, (k a).run P w' = .ok (.value v) w2) ∨ (∃ x w2, (k a).run P w' = .halt x w2)) → (∃ v w', (s >>= k).run P w = .ok (.value v) w') ∨ (∃ x w', (s >>= k).run P w = .halt x w') := fun s k w h => by
   rw [Sem.run_bind]
   cases s.run P w with
   | halt x w' => exact .inr ⟨x, w', rfl⟩
   | ok a w' => exact h a w'
  simp only
  split
  ·exact hp
  ·exact hp
  ·exact hp
  ·split
   ·exact hp
   ·refine bind _ _ _ fun a w' => ?_
    refine bind _ _ _ fun b w' => ?_
    split
    ·exact bind _ _ _ fun c w' => .inl ⟨_, _, rfl⟩
    ·exact .inl ⟨_, _, rfl⟩
   ·exact .inl ⟨_, _, rfl⟩
  ·exact .inl ⟨_, _, rfl⟩
 all_goals first
  | (cases h; done)
  | exact key _
  | exact .inl ⟨_, _, rfl⟩
section
variable {g : G} {pf : Nat → Cls} {ops : Array Oper}

theorem any_of_drF {q : Nat} (hok : ∀ (j : Nat) (o : Oper), ops[j]? = some o → (∀ e ∈ o.after.toList, Region.binds .any e = true → e.on < j) ∧ ∀ (i : Nat) (x : Oper), i < j → ops[i]? = some x → conf pf ops x o = true → Reach ops i j ∨ j = q) {K : Env → List Ob → Prop} (hK : KC K) {Q : Exit → Act → World → Prop} (hQ : ∀ E objs a w, K E objs → Sat g E objs a w → Q .normal a w) :
  ∀ (fuel : Nat) (listed : Array Bool) (R : List Nat) (E : Env) (objs : List Ob) (a : Act) (w : World), listed.size = ops.size → Cl ops listed → (∀ i, i ∈ R ↔ i < ops.size ∧ listed.getD i true = false) → R.Pairwise (· < ·) → R.length ≤ fuel → q ∉ R →
   Dr g pf ops (R.filterMap (ops[·]?)) E objs K → Sat g E objs a w → wpAnyIn g.F g.dep g.P .any ops Q fuel listed a w := by
 intro fuel
 induction fuel with
 | zero =>
  intro listed R E objs a w hls hc hR _ hf hpq hd hs
  have : R = [] := List.length_eq_zero_iff.1 (by omega)
  subst this
  refine ⟨?_, hQ E objs a w hd hs⟩
  apply List.eq_nil_iff_forall_not_mem.2
  intro i hi
  obtain ⟨h1, h2, _⟩ := mem_ready.1 hi
  exact absurd ((hR i).2 ⟨h1, h2⟩) (by simp)
 | succ fuel ih =>
  intro listed R E objs a w hls hc hR hp hf hpq hd hs
  refine ⟨fun hnil => ?_, fun i hi => ?_⟩
  ·cases R with
   | nil => exact hQ E objs a w hd hs
   | cons k R' =>
    exfalso
    obtain ⟨hk1, hk2⟩ := (hR k).1 (by simp)
    have ho : ops[k]? = some ops[k] := Array.getElem?_eq_getElem hk1
    have : k ∈ Region.ready .any ops listed := by
     refine mem_ready.2 ⟨hk1, hk2, ops[k], ho, fun e he hb => ?_⟩
     have hlt := (hok k _ ho).1 e he hb
     have hnot : e.on ∉ (k :: R') := fun hm => by
      rcases List.mem_cons.1 hm with hm | hm
      ·omega
      ·have := (List.pairwise_cons.1 hp).1 _ hm; omega
     have hsz : e.on < listed.size := by omega
     have h2 : ¬ (listed.getD e.on true = false) := fun h2 => hnot ((hR e.on).2 ⟨by omega, h2⟩)
     simp only [Array.getD, hsz, dif_pos] at h2 ⊢
     simpa using h2
    rw [hnil] at this; cases this
  ·obtain ⟨hi1, hi2, o, ho, hdeps⟩ := mem_ready.1 hi
   obtain ⟨pre, post, rfl⟩ := List.append_of_mem ((hR i).2 ⟨hi1, hi2⟩)
   have hpre : ∀ k ∈ pre, k < i := fun k hk => (List.pairwise_append.1 hp).2.2 k hk i (by simp)
   have hd' : Dr g pf ops (pre.filterMap (ops[·]?) ++ o :: post.filterMap (ops[·]?)) E objs K := by
    have : (pre ++ i :: post).filterMap (ops[·]?) = pre.filterMap (ops[·]?) ++ o :: post.filterMap (ops[·]?) := by
     rw [List.filterMap_append, List.filterMap_cons, ho]
    rw [← this]; exact hd
   obtain ⟨v, objs', hloc, hrest⟩ := Dr.front hK (fun x hx => by
    obtain ⟨k, hk, hkx⟩ := List.mem_filterMap.1 hx
    cases hcf : conf pf ops x o
    ·rfl
    ·exfalso
     have hreach : Reach ops k i := by
      rcases (hok i o ho).2 k x (hpre k hk) hkx hcf with h | h2
      ·exact h
      ·exfalso
       exact hpq (by rw [← h2]; simp)
     have hl := reach_listed hc hreach (fun o' ho' e he hb => by rw [ho] at ho'; cases ho'; exact hdeps e he hb)
     obtain ⟨_, hk2⟩ := (hR k).1 (by simp [hk])
     have hsz : k < listed.size := by have := hpre k hk; omega
     simp only [Array.getD, hsz, dif_pos] at hl hk2
     rw [hl] at hk2; cases hk2) hd'
   have hstep := hloc.step E objs objs' a w (fun t _ => .refl _) (.inr (.inr ⟨rfl, rfl⟩)) hs Q
   refine wpOpIn_mono (K := fun a' w' => Sat g (putO E o.dst v) objs' a' w') (fun a' w' hs' => ?_) (by unfold wpOpIn; rw [ho]; exact hstep)
   have hget : ∀ (k : Nat) (d : Bool), (listed.setIfInBounds i true).getD k d = if k = i then true else listed.getD k d := by
    intro k d
    simp only [Array.getD_eq_getD_getElem?, Array.getElem?_setIfInBounds]
    by_cases hki : k = i
    ·subst hki
     simp [hls, hi1]
    ·rw [if_neg (fun e => hki e.symm), if_neg hki]
   refine ih _ (pre ++ post) _ objs' a' w' (by simp [hls]) ?_ ?_ ?_ ?_ ?_ ?_ hs'
   ·intro k o' hk hko e he hb
    rw [hget] at hk ⊢
    by_cases hki : k = i
    ·subst hki
     rw [ho] at hko; cases hko
     have := hdeps e he hb
     split
     ·rfl
     ·exact this
    ·rw [if_neg hki] at hk
     have := hc k o' hk hko e he hb
     split
     ·rfl
     ·exact this
   ·intro k
    rw [hget]
    have hk := hR k
    have hnd : i ∉ pre ++ post := by
     intro hm
     rcases List.mem_append.1 hm with hm | hm
     ·have := hpre i hm; omega
     ·have := (List.pairwise_cons.1 (List.pairwise_append.1 hp).2.1).1 i hm; omega
    by_cases hki : k = i
    ·subst hki
     simp only [if_true]
     exact ⟨fun h => absurd h hnd, fun h => by simp at h⟩
    ·simp only [hki, if_false]
     rw [← hk]
     simp [hki]
   ·obtain ⟨p1, p2, p3⟩ := List.pairwise_append.1 hp
    exact List.pairwise_append.2 ⟨p1, (List.pairwise_cons.1 p2).2, fun x hx y hy => p3 x hx y (by simp [hy])⟩
   ·simp at hf ⊢; omega
   ·exact fun hm => hpq (by simp only [List.mem_append, List.mem_cons] at hm ⊢; exact hm.imp id .inr)
   ·rw [List.filterMap_append]; exact hrest

theorem wpOpIn_all {F : Fence} {n : Nat} {P : Program} {Q : Exit → Act → World → Prop} {i : Nat} {o : Oper} {ι : Type} (x0 : ι) (ho : ops[i]? = some o) (hp : plain2 o.op = true) {K : ι → Act → World → Prop} {a : Act} {w : World} (h : ∀ x, wpOpIn F n P ops Q i (K x) a w) : wpOpIn F n P ops Q i (fun a' w' => ∀ x, K x a' w') a w := by
 have h0 := h x0
 unfold wpOpIn at *
 rw [ho] at h0 ⊢
 have h : ∀ x, _ := fun x => by have := h x; rw [ho] at this; exact this
 simp only at h h0 ⊢
 split
 ·rename_i hw
  rw [if_pos hw] at h0
  have h : ∀ x, _ := fun x => by have := h x; rw [if_pos hw] at this; exact this
  unfold Oper.wpIn at *
  refine ⟨h0.1, ?_⟩
  have h0 := h0.2
  have h : ∀ x, _ := fun x => (h x).2
  rcases plain2_sem hp F.round a.eval P w with ⟨v, w', e⟩ | ⟨x, w', e⟩
  ·rw [e] at h0 ⊢
   intro x
   have := h x
   rw [e] at this; exact this
  ·rw [e] at h0 ⊢
   cases x <;> exact h0
 ·rename_i hw
  rw [if_neg hw] at h0
  refine ⟨h0.1, fun x => ?_⟩
  have := h x
  rw [if_neg hw] at this; exact this.2
end
end PSL
namespace PSL
open Go Go.RowKit
section
variable {g : G} {pf : Nat → Cls} {ops : Array Oper}

def FltB (pf : Nat → Cls) (ops : Array Oper) (oq : Oper) (B : List Nat) : Prop := B = [] ∨ ∃ b B' y, B = b :: B' ∧ ops[b]? = some y ∧ conf pf ops y oq = true

def ncB (pf : Nat → Cls) (ops : Array Oper) (oq : Oper) (k : Nat) : Bool := match ops[k]? with
 | some y => !conf pf ops y oq
 | none => true

theorem mem_tw {α : Type} {p : α → Bool} : ∀ {l : List α} {x : α}, x ∈ l.takeWhile p → p x = true
 | y :: l, x, h => by
  rw [List.takeWhile_cons] at h
  split at h
  ·rcases List.mem_cons.1 h with rfl | h
   ·assumption
   ·exact mem_tw h
  ·cases h

theorem any_of_flt {q : Nat} {oq : Oper} (hoq : ops[q]? = some oq) (hok : ∀ (j : Nat) (o : Oper), ops[j]? = some o → (∀ e ∈ o.after.toList, Region.binds .any e = true → e.on < j) ∧ (∀ (i : Nat) (x : Oper), i < j → ops[i]? = some x → conf pf ops x o = true → Reach ops i j ∨ j = q) ∧ (q < j → Reach ops q j))
  (hps : ∀ (i j : Nat) (x y : Oper), i < j → j < q → ops[i]? = some x → ops[j]? = some y → conf pf ops x oq = true → conf pf ops oq y = true → Reach ops i j)
  {K : Env → List Ob → Prop} (hK : KC K) {Q : Exit → Act → World → Prop} (hQ : ∀ E objs a w, K E objs → Sat g E objs a w → Q .normal a w) (post : List Nat) :
  ∀ (fuel : Nat) (listed : Array Bool) (R : List Nat) (a : Act) (w : World), (∀ i ∈ R, ∀ o, ops[i]? = some o → plain2 o.op = true) → listed.size = ops.size → Cl ops listed → (∀ i, i ∈ R ++ q :: post ↔ i < ops.size ∧ listed.getD i true = false) → (R ++ q :: post).Pairwise (· < ·) → (R ++ q :: post).length ≤ fuel →
   (∀ A B : List Nat, R = A ++ B → FltB pf ops oq B → ∃ E objs, Dr g pf ops (A.filterMap (ops[·]?) ++ oq :: (B ++ post).filterMap (ops[·]?)) E objs K ∧ Sat g E objs a w) → wpAnyIn g.F g.dep g.P .any ops Q fuel listed a w := by
 intro fuel
 induction fuel with
 | zero => intro listed R a w _ _ _ _ _ hf _; simp at hf
 | succ fuel ih =>
  intro listed R a w hpl hls hc hR hp hf hd
  obtain ⟨pp1, pp2, pp3⟩ := List.pairwise_append.1 hp
  have hRq : ∀ k ∈ R, k < q := fun k hk => pp3 k hk q (by simp)
  have hpost : ∀ k ∈ post, q < k := fun k hk => (List.pairwise_cons.1 pp2).1 k hk
  have unl : ∀ k, k ∈ R ++ q :: post → listed.getD k false = false := fun k hk => by
   obtain ⟨h1, h2⟩ := (hR k).1 hk
   have hsz : k < listed.size := by omega
   simp only [Array.getD, hsz, dif_pos] at h2 ⊢
   exact h2
  refine ⟨fun hnil => ?_, fun i hi => ?_⟩
  ·exfalso
   obtain ⟨k, R', hkR⟩ : ∃ k R', R ++ q :: post = k :: R' := by
    cases R with
    | nil => exact ⟨q, _, rfl⟩
    | cons k r => exact ⟨k, _, rfl⟩
   rw [hkR] at hR hp
   obtain ⟨hk1, hk2⟩ := (hR k).1 (by simp)
   have ho : ops[k]? = some ops[k] := Array.getElem?_eq_getElem hk1
   have : k ∈ Region.ready .any ops listed := by
    refine mem_ready.2 ⟨hk1, hk2, ops[k], ho, fun e he hb => ?_⟩
    have hlt := (hok k _ ho).1 e he hb
    have hnot : e.on ∉ (k :: R') := fun hm => by
     rcases List.mem_cons.1 hm with hm | hm
     ·omega
     ·have := (List.pairwise_cons.1 hp).1 _ hm; omega
    have hsz : e.on < listed.size := by omega
    have h2 : ¬ (listed.getD e.on true = false) := fun h2 => hnot ((hR e.on).2 ⟨by omega, h2⟩)
    simp only [Array.getD, hsz, dif_pos] at h2 ⊢
    simpa using h2
   rw [hnil] at this; cases this
  ·obtain ⟨hi1, hi2, o, ho, hdeps⟩ := mem_ready.1 hi
   have hreachF : ∀ k, k ∈ R ++ q :: post → Reach ops k i → False := fun k hk hr => by
    have hl := reach_listed hc hr (fun o' ho' e he hb => by rw [ho] at ho'; cases ho'; exact hdeps e he hb)
    rw [unl k hk] at hl; cases hl
   have hmem := (hR i).2 ⟨hi1, hi2⟩
   rcases List.mem_append.1 hmem with hmem | hmem
   ·obtain ⟨RA, RB, rfl⟩ := List.append_of_mem hmem
    have hiq : i < q := hRq i hmem
    have hRA : ∀ k ∈ RA, k < i := fun k hk => (List.pairwise_append.1 pp1).2.2 k hk i (by simp)
    have hcf : ∀ k x, k ∈ RA → ops[k]? = some x → conf pf ops x o = false := fun k x hk hkx => by
     cases hc1 : conf pf ops x o
     ·rfl
     ·exfalso
      rcases (hok i o ho).2.1 k x (hRA k hk) hkx hc1 with h | h
      ·exact hreachF k (by simp [hk]) h
      ·omega
    have hfm : ∀ {A : List Nat}, (∀ k ∈ A, k ∈ RA) → ∀ x ∈ A.filterMap (ops[·]?), conf pf ops x o = false := fun hA x hx => by
     obtain ⟨k, hk, hkx⟩ := List.mem_filterMap.1 hx
     exact hcf k x (hA k hk) hkx
    have H : ∀ x : {p : List Nat × List Nat // RA ++ RB = p.1 ++ p.2 ∧ FltB pf ops oq p.2}, ∃ E1 o1, Dr g pf ops (x.1.1.filterMap (ops[·]?) ++ oq :: (x.1.2 ++ post).filterMap (ops[·]?)) E1 o1 K ∧ wpOpIn g.F g.dep g.P ops Q i (fun a' w' => Sat g E1 o1 a' w') a w := by
     rintro ⟨⟨A, B⟩, hab, hB⟩
     have one : ∀ (a' : List Nat), A = RA ++ a' → RB = a' ++ B → ∃ E1 o1, Dr g pf ops (A.filterMap (ops[·]?) ++ oq :: (B ++ post).filterMap (ops[·]?)) E1 o1 K ∧ wpOpIn g.F g.dep g.P ops Q i (fun a' w' => Sat g E1 o1 a' w') a w := fun a' h1 h2 => by
      obtain ⟨E, objs, hdr, hs⟩ := hd (RA ++ i :: a') B (by rw [h2]; simp) hB
      rw [List.filterMap_append, List.filterMap_cons, ho, List.append_assoc] at hdr
      obtain ⟨v, objs', hloc, hrest⟩ := Dr.front hK (hfm fun k hk => hk) hdr
      refine ⟨_, objs', by rw [h1, List.filterMap_append, List.append_assoc]; exact hrest, ?_⟩
      unfold wpOpIn; rw [ho]
      exact hloc.step E objs objs' a w (fun t _ => .refl _) (.inr (.inr ⟨rfl, rfl⟩)) hs Q
     rcases List.append_eq_append_iff.1 hab with ⟨a', h1, h2⟩ | ⟨c', h1, h2⟩
     ·exact one a' h1 h2
     ·cases c' with
      | nil => exact one [] (by simpa using h1.symm) (by simpa using h2.symm)
      | cons b c' =>
       simp only at h2 hB
       have hB2 : FltB pf ops oq ((b :: c') ++ i :: RB) := by
        rcases hB with h | ⟨b2, B', y, h3, h4, h5⟩
        ·rw [h2] at h; cases h
        ·rw [h2] at h3; cases h3
         exact .inr ⟨b, _, y, rfl, h4, h5⟩
       obtain ⟨E, objs, hdr, hs⟩ := hd A ((b :: c') ++ i :: RB) (by rw [h1]; simp) hB2
       have e : A.filterMap (ops[·]?) ++ oq :: ((b :: c') ++ i :: RB ++ post).filterMap (ops[·]?) = (A.filterMap (ops[·]?) ++ oq :: (b :: c').filterMap (ops[·]?)) ++ o :: (RB ++ post).filterMap (ops[·]?) := by
        rw [List.append_assoc, List.filterMap_append, List.cons_append, List.filterMap_cons (a := i), ho]; simp
       rw [e] at hdr
       obtain ⟨v, objs', hloc, hrest⟩ := Dr.front hK (fun x hx => by
        rcases List.mem_append.1 hx with hx | hx
        ·exact hfm (fun k hk => by rw [h1]; simp [hk]) x hx
        ·rcases List.mem_cons.1 hx with rfl | hx
         ·cases hc1 : conf pf ops x o
          ·rfl
          ·exfalso
           rcases hB2 with h | ⟨b2, B', y, h3, h4, h5⟩
           ·cases h
           ·cases h3
            exact hreachF b (by rw [h1]; simp) (hps b i y o (hRA b (by rw [h1]; simp)) hiq h4 ho h5 hc1)
         ·exact hfm (fun k hk => by rw [h1]; exact List.mem_append.2 (.inr hk)) x hx) hdr
       refine ⟨_, objs', by
        show Dr g pf ops (A.filterMap (ops[·]?) ++ oq :: (B ++ post).filterMap (ops[·]?)) _ _ K
        rw [h2, List.append_assoc, List.filterMap_append]
        rw [List.append_assoc, List.cons_append] at hrest; exact hrest, ?_⟩
       unfold wpOpIn; rw [ho]
       exact hloc.step E objs objs' a w (fun t _ => .refl _) (.inr (.inr ⟨rfl, rfl⟩)) hs Q
    have hall := wpOpIn_all (F := g.F) (n := g.dep) (P := g.P) (Q := Q) (⟨(RA ++ RB, []), by simp, .inl rfl⟩ : {p : List Nat × List Nat // RA ++ RB = p.1 ++ p.2 ∧ FltB pf ops oq p.2}) ho (hpl i (by simp) o ho) (K := fun x a' w' => Sat g (H x).choose (H x).choose_spec.choose a' w') (fun x => (H x).choose_spec.choose_spec.2)
    refine wpOpIn_mono (fun a' w' hs' => ?_) hall
    have hds := draw_step (pre := RA) (post := RB ++ q :: post) hls hc (by intro k; rw [← hR k]; simp) (by simpa using hp) hi1 ho hdeps
    refine ih _ (RA ++ RB) a' w' (fun j hj o' ho' => hpl j (by simp only [List.mem_append, List.mem_cons] at hj ⊢; exact hj.imp id .inr) o' ho') hds.1 hds.2.1 (by intro k; rw [← hds.2.2.1 k]; simp) (by simpa using hds.2.2.2) (by simp at hf ⊢; omega) fun A B hab hB => ?_
    exact ⟨_, _, (H ⟨(A, B), hab, hB⟩).choose_spec.choose_spec.1, hs' ⟨(A, B), hab, hB⟩⟩
   ·rcases List.mem_cons.1 hmem with hiq | hmem
    ·subst hiq
     rw [hoq] at ho; cases ho
     have hAB : R = R.takeWhile (ncB pf ops oq) ++ R.dropWhile (ncB pf ops oq) := List.takeWhile_append_dropWhile.symm
     have hB : FltB pf ops oq (R.dropWhile (ncB pf ops oq)) := by
      cases hdw : R.dropWhile (ncB pf ops oq) with
      | nil => exact .inl rfl
      | cons b B' =>
       right
       have hb : ncB pf ops oq b = false := by
        have := List.head_dropWhile_not (ncB pf ops oq) (show R.dropWhile (ncB pf ops oq) ≠ [] by rw [hdw]; simp)
        simpa [hdw] using this
       unfold ncB at hb
       cases hob : ops[b]? with
       | none => rw [hob] at hb; cases hb
       | some y => rw [hob] at hb; exact ⟨b, B', y, rfl, hob, by simpa using hb⟩
     obtain ⟨E, objs, hdr, hs⟩ := hd _ _ hAB hB
     obtain ⟨v, objs', hloc, hrest⟩ := Dr.front hK (fun x hx => by
      obtain ⟨k, hk, hkx⟩ := List.mem_filterMap.1 hx
      have := mem_tw hk
      unfold ncB at this
      rw [hkx] at this; simpa using this) hdr
     have hstep := hloc.step E objs objs' a w (fun t _ => .refl _) (.inr (.inr ⟨rfl, rfl⟩)) hs Q
     refine wpOpIn_mono (K := fun a' w' => Sat g (putO E oq.dst v) objs' a' w') (fun a' w' hs' => ?_) (by unfold wpOpIn; rw [hoq]; exact hstep)
     have hds := draw_step (pre := R) (post := post) hls hc hR hp hi1 hoq hdeps
     have e : (R ++ post).filterMap (ops[·]?) = (R.takeWhile (ncB pf ops oq)).filterMap (ops[·]?) ++ (R.dropWhile (ncB pf ops oq) ++ post).filterMap (ops[·]?) := by rw [← List.filterMap_append, ← List.append_assoc, ← hAB]
     refine any_of_drF (fun j o ho => ⟨(hok j o ho).1, (hok j o ho).2.1⟩) hK hQ fuel _ (R ++ post) _ objs' a' w' hds.1 hds.2.1 hds.2.2.1 hds.2.2.2 (by simp at hf ⊢; omega) (fun h => ?_) (by rw [e]; exact hrest) hs'
     rcases List.mem_append.1 h with h | h
     ·have := hRq _ h; omega
     ·have := hpost _ h; omega
    ·exact (hreachF q (by simp) ((hok i o ho).2.2 (hpost i hmem))).elim
end
end PSL
namespace PSL
open Go Go.RowKit
section
variable {g : G} {pf : Nat → Cls} {ops : Array Oper}

def ordGoF (q : Nat) (oq : Oper) (pf : Nat → Cls) (ops : Array Oper) : List Oper → List Nat → List Oper → Bool
 | _, _, [] => true
 | prev, acc, o :: r =>
  (o.after.toList.all fun e => !Region.binds .any e || Nat.blt e.on (len prev)) &&
  (prev.zipIdx.all fun x => !conf pf ops x.1 o || (maskOf acc o).testBit x.2 || Nat.beq (len prev) q) &&
  (Nat.ble (len prev) q || (maskOf acc o).testBit q) &&
  (prev.zipIdx.all fun x => !conf pf ops x.1 oq || !conf pf ops oq o || (maskOf acc o).testBit x.2 || Nat.ble q (len prev)) &&
  ordGoF q oq pf ops (prev ++ [o]) (acc ++ [maskOf acc o]) r

theorem ordGoF_spec {q : Nat} {oq : Oper} : ∀ (rest prev : List Oper) (acc : List Nat), ops.toList = prev ++ rest → acc.length = prev.length → (∀ j i m, acc[j]? = some m → m.testBit i = true → Reach ops i j) → ordGoF q oq pf ops prev acc rest = true →
  ∀ (j : Nat) (o : Oper), prev.length ≤ j → ops[j]? = some o → (∀ e ∈ o.after.toList, Region.binds .any e = true → e.on < j) ∧ (∀ (i : Nat) (x : Oper), i < j → ops[i]? = some x → conf pf ops x o = true → Reach ops i j ∨ j = q) ∧ (q < j → Reach ops q j) ∧ (∀ (i : Nat) (x : Oper), i < j → j < q → ops[i]? = some x → conf pf ops x oq = true → conf pf ops oq o = true → Reach ops i j)
 | [], prev, acc, h, _, _, _, j, o, hj, ho => by
  have : j < ops.size := (Array.getElem?_eq_some_iff.1 ho).1
  have : ops.size = prev.length := by rw [← Array.length_toList, h]; simp
  omega
 | o' :: r, prev, acc, h, hl, hr, hg, j, o, hj, ho => by
  simp only [ordGoF, Bool.and_eq_true] at hg
  obtain ⟨⟨⟨⟨h1, h2⟩, h4⟩, h5⟩, h3⟩ := hg
  have hcur : ops[prev.length]? = some o' := by rw [← Array.getElem?_toList, h]; simp
  have hm : ∀ i, (maskOf acc o').testBit i = true → Reach ops i prev.length := fun i hi => by
   obtain ⟨e, e1, e2, e3⟩ := maskOf_bit hi
   rcases e3 with e3 | ⟨m, e3, e4⟩
   ·exact .one hcur e1 e2 e3
   ·exact .step hcur e1 e2 rfl (hr _ _ _ e3 e4)
  rcases Nat.eq_or_lt_of_le hj with hj | hj
  ·subst hj
   rw [hcur] at ho; cases ho
   have hmem : ∀ (i : Nat) (x : Oper), i < prev.length → ops[i]? = some x → (x, i) ∈ prev.zipIdx := fun i x hi hx => by
    rw [List.mem_zipIdx_iff_getElem?]
    rw [← Array.getElem?_toList, h, List.getElem?_append_left hi] at hx
    exact hx
   refine ⟨fun e he hbd => ?_, fun i x hi hx hc => ?_, fun hq => ?_, fun i x hi hq hx hc1 hc2 => ?_⟩
   ·have := List.all_eq_true.1 h1 e he
    rw [len_eq] at this
    simpa [Nat.blt_eq, hbd] using this
   ·have := List.all_eq_true.1 h2 _ (hmem i x hi hx)
    simp only [hc, Bool.not_true, Bool.false_or, Bool.or_eq_true] at this
    rcases this with this | g2
    ·exact .inl (hm i this)
    ·rw [len_eq] at g2; exact .inr (natBeq g2)
   ·simp only [Bool.or_eq_true, len_eq, Nat.ble_eq] at h4
    rcases h4 with h4 | h4
    ·omega
    ·exact hm _ h4
   ·have := List.all_eq_true.1 h5 _ (hmem i x hi hx)
    simp only [hc1, hc2, Bool.not_true, Bool.false_or, Bool.or_eq_true, len_eq, Nat.ble_eq] at this
    rcases this with this | this
    ·exact hm i this
    ·omega
  ·refine ordGoF_spec r (prev ++ [o']) (acc ++ [maskOf acc o']) (by rw [h]; simp) (by simp [hl]) (fun j i m hj hi => ?_) h3 j o (by simp; omega) ho
   rcases Nat.lt_or_ge j acc.length with hlt | hge
   ·rw [List.getElem?_append_left hlt] at hj; exact hr j i m hj hi
   ·rw [List.getElem?_append_right hge] at hj
    have : j - acc.length = 0 := by
     rcases Nat.eq_zero_or_pos (j - acc.length) with h | h
     ·exact h
     ·rw [List.getElem?_eq_none (by simp; omega)] at hj; cases hj
    rw [this] at hj; simp at hj; subst hj
    have : j = prev.length := by omega
    subst this
    exact hm i hi
end
end PSL
namespace PSL
open Go Go.RowKit
section
variable {g : G} {pf : Nat → Cls} {ops : Array Oper}

def fltL (m q : Nat) (oq : Oper) (l : List Oper) : List Oper := l.take m ++ oq :: ((l.drop m).take (q - m) ++ l.drop (q + 1))

theorem wp_flt (hg : GOk g) {q : Nat} {oq : Oper} (hoq : ops[q]? = some oq) (hok : ordGoF q oq pf ops [] [] ops.toList = true) {K : Env → List Ob → Prop} (hK : KC K) {Q : Exit → Act → World → Prop} (hQ : ∀ E objs a w, K E objs → Sat g E objs a w → Q .normal a w)
  {E : Env} {objs : List Ob} (hpl : ((ops.toList.take q).all fun o => plain2 o.op) = true) (hd : ∀ m, m ≤ q → (m = q ∨ ∃ y, ops[m]? = some y ∧ conf pf ops y oq = true) → Dr g pf ops (fltL m q oq ops.toList) E objs K) {a : Act} {w : World} (hs : Sat g E objs a w) (id : Nat) : (Code.region id ops true).wpIn g.F g.dep g.P Q a w := by
 refine wpIn_region_any hg.mixed ?_
 have hq : q < ops.size := (Array.getElem?_eq_some_iff.1 hoq).1
 have hsz : ops.toList.length = ops.size := by simp
 have hspec := ordGoF_spec (pf := pf) (ops := ops) ops.toList [] [] rfl rfl (by simp) hok
 have f : ∀ a n, a + n ≤ ops.size → (List.range' a n).filterMap (ops[·]?) = (ops.toList.drop a).take n := fun a n h => by
  have := fm_range ops.toList a n (by omega)
  simpa using this
 have hrange : List.range ops.size = List.range' 0 q ++ q :: List.range' (q + 1) (ops.size - (q + 1)) := by
  obtain ⟨m, hm⟩ : ∃ m, ops.size = q + (1 + m) := ⟨ops.size - (q + 1), by omega⟩
  have e1 : ops.size - (q + 1) = m := by omega
  rw [e1, List.range_eq_range', hm, ← List.range'_append, ← List.range'_append]
  simp [List.range'_succ]
 refine any_of_flt hoq (fun j o ho => ⟨(hspec j o (Nat.zero_le _) ho).1, (hspec j o (Nat.zero_le _) ho).2.1, (hspec j o (Nat.zero_le _) ho).2.2.1⟩) (fun i j x y hij hjq hx hy h1 h2 => (hspec j y (Nat.zero_le _) hy).2.2.2 i x hij hjq hx h1 h2) hK hQ (List.range' (q + 1) (ops.size - (q + 1))) ops.size (Array.replicate ops.size false) (List.range' 0 q) a _ ?_ (by simp) ?_ ?_ ?_ ?_ ?_
 ·intro j hj o ho
  have hj : j < q := by have := List.mem_range'.1 hj; omega
  exact List.all_eq_true.1 hpl o (List.mem_iff_getElem?.2 ⟨j, by rw [List.getElem?_take_of_lt hj, Array.getElem?_toList]; exact ho⟩)
 ·intro k o hk
  simp [Array.getD] at hk
 ·intro i
  rw [← hrange]
  simp only [List.mem_range, Array.getD, Array.size_replicate]
  constructor
  ·intro h; simp [h]
  ·intro h; exact h.1
 ·rw [← hrange]; exact List.pairwise_lt_range
 ·rw [← hrange]; simp
 ·intro A B hab hB
  obtain ⟨m, hm, rfl, rfl⟩ := List.range'_eq_append_iff.1 hab
  rw [Nat.mul_one] at hB ⊢
  refine ⟨E, objs, ?_, hs.drew⟩
  have := hd m hm (by
   rcases hB with h | ⟨b, B', y, h1, h2, h3⟩
   ·left
    have := congrArg List.length h
    simp at this; omega
   ·right
    have hb : b = 0 + m := by
     have : (List.range' (0 + m) (q - m)).head? = some b := by rw [h1]; rfl
     cases hqm : q - m with
     | zero => rw [hqm] at this; simp at this
     | succ n => rw [hqm, List.range'_succ] at this; simp at this; omega
    exact ⟨y, by rw [← h2, hb]; simp, h3⟩)
  unfold fltL at this
  rw [List.filterMap_append, f 0 m (by omega), f (0 + m) (q - m) (by omega), f (q + 1) _ (by omega), List.drop_zero]
  rw [List.take_of_length_le (i := ops.size - (q + 1)) (by simp)]
  simpa using this
end
end PSL
namespace PSL
open Go Go.RowKit
section
variable {g : G} {pf : Nat → Cls} {ops : Array Oper}

theorem R_float {Fin : Exit → Act → World → Prop} (hg : GOk g) (q : Nat) (oq : Oper) {id : Nat} {k : List It} {E : Env} {objs : List Ob} (hoq : ops[q]? = some oq) (hx : ordGoF q oq pf ops [] [] ops.toList = true) (hpl : ((ops.toList.take q).all fun o => plain2 o.op) = true) (h : ∀ m, m ≤ q → (m = q ∨ ∃ y, ops[m]? = some y ∧ conf pf ops y oq = true) → R g pf Fin (.dr ops (fltL m q oq ops.toList) :: k) E objs) : R g pf Fin (.code (.region id ops true) :: k) E objs := by
 rintro ⟨ho1, ho⟩
 intro a w hs
 simp only [KP]
 have hQ : ∀ E objs a w, RK g Fin k E objs → Sat g E objs a w → KP g Fin k .normal a w := fun _ _ a w hr hs => hr a w hs
 exact wp_flt hg hoq hx (RK_kc k) hQ hpl (fun m h1 h2 => by have := h m h1 h2 ho; simpa only using this) hs id
end
end PSL

namespace Go.Proofs.YtcgkgofmldhokaaGreat
open Go PSL Go.Proofs
def pfSom : Nat → Cls := fun f => bif Nat.beq f 28 then .look 0 else bif Nat.beq f 4900100001 then .turn 100 else bif Nat.beq f 4000000007 then .loadB else .still
def som14 (l : List Cs) (q : Cs) : Bool := somP (l ++ [q]) && decide ((l.length : Int) ≤ 60)

theorem cs_six (l : List Cs) : ∀ r ∈ Cs.rows l, r.length = 6 := fun r hr => by
 unfold Cs.rows at hr
 obtain ⟨c, _, rfl⟩ := List.mem_map.1 hr; rfl

set_option maxRecDepth 100000 in
theorem refSome14_ok (l : List Cs) (q : Cs) (hok : ∀ c ∈ l, c.Ok) (hq : q.Ok) (hb : l.length * 88 ≤ 140737488351232) : PCtr Tryz.prog 8 [prV l, q.av] (bV (som14 l q)) := by
 have hcl := Cs.rows_len l
 have hall : ∀ c ∈ l ++ [q], c.Ok := fun c hc => by
  rcases List.mem_append.1 hc with hc | hc
  ·exact hok c hc
  ·rw [List.mem_singleton.1 hc]; exact hq
 refine PCtr.of_R (pf := pfSom) tyOk mixed Tryz.func8 rfl (by kernel_rfl) (by kernel_rfl) (by simp [Tryz.ntmps8]) fun w S hg => ?_
 refine R_run hg.ok 1000 rfl rfl ?_
 refine R_float hg.ok 8 _ rfl (by kernel_rfl) (by kernel_rfl) ?_
 intro m hm hB
 have h3 : m = 3 ∨ m = 6 ∨ m = 8 := by
  rcases hB with h | ⟨y, h1, h2⟩
  ·exact .inr (.inr h)
  ·have : m = 0 ∨ m = 1 ∨ m = 2 ∨ m = 3 ∨ m = 4 ∨ m = 5 ∨ m = 6 ∨ m = 7 ∨ m = 8 := by omega
   rcases this with rfl | rfl | rfl | rfl | rfl | rfl | rfl | rfl | rfl <;> first | (left; rfl) | (right; left; rfl) | (right; right; rfl) | (cases h1; exact absurd (h2.symm.trans (show _ = false by kernel_rfl)) (by decide))
 clear hB hm
 rcases h3 with rfl | rfl | rfl
 ·refine R_run hg.ok 1000 rfl rfl ?_
  refine R_appendF hg.ok rfl rfl (.inl rfl) rfl (.inl rfl) rfl rfl rfl (by simp) (cs_six l) (by rw [hcl]; simp; omega) (by rw [hcl]; simp; omega) ?_
  refine R_run hg.ok 1000 rfl rfl ?_
  refine R_appendO hg.ok (Cs.rows (l ++ [q])) rfl rfl rfl rfl rfl rfl rfl rfl rfl (by simp) (by simp [one1]) (Cs.rows_snoc l q) (by simp [hcl]; omega) (by simp [hcl]; omega) ?_
  refine R_run hg.ok 1000 rfl rfl ?_
  refine R_callO hg.ok hg.gup (refSomeP_ok (l ++ [q]) hall (by simp; omega)) rfl rfl rfl rfl (mapO_cons (sealA_agg (mapO_cons (sealA_ow rfl) rfl)) rfl) rfl rfl ?_
  refine R_run hg.ok 1000 rfl rfl ?_
  unfold som14
  refine R_if rfl rfl (fun h => ?_) (fun h => ?_) <;> refine R_run hg.ok 1000 rfl rfl ?_
  ·refine R_ret hg 5 rfl rfl ?_
   rw [h, hcl]; rfl
  ·refine R_ret hg 5 rfl rfl ?_
   rw [h]; rfl
 ·refine R_run hg.ok 1000 rfl rfl ?_
  refine R_appendF hg.ok rfl rfl (.inl rfl) rfl (.inl rfl) rfl rfl rfl (by simp) (cs_six l) (by rw [hcl]; simp; omega) (by rw [hcl]; simp; omega) ?_
  refine R_run hg.ok 1000 rfl rfl ?_
  refine R_appendO hg.ok (Cs.rows (l ++ [q])) rfl rfl rfl rfl rfl rfl rfl rfl rfl (by simp) (by simp [one1]) (Cs.rows_snoc l q) (by simp [hcl]; omega) (by simp [hcl]; omega) ?_
  refine R_run hg.ok 1000 rfl rfl ?_
  refine R_callO hg.ok hg.gup (refSomeP_ok (l ++ [q]) hall (by simp; omega)) rfl rfl rfl rfl (mapO_cons (sealA_agg (mapO_cons (sealA_ow rfl) rfl)) rfl) rfl rfl ?_
  refine R_run hg.ok 1000 rfl rfl ?_
  unfold som14
  refine R_if rfl rfl (fun h => ?_) (fun h => ?_) <;> refine R_run hg.ok 1000 rfl rfl ?_
  ·refine R_ret hg 5 rfl rfl ?_
   rw [h, hcl]; rfl
  ·refine R_ret hg 5 rfl rfl ?_
   rw [h]; rfl
 ·refine R_run hg.ok 1000 rfl rfl ?_
  refine R_appendF hg.ok rfl rfl (.inl rfl) rfl (.inl rfl) rfl rfl rfl (by simp) (cs_six l) (by rw [hcl]; simp; omega) (by rw [hcl]; simp; omega) ?_
  refine R_run hg.ok 1000 rfl rfl ?_
  refine R_appendO hg.ok (Cs.rows (l ++ [q])) rfl rfl rfl rfl rfl rfl rfl rfl rfl (by simp) (by simp [one1]) (Cs.rows_snoc l q) (by simp [hcl]; omega) (by simp [hcl]; omega) ?_
  refine R_run hg.ok 1000 rfl rfl ?_
  refine R_callO hg.ok hg.gup (refSomeP_ok (l ++ [q]) hall (by simp; omega)) rfl rfl rfl rfl (mapO_cons (sealA_agg (mapO_cons (sealA_ow rfl) rfl)) rfl) rfl rfl ?_
  refine R_run hg.ok 1000 rfl rfl ?_
  unfold som14
  refine R_if rfl rfl (fun h => ?_) (fun h => ?_) <;> refine R_run hg.ok 1000 rfl rfl ?_
  ·refine R_ret hg 5 rfl rfl ?_
   rw [h, hcl]; rfl
  ·refine R_ret hg 5 rfl rfl ?_
   rw [h]; rfl
end Go.Proofs.YtcgkgofmldhokaaGreat

namespace Go.Proofs.YtcgkgofmldhokaaGreat
open Go PSL Go.Proofs

theorem som14_all {l : List Cs} {q : Cs} (h : som14 l q = true) : Med (l ++ [q]) ∧ l.length ≤ 60 := by
 unfold som14 at h
 simp only [Bool.and_eq_true, decide_eq_true_eq] at h
 obtain ⟨h1, h2⟩ := h
 obtain ⟨a, b, c⟩ := somP_sm h1
 exact ⟨⟨a, b, c⟩, by omega⟩

theorem cmpOk_of {l : List Cs} {q : Cs} (hm : Med (l ++ [q])) (hl : l.length ≤ 210) (hf : fairQ q l = true) : CmpOk l q := by
 have hq := fairQ_ok hf
 obtain ⟨h1, h2, h3⟩ := (checkR_ok l).1 hq.prog
 have hs := hm.size
 have hs1 := Cs.sizeL_sub (List.sublist_append_left l [q])
 have hs2 := Cs.size_mem (l := l ++ [q]) (c := q) (by simp)
 exact ⟨hl, by omega, by omega, fun c hc => cls_five (h2 c hc), fun c hc => cls_vars (h2 c hc), chkL_five _ _ _ _ _ hq.body, hq.vars0, hq.vars1⟩

theorem compileL_ok (l : List Cs) (q : Cs) (hm : Med (l ++ [q])) (hl : l.length ≤ 210) : PCtr Tryz.prog 10 [prV l, q.av] (if fairQ q l then .tup [(compG l q).av, iV 0] else .tup [cdZ.av, iV 1]) := by
 have hf := modelFair_ok q l (hm.sm q (by simp)) (fun c hc => hm.sm c (by simp [hc])) (by omega)
 cases h : fairQ q l with
 | true => rw [h] at hf; exact compile_ok l q (cmpOk_of hm hl h) hf
 | false => rw [h] at hf; exact compile_bad l q hf
def k15a : Bs := [112, 40, 88, 41, 32, 58, 45, 32, 113, 40, 88, 44, 32, 97, 41, 46, 32, 113, 40, 98, 44, 32, 89, 41, 46]
def k15b : Bs := [112, 40, 90, 41, 46]
def k15aC : List Clau := [(fnT [58, 45] [fnT [112] [Tm.vT 0], fnT [113] [Tm.vT 0, fnT [97] []]], [[88]]), (fnT [113] [fnT [98] [], Tm.vT 0], [[89]])]
def k15bC : Clau := (fnT [112] [Tm.vT 0], [[90]])
def k15P : List Cs := [⟨fnT [112] [Tm.vT 0], [.mk 1 (fnT [113] [Tm.vT 0, fnT [97] []]) [] [] []], 1⟩, ⟨fnT [113] [fnT [98] [], Tm.vT 0], [], 1⟩]
theorem k15a_read : clauR rightT false k15a = some (k15aC, 0, 0) := by rw [rightT_fun]; kernel_rfl
theorem k15b_read : clauR rightT false k15b = some ([k15bC], 0, 0) := by rw [rightT_fun]; kernel_rfl
theorem k15a_load : loadL k15aC 0 [] = (k15P, 0, 0) := by kernel_rfl

theorem k15a_ctr : PCtr Tryz.prog 29 [txA k15a] (.tup [prV k15P, iV 0, iV 0]) := by
 have h := load_ok k15a (by decide) k15a_read (List.all_eq_true.1 (show (k15aC.all fun x => noCh x.1) = true by kernel_rfl))
 rw [if_neg (by decide), k15a_load] at h
 exact h
theorem k15_med : Med (k15P ++ [qryC k15bC]) := (som14_all (l := k15P) (q := qryC k15bC) (by kernel_rfl)).1

theorem k15b_ctr : PCtr Tryz.prog 30 [txA k15b, prV k15P] (.tup [(qryC k15bC).av, .d (.sl (strRows k15bC.2)), iV 0, iV 0]) :=
 query_ok k15b (by decide) k15b_read (by kernel_rfl) k15P (fun c hc => k15_med.sm c (by simp [hc])) (by decide) (by kernel_rfl) (by kernel_rfl) (by decide) (by kernel_rfl)
def k15I : List Is := [⟨1, 0, 0, e0⟩, ⟨6, 0, 0, e0⟩, ⟨8, 0, 0, Tx [97]⟩, ⟨9, 0, 2, Tx [113]⟩, ⟨12, 0, 0, e0⟩, ⟨4, 0, 0, Tx [98]⟩, ⟨1, 0, 0, e0⟩, ⟨12, 0, 0, e0⟩, ⟨5, 0, 0, e0⟩, ⟨6, 0, 0, e0⟩, ⟨9, 0, 1, Tx [112]⟩, ⟨6, 0, 0, e0⟩, ⟨18, 0, 1, e0⟩]
def k15E : List En := [⟨Tx [112], 1, 0, 1, key0⟩, ⟨Tx [113], 2, 5, 1, ⟨3, 0, Tx [98]⟩⟩]
theorem k15_comp : compG k15P (qryC k15bC) = ⟨k15I, k15E, 8, 1⟩ := by kernel_rfl

theorem k15_compile : PCtr Tryz.prog 10 [prV k15P, (qryC k15bC).av] (.tup [(Cd.mk k15I k15E 8 1).av, iV 0]) := by
 have h := compileL_ok k15P (qryC k15bC) k15_med (by decide)
 rw [show fairQ (qryC k15bC) k15P = true by kernel_rfl, k15_comp] at h
 exact h

set_option maxRecDepth 100000 in
theorem knows15_ok : PCtr Tryz.prog 9 [] (bV true) := by
 refine PCtr.of_R (pf := fun _ => .still) tyOk mixed Tryz.func9 rfl (by kernel_rfl) (by kernel_rfl) (by simp [Tryz.ntmps9]) fun w S hg => ?_
 refine R_run hg.ok 1000 rfl rfl ?_
 refine R_call hg.ok (k15a_ctr) rfl rfl rfl rfl rfl rfl ?_
 refine R_run hg.ok 1000 rfl rfl ?_
 refine R_call hg.ok (k15b_ctr) rfl rfl rfl rfl rfl rfl ?_
 refine R_run hg.ok 1000 rfl rfl ?_
 refine R_call hg.ok (k15_compile) rfl rfl rfl rfl rfl rfl ?_
 refine R_run hg.ok 1000 rfl rfl ?_
 repeat
  first
  | (refine R_if rfl rfl (fun h => absurd h (by decide +kernel)) (fun _ => ?_); refine R_run hg.ok 1000 rfl rfl ?_)
  | (refine R_if rfl rfl (fun _ => ?_) (fun h => absurd h (by decide +kernel)); refine R_run hg.ok 1000 rfl rfl ?_)
  | (refine R_index hg.ok rfl rfl rfl rfl rfl rfl (by decide) rfl rfl ?_; refine R_run hg.ok 1000 rfl rfl ?_)
 refine R_eqlV hg.ok [.int .i64 1, .int .i64 0, .int .i64 0, .string e0] [.int .i64 1, .int .i64 0, .int .i64 0, .string e0] true rfl rfl rfl rfl (fun w => by rw [← show isEqB (Is.mk 1 0 0 e0) (Is.mk 1 0 0 e0) = true by decide +kernel]; exact isEql _ _ (Is.mk 1 0 0 e0) (Is.mk 1 0 0 e0) w) ?_
 refine R_run hg.ok 1000 rfl rfl ?_
 repeat
  first
  | (refine R_if rfl rfl (fun _ => ?_) (fun h => absurd h (by decide +kernel)); refine R_run hg.ok 1000 rfl rfl ?_)
  | (refine R_index hg.ok rfl rfl rfl rfl rfl rfl (by decide) rfl rfl ?_; refine R_run hg.ok 1000 rfl rfl ?_)
 refine R_eqlV hg.ok [.int .i64 8, .int .i64 0, .int .i64 0, .string (Tx [97])] [.int .i64 8, .int .i64 0, .int .i64 0, .string ⟨#[97]⟩] true rfl rfl rfl rfl (fun w => by rw [← show isEqB (Is.mk 8 0 0 (Tx [97])) (Is.mk 8 0 0 ⟨#[97]⟩) = true by decide +kernel]; exact isEql _ _ (Is.mk 8 0 0 (Tx [97])) (Is.mk 8 0 0 ⟨#[97]⟩) w) ?_
 refine R_run hg.ok 1000 rfl rfl ?_
 repeat
  first
  | (refine R_if rfl rfl (fun _ => ?_) (fun h => absurd h (by decide +kernel)); refine R_run hg.ok 1000 rfl rfl ?_)
  | (refine R_index hg.ok rfl rfl rfl rfl rfl rfl (by decide) rfl rfl ?_; refine R_run hg.ok 1000 rfl rfl ?_)
 refine R_eqlV hg.ok [.int .i64 9, .int .i64 0, .int .i64 2, .string (Tx [113])] [.int .i64 9, .int .i64 0, .int .i64 2, .string ⟨#[113]⟩] true rfl rfl rfl rfl (fun w => by rw [← show isEqB (Is.mk 9 0 2 (Tx [113])) (Is.mk 9 0 2 ⟨#[113]⟩) = true by decide +kernel]; exact isEql _ _ (Is.mk 9 0 2 (Tx [113])) (Is.mk 9 0 2 ⟨#[113]⟩) w) ?_
 refine R_run hg.ok 1000 rfl rfl ?_
 repeat
  first
  | (refine R_if rfl rfl (fun _ => ?_) (fun h => absurd h (by decide +kernel)); refine R_run hg.ok 1000 rfl rfl ?_)
  | (refine R_index hg.ok rfl rfl rfl rfl rfl rfl (by decide) rfl rfl ?_; refine R_run hg.ok 1000 rfl rfl ?_)
 refine R_eqlV hg.ok [.int .i64 3, .int .i64 0, .string (Tx [98])] [.int .i64 3, .int .i64 0, .string ⟨#[98]⟩] true rfl rfl rfl rfl (fun w => by rw [← show kyEqB (Ky.mk 3 0 (Tx [98])) (Ky.mk 3 0 ⟨#[98]⟩) = true by decide +kernel]; exact kyEql _ _ (Ky.mk 3 0 (Tx [98])) (Ky.mk 3 0 ⟨#[98]⟩) w) ?_
 refine R_run hg.ok 1000 rfl rfl ?_
 repeat
  first
  | (refine R_if rfl rfl (fun _ => ?_) (fun h => absurd h (by decide +kernel)); refine R_run hg.ok 1000 rfl rfl ?_)
 refine R_split 94 (b := true) rfl (fun _ => ?_) (fun h => absurd h (by decide))
 refine R_run hg.ok 1000 rfl rfl ?_
 refine R_ret hg 5 rfl rfl ?_
 rfl

set_option maxRecDepth 100000 in
theorem same15_ok (m : List Is) (d : Int) (hm : m.length ≤ 100000000) (hj : ∀ x ∈ m, x.op = 14 ∨ x.op = 16 → -1000000000 ≤ x.n + d ∧ x.n + d ≤ 1000000000) : PCtr Tryz.prog 13 [.d (.sl (Is.rows (m.map (mvIs d)))), .d (.sl (Is.rows m)), iV d] (bV true) := by
 have hl : (m.map (mvIs d)).length = m.length := List.length_map _
 refine PCtr.of_R (pf := fun _ => .still) tyOk mixed Tryz.func13 rfl (by kernel_rfl) (by kernel_rfl) (by simp [Tryz.ntmps13]) fun w S hg => ?_
 refine R_run hg.ok 1000 rfl rfl ?_
 refine R_if rfl rfl (fun h => absurd h (by simp [Is.rows_len])) (fun _ => ?_) <;> refine R_run hg.ok 1000 rfl rfl ?_
 refine R_loop (fun i : Nat => ([(0, .d (.sl (Is.rows (m.map (mvIs d))))), (1, .d (.sl (Is.rows m))), (2, iV d), (7, iV i)], [])) (fun i => i ≤ m.length) (fun i => m.length - i) 0 (Nat.zero_le _) ⟨.refl _, .refl _, .refl _, .refl _, trivial⟩ rfl ?_
 rintro i hi
 refine R_run hg.ok 1000 rfl rfl ?_
 refine R_if rfl rfl (fun h => ?_) (fun h => ?_) <;> refine R_run hg.ok 1000 rfl rfl ?_
 ·have hi1 : i < m.length := lt_dec h (by rw [Is.rows_len, hl])
  have e1 : m[i]? = some m[i] := List.getElem?_eq_getElem hi1
  have hmem := List.getElem_mem hi1
  have e2 : (m.map (mvIs d))[i]? = some (mvIs d m[i]) := by rw [List.getElem?_map, e1]; rfl
  obtain ⟨f1, f2, f3, f4⟩ := mvIs_facts d m[i]
  have hjx := hj _ hmem
  generalize m[i] = x at *
  generalize mvIs d x = y at *
  have hss : strEq y.s x.s = true := Tm.strEq_iff.2 f3
  refine R_index hg.ok rfl rfl rfl rfl rfl rfl (Int.natCast_nonneg _) (Is.rows_get e1) rfl ?_
  refine R_run hg.ok 1000 rfl rfl ?_
  refine R_index hg.ok rfl rfl rfl rfl rfl rfl (Int.natCast_nonneg _) (Is.rows_get e1) rfl ?_
  refine R_run hg.ok 1000 rfl rfl ?_
  by_cases o14 : x.op = 14
  ·rw [if_pos (.inl o14)] at f4
   refine R_if rfl rfl (fun _ => ?_) (fun h => absurd h (by simp [o14])) <;> refine R_run hg.ok 1000 rfl rfl ?_
   rw [w64 (n := x.n + d) (by have := hjx (.inl o14); omega) (by have := hjx (.inl o14); omega)]
   refine R_index hg.ok rfl rfl rfl rfl rfl rfl (Int.natCast_nonneg _) (Is.rows_get e2) rfl ?_
   refine R_run hg.ok 1000 rfl rfl ?_
   refine R_index hg.ok rfl rfl rfl rfl rfl rfl (Int.natCast_nonneg _) (Is.rows_get e1) rfl ?_
   refine R_run hg.ok 1000 rfl rfl ?_
   refine R_if rfl rfl (fun h => absurd h (by simp [f1])) (fun _ => ?_) <;> refine R_run hg.ok 1000 rfl rfl ?_
   refine R_index hg.ok rfl rfl rfl rfl rfl rfl (Int.natCast_nonneg _) (Is.rows_get e2) rfl ?_
   refine R_run hg.ok 1000 rfl rfl ?_
   refine R_index hg.ok rfl rfl rfl rfl rfl rfl (Int.natCast_nonneg _) (Is.rows_get e1) rfl ?_
   refine R_run hg.ok 1000 rfl rfl ?_
   refine R_if rfl rfl (fun h => absurd h (by simp [f2])) (fun _ => ?_) <;> refine R_run hg.ok 1000 rfl rfl ?_
   refine R_index hg.ok rfl rfl rfl rfl rfl rfl (Int.natCast_nonneg _) (Is.rows_get e2) rfl ?_
   refine R_run hg.ok 1000 rfl rfl ?_
   refine R_if rfl rfl (fun h => absurd h (by simp [f4])) (fun _ => ?_) <;> refine R_run hg.ok 1000 rfl rfl ?_
   refine R_index hg.ok rfl rfl rfl rfl rfl rfl (Int.natCast_nonneg _) (Is.rows_get e2) rfl ?_
   refine R_run hg.ok 1000 rfl rfl ?_
   refine R_index hg.ok rfl rfl rfl rfl rfl rfl (Int.natCast_nonneg _) (Is.rows_get e1) rfl ?_
   refine R_run hg.ok 1000 rfl rfl ?_
   refine R_if rfl rfl (fun h => absurd h (by simp [hss])) (fun _ => ?_) <;> refine R_run hg.ok 1000 rfl rfl ?_
   exact R_next (i + 1) hi1 (by omega) ⟨.refl _, .refl _, .refl _, Ent.wrap (by omega) (by omega) (by omega), trivial⟩ rfl
  refine R_if rfl rfl (fun h => absurd h (by simp [o14])) (fun _ => ?_) <;> refine R_run hg.ok 1000 rfl rfl ?_
  refine R_index hg.ok rfl rfl rfl rfl rfl rfl (Int.natCast_nonneg _) (Is.rows_get e1) rfl ?_
  refine R_run hg.ok 1000 rfl rfl ?_
  by_cases o16 : x.op = 16
  ·rw [if_pos (.inr o16)] at f4
   refine R_if rfl rfl (fun _ => ?_) (fun h => absurd h (by simp [o16])) <;> refine R_run hg.ok 1000 rfl rfl ?_
   rw [w64 (n := x.n + d) (by have := hjx (.inr o16); omega) (by have := hjx (.inr o16); omega)]
   refine R_index hg.ok rfl rfl rfl rfl rfl rfl (Int.natCast_nonneg _) (Is.rows_get e2) rfl ?_
   refine R_run hg.ok 1000 rfl rfl ?_
   refine R_index hg.ok rfl rfl rfl rfl rfl rfl (Int.natCast_nonneg _) (Is.rows_get e1) rfl ?_
   refine R_run hg.ok 1000 rfl rfl ?_
   refine R_if rfl rfl (fun h => absurd h (by simp [f1])) (fun _ => ?_) <;> refine R_run hg.ok 1000 rfl rfl ?_
   refine R_index hg.ok rfl rfl rfl rfl rfl rfl (Int.natCast_nonneg _) (Is.rows_get e2) rfl ?_
   refine R_run hg.ok 1000 rfl rfl ?_
   refine R_index hg.ok rfl rfl rfl rfl rfl rfl (Int.natCast_nonneg _) (Is.rows_get e1) rfl ?_
   refine R_run hg.ok 1000 rfl rfl ?_
   refine R_if rfl rfl (fun h => absurd h (by simp [f2])) (fun _ => ?_) <;> refine R_run hg.ok 1000 rfl rfl ?_
   refine R_index hg.ok rfl rfl rfl rfl rfl rfl (Int.natCast_nonneg _) (Is.rows_get e2) rfl ?_
   refine R_run hg.ok 1000 rfl rfl ?_
   refine R_if rfl rfl (fun h => absurd h (by simp [f4])) (fun _ => ?_) <;> refine R_run hg.ok 1000 rfl rfl ?_
   refine R_index hg.ok rfl rfl rfl rfl rfl rfl (Int.natCast_nonneg _) (Is.rows_get e2) rfl ?_
   refine R_run hg.ok 1000 rfl rfl ?_
   refine R_index hg.ok rfl rfl rfl rfl rfl rfl (Int.natCast_nonneg _) (Is.rows_get e1) rfl ?_
   refine R_run hg.ok 1000 rfl rfl ?_
   refine R_if rfl rfl (fun h => absurd h (by simp [hss])) (fun _ => ?_) <;> refine R_run hg.ok 1000 rfl rfl ?_
   exact R_next (i + 1) hi1 (by omega) ⟨.refl _, .refl _, .refl _, Ent.wrap (by omega) (by omega) (by omega), trivial⟩ rfl
  refine R_if rfl rfl (fun h => absurd h (by simp [o16])) (fun _ => ?_) <;> refine R_run hg.ok 1000 rfl rfl ?_
  rw [if_neg (by omega)] at f4
  refine R_index hg.ok rfl rfl rfl rfl rfl rfl (Int.natCast_nonneg _) (Is.rows_get e2) rfl ?_
  refine R_run hg.ok 1000 rfl rfl ?_
  refine R_index hg.ok rfl rfl rfl rfl rfl rfl (Int.natCast_nonneg _) (Is.rows_get e1) rfl ?_
  refine R_run hg.ok 1000 rfl rfl ?_
  refine R_if rfl rfl (fun h => absurd h (by simp [f1])) (fun _ => ?_) <;> refine R_run hg.ok 1000 rfl rfl ?_
  refine R_index hg.ok rfl rfl rfl rfl rfl rfl (Int.natCast_nonneg _) (Is.rows_get e2) rfl ?_
  refine R_run hg.ok 1000 rfl rfl ?_
  refine R_index hg.ok rfl rfl rfl rfl rfl rfl (Int.natCast_nonneg _) (Is.rows_get e1) rfl ?_
  refine R_run hg.ok 1000 rfl rfl ?_
  refine R_if rfl rfl (fun h => absurd h (by simp [f2])) (fun _ => ?_) <;> refine R_run hg.ok 1000 rfl rfl ?_
  refine R_index hg.ok rfl rfl rfl rfl rfl rfl (Int.natCast_nonneg _) (Is.rows_get e2) rfl ?_
  refine R_run hg.ok 1000 rfl rfl ?_
  refine R_if rfl rfl (fun h => absurd h (by simp [f4])) (fun _ => ?_) <;> refine R_run hg.ok 1000 rfl rfl ?_
  refine R_index hg.ok rfl rfl rfl rfl rfl rfl (Int.natCast_nonneg _) (Is.rows_get e2) rfl ?_
  refine R_run hg.ok 1000 rfl rfl ?_
  refine R_index hg.ok rfl rfl rfl rfl rfl rfl (Int.natCast_nonneg _) (Is.rows_get e1) rfl ?_
  refine R_run hg.ok 1000 rfl rfl ?_
  refine R_if rfl rfl (fun h => absurd h (by simp [hss])) (fun _ => ?_) <;> refine R_run hg.ok 1000 rfl rfl ?_
  exact R_next (i + 1) hi1 (by omega) ⟨.refl _, .refl _, .refl _, Ent.wrap (by omega) (by omega) (by omega), trivial⟩ rfl
 ·refine R_ret hg 5 rfl rfl ?_
  rfl
end Go.Proofs.YtcgkgofmldhokaaGreat

namespace PSL
open Go Go.RowKit Go.MapKept
section
variable {g : G} {pf : Nat → Cls} {ops : Array Oper} {Fin : Exit → Act → World → Prop}
end
end PSL

namespace Go.Proofs.YtcgkgofmldhokaaGreat
open Go PSL Go.Proofs
end Go.Proofs.YtcgkgofmldhokaaGreat

namespace PSL
open Go
section
variable {ty : Nat → Option Ty} {T TT TG TS B : Nat} {n : Nat} {τ : Ty} {row : List D} {a : AV}

theorem arg_progB {TC TP s : Nat} {τs τc : Ty} (hT : IsTerm ty TT) (hG : IsGoal ty TG TT) (hC : IsClause ty TC TT TG) (hB : B ≤ 140737488355328) (hτ : ty TP = some τ) (hsh : τ.sh = .struct [(0, s)]) (hs : ty s = some τs) (hss : τs.sh = .slice TC) (hc : ty TC = some τc) (h : HasTy ty B n TP row) (ha : a = avOf τ row) : ∃ l : List Cs, a = prV l ∧ (∀ x ∈ l, x.Ok) ∧ l.length ≤ 140737488355328 ∧ l.length * τc.bytes ≤ B := by
 obtain ⟨l, h1, h2, h3⟩ := arg_prog hT hG hC hB hτ hsh hs hss h ha
 refine ⟨l, h1, h2, h3, ?_⟩
 cases n with
 | zero => simp [HasTy] at h
 | succ n =>
  simp only [HasTy, hτ, hsh, HasFs] at h
  obtain ⟨_, ra, _, g1, rfl, g2, g3, rfl⟩ := h
  rw [hs] at g1; cases g1
  cases n with
  | zero => simp [HasTy] at g3
  | succ n =>
   obtain ⟨rows, rfl, hlen, _⟩ := has_slice hs hss g3
   have hb := hlen τc hc
   have e : a = .agg [.d (.sl rows)] := by rw [ha]; unfold avOf Ty.agg; rw [hsh]; rfl
   rw [h1] at e
   unfold prV at e
   simp only [AV.agg.injEq, List.cons.injEq, AV.d.injEq, D.sl.injEq, and_true] at e
   rw [← e, Cs.rows_len] at hb
   exact hb
end
end PSL

namespace Go.Proofs.YtcgkgofmldhokaaGreat
open Go PSL Go.Proofs
end Go.Proofs.YtcgkgofmldhokaaGreat

namespace Go.Proofs.YtcgkgofmldhokaaGreat
open Go PSL Go.Proofs

theorem part_ok (l : List Cs) (q : Cs) (k : Nat) (c : Cs) (h : l[k]? = some c) : ∃ pre post : List Is, (compG l q).ins = pre ++ clsC c pre.length ++ post ∧ pre = codeL (l.take k) [] ∧ (compG l q).ents[k]? = some (entG c pre.length) ∧ (∀ d, l[k + 1]? = some d → (compG l q).ents[k + 1]? = some (entG d (pre.length + (clsC c pre.length).length))) ∧ (l[k + 1]? = none → (compG l q).at_ = ((pre.length + (clsC c pre.length).length : Nat) : Int)) := by
 have hkl := (List.getElem?_eq_some_iff.1 h).1
 have e1 := codeL_take h []
 have hent : ∀ (j : Nat) (x : Cs), l[j]? = some x → (entL l 0)[j]? = some (entG x (codeL (l.take j) []).length) := fun j x hx => by
  have hs := entL_take hx
  have hj := (List.getElem?_eq_some_iff.1 hx).1
  have hp : entL l 0 = entL (l.take (j + 1)) 0 ++ entL (l.drop (j + 1)) (codeL (l.take (j + 1)) []).length := by
   have := entL_app (l.take (j + 1)) (l.drop (j + 1)) []
   rw [List.take_append_drop] at this
   exact this
  rw [hp, hs, List.append_assoc, List.getElem?_append_right (by rw [entL_len, List.length_take]; omega), entL_len, List.length_take, Nat.min_eq_left (by omega), Nat.sub_self]; rfl
 have hcode : codeL l [] = codeL (l.drop (k + 1)) (codeL (l.take (k + 1)) []) := by rw [← codeL_app, List.take_append_drop]
 have hext : ∀ (m : List Cs) (out : List Is), ∃ t, codeL m out = out ++ t := by
  intro m
  induction m with
  | nil => exact fun out => ⟨[], by simp [codeL]⟩
  | cons x r ih =>
   intro out
   obtain ⟨t, ht⟩ := ih (out ++ clsC x out.length)
   exact ⟨clsC x out.length ++ t, by simp only [codeL]; rw [ht, List.append_assoc]⟩
 obtain ⟨t, ht⟩ := hext (l.drop (k + 1)) (codeL (l.take (k + 1)) [])
 refine ⟨codeL (l.take k) [], t ++ qryE q (codeL l []).length, ?_, rfl, hent k c h, fun d hd => ?_, fun hn => ?_⟩
 ·show codeL l [] ++ qryE q (codeL l []).length = _
  rw [hcode, ht, e1]
  simp only [List.append_assoc]
 ·have := hent (k + 1) d hd
  rw [e1, List.length_append] at this
  exact this
 ·have hd : l.drop (k + 1) = [] := List.drop_eq_nil_of_le (by have := List.getElem?_eq_none_iff.1 hn; omega)
  show ((codeL l []).length : Int) = _
  rw [hcode, hd]
  simp only [codeL]
  rw [e1, List.length_append]

set_option maxHeartbeats 4000000 in
set_option maxRecDepth 100000 in
theorem codeParts_ok (l : List Cs) (q : Cs) (at_ : Int) (ha : 0 ≤ at_ ∧ at_ ≤ 255) (hok : ∀ c ∈ l, c.Ok) (hq : q.Ok) (hb : l.length * 88 ≤ 140737488351232) : PCtr Tryz.prog 4 [prV l, q.av, .d (.v (.int .u8 at_))] (bV true) := by
 have hs := refSome14_ok l q hok hq hb
 refine PCtr.of_R (pf := fun _ => .still) tyOk mixed Tryz.func4 rfl (by kernel_rfl) (by kernel_rfl) (by simp [Tryz.ntmps4]) fun w S hg => ?_
 refine R_run hg.ok 1000 rfl rfl ?_
 cases hp : som14 l q with
 | false =>
  rw [hp] at hs
  refine R_call hg.ok (hs) rfl rfl rfl rfl rfl rfl ?_
  refine R_run hg.ok 1000 rfl rfl ?_
  refine R_if rfl rfl (fun _ => ?_) (fun h => absurd h (by simp)) <;> refine R_run hg.ok 1000 rfl rfl ?_
  refine R_call hg.ok (knows15_ok) rfl rfl rfl rfl rfl rfl ?_
  refine R_run hg.ok 1000 rfl rfl ?_
  refine R_ret hg 5 rfl rfl ?_
  rfl
 | true =>
  rw [hp] at hs
  obtain ⟨hm, h60⟩ := som14_all hp
  have hc := compileL_ok l q hm (by omega)
  refine R_call hg.ok (hs) rfl rfl rfl rfl rfl rfl ?_
  refine R_run hg.ok 1000 rfl rfl ?_
  refine R_if rfl rfl (fun h => absurd h (by simp)) (fun _ => ?_) <;> refine R_run hg.ok 1000 rfl rfl ?_
  by_cases hl0 : l = []
  ·refine R_if rfl rfl (fun _ => ?_) (fun h => absurd h (by simp [hl0, Cs.rows])) <;> refine R_run hg.ok 1000 rfl rfl ?_
   refine R_call hg.ok (knows15_ok) rfl rfl rfl rfl rfl rfl ?_
   refine R_run hg.ok 1000 rfl rfl ?_
   refine R_ret hg 5 rfl rfl ?_
   rfl
  have hl1 : 0 < l.length := List.length_pos_iff.2 hl0
  refine R_if rfl rfl (fun h => absurd h (by simp [Cs.rows, hl0])) (fun _ => ?_) <;> refine R_run hg.ok 1000 rfl rfl ?_
  cases hfq : fairQ q l with
  | false =>
   rw [hfq] at hc
   simp only [Bool.false_eq_true, if_false] at hc
   refine R_call hg.ok (hc) rfl rfl rfl rfl rfl rfl ?_
   refine R_run hg.ok 1000 rfl rfl ?_
   refine R_if rfl rfl (fun _ => ?_) (fun h => absurd h (by simp)) <;> refine R_run hg.ok 1000 rfl rfl ?_
   refine R_if rfl rfl (fun _ => ?_) (fun h => absurd h (by simp [cdZ, Is.rows])) <;> refine R_run hg.ok 1000 rfl rfl ?_
   refine R_call hg.ok (knows15_ok) rfl rfl rfl rfl rfl rfl ?_
   refine R_run hg.ok 1000 rfl rfl ?_
   refine R_ret hg 5 rfl rfl ?_
   rfl
  | true =>
   rw [hfq] at hc
   simp only [if_true] at hc
   have hk := cmpOk_of hm (by omega) hfq
   have hmod0 := Int.emod_nonneg at_ (b := (l.length : Int)) (by omega)
   have hmod1 := Int.emod_lt_of_pos at_ (b := (l.length : Int)) (by omega)
   obtain ⟨k, hke⟩ : ∃ k : Nat, at_ % (l.length : Int) = (k : Int) := ⟨(at_ % (l.length : Int)).toNat, by omega⟩
   have hkl : k < l.length := by omega
   have e1 : l[k]? = some l[k] := List.getElem?_eq_getElem hkl
   have hcm := List.getElem_mem hkl
   have hcs := (hm.sm l[k] (by simp [hcm])).head.1
   have hcz := Cs.size_mem (l := l ++ [q]) (c := l[k]) (by simp [hcm])
   have hms := hm.size
   have hcv := hk.vars _ hcm
   obtain ⟨pre, post, p1, p2, p3, p4, p5⟩ := part_ok l q k l[k] e1
   have hcl := refClause15_ok l[k] 0 (by omega) (by omega) (by unfold Cs.size at hcz; omega) hcv.1 hcv.2
   have hcn := clsC_len l[k] 0
   have hcn2 := clsC_len l[k] pre.length
   have hjm := clsC_jmp l[k] 0 100000 (by unfold Cs.size at hcz; omega)
   have hpl : pre.length ≤ 300000 := by
    have h1 := codeL_len (l.take k) [] fun c hc => (hk.vars c (List.mem_of_mem_take hc)).2
    have h2 := cs_sizeL_take l k
    have h3 : (l.take k).length ≤ 60 := by rw [List.length_take]; omega
    have h4 := hk.size
    rw [← p2] at h1
    simp only [List.length_nil] at h1
    omega
   have hsame := same15_ok (clsC l[k] 0) pre.length (by unfold Cs.size at hcz; omega) fun x hx hj => by have := hjm x hx hj; omega
   rw [← clsC_mv] at hsame
   have hel : (compG l q).ents.length = l.length := entL_len l 0
   unfold Cs.size at hcz
   have hkq := hk.len
   generalize compG l q = W at *
   obtain ⟨ins, ents, wat, slots⟩ := W
   simp only at p1 p3 p4 p5 hel
   generalize l[k] = c at *
   clear p2
   generalize hP : pre.length = P at *
   have hins : ins = pre ++ clsC c P ++ post := p1
   refine R_call hg.ok (hc) rfl rfl rfl rfl rfl rfl ?_
   refine R_run hg.ok 1000 rfl rfl ?_
   refine R_if rfl rfl (fun h => absurd h (by simp)) (fun _ => ?_) <;> refine R_run hg.ok 1000 rfl rfl ?_
   rw [w64 (n := at_) (by omega) (by omega)]
   refine R_rem hg.ok rfl rfl rfl rfl (by rw [Cs.rows_len]; omega) ?_
   rw [Cs.rows_len, Int.tmod_eq_emod_of_nonneg ha.1, hke]
   refine R_run hg.ok 1000 rfl rfl ?_
   refine R_if rfl rfl (fun h => absurd h (by simp [En.rows_len, hel, Cs.rows_len])) (fun _ => ?_) <;> refine R_run hg.ok 1000 rfl rfl ?_
   refine R_index hg.ok rfl rfl rfl rfl rfl rfl (Int.natCast_nonneg _) (En.rows_get p3) rfl ?_
   refine R_run hg.ok 1000 rfl rfl ?_
   rw [show (entG c P).at_ = (P : Int) from rfl]
   rw [w64 (n := (k : Int) + 1) (by omega) (by omega), Cs.rows_len]
   cases hn : l[k + 1]? with
   | some d =>
    have hk2 := (List.getElem?_eq_some_iff.1 hn).1
    have p6 := p4 d hn
    refine R_if rfl rfl (fun _ => ?_) (fun h => absurd h (by simp; omega)) <;> refine R_run hg.ok 1000 rfl rfl ?_
    rw [w64 (n := (k : Int) + 1) (by omega) (by omega), show (k : Int) + 1 = ((k + 1 : Nat) : Int) by omega]
    refine R_index hg.ok rfl rfl rfl rfl rfl rfl (Int.natCast_nonneg _) (En.rows_get p6) rfl ?_
    refine R_run hg.ok 1000 rfl rfl ?_
    rw [show (entG d (P + (clsC c P).length)).at_ = ((P + (clsC c P).length : Nat) : Int) from rfl]
    refine R_if rfl rfl (fun h => absurd h (by simp <;> omega)) (fun _ => ?_) <;> refine R_run hg.ok 1000 rfl rfl ?_
    refine R_if rfl rfl (fun h => absurd h (by simp <;> omega)) (fun _ => ?_) <;> refine R_run hg.ok 1000 rfl rfl ?_
    refine R_if rfl rfl (fun h => absurd h (by simp [hins, Is.rows_len] <;> omega)) (fun _ => ?_) <;> refine R_run hg.ok 1000 rfl rfl ?_
    refine R_sliceO hg.ok (Is.rows (clsC c P)) rfl rfl rfl rfl rfl rfl rfl (Is.rows_4 _) (by omega) (by omega) (by show _ ≤ ((Is.rows ins).length : Int); rw [Is.rows_len, hins]; simp only [List.length_append]; omega) ?_ ?_
    ·show ((Is.rows ins).drop (P : Int).toNat).take (((P + (clsC c P).length : Nat) : Int).toNat - (P : Int).toNat) = _
     rw [hins]
     have e3 : (((P + (clsC c P).length : Nat) : Int)).toNat - ((P : Int)).toNat = (clsC c P).length := by omega
     rw [e3, Int.toNat_natCast, Is.rows_app, Is.rows_app, List.append_assoc, List.drop_append_of_le_length (by rw [Is.rows_len]; omega), List.drop_eq_nil_of_le (by rw [Is.rows_len]; omega), List.nil_append, List.take_append_of_le_length (by rw [Is.rows_len]; omega), List.take_of_length_le (by rw [Is.rows_len]; omega)]
    refine R_run hg.ok 1000 rfl rfl ?_
    refine R_index hg.ok rfl rfl rfl rfl rfl rfl (Int.natCast_nonneg _) (Cs.rows_get e1) rfl ?_
    refine R_run hg.ok 1000 rfl rfl ?_
    refine R_call hg.ok (hcl) rfl rfl rfl rfl rfl rfl ?_
    refine R_run hg.ok 1000 rfl rfl ?_
    refine R_call hg.ok (hsame) rfl rfl rfl rfl rfl rfl ?_
    refine R_run hg.ok 1000 rfl rfl ?_
    refine R_if rfl rfl (fun _ => ?_) (fun h => absurd h (by simp)) <;> refine R_run hg.ok 1000 rfl rfl ?_
    refine R_call hg.ok (knows15_ok) rfl rfl rfl rfl rfl rfl ?_
    refine R_run hg.ok 1000 rfl rfl ?_
    refine R_ret hg 5 rfl rfl ?_
    rfl
   | none =>
    have hk2 := List.getElem?_eq_none_iff.1 hn
    have p6 := p5 hn
    refine R_if rfl rfl (fun h => absurd h (by simp <;> omega)) (fun _ => ?_) <;> refine R_run hg.ok 1000 rfl rfl ?_
    rw [show (Cd.mk ins ents wat slots).at_ = ((P + (clsC c P).length : Nat) : Int) from p6]
    refine R_if rfl rfl (fun h => absurd h (by simp <;> omega)) (fun _ => ?_) <;> refine R_run hg.ok 1000 rfl rfl ?_
    refine R_if rfl rfl (fun h => absurd h (by simp <;> omega)) (fun _ => ?_) <;> refine R_run hg.ok 1000 rfl rfl ?_
    refine R_if rfl rfl (fun h => absurd h (by simp [hins, Is.rows_len] <;> omega)) (fun _ => ?_) <;> refine R_run hg.ok 1000 rfl rfl ?_
    refine R_sliceO hg.ok (Is.rows (clsC c P)) rfl rfl rfl rfl rfl rfl rfl (Is.rows_4 _) (by omega) (by omega) (by show _ ≤ ((Is.rows ins).length : Int); rw [Is.rows_len, hins]; simp only [List.length_append]; omega) ?_ ?_
    ·show ((Is.rows ins).drop (P : Int).toNat).take (((P + (clsC c P).length : Nat) : Int).toNat - (P : Int).toNat) = _
     rw [hins]
     have e3 : (((P + (clsC c P).length : Nat) : Int)).toNat - ((P : Int)).toNat = (clsC c P).length := by omega
     rw [e3, Int.toNat_natCast, Is.rows_app, Is.rows_app, List.append_assoc, List.drop_append_of_le_length (by rw [Is.rows_len]; omega), List.drop_eq_nil_of_le (by rw [Is.rows_len]; omega), List.nil_append, List.take_append_of_le_length (by rw [Is.rows_len]; omega), List.take_of_length_le (by rw [Is.rows_len]; omega)]
    refine R_run hg.ok 1000 rfl rfl ?_
    refine R_index hg.ok rfl rfl rfl rfl rfl rfl (Int.natCast_nonneg _) (Cs.rows_get e1) rfl ?_
    refine R_run hg.ok 1000 rfl rfl ?_
    refine R_call hg.ok (hcl) rfl rfl rfl rfl rfl rfl ?_
    refine R_run hg.ok 1000 rfl rfl ?_
    refine R_call hg.ok (hsame) rfl rfl rfl rfl rfl rfl ?_
    refine R_run hg.ok 1000 rfl rfl ?_
    refine R_if rfl rfl (fun _ => ?_) (fun h => absurd h (by simp)) <;> refine R_run hg.ok 1000 rfl rfl ?_
    refine R_call hg.ok (knows15_ok) rfl rfl rfl rfl rfl rfl ?_
    refine R_run hg.ok 1000 rfl rfl ?_
    refine R_ret hg 5 rfl rfl ?_
    rfl
end Go.Proofs.YtcgkgofmldhokaaGreat
