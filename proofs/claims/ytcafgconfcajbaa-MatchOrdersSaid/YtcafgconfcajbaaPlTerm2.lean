import Derived.Test.YtcafgconfcajbaaPslC
import Derived.Test.YtcafgconfcajbaaPlTerm
namespace PSL
open Go
namespace Tm
mutual
/-- A term and all in it, from the left on, with how deep each lies. -/
def els : Tm → Int → List (Int × Tm)
  | mk k s n l, d => (d, mk k s n l) :: elsL l (d + 1)
def elsL : List Tm → Int → List (Int × Tm)
  | [], _ => []
  | t :: r, d => els t d ++ elsL r d
end

theorem els_eq (t : Tm) (d : Int) : els t d = (d, t) :: elsL t.l (d + 1) := by cases t; rfl

mutual
def size : Tm → Nat
  | mk _ _ _ l => 1 + sizeL l
def sizeL : List Tm → Nat
  | [] => 0
  | t :: r => size t + sizeL r
end
theorem size_eq (t : Tm) : size t = 1 + sizeL t.l := by cases t; simp only [size, l]

mutual
theorem els_len : ∀ (t : Tm) (d : Int), (els t d).length = size t
  | mk k s n l, d => by simp only [els, size, List.length_cons, elsL_len l]; omega
theorem elsL_len : ∀ (l : List Tm) (d : Int), (elsL l d).length = sizeL l
  | [], _ => rfl
  | t :: r, d => by simp only [elsL, sizeL, List.length_append, els_len t, elsL_len r]
end

theorem elsL_append : ∀ (a b : List Tm) (d : Int), elsL (a ++ b) d = elsL a d ++ elsL b d
  | [], b, d => by simp [elsL]
  | x :: a, b, d => by simp only [List.cons_append, elsL, elsL_append a b d, List.append_assoc]

theorem sizeL_append : ∀ (a b : List Tm), sizeL (a ++ b) = sizeL a + sizeL b
  | [], b => by simp [sizeL]
  | x :: a, b => by simp only [List.cons_append, sizeL, sizeL_append a b, Nat.add_assoc]

theorem sizeL_take_succ {l : List Tm} {k : Nat} {x : Tm} (h : l[k]? = some x) : sizeL (l.take (k + 1)) = sizeL (l.take k) + size x := by
  rw [List.take_add_one, h, sizeL_append]; simp [sizeL]

theorem size_mem {l : List Tm} {x : Tm} (h : x ∈ l) : size x ≤ sizeL l := by
  induction l with
  | nil => simp at h
  | cons y l ih =>
    simp only [sizeL]
    rcases List.mem_cons.1 h with rfl | h
    · omega
    · have := ih h; omega

theorem len_le_sizeL : ∀ (l : List Tm), l.length ≤ sizeL l
  | [] => Nat.le_refl _
  | x :: l => by have := len_le_sizeL l; have := size_eq x; simp only [sizeL, List.length_cons]; omega

def enc (e : Int × Tm) : List AV := [iV e.1, e.2.av]
end Tm

/-- How far it goes, in at most k steps from n on. -/
def adv (Y : YP) : Nat → Nat → Nat × Bool
  | 0, n => (n, true)
  | k + 1, n => if Y.go (n + 1) = true then adv Y k (n + 1) else (n + 1, false)

theorem adv_true {Y : YP} : ∀ {k n : Nat}, (adv Y k n).2 = true → (adv Y k n).1 = n + k ∧ (0 < k → Y.go (n + k) = true)
  | 0, n, _ => by simp [adv]
  | k + 1, n, h => by
    simp only [adv] at h ⊢
    split at h
    · rename_i hg
      rw [if_pos hg]
      obtain ⟨h1, h2⟩ := adv_true h
      refine ⟨by rw [h1]; omega, fun _ => ?_⟩
      rcases Nat.eq_zero_or_pos k with h0 | h0
      · subst h0; exact hg
      · have := h2 h0; rw [show n + (k + 1) = n + 1 + k by omega]; exact this
    · cases h

theorem adv_false {Y : YP} : ∀ {k n : Nat}, (adv Y k n).2 = false → Y.go (adv Y k n).1 = false ∧ (adv Y k n).1 ≠ 0
  | 0, n, h => by simp [adv] at h
  | k + 1, n, h => by
    simp only [adv] at h ⊢
    split at h
    · rename_i hg; rw [if_pos hg]; exact adv_false h
    · rename_i hg; rw [if_neg hg]; exact ⟨by simpa using hg, by simp⟩

theorem adv_add {Y : YP} : ∀ {a b n : Nat}, adv Y (a + b) n = if (adv Y a n).2 = true then adv Y b (adv Y a n).1 else adv Y a n
  | 0, b, n => by simp [adv]
  | a + 1, b, n => by
    rw [show a + 1 + b = (a + b) + 1 by omega]
    simp only [adv]
    split
    · exact adv_add
    · simp

theorem adv_add_true {Y : YP} {a b n : Nat} (h : adv Y a n = (n + a, true)) : adv Y (a + b) n = adv Y b (n + a) := by rw [adv_add, h]; simp
theorem adv_add_false {Y : YP} {a b n m : Nat} (h : adv Y a n = (m, false)) : adv Y (a + b) n = (m, false) := by rw [adv_add, h]; simp
theorem adv_eq {Y : YP} {k n : Nat} (h : (adv Y k n).2 = true) : adv Y k n = (n + k, true) := Prod.ext (adv_true h).1 h
end PSL
