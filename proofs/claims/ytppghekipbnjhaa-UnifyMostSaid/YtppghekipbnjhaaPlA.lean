import Derived.Test.YtppghekipbnjhaaPslB
import Derived.Test.YtppghekipbnjhaaPslC
import Derived.Laws.Strings
namespace PSL
open Go

/-- Terms, as data. -/
inductive Tm where
  | mk (k : Int) (s : ByteArray) (n : Int) (l : List Tm)

namespace Tm
def k : Tm → Int | mk k _ _ _ => k
def s : Tm → ByteArray | mk _ s _ _ => s
def n : Tm → Int | mk _ _ n _ => n
def l : Tm → List Tm | mk _ _ _ l => l

theorem ind {p : Tm → Prop} (h : ∀ t : Tm, (∀ x ∈ t.l, p x) → p t) (t : Tm) : p t :=
  Tm.rec (motive_1 := p) (motive_2 := fun l => ∀ x ∈ l, p x) (fun k s n l ih => h (.mk k s n l) ih) (by simp) (fun x r h1 h2 => by
    intro y hy
    rcases List.mem_cons.1 hy with rfl | hy
    · exact h1
    · exact h2 y hy) t

mutual
def rowM : Tm → List D
  | mk k s n l => [.v (.int .i64 k), .v (.string s), .v (.int .i64 n), .sl (rows l)]
def rows : List Tm → List (List D)
  | [] => []
  | t :: r => rowM t :: rows r
end

def row (t : Tm) : List D := [.v (.int .i64 t.k), .v (.string t.s), .v (.int .i64 t.n), .sl (rows t.l)]
theorem rowM_eq (t : Tm) : rowM t = row t := by cases t; simp only [rowM, row, k, s, n, l]

theorem rows_eq (l : List Tm) : rows l = l.map row := by
  induction l with
  | nil => rfl
  | cons x r ih => simp only [rows, rowM_eq, List.map_cons, ih]

theorem rows_length (l : List Tm) : (rows l).length = l.length := by rw [rows_eq]; simp
theorem rows_get {l : List Tm} {i : Nat} {x : Tm} (h : l[i]? = some x) : (rows l)[i]? = some (row x) := by rw [rows_eq, List.getElem?_map, h]; rfl

def av (t : Tm) : AV := .agg [.d (.v (.int .i64 t.k)), .d (.v (.string t.s)), .d (.v (.int .i64 t.n)), .d (.sl (rows t.l))]

mutual
def same : Tm → Tm → Bool
  | mk k s n l, mk k' s' n' l' => k == k' && n == n' && strEq s s' && sameL l l'
def sameL : List Tm → List Tm → Bool
  | [], [] => true
  | x :: r, y :: r' => same x y && sameL r r'
  | _, _ => false
end

theorem same_eq (a b : Tm) : same a b = (a.k == b.k && a.n == b.n && strEq a.s b.s && sameL a.l b.l) := by
  cases a; cases b; simp only [same, k, s, n, l]

theorem sameL_iff : ∀ (a b : List Tm), sameL a b = true ↔ a.length = b.length ∧ ∀ (i : Nat) (x y : Tm), a[i]? = some x → b[i]? = some y → same x y = true
  | [], [] => by simp [sameL]
  | [], _ :: _ => by simp [sameL]
  | _ :: _, [] => by simp [sameL]
  | x :: a, y :: b => by
    simp only [sameL, Bool.and_eq_true, sameL_iff a b, List.length_cons, Nat.add_right_cancel_iff]
    constructor
    · rintro ⟨h1, h2, h3⟩
      refine ⟨h2, fun i u v hu hv => ?_⟩
      cases i with
      | zero => simp at hu hv; subst hu; subst hv; exact h1
      | succ i => simp at hu hv; exact h3 i u v hu hv
    · rintro ⟨h2, h3⟩
      exact ⟨h3 0 x y rfl rfl, h2, fun i u v hu hv => h3 (i + 1) u v (by simpa using hu) (by simpa using hv)⟩
end Tm
end PSL

namespace PSL
open Go
namespace Tm
mutual
/-- A term and all in it, from the left on, with how deep each lies. -/
def els : Tm → Int → List (Int × Tm)
  | mk k s n l, d => (d, mk k s n l) :: elsL l (d + 1)
def elsL : List Tm → Int → List (Int × Tm)
  | [], _ => []
  | t :: r, d => els t d ++ elsL r d
end

theorem els_eq (t : Tm) (d : Int) : els t d = (d, t) :: elsL t.l (d + 1) := by cases t; rfl

mutual
def size : Tm → Nat
  | mk _ _ _ l => 1 + sizeL l
def sizeL : List Tm → Nat
  | [] => 0
  | t :: r => size t + sizeL r
end
theorem size_eq (t : Tm) : size t = 1 + sizeL t.l := by cases t; simp only [size, l]

mutual
theorem els_len : ∀ (t : Tm) (d : Int), (els t d).length = size t
  | mk k s n l, d => by simp only [els, size, List.length_cons, elsL_len l]; omega
theorem elsL_len : ∀ (l : List Tm) (d : Int), (elsL l d).length = sizeL l
  | [], _ => rfl
  | t :: r, d => by simp only [elsL, sizeL, List.length_append, els_len t, elsL_len r]
end

theorem elsL_append : ∀ (a b : List Tm) (d : Int), elsL (a ++ b) d = elsL a d ++ elsL b d
  | [], b, d => by simp [elsL]
  | x :: a, b, d => by simp only [List.cons_append, elsL, elsL_append a b d, List.append_assoc]

theorem sizeL_append : ∀ (a b : List Tm), sizeL (a ++ b) = sizeL a + sizeL b
  | [], b => by simp [sizeL]
  | x :: a, b => by simp only [List.cons_append, sizeL, sizeL_append a b, Nat.add_assoc]

theorem sizeL_take_succ {l : List Tm} {k : Nat} {x : Tm} (h : l[k]? = some x) : sizeL (l.take (k + 1)) = sizeL (l.take k) + size x := by
  rw [List.take_add_one, h, sizeL_append]; simp [sizeL]

theorem size_mem {l : List Tm} {x : Tm} (h : x ∈ l) : size x ≤ sizeL l := by
  induction l with
  | nil => simp at h
  | cons y l ih =>
    simp only [sizeL]
    rcases List.mem_cons.1 h with rfl | h
    · omega
    · have := ih h; omega

theorem len_le_sizeL : ∀ (l : List Tm), l.length ≤ sizeL l
  | [] => Nat.le_refl _
  | x :: l => by have := len_le_sizeL l; have := size_eq x; simp only [sizeL, List.length_cons]; omega

def enc (e : Int × Tm) : List AV := [iV e.1, e.2.av]
end Tm

/-- How far it goes, in at most k steps from n on. -/
def adv (Y : YP) : Nat → Nat → Nat × Bool
  | 0, n => (n, true)
  | k + 1, n => if Y.go (n + 1) = true then adv Y k (n + 1) else (n + 1, false)

theorem adv_true {Y : YP} : ∀ {k n : Nat}, (adv Y k n).2 = true → (adv Y k n).1 = n + k ∧ (0 < k → Y.go (n + k) = true)
  | 0, n, _ => by simp [adv]
  | k + 1, n, h => by
    simp only [adv] at h ⊢
    split at h
    · rename_i hg
      rw [if_pos hg]
      obtain ⟨h1, h2⟩ := adv_true h
      refine ⟨by rw [h1]; omega, fun _ => ?_⟩
      rcases Nat.eq_zero_or_pos k with h0 | h0
      · subst h0; exact hg
      · have := h2 h0; rw [show n + (k + 1) = n + 1 + k by omega]; exact this
    · cases h

theorem adv_false {Y : YP} : ∀ {k n : Nat}, (adv Y k n).2 = false → Y.go (adv Y k n).1 = false ∧ (adv Y k n).1 ≠ 0
  | 0, n, h => by simp [adv] at h
  | k + 1, n, h => by
    simp only [adv] at h ⊢
    split at h
    · rename_i hg; rw [if_pos hg]; exact adv_false h
    · rename_i hg; rw [if_neg hg]; exact ⟨by simpa using hg, by simp⟩

theorem adv_add {Y : YP} : ∀ {a b n : Nat}, adv Y (a + b) n = if (adv Y a n).2 = true then adv Y b (adv Y a n).1 else adv Y a n
  | 0, b, n => by simp [adv]
  | a + 1, b, n => by
    rw [show a + 1 + b = (a + b) + 1 by omega]
    simp only [adv]
    split
    · exact adv_add
    · simp

theorem adv_add_true {Y : YP} {a b n : Nat} (h : adv Y a n = (n + a, true)) : adv Y (a + b) n = adv Y b (n + a) := by rw [adv_add, h]; simp
theorem adv_add_false {Y : YP} {a b n m : Nat} (h : adv Y a n = (m, false)) : adv Y (a + b) n = (m, false) := by rw [adv_add, h]; simp
theorem adv_eq {Y : YP} {k n : Nat} (h : (adv Y k n).2 = true) : adv Y k n = (n + k, true) := Prod.ext (adv_true h).1 h
end PSL

namespace PSL
open Go

def byteOk (b : UInt8) : Bool := !(decide ((b.toNat : Int) < 32) || decide ((b.toNat : Int) > 126))
def namedB (s : ByteArray) : Bool := s.data.toList.all byteOk && (decide ((s.size : Int) ≥ 1) && decide ((s.size : Int) ≤ 20))

theorem byte_at {s : ByteArray} {k : Nat} (h : k < s.size) : s[k]? = some s[k] := getElem?_pos s k h

theorem all_bytes {s : ByteArray} {p : UInt8 → Bool} (h : ∀ k (hk : k < s.size), p s[k] = true) : s.data.toList.all p = true := by
  rw [List.all_eq_true]
  intro b hb
  obtain ⟨i, hi, rfl⟩ := List.mem_iff_getElem.1 hb
  have : i < s.size := by simpa using hi
  exact h i this

theorem not_all_bytes {s : ByteArray} {p : UInt8 → Bool} {k : Nat} (hk : k < s.size) (h : p s[k] = false) : s.data.toList.all p = false := by
  rw [List.all_eq_false]
  refine ⟨s[k], ?_, by simp [h]⟩
  have : s[k] = s.data.toList[k]'(by simpa using hk) := rfl
  rw [this]; exact List.getElem_mem _

namespace Tm
def ownT (t : Tm) : Bool :=
  if t.k = 1 then decide (t.n ≥ 0) && decide (t.n < 1000000) && strEq t.s ⟨#[]⟩ && ((t.l.length : Int) == 0)
  else if t.k = 2 then strEq t.s ⟨#[]⟩ && ((t.l.length : Int) == 0)
  else if t.k = 3 then (t.n == 0) && namedB t.s && decide ((t.l.length : Int) ≤ 8)
  else false
end Tm
end PSL

namespace PSL
open Go

theorem adv_all {Y : YP} : ∀ {k n : Nat}, (adv Y k n).2 = true ↔ ∀ i, i < k → Y.go (n + i + 1) = true
  | 0, n => by simp [adv]
  | k + 1, n => by
    simp only [adv]
    split
    · rename_i h
      rw [adv_all]
      constructor
      · intro h1 i hi
        cases i with
        | zero => exact h
        | succ i => have := h1 i (by omega); rw [show n + (i + 1) + 1 = n + 1 + i + 1 by omega]; exact this
      · intro h1 i hi
        have := h1 (i + 1) (by omega); rw [show n + 1 + i + 1 = n + (i + 1) + 1 by omega]; exact this
    · rename_i h
      constructor
      · intro h1; cases h1
      · intro h1; exact absurd (h1 0 (by omega)) h

theorem lt_dec {k n : Nat} {m : Int} (h : decide ((k : Int) < m) = true) (e : m = n) : k < n := by have := of_decide_eq_true h; omega
theorem ge_dec {k n : Nat} {m : Int} (h : decide ((k : Int) < m) = false) (e : m = n) : n ≤ k := by have := of_decide_eq_false h; omega
theorem w64 {n : Int} (h1 : -9223372036854775808 ≤ n) (h2 : n < 9223372036854775808) : IntKind.i64.wrap n = n := wrap_id h1 h2

/-- Int64. -/
def I64 (n : Int) : Prop := -9223372036854775808 ≤ n ∧ n ≤ 9223372036854775807

/-- Rows of numbers. -/
def irow (n : Int) : List D := [.v (.int .i64 n)]
def irows (l : List Int) : List (List D) := l.map irow
theorem irows_length (l : List Int) : (irows l).length = l.length := by simp [irows]
theorem irows_get {l : List Int} {i : Nat} {x : Int} (h : l[i]? = some x) : (irows l)[i]? = some (irow x) := by simp [irows, h]

namespace Tm
mutual
def depth : Tm → Nat
  | mk _ _ _ l => depthL l + 1
def depthL : List Tm → Nat
  | [] => 0
  | t :: r => max (depth t) (depthL r)
end
theorem depth_eq (t : Tm) : depth t = depthL t.l + 1 := by cases t; simp only [depth, l]

mutual
theorem depth_le_size : ∀ (t : Tm), depth t ≤ size t
  | mk k s n l => by have := depthL_le_sizeL l; simp only [depth, size]; omega
theorem depthL_le_sizeL : ∀ (l : List Tm), depthL l ≤ sizeL l
  | [] => Nat.le_refl _
  | t :: r => by have := depth_le_size t; have := depthL_le_sizeL r; simp only [depthL, sizeL]; omega
end

/-- What the reference says of a term's fields, and of all in it. -/
def kindR (k : Int) (s : ByteArray) (n : Int) (m : Nat) : Bool :=
  if k = 1 then decide (n ≥ 0) && decide (n < 1000000) && strEq s ⟨#[]⟩ && ((m : Int) == 0)
  else if k = 2 then strEq s ⟨#[]⟩ && ((m : Int) == 0)
  else (k == 3) && (n == 0) && decide ((s.size : Int) ≥ 1) && decide ((s.size : Int) ≤ 20) && decide ((m : Int) ≤ 8)

mutual
def fairR : Tm → Bool
  | mk k s n l => s.data.toList.all byteOk && fairRL l && kindR k s n l.length
def fairRL : List Tm → Bool
  | [] => true
  | t :: r => fairR t && fairRL r
end
theorem fairR_eq (t : Tm) : fairR t = (t.s.data.toList.all byteOk && fairRL t.l && kindR t.k t.s t.n t.l.length) := by cases t; simp only [fairR, l, k, s, n]

theorem fairRL_iff : ∀ {l : List Tm}, fairRL l = true ↔ ∀ t ∈ l, fairR t = true
  | [] => by simp [fairRL]
  | t :: r => by simp [fairRL, fairRL_iff (l := r)]

theorem els_memL {l : List Tm} {x : Tm} {d : Int} {e : Int × Tm} (h : x ∈ l) (he : e ∈ els x d) : e ∈ elsL l d := by
  induction l with
  | nil => simp at h
  | cons y l ih =>
    simp only [elsL, List.mem_append]
    rcases List.mem_cons.1 h with rfl | h
    · exact .inl he
    · exact .inr (ih h)

theorem elsL_mem {l : List Tm} {d : Int} {e : Int × Tm} (h : e ∈ elsL l d) : ∃ x ∈ l, e ∈ els x d := by
  induction l with
  | nil => simp [elsL] at h
  | cons y l ih =>
    simp only [elsL, List.mem_append] at h
    rcases h with h | h
    · exact ⟨y, by simp, h⟩
    · obtain ⟨x, hx, he⟩ := ih h; exact ⟨x, by simp [hx], he⟩

/-- Terms that can lie in memory. -/
def Ok (t : Tm) : Prop := ∀ d e, e ∈ els t d → e.2.l.length ≤ 140737488355328 ∧ e.2.s.size ≤ 140737488355328
theorem Ok.len {t : Tm} (h : t.Ok) : t.l.length ≤ 140737488355328 := (h 0 (0, t) (by rw [els_eq]; simp)).1
theorem Ok.name {t : Tm} (h : t.Ok) : t.s.size ≤ 140737488355328 := (h 0 (0, t) (by rw [els_eq]; simp)).2
theorem Ok.sub {t x : Tm} (h : t.Ok) (hx : x ∈ t.l) : x.Ok := fun d e he => h (d - 1) e (by rw [els_eq]; exact List.mem_cons_of_mem _ (els_memL hx (by rw [Int.sub_add_cancel]; exact he)))

/-- How many terms there may be still. -/
def fewStep (s : ByteArray) (most deep : Int) : Bool := decide (IntKind.i64.wrap (most - 1) < 0) || decide (deep < 1) || decide ((s.size : Int) > 100)
mutual
def few : Tm → Int → Int → Int
  | mk _ s _ l, most, deep => if fewStep s most deep then -1 else fewL l (IntKind.i64.wrap (most - 1)) (IntKind.i64.wrap (deep - 1))
def fewL : List Tm → Int → Int → Int
  | [], most, _ => most
  | t :: r, most, deep => if most ≥ 0 then fewL r (few t most deep) deep else most
end
theorem few_eq (t : Tm) (m d : Int) : few t m d = if fewStep t.s m d then -1 else fewL t.l (IntKind.i64.wrap (m - 1)) (IntKind.i64.wrap (d - 1)) := by cases t; simp only [few]; rfl

def someT (l : List Tm) : Bool := decide (fewL l 4000 200 ≥ 0) && decide ((l.length : Int) ≤ 100)

mutual
theorem few_le : ∀ (t : Tm) (m d : Int), 0 ≤ m → m < 9223372036854775808 → d ≤ 1000 → few t m d = -1 ∨ (few t m d + size t ≤ m ∧ depth t ≤ d ∧ t.s.size ≤ 100 ∧ 0 ≤ few t m d ∧ ∀ x e, e ∈ els t x → e.2.s.size ≤ 100)
  | mk k s n l, m, d, h0, h1, h2 => by
    simp only [few]
    split
    · exact .inl rfl
    · rename_i hs
      simp only [fewStep, Bool.or_eq_true, decide_eq_true_eq, not_or] at hs
      have e1 : IntKind.i64.wrap (m - 1) = m - 1 := w64 (by omega) (by omega)
      rw [e1] at hs ⊢
      have e2 : IntKind.i64.wrap (d - 1) = d - 1 := w64 (by omega) (by omega)
      rw [e2]
      rcases fewL_le l (m - 1) (d - 1) (by omega) (by omega) (by omega) with h | ⟨h3, h4, h5, h6⟩
      · exact .inl h
      · refine .inr ⟨by simp only [size]; omega, by simp only [depth]; omega, ?_, h5, fun x e he => ?_⟩
        · show s.size ≤ 100; omega
        · simp only [els, List.mem_cons] at he
          rcases he with rfl | he
          · show s.size ≤ 100; omega
          · exact h6 _ _ he
theorem fewL_le : ∀ (l : List Tm) (m d : Int), 0 ≤ m → m < 9223372036854775808 → 0 ≤ d ∧ d ≤ 1000 → fewL l m d = -1 ∨ (fewL l m d + sizeL l ≤ m ∧ depthL l ≤ d ∧ 0 ≤ fewL l m d ∧ ∀ x e, e ∈ elsL l x → e.2.s.size ≤ 100)
  | [], m, d, h0, h1, h2 => by simp only [fewL, sizeL, depthL, elsL]; exact .inr ⟨by omega, by omega, h0, by simp⟩
  | t :: r, m, d, h0, h1, h2 => by
    simp only [fewL]
    rw [if_pos h0]
    rcases few_le t m d h0 h1 h2.2 with h | ⟨h3, h4, _, h5, h6⟩
    · rw [h]
      cases r with
      | nil => exact .inl rfl
      | cons u r => simp only [fewL]; exact .inl (by rw [if_neg (by omega)])
    · rcases fewL_le r (few t m d) d h5 (by omega) h2 with h | ⟨h7, h8, h9, h10⟩
      · exact .inl h
      · refine .inr ⟨by simp only [sizeL]; omega, by simp only [depthL]; omega, h9, fun x e he => ?_⟩
        simp only [elsL, List.mem_append] at he
        rcases he with he | he
        · exact h6 _ _ he
        · exact h10 _ _ he
end

theorem someT_ok {l : List Tm} (h : someT l = true) : sizeL l ≤ 4000 ∧ depthL l ≤ 200 ∧ l.length ≤ 100 ∧ ∀ x e, e ∈ elsL l x → e.2.s.size ≤ 100 := by
  simp only [someT, Bool.and_eq_true, decide_eq_true_eq] at h
  rcases fewL_le l 4000 200 (by omega) (by omega) (by omega) with h1 | ⟨h2, h3, h4, h5⟩
  · omega
  · exact ⟨by omega, by omega, by omega, h5⟩

def rightB (t : Tm) : Bool := fairR t && decide (t.size ≤ 3000) && decide (t.depth ≤ 100)

theorem toList_data (s : ByteArray) : s.toList = s.data.toList := ByteArray.toList_eq s

theorem strEq_iff {a b : ByteArray} : strEq a b = true ↔ a = b := by
  simp only [strEq, beq_iff_eq]
  constructor
  · intro h
    rw [toList_data, toList_data] at h
    cases a; cases b
    simpa using h
  · rintro rfl; rfl

theorem ownT_eq (t : Tm) : t.ownT = (t.s.data.toList.all byteOk && kindR t.k t.s t.n t.l.length) := by
  unfold ownT kindR
  split
  · by_cases h : strEq t.s ⟨#[]⟩ = true
    · have := strEq_iff.1 h
      rw [this]; simp
    · simp [h]
  · split
    · by_cases h : strEq t.s ⟨#[]⟩ = true
      · have := strEq_iff.1 h
        rw [this]; simp
      · simp [h]
    · split
      · rename_i h; simp only [h, namedB]
        cases t.s.data.toList.all byteOk <;> simp [Bool.and_assoc]
      · rename_i h; simp [h]

mutual
theorem fair_els : ∀ (t : Tm) (d : Int), (∀ e ∈ els t d, e.2.ownT = true) ↔ fairR t = true
  | mk k s n l, d => by
    have h := fairL_els l (d + 1)
    have h2 : (mk k s n l).ownT = (s.data.toList.all byteOk && kindR k s n l.length) := ownT_eq _
    simp only [els, List.mem_cons, forall_eq_or_imp, h, h2, fairR, Bool.and_eq_true]
    constructor
    · rintro ⟨⟨h1, h2⟩, h3⟩; exact ⟨⟨h1, h3⟩, h2⟩
    · rintro ⟨⟨h1, h2⟩, h3⟩; exact ⟨⟨h1, h3⟩, h2⟩
theorem fairL_els : ∀ (l : List Tm) (d : Int), (∀ e ∈ elsL l d, e.2.ownT = true) ↔ fairRL l = true
  | [], d => by simp [elsL, fairRL]
  | t :: r, d => by
    simp only [elsL, List.mem_append, fairRL, Bool.and_eq_true, ← fair_els t d, ← fairL_els r d]
    constructor
    · intro h; exact ⟨fun e he => h e (.inl he), fun e he => h e (.inr he)⟩
    · rintro ⟨h1, h2⟩ e (he | he)
      · exact h1 e he
      · exact h2 e he
end

mutual
theorem deep_els : ∀ (t : Tm) (d m : Int), (∀ e ∈ els t d, e.1 ≤ m) ↔ d + t.depth - 1 ≤ m
  | mk k s n l, d, m => by
    simp only [els, List.mem_cons, forall_eq_or_imp, deepL_els l (d + 1) m, depth]
    cases hl : l with
    | nil => simp [depthL]
    | cons x r =>
      have : 0 < depthL (x :: r) := by simp only [depthL]; have := depth_eq x; omega
      simp only [List.cons_ne_nil, false_or]
      omega
theorem deepL_els : ∀ (l : List Tm) (d m : Int), (∀ e ∈ elsL l d, e.1 ≤ m) ↔ l = [] ∨ d + depthL l - 1 ≤ m
  | [], d, m => by simp [elsL]
  | t :: r, d, m => by
    have h1 := deep_els t d m
    have h2 := deepL_els r d m
    simp only [elsL, List.mem_append, depthL, List.cons_ne_nil, false_or]
    have h3 := depth_eq t
    constructor
    · intro h
      have h4 := h1.1 fun e he => h e (.inl he)
      have h5 := h2.1 fun e he => h e (.inr he)
      rcases h5 with rfl | h5
      · simp only [depthL]; omega
      · omega
    · intro h e he
      rcases he with he | he
      · exact h1.2 (by omega) e he
      · refine h2.2 ?_ e he
        right; omega
end

mutual
theorem same_iff : ∀ (a b : Tm), same a b = true ↔ a = b
  | mk k s n l, mk k' s' n' l' => by
    simp only [same, Bool.and_eq_true, beq_iff_eq, strEq_iff, sameL_eq l l', mk.injEq]
    constructor
    · rintro ⟨⟨⟨h1, h2⟩, h3⟩, h4⟩; exact ⟨h1, h3, h2, h4⟩
    · rintro ⟨h1, h3, h2, h4⟩; exact ⟨⟨⟨h1, h2⟩, h3⟩, h4⟩
theorem sameL_eq : ∀ (a b : List Tm), sameL a b = true ↔ a = b
  | [], [] => by simp [sameL]
  | [], _ :: _ => by simp [sameL]
  | _ :: _, [] => by simp [sameL]
  | x :: a, y :: b => by simp only [sameL, Bool.and_eq_true, same_iff x y, sameL_eq a b, List.cons.injEq]
end
theorem same_refl (a : Tm) : same a a = true := (same_iff a a).2 rfl
theorem sameL_refl (a : List Tm) : sameL a a = true := (sameL_eq a a).2 rfl

theorem sameL_len {a b : List Tm} (h : ¬ a.length = b.length) : sameL a b = false := by
  cases hs : sameL a b
  · rfl
  · exact absurd ((sameL_iff _ _).1 hs).1 h
end Tm

def stepR (e : Int × Tm) (n : Nat) : Bool := !(decide (e.1 > 100) || decide ((n : Int) > 3000) || !e.2.ownT)

/-- Is it right so far? -/
def goR (t : Tm) (n : Nat) : Bool := match n with
  | 0 => true
  | m + 1 => match (t.els 1)[m]? with
    | some e => stepR e (m + 1)
    | none => true

def rightT (t : Tm) : Bool := (adv ⟨(t.els 1).map Tm.enc, goR t⟩ t.size 0).2

def goG (t : Tm) (n : Nat) : Bool := match n with
  | 0 => true
  | m + 1 => match (t.els 1)[m]? with
    | some e => !(e.2.k == 1)
    | none => true

def groundT (t : Tm) : Bool := (adv ⟨(t.els 1).map Tm.enc, goG t⟩ t.size 0).2

theorem adv_els {t : Tm} {g : Nat → Bool} : (adv ⟨(t.els 1).map Tm.enc, g⟩ t.size 0).2 = true ↔ ∀ i, i < t.size → g (i + 1) = true := by
  rw [adv_all]; simp

theorem rightT_eq (t : Tm) : rightT t = t.rightB := by
  rw [Bool.eq_iff_iff]
  unfold rightT
  rw [adv_els]
  unfold Tm.rightB
  simp only [Bool.and_eq_true, decide_eq_true_eq, ← Tm.fair_els t 1]
  have hd := Tm.deep_els t 1 100
  have hl := Tm.els_len t 1
  have hs := Tm.size_eq t
  constructor
  · intro h
    have h1 : ∀ e ∈ t.els 1, e.1 ≤ 100 ∧ e.2.ownT = true := fun e he => by
      obtain ⟨i, hi, rfl⟩ := List.mem_iff_getElem.1 he
      have := h i (by omega)
      simp only [goR, List.getElem?_eq_getElem hi, stepR, Bool.not_eq_true', Bool.or_eq_false_iff, decide_eq_false_iff_not, Bool.not_eq_false'] at this
      exact ⟨by omega, this.2⟩
    refine ⟨⟨fun e he => (h1 e he).2, ?_⟩, ?_⟩
    · have hi : t.size - 1 < (t.els 1).length := by omega
      have := h (t.size - 1) (by omega)
      simp only [goR, List.getElem?_eq_getElem hi, stepR, Bool.not_eq_true', Bool.or_eq_false_iff, decide_eq_false_iff_not, Bool.not_eq_false'] at this
      omega
    · have := hd.1 fun e he => (h1 e he).1
      omega
  · rintro ⟨⟨h1, h2⟩, h3⟩ i hi
    have hi' : i < (t.els 1).length := by omega
    have h4 := hd.2 (by omega) _ (List.getElem_mem hi')
    simp only [goR, List.getElem?_eq_getElem hi', stepR, Bool.not_eq_true', Bool.or_eq_false_iff, decide_eq_false_iff_not, Bool.not_eq_false']
    exact ⟨⟨by omega, by omega⟩, h1 _ (List.getElem_mem hi')⟩

theorem groundT_iff (t : Tm) : groundT t = true ↔ ∀ e ∈ t.els 1, e.2.k ≠ 1 := by
  unfold groundT
  rw [adv_els]
  have hl := Tm.els_len t 1
  constructor
  · intro h e he
    obtain ⟨i, hi, rfl⟩ := List.mem_iff_getElem.1 he
    have := h i (by omega)
    simpa [goG, List.getElem?_eq_getElem hi] using this
  · intro h i hi
    have hi' : i < (t.els 1).length := by omega
    simpa [goG, List.getElem?_eq_getElem hi'] using h _ (List.getElem_mem hi')

/-! ### terms with other variables -/
namespace Tm
mutual
/-- What the reference turns a term into. -/
def turnR (g : Int → Int) : Tm → Tm
  | mk k s n l => if k = 1 then mk 1 ByteArray.empty (g n) [] else mk k s n (turnRL g l)
def turnRL (g : Int → Int) : List Tm → List Tm
  | [] => []
  | t :: r => turnR g t :: turnRL g r
end
mutual
def turnT (g : Int → Int) : Tm → Tm
  | mk k s n l => mk k s (if k = 1 then g n else n) (turnTL g l)
def turnTL (g : Int → Int) : List Tm → List Tm
  | [] => []
  | t :: r => turnT g t :: turnTL g r
end
theorem turnR_eq (g : Int → Int) (t : Tm) : turnR g t = if t.k = 1 then mk 1 ByteArray.empty (g t.n) [] else mk t.k t.s t.n (turnRL g t.l) := by cases t; simp only [turnR]; rfl
theorem turnT_eq (g : Int → Int) (t : Tm) : turnT g t = mk t.k t.s (if t.k = 1 then g t.n else t.n) (turnTL g t.l) := by cases t; simp only [turnT]; rfl
theorem turnRL_map (g : Int → Int) : ∀ l, turnRL g l = l.map (turnR g)
  | [] => rfl
  | t :: r => by simp only [turnRL, List.map_cons, turnRL_map g r]
theorem turnTL_map (g : Int → Int) : ∀ l, turnTL g l = l.map (turnT g)
  | [] => rfl
  | t :: r => by simp only [turnTL, List.map_cons, turnTL_map g r]
end Tm

/-- The place of a number. -/
def atI : List Int → Int → Int → Int
  | [], _, _ => -1
  | x :: r, n, i => if x = n then i else atI r n (i + 1)

/-! ### variables -/
def addV (l : List Int) (x : Int) : List Int := if l.contains x then l else l ++ [x]
def stepV (l : List Int) (e : Int × Tm) : List Int := if e.2.k = 1 then addV l e.2.n else l

/-- What term.Vars answers. -/
def varsT (l : List Tm) : List Int := l.foldl (fun a t => (t.els 1).foldl stepV a) []

namespace Tm
mutual
def withV : List Int → Tm → List Int
  | a, mk k _ n l => if k = 1 then addV a n else withVL a l
def withVL : List Int → List Tm → List Int
  | a, [] => a
  | a, t :: r => withVL (withV a t) r
end
mutual
def plain : Tm → Bool
  | mk k _ _ l => !((k == 1) && !l.isEmpty) && plainL l
def plainL : List Tm → Bool
  | [] => true
  | t :: r => plain t && plainL r
end
theorem withV_eq (a : List Int) (t : Tm) : withV a t = if t.k = 1 then addV a t.n else withVL a t.l := by cases t; simp only [withV]; rfl
theorem plain_eq (t : Tm) : plain t = (!((t.k == 1) && !t.l.isEmpty) && plainL t.l) := by cases t; simp only [plain]; rfl
theorem addV_len' (l : List Int) (x : Int) : (addV l x).length ≤ l.length + 1 := by unfold addV; split <;> simp
mutual
theorem withV_len : ∀ (t : Tm) (a : List Int), (withV a t).length ≤ a.length + size t
  | mk k s n l, a => by
    simp only [withV, size]
    split
    · have := addV_len' a n; omega
    · have := withVL_len l a; omega
theorem withVL_len : ∀ (l : List Tm) (a : List Int), (withVL a l).length ≤ a.length + sizeL l
  | [], a => by simp [withVL]
  | t :: r, a => by have h1 := withV_len t a; have h2 := withVL_len r (withV a t); simp only [withVL, sizeL]; omega
end
theorem withVL_append : ∀ (x y : List Tm) (a : List Int), withVL a (x ++ y) = withVL (withVL a x) y
  | [], y, a => rfl
  | t :: x, y, a => by simp only [List.cons_append, withVL, withVL_append x y]

mutual
theorem els_with : ∀ (t : Tm) (d : Int) (a : List Int), plain t = true → (els t d).foldl stepV a = withV a t
  | mk k s n l, d, a, h => by
    simp only [plain, Bool.and_eq_true, Bool.not_eq_true', Bool.and_eq_false_iff] at h
    simp only [els, List.foldl_cons, withV]
    by_cases hk : k = 1
    · have hl : l = [] := by
        rcases h.1 with h1 | h1
        · simp [hk] at h1
        · simpa using h1
      subst hl
      simp only [elsL, List.foldl_nil, hk, if_true]
      rfl
    · rw [if_neg hk, elsL_with l (d + 1) _ h.2]
      simp only [stepV, Tm.k, hk, if_false]
theorem elsL_with : ∀ (l : List Tm) (d : Int) (a : List Int), plainL l = true → (elsL l d).foldl stepV a = withVL a l
  | [], d, a, h => rfl
  | t :: r, d, a, h => by
    simp only [plainL, Bool.and_eq_true] at h
    simp only [elsL, List.foldl_append, withVL, els_with t d a h.1, elsL_with r d _ h.2]
end
end Tm

theorem varsT_with : ∀ (l : List Tm), Tm.plainL l = true → varsT l = Tm.withVL [] l := by
  have key : ∀ (l : List Tm) (a : List Int), Tm.plainL l = true → l.foldl (fun a t => (t.els 1).foldl stepV a) a = Tm.withVL a l := by
    intro l
    induction l with
    | nil => intro a _; rfl
    | cons t r ih =>
      intro a h
      simp only [Tm.plainL, Bool.and_eq_true] at h
      simp only [List.foldl_cons, Tm.withVL, Tm.els_with t 1 a h.1, ih _ h.2]
  exact fun l h => key l [] h

theorem stepV_nil {l : List (Int × Tm)} {a : List Int} : l.foldl stepV a = [] ↔ a = [] ∧ ∀ e ∈ l, e.2.k ≠ 1 := by
  induction l generalizing a with
  | nil => simp
  | cons e l ih =>
    simp only [List.foldl_cons, ih, List.mem_cons, forall_eq_or_imp]
    unfold stepV addV
    split
    · rename_i h
      split
      · rename_i h2
        constructor
        · rintro ⟨rfl, _⟩; simp at h2
        · rintro ⟨_, h3, _⟩; exact absurd h h3
      · constructor
        · rintro ⟨h3, _⟩; simp at h3
        · rintro ⟨_, h3, _⟩; exact absurd h h3
    · rename_i h
      constructor
      · rintro ⟨h1, h2⟩; exact ⟨h1, h, h2⟩
      · rintro ⟨h1, _, h2⟩; exact ⟨h1, h2⟩

theorem ground_vars (t : Tm) : groundT t = (varsT [t]).isEmpty := by
  rw [Bool.eq_iff_iff, groundT_iff, List.isEmpty_iff]
  unfold varsT
  simp only [List.foldl_cons, List.foldl_nil, stepV_nil, true_and]
end PSL

namespace PSL
open Go Go.RowKit

def vLe : Value → Value → Bool
  | .int k a, .int k' b => kEq k k' && a == b
  | .bool a, .bool b => a == b
  | .string a, .string b => strEq a b
  | .slice none 0 0, .slice none 0 0 => true
  | _, _ => false

theorem vLe_ok {a b : Value} (h : vLe a b = true) : a = b := by
  unfold vLe at h
  split at h
  · simp only [Bool.and_eq_true, beq_iff_eq] at h; rw [kEq_eq h.1, h.2]
  · simp at h; rw [h]
  · rename_i x y
    simp only [strEq, beq_iff_eq, ByteArray.toList_eq] at h
    cases x; cases y
    simp at h; rw [h]
  · rfl
  · cases h

mutual
/-- What may be read as what: a nil slice as an empty one. -/
def dLe : D → D → Bool
  | .v a, y => match y with
    | .v b => vLe a b
    | .sl [] => match a with
      | .slice none 0 0 => true
      | _ => false
    | _ => false
  | .sl r, y => match y with
    | .sl r' => rowsLe r r'
    | _ => false
  | .ptr l, y => match y with
    | .ptr l' => rowLe l l'
    | _ => false
  | .map _, _ => false
def rowLe : List D → List D → Bool
  | [], [] => true
  | x :: l, y :: m => dLe x y && rowLe l m
  | _, _ => false
def rowsLe : List (List D) → List (List D) → Bool
  | [], [] => true
  | x :: l, y :: m => rowLe x y && rowsLe l m
  | _, _ => false
end

theorem rowLe_len : ∀ {l m : List D}, rowLe l m = true → l.length = m.length
  | [], [], _ => rfl
  | [], _ :: _, h => by simp [rowLe] at h
  | _ :: _, [], h => by simp [rowLe] at h
  | x :: l, y :: m, h => by simp only [rowLe, Bool.and_eq_true] at h; simp [rowLe_len h.2]

theorem rowLe_get : ∀ {l m : List D} {j : Nat} {y : D}, rowLe l m = true → m[j]? = some y → ∃ x, l[j]? = some x ∧ dLe x y = true
  | [], [], _, _, _, h => by simp at h
  | [], _ :: _, _, _, h, _ => by simp [rowLe] at h
  | _ :: _, [], _, _, h, _ => by simp [rowLe] at h
  | x :: l, y :: m, 0, z, h, hz => by simp only [rowLe, Bool.and_eq_true] at h; simp at hz; subst hz; exact ⟨x, rfl, h.1⟩
  | x :: l, y :: m, j + 1, z, h, hz => by simp only [rowLe, Bool.and_eq_true] at h; simpa using rowLe_get h.2 (by simpa using hz)

theorem rowsLe_len : ∀ {l m : List (List D)}, rowsLe l m = true → l.length = m.length
  | [], [], _ => rfl
  | [], _ :: _, h => by simp [rowsLe] at h
  | _ :: _, [], h => by simp [rowsLe] at h
  | x :: l, y :: m, h => by simp only [rowsLe, Bool.and_eq_true] at h; simp [rowsLe_len h.2]

theorem rowsLe_get : ∀ {l m : List (List D)} {j : Nat} {y : List D}, rowsLe l m = true → m[j]? = some y → ∃ x, l[j]? = some x ∧ rowLe x y = true
  | [], [], _, _, _, h => by simp at h
  | [], _ :: _, _, _, h, _ => by simp [rowsLe] at h
  | _ :: _, [], _, _, h, _ => by simp [rowsLe] at h
  | x :: l, y :: m, 0, z, h, hz => by simp only [rowsLe, Bool.and_eq_true] at h; simp at hz; subst hz; exact ⟨x, rfl, h.1⟩
  | x :: l, y :: m, j + 1, z, h, hz => by simp only [rowsLe, Bool.and_eq_true] at h; simpa using rowsLe_get h.2 (by simpa using hz)

theorem dLe_ok {S : Nat → Prop} {w : World} {x : D} {v : Value} (hr : Rd S w x v) : ∀ {y : D}, dLe x y = true → Rd S w y v := by
  induction hr with
  | v x =>
    intro y h
    cases y with
    | v b => simp only [dLe] at h; rw [vLe_ok h]; exact .v _
    | sl r =>
      cases r with
      | nil =>
        simp only [dLe] at h
        split at h
        · exact .nil _ _
        · cases h
      | cons _ _ => simp [dLe] at h
    | ptr _ => simp [dLe] at h
    | map _ => simp [dLe] at h
  | nil a c =>
    intro y h
    cases y with
    | v b => simp [dLe] at h
    | sl r =>
      simp only [dLe] at h
      have := rowsLe_len h
      have : r = [] := List.length_eq_zero_iff.1 this.symm
      subst this; exact .nil _ _
    | ptr _ => simp [dLe] at h
    | map _ => simp [dLe] at h
  | @sl rows b o cap sz cs T fr g hS hb hl hc hsz hg _ ih =>
    intro y h
    cases y with
    | v b => simp [dLe] at h
    | ptr _ => simp [dLe] at h
    | map _ => simp [dLe] at h
    | sl r =>
      simp only [dLe] at h
      have hlen := rowsLe_len h
      rw [hlen]
      refine .sl (sz := sz) g hS hb (by omega) hc (fun i row hi => ?_) (fun i row j x hi hj => ?_) (fun i row j x hi hj => ?_)
      · obtain ⟨row', h1, h2⟩ := rowsLe_get h hi
        rw [← rowLe_len h2]; exact hsz i row' h1
      · obtain ⟨row', h1, h2⟩ := rowsLe_get h hi
        obtain ⟨x', h3, _⟩ := rowLe_get h2 hj
        exact hg i row' j x' h1 h3
      · obtain ⟨row', h1, h2⟩ := rowsLe_get h hi
        obtain ⟨x', h3, h4⟩ := rowLe_get h2 hj
        exact ih i row' j x' h1 h3 h4
  | @ptr l b o cs T fr g hS hb hg _ ih =>
    intro y h
    cases y with
    | v b => simp [dLe] at h
    | sl r => simp [dLe] at h
    | map _ => simp [dLe] at h
    | ptr m =>
      simp only [dLe] at h
      refine .ptr g hS hb (fun j x hj => ?_) (fun j x hj => ?_)
      · obtain ⟨x', h3, _⟩ := rowLe_get h hj
        exact hg j x' h3
      · obtain ⟨x', h3, h4⟩ := rowLe_get h hj
        exact ih j x' h3 h4
  | map g hS hb hk hg _ ih => intro y h; simp [dLe] at h

mutual
def aLe : AV → AV → Bool
  | .d x, y => match y with
    | .d y => dLe x y
    | _ => false
  | .agg l, y => match y with
    | .agg m => asLe l m
    | _ => false
  | .tup l, y => match y with
    | .tup m => asLe l m
    | _ => false
  | _, _ => false
def asLe : List AV → List AV → Bool
  | [], [] => true
  | x :: l, y :: m => aLe x y && asLe l m
  | _, _ => false
end

mutual
theorem aLe_ok {S : Nat → Prop} {w : World} {φ : List Phy} : ∀ {x y : AV} {v : Value}, aLe x y = true → RV S w φ x v → RV S w φ y v
  | .d x, y, v, h, hr => by
    cases y <;> simp only [aLe] at h <;> try (cases h; done)
    simp only [RV] at hr ⊢
    exact dLe_ok hr h
  | .agg l, y, v, h, hr => by
    cases y <;> simp only [aLe] at h <;> try (cases h; done)
    simp only [RV] at hr ⊢
    obtain ⟨cs, h1, h2⟩ := hr
    exact ⟨cs, h1, asLe_ok h h2⟩
  | .tup l, y, v, h, hr => by
    cases y <;> simp only [aLe] at h <;> try (cases h; done)
    simp only [RV] at hr ⊢
    obtain ⟨cs, h1, h2⟩ := hr
    exact ⟨cs, h1, asLe_ok h h2⟩
  | .any, _, _, h, _ => by simp [aLe] at h
  | .tt, _, _, h, _ => by simp [aLe] at h
  | .ff, _, _, h, _ => by simp [aLe] at h
  | .fs _, _, _, h, _ => by simp [aLe] at h
  | .lo _ _, _, _, h, _ => by simp [aLe] at h
  | .el _ _ _ _, _, _, h, _ => by simp [aLe] at h
  | .ow _ _, _, _, h, _ => by simp [aLe] at h
  | .mp _, _, _, h, _ => by simp [aLe] at h
  | .yl _, _, _, h, _ => by simp [aLe] at h
  | .clo _ _ _, _, _, h, _ => by simp [aLe] at h
theorem asLe_ok {S : Nat → Prop} {w : World} {φ : List Phy} : ∀ {l m : List AV} {vs : List Value}, asLe l m = true → RVs S w φ l vs → RVs S w φ m vs
  | [], [], _, _, h => h
  | [], _ :: _, _, h, _ => by simp [asLe] at h
  | _ :: _, [], _, h, _ => by simp [asLe] at h
  | x :: l, y :: m, [], _, h => by simp [RVs] at h
  | x :: l, y :: m, v :: vs, h, hr => by
    simp only [asLe, Bool.and_eq_true] at h
    simp only [RVs] at hr ⊢
    exact ⟨aLe_ok h.1 hr.1, asLe_ok h.2 hr.2⟩
end

theorem PCtr.le {P : Program} {f : Nat} {as as' : List AV} {r : AV} (h : PCtr P f as r) (hl : asLe as' as = true) : PCtr P f as' r :=
  ⟨h.call, fun S w vals hS hv => h.run S w vals hS (asLe_ok hl hv)⟩

/-- A call of a function of pure data, at arguments written out. -/
theorem R_callN {g : G} {pf : Nat → Cls} {ops : Array Oper} {Fin : Exit → Act → World → Prop} (hg : GOk g) {f : Nat} {as : List AV} {r : AV} (hc : PCtr g.P f as r) {as' : List AV} {dst : Option Nat} {x : Operand} {args : Array Operand} {ts : Array Nat} {ty : Nat} {pos : String} {after : Array Edge} {gd : Option (Nat × Bool)}
    {rest : List Oper} {k : List It} {E : Env} {objs : List Ob} {fs cs : List AV}
    (hgd : guardA ops.toList E gd = some true) (hd : dstOk ⟨g.ty, g.N⟩ dst = true) (hx : ev E x = .clo f fs cs) (has : (fs ++ args.toList.map (ev E) ++ cs).map nrm = as') (hle : asLe as' as = true) (hpa : pureL as' = true) (hpr : pureA r = true)
    (hr : R g pf Fin (.dr ops rest :: k) (putO E dst r) objs) :
    R g pf Fin (.dr ops (⟨dst, .call { callee := .value x, args := args, argTypes := ts }, ty, pos, after, gd⟩ :: rest) :: k) E objs :=
  R_call hg (hc.le hle) hgd hd hx has hpa hpr hr
end PSL

namespace PSL
open Go Go.RowKit Go.MapKept

/-- Loads of boxes alone: they may be drawn ahead of, or behind, what lets objects grow. -/
def pfB : Nat → Cls := fun f => bif Nat.beq f 4000000007 then .loadB else .still

/-- The same, where calls are handed objects. -/
def pfBE : Nat → Cls := fun f => bif Nat.beq f 4000000007 then .loadB else .eff

theorem cong1 {α : Type} {a c : α} {l : List α} (h : a = c) : a :: l = c :: l := by rw [h]
theorem cong2 {α : Type} {a b c : α} {l : List α} (h : b = c) : a :: b :: l = a :: c :: l := by rw [h]
theorem some2 {α : Type} {a b c : α} (h : c = b) : some [a, b] = some [a, c] := by rw [h]

theorem R_appendO {g : G} {pf : Nat → Cls} {ops : Array Oper} {Fin : Exit → Act → World → Prop} (hg : GOk g) {dst : Option Nat} {T T' : Nat} {x y : Operand} {ty : Nat} {pos : String} {after : Array Edge} {gd : Option (Nat × Bool)} {rest : List Oper} {k : List It} {E : Env} {objs : List Ob}
    {i s sz q q' by_ by' e e' : Nat} {z z' : List Value} {τ : Ty} {rows news : List (List D)} (rows' : List (List D))
    (hgd : guardA ops.toList E gd = some true) (hd : dstOk ⟨g.ty, g.N⟩ dst = true) (hx : ev E x = .ow i s) (ho : nth objs i = some (.arr sz s rows)) (hy : nrm (ev E y) = .d (.sl news))
    (hT : g.ty T = some ⟨q, by_, z, .slice e⟩) (hT' : g.ty T' = some ⟨q', by', z', .slice e'⟩) (he : g.ty e = some τ) (hsz : τ.size = sz) (hlen : ∀ r ∈ news, r.length = sz) (hone : ∀ r ∈ news, ∀ x ∈ r, one1 (.d x) = true)
    (hrows : rows ++ news = rows') (hbytes : (rows.length + news.length) * τ.bytes ≤ 140737488355328) (hmax : rows.length + news.length ≤ 140737488355328)
    (hr : R g pf Fin (.dr ops rest :: k) (putO E dst (.ow i (Nat.succ s))) (setN objs i (.arr sz (Nat.succ s) rows'))) :
    R g pf Fin (.dr ops (⟨dst, .call { callee := .builtin .append, args := #[x, y], argTypes := #[T, T'] }, ty, pos, after, gd⟩ :: rest) :: k) E objs := by
  subst hrows
  exact R_append hg hgd hd hx ho hy hT hT' he hsz hlen hone hbytes hmax hr

theorem R_sliceO {g : G} {pf : Nat → Cls} {ops : Array Oper} {Fin : Exit → Act → World → Prop} (hg : GOk g) {dst : Option Nat} {T : Nat} {x : Operand} {lo hi : Option Operand} {ty : Nat} {pos : String} {after : Array Edge} {gd : Option (Nat × Bool)} {rest : List Oper} {k : List It} {E : Env} {objs : List Ob}
    {q by_ e : Nat} {z : List Value} {τ : Ty} {rows : List (List D)} (rows' : List (List D)) {l h : Int}
    (hgd : guardA ops.toList E gd = some true) (hd : dstOk ⟨g.ty, g.N⟩ dst = true) (hx : nrm (ev E x) = .d (.sl rows)) (hl : bndA E lo 0 = some l) (hh : bndA E hi rows.length = some h) (hT : g.ty T = some ⟨q, by_, z, .slice e⟩) (he : g.ty e = some τ) (hsz : ∀ r ∈ rows, r.length = τ.size)
    (h0 : 0 ≤ l) (h1 : l ≤ h) (h2 : h ≤ rows.length) (hr' : (rows.drop l.toNat).take (h.toNat - l.toNat) = rows')
    (hr : R g pf Fin (.dr ops rest :: k) (putO E dst (.d (.sl rows'))) objs) : R g pf Fin (.dr ops (⟨dst, .slice T x lo hi none, ty, pos, after, gd⟩ :: rest) :: k) E objs := by
  subst hr'
  exact R_sliceD hg hgd hd hx hl hh hT he hsz h0 h1 h2 hr

theorem R_mapAddO {g : G} {pf : Nat → Cls} {ops : Array Oper} {Fin : Exit → Act → World → Prop} (hg : GOk g) {dst : Option Nat} {T : Nat} {x y v : Operand} {ty : Nat} {pos : String} {after : Array Edge} {gd : Option (Nat × Bool)} {rest : List Oper} {k : List It} {E : Env} {objs : List Ob}
    {i q by_ q' by' kt et : Nat} {z z' : List Value} {n : Int} {v' : AV} (l l' : List (Int × AV))
    (hgd : guardA ops.toList E gd = some true) (hd : dstOk ⟨g.ty, g.N⟩ dst = true) (hx : ev E x = .mp i) (ho : nth objs i = some (.map (imap l))) (hy : ev E y = .d (.v (.int .i64 n))) (hT : g.ty T = some ⟨q, by_, z, .map kt et⟩)
    (hkt : g.ty kt = some ⟨q', by', z', .int .i64⟩) (hf : getI l n = none) (hv : ev E v = v') (hl : l ++ [(n, v')] = l')
    (hr : R g pf Fin (.dr ops rest :: k) (putO E dst .any) (setN objs i (.map (imap l')))) : R g pf Fin (.dr ops (⟨dst, .mapUpdate T x y v, ty, pos, after, gd⟩ :: rest) :: k) E objs := by
  subst hl; subst hv
  exact R_mapAddI hg l hgd hd hx ho hy hT hkt hf hr

theorem mapO_cons {f : AV → Option AV} {x y : AV} {l l' : List AV} (h : f x = some y) (h2 : mapO f l = some l') : mapO f (x :: l) = some (y :: l') := by simp only [mapO, h, h2]
theorem sealA_tup {objs : List Ob} {n : Nat} {l l' : List AV} (h : mapO (sealA objs n) l = some l') : sealA objs (n + 1) (.tup l) = some (.tup l') := by simp only [sealA, h]
theorem sealA_agg {objs : List Ob} {n : Nat} {l l' : List AV} (h : mapO (sealA objs n) l = some l') : sealA objs (n + 1) (.agg l) = some (.agg l') := by simp only [sealA, h]

theorem PCtr.one {P : Program} {f : Nat} {t : Tm} {r : AV} (h : PCtr P f [.d (.sl (Tm.rows [t]))] r) : PCtr P f [.d (.sl [Tm.row t])] r := by rwa [Tm.rows_eq] at h
theorem PCtr.two {P : Program} {f : Nat} {a b : Tm} {r : AV} (h : PCtr P f [.d (.sl (Tm.rows [a, b]))] r) : PCtr P f [.d (.sl [Tm.row a, Tm.row b])] r := by rwa [Tm.rows_eq] at h
end PSL

namespace PSL
open Go Go.RowKit

section
variable {g : G} {pf : Nat → Cls} {Fin : Exit → Act → World → Prop}

theorem KP_cut {M : Env → List Ob → Prop} {k : List It} (h : ∀ E objs, M E objs → RK g Fin k E objs) : ∀ (e : Exit) (a : Act) (w : World), KP g Fin (.mark M :: k) e a w → KP g Fin k e a w := fun e a w hk => by
  cases e with
  | normal => obtain ⟨E, objs, h1, h2⟩ := hk; exact h E objs h1 a w h2
  | _ => exact hk

theorem KP_under {K1 K2 : List It} (h : ∀ (e : Exit) (a : Act) (w : World), KP g Fin K1 e a w → KP g Fin K2 e a w) (i : It) : ∀ (e : Exit) (a : Act) (w : World), KP g Fin (i :: K1) e a w → KP g Fin (i :: K2) e a w := fun e a w hk => by
  cases i with
  | code c =>
    cases e with
    | normal => exact wpIn_mono hk h
    | _ => exact h _ _ _ hk
  | blk id =>
    cases e with
    | exit j =>
      simp only [KP] at hk ⊢
      split
      · rename_i hj; rw [if_pos hj] at hk; exact h _ _ _ hk
      · rename_i hj; rw [if_neg hj] at hk; exact h _ _ _ hk
    | _ => exact h _ _ _ hk
  | mark M =>
    cases e with
    | normal => exact hk
    | _ => exact h _ _ _ hk
  | dr ops r => exact h _ _ _ hk

/-- States by a parameter. -/
abbrev MarkOf {β : Type} (st : β → Env × List Ob) (inv : β → Prop) : Env → List Ob → Prop := fun E' objs' => ∃ p, inv p ∧ EnvIn E' (st p).1 ∧ objs' = (st p).2

theorem RK_of_cut {β : Type} {st : β → Env × List Ob} {inv : β → Prop} {k : List It} (ho : ItsOk pf k) (hk : noDr k = true) (h2 : ∀ p, inv p → R g pf Fin k (st p).1 (st p).2) : ∀ E objs, MarkOf st inv E objs → RK g Fin k E objs := by
  rintro E objs ⟨p, h1, h3, rfl⟩
  exact RK.of_R (pf := pf) (k := k) ho ((h2 p h1).ent h3.eent) (noDr_head hk)

/-- What is behind the top is shown once, for all states of a form. -/
theorem R_cut1 {β : Type} (st : β → Env × List Ob) (inv : β → Prop) {i : It} {k : List It} {E : Env} {objs : List Ob} (hk : noDr k = true) (h1 : R g pf Fin (i :: .mark (MarkOf st inv) :: k) E objs) (h2 : ∀ p, inv p → R g pf Fin k (st p).1 (st p).2) : R g pf Fin (i :: k) E objs := by
  intro ho
  have hok : ItsOk pf k := by
    cases i with
    | code c => exact ho.2
    | _ => exact ho
  have hc := KP_cut (RK_of_cut (g := g) (Fin := Fin) hok hk h2)
  have ho' : ItsOk pf (i :: .mark (MarkOf st inv) :: k) := by
    cases i with
    | code c => exact ho
    | _ => exact ho
  have h := h1 ho'
  cases i with
  | dr ops rest =>
    exact Dr.monoK (fun E objs hr a w hs => hc _ _ _ (hr a w hs)) h
  | code c => exact fun a w hs => KP_under hc (.code c) _ _ _ (h a w hs)
  | blk id => exact fun a w hs => KP_under hc (.blk id) _ _ _ (h a w hs)
  | mark M => exact fun a w hs => KP_under hc (.mark M) _ _ _ (h a w hs)

theorem its_cut {M : Env → List Ob → Prop} : ∀ (pre : List It) {k : List It}, ItsOk pf (pre ++ k) → ItsOk pf (pre ++ .mark M :: k) ∧ ItsOk pf k
  | [], _, h => ⟨h, h⟩
  | i :: pre, k, h => by
    cases i with
    | code c => exact ⟨⟨h.1, (its_cut pre h.2).1⟩, (its_cut (M := M) pre h.2).2⟩
    | _ => exact its_cut (M := M) pre h

theorem KP_cutN {M : Env → List Ob → Prop} {k : List It} (h : ∀ E objs, M E objs → RK g Fin k E objs) : ∀ (pre : List It) (e : Exit) (a : Act) (w : World), KP g Fin (pre ++ .mark M :: k) e a w → KP g Fin (pre ++ k) e a w
  | [] => KP_cut h
  | i :: pre => KP_under (KP_cutN h pre) i

theorem R_cutN {β : Type} (pre : List It) (st : β → Env × List Ob) (inv : β → Prop) {i : It} {k : List It} {E : Env} {objs : List Ob} (hk : noDr k = true) (h1 : R g pf Fin (i :: (pre ++ .mark (MarkOf st inv) :: k)) E objs) (h2 : ∀ p, inv p → R g pf Fin k (st p).1 (st p).2) : R g pf Fin (i :: (pre ++ k)) E objs := by
  intro ho
  have hi := its_cut (pf := pf) (M := MarkOf st inv) (i :: pre) (k := k) ho
  have hc := KP_cutN (RK_of_cut (g := g) (Fin := Fin) hi.2 hk h2) pre
  have h := h1 hi.1
  cases i with
  | dr ops rest => exact Dr.monoK (fun E objs hr a w hs => hc _ _ _ (hr a w hs)) h
  | code c => exact fun a w hs => KP_under hc (.code c) _ _ _ (h a w hs)
  | blk id => exact fun a w hs => KP_under hc (.blk id) _ _ _ (h a w hs)
  | mark M => exact fun a w hs => KP_under hc (.mark M) _ _ _ (h a w hs)

theorem R_cut2 {β : Type} (st : β → Env × List Ob) (inv : β → Prop) {i j : It} {k : List It} {E : Env} {objs : List Ob} (hk : noDr k = true) (h1 : R g pf Fin (i :: j :: .mark (MarkOf st inv) :: k) E objs) (h2 : ∀ p, inv p → R g pf Fin k (st p).1 (st p).2) : R g pf Fin (i :: j :: k) E objs := R_cutN [j] st inv hk h1 h2
theorem R_cut3 {β : Type} (st : β → Env × List Ob) (inv : β → Prop) {i j l : It} {k : List It} {E : Env} {objs : List Ob} (hk : noDr k = true) (h1 : R g pf Fin (i :: j :: l :: .mark (MarkOf st inv) :: k) E objs) (h2 : ∀ p, inv p → R g pf Fin k (st p).1 (st p).2) : R g pf Fin (i :: j :: l :: k) E objs := R_cutN [j, l] st inv hk h1 h2

/-- The end of a part that was cut off. -/
theorem R_to {β : Type} {st : β → Env × List Ob} {inv : β → Prop} {k : List It} {E : Env} {objs : List Ob} (p : β) (h1 : inv p) (h3 : EnvIn E (st p).1) (h4 : objs = (st p).2) : R g pf Fin (.mark (MarkOf st inv) :: k) E objs := R_mark ⟨p, h1, h3, h4⟩

theorem R_freezeO (hu : GUp g) {k : List It} {E : Env} {objs : List Ob} (i : Nat) (E' : Env) (objs' : List Ob) {sz s : Nat} {rows : List (List D)} (ho : nth objs i = some (.arr sz s rows)) (ht : topCode k = true)
    (hE : EnvIn (mapE (frzA i s rows) E) E') (hO : ObsIn (setN (objs.map (mapOb (frzA i s rows))) i .dead) objs') (hr : R g pf Fin k E' objs') : R g pf Fin k E objs :=
  R_freeze hu i ho ht (R_weak E' hE (R_obs objs' hO ht hr))
theorem Ent.frz (i s : Nat) (rows : List (List D)) : Ent (frzA i s rows (.ow i s)) (.d (.sl rows)) := by
  have : frzA i s rows (.ow i s) = .d (.sl rows) := by simp [frzA]
  rw [this]; exact .refl _

theorem Ent.bool {m n : Bool} (h : m = n) : Ent (bV m) (bV n) := by subst h; exact .refl _
theorem Ent.ttb {n : Bool} (h : n = true) : Ent .tt (bV n) := by subst h; exact .tt
theorem Ent.ffb {n : Bool} (h : n = false) : Ent .ff (bV n) := by subst h; exact .ff
end

/-- A store into an element, with the rows behind it written as one wants. -/
theorem R_storeEO {g : G} {pf : Nat → Cls} {ops : Array Oper} {Fin : Exit → Act → World → Prop} (hg : GOk g) {dst : Option Nat} {T : Nat} {d x : Operand} {ty : Nat} {pos : String} {after : Array Edge} {gd : Option (Nat × Bool)} {rest : List Oper} {k : List It} {E : Env} {objs : List Ob}
    {id s sz r j : Nat} {τ : Ty} {rows : List (List D)} {row : List D} {l : List AV} {ds : List D} (rows' : List (List D))
    (hgd : guardA ops.toList E gd = some true) (hd : dstOk ⟨g.ty, g.N⟩ dst = true) (hx : ev E d = .el id s r j) (ho : nth objs id = some (.arr sz s rows)) (hT : g.ty T = some τ) (hrow : rows[r]? = some row) (hc : cellsO (ev E x) = some l) (hds : toDs l = some ds) (hl : ds.length = τ.size) (hfit : j + τ.size ≤ sz)
    (hrows : rows.set r (spliceD row j ds) = rows')
    (hr : R g pf Fin (.dr ops rest :: k) (putO E dst .any) (setN objs id (.arr sz s rows'))) (hcl : stClsAt pf d = .eff := by rfl) : R g pf Fin (.dr ops (⟨dst, .store T d x, ty, pos, after, gd⟩ :: rest) :: k) E objs := by
  subst hrows
  exact R_storeE hg hgd hd hx ho hT hrow hc hds hl hfit hr hcl
end PSL

namespace PSL
open Go Go.RowKit

section
variable {g : G} {pf : Nat → Cls} {ops : Array Oper} {Fin : Exit → Act → World → Prop}

/-- A quotient. -/
theorem R_quo (hg : GOk g) {dst : Option Nat} {T T2 : Nat} {x y : Operand} {ty : Nat} {pos : String} {after : Array Edge} {gd : Option (Nat × Bool)} {rest : List Oper} {k : List It} {E : Env} {objs : List Ob} {q : IntKind} {m n : Int}
    (hgd : guardA ops.toList E gd = some true) (hd : dstOk ⟨g.ty, g.N⟩ dst = true) (hx : ev E x = .d (.v (.int q m))) (hy : ev E y = .d (.v (.int q n))) (hn : n ≠ 0)
    (hr : R g pf Fin (.dr ops rest :: k) (putO E dst (.d (.v (.int q (q.wrap (m.tdiv n)))))) objs) : R g pf Fin (.dr ops (⟨dst, .binOp .quo T x y T2, ty, pos, after, gd⟩ :: rest) :: k) E objs := by
  refine R_op (LocOp.up (LocOp.quiet hg hgd hd (by simp) fun φ objs a w hρ hs => ?_)) hr
  simp only [Op.operands] at hρ
  have hxv := hρ x (by simp)
  rw [hx] at hxv
  have hyv := hρ y (by simp)
  rw [hy] at hyv
  simp only [RV] at hxv hyv
  generalize hvx : a.eval x = vx at hxv
  generalize hvy : a.eval y = vy at hyv
  cases hxv; cases hyv
  refine out_val hs (vv := .int q (q.wrap (m.tdiv n))) ?_ (by simp only [RV]; exact .v _)
  have hgdd : (eqGuard .quo T x y (.int q m) (.int q n)).run g.P w = .ok () w := run_eqGuard (by rfl)
  simp only [execOp, hvx, hvy, Sem.run_bind, hgdd, Result.andThen_ok]
  simp [binOp, Op.intArith, Op.intDiv, hn]

/-- A remainder. -/
theorem R_rem (hg : GOk g) {dst : Option Nat} {T T2 : Nat} {x y : Operand} {ty : Nat} {pos : String} {after : Array Edge} {gd : Option (Nat × Bool)} {rest : List Oper} {k : List It} {E : Env} {objs : List Ob} {q : IntKind} {m n : Int}
    (hgd : guardA ops.toList E gd = some true) (hd : dstOk ⟨g.ty, g.N⟩ dst = true) (hx : ev E x = .d (.v (.int q m))) (hy : ev E y = .d (.v (.int q n))) (hn : n ≠ 0)
    (hr : R g pf Fin (.dr ops rest :: k) (putO E dst (.d (.v (.int q (m.tmod n))))) objs) : R g pf Fin (.dr ops (⟨dst, .binOp .rem T x y T2, ty, pos, after, gd⟩ :: rest) :: k) E objs := by
  refine R_op (LocOp.up (LocOp.quiet hg hgd hd (by simp) fun φ objs a w hρ hs => ?_)) hr
  simp only [Op.operands] at hρ
  have hxv := hρ x (by simp)
  rw [hx] at hxv
  have hyv := hρ y (by simp)
  rw [hy] at hyv
  simp only [RV] at hxv hyv
  generalize hvx : a.eval x = vx at hxv
  generalize hvy : a.eval y = vy at hyv
  cases hxv; cases hyv
  refine out_val hs (vv := .int q (m.tmod n)) ?_ (by simp only [RV]; exact .v _)
  have hgdd : (eqGuard .rem T x y (.int q m) (.int q n)).run g.P w = .ok () w := run_eqGuard (by rfl)
  simp only [execOp, hvx, hvy, Sem.run_bind, hgdd, Result.andThen_ok]
  simp [binOp, Op.intArith, Op.intDiv, hn]

/-- The less of two. -/
theorem R_min (hg : GOk g) {dst : Option Nat} {x y : Operand} {ts : Array Nat} {ty : Nat} {pos : String} {after : Array Edge} {gd : Option (Nat × Bool)} {rest : List Oper} {k : List It} {E : Env} {objs : List Ob} {m n : Int}
    (hgd : guardA ops.toList E gd = some true) (hd : dstOk ⟨g.ty, g.N⟩ dst = true) (hx : ev E x = .d (.v (.int .i64 m))) (hy : ev E y = .d (.v (.int .i64 n)))
    (hr : R g pf Fin (.dr ops rest :: k) (putO E dst (iV (min m n))) objs) : R g pf Fin (.dr ops (⟨dst, .call { callee := .builtin .min, args := #[x, y], argTypes := ts }, ty, pos, after, gd⟩ :: rest) :: k) E objs := by
  refine R_op (LocOp.effect hg hgd hd (by simp) fun φ a w hρ hs => ?_) hr
  simp only [Op.operands, Call.operands] at hρ
  have hxv := hρ x (by simp)
  rw [hx] at hxv
  have hyv := hρ y (by simp)
  rw [hy] at hyv
  simp only [RV] at hxv hyv
  generalize hvx : a.eval x = vx at hxv
  generalize hvy : a.eval y = vy at hyv
  cases hxv; cases hyv
  refine out_val hs (vv := .int .i64 (min m n)) ?_ (by simp only [RV, iV]; exact .v _)
  simp [execOp, resolve, invoke, builtin, hvx, hvy, Builtin.min_, Builtin.min2]
  omega
end
end PSL

namespace PSL
open Go Go.RowKit Go.MapKept
/-- A lookup in no map. -/
theorem R_lookupNil {g : G} {pf : Nat → Cls} {ops : Array Oper} {Fin : Exit → Act → World → Prop} (hg : GOk g) {dst : Option Nat} {T : Nat} {x y : Operand} {ok : Bool} {ty : Nat} {pos : String} {after : Array Edge} {gd : Option (Nat × Bool)} {rest : List Oper} {k : List It} {E : Env} {objs : List Ob}
    {q by_ q' by' kt et : Nat} {z z' : List Value} {n : Int} {zv : Value} {v : AV}
    (hgd : guardA ops.toList E gd = some true) (hd : dstOk ⟨g.ty, g.N⟩ dst = true) (hx : ev E x = .d (.v (.map none))) (hy : ev E y = .d (.v (.int .i64 n))) (hT : g.ty T = some ⟨q, by_, z, .map kt et⟩)
    (hkt : g.ty kt = some ⟨q', by', z', .int .i64⟩) (hz : (g.P.info? et).bind (·.zero) = some zv) (hv : lookI' ok (cstV zv) none = v)
    (hr : R g pf Fin (.dr ops rest :: k) (putO E dst v) objs) : R g pf Fin (.dr ops (⟨dst, .lookup T x y ok, ty, pos, after, gd⟩ :: rest) :: k) E objs := by
  subst hv
  have hu := (hg.ty _ _ hkt).sh
  simp only [ShFact] at hu
  refine R_op (LocOp.lookingM hg 1 hgd hd (by simp) fun φ a w objs₁ _ hρ hs => ?_) hr
  simp only [Op.operands] at hρ
  have hxv := hρ x (by simp)
  rw [hx] at hxv
  have hyv := hρ y (by simp)
  rw [hy] at hyv
  simp only [RV] at hxv hyv
  generalize hvy : a.eval y = vy at hyv
  generalize hvx : a.eval x = vx at hxv
  cases hyv; cases hxv
  have hT' : g.P.underlying T = some (.map kt et) := by have := (hg.ty _ _ hT).sh; simpa only [ShFact] using this
  have hzero : (zeroValue et).run g.P w = .ok zv w := by
    obtain ⟨inf, h1, h2⟩ := Option.bind_eq_some_iff.1 hz
    simp [zeroValue, typeInfo, h1, h2]
  have hzR : RV (SS g.S0 φ) w φ (cstV zv) zv := rv_restr (l := []) (E := []) (E₁ := []) (a := { tmps := #[], defers := [] }) (by simp) (fun t => by simp [lk, RV]) (.const zv)
  have hfind : (Instr.findKey kt (.int .i64 n) []).run g.P w = .ok none w := by
    simp [Instr.findKey, Instr.findNow, underlying, hu]
  refine out_val hs (vv := if ok then .tuple #[zv, .bool false] else zv) ?_ ?_
  · simp [execOp, Instr.lookup, run_underlying hT', hvx, hvy, run_checkKey hu (show IsKey (.int .i64) (.int .i64 n) by simp [IsKey]), hfind, hzero]
  · simp only [lookI']
    cases ok
    · simpa using hzR
    · simp only [if_true, RV]
      exact ⟨[zv, .bool false], rfl, by simp only [RVs, RV, bV, and_true]; exact ⟨hzR, .v _⟩⟩
end PSL
