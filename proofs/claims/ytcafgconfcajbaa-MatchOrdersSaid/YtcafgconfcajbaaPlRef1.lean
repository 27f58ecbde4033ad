import Derived.Test.YtcafgconfcajbaaPlTerm3
import Derived.Laws.Strings
namespace PSL
open Go

theorem adv_all {Y : YP} : ∀ {k n : Nat}, (adv Y k n).2 = true ↔ ∀ i, i < k → Y.go (n + i + 1) = true
  | 0, n => by simp [adv]
  | k + 1, n => by
    simp only [adv]
    split
    · rename_i h
      rw [adv_all]
      constructor
      · intro h1 i hi
        cases i with
        | zero => exact h
        | succ i => have := h1 i (by omega); rw [show n + (i + 1) + 1 = n + 1 + i + 1 by omega]; exact this
      · intro h1 i hi
        have := h1 (i + 1) (by omega); rw [show n + 1 + i + 1 = n + (i + 1) + 1 by omega]; exact this
    · rename_i h
      constructor
      · intro h1; cases h1
      · intro h1; exact absurd (h1 0 (by omega)) h

theorem lt_dec {k n : Nat} {m : Int} (h : decide ((k : Int) < m) = true) (e : m = n) : k < n := by have := of_decide_eq_true h; omega
theorem ge_dec {k n : Nat} {m : Int} (h : decide ((k : Int) < m) = false) (e : m = n) : n ≤ k := by have := of_decide_eq_false h; omega
theorem w64 {n : Int} (h1 : -9223372036854775808 ≤ n) (h2 : n < 9223372036854775808) : IntKind.i64.wrap n = n := wrap_id h1 h2

/-- Int64. -/
def I64 (n : Int) : Prop := -9223372036854775808 ≤ n ∧ n ≤ 9223372036854775807

/-- Rows of numbers. -/
def irow (n : Int) : List D := [.v (.int .i64 n)]
def irows (l : List Int) : List (List D) := l.map irow
theorem irows_length (l : List Int) : (irows l).length = l.length := by simp [irows]
theorem irows_get {l : List Int} {i : Nat} {x : Int} (h : l[i]? = some x) : (irows l)[i]? = some (irow x) := by simp [irows, h]

namespace Tm
mutual
def depth : Tm → Nat
  | mk _ _ _ l => depthL l + 1
def depthL : List Tm → Nat
  | [] => 0
  | t :: r => max (depth t) (depthL r)
end
theorem depth_eq (t : Tm) : depth t = depthL t.l + 1 := by cases t; simp only [depth, l]

mutual
theorem depth_le_size : ∀ (t : Tm), depth t ≤ size t
  | mk k s n l => by have := depthL_le_sizeL l; simp only [depth, size]; omega
theorem depthL_le_sizeL : ∀ (l : List Tm), depthL l ≤ sizeL l
  | [] => Nat.le_refl _
  | t :: r => by have := depth_le_size t; have := depthL_le_sizeL r; simp only [depthL, sizeL]; omega
end

/-- What the reference says of a term's fields, and of all in it. -/
def kindR (k : Int) (s : ByteArray) (n : Int) (m : Nat) : Bool :=
  if k = 1 then decide (n ≥ 0) && decide (n < 1000000) && strEq s ⟨#[]⟩ && ((m : Int) == 0)
  else if k = 2 then strEq s ⟨#[]⟩ && ((m : Int) == 0)
  else (k == 3) && (n == 0) && decide ((s.size : Int) ≥ 1) && decide ((s.size : Int) ≤ 20) && decide ((m : Int) ≤ 8)

mutual
def fairR : Tm → Bool
  | mk k s n l => s.data.toList.all byteOk && fairRL l && kindR k s n l.length
def fairRL : List Tm → Bool
  | [] => true
  | t :: r => fairR t && fairRL r
end
theorem fairR_eq (t : Tm) : fairR t = (t.s.data.toList.all byteOk && fairRL t.l && kindR t.k t.s t.n t.l.length) := by cases t; simp only [fairR, l, k, s, n]

theorem fairRL_iff : ∀ {l : List Tm}, fairRL l = true ↔ ∀ t ∈ l, fairR t = true
  | [] => by simp [fairRL]
  | t :: r => by simp [fairRL, fairRL_iff (l := r)]

theorem els_memL {l : List Tm} {x : Tm} {d : Int} {e : Int × Tm} (h : x ∈ l) (he : e ∈ els x d) : e ∈ elsL l d := by
  induction l with
  | nil => simp at h
  | cons y l ih =>
    simp only [elsL, List.mem_append]
    rcases List.mem_cons.1 h with rfl | h
    · exact .inl he
    · exact .inr (ih h)

theorem elsL_mem {l : List Tm} {d : Int} {e : Int × Tm} (h : e ∈ elsL l d) : ∃ x ∈ l, e ∈ els x d := by
  induction l with
  | nil => simp [elsL] at h
  | cons y l ih =>
    simp only [elsL, List.mem_append] at h
    rcases h with h | h
    · exact ⟨y, by simp, h⟩
    · obtain ⟨x, hx, he⟩ := ih h; exact ⟨x, by simp [hx], he⟩

/-- Terms that can lie in memory. -/
def Ok (t : Tm) : Prop := ∀ d e, e ∈ els t d → e.2.l.length ≤ 140737488355328 ∧ e.2.s.size ≤ 140737488355328
theorem Ok.len {t : Tm} (h : t.Ok) : t.l.length ≤ 140737488355328 := (h 0 (0, t) (by rw [els_eq]; simp)).1
theorem Ok.name {t : Tm} (h : t.Ok) : t.s.size ≤ 140737488355328 := (h 0 (0, t) (by rw [els_eq]; simp)).2
theorem Ok.sub {t x : Tm} (h : t.Ok) (hx : x ∈ t.l) : x.Ok := fun d e he => h (d - 1) e (by rw [els_eq]; exact List.mem_cons_of_mem _ (els_memL hx (by rw [Int.sub_add_cancel]; exact he)))

/-- How many terms there may be still. -/
def fewStep (s : ByteArray) (most deep : Int) : Bool := decide (IntKind.i64.wrap (most - 1) < 0) || decide (deep < 1) || decide ((s.size : Int) > 100)
mutual
def few : Tm → Int → Int → Int
  | mk _ s _ l, most, deep => if fewStep s most deep then -1 else fewL l (IntKind.i64.wrap (most - 1)) (IntKind.i64.wrap (deep - 1))
def fewL : List Tm → Int → Int → Int
  | [], most, _ => most
  | t :: r, most, deep => if most ≥ 0 then fewL r (few t most deep) deep else most
end
theorem few_eq (t : Tm) (m d : Int) : few t m d = if fewStep t.s m d then -1 else fewL t.l (IntKind.i64.wrap (m - 1)) (IntKind.i64.wrap (d - 1)) := by cases t; simp only [few]; rfl

def someT (l : List Tm) : Bool := decide (fewL l 4000 200 ≥ 0) && decide ((l.length : Int) ≤ 100)

mutual
theorem few_le : ∀ (t : Tm) (m d : Int), 0 ≤ m → m < 9223372036854775808 → d ≤ 1000 → few t m d = -1 ∨ (few t m d + size t ≤ m ∧ depth t ≤ d ∧ t.s.size ≤ 100 ∧ 0 ≤ few t m d ∧ ∀ x e, e ∈ els t x → e.2.s.size ≤ 100)
  | mk k s n l, m, d, h0, h1, h2 => by
    simp only [few]
    split
    · exact .inl rfl
    · rename_i hs
      simp only [fewStep, Bool.or_eq_true, decide_eq_true_eq, not_or] at hs
      have e1 : IntKind.i64.wrap (m - 1) = m - 1 := w64 (by omega) (by omega)
      rw [e1] at hs ⊢
      have e2 : IntKind.i64.wrap (d - 1) = d - 1 := w64 (by omega) (by omega)
      rw [e2]
      rcases fewL_le l (m - 1) (d - 1) (by omega) (by omega) (by omega) with h | ⟨h3, h4, h5, h6⟩
      · exact .inl h
      · refine .inr ⟨by simp only [size]; omega, by simp only [depth]; omega, ?_, h5, fun x e he => ?_⟩
        · show s.size ≤ 100; omega
        · simp only [els, List.mem_cons] at he
          rcases he with rfl | he
          · show s.size ≤ 100; omega
          · exact h6 _ _ he
theorem fewL_le : ∀ (l : List Tm) (m d : Int), 0 ≤ m → m < 9223372036854775808 → 0 ≤ d ∧ d ≤ 1000 → fewL l m d = -1 ∨ (fewL l m d + sizeL l ≤ m ∧ depthL l ≤ d ∧ 0 ≤ fewL l m d ∧ ∀ x e, e ∈ elsL l x → e.2.s.size ≤ 100)
  | [], m, d, h0, h1, h2 => by simp only [fewL, sizeL, depthL, elsL]; exact .inr ⟨by omega, by omega, h0, by simp⟩
  | t :: r, m, d, h0, h1, h2 => by
    simp only [fewL]
    rw [if_pos h0]
    rcases few_le t m d h0 h1 h2.2 with h | ⟨h3, h4, _, h5, h6⟩
    · rw [h]
      cases r with
      | nil => exact .inl rfl
      | cons u r => simp only [fewL]; exact .inl (by rw [if_neg (by omega)])
    · rcases fewL_le r (few t m d) d h5 (by omega) h2 with h | ⟨h7, h8, h9, h10⟩
      · exact .inl h
      · refine .inr ⟨by simp only [sizeL]; omega, by simp only [depthL]; omega, h9, fun x e he => ?_⟩
        simp only [elsL, List.mem_append] at he
        rcases he with he | he
        · exact h6 _ _ he
        · exact h10 _ _ he
end

theorem someT_ok {l : List Tm} (h : someT l = true) : sizeL l ≤ 4000 ∧ depthL l ≤ 200 ∧ l.length ≤ 100 ∧ ∀ x e, e ∈ elsL l x → e.2.s.size ≤ 100 := by
  simp only [someT, Bool.and_eq_true, decide_eq_true_eq] at h
  rcases fewL_le l 4000 200 (by omega) (by omega) (by omega) with h1 | ⟨h2, h3, h4, h5⟩
  · omega
  · exact ⟨by omega, by omega, by omega, h5⟩

def rightB (t : Tm) : Bool := fairR t && decide (t.size ≤ 3000) && decide (t.depth ≤ 100)

theorem toList_data (s : ByteArray) : s.toList = s.data.toList := ByteArray.toList_eq s

theorem strEq_iff {a b : ByteArray} : strEq a b = true ↔ a = b := by
  simp only [strEq, beq_iff_eq]
  constructor
  · intro h
    rw [toList_data, toList_data] at h
    cases a; cases b
    simpa using h
  · rintro rfl; rfl

theorem ownT_eq (t : Tm) : t.ownT = (t.s.data.toList.all byteOk && kindR t.k t.s t.n t.l.length) := by
  unfold ownT kindR
  split
  · by_cases h : strEq t.s ⟨#[]⟩ = true
    · have := strEq_iff.1 h
      rw [this]; simp
    · simp [h]
  · split
    · by_cases h : strEq t.s ⟨#[]⟩ = true
      · have := strEq_iff.1 h
        rw [this]; simp
      · simp [h]
    · split
      · rename_i h; simp only [h, namedB]
        cases t.s.data.toList.all byteOk <;> simp [Bool.and_assoc]
      · rename_i h; simp [h]

mutual
theorem fair_els : ∀ (t : Tm) (d : Int), (∀ e ∈ els t d, e.2.ownT = true) ↔ fairR t = true
  | mk k s n l, d => by
    have h := fairL_els l (d + 1)
    have h2 : (mk k s n l).ownT = (s.data.toList.all byteOk && kindR k s n l.length) := ownT_eq _
    simp only [els, List.mem_cons, forall_eq_or_imp, h, h2, fairR, Bool.and_eq_true]
    constructor
    · rintro ⟨⟨h1, h2⟩, h3⟩; exact ⟨⟨h1, h3⟩, h2⟩
    · rintro ⟨⟨h1, h2⟩, h3⟩; exact ⟨⟨h1, h3⟩, h2⟩
theorem fairL_els : ∀ (l : List Tm) (d : Int), (∀ e ∈ elsL l d, e.2.ownT = true) ↔ fairRL l = true
  | [], d => by simp [elsL, fairRL]
  | t :: r, d => by
    simp only [elsL, List.mem_append, fairRL, Bool.and_eq_true, ← fair_els t d, ← fairL_els r d]
    constructor
    · intro h; exact ⟨fun e he => h e (.inl he), fun e he => h e (.inr he)⟩
    · rintro ⟨h1, h2⟩ e (he | he)
      · exact h1 e he
      · exact h2 e he
end

mutual
theorem deep_els : ∀ (t : Tm) (d m : Int), (∀ e ∈ els t d, e.1 ≤ m) ↔ d + t.depth - 1 ≤ m
  | mk k s n l, d, m => by
    simp only [els, List.mem_cons, forall_eq_or_imp, deepL_els l (d + 1) m, depth]
    cases hl : l with
    | nil => simp [depthL]
    | cons x r =>
      have : 0 < depthL (x :: r) := by simp only [depthL]; have := depth_eq x; omega
      simp only [List.cons_ne_nil, false_or]
      omega
theorem deepL_els : ∀ (l : List Tm) (d m : Int), (∀ e ∈ elsL l d, e.1 ≤ m) ↔ l = [] ∨ d + depthL l - 1 ≤ m
  | [], d, m => by simp [elsL]
  | t :: r, d, m => by
    have h1 := deep_els t d m
    have h2 := deepL_els r d m
    simp only [elsL, List.mem_append, depthL, List.cons_ne_nil, false_or]
    have h3 := depth_eq t
    constructor
    · intro h
      have h4 := h1.1 fun e he => h e (.inl he)
      have h5 := h2.1 fun e he => h e (.inr he)
      rcases h5 with rfl | h5
      · simp only [depthL]; omega
      · omega
    · intro h e he
      rcases he with he | he
      · exact h1.2 (by omega) e he
      · refine h2.2 ?_ e he
        right; omega
end

mutual
theorem same_iff : ∀ (a b : Tm), same a b = true ↔ a = b
  | mk k s n l, mk k' s' n' l' => by
    simp only [same, Bool.and_eq_true, beq_iff_eq, strEq_iff, sameL_eq l l', mk.injEq]
    constructor
    · rintro ⟨⟨⟨h1, h2⟩, h3⟩, h4⟩; exact ⟨h1, h3, h2, h4⟩
    · rintro ⟨h1, h3, h2, h4⟩; exact ⟨⟨⟨h1, h2⟩, h3⟩, h4⟩
theorem sameL_eq : ∀ (a b : List Tm), sameL a b = true ↔ a = b
  | [], [] => by simp [sameL]
  | [], _ :: _ => by simp [sameL]
  | _ :: _, [] => by simp [sameL]
  | x :: a, y :: b => by simp only [sameL, Bool.and_eq_true, same_iff x y, sameL_eq a b, List.cons.injEq]
end
theorem same_refl (a : Tm) : same a a = true := (same_iff a a).2 rfl
theorem sameL_refl (a : List Tm) : sameL a a = true := (sameL_eq a a).2 rfl

theorem sameL_len {a b : List Tm} (h : ¬ a.length = b.length) : sameL a b = false := by
  cases hs : sameL a b
  · rfl
  · exact absurd ((sameL_iff _ _).1 hs).1 h
end Tm

def stepR (e : Int × Tm) (n : Nat) : Bool := !(decide (e.1 > 100) || decide ((n : Int) > 3000) || !e.2.ownT)

/-- Is it right so far? -/
def goR (t : Tm) (n : Nat) : Bool := match n with
  | 0 => true
  | m + 1 => match (t.els 1)[m]? with
    | some e => stepR e (m + 1)
    | none => true

def rightT (t : Tm) : Bool := (adv ⟨(t.els 1).map Tm.enc, goR t⟩ t.size 0).2

def goG (t : Tm) (n : Nat) : Bool := match n with
  | 0 => true
  | m + 1 => match (t.els 1)[m]? with
    | some e => !(e.2.k == 1)
    | none => true

def groundT (t : Tm) : Bool := (adv ⟨(t.els 1).map Tm.enc, goG t⟩ t.size 0).2

theorem adv_els {t : Tm} {g : Nat → Bool} : (adv ⟨(t.els 1).map Tm.enc, g⟩ t.size 0).2 = true ↔ ∀ i, i < t.size → g (i + 1) = true := by
  rw [adv_all]; simp

theorem rightT_eq (t : Tm) : rightT t = t.rightB := by
  rw [Bool.eq_iff_iff]
  unfold rightT
  rw [adv_els]
  unfold Tm.rightB
  simp only [Bool.and_eq_true, decide_eq_true_eq, ← Tm.fair_els t 1]
  have hd := Tm.deep_els t 1 100
  have hl := Tm.els_len t 1
  have hs := Tm.size_eq t
  constructor
  · intro h
    have h1 : ∀ e ∈ t.els 1, e.1 ≤ 100 ∧ e.2.ownT = true := fun e he => by
      obtain ⟨i, hi, rfl⟩ := List.mem_iff_getElem.1 he
      have := h i (by omega)
      simp only [goR, List.getElem?_eq_getElem hi, stepR, Bool.not_eq_true', Bool.or_eq_false_iff, decide_eq_false_iff_not, Bool.not_eq_false'] at this
      exact ⟨by omega, this.2⟩
    refine ⟨⟨fun e he => (h1 e he).2, ?_⟩, ?_⟩
    · have hi : t.size - 1 < (t.els 1).length := by omega
      have := h (t.size - 1) (by omega)
      simp only [goR, List.getElem?_eq_getElem hi, stepR, Bool.not_eq_true', Bool.or_eq_false_iff, decide_eq_false_iff_not, Bool.not_eq_false'] at this
      omega
    · have := hd.1 fun e he => (h1 e he).1
      omega
  · rintro ⟨⟨h1, h2⟩, h3⟩ i hi
    have hi' : i < (t.els 1).length := by omega
    have h4 := hd.2 (by omega) _ (List.getElem_mem hi')
    simp only [goR, List.getElem?_eq_getElem hi', stepR, Bool.not_eq_true', Bool.or_eq_false_iff, decide_eq_false_iff_not, Bool.not_eq_false']
    exact ⟨⟨by omega, by omega⟩, h1 _ (List.getElem_mem hi')⟩

theorem groundT_iff (t : Tm) : groundT t = true ↔ ∀ e ∈ t.els 1, e.2.k ≠ 1 := by
  unfold groundT
  rw [adv_els]
  have hl := Tm.els_len t 1
  constructor
  · intro h e he
    obtain ⟨i, hi, rfl⟩ := List.mem_iff_getElem.1 he
    have := h i (by omega)
    simpa [goG, List.getElem?_eq_getElem hi] using this
  · intro h i hi
    have hi' : i < (t.els 1).length := by omega
    simpa [goG, List.getElem?_eq_getElem hi'] using h _ (List.getElem_mem hi')

/-! ### terms with other variables -/
namespace Tm
mutual
/-- What the reference turns a term into. -/
def turnR (g : Int → Int) : Tm → Tm
  | mk k s n l => if k = 1 then mk 1 ByteArray.empty (g n) [] else mk k s n (turnRL g l)
def turnRL (g : Int → Int) : List Tm → List Tm
  | [] => []
  | t :: r => turnR g t :: turnRL g r
end
mutual
def turnT (g : Int → Int) : Tm → Tm
  | mk k s n l => mk k s (if k = 1 then g n else n) (turnTL g l)
def turnTL (g : Int → Int) : List Tm → List Tm
  | [] => []
  | t :: r => turnT g t :: turnTL g r
end
theorem turnR_eq (g : Int → Int) (t : Tm) : turnR g t = if t.k = 1 then mk 1 ByteArray.empty (g t.n) [] else mk t.k t.s t.n (turnRL g t.l) := by cases t; simp only [turnR]; rfl
theorem turnT_eq (g : Int → Int) (t : Tm) : turnT g t = mk t.k t.s (if t.k = 1 then g t.n else t.n) (turnTL g t.l) := by cases t; simp only [turnT]; rfl
theorem turnRL_map (g : Int → Int) : ∀ l, turnRL g l = l.map (turnR g)
  | [] => rfl
  | t :: r => by simp only [turnRL, List.map_cons, turnRL_map g r]
theorem turnTL_map (g : Int → Int) : ∀ l, turnTL g l = l.map (turnT g)
  | [] => rfl
  | t :: r => by simp only [turnTL, List.map_cons, turnTL_map g r]
end Tm

/-- The place of a number. -/
def atI : List Int → Int → Int → Int
  | [], _, _ => -1
  | x :: r, n, i => if x = n then i else atI r n (i + 1)

/-! ### variables -/
def addV (l : List Int) (x : Int) : List Int := if l.contains x then l else l ++ [x]
def stepV (l : List Int) (e : Int × Tm) : List Int := if e.2.k = 1 then addV l e.2.n else l

/-- What term.Vars answers. -/
def varsT (l : List Tm) : List Int := l.foldl (fun a t => (t.els 1).foldl stepV a) []

namespace Tm
mutual
def withV : List Int → Tm → List Int
  | a, mk k _ n l => if k = 1 then addV a n else withVL a l
def withVL : List Int → List Tm → List Int
  | a, [] => a
  | a, t :: r => withVL (withV a t) r
end
mutual
def plain : Tm → Bool
  | mk k _ _ l => !((k == 1) && !l.isEmpty) && plainL l
def plainL : List Tm → Bool
  | [] => true
  | t :: r => plain t && plainL r
end
theorem withV_eq (a : List Int) (t : Tm) : withV a t = if t.k = 1 then addV a t.n else withVL a t.l := by cases t; simp only [withV]; rfl
theorem plain_eq (t : Tm) : plain t = (!((t.k == 1) && !t.l.isEmpty) && plainL t.l) := by cases t; simp only [plain]; rfl
theorem addV_len' (l : List Int) (x : Int) : (addV l x).length ≤ l.length + 1 := by unfold addV; split <;> simp
mutual
theorem withV_len : ∀ (t : Tm) (a : List Int), (withV a t).length ≤ a.length + size t
  | mk k s n l, a => by
    simp only [withV, size]
    split
    · have := addV_len' a n; omega
    · have := withVL_len l a; omega
theorem withVL_len : ∀ (l : List Tm) (a : List Int), (withVL a l).length ≤ a.length + sizeL l
  | [], a => by simp [withVL]
  | t :: r, a => by have h1 := withV_len t a; have h2 := withVL_len r (withV a t); simp only [withVL, sizeL]; omega
end
theorem withVL_append : ∀ (x y : List Tm) (a : List Int), withVL a (x ++ y) = withVL (withVL a x) y
  | [], y, a => rfl
  | t :: x, y, a => by simp only [List.cons_append, withVL, withVL_append x y]

mutual
theorem els_with : ∀ (t : Tm) (d : Int) (a : List Int), plain t = true → (els t d).foldl stepV a = withV a t
  | mk k s n l, d, a, h => by
    simp only [plain, Bool.and_eq_true, Bool.not_eq_true', Bool.and_eq_false_iff] at h
    simp only [els, List.foldl_cons, withV]
    by_cases hk : k = 1
    · have hl : l = [] := by
        rcases h.1 with h1 | h1
        · simp [hk] at h1
        · simpa using h1
      subst hl
      simp only [elsL, List.foldl_nil, hk, if_true]
      rfl
    · rw [if_neg hk, elsL_with l (d + 1) _ h.2]
      simp only [stepV, Tm.k, hk, if_false]
theorem elsL_with : ∀ (l : List Tm) (d : Int) (a : List Int), plainL l = true → (elsL l d).foldl stepV a = withVL a l
  | [], d, a, h => rfl
  | t :: r, d, a, h => by
    simp only [plainL, Bool.and_eq_true] at h
    simp only [elsL, List.foldl_append, withVL, els_with t d a h.1, elsL_with r d _ h.2]
end
end Tm

theorem varsT_with : ∀ (l : List Tm), Tm.plainL l = true → varsT l = Tm.withVL [] l := by
  have key : ∀ (l : List Tm) (a : List Int), Tm.plainL l = true → l.foldl (fun a t => (t.els 1).foldl stepV a) a = Tm.withVL a l := by
    intro l
    induction l with
    | nil => intro a _; rfl
    | cons t r ih =>
      intro a h
      simp only [Tm.plainL, Bool.and_eq_true] at h
      simp only [List.foldl_cons, Tm.withVL, Tm.els_with t 1 a h.1, ih _ h.2]
  exact fun l h => key l [] h

theorem stepV_nil {l : List (Int × Tm)} {a : List Int} : l.foldl stepV a = [] ↔ a = [] ∧ ∀ e ∈ l, e.2.k ≠ 1 := by
  induction l generalizing a with
  | nil => simp
  | cons e l ih =>
    simp only [List.foldl_cons, ih, List.mem_cons, forall_eq_or_imp]
    unfold stepV addV
    split
    · rename_i h
      split
      · rename_i h2
        constructor
        · rintro ⟨rfl, _⟩; simp at h2
        · rintro ⟨_, h3, _⟩; exact absurd h h3
      · constructor
        · rintro ⟨h3, _⟩; simp at h3
        · rintro ⟨_, h3, _⟩; exact absurd h h3
    · rename_i h
      constructor
      · rintro ⟨h1, h2⟩; exact ⟨h1, h, h2⟩
      · rintro ⟨h1, _, h2⟩; exact ⟨h1, h2⟩

theorem ground_vars (t : Tm) : groundT t = (varsT [t]).isEmpty := by
  rw [Bool.eq_iff_iff, groundT_iff, List.isEmpty_iff]
  unfold varsT
  simp only [List.foldl_cons, List.foldl_nil, stepV_nil, true_and]
end PSL
