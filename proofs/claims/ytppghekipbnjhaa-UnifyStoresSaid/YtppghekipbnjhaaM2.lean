import Derived.Test.YtppghekipbnjhaaM1
import Derived.Test.YtppghekipbnjhaaSTy
import Derived.Test.YtppghekipbnjhaaRows
import Derived.ProofKit
namespace PSL
open Go
namespace Tm

mutual
/-- A term's variables, as often as they are met. -/
def occ : Tm → List Int
  | mk k _ n l => if k = 1 then [n] else occL l
def occL : List Tm → List Int
  | [] => []
  | t :: r => occ t ++ occL r
end

mutual
theorem withV_occ : ∀ (t : Tm) (a : List Int), withV a t = (occ t).foldl addV a
  | mk k s n l, a => by
    simp only [withV, occ]
    split
    · rfl
    · exact withVL_occ l a
theorem withVL_occ : ∀ (l : List Tm) (a : List Int), withVL a l = (occL l).foldl addV a
  | [], a => rfl
  | t :: r, a => by simp only [withVL, occL, List.foldl_append, withV_occ t a, withVL_occ r]
end

mutual
theorem occ_of : ∀ {t : Tm} {d : Int} {e : Int × Tm}, e ∈ els t d → e.2.k = 1 → plain t = true → e.2.n ∈ occ t
  | mk k s n l, d, e, he, hk, hp => by
    simp only [els, List.mem_cons] at he
    simp only [plain, Bool.and_eq_true] at hp
    rcases he with rfl | he
    · have hk : k = 1 := hk
      simp only [occ, if_pos hk]
      show n ∈ [n]; simp
    · have hl := occL_of he hk hp.2
      by_cases h1 : k = 1
      · have : l = [] := by
          have h2 := hp.1
          simp only [h1, beq_self_eq_true, Bool.true_and, Bool.not_not] at h2
          simpa using h2
        subst this
        simp [elsL] at he
      · simp only [occ, if_neg h1]; exact hl
theorem occL_of : ∀ {l : List Tm} {d : Int} {e : Int × Tm}, e ∈ elsL l d → e.2.k = 1 → plainL l = true → e.2.n ∈ occL l
  | [], _, _, he, _, _ => by simp [elsL] at he
  | t :: r, d, e, he, hk, hp => by
    simp only [elsL, List.mem_append] at he
    simp only [plainL, Bool.and_eq_true] at hp
    simp only [occL, List.mem_append]
    rcases he with he | he
    · exact .inl (occ_of he hk hp.1)
    · exact .inr (occL_of he hk hp.2)
end

theorem kindR_var {s : ByteArray} {n : Int} {m : Nat} (h : kindR 1 s n m = true) : 0 ≤ n ∧ n < 1000000 ∧ s = ByteArray.empty ∧ m = 0 := by
  simp only [kindR, if_true, Bool.and_eq_true, decide_eq_true_eq, strEq_iff, beq_iff_eq] at h
  obtain ⟨⟨⟨h1, h2⟩, h3⟩, h4⟩ := h
  exact ⟨h1, h2, h3, by omega⟩

mutual
theorem fair_plain : ∀ (t : Tm), fairR t = true → plain t = true
  | mk k s n l, h => by
    simp only [fairR, Bool.and_eq_true] at h
    simp only [plain, Bool.and_eq_true, fairL_plain l h.1.2, and_true, Bool.not_eq_true', Bool.and_eq_false_iff]
    by_cases hk : k = 1
    · subst hk
      have := (kindR_var h.2).2.2.2
      right; cases l <;> simp at this ⊢
    · left; simpa using hk
theorem fairL_plain : ∀ (l : List Tm), fairRL l = true → plainL l = true
  | [], _ => rfl
  | t :: r, h => by
    simp only [fairRL, Bool.and_eq_true] at h
    simp only [plainL, fair_plain t h.1, fairL_plain r h.2, Bool.and_self]
end

mutual
theorem occ_range : ∀ (t : Tm), fairR t = true → ∀ v ∈ occ t, 0 ≤ v ∧ v < 1000000
  | mk k s n l, h, v, hv => by
    simp only [fairR, Bool.and_eq_true] at h
    simp only [occ] at hv
    split at hv
    · rename_i hk
      subst hk
      simp at hv; subst hv
      have := kindR_var h.2
      exact ⟨this.1, this.2.1⟩
    · exact occL_range l h.1.2 v hv
theorem occL_range : ∀ (l : List Tm), fairRL l = true → ∀ v ∈ occL l, 0 ≤ v ∧ v < 1000000
  | [], _, v, hv => by simp [occL] at hv
  | t :: r, h, v, hv => by
    simp only [fairRL, Bool.and_eq_true] at h
    simp only [occL, List.mem_append] at hv
    exact hv.elim (occ_range t h.1 v) (occL_range r h.2 v)
end

mutual
theorem occ_turn (g : Int → Int) : ∀ (t : Tm), occ (turnT g t) = (occ t).map g
  | mk k s n l => by
    simp only [turnT, occ]
    split
    · rfl
    · exact occL_turn g l
theorem occL_turn (g : Int → Int) : ∀ (l : List Tm), occL (turnTL g l) = (occL l).map g
  | [] => rfl
  | t :: r => by simp only [turnTL, occL, List.map_append, occ_turn g t, occL_turn g r]
end

mutual
theorem turn_congr {g g' : Int → Int} : ∀ (t : Tm), fairR t = true → (∀ v ∈ occ t, g v = g' v) → turnT g t = turnT g' t
  | mk k s n l, h, hv => by
    simp only [fairR, Bool.and_eq_true] at h
    simp only [turnT]
    by_cases hk : k = 1
    · subst hk
      have hl := (kindR_var h.2).2.2.2
      have hl : l = [] := List.length_eq_zero_iff.1 hl
      subst hl
      rw [if_pos rfl, if_pos rfl, hv n (by simp [occ])]
      rfl
    · rw [if_neg hk, if_neg hk, turnL_congr l h.1.2 fun v h' => hv v (by simp only [occ, if_neg hk]; exact h')]
theorem turnL_congr {g g' : Int → Int} : ∀ (l : List Tm), fairRL l = true → (∀ v ∈ occL l, g v = g' v) → turnTL g l = turnTL g' l
  | [], _, _ => rfl
  | t :: r, h, hv => by
    simp only [fairRL, Bool.and_eq_true] at h
    simp only [turnTL]
    rw [turn_congr t h.1 fun v h' => hv v (by simp [occL, h']), turnL_congr r h.2 fun v h' => hv v (by simp [occL, h'])]
end

mutual
theorem turn_comp (g h : Int → Int) : ∀ (t : Tm), turnT h (turnT g t) = turnT (fun n => h (g n)) t
  | mk k s n l => by
    simp only [turnT, turnL_comp g h l]
    by_cases hk : k = 1 <;> simp [hk]
theorem turnL_comp (g h : Int → Int) : ∀ (l : List Tm), turnTL h (turnTL g l) = turnTL (fun n => h (g n)) l
  | [] => rfl
  | t :: r => by simp only [turnTL, turn_comp g h t, turnL_comp g h r]
end

mutual
theorem turn_self : ∀ (t : Tm), turnT (fun n => n) t = t
  | mk k s n l => by simp [turnT, turnL_self l]
theorem turnL_self : ∀ (l : List Tm), turnTL (fun n => n) l = l
  | [] => rfl
  | t :: r => by simp only [turnTL, turn_self t, turnL_self r]
end

mutual
theorem turnR_turnT (g : Int → Int) : ∀ (t : Tm), fairR t = true → turnR g t = turnT g t
  | mk k s n l, h => by
    simp only [fairR, Bool.and_eq_true] at h
    simp only [turnT, turnR]
    by_cases hk : k = 1
    · subst hk
      obtain ⟨_, _, h3, h4⟩ := kindR_var h.2
      have hl : l = [] := List.length_eq_zero_iff.1 h4
      subst hl; subst h3
      rfl
    · rw [if_neg hk, if_neg hk, turnRL_turnTL g l h.1.2]
theorem turnRL_turnTL (g : Int → Int) : ∀ (l : List Tm), fairRL l = true → turnRL g l = turnTL g l
  | [], _ => rfl
  | t :: r, h => by
    simp only [fairRL, Bool.and_eq_true] at h
    simp only [turnTL, turnRL, turnR_turnT g t h.1, turnRL_turnTL g r h.2]
end
theorem turnTL_len (g : Int → Int) (l : List Tm) : (turnTL g l).length = l.length := by rw [turnTL_map]; simp

mutual
theorem size_turn (g : Int → Int) : ∀ (t : Tm), size (turnT g t) = size t
  | mk k s n l => by simp only [turnT, size, sizeL_turn g l]
theorem sizeL_turn (g : Int → Int) : ∀ (l : List Tm), sizeL (turnTL g l) = sizeL l
  | [] => rfl
  | t :: r => by simp only [turnTL, sizeL, size_turn g t, sizeL_turn g r]
end

mutual
theorem depth_turn (g : Int → Int) : ∀ (t : Tm), depth (turnT g t) = depth t
  | mk k s n l => by simp only [turnT, depth, depthL_turn g l]
theorem depthL_turn (g : Int → Int) : ∀ (l : List Tm), depthL (turnTL g l) = depthL l
  | [] => rfl
  | t :: r => by simp only [turnTL, depthL, depth_turn g t, depthL_turn g r]
end

mutual
theorem fair_turn (g : Int → Int) : ∀ (t : Tm), fairR t = true → (∀ v ∈ occ t, 0 ≤ g v ∧ g v < 1000000) → fairR (turnT g t) = true
  | mk k s n l, h, hv => by
    simp only [fairR, Bool.and_eq_true] at h
    simp only [turnT, fairR, Bool.and_eq_true, turnTL_len]
    by_cases hk : k = 1
    · subst hk
      obtain ⟨_, _, h3, h4⟩ := kindR_var h.2
      have hl : l = [] := List.length_eq_zero_iff.1 h4
      subst hl; subst h3
      obtain ⟨h5, h6⟩ := hv n (by simp [occ])
      refine ⟨⟨h.1.1, rfl⟩, ?_⟩
      simp only [kindR, if_true, Bool.and_eq_true, decide_eq_true_eq]
      exact ⟨⟨⟨h5, h6⟩, strEq_iff.2 rfl⟩, by rfl⟩
    · rw [if_neg hk]
      exact ⟨⟨h.1.1, fairL_turn g l h.1.2 fun v h' => hv v (by simp only [occ, if_neg hk]; exact h')⟩, h.2⟩
theorem fairL_turn (g : Int → Int) : ∀ (l : List Tm), fairRL l = true → (∀ v ∈ occL l, 0 ≤ g v ∧ g v < 1000000) → fairRL (turnTL g l) = true
  | [], _, _ => rfl
  | t :: r, h, hv => by
    simp only [fairRL, Bool.and_eq_true] at h
    simp only [turnTL, fairRL, Bool.and_eq_true]
    exact ⟨fair_turn g t h.1 fun v h' => hv v (by simp [occL, h']), fairL_turn g r h.2 fun v h' => hv v (by simp [occL, h'])⟩
end

theorem rightB_iff {t : Tm} : rightB t = true ↔ fairR t = true ∧ t.size ≤ 3000 ∧ t.depth ≤ 100 := by
  simp only [rightB, Bool.and_eq_true, decide_eq_true_eq, and_assoc]

/-- Each once. -/
def once (l : List Int) : List Int := l.foldl addV []

theorem mem_addV {a : List Int} {x v : Int} : v ∈ addV a x ↔ v ∈ a ∨ v = x := by
  unfold addV
  split
  · rename_i h
    have : x ∈ a := by simpa using h
    constructor
    · exact .inl
    · rintro (h | rfl)
      · exact h
      · exact this
  · simp

theorem mem_foldl {l : List Int} : ∀ {a : List Int} {v : Int}, v ∈ l.foldl addV a ↔ v ∈ a ∨ v ∈ l := by
  induction l with
  | nil => simp
  | cons x l ih => intro a v; simp only [List.foldl_cons, ih, mem_addV, List.mem_cons, or_assoc]
theorem mem_once {l : List Int} {v : Int} : v ∈ once l ↔ v ∈ l := by simp [once, mem_foldl]

theorem foldl_map {g : Int → Int} : ∀ (l a : List Int), (∀ x ∈ a ++ l, ∀ y ∈ a ++ l, g x = g y → x = y) → (l.map g).foldl addV (a.map g) = (l.foldl addV a).map g
  | [], a, _ => rfl
  | x :: l, a, hg => by
    have h1 : addV (a.map g) (g x) = (addV a x).map g := by
      unfold addV
      have : (a.map g).contains (g x) = a.contains x := by
        rw [Bool.eq_iff_iff]
        simp only [List.contains_iff_mem, List.mem_map]
        constructor
        · rintro ⟨y, hy, he⟩
          have := hg y (by simp [hy]) x (by simp) he
          rw [← this]; exact hy
        · intro h; exact ⟨x, h, rfl⟩
      rw [this]
      split <;> simp
    simp only [List.map_cons, List.foldl_cons, h1]
    refine foldl_map l (addV a x) fun y hy z hz => hg y ?_ z ?_
    · simp only [List.mem_append, mem_addV] at hy
      simp only [List.mem_append, List.mem_cons]
      rcases hy with (h | h) | h
      · exact .inl h
      · exact .inr (.inl h)
      · exact .inr (.inr h)
    · simp only [List.mem_append, mem_addV] at hz
      simp only [List.mem_append, List.mem_cons]
      rcases hz with (h | h) | h
      · exact .inl h
      · exact .inr (.inl h)
      · exact .inr (.inr h)

theorem once_map {g : Int → Int} {l : List Int} (hg : ∀ x ∈ l, ∀ y ∈ l, g x = g y → x = y) : once (l.map g) = (once l).map g := by
  have := foldl_map (g := g) l [] (by simpa using hg)
  simpa [once] using this
end Tm

theorem varsT_once {l : List Tm} (h : Tm.fairRL l = true) : varsT l = Tm.once (Tm.occL l) := by
  rw [varsT_with l (Tm.fairL_plain l h), Tm.withVL_occ]; rfl
def placeG (l : List Int) (n : Int) : Int := if atI l n 0 < 0 then 0 else atI l n 0

theorem atI_mem : ∀ {l : List Int} {n : Int} (i : Int), n ∈ l → i ≤ atI l n i ∧ atI l n i < i + l.length
  | x :: l, n, i, h => by
    simp only [atI, List.length_cons]
    split
    · omega
    · rename_i hx
      have := atI_mem (l := l) (n := n) (i + 1) ((List.mem_cons.1 h).resolve_left fun e => hx e.symm)
      omega

theorem atI_map {g : Int → Int} {n : Int} : ∀ (l : List Int) (i : Int), (∀ x ∈ l, g x = g n → x = n) → atI (l.map g) (g n) i = atI l n i
  | [], i, _ => rfl
  | x :: l, i, h => by
    simp only [List.map_cons, atI]
    by_cases hx : x = n
    · simp [hx]
    · have : ¬ g x = g n := fun e => hx (h x (by simp) e)
      rw [if_neg hx, if_neg this, atI_map l (i + 1) fun y hy => h y (by simp [hy])]

theorem placeG_mem {l : List Int} {n : Int} (h : n ∈ l) : placeG l n = atI l n 0 ∧ 0 ≤ placeG l n ∧ placeG l n < l.length := by
  have := atI_mem 0 h
  unfold placeG
  rw [if_neg (by omega)]
  exact ⟨rfl, this.1, by omega⟩

theorem placeG_map {g : Int → Int} {l : List Int} {n : Int} (h : ∀ x ∈ l, g x = g n → x = n) : placeG (l.map g) (g n) = placeG l n := by
  unfold placeG; rw [atI_map l 0 h]
end PSL
namespace PSL
open Go

theorem fair_names {t : Tm} (h : t.fairR = true) : ∀ d e, e ∈ t.els d → e.2.s.size < 1000000000 := fun d e he => by
  have h1 := (Tm.fair_els t d).2 h e he
  rw [Tm.ownT_eq] at h1
  simp only [Bool.and_eq_true, Tm.kindR] at h1
  have h2 := h1.2
  split at h2
  · simp only [Bool.and_eq_true, Tm.strEq_iff] at h2
    rw [h2.1.2]; decide
  · split at h2
    · simp only [Bool.and_eq_true, Tm.strEq_iff] at h2
      rw [h2.1]; decide
    · simp only [Bool.and_eq_true, decide_eq_true_eq] at h2
      have := h2.1.2; omega
theorem right_fair {t : Tm} (h : t.rightB = true) : t.fairR = true := (Tm.rightB_iff.1 h).1
def zeroT : Tm := .mk 0 ByteArray.empty 0 []
theorem one_fair {t : Tm} (h : t.fairR = true) : Tm.fairRL [t] = true := by simp [Tm.fairRL, h]
theorem varsT_mem {l : List Tm} (h : Tm.fairRL l = true) {v : Int} : v ∈ varsT l ↔ v ∈ Tm.occL l := by rw [varsT_once h, Tm.mem_once]

/-- Variables of a term with others. -/
theorem varsT_turn {l : List Tm} {g : Int → Int} (h : Tm.fairRL l = true) (hg : ∀ v ∈ Tm.occL l, 0 ≤ g v ∧ g v < 1000000) (hi : ∀ x ∈ Tm.occL l, ∀ y ∈ Tm.occL l, g x = g y → x = y) : varsT (Tm.turnTL g l) = (varsT l).map g := by
  rw [varsT_once (Tm.fairL_turn g l h hg), varsT_once h, Tm.occL_turn, Tm.once_map hi]

theorem occ_sub {l : List Tm} {t : Tm} (ht : t ∈ l) {v : Int} (hv : v ∈ Tm.occ t) : v ∈ Tm.occL l := by
  induction l with
  | nil => simp at ht
  | cons x l ih =>
    simp only [Tm.occL, List.mem_append]
    rcases List.mem_cons.1 ht with rfl | ht
    · exact .inl hv
    · exact .inr (ih ht)
end PSL
namespace PSL
open Go

/-- A type's number is that of terms. -/
structure IsTerm (ty : Nat → Option Ty) (T : Nat) : Prop where
  ex : ∃ (a b c s : Nat) (τ τa τb τc τs : Ty), ty T = some τ ∧ τ.sh = .struct [(0, a), (1, b), (2, c), (3, s)] ∧ τ.size = 4 ∧ 1 ≤ τ.bytes ∧ ty a = some τa ∧ τa.sh = .int .i64 ∧ ty b = some τb ∧ τb.sh = .str ∧ ty c = some τc ∧ τc.sh = .int .i64 ∧ ty s = some τs ∧ τs.sh = .slice T

def isTermB (ty : Nat → Option Ty) (T : Nat) : Bool :=
  match ty T with
  | some ⟨4, by_, _, .struct [(0, a), (1, b), (2, c), (3, s)]⟩ => Nat.ble 1 by_ && (match ty a with | some ⟨_, _, _, .int .i64⟩ => true | _ => false) && (match ty b with | some ⟨_, _, _, .str⟩ => true | _ => false) &&
      (match ty c with | some ⟨_, _, _, .int .i64⟩ => true | _ => false) && (match ty s with | some ⟨_, _, _, .slice T'⟩ => Nat.beq T' T | _ => false)
  | _ => false

theorem isTermB_ok {ty : Nat → Option Ty} {T : Nat} (h : isTermB ty T = true) : IsTerm ty T := by
  unfold isTermB at h
  split at h
  case h_2 => cases h
  rename_i by_ z a b c s hT
  simp only [Bool.and_eq_true] at h
  obtain ⟨⟨⟨⟨h0, h1⟩, h2⟩, h3⟩, h4⟩ := h
  split at h1
  case h_2 => cases h1
  rename_i ha
  split at h2
  case h_2 => cases h2
  rename_i hb
  split at h3
  case h_2 => cases h3
  rename_i hc
  split at h4
  case h_2 => cases h4
  rename_i hs
  have := natBeq h4
  subst this
  exact ⟨a, b, c, s, _, _, _, _, _, hT, rfl, rfl, Nat.le_of_ble_eq_true h0, ha, rfl, hb, rfl, hc, rfl, hs, rfl⟩

theorem has_int {ty : Nat → Option Ty} {B n t : Nat} {τ : Ty} {row : List D} {k : IntKind} (hτ : ty t = some τ) (hs : τ.sh = .int k) (h : HasTy ty B n t row) : ∃ m, row = [.v (.int k m)] ∧ k.min ≤ m ∧ m ≤ k.max := by
  cases n with
  | zero => simp [HasTy] at h
  | succ n => simpa only [HasTy, hτ, hs] using h

theorem has_str {ty : Nat → Option Ty} {B n t : Nat} {τ : Ty} {row : List D} (hτ : ty t = some τ) (hs : τ.sh = .str) (h : HasTy ty B n t row) : ∃ s : ByteArray, row = [.v (.string s)] ∧ s.size ≤ B := by
  cases n with
  | zero => simp [HasTy] at h
  | succ n => simpa only [HasTy, hτ, hs] using h

theorem has_slice {ty : Nat → Option Ty} {B n t e : Nat} {τ : Ty} {row : List D} (hτ : ty t = some τ) (hs : τ.sh = .slice e) (h : HasTy ty B (n + 1) t row) : ∃ rows : List (List D), row = [.sl rows] ∧ (∀ τ, ty e = some τ → rows.length * τ.bytes ≤ B) ∧ ∀ r ∈ rows, HasTy ty B n e r := by
  simpa only [HasTy, hτ, hs] using h

/-- All numbers of a term fit. -/
def Tm.Fit (t : Tm) : Prop := ∀ d e, e ∈ t.els d → I64 e.2.k ∧ I64 e.2.n

theorem tm_of {ty : Nat → Option Ty} {T B : Nat} (hT : IsTerm ty T) (hB : B ≤ 140737488355328) : ∀ (n : Nat) (row : List D), HasTy ty B n T row → ∃ t : Tm, row = t.row ∧ t.Ok ∧ t.Fit := by
  obtain ⟨a, b, c, s, τ, τa, τb, τc, τs, h1, h2, h3, hby, ha, ha', hb, hb', hc, hc', hs, hs'⟩ := hT.ex
  intro n
  induction n using Nat.strongRecOn with
  | _ n ih =>
  intro row h
  cases n with
  | zero => simp [HasTy] at h
  | succ n =>
    simp only [HasTy, h1, h2, HasFs] at h
    obtain ⟨_, ra, _, g1, rfl, g2, g3, _, rb, _, g4, rfl, g5, g6, _, rc, _, g7, rfl, g8, g9, _, rs, _, g10, rfl, g11, g12, rfl⟩ := h
    rw [ha] at g1; cases g1
    rw [hb] at g4; cases g4
    rw [hc] at g7; cases g7
    rw [hs] at g10; cases g10
    obtain ⟨k, rfl, hk⟩ := has_int ha ha' g3
    obtain ⟨nm, rfl, hnm⟩ := has_str hb hb' g6
    obtain ⟨m, rfl, hm⟩ := has_int hc hc' g9
    cases n with
    | zero => simp [HasTy] at g12
    | succ n =>
      obtain ⟨rows, rfl, hlen, hrows⟩ := has_slice hs hs' g12
      have hch : ∃ l : List Tm, rows = l.map Tm.row ∧ ∀ x ∈ l, x.Ok ∧ x.Fit := by
        clear hlen g11 g12
        induction rows with
        | nil => exact ⟨[], rfl, by simp⟩
        | cons r rows ihr =>
          obtain ⟨t, ht1, ht2⟩ := ih n (by omega) r (hrows r (by simp))
          obtain ⟨l, hl1, hl2⟩ := ihr fun r hr => hrows r (by simp [hr])
          exact ⟨t :: l, by simp [ht1, hl1], by simpa using ⟨ht2, hl2⟩⟩
      obtain ⟨l, rfl, hl⟩ := hch
      have hll : l.length ≤ B := by
        have := hlen τ h1
        rw [List.length_map] at this
        exact Nat.le_trans (Nat.le_mul_of_pos_right _ hby) this
      refine ⟨.mk k nm m l, by simp [Tm.row, Tm.k, Tm.s, Tm.n, Tm.l, Tm.rows_eq], ?_, ?_⟩
      · intro d e he
        simp only [Tm.els, List.mem_cons] at he
        rcases he with rfl | he
        · exact ⟨show l.length ≤ _ by omega, show nm.size ≤ _ by omega⟩
        · obtain ⟨x, hx, hex⟩ := Tm.elsL_mem he
          exact (hl x hx).1 _ _ hex
      · intro d e he
        simp only [Tm.els, List.mem_cons] at he
        rcases he with rfl | he
        · exact ⟨hk, hm⟩
        · obtain ⟨x, hx, hex⟩ := Tm.elsL_mem he
          exact (hl x hx).2 _ _ hex

/-- An argument that is a term. -/
theorem arg_tm {ty : Nat → Option Ty} {T B : Nat} (hT : IsTerm ty T) (hB : B ≤ 140737488355328) {n : Nat} {τ : Ty} {row : List D} {a : AV} (hτ : ty T = some τ) (h : HasTy ty B n T row) (ha : a = avOf τ row) : ∃ t : Tm, a = t.av ∧ t.Ok ∧ t.Fit := by
  obtain ⟨t, rfl, h1⟩ := tm_of hT hB n row h
  refine ⟨t, ?_, h1⟩
  obtain ⟨a', b, c, s, τ', τa, τb, τc, τs, g1, g2, _⟩ := hT.ex
  rw [hτ] at g1; cases g1
  rw [ha]; unfold avOf Ty.agg
  rw [g2]; rfl
theorem sh_of {ty : Nat → Option Ty} {t : Nat} {τ : Ty} {sh : Sh} (h : ty t = some τ) (h2 : (ty t).map Ty.sh = some sh) : τ.sh = sh := by rw [h] at h2; simpa using h2

theorem argsC {ty : Nat → Option Ty} {B t : Nat} {ts : List Nat} {axs : List AV} (h : ArgsAre ty B (t :: ts) axs) : ∃ (n : Nat) (τ : Ty) (row : List D) (a : AV) (as' : List AV), axs = a :: as' ∧ ty t = some τ ∧ HasTy ty B n t row ∧ a = avOf τ row ∧ ArgsAre ty B ts as' := by
  match axs, h with
  | a :: axs, h => simp only [ArgsAre] at h; obtain ⟨⟨n, τ, row, h1, h2, _, h3⟩, h4⟩ := h; exact ⟨n, τ, row, a, axs, rfl, h1, h2, h3, h4⟩
  | [], h => simp [ArgsAre] at h

theorem args0 {ty : Nat → Option Ty} {B : Nat} {axs : List AV} (h : ArgsAre ty B [] axs) : axs = [] := by
  cases axs with
  | nil => rfl
  | cons _ _ => simp [ArgsAre] at h
end PSL
namespace PSL
open Go
namespace Tm
end Tm
namespace Tm
end Tm
end PSL
namespace PSL
open Go
namespace Tm
end Tm
end PSL
namespace PSL
open Go
namespace Tm

theorem fairR_mk {k : Int} {s : ByteArray} {n : Int} {l : List Tm} (h : fairR (mk k s n l) = true) : fairRL l = true ∧ (k = 1 → s = ByteArray.empty ∧ l = []) := by
  simp only [fairR, Bool.and_eq_true] at h
  refine ⟨h.1.2, fun hk => ?_⟩
  subst hk
  have := kindR_var h.2
  exact ⟨this.2.2.1, List.length_eq_zero_iff.1 this.2.2.2⟩
end Tm
end PSL

namespace PSL
open Go

/-- Binds. -/
abbrev Binds := List (Int × Tm)
def bindRow (b : Int × Tm) : List D := .v (.int .i64 b.1) :: Tm.row b.2
def bindRows (l : Binds) : List (List D) := l.map bindRow
theorem bindRows_len (l : Binds) : (bindRows l).length = l.length := by simp [bindRows]
theorem bindRows_get {l : Binds} {i : Nat} {x : Int × Tm} (h : l[i]? = some x) : (bindRows l)[i]? = some (bindRow x) := by simp [bindRows, h]

theorem bindRows_sz (l : Binds) : ∀ r ∈ bindRows l, r.length = 5 := by
  intro r hr; obtain ⟨b, _, rfl⟩ := List.mem_map.1 hr; rfl

/-- The place of a variable in binds. -/
def placeB (l : Binds) (v : Int) : Int := atI (l.map (·.1)) v 0
def findB (l : Binds) (v : Int) : Option Tm := (l.find? (fun b => b.1 == v)).map (·.2)

theorem atI_find : ∀ (l : Binds) (v : Int) (i : Int), 0 ≤ i → (atI (l.map (·.1)) v i < 0 ∧ findB l v = none) ∨ (∃ (k : Nat) (t : Tm), atI (l.map (·.1)) v i = i + k ∧ l[k]? = some (v, t) ∧ findB l v = some t)
  | [], v, i, h => .inl ⟨by simp [atI], rfl⟩
  | b :: l, v, i, h => by
    by_cases hb : b.1 = v
    · refine .inr ⟨0, b.2, by simp [atI, hb], by simp [← hb], by simp [findB, hb]⟩
    · have hf : findB (b :: l) v = findB l v := by
        simp only [findB, List.find?_cons, show (b.1 == v) = false by simpa using hb]
      simp only [List.map_cons, atI, if_neg hb, hf]
      rcases atI_find l v (i + 1) (by omega) with ⟨h1, h2⟩ | ⟨k, t, h1, h2, h3⟩
      · exact .inl ⟨h1, h2⟩
      · exact .inr ⟨k + 1, t, by rw [h1]; omega, by simpa using h2, h3⟩

theorem placeB_find (l : Binds) (v : Int) : (placeB l v < 0 ∧ findB l v = none) ∨ (∃ (k : Nat) (t : Tm), placeB l v = k ∧ l[k]? = some (v, t) ∧ findB l v = some t) := by
  rcases atI_find l v 0 (Int.le_refl _) with h | ⟨k, t, h1, h2, h3⟩
  · exact .inl h
  · exact .inr ⟨k, t, by unfold placeB; omega, h2, h3⟩
namespace Tm
end Tm
namespace Tm
end Tm
namespace Tm
end Tm
namespace Tm
end Tm
end PSL
namespace PSL
open Go
namespace Tm
end Tm
end PSL
namespace PSL
open Go
namespace Tm

theorem findB_mem {B : Binds} {n : Int} {t : Tm} (h : findB B n = some t) : (n, t) ∈ B := by
  unfold findB at h
  obtain ⟨z, hz, rfl⟩ := Option.map_eq_some_iff.1 h
  have h1 := List.find?_some hz
  have h2 : z.1 = n := by simpa using h1
  subst h2; exact List.mem_of_find?_eq_some hz
end Tm
end PSL
namespace PSL
open Go
namespace Tm

mutual
/-- A pattern with terms for its variables. -/
def putF (σ : Int → Tm) : Tm → Tm
  | mk k s n l => if k = 1 then σ n else mk k s n (putFL σ l)
def putFL (σ : Int → Tm) : List Tm → List Tm
  | [] => []
  | x :: r => putF σ x :: putFL σ r
end

theorem putFL_len (σ : Int → Tm) : ∀ l, (putFL σ l).length = l.length
  | [] => rfl
  | x :: r => by simp only [putFL, List.length_cons, putFL_len σ r]

mutual
theorem putF_congr {σ τ : Int → Tm} : ∀ (p : Tm), (∀ v ∈ occ p, σ v = τ v) → putF σ p = putF τ p
  | mk k s n l, h => by
    simp only [putF]
    simp only [occ] at h
    by_cases hk : k = 1
    · simp only [if_pos hk] at h ⊢; exact h n (by simp)
    · simp only [if_neg hk] at h ⊢; rw [putFL_congr l h]
theorem putFL_congr {σ τ : Int → Tm} : ∀ (l : List Tm), (∀ v ∈ occL l, σ v = τ v) → putFL σ l = putFL τ l
  | [], _ => rfl
  | x :: r, h => by
    simp only [occL, List.mem_append] at h
    simp only [putFL, putF_congr x (fun v hv => h v (.inl hv)), putFL_congr r (fun v hv => h v (.inr hv))]
end

/-- A variable. -/
def vT (n : Int) : Tm := mk 1 ByteArray.empty n []
end Tm
end PSL
namespace PSL
open Go
namespace Tm

mutual
theorem putF_comp (σ τ : Int → Tm) : ∀ (p : Tm), putF τ (putF σ p) = putF (fun v => putF τ (σ v)) p
  | mk k s n l => by
    simp only [putF]
    by_cases hk : k = 1
    · simp [hk]
    · simp only [if_neg hk, putF, putFL_comp σ τ l]
theorem putFL_comp (σ τ : Int → Tm) : ∀ (l : List Tm), putFL τ (putFL σ l) = putFL (fun v => putF τ (σ v)) l
  | [] => rfl
  | x :: r => by simp only [putFL, putF_comp σ τ x, putFL_comp σ τ r]
end

mutual
theorem turn_put (g : Int → Int) : ∀ (p : Tm), fairR p = true → turnT g p = putF (fun v => vT (g v)) p
  | mk k s n l, h => by
    have hl := fairR_mk h
    simp only [turnT, putF]
    by_cases hk : k = 1
    · obtain ⟨rfl, rfl⟩ := hl.2 hk
      subst hk
      simp [turnTL, vT]
    · rw [if_neg hk, if_neg hk, turnL_put g l hl.1]
theorem turnL_put (g : Int → Int) : ∀ (l : List Tm), fairRL l = true → turnTL g l = putFL (fun v => vT (g v)) l
  | [], _ => rfl
  | x :: r, h => by
    simp only [fairRL, Bool.and_eq_true] at h
    simp only [turnTL, putFL, turn_put g x h.1, turnL_put g r h.2]
end

theorem put_self (p : Tm) (h : fairR p = true) : putF vT p = p := by
  have := turn_put (fun n => n) p h
  rw [turn_self] at this; exact this.symm

mutual
/-- Terms put for variables, told by what comes of it. -/
theorem putF_inj {σ τ : Int → Tm} : ∀ (p : Tm), putF σ p = putF τ p → ∀ v ∈ occ p, σ v = τ v
  | mk k s n l, h, v, hv => by
    simp only [putF] at h
    simp only [occ] at hv
    by_cases hk : k = 1
    · simp only [if_pos hk, List.mem_singleton] at h hv
      subst hv; exact h
    · simp only [if_neg hk, Tm.mk.injEq, true_and] at h hv
      exact putFL_inj l h v hv
theorem putFL_inj {σ τ : Int → Tm} : ∀ (l : List Tm), putFL σ l = putFL τ l → ∀ v ∈ occL l, σ v = τ v
  | [], _, v, hv => by simp [occL] at hv
  | x :: r, h, v, hv => by
    simp only [putFL, List.cons.injEq] at h
    simp only [occL, List.mem_append] at hv
    exact hv.elim (putF_inj x h.1 v) (putFL_inj r h.2 v)
end

mutual
theorem fair_put {σ : Int → Tm} : ∀ (p : Tm), fairR (putF σ p) = true → ∀ v ∈ occ p, fairR (σ v) = true
  | mk k s n l, h, v, hv => by
    simp only [putF] at h
    simp only [occ] at hv
    by_cases hk : k = 1
    · simp only [if_pos hk, List.mem_singleton] at h hv
      subst hv; exact h
    · simp only [if_neg hk] at h hv
      exact fairL_put l (fairR_mk h).1 v hv
theorem fairL_put {σ : Int → Tm} : ∀ (l : List Tm), fairRL (putFL σ l) = true → ∀ v ∈ occL l, fairR (σ v) = true
  | [], _, v, hv => by simp [occL] at hv
  | x :: r, h, v, hv => by
    simp only [putFL, fairRL, Bool.and_eq_true] at h
    simp only [occL, List.mem_append] at hv
    exact hv.elim (fair_put x h.1 v) (fairL_put r h.2 v)
end
end Tm
end PSL
namespace PSL
open Go
namespace Tm
end Tm
end PSL
namespace PSL
open Go
namespace Tm
end Tm
end PSL

namespace Go.Proofs.Ytppghekipbnjhaa
open Go PSL Go.Proofs Go.ChangeShapes Go.WideShapes Go.ChangeAt Go.RowKit
theorem ownK : ownKnob Try.prog.godebug = none := by kernel_rfl
theorem laidK : laidOutB Try.prog = true := by kernel_rfl
theorem isTerm : IsTerm tyT.get 24 := isTermB_ok (by kernel_rfl)

/-- The types that laws are handed. -/
def lawTys : List Nat := [3, 9, 4, 24, 22, 54, 45, 65, 63]

theorem lawTysOk : ∀ t ∈ lawTys, dT tyT.get lawTys t = true := by
  have h : lawTys.all (fun t => dT tyT.get lawTys t) = true := by kernel_rfl
  exact fun t ht => List.all_eq_true.1 h t ht
theorem reach47 : reachBytes ≤ 140737488355328 := by decide
end Go.Proofs.Ytppghekipbnjhaa

namespace Go.Proofs.Ytppghekipbnjhaa
open Go PSL Go.Proofs
def wobjs (n : Nat) : List Ob := [.yld n, .box [.yl 0], .box [.clo 101 [] [.lo 1 0, .lo 2 0]]]

set_option maxRecDepth 100000 in
theorem walk_ok (Y : YP) (t : Tm) : ∀ (d : Int) (n : Nat), 0 ≤ d → d + t.size < 4611686018427387904 → (∀ (i : Nat) (e : Int × Tm), (t.els d)[i]? = some e → Y.ys[n + i]? = some (Tm.enc e)) → (n = 0 ∨ Y.go n = true) →
    SCtr Try.prog Y 101 [t.av, iV d, .lo 1 0, .lo 2 0] (wobjs n) (bV (adv Y t.size n).2) (wobjs (adv Y t.size n).1) := by
  induction t using Tm.ind with
  | _ t ih =>
  intro d n hd0 hd hy hgo
  refine SCtr.of_R (pf := fun _ => .eff) tyOk mixed Try.func101 rfl (by kernel_rfl) (by kernel_rfl) (by simp [Try.ntmps101]) (by simp [wobjs]) fun w S φ hg => ?_
  refine R_run hg.ok 1000 rfl rfl ?_
  refine R_yield hg rfl rfl rfl rfl rfl rfl rfl (avs := [iV d, t.av]) ?_ hgo ?_
  · exact hy 0 (d, t) (by rw [Tm.els_eq]; rfl)
  refine R_run hg.ok 1000 rfl rfl ?_
  have hsz := Tm.size_eq t
  have hlen := Tm.len_le_sizeL t.l
  refine R_if rfl rfl (fun h1 => ?_) (fun h1 => ?_)
  · refine R_run hg.ok 1000 rfl rfl ?_
    have h1 : (!Y.go (n + 1)) = true := h1
    have h2 : Y.go (n + 1) = false := by simpa using h1
    have h3 : adv Y t.size n = (n + 1, false) := by rw [hsz, Nat.add_comm]; simp [adv, h2]
    refine R_retS hg 3 5 (Nat.le_refl _) rfl ?_ ?_
    · rw [h3]; rfl
    · rw [h3]; rfl
  have h1 : (!Y.go (n + 1)) = false := h1
  have h2 : Y.go (n + 1) = true := by simpa using h1
  refine R_run hg.ok 1000 rfl rfl ?_
  refine R_loop (fun k : Nat => ([(1, iV d), (2, .lo 1 0), (3, .lo 2 0), (4, .lo 3 0), (15, .d (.sl (Tm.rows t.l))), (16, iV (t.l.length : Int)), (17, iV k)], wobjs (n + (1 + Tm.sizeL (t.l.take k))) ++ [.box [.d (.v (.int .i64 t.k)), .d (.v (.string t.s)), .d (.v (.int .i64 t.n)), .d (.sl (Tm.rows t.l))]]))
    (fun k => k ≤ t.l.length ∧ adv Y (1 + Tm.sizeL (t.l.take k)) n = (n + (1 + Tm.sizeL (t.l.take k)), true)) (fun k => t.l.length - k) 0 ?_ ?_ ?_ ?_
  · refine ⟨Nat.zero_le _, ?_⟩
    simp [Tm.sizeL, adv, h2]
  · exact ⟨.refl _, .refl _, .refl _, .refl _, .refl _, Ent.int (by rw [Tm.rows_length]), .refl _, trivial⟩
  · rfl
  intro k hk
  refine R_run hg.ok 1000 rfl rfl ?_
  refine R_if rfl rfl (fun h1 => ?_) (fun h1 => ?_)
  · have hk1 : k < t.l.length := by have := of_decide_eq_true h1; omega
    have e1 : t.l[k]? = some t.l[k] := List.getElem?_eq_getElem hk1
    have hszk := Tm.sizeL_take_succ e1
    have hmem := Tm.size_mem (List.getElem_mem hk1)
    refine R_run hg.ok 1000 rfl rfl ?_
    refine R_index hg.ok rfl rfl rfl rfl rfl rfl (Int.natCast_nonneg k) (Tm.rows_get e1) rfl ?_
    refine R_run hg.ok 1000 rfl rfl ?_
    refine R_see 24 rfl (Ent.wrap rfl (by omega) (by omega)) ?_
    refine R_callS hg.ok hg.gup hg.wide hg.Y [0, 1, 2] (ih _ (List.getElem_mem hk1) (d + 1) (n + (1 + Tm.sizeL (t.l.take k))) (by omega) (by omega) ?_ ?_) (fun _ => rfl) rfl rfl rfl rfl rfl rfl rfl ?_
    · intro i e he
      have hlt := (List.getElem?_eq_some_iff.1 he).1
      have := hy (1 + Tm.sizeL (t.l.take k) + i) e (by
        rw [Tm.els_eq, show 1 + Tm.sizeL (t.l.take k) + i = Tm.sizeL (t.l.take k) + i + 1 by omega, List.getElem?_cons_succ]
        have hsplit : t.l = t.l.take k ++ (t.l[k] :: t.l.drop (k + 1)) := by rw [← List.drop_eq_getElem_cons hk1, List.take_append_drop]
        rw [hsplit, Tm.elsL_append, List.getElem?_append_right (by rw [Tm.elsL_len]; rw [← hsplit]; omega), Tm.elsL_len, ← hsplit]
        simp only [Tm.elsL]
        rw [List.getElem?_append_left (by omega), show Tm.sizeL (List.take k t.l) + i - Tm.sizeL (List.take k t.l) = i by omega]
        exact he)
      rw [show n + (1 + Tm.sizeL (t.l.take k)) + i = n + (1 + Tm.sizeL (t.l.take k) + i) by omega]; exact this
    · right
      exact (adv_true (by rw [hk.2])).2 (by omega)
    refine R_run hg.ok 1000 rfl rfl ?_
    have hle : Tm.sizeL t.l = Tm.sizeL (t.l.take k) + (t.l[k].size + Tm.sizeL (t.l.drop (k + 1))) := by
      conv => lhs; rw [← List.take_append_drop k t.l, List.drop_eq_getElem_cons hk1]
      rw [Tm.sizeL_append, Tm.sizeL]
    refine R_if rfl rfl (fun h3 => ?_) (fun h3 => ?_)
    · have h3 : (!(adv Y t.l[k].size (n + (1 + Tm.sizeL (t.l.take k)))).2) = true := h3
      have h4 : (adv Y t.l[k].size (n + (1 + Tm.sizeL (t.l.take k)))).2 = false := by simpa using h3
      refine R_run hg.ok 1000 rfl rfl ?_
      have h5 : adv Y t.size n = adv Y t.l[k].size (n + (1 + Tm.sizeL (t.l.take k))) := by
        rw [hsz, hle, ← Nat.add_assoc, adv_add_true hk.2, adv_add, if_neg (by rw [h4]; simp)]
      refine R_retS hg 3 5 (Nat.le_refl _) rfl ?_ ?_
      · rw [h5, h4]; rfl
      · rw [h5]; rfl
    have h3 : (!(adv Y t.l[k].size (n + (1 + Tm.sizeL (t.l.take k)))).2) = false := h3
    have h4 : (adv Y t.l[k].size (n + (1 + Tm.sizeL (t.l.take k)))).2 = true := by simpa using h3
    have h6 := adv_eq h4
    refine R_run hg.ok 1000 rfl rfl ?_
    refine R_drop 4 (by rw [hg.hs0.len]; simp [wobjs]) rfl ?_
    have h7 : n + (1 + Tm.sizeL (t.l.take (k + 1))) = n + (1 + Tm.sizeL (t.l.take k)) + t.l[k].size := by rw [hszk]; omega
    refine R_next (k + 1) ⟨hk1, ?_⟩ (by omega) ⟨.refl _, .refl _, .refl _, .refl _, .refl _, .refl _, Ent.wrap (by omega) (by omega) (by omega), trivial⟩ ?_
    · rw [hszk, ← Nat.add_assoc 1, adv_add_true hk.2, h6]; simp only [Nat.add_assoc]
    · rw [h6]; show _ = wobjs (n + (1 + Tm.sizeL (t.l.take (k + 1)))) ++ _; rw [h7]; rfl
  · refine R_run hg.ok 1000 rfl rfl ?_
    have h3 : ¬ ((k : Int) < (t.l.length : Int)) := of_decide_eq_false h1
    have hkl : k = t.l.length := by omega
    have h4 : adv Y t.size n = (n + (1 + Tm.sizeL (t.l.take k)), true) := by
      have := hk.2
      rw [hkl, List.take_length] at this ⊢
      rw [hsz]; exact this
    refine R_retS hg 3 5 (Nat.le_refl _) rfl ?_ ?_
    · rw [h4]; rfl
    · rw [h4]; rfl

set_option maxRecDepth 100000 in
theorem all_ok (Y : YP) (t : Tm) (n : Nat) (hd : t.size < 1000000000) (hy : ∀ (i : Nat) (e : Int × Tm), (t.els 1)[i]? = some e → Y.ys[n + i]? = some (Tm.enc e)) (hgo : n = 0 ∨ Y.go n = true) :
    SCtr Try.prog Y 91 [t.av, .yl 0] [.yld n] (bV (adv Y t.size n).2) [.yld (adv Y t.size n).1] := by
  refine SCtr.of_R (pf := fun _ => .eff) tyOk mixed Try.func91 rfl (by kernel_rfl) (by kernel_rfl) (by simp [Try.ntmps91]) (by simp) fun w S φ hg => ?_
  refine R_run hg.ok 1000 rfl rfl ?_
  refine R_callS hg.ok hg.gup hg.wide hg.Y [0, 2, 3] (walk_ok Y t 1 n (by omega) (by omega) hy hgo) (fun _ => rfl) rfl rfl rfl rfl rfl rfl rfl ?_
  refine R_run hg.ok 1000 rfl rfl ?_
  refine R_retS hg 1 5 (Nat.le_refl _) rfl ?_ ?_
  · rfl
  · rfl

set_option maxRecDepth 100000 in
theorem each1_ok (Y : YP) (t : Tm) (hd : t.size < 1000000000) (hy : ∀ (i : Nat) (e : Int × Tm), (t.els 1)[i]? = some e → Y.ys[i]? = some (Tm.enc e)) :
    SCtr Try.prog Y 90 [.yl 0, .d (.ptr (Tm.row t))] [.yld 0] (.tup []) [.yld (adv Y t.size 0).1] := by
  refine SCtr.of_R (pf := fun _ => .eff) tyOk mixed Try.func90 rfl (by kernel_rfl) (by kernel_rfl) (by simp [Try.ntmps90]) (by simp) fun w S φ hg => ?_
  refine R_run hg.ok 1000 rfl rfl ?_
  refine R_callS hg.ok hg.gup hg.wide hg.Y [0] (all_ok Y t 0 hd (by simpa using hy) (.inl rfl)) (fun _ => rfl) rfl rfl rfl rfl rfl rfl rfl ?_
  refine R_run hg.ok 1000 rfl rfl ?_
  refine R_endS hg 1 5 (Nat.le_refl _) rfl ?_ ?_
  · rfl
  · rfl

set_option maxRecDepth 100000 in
theorem each_ok (t : Tm) : PCtr Try.prog 65 [t.av] (.clo 90 [] [.d (.ptr (Tm.row t))]) := by
  refine PCtr.of_R (pf := fun _ => .still) tyOk mixed Try.func65 rfl (by kernel_rfl) (by kernel_rfl) (by simp [Try.ntmps65]) fun w S hg => ?_
  refine R_run hg.ok 1000 rfl rfl ?_
  refine R_ret hg 5 rfl rfl ?_
  rfl
end Go.Proofs.Ytppghekipbnjhaa

namespace Go.Proofs.Ytppghekipbnjhaa
open Go PSL Go.Proofs
def boxT (t : Tm) : Ob := .box [.d (.v (.int .i64 t.k)), .d (.v (.string t.s)), .d (.v (.int .i64 t.n)), .d (.sl (Tm.rows t.l))]

theorem adv_allT {Y : YP} (h : ∀ n, Y.go n = true) : ∀ (k n : Nat), adv Y k n = (n + k, true)
  | 0, n => rfl
  | k + 1, n => by simp only [adv, h, if_true]; rw [adv_allT h k]; congr 1; omega
theorem els_ys {t : Tm} {i : Nat} {e : Int × Tm} (h : (t.els 1)[i]? = some e) : ((t.els 1).map Tm.enc)[i]? = some (Tm.enc e) := by rw [List.getElem?_map, h]; rfl
theorem els_lt {t : Tm} {i : Nat} {e : Int × Tm} (h : (t.els 1)[i]? = some e) : i < t.size := by rw [← Tm.els_len t 1]; exact (List.getElem?_eq_some_iff.1 h).1
end Go.Proofs.Ytppghekipbnjhaa

namespace Go.Proofs.Ytppghekipbnjhaa
open Go PSL Go.Proofs

set_option maxRecDepth 100000 in
theorem named_ok (s : ByteArray) (hs : s.size < 1000000000) : PCtr Try.prog 100 [.d (.v (.string s))] (bV (namedB s)) := by
  refine PCtr.of_R (pf := fun _ => .still) tyOk mixed Try.func100 rfl (by kernel_rfl) (by kernel_rfl) (by simp [Try.ntmps100]) fun w S hg => ?_
  refine R_run hg.ok 1000 rfl rfl ?_
  refine R_loop (fun k : Nat => ([(0, .d (.v (.string s))), (5, iV s.size), (6, iV k)], [])) (fun k => k ≤ s.size ∧ ∀ i (hi : i < s.size), i < k → byteOk s[i] = true) (fun k => s.size - k) 0 ?_ ?_ rfl ?_
  · exact ⟨Nat.zero_le _, fun i _ h => absurd h (Nat.not_lt_zero _)⟩
  · exact ⟨.refl _, .refl _, .refl _, trivial⟩
  intro k hk
  refine R_run hg.ok 1000 rfl rfl ?_
  refine R_if rfl rfl (fun h1 => ?_) (fun h1 => ?_)
  · have hk1 : k < s.size := by have := of_decide_eq_true h1; omega
    refine R_run hg.ok 1000 rfl rfl ?_
    refine R_indexS hg.ok rfl rfl rfl rfl rfl (Int.natCast_nonneg k) (byte_at hk1) ?_
    refine R_run hg.ok 1000 rfl rfl ?_
    refine R_if rfl rfl (fun h2 => ?_) (fun h2 => ?_)
    · refine R_run hg.ok 1000 rfl rfl ?_
      refine R_ret hg 5 rfl rfl ?_
      have : byteOk s[k] = false := by unfold byteOk; rw [h2]; rfl
      simp only [namedB, not_all_bytes hk1 this]; rfl
    refine R_run hg.ok 1000 rfl rfl ?_
    refine R_indexS hg.ok rfl rfl rfl rfl rfl (Int.natCast_nonneg k) (byte_at hk1) ?_
    refine R_run hg.ok 1000 rfl rfl ?_
    refine R_if rfl rfl (fun h3 => ?_) (fun h3 => ?_)
    · refine R_run hg.ok 1000 rfl rfl ?_
      refine R_ret hg 5 rfl rfl ?_
      have : byteOk s[k] = false := by unfold byteOk; rw [h3]; simp
      simp only [namedB, not_all_bytes hk1 this]; rfl
    refine R_run hg.ok 1000 rfl rfl ?_
    refine R_next (k + 1) ⟨hk1, fun i hi hik => ?_⟩ (by omega) ⟨.refl _, .refl _, Ent.wrap (by omega) (by omega) (by omega), trivial⟩ rfl
    rcases Nat.lt_or_ge i k with h | h
    · exact hk.2 i hi h
    · have : i = k := by omega
      subst this
      unfold byteOk; rw [h2, h3]; rfl
  · have h4 : ¬ ((k : Int) < (s.size : Int)) := of_decide_eq_false h1
    have hall : s.data.toList.all byteOk = true := all_bytes fun i hi => hk.2 i hi (by omega)
    refine R_run hg.ok 1000 rfl rfl ?_
    refine R_if rfl rfl (fun h2 => ?_) (fun h2 => ?_)
    · refine R_run hg.ok 1000 rfl rfl ?_
      refine R_ret hg 5 rfl rfl ?_
      simp only [namedB, hall, h2, Bool.true_and]; rfl
    · refine R_run hg.ok 1000 rfl rfl ?_
      refine R_ret hg 5 rfl rfl ?_
      simp only [namedB, hall, h2, Bool.true_and]; rfl
end Go.Proofs.Ytppghekipbnjhaa

namespace Go.Proofs.Ytppghekipbnjhaa
open Go PSL Go.Proofs

set_option maxRecDepth 100000 in
theorem own_ok (t : Tm) (hs : t.s.size < 1000000000) : PCtr Try.prog 89 [t.av] (bV t.ownT) := by
  refine PCtr.of_R (pf := fun _ => .still) tyOk mixed Try.func89 rfl (by kernel_rfl) (by kernel_rfl) (by simp [Try.ntmps89]) fun w S hg => ?_
  refine R_run hg.ok 1000 rfl rfl ?_
  iterate 12
    all_goals try first
      | (refine R_if rfl rfl (fun _ => ?_) (fun _ => ?_) <;> refine R_run hg.ok 1000 rfl rfl ?_)
      | (refine R_call hg.ok (named_ok t.s hs) rfl rfl rfl rfl rfl rfl ?_; refine R_run hg.ok 1000 rfl rfl ?_)
  all_goals refine R_ret hg 5 rfl rfl ?_
  all_goals (simp only [Tm.rows_length, beq_iff_eq, beq_eq_false_iff_ne, ne_eq, decide_eq_true_eq, decide_eq_false_iff_not] at *)
  all_goals (simp_all [Tm.ownT, bV])
  all_goals (intros; omega)

set_option maxRecDepth 100000 in
theorem right_ok (t : Tm) (hd : t.size < 1000000000) (hs : ∀ e ∈ t.els 1, e.2.s.size < 1000000000) : PCtr Try.prog 61 [t.av] (bV (rightT t)) := by
  refine PCtr.of_R (pf := fun _ => .still) tyOk mixed Try.func61 rfl (by kernel_rfl) (by kernel_rfl) (by simp [Try.ntmps61]) fun w S hg => ?_
  refine R_run hg.ok 1000 rfl rfl ?_
  refine R_call hg.ok (each_ok t) rfl rfl rfl rfl rfl rfl ?_
  refine R_run hg.ok 1000 rfl rfl ?_
  refine R_range hg.ok hg.gup ⟨rfl, rfl⟩ rfl (t.els 1) Tm.enc ⟨(t.els 1).map Tm.enc, goR t⟩ rfl (fun n => [boxT t, .box [.d (.v (.bool false))], .box [iV n]]) (fun _ e => [(2, .lo 1 0), (3, .lo 2 0), (4, iV e.1), (5, .lo 3 0)]) (fun n e => [boxT t, .box [.d (.v (.bool false))], .box [iV n], boxT e.2]) _ .ret rfl rfl rfl (each1_ok _ t hd fun _ _ h => els_ys h) rfl (fun _ _ => rfl) rfl ?_ ?_ ?_ rfl rfl ?_
  · intro n x hx _ l w R0 X φ0 _
    refine R_run (gRound_ok hg.ok _ _ _ _ _) 1000 rfl rfl ?_
    exact R_finA ⟨.refl _, .refl _, .refl _, .refl _, trivial⟩ rfl
  · intro n x hx _ l w R0 X φ0 hφ0
    have hn := els_lt hx
    have hg' := gRound_ok hg.ok l w R0 X φ0
    have hgo : goR t (n + 1) = stepR x (n + 1) := by simp only [goR, hx]
    have hw : IntKind.i64.wrap ((n : Int) + 1) = ((n + 1 : Nat) : Int) := wrap_id (by omega) (by omega)
    refine R_run hg' 1000 rfl rfl ?_
    refine R_if rfl rfl (fun h1 => ?_) (fun h1 => ?_)
    · refine R_run hg' 1000 rfl rfl ?_
      refine R_drop 3 (by rw [show (gRound _ l w R0 X φ0).φ0 = φ0 from rfl, hφ0]; exact Nat.le_refl _) rfl ?_
      refine R_obs [boxT t, .box [.d (.v (.bool false))], .box [iV ((n + 1 : Nat) : Int)]] ⟨ObIn.refl _, ⟨Ent.ff, trivial⟩, ⟨Ent.int hw, trivial⟩, trivial⟩ rfl ?_
      exact R_retB (by rw [show (YP.go ⟨_, goR t⟩ (n + 1)) = goR t (n + 1) from rfl, hgo]; simp only [stepR, h1, Bool.true_or, Bool.not_true]) rfl rfl
    refine R_run hg' 1000 rfl rfl ?_
    refine R_if rfl rfl (fun h2 => ?_) (fun h2 => ?_)
    · refine R_run hg' 1000 rfl rfl ?_
      refine R_drop 3 (by rw [show (gRound _ l w R0 X φ0).φ0 = φ0 from rfl, hφ0]; exact Nat.le_refl _) rfl ?_
      refine R_obs [boxT t, .box [.d (.v (.bool false))], .box [iV ((n + 1 : Nat) : Int)]] ⟨ObIn.refl _, ⟨Ent.ff, trivial⟩, ⟨Ent.int hw, trivial⟩, trivial⟩ rfl ?_
      rw [hw] at h2
      exact R_retB (by rw [show (YP.go ⟨_, goR t⟩ (n + 1)) = goR t (n + 1) from rfl, hgo]; simp only [stepR, h2, Bool.or_true, Bool.true_or, Bool.not_true]) rfl rfl
    refine R_run hg' 1000 rfl rfl ?_
    refine R_call hg' (own_ok x.2 (hs x (List.mem_of_getElem? hx))) rfl rfl rfl rfl rfl rfl ?_
    refine R_run hg' 1000 rfl rfl ?_
    rw [hw] at h2
    refine R_if rfl rfl (fun h3 => ?_) (fun h3 => ?_)
    · refine R_run hg' 1000 rfl rfl ?_
      refine R_drop 3 (by rw [show (gRound _ l w R0 X φ0).φ0 = φ0 from rfl, hφ0]; exact Nat.le_refl _) rfl ?_
      refine R_obs [boxT t, .box [.d (.v (.bool false))], .box [iV ((n + 1 : Nat) : Int)]] ⟨ObIn.refl _, ⟨Ent.ff, trivial⟩, ⟨Ent.int hw, trivial⟩, trivial⟩ rfl ?_
      exact R_retB (by rw [show (YP.go ⟨_, goR t⟩ (n + 1)) = goR t (n + 1) from rfl, hgo]; simp only [stepR, h3, Bool.or_true, Bool.not_true]) rfl rfl
    · refine R_run hg' 1000 rfl rfl ?_
      refine R_drop 3 (by rw [show (gRound _ l w R0 X φ0).φ0 = φ0 from rfl, hφ0]; exact Nat.le_refl _) rfl ?_
      refine R_obs [boxT t, .box [.d (.v (.bool false))], .box [iV ((n + 1 : Nat) : Int)]] ⟨ObIn.refl _, ⟨.refl _, trivial⟩, ⟨Ent.int hw, trivial⟩, trivial⟩ rfl ?_
      exact R_finB (by rw [show (YP.go ⟨_, goR t⟩ (n + 1)) = goR t (n + 1) from rfl, hgo]; simp only [stepR, h1, h2, h3, Bool.or_false, Bool.not_false]) rfl
  · intro hgo
    refine R_run hg.ok 1000 rfl rfl ?_
    refine R_ret hg 5 rfl rfl ?_
    cases h : rightT t
    · obtain ⟨h1, h2⟩ := adv_false h
      exact absurd hgo (by rintro (h3 | h3); exact h2 h3; rw [h1] at h3; cases h3)
    · rfl
  · intro h0 hgo
    refine R_ret hg 5 rfl rfl ?_
    cases h : rightT t
    · rfl
    · have h1 := adv_true h
      rw [h1.1] at h0 hgo
      rw [h1.2 (by omega)] at hgo; cases hgo
end Go.Proofs.Ytppghekipbnjhaa

namespace Go.Proofs.Ytppghekipbnjhaa
open Go PSL Go.Proofs
end Go.Proofs.Ytppghekipbnjhaa

namespace Go.Proofs.Ytppghekipbnjhaa
open Go PSL Go.Proofs
def boxR (t : Tm) : Ob := .box [.d (.v (.int .i64 t.k)), .d (.v (.string t.s)), .d (.v (.int .i64 t.n)), .d (.sl (Tm.rows t.l))]
end Go.Proofs.Ytppghekipbnjhaa

namespace Go.Proofs.Ytppghekipbnjhaa
open Go PSL Go.Proofs

set_option maxRecDepth 100000 in
theorem refSize_ok (t : Tm) : t.size < 1000000000 → PCtr Try.prog 55 [t.av] (iV t.size) := by
  induction t using Tm.ind with
  | _ t ih =>
  intro hsz
  refine PCtr.of_R (pf := fun _ => .still) tyOk mixed Try.func55 rfl (by kernel_rfl) (by kernel_rfl) (by simp [Try.ntmps55]) fun w S hg => ?_
  refine R_run hg.ok 1000 rfl rfl ?_
  refine R_loop (fun x : Nat × Nat => ([(1, .lo 0 0), (3, iV x.2), (4, iV x.1)], [boxR t])) (fun x => x.1 ≤ t.l.length ∧ t.size = x.2 + Tm.sizeL (t.l.drop x.1)) (fun x => t.l.length - x.1) (0, 1) ⟨Nat.zero_le _, Tm.size_eq t⟩ ⟨.refl _, .refl _, .refl _, trivial⟩ rfl ?_
  rintro ⟨k, m⟩ ⟨hk, hm⟩
  simp only at hk hm
  have hl := Tm.len_le_sizeL t.l
  have hs := Tm.size_eq t
  refine R_run hg.ok 1000 rfl rfl ?_
  refine R_if rfl rfl (fun h => ?_) (fun h => ?_) <;> refine R_run hg.ok 1000 rfl rfl ?_
  · have hk1 : k < t.l.length := lt_dec h (by rw [Tm.rows_length])
    have e1 : t.l[k]? = some t.l[k] := List.getElem?_eq_getElem hk1
    rw [List.drop_eq_getElem_cons hk1, Tm.sizeL] at hm
    refine R_index hg.ok rfl rfl rfl rfl rfl rfl (Int.natCast_nonneg k) (Tm.rows_get e1) rfl ?_
    refine R_run hg.ok 1000 rfl rfl ?_
    refine R_call hg.ok (ih _ (List.getElem_mem hk1) (by omega)) rfl rfl rfl rfl rfl rfl ?_
    refine R_run hg.ok 1000 rfl rfl ?_
    exact R_next (k + 1, m + t.l[k].size) ⟨hk1, by simp only; omega⟩ (by simp only; omega) ⟨.refl _, Ent.wrap (by omega) (by omega) (by omega), Ent.wrap (by omega) (by omega) (by omega), trivial⟩ rfl
  · have hk1 : t.l.length ≤ k := ge_dec h (by rw [Tm.rows_length])
    refine R_ret hg 5 rfl rfl ?_
    rw [List.drop_eq_nil_of_le hk1, Tm.sizeL] at hm
    simp only [hm, Nat.add_zero]; rfl

set_option maxRecDepth 100000 in
theorem refDeep_ok (t : Tm) : t.size < 1000000000 → PCtr Try.prog 56 [t.av] (iV t.depth) := by
  induction t using Tm.ind with
  | _ t ih =>
  intro hsz
  refine PCtr.of_R (pf := fun _ => .still) tyOk mixed Try.func56 rfl (by kernel_rfl) (by kernel_rfl) (by simp [Try.ntmps56]) fun w S hg => ?_
  refine R_run hg.ok 1000 rfl rfl ?_
  refine R_loop (fun x : Nat × Nat => ([(1, .lo 0 0), (3, iV x.2), (4, iV x.1)], [boxR t])) (fun x => x.1 ≤ t.l.length ∧ Tm.depthL t.l = max x.2 (Tm.depthL (t.l.drop x.1))) (fun x => t.l.length - x.1) (0, 0) ⟨Nat.zero_le _, by simp⟩ ⟨.refl _, .refl _, .refl _, trivial⟩ rfl ?_
  rintro ⟨k, m⟩ ⟨hk, hm⟩
  simp only at hk hm
  have hl := Tm.len_le_sizeL t.l
  have hs := Tm.size_eq t
  have hd := Tm.depth_eq t
  have hds := Tm.depth_le_size t
  refine R_run hg.ok 1000 rfl rfl ?_
  refine R_if rfl rfl (fun h => ?_) (fun h => ?_) <;> refine R_run hg.ok 1000 rfl rfl ?_
  · have hk1 : k < t.l.length := lt_dec h (by rw [Tm.rows_length])
    have e1 : t.l[k]? = some t.l[k] := List.getElem?_eq_getElem hk1
    have hsm := Tm.size_mem (List.getElem_mem hk1)
    rw [List.drop_eq_getElem_cons hk1, Tm.depthL] at hm
    refine R_index hg.ok rfl rfl rfl rfl rfl rfl (Int.natCast_nonneg k) (Tm.rows_get e1) rfl ?_
    refine R_run hg.ok 1000 rfl rfl ?_
    refine R_call hg.ok (ih _ (List.getElem_mem hk1) (by omega)) rfl rfl rfl rfl rfl rfl ?_
    refine R_run hg.ok 1000 rfl rfl ?_
    refine R_if rfl rfl (fun h => ?_) (fun h => ?_) <;> refine R_run hg.ok 1000 rfl rfl ?_
    · have h := of_decide_eq_true h
      exact R_next (k + 1, t.l[k].depth) ⟨hk1, by simp only; omega⟩ (by simp only; omega) ⟨.refl _, .refl _, Ent.wrap (by omega) (by omega) (by omega), trivial⟩ rfl
    · have h := of_decide_eq_false h
      exact R_next (k + 1, m) ⟨hk1, by simp only; omega⟩ (by simp only; omega) ⟨.refl _, .refl _, Ent.wrap (by omega) (by omega) (by omega), trivial⟩ rfl
  · have hk1 : t.l.length ≤ k := ge_dec h (by rw [Tm.rows_length])
    refine R_ret hg 5 rfl rfl ?_
    rw [List.drop_eq_nil_of_le hk1, Tm.depthL] at hm
    rw [w64 (by omega) (by omega), hd, hm]; simp [iV]

set_option maxRecDepth 100000 in
theorem refSame_ok (a : Tm) : ∀ b, a.size < 1000000000 → PCtr Try.prog 19 [a.av, b.av] (bV (a.same b)) := by
  induction a using Tm.ind with
  | _ a ih =>
  intro b hsz
  refine PCtr.of_R (pf := fun _ => .still) tyOk mixed Try.func19 rfl (by kernel_rfl) (by kernel_rfl) (by simp [Try.ntmps19]) fun w S hg => ?_
  refine R_run hg.ok 1000 rfl rfl ?_
  iterate 4
    refine R_if rfl rfl (fun _ => ?_) (fun _ => ?_) <;> refine R_run hg.ok 1000 rfl rfl ?_
    · refine R_ret hg 5 rfl rfl ?_
      simp_all [Tm.same_eq, bV, Tm.rows_length]
      try exact Tm.sameL_len (by omega)
  refine R_loop (fun k : Nat => ([(2, .lo 0 0), (3, .lo 1 0), (5, iV k)], [boxR a, boxR b])) (fun k => k ≤ a.l.length ∧ a.l.length = b.l.length ∧ a.same b = Tm.sameL (a.l.drop k) (b.l.drop k)) (fun k => a.l.length - k) 0 ?_ ⟨.refl _, .refl _, .refl _, trivial⟩ rfl ?_
  · simp_all [Tm.same_eq, Tm.rows_length]
    omega
  rintro k ⟨hk0, hl, hk⟩
  have hszl := Tm.len_le_sizeL a.l
  have hsz2 := Tm.size_eq a
  refine R_run hg.ok 1000 rfl rfl ?_
  refine R_if rfl rfl (fun h => ?_) (fun h => ?_) <;> refine R_run hg.ok 1000 rfl rfl ?_
  · have hk1 := lt_dec (n := a.l.length) h (by rw [Tm.rows_length])
    have hk2 : k < b.l.length := by omega
    have e1 : a.l[k]? = some a.l[k] := List.getElem?_eq_getElem hk1
    have e2 : b.l[k]? = some b.l[k] := List.getElem?_eq_getElem hk2
    rw [List.drop_eq_getElem_cons hk1, List.drop_eq_getElem_cons hk2, Tm.sameL] at hk
    have hm := Tm.size_mem (List.getElem_mem hk1)
    refine R_index hg.ok rfl rfl rfl rfl rfl rfl (Int.natCast_nonneg k) (Tm.rows_get e1) rfl ?_
    refine R_run hg.ok 1000 rfl rfl ?_
    refine R_index hg.ok rfl rfl rfl rfl rfl rfl (Int.natCast_nonneg k) (Tm.rows_get e2) rfl ?_
    refine R_run hg.ok 1000 rfl rfl ?_
    refine R_call hg.ok (ih _ (List.getElem_mem hk1) b.l[k] (by omega)) rfl rfl rfl rfl rfl rfl ?_
    refine R_run hg.ok 1000 rfl rfl ?_
    refine R_if rfl rfl (fun h => ?_) (fun h => ?_) <;> refine R_run hg.ok 1000 rfl rfl ?_
    · refine R_ret hg 5 rfl rfl ?_
      rw [hk]; simp_all [bV]
    · refine R_next (k + 1) ⟨hk1, hl, ?_⟩ (by omega) ⟨.refl _, .refl _, Ent.wrap (by omega) (by omega) (by omega), trivial⟩ rfl
      rw [hk]; simp_all
  · refine R_ret hg 5 rfl rfl ?_
    have hk1 := ge_dec (n := a.l.length) h (by rw [Tm.rows_length])
    rw [hk, List.drop_eq_nil_of_le (by omega), List.drop_eq_nil_of_le (by omega)]; rfl

set_option maxRecDepth 100000 in
theorem fair_ok (t : Tm) : t.size < 1000000000 → (∀ x e, e ∈ t.els x → e.2.s.size < 1000000000) → PCtr Try.prog 54 [t.av] (bV t.fairR) := by
  induction t using Tm.ind with
  | _ t ih =>
  intro hsz hns
  have hn0 : t.s.size < 1000000000 := hns 0 (0, t) (by rw [Tm.els_eq]; simp)
  have hl := Tm.len_le_sizeL t.l
  have hs := Tm.size_eq t
  refine PCtr.of_R (pf := fun _ => .still) tyOk mixed Try.func54 rfl (by kernel_rfl) (by kernel_rfl) (by simp [Try.ntmps54]) fun w S hg => ?_
  refine R_run hg.ok 1000 rfl rfl ?_
  refine R_loop (fun k : Nat => ([(1, .lo 0 0), (3, iV k)], [boxR t])) (fun k => k ≤ t.s.size ∧ ∀ i (hi : i < t.s.size), i < k → byteOk t.s[i] = true) (fun k => t.s.size - k) 0 ⟨Nat.zero_le _, fun i _ h => absurd h (Nat.not_lt_zero _)⟩ ⟨.refl _, .refl _, trivial⟩ rfl ?_
  intro k hk
  refine R_run hg.ok 1000 rfl rfl ?_
  refine R_if rfl rfl (fun h => ?_) (fun h => ?_) <;> refine R_run hg.ok 1000 rfl rfl ?_
  · have hk1 := lt_dec (n := t.s.size) h rfl
    refine R_indexS hg.ok rfl rfl rfl rfl rfl (Int.natCast_nonneg k) (byte_at hk1) ?_
    refine R_run hg.ok 1000 rfl rfl ?_
    have bad : byteOk t.s[k] = false → t.fairR = false := fun h => by rw [Tm.fairR_eq, not_all_bytes hk1 h]; rfl
    refine R_if rfl rfl (fun h2 => ?_) (fun h2 => ?_) <;> refine R_run hg.ok 1000 rfl rfl ?_
    · refine R_ret hg 5 rfl rfl ?_
      rw [bad (by unfold byteOk; rw [h2]; rfl)]; rfl
    refine R_indexS hg.ok rfl rfl rfl rfl rfl (Int.natCast_nonneg k) (byte_at hk1) ?_
    refine R_run hg.ok 1000 rfl rfl ?_
    refine R_if rfl rfl (fun h3 => ?_) (fun h3 => ?_) <;> refine R_run hg.ok 1000 rfl rfl ?_
    · refine R_ret hg 5 rfl rfl ?_
      rw [bad (by unfold byteOk; rw [h3]; simp)]; rfl
    refine R_next (k + 1) ⟨hk1, fun i hi hik => ?_⟩ (by omega) ⟨.refl _, Ent.wrap (by omega) (by omega) (by omega), trivial⟩ rfl
    rcases Nat.lt_or_ge i k with h | h
    · exact hk.2 i hi h
    · have : i = k := by omega
      subst this
      unfold byteOk; rw [h2, h3]; rfl
  have hk1 := ge_dec (n := t.s.size) h rfl
  have hall : t.s.data.toList.all byteOk = true := all_bytes fun i hi => hk.2 i hi (by omega)
  refine R_loop (fun k : Nat => ([(1, .lo 0 0), (4, iV k)], [boxR t])) (fun k => k ≤ t.l.length ∧ Tm.fairRL t.l = Tm.fairRL (t.l.drop k)) (fun k => t.l.length - k) 0 ⟨Nat.zero_le _, rfl⟩ ⟨.refl _, .refl _, trivial⟩ rfl ?_
  rintro k ⟨hk, hm⟩
  refine R_run hg.ok 1000 rfl rfl ?_
  refine R_if rfl rfl (fun h => ?_) (fun h => ?_) <;> refine R_run hg.ok 1000 rfl rfl ?_
  · have hk1 : k < t.l.length := lt_dec h (by rw [Tm.rows_length])
    have e1 : t.l[k]? = some t.l[k] := List.getElem?_eq_getElem hk1
    have hsm := Tm.size_mem (List.getElem_mem hk1)
    rw [List.drop_eq_getElem_cons hk1, Tm.fairRL] at hm
    refine R_index hg.ok rfl rfl rfl rfl rfl rfl (Int.natCast_nonneg k) (Tm.rows_get e1) rfl ?_
    refine R_run hg.ok 1000 rfl rfl ?_
    refine R_call hg.ok (ih _ (List.getElem_mem hk1) (by omega) (fun x e he => hns (x - 1) e (by rw [Tm.els_eq]; exact List.mem_cons_of_mem _ (Tm.els_memL (List.getElem_mem hk1) (by rw [Int.sub_add_cancel]; exact he))))) rfl rfl rfl rfl rfl rfl ?_
    refine R_run hg.ok 1000 rfl rfl ?_
    refine R_if rfl rfl (fun h => ?_) (fun h => ?_) <;> refine R_run hg.ok 1000 rfl rfl ?_
    · refine R_ret hg 5 rfl rfl ?_
      rw [Tm.fairR_eq, hm]; simp_all [bV]
    · refine R_next (k + 1) ⟨hk1, ?_⟩ (by omega) ⟨.refl _, Ent.wrap (by omega) (by omega) (by omega), trivial⟩ rfl
      rw [hm]; simp_all
  have hk1 : t.l.length ≤ k := ge_dec h (by rw [Tm.rows_length])
  rw [List.drop_eq_nil_of_le hk1, Tm.fairRL] at hm
  iterate 12
    all_goals try (refine R_if rfl rfl (fun _ => ?_) (fun _ => ?_) <;> refine R_run hg.ok 1000 rfl rfl ?_)
  all_goals refine R_ret hg 5 rfl rfl ?_
  all_goals (rw [Tm.fairR_eq, hall, hm]; unfold Tm.kindR)
  all_goals (simp only [Tm.rows_length, beq_iff_eq, beq_eq_false_iff_ne, ne_eq, decide_eq_true_eq, decide_eq_false_iff_not] at *)
  all_goals (simp_all [bV])
  all_goals (intros; omega)

set_option maxRecDepth 100000 in
theorem refRight_ok (t : Tm) (hsz : t.size < 1000000000) (hns : ∀ x e, e ∈ t.els x → e.2.s.size < 1000000000) : PCtr Try.prog 18 [t.av] (bV t.rightB) := by
  refine PCtr.of_R (pf := fun _ => .still) tyOk mixed Try.func18 rfl (by kernel_rfl) (by kernel_rfl) (by simp [Try.ntmps18]) fun w S hg => ?_
  refine R_run hg.ok 1000 rfl rfl ?_
  refine R_call hg.ok (fair_ok t hsz hns) rfl rfl rfl rfl rfl rfl ?_
  refine R_run hg.ok 1000 rfl rfl ?_
  refine R_if rfl rfl (fun _ => ?_) (fun _ => ?_) <;> refine R_run hg.ok 1000 rfl rfl ?_
  · refine R_call hg.ok (refSize_ok t hsz) rfl rfl rfl rfl rfl rfl ?_
    refine R_run hg.ok 1000 rfl rfl ?_
    refine R_if rfl rfl (fun _ => ?_) (fun _ => ?_) <;> refine R_run hg.ok 1000 rfl rfl ?_
    · refine R_call hg.ok (refDeep_ok t hsz) rfl rfl rfl rfl rfl rfl ?_
      refine R_run hg.ok 1000 rfl rfl ?_
      refine R_ret hg 5 rfl rfl ?_
      simp only [decide_eq_true_eq] at *
      unfold Tm.rightB
      show bV _ = bV _
      congr 1
      rw [Bool.eq_iff_iff]
      simp_all
      omega
    · refine R_ret hg 5 rfl rfl ?_
      simp only [decide_eq_false_iff_not] at *
      unfold Tm.rightB
      simp_all [bV]
      intros; omega
  · refine R_ret hg 5 rfl rfl ?_
    unfold Tm.rightB
    simp_all [bV]

set_option maxRecDepth 100000 in
theorem few_ok (t : Tm) : t.Ok → ∀ m d : Int, PCtr Try.prog 31 [t.av, iV m, iV d] (iV (t.few m d)) := by
  induction t using Tm.ind with
  | _ t ih =>
  intro hok m d
  refine PCtr.of_R (pf := fun _ => .still) tyOk mixed Try.func31 rfl (by kernel_rfl) (by kernel_rfl) (by simp [Try.ntmps31]) fun w S hg => ?_
  refine R_run hg.ok 1000 rfl rfl ?_
  iterate 3
    refine R_if rfl rfl (fun _ => ?_) (fun _ => ?_) <;> refine R_run hg.ok 1000 rfl rfl ?_
    · refine R_ret hg 5 rfl rfl ?_
      rw [Tm.few_eq, if_pos (by simp_all [Tm.fewStep])]; rfl
  have hfs : Tm.fewStep t.s m d = false := by simp_all [Tm.fewStep]
  have hlen := hok.len
  refine R_loop (fun x : Nat × Int => ([(1, iV x.2), (2, iV d), (3, .lo 0 0), (7, iV x.1)], [boxR t])) (fun x => x.1 ≤ t.l.length ∧ t.few m d = Tm.fewL (t.l.drop x.1) x.2 (IntKind.i64.wrap (d - 1))) (fun x => t.l.length - x.1) (0, IntKind.i64.wrap (m - 1)) ⟨Nat.zero_le _, by rw [Tm.few_eq, hfs]; rfl⟩ ⟨.refl _, .refl _, .refl _, .refl _, trivial⟩ rfl ?_
  rintro ⟨k, q⟩ ⟨hk, hm⟩
  simp only at hk hm
  refine R_run hg.ok 1000 rfl rfl ?_
  refine R_if rfl rfl (fun h => ?_) (fun h => ?_) <;> refine R_run hg.ok 1000 rfl rfl ?_
  · have hk1 : k < t.l.length := lt_dec h (by rw [Tm.rows_length])
    have e1 : t.l[k]? = some t.l[k] := List.getElem?_eq_getElem hk1
    rw [List.drop_eq_getElem_cons hk1, Tm.fewL] at hm
    refine R_if rfl rfl (fun h2 => ?_) (fun h2 => ?_) <;> refine R_run hg.ok 1000 rfl rfl ?_
    · rw [if_pos (of_decide_eq_true h2)] at hm
      refine R_index hg.ok rfl rfl rfl rfl rfl rfl (Int.natCast_nonneg k) (Tm.rows_get e1) rfl ?_
      refine R_run hg.ok 1000 rfl rfl ?_
      refine R_call hg.ok (ih _ (List.getElem_mem hk1) (hok.sub (List.getElem_mem hk1)) _ _) rfl rfl rfl rfl rfl rfl ?_
      refine R_run hg.ok 1000 rfl rfl ?_
      exact R_next (k + 1, t.l[k].few q (IntKind.i64.wrap (d - 1))) ⟨hk1, hm⟩ (by simp only; omega) ⟨.refl _, .refl _, .refl _, Ent.wrap (by simp only; omega) (by simp only; omega) (by simp only; omega), trivial⟩ rfl
    · rw [if_neg (of_decide_eq_false h2)] at hm
      refine R_ret hg 5 rfl rfl ?_
      rw [hm]; rfl
  · have hk1 : t.l.length ≤ k := ge_dec h (by rw [Tm.rows_length])
    refine R_ret hg 5 rfl rfl ?_
    rw [List.drop_eq_nil_of_le hk1, Tm.fewL] at hm
    rw [hm]; rfl

set_option maxRecDepth 100000 in
theorem sameAll_ok (a b : List Tm) (ha : Tm.sizeL a < 1000000000) : PCtr Try.prog 40 [.d (.sl (Tm.rows a)), .d (.sl (Tm.rows b))] (bV (Tm.sameL a b)) := by
  refine PCtr.of_R (pf := fun _ => .still) tyOk mixed Try.func40 rfl (by kernel_rfl) (by kernel_rfl) (by simp [Try.ntmps40]) fun w S hg => ?_
  refine R_run hg.ok 1000 rfl rfl ?_
  refine R_if rfl rfl (fun h => ?_) (fun h => ?_) <;> refine R_run hg.ok 1000 rfl rfl ?_
  · refine R_ret hg 5 rfl rfl ?_
    rw [Tm.sameL_len (by simp only [Tm.rows_length, bne_iff_ne, ne_eq] at h; omega)]; rfl
  have hl : a.length = b.length := by simp only [Tm.rows_length, bne_eq_false_iff_eq] at h; omega
  refine R_loop (fun k : Nat => ([(0, .d (.sl (Tm.rows a))), (1, .d (.sl (Tm.rows b))), (5, iV k)], [])) (fun k => k ≤ a.length ∧ Tm.sameL a b = Tm.sameL (a.drop k) (b.drop k)) (fun k => a.length - k) 0 ⟨Nat.zero_le _, rfl⟩ ⟨.refl _, .refl _, .refl _, trivial⟩ rfl ?_
  rintro k ⟨hk, hm⟩
  have hal := Tm.len_le_sizeL a
  refine R_run hg.ok 1000 rfl rfl ?_
  refine R_if rfl rfl (fun h => ?_) (fun h => ?_) <;> refine R_run hg.ok 1000 rfl rfl ?_
  · have hk1 : k < a.length := lt_dec h (by rw [Tm.rows_length])
    have hk2 : k < b.length := by omega
    have e1 : a[k]? = some a[k] := List.getElem?_eq_getElem hk1
    have e2 : b[k]? = some b[k] := List.getElem?_eq_getElem hk2
    have hsm := Tm.size_mem (List.getElem_mem hk1)
    rw [List.drop_eq_getElem_cons hk1, List.drop_eq_getElem_cons hk2, Tm.sameL] at hm
    refine R_index hg.ok rfl rfl rfl rfl rfl rfl (Int.natCast_nonneg k) (Tm.rows_get e1) rfl ?_
    refine R_run hg.ok 1000 rfl rfl ?_
    refine R_index hg.ok rfl rfl rfl rfl rfl rfl (Int.natCast_nonneg k) (Tm.rows_get e2) rfl ?_
    refine R_run hg.ok 1000 rfl rfl ?_
    refine R_call hg.ok (refSame_ok a[k] b[k] (by omega)) rfl rfl rfl rfl rfl rfl ?_
    refine R_run hg.ok 1000 rfl rfl ?_
    refine R_if rfl rfl (fun h => ?_) (fun h => ?_) <;> refine R_run hg.ok 1000 rfl rfl ?_
    · refine R_ret hg 5 rfl rfl ?_
      rw [hm]; simp_all [bV]
    · refine R_next (k + 1) ⟨hk1, ?_⟩ (by omega) ⟨.refl _, .refl _, Ent.wrap (by omega) (by omega) (by omega), trivial⟩ rfl
      rw [hm]; simp_all
  · have hk1 : a.length ≤ k := ge_dec h (by rw [Tm.rows_length])
    refine R_ret hg 5 rfl rfl ?_
    rw [hm, List.drop_eq_nil_of_le hk1, List.drop_eq_nil_of_le (by omega)]; rfl

set_option maxRecDepth 100000 in
theorem at_ok (l : List Int) (n : Int) (ha : l.length < 1000000000) : PCtr Try.prog 37 [.d (.sl (irows l)), iV n] (iV (atI l n 0)) := by
  refine PCtr.of_R (pf := fun _ => .still) tyOk mixed Try.func37 rfl (by kernel_rfl) (by kernel_rfl) (by simp [Try.ntmps37]) fun w S hg => ?_
  refine R_run hg.ok 1000 rfl rfl ?_
  refine R_loop (fun k : Nat => ([(0, .d (.sl (irows l))), (1, iV n), (5, iV k)], [])) (fun k => k ≤ l.length ∧ atI l n 0 = atI (l.drop k) n k) (fun k => l.length - k) 0 ⟨Nat.zero_le _, rfl⟩ ⟨.refl _, .refl _, .refl _, trivial⟩ rfl ?_
  rintro k ⟨hk, hm⟩
  refine R_run hg.ok 1000 rfl rfl ?_
  refine R_if rfl rfl (fun h => ?_) (fun h => ?_) <;> refine R_run hg.ok 1000 rfl rfl ?_
  · have hk1 : k < l.length := lt_dec h (by rw [irows_length])
    have e1 : l[k]? = some l[k] := List.getElem?_eq_getElem hk1
    rw [List.drop_eq_getElem_cons hk1, atI] at hm
    refine R_index hg.ok rfl rfl rfl rfl rfl rfl (Int.natCast_nonneg k) (irows_get e1) rfl ?_
    refine R_run hg.ok 1000 rfl rfl ?_
    refine R_if rfl rfl (fun h => ?_) (fun h => ?_) <;> refine R_run hg.ok 1000 rfl rfl ?_
    · refine R_ret hg 5 rfl rfl ?_
      rw [hm, if_pos (by simpa using h)]; rfl
    · refine R_next (k + 1) ⟨hk1, ?_⟩ (by omega) ⟨.refl _, .refl _, Ent.wrap (by omega) (by omega) (by omega), trivial⟩ rfl
      rw [hm, if_neg (by simpa using h)]; rfl
  · have hk1 : l.length ≤ k := ge_dec h (by rw [irows_length])
    refine R_ret hg 5 rfl rfl ?_
    rw [hm, List.drop_eq_nil_of_le hk1]; rfl
end Go.Proofs.Ytppghekipbnjhaa

namespace Go.Proofs.Ytppghekipbnjhaa
open Go PSL Go.Proofs
def vobjs (acc : List Int) : List Ob := [.map (imap (setI acc)), .box [.mp 0], .box [.ow 3 acc.length], .arr 1 acc.length (irows acc)]
def accN (acc : List Int) (t : Tm) (n : Nat) : List Int := ((t.els 1).take n).foldl stepV acc
theorem vdrop (f : AV → AV) (h : f .tt = .tt) (a : List Int) (r : List Ob) : mapOb f (.map (imap (setI a))) :: r = .map (imap (setI a)) :: r := by rw [mapOb_set h]
theorem setI_snoc (a : List Int) (n : Int) : setI a ++ [(n, .tt)] = setI (a ++ [n]) := by simp [setI]
theorem irows_snoc (a : List Int) (n : Int) : irows a ++ [[.v (.int .i64 n)]] = irows (a ++ [n]) := by simp [irows, irow]
theorem addV_len (l : List Int) (x : Int) : (addV l x).length ≤ l.length + 1 := by unfold addV; split <;> simp

theorem foldl_lenV : ∀ (l : List (Int × Tm)) (a : List Int), (l.foldl stepV a).length ≤ a.length + l.length
  | [], a => by simp
  | e :: l, a => by
    have := foldl_lenV l (stepV a e)
    have h2 : (stepV a e).length ≤ a.length + 1 := by unfold stepV; split; exact addV_len _ _; omega
    simp only [List.foldl_cons, List.length_cons]; omega
def varsF (a : List Int) (l : List Tm) : List Int := l.foldl (fun a t => (t.els 1).foldl stepV a) a

theorem varsF_len : ∀ (l : List Tm) (a : List Int), (varsF a l).length ≤ a.length + Tm.sizeL l
  | [], a => by simp [varsF]
  | t :: r, a => by
    have := varsF_len r ((t.els 1).foldl stepV a)
    have h := foldl_lenV (t.els 1) a
    rw [Tm.els_len] at h
    simp only [varsF, List.foldl_cons, Tm.sizeL] at this ⊢; omega

set_option maxRecDepth 100000 in
theorem vars_ok (l : List Tm) (hsz : Tm.sizeL l < 1000000000) : PCtr Try.prog 62 [.d (.sl (Tm.rows l))] (.d (.sl (irows (varsT l)))) := by
  refine PCtr.of_R (pf := fun _ => .eff) tyOk mixed Try.func62 rfl (by kernel_rfl) (by kernel_rfl) (by simp [Try.ntmps62]) fun w S hg => ?_
  refine R_run hg.ok 1000 rfl rfl ?_
  refine R_makeMap hg.ok rfl rfl ?_
  refine R_run hg.ok 1000 rfl rfl ?_
  refine R_ownB 2 0 1 rfl rfl rfl ?_
  refine R_loop (fun x : Nat × List Int => ([(3, .lo 1 0), (4, .lo 2 0), (10, .d (.sl (Tm.rows l))), (11, iV l.length), (12, iV x.1)], vobjs x.2)) (fun x => x.1 ≤ l.length ∧ varsT l = varsF x.2 (l.drop x.1) ∧ x.2.length + Tm.sizeL (l.drop x.1) ≤ Tm.sizeL l) (fun x => l.length - x.1) (0, []) ⟨Nat.zero_le _, rfl, by simp⟩ ⟨.refl _, .refl _, .refl _, Ent.int (by rw [Tm.rows_length]), .refl _, trivial⟩ rfl ?_
  rintro ⟨k, acc⟩ ⟨hk, hm, hal⟩
  simp only at hk hm hal
  have hl := Tm.len_le_sizeL l
  refine R_run hg.ok 1000 rfl rfl ?_
  refine R_if rfl rfl (fun h => ?_) (fun h => ?_) <;> refine R_run hg.ok 1000 rfl rfl ?_
  · have hk1 : k < l.length := lt_dec h rfl
    have e1 : l[k]? = some l[k] := List.getElem?_eq_getElem hk1
    rw [List.drop_eq_getElem_cons hk1] at hm hal
    simp only [Tm.sizeL] at hal
    refine R_index hg.ok rfl rfl rfl rfl rfl rfl (Int.natCast_nonneg k) (Tm.rows_get e1) rfl ?_
    refine R_run hg.ok 1000 rfl rfl ?_
    refine R_call hg.ok (each_ok l[k]) rfl rfl rfl rfl rfl rfl ?_
    refine R_run hg.ok 1000 rfl rfl ?_
    generalize l[k] = t at *
    refine R_range hg.ok hg.gup ⟨rfl, rfl⟩ rfl (t.els 1) Tm.enc ⟨(t.els 1).map Tm.enc, fun _ => true⟩ rfl (fun n => vobjs (accN acc t n) ++ [boxR t]) (fun _ _ => [(3, .lo 1 0), (4, .lo 2 0), (8, .lo 5 0)]) (fun n e => vobjs (accN acc t n) ++ [boxR t, boxR e.2]) _ .ret rfl rfl rfl (each1_ok _ t (by omega) fun _ _ h => els_ys h) rfl (fun _ _ => rfl) rfl ?_ ?_ ?_ rfl rfl (fun _ h => by cases h)
    · intro n x hx _ L w R0 X φ0 _
      refine R_run (gRound_ok hg.ok _ _ _ _ _) 1000 rfl rfl ?_
      exact R_finA ⟨.refl _, .refl _, .refl _, trivial⟩ rfl
    · intro n x hx _ L w R0 X φ0 hφ0
      have hg' := gRound_ok hg.ok L w R0 X φ0
      have hn := els_lt hx
      have hstep : accN acc t (n + 1) = stepV (accN acc t n) x := by unfold accN; rw [List.take_add_one, hx, List.foldl_append]; rfl
      have hlen : (accN acc t n).length ≤ acc.length + n := by
        have := foldl_lenV ((t.els 1).take n) acc
        unfold accN; rw [List.length_take] at this; omega
      rw [hstep]
      generalize accN acc t n = a at *
      refine R_run hg' 1000 rfl rfl ?_
      refine R_if rfl rfl (fun h1 => ?_) (fun h1 => ?_) <;> refine R_run hg' 1000 rfl rfl ?_
      · have hx1 : x.2.k = 1 := by simpa using h1
        by_cases hmem : a.contains x.2.n = true
        · refine R_lookupI hg' (setI a) rfl rfl rfl rfl rfl rfl rfl (zv := .bool false) (by kernel_rfl) (v := .tt) (by rw [getI_set, if_pos hmem]; rfl) ?_
          refine R_run hg' 1000 rfl rfl ?_
          refine R_dropO 5 _ (by rw [show (gRound _ L w R0 X φ0).φ0 = φ0 from rfl, hφ0]; exact Nat.le_refl _) rfl (vdrop (trimA 5) rfl _ _) ?_
          exact R_finB rfl (by unfold stepV addV; rw [if_pos hx1, if_pos hmem]; rfl)
        · have hmem' : a.contains x.2.n = false := by simpa using hmem
          refine R_lookupI hg' (setI a) rfl rfl rfl rfl rfl rfl rfl (zv := .bool false) (by kernel_rfl) (v := .ff) (by rw [getI_set, hmem']; rfl) ?_
          refine R_run hg' 1000 rfl rfl ?_
          refine R_mapAddI hg' (setI a) rfl rfl rfl rfl rfl rfl rfl (by rw [getI_set, hmem']; rfl) ?_
          rw [show ∀ E : Env, ev E (.const (.bool true)) = .tt from fun _ => rfl, setI_snoc]
          refine R_run hg' 1000 rfl rfl ?_
          refine R_append hg' rfl rfl rfl rfl rfl rfl rfl rfl rfl (by simp) (by simp [one1]) (by simp [irows_length]; omega) (by simp [irows_length]; omega) ?_
          rw [irows_snoc]
          refine R_run hg' 1000 rfl rfl ?_
          refine R_dropO 5 _ (by rw [show (gRound _ L w R0 X φ0).φ0 = φ0 from rfl, hφ0]; exact Nat.le_refl _) rfl (vdrop (trimA 5) rfl _ _) ?_
          refine R_finB rfl ?_
          unfold stepV addV; rw [if_pos hx1, hmem']
          simp only [Bool.false_eq_true, if_false, vobjs, List.length_append, List.length_cons, List.length_nil]; rfl
      · have hx1 : ¬ x.2.k = 1 := by simpa using h1
        refine R_dropO 5 _ (by rw [show (gRound _ L w R0 X φ0).φ0 = φ0 from rfl, hφ0]; exact Nat.le_refl _) rfl (vdrop (trimA 5) rfl _ _) ?_
        exact R_finB rfl (by unfold stepV; rw [if_neg hx1]; rfl)
    · intro _
      rw [adv_allT (fun _ => rfl)]
      refine R_run hg.ok 1000 rfl rfl ?_
      refine R_dropO 4 _ (Nat.zero_le _) rfl (vdrop (trimA 4) rfl _ _) ?_
      have hA : accN acc t (0 + t.size) = (t.els 1).foldl stepV acc := by unfold accN; rw [List.take_of_length_le (by rw [Tm.els_len]; omega)]
      have hfl := foldl_lenV (t.els 1) acc
      rw [Tm.els_len] at hfl
      rw [hA]
      refine R_next (k + 1, (t.els 1).foldl stepV acc) ⟨hk1, hm, by simp only; omega⟩ (by simp only; omega) ⟨.refl _, .refl _, .refl _, .refl _, Ent.wrap (by simp only; omega) (by simp only; omega) (by simp only; omega), trivial⟩ rfl
  · have hk1 : l.length ≤ k := ge_dec h rfl
    refine R_ret hg 5 rfl (sealA_ow rfl) ?_
    rw [hm, List.drop_eq_nil_of_le hk1]; rfl
end Go.Proofs.Ytppghekipbnjhaa

namespace Go.Proofs.Ytppghekipbnjhaa
open Go PSL Go.Proofs
end Go.Proofs.Ytppghekipbnjhaa

namespace Go.Proofs.Ytppghekipbnjhaa
open Go PSL Go.Proofs
end Go.Proofs.Ytppghekipbnjhaa

namespace Go.Proofs.Ytppghekipbnjhaa
open Go PSL Go.Proofs
theorem bind_snoc (B : Binds) (n : Int) (t : Tm) : bindRows B ++ [[.v (.int .i64 n), .v (.int .i64 t.k), .v (.string t.s), .v (.int .i64 t.n), .sl (Tm.rows t.l)]] = bindRows (B ++ [(n, t)]) := by simp [bindRows, bindRow, Tm.row]
end Go.Proofs.Ytppghekipbnjhaa

namespace Go.Proofs.Ytppghekipbnjhaa
open Go PSL Go.Proofs
def okT (ok : Bool) (t : Tm) : Tm := if ok then t else zeroT
def tmM (B : Binds) : List (Int × AV) := B.map fun b => (b.1, b.2.av)

theorem getI_tm : ∀ (B : Binds) (n : Int), getI (tmM B) n = (findB B n).map Tm.av
  | [], n => rfl
  | b :: B, n => by
    have ih := getI_tm B n
    by_cases h : b.1 = n
    · simp [tmM, getI, findB, h]
    · simp only [tmM, List.map_cons, getI, findB, List.find?_cons, show (b.1 == n) = false by simpa using h] at ih ⊢
      rw [if_neg h]; exact ih
end Go.Proofs.Ytppghekipbnjhaa

namespace PSL
open Go

def ixGo : List Int → Int → List (Int × AV) → List (Int × AV)
  | [], _, A => A
  | v :: r, i, A => ixGo r (i + 1) (if (getI A v).isSome then A else A ++ [(v, iV i)])
def ixM (V : List Int) : List (Int × AV) := ixGo V 0 []

theorem getI_app : ∀ (A B : List (Int × AV)) (v : Int), getI (A ++ B) v = match getI A v with | some x => some x | none => getI B v
  | [], B, v => rfl
  | p :: A, B, v => by
    simp only [List.cons_append, getI]
    split
    · rfl
    · exact getI_app A B v

theorem getI_ixGo : ∀ (V : List Int) (i : Int) (A : List (Int × AV)) (v : Int), 0 ≤ i → getI (ixGo V i A) v = match getI A v with | some x => some x | none => if atI V v i < 0 then none else some (iV (atI V v i))
  | [], i, A, v, _ => by
    simp only [ixGo, atI]
    cases getI A v <;> simp
  | u :: V, i, A, v, h => by
    simp only [ixGo, atI]
    rw [getI_ixGo V (i + 1) _ v (by omega)]
    by_cases hu : (getI A u).isSome = true
    · rw [if_pos hu]
      cases hv : getI A v with
      | some x => rfl
      | none =>
        have : ¬ u = v := fun e => by rw [e, hv] at hu; cases hu
        simp only [if_neg this]
    · rw [if_neg hu, getI_app]
      cases hv : getI A v with
      | some x => rfl
      | none =>
        simp only [getI]
        by_cases e : u = v
        · simp only [if_pos e]
          rw [if_neg (by omega)]
        · simp only [if_neg e]

theorem getI_ix (V : List Int) (v : Int) : getI (ixM V) v = if atI V v 0 < 0 then none else some (iV (atI V v 0)) := by
  unfold ixM; rw [getI_ixGo V 0 [] v (Int.le_refl _)]; rfl

theorem ixGo_keys : ∀ (V : List Int) (i : Int) (A : List (Int × AV)), (ixGo V i A).map (·.1) = V.foldl addV (A.map (·.1))
  | [], i, A => rfl
  | u :: V, i, A => by
    simp only [ixGo, List.foldl_cons]
    rw [ixGo_keys V (i + 1)]
    congr 1
    have key : ∀ (A : List (Int × AV)), (getI A u).isSome = (A.map (·.1)).contains u := by
      intro A
      induction A with
      | nil => rfl
      | cons p A ih =>
        simp only [getI, List.map_cons, List.contains_cons]
        by_cases h : p.1 = u
        · rw [if_pos h]; simp [h]
        · rw [if_neg h, ih]
          have : (u == p.1) = false := by simp; exact fun e => h e.symm
          rw [this, Bool.false_or]
    unfold addV
    rw [← key A]
    split <;> simp

theorem ixM_len (V : List Int) : (ixM V).length = (Tm.once V).length := by
  have := congrArg List.length (ixGo_keys V 0 [])
  simpa [ixM, Tm.once] using this

theorem foldl_len : ∀ (l a : List Int), (l.foldl addV a).length ≤ a.length + l.length ∧ ((l.foldl addV a).length = a.length + l.length → l.Nodup ∧ ∀ x ∈ l, x ∉ a)
  | [], a => by simp
  | x :: l, a => by
    have h := foldl_len l (addV a x)
    have h2 := Tm.addV_len' a x
    simp only [List.foldl_cons, List.length_cons]
    refine ⟨by omega, fun he => ?_⟩
    have h3 : (addV a x).length = a.length + 1 := by omega
    have hx : x ∉ a := fun hm => by
      unfold addV at h3; rw [if_pos (by simpa using hm)] at h3; omega
    obtain ⟨h4, h5⟩ := h.2 (by omega)
    have h6 : addV a x = a ++ [x] := by unfold addV; rw [if_neg (by simpa using hx)]
    rw [h6] at h5
    refine ⟨List.nodup_cons.2 ⟨fun hm => by have := h5 x hm; simp at this, h4⟩, fun y hy => ?_⟩
    rcases List.mem_cons.1 hy with rfl | hy
    · exact hx
    · have := h5 y hy; simp at this; exact this.1

theorem once_len {V : List Int} : ((Tm.once V).length < V.length) ↔ ¬ V.Nodup := by
  have h := foldl_len V []
  unfold Tm.once
  constructor
  · intro h1 h2
    have key : ∀ (l a : List Int), l.Nodup → (∀ x ∈ l, x ∉ a) → (l.foldl addV a).length = a.length + l.length := by
      intro l
      induction l with
      | nil => intro a _ _; simp
      | cons x l ih =>
        intro a hn hd
        have hx : addV a x = a ++ [x] := by unfold addV; rw [if_neg (by simpa using hd x (by simp))]
        rw [List.foldl_cons, hx, ih _ (List.nodup_cons.1 hn).2 fun y hy => ?_]
        · simp; omega
        · simp only [List.mem_append, List.mem_singleton, not_or]
          exact ⟨hd y (by simp [hy]), fun e => (List.nodup_cons.1 hn).1 (e ▸ hy)⟩
    have := key V [] h2 (by simp)
    simp at this; omega
  · intro h1
    rcases Nat.lt_or_ge (V.foldl addV []).length V.length with h2 | h2
    · exact h2
    · exact absurd (h.2 (by simp; have := h.1; simp at this; omega)).1 h1

def dfsL (g : Nat → List Int → Bool × List Int) : List Nat → List Int → Bool × List Int
  | [], st => (true, st)
  | k :: r, st => if (g k st).1 then dfsL g r (g k st).2 else (false, (g k st).2)

def dfsF (adj : Nat → List Nat) : Nat → Nat → List Int → Bool × List Int
  | 0, _, st => (false, st)
  | f + 1, i, st => if st.getD i 0 ≠ 0 then (decide (st.getD i 0 = 2), st) else
      if (dfsL (dfsF adj f) (adj i) (st.set i 1)).1 then (true, (dfsL (dfsF adj f) (adj i) (st.set i 1)).2.set i 2) else (false, (dfsL (dfsF adj f) (adj i) (st.set i 1)).2)
def zeros (st : List Int) : Nat := st.countP (· == 0)

theorem zeros_set : ∀ (st : List Int) (i : Nat) (x : Int), x ≠ 0 → zeros (st.set i x) ≤ zeros st ∧ (i < st.length → st.getD i 0 = 0 → zeros (st.set i x) + 1 = zeros st)
  | [], i, x, _ => by simp [zeros]
  | y :: st, 0, x, hx => by
    simp only [zeros, List.set_cons_zero, List.countP_cons]
    have : (x == 0) = false := by simpa using hx
    rw [this]
    constructor
    · simp
    · intro _ h0
      have : y = 0 := by simpa using h0
      simp [this]
  | y :: st, i + 1, x, hx => by
    have h := zeros_set st i x hx
    simp only [zeros, List.set_cons_succ, List.countP_cons] at h ⊢
    refine ⟨by omega, fun h1 h2 => ?_⟩
    have := h.2 (by simpa using h1) (by simpa using h2)
    omega

theorem dfs_shape (adj : Nat → List Nat) : ∀ (f i : Nat) (st : List Int), (dfsF adj f i st).2.length = st.length ∧ zeros (dfsF adj f i st).2 ≤ zeros st := by
  intro f
  induction f with
  | zero => intro i st; exact ⟨rfl, Nat.le_refl _⟩
  | succ f ih =>
    intro i st
    have hL : ∀ (L : List Nat) (st : List Int), (dfsL (dfsF adj f) L st).2.length = st.length ∧ zeros (dfsL (dfsF adj f) L st).2 ≤ zeros st := by
      intro L
      induction L with
      | nil => intro st; exact ⟨rfl, Nat.le_refl _⟩
      | cons k r ihr =>
        intro st
        have h1 := ih k st
        have h2 := ihr (dfsF adj f k st).2
        simp only [dfsL]
        split
        · exact ⟨by rw [h2.1, h1.1], by omega⟩
        · exact h1
    have h1 := hL (adj i) (st.set i 1)
    have h2 := zeros_set st i 1 (by omega)
    simp only [dfsF]
    split
    · exact ⟨rfl, Nat.le_refl _⟩
    · split
      · have h3 := zeros_set (dfsL (dfsF adj f) (adj i) (st.set i 1)).2 i 2 (by omega)
        exact ⟨by simp [h1.1], by simp only; omega⟩
      · exact ⟨by simp [h1.1], by simp only; omega⟩

/-- No way leads round. -/
inductive Okn (adj : Nat → List Nat) : Nat → Nat → Prop
  | mk {m i : Nat} (h : ∀ k ∈ adj i, Okn adj m k) : Okn adj (m + 1) i

theorem Okn.mono {adj : Nat → List Nat} : ∀ {m i : Nat}, Okn adj m i → ∀ {m' : Nat}, m ≤ m' → Okn adj m' i := by
  intro m
  induction m with
  | zero => intro i h; cases h
  | succ m ih =>
    intro i h m' hm
    cases h with
    | mk h =>
      obtain ⟨q, rfl⟩ : ∃ q, m' = q + 1 := ⟨m' - 1, by omega⟩
      exact .mk fun k hk => ih (h k hk) (by omega)

theorem Okn.all {adj : Nat → List Nat} : ∀ {L : List Nat}, (∀ k ∈ L, ∃ m, Okn adj m k) → ∃ m, ∀ k ∈ L, Okn adj m k
  | [], _ => ⟨0, by simp⟩
  | k :: L, h => by
    obtain ⟨m, h1⟩ := h k (by simp)
    obtain ⟨m', h2⟩ := Okn.all (L := L) fun k hk => h k (by simp [hk])
    refine ⟨m + m', fun x hx => ?_⟩
    rcases List.mem_cons.1 hx with rfl | hx
    · exact h1.mono (by omega)
    · exact (h2 x hx).mono (by omega)

/-- What has been looked through leads nowhere round. -/
theorem dfs_sound (adj : Nat → List Nat) : ∀ (f i : Nat) (st : List Int), (∀ j, st.getD j 0 = 2 → ∃ m, Okn adj m j) → (∀ j, (dfsF adj f i st).2.getD j 0 = 2 → ∃ m, Okn adj m j) ∧ ((dfsF adj f i st).1 = true → ∃ m, Okn adj m i) := by
  intro f
  induction f with
  | zero => intro i st h; exact ⟨h, fun h => by cases h⟩
  | succ f ih =>
    intro i st h
    have hL : ∀ (L : List Nat) (st : List Int), (∀ j, st.getD j 0 = 2 → ∃ m, Okn adj m j) → (∀ j, (dfsL (dfsF adj f) L st).2.getD j 0 = 2 → ∃ m, Okn adj m j) ∧ ((dfsL (dfsF adj f) L st).1 = true → ∀ k ∈ L, ∃ m, Okn adj m k) := by
      intro L
      induction L with
      | nil => intro st h; exact ⟨h, by simp⟩
      | cons k r ihr =>
        intro st h
        obtain ⟨h1, h2⟩ := ih k st h
        obtain ⟨h3, h4⟩ := ihr _ h1
        simp only [dfsL]
        split
        · rename_i hk
          refine ⟨h3, fun hr x hx => ?_⟩
          rcases List.mem_cons.1 hx with rfl | hx
          · exact h2 hk
          · exact h4 hr x hx
        · exact ⟨h1, fun h => by cases h⟩
    have hset : ∀ (st : List Int) (x : Int), (∀ j, st.getD j 0 = 2 → ∃ m, Okn adj m j) → (x = 2 → ∃ m, Okn adj m i) → ∀ j, (st.set i x).getD j 0 = 2 → ∃ m, Okn adj m j := fun st x hst hx j hj => by
      by_cases e : j = i
      · subst e
        rcases Nat.lt_or_ge j st.length with hl | hl
        · rw [List.getD_eq_getElem?_getD, List.getElem?_set_self hl] at hj
          exact hx (by simpa using hj)
        · rw [List.getD_eq_getElem?_getD, List.getElem?_eq_none (by simpa using hl)] at hj
          simp at hj
      · rw [List.getD_eq_getElem?_getD, List.getElem?_set_ne (fun h => e h.symm), ← List.getD_eq_getElem?_getD] at hj
        exact hst j hj
    obtain ⟨h1, h2⟩ := hL (adj i) (st.set i 1) (hset st 1 h (by omega))
    have hi : (dfsL (dfsF adj f) (adj i) (st.set i 1)).1 = true → ∃ m, Okn adj m i := fun hr => by
      obtain ⟨m, hm⟩ := Okn.all (h2 hr)
      exact ⟨m + 1, .mk hm⟩
    simp only [dfsF]
    split
    · exact ⟨h, fun hd => h i (by simpa using hd)⟩
    · split
      · rename_i hr
        exact ⟨hset _ 2 h1 fun _ => hi hr, fun _ => hi hr⟩
      · exact ⟨h1, fun h => by cases h⟩

/-- To where a bind's term leads. -/
def adjB (l : Binds) (i : Nat) : List Nat := match l[i]? with
  | some b => (varsT [b.2]).filterMap fun v => if placeB l v < 0 then none else some (placeB l v).toNat
  | none => []

/-- All are gone through. -/
def dfsAll (adj : Nat → List Nat) (n : Nat) : List Nat → List Int → Bool
  | [], _ => true
  | i :: r, st => if (dfsF adj (n + 1) i st).1 then dfsAll adj n r (dfsF adj (n + 1) i st).2 else false
def fineB (l : Binds) : Bool := l.all fun b => decide (0 ≤ b.1) && decide (b.1 < 1000000) && b.2.rightB

/-- May a substitution be? -/
def rightS (l : Binds) : Bool := !decide ((ixM (l.map (·.1))).length < l.length) && fineB l && dfsAll (adjB l) l.length (List.range l.length) (List.replicate l.length 0)

theorem dfsAll_sound {adj : Nat → List Nat} {n : Nat} : ∀ (L : List Nat) (st : List Int), (∀ j, st.getD j 0 = 2 → ∃ m, Okn adj m j) → dfsAll adj n L st = true → ∀ i ∈ L, ∃ m, Okn adj m i
  | [], st, _, _ => by simp
  | i :: r, st, h, hr => by
    simp only [dfsAll] at hr
    obtain ⟨h1, h2⟩ := dfs_sound adj (n + 1) i st h
    split at hr
    · rename_i hi
      have h3 := dfsAll_sound r _ h1 hr
      intro x hx
      rcases List.mem_cons.1 hx with rfl | hx
      · exact h2 hi
      · exact h3 x hx
    · cases hr

theorem rightS_spec {l : Binds} (h : rightS l = true) : (l.map (·.1)).Nodup ∧ (∀ b ∈ l, 0 ≤ b.1 ∧ b.1 < 1000000 ∧ b.2.rightB = true) ∧ ∃ M, ∀ i < l.length, Okn (adjB l) M i := by
  simp only [rightS, Bool.and_eq_true, Bool.not_eq_true', decide_eq_false_iff_not] at h
  obtain ⟨⟨h1, h2⟩, h3⟩ := h
  refine ⟨?_, fun b hb => ?_, ?_⟩
  · rw [ixM_len] at h1
    have := once_len (V := l.map (·.1))
    rw [List.length_map] at this
    exact Classical.byContradiction fun hn => h1 (this.2 hn)
  · have := List.all_eq_true.1 h2 b hb
    simp only [Bool.and_eq_true, decide_eq_true_eq] at this
    exact ⟨this.1.1, this.1.2, this.2⟩
  · have h4 := dfsAll_sound _ _ (fun j hj => by
      rw [List.getD_eq_getElem?_getD, List.getElem?_replicate] at hj
      split at hj <;> simp at hj) h3
    obtain ⟨M, hM⟩ := Okn.all h4
    exact ⟨M, fun i hi => hM i (by simpa using hi)⟩
end PSL
namespace PSL
open Go

theorem ixGo_iv : ∀ (V : List Int) (i : Int) (A : List (Int × AV)), (∀ p ∈ A, ∃ n, p.2 = iV n) → ∀ p ∈ ixGo V i A, ∃ n, p.2 = iV n
  | [], _, _, h => h
  | u :: V, i, A, h => ixGo_iv V (i + 1) _ (by
    intro p hp
    split at hp
    · exact h p hp
    · rcases List.mem_append.1 hp with hp | hp
      · exact h p hp
      · simp at hp; exact ⟨i, by rw [hp]⟩)
theorem ixM_iv (V : List Int) : ∀ p ∈ ixM V, ∃ n, p.2 = iV n := ixGo_iv V 0 [] (by simp)

theorem mapOb_iv {f : AV → AV} (h : ∀ n, f (iV n) = iV n) {A : List (Int × AV)} (hA : ∀ p ∈ A, ∃ n, p.2 = iV n) : mapOb f (.map (imap A)) = .map (imap A) := by
  simp only [mapOb, imap, List.map_map]
  congr 1
  refine List.map_congr_left fun p hp => ?_
  obtain ⟨n, hn⟩ := hA p hp
  simp [hn, h]
theorem placesOf {l : Binds} {i : Nat} {b : Int × Tm} (h : l[i]? = some b) : adjB l i = (varsT [b.2]).filterMap fun v => if placeB l v < 0 then none else some (placeB l v).toNat := by unfold adjB; rw [h]
theorem irows_set {st : List Int} {i : Nat} {x : Int} : (irows st).set i [.v (.int .i64 x)] = irows (st.set i x) := by simp [irows, irow, List.map_set]
end PSL
namespace PSL
open Go

theorem getI_iv : ∀ {A : List (Int × AV)} {v : Int} {x : AV}, (∀ p ∈ A, ∃ n, p.2 = iV n) → getI A v = some x → ∃ n, x = iV n
  | [], v, x, _, h => by cases h
  | p :: A, v, x, hA, h => by
    simp only [getI] at h
    split at h
    · cases h; exact hA p (by simp)
    · exact getI_iv (fun q hq => hA q (by simp [hq])) h
end PSL

namespace PSL
open Go
namespace Tm

mutual
theorem putF_fair {σ : Int → Tm} : ∀ (p : Tm), fairR p = true → (∀ v ∈ occ p, fairR (σ v) = true) → fairR (putF σ p) = true
  | mk k s n l, h, hs => by
    have hf := fairR_mk h
    simp only [occ] at hs
    simp only [putF]
    by_cases hk : k = 1
    · rw [if_pos hk] at hs ⊢; exact hs n (by simp)
    · rw [if_neg hk] at hs ⊢
      simp only [fairR, Bool.and_eq_true] at h ⊢
      exact ⟨⟨h.1.1, putFL_fair l h.1.2 hs⟩, by rw [putFL_len]; exact h.2⟩
theorem putFL_fair {σ : Int → Tm} : ∀ (l : List Tm), fairRL l = true → (∀ v ∈ occL l, fairR (σ v) = true) → fairRL (putFL σ l) = true
  | [], _, _ => rfl
  | x :: l, h, hs => by
    simp only [fairRL, Bool.and_eq_true] at h
    simp only [occL, List.mem_append] at hs
    simp only [putFL, fairRL, Bool.and_eq_true]
    exact ⟨putF_fair x h.1 fun v hv => hs v (.inl hv), putFL_fair l h.2 fun v hv => hs v (.inr hv)⟩
end

mutual
theorem occ_putF {σ : Int → Tm} : ∀ (p : Tm) (u : Int), u ∈ occ (putF σ p) → ∃ v ∈ occ p, u ∈ occ (σ v)
  | mk k s n l, u, h => by
    simp only [putF] at h
    simp only [occ]
    by_cases hk : k = 1
    · rw [if_pos hk] at h ⊢; exact ⟨n, by simp, h⟩
    · rw [if_neg hk] at h ⊢
      simp only [occ, if_neg hk] at h
      exact occL_putF l u h
theorem occL_putF {σ : Int → Tm} : ∀ (l : List Tm) (u : Int), u ∈ occL (putFL σ l) → ∃ v ∈ occL l, u ∈ occ (σ v)
  | [], u, h => by simp [putFL, occL] at h
  | x :: l, u, h => by
    simp only [putFL, occL, List.mem_append] at h
    simp only [occL, List.mem_append]
    rcases h with h | h
    · obtain ⟨v, h1, h2⟩ := occ_putF x u h; exact ⟨v, .inl h1, h2⟩
    · obtain ⟨v, h1, h2⟩ := occL_putF l u h; exact ⟨v, .inr h1, h2⟩
end

theorem vT_fair' {n : Int} (h0 : 0 ≤ n) (h1 : n < 1000000) : fairR (vT n) = true := by
  have e : strEq ByteArray.empty ⟨#[]⟩ = true := strEq_iff.2 rfl
  have e2 : ByteArray.empty.data.toList.all byteOk = true := rfl
  simp only [vT, fairR, fairRL, kindR, e, e2]
  simp
  omega

theorem putFL_map (σ : Int → Tm) : ∀ l, putFL σ l = l.map (putF σ)
  | [] => rfl
  | x :: l => by simp only [putFL, List.map_cons, putFL_map σ l]

theorem put_id {σ : Int → Tm} (p : Tm) (h : fairR p = true) (hs : ∀ v ∈ occ p, σ v = vT v) : putF σ p = p := by
  rw [putF_congr p hs, put_self p h]
end Tm

/-- What a term becomes, so many steps deep. -/
def fullS (B : Binds) : Nat → Tm → Tm
  | 0, t => t
  | m + 1, t => Tm.putF (fun v => match findB B v with | some x => fullS B m x | none => Tm.vT v) t

/-- No bound variable of a term leads further. -/
def levT (B : Binds) (m : Nat) (t : Tm) : Prop := ∀ v ∈ Tm.occ t, 0 ≤ placeB B v → Okn (adjB B) m (placeB B v).toNat

theorem lev_bind {B : Binds} {m : Nat} {v : Int} {x : Tm} (hx : x.fairR = true) (h : findB B v = some x) (ho : Okn (adjB B) m (placeB B v).toNat) : ∃ q, m = q + 1 ∧ levT B q x := by
  cases ho with
  | @mk q _ ho =>
    refine ⟨q, rfl, fun u hu hp => ho _ ?_⟩
    rcases placeB_find B v with ⟨_, h2⟩ | ⟨k, t, h1, h2, h3⟩
    · rw [h2] at h; cases h
    · rw [h3] at h; cases h
      rw [h1]
      simp only [Int.toNat_natCast, adjB, h2, List.mem_filterMap]
      refine ⟨u, ?_, by rw [if_neg (by omega)]⟩
      rw [varsT_once (one_fair hx)]
      simp [Tm.occL, Tm.mem_once, hu]
section
variable {B : Binds} (hB : ∀ b ∈ B, b.2.fairR = true)
include hB
theorem findB_fair {v : Int} {x : Tm} (h : findB B v = some x) : x.fairR = true := hB _ (Tm.findB_mem h)

theorem lev_find {m : Nat} {t : Tm} (h : levT B m t) {v : Int} (hv : v ∈ Tm.occ t) {x : Tm} (hx : findB B v = some x) : ∃ q, m = q + 1 ∧ levT B q x := by
  refine lev_bind (findB_fair hB hx) hx (h v hv ?_)
  rcases placeB_find B v with ⟨_, h2⟩ | ⟨k, t, h1, h2, h3⟩
  · rw [h2] at hx; cases hx
  · omega

theorem full_stable : ∀ (m : Nat) (t : Tm), t.fairR = true → levT B m t → ∀ m', m ≤ m' → fullS B m' t = fullS B m t := by
  intro m
  induction m with
  | zero =>
    intro t hf hl m' _
    have hn : ∀ v ∈ Tm.occ t, findB B v = none := fun v hv => by
      cases h : findB B v with
      | none => rfl
      | some x => obtain ⟨q, hq, _⟩ := lev_find hB hl hv h; omega
    cases m' with
    | zero => rfl
    | succ m' =>
      simp only [fullS]
      exact Tm.put_id t hf fun v hv => by rw [hn v hv]
  | succ m ih =>
    intro t hf hl m' hm
    obtain ⟨q, rfl⟩ : ∃ q, m' = q + 1 := ⟨m' - 1, by omega⟩
    simp only [fullS]
    refine Tm.putF_congr t fun v hv => ?_
    cases h : findB B v with
    | none => rfl
    | some x =>
      obtain ⟨r, hr, h2⟩ := lev_find hB hl hv h
      cases hr
      exact ih x (findB_fair hB h) h2 q (by omega)

theorem full_fair : ∀ (m : Nat) (t : Tm), t.fairR = true → (∀ v ∈ Tm.occ t, 0 ≤ v ∧ v < 1000000) → (fullS B m t).fairR = true := by
  intro m
  induction m with
  | zero => intro t h _; exact h
  | succ m ih =>
    intro t h hv
    refine Tm.putF_fair t h fun v hm => ?_
    cases hf : findB B v with
    | none => exact Tm.vT_fair' (hv v hm).1 (hv v hm).2
    | some x =>
      have := findB_fair hB hf
      exact ih x this (Tm.occ_range x this)

theorem full_free : ∀ (m : Nat) (t : Tm), levT B m t → ∀ u ∈ Tm.occ (fullS B m t), findB B u = none := by
  intro m
  induction m with
  | zero =>
    intro t hl u hu
    cases h : findB B u with
    | none => rfl
    | some x => obtain ⟨q, hq, _⟩ := lev_find hB hl hu h; omega
  | succ m ih =>
    intro t hl u hu
    obtain ⟨v, hv, h2⟩ := Tm.occ_putF t u hu
    cases h : findB B v with
    | none =>
      rw [h] at h2
      simp [Tm.vT, Tm.occ] at h2
      rw [h2]; exact h
    | some x =>
      rw [h] at h2
      obtain ⟨r, hr, h3⟩ := lev_find hB hl hv h
      cases hr
      exact ih x h3 u h2
end

/-- All that is needed of a right substitution. -/
structure Sub (B : Binds) (M : Nat) : Prop where
  fair : ∀ b ∈ B, b.2.fairR = true
  okn : ∀ i < B.length, Okn (adjB B) M i

theorem Sub.lev {B : Binds} {M : Nat} (h : Sub B M) (t : Tm) : levT B M t := fun v _ hp => h.okn _ (by
  rcases placeB_find B v with ⟨h1, _⟩ | ⟨k, t, h1, h2, h3⟩
  · omega
  · have := (List.getElem?_eq_some_iff.1 h2).1; omega)

theorem Sub.of {B : Binds} (h : rightS B = true) : ∃ M, Sub B M := by
  obtain ⟨_, h2, M, h3⟩ := rightS_spec h
  exact ⟨M, fun b hb => right_fair (h2 b hb).2.2, h3⟩

theorem Sub.fix {B : Binds} {M : Nat} (h : Sub B M) {t : Tm} (hf : t.fairR = true) : fullS B M t = Tm.putF (fun v => match findB B v with | some x => fullS B M x | none => Tm.vT v) t :=
  (full_stable h.fair M t hf (h.lev t) (M + 1) (by omega)).symm

/-- A step from a bound variable. -/
theorem Sub.bound {B : Binds} {M : Nat} (h : Sub B M) {t x : Tm} (hf : t.fairR = true) (hk : t.k = 1) (hx : findB B t.n = some x) : fullS B M t = fullS B M x := by
  rw [h.fix hf]
  obtain ⟨k, s, n, l⟩ := t
  simp only [Tm.k, Tm.n] at hk hx
  simp only [Tm.putF, if_pos hk, hx]

theorem occ_var {t : Tm} (hk : t.k = 1) : t.n ∈ Tm.occ t := by
  obtain ⟨k, s, n, l⟩ := t
  simp only [Tm.k] at hk
  simp [Tm.occ, hk, Tm.n]

/-- What isn't a bound variable keeps its head. -/
theorem Sub.head {B : Binds} {M : Nat} (h : Sub B M) {t : Tm} (hf : t.fairR = true) (hx : t.k = 1 → findB B t.n = none) : fullS B M t = .mk t.k t.s t.n (t.l.map (fullS B M)) := by
  rw [h.fix hf]
  obtain ⟨k, s, n, l⟩ := t
  have h1 := Tm.fairR_mk hf
  by_cases hk : k = 1
  · obtain ⟨rfl, rfl⟩ := h1.2 hk
    have := hx hk
    simp only [Tm.n] at this
    subst hk
    simp [Tm.putF, this, Tm.vT, Tm.k, Tm.s, Tm.n, Tm.l]
  · simp only [Tm.putF, if_neg hk, Tm.k, Tm.s, Tm.n, Tm.l, Tm.putFL_map]
    congr 1
    refine List.map_congr_left fun x hx => ?_
    exact (h.fix (Tm.fairRL_iff.1 h1.1 x hx)).symm

theorem Sub.kid_fair {t x : Tm} (hf : t.fairR = true) (hx : x ∈ t.l) : x.fairR = true := by
  obtain ⟨k, s, n, l⟩ := t
  exact Tm.fairRL_iff.1 (Tm.fairR_mk hf).1 x hx
theorem Sub.free {B : Binds} {M : Nat} (h : Sub B M) (t : Tm) : ∀ u ∈ Tm.occ (fullS B M t), findB B u = none := full_free h.fair M t (h.lev t)
theorem Sub.fairF {B : Binds} {M : Nat} (h : Sub B M) {t : Tm} (hf : t.fairR = true) : (fullS B M t).fairR = true := full_fair h.fair M t hf (Tm.occ_range t hf)

/-- What has no bound variable stays. -/
theorem Sub.same {B : Binds} {M : Nat} (h : Sub B M) {t : Tm} (hf : t.fairR = true) (hn : ∀ u ∈ Tm.occ t, findB B u = none) : fullS B M t = t := by
  rw [h.fix hf]
  exact Tm.put_id t hf fun v hv => by rw [hn v hv]
namespace Tm

mutual
def bldN : Tm → Int → Int → Bool × Int
  | mk _ _ _ l, left, deep => if left - 1 < 0 ∨ deep > 100 then (false, left - 1) else bldNL l (left - 1) (deep + 1)
def bldNL : List Tm → Int → Int → Bool × Int
  | [], left, _ => (true, left)
  | x :: r, left, deep => if (bldN x left deep).1 then bldNL r (bldN x left deep).2 deep else (false, (bldN x left deep).2)
end
theorem bldN_eq (t : Tm) (left deep : Int) : bldN t left deep = if left - 1 < 0 ∨ deep > 100 then (false, left - 1) else bldNL t.l (left - 1) (deep + 1) := by cases t; simp only [bldN]; rfl

mutual
theorem bldN_ok : ∀ (t : Tm) (left deep : Int), 0 ≤ left → 1 ≤ deep → ((bldN t left deep).1 = true ↔ (t.size : Int) ≤ left ∧ deep + t.depth ≤ 101) ∧ ((bldN t left deep).1 = true → (bldN t left deep).2 = left - t.size) ∧ -1 ≤ (bldN t left deep).2 ∧ (bldN t left deep).2 ≤ left
  | mk k s n l, left, deep, h0, h1 => by
    have h2 : 1 ≤ (mk k s n l).depth := by simp only [depth]; omega
    simp only [bldN, size, depth]
    split
    · rename_i h
      refine ⟨⟨fun h => (by cases h), fun h' => (by omega)⟩, fun h => (by cases h), by simp only; omega, by simp only; omega⟩
    · rename_i h
      obtain ⟨h3, h4, h5, h6⟩ := bldNL_ok l (left - 1) (deep + 1) (by omega) (by omega)
      refine ⟨?_, fun hr => by rw [h4 hr]; omega, h5, by omega⟩
      rw [h3]
      constructor
      · rintro ⟨h7, h8⟩
        refine ⟨by omega, ?_⟩
        rcases h8 with h8 | h8
        · subst h8; simp only [depthL]; omega
        · omega
      · rintro ⟨h7, h8⟩; exact ⟨by omega, .inr (by omega)⟩
theorem bldNL_ok : ∀ (l : List Tm) (left deep : Int), 0 ≤ left → 1 ≤ deep → ((bldNL l left deep).1 = true ↔ (sizeL l : Int) ≤ left ∧ (l = [] ∨ deep + depthL l ≤ 101)) ∧ ((bldNL l left deep).1 = true → (bldNL l left deep).2 = left - sizeL l) ∧ -1 ≤ (bldNL l left deep).2 ∧ (bldNL l left deep).2 ≤ left
  | [], left, deep, h0, h1 => by simp only [bldNL, sizeL]; exact ⟨⟨fun _ => ⟨by omega, by simp⟩, fun _ => by simp⟩, fun _ => by omega, by omega, by omega⟩
  | x :: r, left, deep, h0, h1 => by
    obtain ⟨h2, h3, h4, h5⟩ := bldN_ok x left deep h0 h1
    have hx := size_eq x
    simp only [bldNL, sizeL, depthL]
    cases hb : (bldN x left deep).1 with
    | true =>
      simp only [if_true]
      have h6 := h3 hb
      obtain ⟨h7, h8⟩ := h2.1 hb
      obtain ⟨g1, g2, g3, g4⟩ := bldNL_ok r (bldN x left deep).2 deep (by omega) h1
      refine ⟨?_, fun hr => by rw [g2 hr, h6]; omega, g3, by omega⟩
      rw [g1, h6]
      constructor
      · rintro ⟨a, b⟩
        refine ⟨by omega, .inr ?_⟩
        rcases b with b | b
        · subst b; simp only [depthL]; omega
        · omega
      · rintro ⟨a, b⟩
        refine ⟨by omega, ?_⟩
        rcases b with b | b
        · simp at b
        · exact .inr (by omega)
    | false =>
      simp only [Bool.false_eq_true, if_false]
      refine ⟨⟨fun h => (by cases h), fun ⟨a, b⟩ => ?_⟩, fun h => (by cases h), h4, h5⟩
      have : (bldN x left deep).1 = true := h2.2 (by
        rcases b with b | b
        · simp at b
        · exact ⟨by omega, by omega⟩)
      rw [hb] at this; cases this
end
end Tm

/-- What Apply answers. -/
def applyT (B : Binds) (M : Nat) (t : Tm) : Tm × Int :=
  if rightS B && t.rightB then (if decide ((fullS B M t).size ≤ 3000) && decide ((fullS B M t).depth ≤ 100) then (fullS B M t, 0) else (zeroT, 3)) else (zeroT, 1)
end PSL
namespace PSL
open Go

def oknB (adj : Nat → List Nat) : Nat → Nat → Bool
  | 0, _ => false
  | m + 1, i => (adj i).all (oknB adj m)

theorem oknB_ok {adj : Nat → List Nat} : ∀ {m i : Nat}, oknB adj m i = true → Okn adj m i
  | 0, i, h => by cases h
  | m + 1, i, h => .mk fun k hk => oknB_ok (List.all_eq_true.1 h k hk)
def subB (B : Binds) (M : Nat) : Bool := B.all (fun b => b.2.fairR) && (List.range B.length).all (oknB (adjB B) M)

theorem Sub.ofB {B : Binds} {M : Nat} (h : subB B M = true) : Sub B M := by
  simp only [subB, Bool.and_eq_true] at h
  exact ⟨fun b hb => List.all_eq_true.1 h.1 b hb, fun i hi => oknB_ok (List.all_eq_true.1 h.2 i (by simpa using hi))⟩
end PSL
namespace PSL
open Go

theorem findB_cons (b : Int × Tm) (r : Binds) (v : Int) : findB (b :: r) v = if b.1 = v then some b.2 else findB r v := by
  by_cases h : b.1 = v
  · simp [findB, h]
  · have : (b.1 == v) = false := by simpa using h
    simp [findB, this, h]
end PSL
namespace PSL
open Go

/-- What the document's Become answers. -/
def becR (T : Tm) (most deep : Int) : Tm × Int := if decide ((T.size : Int) ≤ most) && decide ((T.depth : Int) ≤ deep) then (T, (T.size : Int)) else (zeroT, 0)

theorem becR_no {T : Tm} {most deep : Int} (h : ¬ ((T.size : Int) ≤ most ∧ (T.depth : Int) ≤ deep)) : becR T most deep = (zeroT, 0) := by
  unfold becR
  rw [if_neg]
  simpa using h

theorem becR_yes {T : Tm} {most deep : Int} (h1 : (T.size : Int) ≤ most) (h2 : (T.depth : Int) ≤ deep) : becR T most deep = (T, (T.size : Int)) := by
  unfold becR
  rw [if_pos (by simp [h1, h2])]
namespace Tm

theorem depth_mem {l : List Tm} {x : Tm} (h : x ∈ l) : depth x ≤ depthL l := by
  induction l with
  | nil => simp at h
  | cons y l ih =>
    simp only [depthL]
    rcases List.mem_cons.1 h with rfl | h
    · omega
    · have := ih h; omega

theorem depthL_le {l : List Tm} {n : Int} (h0 : 0 ≤ n) (h : ∀ x ∈ l, (depth x : Int) ≤ n) : (depthL l : Int) ≤ n := by
  induction l with
  | nil => simpa [depthL] using h0
  | cons y l ih =>
    have h1 := h y (by simp)
    have h2 := ih fun x hx => h x (by simp [hx])
    simp only [depthL]
    omega

theorem sizeL_take (l : List Tm) (k : Nat) : sizeL (l.take k) ≤ sizeL l := by
  have := sizeL_append (l.take k) (l.drop k)
  rw [List.take_append_drop] at this; omega
end Tm
end PSL
namespace PSL
open Go

/-- What the document's Apply answers. -/
def app3 (T : Tm) : Tm × Int := if decide (T.size ≤ 3000) && decide (T.depth ≤ 100) then (T, 0) else (zeroT, 3)

theorem app3_becR (T : Tm) : app3 T = (if (becR T 3000 100).2 = 0 then (zeroT, 3) else ((becR T 3000 100).1, 0)) := by
  have hz := Tm.size_eq T
  unfold app3
  by_cases h : T.size ≤ 3000 ∧ T.depth ≤ 100
  · rw [becR_yes (by omega) (by omega), if_pos (by simp [h.1, h.2]), if_neg (by simp only; omega)]
  · rw [becR_no (by omega), if_neg (by simpa using h), if_pos rfl]

theorem applyT_app3 {B : Binds} {M : Nat} {t : Tm} (h1 : rightS B = true) (h2 : t.rightB = true) : applyT B M t = app3 (fullS B M t) := by
  unfold applyT app3; rw [h1, h2]; rfl
end PSL

namespace PSL
open Go

def warsh (C : Nat → Nat → Bool) : Nat → Nat → Nat → Bool
  | 0, i, j => C i j
  | k + 1, i, j => warsh C k i j || (warsh C k i k && warsh C k k j)

theorem warsh_col (C : Nat → Nat → Bool) (k i : Nat) : warsh C (k + 1) i k = warsh C k i k := by
  simp only [warsh]; cases warsh C k i k <;> simp

theorem warsh_row (C : Nat → Nat → Bool) (k j : Nat) : warsh C (k + 1) k j = warsh C k k j := by
  simp only [warsh]; cases warsh C k k j <;> simp

/-- A way of at least one step. -/
inductive Way (C : Nat → Nat → Bool) : Nat → Nat → Prop
  | one {i j : Nat} (h : C i j = true) : Way C i j
  | snoc {i j k : Nat} (h : Way C i j) (h2 : C j k = true) : Way C i k

theorem Way.trans {C : Nat → Nat → Bool} {i j k : Nat} (h : Way C i j) (h2 : Way C j k) : Way C i k := by
  induction h2 with
  | one h3 => exact .snoc h h3
  | snoc _ h3 ih => exact .snoc ih h3

theorem warsh_way (C : Nat → Nat → Bool) : ∀ (k i j : Nat), warsh C k i j = true → Way C i j
  | 0, i, j, h => .one h
  | k + 1, i, j, h => by
    simp only [warsh, Bool.or_eq_true, Bool.and_eq_true] at h
    rcases h with h | ⟨h1, h2⟩
    · exact warsh_way C k i j h
    · exact (warsh_way C k i k h1).trans (warsh_way C k k j h2)

theorem warsh_mono (C : Nat → Nat → Bool) (k i j : Nat) (h : C i j = true) : warsh C k i j = true := by
  induction k with
  | zero => exact h
  | succ k ih => simp [warsh, ih]

theorem warsh_trans (C : Nat → Nat → Bool) : ∀ (k m i j : Nat), m < k → warsh C k i m = true → warsh C k m j = true → warsh C k i j = true
  | 0, m, i, j, h, _, _ => by omega
  | k + 1, m, i, j, h, h1, h2 => by
    have ih := warsh_trans C k
    by_cases e : m = k
    · subst e
      rw [warsh_col] at h1; rw [warsh_row] at h2
      simp [warsh, h1, h2]
    · have hm : m < k := by omega
      simp only [warsh, Bool.or_eq_true, Bool.and_eq_true] at h1 h2 ⊢
      rcases h1 with h1 | ⟨h1, h1'⟩ <;> rcases h2 with h2 | ⟨h2, h2'⟩
      · exact .inl (ih m i j hm h1 h2)
      · exact .inr ⟨ih m i k hm h1 h2, h2'⟩
      · exact .inr ⟨h1, ih m k j hm h1' h2⟩
      · exact .inr ⟨h1, h2'⟩

theorem warsh_full {C : Nat → Nat → Bool} {n : Nat} (hC : ∀ i j, C i j = true → i < n ∧ j < n) {i j : Nat} (h : Way C i j) : warsh C n i j = true := by
  have hj : ∀ {i j : Nat}, Way C i j → j < n := fun h => by
    cases h with
    | one h => exact (hC _ _ h).2
    | snoc _ h => exact (hC _ _ h).2
  induction h with
  | one h => exact warsh_mono C n _ _ h
  | snoc h1 h2 ih => exact warsh_trans C n _ _ _ (hj h1) ih (warsh_mono C n _ _ h2)
def isOpen (st : List Int) (j : Nat) : Prop := st.getD j 0 ≠ 0 ∧ st.getD j 0 ≠ 2
def edge (adj : Nat → List Nat) (i j : Nat) : Bool := (adj i).contains j

theorem open_set {st : List Int} {i j : Nat} {x : Int} (hi : i < st.length) : isOpen (st.set i x) j ↔ (if j = i then x ≠ 0 ∧ x ≠ 2 else isOpen st j) := by
  unfold isOpen
  by_cases e : j = i
  · subst e; rw [List.getD_eq_getElem?_getD, List.getElem?_set_self hi]; simp
  · rw [if_neg e, List.getD_eq_getElem?_getD, List.getElem?_set_ne (fun h => e h.symm), ← List.getD_eq_getElem?_getD]

theorem dfs_full (adj : Nat → List Nat) (n : Nat) (hadj : ∀ i, ∀ k ∈ adj i, k < n) : ∀ (f i : Nat) (st : List Int), st.length = n → i < n → zeros st < f → (∀ j, isOpen st j → Way (edge adj) j i) →
    ((dfsF adj f i st).1 = true ∧ ∀ j, isOpen (dfsF adj f i st).2 j ↔ isOpen st j) ∨ ((dfsF adj f i st).1 = false ∧ ∃ c, Way (edge adj) c c) := by
  intro f
  induction f with
  | zero => intro i st _ _ hz; omega
  | succ f ih =>
    intro i st hl hi hz hop
    simp only [dfsF]
    split
    · rename_i hne
      by_cases h2 : st.getD i 0 = 2
      · left; exact ⟨decide_eq_true h2, fun j => Iff.rfl⟩
      · right; exact ⟨by simp only [decide_eq_false h2], i, hop i ⟨hne, h2⟩⟩
    · rename_i h0
      have h0 : st.getD i 0 = 0 := by simpa using h0
      have hil : i < st.length := by omega
      have hz1 := (zeros_set st i 1 (by omega)).2 hil h0
      have hop1 : ∀ j, isOpen (st.set i 1) j → ∀ k ∈ adj i, Way (edge adj) j k := fun j hj k hk => by
        have he : edge adj i k = true := by simpa [edge] using hk
        rw [open_set hil] at hj
        by_cases e : j = i
        · subst e; exact .one he
        · rw [if_neg e] at hj; exact .snoc (hop j hj) he
      have hL : ∀ (L : List Nat) (st1 : List Int), st1.length = n → zeros st1 < f → (∀ k ∈ L, k ∈ adj i) → (∀ j, isOpen st1 j → ∀ k ∈ adj i, Way (edge adj) j k) →
          ((dfsL (dfsF adj f) L st1).1 = true ∧ ∀ j, isOpen (dfsL (dfsF adj f) L st1).2 j ↔ isOpen st1 j) ∨ ((dfsL (dfsF adj f) L st1).1 = false ∧ ∃ c, Way (edge adj) c c) := by
        intro L
        induction L with
        | nil => intro st1 _ _ _ _; exact .inl ⟨rfl, fun j => Iff.rfl⟩
        | cons k r ihr =>
          intro st1 hl1 hz1 hk hop1
          have hk1 := hk k (by simp)
          have hsh := dfs_shape adj f k st1
          simp only [dfsL]
          rcases ih k st1 hl1 (hadj i k hk1) hz1 (fun j hj => hop1 j hj k hk1) with ⟨h1, h2⟩ | ⟨h1, h2⟩
          · rw [if_pos h1]
            rcases ihr (dfsF adj f k st1).2 (by rw [hsh.1, hl1]) (by omega) (fun x hx => hk x (by simp [hx])) (fun j hj => hop1 j ((h2 j).1 hj)) with ⟨h3, h4⟩ | h3
            · exact .inl ⟨h3, fun j => (h4 j).trans (h2 j)⟩
            · exact .inr h3
          · rw [if_neg (by rw [h1]; simp)]; exact .inr ⟨rfl, h2⟩
      rcases hL (adj i) (st.set i 1) (by simp [hl]) (by omega) (fun _ h => h) hop1 with ⟨h1, h2⟩ | ⟨h1, h2⟩
      · rw [if_pos h1]
        refine .inl ⟨rfl, fun j => ?_⟩
        have hlen : ((dfsL (dfsF adj f) (adj i) (st.set i 1)).2).length = n := by
          have key : ∀ (L : List Nat) (st1 : List Int), st1.length = n → (dfsL (dfsF adj f) L st1).2.length = n := by
            intro L
            induction L with
            | nil => intro st1 h; exact h
            | cons k r ihr =>
              intro st1 h
              have hsh := dfs_shape adj f k st1
              simp only [dfsL]
              split
              · exact ihr _ (by rw [hsh.1, h])
              · rw [hsh.1, h]
          exact key _ _ (by simp [hl])
        rw [open_set (by omega)]
        by_cases e : j = i
        · subst e; rw [if_pos rfl]
          constructor
          · intro h; exact absurd rfl h.2
          · intro h; exact absurd h0 h.1
        · rw [if_neg e, h2 j, open_set hil, if_neg e]
      · rw [if_neg (by rw [h1]; simp)]; exact .inr ⟨rfl, h2⟩

theorem dfsAll_full (adj : Nat → List Nat) (n : Nat) (hadj : ∀ i, ∀ k ∈ adj i, k < n) : ∀ (L : List Nat) (st : List Int), st.length = n → (∀ i ∈ L, i < n) → (∀ j, ¬ isOpen st j) → dfsAll adj n L st = false → ∃ c, Way (edge adj) c c
  | [], st, _, _, _, h => by cases h
  | i :: r, st, hl, hL, hop, h => by
    have hz : zeros st < n + 1 := by have : zeros st ≤ st.length := List.countP_le_length; omega
    have hsh := dfs_shape adj (n + 1) i st
    simp only [dfsAll] at h
    rcases dfs_full adj n hadj (n + 1) i st hl (hL i (by simp)) hz (fun j hj => absurd hj (hop j)) with ⟨h1, h2⟩ | ⟨_, h2⟩
    · rw [if_pos h1] at h
      exact dfsAll_full adj n hadj r _ (by rw [hsh.1, hl]) (fun x hx => hL x (by simp [hx])) (fun j hj => hop j ((h2 j).1 hj)) h
    · exact h2

theorem okn_way {adj : Nat → List Nat} {i j : Nat} (h : Way (edge adj) i j) : ∀ {m : Nat}, Okn adj m i → ∃ q, q < m ∧ Okn adj q j := by
  induction h with
  | one h =>
    intro m ho
    cases ho with
    | @mk q _ ho => exact ⟨q, by omega, ho _ (by simpa [edge] using h)⟩
  | snoc _ h2 ih =>
    intro m ho
    obtain ⟨q, h3, h4⟩ := ih ho
    cases h4 with
    | @mk q' _ ho' => exact ⟨q', by omega, ho' _ (by simpa [edge] using h2)⟩

theorem okn_round {adj : Nat → List Nat} {i : Nat} (h : Way (edge adj) i i) : ∀ {m : Nat}, ¬ Okn adj m i := by
  intro m
  induction m using Nat.strongRecOn with
  | ind m ih => intro ho; obtain ⟨q, h1, h2⟩ := okn_way h ho; exact ih q h1 h2

theorem adjB_lt {B : Binds} {i k : Nat} (h : k ∈ adjB B i) : k < B.length := by
  unfold adjB at h
  split at h
  · simp only [List.mem_filterMap] at h
    obtain ⟨v, _, h2⟩ := h
    split at h2
    · cases h2
    · rename_i hp
      cases h2
      rcases placeB_find B v with ⟨h3, _⟩ | ⟨j, t, h3, h4, _⟩
      · omega
      · rw [h3]; have := (List.getElem?_eq_some_iff.1 h4).1; simpa using this
  · simp at h

theorem adjB_lt' {B : Binds} {i k : Nat} (h : k ∈ adjB B i) : i < B.length := by
  unfold adjB at h
  split at h
  · rename_i b hb; exact (List.getElem?_eq_some_iff.1 hb).1
  · simp at h

/-- Is the bind at a place one that may be? -/
def okAt (B : Binds) (i : Nat) : Bool := match B[i]? with
  | some b => decide (0 ≤ b.1) && decide (b.1 < 1000000) && decide (placeB B b.1 = i) && b.2.rightB
  | none => true
def rightR (B : Binds) : Bool := (List.range B.length).all (okAt B) && (List.range B.length).all fun i => !warsh (edge (adjB B)) B.length i i

theorem findB_nil : ∀ {B : Binds} {v : Int}, findB B v = none → ∀ b ∈ B, b.1 ≠ v
  | [], _, _, b, hb => by simp at hb
  | c :: B, v, h, b, hb => by
    rw [findB_cons] at h
    split at h
    · cases h
    · rename_i hc
      rcases List.mem_cons.1 hb with rfl | hb
      · exact hc
      · exact findB_nil h b hb

theorem nodup_place {B : Binds} : (B.map (·.1)).Nodup ↔ ∀ (i : Nat) (b : Int × Tm), B[i]? = some b → placeB B b.1 = i := by
  constructor
  · intro hn i b hb
    rcases placeB_find B b.1 with ⟨_, h2⟩ | ⟨j, t, h1, h2, _⟩
    · exact absurd rfl (findB_nil h2 b (List.mem_of_getElem? hb))
    · rw [h1]
      have e1 : (B.map (·.1))[i]? = some b.1 := by rw [List.getElem?_map, hb]; rfl
      have e2 : (B.map (·.1))[j]? = some b.1 := by rw [List.getElem?_map, h2]; rfl
      obtain ⟨l1, e1⟩ := List.getElem?_eq_some_iff.1 e1
      obtain ⟨l2, e2⟩ := List.getElem?_eq_some_iff.1 e2
      have := (List.getElem_inj hn).1 (e2.trans e1.symm)
      omega
  · intro h
    have hB : ∀ k, (h : k < B.length) → placeB B (B[k]).1 = k := fun k hk => h k _ (List.getElem?_eq_getElem hk)
    refine List.pairwise_iff_getElem.2 fun i j hi hj hij he => ?_
    simp only [List.getElem_map] at he
    have g1 := hB i (by simpa using hi)
    have g2 := hB j (by simpa using hj)
    rw [he, g2] at g1
    omega

theorem rightR_eq (B : Binds) : rightR B = rightS B := by
  have hadj : ∀ i, ∀ k ∈ adjB B i, k < B.length := fun i k hk => adjB_lt hk
  have hE : ∀ i j, edge (adjB B) i j = true → i < B.length ∧ j < B.length := fun i j h => by
    have h : j ∈ adjB B i := by simpa [edge] using h
    exact ⟨adjB_lt' h, adjB_lt h⟩
  have hA : ((List.range B.length).all fun i => !warsh (edge (adjB B)) B.length i i) = dfsAll (adjB B) B.length (List.range B.length) (List.replicate B.length 0) := by
    have h0 : ∀ j, (List.replicate B.length (0 : Int)).getD j 0 = 0 := fun j => by
      rw [List.getD_eq_getElem?_getD, List.getElem?_replicate]; split <;> rfl
    rw [Bool.eq_iff_iff]
    constructor
    · intro h
      cases hd : dfsAll (adjB B) B.length (List.range B.length) (List.replicate B.length 0) with
      | true => rfl
      | false =>
        obtain ⟨c, hc⟩ := dfsAll_full (adjB B) B.length hadj _ _ (by simp) (by simp) (fun j hj => hj.1 (h0 j)) hd
        have hcl : c < B.length := by
          have key : ∀ {i j : Nat}, Way (edge (adjB B)) i j → j < B.length := fun h => by
            cases h with
            | one h => exact (hE _ _ h).2
            | snoc _ h => exact (hE _ _ h).2
          exact key hc
        have h1 := List.all_eq_true.1 h c (by simpa using hcl)
        rw [warsh_full hE hc] at h1; cases h1
    · intro h
      rw [List.all_eq_true]
      intro i hi
      obtain ⟨m, hm⟩ := dfsAll_sound _ _ (fun j hj => by rw [h0] at hj; cases hj) h i hi
      cases hw : warsh (edge (adjB B)) B.length i i with
      | false => rfl
      | true => exact absurd hm (okn_round (warsh_way _ _ _ _ hw))
  have hF : (List.range B.length).all (okAt B) = (!decide ((ixM (B.map (·.1))).length < B.length) && fineB B) := by
    have hn : (!decide ((ixM (B.map (·.1))).length < B.length)) = true ↔ (B.map (·.1)).Nodup := by
      have := once_len (V := B.map (·.1))
      rw [List.length_map, ← ixM_len] at this
      simp only [Bool.not_eq_true', decide_eq_false_iff_not]
      rw [this]; exact Classical.not_not
    rw [Bool.eq_iff_iff, Bool.and_eq_true, hn, nodup_place, List.all_eq_true, fineB, List.all_eq_true]
    constructor
    · intro h
      have key : ∀ (i : Nat) (b : Int × Tm), B[i]? = some b → (0 ≤ b.1 ∧ b.1 < 1000000) ∧ placeB B b.1 = i ∧ b.2.rightB = true := fun i b hb => by
        have := h i (by simp; exact (List.getElem?_eq_some_iff.1 hb).1)
        rw [okAt, hb] at this
        simp only [Bool.and_eq_true, decide_eq_true_eq] at this
        exact ⟨this.1.1, this.1.2, this.2⟩
      refine ⟨fun i b hb => (key i b hb).2.1, fun b hb => ?_⟩
      obtain ⟨i, hi⟩ := List.mem_iff_getElem?.1 hb
      obtain ⟨h1, _, h3⟩ := key i b hi
      simp [h1.1, h1.2, h3]
    · rintro ⟨h1, h2⟩ i hi
      have hil : i < B.length := by simpa using hi
      have hb : B[i]? = some (B[i]'hil) := List.getElem?_eq_getElem _
      have h3 := h2 _ (List.mem_of_getElem? hb)
      simp only [Bool.and_eq_true, decide_eq_true_eq] at h3
      rw [okAt, hb]
      simp only [Bool.and_eq_true, decide_eq_true_eq]
      exact ⟨⟨h3.1, h1 i _ hb⟩, h3.2⟩
  rw [rightR, hA, hF, rightS]
end PSL

namespace PSL
open Go
def fitF (T : Tm) : Bool := decide (T.size ≤ 3000) && decide (T.depth ≤ 100)
theorem fitF_iff {T : Tm} : fitF T = true ↔ T.size ≤ 3000 ∧ T.depth ≤ 100 := by simp [fitF]
theorem app3_yes {T : Tm} (h : fitF T = true) : app3 T = (T, 0) := by unfold app3; exact if_pos h
theorem app3_no {T : Tm} (h : fitF T = false) : app3 T = (zeroT, 3) := by unfold app3; exact if_neg (by rw [show (decide (T.size ≤ 3000) && decide (T.depth ≤ 100)) = fitF T from rfl, h]; simp)
section
variable {B : Binds} {M : Nat}
end
end PSL

namespace PSL
open Go
namespace Tm

def walkT (B : Binds) : Nat → Tm → Tm
  | 0, t => t
  | f + 1, t => if t.k = 1 then (match findB B t.n with | some x => walkT B f x | none => t) else t
def walkB (B : Binds) (t : Tm) : Tm := walkT B (B.length + 1) t

mutual
def lkT (g : Int → List Int → Bool × List Int) : Tm → List Int → Bool × List Int
  | mk k _ n l, M => if k = 1 then g n M else lkTL g l M
def lkTL (g : Int → List Int → Bool × List Int) : List Tm → List Int → Bool × List Int
  | [], M => (false, M)
  | x :: r, M => if (lkT g x M).1 then (true, (lkT g x M).2) else lkTL g r (lkT g x M).2
end

/-- Is a variable beneath a variable? Each bound one is gone into once. -/
def lkF (B : Binds) (v : Int) : Nat → Int → List Int → Bool × List Int
  | 0, n, M => (decide (n = v), M)
  | u + 1, n, M => if n = v then (true, M) else match findB B n with
    | none => (false, M)
    | some x => if M.contains n then (false, M) else lkT (lkF B v u) x (M ++ [n])
def withB (B : Binds) (v : Int) (t : Tm) : Bool := (lkT (lkF B v (B.length + 1)) t []).1
def clashB (x y : Tm) : Bool := decide (x.k ≠ y.k) || decide (x.n ≠ y.n) || !strEq x.s y.s || decide (x.l.length ≠ y.l.length)

def uniF : Nat → List (Tm × Tm) → Binds → List (Int × Int) → Option (Option Binds)
  | 0, _, _, _ => none
  | f + 1, T, B, met => match T.getLast? with
    | none => some (some B)
    | some (x, y) =>
      if (decide (x.k = 1) && decide (y.k = 1)) && met.contains (x.n, y.n) then uniF f T.dropLast B met else
      let met' := if decide (x.k = 1) && decide (y.k = 1) then met ++ [(x.n, y.n)] else met
      let x' := walkB B x
      let y' := walkB B y
      if x'.k = 1 ∧ y'.k = 1 ∧ x'.n = y'.n then uniF f T.dropLast B met'
      else if x'.k = 1 then (if withB B x'.n y' then some none else uniF f T.dropLast (B ++ [(x'.n, y')]) met')
      else if y'.k = 1 then (if withB B y'.n x' then some none else uniF f T.dropLast (B ++ [(y'.n, x')]) met')
      else if clashB x' y' then some none
      else uniF f (T.dropLast ++ x'.l.zip y'.l) B met'
def solB (σ : Int → Tm) (B : Binds) : Prop := ∀ b ∈ B, σ b.1 = putF σ b.2

theorem putF_var {σ : Int → Tm} {t : Tm} (h : t.k = 1) : putF σ t = σ t.n := by
  cases t; simp only [k, n] at h ⊢; simp only [putF]; rw [if_pos h]

theorem putF_fun {σ : Int → Tm} {t : Tm} (h : t.k ≠ 1) : putF σ t = mk t.k t.s t.n (putFL σ t.l) := by
  cases t; simp only [k, n, s, l] at h ⊢; simp only [putF]; rw [if_neg h]
theorem size_pos (t : Tm) : 1 ≤ size t := by rw [size_eq]; omega

theorem walk_sol {σ : Int → Tm} {B : Binds} (h : solB σ B) : ∀ (f : Nat) (t : Tm), putF σ (walkT B f t) = putF σ t
  | 0, t => rfl
  | f + 1, t => by
    simp only [walkT]
    by_cases hk : t.k = 1
    · rw [if_pos hk]
      cases hf : findB B t.n with
      | none => rfl
      | some x =>
        simp only
        rw [walk_sol h f x, putF_var hk, h _ (findB_mem hf)]
    · rw [if_neg hk]

/-- What was found beneath is no greater. -/
def lkOk (σ : Int → Tm) (v : Int) (g : Int → List Int → Bool × List Int) : Prop := ∀ n M, (g n M).1 = true → size (σ v) ≤ size (σ n)

mutual
theorem lkT_size {σ : Int → Tm} {v : Int} {g : Int → List Int → Bool × List Int} (hg : lkOk σ v g) : ∀ (t : Tm) (M : List Int), (lkT g t M).1 = true → size (σ v) ≤ size (putF σ t) ∧ (t.k ≠ 1 → size (σ v) < size (putF σ t))
  | mk k s n l, M, h => by
    simp only [lkT] at h
    by_cases hk : k = 1
    · rw [if_pos hk] at h
      have := hg n M h
      simp only [putF, if_pos hk, Tm.k]
      exact ⟨this, fun hne => absurd hk hne⟩
    · rw [if_neg hk] at h
      have := lkTL_size hg l M h
      simp only [putF, if_neg hk, size]
      exact ⟨by omega, fun _ => by omega⟩
theorem lkTL_size {σ : Int → Tm} {v : Int} {g : Int → List Int → Bool × List Int} (hg : lkOk σ v g) : ∀ (l : List Tm) (M : List Int), (lkTL g l M).1 = true → size (σ v) ≤ sizeL (putFL σ l)
  | [], M, h => by simp [lkTL] at h
  | x :: r, M, h => by
    simp only [lkTL] at h
    simp only [putFL, sizeL]
    by_cases hx : (lkT g x M).1 = true
    · have := (lkT_size hg x M hx).1; omega
    · rw [if_neg hx] at h
      have := lkTL_size hg r _ h; omega
end

theorem lkF_ok {σ : Int → Tm} {B : Binds} (h : solB σ B) (v : Int) : ∀ u, lkOk σ v (lkF B v u)
  | 0, n, M, hl => by simp only [lkF, decide_eq_true_eq] at hl; rw [hl]; exact Nat.le_refl _
  | u + 1, n, M, hl => by
    simp only [lkF] at hl
    by_cases hn : n = v
    · rw [hn]; exact Nat.le_refl _
    · rw [if_neg hn] at hl
      cases hf : findB B n with
      | none => rw [hf] at hl; cases hl
      | some x =>
        rw [hf] at hl
        simp only at hl
        split at hl
        · cases hl
        · have := (lkT_size (lkF_ok h v u) x _ hl).1
          rw [h _ (findB_mem hf)]; exact this

theorem withB_no {σ : Int → Tm} {B : Binds} (h : solB σ B) {v : Int} {t : Tm} (he : σ v = putF σ t) (hv : ¬ (t.k = 1 ∧ (t.n = v ∨ findB B t.n ≠ none))) : withB B v t = false := by
  cases hw : withB B v t with
  | false => rfl
  | true =>
    exfalso
    unfold withB at hw
    by_cases hk : t.k = 1
    · cases t with
      | mk k s n l =>
        simp only [Tm.k, Tm.n] at hk hv
        simp only [lkT, if_pos hk, lkF] at hw
        rw [if_neg (fun e => hv ⟨hk, .inl e⟩)] at hw
        cases hf : findB B n with
        | none => rw [hf] at hw; cases hw
        | some x => exact hv ⟨hk, .inr (by rw [hf]; simp)⟩
    · have := (lkT_size (lkF_ok h v _) t [] hw).2 hk
      rw [← he] at this; omega
end Tm
end PSL
namespace PSL
open Go
namespace Tm

/-- Chains of variables go on from bind to later bind. -/
structure chainB (B : Binds) : Prop where
  nodup : (B.map (·.1)).Nodup
  chain : ∀ (i : Nat) (b : Int × Tm), B[i]? = some b → b.2.k = 1 → ∀ (j : Nat) (c : Int × Tm), B[j]? = some c → c.1 = b.2.n → i < j
theorem chainB.nil : chainB [] := ⟨by simp, by simp⟩

theorem findB_none_iff {B : Binds} {v : Int} : findB B v = none ↔ ∀ b ∈ B, b.1 ≠ v := by
  unfold findB
  rw [Option.map_eq_none_iff, List.find?_eq_none]
  simp

theorem findB_at {B : Binds} {v : Int} {x : Tm} (h : findB B v = some x) : ∃ j : Nat, B[j]? = some (v, x) := by
  obtain ⟨j, hj⟩ := List.mem_iff_getElem?.1 (findB_mem h)
  exact ⟨j, hj⟩

theorem chainB.snoc {B : Binds} (h : chainB B) {v : Int} {t : Tm} (hv : findB B v = none) (ht : t.k = 1 → findB B t.n = none ∧ t.n ≠ v) : chainB (B ++ [(v, t)]) := by
  have hv' := findB_none_iff.1 hv
  constructor
  · rw [List.map_append, List.nodup_append]
    refine ⟨h.nodup, by simp, ?_⟩
    intro a ha b hb
    simp only [List.map_cons, List.map_nil, List.mem_singleton] at hb
    subst hb
    obtain ⟨c, hc, rfl⟩ := List.mem_map.1 ha
    exact hv' c hc
  · intro i b hb hk j c hc hcn
    rcases Nat.lt_or_ge i B.length with hi | hi
    · rw [List.getElem?_append_left hi] at hb
      rcases Nat.lt_or_ge j B.length with hj | hj
      · rw [List.getElem?_append_left hj] at hc
        exact h.chain i b hb hk j c hc hcn
      · omega
    · rw [List.getElem?_append_right hi] at hb
      have hi0 : i - B.length = 0 := by
        rcases Nat.eq_zero_or_pos (i - B.length) with h | h
        · exact h
        · rw [List.getElem?_eq_none (by simp; omega)] at hb; cases hb
      rw [hi0] at hb; simp at hb; subst hb
      obtain ⟨h1, h2⟩ := ht hk
      exfalso
      rcases Nat.lt_or_ge j B.length with hj | hj
      · rw [List.getElem?_append_left hj] at hc
        exact findB_none_iff.1 h1 c (List.mem_of_getElem? hc) hcn
      · rw [List.getElem?_append_right hj] at hc
        have hj0 : j - B.length = 0 := by
          rcases Nat.eq_zero_or_pos (j - B.length) with h | h
          · exact h
          · rw [List.getElem?_eq_none (by simp; omega)] at hc; cases hc
        rw [hj0] at hc; simp at hc; subst hc
        exact h2 hcn.symm

theorem walk_end {B : Binds} (h : chainB B) : ∀ (f : Nat) (t : Tm), (∀ (j : Nat) (c : Int × Tm), B[j]? = some c → t.k = 1 → c.1 = t.n → B.length - j ≤ f) → (walkT B f t).k = 1 → findB B (walkT B f t).n = none
  | 0, t, hj, hk => by
    simp only [walkT] at hk ⊢
    cases hf : findB B t.n with
    | none => rfl
    | some x =>
      obtain ⟨j, hx⟩ := findB_at hf
      have h1 := hj j _ hx hk rfl
      have := (List.getElem?_eq_some_iff.1 hx).1
      omega
  | f + 1, t, hj, hk => by
    simp only [walkT] at hk ⊢
    by_cases ht : t.k = 1
    · rw [if_pos ht] at hk ⊢
      cases hf : findB B t.n with
      | none => exact hf
      | some x =>
        rw [hf] at hk
        simp only at hk ⊢
        obtain ⟨j, hx⟩ := findB_at hf
        have h1 := hj j _ hx ht rfl
        refine walk_end h f x (fun j' c hc hxk hcn => ?_) hk
        have := h.chain j _ hx hxk j' c hc hcn
        omega
    · rw [if_neg ht] at hk
      exact absurd hk ht
theorem walkB_end {B : Binds} (h : chainB B) {t : Tm} (hk : (walkB B t).k = 1) : findB B (walkB B t).n = none := walk_end h _ t (fun j c hc _ _ => by omega) hk
def fairBB (B : Binds) : Prop := ∀ b ∈ B, b.2.fairR = true ∧ 0 ≤ b.1 ∧ b.1 < 1000000

theorem walk_fair {B : Binds} (h : fairBB B) : ∀ (f : Nat) (t : Tm), t.fairR = true → (walkT B f t).fairR = true
  | 0, t, ht => ht
  | f + 1, t, ht => by
    simp only [walkT]
    split
    · split
      · rename_i x hx; exact walk_fair h f x (h _ (findB_mem hx)).1
      · exact ht
    · exact ht
def sumS (σ : Int → Tm) (T : List (Tm × Tm)) : Nat := (T.map fun p => size (putF σ p.1)).sum
theorem sumS_app (σ : Int → Tm) (A B : List (Tm × Tm)) : sumS σ (A ++ B) = sumS σ A + sumS σ B := by simp [sumS]

theorem sumS_zip (σ : Int → Tm) : ∀ (l m : List Tm), l.length = m.length → sumS σ (l.zip m) = sizeL (putFL σ l)
  | [], [], _ => rfl
  | [], _ :: _, h => by simp at h
  | _ :: _, [], h => by simp at h
  | a :: l, b :: m, h => by
    have := sumS_zip σ l m (by simpa using h)
    simp only [sumS, List.zip_cons_cons, List.map_cons, List.sum_cons, putFL, sizeL] at this ⊢
    omega

theorem zip_sol {σ : Int → Tm} : ∀ (l m : List Tm), putFL σ l = putFL σ m → ∀ p ∈ l.zip m, putF σ p.1 = putF σ p.2
  | [], m, _, p, hp => by simp at hp
  | _ :: _, [], _, p, hp => by simp at hp
  | a :: l, b :: m, h, p, hp => by
    simp only [putFL, List.cons.injEq] at h
    rcases List.mem_cons.1 (by simpa using hp) with e | e
    · rw [e]; exact h.1
    · exact zip_sol l m h.2 p e

structure UInv (σ : Int → Tm) (T : List (Tm × Tm)) (B : Binds) : Prop where
  solb : solB σ B
  solt : ∀ p ∈ T, putF σ p.1 = putF σ p.2
  chain : chainB B
  fairb : fairBB B
  fairt : ∀ p ∈ T, p.1.fairR = true ∧ p.2.fairR = true

/-- What binds make of a term, a unifier makes the same of. -/
theorem full_sol {σ : Int → Tm} {B : Binds} (h : solB σ B) : ∀ (M : Nat) (t : Tm), t.fairR = true → fairBB B → putF σ (fullS B M t) = putF σ t := by
  intro M
  induction M with
  | zero => intro t _ _; rfl
  | succ M ih =>
    intro t hf hb
    simp only [fullS]
    rw [putF_comp]
    congr 1
    funext v
    cases hv : findB B v with
    | none => simp only; rw [putF_var (show (vT v).k = 1 from rfl)]; rfl
    | some x => simp only; rw [ih x (hb _ (findB_mem hv)).1 hb, h _ (findB_mem hv)]
end Tm
end PSL
namespace PSL
open Go
namespace Tm

/-- What was met stays so. -/
def lkExt (g : Int → List Int → Bool × List Int) : Prop := ∀ n M, ∃ R, (g n M).2 = M ++ R

mutual
theorem lkT_ext {g : Int → List Int → Bool × List Int} (hg : lkExt g) : ∀ (t : Tm) (M : List Int), ∃ R, (lkT g t M).2 = M ++ R
  | mk k s n l, M => by
    simp only [lkT]
    split
    · exact hg n M
    · exact lkTL_ext hg l M
theorem lkTL_ext {g : Int → List Int → Bool × List Int} (hg : lkExt g) : ∀ (l : List Tm) (M : List Int), ∃ R, (lkTL g l M).2 = M ++ R
  | [], M => ⟨[], by simp [lkTL]⟩
  | x :: r, M => by
    obtain ⟨R, h⟩ := lkT_ext hg x M
    simp only [lkTL]
    split
    · exact ⟨R, h⟩
    · obtain ⟨R2, h2⟩ := lkTL_ext hg r (lkT g x M).2
      exact ⟨R ++ R2, by rw [h2, h, List.append_assoc]⟩
end

theorem lkF_ext (B : Binds) (v : Int) : ∀ u, lkExt (lkF B v u)
  | 0, n, M => ⟨[], by simp [lkF]⟩
  | u + 1, n, M => by
    simp only [lkF]
    split
    · exact ⟨[], by simp⟩
    · split
      · exact ⟨[], by simp⟩
      · split
        · exact ⟨[], by simp⟩
        · rename_i x _ _
          obtain ⟨R, h⟩ := lkT_ext (lkF_ext B v u) x (M ++ [n])
          exact ⟨n :: R, by rw [h, List.append_assoc]; rfl⟩

theorem count_le (B : Binds) (M R : List Int) : (B.countP fun b => !(M ++ R).contains b.1) ≤ B.countP fun b => !M.contains b.1 := by
  apply List.countP_mono_left
  intro b _ h
  simp only [Bool.not_eq_true', List.contains_eq_mem, decide_eq_false_iff_not, List.mem_append, not_or] at h ⊢
  exact h.1

theorem count_lt {B : Binds} {M : List Int} {n : Int} {x : Tm} (hx : findB B n = some x) (hM : M.contains n = false) : (B.countP fun b => !(M ++ [n]).contains b.1) < B.countP fun b => !M.contains b.1 := by
  obtain ⟨j, hj⟩ := List.mem_iff_append.1 (findB_mem hx)
  obtain ⟨r, rfl⟩ := hj
  have h1 := count_le j M [n]
  have h2 := count_le r M [n]
  have h3 : (!(M ++ [n]).contains n) = false := by simp
  have h4 : (!M.contains n) = true := by rw [hM]; rfl
  simp only [List.countP_append, List.countP_cons, h3, h4]
  simp only [if_true, Bool.false_eq_true, if_false]
  omega

theorem lkT_var {g : Int → List Int → Bool × List Int} {t : Tm} {M : List Int} (h : t.k = 1) : lkT g t M = g t.n M := by
  cases t; simp only [k, n] at h ⊢; simp only [lkT]; rw [if_pos h]

theorem lkT_fun {g : Int → List Int → Bool × List Int} {t : Tm} {M : List Int} (h : t.k ≠ 1) : lkT g t M = lkTL g t.l M := by
  cases t; simp only [k, l] at h ⊢; simp only [lkT]; rw [if_neg h]
end Tm
end PSL
namespace PSL

theorem Tm.length_le_sizeL : ∀ l : List Tm, l.length ≤ Tm.sizeL l
  | [] => by simp
  | x :: l => by have := Tm.length_le_sizeL l; have := Tm.size_pos x; simp only [List.length_cons, Tm.sizeL]; omega
end PSL
namespace PSL
open Go
namespace Tm

theorem UInv.pop {σ : Int → Tm} {R : List (Tm × Tm)} {p : Tm × Tm} {B : Binds} (h : UInv σ (R ++ [p]) B) : UInv σ R B :=
  ⟨h.solb, fun q hq => h.solt q (by simp [hq]), h.chain, h.fairb, fun q hq => h.fairt q (by simp [hq])⟩

theorem UInv.bind {σ : Int → Tm} {R : List (Tm × Tm)} {B : Binds} (h : UInv σ R B) {u t : Tm} (hk : u.k = 1) (hfu : u.fairR = true) (hft : t.fairR = true) (he : putF σ u = putF σ t) (hu : findB B u.n = none) (ht : t.k = 1 → findB B t.n = none ∧ t.n ≠ u.n) : UInv σ R (B ++ [(u.n, t)]) := by
  refine ⟨fun b hb => ?_, h.solt, h.chain.snoc hu ht, fun b hb => ?_, h.fairt⟩
  · rcases List.mem_append.1 hb with hb | hb
    · exact h.solb b hb
    · simp only [List.mem_singleton] at hb; subst hb; simp only; rw [← putF_var (σ := σ) hk]; exact he
  · rcases List.mem_append.1 hb with hb | hb
    · exact h.fairb b hb
    · simp only [List.mem_singleton] at hb; subst hb; exact ⟨hft, occ_range u hfu u.n (occ_var hk)⟩

theorem UInv.zip {σ : Int → Tm} {R : List (Tm × Tm)} {B : Binds} (h : UInv σ R B) {x y : Tm} (hkx : x.k ≠ 1) (hky : y.k ≠ 1) (fx : x.fairR = true) (fy : y.fairR = true) (he : putF σ x = putF σ y) : UInv σ (R ++ x.l.zip y.l) B ∧ x.k = y.k ∧ x.s = y.s ∧ x.n = y.n ∧ x.l.length = y.l.length ∧ sumS σ (R ++ x.l.zip y.l) + 1 = sumS σ R + size (putF σ x) := by
  have hsz : size (putF σ x) = 1 + sizeL (putFL σ x.l) := by rw [putF_fun hkx]; simp only [size]
  rw [putF_fun hkx, putF_fun hky] at he
  simp only [Tm.mk.injEq] at he
  obtain ⟨e1, e2, e3, e4⟩ := he
  have hlen : x.l.length = y.l.length := by rw [← putFL_len σ, e4, putFL_len]
  refine ⟨⟨h.solb, fun q hq => ?_, h.chain, h.fairb, fun q hq => ?_⟩, e1, e2, e3, hlen, ?_⟩
  · rcases List.mem_append.1 hq with hq | hq
    · exact h.solt q hq
    · exact zip_sol _ _ e4 q hq
  · rcases List.mem_append.1 hq with hq | hq
    · exact h.fairt q hq
    · have h1 := List.of_mem_zip hq
      exact ⟨Sub.kid_fair fx h1.1, Sub.kid_fair fy h1.2⟩
  · rw [sumS_app, sumS_zip σ _ _ hlen, hsz]; omega

/-- No term is greater than one bound. -/
def sizT (N : Nat) (T : List (Tm × Tm)) : Prop := ∀ p ∈ T, p.1.size ≤ N ∧ p.2.size ≤ N
def sizB (N : Nat) (B : Binds) : Prop := ∀ b ∈ B, b.2.size ≤ N

theorem walk_siz {N : Nat} {B : Binds} (h : sizB N B) : ∀ (f : Nat) (t : Tm), t.size ≤ N → (walkT B f t).size ≤ N
  | 0, t, ht => ht
  | f + 1, t, ht => by
    simp only [walkT]
    split
    · split
      · rename_i x hx; exact walk_siz h f x (h _ (findB_mem hx))
      · exact ht
    · exact ht

theorem sizB.snoc {N : Nat} {B : Binds} (h : sizB N B) {v : Int} {t : Tm} (ht : t.size ≤ N) : sizB N (B ++ [(v, t)]) := fun b hb => by
  rcases List.mem_append.1 hb with hb | hb
  · exact h b hb
  · simp only [List.mem_singleton] at hb; subst hb; exact ht

theorem sizT.zip {N : Nat} {R : List (Tm × Tm)} (h : sizT N R) {x y : Tm} (hx : x.size ≤ N) (hy : y.size ≤ N) : sizT N (R ++ x.l.zip y.l) := fun q hq => by
  rcases List.mem_append.1 hq with hq | hq
  · exact h q hq
  · have h1 := List.of_mem_zip hq
    have h2 := size_mem h1.1
    have h3 := size_mem h1.2
    have h4 := size_eq x
    have h5 := size_eq y
    omega

/-- What stands between one round and the next. -/
structure URound (σ : Int → Tm) (B' : Binds) (n : Nat) (T : List (Tm × Tm)) (B : Binds) (met : List (Int × Int)) : Prop where
  inv : UInv σ T B
  sum : sumS σ T < n
  few : n + B.length ≤ 20000
  st : sizT 3000 T
  sb : sizB 3000 B
  run : uniF n T B met = some (some B')

theorem URound.pop {σ : Int → Tm} {B' : Binds} {n : Nat} {R : List (Tm × Tm)} {x y : Tm} {B : Binds} {met : List (Int × Int)} (h : URound σ B' n (R ++ [(x, y)]) B met) : ∃ n', n = n' + 1 ∧ sumS σ R + size (putF σ x) < n' + 1 ∧ sizT 3000 R ∧ UInv σ R B ∧ x.size ≤ 3000 ∧ y.size ≤ 3000 ∧ x.fairR = true ∧ y.fairR = true ∧ putF σ x = putF σ y := by
  have h1 := h.sum
  refine ⟨n - 1, by omega, ?_, fun q hq => h.st q (by simp [hq]), h.inv.pop, (h.st (x, y) (by simp)).1, (h.st (x, y) (by simp)).2, (h.inv.fairt (x, y) (by simp)).1, (h.inv.fairt (x, y) (by simp)).2, h.inv.solt (x, y) (by simp)⟩
  rw [sumS_app] at h1
  have : sumS σ [(x, y)] = size (putF σ x) := by simp [sumS]
  omega

theorem uniF_snoc (n : Nat) (R : List (Tm × Tm)) (x y : Tm) (B : Binds) (met : List (Int × Int)) : uniF (n + 1) (R ++ [(x, y)]) B met =
      if (decide (x.k = 1) && decide (y.k = 1)) && met.contains (x.n, y.n) then uniF n R B met else
      let met' := if decide (x.k = 1) && decide (y.k = 1) then met ++ [(x.n, y.n)] else met
      let x' := walkB B x
      let y' := walkB B y
      if x'.k = 1 ∧ y'.k = 1 ∧ x'.n = y'.n then uniF n R B met'
      else if x'.k = 1 then (if withB B x'.n y' then some none else uniF n R (B ++ [(x'.n, y')]) met')
      else if y'.k = 1 then (if withB B y'.n x' then some none else uniF n R (B ++ [(y'.n, x')]) met')
      else if clashB x' y' then some none
      else uniF n (R ++ x'.l.zip y'.l) B met' := by
  simp only [uniF, List.getLast?_append, List.getLast?_singleton, Option.or_some, List.dropLast_concat, Option.some_or]
end Tm
end PSL
namespace PSL
open Go
namespace Tm
def metU (x y : Tm) (met : List (Int × Int)) : List (Int × Int) := if decide (x.k = 1) && decide (y.k = 1) then met ++ [(x.n, y.n)] else met
def skipU (x y : Tm) (met : List (Int × Int)) : Bool := (decide (x.k = 1) && decide (y.k = 1)) && met.contains (x.n, y.n)
section
variable {σ : Int → Tm} {B' : Binds} {n : Nat} {R : List (Tm × Tm)} {x y : Tm} {B : Binds} {met : List (Int × Int)}

theorem URound.skip (h : URound σ B' (n + 1) (R ++ [(x, y)]) B met) (hs : skipU x y met = true) : URound σ B' n R B met := by
  obtain ⟨m, hm, h1, h2, h3, _⟩ := h.pop
  obtain rfl : m = n := by omega
  have hr := h.run
  rw [uniF_snoc, if_pos (show ((decide (x.k = 1) && decide (y.k = 1)) && met.contains (x.n, y.n)) = true from hs)] at hr
  have := size_pos (putF σ x)
  exact ⟨h3, by omega, by have := h.few; omega, h2, h.sb, hr⟩

theorem URound.step (h : URound σ B' (n + 1) (R ++ [(x, y)]) B met) (hs : skipU x y met = false) :
    ((walkB B x).k = 1 → findB B (walkB B x).n = none) ∧ ((walkB B y).k = 1 → findB B (walkB B y).n = none) ∧ (walkB B x).size ≤ 3000 ∧ (walkB B y).size ≤ 3000 ∧
    ((walkB B x).k = 1 ∧ (walkB B y).k = 1 ∧ (walkB B x).n = (walkB B y).n → URound σ B' n R B (metU x y met)) ∧
    (¬ ((walkB B x).k = 1 ∧ (walkB B y).k = 1 ∧ (walkB B x).n = (walkB B y).n) →
      ((walkB B x).k = 1 → withB B (walkB B x).n (walkB B y) = false ∧ URound σ B' n R (B ++ [((walkB B x).n, walkB B y)]) (metU x y met)) ∧
      (¬ (walkB B x).k = 1 → ((walkB B y).k = 1 → withB B (walkB B y).n (walkB B x) = false ∧ URound σ B' n R (B ++ [((walkB B y).n, walkB B x)]) (metU x y met)) ∧
        (¬ (walkB B y).k = 1 → (walkB B x).k = (walkB B y).k ∧ (walkB B x).s = (walkB B y).s ∧ (walkB B x).n = (walkB B y).n ∧ (walkB B x).l.length = (walkB B y).l.length ∧ URound σ B' n (R ++ (walkB B x).l.zip (walkB B y).l) B (metU x y met)))) := by
  obtain ⟨m, hm, h1, h2, h3, sx, sy, fx, fy, he⟩ := h.pop
  obtain rfl : m = n := by omega
  have hr := h.run
  rw [uniF_snoc, if_neg (by rw [show ((decide (x.k = 1) && decide (y.k = 1)) && met.contains (x.n, y.n)) = false from hs]; simp)] at hr
  have hr : (if (walkB B x).k = 1 ∧ (walkB B y).k = 1 ∧ (walkB B x).n = (walkB B y).n then uniF m R B (metU x y met)
      else if (walkB B x).k = 1 then (if withB B (walkB B x).n (walkB B y) then some none else uniF m R (B ++ [((walkB B x).n, walkB B y)]) (metU x y met))
      else if (walkB B y).k = 1 then (if withB B (walkB B y).n (walkB B x) then some none else uniF m R (B ++ [((walkB B y).n, walkB B x)]) (metU x y met))
      else if clashB (walkB B x) (walkB B y) then some none
      else uniF m (R ++ (walkB B x).l.zip (walkB B y).l) B (metU x y met)) = some (some B') := hr
  have wx : putF σ (walkB B x) = putF σ x := walk_sol h.inv.solb _ x
  have wy : putF σ (walkB B y) = putF σ y := walk_sol h.inv.solb _ y
  have ex := walkB_end h.inv.chain (t := x)
  have ey := walkB_end h.inv.chain (t := y)
  have gx : (walkB B x).fairR = true := walk_fair h.inv.fairb _ x fx
  have gy : (walkB B y).fairR = true := walk_fair h.inv.fairb _ y fy
  have zx : (walkB B x).size ≤ 3000 := walk_siz h.sb _ x sx
  have zy : (walkB B y).size ≤ 3000 := walk_siz h.sb _ y sy
  have few := h.few
  have sb := h.sb
  have solb := h.inv.solb
  rw [← wx, ← wy] at he
  rw [← wx] at h1
  clear wx wy
  generalize walkB B x = x' at *
  generalize walkB B y = y' at *
  generalize metU x y met = met' at *
  have hp := size_pos (putF σ x')
  refine ⟨ex, ey, zx, zy, fun hc => ?_, fun hc => ⟨fun hk => ?_, fun hkx => ⟨fun hk => ?_, fun hky => ?_⟩⟩⟩
  · rw [if_pos hc] at hr
    exact ⟨h3, by omega, by omega, h2, sb, hr⟩
  · rw [if_neg hc, if_pos hk] at hr
    have hw : withB B x'.n y' = false := withB_no solb (by rw [← putF_var (σ := σ) hk]; exact he) (fun ⟨g1, g2⟩ => by
        rcases g2 with g2 | g2
        · exact hc ⟨hk, g1, g2.symm⟩
        · exact g2 (ey g1))
    rw [hw, if_neg (by simp)] at hr
    exact ⟨hw, h3.bind hk gx gy he (ex hk) (fun g => ⟨ey g, fun e => hc ⟨hk, g, e.symm⟩⟩), by omega, by simp; omega, h2, sb.snoc zy, hr⟩
  · rw [if_neg hc, if_neg hkx, if_pos hk] at hr
    have hw : withB B y'.n x' = false := withB_no solb (by rw [← putF_var (σ := σ) hk]; exact he.symm) (fun ⟨g1, _⟩ => hkx g1)
    rw [hw, if_neg (by simp)] at hr
    exact ⟨hw, h3.bind hk gy gx he.symm (ey hk) (fun g => absurd g hkx), by omega, by simp; omega, h2, sb.snoc zx, hr⟩
  · obtain ⟨g1, g2, g3, g4, g5, g6⟩ := h3.zip hkx hky gx gy he
    have hcl : clashB x' y' = false := by unfold clashB; simp [g2, g3, g4, g5, strEq]
    rw [if_neg hc, if_neg hkx, if_neg hky, hcl, if_neg (by simp)] at hr
    exact ⟨g2, g3, g4, g5, g1, by omega, by omega, h2.zip zx zy, sb, hr⟩
end
end Tm
end PSL

namespace PSL
open Go Go.RowKit Go.MapKept
def pkV (p : Int × Int) : Value := .agg #[.int .i64 p.1, .int .i64 p.2]
def pmap (l : List ((Int × Int) × AV)) : List (Value × AV) := l.map fun e => (pkV e.1, e.2)

def getP : List ((Int × Int) × AV) → Int × Int → Option AV
  | [], _ => none
  | e :: r, p => if e.1 = p then some e.2 else getP r p

structure PKey (P : Program) (kt : TypeId) : Prop where
  und : ∃ n e, P.underlying kt = some (.array n e)
  eq : ∀ p q w, (Op.equal kt (pkV p) (pkV q)).run P w = .ok (decide (p = q)) w
  ck : ∀ b p w, (Instr.checkKey b 10000 kt (pkV p)).run P w = .ok () w

theorem findP_ok {P : Program} {kt : TypeId} (hk : PKey P kt) {S : Nat → Prop} {w : World} {φ : List Phy} (p : Int × Int) : ∀ {l : List ((Int × Int) × AV)} {ents : List MapEntry} {i : Nat}, EntsOk S w φ (pmap l) ents →
    match getP l p with
    | none => (Instr.findAsking kt (pkV p) ents i).run P w = .ok none w
    | some x => ∃ j v, (Instr.findAsking kt (pkV p) ents i).run P w = .ok (some (j, v)) w ∧ RV S w φ x v
  | [], ents, i, h => by
    cases ents with
    | nil => simp [getP, Instr.findAsking]
    | cons _ _ => have := h.1; simp [pmap] at this
  | e :: l, ents, i, h => by
    cases ents with
    | nil => have := h.1; simp [pmap] at this
    | cons f ents =>
      obtain ⟨h1, h2⟩ := h
      simp only [pmap, List.map_cons, List.cons.injEq] at h1
      obtain ⟨hf, h1⟩ := h1
      simp only [pmap, List.map_cons, RVs] at h2
      simp only [getP]
      by_cases he : e.1 = p
      · rw [if_pos he]
        refine ⟨i, f.val, ?_, h2.1⟩
        simp only [Instr.findAsking, Sem.run_bind, ← hf, hk.eq, Result.andThen_ok]
        simp [he]
      · rw [if_neg he]
        have hd : decide (p = e.1) = false := decide_eq_false fun h => he h.symm
        have := findP_ok hk p (l := l) (ents := ents) (i := i + 1) ⟨by simpa [pmap] using h1, by simpa [pmap] using h2.2⟩
        have hstep : (Instr.findAsking kt (pkV p) (f :: ents) i).run P w = (Instr.findAsking kt (pkV p) ents (i + 1)).run P w := by
          simp only [Instr.findAsking, Sem.run_bind, ← hf, hk.eq, Result.andThen_ok, hd]
          simp
        cases hg : getP l p with
        | none => rw [hg] at this; simp only at this ⊢; rw [hstep]; exact this
        | some x => rw [hg] at this; simp only at this ⊢; rw [hstep]; exact this

theorem run_findKeyP {P : Program} {kt : TypeId} (hk : PKey P kt) {w : World} (p : Int × Int) {ents : List MapEntry} (h : ents = [] ∨ ∃ q, ∃ f r, ents = f :: r ∧ f.key = pkV q) : (Instr.findKey kt (pkV p) ents).run P w = (Instr.findAsking kt (pkV p) ents 0).run P w := by
  obtain ⟨n, e, hu⟩ := hk.und
  rcases h with rfl | ⟨q, f, r, rfl, hf⟩
  · simp [Instr.findKey, run_underlying hu, Instr.findNow, Instr.findAsking]
  · simp [Instr.findKey, run_underlying hu, Instr.findNow, Instr.sameNow, pkV]

theorem entsP_head {S : Nat → Prop} {w : World} {φ : List Phy} {l : List ((Int × Int) × AV)} {ents : List MapEntry} (h : EntsOk S w φ (pmap l) ents) : ents = [] ∨ ∃ q, ∃ f r, ents = f :: r ∧ f.key = pkV q := by
  cases ents with
  | nil => exact .inl rfl
  | cons f r =>
    cases l with
    | nil => have := h.1; simp [pmap] at this
    | cons e l =>
      have := h.1
      simp only [pmap, List.map_cons, List.cons.injEq] at this
      exact .inr ⟨e.1, f, r, rfl, this.1.symm⟩
section
variable {g : G} {pf : Nat → Cls} {ops : Array Oper} {Fin : Exit → Act → World → Prop}

theorem pk_rv {S : Nat → Prop} {w : World} {φ : List Phy} {a b : Int} {v : Value} (h : RV S w φ (.agg [iV a, iV b]) v) : v = pkV (a, b) := by
  simp only [RV] at h
  obtain ⟨cs, rfl, h⟩ := h
  match cs, h with
  | [x, y], h =>
    simp only [RVs, iV, RV, and_true] at h
    obtain ⟨h1, h2⟩ := h
    cases h1; cases h2
    rfl
  | [], h => simp [RVs] at h
  | [_], h => simp [RVs] at h
  | _ :: _ :: _ :: _, h => simp [RVs] at h

theorem R_lookupP (hg : GOk g) {dst : Option Nat} {T : Nat} {x y : Operand} {ok : Bool} {ty : Nat} {pos : String} {after : Array Edge} {gd : Option (Nat × Bool)} {rest : List Oper} {k : List It} {E : Env} {objs : List Ob}
    {i q by_ kt et : Nat} {z : List Value} {a b : Int} {zv : Value} (l : List ((Int × Int) × AV)) (hk : PKey g.P kt)
    (hgd : guardA ops.toList E gd = some true) (hd : dstOk ⟨g.ty, g.N⟩ dst = true) (hx : ev E x = .mp i) (ho : nth objs i = some (.map (pmap l))) (hy : ev E y = .agg [iV a, iV b]) (hT : g.ty T = some ⟨q, by_, z, .map kt et⟩)
    (hz : (g.P.info? et).bind (·.zero) = some zv) {v : AV} (hv : lookI' ok (cstV zv) (getP l (a, b)) = v)
    (hr : R g pf Fin (.dr ops rest :: k) (putO E dst v) objs) : R g pf Fin (.dr ops (⟨dst, .lookup T x y ok, ty, pos, after, gd⟩ :: rest) :: k) E objs := by
  subst hv
  refine R_op (LocOp.lookingM hg 1 hgd hd (by simp) fun φ a' w objs₁ hgr hρ hs => ?_) hr
  simp only [Op.operands] at hρ
  have hxv := hρ x (by simp)
  rw [hx] at hxv
  have hyv := hρ y (by simp)
  rw [hy] at hyv
  have hvy := pk_rv hyv
  simp only [RV] at hxv
  obtain ⟨b', hb, hxv⟩ := hxv
  have ho : nth objs₁ i = some (.map (pmap l)) := by
    rw [nth_eq] at ho ⊢
    exact Gr.same hgr ho (by rw [← hs.len]; exact (List.getElem?_eq_some_iff.1 hb).1) (by simp [Ob.lvl])
  have hko := obj_at hs hb ho
  simp only [ObOk] at hko
  obtain ⟨ents, clk, hheap, hents⟩ := hko
  have hT' : g.P.underlying T = some (.map kt et) := by have := (hg.ty _ _ hT).sh; simpa only [ShFact] using this
  have hzero : (zeroValue et).run g.P w = .ok zv w := by
    obtain ⟨inf, h1, h2⟩ := Option.bind_eq_some_iff.1 hz
    simp [zeroValue, typeInfo, h1, h2]
  have hzR : RV (SS g.S0 φ) w φ (cstV zv) zv := rv_restr (l := []) (E := []) (E₁ := []) (a := { tmps := #[], defers := [] }) (by simp) (fun t => by simp [lk, RV]) (.const zv)
  have hfind := findP_ok hk (a, b) (i := 0) hents
  have hfk := run_findKeyP hk (w := w) (a, b) (entsP_head hents)
  cases hg' : getP l (a, b) with
  | none =>
    rw [hg'] at hfind
    simp only at hfind
    refine out_val hs (vv := if ok then .tuple #[zv, .bool false] else zv) ?_ ?_
    · simp [execOp, Instr.lookup, run_underlying hT', hxv, run_getObj_map hheap, hvy, hk.ck, hfk, hfind, hzero]
    · simp only [lookI']
      cases ok
      · simpa using hzR
      · simp only [if_true, RV]
        exact ⟨[zv, .bool false], rfl, by simp only [RVs, RV, bV, and_true]; exact ⟨hzR, .v _⟩⟩
  | some x =>
    rw [hg'] at hfind
    simp only at hfind
    obtain ⟨j, vv, h1, h2⟩ := hfind
    refine out_val hs (vv := if ok then .tuple #[vv, .bool true] else vv) ?_ ?_
    · simp [execOp, Instr.lookup, run_underlying hT', hxv, run_getObj_map hheap, hvy, hk.ck, hfk, h1]
    · simp only [lookI']
      cases ok
      · simpa using h2
      · simp only [if_true, RV]
        exact ⟨[vv, .bool true], rfl, by simp only [RVs, RV, bV, and_true]; exact ⟨h2, .v _⟩⟩

/-- A new entry. -/
theorem R_mapAddP (hg : GOk g) {dst : Option Nat} {T : Nat} {x y v : Operand} {ty : Nat} {pos : String} {after : Array Edge} {gd : Option (Nat × Bool)} {rest : List Oper} {k : List It} {E : Env} {objs : List Ob}
    {i q by_ kt et : Nat} {z : List Value} {a b : Int} (l : List ((Int × Int) × AV)) (hk : PKey g.P kt)
    (hgd : guardA ops.toList E gd = some true) (hd : dstOk ⟨g.ty, g.N⟩ dst = true) (hx : ev E x = .mp i) (ho : nth objs i = some (.map (pmap l))) (hy : ev E y = .agg [iV a, iV b]) (hT : g.ty T = some ⟨q, by_, z, .map kt et⟩)
    (hf : getP l (a, b) = none)
    (hr : R g pf Fin (.dr ops rest :: k) (putO E dst .any) (setN objs i (.map (pmap (l ++ [((a, b), ev E v)]))))) : R g pf Fin (.dr ops (⟨dst, .mapUpdate T x y v, ty, pos, after, gd⟩ :: rest) :: k) E objs := by
  refine R_op (LocOp.turning hg (grow_map ho) hgd hd (by simp) fun φ a' w hρ hs => ?_) hr
  simp only [Op.operands] at hρ
  have hxv := hρ x (by simp)
  rw [hx] at hxv
  have hyv := hρ y (by simp)
  rw [hy] at hyv
  have hvy := pk_rv hyv
  have hvv := hρ v (by simp)
  simp only [RV] at hxv
  obtain ⟨b', hb, hxv⟩ := hxv
  have hko := obj_at hs hb ho
  simp only [ObOk] at hko
  obtain ⟨ents, clk, hheap, hents⟩ := hko
  have hT' : g.P.underlying T = some (.map kt et) := by have := (hg.ty _ _ hT).sh; simpa only [ShFact] using this
  have hfind := findP_ok hk (a, b) (i := 0) hents
  have hfk := run_findKeyP hk (w := w) (a, b) (entsP_head hents)
  rw [hf] at hfind
  simp only at hfind
  have hset := heap_set (o' := .map (ents.push { key := pkV (a, b), val := a'.eval v, born := clk }) (clk + 1)) hheap
  rw [setN_eq]
  refine ⟨.skip, undef, { w with heap := w.heap.setIfInBounds b' (.map (ents.push { key := pkV (a, b), val := a'.eval v, born := clk }) (clk + 1)) }, φ.set i (.blk b'), ?_, .inr ⟨rfl, rfl⟩, by simp [RV], ?_⟩
  · simp [execOp, Instr.mapUpdate, run_underlying hT', hxv, run_getObj_map hheap, hvy, hk.ck, hfk, hfind, run_setObj_map _ hheap]
  · refine Stp.swap hs hb (.inl rfl) (by simp) (fun c _ hc => hset.2 c fun e => hc (by rw [e]; rfl)) (fun b' hb => .inl hb) rfl rfl rfl fun hkeep hle => ?_
    simp only [ObOk]
    refine ⟨_, _, hset.1, ?_, ?_⟩
    · have := hents.1
      simp only [pmap, List.map_append, List.map_map, List.map_cons, List.map_nil, Array.toList_push] at this ⊢
      rw [this]
    · have := (hents.2.mono hkeep hle).append (l' := [ev E v]) (vs' := [a'.eval v]) (by simp only [RVs, and_true]; exact hvv.mono hkeep hle)
      simpa [pmap] using this

/-- A new entry, of which less is kept in mind. -/
theorem R_mapAddW (hg : GOk g) {dst : Option Nat} {T : Nat} {x y v : Operand} {ty : Nat} {pos : String} {after : Array Edge} {gd : Option (Nat × Bool)} {rest : List Oper} {k : List It} {E : Env} {objs : List Ob}
    {i q by_ q' by' kt et : Nat} {z z' : List Value} {n : Int} (v' : AV) (l l' : List (Int × AV))
    (hgd : guardA ops.toList E gd = some true) (hd : dstOk ⟨g.ty, g.N⟩ dst = true) (hx : ev E x = .mp i) (ho : nth objs i = some (.map (imap l))) (hy : ev E y = .d (.v (.int .i64 n))) (hT : g.ty T = some ⟨q, by_, z, .map kt et⟩)
    (hkt : g.ty kt = some ⟨q', by', z', .int .i64⟩) (hf : getI l n = none) (hv : Ent (ev E v) v') (hl : l ++ [(n, v')] = l')
    (hr : R g pf Fin (.dr ops rest :: k) (putO E dst .any) (setN objs i (.map (imap l')))) : R g pf Fin (.dr ops (⟨dst, .mapUpdate T x y v, ty, pos, after, gd⟩ :: rest) :: k) E objs := by
  subst hl
  have hu := (hg.ty _ _ hkt).sh
  simp only [ShFact] at hu
  obtain ⟨r, h1, h2⟩ := findA_getI (k' := .i64) (n := n) (l := l) (i := 0)
  have : r = none := by rw [hf] at h2; cases r with
    | none => rfl
    | some _ => simp at h2
  subst this
  refine R_op (LocOp.turning hg (grow_map ho) hgd hd (by simp) fun φ a w hρ hs => ?_) hr
  simp only [Op.operands] at hρ
  have hxv := hρ x (by simp)
  rw [hx] at hxv
  have hyv := hρ y (by simp)
  rw [hy] at hyv
  have hvv := hv _ _ _ _ (hρ v (by simp))
  simp only [RV] at hxv hyv
  obtain ⟨b, hb, hxv⟩ := hxv
  generalize hvy : a.eval y = vy at hyv
  cases hyv
  have hk := obj_at hs hb ho
  simp only [ObOk] at hk
  obtain ⟨ents, clk, hheap, hents⟩ := hk
  have hT' : g.P.underlying T = some (.map kt et) := by have := (hg.ty _ _ hT).sh; simpa only [ShFact] using this
  have hfind := findA_ok hents h1
  simp only at hfind
  have hset := heap_set (o' := .map (ents.push { key := .int .i64 n, val := a.eval v, born := clk }) (clk + 1)) hheap
  rw [setN_eq]
  refine ⟨.skip, undef, { w with heap := w.heap.setIfInBounds b (.map (ents.push { key := .int .i64 n, val := a.eval v, born := clk }) (clk + 1)) }, φ.set i (.blk b), ?_, .inr ⟨rfl, rfl⟩, by simp [RV], ?_⟩
  · simp [execOp, Instr.mapUpdate, run_underlying hT', hxv, run_getObj_map hheap, hvy, run_checkKey hu (show IsKey (.int .i64) (.int .i64 n) by simp [IsKey]), run_findKey hu hfind, run_setObj_map _ hheap]
  · refine Stp.swap hs hb (.inl rfl) (by simp) (fun c _ hc => hset.2 c fun e => hc (by rw [e]; rfl)) (fun b' hb => .inl hb) rfl rfl rfl fun hkeep hle => ?_
    simp only [ObOk]
    refine ⟨_, _, hset.1, ?_, ?_⟩
    · have := hents.1
      simp only [imap, List.map_append, List.map_map, List.map_cons, List.map_nil, Array.toList_push] at this ⊢
      rw [this]
    · have := (hents.2.mono hkeep hle).append (l' := [v']) (vs' := [a.eval v]) (by simp only [RVs, and_true]; exact hvv.mono hkeep hle)
      simpa [imap] using this

open Classical in
/-- A slice of one element written out, as data. -/
theorem R_buildF (hg : GOk g) {dst : Option Nat} {T : Nat} {x : Operand} {ty : Nat} {pos : String} {after : Array Edge} {gd : Option (Nat × Bool)} {rest : List Oper} {k : List It} {E : Env} {objs : List Ob} (v : AV)
    (hgd : guardA ops.toList E gd = some true) (hd : dstOk ⟨g.ty, g.N⟩ dst = true) (h : stepS g.ty (fun y => if y = x then ev E x else .any) (.buildSlice T 1 #[(0, x)]) = some v)
    (hr : R g pf Fin (.dr ops rest :: k) (putO E dst v) objs) : R g pf Fin (.dr ops (⟨dst, .buildSlice T 1 #[(0, x)], ty, pos, after, gd⟩ :: rest) :: k) E objs := by
  refine R_op (LocOp.up (LocOp.quiet hg hgd hd (by simp) fun φ o₁ a w hρ hs => ?_)) hr
  simp only [Op.operands] at hρ
  have hxv := hρ x (by simp)
  refine stepOp_ok (ρA := fun y => if y = x then ev E x else .any) hg.ty hs (fun y => ?_) ?_
  · split
    · rename_i h; rw [h]; exact hxv
    · simp [RV]
  · simp only [stepOp, h]

theorem buildS_one {ty : Nat → Option Ty} {T e sz by_ : Nat} {z : List Value} {τ : Ty} {x : Operand} {v : AV} {rows : List (List D)} (hT : ty T = some ⟨sz, by_, z, .slice e⟩) (he : ty e = some τ) (hr : rowsOf [(0, v)] 0 τ.size = some rows) (hl : rows.length = 1) (hb : τ.size ≤ 1000) : (open Classical in stepS ty (fun y => if y = x then v else .any) (.buildSlice T 1 #[(0, x)])) = some (.fs rows) := by
  have h1 : Nat.beq (len rows) 1 = true := by rw [len_eq, hl]; rfl
  have h2 : Nat.ble τ.size 100000 = true := Nat.ble_eq_true_of_le (by omega)
  have h3 : Nat.ble 1 100000 = true := rfl
  simp [stepS, hT, he, hr, h1, h2, h3]

theorem R_mapAddPO (hg : GOk g) {dst : Option Nat} {T : Nat} {x y v : Operand} {ty : Nat} {pos : String} {after : Array Edge} {gd : Option (Nat × Bool)} {rest : List Oper} {k : List It} {E : Env} {objs : List Ob}
    {i q by_ kt et : Nat} {z : List Value} {a b : Int} {v' : AV} (l l' : List ((Int × Int) × AV)) (hk : PKey g.P kt)
    (hgd : guardA ops.toList E gd = some true) (hd : dstOk ⟨g.ty, g.N⟩ dst = true) (hx : ev E x = .mp i) (ho : nth objs i = some (.map (pmap l))) (hy : ev E y = .agg [iV a, iV b]) (hT : g.ty T = some ⟨q, by_, z, .map kt et⟩)
    (hf : getP l (a, b) = none) (hv : ev E v = v') (hl : l ++ [((a, b), v')] = l')
    (hr : R g pf Fin (.dr ops rest :: k) (putO E dst .any) (setN objs i (.map (pmap l')))) : R g pf Fin (.dr ops (⟨dst, .mapUpdate T x y v, ty, pos, after, gd⟩ :: rest) :: k) E objs := by
  subst hl; subst hv
  exact R_mapAddP hg l hk hgd hd hx ho hy hT hf hr
end
end PSL

namespace Go.Proofs.Ytppghekipbnjhaa
open Go PSL Go.Proofs
def zTmV : Value := .agg #[.int .i64 0, .string ByteArray.empty, .int .i64 0, .slice none 0 0]
def zTmA : AV := .agg [iV 0, .d (.v (.string ByteArray.empty)), iV 0, .d (.v (.slice none 0 0))]
theorem tmM_snoc (B : Binds) (v : Int) (t : Tm) : tmM B ++ [(v, t.av)] = tmM (B ++ [(v, t)]) := by simp [tmM]

theorem tmM_mapOb {f : AV → AV} (h : ∀ t : Tm, f t.av = t.av) (B : Binds) : mapOb f (.map (imap (tmM B))) = .map (imap (tmM B)) := by
  simp [mapOb, imap, tmM, h]
theorem irows_snoc1 (l : List Int) (v : Int) : irows l ++ [[.v (.int .i64 v)]] = irows (l ++ [v]) := by simp [irows, irow]

set_option maxRecDepth 100000 in
theorem uniNew_ok (Y : YP) : SCtr Try.prog Y 44 [] [] (.lo 1 0) [.map [], .box [.mp 0, .d (.v (.slice none 0 0))]] := by
  refine SCtr.of_R (pf := fun _ => .eff) tyOk mixed Try.func44 rfl (by kernel_rfl) (by kernel_rfl) (by simp [Try.ntmps44]) (by simp) fun w S φ hg => ?_
  refine R_run hg.ok 1000 rfl rfl ?_
  refine R_makeMap hg.ok rfl rfl ?_
  refine R_run hg.ok 1000 rfl rfl ?_
  exact R_retS hg 2 5 (by simp) rfl rfl rfl

theorem setM_get : ∀ (M : List Int) (n : Int), getI (M.map fun n => (n, bV true)) n = if M.contains n then some (bV true) else none
  | [], n => rfl
  | m :: M, n => by
    simp only [List.map_cons, getI, List.contains_cons]
    by_cases h : m = n
    · simp [h]
    · rw [if_neg h, setM_get M n]
      have : (n == m) = false := by simp; exact fun e => h e.symm
      rw [this, Bool.false_or]

theorem setM_mapOb {f : AV → AV} (h : ∀ b, f (bV b) = bV b) (M : List Int) : mapOb f (.map (imap (M.map fun n => (n, bV true)))) = .map (imap (M.map fun n => (n, bV true))) := by
  simp [mapOb, imap, h]
end Go.Proofs.Ytppghekipbnjhaa

namespace PSL
open Go
abbrev Prs := List (Tm × Tm)
def prsRow (p : Tm × Tm) : List D := Tm.row p.1 ++ Tm.row p.2
def prsRows (M : Prs) : List (List D) := M.map prsRow
theorem prsRows_len (l : Prs) : (prsRows l).length = l.length := by simp [prsRows]
theorem prsRows_get {l : Prs} {i : Nat} {x : Tm × Tm} (h : l[i]? = some x) : (prsRows l)[i]? = some (prsRow x) := by simp [prsRows, h]
namespace Tm
end Tm
end PSL
namespace PSL
open Go
end PSL

namespace Go.Proofs.Ytppghekipbnjhaa
open Go PSL Go.Proofs
theorem prs_snoc (M : Prs) (a b : Tm) : prsRows M ++ [[.v (.int .i64 a.k), .v (.string a.s), .v (.int .i64 a.n), .sl (Tm.rows a.l), .v (.int .i64 b.k), .v (.string b.s), .v (.int .i64 b.n), .sl (Tm.rows b.l)]] = prsRows (M ++ [(a, b)]) := by simp [prsRows, prsRow, Tm.row]
end Go.Proofs.Ytppghekipbnjhaa

namespace Go.Proofs.Ytppghekipbnjhaa
open Go PSL Go.Proofs

theorem pairCk (d : Nat) (b : Bool) (p : Int × Int) (w : World) : (Instr.checkKey b (d + 1 + 1) 133 (pkV p)).run Try.prog w = .ok () w := by
  obtain ⟨i, hi⟩ := info_of_underlying Try.underlying3
  simp [Instr.checkKey, pkV, part, run_sizeOf w hi, Std.Legacy.Range.forIn_eq_forIn_range', Std.Legacy.Range.size, List.range']

theorem pairEq (d : Nat) (p q : Int × Int) (w : World) : (Op.equalIn (d + 1 + 1) 133 (pkV p) (pkV q)).run Try.prog w = .ok (decide (p = q)) w := by
  obtain ⟨i, hi⟩ := info_of_underlying Try.underlying3
  have hc : Try.prog.cellsOf 3 = 1 := by kernel_rfl
  unfold pkV
  rw [run_equalIn_array (w := w) (d + 1) _ _ Try.underlying133 hi, hc]
  simp only [List.range, List.range.loop, Op.eqItems]
  obtain ⟨p1, p2⟩ := p
  obtain ⟨q1, q2⟩ := q
  simp [part, run_equalIn_int _ _ _ _ _ _ _ Try.underlying3]
  by_cases h1 : p1 = q1 <;> by_cases h2 : p2 = q2 <;> simp [h1, h2]
theorem uniKey : PKey Try.prog 133 := ⟨⟨_, _, Try.underlying133⟩, fun p q w => pairEq 9998 p q w, fun b p w => pairCk 9998 b p w⟩
def pfUni : Nat → Cls := fun f => bif Nat.beq f 4800100000 then .turn 100 else bif Nat.beq f 4000000005 then .turn 0 else bif Nat.beq f 4000000004 then .turn 1 else bif Nat.beq f 4900100004 then .turn 100 else bif Nat.beq f 4000000006 then .turn 201 else bif Nat.beq f 4000100027 then .look 10001 else bif Nat.beq f 4000100034 then .look 10001 else bif Nat.beq f 4000300023 then .look 10001 else bif Nat.beq f 4000300030 then .look 10001 else bif Nat.beq f 4000200009 then .turn 10000 else bif Nat.beq f 4000200010 then .turn 10000 else bif Nat.beq f 97 then .turn 3 else bif Nat.beq f 4000100009 then .look 4 else bif Nat.beq f 4000100010 then .look 4 else .eff
def metP (met : List (Int × Int)) : List ((Int × Int) × AV) := met.map fun p => (p, AV.tt)

theorem metP_get : ∀ (met : List (Int × Int)) (p : Int × Int), getP (metP met) p = if met.contains p then some AV.tt else none
  | [], p => rfl
  | m :: met, p => by
    simp only [metP, List.map_cons, getP, List.contains_cons]
    by_cases h : m = p
    · simp [h]
    · rw [if_neg h, show getP (List.map (fun p => (p, AV.tt)) met) p = getP (metP met) p from rfl, metP_get met p]
      have : (p == m) = false := by simp; exact fun e => h e.symm
      rw [this, Bool.false_or]

theorem metP_mapOb {f : AV → AV} (h : f .tt = .tt) (met : List (Int × Int)) : mapOb f (.map (pmap (metP met))) = .map (pmap (metP met)) := by
  simp [mapOb, pmap, metP, h]
theorem prs_snoc2 (M : List (Tm × Tm)) (a b : Tm) : prsRows M ++ [[.v (.int .i64 a.k), .v (.string a.s), .v (.int .i64 a.n), .sl (Tm.rows a.l), .v (.int .i64 b.k), .v (.string b.s), .v (.int .i64 b.n), .sl (Tm.rows b.l)]] = prsRows (M ++ [(a, b)]) := prs_snoc M a b
end Go.Proofs.Ytppghekipbnjhaa

namespace PSL
open Go
namespace Tm

/-- What was met newly leads to what was met, and never to the variable. -/
def Cl (B : Binds) (v : Int) (M M' : List Int) : Prop := ∀ n ∈ M', n ∈ M ∨ ∃ x, findB B n = some x ∧ ∀ u ∈ occ x, u ≠ v ∧ (findB B u ≠ none → u ∈ M')

theorem Cl.trans {B : Binds} {v : Int} {M M1 M2 : List Int} (h1 : Cl B v M M1) (h2 : Cl B v M1 M2) (hs : ∀ n ∈ M1, n ∈ M2) : Cl B v M M2 := fun n hn => by
  rcases h2 n hn with h | h
  · rcases h1 n h with h | ⟨x, hx, hu⟩
    · exact .inl h
    · exact .inr ⟨x, hx, fun u hu1 => ⟨(hu u hu1).1, fun hb => hs u ((hu u hu1).2 hb)⟩⟩
  · exact .inr h
def cntB (B : Binds) (M : List Int) : Nat := B.countP fun b => !M.contains b.1

/-- A search that finds nothing. -/
def lkCl (B : Binds) (v : Int) (u : Nat) (g : Int → List Int → Bool × List Int) : Prop := ∀ n M, cntB B M < u → (g n M).1 = false → (∀ m ∈ M, m ∈ (g n M).2) ∧ Cl B v M (g n M).2 ∧ n ≠ v ∧ (findB B n ≠ none → n ∈ (g n M).2)

mutual
theorem lkT_cl {B : Binds} {v : Int} {u : Nat} {g : Int → List Int → Bool × List Int} (he : lkExt g) (hg : lkCl B v u g) : ∀ (t : Tm) (M : List Int), cntB B M < u → (lkT g t M).1 = false → (∀ m ∈ M, m ∈ (lkT g t M).2) ∧ Cl B v M (lkT g t M).2 ∧ ∀ n ∈ occ t, n ≠ v ∧ (findB B n ≠ none → n ∈ (lkT g t M).2)
  | mk k s n l, M, hM, h => by
    simp only [lkT, occ] at h ⊢
    split at h
    · rename_i hk
      rw [if_pos hk, if_pos hk]
      obtain ⟨h1, h2, h3, h4⟩ := hg n M hM h
      exact ⟨h1, h2, fun m hm => by simp only [List.mem_singleton] at hm; subst hm; exact ⟨h3, h4⟩⟩
    · rename_i hk
      rw [if_neg hk, if_neg hk]
      exact lkTL_cl he hg l M hM h
theorem lkTL_cl {B : Binds} {v : Int} {u : Nat} {g : Int → List Int → Bool × List Int} (he : lkExt g) (hg : lkCl B v u g) : ∀ (l : List Tm) (M : List Int), cntB B M < u → (lkTL g l M).1 = false → (∀ m ∈ M, m ∈ (lkTL g l M).2) ∧ Cl B v M (lkTL g l M).2 ∧ ∀ n ∈ occL l, n ≠ v ∧ (findB B n ≠ none → n ∈ (lkTL g l M).2)
  | [], M, hM, h => by simp only [lkTL, occL]; exact ⟨fun m hm => hm, fun n hn => .inl hn, by simp⟩
  | x :: r, M, hM, h => by
    simp only [lkTL, occL] at h ⊢
    cases hx : (lkT g x M).1 with
    | true => rw [hx] at h; simp at h
    | false =>
      rw [hx] at h
      simp only [Bool.false_eq_true, if_false] at h ⊢
      obtain ⟨h1, h2, h3⟩ := lkT_cl he hg x M hM hx
      obtain ⟨R, hR⟩ := lkT_ext he x M
      have hM1 : cntB B (lkT g x M).2 < u := by
        have := count_le B M R
        rw [hR]; unfold cntB at hM ⊢; omega
      obtain ⟨g1, g2, g3⟩ := lkTL_cl he hg r _ hM1 h
      refine ⟨fun m hm => g1 m (h1 m hm), h2.trans g2 g1, fun n hn => ?_⟩
      rcases List.mem_append.1 hn with hn | hn
      · exact ⟨(h3 n hn).1, fun hb => g1 n ((h3 n hn).2 hb)⟩
      · exact g3 n hn
end

theorem lkF_cl (B : Binds) (v : Int) : ∀ u, lkCl B v u (lkF B v u)
  | 0, n, M, hM, _ => by omega
  | u + 1, n, M, hM, h => by
    simp only [lkF] at h ⊢
    by_cases hn : n = v
    · rw [if_pos hn] at h; cases h
    rw [if_neg hn] at h ⊢
    cases hf : findB B n with
    | none => exact ⟨fun m hm => hm, fun m hm => .inl hm, hn, fun h => absurd rfl h⟩
    | some x =>
      rw [hf] at h
      simp only at h ⊢
      split at h
      · rename_i hc
        rw [if_pos hc]
        exact ⟨fun m hm => hm, fun m hm => .inl hm, hn, fun _ => by simpa using hc⟩
      · rename_i hc
        rw [if_neg hc]
        have hc' : M.contains n = false := by simpa using hc
        have hl := count_lt hf hc'
        obtain ⟨h1, h2, h3⟩ := lkT_cl (lkF_ext B v u) (lkF_cl B v u) x (M ++ [n]) (by unfold cntB at hM ⊢; omega) h
        have hnm := h1 n (by simp)
        refine ⟨fun m hm => h1 m (by simp [hm]), fun m hm => ?_, hn, fun _ => hnm⟩
        rcases h2 m hm with h | h
        · rcases List.mem_append.1 h with h | h
          · exact .inl h
          · simp only [List.mem_singleton] at h; subst h
            exact .inr ⟨x, hf, h3⟩
        · exact .inr h

/-- What is not within is not in what a term becomes. -/
theorem withB_free {B : Binds} {v : Int} {t : Tm} (h : withB B v t = false) : ∀ M, v ∉ occ (fullS B M t) := by
  unfold withB at h
  obtain ⟨_, h2, h3⟩ := lkT_cl (lkF_ext B v _) (lkF_cl B v (B.length + 1)) t [] (by unfold cntB; exact Nat.lt_succ_of_le List.countP_le_length) h
  generalize (lkT (lkF B v (B.length + 1)) t []).2 = M' at h2 h3
  have main : ∀ (m : Nat) (x : Tm), (∀ n ∈ occ x, n ≠ v ∧ (findB B n ≠ none → n ∈ M')) → ∀ z ∈ occ (fullS B m x), z ≠ v := by
    intro m
    induction m with
    | zero => intro x hx z hz; exact (hx z hz).1
    | succ m ih =>
      intro x hx z hz
      simp only [fullS] at hz
      obtain ⟨u, hu, hz⟩ := occ_putF x z hz
      cases hf : findB B u with
      | none =>
        rw [hf] at hz
        simp [occ, vT] at hz
        rw [hz]; exact (hx u hu).1
      | some y =>
        rw [hf] at hz
        have hm := (hx u hu).2 (by rw [hf]; simp)
        rcases h2 u hm with h | ⟨y', hy, hc⟩
        · cases h
        · rw [hf] at hy; cases hy
          exact ih y hc z hz
  exact fun M hv => main M t h3 v hv rfl
end Tm
end PSL

namespace PSL
open Go
namespace Tm

theorem find_nodup {B : Binds} (h : (B.map (·.1)).Nodup) {b : Int × Tm} (hb : b ∈ B) : findB B b.1 = some b.2 := by
  induction B with
  | nil => cases hb
  | cons c B ih =>
    rw [findB_cons]
    simp only [List.map_cons, List.nodup_cons] at h
    rcases List.mem_cons.1 hb with rfl | hb
    · rw [if_pos rfl]
    · rw [if_neg (fun e => h.1 (by rw [e]; exact List.mem_map.2 ⟨b, hb, rfl⟩))]
      exact ih h.2 hb
def cntR (B : Binds) (ρ : Int → Nat) (r : Nat) : Nat := B.countP fun b => decide (ρ b.1 < r)

theorem cntR_le (B : Binds) (ρ : Int → Nat) {r r' : Nat} (h : r ≤ r') : cntR B ρ r ≤ cntR B ρ r' := by
  apply List.countP_mono_left
  intro b _ hb
  simp only [decide_eq_true_eq] at hb ⊢
  omega

theorem cntR_lt {B : Binds} {ρ : Int → Nat} {b : Int × Tm} (hb : b ∈ B) : cntR B ρ (ρ b.1) < cntR B ρ (ρ b.1 + 1) := by
  obtain ⟨l, r, rfl⟩ := List.mem_iff_append.1 hb
  have h1 := cntR_le l ρ (show ρ b.1 ≤ ρ b.1 + 1 by omega)
  have h2 := cntR_le r ρ (show ρ b.1 ≤ ρ b.1 + 1 by omega)
  unfold cntR at *
  simp only [List.countP_append, List.countP_cons]
  have e1 : decide (ρ b.1 < ρ b.1) = false := by simp
  have e2 : decide (ρ b.1 < ρ b.1 + 1) = true := by simp
  rw [e1, e2]
  simp only [if_true, Bool.false_eq_true, if_false]
  omega

theorem rank_okn {B : Binds} {ρ : Int → Nat} (hf : ∀ b ∈ B, b.2.fairR = true) (hρ : ∀ b ∈ B, ∀ u ∈ occ b.2, findB B u ≠ none → ρ u < ρ b.1) : ∀ (r i : Nat) (b : Int × Tm), B[i]? = some b → ρ b.1 = r → Okn (adjB B) (cntR B ρ (r + 1)) i := by
  intro r
  induction r using Nat.strongRecOn with
  | ind r ih =>
    intro i b hb hr
    have hm := List.mem_of_getElem? hb
    have h1 := cntR_lt (ρ := ρ) hm
    rw [hr] at h1
    obtain ⟨m, hm'⟩ : ∃ m, cntR B ρ (r + 1) = m + 1 := ⟨cntR B ρ (r + 1) - 1, by omega⟩
    rw [hm']
    refine .mk fun k hk => ?_
    simp only [adjB, hb, List.mem_filterMap] at hk
    obtain ⟨v, hv, hk⟩ := hk
    rw [varsT_mem (one_fair (hf _ hm))] at hv
    simp only [occL, List.append_nil] at hv
    rcases placeB_find B v with ⟨h1, h2⟩ | ⟨j, t, h2, h3, h4⟩
    · rw [if_pos h1] at hk; cases hk
    · rw [if_neg (by omega)] at hk
      simp only [Option.some.injEq] at hk
      have hlt := hρ b hm v hv (by rw [h4]; simp)
      have hkj : k = j := by omega
      subst hkj
      have := ih (ρ v) (by omega) k (v, t) h3 rfl
      refine this.mono ?_
      have := cntR_le B ρ (show ρ v + 1 ≤ r by omega)
      omega

theorem sub_rank {B : Binds} {ρ : Int → Nat} (hf : ∀ b ∈ B, b.2.fairR = true) (hρ : ∀ b ∈ B, ∀ u ∈ occ b.2, findB B u ≠ none → ρ u < ρ b.1) : Sub B B.length :=
  ⟨hf, fun i hi => (rank_okn hf hρ _ i B[i] (List.getElem?_eq_getElem hi) rfl).mono (by unfold cntR; exact List.countP_le_length)⟩

mutual
theorem occ_size {σ : Int → Tm} : ∀ (t : Tm) (u : Int), u ∈ occ t → size (σ u) ≤ size (putF σ t) ∧ (t.k ≠ 1 → size (σ u) < size (putF σ t))
  | mk k s n l, u, h => by
    simp only [occ] at h
    by_cases hk : k = 1
    · rw [if_pos hk, List.mem_singleton] at h
      subst h
      simp only [putF, if_pos hk, Tm.k]
      exact ⟨Nat.le_refl _, fun h => absurd hk h⟩
    · rw [if_neg hk] at h
      have := occL_size (σ := σ) l u h
      simp only [putF, if_neg hk, size]
      exact ⟨by omega, fun _ => by omega⟩
theorem occL_size {σ : Int → Tm} : ∀ (l : List Tm) (u : Int), u ∈ occL l → size (σ u) ≤ sizeL (putFL σ l)
  | [], u, h => by simp [occL] at h
  | t :: l, u, h => by
    simp only [occL, List.mem_append] at h
    simp only [putFL, sizeL]
    rcases h with h | h
    · have := (occ_size (σ := σ) t u h).1; omega
    · have := occL_size (σ := σ) l u h; omega
end

theorem occ_of_var {t : Tm} (hk : t.k = 1) {u : Int} (h : u ∈ occ t) : u = t.n := by
  cases t; simp only [k] at hk; simp only [occ, if_pos hk, List.mem_singleton] at h; exact h

/-- Binds with a solution are acyclic. -/
theorem sol_rank {σ : Int → Tm} {B : Binds} (hs : solB σ B) (hc : chainB B) : ∃ ρ : Int → Nat, ∀ b ∈ B, ∀ u ∈ occ b.2, findB B u ≠ none → ρ u < ρ b.1 := by
  refine ⟨fun v => size (σ v) * (B.length + 1) + (B.length - (placeB B v).toNat), fun b hb u hu hub => ?_⟩
  show size (σ u) * (B.length + 1) + (B.length - (placeB B u).toNat) < size (σ b.1) * (B.length + 1) + (B.length - (placeB B b.1).toNat)
  have hbs := hs b hb
  have h1 := occ_size (σ := σ) b.2 u hu
  by_cases hk : b.2.k = 1
  · have he := occ_of_var hk hu
    rw [putF_var hk, ← he] at hbs
    rw [hbs]
    rcases placeB_find B u with ⟨g1, g2⟩ | ⟨j, t, g1, g2, g3⟩
    · exact absurd g2 hub
    rcases placeB_find B b.1 with ⟨e1, e2⟩ | ⟨i, t', e1, e2, e3⟩
    · rw [find_nodup hc.nodup hb] at e2; cases e2
    rw [find_nodup hc.nodup hb] at e3
    simp only [Option.some.injEq] at e3
    subst e3
    have := hc.chain i _ e2 hk j _ g2 he
    have := (List.getElem?_eq_some_iff.1 g2).1
    rw [g1, e1]
    simp only [Int.toNat_natCast]
    omega
  · have h2 := h1.2 hk
    rw [← hbs] at h2
    have : (size (σ u) + 1) * (B.length + 1) ≤ size (σ b.1) * (B.length + 1) := Nat.mul_le_mul_right _ h2
    rw [Nat.add_mul] at this
    omega

theorem sub_sol {σ : Int → Tm} {B : Binds} (hs : solB σ B) (hc : chainB B) (hf : fairBB B) : Sub B B.length :=
  (sol_rank hs hc).elim fun _ h => sub_rank (fun b hb => (hf b hb).1) h

/-- What binds make of a variable. -/
def fullV (B : Binds) (v : Int) : Tm := match findB B v with | some x => fullS B B.length x | none => vT v
theorem sub_putV {B : Binds} (h : Sub B B.length) {t : Tm} (hf : t.fairR = true) : putF (fullV B) t = fullS B B.length t := (h.fix hf).symm

theorem sub_solV {B : Binds} (h : Sub B B.length) (hc : chainB B) : solB (fullV B) B := fun b hb => by
  rw [sub_putV h (h.fair b hb)]
  unfold fullV
  rw [find_nodup hc.nodup hb]
theorem fullV_free {B : Binds} {v : Int} (h : findB B v = none) : fullV B v = vT v := by unfold fullV; rw [h]

/-- A bind more. -/
theorem bind_sol {σ : Int → Tm} {B : Binds} (hs : solB σ B) (hc : chainB B) (hf : fairBB B) {v : Int} {w : Tm} (hv : findB B v = none) (hw : w.fairR = true) (hn : withB B v w = false) : ∃ σ', solB σ' (B ++ [(v, w)]) := by
  have hS := sub_sol hs hc hf
  have hfree := withB_free hn B.length
  have hfw := hS.fairF hw
  refine ⟨fun z => putF (fun u => if u = v then putF (fullV B) w else vT u) (fullV B z), fun b hb => ?_⟩
  simp only
  rw [← putF_comp]
  rcases List.mem_append.1 hb with hb | hb
  · rw [sub_solV hS hc b hb]
  · simp only [List.mem_singleton] at hb; subst hb
    simp only
    rw [fullV_free hv, putF_var (show (vT v).k = 1 from rfl)]
    simp only [vT, Tm.n, if_true]
    rw [sub_putV hS hw]
    refine (put_id _ hfw fun u hu => ?_).symm
    rw [if_neg (fun e => hfree (by rw [← e]; exact hu))]; rfl
end Tm
end PSL

namespace PSL
open Go
namespace Tm
def pickU (sw : Bool) (x y : Tm) : Tm × Tm := if (sw || decide (x.k ≠ 1)) && decide (y.k = 1) then (y, x) else (x, y)
def sameV (x y : Tm) : Prop := x.k = 1 ∧ y.k = 1 ∧ x.n = y.n
def ordU (sw : Bool) (l m : List Tm) : List (Tm × Tm) := if sw then l.zip m else (l.zip m).reverse
theorem ordU_mem {sw : Bool} {l m : List Tm} {p : Tm × Tm} : p ∈ ordU sw l m ↔ p ∈ l.zip m := by cases sw <;> simp [ordU]

theorem pickU_or {sw : Bool} {x y u w : Tm} (h : pickU sw x y = (u, w)) : (u = x ∧ w = y) ∨ (u = y ∧ w = x ∧ y.k = 1) := by
  unfold pickU at h
  split at h
  · rename_i hc
    simp only [Bool.and_eq_true, decide_eq_true_eq] at hc
    cases h; exact .inr ⟨rfl, rfl, hc.2⟩
  · cases h; exact .inl ⟨rfl, rfl⟩

theorem pickU_fun {sw : Bool} {x y u w : Tm} (h : pickU sw x y = (u, w)) (hu : u.k ≠ 1) : x.k ≠ 1 ∧ y.k ≠ 1 := by
  unfold pickU at h
  split at h
  · rename_i hc
    simp only [Bool.and_eq_true, decide_eq_true_eq] at hc
    cases h; exact absurd hc.2 hu
  · rename_i hc
    cases h
    refine ⟨hu, fun hy => hc ?_⟩
    simp [hu, hy]

inductive URun (sw : Bool) : Nat → List (Tm × Tm) → Binds → List (Int × Int) → Binds → Bool → Prop
  | done {n : Nat} {B : Binds} {met : List (Int × Int)} : URun sw n [] B met B true
  | skip {n : Nat} {x y : Tm} {R : List (Tm × Tm)} {B B' : Binds} {met : List (Int × Int)} {ok : Bool} (hs : skipU x y met = true) (h : URun sw n R B met B' ok) : URun sw (n + 1) ((x, y) :: R) B met B' ok
  | same {n : Nat} {x y : Tm} {R : List (Tm × Tm)} {B B' : Binds} {met : List (Int × Int)} {ok : Bool} (hs : skipU x y met = false) (hv : sameV (walkB B x) (walkB B y)) (h : URun sw n R B (metU x y met) B' ok) : URun sw (n + 1) ((x, y) :: R) B met B' ok
  | occ {n : Nat} {x y u w : Tm} {R : List (Tm × Tm)} {B : Binds} {met : List (Int × Int)} (hs : skipU x y met = false) (hv : ¬ sameV (walkB B x) (walkB B y)) (hp : pickU sw (walkB B x) (walkB B y) = (u, w)) (hk : u.k = 1) (hw : withB B u.n w = true) : URun sw (n + 1) ((x, y) :: R) B met B false
  | bind {n : Nat} {x y u w : Tm} {R : List (Tm × Tm)} {B B' : Binds} {met : List (Int × Int)} {ok : Bool} (hs : skipU x y met = false) (hv : ¬ sameV (walkB B x) (walkB B y)) (hp : pickU sw (walkB B x) (walkB B y) = (u, w)) (hk : u.k = 1) (hw : withB B u.n w = false) (h : URun sw n R (B ++ [(u.n, w)]) (metU x y met) B' ok) : URun sw (n + 1) ((x, y) :: R) B met B' ok
  | clash {n : Nat} {x y : Tm} {R : List (Tm × Tm)} {B : Binds} {met : List (Int × Int)} (hs : skipU x y met = false) (hx : (walkB B x).k ≠ 1) (hy : (walkB B y).k ≠ 1) (hc : clashB (walkB B x) (walkB B y) = true) : URun sw (n + 1) ((x, y) :: R) B met B false
  | args {n : Nat} {x y : Tm} {R : List (Tm × Tm)} {B B' : Binds} {met : List (Int × Int)} {ok : Bool} (hs : skipU x y met = false) (hx : (walkB B x).k ≠ 1) (hy : (walkB B y).k ≠ 1) (hc : clashB (walkB B x) (walkB B y) = false) (h : URun sw n (ordU sw (walkB B x).l (walkB B y).l ++ R) B (metU x y met) B' ok) : URun sw (n + 1) ((x, y) :: R) B met B' ok

/-- What holds of each state. -/
structure UG (S : List Int) (N : Nat) (T : List (Tm × Tm)) (B : Binds) : Prop where
  chain : chainB B
  fairb : fairBB B
  fairt : ∀ p ∈ T, p.1.fairR = true ∧ p.2.fairR = true
  st : sizT N T
  sb : sizB N B
  sol : ∃ σ, solB σ B
  vb : ∀ b ∈ B, b.1 ∈ S ∧ ∀ u ∈ occ b.2, u ∈ S
  vt : ∀ p ∈ T, (∀ u ∈ occ p.1, u ∈ S) ∧ ∀ u ∈ occ p.2, u ∈ S

theorem walk_occ {S : List Int} {B : Binds} (h : ∀ b ∈ B, b.1 ∈ S ∧ ∀ u ∈ occ b.2, u ∈ S) : ∀ (f : Nat) (t : Tm), (∀ u ∈ occ t, u ∈ S) → ∀ u ∈ occ (walkT B f t), u ∈ S
  | 0, t, ht => ht
  | f + 1, t, ht => by
    simp only [walkT]
    split
    · split
      · rename_i x hx; exact walk_occ h f x (h _ (findB_mem hx)).2
      · exact ht
    · exact ht

structure UW (S : List Int) (N : Nat) (B : Binds) (x : Tm) : Prop where
  fair : x.fairR = true
  size : x.size ≤ N
  occ : ∀ u ∈ occ x, u ∈ S
  nd : x.k = 1 → findB B x.n = none
section
variable {S : List Int} {N : Nat} {x y : Tm} {R : List (Tm × Tm)} {B : Binds}

theorem UG.tail {p : Tm × Tm} (h : UG S N (p :: R) B) : UG S N R B :=
  ⟨h.chain, h.fairb, fun q hq => h.fairt q (by simp [hq]), fun q hq => h.st q (by simp [hq]), h.sb, h.sol, h.vb, fun q hq => h.vt q (by simp [hq])⟩

theorem UG.walk1 (h : UG S N ((x, y) :: R) B) : UW S N B (walkB B x) :=
  ⟨walk_fair h.fairb _ x (h.fairt (x, y) (by simp)).1, walk_siz h.sb _ x (h.st (x, y) (by simp)).1, walk_occ h.vb _ x (h.vt (x, y) (by simp)).1, walkB_end h.chain⟩

theorem UG.walk2 (h : UG S N ((x, y) :: R) B) : UW S N B (walkB B y) :=
  ⟨walk_fair h.fairb _ y (h.fairt (x, y) (by simp)).2, walk_siz h.sb _ y (h.st (x, y) (by simp)).2, walk_occ h.vb _ y (h.vt (x, y) (by simp)).2, walkB_end h.chain⟩

theorem UG.pick {sw : Bool} {u w : Tm} (h : UG S N ((x, y) :: R) B) (hv : ¬ sameV (walkB B x) (walkB B y)) (hp : pickU sw (walkB B x) (walkB B y) = (u, w)) (hk : u.k = 1) : UW S N B u ∧ UW S N B w ∧ (w.k = 1 → w.n ≠ u.n) := by
  rcases pickU_or hp with ⟨rfl, rfl⟩ | ⟨rfl, rfl, _⟩
  · exact ⟨h.walk1, h.walk2, fun hw e => hv ⟨hk, hw, e.symm⟩⟩
  · exact ⟨h.walk2, h.walk1, fun hw e => hv ⟨hw, hk, e⟩⟩

theorem UG.bind {sw : Bool} {u w : Tm} (h : UG S N ((x, y) :: R) B) (hv : ¬ sameV (walkB B x) (walkB B y)) (hp : pickU sw (walkB B x) (walkB B y) = (u, w)) (hk : u.k = 1) (hw : withB B u.n w = false) : UG S N R (B ++ [(u.n, w)]) := by
  obtain ⟨hu, hw1, hne⟩ := h.pick hv hp hk
  obtain ⟨σ, hs⟩ := h.sol
  have ht := h.tail
  refine ⟨h.chain.snoc (hu.nd hk) fun h1 => ⟨hw1.nd h1, hne h1⟩, fun b hb => ?_, ht.fairt, ht.st, h.sb.snoc hw1.size, bind_sol hs h.chain h.fairb (hu.nd hk) hw1.fair hw, fun b hb => ?_, ht.vt⟩
  · rcases List.mem_append.1 hb with hb | hb
    · exact h.fairb b hb
    · simp only [List.mem_singleton] at hb; subst hb
      exact ⟨hw1.fair, occ_range u hu.fair u.n (occ_var hk)⟩
  · rcases List.mem_append.1 hb with hb | hb
    · exact h.vb b hb
    · simp only [List.mem_singleton] at hb; subst hb
      exact ⟨hu.occ _ (occ_var hk), hw1.occ⟩

theorem occ_kid {t x : Tm} (hk : t.k ≠ 1) (hx : x ∈ t.l) {u : Int} (hu : u ∈ occ x) : u ∈ occ t := by
  cases t; simp only [k, l] at hk hx; simp only [occ, if_neg hk]
  clear hk
  rename_i l
  induction l with
  | nil => cases hx
  | cons a l ih =>
    simp only [occL, List.mem_append]
    rcases List.mem_cons.1 hx with rfl | hx
    · exact .inl hu
    · exact .inr (ih hx)

theorem UG.args {sw : Bool} (h : UG S N ((x, y) :: R) B) (hx : (walkB B x).k ≠ 1) (hy : (walkB B y).k ≠ 1) : UG S N (ordU sw (walkB B x).l (walkB B y).l ++ R) B := by
  have ht := h.tail
  have h1 := h.walk1
  have h2 := h.walk2
  generalize walkB B x = x' at *
  generalize walkB B y = y' at *
  have hz : ∀ p ∈ ordU sw x'.l y'.l, p.1 ∈ x'.l ∧ p.2 ∈ y'.l := fun p hp => List.of_mem_zip (ordU_mem.1 hp)
  refine ⟨h.chain, h.fairb, fun q hq => ?_, fun q hq => ?_, h.sb, h.sol, h.vb, fun q hq => ?_⟩
  · rcases List.mem_append.1 hq with hq | hq
    · exact ⟨Sub.kid_fair h1.fair (hz q hq).1, Sub.kid_fair h2.fair (hz q hq).2⟩
    · exact ht.fairt q hq
  · rcases List.mem_append.1 hq with hq | hq
    · have g1 := size_mem (hz q hq).1
      have g2 := size_mem (hz q hq).2
      have g3 := size_eq x'
      have g4 := size_eq y'
      have g5 := h1.size
      have g6 := h2.size
      omega
    · exact ht.st q hq
  · rcases List.mem_append.1 hq with hq | hq
    · exact ⟨fun u hu => h1.occ u (occ_kid hx (hz q hq).1 hu), fun u hu => h2.occ u (occ_kid hy (hz q hq).2 hu)⟩
    · exact ht.vt q hq
end
def unbU (S : List Int) (B : Binds) : Nat := S.countP fun v => (findB B v).isNone

theorem findB_snoc (B : Binds) (v z : Int) (w : Tm) : findB (B ++ [(v, w)]) z = match findB B z with | some x => some x | none => if v = z then some w else none := by
  induction B with
  | nil => simp [findB_cons, findB]
  | cons b B ih =>
    simp only [List.cons_append, findB_cons]
    split
    · rfl
    · exact ih

theorem unbU_lt {S : List Int} {B : Binds} {v : Int} (hv : v ∈ S) (hb : findB B v = none) (w : Tm) : unbU S (B ++ [(v, w)]) < unbU S B := by
  obtain ⟨l, r, rfl⟩ := List.mem_iff_append.1 hv
  have mono : ∀ l : List Int, (l.countP fun z => (findB (B ++ [(v, w)]) z).isNone) ≤ l.countP fun z => (findB B z).isNone := fun l => by
    apply List.countP_mono_left
    intro z _ hz
    rw [findB_snoc] at hz
    cases hf : findB B z with
    | none => rfl
    | some x => rw [hf] at hz; simp at hz
  have h1 := mono l
  have h2 := mono r
  unfold unbU
  simp only [List.countP_append, List.countP_cons]
  rw [hb, findB_snoc, hb]
  simp
  omega
theorem sumS_rev (σ : Int → Tm) (T : List (Tm × Tm)) : sumS σ T.reverse = sumS σ T := by simp [sumS]

theorem sumS_ord (σ : Int → Tm) (sw : Bool) (l m : List Tm) (h : l.length = m.length) : sumS σ (ordU sw l m) = sizeL (putFL σ l) := by
  cases sw
  · rw [ordU, if_neg (by simp), sumS_rev, sumS_zip σ l m h]
  · rw [ordU, if_pos rfl, sumS_zip σ l m h]
theorem sumS_cons (σ : Int → Tm) (p : Tm × Tm) (T : List (Tm × Tm)) : sumS σ (p :: T) = size (putF σ p.1) + sumS σ T := by simp [sumS]

theorem clash_no {x y : Tm} (h : clashB x y = false) : x.k = y.k ∧ x.s = y.s ∧ x.n = y.n ∧ x.l.length = y.l.length := by
  unfold clashB at h
  simp only [Bool.or_eq_false_iff, decide_eq_false_iff_not, Decidable.not_not, Bool.not_eq_false'] at h
  obtain ⟨⟨⟨h1, h2⟩, h3⟩, h4⟩ := h
  exact ⟨h1, Tm.strEq_iff.1 h3, h2, h4⟩

theorem urun_ends (sw : Bool) {S : List Int} {N : Nat} : ∀ (c : Nat) (s : Nat) (σ : Int → Tm) (T : List (Tm × Tm)) (B : Binds) (met : List (Int × Int)), UG S N T B → unbU S B ≤ c → solB σ B → sumS σ T ≤ s → ∃ n B' ok, URun sw n T B met B' ok := by
  intro c
  induction c using Nat.strongRecOn with
  | ind c ihc =>
    intro s
    induction s with
    | zero =>
      intro σ T B met hU hc hs hsum
      cases T with
      | nil => exact ⟨0, B, true, .done⟩
      | cons p T =>
        rw [sumS_cons] at hsum
        have := size_pos (putF σ p.1)
        omega
    | succ s ih =>
      intro σ T B met hU hc hs hsum
      cases T with
      | nil => exact ⟨0, B, true, .done⟩
      | cons p T =>
        obtain ⟨x, y⟩ := p
        rw [sumS_cons] at hsum
        have hpos := size_pos (putF σ x)
        simp only at hsum
        cases hsk : skipU x y met with
        | true =>
          obtain ⟨n, B', ok, h⟩ := ih σ T B met hU.tail hc hs (by omega)
          exact ⟨n + 1, B', ok, .skip hsk h⟩
        | false =>
          by_cases hv : sameV (walkB B x) (walkB B y)
          · obtain ⟨n, B', ok, h⟩ := ih σ T B (metU x y met) hU.tail hc hs (by omega)
            exact ⟨n + 1, B', ok, .same hsk hv h⟩
          · obtain ⟨u, w, hp⟩ : ∃ u w, pickU sw (walkB B x) (walkB B y) = (u, w) := ⟨_, _, rfl⟩
            by_cases hk : u.k = 1
            · cases hw : withB B u.n w with
              | true => exact ⟨1, B, false, .occ (n := 0) hsk hv hp hk hw⟩
              | false =>
                have hb := hU.bind hv hp hk hw
                obtain ⟨hu, _, _⟩ := hU.pick hv hp hk
                have hlt := unbU_lt (hu.occ _ (occ_var hk)) (hu.nd hk) w
                obtain ⟨σ', hs'⟩ := hb.sol
                obtain ⟨n, B', ok, h⟩ := ihc _ (by omega) (sumS σ' T) σ' T _ (metU x y met) hb (Nat.le_refl _) hs' (Nat.le_refl _)
                exact ⟨n + 1, B', ok, .bind hsk hv hp hk hw h⟩
            · obtain ⟨hx, hy⟩ := pickU_fun hp hk
              cases hcl : clashB (walkB B x) (walkB B y) with
              | true => exact ⟨1, B, false, .clash (n := 0) hsk hx hy hcl⟩
              | false =>
                obtain ⟨_, _, _, hlen⟩ := clash_no hcl
                have hz : size (putF σ x) = 1 + sizeL (putFL σ (walkB B x).l) := by
                  rw [← walk_sol hs (B.length + 1) x, show walkT B (B.length + 1) x = walkB B x from rfl, putF_fun hx]; simp only [size]
                obtain ⟨n, B', ok, h⟩ := ih σ (ordU sw (walkB B x).l (walkB B y).l ++ T) B (metU x y met) (hU.args hx hy) hc hs (by rw [sumS_app, sumS_ord σ sw _ _ hlen]; omega)
                exact ⟨n + 1, B', ok, .args hsk hx hy hcl h⟩

theorem urun_finds {sw : Bool} {S : List Int} {N : Nat} {σ : Int → Tm} {n : Nat} {T : List (Tm × Tm)} {B B' : Binds} {met : List (Int × Int)} {ok : Bool} (h : URun sw n T B met B' ok) : UG S N T B → solB σ B → (∀ p ∈ T, putF σ p.1 = putF σ p.2) → ok = true ∧ solB σ B' := by
  induction h with
  | done => exact fun _ hs _ => ⟨rfl, hs⟩
  | skip _ _ ih => exact fun hU hs ht => ih hU.tail hs fun p hp => ht p (by simp [hp])
  | same _ _ _ ih => exact fun hU hs ht => ih hU.tail hs fun p hp => ht p (by simp [hp])
  | occ hsk hv hp hk hw =>
    intro hU hs ht
    rename_i x y u w R B met
    have he := ht (x, y) (by simp)
    simp only at he
    rw [← walk_sol hs (B.length + 1) x, ← walk_sol hs (B.length + 1) y] at he
    obtain ⟨hu, hw1, hne⟩ := hU.pick hv hp hk
    have he2 : putF σ u = putF σ w := by
      rcases pickU_or hp with ⟨rfl, rfl⟩ | ⟨rfl, rfl, _⟩
      · exact he
      · exact he.symm
    rw [putF_var hk] at he2
    rw [withB_no hs he2 (fun ⟨h1, h2⟩ => by
      rcases h2 with h2 | h2
      · exact hne h1 h2
      · exact h2 (hw1.nd h1))] at hw
    cases hw
  | bind hsk hv hp hk hw _ ih =>
    intro hU hs ht
    rename_i n x y u w R B B' met ok _
    have he := ht (x, y) (by simp)
    simp only at he
    rw [← walk_sol hs (B.length + 1) x, ← walk_sol hs (B.length + 1) y] at he
    have he2 : putF σ u = putF σ w := by
      rcases pickU_or hp with ⟨rfl, rfl⟩ | ⟨rfl, rfl, _⟩
      · exact he
      · exact he.symm
    rw [putF_var hk] at he2
    refine ih (hU.bind hv hp hk hw) (fun b hb => ?_) fun p hp => ht p (by simp [hp])
    rcases List.mem_append.1 hb with hb | hb
    · exact hs b hb
    · simp only [List.mem_singleton] at hb; subst hb; exact he2
  | clash hsk hx hy hc =>
    intro hU hs ht
    rename_i n x y R B met
    have he := ht (x, y) (by simp)
    simp only at he
    rw [← walk_sol hs (B.length + 1) x, ← walk_sol hs (B.length + 1) y] at he
    change putF σ (walkB B x) = putF σ (walkB B y) at he
    generalize walkB B x = x' at *
    generalize walkB B y = y' at *
    rw [putF_fun hx, putF_fun hy] at he
    simp only [Tm.mk.injEq] at he
    obtain ⟨e1, e2, e3, e4⟩ := he
    have hlen : x'.l.length = y'.l.length := by rw [← putFL_len σ, e4, putFL_len]
    unfold clashB at hc
    simp [e1, e2, e3, hlen, strEq] at hc
  | args hsk hx hy hc _ ih =>
    intro hU hs ht
    rename_i n x y R B B' met ok _
    have he := ht (x, y) (by simp)
    simp only at he
    rw [← walk_sol hs (B.length + 1) x, ← walk_sol hs (B.length + 1) y] at he
    refine ih (hU.args hx hy) hs fun p hp => ?_
    rcases List.mem_append.1 hp with hp | hp
    · change putF σ (walkB B x) = putF σ (walkB B y) at he
      rw [putF_fun hx, putF_fun hy] at he
      simp only [Tm.mk.injEq] at he
      exact zip_sol _ _ he.2.2.2 p (ordU_mem.1 hp)
    · exact ht p (by simp [hp])
end Tm
end PSL

namespace PSL
open Go
namespace Tm

theorem urun_good {sw : Bool} {S : List Int} {N : Nat} {n : Nat} {T : List (Tm × Tm)} {B B' : Binds} {met : List (Int × Int)} {ok : Bool} (h : URun sw n T B met B' ok) : UG S N T B → UG S N [] B' ∧ ∃ X, B' = B ++ X := by
  induction h with
  | done => exact fun hU => ⟨hU, [], by simp⟩
  | skip _ _ ih => exact fun hU => ih hU.tail
  | same _ _ _ ih => exact fun hU => ih hU.tail
  | occ hsk hv hp hk hw =>
    intro hU
    exact ⟨⟨hU.chain, hU.fairb, by simp, fun p hp => (by cases hp), hU.sb, hU.sol, hU.vb, by simp⟩, [], by simp⟩
  | bind hsk hv hp hk hw _ ih =>
    intro hU
    obtain ⟨h1, X, h2⟩ := ih (hU.bind hv hp hk hw)
    exact ⟨h1, _, by rw [h2, List.append_assoc]⟩
  | clash hsk hx hy hc =>
    intro hU
    exact ⟨⟨hU.chain, hU.fairb, by simp, fun p hp => (by cases hp), hU.sb, hU.sol, hU.vb, by simp⟩, [], by simp⟩
  | args hsk hx hy hc _ ih => exact fun hU => ih (hU.args hx hy)

theorem walk_more {B : Binds} {v : Int} {w : Tm} (hw : w.k = 1 → findB B w.n = none ∧ w.n ≠ v) : ∀ (f : Nat) (t : Tm), ((walkT B f t).k = 1 → findB B (walkT B f t).n = none) → walkT (B ++ [(v, w)]) (f + 1) t = if (walkT B f t).k = 1 ∧ (walkT B f t).n = v then w else walkT B f t := by
  have hend : ∀ f, walkT (B ++ [(v, w)]) f w = w := fun f => by
    cases f with
    | zero => rfl
    | succ f =>
      simp only [walkT]
      split
      · rename_i hk
        obtain ⟨h1, h2⟩ := hw hk
        rw [findB_snoc, h1]
        simp only
        rw [if_neg (fun e => h2 e.symm)]
      · rfl
  have stop : ∀ (f : Nat) (t : Tm), (t.k = 1 → findB B t.n = none) → walkT (B ++ [(v, w)]) (f + 1) t = if t.k = 1 ∧ t.n = v then w else t := fun f t ht => by
    simp only [walkT]
    by_cases hk : t.k = 1
    · rw [if_pos hk, findB_snoc, ht hk]
      simp only
      by_cases hn : v = t.n
      · rw [if_pos hn, if_pos ⟨hk, hn.symm⟩]; exact hend f
      · rw [if_neg hn, if_neg (fun e => hn e.2.symm)]
    · rw [if_neg hk, if_neg (fun e => hk e.1)]
  intro f
  induction f with
  | zero => exact fun t ht => stop 0 t ht
  | succ f ih =>
    intro t ht
    by_cases hk : t.k = 1
    · cases hf : findB B t.n with
      | none =>
        have e : walkT B (f + 1) t = t := by simp only [walkT]; rw [if_pos hk, hf]
        rw [e]
        exact stop _ t fun _ => hf
      | some x =>
        have e : walkT B (f + 1) t = walkT B f x := by simp only [walkT]; rw [if_pos hk, hf]
        rw [e] at ht ⊢
        rw [← ih x ht]
        have e2 : ∀ f', walkT (B ++ [(v, w)]) (f' + 1) t = walkT (B ++ [(v, w)]) f' x := fun f' => by
          conv => lhs; unfold walkT
          rw [if_pos hk, findB_snoc, hf]
        exact e2 _
    · have e : walkT B (f + 1) t = t := by simp only [walkT]; rw [if_neg hk]
      rw [e]
      exact stop _ t fun h => absurd h hk

theorem walkB_more {B : Binds} (hc : chainB B) {v : Int} {w : Tm} (hw : w.k = 1 → findB B w.n = none ∧ w.n ≠ v) (t : Tm) : walkB (B ++ [(v, w)]) t = if (walkB B t).k = 1 ∧ (walkB B t).n = v then w else walkB B t := by
  have e : walkB (B ++ [(v, w)]) t = walkT (B ++ [(v, w)]) (B.length + 1 + 1) t := by unfold walkB; simp
  rw [e]
  exact walk_more hw (B.length + 1) t (walkB_end hc)

/-- Two that were gone through are alike, as far as those beneath are. -/
def GoodU (B : Binds) (V : Tm × Tm → Prop) (p : Tm × Tm) : Prop := walkB B p.1 = walkB B p.2 ∨ ((walkB B p.1).k ≠ 1 ∧ (walkB B p.2).k ≠ 1 ∧ (walkB B p.1).k = (walkB B p.2).k ∧ (walkB B p.1).s = (walkB B p.2).s ∧ (walkB B p.1).n = (walkB B p.2).n ∧ (walkB B p.1).l.length = (walkB B p.2).l.length ∧ ∀ q ∈ (walkB B p.1).l.zip (walkB B p.2).l, V q)

theorem GoodU.mono {B : Binds} {V V' : Tm × Tm → Prop} {p : Tm × Tm} (h : GoodU B V p) (hV : ∀ q, V q → V' q) : GoodU B V' p := by
  rcases h with h | ⟨h1, h2, h3, h4, h5, h6, h7⟩
  · exact .inl h
  · exact .inr ⟨h1, h2, h3, h4, h5, h6, fun q hq => hV q (h7 q hq)⟩

theorem GoodU.more {B : Binds} {V : Tm × Tm → Prop} {p : Tm × Tm} (h : GoodU B V p) (hc : chainB B) {v : Int} {w : Tm} (hw : w.k = 1 → findB B w.n = none ∧ w.n ≠ v) : GoodU (B ++ [(v, w)]) V p := by
  rcases h with h | ⟨h1, h2, h3⟩
  · exact .inl (by rw [walkB_more hc hw, walkB_more hc hw, h])
  · refine .inr ?_
    rw [walkB_more hc hw, walkB_more hc hw, if_neg (fun e => h1 e.1), if_neg (fun e => h2 e.1)]
    exact ⟨h1, h2, h3⟩

theorem fair_var {t : Tm} (hf : t.fairR = true) (hk : t.k = 1) : t = vT t.n := by
  obtain ⟨k, s, n, l⟩ := t
  simp only [Tm.k] at hk
  subst hk
  obtain ⟨_, h⟩ := fairR_mk hf
  obtain ⟨rfl, rfl⟩ := h rfl
  rfl

theorem skipU_mem {x y : Tm} {met : List (Int × Int)} (h : skipU x y met = true) : x.k = 1 ∧ y.k = 1 ∧ (x.n, y.n) ∈ met := by
  simp only [skipU, Bool.and_eq_true, decide_eq_true_eq] at h
  exact ⟨h.1.1, h.1.2, by simpa using h.2⟩

theorem metU_mem {x y : Tm} {met : List (Int × Int)} {m : Int × Int} (h : m ∈ metU x y met) : m ∈ met ∨ (x.k = 1 ∧ y.k = 1 ∧ m = (x.n, y.n)) := by
  unfold metU at h
  split at h
  · rename_i hc
    simp only [Bool.and_eq_true, decide_eq_true_eq] at hc
    rcases List.mem_append.1 h with h | h
    · exact .inl h
    · simp only [List.mem_singleton] at h; exact .inr ⟨hc.1, hc.2, h⟩
  · exact .inl h

theorem urun_sound {sw : Bool} {S : List Int} {N : Nat} {n : Nat} {T : List (Tm × Tm)} {B B' : Binds} {met : List (Int × Int)} {ok : Bool} (h : URun sw n T B met B' ok) : UG S N T B → ok = true → ∀ V : Tm × Tm → Prop, (∀ p, V p → GoodU B (fun q => V q ∨ q ∈ T) p) → (∀ m ∈ met, V (vT m.1, vT m.2)) → ∃ V' : Tm × Tm → Prop, (∀ p, V p → V' p) ∧ (∀ p ∈ T, V' p) ∧ ∀ p, V' p → GoodU B' V' p := by
  induction h with
  | done => exact fun _ _ V hV _ => ⟨V, fun _ h => h, by simp, fun p hp => (hV p hp).mono fun q hq => by rcases hq with h | h; exact h; cases h⟩
  | skip hs h ih =>
    intro hU hok V hV hm
    rename_i n x y R B B' met ok
    obtain ⟨h1, h2, h3⟩ := skipU_mem hs
    have hxy : V (x, y) := by
      have := hm _ h3
      rw [← fair_var (hU.fairt (x, y) (by simp)).1 h1, ← fair_var (hU.fairt (x, y) (by simp)).2 h2] at this
      exact this
    obtain ⟨V', g1, g2, g3⟩ := ih hU.tail hok V (fun p hp => (hV p hp).mono fun q hq => by
      rcases hq with h | h
      · exact .inl h
      · rcases List.mem_cons.1 h with rfl | h
        · exact .inl hxy
        · exact .inr h) hm
    exact ⟨V', g1, fun p hp => by
      rcases List.mem_cons.1 hp with rfl | h
      · exact g1 _ hxy
      · exact g2 p h, g3⟩
  | same hs hv h ih =>
    intro hU hok V hV hm
    rename_i n x y R B B' met ok
    obtain ⟨V', g1, g2, g3⟩ := ih hU.tail hok (fun q => V q ∨ q = (x, y)) (fun p hp => by
      rcases hp with hp | rfl
      · exact (hV p hp).mono fun q hq => by
          rcases hq with h | h
          · exact .inl (.inl h)
          · rcases List.mem_cons.1 h with rfl | h
            · exact .inl (.inr rfl)
            · exact .inr h
      · refine .inl ?_
        simp only
        rw [fair_var hU.walk1.fair hv.1, fair_var hU.walk2.fair hv.2.1, hv.2.2]) (fun m hmm => by
      rcases metU_mem hmm with h | ⟨k1, k2, rfl⟩
      · exact .inl (hm m h)
      · refine .inr ?_
        simp only
        rw [← fair_var (hU.fairt (x, y) (by simp)).1 k1, ← fair_var (hU.fairt (x, y) (by simp)).2 k2])
    exact ⟨V', fun p hp => g1 p (.inl hp), fun p hp => by
      rcases List.mem_cons.1 hp with rfl | h
      · exact g1 _ (.inr rfl)
      · exact g2 p h, g3⟩
  | occ => exact fun _ h => (by cases h)
  | clash => exact fun _ h => (by cases h)
  | bind hs hv hp hk hw h ih =>
    intro hU hok V hV hm
    rename_i n x y u w R B B' met ok
    obtain ⟨hu, hw1, hne⟩ := hU.pick hv hp hk
    have hend : w.k = 1 → findB B w.n = none ∧ w.n ≠ u.n := fun h => ⟨hw1.nd h, hne h⟩
    obtain ⟨V', g1, g2, g3⟩ := ih (hU.bind hv hp hk hw) hok (fun q => V q ∨ q = (x, y)) (fun p hp1 => by
      rcases hp1 with hp1 | rfl
      · refine ((hV p hp1).more hU.chain hend).mono fun q hq => ?_
        rcases hq with h | h
        · exact .inl (.inl h)
        · rcases List.mem_cons.1 h with rfl | h
          · exact .inl (.inr rfl)
          · exact .inr h
      · refine .inl ?_
        simp only
        rw [walkB_more hU.chain hend, walkB_more hU.chain hend]
        rcases pickU_or hp with ⟨rfl, rfl⟩ | ⟨rfl, rfl, _⟩
        · rw [if_pos ⟨hk, rfl⟩, if_neg (fun e => hne e.1 e.2)]
        · rw [if_pos (⟨hk, rfl⟩ : (walkB B y).k = 1 ∧ (walkB B y).n = (walkB B y).n), if_neg (fun e => hne e.1 e.2)]) (fun m hmm => by
      rcases metU_mem hmm with h | ⟨k1, k2, rfl⟩
      · exact .inl (hm m h)
      · refine .inr ?_
        simp only
        rw [← fair_var (hU.fairt (x, y) (by simp)).1 k1, ← fair_var (hU.fairt (x, y) (by simp)).2 k2])
    exact ⟨V', fun p hp => g1 p (.inl hp), fun p hp => by
      rcases List.mem_cons.1 hp with rfl | h
      · exact g1 _ (.inr rfl)
      · exact g2 p h, g3⟩
  | args hs hx hy hc h ih =>
    intro hU hok V hV hm
    rename_i n x y R B B' met ok
    obtain ⟨e1, e2, e3, e4⟩ := clash_no hc
    obtain ⟨V', g1, g2, g3⟩ := ih (hU.args hx hy) hok (fun q => V q ∨ q = (x, y)) (fun p hp1 => by
      rcases hp1 with hp1 | rfl
      · refine (hV p hp1).mono fun q hq => ?_
        rcases hq with h | h
        · exact .inl (.inl h)
        · rcases List.mem_cons.1 h with rfl | h
          · exact .inl (.inr rfl)
          · exact .inr (List.mem_append.2 (.inr h))
      · exact .inr ⟨hx, hy, e1, e2, e3, e4, fun q hq => .inr (List.mem_append.2 (.inl (ordU_mem.2 hq)))⟩) (fun m hmm => by
      rcases metU_mem hmm with h | ⟨k1, k2, rfl⟩
      · exact .inl (hm m h)
      · refine .inr ?_
        simp only
        rw [← fair_var (hU.fairt (x, y) (by simp)).1 k1, ← fair_var (hU.fairt (x, y) (by simp)).2 k2])
    exact ⟨V', fun p hp => g1 p (.inl hp), fun p hp => by
      rcases List.mem_cons.1 hp with rfl | h
      · exact g1 _ (.inr rfl)
      · exact g2 p (List.mem_append.2 (.inr h)), g3⟩

theorem sol_zip {σ : Int → Tm} : ∀ (l m : List Tm), l.length = m.length → (∀ q ∈ l.zip m, putF σ q.1 = putF σ q.2) → putFL σ l = putFL σ m
  | [], [], _, _ => rfl
  | [], _ :: _, h, _ => by simp at h
  | _ :: _, [], h, _ => by simp at h
  | a :: l, b :: m, h, hq => by
    simp only [putFL, List.cons.injEq]
    exact ⟨hq (a, b) (by simp), sol_zip l m (by simpa using h) fun q h => hq q (by simp [h])⟩

theorem kid_putsize {σ : Int → Tm} {x z : Tm} (hx : x.k ≠ 1) (hz : z ∈ x.l) : size (putF σ z) < size (putF σ x) := by
  rw [putF_fun hx]
  simp only [size]
  have : ∀ l : List Tm, z ∈ l → size (putF σ z) ≤ sizeL (putFL σ l) := fun l => by
    induction l with
    | nil => intro h; cases h
    | cons a l ih =>
      intro h
      simp only [putFL, sizeL]
      rcases List.mem_cons.1 h with rfl | h
      · omega
      · have := ih h; omega
  have := this x.l hz
  omega

theorem good_sol {σ : Int → Tm} {B : Binds} (hs : solB σ B) {V : Tm × Tm → Prop} (hV : ∀ p, V p → GoodU B V p) : ∀ (c : Nat) (p : Tm × Tm), V p → size (putF σ p.1) ≤ c → putF σ p.1 = putF σ p.2 := by
  intro c
  induction c with
  | zero => intro p _ h; have := size_pos (putF σ p.1); omega
  | succ c ih =>
    intro p hp h
    rw [← walk_sol hs (B.length + 1) p.1, ← walk_sol hs (B.length + 1) p.2]
    rw [← walk_sol hs (B.length + 1) p.1] at h
    change size (putF σ (walkB B p.1)) ≤ _ at h
    show putF σ (walkB B p.1) = putF σ (walkB B p.2)
    rcases hV p hp with e | ⟨h1, h2, h3, h4, h5, h6, h7⟩
    · rw [e]
    · rw [putF_fun h1, putF_fun h2, h3, h4, h5, sol_zip _ _ h6 fun q hq => ih q (h7 q hq) (by
        have := kid_putsize (σ := σ) h1 (List.of_mem_zip hq).1
        omega)]

/-- Unification of two, from any state. -/
theorem unify_main (sw : Bool) {S : List Int} {N : Nat} {a b : Tm} {B : Binds} (hU : UG S N [(a, b)] B) : ∃ n B' ok, URun sw n [(a, b)] B [] B' ok ∧ UG S N [] B' ∧ (∃ X, B' = B ++ X) ∧ (ok = true → ∀ σ, solB σ B' ↔ solB σ B ∧ putF σ a = putF σ b) ∧ (ok = false → ∀ σ, solB σ B → putF σ a ≠ putF σ b) := by
  obtain ⟨σ0, h0⟩ := hU.sol
  obtain ⟨n, B', ok, h⟩ := urun_ends sw (unbU S B) (sumS σ0 [(a, b)]) σ0 [(a, b)] B [] hU (Nat.le_refl _) h0 (Nat.le_refl _)
  obtain ⟨g1, X, g2⟩ := urun_good h hU
  refine ⟨n, B', ok, h, g1, ⟨X, g2⟩, fun hok σ => ⟨fun hs => ?_, fun ⟨hs, he⟩ => ?_⟩, fun hok σ hs he => ?_⟩
  · obtain ⟨V', _, v2, v3⟩ := urun_sound h hU hok (fun _ => False) (fun p hp => hp.elim) (fun m hm => by cases hm)
    refine ⟨fun b hb => hs b (by rw [g2]; simp [hb]), good_sol hs v3 _ (a, b) (v2 _ (by simp)) (Nat.le_refl _)⟩
  · exact (urun_finds h hU hs (fun p hp => by simp at hp; subst hp; exact he)).2
  · have := (urun_finds h hU hs (fun p hp => by simp at hp; subst hp; exact he)).1
    rw [hok] at this; cases this
end Tm
end PSL

namespace PSL
open Go

theorem rightS_of {B : Binds} {M : Nat} (hS : Sub B M) (hn : (B.map (·.1)).Nodup) (hb : ∀ b ∈ B, 0 ≤ b.1 ∧ b.1 < 1000000 ∧ b.2.rightB = true) : rightS B = true := by
  rw [← rightR_eq]
  unfold rightR
  rw [Bool.and_eq_true, List.all_eq_true, List.all_eq_true]
  constructor
  · intro i hi
    have hil : i < B.length := by simpa using hi
    have e1 : B[i]? = some (B[i]'hil) := List.getElem?_eq_getElem _
    have h1 := hb _ (List.mem_of_getElem? e1)
    have h3 := nodup_place.1 hn i _ e1
    rw [okAt, e1]
    simp [h1.1, h1.2.1, h1.2.2, h3]
  · intro i hi
    cases hw : warsh (edge (adjB B)) B.length i i with
    | false => rfl
    | true => exact absurd (hS.okn i (by simpa using hi)) (okn_round (warsh_way _ _ _ _ hw))
def numL (l : List Tm) : List Tm := Tm.turnTL (placeG (varsT l)) l

theorem numL_turn {l : List Tm} {g : Int → Int} (hf : Tm.fairRL l = true) (hg : ∀ v ∈ Tm.occL l, 0 ≤ g v ∧ g v < 1000000) (hi : ∀ x ∈ Tm.occL l, ∀ y ∈ Tm.occL l, g x = g y → x = y) : numL (Tm.turnTL g l) = numL l := by
  have hV := varsT_turn hf hg hi
  unfold numL
  rw [hV, Tm.turnL_comp]
  refine Tm.turnL_congr l hf fun v hv => ?_
  exact placeG_map fun x hx he => hi x ((varsT_mem hf).1 hx) v hv he

theorem put_selfL {l : List Tm} (h : Tm.fairRL l = true) : Tm.putFL Tm.vT l = l := by
  rw [Tm.putFL_map]
  conv => rhs; rw [← List.map_id l]
  exact List.map_congr_left fun t ht => Tm.put_self t (Tm.fairRL_iff.1 h t ht)

theorem numL_both {l m : List Tm} (fl : Tm.fairRL l = true) (fm : Tm.fairRL m = true) {σ τ : Int → Tm} (hσ : m = Tm.putFL σ l) (hτ : l = Tm.putFL τ m) : numL m = numL l ∧ ∃ g : Int → Int, m = Tm.turnTL g l := by
  have hfix : Tm.putFL (fun v => Tm.putF τ (σ v)) l = Tm.putFL Tm.vT l := by
    rw [← Tm.putFL_comp, ← hσ, ← hτ, put_selfL fl]
  have hv := Tm.putFL_inj l hfix
  have hfs := Tm.fairL_put l (σ := σ) (by rw [← hσ]; exact fm)
  have hk : ∀ v ∈ Tm.occL l, σ v = Tm.vT (σ v).n ∧ τ (σ v).n = Tm.vT v := fun v h => by
    have e := hv v h
    have f := hfs v h
    generalize σ v = x at e f
    cases x with
    | mk k s n l =>
      simp only [Tm.putF] at e
      by_cases hk : k = 1
      · obtain ⟨rfl, rfl⟩ := (Tm.fairR_mk f).2 hk
        subst hk
        rw [if_pos rfl] at e
        exact ⟨rfl, e⟩
      · rw [if_neg hk] at e
        exact absurd (congrArg Tm.k e) hk
  have eb : m = Tm.turnTL (fun v => (σ v).n) l := by
    rw [hσ, Tm.turnL_put _ l fl]; exact Tm.putFL_congr l fun v h => (hk v h).1
  have hocc : Tm.occL m = (Tm.occL l).map fun v => (σ v).n := by
    have := congrArg Tm.occL eb; rwa [Tm.occL_turn] at this
  refine ⟨?_, _, eb⟩
  rw [eb]
  refine numL_turn fl (fun v h => Tm.occL_range m fm _ (by rw [hocc]; exact List.mem_map_of_mem (f := fun v => (σ v).n) h)) fun x hx y hy e => ?_
  have e1 := (hk x hx).2
  have e2 := (hk y hy).2
  have e : (σ x).n = (σ y).n := e
  rw [e, e2] at e1
  exact (congrArg Tm.n e1).symm
namespace Tm

theorem solL {σ : Int → Tm} {B : Binds} {M : Nat} (h : solB σ B) (hb : fairBB B) : ∀ l : List Tm, fairRL l = true → putFL σ (l.map (fullS B M)) = putFL σ l
  | [], _ => rfl
  | t :: l, hf => by
    simp only [fairRL, Bool.and_eq_true] at hf
    simp only [List.map_cons, putFL, full_sol h M t hf.1 hb, solL h hb l hf.2]

theorem putVL {B : Binds} (h : Sub B B.length) {l : List Tm} (hf : fairRL l = true) : putFL (fullV B) l = l.map (fullS B B.length) := by
  rw [putFL_map]
  exact List.map_congr_left fun t ht => sub_putV h (fairRL_iff.1 hf t ht)

/-- Binds with the same solutions make the same of terms, but for names. -/
theorem same_sols {S S' : List Int} {N N' : Nat} {B C : Binds} (hB : UG S N [] B) (hC : UG S' N' [] C) (h : ∀ σ, solB σ B ↔ solB σ C) {l : List Tm} (hf : fairRL l = true) : numL (l.map (fullS C C.length)) = numL (l.map (fullS B B.length)) ∧ ∃ g : Int → Int, l.map (fullS C C.length) = turnTL g (l.map (fullS B B.length)) := by
  obtain ⟨σ1, h1⟩ := hB.sol
  obtain ⟨σ2, h2⟩ := hC.sol
  have sB := sub_sol h1 hB.chain hB.fairb
  have sC := sub_sol h2 hC.chain hC.fairb
  have vB := sub_solV sB hB.chain
  have vC := sub_solV sC hC.chain
  have fB : fairRL (l.map (fullS B B.length)) = true := fairRL_iff.2 fun t ht => by
    obtain ⟨x, hx, rfl⟩ := List.mem_map.1 ht
    exact sB.fairF (fairRL_iff.1 hf x hx)
  have fC : fairRL (l.map (fullS C C.length)) = true := fairRL_iff.2 fun t ht => by
    obtain ⟨x, hx, rfl⟩ := List.mem_map.1 ht
    exact sC.fairF (fairRL_iff.1 hf x hx)
  refine numL_both fB fC (σ := fullV C) (τ := fullV B) ?_ ?_
  · rw [solL ((h _).2 vC) hB.fairb l hf, putVL sC hf]
  · rw [solL ((h _).1 vB) hC.fairb l hf, putVL sB hf]
end Tm

theorem nodup_le {α : Type} [DecidableEq α] : ∀ (l L : List α), l.Nodup → (∀ x ∈ l, x ∈ L) → l.length ≤ L.length
  | [], L, _, _ => Nat.zero_le _
  | x :: l, L, hn, hs => by
    obtain ⟨a, b, rfl⟩ := List.mem_iff_append.1 (hs x (by simp))
    simp only [List.nodup_cons] at hn
    have := nodup_le l (a ++ b) hn.2 fun y hy => by
      have := hs y (by simp [hy])
      simp only [List.mem_append, List.mem_cons] at this ⊢
      rcases this with h | h | h
      · exact .inl h
      · subst h; exact absurd hy hn.1
      · exact .inr h
    simp only [List.length_append, List.length_cons] at this ⊢
    omega
namespace Tm

theorem nodup_bound {B : Binds} {M : List Int} (hn : M.Nodup) (hb : ∀ m ∈ M, findB B m ≠ none) : M.length ≤ B.length := by
  have := nodup_le M (B.map (·.1)) hn fun m hm => by
    cases hf : findB B m with
    | none => exact absurd hf (hb m hm)
    | some x => exact List.mem_map.2 ⟨_, findB_mem hf, rfl⟩
  simpa using this

/-- What was met is bound, and no one twice. -/
def MetK (B : Binds) (M : List Int) : Prop := M.Nodup ∧ ∀ m ∈ M, findB B m ≠ none
def lkKeep (B : Binds) (g : Int → List Int → Bool × List Int) : Prop := ∀ n M, MetK B M → MetK B (g n M).2

mutual
theorem lkT_keep {B : Binds} {g : Int → List Int → Bool × List Int} (hg : lkKeep B g) : ∀ (t : Tm) (M : List Int), MetK B M → MetK B (lkT g t M).2
  | mk k s n l, M, h => by
    simp only [lkT]
    split
    · exact hg n M h
    · exact lkTL_keep hg l M h
theorem lkTL_keep {B : Binds} {g : Int → List Int → Bool × List Int} (hg : lkKeep B g) : ∀ (l : List Tm) (M : List Int), MetK B M → MetK B (lkTL g l M).2
  | [], M, h => h
  | x :: r, M, h => by
    simp only [lkTL]
    split
    · exact lkT_keep hg x M h
    · exact lkTL_keep hg r _ (lkT_keep hg x M h)
end

theorem lkF_keep (B : Binds) (v : Int) : ∀ u, lkKeep B (lkF B v u)
  | 0, n, M, h => h
  | u + 1, n, M, h => by
    simp only [lkF]
    split
    · exact h
    · split
      · exact h
      · rename_i x hx
        split
        · exact h
        · rename_i hc
          have hc' : n ∉ M := by simpa using hc
          refine lkT_keep (lkF_keep B v u) x _ ⟨?_, fun m hm => ?_⟩
          · rw [List.nodup_append]; exact ⟨h.1, by simp, fun a ha b hb => by simp at hb; subst hb; exact fun e => hc' (e ▸ ha)⟩
          · rcases List.mem_append.1 hm with hm | hm
            · exact h.2 m hm
            · simp only [List.mem_singleton] at hm; subst hm; rw [hx]; simp
end Tm
namespace Tm
abbrev Met := List (Int × Int)

def refUL (g : Binds → Tm → Tm → Met → Option (Binds × Met × Bool)) : Binds → List (Tm × Tm) → Met → Option (Binds × Met × Bool)
  | l, [], met => some (l, met, true)
  | l, (x, y) :: r, met => match g l x y met with
    | none => none
    | some (l', met', true) => refUL g l' r met'
    | some (_, met', false) => some (l, met', false)

def refU : Nat → Binds → Tm → Tm → Met → Option (Binds × Met × Bool)
  | 0, _, _, _, _ => none
  | f + 1, l, a, b, met =>
    if skipU a b met then some (l, met, true)
    else if (walkB l a).k = 1 ∧ (walkB l b).k = 1 ∧ (walkB l a).n = (walkB l b).n then some (l, metU a b met, true)
    else if (walkB l b).k = 1 then some (l ++ [((walkB l b).n, walkB l a)], metU a b met, !withB l (walkB l b).n (walkB l a))
    else if (walkB l a).k = 1 then some (l ++ [((walkB l a).n, walkB l b)], metU a b met, !withB l (walkB l a).n (walkB l b))
    else if clashB (walkB l a) (walkB l b) then some (l, metU a b met, false)
    else refUL (refU f) l ((walkB l a).l.zip (walkB l b).l) (metU a b met)

theorem refUL_mono {g g' : Binds → Tm → Tm → Met → Option (Binds × Met × Bool)} (h : ∀ l a b met r, g l a b met = some r → g' l a b met = some r) : ∀ (T : List (Tm × Tm)) (l : Binds) (met : Met) (r : Binds × Met × Bool), refUL g l T met = some r → refUL g' l T met = some r
  | [], l, met, r, hr => hr
  | (x, y) :: T, l, met, r, hr => by
    simp only [refUL] at hr ⊢
    cases hg : g l x y met with
    | none => rw [hg] at hr; cases hr
    | some q =>
      rw [hg] at hr
      rw [h _ _ _ _ _ hg]
      obtain ⟨l', met', ok⟩ := q
      cases ok with
      | true => exact refUL_mono h T l' met' r hr
      | false => exact hr

theorem refU_mono : ∀ (f : Nat) (l : Binds) (a b : Tm) (met : Met) (r : Binds × Met × Bool), refU f l a b met = some r → refU (f + 1) l a b met = some r
  | 0, l, a, b, met, r, h => by cases h
  | f + 1, l, a, b, met, r, h => by
    unfold refU at h ⊢
    split at h
    · rename_i hc; rw [if_pos hc]; exact h
    · rename_i hc
      rw [if_neg hc]
      split at h
      · rename_i hc; rw [if_pos hc]; exact h
      · rename_i hc
        rw [if_neg hc]
        split at h
        · rename_i hc; rw [if_pos hc]; exact h
        · rename_i hc
          rw [if_neg hc]
          split at h
          · rename_i hc; rw [if_pos hc]; exact h
          · rename_i hc
            rw [if_neg hc]
            split at h
            · rename_i hc; rw [if_pos hc]; exact h
            · rename_i hc
              rw [if_neg hc]
              exact refUL_mono (refU_mono f) _ _ _ _ h

/-- The document's way is a run. -/
theorem urun_ref : ∀ (n : Nat) (a b : Tm) (R : List (Tm × Tm)) (l B' : Binds) (met : Met) (ok : Bool), URun true n ((a, b) :: R) l met B' ok → ∃ l1 met1 ok1, refU n l a b met = some (l1, met1, ok1) ∧ (ok1 = false → ok = false) ∧ (ok1 = true → ∃ n1, n1 < n ∧ URun true n1 R l1 met1 B' ok) := by
  intro n
  induction n using Nat.strongRecOn with
  | ind n ih =>
    intro a b R l B' met ok h
    cases h with
    | skip hs h => exact ⟨l, met, true, by unfold refU; rw [if_pos hs], by simp, fun _ => ⟨_, Nat.lt_succ_self _, h⟩⟩
    | same hs hv h => unfold sameV at hv; exact ⟨l, metU a b met, true, by unfold refU; rw [if_neg (by rw [hs]; simp), if_pos hv], by simp, fun _ => ⟨_, Nat.lt_succ_self _, h⟩⟩
    | occ hs hv hp hk hw =>
      rename_i m u w
      unfold sameV at hv
      refine ⟨l ++ [(u.n, w)], metU a b met, false, ?_, by simp, by simp⟩
      unfold refU
      rw [if_neg (by rw [hs]; simp), if_neg hv]
      unfold pickU at hp
      by_cases hb : (walkB l b).k = 1
      · rw [if_pos (by simp [hb])] at hp
        cases hp
        rw [if_pos hb, hw]; rfl
      · rw [if_neg (by simp [hb])] at hp
        cases hp
        rw [if_neg hb, if_pos hk, hw]; rfl
    | bind hs hv hp hk hw h =>
      rename_i m u w
      unfold sameV at hv
      refine ⟨l ++ [(u.n, w)], metU a b met, true, ?_, by simp, fun _ => ⟨_, Nat.lt_succ_self _, h⟩⟩
      unfold refU
      rw [if_neg (by rw [hs]; simp), if_neg hv]
      unfold pickU at hp
      by_cases hb : (walkB l b).k = 1
      · rw [if_pos (by simp [hb])] at hp
        cases hp
        rw [if_pos hb, hw]; rfl
      · rw [if_neg (by simp [hb])] at hp
        cases hp
        rw [if_neg hb, if_pos hk, hw]; rfl
    | clash hs hx hy hc =>
      refine ⟨l, metU a b met, false, ?_, by simp, by simp⟩
      unfold refU
      rw [if_neg (by rw [hs]; simp), if_neg (fun e => hx e.1), if_neg hy, if_neg hx, if_pos hc]
    | args hs hx hy hc h =>
      rename_i m
      have key : ∀ (T : List (Tm × Tm)) (k : Nat) (l2 : Binds) (met2 : Met), k < m + 1 → URun true k (T ++ R) l2 met2 B' ok → ∃ l1 met1 ok1, refUL (refU m) l2 T met2 = some (l1, met1, ok1) ∧ (ok1 = false → ok = false) ∧ (ok1 = true → ∃ n1, n1 < m + 1 ∧ URun true n1 R l1 met1 B' ok) := by
        intro T
        induction T with
        | nil => exact fun k l2 met2 hk h => ⟨l2, met2, true, rfl, by simp, fun _ => ⟨k, hk, h⟩⟩
        | cons p T ihT =>
          intro k l2 met2 hk h
          obtain ⟨x, y⟩ := p
          obtain ⟨l3, met3, ok3, g1, g2, g3⟩ := ih k hk x y (T ++ R) l2 B' met2 ok h
          have up : ∀ d, refU (k + d) l2 x y met2 = some (l3, met3, ok3) := fun d => by
            induction d with
            | zero => exact g1
            | succ d ihd => exact refU_mono _ _ _ _ _ _ ihd
          have g1' : refU m l2 x y met2 = some (l3, met3, ok3) := by
            have := up (m - k)
            rwa [show k + (m - k) = m by omega] at this
          cases ok3 with
          | false => exact ⟨l2, met3, false, by simp only [refUL, g1'], fun _ => g2 rfl, by simp⟩
          | true =>
            obtain ⟨n1, h1, h2⟩ := g3 rfl
            obtain ⟨l1, met1, ok1, e1, e2, e3⟩ := ihT n1 l3 met3 (by omega) h2
            exact ⟨l1, met1, ok1, by simp only [refUL, g1']; exact e1, e2, e3⟩
      obtain ⟨l1, met1, ok1, e1, e2, e3⟩ := key _ m l (metU a b met) (Nat.lt_succ_self _) h
      refine ⟨l1, met1, ok1, ?_, e2, e3⟩
      unfold refU
      rw [if_neg (by rw [hs]; simp), if_neg (fun e => hx e.1), if_neg hy, if_neg hx, if_neg (by rw [hc]; simp)]
      exact e1
end Tm
end PSL

namespace PSL
open Go
namespace Tm

theorem UG.sub {S : List Int} {N : Nat} {T T' : List (Tm × Tm)} {B : Binds} (h : UG S N T B) (hs : ∀ p ∈ T', p ∈ T) : UG S N T' B :=
  ⟨h.chain, h.fairb, fun p hp => h.fairt p (hs p hp), fun p hp => h.st p (hs p hp), h.sb, h.sol, h.vb, fun p hp => h.vt p (hs p hp)⟩

/-- What was met: of some variables, and no two twice. -/
def MetS (S : List Int) (met : Met) : Prop := met.Nodup ∧ ∀ m ∈ met, m.1 ∈ S ∧ m.2 ∈ S
theorem MetS.nil (S : List Int) : MetS S [] := ⟨by simp, by simp⟩

theorem MetS.len {S : List Int} {met : Met} (h : MetS S met) : met.length ≤ S.length * S.length := by
  have h1 := nodup_le met (S.flatMap fun a => S.map fun b => (a, b)) h.1 fun m hm => by
    obtain ⟨h1, h2⟩ := h.2 m hm
    exact List.mem_flatMap.2 ⟨m.1, h1, List.mem_map.2 ⟨m.2, h2, rfl⟩⟩
  have h2 : ∀ L : List Int, (L.flatMap fun a => S.map fun b => (a, b)).length = L.length * S.length := fun L => by
    induction L with
    | nil => simp
    | cons a L ih => rw [List.flatMap_cons, List.length_append, ih, List.length_map, List.length_cons, Nat.succ_mul]; omega
  rw [h2] at h1; exact h1

theorem MetS.more {S : List Int} {met : Met} (h : MetS S met) {a b : Tm} (hs : skipU a b met = false) (ha : ∀ u ∈ occ a, u ∈ S) (hb : ∀ u ∈ occ b, u ∈ S) : MetS S (metU a b met) := by
  unfold metU
  split
  · rename_i hc
    have hc' := hc
    simp only [Bool.and_eq_true, decide_eq_true_eq] at hc'
    have hn : (a.n, b.n) ∉ met := by
      unfold skipU at hs
      rw [hc, Bool.true_and] at hs
      simpa using hs
    refine ⟨?_, fun m hm => ?_⟩
    · rw [List.nodup_append]
      exact ⟨h.1, by simp, fun x hx y hy => by simp at hy; subst hy; exact fun e => hn (e ▸ hx)⟩
    · rcases List.mem_append.1 hm with hm | hm
      · exact h.2 m hm
      · simp only [List.mem_singleton] at hm; subst hm
        exact ⟨ha _ (occ_var hc'.1), hb _ (occ_var hc'.2)⟩
  · exact h

theorem refU_good {S : List Int} {N : Nat} : ∀ (f : Nat) (l : Binds) (a b : Tm) (met : Met) (l' : Binds) (met' : Met), refU f l a b met = some (l', met', true) → ∀ R, UG S N ((a, b) :: R) l → MetS S met → UG S N R l' ∧ MetS S met'
  | 0, _, _, _, _, _, _, h => by cases h
  | f + 1, l, a, b, met, l', met', h => by
    intro R hU hM
    unfold refU at h
    split at h
    · cases h; exact ⟨hU.tail, hM⟩
    rename_i hs
    have hs' : skipU a b met = false := by simpa using hs
    have hM' := hM.more hs' (hU.vt (a, b) (by simp)).1 (hU.vt (a, b) (by simp)).2
    split at h
    · cases h; exact ⟨hU.tail, hM'⟩
    rename_i hv
    split at h
    · rename_i hb
      simp only [Option.some.injEq, Prod.mk.injEq, Bool.not_eq_true'] at h
      obtain ⟨rfl, rfl, hw⟩ := h
      exact ⟨hU.bind (sw := true) hv (by unfold pickU; rw [if_pos (by simp [hb])]) hb hw, hM'⟩
    rename_i hb
    split at h
    · rename_i ha
      simp only [Option.some.injEq, Prod.mk.injEq, Bool.not_eq_true'] at h
      obtain ⟨rfl, rfl, hw⟩ := h
      exact ⟨hU.bind (sw := true) hv (by unfold pickU; rw [if_neg (by simp [hb])]) ha hw, hM'⟩
    rename_i ha
    split at h
    · cases h
    have key : ∀ (T : List (Tm × Tm)) (l2 : Binds) (met2 : Met), refUL (refU f) l2 T met2 = some (l', met', true) → UG S N (T ++ R) l2 → MetS S met2 → UG S N R l' ∧ MetS S met' := by
      intro T
      induction T with
      | nil => intro l2 met2 h hU hM; cases h; exact ⟨hU, hM⟩
      | cons p T ih =>
        obtain ⟨x, y⟩ := p
        intro l2 met2 h hU hM
        simp only [refUL] at h
        split at h
        · cases h
        · rename_i l3 met3 hq
          obtain ⟨h1, h2⟩ := refU_good f l2 x y met2 l3 met3 hq (T ++ R) hU hM
          exact ih l3 met3 h h1 h2
        · cases h
    exact key _ l _ h (hU.args (sw := true) ha hb) hM'
end Tm
end PSL
