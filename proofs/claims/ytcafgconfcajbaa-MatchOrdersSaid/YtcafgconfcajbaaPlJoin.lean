import Derived.Test.YtcafgconfcajbaaPslD
import Derived.Test.YtcafgconfcajbaaPlRef1
namespace PSL
open Go

/-- A type's number is that of terms. -/
structure IsTerm (ty : Nat → Option Ty) (T : Nat) : Prop where
  ex : ∃ (a b c s : Nat) (τ τa τb τc τs : Ty), ty T = some τ ∧ τ.sh = .struct [(0, a), (1, b), (2, c), (3, s)] ∧ τ.size = 4 ∧ 1 ≤ τ.bytes ∧ ty a = some τa ∧ τa.sh = .int .i64 ∧ ty b = some τb ∧ τb.sh = .str ∧ ty c = some τc ∧ τc.sh = .int .i64 ∧ ty s = some τs ∧ τs.sh = .slice T

def isTermB (ty : Nat → Option Ty) (T : Nat) : Bool :=
  match ty T with
  | some ⟨4, by_, _, .struct [(0, a), (1, b), (2, c), (3, s)]⟩ => Nat.ble 1 by_ && (match ty a with | some ⟨_, _, _, .int .i64⟩ => true | _ => false) && (match ty b with | some ⟨_, _, _, .str⟩ => true | _ => false) &&
      (match ty c with | some ⟨_, _, _, .int .i64⟩ => true | _ => false) && (match ty s with | some ⟨_, _, _, .slice T'⟩ => Nat.beq T' T | _ => false)
  | _ => false

theorem isTermB_ok {ty : Nat → Option Ty} {T : Nat} (h : isTermB ty T = true) : IsTerm ty T := by
  unfold isTermB at h
  split at h
  case h_2 => cases h
  rename_i by_ z a b c s hT
  simp only [Bool.and_eq_true] at h
  obtain ⟨⟨⟨⟨h0, h1⟩, h2⟩, h3⟩, h4⟩ := h
  split at h1
  case h_2 => cases h1
  rename_i ha
  split at h2
  case h_2 => cases h2
  rename_i hb
  split at h3
  case h_2 => cases h3
  rename_i hc
  split at h4
  case h_2 => cases h4
  rename_i hs
  have := natBeq h4
  subst this
  exact ⟨a, b, c, s, _, _, _, _, _, hT, rfl, rfl, Nat.le_of_ble_eq_true h0, ha, rfl, hb, rfl, hc, rfl, hs, rfl⟩

theorem has_int {ty : Nat → Option Ty} {B n t : Nat} {τ : Ty} {row : List D} {k : IntKind} (hτ : ty t = some τ) (hs : τ.sh = .int k) (h : HasTy ty B n t row) : ∃ m, row = [.v (.int k m)] ∧ k.min ≤ m ∧ m ≤ k.max := by
  cases n with
  | zero => simp [HasTy] at h
  | succ n => simpa only [HasTy, hτ, hs] using h
theorem has_str {ty : Nat → Option Ty} {B n t : Nat} {τ : Ty} {row : List D} (hτ : ty t = some τ) (hs : τ.sh = .str) (h : HasTy ty B n t row) : ∃ s : ByteArray, row = [.v (.string s)] ∧ s.size ≤ B := by
  cases n with
  | zero => simp [HasTy] at h
  | succ n => simpa only [HasTy, hτ, hs] using h
theorem has_slice {ty : Nat → Option Ty} {B n t e : Nat} {τ : Ty} {row : List D} (hτ : ty t = some τ) (hs : τ.sh = .slice e) (h : HasTy ty B (n + 1) t row) : ∃ rows : List (List D), row = [.sl rows] ∧ (∀ τ, ty e = some τ → rows.length * τ.bytes ≤ B) ∧ ∀ r ∈ rows, HasTy ty B n e r := by
  simpa only [HasTy, hτ, hs] using h

/-- All numbers of a term fit. -/
def Tm.Fit (t : Tm) : Prop := ∀ d e, e ∈ t.els d → I64 e.2.k ∧ I64 e.2.n

theorem tm_of {ty : Nat → Option Ty} {T B : Nat} (hT : IsTerm ty T) (hB : B ≤ 140737488355328) : ∀ (n : Nat) (row : List D), HasTy ty B n T row → ∃ t : Tm, row = t.row ∧ t.Ok ∧ t.Fit := by
  obtain ⟨a, b, c, s, τ, τa, τb, τc, τs, h1, h2, h3, hby, ha, ha', hb, hb', hc, hc', hs, hs'⟩ := hT.ex
  intro n
  induction n using Nat.strongRecOn with
  | _ n ih =>
  intro row h
  cases n with
  | zero => simp [HasTy] at h
  | succ n =>
    simp only [HasTy, h1, h2, HasFs] at h
    obtain ⟨_, ra, _, g1, rfl, g2, g3, _, rb, _, g4, rfl, g5, g6, _, rc, _, g7, rfl, g8, g9, _, rs, _, g10, rfl, g11, g12, rfl⟩ := h
    rw [ha] at g1; cases g1
    rw [hb] at g4; cases g4
    rw [hc] at g7; cases g7
    rw [hs] at g10; cases g10
    obtain ⟨k, rfl, hk⟩ := has_int ha ha' g3
    obtain ⟨nm, rfl, hnm⟩ := has_str hb hb' g6
    obtain ⟨m, rfl, hm⟩ := has_int hc hc' g9
    cases n with
    | zero => simp [HasTy] at g12
    | succ n =>
      obtain ⟨rows, rfl, hlen, hrows⟩ := has_slice hs hs' g12
      have hch : ∃ l : List Tm, rows = l.map Tm.row ∧ ∀ x ∈ l, x.Ok ∧ x.Fit := by
        clear hlen g11 g12
        induction rows with
        | nil => exact ⟨[], rfl, by simp⟩
        | cons r rows ihr =>
          obtain ⟨t, ht1, ht2⟩ := ih n (by omega) r (hrows r (by simp))
          obtain ⟨l, hl1, hl2⟩ := ihr fun r hr => hrows r (by simp [hr])
          exact ⟨t :: l, by simp [ht1, hl1], by simpa using ⟨ht2, hl2⟩⟩
      obtain ⟨l, rfl, hl⟩ := hch
      have hll : l.length ≤ B := by
        have := hlen τ h1
        rw [List.length_map] at this
        exact Nat.le_trans (Nat.le_mul_of_pos_right _ hby) this
      refine ⟨.mk k nm m l, by simp [Tm.row, Tm.k, Tm.s, Tm.n, Tm.l, Tm.rows_eq], ?_, ?_⟩
      · intro d e he
        simp only [Tm.els, List.mem_cons] at he
        rcases he with rfl | he
        · exact ⟨show l.length ≤ _ by omega, show nm.size ≤ _ by omega⟩
        · obtain ⟨x, hx, hex⟩ := Tm.elsL_mem he
          exact (hl x hx).1 _ _ hex
      · intro d e he
        simp only [Tm.els, List.mem_cons] at he
        rcases he with rfl | he
        · exact ⟨hk, hm⟩
        · obtain ⟨x, hx, hex⟩ := Tm.elsL_mem he
          exact (hl x hx).2 _ _ hex

theorem av_row (t : Tm) : AV.agg (t.row.map .d) = t.av := rfl

/-- An argument that is a term. -/
theorem arg_tm {ty : Nat → Option Ty} {T B : Nat} (hT : IsTerm ty T) (hB : B ≤ 140737488355328) {n : Nat} {τ : Ty} {row : List D} {a : AV} (hτ : ty T = some τ) (h : HasTy ty B n T row) (ha : a = avOf τ row) : ∃ t : Tm, a = t.av ∧ t.Ok ∧ t.Fit := by
  obtain ⟨t, rfl, h1⟩ := tm_of hT hB n row h
  refine ⟨t, ?_, h1⟩
  obtain ⟨a', b, c, s, τ', τa, τb, τc, τs, g1, g2, _⟩ := hT.ex
  rw [hτ] at g1; cases g1
  rw [ha]; unfold avOf Ty.agg
  rw [g2]; rfl

theorem arg_tms {ty : Nat → Option Ty} {T TS B : Nat} (hT : IsTerm ty T) (hB : B ≤ 140737488355328) {n : Nat} {τ : Ty} {row : List D} {a : AV} (hτ : ty TS = some τ) (hs : τ.sh = .slice T) (h : HasTy ty B n TS row) (ha : a = avOf τ row) : ∃ l : List Tm, a = .d (.sl (Tm.rows l)) ∧ (∀ t ∈ l, t.Ok ∧ t.Fit) ∧ l.length ≤ 140737488355328 := by
  cases n with
  | zero => simp [HasTy] at h
  | succ n =>
    obtain ⟨rows, rfl, h1, h2⟩ := has_slice hτ hs h
    have hch : ∃ l : List Tm, rows = l.map Tm.row ∧ ∀ x ∈ l, x.Ok ∧ x.Fit := by
      clear h1 h ha
      induction rows with
      | nil => exact ⟨[], rfl, by simp⟩
      | cons r rows ihr =>
        obtain ⟨t, ht1, ht2⟩ := tm_of hT hB n r (h2 r (by simp))
        obtain ⟨l, hl1, hl2⟩ := ihr fun r hr => h2 r (by simp [hr])
        exact ⟨t :: l, by simp [ht1, hl1], by simpa using ⟨ht2, hl2⟩⟩
    obtain ⟨l, rfl, hl⟩ := hch
    refine ⟨l, ?_, hl, ?_⟩
    · rw [ha]; unfold avOf Ty.agg; rw [hs, Tm.rows_eq]
    · obtain ⟨a', b, c, s, τ', τa, τb, τc, τs, g1, g2, _, hby, _⟩ := hT.ex
      have := h1 τ' g1
      rw [List.length_map] at this
      exact Nat.le_trans (Nat.le_mul_of_pos_right _ hby) (Nat.le_trans this hB)

theorem arg_int {ty : Nat → Option Ty} {t B n : Nat} {k : IntKind} {τ : Ty} {row : List D} {a : AV} (hτ : ty t = some τ) (hs : τ.sh = .int k) (h : HasTy ty B n t row) (ha : a = avOf τ row) : ∃ m, a = .d (.v (.int k m)) ∧ k.min ≤ m ∧ m ≤ k.max := by
  obtain ⟨m, rfl, h1⟩ := has_int hτ hs h
  exact ⟨m, by rw [ha]; unfold avOf Ty.agg; rw [hs], h1⟩
theorem arg_str {ty : Nat → Option Ty} {t B n : Nat} {τ : Ty} {row : List D} {a : AV} (hτ : ty t = some τ) (hs : τ.sh = .str) (h : HasTy ty B n t row) (ha : a = avOf τ row) : ∃ m : ByteArray, a = .d (.v (.string m)) ∧ m.size ≤ B := by
  obtain ⟨m, rfl, h1⟩ := has_str hτ hs h
  exact ⟨m, by rw [ha]; unfold avOf Ty.agg; rw [hs], h1⟩

theorem sh_of {ty : Nat → Option Ty} {t : Nat} {τ : Ty} {sh : Sh} (h : ty t = some τ) (h2 : (ty t).map Ty.sh = some sh) : τ.sh = sh := by rw [h] at h2; simpa using h2

theorem args1 {ty : Nat → Option Ty} {B t : Nat} {as : List AV} (h : ArgsAre ty B [t] as) : ∃ (n : Nat) (τ : Ty) (row : List D) (a : AV), as = [a] ∧ ty t = some τ ∧ HasTy ty B n t row ∧ a = avOf τ row := by
  match as, h with
  | [a], h => simp only [ArgsAre] at h; obtain ⟨⟨n, τ, row, h1, h2, _, h3⟩, _⟩ := h; exact ⟨n, τ, row, a, rfl, h1, h2, h3⟩
  | [], h => simp [ArgsAre] at h
  | _ :: _ :: _, h => simp [ArgsAre] at h
theorem argsC {ty : Nat → Option Ty} {B t : Nat} {ts : List Nat} {as : List AV} (h : ArgsAre ty B (t :: ts) as) : ∃ (n : Nat) (τ : Ty) (row : List D) (a : AV) (as' : List AV), as = a :: as' ∧ ty t = some τ ∧ HasTy ty B n t row ∧ a = avOf τ row ∧ ArgsAre ty B ts as' := by
  match as, h with
  | a :: as, h => simp only [ArgsAre] at h; obtain ⟨⟨n, τ, row, h1, h2, _, h3⟩, h4⟩ := h; exact ⟨n, τ, row, a, as, rfl, h1, h2, h3, h4⟩
  | [], h => simp [ArgsAre] at h
theorem args0 {ty : Nat → Option Ty} {B : Nat} {as : List AV} (h : ArgsAre ty B [] as) : as = [] := by
  cases as with
  | nil => rfl
  | cons _ _ => simp [ArgsAre] at h
end PSL
