import Derived.Test.YtppghekipbnjhaaPlWarsh
import Derived.Test.YtppghekipbnjhaaPlMsg
namespace PSL
open Go
namespace Tm

/-! ### what is embedded: the second in the first -/
mutual
def emb : Tm → Tm → Bool
  | mk k s n l, x => (decide (x.k = k) && (!decide (k = 3) || (strEq x.s s && decide (x.l.length = l.length) && embAll l x.l))) || embAny l x
def embAll : List Tm → List Tm → Bool
  | [], _ => true
  | y :: r, xs => match xs with
    | [] => true
    | x :: xs => emb y x && embAll r xs
def embAny : List Tm → Tm → Bool
  | [], _ => false
  | y :: r, x => emb y x || embAny r x
end

/-- Do they begin alike, part by part? -/
def coup (y x : Tm) : Bool := decide (x.k = y.k) && (!decide (y.k = 3) || (strEq x.s y.s && decide (x.l.length = y.l.length) && embAll y.l x.l))
theorem emb_eq (y x : Tm) : emb y x = (coup y x || embAny y.l x) := by cases y; simp only [emb]; rfl

theorem embAny_iff {l : List Tm} {x : Tm} : embAny l x = true ↔ ∃ y ∈ l, emb y x = true := by
  induction l with
  | nil => simp [embAny]
  | cons y l ih => simp [embAny, ih]
theorem embAny_at {l : List Tm} {x : Tm} : embAny l x = (List.range l.length).any fun j => match l[j]? with | some y => emb y x | none => false := by
  rw [Bool.eq_iff_iff, embAny_iff, List.any_eq_true]
  constructor
  · rintro ⟨y, hy, h⟩
    obtain ⟨j, hj⟩ := List.mem_iff_getElem?.1 hy
    exact ⟨j, by simp; exact (List.getElem?_eq_some_iff.1 hj).1, by rw [hj]; exact h⟩
  · rintro ⟨j, _, h⟩
    cases hj : l[j]? with
    | none => rw [hj] at h; cases h
    | some y => rw [hj] at h; exact ⟨y, List.mem_of_getElem? hj, h⟩
theorem embAll_iff : ∀ {l xs : List Tm}, xs.length = l.length → (embAll l xs = true ↔ ∀ (j : Nat) (y x : Tm), l[j]? = some y → xs[j]? = some x → emb y x = true)
  | [], xs, h => by simp [embAll]
  | y :: l, [], h => by simp at h
  | y :: l, x :: xs, h => by
    simp only [embAll, Bool.and_eq_true, embAll_iff (by simpa using h)]
    constructor
    · rintro ⟨h1, h2⟩ j y' x' hy hx
      cases j with
      | zero => simp at hy hx; subst hy; subst hx; exact h1
      | succ j => exact h2 j y' x' (by simpa using hy) (by simpa using hx)
    · intro h3
      exact ⟨h3 0 y x rfl rfl, fun j y' x' hy hx => h3 (j + 1) y' x' (by simpa using hy) (by simpa using hx)⟩

theorem coup_iff {y x : Tm} : coup y x = true ↔ x.k = y.k ∧ (y.k = 3 → x.s = y.s ∧ x.l.length = y.l.length ∧ ∀ (j : Nat) (y' x' : Tm), y.l[j]? = some y' → x.l[j]? = some x' → emb y' x' = true) := by
  simp only [coup, Bool.and_eq_true, decide_eq_true_eq, Bool.or_eq_true, Bool.not_eq_true', decide_eq_false_iff_not, strEq_iff]
  constructor
  · rintro ⟨h1, h2⟩
    refine ⟨h1, fun h3 => ?_⟩
    rcases h2 with h2 | ⟨⟨h2, h4⟩, h5⟩
    · exact absurd h3 h2
    · exact ⟨h2, h4, (embAll_iff h4).1 h5⟩
  · rintro ⟨h1, h2⟩
    refine ⟨h1, ?_⟩
    by_cases h3 : y.k = 3
    · obtain ⟨g1, g2, g3⟩ := h2 h3
      exact .inr ⟨⟨g1, g2⟩, (embAll_iff g2).2 g3⟩
    · exact .inl h3

theorem fair_parts {t : Tm} (h : t.fairR = true) (hk : t.k ≠ 3) : t.l = [] ∧ t.s = ⟨#[]⟩ := by
  rw [fairR_eq] at h
  simp only [Bool.and_eq_true] at h
  have h2 := h.2
  unfold kindR at h2
  split at h2
  · simp only [Bool.and_eq_true, strEq_iff, beq_iff_eq] at h2
    exact ⟨List.length_eq_zero_iff.1 (by omega), h2.1.2⟩
  · split at h2
    · simp only [Bool.and_eq_true, strEq_iff, beq_iff_eq] at h2
      exact ⟨List.length_eq_zero_iff.1 (by omega), h2.1⟩
    · simp only [Bool.and_eq_true, beq_iff_eq] at h2
      exact absurd h2.1.1.1.1 hk
theorem fair_leaf {t : Tm} (h : t.fairR = true) (hk : t.k ≠ 3) : t.l = [] := (fair_parts h hk).1
theorem fair_arity {t : Tm} (h : t.fairR = true) : t.l.length ≤ 8 := by
  by_cases hk : t.k = 3
  · rw [fairR_eq] at h
    simp only [Bool.and_eq_true] at h
    have h2 := h.2
    unfold kindR at h2
    rw [if_neg (by omega), if_neg (by omega)] at h2
    simp only [Bool.and_eq_true, decide_eq_true_eq] at h2
    have := h2.2; omega
  · rw [fair_leaf h hk]; simp
theorem fair_kid {t x : Tm} (h : t.fairR = true) (hx : x ∈ t.l) : x.fairR = true := by
  obtain ⟨k, s, n, l⟩ := t
  exact fairRL_iff.1 (fairR_mk h).1 x hx

theorem size_kid {t x : Tm} (hx : x ∈ t.l) : x.size < t.size := by
  have := size_mem hx; have := size_eq t; omega

theorem emb_refl : ∀ (n : Nat) (t : Tm), t.size ≤ n → emb t t = true := by
  intro n
  induction n with
  | zero => intro t h; have := size_eq t; omega
  | succ n ih =>
    intro t h
    rw [emb_eq, Bool.or_eq_true]
    left
    refine coup_iff.2 ⟨rfl, fun _ => ⟨rfl, rfl, fun j y x hy hx => ?_⟩⟩
    rw [hy] at hx; cases hx
    have := size_kid (List.mem_of_getElem? hy)
    exact ih y (by omega)

theorem emb_kid {t x : Tm} (hx : x ∈ t.l) : emb t x = true := by
  rw [emb_eq, Bool.or_eq_true]
  exact .inr (embAny_iff.2 ⟨x, hx, emb_refl _ x (Nat.le_refl _)⟩)

theorem emb_trans : ∀ (n : Nat) (z y x : Tm), z.size ≤ n → y.fairR = true → emb z y = true → emb y x = true → emb z x = true := by
  intro n
  induction n with
  | zero => intro z _ _ h; have := size_eq z; omega
  | succ n ih =>
    intro z y x hn hf h1 h2
    rw [emb_eq, Bool.or_eq_true] at h1
    rcases h1 with h1 | h1
    · obtain ⟨hk, hc⟩ := coup_iff.1 h1
      rw [emb_eq, Bool.or_eq_true] at h2
      rcases h2 with h2 | h2
      · obtain ⟨hk2, hc2⟩ := coup_iff.1 h2
        rw [emb_eq, Bool.or_eq_true]
        left
        refine coup_iff.2 ⟨hk2.trans hk, fun h3 => ?_⟩
        obtain ⟨a1, a2, a3⟩ := hc h3
        obtain ⟨b1, b2, b3⟩ := hc2 (hk.trans h3)
        refine ⟨b1.trans a1, b2.trans a2, fun j z' x' hz hx => ?_⟩
        have hjl := (List.getElem?_eq_some_iff.1 hz).1
        have hy : y.l[j]? = some (y.l[j]'(by omega)) := List.getElem?_eq_getElem _
        have := size_kid (List.mem_of_getElem? hz)
        exact ih z' _ x' (by omega) (fair_kid hf (List.mem_of_getElem? hy)) (a3 j z' _ hz hy) (b3 j _ x' hy hx)
      · obtain ⟨y', hy', h3⟩ := embAny_iff.1 h2
        have hk3 : y.k = 3 := Classical.byContradiction fun h => by rw [fair_leaf hf h] at hy'; simp at hy'
        obtain ⟨a1, a2, a3⟩ := hc (hk.symm.trans hk3)
        obtain ⟨j, hj⟩ := List.mem_iff_getElem?.1 hy'
        have hjl := (List.getElem?_eq_some_iff.1 hj).1
        have hz : z.l[j]? = some (z.l[j]'(by omega)) := List.getElem?_eq_getElem _
        have := size_kid (List.mem_of_getElem? hz)
        rw [emb_eq, Bool.or_eq_true]
        right
        exact embAny_iff.2 ⟨_, List.mem_of_getElem? hz, ih _ y' x (by omega) (fair_kid hf hy') (a3 j _ y' hz hj) h3⟩
    · obtain ⟨z', hz', h3⟩ := embAny_iff.1 h1
      have := size_kid hz'
      rw [emb_eq, Bool.or_eq_true]
      exact .inr (embAny_iff.2 ⟨z', hz', ih z' y x (by omega) hf h3 h2⟩)

/-! ### it grows -/
mutual
def blind : Tm → Tm
  | mk k s _ l => mk k s 0 (blindL l)
def blindL : List Tm → List Tm
  | [] => []
  | x :: l => blind x :: blindL l
end
theorem blindL_map : ∀ (l : List Tm), blindL l = l.map blind
  | [] => rfl
  | x :: l => by simp only [blindL, List.map_cons, blindL_map l]
theorem blind_eq (t : Tm) : blind t = mk t.k t.s 0 (t.l.map blind) := by cases t; simp only [blind, blindL_map, Tm.k, Tm.s, Tm.l]
mutual
theorem blind_size : ∀ (t : Tm), size (blind t) = size t
  | mk k s n l => by simp only [blind, size, blindL_size l]
theorem blindL_size : ∀ (l : List Tm), sizeL (blindL l) = sizeL l
  | [] => rfl
  | x :: l => by simp only [blindL, sizeL, blind_size x, blindL_size l]
end

theorem sizes_le : ∀ {l m : List Tm}, l.length = m.length → (∀ (j : Nat) (a b : Tm), l[j]? = some a → m[j]? = some b → a.size ≤ b.size) → sizeL l ≤ sizeL m ∧ (sizeL l = sizeL m → ∀ (j : Nat) (a b : Tm), l[j]? = some a → m[j]? = some b → a.size = b.size)
  | [], [], _, _ => ⟨Nat.le_refl _, fun _ j a b h => by simp at h⟩
  | [], _ :: _, h, _ => by simp at h
  | _ :: _, [], h, _ => by simp at h
  | a :: l, b :: m, h, hs => by
    obtain ⟨h1, h2⟩ := sizes_le (l := l) (m := m) (by simpa using h) fun j x y hx hy => hs (j + 1) x y (by simpa using hx) (by simpa using hy)
    have h0 := hs 0 a b rfl rfl
    simp only [sizeL]
    refine ⟨by omega, fun he j x y hx hy => ?_⟩
    cases j with
    | zero => simp at hx hy; subst hx; subst hy; omega
    | succ j => exact h2 (by omega) j x y (by simpa using hx) (by simpa using hy)

theorem fair_names_leaf {t : Tm} (h : t.fairR = true) (hk : t.k ≠ 3) : t.s = ⟨#[]⟩ := (fair_parts h hk).2

theorem emb_grows : ∀ (n : Nat) (y x : Tm), y.size ≤ n → y.fairR = true → x.fairR = true → emb y x = true → x.size ≤ y.size ∧ (x.size = y.size → blind x = blind y) := by
  intro n
  induction n with
  | zero => intro y _ h; have := size_eq y; omega
  | succ n ih =>
    intro y x hn hy hx h
    rw [emb_eq, Bool.or_eq_true] at h
    rcases h with h | h
    · obtain ⟨hk, hc⟩ := coup_iff.1 h
      by_cases h3 : y.k = 3
      · obtain ⟨a1, a2, a3⟩ := hc h3
        have key : ∀ (j : Nat) (a b : Tm), x.l[j]? = some a → y.l[j]? = some b → a.size ≤ b.size ∧ (a.size = b.size → blind a = blind b) := fun j a b ha hb => by
          have := size_kid (List.mem_of_getElem? hb)
          exact ih b a (by omega) (fair_kid hy (List.mem_of_getElem? hb)) (fair_kid hx (List.mem_of_getElem? ha)) (a3 j b a hb ha)
        obtain ⟨g1, g2⟩ := sizes_le a2 fun j a b ha hb => (key j a b ha hb).1
        have e1 := size_eq x
        have e2 := size_eq y
        refine ⟨by omega, fun he => ?_⟩
        rw [blind_eq x, blind_eq y, hk, a1]
        congr 1
        apply List.ext_getElem?
        intro j
        rw [List.getElem?_map, List.getElem?_map]
        rcases Nat.lt_or_ge j x.l.length with hj | hj
        · have ha : x.l[j]? = some (x.l[j]'hj) := List.getElem?_eq_getElem _
          have hb : y.l[j]? = some (y.l[j]'(by omega)) := List.getElem?_eq_getElem _
          rw [ha, hb]
          simp only [Option.map_some, Option.some.injEq]
          exact (key j _ _ ha hb).2 (g2 (by omega) j _ _ ha hb)
        · rw [List.getElem?_eq_none hj, List.getElem?_eq_none (by omega)]
      · have e1 := fair_leaf hy h3
        have e2 := fair_leaf hx (hk ▸ h3)
        refine ⟨by rw [size_eq x, size_eq y, e1, e2]; exact Nat.le_refl _, fun _ => ?_⟩
        rw [blind_eq x, blind_eq y, e1, e2, hk, fair_names_leaf hy h3, fair_names_leaf hx (hk ▸ h3)]
    · obtain ⟨y', hy', h3⟩ := embAny_iff.1 h
      have h4 := size_kid hy'
      have h5 := (ih y' x (by omega) (fair_kid hy hy') hx h3).1
      exact ⟨by omega, fun he => by omega⟩
end Tm

/-! ### parts, each behind its Args' ones -/
abbrev Pt := Tm × List Nat
namespace Tm
mutual
def prt : Tm → List Pt → List Pt
  | mk k s n l, out => (prtL l out []).1 ++ [(mk k s n l, (prtL l out []).2)]
def prtL : List Tm → List Pt → List Nat → List Pt × List Nat
  | [], out, at_ => (out, at_)
  | x :: r, out, at_ => prtL r (prt x out) (at_ ++ [(prt x out).length - 1])
end
theorem prt_eq (t : Tm) (out : List Pt) : prt t out = (prtL t.l out []).1 ++ [(t, (prtL t.l out []).2)] := by cases t; simp only [prt, Tm.l]

mutual
theorem prt_len : ∀ (t : Tm) (out : List Pt), (prt t out).length = out.length + size t
  | mk k s n l, out => by simp only [prt, List.length_append, List.length_singleton, prtL_len l, size]; omega
theorem prtL_len : ∀ (l : List Tm) (out : List Pt) (at_ : List Nat), (prtL l out at_).1.length = out.length + sizeL l
  | [], out, at_ => by simp only [prtL, sizeL]; omega
  | x :: r, out, at_ => by simp only [prtL, prtL_len r, prt_len x, sizeL]; omega
end
theorem prtL_at : ∀ (l : List Tm) (out : List Pt) (at_ : List Nat), (prtL l out at_).2.length = at_.length + l.length
  | [], out, at_ => by simp [prtL]
  | x :: r, out, at_ => by simp only [prtL, prtL_at r, List.length_append, List.length_cons, List.length_nil]; omega

/-- Each part's Args lie ahead of it. -/
def Good (P : List Pt) : Prop := ∀ (k : Nat) (y : Tm) (at_ : List Nat), P[k]? = some (y, at_) → y.fairR = true ∧ at_.length = y.l.length ∧ ∀ (j : Nat) (z : Tm), y.l[j]? = some z → ∃ (a : Nat) (b : List Nat), at_[j]? = some a ∧ a < k ∧ P[a]? = some (z, b)

/-- One row of parts goes on to another. -/
def Pre (P Q : List Pt) : Prop := ∃ R, Q = P ++ R
theorem Pre.get {P Q : List Pt} (h : Pre P Q) {i : Nat} {x : Pt} (hx : P[i]? = some x) : Q[i]? = some x := by
  obtain ⟨R, rfl⟩ := h
  rw [List.getElem?_append_left (List.getElem?_eq_some_iff.1 hx).1]; exact hx
theorem Pre.refl (P : List Pt) : Pre P P := ⟨[], by simp⟩
theorem Pre.trans {P Q R : List Pt} (h : Pre P Q) (k : Pre Q R) : Pre P R := by
  obtain ⟨A, rfl⟩ := h; obtain ⟨B, rfl⟩ := k
  exact ⟨A ++ B, by simp⟩

mutual
theorem prt_good : ∀ (t : Tm) (out : List Pt), t.fairR = true → Good out → Good (prt t out) ∧ Pre out (prt t out) ∧ ∃ b, (prt t out)[(prt t out).length - 1]? = some (t, b)
  | mk k s n l, out, hf, hg => by
    have hfl := (fairR_mk hf).1
    obtain ⟨h1, h2, h3⟩ := prtL_good l out [] hfl hg
    have hat := prtL_at l out []
    simp only [prt]
    generalize prtL l out [] = q at h1 h2 h3 hat
    obtain ⟨P, at_⟩ := q
    simp only at h1 h2 h3 hat ⊢
    refine ⟨fun i y b hi => ?_, h2.trans ⟨_, rfl⟩, at_, by simp⟩
    rcases Nat.lt_or_ge i P.length with hl | hl
    · rw [List.getElem?_append_left hl] at hi
      obtain ⟨g0, g1, g2⟩ := h1 i y b hi
      refine ⟨g0, g1, fun j z hz => ?_⟩
      obtain ⟨a, c, g3, g4, g5⟩ := g2 j z hz
      exact ⟨a, c, g3, g4, (Pre.get ⟨_, rfl⟩ g5)⟩
    · rw [List.getElem?_append_right hl] at hi
      have h0 : i - P.length = 0 := by
        have := (List.getElem?_eq_some_iff.1 hi).1
        simp at this; omega
      rw [h0] at hi
      simp at hi
      obtain ⟨rfl, rfl⟩ := hi
      refine ⟨hf, by rw [hat]; simp [Tm.l], fun j z hz => ?_⟩
      obtain ⟨a, c, g3, g4⟩ := h3 j z hz
      have := (List.getElem?_eq_some_iff.1 g4).1
      exact ⟨a, c, by simpa using g3, by omega, Pre.get ⟨_, rfl⟩ g4⟩
theorem prtL_good : ∀ (l : List Tm) (out : List Pt) (at_ : List Nat), fairRL l = true → Good out → Good (prtL l out at_).1 ∧ Pre out (prtL l out at_).1 ∧ ∀ (j : Nat) (z : Tm), l[j]? = some z → ∃ (a : Nat) (b : List Nat), (prtL l out at_).2[at_.length + j]? = some a ∧ (prtL l out at_).1[a]? = some (z, b)
  | [], out, at_, _, hg => by simp only [prtL]; exact ⟨hg, .refl _, fun j z h => by simp at h⟩
  | x :: r, out, at_, hf, hg => by
    simp only [fairRL, Bool.and_eq_true] at hf
    obtain ⟨h1, h2, b0, h3⟩ := prt_good x out hf.1 hg
    obtain ⟨g1, g2, g3⟩ := prtL_good r (prt x out) (at_ ++ [(prt x out).length - 1]) hf.2 h1
    simp only [prtL]
    refine ⟨g1, h2.trans g2, fun j z hz => ?_⟩
    cases j with
    | zero =>
      simp at hz; subst hz
      refine ⟨(prt x out).length - 1, b0, ?_, g2.get h3⟩
      have key : ∀ (l : List Tm) (out : List Pt) (at1 : List Nat) (i : Nat) (a : Nat), at1[i]? = some a → (prtL l out at1).2[i]? = some a := by
        intro l
        induction l with
        | nil => intro out at1 i a h; exact h
        | cons y l ih =>
          intro out at1 i a h
          simp only [prtL]
          exact ih _ _ i a (by rw [List.getElem?_append_left (List.getElem?_eq_some_iff.1 h).1]; exact h)
      exact key r _ _ _ _ (by simp)
    | succ j =>
      obtain ⟨a, c, k1, k2⟩ := g3 j z (by simpa using hz)
      refine ⟨a, c, ?_, k2⟩
      rw [← k1]; congr 1; simp; omega
end
theorem Good.nil : Good [] := fun k y b h => by simp at h
end Tm
end PSL
