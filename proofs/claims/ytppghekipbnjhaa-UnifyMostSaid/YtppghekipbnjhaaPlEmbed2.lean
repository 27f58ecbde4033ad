import Derived.Test.YtppghekipbnjhaaPlEmbed
namespace PSL
open Go

def gd (at_ : List Nat) (j : Nat) : Int := ((at_.getD j 0 : Nat) : Int)
def partD (p : Pt) : List D := [.v (.int .i64 p.1.k), .v (.string p.1.s), .v (.int .i64 p.1.n), .sl (Tm.rows p.1.l), .v (.int .i64 (gd p.2 0)), .v (.int .i64 (gd p.2 1)), .v (.int .i64 (gd p.2 2)), .v (.int .i64 (gd p.2 3)), .v (.int .i64 (gd p.2 4)), .v (.int .i64 (gd p.2 5)), .v (.int .i64 (gd p.2 6)), .v (.int .i64 (gd p.2 7))]
def partA (p : Pt) : List AV := [.d (.v (.int .i64 p.1.k)), .d (.v (.string p.1.s)), .d (.v (.int .i64 p.1.n)), .d (.sl (Tm.rows p.1.l)), .d (.v (.int .i64 (gd p.2 0))), .d (.v (.int .i64 (gd p.2 1))), .d (.v (.int .i64 (gd p.2 2))), .d (.v (.int .i64 (gd p.2 3))), .d (.v (.int .i64 (gd p.2 4))), .d (.v (.int .i64 (gd p.2 5))), .d (.v (.int .i64 (gd p.2 6))), .d (.v (.int .i64 (gd p.2 7)))]
def partRows (P : List Pt) : List (List D) := P.map partD
theorem partRows_len (P : List Pt) : (partRows P).length = P.length := by simp [partRows]
theorem partRows_get {P : List Pt} {i : Nat} {p : Pt} (h : P[i]? = some p) : (partRows P)[i]? = some (partD p) := by rw [partRows, List.getElem?_map, h]; rfl
theorem partRows_snoc (P : List Pt) (p : Pt) : partRows P ++ [partD p] = partRows (P ++ [p]) := by simp [partRows]
theorem partA_get {p : Pt} {k : Nat} (h : k < 8) : nth (partA p) (4 + k) = some (iV (gd p.2 k)) := by
  match k, h with
  | 0, _ => rfl
  | 1, _ => rfl
  | 2, _ => rfl
  | 3, _ => rfl
  | 4, _ => rfl
  | 5, _ => rfl
  | 6, _ => rfl
  | 7, _ => rfl
theorem partA_set (t : Tm) (a : Nat) : ∀ (at_ : List Nat), at_.length < 8 → spliceA (partA (t, at_)) (4 + at_.length) [iV a] = partA (t, at_ ++ [a]) := by
  intro at_ hk
  cases at_ with
  | nil => rfl
  | cons a0 at_ =>
    cases at_ with
    | nil => rfl
    | cons a1 at_ =>
      cases at_ with
      | nil => rfl
      | cons a2 at_ =>
        cases at_ with
        | nil => rfl
        | cons a3 at_ =>
          cases at_ with
          | nil => rfl
          | cons a4 at_ =>
            cases at_ with
            | nil => rfl
            | cons a5 at_ =>
              cases at_ with
              | nil => rfl
              | cons a6 at_ =>
                cases at_ with
                | nil => rfl
                | cons a7 at_ =>
                  exact absurd hk (by simp only [List.length_cons]; omega)
theorem gd_get {at_ : List Nat} {j a : Nat} (h : at_[j]? = some a) : gd at_ j = a := by simp [gd, h]

/-- Tables as data. -/
def tabS (n k : Nat) (c : Nat → Nat → Bool) : List (List D) := (tabD n k c).map fun r => [.sl (r.map fun d => [d])]
theorem tabS_rows (n k : Nat) (c : Nat → Nat → Bool) : rowsD (tabD n k c) = .sl (tabS n k c) := rfl
theorem tabS_get {n k i : Nat} {c : Nat → Nat → Bool} (h : i < k) : (tabS n k c)[i]? = some [.sl ((rowD n (c i)).map fun d => [d])] := by
  rw [tabS, List.getElem?_map, tabD_get h]; rfl
theorem rowS_get {n j : Nat} {r : Nat → Bool} (h : j < n) : ((rowD n r).map fun d => [d])[j]? = some [.v (.bool (r j))] := by
  rw [List.getElem?_map, rowD_get h]; rfl

/-- The document's parts. -/
def natL (at_ : List Nat) : List Int := at_.map fun (a : Nat) => (a : Int)
def rpD (p : Pt) : List D := [.v (.int .i64 p.1.k), .v (.string p.1.s), .v (.int .i64 p.1.n), .sl (Tm.rows p.1.l), .sl (irows (natL p.2))]
def rpRows (P : List Pt) : List (List D) := P.map rpD
theorem rpRows_len (P : List Pt) : (rpRows P).length = P.length := by simp [rpRows]
theorem rpRows_get {P : List Pt} {i : Nat} {p : Pt} (h : P[i]? = some p) : (rpRows P)[i]? = some (rpD p) := by rw [rpRows, List.getElem?_map, h]; rfl
theorem rpRows_snoc (P : List Pt) (p : Pt) : rpRows P ++ [rpD p] = rpRows (P ++ [p]) := by simp [rpRows]
theorem natL_len (at_ : List Nat) : (natL at_).length = at_.length := by simp [natL]
theorem natL_get {at_ : List Nat} {j a : Nat} (h : at_[j]? = some a) : (natL at_)[j]? = some (a : Int) := by simp [natL, h]
theorem natL_snoc (at_ : List Nat) (a : Nat) : irows (natL at_) ++ [[.v (.int .i64 a)]] = irows (natL (at_ ++ [a])) := by simp [natL, irows, irow]
end PSL
namespace PSL
open Go
def nilRows (n : Nat) : List (List D) := List.replicate n [.v (.slice none 0 0)]
def embT (L M : List Pt) (i j : Nat) : Bool := match L[i]?, M[j]? with
  | some x, some y => Tm.emb y.1 x.1
  | _, _ => false
theorem embT_at {L M : List Pt} {i j : Nat} {x y : Pt} (hx : L[i]? = some x) (hy : M[j]? = some y) : embT L M i j = Tm.emb y.1 x.1 := by simp [embT, hx, hy]
theorem hdNil_set {hds : List (Nat × Nat × Nat)} {n m k : Nat} {x : Nat × Nat × Nat} (h : hds.length = k) (hk : k < n) : (hdN hds m ++ nilRows (n - k)).set k [.v (hdV x m)] = hdN (hds ++ [x]) m ++ nilRows (n - (k + 1)) := by
  have e : n - k = (n - (k + 1)) + 1 := by omega
  rw [e, nilRows, List.replicate_succ, List.set_append, hdN_len, if_neg (by omega), h, Nat.sub_self, List.set_cons_zero, hdN, hdN]
  simp [nilRows]
/-- What a part's row says of the table. -/
theorem coup_table {L M : List Pt} {c : Nat → Nat → Bool} {n k i : Nat} {x y : Pt} (hL : Tm.Good L) (hM : Tm.Good M) (hn : L.length = n) (hx : L[i]? = some x) (hy : M[k]? = some y) (hc : ∀ a < n, ∀ b < k, c a b = embT L M a b) :
    ∀ (j a b : Nat) (x' y' : Tm), x.2[j]? = some a → y.2[j]? = some b → x.1.l[j]? = some x' → y.1.l[j]? = some y' → a < n ∧ b < M.length ∧ c a b = Tm.emb y' x' := fun j a b x' y' ha hb hx' hy' => by
  obtain ⟨_, _, h1⟩ := hL i x.1 x.2 hx
  obtain ⟨_, _, h2⟩ := hM k y.1 y.2 hy
  obtain ⟨a', u, g1, g2, g3⟩ := h1 j x' hx'
  obtain ⟨b', v, g4, g5, g6⟩ := h2 j y' hy'
  rw [ha] at g1; rw [hb] at g4; cases g1; cases g4
  have hi := (List.getElem?_eq_some_iff.1 g3).1
  have hk := (List.getElem?_eq_some_iff.1 g6).1
  exact ⟨by omega, hk, by rw [hc a (by omega) b g5, embT_at g3 g6]⟩
theorem dive_table {L M : List Pt} {c : Nat → Nat → Bool} {n k i : Nat} {x y : Pt} (hM : Tm.Good M) (hn : L.length = n) (hx : L[i]? = some x) (hy : M[k]? = some y) (hc : ∀ a < n, ∀ b < k, c a b = embT L M a b) :
    ∀ (j b : Nat) (y' : Tm), y.2[j]? = some b → y.1.l[j]? = some y' → b < M.length ∧ c i b = Tm.emb y' x.1 := fun j b y' hb hy' => by
  obtain ⟨_, _, h2⟩ := hM k y.1 y.2 hy
  obtain ⟨b', v, g4, g5, g6⟩ := h2 j y' hy'
  rw [hb] at g4; cases g4
  have hi := (List.getElem?_eq_some_iff.1 hx).1
  have hk := (List.getElem?_eq_some_iff.1 g6).1
  exact ⟨hk, by rw [hc i (by omega) b g5, embT_at hx g6]⟩
end PSL
namespace PSL
open Go
/-- A table in one row. -/
def flT (n m : Nat) (c : Nat → Nat → Bool) : List (List D) := (List.range (n * m)).map fun q => [.v (.bool (c (q / m) (q % m)))]
theorem flT_len (n m : Nat) (c : Nat → Nat → Bool) : (flT n m c).length = n * m := by simp [flT]
theorem flT_lt {n m i j : Nat} (hi : i < n) (hj : j < m) : i * m + j < n * m := by
  have : (i + 1) * m ≤ n * m := Nat.mul_le_mul_right _ hi
  rw [Nat.succ_mul] at this; omega
theorem flT_div {m i j : Nat} (hj : j < m) : (i * m + j) / m = i ∧ (i * m + j) % m = j := by
  constructor
  · rw [Nat.add_comm, Nat.add_mul_div_right _ _ (by omega), Nat.div_eq_of_lt hj, Nat.zero_add]
  · rw [Nat.add_comm, Nat.add_mul_mod_self_right, Nat.mod_eq_of_lt hj]
theorem flT_get {n m i j : Nat} {c : Nat → Nat → Bool} (hi : i < n) (hj : j < m) : (flT n m c)[i * m + j]? = some [.v (.bool (c i j))] := by
  obtain ⟨h1, h2⟩ := flT_div (i := i) hj
  rw [flT, List.getElem?_map, List.getElem?_range (flT_lt hi hj)]
  simp [h1, h2]
theorem flT_set {n m i j : Nat} {c : Nat → Nat → Bool} {v : Bool} (hi : i < n) (hj : j < m) : (flT n m c).set (i * m + j) [.v (.bool v)] = flT n m (upd2 c i j v) := by
  apply List.ext_getElem?
  intro q
  rw [List.getElem?_set, flT_len]
  by_cases hq : q < n * m
  · have e : ∀ c, (flT n m c)[q]? = some [.v (.bool (c (q / m) (q % m)))] := fun c => by rw [flT, List.getElem?_map, List.getElem?_range hq]; rfl
    rw [e, e]
    by_cases h : i * m + j = q
    · subst h
      obtain ⟨h1, h2⟩ := flT_div (i := i) hj
      rw [if_pos rfl, if_pos hq, h1, h2, upd2, if_pos rfl, upd1, if_pos rfl]
    · rw [if_neg h]
      have h3 := Nat.div_add_mod q m
      have : ¬ (q / m = i ∧ q % m = j) := fun ⟨g1, g2⟩ => h (by rw [← g1, ← g2, Nat.mul_comm]; exact h3)
      unfold upd2
      split
      · rename_i g1
        unfold upd1
        rw [if_neg (fun g2 => this ⟨g1, g2⟩)]
      · rfl
  · rw [List.getElem?_eq_none (by rw [flT_len]; omega), List.getElem?_eq_none (by rw [flT_len]; omega)]
    split
    · rename_i h; subst h; rw [if_neg hq]
    · rfl
theorem flT_false (n m : Nat) : List.replicate (n * m) [D.v (.bool false)] = flT n m fun _ _ => false := by
  apply List.ext_getElem?
  intro q
  by_cases hq : q < n * m
  · rw [List.getElem?_replicate, if_pos hq, flT, List.getElem?_map, List.getElem?_range hq]; rfl
  · rw [List.getElem?_eq_none (by simp; omega), List.getElem?_eq_none (by rw [flT_len]; omega)]
theorem embAny_app : ∀ (l : List Tm) (y x : Tm), Tm.embAny (l ++ [y]) x = (Tm.embAny l x || Tm.emb y x)
  | [], y, x => by simp [Tm.embAny]
  | z :: l, y, x => by simp [Tm.embAny, embAny_app l y x, Bool.or_assoc]
theorem embAny_take {l : List Tm} {k : Nat} {y x : Tm} (h : l[k]? = some y) : Tm.embAny (l.take (k + 1)) x = (Tm.embAny (l.take k) x || Tm.emb y x) := by
  rw [List.take_add_one, h]; exact embAny_app _ _ _
end PSL
namespace PSL
open Go
def rpA (p : Pt) : List AV := [.d (.v (.int .i64 p.1.k)), .d (.v (.string p.1.s)), .d (.v (.int .i64 p.1.n)), .d (.sl (Tm.rows p.1.l)), .d (.sl (irows (natL p.2)))]
def headP (y x : Pt) : Bool := decide (x.1.k = y.1.k) && (!decide (x.1.k = 3) || (strEq x.1.s y.1.s && decide (x.2.length = y.2.length)))
theorem headP_iff {y x : Pt} (hx : x.2.length = x.1.l.length) (hy : y.2.length = y.1.l.length) : headP y x = true ↔ x.1.k = y.1.k ∧ (y.1.k = 3 → x.1.s = y.1.s ∧ x.1.l.length = y.1.l.length) := by
  simp only [headP, Bool.and_eq_true, decide_eq_true_eq, Bool.or_eq_true, Bool.not_eq_true', decide_eq_false_iff_not, Tm.strEq_iff]
  constructor
  · rintro ⟨h1, h2⟩
    refine ⟨h1, fun h3 => ?_⟩
    rcases h2 with h2 | ⟨h2, h4⟩
    · exact absurd (h1.trans h3) h2
    · exact ⟨h2, by omega⟩
  · rintro ⟨h1, h2⟩
    refine ⟨h1, ?_⟩
    by_cases h3 : x.1.k = 3
    · obtain ⟨g1, g2⟩ := h2 (h1 ▸ h3)
      exact .inr ⟨g1, by omega⟩
    · exact .inl h3
theorem coup_head {y x : Pt} (hx : x.2.length = x.1.l.length) (hy : y.2.length = y.1.l.length) (h : Tm.coup y.1 x.1 = true) : headP y x = true :=
  (headP_iff hx hy).2 ⟨(Tm.coup_iff.1 h).1, fun h3 => ⟨((Tm.coup_iff.1 h).2 h3).1, ((Tm.coup_iff.1 h).2 h3).2.1⟩⟩
end PSL
namespace PSL
open Go
/-- What In answers. -/
def inT (a b : Tm) : Bool := a.rightB && b.rightB && Tm.emb b a
/-- What Whistle answers, of so many first ones. -/
def whGo (l : List Tm) (t : Tm) : Nat → Int
  | 0 => -1
  | k + 1 => match l[k]? with
    | some x => if inT x t then (k : Int) else whGo l t k
    | none => -1
def smallS (l : List Tm) : Bool := decide (Tm.fewL l 60 200 ≥ 0)
theorem smallS_ok {l : List Tm} (h : smallS l = true) : Tm.sizeL l ≤ 60 ∧ ∀ x e, e ∈ Tm.elsL l x → e.2.s.size ≤ 100 := by
  simp only [smallS, decide_eq_true_eq] at h
  rcases Tm.fewL_le l 60 200 (by omega) (by omega) (by omega) with h1 | ⟨h2, _, _, h5⟩
  · omega
  · exact ⟨by omega, h5⟩
theorem few_neg {t : Tm} {m d : Int} (h : -1 ≤ m ∧ m < 0) : t.few m d = -1 := by
  rw [Tm.few_eq, if_pos]
  simp only [Tm.fewStep]
  rw [show IntKind.i64.wrap (m - 1) = m - 1 from w64 (by omega) (by omega), decide_eq_true (by omega : m - 1 < 0)]
  rfl
theorem few_bound (t : Tm) {m d : Int} (h0 : -1 ≤ m) (h1 : m < 9223372036854775808) (h2 : d ≤ 1000) : -1 ≤ t.few m d ∧ t.few m d ≤ m ∧ (0 ≤ t.few m d → t.few m d + t.size ≤ m ∧ ∀ x e, e ∈ t.els x → e.2.s.size ≤ 100) := by
  by_cases h : m < 0
  · rw [few_neg ⟨h0, h⟩]; exact ⟨by omega, by omega, fun h => by omega⟩
  · rcases Tm.few_le t m d (by omega) h1 h2 with h3 | ⟨h3, _, _, h4, h5⟩
    · rw [h3]; exact ⟨by omega, by omega, fun h => by omega⟩
    · exact ⟨by omega, by omega, fun _ => ⟨h3, h5⟩⟩
end PSL
