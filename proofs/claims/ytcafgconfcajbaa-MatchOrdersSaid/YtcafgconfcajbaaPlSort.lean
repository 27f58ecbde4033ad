import Derived.Test.YtcafgconfcajbaaPlCmp
namespace PSL
open Go
namespace Tm

def mergeT : List Tm → List Tm → List Tm
  | [], b => b
  | a, [] => a
  | x :: a, y :: b => if cmpT x y < 0 then x :: mergeT a (y :: b) else if cmpT x y > 0 then y :: mergeT (x :: a) b else mergeT (x :: a) b
termination_by a b => a.length + b.length

theorem mergeT_nil (a : List Tm) : mergeT a [] = a := by cases a <;> simp [mergeT]
theorem mergeT_cons (x y : Tm) (a b : List Tm) : mergeT (x :: a) (y :: b) = if cmpT x y < 0 then x :: mergeT a (y :: b) else if cmpT x y > 0 then y :: mergeT (x :: a) b else mergeT (x :: a) b := by rw [mergeT]

def msort (l : List Tm) : List Tm := if h : l.length < 2 then l else mergeT (msort (l.take (l.length / 2))) (msort (l.drop (l.length / 2)))
termination_by l.length
decreasing_by
  all_goals simp only [List.length_take, List.length_drop]; omega

theorem msort_eq (l : List Tm) : msort l = if l.length < 2 then l else mergeT (msort (l.take (l.length / 2))) (msort (l.drop (l.length / 2))) := by
  rw [msort]; split <;> rfl

def insR (x : Tm) : List Tm → List Tm
  | [] => [x]
  | y :: r => if cmpR y x < 0 then y :: insR x r else if cmpR y x = 0 then y :: r else x :: y :: r
def sortFrom (o l : List Tm) : List Tm := l.foldl (fun o x => insR x o) o

theorem merge_mem (z : Tm) : ∀ (n : Nat) (a b : List Tm), a.length + b.length ≤ n → z ∈ mergeT a b → z ∈ a ∨ z ∈ b
  | _, [], b, _, h => by simp only [mergeT] at h; exact .inr h
  | _, x :: a, [], _, h => by rw [mergeT_nil] at h; exact .inl h
  | 0, x :: a, y :: b, hn, _ => by simp at hn
  | n + 1, x :: a, y :: b, hn, h => by
    simp only [List.length_cons] at hn
    rw [mergeT_cons] at h
    split at h
    · rcases List.mem_cons.1 h with h | h
      · exact .inl (h ▸ List.mem_cons_self)
      · rcases merge_mem z n a (y :: b) (by simp; omega) h with h | h
        · exact .inl (List.mem_cons_of_mem _ h)
        · exact .inr h
    · split at h
      · rcases List.mem_cons.1 h with h | h
        · exact .inr (h ▸ List.mem_cons_self)
        · rcases merge_mem z n (x :: a) b (by simp; omega) h with h | h
          · exact .inl h
          · exact .inr (List.mem_cons_of_mem _ h)
      · rcases merge_mem z n (x :: a) b (by simp; omega) h with h | h
        · exact .inl h
        · exact .inr (List.mem_cons_of_mem _ h)

theorem merge_len : ∀ (n : Nat) (a b : List Tm), a.length + b.length ≤ n → (mergeT a b).length ≤ a.length + b.length
  | _, [], b, _ => by simp [mergeT]
  | _, x :: a, [], _ => by rw [mergeT_nil]; simp
  | 0, x :: a, y :: b, hn => by simp at hn
  | n + 1, x :: a, y :: b, hn => by
    simp only [List.length_cons] at hn
    have h1 := merge_len n a (y :: b) (by simp; omega)
    have h2 := merge_len n (x :: a) b (by simp; omega)
    simp only [List.length_cons] at h1 h2
    rw [mergeT_cons]
    split
    · simp only [List.length_cons]; omega
    · split
      · simp only [List.length_cons]; omega
      · simp only [List.length_cons]; omega

theorem msort_mem (n : Nat) : ∀ (l : List Tm), l.length ≤ n → ∀ z, z ∈ msort l → z ∈ l := by
  induction n using Nat.strongRecOn with
  | _ n ih =>
  intro l hl z h
  rw [msort_eq] at h
  split at h
  · exact h
  · rename_i h2
    rcases merge_mem z _ _ _ (Nat.le_refl _) h with h | h
    · exact List.mem_of_mem_take (ih (l.take (l.length / 2)).length (by rw [List.length_take]; omega) _ (Nat.le_refl _) z h)
    · exact List.mem_of_mem_drop (ih (l.drop (l.length / 2)).length (by rw [List.length_drop]; omega) _ (Nat.le_refl _) z h)

theorem msort_len (n : Nat) : ∀ (l : List Tm), l.length ≤ n → (msort l).length ≤ l.length := by
  induction n using Nat.strongRecOn with
  | _ n ih =>
  intro l hl
  rw [msort_eq]
  split
  · exact Nat.le_refl _
  · have h1 := ih (l.take (l.length / 2)).length (by rw [List.length_take]; omega) _ (Nat.le_refl _)
    have h2 := ih (l.drop (l.length / 2)).length (by rw [List.length_drop]; omega) _ (Nat.le_refl _)
    have h3 := merge_len _ (msort (l.take (l.length / 2))) (msort (l.drop (l.length / 2))) (Nat.le_refl _)
    rw [List.length_take] at h1
    rw [List.length_drop] at h2
    omega

/-- Less, among sound terms. -/
def ltT (x y : Tm) : Prop := fairR x = true ∧ fairR y = true ∧ cmpT x y < 0
theorem ltT_irr {x : Tm} (h : ltT x x) : False := by
  have := (cmp_zero x x h.1 h.1).2 rfl
  have := h.2.2; omega
theorem ltT_asym {x y : Tm} (h : ltT x y) (h2 : ltT y x) : False := by
  have := cmp_turn x y h.1 h.2.1
  have := h.2.2; have := h2.2.2; omega
theorem ltT_trans {x y z : Tm} (h : ltT x y) (h2 : ltT y z) : ltT x z :=
  ⟨h.1, h2.2.1, (cmp_trans x y z h.1 h.2.1 h2.2.1).lt1 h.2.2 (by have := h2.2.2; omega)⟩

theorem sorted_ext : ∀ (a b : List Tm), a.Pairwise ltT → b.Pairwise ltT → (∀ z, z ∈ a ↔ z ∈ b) → a = b
  | [], [], _, _, _ => rfl
  | [], y :: b, _, _, h => absurd ((h y).2 List.mem_cons_self) (by simp)
  | x :: a, [], _, _, h => absurd ((h x).1 List.mem_cons_self) (by simp)
  | x :: a, y :: b, ha, hb, h => by
    rw [List.pairwise_cons] at ha hb
    have hxy : x = y := by
      rcases List.mem_cons.1 ((h x).1 List.mem_cons_self) with e | hx
      · exact e
      rcases List.mem_cons.1 ((h y).2 List.mem_cons_self) with e | hy
      · exact e.symm
      exact (ltT_asym (ha.1 y hy) (hb.1 x hx)).elim
    subst hxy
    rw [sorted_ext a b ha.2 hb.2 fun z => ⟨fun hz => ?_, fun hz => ?_⟩]
    · rcases List.mem_cons.1 ((h z).1 (List.mem_cons_of_mem _ hz)) with e | h1
      · subst e; exact (ltT_irr (ha.1 _ hz)).elim
      · exact h1
    · rcases List.mem_cons.1 ((h z).2 (List.mem_cons_of_mem _ hz)) with e | h1
      · subst e; exact (ltT_irr (hb.1 _ hz)).elim
      · exact h1

theorem merge_sorted : ∀ (n : Nat) (a b : List Tm), a.length + b.length ≤ n → (∀ x ∈ a, fairR x = true) → (∀ x ∈ b, fairR x = true) → a.Pairwise ltT → b.Pairwise ltT → (mergeT a b).Pairwise ltT ∧ ∀ z, z ∈ mergeT a b ↔ z ∈ a ∨ z ∈ b
  | _, [], b, _, _, _, _, hb => by simp only [mergeT]; exact ⟨hb, by simp⟩
  | _, x :: a, [], _, _, _, ha, _ => by rw [mergeT_nil]; exact ⟨ha, by simp⟩
  | 0, x :: a, y :: b, hn, _, _, _, _ => by simp at hn
  | n + 1, x :: a, y :: b, hn, fa, fb, ha, hb => by
    simp only [List.length_cons] at hn
    have fx := fa x List.mem_cons_self
    have fy := fb y List.mem_cons_self
    have fa' : ∀ z ∈ a, fairR z = true := fun z h => fa z (List.mem_cons_of_mem _ h)
    have fb' : ∀ z ∈ b, fairR z = true := fun z h => fb z (List.mem_cons_of_mem _ h)
    have ha2 := List.pairwise_cons.1 ha
    have hb2 := List.pairwise_cons.1 hb
    have h1 := merge_sorted n a (y :: b) (by simp; omega) fa' fb ha2.2 hb
    have h2 := merge_sorted n (x :: a) b (by simp; omega) fa fb' ha hb2.2
    rw [mergeT_cons]
    split
    · rename_i hc
      refine ⟨List.pairwise_cons.2 ⟨fun z hz => ?_, h1.1⟩, fun z => ?_⟩
      · rcases (h1.2 z).1 hz with h | h
        · exact ha2.1 z h
        · have hxy : ltT x y := ⟨fx, fy, hc⟩
          rcases List.mem_cons.1 h with e | h
          · subst e; exact hxy
          · exact ltT_trans hxy (hb2.1 z h)
      · simp only [List.mem_cons, h1.2, or_assoc]
    · rename_i hc
      split
      · rename_i hc2
        have hyx : ltT y x := ⟨fy, fx, by have := cmp_turn x y fx fy; omega⟩
        refine ⟨List.pairwise_cons.2 ⟨fun z hz => ?_, h2.1⟩, fun z => ?_⟩
        · rcases (h2.2 z).1 hz with h | h
          · rcases List.mem_cons.1 h with e | h
            · subst e; exact hyx
            · exact ltT_trans hyx (ha2.1 z h)
          · exact hb2.1 z h
        · simp only [List.mem_cons, h2.2]; constructor
          · rintro (h | (h | h) | h)
            · exact .inr (.inl h)
            · exact .inl (.inl h)
            · exact .inl (.inr h)
            · exact .inr (.inr h)
          · rintro ((h | h) | (h | h))
            · exact .inr (.inl (.inl h))
            · exact .inr (.inl (.inr h))
            · exact .inl h
            · exact .inr (.inr h)
      · have he : x = y := (cmp_zero x y fx fy).1 (by omega)
        refine ⟨h2.1, fun z => ?_⟩
        simp only [List.mem_cons, h2.2]; subst he
        constructor
        · rintro (h | h)
          · exact .inl h
          · exact .inr (.inr h)
        · rintro (h | h | h)
          · exact .inl h
          · exact .inl (.inl h)
          · exact .inr h

theorem msort_sorted (n : Nat) : ∀ (l : List Tm), l.length ≤ n → (∀ x ∈ l, fairR x = true) → (msort l).Pairwise ltT ∧ ∀ z, z ∈ msort l ↔ z ∈ l := by
  induction n using Nat.strongRecOn with
  | _ n ih =>
  intro l hl hf
  rw [msort_eq]
  split
  · match l, hl with
    | [], _ => simp
    | [x], _ => simp
  · have h1 := ih (l.take (l.length / 2)).length (by rw [List.length_take]; omega) _ (Nat.le_refl _) (fun x hx => hf x (List.mem_of_mem_take hx))
    have h2 := ih (l.drop (l.length / 2)).length (by rw [List.length_drop]; omega) _ (Nat.le_refl _) (fun x hx => hf x (List.mem_of_mem_drop hx))
    have h3 := merge_sorted _ (msort (l.take (l.length / 2))) (msort (l.drop (l.length / 2))) (Nat.le_refl _) (fun x hx => hf x (List.mem_of_mem_take ((h1.2 x).1 hx))) (fun x hx => hf x (List.mem_of_mem_drop ((h2.2 x).1 hx))) h1.1 h2.1
    refine ⟨h3.1, fun z => ?_⟩
    rw [h3.2, h1.2, h2.2, ← List.mem_append, List.take_append_drop]

theorem ins_sorted (x : Tm) (fx : fairR x = true) : ∀ (o : List Tm), (∀ z ∈ o, fairR z = true) → o.Pairwise ltT → (insR x o).Pairwise ltT ∧ ∀ z, z ∈ insR x o ↔ z = x ∨ z ∈ o
  | [], _, _ => by simp [insR]
  | y :: r, fo, ho => by
    have fy := fo y List.mem_cons_self
    have ho2 := List.pairwise_cons.1 ho
    have ih := ins_sorted x fx r (fun z hz => fo z (List.mem_cons_of_mem _ hz)) ho2.2
    simp only [insR, ← cmp_same y x fy fx]
    split
    · rename_i hc
      refine ⟨List.pairwise_cons.2 ⟨fun z hz => ?_, ih.1⟩, fun z => ?_⟩
      · rcases (ih.2 z).1 hz with e | h
        · subst e; exact ⟨fy, fx, hc⟩
        · exact ho2.1 z h
      · simp only [List.mem_cons, ih.2]; constructor
        · rintro (h | h | h)
          · exact .inr (.inl h)
          · exact .inl h
          · exact .inr (.inr h)
        · rintro (h | h | h)
          · exact .inr (.inl h)
          · exact .inl h
          · exact .inr (.inr h)
    · split
      · have he := (cmp_zero y x fy fx).1 (by assumption)
        subst he
        exact ⟨ho, fun z => by simp⟩
      · have hxy : ltT x y := ⟨fx, fy, by have := cmp_turn y x fy fx; omega⟩
        refine ⟨List.pairwise_cons.2 ⟨fun z hz => ?_, ho⟩, fun z => by simp⟩
        rcases List.mem_cons.1 hz with e | h
        · subst e; exact hxy
        · exact ltT_trans hxy (ho2.1 z h)

theorem sortFrom_sorted : ∀ (l o : List Tm), (∀ z ∈ l, fairR z = true) → (∀ z ∈ o, fairR z = true) → o.Pairwise ltT → (sortFrom o l).Pairwise ltT ∧ ∀ z, z ∈ sortFrom o l ↔ z ∈ l ∨ z ∈ o
  | [], o, _, _, ho => by simp [sortFrom, ho]
  | x :: l, o, fl, fo, ho => by
    have fx := fl x List.mem_cons_self
    have h1 := ins_sorted x fx o fo ho
    have h2 := sortFrom_sorted l (insR x o) (fun z hz => fl z (List.mem_cons_of_mem _ hz)) (fun z hz => ((h1.2 z).1 hz).elim (fun e => e ▸ fx) (fo z)) h1.1
    refine ⟨h2.1, fun z => ?_⟩
    show z ∈ sortFrom (insR x o) l ↔ _
    rw [h2.2, h1.2, List.mem_cons]
    constructor
    · rintro (h | h | h)
      · exact .inl (.inr h)
      · exact .inl (.inl h)
      · exact .inr h
    · rintro ((h | h) | h)
      · exact .inr (.inl h)
      · exact .inl h
      · exact .inr (.inr h)

theorem sort_same (l : List Tm) (h : ∀ x ∈ l, fairR x = true) : msort l = sortFrom [] l := by
  have h1 := msort_sorted _ l (Nat.le_refl _) h
  have h2 := sortFrom_sorted l [] h (by simp) .nil
  exact sorted_ext _ _ h1.1 h2.1 fun z => by rw [h1.2, h2.2]; simp

theorem insR_len (x : Tm) : ∀ o : List Tm, (insR x o).length ≤ o.length + 1
  | [] => by simp [insR]
  | y :: r => by
    have := insR_len x r
    simp only [insR]; split
    · simp; omega
    · split <;> simp
theorem insR_mem (x z : Tm) : ∀ o : List Tm, z ∈ insR x o → z = x ∨ z ∈ o
  | [], h => by simp [insR] at h; exact .inl h
  | y :: r, h => by
    simp only [insR] at h; split at h
    · rcases List.mem_cons.1 h with h | h
      · exact .inr (h ▸ List.mem_cons_self)
      · exact (insR_mem x z r h).imp id (List.mem_cons_of_mem _)
    · split at h
      · exact .inr h
      · exact List.mem_cons.1 h
end Tm
end PSL
