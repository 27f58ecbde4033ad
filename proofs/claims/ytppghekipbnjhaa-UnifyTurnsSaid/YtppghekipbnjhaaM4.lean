import Derived.Test.YtppghekipbnjhaaM3
namespace Go.Proofs.Ytppghekipbnjhaa
open Go PSL Go.Proofs
end Go.Proofs.Ytppghekipbnjhaa

namespace Go.Proofs.Ytppghekipbnjhaa
open Go PSL Go.Proofs
end Go.Proofs.Ytppghekipbnjhaa

namespace Go.Proofs.Ytppghekipbnjhaa
open Go PSL Go.Proofs
end Go.Proofs.Ytppghekipbnjhaa

namespace PSL
open Go
namespace Tm
end Tm
abbrev Pt := Tm × List Nat
namespace Tm

/-- Each part's Args lie ahead of it. -/
def Good (P : List Pt) : Prop := ∀ (k : Nat) (y : Tm) (at_ : List Nat), P[k]? = some (y, at_) → y.fairR = true ∧ at_.length = y.l.length ∧ ∀ (j : Nat) (z : Tm), y.l[j]? = some z → ∃ (a : Nat) (b : List Nat), at_[j]? = some a ∧ a < k ∧ P[a]? = some (z, b)

/-- One row of parts goes on to another. -/
def Pre (P Q : List Pt) : Prop := ∃ R, Q = P ++ R

theorem Pre.get {P Q : List Pt} (h : Pre P Q) {i : Nat} {x : Pt} (hx : P[i]? = some x) : Q[i]? = some x := by
  obtain ⟨R, rfl⟩ := h
  rw [List.getElem?_append_left (List.getElem?_eq_some_iff.1 hx).1]; exact hx
theorem Pre.refl (P : List Pt) : Pre P P := ⟨[], by simp⟩

theorem Pre.trans {P Q R : List Pt} (h : Pre P Q) (k : Pre Q R) : Pre P R := by
  obtain ⟨A, rfl⟩ := h; obtain ⟨B, rfl⟩ := k
  exact ⟨A ++ B, by simp⟩
theorem Good.nil : Good [] := fun k y b h => by simp at h
end Tm
end PSL

namespace PSL
open Go
def gd (at_ : List Nat) (j : Nat) : Int := ((at_.getD j 0 : Nat) : Int)
end PSL
namespace PSL
open Go
end PSL
namespace PSL
open Go
end PSL
namespace PSL
open Go
end PSL
namespace PSL
open Go
def smallS (l : List Tm) : Bool := decide (Tm.fewL l 60 200 ≥ 0)

theorem smallS_ok {l : List Tm} (h : smallS l = true) : Tm.sizeL l ≤ 60 ∧ ∀ x e, e ∈ Tm.elsL l x → e.2.s.size ≤ 100 := by
  simp only [smallS, decide_eq_true_eq] at h
  rcases Tm.fewL_le l 60 200 (by omega) (by omega) (by omega) with h1 | ⟨h2, _, _, h5⟩
  · omega
  · exact ⟨by omega, h5⟩
end PSL

namespace Go.Proofs.Ytppghekipbnjhaa
open Go PSL Go.Proofs
theorem nm4 {t : Tm} (h : ∀ x e, e ∈ t.els x → e.2.s.size ≤ 100) : ∀ x e, e ∈ t.els x → e.2.s.size < 1000000000 := fun x e he => by have := h x e he; omega

set_option maxRecDepth 100000 in
theorem sm4_ok (l : List Tm) (hl : ∀ t ∈ l, t.Ok) (hlen : l.length < 4611686018427387904) : PCtr Try.prog 27 [.d (.sl (Tm.rows l))] (bV (smallS l)) := by
  refine PCtr.of_R (pf := fun _ => .still) tyOk mixed Try.func27 rfl (by kernel_rfl) (by kernel_rfl) (by simp [Try.ntmps27]) fun w S hg => ?_
  refine R_run hg.ok 1000 rfl rfl ?_
  refine R_loop (fun x : Nat × Int => ([(0, .d (.sl (Tm.rows l))), (3, iV x.2), (4, iV x.1)], [])) (fun x => x.1 ≤ l.length ∧ Tm.fewL l 60 200 = Tm.fewL (l.drop x.1) x.2 200) (fun x => l.length - x.1) (0, 60) ⟨Nat.zero_le _, rfl⟩ ⟨.refl _, .refl _, .refl _, trivial⟩ rfl ?_
  rintro ⟨k, q⟩ ⟨hk, hm⟩
  simp only at hk hm
  refine R_run hg.ok 1000 rfl rfl ?_
  refine R_if rfl rfl (fun h => ?_) (fun h => ?_) <;> refine R_run hg.ok 1000 rfl rfl ?_
  · have hk1 : k < l.length := lt_dec h (by rw [Tm.rows_length])
    have e1 : l[k]? = some l[k] := List.getElem?_eq_getElem hk1
    rw [List.drop_eq_getElem_cons hk1, Tm.fewL] at hm
    refine R_if rfl rfl (fun h2 => ?_) (fun h2 => ?_) <;> refine R_run hg.ok 1000 rfl rfl ?_
    · rw [if_pos (of_decide_eq_true h2)] at hm
      refine R_index hg.ok rfl rfl rfl rfl rfl rfl (Int.natCast_nonneg _) (Tm.rows_get e1) rfl ?_
      refine R_run hg.ok 1000 rfl rfl ?_
      refine R_call hg.ok (few_ok _ (hl _ (List.getElem_mem hk1)) _ _) rfl rfl rfl rfl rfl rfl ?_
      refine R_run hg.ok 1000 rfl rfl ?_
      exact R_next (k + 1, l[k].few q 200) ⟨hk1, hm⟩ (by simp only; omega) ⟨.refl _, .refl _, Ent.wrap (by simp only; omega) (by simp only; omega) (by simp only; omega), trivial⟩ rfl
    · have h2 := of_decide_eq_false h2
      rw [if_neg h2] at hm
      refine R_ret hg 5 rfl rfl ?_
      unfold smallS
      rw [hm]; rfl
  · have hk1 : l.length ≤ k := ge_dec h (by rw [Tm.rows_length])
    rw [List.drop_eq_nil_of_le hk1, Tm.fewL] at hm
    refine R_ret hg 5 rfl rfl ?_
    unfold smallS
    rw [hm]; rfl

theorem fun4_ok (s : ByteArray) (l : List Tm) : PCtr Try.prog 72 [.d (.v (.string s)), .d (.sl (Tm.rows l))] (Tm.mk 3 s 0 l).av := by
  refine PCtr.of_R (pf := fun _ => .still) tyOk mixed Try.func72 rfl (by kernel_rfl) (by kernel_rfl) (by simp [Try.ntmps72]) fun w S hg => ?_
  refine R_run hg.ok 1000 rfl rfl ?_
  refine R_ret hg 5 rfl rfl ?_
  rfl
def u4x : Tm := Tm.vT 0
def u4y : Tm := Tm.vT 1
def u4c : Tm := .mk 3 ⟨#[97]⟩ 0 []
def u4a : Tm := .mk 3 ⟨#[102]⟩ 0 [u4x, .mk 3 ⟨#[103]⟩ 0 [u4y]]
def u4b : Tm := .mk 3 ⟨#[102]⟩ 0 [u4c, .mk 3 ⟨#[103]⟩ 0 [u4x]]
def u4f : Tm := .mk 3 ⟨#[102]⟩ 0 [u4x]
def u4B : Binds := [(1, u4x), (0, u4c)]
end Go.Proofs.Ytppghekipbnjhaa

namespace PSL
open Go
namespace Tm

theorem UG.nil (S : List Int) (N : Nat) : UG S N [] [] :=
  ⟨chainB.nil, fun b hb => (by cases hb), fun p hp => (by cases hp), fun p hp => (by cases hp), fun b hb => (by cases hb), ⟨vT, fun b hb => (by cases hb)⟩, fun b hb => (by cases hb), fun p hp => (by cases hp)⟩

theorem UG.pair {S : List Int} {N : Nat} {B : Binds} (h : UG S N [] B) {a b : Tm} (ha : a.rightB = true) (hb : b.rightB = true) (sa : a.size ≤ N) (sb : b.size ≤ N) (oa : ∀ v ∈ occ a, v ∈ S) (ob : ∀ v ∈ occ b, v ∈ S) : UG S N [(a, b)] B :=
  ⟨h.chain, h.fairb, fun p hp => (by rw [List.mem_singleton] at hp; subst hp; exact ⟨right_fair ha, right_fair hb⟩), fun p hp => (by rw [List.mem_singleton] at hp; subst hp; exact ⟨sa, sb⟩), h.sb, h.sol, h.vb, fun p hp => (by rw [List.mem_singleton] at hp; subst hp; exact ⟨oa, ob⟩)⟩

/-- The program and the document, from binds with the same solutions. -/
theorem both_runs {S : List Int} {N : Nat} {B C B' C' : Binds} {a b : Tm} {ok ok2 : Bool} (hBC : ∀ σ, solB σ B ↔ solB σ C) (hB' : UG S N [] B') (hC' : UG S N [] C')
    (p1 : ok = true → ∀ σ, solB σ B' ↔ solB σ B ∧ putF σ a = putF σ b) (p2 : ok = false → ∀ σ, solB σ B → putF σ a ≠ putF σ b) (q1 : ok2 = true → ∀ σ, solB σ C' ↔ solB σ C ∧ putF σ a = putF σ b) (q2 : ok2 = false → ∀ σ, solB σ C → putF σ a ≠ putF σ b) :
    ok = ok2 ∧ (ok = true → ∀ σ, solB σ B' ↔ solB σ C') := by
  have he : ok = ok2 := by
    cases h1 : ok <;> cases h2 : ok2
    · rfl
    · obtain ⟨σ, hσ⟩ := hC'.sol
      have h3 := (q1 h2 σ).1 hσ
      exact absurd h3.2 (p2 h1 σ ((hBC σ).2 h3.1))
    · obtain ⟨σ, hσ⟩ := hB'.sol
      have h3 := (p1 h1 σ).1 hσ
      exact absurd h3.2 (q2 h2 σ ((hBC σ).1 h3.1))
    · rfl
  refine ⟨he, fun h σ => ?_⟩
  rw [p1 h σ, q1 (he ▸ h) σ, hBC σ]
theorem fitF_turn (g : Int → Int) (t : Tm) : fitF (turnT g t) = fitF t := by unfold fitF; rw [size_turn, depth_turn]

/-- Whether all fits is alike. -/
theorem fits_same {S S' : List Int} {N N' : Nat} {B C : Binds} (hB : UG S N [] B) (hC : UG S' N' [] C) (h : ∀ σ, solB σ B ↔ solB σ C) {l : List Tm} (hf : fairRL l = true) : l.all (fun t => fitF (fullS C C.length t)) = l.all (fun t => fitF (fullS B B.length t)) := by
  obtain ⟨_, g, hg⟩ := same_sols hB hC h hf
  have e : ∀ (f : Tm → Tm), l.all (fun t => fitF (f t)) = (l.map f).all fitF := fun f => by rw [List.all_map]; rfl
  rw [e, e, hg, turnTL_map, List.all_map]
  congr 1
  funext t
  exact fitF_turn g t

theorem full_alike {S : List Int} {N : Nat} {B : Binds} (hB : UG S N [] B) {a b : Tm} (ha : a.fairR = true) (hb : b.fairR = true) (h : ∀ σ, solB σ B → putF σ a = putF σ b) : fullS B B.length a = fullS B B.length b := by
  have hS := hB.sub_
  rw [← sub_putV hS ha, ← sub_putV hS hb]
  exact h _ (sub_solV hS hB.chain)
end Tm
end PSL

namespace Go.Proofs.Ytppghekipbnjhaa
open Go PSL Go.Proofs

set_option maxRecDepth 100000 in
theorem knows4j_ok : PCtr Try.prog 33 [] (bV true) := by
  have hU : Tm.UG [0, 1] 20 [(u4a, u4b)] [] := (Tm.UG.nil _ _).pair (by kernel_rfl) (by kernel_rfl) (by decide) (by decide) (by decide) (by decide)
  have hM := mgj_ok (S := [0, 1]) (N := 20) (by decide) (by decide) u4B true u4a u4b 20 (Tm.UState.first (by kernel_rfl) (by decide) (Tm.ugF_run 20 _ _ _ _ _ (by kernel_rfl)) hU) (by decide) (by decide) (by kernel_rfl) (by kernel_rfl) (fun e he => fair_names (t := u4a) (by kernel_rfl) 1 e he) (fun e he => fair_names (t := u4b) (by kernel_rfl) 1 e he)
  have sb : Small u4B := smallFair (by decide) (by kernel_rfl) (by kernel_rfl)
  have hA := apply_ok u4B 3 (fun _ => Sub.ofB (by kernel_rfl)) sb u4y (by decide) (fun x e he => fair_names (t := u4y) (by kernel_rfl) x e he)
  rw [show applyT u4B 3 u4y = (u4c, 0) by kernel_rfl] at hA
  have hV : Tm.UG [0] 20 [(u4x, u4f)] [] := (Tm.UG.nil _ _).pair (by kernel_rfl) (by kernel_rfl) (by decide) (by decide) (by decide) (by decide)
  have hN := mgj_ok (S := [0]) (N := 20) (by decide) (by decide) [] false u4x u4f 20 (Tm.UState.first (by kernel_rfl) (by decide) (Tm.ugF_run 20 _ _ _ _ _ (by kernel_rfl)) hV) (by decide) (by decide) (by kernel_rfl) (by kernel_rfl) (fun e he => fair_names (t := u4x) (by kernel_rfl) 1 e he) (fun e he => fair_names (t := u4f) (by kernel_rfl) 1 e he)
  refine PCtr.of_R (pf := fun _ => .still) tyOk mixed Try.func33 rfl (by kernel_rfl) (by kernel_rfl) (by simp [Try.ntmps33]) fun w S hg => ?_
  refine R_run hg.ok 1000 rfl rfl ?_
  refine R_callN hg.ok (fun4_ok ⟨#[103]⟩ [u4y]) rfl rfl rfl rfl (by kernel_rfl) rfl rfl ?_
  refine R_run hg.ok 1000 rfl rfl ?_
  refine R_callN hg.ok (fun4_ok ⟨#[102]⟩ [u4x, .mk 3 ⟨#[103]⟩ 0 [u4y]]) rfl rfl rfl rfl (by kernel_rfl) rfl rfl ?_
  refine R_run hg.ok 1000 rfl rfl ?_
  refine R_callN hg.ok (fun4_ok ⟨#[97]⟩ []) rfl rfl rfl rfl (by kernel_rfl) rfl rfl ?_
  refine R_run hg.ok 1000 rfl rfl ?_
  refine R_callN hg.ok (fun4_ok ⟨#[103]⟩ [u4x]) rfl rfl rfl rfl (by kernel_rfl) rfl rfl ?_
  refine R_run hg.ok 1000 rfl rfl ?_
  refine R_callN hg.ok (fun4_ok ⟨#[102]⟩ [u4c, .mk 3 ⟨#[103]⟩ 0 [u4x]]) rfl rfl rfl rfl (by kernel_rfl) rfl rfl ?_
  refine R_run hg.ok 1000 rfl rfl ?_
  refine R_callN hg.ok (hM) rfl rfl rfl rfl (by kernel_rfl) rfl rfl ?_
  refine R_run hg.ok 1000 rfl rfl ?_
  refine R_callN hg.ok (hA) rfl rfl rfl rfl (by kernel_rfl) rfl rfl ?_
  refine R_run hg.ok 1000 rfl rfl ?_
  refine R_callN hg.ok (fun4_ok ⟨#[102]⟩ [u4x]) rfl rfl rfl rfl (by kernel_rfl) rfl rfl ?_
  refine R_run hg.ok 1000 rfl rfl ?_
  refine R_callN hg.ok (hN) rfl rfl rfl rfl (by kernel_rfl) rfl rfl ?_
  refine R_run hg.ok 1000 rfl rfl ?_
  repeat
    first
    | (refine R_if rfl rfl (fun _ => ?_) (fun h => absurd h (by decide)); refine R_run hg.ok 1000 rfl rfl ?_)
    | (refine R_index hg.ok rfl rfl rfl rfl rfl rfl (by decide) rfl rfl ?_; refine R_run hg.ok 1000 rfl rfl ?_)
    | (refine R_if rfl rfl (fun _ => ?_) (fun h => absurd (h.symm.trans (Tm.strEq_iff.2 rfl)) (by simp)); refine R_run hg.ok 1000 rfl rfl ?_)
  refine R_ret hg 5 rfl rfl ?_
  rfl
end Go.Proofs.Ytppghekipbnjhaa

namespace Go.Proofs.Ytppghekipbnjhaa
open Go PSL Go.Proofs
end Go.Proofs.Ytppghekipbnjhaa

namespace Go.Proofs.Ytppghekipbnjhaa
open Go PSL Go.Proofs
end Go.Proofs.Ytppghekipbnjhaa

namespace Go.Proofs.Ytppghekipbnjhaa
open Go PSL Go.Proofs
end Go.Proofs.Ytppghekipbnjhaa

namespace Go.Proofs.Ytppghekipbnjhaa
open Go PSL Go.Proofs
end Go.Proofs.Ytppghekipbnjhaa

namespace Go.Proofs.Ytppghekipbnjhaa
open Go PSL Go.Proofs
end Go.Proofs.Ytppghekipbnjhaa

namespace Go.Proofs.Ytppghekipbnjhaa
open Go PSL Go.Proofs
end Go.Proofs.Ytppghekipbnjhaa

namespace Go.Proofs.Ytppghekipbnjhaa
open Go PSL Go.Proofs
end Go.Proofs.Ytppghekipbnjhaa

namespace Go.Proofs.Ytppghekipbnjhaa
open Go PSL Go.Proofs
end Go.Proofs.Ytppghekipbnjhaa

namespace Go.Proofs.Ytppghekipbnjhaa
open Go PSL Go.Proofs
def num4 (n : Nat) : List Int := (List.range n).map fun (i : Nat) => (i : Int)
theorem num4_snoc (n : Nat) : num4 n ++ [(n : Int)] = num4 (n + 1) := by simp [num4, List.range_succ]
theorem num4_len (n : Nat) : (num4 n).length = n := by simp [num4]

theorem toG_num4 {V : List Int} {v : Int} (hv : v ∈ V) : toG V (num4 V.length) v = placeG V v := by
  obtain ⟨h1, h2, h3⟩ := placeG_mem hv
  rw [h1] at h2 h3
  unfold toG num4
  rw [h1, List.getElem?_map, List.getElem?_range (by omega)]
  simp; omega

theorem turn4_snoc {g : Int → Int} {l : List Tm} {k : Nat} {x : Tm} (h : l[k]? = some x) : Tm.rows (Tm.turnTL g (l.take k)) ++ [Tm.row (Tm.turnT g x)] = Tm.rows (Tm.turnTL g (l.take (k + 1))) := by
  rw [List.take_add_one, h, Tm.turnTL_map, Tm.turnTL_map]; simp [Tm.rows_eq]

set_option maxRecDepth 100000 in
theorem ref4Numbered_ok (l : List Tm) (hf : Tm.fairRL l = true) (hsz : Tm.sizeL l < 1000000000) : PCtr Try.prog 50 [.d (.sl (Tm.rows l))] (.d (.sl (Tm.rows (numL l)))) := by
  have hll := Tm.length_le_sizeL l
  have hvl : (varsT l).length ≤ Tm.sizeL l := by have := varsF_len l []; simpa [varsF, varsT] using this
  have hv := refVars_ok l hsz
  rw [← varsT_with l (Tm.fairL_plain _ hf)] at hv
  have hVm : ∀ v, v ∈ varsT l ↔ v ∈ Tm.occL l := fun v => varsT_mem hf
  unfold numL
  generalize varsT l = V at *
  refine PCtr.of_R (pf := pfB) tyOk mixed Try.func50 rfl (by kernel_rfl) (by kernel_rfl) (by simp [Try.ntmps50]) fun w S hg => ?_
  refine R_run hg.ok 1000 rfl rfl ?_
  refine R_call hg.ok (hv) rfl rfl rfl rfl rfl rfl ?_
  refine R_run hg.ok 1000 rfl rfl ?_
  refine R_own 4 1 rfl rfl ?_
  refine R_cut2 (fun _ : Unit => ([(0, .d (.sl (Tm.rows l))), (3, .d (.sl (irows V))), (4, .ow 0 V.length)], [.arr 1 V.length (irows (num4 V.length))])) (fun _ => True) rfl ?_ ?_
  · refine R_loop (fun k : Nat => ([(0, .d (.sl (Tm.rows l))), (3, .d (.sl (irows V))), (4, .ow 0 k), (5, iV k)], [.arr 1 k (irows (num4 k))])) (fun k => k ≤ V.length) (fun k => V.length - k) 0 (Nat.zero_le _) ⟨.refl _, .refl _, .refl _, .refl _, trivial⟩ rfl ?_
    intro j hj
    refine R_run hg.ok 1000 rfl rfl ?_
    refine R_if rfl rfl (fun h => ?_) (fun h => ?_) <;> refine R_run hg.ok 1000 rfl rfl ?_
    · have hj1 : j < V.length := lt_dec h (by rw [irows_length])
      refine R_appendO hg.ok (irows (num4 (j + 1))) rfl rfl rfl rfl rfl rfl rfl rfl rfl (by simp) (by simp [one1]) (by rw [← num4_snoc]; exact irows_snoc _ _) (by simp [irows_length, num4_len]; omega) (by simp [irows_length, num4_len]; omega) ?_
      refine R_run hg.ok 1000 rfl rfl ?_
      exact R_next (j + 1) hj1 (by omega) ⟨.refl _, .refl _, .refl _, Ent.wrap (by omega) (by omega) (by omega), trivial⟩ rfl
    · have hj1 : V.length ≤ j := ge_dec h (by rw [irows_length])
      obtain rfl : j = V.length := by omega
      exact R_to () trivial ⟨.refl _, .refl _, .refl _, trivial⟩ rfl
  rintro _ _
  refine R_freezeO hg.gup 0 [(0, .d (.sl (Tm.rows l))), (3, .d (.sl (irows V))), (4, .d (.sl (irows (num4 V.length))))] [.dead] rfl rfl ⟨.refl _, .refl _, Ent.frz 0 V.length (irows (num4 V.length)), trivial⟩ ⟨by simp [ObIn], trivial⟩ ?_
  refine R_run hg.ok 1000 rfl rfl ?_
  refine R_own 6 4 rfl rfl ?_
  refine R_loop (fun k : Nat => ([(0, .d (.sl (Tm.rows l))), (3, .d (.sl (irows V))), (4, .d (.sl (irows (num4 V.length)))), (6, .ow 1 k), (7, iV k)], [.dead, .arr 4 k (Tm.rows (Tm.turnTL (placeG V) (l.take k)))])) (fun k => k ≤ l.length) (fun k => l.length - k) 0 (Nat.zero_le _) ⟨.refl _, .refl _, .refl _, .refl _, .refl _, trivial⟩ rfl ?_
  intro k hk
  refine R_run hg.ok 1000 rfl rfl ?_
  refine R_if rfl rfl (fun h => ?_) (fun h => ?_) <;> refine R_run hg.ok 1000 rfl rfl ?_
  · have hk1 : k < l.length := lt_dec h (by rw [Tm.rows_length])
    have e1 : l[k]? = some l[k] := List.getElem?_eq_getElem hk1
    have hmem := List.getElem_mem hk1
    generalize l[k] = x at e1 hmem
    have fx := Tm.fairRL_iff.1 hf x hmem
    have hms := Tm.size_mem hmem
    have hocc : ∀ v ∈ Tm.occ x, v ∈ V := fun v hv => (hVm v).2 (occ_sub hmem hv)
    have hT := refTurn_ok V (num4 V.length) (by rw [num4_len]; exact Nat.le_refl _) (by rw [num4_len]; omega) x (by omega) fun d e he hk => (atI_mem 0 (hocc _ (Tm.occ_of he hk (Tm.fair_plain _ fx)))).1
    rw [Tm.turnR_turnT _ x fx, Tm.turn_congr x fx (fun v hv => toG_num4 (hocc v hv))] at hT
    refine R_index hg.ok rfl rfl rfl rfl rfl rfl (Int.natCast_nonneg _) (Tm.rows_get e1) rfl ?_
    refine R_run hg.ok 1000 rfl rfl ?_
    refine R_call hg.ok (hT) rfl rfl rfl rfl rfl rfl ?_
    refine R_run hg.ok 1000 rfl rfl ?_
    refine R_appendO hg.ok (Tm.rows (Tm.turnTL (placeG V) (l.take (k + 1)))) rfl rfl rfl rfl rfl rfl rfl rfl rfl (by simp) (by simp [one1]) (turn4_snoc e1) (by rw [Tm.rows_length, Tm.turnTL_map]; simp; omega) (by rw [Tm.rows_length, Tm.turnTL_map]; simp; omega) ?_
    refine R_run hg.ok 1000 rfl rfl ?_
    exact R_next (k + 1) hk1 (by omega) ⟨.refl _, .refl _, .refl _, .refl _, Ent.wrap (by omega) (by omega) (by omega), trivial⟩ rfl
  · have hk1 : l.length ≤ k := ge_dec h (by rw [Tm.rows_length])
    refine R_ret hg 5 rfl (sealA_ow rfl) ?_
    rw [List.take_of_length_le hk1]

theorem full4_snoc {B : Binds} {M : Nat} {l : List Tm} {k : Nat} {x : Tm} (h : l[k]? = some x) : Tm.rows ((l.take k).map (fullS B M)) ++ [Tm.row (fullS B M x)] = Tm.rows ((l.take (k + 1)).map (fullS B M)) := by
  rw [List.take_add_one, h]; simp [Tm.rows_eq]

theorem sizeL_le {n : Nat} : ∀ l : List Tm, (∀ t ∈ l, t.size ≤ n) → Tm.sizeL l ≤ l.length * n
  | [], _ => by simp [Tm.sizeL]
  | t :: l, h => by
    have h1 := h t (by simp)
    have h2 := sizeL_le l fun x hx => h x (by simp [hx])
    simp only [Tm.sizeL, List.length_cons, Nat.succ_mul]
    omega
end Go.Proofs.Ytppghekipbnjhaa

namespace Go.Proofs.Ytppghekipbnjhaa
open Go PSL Go.Proofs
def row1 (t : Tm) : List D := [.v (.int .i64 t.k), .v (.string t.s), .v (.int .i64 t.n), .sl (Tm.rows t.l)]
end Go.Proofs.Ytppghekipbnjhaa

namespace Go.Proofs.Ytppghekipbnjhaa
open Go PSL Go.Proofs

/-- The program's unification, from any store. -/
theorem unjMain_ok (Y : YP) (d : Nat) {S : List Int} {N : Nat} (hS : S.length ≤ 100) (hN : N ≤ 100) {B : Binds} {a b : Tm} (hU : Tm.UG S N [(a, b)] B) (ha : a.rightB = true) (hb : b.rightB = true) (na : ∀ e ∈ a.els 1, e.2.s.size < 1000000000) (nb : ∀ e ∈ b.els 1, e.2.s.size < 1000000000) :
    ∃ (d' : Nat) (B' : Binds) (ok : Bool), SCtr Try.prog Y 46 [.lo 0 0, a.av, b.av] (uobd d B) (.tup [bV ok, iV 0]) (uobd d' B') ∧ Tm.UG S N [] B' ∧ (∃ X, B' = B ++ X) ∧ (ok = true → d' = d ∧ ∀ σ, Tm.solB σ B' ↔ Tm.solB σ B ∧ Tm.putF σ a = Tm.putF σ b) ∧ (ok = false → B' = B ∧ ∀ σ, Tm.solB σ B → Tm.putF σ a ≠ Tm.putF σ b) := by
  obtain ⟨n, B', ok, hrun, hG, ⟨X, hX⟩, p1, p2⟩ := Tm.unify_main false hU
  subst hX
  have hl := hG.blen
  have h := unjDo_ok Y d hS hN B X ok a b n (Tm.UState.first (right_fair ha) (hU.st (a, b) (by simp)).1 hrun hU) hG.chain.nodup (by omega) ha hb na nb
  cases ok with
  | true => exact ⟨d, B ++ X, true, h, hG, ⟨X, rfl⟩, fun _ => ⟨rfl, p1 rfl⟩, fun h => (by cases h)⟩
  | false => exact ⟨X.length + d + 1, B, false, h, hU.sub (by simp), ⟨[], by simp⟩, fun h => (by cases h), fun _ => ⟨rfl, p2 rfl⟩⟩

theorem uobd_rn (i j k : Nat) (d : Nat) (B : Binds) (n : Nat) : (uobd d B).map (renOb (rn [i, j, k] n)) = [.box [.mp j, .ow k (B.length + d)], .map (imap (tmM B)), .arr 1 (B.length + d) (irows (B.map (·.1)))] := by
  have e : (renOb (rn [i, j, k] n)) = mapOb (renA (rn [i, j, k] n)) := by funext o; cases o <;> simp [renOb, mapOb, renL_map]
  rw [e]
  simp only [uobd, List.map_cons, List.map_nil]
  rw [tmM_mapOb (fun t => rfl)]; rfl

/-- To unify again binds nothing. -/
theorem again4 {S : List Int} {N : Nat} {B D X : Binds} {a b : Tm} {ok ok3 : Bool} (hB : Tm.UG S N [] B) (hD : Tm.UG S N [] D) (hX : D = B ++ X) (p1 : ok = true → ∀ σ, Tm.solB σ B ↔ Tm.solB σ [] ∧ Tm.putF σ a = Tm.putF σ b) (p2 : ok = false → B = [] ∧ ∀ σ, Tm.solB σ [] → Tm.putF σ a ≠ Tm.putF σ b)
    (r1 : ok3 = true → ∀ σ, Tm.solB σ D ↔ Tm.solB σ B ∧ Tm.putF σ a = Tm.putF σ b) (r2 : ok3 = false → D = B ∧ ∀ σ, Tm.solB σ B → Tm.putF σ a ≠ Tm.putF σ b) : ok3 = ok ∧ B = D := by
  cases ok with
  | true =>
    cases ok3 with
    | true =>
      subst hX
      have := Tm.again_nil hB hD fun σ hσ => (r1 rfl σ).2 ⟨hσ, ((p1 rfl σ).1 hσ).2⟩
      subst this
      exact ⟨rfl, by simp⟩
    | false =>
      obtain ⟨σ, hσ⟩ := hB.sol
      exact absurd ((p1 rfl σ).1 hσ).2 ((r2 rfl).2 σ hσ)
  | false =>
    cases ok3 with
    | true =>
      obtain ⟨σ, hσ⟩ := hD.sol
      have h := (r1 rfl σ).1 hσ
      rw [(p2 rfl).1] at h
      exact absurd h.2 ((p2 rfl).2 σ h.1)
    | false => exact ⟨rfl, (r2 rfl).1.symm⟩

theorem ent_three (a b c : Tm) : Ent (.fs [row1 a, row1 b, row1 c]) (.d (.sl (Tm.rows [a, b, c]))) := by
  rw [Tm.rows_eq]; exact Ent.fs _
theorem three4 {P : Program} {f : Nat} {a b c : Tm} {r : AV} (h : PCtr P f [.d (.sl (Tm.rows [a, b, c]))] r) : PCtr P f [.d (.sl [Tm.row a, Tm.row b, Tm.row c])] r := by rwa [Tm.rows_eq] at h

/-- Two stores beside one another. -/
def two4 (a b c : Tm) (d : Nat) (B : Binds) (e : Nat) (C : Binds) : List Ob := [boxR a, boxR b, boxR c, .map (imap (tmM B)), .box [.mp 3, .ow 7 (B.length + d)], .map (imap (tmM C)), .box [.mp 5, .ow 8 (C.length + e)], .arr 1 (B.length + d) (irows (B.map (·.1))), .arr 1 (C.length + e) (irows (C.map (·.1)))]

theorem two4_trim (a b c : Tm) (d : Nat) (B : Binds) (e : Nat) (C : Binds) (k j : Nat) (r s : List (List D)) (l : List Ob) : ((two4 a b c d B e C ++ [Ob.arr 4 k r, Ob.arr 4 j s] ++ l).take 11).map (mapOb (trimA 11)) = two4 a b c d B e C ++ [Ob.arr 4 k r, Ob.arr 4 j s] := by
  simp only [two4, List.cons_append, List.nil_append, List.take_succ_cons, List.take_zero, List.map_cons, List.map_nil]
  rw [tmM_mapOb (fun t => rfl), tmM_mapOb (fun t => rfl)]; rfl

set_option maxRecDepth 100000 in
theorem unifyTurns_ok (a b c : Tm) (ha : a.Ok) (hb : b.Ok) (hc : c.Ok) : PCtr Try.prog 13 [a.av, b.av, c.av] (bV true) := by
  refine PCtr.of_R (pf := pfMgj) tyOk mixed Try.func13 rfl (by kernel_rfl) (by kernel_rfl) (by simp [Try.ntmps13]) fun w S hg => ?_
  refine R_run hg.ok 1000 rfl rfl ?_
  refine R_call hg.ok (three4 (sm4_ok [a, b, c] (by simp; exact ⟨ha, hb, hc⟩) (by simp))) rfl rfl rfl rfl rfl rfl ?_
  refine R_run hg.ok 1000 rfl rfl ?_
  refine R_if rfl rfl (fun h => ?_) (fun h => ?_) <;> refine R_run hg.ok 1000 rfl rfl ?_
  · refine R_call hg.ok (knows4j_ok) rfl rfl rfl rfl rfl rfl ?_
    refine R_run hg.ok 1000 rfl rfl ?_
    refine R_ret hg 5 rfl rfl ?_
    rfl
  have hs : smallS [a, b, c] = true := by simpa using h
  obtain ⟨h1, h2⟩ := smallS_ok hs
  simp only [Tm.sizeL] at h1
  have na := nm4 (t := a) fun x e he => h2 x e (Tm.els_memL (by simp) he)
  have nb := nm4 (t := b) fun x e he => h2 x e (Tm.els_memL (by simp) he)
  have nc := nm4 (t := c) fun x e he => h2 x e (Tm.els_memL (by simp) he)
  refine R_call hg.ok (refRight_ok a (by omega) na) rfl rfl rfl rfl rfl rfl ?_
  refine R_run hg.ok 1000 rfl rfl ?_
  refine R_if rfl rfl (fun h => ?_) (fun h => ?_) <;> refine R_run hg.ok 1000 rfl rfl ?_
  · refine R_call hg.ok (knows4j_ok) rfl rfl rfl rfl rfl rfl ?_
    refine R_run hg.ok 1000 rfl rfl ?_
    refine R_ret hg 5 rfl rfl ?_
    rfl
  have ra : a.rightB = true := by simpa using h
  refine R_call hg.ok (refRight_ok b (by omega) nb) rfl rfl rfl rfl rfl rfl ?_
  refine R_run hg.ok 1000 rfl rfl ?_
  refine R_if rfl rfl (fun h => ?_) (fun h => ?_) <;> refine R_run hg.ok 1000 rfl rfl ?_
  · refine R_call hg.ok (knows4j_ok) rfl rfl rfl rfl rfl rfl ?_
    refine R_run hg.ok 1000 rfl rfl ?_
    refine R_ret hg 5 rfl rfl ?_
    rfl
  have rb : b.rightB = true := by simpa using h
  refine R_call hg.ok (refRight_ok c (by omega) nc) rfl rfl rfl rfl rfl rfl ?_
  refine R_run hg.ok 1000 rfl rfl ?_
  refine R_if rfl rfl (fun h => ?_) (fun h => ?_) <;> refine R_run hg.ok 1000 rfl rfl ?_
  · refine R_call hg.ok (knows4j_ok) rfl rfl rfl rfl rfl rfl ?_
    refine R_run hg.ok 1000 rfl rfl ?_
    refine R_ret hg 5 rfl rfl ?_
    rfl
  have rc : c.rightB = true := by simpa using h
  have fab : Tm.fairRL [a, b] = true := Tm.fairRL_iff.2 fun t ht => by
    simp only [List.mem_cons, List.not_mem_nil, or_false] at ht
    rcases ht with rfl | rfl
    · exact right_fair ra
    · exact right_fair rb
  have hwl := Tm.withVL_len [a, b] []
  have hwv := varsT_with [a, b] (Tm.fairL_plain _ fab)
  simp only [Tm.sizeL, List.length_nil] at hwl
  have hmem : ∀ v, v ∈ Tm.occL [a, b] → v ∈ Tm.withVL [] [a, b] := fun v hv => by rw [← hwv]; exact (varsT_mem fab).2 hv
  generalize Tm.withVL [] [a, b] = V at hwl hmem
  have ma : ∀ v ∈ Tm.occ a, v ∈ V := fun v hv => hmem v (by simp [Tm.occL, hv])
  have mb : ∀ v ∈ Tm.occ b, v ∈ V := fun v hv => hmem v (by simp [Tm.occL, hv])
  obtain ⟨d1, B, ok, hU1, hG1, _, p1, p2⟩ := unjMain_ok ⟨[], fun _ => true⟩ 0 (S := V) (N := 60) (by omega) (by decide) ((Tm.UG.nil V 60).pair ra rb (by omega) (by omega) ma mb) ra rb (na 1) (nb 1)
  obtain ⟨d2, C, ok2, hU2, hG2, _, q1, q2⟩ := unjMain_ok ⟨[], fun _ => true⟩ 0 (S := V) (N := 60) (by omega) (by decide) ((Tm.UG.nil V 60).pair rb ra (by omega) (by omega) mb ma) rb ra (nb 1) (na 1)
  obtain ⟨d3, B2, ok3, hU3, hG3, ⟨X, hX⟩, r1, r2⟩ := unjMain_ok ⟨[], fun _ => true⟩ d1 (S := V) (N := 60) (by omega) (by decide) (hG1.pair ra rb (by omega) (by omega) ma mb) ra rb (na 1) (nb 1)
  obtain ⟨hok, hsame⟩ := Tm.both_runs (fun σ => Iff.rfl) hG1 hG2 (fun h => (p1 h).2) (fun h => (p2 h).2) (fun h σ => ((q1 h).2 σ).trans (and_congr Iff.rfl eq_comm)) (fun h σ hσ e => (q2 h).2 σ hσ e.symm)
  have hsame2 : ∀ σ, Tm.solB σ B ↔ Tm.solB σ C := fun σ => by
    cases h : ok with
    | true => exact hsame h σ
    | false => rw [(p2 h).1, (q2 (hok ▸ h)).1]
  refine R_call hg.ok (unj0_ok a b) rfl rfl rfl rfl rfl rfl ?_
  refine R_run hg.ok 1000 rfl rfl ?_
  refine R_callNew hg.ok hg.gup ⟨rfl, rfl⟩ (fun _ _ _ _ h => by cases h) [boxR a, boxR b, boxR c, .map [], .box [.mp 3, .d (.v (.slice none 0 0))]] (uniNew_ok ⟨[], fun _ => true⟩) (fun _ => rfl) rfl rfl rfl rfl rfl rfl ?_
  refine R_run hg.ok 1000 rfl rfl ?_
  refine R_callNew hg.ok hg.gup ⟨rfl, rfl⟩ (fun _ _ _ _ h => by cases h) [boxR a, boxR b, boxR c, .map [], .box [.mp 3, .d (.v (.slice none 0 0))], .map [], .box [.mp 5, .d (.v (.slice none 0 0))]] (uniNew_ok ⟨[], fun _ => true⟩) (fun _ => rfl) rfl rfl rfl rfl rfl rfl ?_
  first
  | (refine R_run hg.ok 1 rfl rfl ?_; refine R_ownB 4 1 1 rfl rfl rfl ?_)
  | (refine R_run hg.ok 2 rfl rfl ?_; refine R_ownB 4 1 1 rfl rfl rfl ?_)
  | (refine R_run hg.ok 3 rfl rfl ?_; refine R_ownB 4 1 1 rfl rfl rfl ?_)
  | (refine R_run hg.ok 4 rfl rfl ?_; refine R_ownB 4 1 1 rfl rfl rfl ?_)
  | (refine R_run hg.ok 5 rfl rfl ?_; refine R_ownB 4 1 1 rfl rfl rfl ?_)
  | (refine R_run hg.ok 6 rfl rfl ?_; refine R_ownB 4 1 1 rfl rfl rfl ?_)
  refine R_ownB 6 1 1 rfl rfl rfl ?_
  refine R_run hg.ok 1000 rfl rfl ?_
  refine R_eqNil hg.ok Try.underlying66 rfl rfl rfl ?_
  refine R_run hg.ok 1000 rfl rfl ?_
  refine R_if rfl rfl (fun h => absurd h (by simp)) (fun _ => ?_) <;> refine R_run hg.ok 1000 rfl rfl ?_
  refine R_eqNil hg.ok Try.underlying66 rfl rfl rfl ?_
  refine R_run hg.ok 1000 rfl rfl ?_
  refine R_if rfl rfl (fun h => absurd h (by simp)) (fun _ => ?_) <;> refine R_run hg.ok 1000 rfl rfl ?_
  refine R_if rfl rfl (fun h => absurd h (by simp)) (fun _ => ?_) <;> refine R_run hg.ok 1000 rfl rfl ?_
  refine R_call hg.ok (unjMark0_ok) rfl rfl rfl rfl rfl rfl ?_
  refine R_run hg.ok 1000 rfl rfl ?_
  refine R_if rfl rfl (fun h => absurd h (by simp)) (fun _ => ?_) <;> refine R_run hg.ok 1000 rfl rfl ?_
  refine R_call hg.ok (unjBack0_ok) rfl rfl rfl rfl rfl rfl ?_
  refine R_run hg.ok 1000 rfl rfl ?_
  refine R_if rfl rfl (fun h => absurd h (by simp)) (fun _ => ?_) <;> refine R_run hg.ok 1000 rfl rfl ?_
  refine R_callSO hg.ok hg.gup ⟨rfl, rfl⟩ (fun _ _ _ _ h => by cases h) [4, 3, 7] (two4 a b c d1 B 0 []) hU1 (fun _ => rfl) rfl rfl rfl rfl rfl (by rw [uobd_rn]; rfl) rfl (by rw [uobd_rn]; rfl) ?_
  refine R_run hg.ok 1000 rfl rfl ?_
  refine R_callSO hg.ok hg.gup ⟨rfl, rfl⟩ (fun _ _ _ _ h => by cases h) [6, 5, 8] (two4 a b c d1 B d2 C) hU2 (fun _ => rfl) rfl rfl rfl rfl rfl (by rw [uobd_rn]; rfl) rfl (by rw [uobd_rn]; rfl) ?_
  refine R_run hg.ok 1000 rfl rfl ?_
  subst hok
  refine R_if rfl rfl (fun h => absurd h (by simp)) (fun _ => ?_) <;> refine R_run hg.ok 1000 rfl rfl ?_
  repeat
    first
    | (refine R_if rfl rfl (fun _ => ?_) (fun h => absurd h (by first | (simp; done) | (simp; omega))); refine R_run hg.ok 1000 rfl rfl ?_)
    | (refine R_if rfl rfl (fun h => absurd h (by first | (simp; done) | (simp; omega))) (fun _ => ?_); refine R_run hg.ok 1000 rfl rfl ?_)
  obtain ⟨rfl, rfl⟩ := again4 hG1 hG3 hX (fun h => (p1 h).2) (fun h => (p2 h)) (fun h => (r1 h).2) r2
  refine R_callSO hg.ok hg.gup ⟨rfl, rfl⟩ (fun _ _ _ _ h => by cases h) [4, 3, 7] (two4 a b c d1 B d2 C) (unjMark_ok ⟨[], fun _ => true⟩ d1 B) (fun _ => rfl) rfl rfl rfl rfl rfl (by rw [uobd_rn]; rfl) rfl (by rw [uobd_rn]; rfl) ?_
  refine R_run hg.ok 1000 rfl rfl ?_
  refine R_callSO hg.ok hg.gup ⟨rfl, rfl⟩ (fun _ _ _ _ h => by cases h) [4, 3, 7] (two4 a b c d3 B d2 C) hU3 (fun _ => rfl) rfl rfl rfl rfl rfl (by rw [uobd_rn]; rfl) rfl (by rw [uobd_rn]; rfl) ?_
  refine R_run hg.ok 1000 rfl rfl ?_
  refine R_if rfl rfl (fun h => absurd h (by simp)) (fun _ => ?_) <;> refine R_run hg.ok 1000 rfl rfl ?_
  repeat
    first
    | (refine R_if rfl rfl (fun _ => ?_) (fun h => absurd h (by first | (simp; done) | (simp; omega))); refine R_run hg.ok 1000 rfl rfl ?_)
    | (refine R_if rfl rfl (fun h => absurd h (by first | (simp; done) | (simp; omega))) (fun _ => ?_); refine R_run hg.ok 1000 rfl rfl ?_)
  refine R_callSO hg.ok hg.gup ⟨rfl, rfl⟩ (fun _ _ _ _ h => by cases h) [4, 3, 7] (two4 a b c d3 B d2 C) (unjMark_ok ⟨[], fun _ => true⟩ d3 B) (fun _ => rfl) rfl rfl rfl rfl rfl (by rw [uobd_rn]; rfl) rfl (by rw [uobd_rn]; rfl) ?_
  refine R_run hg.ok 1000 rfl rfl ?_
  refine R_if rfl rfl (fun h => absurd h (by simp)) (fun _ => ?_) <;> refine R_run hg.ok 1000 rfl rfl ?_
  refine R_own 20 4 rfl rfl ?_
  refine R_own 21 4 rfl rfl ?_
  have fL : Tm.fairRL [a, b, c] = true := Tm.fairRL_iff.2 fun t ht => by
    simp only [List.mem_cons, List.not_mem_nil, or_false] at ht
    rcases ht with rfl | rfl | rfl
    · exact right_fair ra
    · exact right_fair rb
    · exact right_fair rc
  have hR : ∀ t ∈ [a, b, c], t.rightB = true ∧ ∀ x, ∀ e ∈ t.els x, e.2.s.size < 1000000000 := fun t ht => by
    simp only [List.mem_cons, List.not_mem_nil, or_false] at ht
    rcases ht with rfl | rfl | rfl
    · exact ⟨ra, na⟩
    · exact ⟨rb, nb⟩
    · exact ⟨rc, nc⟩
  have hL : ([a, b, c] : List Tm).length = 3 := rfl
  refine R_weak [(7, .d (.sl (Tm.rows [a, b, c]))), (11, .lo 4 0), (12, .lo 6 0), (13, bV ok3), (20, .ow 9 0), (21, .ow 10 0), (22, iV (0 : Nat))] ⟨ent_three a b c, .refl _, .refl _, .refl _, .refl _, .refl _, .refl _, trivial⟩ ?_
  generalize hLL : ([a, b, c] : List Tm) = L at fL hR hL
  refine R_cut2 (fun _ : Unit => ([(7, .d (.sl (Tm.rows L))), (13, bV ok3), (20, .ow 9 3), (21, .ow 10 3)], two4 a b c d3 B d2 C ++ [.arr 4 3 (Tm.rows (L.map (fullS B B.length))), .arr 4 3 (Tm.rows (L.map (fullS C C.length)))])) (fun _ => ∀ t ∈ L, fitF (fullS B B.length t) = true) rfl ?_ ?_
  · refine R_loop (fun k : Nat => ([(7, .d (.sl (Tm.rows L))), (11, .lo 4 0), (12, .lo 6 0), (13, bV ok3), (20, .ow 9 k), (21, .ow 10 k), (22, iV k)], two4 a b c d3 B d2 C ++ [.arr 4 k (Tm.rows ((L.take k).map (fullS B B.length))), .arr 4 k (Tm.rows ((L.take k).map (fullS C C.length)))])) (fun k => k ≤ L.length ∧ ∀ t ∈ L.take k, fitF (fullS B B.length t) = true) (fun k => L.length - k) 0 ⟨Nat.zero_le _, by simp⟩ ⟨.refl _, .refl _, .refl _, .refl _, .refl _, .refl _, .refl _, trivial⟩ rfl ?_
    rintro k ⟨hk, hm⟩
    refine R_run hg.ok 1000 rfl rfl ?_
    refine R_if rfl rfl (fun h => ?_) (fun h => ?_) <;> refine R_run hg.ok 1000 rfl rfl ?_
    · have hk1 : k < L.length := lt_dec h (by rw [Tm.rows_length])
      have e1 : L[k]? = some L[k] := List.getElem?_eq_getElem hk1
      have hmem := List.getElem_mem hk1
      generalize L[k] = x at e1 hmem
      have hV1 := unjValue_ok ⟨[], fun _ => true⟩ d3 (S := V) (N := 60) (by omega) (by decide) B hG1 x (hR x hmem).1 (hR x hmem).2
      have hV2 := unjValue_ok ⟨[], fun _ => true⟩ d2 (S := V) (N := 60) (by omega) (by decide) C hG2 x (hR x hmem).1 (hR x hmem).2
      have hft := Tm.fits_same hG1 hG2 hsame2 (l := [x]) (by simp only [Tm.fairRL, Tm.fairRL_iff.1 fL x hmem]; rfl)
      simp only [List.all_cons, List.all_nil, Bool.and_true] at hft
      have hsz1 : k * 3 < 100 := by omega
      cases hfit : fitF (fullS B B.length x) with
      | false =>
        rw [app3_no hfit] at hV1
        rw [hfit] at hft
        rw [app3_no hft] at hV2
        refine R_index hg.ok rfl rfl rfl rfl rfl rfl (Int.natCast_nonneg _) (Tm.rows_get e1) rfl ?_
        refine R_run hg.ok 1000 rfl rfl ?_
        refine R_callSO hg.ok hg.gup ⟨rfl, rfl⟩ (fun _ _ _ _ h => by cases h) [4, 3, 7] (two4 a b c d3 B d2 C ++ [.arr 4 k (Tm.rows ((L.take k).map (fullS B B.length))), .arr 4 k (Tm.rows ((L.take k).map (fullS C C.length)))]) hV1 (fun _ => rfl) rfl rfl rfl rfl rfl (by rw [uobd_rn]; rfl) rfl (by rw [uobd_rn]; rfl) ?_
        refine R_run hg.ok 1000 rfl rfl ?_
        refine R_index hg.ok rfl rfl rfl rfl rfl rfl (Int.natCast_nonneg _) (Tm.rows_get e1) rfl ?_
        refine R_run hg.ok 1000 rfl rfl ?_
        refine R_callSO hg.ok hg.gup ⟨rfl, rfl⟩ (fun _ _ _ _ h => by cases h) [6, 5, 8] (two4 a b c d3 B d2 C ++ [.arr 4 k (Tm.rows ((L.take k).map (fullS B B.length))), .arr 4 k (Tm.rows ((L.take k).map (fullS C C.length))), boxR zeroT]) hV2 (fun _ => rfl) rfl rfl rfl rfl rfl (by rw [uobd_rn]; rfl) rfl (by rw [uobd_rn]; rfl) ?_
        refine R_run hg.ok 1000 rfl rfl ?_
        refine R_if rfl rfl (fun h => absurd h (by simp)) (fun _ => ?_) <;> refine R_run hg.ok 1000 rfl rfl ?_
        refine R_appendO hg.ok _ rfl rfl rfl rfl rfl rfl rfl rfl rfl (by simp) (by simp [one1]) rfl (by rw [Tm.rows_length]; simp; omega) (by rw [Tm.rows_length]; simp; omega) ?_
        refine R_run hg.ok 1000 rfl rfl ?_
        refine R_appendO hg.ok _ rfl rfl rfl rfl rfl rfl rfl rfl rfl (by simp) (by simp [one1]) rfl (by rw [Tm.rows_length]; simp; omega) (by rw [Tm.rows_length]; simp; omega) ?_
        refine R_run hg.ok 1000 rfl rfl ?_
        refine R_if rfl rfl (fun _ => ?_) (fun h => absurd h (by simp)) <;> refine R_run hg.ok 1000 rfl rfl ?_
        refine R_call hg.ok (knows4j_ok) rfl rfl rfl rfl rfl rfl ?_
        refine R_run hg.ok 1000 rfl rfl ?_
        refine R_ret hg 5 rfl rfl ?_
        rfl
      | true =>
        rw [app3_yes hfit] at hV1
        rw [hfit] at hft
        rw [app3_yes hft] at hV2
        refine R_index hg.ok rfl rfl rfl rfl rfl rfl (Int.natCast_nonneg _) (Tm.rows_get e1) rfl ?_
        refine R_run hg.ok 1000 rfl rfl ?_
        refine R_callSO hg.ok hg.gup ⟨rfl, rfl⟩ (fun _ _ _ _ h => by cases h) [4, 3, 7] (two4 a b c d3 B d2 C ++ [.arr 4 k (Tm.rows ((L.take k).map (fullS B B.length))), .arr 4 k (Tm.rows ((L.take k).map (fullS C C.length)))]) hV1 (fun _ => rfl) rfl rfl rfl rfl rfl (by rw [uobd_rn]; rfl) rfl (by rw [uobd_rn]; rfl) ?_
        refine R_run hg.ok 1000 rfl rfl ?_
        refine R_index hg.ok rfl rfl rfl rfl rfl rfl (Int.natCast_nonneg _) (Tm.rows_get e1) rfl ?_
        refine R_run hg.ok 1000 rfl rfl ?_
        refine R_callSO hg.ok hg.gup ⟨rfl, rfl⟩ (fun _ _ _ _ h => by cases h) [6, 5, 8] (two4 a b c d3 B d2 C ++ [.arr 4 k (Tm.rows ((L.take k).map (fullS B B.length))), .arr 4 k (Tm.rows ((L.take k).map (fullS C C.length))), boxR (fullS B B.length x)]) hV2 (fun _ => rfl) rfl rfl rfl rfl rfl (by rw [uobd_rn]; rfl) rfl (by rw [uobd_rn]; rfl) ?_
        refine R_run hg.ok 1000 rfl rfl ?_
        refine R_if rfl rfl (fun h => absurd h (by simp)) (fun _ => ?_) <;> refine R_run hg.ok 1000 rfl rfl ?_
        refine R_appendO hg.ok (Tm.rows ((L.take (k + 1)).map (fullS B B.length))) rfl rfl rfl rfl rfl rfl rfl rfl rfl (by simp) (by simp [one1]) (full4_snoc e1) (by rw [Tm.rows_length]; simp; omega) (by rw [Tm.rows_length]; simp; omega) ?_
        refine R_run hg.ok 1000 rfl rfl ?_
        refine R_appendO hg.ok (Tm.rows ((L.take (k + 1)).map (fullS C C.length))) rfl rfl rfl rfl rfl rfl rfl rfl rfl (by simp) (by simp [one1]) (full4_snoc e1) (by rw [Tm.rows_length]; simp; omega) (by rw [Tm.rows_length]; simp; omega) ?_
        refine R_run hg.ok 1000 rfl rfl ?_
        refine R_if rfl rfl (fun h => absurd h (by simp)) (fun _ => ?_) <;> refine R_run hg.ok 1000 rfl rfl ?_
        refine R_dropO 11 (two4 a b c d3 B d2 C ++ [.arr 4 (k + 1) (Tm.rows ((L.take (k + 1)).map (fullS B B.length))), .arr 4 (k + 1) (Tm.rows ((L.take (k + 1)).map (fullS C C.length)))]) (Nat.zero_le _) rfl (two4_trim a b c d3 B d2 C (k + 1) (k + 1) _ _ _) ?_
        exact R_next (k + 1) ⟨hk1, fun t ht => by
          rw [List.take_add_one, e1] at ht
          rcases List.mem_append.1 ht with ht | ht
          · exact hm t ht
          · simp at ht; rw [ht]; exact hfit⟩ (by omega) ⟨.refl _, .refl _, .refl _, .refl _, .refl _, .refl _, Ent.wrap (by omega) (by omega) (by omega), trivial⟩ rfl
    · have hk1 : L.length ≤ k := ge_dec h (by rw [Tm.rows_length])
      obtain rfl : k = 3 := by omega
      rw [List.take_of_length_le (by omega)]
      rw [List.take_of_length_le (by omega)] at hm
      exact R_to () hm ⟨.refl _, .refl _, .refl _, .refl _, trivial⟩ rfl
  rintro _ hall
  refine R_freezeO hg.gup 9 [(7, .d (.sl (Tm.rows L))), (13, bV ok3), (20, .d (.sl (Tm.rows (L.map (fullS B B.length))))), (21, .ow 10 3)] [.dead, .dead, .dead, .dead, .dead, .dead, .dead, .dead, .dead, .dead, .arr 4 3 (Tm.rows (L.map (fullS C C.length)))] rfl rfl ⟨.refl _, .refl _, Ent.frz 9 3 _, .refl _, trivial⟩ ⟨trivial, trivial, trivial, trivial, trivial, trivial, trivial, trivial, trivial, trivial, rfl, trivial⟩ ?_
  refine R_freezeO hg.gup 10 [(7, .d (.sl (Tm.rows L))), (13, bV ok3), (20, .d (.sl (Tm.rows (L.map (fullS B B.length))))), (21, .d (.sl (Tm.rows (L.map (fullS C C.length)))))] [.dead, .dead, .dead, .dead, .dead, .dead, .dead, .dead, .dead, .dead, .dead] rfl rfl ⟨.refl _, .refl _, .refl _, Ent.frz 10 3 _, trivial⟩ ⟨trivial, trivial, trivial, trivial, trivial, trivial, trivial, trivial, trivial, trivial, trivial, trivial⟩ ?_
  refine R_dropO 0 [] (Nat.zero_le _) rfl rfl ?_
  have hfs : ∀ D : Binds, ∀ M, (∀ t ∈ L, fitF (fullS D M t) = true) → Tm.sizeL (L.map (fullS D M)) < 1000000000 := fun D M h => by
    have := sizeL_le (n := 3000) (L.map (fullS D M)) fun t ht => by
      obtain ⟨x, hx, rfl⟩ := List.mem_map.1 ht
      exact (fitF_iff.1 (h x hx)).1
    rw [List.length_map] at this
    omega
  have hffB : Tm.fairRL (L.map (fullS B B.length)) = true := Tm.fairRL_iff.2 fun t ht => by
    obtain ⟨x, hx, rfl⟩ := List.mem_map.1 ht
    exact hG1.sub_.fairF (Tm.fairRL_iff.1 fL x hx)
  have hffC : Tm.fairRL (L.map (fullS C C.length)) = true := Tm.fairRL_iff.2 fun t ht => by
    obtain ⟨x, hx, rfl⟩ := List.mem_map.1 ht
    exact hG2.sub_.fairF (Tm.fairRL_iff.1 fL x hx)
  have hallC : ∀ t ∈ L, fitF (fullS C C.length t) = true := by
    rw [← List.all_eq_true, Tm.fits_same hG1 hG2 hsame2 fL, List.all_eq_true]; exact hall
  have hNB := ref4Numbered_ok _ hffB (hfs _ _ hall)
  have hNC := ref4Numbered_ok _ hffC (hfs _ _ hallC)
  rw [(Tm.same_sols hG1 hG2 hsame2 fL).1] at hNC
  have hSN := sameAll_ok (numL (L.map (fullS B B.length))) (numL (L.map (fullS B B.length))) (by unfold numL; rw [Tm.sizeL_turn]; exact hfs _ _ hall)
  rw [Tm.sameL_refl] at hSN
  cases ok3 with
  | false =>
    have hB0 := (p2 rfl).1
    subst hB0
    have hid : L.map (fullS [] ([] : Binds).length) = L := by
      conv => rhs; rw [← List.map_id L]
      rfl
    rw [hid] at hNB hNC hSN ⊢
    have hSL := sameAll_ok L L (by have := hfs _ _ hall; rwa [hid] at this)
    rw [Tm.sameL_refl] at hSL
    refine R_run hg.ok 1000 rfl rfl ?_
    refine R_if rfl rfl (fun _ => ?_) (fun h => absurd h (by simp)) <;> refine R_run hg.ok 1000 rfl rfl ?_
    refine R_call hg.ok (hSL) rfl rfl rfl rfl rfl rfl ?_
    refine R_run hg.ok 1000 rfl rfl ?_
    refine R_if rfl rfl (fun h => absurd h (by simp)) (fun _ => ?_) <;> refine R_run hg.ok 1000 rfl rfl ?_
    repeat
      first
      | (refine R_if rfl rfl (fun _ => ?_) (fun h => absurd h (by first | (simp; done) | (simp; omega))); refine R_run hg.ok 1000 rfl rfl ?_)
      | (refine R_if rfl rfl (fun h => absurd h (by first | (simp; done) | (simp; omega))) (fun _ => ?_); refine R_run hg.ok 1000 rfl rfl ?_)
    refine R_call hg.ok (hNB) rfl rfl rfl rfl rfl rfl ?_
    refine R_run hg.ok 1000 rfl rfl ?_
    refine R_call hg.ok (hNC) rfl rfl rfl rfl rfl rfl ?_
    refine R_run hg.ok 1000 rfl rfl ?_
    refine R_call hg.ok (hSN) rfl rfl rfl rfl rfl rfl ?_
    refine R_run hg.ok 1000 rfl rfl ?_
    repeat
      first
      | (refine R_if rfl rfl (fun _ => ?_) (fun h => absurd h (by first | (simp; done) | (simp; omega))); refine R_run hg.ok 1000 rfl rfl ?_)
      | (refine R_if rfl rfl (fun h => absurd h (by first | (simp; done) | (simp; omega))) (fun _ => ?_); refine R_run hg.ok 1000 rfl rfl ?_)
    refine R_call hg.ok (knows4j_ok) rfl rfl rfl rfl rfl rfl ?_
    refine R_run hg.ok 1000 rfl rfl ?_
    refine R_ret hg 5 rfl rfl ?_
    rfl
  | true =>
    have hal := Tm.full_alike hG1 (right_fair ra) (right_fair rb) fun σ hσ => (((p1 rfl).2 σ).1 hσ).2
    have hsz := hfs _ _ hall
    obtain ⟨x, l, hx⟩ : ∃ x l, L.map (fullS B B.length) = x :: x :: l := by
      rw [← hLL]; simp only [List.map_cons, hal]; exact ⟨_, _, rfl⟩
    rw [hx] at hNB hNC hSN hsz ⊢
    simp only [Tm.sizeL] at hsz
    refine R_run hg.ok 1000 rfl rfl ?_
    refine R_if rfl rfl (fun h => absurd h (by simp)) (fun _ => ?_) <;> refine R_run hg.ok 1000 rfl rfl ?_
    refine R_if rfl rfl (fun h => absurd h (by simp)) (fun _ => ?_) <;> refine R_run hg.ok 1000 rfl rfl ?_
    refine R_index hg.ok rfl rfl rfl rfl rfl rfl (by decide) (Tm.rows_get (l := x :: x :: l) rfl) rfl ?_
    refine R_run hg.ok 1000 rfl rfl ?_
    refine R_index hg.ok rfl rfl rfl rfl rfl rfl (by decide) (Tm.rows_get (l := x :: x :: l) rfl) rfl ?_
    refine R_run hg.ok 1000 rfl rfl ?_
    refine R_call hg.ok (refSame_ok x x (by omega)) rfl rfl rfl rfl rfl rfl ?_
    refine R_run hg.ok 1000 rfl rfl ?_
    rw [Tm.same_refl]
    repeat
      first
      | (refine R_if rfl rfl (fun _ => ?_) (fun h => absurd h (by first | (simp; done) | (simp; omega))); refine R_run hg.ok 1000 rfl rfl ?_)
      | (refine R_if rfl rfl (fun h => absurd h (by first | (simp; done) | (simp; omega))) (fun _ => ?_); refine R_run hg.ok 1000 rfl rfl ?_)
    refine R_call hg.ok (hNB) rfl rfl rfl rfl rfl rfl ?_
    refine R_run hg.ok 1000 rfl rfl ?_
    refine R_call hg.ok (hNC) rfl rfl rfl rfl rfl rfl ?_
    refine R_run hg.ok 1000 rfl rfl ?_
    refine R_call hg.ok (hSN) rfl rfl rfl rfl rfl rfl ?_
    refine R_run hg.ok 1000 rfl rfl ?_
    repeat
      first
      | (refine R_if rfl rfl (fun _ => ?_) (fun h => absurd h (by first | (simp; done) | (simp; omega))); refine R_run hg.ok 1000 rfl rfl ?_)
      | (refine R_if rfl rfl (fun h => absurd h (by first | (simp; done) | (simp; omega))) (fun _ => ?_); refine R_run hg.ok 1000 rfl rfl ?_)
    refine R_call hg.ok (knows4j_ok) rfl rfl rfl rfl rfl rfl ?_
    refine R_run hg.ok 1000 rfl rfl ?_
    refine R_ret hg 5 rfl rfl ?_
    rfl
end Go.Proofs.Ytppghekipbnjhaa
