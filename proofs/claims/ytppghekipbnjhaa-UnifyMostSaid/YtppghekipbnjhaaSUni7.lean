import Derived.Test.YtppghekipbnjhaaSUni6
import Derived.Test.YtppghekipbnjhaaSFlat
import Derived.Test.YtppghekipbnjhaaPlEmbed2
namespace Go.Proofs.Ytppghekipbnjhaa
open Go PSL Go.Proofs

theorem nm4 {t : Tm} (h : ∀ x e, e ∈ t.els x → e.2.s.size ≤ 100) : ∀ x e, e ∈ t.els x → e.2.s.size < 1000000000 := fun x e he => by have := h x e he; omega

set_option maxRecDepth 100000 in
theorem sm4_ok (l : List Tm) (hl : ∀ t ∈ l, t.Ok) (hlen : l.length < 4611686018427387904) : PCtr Try.prog 27 [.d (.sl (Tm.rows l))] (bV (smallS l)) := by
  refine PCtr.of_R (pf := fun _ => .still) tyOk mixed Try.func27 rfl (by kernel_rfl) (by kernel_rfl) (by simp [Try.ntmps27]) fun w S hg => ?_
  refine R_run hg.ok 1000 rfl rfl ?_
  refine R_loop (fun x : Nat × Int => ([(0, .d (.sl (Tm.rows l))), (3, iV x.2), (4, iV x.1)], [])) (fun x => x.1 ≤ l.length ∧ Tm.fewL l 60 200 = Tm.fewL (l.drop x.1) x.2 200) (fun x => l.length - x.1) (0, 60) ⟨Nat.zero_le _, rfl⟩ ⟨.refl _, .refl _, .refl _, trivial⟩ rfl ?_
  rintro ⟨k, q⟩ ⟨hk, hm⟩
  simp only at hk hm
  refine R_run hg.ok 1000 rfl rfl ?_
  refine R_if rfl rfl (fun h => ?_) (fun h => ?_) <;> refine R_run hg.ok 1000 rfl rfl ?_
  · have hk1 : k < l.length := lt_dec h (by rw [Tm.rows_length])
    have e1 : l[k]? = some l[k] := List.getElem?_eq_getElem hk1
    rw [List.drop_eq_getElem_cons hk1, Tm.fewL] at hm
    refine R_if rfl rfl (fun h2 => ?_) (fun h2 => ?_) <;> refine R_run hg.ok 1000 rfl rfl ?_
    · rw [if_pos (of_decide_eq_true h2)] at hm
      refine R_index hg.ok rfl rfl rfl rfl rfl rfl (Int.natCast_nonneg _) (Tm.rows_get e1) rfl ?_
      refine R_run hg.ok 1000 rfl rfl ?_
      refine R_call hg.ok (few_ok _ (hl _ (List.getElem_mem hk1)) _ _) rfl rfl rfl rfl rfl rfl ?_
      refine R_run hg.ok 1000 rfl rfl ?_
      exact R_next (k + 1, l[k].few q 200) ⟨hk1, hm⟩ (by simp only; omega) ⟨.refl _, .refl _, Ent.wrap (by simp only; omega) (by simp only; omega) (by simp only; omega), trivial⟩ rfl
    · have h2 := of_decide_eq_false h2
      rw [if_neg h2] at hm
      refine R_ret hg 5 rfl rfl ?_
      unfold smallS
      rw [hm]; rfl
  · have hk1 : l.length ≤ k := ge_dec h (by rw [Tm.rows_length])
    rw [List.drop_eq_nil_of_le hk1, Tm.fewL] at hm
    refine R_ret hg 5 rfl rfl ?_
    unfold smallS
    rw [hm]; rfl

theorem fun4_ok (s : ByteArray) (l : List Tm) : PCtr Try.prog 72 [.d (.v (.string s)), .d (.sl (Tm.rows l))] (Tm.mk 3 s 0 l).av := by
  refine PCtr.of_R (pf := fun _ => .still) tyOk mixed Try.func72 rfl (by kernel_rfl) (by kernel_rfl) (by simp [Try.ntmps72]) fun w S hg => ?_
  refine R_run hg.ok 1000 rfl rfl ?_
  refine R_ret hg 5 rfl rfl ?_
  rfl

def u4x : Tm := Tm.vT 0
def u4y : Tm := Tm.vT 1
def u4c : Tm := .mk 3 ⟨#[97]⟩ 0 []
def u4a : Tm := .mk 3 ⟨#[102]⟩ 0 [u4x, .mk 3 ⟨#[103]⟩ 0 [u4y]]
def u4b : Tm := .mk 3 ⟨#[102]⟩ 0 [u4c, .mk 3 ⟨#[103]⟩ 0 [u4x]]
def u4f : Tm := .mk 3 ⟨#[102]⟩ 0 [u4x]
def u4B : Binds := [(1, u4x), (0, u4c)]
def u4s : Int → Tm := fun _ => u4c

theorem u4_round : Tm.URound u4s u4B 20 [(u4a, u4b)] [] [] where
  inv := ⟨fun b hb => (by cases hb), fun p hp => (by simp at hp; subst hp; rfl), Tm.chainB.nil, fun b hb => (by cases hb), fun p hp => (by simp at hp; subst hp; exact ⟨by kernel_rfl, by kernel_rfl⟩)⟩
  sum := (by decide)
  few := (by decide)
  st := fun p hp => (by simp at hp; subst hp; exact ⟨by decide, by decide⟩)
  sb := fun b hb => (by cases hb)
  run := by kernel_rfl

set_option maxRecDepth 100000 in
theorem knows4_ok : PCtr Try.prog 33 [] (bV true) := by
  have hc : Tm.chainB u4B := ⟨by decide, by
    intro i b h1 h2 j c h3 h4
    match i, j, h1, h3 with
    | 0, 0, h1, h3 => simp [u4B] at h1 h3; subst h1; subst h3; exact absurd h4 (by decide)
    | 0, 1, h1, h3 => omega
    | 1, _, h1, _ => simp [u4B] at h1; subst h1; exact absurd h2 (by decide)
    | 0, j + 2, _, h3 => simp [u4B] at h3
    | i + 2, _, h1, _ => simp [u4B] at h1⟩
  have hM := mgu_ok u4s u4B u4a u4b 20 u4_round hc (by decide) (by kernel_rfl) (by kernel_rfl) (fun e he => fair_names (t := u4a) (by kernel_rfl) 1 e he) (fun e he => fair_names (t := u4b) (by kernel_rfl) 1 e he)
  have sb : Small u4B := smallFair (by decide) (by kernel_rfl) (by kernel_rfl)
  have hA := apply_ok u4B 3 (fun _ => Sub.ofB (by kernel_rfl)) sb u4y (by decide) (fun x e he => fair_names (t := u4y) (by kernel_rfl) x e he)
  rw [show applyT u4B 3 u4y = (u4c, 0) by kernel_rfl] at hA
  have hN := mguNo_ok u4x u4f rfl (by decide) (by kernel_rfl) (by decide) (by decide) (by kernel_rfl) (by kernel_rfl) (fun e he => fair_names (t := u4x) (by kernel_rfl) 1 e he) (fun e he => fair_names (t := u4f) (by kernel_rfl) 1 e he)
  refine PCtr.of_R (pf := fun _ => .still) tyOk mixed Try.func33 rfl (by kernel_rfl) (by kernel_rfl) (by simp [Try.ntmps33]) fun w S hg => ?_
  refine R_run hg.ok 1000 rfl rfl ?_
  refine R_callN hg.ok (fun4_ok ⟨#[103]⟩ [u4y]) rfl rfl rfl rfl (by kernel_rfl) rfl rfl ?_
  refine R_run hg.ok 1000 rfl rfl ?_
  refine R_callN hg.ok (fun4_ok ⟨#[102]⟩ [u4x, .mk 3 ⟨#[103]⟩ 0 [u4y]]) rfl rfl rfl rfl (by kernel_rfl) rfl rfl ?_
  refine R_run hg.ok 1000 rfl rfl ?_
  refine R_callN hg.ok (fun4_ok ⟨#[97]⟩ []) rfl rfl rfl rfl (by kernel_rfl) rfl rfl ?_
  refine R_run hg.ok 1000 rfl rfl ?_
  refine R_callN hg.ok (fun4_ok ⟨#[103]⟩ [u4x]) rfl rfl rfl rfl (by kernel_rfl) rfl rfl ?_
  refine R_run hg.ok 1000 rfl rfl ?_
  refine R_callN hg.ok (fun4_ok ⟨#[102]⟩ [u4c, .mk 3 ⟨#[103]⟩ 0 [u4x]]) rfl rfl rfl rfl (by kernel_rfl) rfl rfl ?_
  refine R_run hg.ok 1000 rfl rfl ?_
  refine R_callN hg.ok (hM) rfl rfl rfl rfl (by kernel_rfl) rfl rfl ?_
  refine R_run hg.ok 1000 rfl rfl ?_
  refine R_callN hg.ok (hA) rfl rfl rfl rfl (by kernel_rfl) rfl rfl ?_
  refine R_run hg.ok 1000 rfl rfl ?_
  refine R_callN hg.ok (fun4_ok ⟨#[102]⟩ [u4x]) rfl rfl rfl rfl (by kernel_rfl) rfl rfl ?_
  refine R_run hg.ok 1000 rfl rfl ?_
  refine R_callN hg.ok (hN) rfl rfl rfl rfl (by kernel_rfl) rfl rfl ?_
  refine R_run hg.ok 1000 rfl rfl ?_
  repeat
    first
    | (refine R_if rfl rfl (fun _ => ?_) (fun h => absurd h (by decide)); refine R_run hg.ok 1000 rfl rfl ?_)
    | (refine R_index hg.ok rfl rfl rfl rfl rfl rfl (by decide) rfl rfl ?_; refine R_run hg.ok 1000 rfl rfl ?_)
    | (refine R_if rfl rfl (fun _ => ?_) (fun h => absurd (h.symm.trans (Tm.strEq_iff.2 rfl)) (by simp)); refine R_run hg.ok 1000 rfl rfl ?_)
  refine R_ret hg 5 rfl rfl ?_
  rfl
end Go.Proofs.Ytppghekipbnjhaa
