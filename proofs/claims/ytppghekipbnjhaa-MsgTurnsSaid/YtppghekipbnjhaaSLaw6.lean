import Derived.Test.YtppghekipbnjhaaSRef6
import Derived.Test.YtppghekipbnjhaaPlC
namespace Go.Proofs.Ytppghekipbnjhaa
open Go PSL Go.Proofs

def qA : Tm := .mk 3 ⟨#[97]⟩ 0 []
def qB : Tm := .mk 3 ⟨#[98]⟩ 0 []
def qC : Tm := .mk 3 ⟨#[99]⟩ 0 []
def qG (t : Tm) : Tm := .mk 3 ⟨#[103]⟩ 0 [t]
def qF (a b c : Tm) : Tm := .mk 3 ⟨#[102]⟩ 0 [a, b, c]

set_option maxRecDepth 100000 in
theorem knows6_ok : PCtr Try.prog 15 [] (bV true) := by
  have hO := msgOf_ok (qF qA (qG qA) qA) (qF qB (qG qB) qC) (small_fair (by kernel_rfl)) (small_fair (by kernel_rfl))
  rw [show msgT (qF qA (qG qA) qA) (qF qB (qG qB) qC) = (qF (Tm.vT 0) (qG (Tm.vT 0)) (Tm.vT 1), 0) by kernel_rfl] at hO
  have hP := msgApart_ok qA qB (small_fair (by kernel_rfl)) (small_fair (by kernel_rfl))
  rw [show apartT qA qB = (1, 0) by kernel_rfl] at hP
  have hN := msgAll_ok [] (by decide) (by simp)
  rw [show msgAll [] = (zeroT, 10) by kernel_rfl] at hN
  refine PCtr.of_R (pf := fun _ => .still) tyOk mixed Try.func15 rfl (by kernel_rfl) (by kernel_rfl) (by simp [Try.ntmps15]) fun w S hg => ?_
  refine R_run hg.ok 1000 rfl rfl ?_
  refine R_callN hg.ok (fun6_ok ⟨#[97]⟩ []) rfl rfl rfl rfl (by kernel_rfl) rfl rfl ?_
  refine R_run hg.ok 1000 rfl rfl ?_
  refine R_callN hg.ok (fun6_ok ⟨#[98]⟩ []) rfl rfl rfl rfl (by kernel_rfl) rfl rfl ?_
  refine R_run hg.ok 1000 rfl rfl ?_
  refine R_callN hg.ok (fun6_ok ⟨#[99]⟩ []) rfl rfl rfl rfl (by kernel_rfl) rfl rfl ?_
  refine R_run hg.ok 1000 rfl rfl ?_
  refine R_callN hg.ok (fun6_ok ⟨#[103]⟩ [qA]) rfl rfl rfl rfl (by kernel_rfl) rfl rfl ?_
  refine R_run hg.ok 1000 rfl rfl ?_
  refine R_callN hg.ok (fun6_ok ⟨#[102]⟩ [qA, qG qA, qA]) rfl rfl rfl rfl (by kernel_rfl) rfl rfl ?_
  refine R_run hg.ok 1000 rfl rfl ?_
  refine R_callN hg.ok (fun6_ok ⟨#[103]⟩ [qB]) rfl rfl rfl rfl (by kernel_rfl) rfl rfl ?_
  refine R_run hg.ok 1000 rfl rfl ?_
  refine R_callN hg.ok (fun6_ok ⟨#[102]⟩ [qB, qG qB, qC]) rfl rfl rfl rfl (by kernel_rfl) rfl rfl ?_
  refine R_run hg.ok 1000 rfl rfl ?_
  refine R_callN hg.ok (hO) rfl rfl rfl rfl (by kernel_rfl) rfl rfl ?_
  refine R_run hg.ok 1000 rfl rfl ?_
  refine R_callN hg.ok (hP) rfl rfl rfl rfl (by kernel_rfl) rfl rfl ?_
  refine R_run hg.ok 1000 rfl rfl ?_
  refine R_callN hg.ok (hN) rfl rfl rfl rfl (by kernel_rfl) rfl rfl ?_
  refine R_run hg.ok 1000 rfl rfl ?_
  repeat
    first
    | (refine R_if rfl rfl (fun _ => ?_) (fun h => absurd h (by decide)); refine R_run hg.ok 1000 rfl rfl ?_)
    | (refine R_index hg.ok rfl rfl rfl rfl rfl rfl (by decide) rfl rfl ?_; refine R_run hg.ok 1000 rfl rfl ?_)
  refine R_ret hg 5 rfl rfl ?_
  rfl

theorem some_s {l : List Tm} (h : Tm.someT l = true) : ∀ t ∈ l, Small4 t := by
  obtain ⟨h1, _, _, h4⟩ := Tm.someT_ok h
  intro t ht
  refine ⟨by have := Tm.size_mem ht; omega, fun x e he => by have := h4 x e (Tm.els_memL ht he); omega⟩

theorem inst6 (t p : Tm) (hp : Small4 p) (ht : Small4 t) : PCtr Try.prog 23 [t.av, p.av] (bV (instT t p)) :=
  instance_ok t p (by have := hp.1; omega) (by have := ht.1; omega) (hp.2 1) (ht.2 1)

theorem same6 (t p : Tm) (ht : Small4 t) : PCtr Try.prog 19 [t.av, p.av] (bV (t.same p)) := refSame_ok t p (by have := ht.1; omega)

theorem right6 (t : Tm) (ht : Small4 t) : PCtr Try.prog 18 [t.av] (bV t.rightB) := refRight_ok t (by have := ht.1; omega) ht.2

theorem zero_small : Small4 zeroT := ⟨by decide, fun x e he => by
  simp only [zeroT, Tm.els, Tm.elsL, List.mem_singleton] at he
  subst he; show ByteArray.empty.size < 1000000000; decide⟩

set_option maxRecDepth 100000 in
theorem msgFinds_ok (a b : Tm) (ha : a.Ok) (hb : b.Ok) : PCtr Try.prog 3 [a.av, b.av] (bV true) := by
  refine PCtr.of_R (pf := fun _ => .still) tyOk mixed Try.func3 rfl (by kernel_rfl) (by kernel_rfl) (by simp [Try.ntmps3]) fun w S hg => ?_
  refine R_run hg.ok 1000 rfl rfl ?_
  refine R_call hg.ok ((some_ok [a, b] (by simp; exact ⟨ha, hb⟩) (by simp)).two) rfl rfl rfl rfl rfl rfl ?_
  refine R_run hg.ok 1000 rfl rfl ?_
  refine R_if rfl rfl (fun h => ?_) (fun h => ?_) <;> refine R_run hg.ok 1000 rfl rfl ?_
  · refine R_call hg.ok (knows6_ok) rfl rfl rfl rfl rfl rfl ?_
    refine R_run hg.ok 1000 rfl rfl ?_
    refine R_ret hg 5 rfl rfl ?_
    rfl
  have hs : Tm.someT [a, b] = true := by simpa using h
  have sa := some_s hs a (by simp)
  have sb := some_s hs b (by simp)
  refine R_call hg.ok (msgOf_ok a b sa sb) rfl rfl rfl rfl rfl rfl ?_
  refine R_run hg.ok 1000 rfl rfl ?_
  refine R_call hg.ok (msgApart_ok a b sa sb) rfl rfl rfl rfl rfl rfl ?_
  refine R_run hg.ok 1000 rfl rfl ?_
  refine R_call hg.ok (right6 a sa) rfl rfl rfl rfl rfl rfl ?_
  refine R_run hg.ok 1000 rfl rfl ?_
  have bad : (a.rightB && b.rightB) = false → msgT a b = (zeroT, 1) ∧ apartT a b = (0, 1) := fun h => by
    unfold msgT apartT
    rw [rightT_eq, rightT_eq, h]; exact ⟨rfl, rfl⟩
  refine R_if rfl rfl (fun h1 => ?_) (fun h1 => ?_) <;> refine R_run hg.ok 1000 rfl rfl ?_
  · obtain ⟨e1, e2⟩ := bad (by rw [show a.rightB = false by simpa using h1]; rfl)
    rw [e1, e2]
    refine R_call hg.ok (same6 zeroT zeroT zero_small) rfl rfl rfl rfl rfl rfl ?_
    refine R_run hg.ok 1000 rfl rfl ?_
    refine R_if rfl rfl (fun _ => ?_) (fun h => absurd h (by rw [Tm.same_refl]; simp)) <;> refine R_run hg.ok 1000 rfl rfl ?_
    refine R_if rfl rfl (fun _ => ?_) (fun h => absurd h (by simp)) <;> refine R_run hg.ok 1000 rfl rfl ?_
    refine R_if rfl rfl (fun _ => ?_) (fun h => absurd h (by simp)) <;> refine R_run hg.ok 1000 rfl rfl ?_
    refine R_if rfl rfl (fun _ => ?_) (fun h => absurd h (by simp)) <;> refine R_run hg.ok 1000 rfl rfl ?_
    refine R_call hg.ok (knows6_ok) rfl rfl rfl rfl rfl rfl ?_
    refine R_run hg.ok 1000 rfl rfl ?_
    refine R_ret hg 5 rfl rfl ?_
    rfl
  have h1 : a.rightB = true := by simpa using h1
  refine R_call hg.ok (right6 b sb) rfl rfl rfl rfl rfl rfl ?_
  refine R_run hg.ok 1000 rfl rfl ?_
  refine R_if rfl rfl (fun h2 => ?_) (fun h2 => ?_) <;> refine R_run hg.ok 1000 rfl rfl ?_
  · obtain ⟨e1, e2⟩ := bad (by rw [show b.rightB = false by simpa using h2, Bool.and_false])
    rw [e1, e2]
    refine R_call hg.ok (same6 zeroT zeroT zero_small) rfl rfl rfl rfl rfl rfl ?_
    refine R_run hg.ok 1000 rfl rfl ?_
    refine R_if rfl rfl (fun _ => ?_) (fun h => absurd h (by rw [Tm.same_refl]; simp)) <;> refine R_run hg.ok 1000 rfl rfl ?_
    refine R_if rfl rfl (fun _ => ?_) (fun h => absurd h (by simp)) <;> refine R_run hg.ok 1000 rfl rfl ?_
    refine R_if rfl rfl (fun _ => ?_) (fun h => absurd h (by simp)) <;> refine R_run hg.ok 1000 rfl rfl ?_
    refine R_if rfl rfl (fun _ => ?_) (fun h => absurd h (by simp)) <;> refine R_run hg.ok 1000 rfl rfl ?_
    refine R_call hg.ok (knows6_ok) rfl rfl rfl rfl rfl rfl ?_
    refine R_run hg.ok 1000 rfl rfl ?_
    refine R_ret hg 5 rfl rfl ?_
    rfl
  have h2 : b.rightB = true := by simpa using h2
  have e1 : msgT a b = ((Tm.bothT a b []).1, 0) := by unfold msgT; rw [rightT_eq, rightT_eq, h1, h2]; rfl
  have e2 : apartT a b = (((Tm.bothT a b []).2.length : Int), 0) := by unfold apartT; rw [rightT_eq, rightT_eq, h1, h2]; rfl
  rw [e1, e2]
  have hpz := pairs_ok a b [] (by have := sa.1; omega) (by have := sb.1; omega) (by simp) (by have := sa.1; simp; omega)
  rw [← (Tm.both_pairs a b []).1] at hpz
  refine R_call hg.ok (refOf_ok a b (by have := sa.1; omega) (by have := sb.1; omega)) rfl rfl rfl rfl rfl rfl ?_
  refine R_run hg.ok 1000 rfl rfl ?_
  refine R_call hg.ok (same6 (Tm.bothT a b []).1 (Tm.bothT a b []).1 (small_fair (Tm.both_right h1))) rfl rfl rfl rfl rfl rfl ?_
  refine R_run hg.ok 1000 rfl rfl ?_
  refine R_if rfl rfl (fun _ => ?_) (fun h => absurd h (by rw [Tm.same_refl]; simp)) <;> refine R_run hg.ok 1000 rfl rfl ?_
  refine R_if rfl rfl (fun _ => ?_) (fun h => absurd h (by simp)) <;> refine R_run hg.ok 1000 rfl rfl ?_
  refine R_call hg.ok (hpz) rfl rfl rfl rfl rfl rfl ?_
  refine R_run hg.ok 1000 rfl rfl ?_
  refine R_if rfl rfl (fun _ => ?_) (fun h => absurd h (by simp [prsRows_len])) <;> refine R_run hg.ok 1000 rfl rfl ?_
  refine R_if rfl rfl (fun _ => ?_) (fun h => absurd h (by simp)) <;> refine R_run hg.ok 1000 rfl rfl ?_
  refine R_call hg.ok (knows6_ok) rfl rfl rfl rfl rfl rfl ?_
  refine R_run hg.ok 1000 rfl rfl ?_
  refine R_ret hg 5 rfl rfl ?_
  rfl

set_option maxRecDepth 100000 in
theorem msgLeast_ok (a b c : Tm) (ha : a.Ok) (hb : b.Ok) (hc : c.Ok) : PCtr Try.prog 5 [a.av, b.av, c.av] (bV true) := by
  have h3 := some_ok [a, b, c] (by simp; exact ⟨ha, hb, hc⟩) (by simp)
  rw [Tm.rows_eq] at h3
  refine PCtr.of_R (pf := fun _ => .still) tyOk mixed Try.func5 rfl (by kernel_rfl) (by kernel_rfl) (by simp [Try.ntmps5]) fun w S hg => ?_
  refine R_run hg.ok 1000 rfl rfl ?_
  refine R_call hg.ok (h3) rfl rfl rfl rfl rfl rfl ?_
  refine R_run hg.ok 1000 rfl rfl ?_
  refine R_if rfl rfl (fun h => ?_) (fun h => ?_) <;> refine R_run hg.ok 1000 rfl rfl ?_
  · refine R_call hg.ok (knows6_ok) rfl rfl rfl rfl rfl rfl ?_
    refine R_run hg.ok 1000 rfl rfl ?_
    refine R_ret hg 5 rfl rfl ?_
    rfl
  have hs : Tm.someT [a, b, c] = true := by simpa using h
  have sa := some_s hs a (by simp)
  have sb := some_s hs b (by simp)
  have sc := some_s hs c (by simp)
  refine R_call hg.ok (right6 a sa) rfl rfl rfl rfl rfl rfl ?_
  refine R_run hg.ok 1000 rfl rfl ?_
  refine R_if rfl rfl (fun h1 => ?_) (fun h1 => ?_) <;> refine R_run hg.ok 1000 rfl rfl ?_
  · refine R_call hg.ok (knows6_ok) rfl rfl rfl rfl rfl rfl ?_
    refine R_run hg.ok 1000 rfl rfl ?_
    refine R_ret hg 5 rfl rfl ?_
    rfl
  have h1 : a.rightB = true := by simpa using h1
  refine R_call hg.ok (right6 b sb) rfl rfl rfl rfl rfl rfl ?_
  refine R_run hg.ok 1000 rfl rfl ?_
  refine R_if rfl rfl (fun h2 => ?_) (fun h2 => ?_) <;> refine R_run hg.ok 1000 rfl rfl ?_
  · refine R_call hg.ok (knows6_ok) rfl rfl rfl rfl rfl rfl ?_
    refine R_run hg.ok 1000 rfl rfl ?_
    refine R_ret hg 5 rfl rfl ?_
    rfl
  have h2 : b.rightB = true := by simpa using h2
  have e1 : msgT a b = ((Tm.bothT a b []).1, 0) := by unfold msgT; rw [rightT_eq, rightT_eq, h1, h2]; rfl
  have ho := msgOf_ok a b sa sb
  rw [e1] at ho
  have rt := Tm.both_right (b := b) h1
  have st := small_fair rt
  have ia : instT a (Tm.bothT a b []).1 = true := (instT_iff rt h1).2 (Tm.both_left a b)
  have ib : instT b (Tm.bothT a b []).1 = true := (instT_iff rt h2).2 (Tm.both_rgt a b)
  refine R_call hg.ok (ho) rfl rfl rfl rfl rfl rfl ?_
  refine R_run hg.ok 1000 rfl rfl ?_
  refine R_if rfl rfl (fun h => absurd h (by simp)) (fun _ => ?_) <;> refine R_run hg.ok 1000 rfl rfl ?_
  refine R_call hg.ok (inst6 a (Tm.bothT a b []).1 st sa) rfl rfl rfl rfl rfl rfl ?_
  refine R_run hg.ok 1000 rfl rfl ?_
  refine R_if rfl rfl (fun h => absurd h (by rw [ia]; simp)) (fun _ => ?_) <;> refine R_run hg.ok 1000 rfl rfl ?_
  refine R_call hg.ok (inst6 b (Tm.bothT a b []).1 st sb) rfl rfl rfl rfl rfl rfl ?_
  refine R_run hg.ok 1000 rfl rfl ?_
  refine R_if rfl rfl (fun h => absurd h (by rw [ib]; simp)) (fun _ => ?_) <;> refine R_run hg.ok 1000 rfl rfl ?_
  have hlt : instT a c = true → instT b c = true → instT (Tm.bothT a b []).1 c = true := fun p q => by
    have hc : c.rightB = true := by
      cases hcr : c.rightB with
      | true => rfl
      | false => rw [(instT_bad (.inl hcr)).1] at p; cases p
    exact (instT_iff hc rt).2 (Tm.both_least ((instT_iff hc h1).1 p) ((instT_iff hc h2).1 q))
  refine R_call hg.ok (inst6 a c sc sa) rfl rfl rfl rfl rfl rfl ?_
  refine R_run hg.ok 1000 rfl rfl ?_
  refine R_if rfl rfl (fun h4 => ?_) (fun h4 => ?_) <;> refine R_run hg.ok 1000 rfl rfl ?_
  · refine R_call hg.ok (knows6_ok) rfl rfl rfl rfl rfl rfl ?_
    refine R_run hg.ok 1000 rfl rfl ?_
    refine R_ret hg 5 rfl rfl ?_
    rfl
  have h4 : instT a c = true := by simpa using h4
  refine R_call hg.ok (inst6 b c sc sb) rfl rfl rfl rfl rfl rfl ?_
  refine R_run hg.ok 1000 rfl rfl ?_
  refine R_if rfl rfl (fun h5 => ?_) (fun h5 => ?_) <;> refine R_run hg.ok 1000 rfl rfl ?_
  · refine R_call hg.ok (knows6_ok) rfl rfl rfl rfl rfl rfl ?_
    refine R_run hg.ok 1000 rfl rfl ?_
    refine R_ret hg 5 rfl rfl ?_
    rfl
  have h5 : instT b c = true := by simpa using h5
  refine R_call hg.ok (inst6 (Tm.bothT a b []).1 c sc st) rfl rfl rfl rfl rfl rfl ?_
  refine R_run hg.ok 1000 rfl rfl ?_
  refine R_if rfl rfl (fun _ => ?_) (fun h => absurd h (by rw [hlt h4 h5]; simp)) <;> refine R_run hg.ok 1000 rfl rfl ?_
  refine R_call hg.ok (knows6_ok) rfl rfl rfl rfl rfl rfl ?_
  refine R_run hg.ok 1000 rfl rfl ?_
  refine R_ret hg 5 rfl rfl ?_
  rfl

set_option maxRecDepth 100000 in
theorem msgTurns_ok (a b : Tm) (ha : a.Ok) (hb : b.Ok) : PCtr Try.prog 6 [a.av, b.av] (bV true) := by
  refine PCtr.of_R (pf := fun _ => .still) tyOk mixed Try.func6 rfl (by kernel_rfl) (by kernel_rfl) (by simp [Try.ntmps6]) fun w S hg => ?_
  refine R_run hg.ok 1000 rfl rfl ?_
  refine R_call hg.ok ((some_ok [a, b] (by simp; exact ⟨ha, hb⟩) (by simp)).two) rfl rfl rfl rfl rfl rfl ?_
  refine R_run hg.ok 1000 rfl rfl ?_
  refine R_if rfl rfl (fun h => ?_) (fun h => ?_) <;> refine R_run hg.ok 1000 rfl rfl ?_
  · refine R_call hg.ok (knows6_ok) rfl rfl rfl rfl rfl rfl ?_
    refine R_run hg.ok 1000 rfl rfl ?_
    refine R_ret hg 5 rfl rfl ?_
    rfl
  have hs : Tm.someT [a, b] = true := by simpa using h
  have sa := some_s hs a (by simp)
  have sb := some_s hs b (by simp)
  refine R_call hg.ok (right6 a sa) rfl rfl rfl rfl rfl rfl ?_
  refine R_run hg.ok 1000 rfl rfl ?_
  refine R_if rfl rfl (fun h1 => ?_) (fun h1 => ?_) <;> refine R_run hg.ok 1000 rfl rfl ?_
  · refine R_call hg.ok (knows6_ok) rfl rfl rfl rfl rfl rfl ?_
    refine R_run hg.ok 1000 rfl rfl ?_
    refine R_ret hg 5 rfl rfl ?_
    rfl
  have h1 : a.rightB = true := by simpa using h1
  refine R_call hg.ok (right6 b sb) rfl rfl rfl rfl rfl rfl ?_
  refine R_run hg.ok 1000 rfl rfl ?_
  refine R_if rfl rfl (fun h2 => ?_) (fun h2 => ?_) <;> refine R_run hg.ok 1000 rfl rfl ?_
  · refine R_call hg.ok (knows6_ok) rfl rfl rfl rfl rfl rfl ?_
    refine R_run hg.ok 1000 rfl rfl ?_
    refine R_ret hg 5 rfl rfl ?_
    rfl
  have h2 : b.rightB = true := by simpa using h2
  have oab := msgOf_ok a b sa sb
  rw [show msgT a b = ((Tm.bothT a b []).1, 0) by unfold msgT; rw [rightT_eq, rightT_eq, h1, h2]; rfl] at oab
  have oba := msgOf_ok b a sb sa
  rw [show msgT b a = ((Tm.bothT a b []).1, 0) by unfold msgT; rw [rightT_eq, rightT_eq, h1, h2, Tm.both_turn]; rfl] at oba
  have oaa := msgOf_ok a a sa sa
  have eaa : (Tm.bothT a a []).1 = numOne a := by
    have := Tm.both_numbered h1 Tm.vT
    rwa [Tm.put_self a (right_fair h1)] at this
  rw [show msgT a a = (numOne a, 0) by unfold msgT; rw [rightT_eq, h1]; simp only [Bool.and_self, if_true, eaa]] at oaa
  have hn := number_ok [a] (by have := sa.1; simp [Tm.sizeL]; omega) (by simp; exact fun x e he => sa.2 1 (x, e) he)
  rw [numOne_eq h1] at hn
  have rt := Tm.both_right (b := b) h1
  have st := small_fair rt
  have rn : (numOne a).rightB = true := by rw [← eaa]; exact Tm.both_right h1
  have sn := small_fair rn
  have hsz := Tm.both_size a b []
  refine R_call hg.ok (oab) rfl rfl rfl rfl rfl rfl ?_
  refine R_run hg.ok 1000 rfl rfl ?_
  refine R_call hg.ok (oba) rfl rfl rfl rfl rfl rfl ?_
  refine R_run hg.ok 1000 rfl rfl ?_
  refine R_call hg.ok (oaa) rfl rfl rfl rfl rfl rfl ?_
  refine R_run hg.ok 1000 rfl rfl ?_
  refine R_call hg.ok (hn.one) rfl rfl rfl rfl rfl rfl ?_
  refine R_run hg.ok 1000 rfl rfl ?_
  refine R_if rfl rfl (fun h => absurd h (by simp [Tm.rows_length])) (fun _ => ?_) <;> refine R_run hg.ok 1000 rfl rfl ?_
  refine R_if rfl rfl (fun h => absurd h (by simp)) (fun _ => ?_) <;> refine R_run hg.ok 1000 rfl rfl ?_
  refine R_if rfl rfl (fun h => absurd h (by simp)) (fun _ => ?_) <;> refine R_run hg.ok 1000 rfl rfl ?_
  refine R_if rfl rfl (fun h => absurd h (by simp)) (fun _ => ?_) <;> refine R_run hg.ok 1000 rfl rfl ?_
  refine R_if rfl rfl (fun h => absurd h (by simp)) (fun _ => ?_) <;> refine R_run hg.ok 1000 rfl rfl ?_
  refine R_call hg.ok (same6 (Tm.bothT a b []).1 (Tm.bothT a b []).1 st) rfl rfl rfl rfl rfl rfl ?_
  refine R_run hg.ok 1000 rfl rfl ?_
  refine R_if rfl rfl (fun h => absurd h (by rw [Tm.same_refl]; simp)) (fun _ => ?_) <;> refine R_run hg.ok 1000 rfl rfl ?_
  refine R_index hg.ok rfl rfl rfl rfl rfl rfl (by decide) (Tm.rows_get (l := [numOne a]) (i := 0) rfl) rfl ?_
  refine R_run hg.ok 1000 rfl rfl ?_
  refine R_call hg.ok (same6 (numOne a) (numOne a) sn) rfl rfl rfl rfl rfl rfl ?_
  refine R_run hg.ok 1000 rfl rfl ?_
  refine R_if rfl rfl (fun h => absurd h (by rw [Tm.same_refl]; simp)) (fun _ => ?_) <;> refine R_run hg.ok 1000 rfl rfl ?_
  have tail : ∀ {t : Tm}, t.size ≤ 4000 → PCtr Try.prog 26 [t.av] (iV t.size) := fun {t} h => size_ok t (by omega)
  refine R_call hg.ok (inst6 b a sa sb) rfl rfl rfl rfl rfl rfl ?_
  refine R_run hg.ok 1000 rfl rfl ?_
  refine R_if rfl rfl (fun h4 => ?_) (fun h4 => ?_) <;> refine R_run hg.ok 1000 rfl rfl ?_
  · refine R_call hg.ok (tail st.1) rfl rfl rfl rfl rfl rfl ?_
    refine R_run hg.ok 1000 rfl rfl ?_
    refine R_call hg.ok (tail sa.1) rfl rfl rfl rfl rfl rfl ?_
    refine R_run hg.ok 1000 rfl rfl ?_
    refine R_if rfl rfl (fun _ => ?_) (fun h => absurd h (by simp; omega)) <;> refine R_run hg.ok 1000 rfl rfl ?_
    refine R_call hg.ok (tail st.1) rfl rfl rfl rfl rfl rfl ?_
    refine R_run hg.ok 1000 rfl rfl ?_
    refine R_call hg.ok (tail sb.1) rfl rfl rfl rfl rfl rfl ?_
    refine R_run hg.ok 1000 rfl rfl ?_
    refine R_if rfl rfl (fun _ => ?_) (fun h => absurd h (by simp; omega)) <;> refine R_run hg.ok 1000 rfl rfl ?_
    refine R_call hg.ok (knows6_ok) rfl rfl rfl rfl rfl rfl ?_
    refine R_run hg.ok 1000 rfl rfl ?_
    refine R_ret hg 5 rfl rfl ?_
    rfl
  · have h4 : instT b a = true := by simpa using h4
    have e : (Tm.bothT a b []).1 = numOne a := by
      obtain ⟨σ, rfl⟩ := (instT_iff h1 h2).1 h4
      exact Tm.both_numbered h1 σ
    refine R_call hg.ok (same6 (Tm.bothT a b []).1 (numOne a) st) rfl rfl rfl rfl rfl rfl ?_
    refine R_run hg.ok 1000 rfl rfl ?_
    refine R_if rfl rfl (fun _ => ?_) (fun h => absurd h (by rw [e, Tm.same_refl]; simp)) <;> refine R_run hg.ok 1000 rfl rfl ?_
    refine R_call hg.ok (tail st.1) rfl rfl rfl rfl rfl rfl ?_
    refine R_run hg.ok 1000 rfl rfl ?_
    refine R_call hg.ok (tail sa.1) rfl rfl rfl rfl rfl rfl ?_
    refine R_run hg.ok 1000 rfl rfl ?_
    refine R_if rfl rfl (fun _ => ?_) (fun h => absurd h (by simp; omega)) <;> refine R_run hg.ok 1000 rfl rfl ?_
    refine R_call hg.ok (tail st.1) rfl rfl rfl rfl rfl rfl ?_
    refine R_run hg.ok 1000 rfl rfl ?_
    refine R_call hg.ok (tail sb.1) rfl rfl rfl rfl rfl rfl ?_
    refine R_run hg.ok 1000 rfl rfl ?_
    refine R_if rfl rfl (fun _ => ?_) (fun h => absurd h (by simp; omega)) <;> refine R_run hg.ok 1000 rfl rfl ?_
    refine R_call hg.ok (knows6_ok) rfl rfl rfl rfl rfl rfl ?_
    refine R_run hg.ok 1000 rfl rfl ?_
    refine R_ret hg 5 rfl rfl ?_
    rfl

set_option maxRecDepth 100000 in
theorem msgAlls_ok (l : List Tm) (hl : ∀ t ∈ l, t.Ok) (hll : l.length < 4611686018427387904) : PCtr Try.prog 4 [.d (.sl (Tm.rows l))] (bV true) := by
  refine PCtr.of_R (pf := fun _ => .still) tyOk mixed Try.func4 rfl (by kernel_rfl) (by kernel_rfl) (by simp [Try.ntmps4]) fun w S hg => ?_
  refine R_run hg.ok 1000 rfl rfl ?_
  refine R_call hg.ok (some_ok l hl hll) rfl rfl rfl rfl rfl rfl ?_
  refine R_run hg.ok 1000 rfl rfl ?_
  refine R_if rfl rfl (fun h => ?_) (fun h => ?_) <;> refine R_run hg.ok 1000 rfl rfl ?_
  · refine R_call hg.ok (knows6_ok) rfl rfl rfl rfl rfl rfl ?_
    refine R_run hg.ok 1000 rfl rfl ?_
    refine R_ret hg 5 rfl rfl ?_
    rfl
  have hs : Tm.someT l = true := by simpa using h
  have sl := some_s hs
  have hlen : l.length ≤ 100 := (Tm.someT_ok hs).2.2.1
  refine R_call hg.ok (msgAll_ok l (by omega) sl) rfl rfl rfl rfl rfl rfl ?_
  refine R_run hg.ok 1000 rfl rfl ?_
  cases l with
  | nil =>
    refine R_if rfl rfl (fun _ => ?_) (fun h => absurd h (by simp [Tm.rows])) <;> refine R_run hg.ok 1000 rfl rfl ?_
    refine R_call hg.ok (same6 zeroT zeroT zero_small) rfl rfl rfl rfl rfl rfl ?_
    refine R_run hg.ok 1000 rfl rfl ?_
    refine R_if rfl rfl (fun _ => ?_) (fun h => absurd h (by rw [Tm.same_refl]; simp)) <;> refine R_run hg.ok 1000 rfl rfl ?_
    refine R_if rfl rfl (fun _ => ?_) (fun h => absurd h (by simp [msgAll])) <;> refine R_run hg.ok 1000 rfl rfl ?_
    refine R_call hg.ok (knows6_ok) rfl rfl rfl rfl rfl rfl ?_
    refine R_run hg.ok 1000 rfl rfl ?_
    refine R_ret hg 5 rfl rfl ?_
    rfl
  | cons t r =>
    refine R_if rfl rfl (fun h => absurd h (by simp [Tm.rows_length]; omega)) (fun _ => ?_) <;> refine R_run hg.ok 1000 rfl rfl ?_
    -- are all right?
    refine R_cut2 (fun _ : Unit => ([(0, .d (.sl (Tm.rows (t :: r)))), (3, .lo 0 0), (4, iV (msgAll (t :: r)).2)], [boxR (msgAll (t :: r)).1])) (fun _ => (t :: r).all Tm.rightB = true) rfl ?_ ?_
    · refine R_loop (fun k : Nat => ([(0, .d (.sl (Tm.rows (t :: r)))), (3, .lo 0 0), (4, iV (msgAll (t :: r)).2), (5, iV k)], [boxR (msgAll (t :: r)).1])) (fun k => k ≤ (t :: r).length ∧ (t :: r).all Tm.rightB = ((t :: r).drop k).all Tm.rightB) (fun k => (t :: r).length - k) 0 ⟨Nat.zero_le _, rfl⟩ ⟨.refl _, .refl _, .refl _, .refl _, trivial⟩ rfl ?_
      rintro k ⟨hk, hm⟩
      refine R_run hg.ok 1000 rfl rfl ?_
      refine R_if rfl rfl (fun h => ?_) (fun h => ?_) <;> refine R_run hg.ok 1000 rfl rfl ?_
      · have hk1 : k < (t :: r).length := lt_dec h (by rw [Tm.rows_length])
        have e1 : (t :: r)[k]? = some (t :: r)[k] := List.getElem?_eq_getElem hk1
        have hm : (t :: r).all Tm.rightB = ((t :: r)[k].rightB && ((t :: r).drop (k + 1)).all Tm.rightB) := by rw [hm, List.drop_eq_getElem_cons hk1]; rfl
        refine R_index hg.ok rfl rfl rfl rfl rfl rfl (Int.natCast_nonneg _) (Tm.rows_get e1) rfl ?_
        refine R_run hg.ok 1000 rfl rfl ?_
        refine R_call hg.ok (right6 (t :: r)[k] (sl _ (List.getElem_mem hk1))) rfl rfl rfl rfl rfl rfl ?_
        refine R_run hg.ok 1000 rfl rfl ?_
        refine R_if rfl rfl (fun h1 => ?_) (fun h1 => ?_) <;> refine R_run hg.ok 1000 rfl rfl ?_
        · have hbad : msgAll (t :: r) = (zeroT, 1) := by
            refine if_neg ?_
            have : (t :: r).all rightT = (t :: r).all Tm.rightB := by congr 1; funext x; exact rightT_eq x
            rw [this, hm, show (t :: r)[k].rightB = false by simpa using h1]; simp
          rw [hbad]
          refine R_call hg.ok (same6 zeroT zeroT zero_small) rfl rfl rfl rfl rfl rfl ?_
          refine R_run hg.ok 1000 rfl rfl ?_
          refine R_if rfl rfl (fun _ => ?_) (fun h => absurd h (by rw [Tm.same_refl]; simp)) <;> refine R_run hg.ok 1000 rfl rfl ?_
          refine R_if rfl rfl (fun _ => ?_) (fun h => absurd h (by simp)) <;> refine R_run hg.ok 1000 rfl rfl ?_
          refine R_call hg.ok (knows6_ok) rfl rfl rfl rfl rfl rfl ?_
          refine R_run hg.ok 1000 rfl rfl ?_
          refine R_ret hg 5 rfl rfl ?_
          rfl
        · exact R_next (k + 1) ⟨hk1, by rw [hm, show (t :: r)[k].rightB = true by simpa using h1, Bool.true_and]⟩ (by omega) ⟨.refl _, .refl _, .refl _, Ent.wrap (by omega) (by simp at hlen; omega) (by simp at hlen; omega), trivial⟩ rfl
      · have hk1 : (t :: r).length ≤ k := ge_dec h (by rw [Tm.rows_length])
        rw [List.drop_eq_nil_of_le hk1] at hm
        exact R_to () (by rw [hm]; rfl) ⟨.refl _, .refl _, .refl _, trivial⟩ rfl
    rintro ⟨⟩ hr
    have hrt : (t :: r).all rightT = true := by
      have : (t :: r).all rightT = (t :: r).all Tm.rightB := by congr 1; funext x; exact rightT_eq x
      rw [this, hr]
    have hall : ∀ x ∈ t :: r, x.rightB = true := List.all_eq_true.1 hr
    have e : msgAll (t :: r) = (foldM (Tm.bothT t t []).1 r, 0) := if_pos hrt
    rw [e]
    have r0 := Tm.both_right (b := t) (hall t (by simp))
    have rM := foldM_right r _ r0
    have sM := small_fair rM
    have hinst : ∀ x ∈ t :: r, instT x (foldM (Tm.bothT t t []).1 r) = true := fun x hx => by
      obtain ⟨h1, h2⟩ := foldM_inst r _ r0
      refine (instT_iff rM (hall x hx)).2 ?_
      rcases List.mem_cons.1 hx with rfl | hx
      · exact Tm.inst_trans (Tm.both_left x x) h1
      · exact h2 x hx
    have hrl : (t :: r).length ≤ 100 := hlen
    simp only [List.length_cons] at hrl
    have hra := refAll_ok t r (by omega) sl
    generalize hM : foldM (Tm.bothT t t []).1 r = m at *
    refine R_run hg.ok 1000 rfl rfl ?_
    refine R_loop (fun k : Nat => ([(0, .d (.sl (Tm.rows (t :: r)))), (3, .lo 0 0), (4, iV 0), (6, iV k)], [boxR m])) (fun k => k ≤ (t :: r).length) (fun k => (t :: r).length - k) 0 (Nat.zero_le _) ⟨.refl _, .refl _, .refl _, .refl _, trivial⟩ rfl ?_
    intro k hk
    refine R_run hg.ok 1000 rfl rfl ?_
    refine R_if rfl rfl (fun h => ?_) (fun h => ?_) <;> refine R_run hg.ok 1000 rfl rfl ?_
    · have hk1 : k < (t :: r).length := lt_dec h (by rw [Tm.rows_length])
      have e1 : (t :: r)[k]? = some (t :: r)[k] := List.getElem?_eq_getElem hk1
      refine R_index hg.ok rfl rfl rfl rfl rfl rfl (Int.natCast_nonneg _) (Tm.rows_get e1) rfl ?_
      refine R_run hg.ok 1000 rfl rfl ?_
      refine R_call hg.ok (inst6 (t :: r)[k] m sM (sl _ (List.getElem_mem hk1))) rfl rfl rfl rfl rfl rfl ?_
      refine R_run hg.ok 1000 rfl rfl ?_
      refine R_if rfl rfl (fun h => absurd h (by rw [hinst _ (List.getElem_mem hk1)]; simp)) (fun _ => ?_) <;> refine R_run hg.ok 1000 rfl rfl ?_
      exact R_next (k + 1) hk1 (by omega) ⟨.refl _, .refl _, .refl _, Ent.wrap (by omega) (by simp at hk1; omega) (by simp at hk1; omega), trivial⟩ rfl
    · refine R_call hg.ok (hra) rfl rfl rfl rfl rfl rfl ?_
      refine R_run hg.ok 1000 rfl rfl ?_
      refine R_call hg.ok (same6 m m sM) rfl rfl rfl rfl rfl rfl ?_
      refine R_run hg.ok 1000 rfl rfl ?_
      refine R_if rfl rfl (fun _ => ?_) (fun h => absurd h (by rw [Tm.same_refl]; simp)) <;> refine R_run hg.ok 1000 rfl rfl ?_
      refine R_if rfl rfl (fun _ => ?_) (fun h => absurd h (by simp)) <;> refine R_run hg.ok 1000 rfl rfl ?_
      refine R_call hg.ok (knows6_ok) rfl rfl rfl rfl rfl rfl ?_
      refine R_run hg.ok 1000 rfl rfl ?_
      refine R_ret hg 5 rfl rfl ?_
      rfl
end Go.Proofs.Ytppghekipbnjhaa
