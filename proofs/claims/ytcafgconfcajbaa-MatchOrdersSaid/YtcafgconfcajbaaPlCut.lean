import Derived.Test.YtcafgconfcajbaaPlTool
namespace PSL
open Go Go.RowKit

section
variable {g : G} {pf : Nat → Cls} {Fin : Exit → Act → World → Prop}

theorem KP_cut {M : Env → List Ob → Prop} {k : List It} (h : ∀ E objs, M E objs → RK g Fin k E objs) : ∀ (e : Exit) (a : Act) (w : World), KP g Fin (.mark M :: k) e a w → KP g Fin k e a w := fun e a w hk => by
  cases e with
  | normal => obtain ⟨E, objs, h1, h2⟩ := hk; exact h E objs h1 a w h2
  | _ => exact hk

theorem KP_under {K1 K2 : List It} (h : ∀ (e : Exit) (a : Act) (w : World), KP g Fin K1 e a w → KP g Fin K2 e a w) (i : It) : ∀ (e : Exit) (a : Act) (w : World), KP g Fin (i :: K1) e a w → KP g Fin (i :: K2) e a w := fun e a w hk => by
  cases i with
  | code c =>
    cases e with
    | normal => exact wpIn_mono hk h
    | _ => exact h _ _ _ hk
  | blk id =>
    cases e with
    | exit j =>
      simp only [KP] at hk ⊢
      split
      · rename_i hj; rw [if_pos hj] at hk; exact h _ _ _ hk
      · rename_i hj; rw [if_neg hj] at hk; exact h _ _ _ hk
    | _ => exact h _ _ _ hk
  | mark M =>
    cases e with
    | normal => exact hk
    | _ => exact h _ _ _ hk
  | dr ops r => exact h _ _ _ hk

/-- States by a parameter. -/
abbrev MarkOf {β : Type} (st : β → Env × List Ob) (inv : β → Prop) : Env → List Ob → Prop := fun E' objs' => ∃ p, inv p ∧ EnvIn E' (st p).1 ∧ objs' = (st p).2

theorem RK_of_cut {β : Type} {st : β → Env × List Ob} {inv : β → Prop} {k : List It} (ho : ItsOk pf k) (hk : noDr k = true) (h2 : ∀ p, inv p → R g pf Fin k (st p).1 (st p).2) : ∀ E objs, MarkOf st inv E objs → RK g Fin k E objs := by
  rintro E objs ⟨p, h1, h3, rfl⟩
  exact RK.of_R (pf := pf) (k := k) ho ((h2 p h1).ent h3.eent) (noDr_head hk)

/-- What is behind the top is shown once, for all states of a form. -/
theorem R_cut1 {β : Type} (st : β → Env × List Ob) (inv : β → Prop) {i : It} {k : List It} {E : Env} {objs : List Ob} (hk : noDr k = true) (h1 : R g pf Fin (i :: .mark (MarkOf st inv) :: k) E objs) (h2 : ∀ p, inv p → R g pf Fin k (st p).1 (st p).2) : R g pf Fin (i :: k) E objs := by
  intro ho
  have hok : ItsOk pf k := by
    cases i with
    | code c => exact ho.2
    | _ => exact ho
  have hc := KP_cut (RK_of_cut (g := g) (Fin := Fin) hok hk h2)
  have ho' : ItsOk pf (i :: .mark (MarkOf st inv) :: k) := by
    cases i with
    | code c => exact ho
    | _ => exact ho
  have h := h1 ho'
  cases i with
  | dr ops rest =>
    exact Dr.monoK (fun E objs hr a w hs => hc _ _ _ (hr a w hs)) h
  | code c => exact fun a w hs => KP_under hc (.code c) _ _ _ (h a w hs)
  | blk id => exact fun a w hs => KP_under hc (.blk id) _ _ _ (h a w hs)
  | mark M => exact fun a w hs => KP_under hc (.mark M) _ _ _ (h a w hs)

theorem its_cut {M : Env → List Ob → Prop} : ∀ (pre : List It) {k : List It}, ItsOk pf (pre ++ k) → ItsOk pf (pre ++ .mark M :: k) ∧ ItsOk pf k
  | [], _, h => ⟨h, h⟩
  | i :: pre, k, h => by
    cases i with
    | code c => exact ⟨⟨h.1, (its_cut pre h.2).1⟩, (its_cut (M := M) pre h.2).2⟩
    | _ => exact its_cut (M := M) pre h

theorem KP_cutN {M : Env → List Ob → Prop} {k : List It} (h : ∀ E objs, M E objs → RK g Fin k E objs) : ∀ (pre : List It) (e : Exit) (a : Act) (w : World), KP g Fin (pre ++ .mark M :: k) e a w → KP g Fin (pre ++ k) e a w
  | [] => KP_cut h
  | i :: pre => KP_under (KP_cutN h pre) i

theorem R_cutN {β : Type} (pre : List It) (st : β → Env × List Ob) (inv : β → Prop) {i : It} {k : List It} {E : Env} {objs : List Ob} (hk : noDr k = true) (h1 : R g pf Fin (i :: (pre ++ .mark (MarkOf st inv) :: k)) E objs) (h2 : ∀ p, inv p → R g pf Fin k (st p).1 (st p).2) : R g pf Fin (i :: (pre ++ k)) E objs := by
  intro ho
  have hi := its_cut (pf := pf) (M := MarkOf st inv) (i :: pre) (k := k) ho
  have hc := KP_cutN (RK_of_cut (g := g) (Fin := Fin) hi.2 hk h2) pre
  have h := h1 hi.1
  cases i with
  | dr ops rest => exact Dr.monoK (fun E objs hr a w hs => hc _ _ _ (hr a w hs)) h
  | code c => exact fun a w hs => KP_under hc (.code c) _ _ _ (h a w hs)
  | blk id => exact fun a w hs => KP_under hc (.blk id) _ _ _ (h a w hs)
  | mark M => exact fun a w hs => KP_under hc (.mark M) _ _ _ (h a w hs)

theorem R_cut2 {β : Type} (st : β → Env × List Ob) (inv : β → Prop) {i j : It} {k : List It} {E : Env} {objs : List Ob} (hk : noDr k = true) (h1 : R g pf Fin (i :: j :: .mark (MarkOf st inv) :: k) E objs) (h2 : ∀ p, inv p → R g pf Fin k (st p).1 (st p).2) : R g pf Fin (i :: j :: k) E objs := R_cutN [j] st inv hk h1 h2
theorem R_cut3 {β : Type} (st : β → Env × List Ob) (inv : β → Prop) {i j l : It} {k : List It} {E : Env} {objs : List Ob} (hk : noDr k = true) (h1 : R g pf Fin (i :: j :: l :: .mark (MarkOf st inv) :: k) E objs) (h2 : ∀ p, inv p → R g pf Fin k (st p).1 (st p).2) : R g pf Fin (i :: j :: l :: k) E objs := R_cutN [j, l] st inv hk h1 h2

/-- The end of a part that was cut off. -/
theorem R_to {β : Type} {st : β → Env × List Ob} {inv : β → Prop} {k : List It} {E : Env} {objs : List Ob} (p : β) (h1 : inv p) (h3 : EnvIn E (st p).1) (h4 : objs = (st p).2) : R g pf Fin (.mark (MarkOf st inv) :: k) E objs := R_mark ⟨p, h1, h3, h4⟩

theorem R_freezeO (hu : GUp g) {k : List It} {E : Env} {objs : List Ob} (i : Nat) (E' : Env) (objs' : List Ob) {sz s : Nat} {rows : List (List D)} (ho : nth objs i = some (.arr sz s rows)) (ht : topCode k = true)
    (hE : EnvIn (mapE (frzA i s rows) E) E') (hO : ObsIn (setN (objs.map (mapOb (frzA i s rows))) i .dead) objs') (hr : R g pf Fin k E' objs') : R g pf Fin k E objs :=
  R_freeze hu i ho ht (R_weak E' hE (R_obs objs' hO ht hr))
theorem Ent.frz (i s : Nat) (rows : List (List D)) : Ent (frzA i s rows (.ow i s)) (.d (.sl rows)) := by
  have : frzA i s rows (.ow i s) = .d (.sl rows) := by simp [frzA]
  rw [this]; exact .refl _

theorem Ent.bool {m n : Bool} (h : m = n) : Ent (bV m) (bV n) := by subst h; exact .refl _
theorem Ent.ttb {n : Bool} (h : n = true) : Ent .tt (bV n) := by subst h; exact .tt
theorem Ent.ffb {n : Bool} (h : n = false) : Ent .ff (bV n) := by subst h; exact .ff
end

/-- A store into an element, with the rows behind it written as one wants. -/
theorem R_storeEO {g : G} {pf : Nat → Cls} {ops : Array Oper} {Fin : Exit → Act → World → Prop} (hg : GOk g) {dst : Option Nat} {T : Nat} {d x : Operand} {ty : Nat} {pos : String} {after : Array Edge} {gd : Option (Nat × Bool)} {rest : List Oper} {k : List It} {E : Env} {objs : List Ob}
    {id s sz r j : Nat} {τ : Ty} {rows : List (List D)} {row : List D} {l : List AV} {ds : List D} (rows' : List (List D))
    (hgd : guardA ops.toList E gd = some true) (hd : dstOk ⟨g.ty, g.N⟩ dst = true) (hx : ev E d = .el id s r j) (ho : nth objs id = some (.arr sz s rows)) (hT : g.ty T = some τ) (hrow : rows[r]? = some row) (hc : cellsO (ev E x) = some l) (hds : toDs l = some ds) (hl : ds.length = τ.size) (hfit : j + τ.size ≤ sz)
    (hrows : rows.set r (spliceD row j ds) = rows')
    (hr : R g pf Fin (.dr ops rest :: k) (putO E dst .any) (setN objs id (.arr sz s rows'))) : R g pf Fin (.dr ops (⟨dst, .store T d x, ty, pos, after, gd⟩ :: rest) :: k) E objs := by
  subst hrows
  exact R_storeE hg hgd hd hx ho hT hrow hc hds hl hfit hr
end PSL
