import Derived.Test.YtcafgconfcajbaaPlTool
import Derived.Laws.Strings
namespace PSL
open Go Go.RowKit

def vLe : Value → Value → Bool
  | .int k a, .int k' b => kEq k k' && a == b
  | .bool a, .bool b => a == b
  | .string a, .string b => strEq a b
  | .slice none 0 0, .slice none 0 0 => true
  | _, _ => false

theorem vLe_ok {a b : Value} (h : vLe a b = true) : a = b := by
  unfold vLe at h
  split at h
  · simp only [Bool.and_eq_true, beq_iff_eq] at h; rw [kEq_eq h.1, h.2]
  · simp at h; rw [h]
  · rename_i x y
    simp only [strEq, beq_iff_eq, ByteArray.toList_eq] at h
    cases x; cases y
    simp at h; rw [h]
  · rfl
  · cases h

mutual
/-- What may be read as what: a nil slice as an empty one. -/
def dLe : D → D → Bool
  | .v a, y => match y with
    | .v b => vLe a b
    | .sl [] => match a with
      | .slice none 0 0 => true
      | _ => false
    | _ => false
  | .sl r, y => match y with
    | .sl r' => rowsLe r r'
    | _ => false
  | .ptr l, y => match y with
    | .ptr l' => rowLe l l'
    | _ => false
def rowLe : List D → List D → Bool
  | [], [] => true
  | x :: l, y :: m => dLe x y && rowLe l m
  | _, _ => false
def rowsLe : List (List D) → List (List D) → Bool
  | [], [] => true
  | x :: l, y :: m => rowLe x y && rowsLe l m
  | _, _ => false
end

theorem rowLe_len : ∀ {l m : List D}, rowLe l m = true → l.length = m.length
  | [], [], _ => rfl
  | [], _ :: _, h => by simp [rowLe] at h
  | _ :: _, [], h => by simp [rowLe] at h
  | x :: l, y :: m, h => by simp only [rowLe, Bool.and_eq_true] at h; simp [rowLe_len h.2]

theorem rowLe_get : ∀ {l m : List D} {j : Nat} {y : D}, rowLe l m = true → m[j]? = some y → ∃ x, l[j]? = some x ∧ dLe x y = true
  | [], [], _, _, _, h => by simp at h
  | [], _ :: _, _, _, h, _ => by simp [rowLe] at h
  | _ :: _, [], _, _, h, _ => by simp [rowLe] at h
  | x :: l, y :: m, 0, z, h, hz => by simp only [rowLe, Bool.and_eq_true] at h; simp at hz; subst hz; exact ⟨x, rfl, h.1⟩
  | x :: l, y :: m, j + 1, z, h, hz => by simp only [rowLe, Bool.and_eq_true] at h; simpa using rowLe_get h.2 (by simpa using hz)

theorem rowsLe_len : ∀ {l m : List (List D)}, rowsLe l m = true → l.length = m.length
  | [], [], _ => rfl
  | [], _ :: _, h => by simp [rowsLe] at h
  | _ :: _, [], h => by simp [rowsLe] at h
  | x :: l, y :: m, h => by simp only [rowsLe, Bool.and_eq_true] at h; simp [rowsLe_len h.2]

theorem rowsLe_get : ∀ {l m : List (List D)} {j : Nat} {y : List D}, rowsLe l m = true → m[j]? = some y → ∃ x, l[j]? = some x ∧ rowLe x y = true
  | [], [], _, _, _, h => by simp at h
  | [], _ :: _, _, _, h, _ => by simp [rowsLe] at h
  | _ :: _, [], _, _, h, _ => by simp [rowsLe] at h
  | x :: l, y :: m, 0, z, h, hz => by simp only [rowsLe, Bool.and_eq_true] at h; simp at hz; subst hz; exact ⟨x, rfl, h.1⟩
  | x :: l, y :: m, j + 1, z, h, hz => by simp only [rowsLe, Bool.and_eq_true] at h; simpa using rowsLe_get h.2 (by simpa using hz)

theorem dLe_ok {S : Nat → Prop} {w : World} {x : D} {v : Value} (hr : Rd S w x v) : ∀ {y : D}, dLe x y = true → Rd S w y v := by
  induction hr with
  | v x =>
    intro y h
    cases y with
    | v b => simp only [dLe] at h; rw [vLe_ok h]; exact .v _
    | sl r =>
      cases r with
      | nil =>
        simp only [dLe] at h
        split at h
        · exact .nil _ _
        · cases h
      | cons _ _ => simp [dLe] at h
    | ptr _ => simp [dLe] at h
  | nil a c =>
    intro y h
    cases y with
    | v b => simp [dLe] at h
    | sl r =>
      simp only [dLe] at h
      have := rowsLe_len h
      have : r = [] := List.length_eq_zero_iff.1 this.symm
      subst this; exact .nil _ _
    | ptr _ => simp [dLe] at h
  | @sl rows b o cap sz cs T fr g hS hb hl hc hsz hg _ ih =>
    intro y h
    cases y with
    | v b => simp [dLe] at h
    | ptr _ => simp [dLe] at h
    | sl r =>
      simp only [dLe] at h
      have hlen := rowsLe_len h
      rw [hlen]
      refine .sl (sz := sz) g hS hb (by omega) hc (fun i row hi => ?_) (fun i row j x hi hj => ?_) (fun i row j x hi hj => ?_)
      · obtain ⟨row', h1, h2⟩ := rowsLe_get h hi
        rw [← rowLe_len h2]; exact hsz i row' h1
      · obtain ⟨row', h1, h2⟩ := rowsLe_get h hi
        obtain ⟨x', h3, _⟩ := rowLe_get h2 hj
        exact hg i row' j x' h1 h3
      · obtain ⟨row', h1, h2⟩ := rowsLe_get h hi
        obtain ⟨x', h3, h4⟩ := rowLe_get h2 hj
        exact ih i row' j x' h1 h3 h4
  | @ptr l b o cs T fr g hS hb hg _ ih =>
    intro y h
    cases y with
    | v b => simp [dLe] at h
    | sl r => simp [dLe] at h
    | ptr m =>
      simp only [dLe] at h
      refine .ptr g hS hb (fun j x hj => ?_) (fun j x hj => ?_)
      · obtain ⟨x', h3, _⟩ := rowLe_get h hj
        exact hg j x' h3
      · obtain ⟨x', h3, h4⟩ := rowLe_get h hj
        exact ih j x' h3 h4

mutual
def aLe : AV → AV → Bool
  | .d x, y => match y with
    | .d y => dLe x y
    | _ => false
  | .agg l, y => match y with
    | .agg m => asLe l m
    | _ => false
  | .tup l, y => match y with
    | .tup m => asLe l m
    | _ => false
  | _, _ => false
def asLe : List AV → List AV → Bool
  | [], [] => true
  | x :: l, y :: m => aLe x y && asLe l m
  | _, _ => false
end

mutual
theorem aLe_ok {S : Nat → Prop} {w : World} {φ : List Phy} : ∀ {x y : AV} {v : Value}, aLe x y = true → RV S w φ x v → RV S w φ y v
  | .d x, y, v, h, hr => by
    cases y <;> simp only [aLe] at h <;> try (cases h; done)
    simp only [RV] at hr ⊢
    exact dLe_ok hr h
  | .agg l, y, v, h, hr => by
    cases y <;> simp only [aLe] at h <;> try (cases h; done)
    simp only [RV] at hr ⊢
    obtain ⟨cs, h1, h2⟩ := hr
    exact ⟨cs, h1, asLe_ok h h2⟩
  | .tup l, y, v, h, hr => by
    cases y <;> simp only [aLe] at h <;> try (cases h; done)
    simp only [RV] at hr ⊢
    obtain ⟨cs, h1, h2⟩ := hr
    exact ⟨cs, h1, asLe_ok h h2⟩
  | .any, _, _, h, _ => by simp [aLe] at h
  | .tt, _, _, h, _ => by simp [aLe] at h
  | .ff, _, _, h, _ => by simp [aLe] at h
  | .fs _, _, _, h, _ => by simp [aLe] at h
  | .lo _ _, _, _, h, _ => by simp [aLe] at h
  | .el _ _ _ _, _, _, h, _ => by simp [aLe] at h
  | .ow _ _, _, _, h, _ => by simp [aLe] at h
  | .mp _, _, _, h, _ => by simp [aLe] at h
  | .yl _, _, _, h, _ => by simp [aLe] at h
  | .clo _ _ _, _, _, h, _ => by simp [aLe] at h
theorem asLe_ok {S : Nat → Prop} {w : World} {φ : List Phy} : ∀ {l m : List AV} {vs : List Value}, asLe l m = true → RVs S w φ l vs → RVs S w φ m vs
  | [], [], _, _, h => h
  | [], _ :: _, _, h, _ => by simp [asLe] at h
  | _ :: _, [], _, h, _ => by simp [asLe] at h
  | x :: l, y :: m, [], _, h => by simp [RVs] at h
  | x :: l, y :: m, v :: vs, h, hr => by
    simp only [asLe, Bool.and_eq_true] at h
    simp only [RVs] at hr ⊢
    exact ⟨aLe_ok h.1 hr.1, asLe_ok h.2 hr.2⟩
end

theorem PCtr.le {P : Program} {f : Nat} {as as' : List AV} {r : AV} (h : PCtr P f as r) (hl : asLe as' as = true) : PCtr P f as' r :=
  ⟨h.call, fun S w vals hS hv => h.run S w vals hS (asLe_ok hl hv)⟩

/-- A call of a function of pure data, at arguments written out. -/
theorem R_callN {g : G} {pf : Nat → Cls} {ops : Array Oper} {Fin : Exit → Act → World → Prop} (hg : GOk g) {f : Nat} {as : List AV} {r : AV} (hc : PCtr g.P f as r) {as' : List AV} {dst : Option Nat} {x : Operand} {args : Array Operand} {ts : Array Nat} {ty : Nat} {pos : String} {after : Array Edge} {gd : Option (Nat × Bool)}
    {rest : List Oper} {k : List It} {E : Env} {objs : List Ob} {fs cs : List AV}
    (hgd : guardA ops.toList E gd = some true) (hd : dstOk ⟨g.ty, g.N⟩ dst = true) (hx : ev E x = .clo f fs cs) (has : (fs ++ args.toList.map (ev E) ++ cs).map nrm = as') (hle : asLe as' as = true) (hpa : pureL as' = true) (hpr : pureA r = true)
    (hr : R g pf Fin (.dr ops rest :: k) (putO E dst r) objs) :
    R g pf Fin (.dr ops (⟨dst, .call { callee := .value x, args := args, argTypes := ts }, ty, pos, after, gd⟩ :: rest) :: k) E objs :=
  R_call hg (hc.le hle) hgd hd hx has hpa hpr hr
end PSL
