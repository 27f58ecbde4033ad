import Derived.Test.YthfkhfbhbfpglaaPlLex
namespace PSL
open Go Go.RowKit
section
variable {g : G} {pf : Nat → Cls} {ops : Array Oper} {Fin : Exit → Act → World → Prop}

theorem rvs_vals {S : Nat → Prop} {w : World} {φ : List Phy} : ∀ (l : List Value) (vs : List Value), RVs S w φ (l.map fun v => .d (.v v)) vs → vs = l
  | [], [], _ => rfl
  | [], _ :: _, h => by simp [RVs] at h
  | _ :: _, [], h => by simp [RVs] at h
  | a :: l, b :: vs, h => by
    simp only [List.map_cons, RVs] at h
    obtain ⟨h1, h2⟩ := h
    simp only [RV] at h1
    cases h1
    rw [rvs_vals l vs h2]

/-- Two structs of plain values that are known, held against one another. -/
theorem R_neqV (hg : GOk g) (vs us : List Value) (r : Bool) {dst : Option Nat} {T T' : Nat} {x y : Operand} {ty : Nat} {pos : String} {after : Array Edge} {gd : Option (Nat × Bool)} {rest : List Oper} {k : List It} {E : Env} {objs : List Ob}
    (hgd : guardA ops.toList E gd = some true) (hd : dstOk ⟨g.ty, g.N⟩ dst = true) (hx : ev E x = .agg (vs.map fun v => .d (.v v))) (hy : ev E y = .agg (us.map fun v => .d (.v v)))
    (hrun : ∀ w, ((do eqGuard .neq T x y (.agg vs.toArray) (.agg us.toArray); binOp .neq T (.agg vs.toArray) (.agg us.toArray)) : Sem Value).run g.P w = .ok (.bool r) w)
    (hr : R g pf Fin (.dr ops rest :: k) (putO E dst (.d (.v (.bool r)))) objs) : R g pf Fin (.dr ops (⟨dst, .binOp .neq T x y T', ty, pos, after, gd⟩ :: rest) :: k) E objs := by
  refine R_op (LocOp.up (LocOp.quiet hg hgd hd (by simp) fun φ objs w' w hρ hs' => ?_)) hr
  simp only [Op.operands] at hρ
  have hxv := hρ x (by simp)
  rw [hx] at hxv
  have hyv := hρ y (by simp)
  rw [hy] at hyv
  simp only [RV] at hxv hyv
  obtain ⟨cx, ex, hxv⟩ := hxv
  obtain ⟨cy, ey, hyv⟩ := hyv
  have hxv := rvs_vals vs cx hxv
  have hyv := rvs_vals us cy hyv
  subst hxv; subst hyv
  refine out_val hs' (vv := .bool r) ?_ (by simp only [RV]; exact .v _)
  have h2 := hrun w
  simp only [Sem.run_bind] at h2
  simp only [execOp, Sem.run_bind, ex, ey]
  have e : ∀ (r1 : Result Unit) (f : Unit → World → Result Value), (r1.andThen f).andThen (fun v w' => .ok (Next.value v) w') = r1.andThen fun u w' => (f u w').andThen (fun v w' => .ok (Next.value v) w') := fun r1 f => by cases r1 <;> rfl
  rw [h2]; rfl
end
end PSL
