import Derived.Test.YtcafgconfcajbaaPlCut
namespace PSL
open Go Go.RowKit

section
variable {g : G} {pf : Nat → Cls} {ops : Array Oper} {Fin : Exit → Act → World → Prop}

/-- A quotient. -/
theorem R_quo (hg : GOk g) {dst : Option Nat} {T T2 : Nat} {x y : Operand} {ty : Nat} {pos : String} {after : Array Edge} {gd : Option (Nat × Bool)} {rest : List Oper} {k : List It} {E : Env} {objs : List Ob} {q : IntKind} {m n : Int}
    (hgd : guardA ops.toList E gd = some true) (hd : dstOk ⟨g.ty, g.N⟩ dst = true) (hx : ev E x = .d (.v (.int q m))) (hy : ev E y = .d (.v (.int q n))) (hn : n ≠ 0)
    (hr : R g pf Fin (.dr ops rest :: k) (putO E dst (.d (.v (.int q (q.wrap (m.tdiv n)))))) objs) : R g pf Fin (.dr ops (⟨dst, .binOp .quo T x y T2, ty, pos, after, gd⟩ :: rest) :: k) E objs := by
  refine R_op (LocOp.up (LocOp.quiet hg hgd hd (by simp) fun φ objs a w hρ hs => ?_)) hr
  simp only [Op.operands] at hρ
  have hxv := hρ x (by simp)
  rw [hx] at hxv
  have hyv := hρ y (by simp)
  rw [hy] at hyv
  simp only [RV] at hxv hyv
  generalize hvx : a.eval x = vx at hxv
  generalize hvy : a.eval y = vy at hyv
  cases hxv; cases hyv
  refine out_val hs (vv := .int q (q.wrap (m.tdiv n))) ?_ (by simp only [RV]; exact .v _)
  have hgdd : (eqGuard .quo T x y (.int q m) (.int q n)).run g.P w = .ok () w := run_eqGuard (by rfl)
  simp only [execOp, hvx, hvy, Sem.run_bind, hgdd, Result.andThen_ok]
  simp [binOp, Op.intArith, Op.intDiv, hn]

/-- A remainder. -/
theorem R_rem (hg : GOk g) {dst : Option Nat} {T T2 : Nat} {x y : Operand} {ty : Nat} {pos : String} {after : Array Edge} {gd : Option (Nat × Bool)} {rest : List Oper} {k : List It} {E : Env} {objs : List Ob} {q : IntKind} {m n : Int}
    (hgd : guardA ops.toList E gd = some true) (hd : dstOk ⟨g.ty, g.N⟩ dst = true) (hx : ev E x = .d (.v (.int q m))) (hy : ev E y = .d (.v (.int q n))) (hn : n ≠ 0)
    (hr : R g pf Fin (.dr ops rest :: k) (putO E dst (.d (.v (.int q (m.tmod n))))) objs) : R g pf Fin (.dr ops (⟨dst, .binOp .rem T x y T2, ty, pos, after, gd⟩ :: rest) :: k) E objs := by
  refine R_op (LocOp.up (LocOp.quiet hg hgd hd (by simp) fun φ objs a w hρ hs => ?_)) hr
  simp only [Op.operands] at hρ
  have hxv := hρ x (by simp)
  rw [hx] at hxv
  have hyv := hρ y (by simp)
  rw [hy] at hyv
  simp only [RV] at hxv hyv
  generalize hvx : a.eval x = vx at hxv
  generalize hvy : a.eval y = vy at hyv
  cases hxv; cases hyv
  refine out_val hs (vv := .int q (m.tmod n)) ?_ (by simp only [RV]; exact .v _)
  have hgdd : (eqGuard .rem T x y (.int q m) (.int q n)).run g.P w = .ok () w := run_eqGuard (by rfl)
  simp only [execOp, hvx, hvy, Sem.run_bind, hgdd, Result.andThen_ok]
  simp [binOp, Op.intArith, Op.intDiv, hn]

/-- The less of two. -/
theorem R_min (hg : GOk g) {dst : Option Nat} {x y : Operand} {ts : Array Nat} {ty : Nat} {pos : String} {after : Array Edge} {gd : Option (Nat × Bool)} {rest : List Oper} {k : List It} {E : Env} {objs : List Ob} {m n : Int}
    (hgd : guardA ops.toList E gd = some true) (hd : dstOk ⟨g.ty, g.N⟩ dst = true) (hx : ev E x = .d (.v (.int .i64 m))) (hy : ev E y = .d (.v (.int .i64 n)))
    (hr : R g pf Fin (.dr ops rest :: k) (putO E dst (iV (min m n))) objs) : R g pf Fin (.dr ops (⟨dst, .call { callee := .builtin .min, args := #[x, y], argTypes := ts }, ty, pos, after, gd⟩ :: rest) :: k) E objs := by
  refine R_op (LocOp.effect hg hgd hd (by simp) fun φ a w hρ hs => ?_) hr
  simp only [Op.operands, Call.operands] at hρ
  have hxv := hρ x (by simp)
  rw [hx] at hxv
  have hyv := hρ y (by simp)
  rw [hy] at hyv
  simp only [RV] at hxv hyv
  generalize hvx : a.eval x = vx at hxv
  generalize hvy : a.eval y = vy at hyv
  cases hxv; cases hyv
  refine out_val hs (vv := .int .i64 (min m n)) ?_ (by simp only [RV, iV]; exact .v _)
  simp [execOp, resolve, invoke, builtin, hvx, hvy, Builtin.min_, Builtin.min2]
  omega
end
end PSL
