import Derived.Test.YtcafgconfcajbaaPlCut
namespace PSL
open Go Go.RowKit Go.MapKept
/-- A lookup in no map. -/
theorem R_lookupNil {g : G} {pf : Nat → Cls} {ops : Array Oper} {Fin : Exit → Act → World → Prop} (hg : GOk g) {dst : Option Nat} {T : Nat} {x y : Operand} {ok : Bool} {ty : Nat} {pos : String} {after : Array Edge} {gd : Option (Nat × Bool)} {rest : List Oper} {k : List It} {E : Env} {objs : List Ob}
    {q by_ q' by' kt et : Nat} {z z' : List Value} {n : Int} {zv : Value} {v : AV}
    (hgd : guardA ops.toList E gd = some true) (hd : dstOk ⟨g.ty, g.N⟩ dst = true) (hx : ev E x = .d (.v (.map none))) (hy : ev E y = .d (.v (.int .i64 n))) (hT : g.ty T = some ⟨q, by_, z, .map kt et⟩)
    (hkt : g.ty kt = some ⟨q', by', z', .int .i64⟩) (hz : (g.P.info? et).bind (·.zero) = some zv) (hv : lookI' ok (cstV zv) none = v)
    (hr : R g pf Fin (.dr ops rest :: k) (putO E dst v) objs) : R g pf Fin (.dr ops (⟨dst, .lookup T x y ok, ty, pos, after, gd⟩ :: rest) :: k) E objs := by
  subst hv
  have hu := (hg.ty _ _ hkt).sh
  simp only [ShFact] at hu
  refine R_op (LocOp.lookingM hg 1 hgd hd (by simp) fun φ a w objs₁ _ hρ hs => ?_) hr
  simp only [Op.operands] at hρ
  have hxv := hρ x (by simp)
  rw [hx] at hxv
  have hyv := hρ y (by simp)
  rw [hy] at hyv
  simp only [RV] at hxv hyv
  generalize hvy : a.eval y = vy at hyv
  generalize hvx : a.eval x = vx at hxv
  cases hyv; cases hxv
  have hT' : g.P.underlying T = some (.map kt et) := by have := (hg.ty _ _ hT).sh; simpa only [ShFact] using this
  have hzero : (zeroValue et).run g.P w = .ok zv w := by
    obtain ⟨inf, h1, h2⟩ := Option.bind_eq_some_iff.1 hz
    simp [zeroValue, typeInfo, h1, h2]
  have hzR : RV (SS g.S0 φ) w φ (cstV zv) zv := rv_restr (l := []) (E := []) (E₁ := []) (a := { tmps := #[], defers := [] }) (by simp) (fun t => by simp [lk, RV]) (.const zv)
  have hfind : (Instr.findKey kt (.int .i64 n) []).run g.P w = .ok none w := by
    simp [Instr.findKey, Instr.findNow, underlying, hu]
  refine out_val hs (vv := if ok then .tuple #[zv, .bool false] else zv) ?_ ?_
  · simp [execOp, Instr.lookup, run_underlying hT', hvx, hvy, run_checkKey hu (show IsKey (.int .i64) (.int .i64 n) by simp [IsKey]), hfind, hzero]
  · simp only [lookI']
    cases ok
    · simpa using hzR
    · simp only [if_true, RV]
      exact ⟨[zv, .bool false], rfl, by simp only [RVs, RV, bV, and_true]; exact ⟨hzR, .v _⟩⟩
end PSL
