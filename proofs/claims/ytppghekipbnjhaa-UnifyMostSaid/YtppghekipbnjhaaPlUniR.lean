import Derived.Test.YtppghekipbnjhaaPlPair
namespace PSL
open Go Go.RowKit
section
variable {g : G} {pf : Nat → Cls} {ops : Array Oper} {Fin : Exit → Act → World → Prop}

/-- Nothing of a slice of the call's own. -/
theorem R_sliceE (hg : GOk g) {dst : Option Nat} {T : Nat} {x : Operand} {lo hi : Option Operand} {ty : Nat} {pos : String} {after : Array Edge} {gd : Option (Nat × Bool)} {rest : List Oper} {k : List It} {E : Env} {objs : List Ob}
    {i s sz q by_ e : Nat} {z : List Value} {τ : Ty} {rows : List (List D)} {h : Int}
    (hgd : guardA ops.toList E gd = some true) (hd : dstOk ⟨g.ty, g.N⟩ dst = true) (hcl : slCls pf = .turn 1) (hx : ev E x = .ow i s) (ho : nth objs i = some (.arr sz s rows)) (hl : bndA E lo 0 = some h) (hh : bndA E hi rows.length = some h) (hT : g.ty T = some ⟨q, by_, z, .slice e⟩) (he : g.ty e = some τ)
    (h0 : 0 ≤ h) (h2 : h ≤ rows.length)
    (hr : R g pf Fin (.dr ops rest :: k) (putO E dst (.d (.sl []))) objs) : R g pf Fin (.dr ops (⟨dst, .slice T x lo hi none, ty, pos, after, gd⟩ :: rest) :: k) E objs := by
  refine R_op ?_ hr
  simp only [clsOf, hcl]
  refine LocOp.turning hg (.refl _) hgd hd (by simp) fun φ a w hρ hs => ?_
  simp only [Op.operands] at hρ
  have hxv := hρ x (by simp)
  rw [hx] at hxv
  simp only [RV] at hxv
  obtain ⟨_, ph, hph, hxv⟩ := hxv
  have hk := obj_at hs hph ho
  cases ph <;> try (simp only [ObOk] at hk; done)
  simp only [ObOk] at hk
  obtain ⟨rfl, rfl, _, hk⟩ := hk
  have hv := (hxv _ _ _ _ rfl).2 rfl
  have hτ := hg.ty _ _ he
  have hs2 : ∃ (p : Option Addr) (c : Nat), a.eval x = .slice p rows.length c ∧ rows.length ≤ c := by
    rcases hk with ⟨a2, h1, rfl, _⟩ | ⟨b, o, cap, cs, T', h1, _, _, hc, _⟩
    · exact ⟨_, _, hv.trans h1, by simp⟩
    · exact ⟨_, _, hv.trans h1, hc⟩
  obtain ⟨p, cap, hs2, hcap⟩ := hs2
  have hb := run_bounds (P := g.P) (w := w) (sl := true) (a := a) (len := rows.length) (cap := cap) hl hh (fun y hy n he => by
    have := hρ y (by simp [hy]); rw [he] at this; simp only [RV] at this; generalize a.eval y = u at this; cases this; rfl) (fun y hy n he => by
    have := hρ y (by simp [hy]); rw [he] at this; simp only [RV] at this; generalize a.eval y = u at this; cases this; rfl) h0 (Int.le_refl h) (by omega)
  refine out_val hs (vv := .slice (if cap = h.toNat then p else p.map (·.add (h.toNat * τ.size))) 0 (cap - h.toNat)) ?_ (by simp only [RV]; exact .nil _ _)
  simp [execOp, Instr.sliceAt, Instr.slice, hs2, underlying, und_slice hg hT, hb, run_sizeOf hτ]

/-- An object of one's own is not nil. -/
theorem R_eqNil (hg : GOk g) {dst : Option Nat} {T T' : Nat} {x : Operand} {ty : Nat} {pos : String} {after : Array Edge} {gd : Option (Nat × Bool)} {rest : List Oper} {k : List It} {E : Env} {objs : List Ob} {i off : Nat} {e : TypeId}
    (hu : g.P.underlying T = some (.pointer e)) (hgd : guardA ops.toList E gd = some true) (hd : dstOk ⟨g.ty, g.N⟩ dst = true) (hx : ev E x = .lo i off)
    (hr : R g pf Fin (.dr ops rest :: k) (putO E dst (.d (.v (.bool false)))) objs) : R g pf Fin (.dr ops (⟨dst, .binOp .eql T x (.const (.pointer none)) T', ty, pos, after, gd⟩ :: rest) :: k) E objs := by
  refine R_op (LocOp.up (LocOp.quiet hg hgd hd (by simp) fun φ objs w' w hρ hs' => ?_)) hr
  simp only [Op.operands] at hρ
  have hxv := hρ x (by simp)
  rw [hx] at hxv
  simp only [RV] at hxv
  obtain ⟨b, _, hvx⟩ := hxv
  refine out_val hs' (vv := .bool false) ?_ (by simp only [RV]; exact .v _)
  have h1 : ∀ d, (Op.equalIn (d + 1) T (.pointer (some ⟨b, off, none⟩)) (.pointer none)).run g.P w = .ok false w := fun d => by
    simp [Op.equalIn, run_underlying hu]
  have h2 : (Op.equal T (.pointer (some ⟨b, off, none⟩)) (.pointer none)).run g.P w = .ok false w := h1 9999
  have h3 : (eqGuard .eql T x (.const (.pointer none)) (.pointer (some ⟨b, off, none⟩)) (.pointer none)).run g.P w = .ok () w := by simp [eqGuard]
  have h4 : w'.eval (.const (.pointer none)) = .pointer none := rfl
  simp only [execOp, Sem.run_bind, hvx, h4, h3, Result.andThen_ok, binOp, h2, Sem.run_pure]
end
end PSL
