import Derived.Test.YtcafgconfcajbaaPslC
import Derived.Test.YtcafgconfcajbaaPlTerm
namespace PSL
open Go Go.RowKit Go.MapKept

/-- Loads of boxes alone: they may be drawn ahead of, or behind, what lets objects grow. -/
def pfB : Nat → Cls := fun f => bif Nat.beq f 4000000007 then .loadB else .still

/-- The same, where calls are handed objects. -/
def pfBE : Nat → Cls := fun f => bif Nat.beq f 4000000007 then .loadB else .eff

theorem cong1 {α : Type} {a c : α} {l : List α} (h : a = c) : a :: l = c :: l := by rw [h]
theorem cong2 {α : Type} {a b c : α} {l : List α} (h : b = c) : a :: b :: l = a :: c :: l := by rw [h]
theorem some2 {α : Type} {a b c : α} (h : c = b) : some [a, b] = some [a, c] := by rw [h]

theorem R_appendO {g : G} {pf : Nat → Cls} {ops : Array Oper} {Fin : Exit → Act → World → Prop} (hg : GOk g) {dst : Option Nat} {T T' : Nat} {x y : Operand} {ty : Nat} {pos : String} {after : Array Edge} {gd : Option (Nat × Bool)} {rest : List Oper} {k : List It} {E : Env} {objs : List Ob}
    {i s sz q q' by_ by' e e' : Nat} {z z' : List Value} {τ : Ty} {rows news : List (List D)} (rows' : List (List D))
    (hgd : guardA ops.toList E gd = some true) (hd : dstOk ⟨g.ty, g.N⟩ dst = true) (hx : ev E x = .ow i s) (ho : nth objs i = some (.arr sz s rows)) (hy : nrm (ev E y) = .d (.sl news))
    (hT : g.ty T = some ⟨q, by_, z, .slice e⟩) (hT' : g.ty T' = some ⟨q', by', z', .slice e'⟩) (he : g.ty e = some τ) (hsz : τ.size = sz) (hlen : ∀ r ∈ news, r.length = sz) (hone : ∀ r ∈ news, ∀ x ∈ r, one1 (.d x) = true)
    (hrows : rows ++ news = rows') (hbytes : (rows.length + news.length) * τ.bytes ≤ 140737488355328) (hmax : rows.length + news.length ≤ 140737488355328)
    (hr : R g pf Fin (.dr ops rest :: k) (putO E dst (.ow i (Nat.succ s))) (setN objs i (.arr sz (Nat.succ s) rows'))) :
    R g pf Fin (.dr ops (⟨dst, .call { callee := .builtin .append, args := #[x, y], argTypes := #[T, T'] }, ty, pos, after, gd⟩ :: rest) :: k) E objs := by
  subst hrows
  exact R_append hg hgd hd hx ho hy hT hT' he hsz hlen hone hbytes hmax hr

theorem R_sliceO {g : G} {pf : Nat → Cls} {ops : Array Oper} {Fin : Exit → Act → World → Prop} (hg : GOk g) {dst : Option Nat} {T : Nat} {x : Operand} {lo hi : Option Operand} {ty : Nat} {pos : String} {after : Array Edge} {gd : Option (Nat × Bool)} {rest : List Oper} {k : List It} {E : Env} {objs : List Ob}
    {q by_ e : Nat} {z : List Value} {τ : Ty} {rows : List (List D)} (rows' : List (List D)) {l h : Int}
    (hgd : guardA ops.toList E gd = some true) (hd : dstOk ⟨g.ty, g.N⟩ dst = true) (hx : nrm (ev E x) = .d (.sl rows)) (hl : bndA E lo 0 = some l) (hh : bndA E hi rows.length = some h) (hT : g.ty T = some ⟨q, by_, z, .slice e⟩) (he : g.ty e = some τ) (hsz : ∀ r ∈ rows, r.length = τ.size)
    (h0 : 0 ≤ l) (h1 : l ≤ h) (h2 : h ≤ rows.length) (hr' : (rows.drop l.toNat).take (h.toNat - l.toNat) = rows')
    (hr : R g pf Fin (.dr ops rest :: k) (putO E dst (.d (.sl rows'))) objs) : R g pf Fin (.dr ops (⟨dst, .slice T x lo hi none, ty, pos, after, gd⟩ :: rest) :: k) E objs := by
  subst hr'
  exact R_sliceD hg hgd hd hx hl hh hT he hsz h0 h1 h2 hr

theorem R_mapAddO {g : G} {pf : Nat → Cls} {ops : Array Oper} {Fin : Exit → Act → World → Prop} (hg : GOk g) {dst : Option Nat} {T : Nat} {x y v : Operand} {ty : Nat} {pos : String} {after : Array Edge} {gd : Option (Nat × Bool)} {rest : List Oper} {k : List It} {E : Env} {objs : List Ob}
    {i q by_ q' by' kt et : Nat} {z z' : List Value} {n : Int} {v' : AV} (l l' : List (Int × AV))
    (hgd : guardA ops.toList E gd = some true) (hd : dstOk ⟨g.ty, g.N⟩ dst = true) (hx : ev E x = .mp i) (ho : nth objs i = some (.map (imap l))) (hy : ev E y = .d (.v (.int .i64 n))) (hT : g.ty T = some ⟨q, by_, z, .map kt et⟩)
    (hkt : g.ty kt = some ⟨q', by', z', .int .i64⟩) (hf : getI l n = none) (hv : ev E v = v') (hl : l ++ [(n, v')] = l')
    (hr : R g pf Fin (.dr ops rest :: k) (putO E dst .any) (setN objs i (.map (imap l')))) : R g pf Fin (.dr ops (⟨dst, .mapUpdate T x y v, ty, pos, after, gd⟩ :: rest) :: k) E objs := by
  subst hl; subst hv
  exact R_mapAddI hg l hgd hd hx ho hy hT hkt hf hr

theorem mapO_cons {f : AV → Option AV} {x y : AV} {l l' : List AV} (h : f x = some y) (h2 : mapO f l = some l') : mapO f (x :: l) = some (y :: l') := by simp only [mapO, h, h2]
theorem sealA_tup {objs : List Ob} {n : Nat} {l l' : List AV} (h : mapO (sealA objs n) l = some l') : sealA objs (n + 1) (.tup l) = some (.tup l') := by simp only [sealA, h]
theorem sealA_agg {objs : List Ob} {n : Nat} {l l' : List AV} (h : mapO (sealA objs n) l = some l') : sealA objs (n + 1) (.agg l) = some (.agg l') := by simp only [sealA, h]

theorem PCtr.one {P : Program} {f : Nat} {t : Tm} {r : AV} (h : PCtr P f [.d (.sl (Tm.rows [t]))] r) : PCtr P f [.d (.sl [Tm.row t])] r := by rwa [Tm.rows_eq] at h
theorem PCtr.two {P : Program} {f : Nat} {a b : Tm} {r : AV} (h : PCtr P f [.d (.sl (Tm.rows [a, b]))] r) : PCtr P f [.d (.sl [Tm.row a, Tm.row b])] r := by rwa [Tm.rows_eq] at h
end PSL
