import Derived.Test.YtppghekipbnjhaaPlA
namespace PSL
open Go Go.RowKit Go.MapKept

/-! ### maps whose keys are arrays of two ints -/
def pkV (p : Int × Int) : Value := .agg #[.int .i64 p.1, .int .i64 p.2]
def pmap (l : List ((Int × Int) × AV)) : List (Value × AV) := l.map fun e => (pkV e.1, e.2)
def getP : List ((Int × Int) × AV) → Int × Int → Option AV
  | [], _ => none
  | e :: r, p => if e.1 = p then some e.2 else getP r p

structure PKey (P : Program) (kt : TypeId) : Prop where
  und : ∃ n e, P.underlying kt = some (.array n e)
  eq : ∀ p q w, (Op.equal kt (pkV p) (pkV q)).run P w = .ok (decide (p = q)) w
  ck : ∀ b p w, (Instr.checkKey b 10000 kt (pkV p)).run P w = .ok () w

theorem findP_ok {P : Program} {kt : TypeId} (hk : PKey P kt) {S : Nat → Prop} {w : World} {φ : List Phy} (p : Int × Int) : ∀ {l : List ((Int × Int) × AV)} {ents : List MapEntry} {i : Nat}, EntsOk S w φ (pmap l) ents →
    match getP l p with
    | none => (Instr.findAsking kt (pkV p) ents i).run P w = .ok none w
    | some x => ∃ j v, (Instr.findAsking kt (pkV p) ents i).run P w = .ok (some (j, v)) w ∧ RV S w φ x v
  | [], ents, i, h => by
    cases ents with
    | nil => simp [getP, Instr.findAsking]
    | cons _ _ => have := h.1; simp [pmap] at this
  | e :: l, ents, i, h => by
    cases ents with
    | nil => have := h.1; simp [pmap] at this
    | cons f ents =>
      obtain ⟨h1, h2⟩ := h
      simp only [pmap, List.map_cons, List.cons.injEq] at h1
      obtain ⟨hf, h1⟩ := h1
      simp only [pmap, List.map_cons, RVs] at h2
      simp only [getP]
      by_cases he : e.1 = p
      · rw [if_pos he]
        refine ⟨i, f.val, ?_, h2.1⟩
        simp only [Instr.findAsking, Sem.run_bind, ← hf, hk.eq, Result.andThen_ok]
        simp [he]
      · rw [if_neg he]
        have hd : decide (p = e.1) = false := decide_eq_false fun h => he h.symm
        have := findP_ok hk p (l := l) (ents := ents) (i := i + 1) ⟨by simpa [pmap] using h1, by simpa [pmap] using h2.2⟩
        have hstep : (Instr.findAsking kt (pkV p) (f :: ents) i).run P w = (Instr.findAsking kt (pkV p) ents (i + 1)).run P w := by
          simp only [Instr.findAsking, Sem.run_bind, ← hf, hk.eq, Result.andThen_ok, hd]
          simp
        cases hg : getP l p with
        | none => rw [hg] at this; simp only at this ⊢; rw [hstep]; exact this
        | some x => rw [hg] at this; simp only at this ⊢; rw [hstep]; exact this

theorem run_findKeyP {P : Program} {kt : TypeId} (hk : PKey P kt) {w : World} (p : Int × Int) {ents : List MapEntry} (h : ents = [] ∨ ∃ q, ∃ f r, ents = f :: r ∧ f.key = pkV q) : (Instr.findKey kt (pkV p) ents).run P w = (Instr.findAsking kt (pkV p) ents 0).run P w := by
  obtain ⟨n, e, hu⟩ := hk.und
  rcases h with rfl | ⟨q, f, r, rfl, hf⟩
  · simp [Instr.findKey, run_underlying hu, Instr.findNow, Instr.findAsking]
  · simp [Instr.findKey, run_underlying hu, Instr.findNow, Instr.sameNow, pkV]

theorem entsP_head {S : Nat → Prop} {w : World} {φ : List Phy} {l : List ((Int × Int) × AV)} {ents : List MapEntry} (h : EntsOk S w φ (pmap l) ents) : ents = [] ∨ ∃ q, ∃ f r, ents = f :: r ∧ f.key = pkV q := by
  cases ents with
  | nil => exact .inl rfl
  | cons f r =>
    cases l with
    | nil => have := h.1; simp [pmap] at this
    | cons e l =>
      have := h.1
      simp only [pmap, List.map_cons, List.cons.injEq] at this
      exact .inr ⟨e.1, f, r, rfl, this.1.symm⟩

section
variable {g : G} {pf : Nat → Cls} {ops : Array Oper} {Fin : Exit → Act → World → Prop}

theorem pk_rv {S : Nat → Prop} {w : World} {φ : List Phy} {a b : Int} {v : Value} (h : RV S w φ (.agg [iV a, iV b]) v) : v = pkV (a, b) := by
  simp only [RV] at h
  obtain ⟨cs, rfl, h⟩ := h
  match cs, h with
  | [x, y], h =>
    simp only [RVs, iV, RV, and_true] at h
    obtain ⟨h1, h2⟩ := h
    cases h1; cases h2
    rfl
  | [], h => simp [RVs] at h
  | [_], h => simp [RVs] at h
  | _ :: _ :: _ :: _, h => simp [RVs] at h

theorem R_lookupP (hg : GOk g) {dst : Option Nat} {T : Nat} {x y : Operand} {ok : Bool} {ty : Nat} {pos : String} {after : Array Edge} {gd : Option (Nat × Bool)} {rest : List Oper} {k : List It} {E : Env} {objs : List Ob}
    {i q by_ kt et : Nat} {z : List Value} {a b : Int} {zv : Value} (l : List ((Int × Int) × AV)) (hk : PKey g.P kt)
    (hgd : guardA ops.toList E gd = some true) (hd : dstOk ⟨g.ty, g.N⟩ dst = true) (hx : ev E x = .mp i) (ho : nth objs i = some (.map (pmap l))) (hy : ev E y = .agg [iV a, iV b]) (hT : g.ty T = some ⟨q, by_, z, .map kt et⟩)
    (hz : (g.P.info? et).bind (·.zero) = some zv) {v : AV} (hv : lookI' ok (cstV zv) (getP l (a, b)) = v)
    (hr : R g pf Fin (.dr ops rest :: k) (putO E dst v) objs) : R g pf Fin (.dr ops (⟨dst, .lookup T x y ok, ty, pos, after, gd⟩ :: rest) :: k) E objs := by
  subst hv
  refine R_op (LocOp.lookingM hg 1 hgd hd (by simp) fun φ a' w objs₁ hgr hρ hs => ?_) hr
  simp only [Op.operands] at hρ
  have hxv := hρ x (by simp)
  rw [hx] at hxv
  have hyv := hρ y (by simp)
  rw [hy] at hyv
  have hvy := pk_rv hyv
  simp only [RV] at hxv
  obtain ⟨b', hb, hxv⟩ := hxv
  have ho : nth objs₁ i = some (.map (pmap l)) := by
    rw [nth_eq] at ho ⊢
    exact Gr.same hgr ho (by rw [← hs.len]; exact (List.getElem?_eq_some_iff.1 hb).1) (by simp [Ob.lvl])
  have hko := obj_at hs hb ho
  simp only [ObOk] at hko
  obtain ⟨ents, clk, hheap, hents⟩ := hko
  have hT' : g.P.underlying T = some (.map kt et) := by have := (hg.ty _ _ hT).sh; simpa only [ShFact] using this
  have hzero : (zeroValue et).run g.P w = .ok zv w := by
    obtain ⟨inf, h1, h2⟩ := Option.bind_eq_some_iff.1 hz
    simp [zeroValue, typeInfo, h1, h2]
  have hzR : RV (SS g.S0 φ) w φ (cstV zv) zv := rv_restr (l := []) (E := []) (E₁ := []) (a := { tmps := #[], defers := [] }) (by simp) (fun t => by simp [lk, RV]) (.const zv)
  have hfind := findP_ok hk (a, b) (i := 0) hents
  have hfk := run_findKeyP hk (w := w) (a, b) (entsP_head hents)
  cases hg' : getP l (a, b) with
  | none =>
    rw [hg'] at hfind
    simp only at hfind
    refine out_val hs (vv := if ok then .tuple #[zv, .bool false] else zv) ?_ ?_
    · simp [execOp, Instr.lookup, run_underlying hT', hxv, run_getObj_map hheap, hvy, hk.ck, hfk, hfind, hzero]
    · simp only [lookI']
      cases ok
      · simpa using hzR
      · simp only [if_true, RV]
        exact ⟨[zv, .bool false], rfl, by simp only [RVs, RV, bV, and_true]; exact ⟨hzR, .v _⟩⟩
  | some x =>
    rw [hg'] at hfind
    simp only at hfind
    obtain ⟨j, vv, h1, h2⟩ := hfind
    refine out_val hs (vv := if ok then .tuple #[vv, .bool true] else vv) ?_ ?_
    · simp [execOp, Instr.lookup, run_underlying hT', hxv, run_getObj_map hheap, hvy, hk.ck, hfk, h1]
    · simp only [lookI']
      cases ok
      · simpa using h2
      · simp only [if_true, RV]
        exact ⟨[vv, .bool true], rfl, by simp only [RVs, RV, bV, and_true]; exact ⟨h2, .v _⟩⟩

/-- A new entry. -/
theorem R_mapAddP (hg : GOk g) {dst : Option Nat} {T : Nat} {x y v : Operand} {ty : Nat} {pos : String} {after : Array Edge} {gd : Option (Nat × Bool)} {rest : List Oper} {k : List It} {E : Env} {objs : List Ob}
    {i q by_ kt et : Nat} {z : List Value} {a b : Int} (l : List ((Int × Int) × AV)) (hk : PKey g.P kt)
    (hgd : guardA ops.toList E gd = some true) (hd : dstOk ⟨g.ty, g.N⟩ dst = true) (hx : ev E x = .mp i) (ho : nth objs i = some (.map (pmap l))) (hy : ev E y = .agg [iV a, iV b]) (hT : g.ty T = some ⟨q, by_, z, .map kt et⟩)
    (hf : getP l (a, b) = none)
    (hr : R g pf Fin (.dr ops rest :: k) (putO E dst .any) (setN objs i (.map (pmap (l ++ [((a, b), ev E v)]))))) : R g pf Fin (.dr ops (⟨dst, .mapUpdate T x y v, ty, pos, after, gd⟩ :: rest) :: k) E objs := by
  refine R_op (LocOp.turning hg (grow_map ho) hgd hd (by simp) fun φ a' w hρ hs => ?_) hr
  simp only [Op.operands] at hρ
  have hxv := hρ x (by simp)
  rw [hx] at hxv
  have hyv := hρ y (by simp)
  rw [hy] at hyv
  have hvy := pk_rv hyv
  have hvv := hρ v (by simp)
  simp only [RV] at hxv
  obtain ⟨b', hb, hxv⟩ := hxv
  have hko := obj_at hs hb ho
  simp only [ObOk] at hko
  obtain ⟨ents, clk, hheap, hents⟩ := hko
  have hT' : g.P.underlying T = some (.map kt et) := by have := (hg.ty _ _ hT).sh; simpa only [ShFact] using this
  have hfind := findP_ok hk (a, b) (i := 0) hents
  have hfk := run_findKeyP hk (w := w) (a, b) (entsP_head hents)
  rw [hf] at hfind
  simp only at hfind
  have hset := heap_set (o' := .map (ents.push { key := pkV (a, b), val := a'.eval v, born := clk }) (clk + 1)) hheap
  rw [setN_eq]
  refine ⟨.skip, undef, { w with heap := w.heap.setIfInBounds b' (.map (ents.push { key := pkV (a, b), val := a'.eval v, born := clk }) (clk + 1)) }, φ.set i (.blk b'), ?_, .inr ⟨rfl, rfl⟩, by simp [RV], ?_⟩
  · simp [execOp, Instr.mapUpdate, run_underlying hT', hxv, run_getObj_map hheap, hvy, hk.ck, hfk, hfind, run_setObj_map _ hheap]
  · refine Stp.swap hs hb (.inl rfl) (by simp) (fun c _ hc => hset.2 c fun e => hc (by rw [e]; rfl)) (fun b' hb => .inl hb) rfl rfl rfl fun hkeep hle => ?_
    simp only [ObOk]
    refine ⟨_, _, hset.1, ?_, ?_⟩
    · have := hents.1
      simp only [pmap, List.map_append, List.map_map, List.map_cons, List.map_nil, Array.toList_push] at this ⊢
      rw [this]
    · have := (hents.2.mono hkeep hle).append (l' := [ev E v]) (vs' := [a'.eval v]) (by simp only [RVs, and_true]; exact hvv.mono hkeep hle)
      simpa [pmap] using this
/-- A new entry, of which less is kept in mind. -/
theorem R_mapAddW (hg : GOk g) {dst : Option Nat} {T : Nat} {x y v : Operand} {ty : Nat} {pos : String} {after : Array Edge} {gd : Option (Nat × Bool)} {rest : List Oper} {k : List It} {E : Env} {objs : List Ob}
    {i q by_ q' by' kt et : Nat} {z z' : List Value} {n : Int} (v' : AV) (l l' : List (Int × AV))
    (hgd : guardA ops.toList E gd = some true) (hd : dstOk ⟨g.ty, g.N⟩ dst = true) (hx : ev E x = .mp i) (ho : nth objs i = some (.map (imap l))) (hy : ev E y = .d (.v (.int .i64 n))) (hT : g.ty T = some ⟨q, by_, z, .map kt et⟩)
    (hkt : g.ty kt = some ⟨q', by', z', .int .i64⟩) (hf : getI l n = none) (hv : Ent (ev E v) v') (hl : l ++ [(n, v')] = l')
    (hr : R g pf Fin (.dr ops rest :: k) (putO E dst .any) (setN objs i (.map (imap l')))) : R g pf Fin (.dr ops (⟨dst, .mapUpdate T x y v, ty, pos, after, gd⟩ :: rest) :: k) E objs := by
  subst hl
  have hu := (hg.ty _ _ hkt).sh
  simp only [ShFact] at hu
  obtain ⟨r, h1, h2⟩ := findA_getI (k' := .i64) (n := n) (l := l) (i := 0)
  have : r = none := by rw [hf] at h2; cases r with
    | none => rfl
    | some _ => simp at h2
  subst this
  refine R_op (LocOp.turning hg (grow_map ho) hgd hd (by simp) fun φ a w hρ hs => ?_) hr
  simp only [Op.operands] at hρ
  have hxv := hρ x (by simp)
  rw [hx] at hxv
  have hyv := hρ y (by simp)
  rw [hy] at hyv
  have hvv := hv _ _ _ _ (hρ v (by simp))
  simp only [RV] at hxv hyv
  obtain ⟨b, hb, hxv⟩ := hxv
  generalize hvy : a.eval y = vy at hyv
  cases hyv
  have hk := obj_at hs hb ho
  simp only [ObOk] at hk
  obtain ⟨ents, clk, hheap, hents⟩ := hk
  have hT' : g.P.underlying T = some (.map kt et) := by have := (hg.ty _ _ hT).sh; simpa only [ShFact] using this
  have hfind := findA_ok hents h1
  simp only at hfind
  have hset := heap_set (o' := .map (ents.push { key := .int .i64 n, val := a.eval v, born := clk }) (clk + 1)) hheap
  rw [setN_eq]
  refine ⟨.skip, undef, { w with heap := w.heap.setIfInBounds b (.map (ents.push { key := .int .i64 n, val := a.eval v, born := clk }) (clk + 1)) }, φ.set i (.blk b), ?_, .inr ⟨rfl, rfl⟩, by simp [RV], ?_⟩
  · simp [execOp, Instr.mapUpdate, run_underlying hT', hxv, run_getObj_map hheap, hvy, run_checkKey hu (show IsKey (.int .i64) (.int .i64 n) by simp [IsKey]), run_findKey hu hfind, run_setObj_map _ hheap]
  · refine Stp.swap hs hb (.inl rfl) (by simp) (fun c _ hc => hset.2 c fun e => hc (by rw [e]; rfl)) (fun b' hb => .inl hb) rfl rfl rfl fun hkeep hle => ?_
    simp only [ObOk]
    refine ⟨_, _, hset.1, ?_, ?_⟩
    · have := hents.1
      simp only [imap, List.map_append, List.map_map, List.map_cons, List.map_nil, Array.toList_push] at this ⊢
      rw [this]
    · have := (hents.2.mono hkeep hle).append (l' := [v']) (vs' := [a.eval v]) (by simp only [RVs, and_true]; exact hvv.mono hkeep hle)
      simpa [imap] using this

open Classical in
/-- A slice of one element written out, as data. -/
theorem R_buildF (hg : GOk g) {dst : Option Nat} {T : Nat} {x : Operand} {ty : Nat} {pos : String} {after : Array Edge} {gd : Option (Nat × Bool)} {rest : List Oper} {k : List It} {E : Env} {objs : List Ob} (v : AV)
    (hgd : guardA ops.toList E gd = some true) (hd : dstOk ⟨g.ty, g.N⟩ dst = true) (h : stepS g.ty (fun y => if y = x then ev E x else .any) (.buildSlice T 1 #[(0, x)]) = some v)
    (hr : R g pf Fin (.dr ops rest :: k) (putO E dst v) objs) : R g pf Fin (.dr ops (⟨dst, .buildSlice T 1 #[(0, x)], ty, pos, after, gd⟩ :: rest) :: k) E objs := by
  refine R_op (LocOp.up (LocOp.quiet hg hgd hd (by simp) fun φ o₁ a w hρ hs => ?_)) hr
  simp only [Op.operands] at hρ
  have hxv := hρ x (by simp)
  refine stepOp_ok (ρA := fun y => if y = x then ev E x else .any) hg.ty hs (fun y => ?_) ?_
  · split
    · rename_i h; rw [h]; exact hxv
    · simp [RV]
  · simp only [stepOp, h]

theorem buildS_one {ty : Nat → Option Ty} {T e sz by_ : Nat} {z : List Value} {τ : Ty} {x : Operand} {v : AV} {rows : List (List D)} (hT : ty T = some ⟨sz, by_, z, .slice e⟩) (he : ty e = some τ) (hr : rowsOf [(0, v)] 0 τ.size = some rows) (hl : rows.length = 1) (hb : τ.size ≤ 1000) : (open Classical in stepS ty (fun y => if y = x then v else .any) (.buildSlice T 1 #[(0, x)])) = some (.fs rows) := by
  have h1 : Nat.beq (len rows) 1 = true := by rw [len_eq, hl]; rfl
  have h2 : Nat.ble τ.size 100000 = true := Nat.ble_eq_true_of_le (by omega)
  have h3 : Nat.ble 1 100000 = true := rfl
  simp [stepS, hT, he, hr, h1, h2, h3]

theorem R_mapAddPO (hg : GOk g) {dst : Option Nat} {T : Nat} {x y v : Operand} {ty : Nat} {pos : String} {after : Array Edge} {gd : Option (Nat × Bool)} {rest : List Oper} {k : List It} {E : Env} {objs : List Ob}
    {i q by_ kt et : Nat} {z : List Value} {a b : Int} {v' : AV} (l l' : List ((Int × Int) × AV)) (hk : PKey g.P kt)
    (hgd : guardA ops.toList E gd = some true) (hd : dstOk ⟨g.ty, g.N⟩ dst = true) (hx : ev E x = .mp i) (ho : nth objs i = some (.map (pmap l))) (hy : ev E y = .agg [iV a, iV b]) (hT : g.ty T = some ⟨q, by_, z, .map kt et⟩)
    (hf : getP l (a, b) = none) (hv : ev E v = v') (hl : l ++ [((a, b), v')] = l')
    (hr : R g pf Fin (.dr ops rest :: k) (putO E dst .any) (setN objs i (.map (pmap l')))) : R g pf Fin (.dr ops (⟨dst, .mapUpdate T x y v, ty, pos, after, gd⟩ :: rest) :: k) E objs := by
  subst hl; subst hv
  exact R_mapAddP hg l hk hgd hd hx ho hy hT hf hr
end
end PSL
