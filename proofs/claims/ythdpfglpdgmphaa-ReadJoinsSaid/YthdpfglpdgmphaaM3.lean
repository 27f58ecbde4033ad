import Derived.Test.YthdpfglpdgmphaaM2
import Derived.Test.YthdpfglpdgmphaaSTy
namespace Go.Proofs.Ythdpfglpdgmphaa
open Go PSL Go.Proofs
def pfSy : Nat → Cls := fun f => bif Nat.beq f 4000000010 then .turn 90 else .eff

set_option maxRecDepth 100000 in
theorem boolLoad_ok (Y : YP) (S : Bs) (L : List Tk) (st : RSt) (deep dn lk : Int) (mk : Bool) : SCtr Try.prog Y 107 [.lo 0 7] (robj S L st deep dn lk mk) (bV (dn != 0)) (robj S L st deep dn lk mk) := by
  refine SCtr.of_R (pf := fun _ => .eff) tyOk mixed Try.func107 rfl (by kernel_rfl) (by kernel_rfl) (by simp [Try.ntmps107]) (by simp [robj]) fun w S φ hg => ?_
  refine R_run hg.ok 1000 rfl rfl ?_
  refine R_fieldZ hg.ok Try.underlying61 rfl (by kernel_rfl) rfl rfl rfl ?_
  refine R_run hg.ok 1000 rfl rfl ?_
  refine R_extL hg.ok atLoad rfl rfl rfl rfl rfl rfl ?_
  refine R_run hg.ok 1000 rfl rfl ?_
  exact R_retS hg 2 5 (Nat.le_refl _) rfl rfl (robj_keep _ L st deep dn lk mk 2 _ (Nat.le_refl _))

set_option maxRecDepth 100000 in
theorem boolStore_ok (Y : YP) (S : Bs) (L : List Tk) (st : RSt) (deep dn lk : Int) (mk : Bool) : DCtr Try.prog Y 112 [.lo 0 7, bV true] (robj S L st deep dn lk mk) (.tup []) (robj S L st deep 1 lk mk) := by
  have hb : PCtr Try.prog 116 [bV true] (.d (.v (.int .u32 1))) := by
    refine PCtr.of_R (pf := fun _ => .still) tyOk mixed Try.func116 rfl (by kernel_rfl) (by kernel_rfl) (by simp [Try.ntmps116]) fun w S hg => ?_
    refine R_run hg.ok 1000 rfl rfl ?_
    refine R_if rfl rfl (fun _ => ?_) (fun h => absurd h (by simp)) <;> refine R_run hg.ok 1000 rfl rfl ?_
    refine R_ret hg 5 rfl rfl ?_
    rfl
  refine DCtr.of_R (pf := fun _ => .eff) tyOk mixed Try.func112 rfl (by kernel_rfl) (by kernel_rfl) (by simp [Try.ntmps112]) (by simp [robj]) fun w S φ hg => ?_
  refine R_run hg.ok 1000 rfl rfl ?_
  refine R_fieldZ hg.ok Try.underlying61 rfl (by kernel_rfl) rfl rfl rfl ?_
  refine R_run hg.ok 1000 rfl rfl ?_
  refine R_call hg.ok (hb) rfl rfl rfl rfl rfl rfl ?_
  refine R_run hg.ok 1000 rfl rfl ?_
  refine R_extW hg.ok (ys := #[.tmp 8]) [.int .u32 1] (fun a w h hz => atStore a _ 1 w h hz) rfl rfl rfl rfl rfl rfl rfl ?_
  refine R_run hg.ok 1000 rfl rfl ?_
  exact R_endD hg 2 5 (Nat.le_refl _) rfl rfl (robj_keep _ L st deep 1 lk mk 2 _ (Nat.le_refl _))

set_option maxRecDepth 100000 in
theorem imuLock_ok (Y : YP) (S : Bs) (L : List Tk) (st : RSt) (deep dn : Int) (mk : Bool) : SCtr Try.prog Y 113 [.lo 0 8] (robj S L st deep dn 0 mk) (.tup []) (robj S L st deep dn 1 mk) := by
  refine SCtr.of_R (pf := pfSy) tyOk mixed Try.func113 rfl (by kernel_rfl) (by kernel_rfl) (by simp [Try.ntmps113]) (by simp [robj]) fun w S φ hg => ?_
  refine R_run hg.ok 1000 rfl rfl ?_
  refine R_ext0 hg.ok raceOff rfl rfl rfl ?_
  refine R_run hg.ok 1000 rfl rfl ?_
  refine R_extW hg.ok (ys := #[.const (.int .i32 0), .const (.int .i32 1)]) [.int .i32 0, .int .i32 1] (fun a w h hz => atCas a 0 1 w h hz) rfl rfl rfl rfl rfl rfl rfl ?_
  refine R_run hg.ok 1000 rfl rfl ?_
  refine R_if rfl rfl (fun _ => ?_) (fun h => absurd h (by simp)) <;> refine R_run hg.ok 1000 rfl rfl ?_
  refine R_ext0 hg.ok raceOn rfl rfl rfl ?_
  refine R_run hg.ok 1000 rfl rfl ?_
  refine R_convU hg.ok Try.underlying183 Try.underlying187 (by kernel_rfl) rfl rfl rfl rfl rfl rfl ?_
  refine R_run hg.ok 1000 rfl rfl ?_
  refine R_extM hg.ok raceAcq rfl rfl rfl rfl ?_
  refine R_run hg.ok 1000 rfl rfl ?_
  exact R_retS hg 2 5 (Nat.le_refl _) rfl rfl (robj_keep _ L st deep dn 1 mk 2 _ (Nat.le_refl _))

set_option maxRecDepth 100000 in
theorem muLock_ok (Y : YP) (S : Bs) (L : List Tk) (st : RSt) (deep dn : Int) (mk : Bool) : SCtr Try.prog Y 110 [.lo 0 8] (robj S L st deep dn 0 mk) (.tup []) (robj S L st deep dn 1 mk) := by
  refine SCtr.of_R (pf := fun _ => .eff) tyOk mixed Try.func110 rfl (by kernel_rfl) (by kernel_rfl) (by simp [Try.ntmps110]) (by simp [robj]) fun w S φ hg => ?_
  refine R_run hg.ok 1000 rfl rfl ?_
  refine R_fieldZ hg.ok Try.underlying65 rfl (by kernel_rfl) rfl rfl rfl ?_
  refine R_run hg.ok 1000 rfl rfl ?_
  refine R_callSO hg.ok hg.gup hg.wide hg.Y [0, 1] (robj _ L st deep dn 1 mk) (imuLock_ok Y _ L st deep dn mk) (fun _ => rfl) rfl rfl rfl rfl rfl (by rw [robj_ren]; rfl) rfl (by rw [robj_ren]; rfl) ?_
  refine R_run hg.ok 1000 rfl rfl ?_
  exact R_endS hg 2 5 (Nat.le_refl _) rfl rfl (robj_keep _ L st deep dn 1 mk 2 _ (Nat.le_refl _))

set_option maxRecDepth 100000 in
theorem imuUnlock_ok (Y : YP) (S : Bs) (L : List Tk) (st : RSt) (deep dn : Int) (mk : Bool) : SCtr Try.prog Y 114 [.lo 0 8] (robj S L st deep dn 1 mk) (.tup []) (robj S L st deep dn 0 mk) := by
  refine SCtr.of_R (pf := pfSy) tyOk mixed Try.func114 rfl (by kernel_rfl) (by kernel_rfl) (by simp [Try.ntmps114]) (by simp [robj]) fun w S φ hg => ?_
  refine R_run hg.ok 1000 rfl rfl ?_
  refine R_convU hg.ok Try.underlying183 Try.underlying187 (by kernel_rfl) rfl rfl rfl rfl rfl rfl ?_
  refine R_run hg.ok 1000 rfl rfl ?_
  refine R_extM hg.ok raceRel rfl rfl rfl rfl ?_
  refine R_run hg.ok 1000 rfl rfl ?_
  refine R_ext0 hg.ok raceOff rfl rfl rfl ?_
  refine R_run hg.ok 1000 rfl rfl ?_
  refine R_extW hg.ok (ys := #[.const (.int .i32 (-1))]) [.int .i32 (-1)] (fun a w h hz => atAdd a w h hz) rfl rfl rfl rfl rfl rfl rfl ?_
  refine R_run hg.ok 1000 rfl rfl ?_
  refine R_if rfl rfl (fun h => absurd h (by simp)) (fun _ => ?_) <;> refine R_run hg.ok 1000 rfl rfl ?_
  refine R_ext0 hg.ok raceOn rfl rfl rfl ?_
  refine R_run hg.ok 1000 rfl rfl ?_
  exact R_endS hg 2 5 (Nat.le_refl _) rfl rfl (robj_keep _ L st deep dn 0 mk 2 _ (Nat.le_refl _))

set_option maxRecDepth 100000 in
theorem muUnlock_ok (Y : YP) (S : Bs) (L : List Tk) (st : RSt) (deep dn : Int) (mk : Bool) : DCtr Try.prog Y 111 [.lo 0 8] (robj S L st deep dn 1 mk) (.tup []) (robj S L st deep dn 0 mk) := by
  refine DCtr.of_R (pf := fun _ => .eff) tyOk mixed Try.func111 rfl (by kernel_rfl) (by kernel_rfl) (by simp [Try.ntmps111]) (by simp [robj]) fun w S φ hg => ?_
  refine R_run hg.ok 1000 rfl rfl ?_
  refine R_fieldZ hg.ok Try.underlying65 rfl (by kernel_rfl) rfl rfl rfl ?_
  refine R_run hg.ok 1000 rfl rfl ?_
  refine R_callSO hg.ok hg.gup hg.wide hg.Y [0, 1] (robj _ L st deep dn 0 mk) (imuUnlock_ok Y _ L st deep dn mk) (fun _ => rfl) rfl rfl rfl rfl rfl (by rw [robj_ren]; rfl) rfl (by rw [robj_ren]; rfl) ?_
  refine R_run hg.ok 1000 rfl rfl ?_
  exact R_endD hg 2 5 (Nat.le_refl _) rfl rfl (robj_keep _ L st deep dn 0 mk 2 _ (Nat.le_refl _))
end Go.Proofs.Ythdpfglpdgmphaa

namespace PSL
open Go Go.RowKit Go.MapKept

def getS : List (ByteArray × AV) → ByteArray → Option AV
  | [], _ => none
  | p :: r, n => if p.1 = n then some p.2 else getS r n
def smap (l : List (ByteArray × AV)) : List (Value × AV) := l.map fun p => (.string p.1, p.2)

theorem findA_getS {n : ByteArray} : ∀ {l : List (ByteArray × AV)} {i : Nat}, ∃ r, findA .string (.string n) (smap l) i = some r ∧ r.map (·.2) = getS l n
  | [], i => ⟨none, rfl, rfl⟩
  | p :: l, i => by
    obtain ⟨r0, h1, h2⟩ := sameNow_of_keys (d := .string) (a := .string n) (b := .string p.1) trivial trivial
    simp only [getS]
    by_cases h : p.1 = n
    · have h3 : r0 = true := h2.2 (by rw [h])
      refine ⟨some (i, p.2), ?_, by simp [h]⟩
      simp only [smap, List.map_cons, findA, h1, h3]
    · have h3 : r0 = false := by
        cases r0 with
        | false => rfl
        | true => have := h2.1 rfl; simp at this; exact absurd this.symm h
      obtain ⟨r, h4, h5⟩ := findA_getS (n := n) (l := l) (i := i + 1)
      refine ⟨r, ?_, by rw [if_neg h]; exact h5⟩
      simp only [smap, List.map_cons, findA, h1, h3]
      exact h4

theorem R_mapAddS {g : G} {pf : Nat → Cls} {ops : Array Oper} {Fin : Exit → Act → World → Prop} (hg : GOk g) {dst : Option Nat} {T : Nat} {x y v : Operand} {ty : Nat} {pos : String} {after : Array Edge} {gd : Option (Nat × Bool)} {rest : List Oper} {k : List It} {E : Env} {objs : List Ob}
    {i q by_ q' by' kt et : Nat} {z z' : List Value} {n : ByteArray} {av : AV} (l l' : List (ByteArray × AV))
    (hgd : guardA ops.toList E gd = some true) (hd : dstOk ⟨g.ty, g.N⟩ dst = true) (hx : ev E x = .mp i) (ho : nth objs i = some (.map (smap l))) (hy : ev E y = .d (.v (.string n))) (hT : g.ty T = some ⟨q, by_, z, .map kt et⟩)
    (hkt : g.ty kt = some ⟨q', by', z', .str⟩) (hf : getS l n = none) (hav : ev E v = av) (hl : l ++ [(n, av)] = l')
    (hr : R g pf Fin (.dr ops rest :: k) (putO E dst .any) (setN objs i (.map (smap l')))) : R g pf Fin (.dr ops (⟨dst, .mapUpdate T x y v, ty, pos, after, gd⟩ :: rest) :: k) E objs := by
  subst hl; subst hav
  have hu := (hg.ty _ _ hkt).sh
  simp only [ShFact] at hu
  obtain ⟨r, h1, h2⟩ := findA_getS (n := n) (l := l) (i := 0)
  have : r = none := by rw [hf] at h2; cases r with
    | none => rfl
    | some _ => simp at h2
  subst this
  refine R_mapAdd hg hgd hd hx ho hy hT hu (by simp [IsKey]) h1 ?_
  have e : smap l ++ [(Value.string n, ev E v)] = smap (l ++ [(n, ev E v)]) := by simp [smap]
  rw [e]; exact hr

/-- A new entry of a map that is written out. -/
theorem R_insert {g : G} {pf : Nat → Cls} {ops : Array Oper} {Fin : Exit → Act → World → Prop} (hg : GOk g) {dst : Option Nat} {T : Nat} {x y v : Operand} {ty : Nat} {pos : String} {after : Array Edge} {gd : Option (Nat × Bool)} {rest : List Oper} {k : List It} {E : Env} {objs : List Ob}
    {i q by_ kt et : Nat} {z : List Value} {es : List (Value × AV)} {kv : Value} {kd : TypeDesc}
    (hgd : guardA ops.toList E gd = some true) (hd : dstOk ⟨g.ty, g.N⟩ dst = true) (hx : ev E x = .mp i) (ho : nth objs i = some (.map es)) (hy : ev E y = .d (.v kv)) (hT : g.ty T = some ⟨q, by_, z, .map kt et⟩)
    (hkt : g.P.underlying kt = some kd) (hkey : IsKey kd kv) (hf : findA kd kv es 0 = some none)
    (hr : R g pf Fin (.dr ops rest :: k) (putO E dst .any) (setN objs i (.map (es ++ [(kv, ev E v)])))) : R g pf Fin (.dr ops (⟨dst, .insert T x y v, ty, pos, after, gd⟩ :: rest) :: k) E objs := by
  refine R_op (LocOp.turning hg (grow_map ho) hgd hd (by simp) fun φ a w hρ hs => ?_) hr
  simp only [Op.operands] at hρ
  have hxv := hρ x (by simp)
  rw [hx] at hxv
  have hyv := hρ y (by simp)
  rw [hy] at hyv
  have hvv := hρ v (by simp)
  simp only [RV] at hxv hyv
  obtain ⟨b, hb, hxv⟩ := hxv
  generalize hvy : a.eval y = vy at hyv
  cases hyv
  have hk := obj_at hs hb ho
  simp only [ObOk] at hk
  obtain ⟨ents, clk, hheap, hents⟩ := hk
  have hT' : g.P.underlying T = some (.map kt et) := by have := (hg.ty _ _ hT).sh; simpa only [ShFact] using this
  have hfind := findA_ok hents hf
  simp only at hfind
  have hset := heap_set (o' := .map (ents.push { key := kv, val := a.eval v, born := clk }) (clk + 1)) hheap
  rw [setN_eq]
  refine ⟨.skip, undef, { w with heap := w.heap.setIfInBounds b (.map (ents.push { key := kv, val := a.eval v, born := clk }) (clk + 1)) }, φ.set i (.blk b), ?_, .inr ⟨rfl, rfl⟩, by simp [RV], ?_⟩
  · simp [execOp, Instr.mapUpdate, run_underlying hT', hxv, run_getObj_map hheap, hvy, run_checkKey hkt hkey, run_findKey hkt hfind, run_setObj_map _ hheap]
  · refine Stp.swap hs hb (.inl rfl) (by simp) (fun c _ hc => hset.2 c fun e => hc (by rw [e]; rfl)) (fun b' hb => .inl hb) rfl rfl rfl fun hkeep hle => ?_
    simp only [ObOk]
    refine ⟨_, _, hset.1, ?_, ?_⟩
    · simp [hents.1]
    · have := (hents.2.mono hkeep hle).append (l' := [ev E v]) (vs' := [a.eval v]) (by simp only [RVs, and_true]; exact hvv.mono hkeep hle)
      simpa using this

theorem R_insertS {g : G} {pf : Nat → Cls} {ops : Array Oper} {Fin : Exit → Act → World → Prop} (hg : GOk g) {dst : Option Nat} {T : Nat} {x y v : Operand} {ty : Nat} {pos : String} {after : Array Edge} {gd : Option (Nat × Bool)} {rest : List Oper} {k : List It} {E : Env} {objs : List Ob}
    {i q by_ q' by' kt et : Nat} {z z' : List Value} {n : ByteArray} {av : AV} (l l' : List (ByteArray × AV))
    (hgd : guardA ops.toList E gd = some true) (hd : dstOk ⟨g.ty, g.N⟩ dst = true) (hx : ev E x = .mp i) (ho : nth objs i = some (.map (smap l))) (hy : ev E y = .d (.v (.string n))) (hT : g.ty T = some ⟨q, by_, z, .map kt et⟩)
    (hkt : g.ty kt = some ⟨q', by', z', .str⟩) (hf : getS l n = none) (hav : ev E v = av) (hl : l ++ [(n, av)] = l')
    (hr : R g pf Fin (.dr ops rest :: k) (putO E dst .any) (setN objs i (.map (smap l')))) : R g pf Fin (.dr ops (⟨dst, .insert T x y v, ty, pos, after, gd⟩ :: rest) :: k) E objs := by
  subst hl; subst hav
  have hu := (hg.ty _ _ hkt).sh
  simp only [ShFact] at hu
  obtain ⟨r, h1, h2⟩ := findA_getS (n := n) (l := l) (i := 0)
  have : r = none := by rw [hf] at h2; cases r with
    | none => rfl
    | some _ => simp at h2
  subst this
  refine R_insert hg hgd hd hx ho hy hT hu (by simp [IsKey]) h1 ?_
  have e : smap l ++ [(Value.string n, ev E v)] = smap (l ++ [(n, ev E v)]) := by simp [smap]
  rw [e]; exact hr
def inR (x : Int) : Bool := decide (-9223372036854775808 ≤ x) && decide (x ≤ 9223372036854775807)
def chk (x : Int) : Int × Bool := if inR x then (x, true) else (0, false)
namespace Tm
theorem Fit.sub {t x : Tm} (h : t.Fit) (hx : x ∈ t.l) : x.Fit := fun d e he => h (d - 1) e (by rw [els_eq]; exact List.mem_cons_of_mem _ (els_memL hx (by rw [Int.sub_add_cancel]; exact he)))
end Tm
end PSL
namespace PSL
open Go
end PSL
namespace PSL
open Go Go.RowKit
end PSL
namespace PSL
open Go Go.RowKit
end PSL

namespace Go.Proofs.Ythdpfglpdgmphaa
open Go PSL Go.Proofs

theorem opV_ent (a b c : Int) : Ent (.agg [iV a, iV b, iV c]) (.d (.v (opV (a, b, c)))) := fun S w φ v h => by
  simp only [RV, RVs] at h ⊢
  obtain ⟨cs, rfl, h⟩ := h
  match cs, h with
  | [x, y, z], h =>
    simp only [RVs, iV] at h
    rw [rv_const h.1, rv_const h.2.1, rv_const h.2.2.1]
    exact .v _
  | [], h => simp [RVs] at h
  | [_], h => simp [RVs] at h
  | [_, _], h => simp [RVs] at h
  | _ :: _ :: _ :: _ :: _, h => simp [RVs] at h
def tS (l : List (Bs × Int × Int × Int)) : List (ByteArray × AV) := l.map fun p => (Tx p.1, .d (.v (opV p.2)))
def tab0 : List (Bs × Int × Int × Int) := opTab.take 4
def tab1 (k : Nat) : List (Bs × Int × Int × Int) := tab0 ++ (op700.take k).map fun s => (s, 700, 699, 699)
def tab2 (k : Nat) : List (Bs × Int × Int × Int) := tab1 15 ++ (op500.take k).map fun s => (s, 500, 500, 499)
def tab3 (k : Nat) : List (Bs × Int × Int × Int) := tab2 2 ++ (op400.take k).map fun s => (s, 400, 400, 399)

theorem tS_none (l : List (Bs × Int × Int × Int)) (s : Bs) (h : (l.map (·.1)).contains s = false) : getS (tS l) (Tx s) = none := by
  induction l with
  | nil => rfl
  | cons p l ih =>
    simp only [List.map_cons, List.contains_cons, Bool.or_eq_false_iff] at h
    simp only [tS, List.map_cons, getS]
    rw [if_neg (fun e => by rw [Tx_inj e] at h; simp at h)]
    exact ih h.2
theorem tab_new : ((List.range 15).all fun k => !((tab1 k).map (·.1)).contains (op700.getD k [])) = true ∧ ((List.range 2).all fun k => !((tab2 k).map (·.1)).contains (op500.getD k [])) = true ∧ ((List.range 3).all fun k => !((tab3 k).map (·.1)).contains (op400.getD k [])) = true := by decide +kernel
theorem new1 {k : Nat} (h : k < 15) : getS (tS (tab1 k)) (Tx (op700.getD k [])) = none := tS_none _ _ (by have := List.all_eq_true.1 tab_new.1 k (by simpa using h); simpa using this)
theorem new2 {k : Nat} (h : k < 2) : getS (tS (tab2 k)) (Tx (op500.getD k [])) = none := tS_none _ _ (by have := List.all_eq_true.1 tab_new.2.1 k (by simpa using h); simpa using this)
theorem new3 {k : Nat} (h : k < 3) : getS (tS (tab3 k)) (Tx (op400.getD k [])) = none := tS_none _ _ (by have := List.all_eq_true.1 tab_new.2.2 k (by simpa using h); simpa using this)
theorem getD_some {l : List Bs} {k : Nat} (h : k < l.length) : l[k]? = some (l.getD k []) := by simp [List.getD, List.getElem?_eq_getElem h]

theorem tab1_snoc {k : Nat} (h : k < 15) : tS (tab1 k) ++ [(Tx (op700.getD k []), .d (.v (opV (700, 699, 699))))] = tS (tab1 (k + 1)) := by
  unfold tab1
  rw [List.take_add_one, getD_some (l := op700) h]
  simp [tS]

theorem tab2_snoc {k : Nat} (h : k < 2) : tS (tab2 k) ++ [(Tx (op500.getD k []), .d (.v (opV (500, 500, 499))))] = tS (tab2 (k + 1)) := by
  unfold tab2
  rw [List.take_add_one, getD_some (l := op500) h]
  simp [tS]

theorem tab3_snoc {k : Nat} (h : k < 3) : tS (tab3 k) ++ [(Tx (op400.getD k []), .d (.v (opV (400, 400, 399))))] = tS (tab3 (k + 1)) := by
  unfold tab3
  rw [List.take_add_one, getD_some (l := op400) h]
  simp [tS]

/-- A reader whose table is being laid. -/
def rlay (S : Bs) (L : List Tk) (st : RSt) (deep dn lk : Int) (l : List (Bs × Int × Int × Int)) : List Ob :=
  [.box [.d (.v (.string (Tx S))), .d (.sl (tkRows L)), iV st.at_, .ow 1 st.names.length, iV deep, iV st.bad, iV st.e, .d (.v (.int .u32 dn)), .d (.v (.int .i32 lk)), .d (.v (.int .u32 0)), .mp 3], .arr 1 st.names.length (strRows st.names), .box [.lo 0 7], .map (smap (tS l))]

set_option maxRecDepth 100000 in
theorem table_ok (Y : YP) (S0 : Bs) (L : List Tk) (st : RSt) (deep dn lk : Int) : SCtr Try.prog Y 99 [.lo 2 0] (robj S0 L st deep dn lk false ++ [.box [.lo 0 7]]) (.tup []) (robj S0 L st deep dn lk true ++ [.box [.lo 0 7]]) := by
  refine SCtr.of_R (pf := fun _ => .eff) tyOk mixed Try.func99 rfl (by kernel_rfl) (by kernel_rfl) (by simp [Try.ntmps99]) (by simp [robj]) fun w S φ hg => ?_
  refine R_run hg.ok 1000 rfl rfl ?_
  refine R_makeMap hg.ok rfl rfl ?_
  refine R_run hg.ok 1000 rfl rfl ?_
  refine R_see 9 rfl (opV_ent 1200 1199 1199) ?_
  refine R_insertS hg.ok [] (tS (opTab.take 1)) rfl rfl rfl rfl rfl rfl rfl rfl rfl rfl ?_
  refine R_run hg.ok 1000 rfl rfl ?_
  refine R_see 10 rfl (opV_ent 1100 1099 1100) ?_
  refine R_insertS hg.ok (tS (opTab.take 1)) (tS (opTab.take 2)) rfl rfl rfl rfl rfl rfl rfl (tS_none _ _ (by decide)) rfl rfl ?_
  refine R_run hg.ok 1000 rfl rfl ?_
  refine R_see 11 rfl (opV_ent 1050 1049 1050) ?_
  refine R_insertS hg.ok (tS (opTab.take 2)) (tS (opTab.take 3)) rfl rfl rfl rfl rfl rfl rfl (tS_none _ _ (by decide)) rfl rfl ?_
  refine R_run hg.ok 1000 rfl rfl ?_
  refine R_see 12 rfl (opV_ent 1000 999 1000) ?_
  refine R_insertS hg.ok (tS (opTab.take 3)) (tS tab0) rfl rfl rfl rfl rfl rfl rfl (tS_none _ _ (by decide)) rfl rfl ?_
  refine R_run hg.ok 1000 rfl rfl ?_
  refine R_cut2 (fun _ : Unit => ([(0, .lo 2 0)], rlay S0 L st deep dn lk (tab1 15))) (fun _ => True) rfl ?_ ?_
  · refine R_loop (fun k : Nat => ([(0, .lo 2 0), (16, .d (.sl (strRows op700))), (17, iV (15 : Nat)), (18, iV k)], rlay S0 L st deep dn lk (tab1 k))) (fun k => k ≤ 15) (fun k => 15 - k) 0 (Nat.zero_le _) ⟨.refl _, Ent.fs _, .refl _, .refl _, trivial⟩ rfl ?_
    intro k hk
    refine R_run hg.ok 1000 rfl rfl ?_
    refine R_if rfl rfl (fun h => ?_) (fun h => ?_) <;> refine R_run hg.ok 1000 rfl rfl ?_
    · have hk1 : k < 15 := lt_dec h rfl
      refine R_index hg.ok rfl rfl rfl rfl rfl rfl (Int.natCast_nonneg _) (strRows_get (getD_some (l := op700) hk1)) rfl ?_
      refine R_run hg.ok 1000 rfl rfl ?_
      refine R_see 27 rfl (opV_ent 700 699 699) ?_
      refine R_mapAddS hg.ok (tS (tab1 k)) (tS (tab1 (k + 1))) rfl rfl rfl rfl rfl rfl rfl (new1 hk1) rfl (tab1_snoc hk1) ?_
      refine R_run hg.ok 1000 rfl rfl ?_
      exact R_next (k + 1) hk1 (by omega) ⟨.refl _, .refl _, .refl _, Ent.wrap (by omega) (by omega) (by omega), trivial⟩ rfl
    · have hk1 : 15 ≤ k := ge_dec h rfl
      obtain rfl : k = 15 := by omega
      exact R_to () trivial ⟨.refl _, trivial⟩ rfl
  rintro _ _
  refine R_run hg.ok 1000 rfl rfl ?_
  refine R_cut2 (fun _ : Unit => ([(0, .lo 2 0)], rlay S0 L st deep dn lk (tab2 2))) (fun _ => True) rfl ?_ ?_
  · refine R_loop (fun k : Nat => ([(0, .lo 2 0), (29, .d (.sl (strRows op500))), (30, iV (2 : Nat)), (31, iV k)], rlay S0 L st deep dn lk (tab2 k))) (fun k => k ≤ 2) (fun k => 2 - k) 0 (Nat.zero_le _) ⟨.refl _, Ent.fs _, .refl _, .refl _, trivial⟩ rfl ?_
    intro k hk
    refine R_run hg.ok 1000 rfl rfl ?_
    refine R_if rfl rfl (fun h => ?_) (fun h => ?_) <;> refine R_run hg.ok 1000 rfl rfl ?_
    · have hk1 : k < 2 := lt_dec h rfl
      refine R_index hg.ok rfl rfl rfl rfl rfl rfl (Int.natCast_nonneg _) (strRows_get (getD_some (l := op500) hk1)) rfl ?_
      refine R_run hg.ok 1000 rfl rfl ?_
      refine R_see 40 rfl (opV_ent 500 500 499) ?_
      refine R_mapAddS hg.ok (tS (tab2 k)) (tS (tab2 (k + 1))) rfl rfl rfl rfl rfl rfl rfl (new2 hk1) rfl (tab2_snoc hk1) ?_
      refine R_run hg.ok 1000 rfl rfl ?_
      exact R_next (k + 1) hk1 (by omega) ⟨.refl _, .refl _, .refl _, Ent.wrap (by omega) (by omega) (by omega), trivial⟩ rfl
    · have hk1 : 2 ≤ k := ge_dec h rfl
      obtain rfl : k = 2 := by omega
      exact R_to () trivial ⟨.refl _, trivial⟩ rfl
  rintro _ _
  refine R_run hg.ok 1000 rfl rfl ?_
  refine R_cut2 (fun _ : Unit => ([(0, .lo 2 0)], rlay S0 L st deep dn lk (tab3 3))) (fun _ => True) rfl ?_ ?_
  · refine R_loop (fun k : Nat => ([(0, .lo 2 0), (42, .d (.sl (strRows op400))), (43, iV (3 : Nat)), (44, iV k)], rlay S0 L st deep dn lk (tab3 k))) (fun k => k ≤ 3) (fun k => 3 - k) 0 (Nat.zero_le _) ⟨.refl _, Ent.fs _, .refl _, .refl _, trivial⟩ rfl ?_
    intro k hk
    refine R_run hg.ok 1000 rfl rfl ?_
    refine R_if rfl rfl (fun h => ?_) (fun h => ?_) <;> refine R_run hg.ok 1000 rfl rfl ?_
    · have hk1 : k < 3 := lt_dec h rfl
      refine R_index hg.ok rfl rfl rfl rfl rfl rfl (Int.natCast_nonneg _) (strRows_get (getD_some (l := op400) hk1)) rfl ?_
      refine R_run hg.ok 1000 rfl rfl ?_
      refine R_see 53 rfl (opV_ent 400 400 399) ?_
      refine R_mapAddS hg.ok (tS (tab3 k)) (tS (tab3 (k + 1))) rfl rfl rfl rfl rfl rfl rfl (new3 hk1) rfl (tab3_snoc hk1) ?_
      refine R_run hg.ok 1000 rfl rfl ?_
      exact R_next (k + 1) hk1 (by omega) ⟨.refl _, .refl _, .refl _, Ent.wrap (by omega) (by omega) (by omega), trivial⟩ rfl
    · have hk1 : 3 ≤ k := ge_dec h rfl
      obtain rfl : k = 3 := by omega
      exact R_to () trivial ⟨.refl _, trivial⟩ rfl
  rintro _ _
  have hφ : φ.length = 3 := hg.hs0.len
  refine R_freezeM hg.gup 3 tabD (by show φ.length ≤ 3; omega) rfl rfl ?_
  refine R_dropO 3 (robj S0 L st deep dn lk true ++ [.box [.lo 0 7]]) (by show φ.length ≤ 3; omega) rfl rfl ?_
  exact R_endS hg 3 5 (Nat.le_refl _) rfl rfl (by
    rw [show (List.take 3 (robj S0 L st deep dn lk true ++ [Ob.box [.lo 0 7]])) = robj S0 L st deep dn lk true ++ [Ob.box [.lo 0 7]] from rfl, List.map_append, robj_keep S0 L st deep dn lk true 3 _ (by decide)]; rfl)
end Go.Proofs.Ythdpfglpdgmphaa

namespace Go.Proofs.Ythdpfglpdgmphaa
open Go PSL Go.Proofs

/-- A reader, and the box that its table's function has. -/
def rob2 (S : Bs) (L : List Tk) (st : RSt) (deep dn lk : Int) (mk : Bool) : List Ob := robj S L st deep dn lk mk ++ [.box [.lo 0 7]]

theorem rob2_keep (S : Bs) (L : List Tk) (st : RSt) (deep dn lk : Int) (mk : Bool) (o : List Ob) : (rob2 S L st deep dn lk mk).map (mapOb (sealT false 3 o 5)) = rob2 S L st deep dn lk mk := by
  unfold rob2
  rw [List.map_append, robj_keep S L st deep dn lk mk 3 _ (by decide)]; rfl

theorem rob2_ren (S : Bs) (L : List Tk) (st : RSt) (deep dn lk : Int) (mk : Bool) (n : Nat) : (rob2 S L st deep dn lk mk).map (renOb (rn [0, 1, 2] n)) = rob2 S L st deep dn lk mk := by
  unfold rob2
  rw [List.map_append, robj_ren]; rfl
theorem rob2_ren' (S : Bs) (L : List Tk) (st : RSt) (deep dn lk : Int) (mk : Bool) (n : Nat) : (robj S L st deep dn lk mk ++ [Ob.box [.lo 0 7]]).map (renOb (rn [0, 1, 2] n)) = rob2 S L st deep dn lk mk := rob2_ren S L st deep dn lk mk n

set_option maxRecDepth 100000 in
theorem onceSlow_ok (Y : YP) (S0 : Bs) (L : List Tk) (st : RSt) (deep : Int) : SCtr Try.prog Y 108 [.lo 0 7, .clo 99 [] [.lo 2 0]] (rob2 S0 L st deep 0 0 false) (.tup []) (rob2 S0 L st deep 1 0 true) := by
  refine SCtr.of_RD (pf := fun _ => .eff) tyOk mixed Try.func108 rfl (by kernel_rfl) (by kernel_rfl) (by simp [Try.ntmps108]) (by simp [rob2, robj]) fun w S φ hg => ?_
  refine R_run hg.ok 1000 rfl rfl ?_
  refine R_fieldZ hg.ok Try.underlying67 rfl (by kernel_rfl) rfl rfl rfl ?_
  refine R_run hg.ok 1000 rfl rfl ?_
  refine R_callSO hg.ok hg.gup hg.wide hg.Y [0, 1] (rob2 S0 L st deep 0 1 false) (muLock_ok Y S0 L st deep 0 false) (fun _ => rfl) rfl rfl rfl rfl rfl (by rw [robj_ren]; rfl) rfl (by rw [robj_ren]; rfl) ?_
  first
  | (refine R_run hg.ok 1 rfl rfl ?_; refine R_defer hg.ok rfl hg.wide 3 rfl ?_)
  | (refine R_run hg.ok 2 rfl rfl ?_; refine R_defer hg.ok rfl hg.wide 3 rfl ?_)
  | (refine R_run hg.ok 3 rfl rfl ?_; refine R_defer hg.ok rfl hg.wide 3 rfl ?_)
  | (refine R_run hg.ok 4 rfl rfl ?_; refine R_defer hg.ok rfl hg.wide 3 rfl ?_)
  refine R_run hg.ok 1000 rfl rfl ?_
  refine R_fieldZ hg.ok Try.underlying67 rfl (by kernel_rfl) rfl rfl rfl ?_
  refine R_run hg.ok 1000 rfl rfl ?_
  refine R_mark ⟨_, _, _, rfl, ?_⟩
  have hg1 := hg.sw [(111, [.lo 0 8], [])]
  refine R_run hg1.ok 1000 rfl rfl ?_
  refine R_fieldZ hg1.ok Try.underlying67 rfl (by kernel_rfl) rfl rfl rfl ?_
  refine R_run hg1.ok 1000 rfl rfl ?_
  refine R_callSO hg1.ok hg1.gup hg1.wide hg1.Y [0, 1] (rob2 S0 L st deep 0 1 false) (boolLoad_ok Y S0 L st deep 0 1 false) (fun _ => rfl) rfl rfl rfl rfl rfl (by rw [robj_ren]; rfl) rfl (by rw [robj_ren]; rfl) ?_
  refine R_run hg1.ok 1000 rfl rfl ?_
  refine R_if rfl rfl (fun _ => ?_) (fun h => absurd h (by simp))
  first
  | refine R_defer hg1.ok rfl hg1.wide 3 rfl ?_
  | (refine R_run hg1.ok 1 rfl rfl ?_; refine R_defer hg1.ok rfl hg1.wide 3 rfl ?_)
  | (refine R_run hg1.ok 2 rfl rfl ?_; refine R_defer hg1.ok rfl hg1.wide 3 rfl ?_)
  refine R_run hg1.ok 1000 rfl rfl ?_
  refine R_fieldZ hg1.ok Try.underlying67 rfl (by kernel_rfl) rfl rfl rfl ?_
  refine R_run hg1.ok 1000 rfl rfl ?_
  refine R_mark ⟨_, _, _, rfl, ?_⟩
  have hg2 := hg1.sw [(112, [.lo 0 7, .tt], []), (111, [.lo 0 8], [])]
  refine R_run hg2.ok 1000 rfl rfl ?_
  refine R_callSO hg2.ok hg2.gup hg2.wide hg2.Y [0, 1, 2] (rob2 S0 L st deep 0 1 true) (table_ok Y S0 L st deep 0 1) (fun _ => rfl) rfl rfl rfl rfl rfl (by rw [rob2_ren' S0 L st deep 0 1 false]; rfl) rfl (by rw [rob2_ren' S0 L st deep 0 1 true]; rfl) ?_
  refine R_run hg2.ok 1000 rfl rfl ?_
  refine R_endL ?_
  refine Lv.cons hg [0, 1] (objs' := rob2 S0 L st deep 1 1 true) (boolStore_ok Y S0 L st deep 0 1 true) (fun _ => rfl) rfl (by rw [robj_ren]; rfl) rfl (by rw [robj_ren]; rfl) ?_
  refine Lv.cons hg [0, 1] (objs' := rob2 S0 L st deep 1 0 true) (muUnlock_ok Y S0 L st deep 1 true) (fun _ => rfl) rfl (by rw [robj_ren]; rfl) rfl (by rw [robj_ren]; rfl) ?_
  exact Lv.nil hg 3 5 (by simp [rob2, robj]) rfl rfl (rob2_keep S0 L st deep 1 0 true _)
end Go.Proofs.Ythdpfglpdgmphaa

namespace PSL
open Go Go.RowKit Go.MapKept

/-- A look-up by a string, in a map that is data. -/
theorem R_lookupDS {g : G} {pf : Nat → Cls} {ops : Array Oper} {Fin : Exit → Act → World → Prop} (hg : GOk g) {dst : Option Nat} {T : Nat} {x y : Operand} {ok : Bool} {ty : Nat} {pos : String} {after : Array Edge} {gd : Option (Nat × Bool)} {rest : List Oper} {k : List It} {E : Env} {objs : List Ob}
    {q by_ q' by' kt et : Nat} {z z' : List Value} {n : ByteArray} {zv : Value} {ds : List (Value × D)} (l : List (ByteArray × AV)) (hl : ds.map (fun p => (p.1, AV.d p.2)) = smap l)
    (hgd : guardA ops.toList E gd = some true) (hd : dstOk ⟨g.ty, g.N⟩ dst = true) (hx : ev E x = .d (.map ds)) (hy : ev E y = .d (.v (.string n))) (hT : g.ty T = some ⟨q, by_, z, .map kt et⟩)
    (hkt : g.ty kt = some ⟨q', by', z', .str⟩) (hz : (g.P.info? et).bind (·.zero) = some zv) {v : AV} (hv : lookI' ok (cstV zv) (getS l n) = v)
    (hr : R g pf Fin (.dr ops rest :: k) (putO E dst v) objs) : R g pf Fin (.dr ops (⟨dst, .lookup T x y ok, ty, pos, after, gd⟩ :: rest) :: k) E objs := by
  subst hv
  have hu := (hg.ty _ _ hkt).sh
  simp only [ShFact] at hu
  obtain ⟨r, h1, h2⟩ := findA_getS (n := n) (l := l) (i := 0)
  refine R_lookupD hg hgd hd hx hy hT hu (by simp [IsKey]) (by rw [hl]; exact h1) hz ?_
  have : lookA ok (cstV zv) r = lookI' ok (cstV zv) (getS l n) := by rw [← h2]; cases r <;> rfl
  rw [this]; exact hr
end PSL

namespace Go.Proofs.Ythdpfglpdgmphaa
open Go PSL Go.Proofs

/-- A reader between two calls. -/
def rdO (S : Bs) (L : List Tk) (st : RSt) (deep : Int) (mk : Bool) : List Ob := robj S L st deep (if mk then 1 else 0) 0 mk
theorem rdO_keep (S : Bs) (L : List Tk) (st : RSt) (deep : Int) (mk : Bool) (n0 : Nat) (o : List Ob) (hn : 2 ≤ n0) : (rdO S L st deep mk).map (mapOb (sealT false n0 o 5)) = rdO S L st deep mk := robj_keep _ _ _ _ _ _ _ _ _ hn
theorem rdO_ren (S : Bs) (L : List Tk) (st : RSt) (deep : Int) (mk : Bool) (n : Nat) (l : List Nat) : (rdO S L st deep mk).map (renOb (rn (0 :: 1 :: l) n)) = rdO S L st deep mk := robj_ren _ _ _ _ _ _ _ _ _ _ _

set_option maxRecDepth 100000 in
theorem onceDo_ok (Y : YP) (S0 : Bs) (L : List Tk) (st : RSt) (deep : Int) (mk : Bool) : SCtr Try.prog Y 98 [.lo 0 7, .clo 99 [] [.lo 2 0]] (rdO S0 L st deep mk ++ [.box [.lo 0 7]]) (.tup []) (rdO S0 L st deep true ++ [.box [.lo 0 7]]) := by
  refine SCtr.of_R (pf := fun _ => .eff) tyOk mixed Try.func98 rfl (by kernel_rfl) (by kernel_rfl) (by simp [Try.ntmps98]) (by simp [rdO, robj]) fun w S φ hg => ?_
  refine R_run hg.ok 1000 rfl rfl ?_
  refine R_fieldZ hg.ok Try.underlying67 rfl (by kernel_rfl) rfl rfl rfl ?_
  refine R_run hg.ok 1000 rfl rfl ?_
  cases mk with
  | false =>
    refine R_callSO hg.ok hg.gup hg.wide hg.Y [0, 1] (rob2 S0 L st deep 0 0 false) (boolLoad_ok Y S0 L st deep 0 0 false) (fun _ => rfl) rfl rfl rfl rfl rfl (by rw [robj_ren]; rfl) rfl (by rw [robj_ren]; rfl) ?_
    refine R_run hg.ok 1000 rfl rfl ?_
    refine R_if rfl rfl (fun _ => ?_) (fun h => absurd h (by simp)) <;> refine R_run hg.ok 1000 rfl rfl ?_
    refine R_callSO hg.ok hg.gup hg.wide hg.Y [0, 1, 2] (rob2 S0 L st deep 1 0 true) (onceSlow_ok Y S0 L st deep) (fun _ => rfl) rfl rfl rfl rfl rfl (by rw [rob2_ren]; rfl) rfl (by rw [rob2_ren]; rfl) ?_
    refine R_run hg.ok 1000 rfl rfl ?_
    exact R_endS hg 3 5 (Nat.le_refl _) rfl rfl (rob2_keep S0 L st deep 1 0 true _)
  | true =>
    refine R_callSO hg.ok hg.gup hg.wide hg.Y [0, 1] (rob2 S0 L st deep 1 0 true) (boolLoad_ok Y S0 L st deep 1 0 true) (fun _ => rfl) rfl rfl rfl rfl rfl (by rw [robj_ren]; rfl) rfl (by rw [robj_ren]; rfl) ?_
    refine R_run hg.ok 1000 rfl rfl ?_
    refine R_if rfl rfl (fun h => absurd h (by simp)) (fun _ => ?_) <;> refine R_run hg.ok 1000 rfl rfl ?_
    exact R_endS hg 3 5 (Nat.le_refl _) rfl rfl (rob2_keep S0 L st deep 1 0 true _)

theorem rdO_ren2 (S : Bs) (L : List Tk) (st : RSt) (deep : Int) (mk : Bool) (n : Nat) : (rdO S L st deep mk ++ [Ob.box [.lo 0 7]]).map (renOb (rn [0, 1, 2] n)) = rdO S L st deep mk ++ [Ob.box [.lo 0 7]] := by
  rw [List.map_append, rdO_ren]; rfl

/-- What a look-up answers. -/
def infA (x : Option (Int × Int × Int)) : AV := match x with
  | some x => .tup [.agg [iV x.1, iV x.2.1, iV x.2.2], bV true]
  | none => .tup [.agg [iV 0, iV 0, iV 0], bV false]

theorem opV_ent2 (x : Int × Int × Int) : Ent (.d (.v (opV x))) (.agg [iV x.1, iV x.2.1, iV x.2.2]) := fun S w φ v h => by
  rw [rv_const h]
  simp only [RV, RVs, iV, opV]
  exact ⟨[.int .i64 x.1, .int .i64 x.2.1, .int .i64 x.2.2], rfl, .v _, .v _, .v _, trivial⟩

theorem getS_inf (s : Bs) : getS (tS opTab) (Tx s) = (infT s).map fun x => AV.d (.v (opV x)) := by
  unfold infT
  generalize opTab = l
  induction l with
  | nil => rfl
  | cons p l ih =>
    obtain ⟨a, x⟩ := p
    simp only [tS, List.map_cons, getS, List.lookup]
    by_cases h : s = a
    · subst h; simp
    · rw [if_neg (fun e => h (Tx_inj e).symm), show (s == a) = false by simpa using h]
      exact ih

set_option maxRecDepth 100000 in
theorem infix_ok (Y : YP) (S0 : Bs) (L : List Tk) (st : RSt) (deep : Int) (mk : Bool) (s : Bs) : SCtr Try.prog Y 82 [.lo 0 7, .d (.v (.string (Tx s)))] (rdO S0 L st deep mk) (infA (infT s)) (rdO S0 L st deep true) := by
  refine SCtr.of_R (pf := fun _ => .eff) tyOk mixed Try.func82 rfl (by kernel_rfl) (by kernel_rfl) (by simp [Try.ntmps82]) (by simp [rdO, robj]) fun w S φ hg => ?_
  refine R_run hg.ok 1000 rfl rfl ?_
  refine R_callSO hg.ok hg.gup hg.wide hg.Y [0, 1, 2] (rdO S0 L st deep true ++ [.box [.lo 0 7], .box [iV 0, iV 0, iV 0]]) (onceDo_ok Y S0 L st deep mk) (fun _ => rfl) rfl rfl rfl rfl rfl (by rw [rdO_ren2]; rfl) rfl (by rw [rdO_ren2]; rfl) ?_
  refine R_run hg.ok 1000 rfl rfl ?_
  have hk : ∀ o : List Ob, (rdO S0 L st deep true).map (mapOb (sealT false 2 o 5)) = rdO S0 L st deep true := fun o => rdO_keep _ _ _ _ _ _ _ (Nat.le_refl _)
  cases hx : infT s with
  | none =>
    refine R_lookupDS hg.ok (tS opTab) rfl rfl rfl rfl rfl rfl rfl (zv := .agg #[.int .i64 0, .int .i64 0, .int .i64 0]) (by kernel_rfl) (v := .tup [.agg [iV 0, iV 0, iV 0], bV false]) (by rw [getS_inf, hx]; rfl) ?_
    refine R_run hg.ok 1000 rfl rfl ?_
    exact R_retS hg 2 5 (Nat.le_refl _) rfl rfl (hk _)
  | some x =>
    refine R_lookupDS hg.ok (tS opTab) rfl rfl rfl rfl rfl rfl rfl (zv := .agg #[.int .i64 0, .int .i64 0, .int .i64 0]) (by kernel_rfl) (v := .tup [.d (.v (opV x)), bV true]) (by rw [getS_inf, hx]; rfl) ?_
    refine R_see 19 rfl (v' := .tup [.agg [iV x.1, iV x.2.1, iV x.2.2], bV true]) (fun S w φ v h => by
      simp only [RV] at h ⊢
      obtain ⟨vs, rfl, h⟩ := h
      refine ⟨vs, rfl, ?_⟩
      match vs, h with
      | [a, b], h =>
        simp only [RVs] at h ⊢
        exact ⟨opV_ent2 x _ _ _ _ (by simp only [RV]; exact h.1), h.2⟩
      | [], h => simp [RVs] at h
      | [_], h => simp [RVs] at h
      | _ :: _ :: _ :: _, h => simp [RVs] at h) ?_
    refine R_run hg.ok 1000 rfl rfl ?_
    exact R_retS hg 2 5 (Nat.le_refl _) rfl rfl (hk _)
end Go.Proofs.Ythdpfglpdgmphaa

namespace Go.Proofs.Ythdpfglpdgmphaa
open Go PSL Go.Proofs
theorem tkRows_get {L : List Tk} {i : Nat} {t : Tk} (h : L[i]? = some t) : (tkRows L)[i]? = some (tkD t) := by simp [tkRows, h]

set_option maxRecDepth 100000 in
theorem rdPeek_ok (Y : YP) (S0 : Bs) (L : List Tk) (st : RSt) (deep : Int) (mk : Bool) : SCtr Try.prog Y 22 [.lo 0 0] (rdO S0 L st deep mk) (tkA (peekR L st)) (rdO S0 L st deep mk) := by
  refine SCtr.of_R (pf := fun _ => .eff) tyOk mixed Try.func22 rfl (by kernel_rfl) (by kernel_rfl) (by simp [Try.ntmps22]) (by simp [rdO, robj]) fun w S φ hg => ?_
  have hk : ∀ o : List Ob, (rdO S0 L st deep mk).map (mapOb (sealT false 2 o 5)) = rdO S0 L st deep mk := fun o => rdO_keep _ _ _ _ _ _ _ (Nat.le_refl _)
  refine R_run hg.ok 1000 rfl rfl ?_
  refine R_if rfl rfl (fun h => ?_) (fun h => ?_) <;> refine R_run hg.ok 1000 rfl rfl ?_
  · have he : st.e ≠ 0 := by simpa using h
    rw [show peekR L st = zeroTk by unfold peekR; rw [if_pos he]]
    exact R_retS hg 2 5 (Nat.le_refl _) rfl rfl (hk _)
  have he : ¬ st.e ≠ 0 := by simpa using h
  refine R_if rfl rfl (fun h => ?_) (fun h => ?_) <;> refine R_run hg.ok 1000 rfl rfl ?_
  · have hl : L.length ≤ st.at_ := by have := of_decide_eq_true h; rw [tkRows_len] at this; omega
    rw [show peekR L st = zeroTk by unfold peekR; rw [if_neg he, List.getElem?_eq_none hl]; rfl]
    exact R_retS hg 2 5 (Nat.le_refl _) rfl rfl (hk _)
  · have hl : st.at_ < L.length := by have := of_decide_eq_false h; rw [tkRows_len] at this; omega
    have e1 : L[st.at_]? = some L[st.at_] := List.getElem?_eq_getElem hl
    rw [show peekR L st = L[st.at_] by unfold peekR; rw [if_neg he, e1]; rfl]
    generalize L[st.at_] = t at e1
    refine R_index hg.ok rfl rfl rfl rfl rfl rfl (Int.natCast_nonneg _) (tkRows_get e1) rfl ?_
    refine R_run hg.ok 1000 rfl rfl ?_
    exact R_retS hg 2 5 (Nat.le_refl _) rfl rfl (hk _)

set_option maxRecDepth 100000 in
theorem rdPlace_ok (Y : YP) (S0 : Bs) (L : List Tk) (st : RSt) (deep : Int) (mk : Bool) : SCtr Try.prog Y 20 [.lo 0 0] (rdO S0 L st deep mk) (iV (plcR L S0.length st.at_)) (rdO S0 L st deep mk) := by
  refine SCtr.of_R (pf := fun _ => .eff) tyOk mixed Try.func20 rfl (by kernel_rfl) (by kernel_rfl) (by simp [Try.ntmps20]) (by simp [rdO, robj]) fun w S φ hg => ?_
  have hk : ∀ o : List Ob, (rdO S0 L st deep mk).map (mapOb (sealT false 2 o 5)) = rdO S0 L st deep mk := fun o => rdO_keep _ _ _ _ _ _ _ (Nat.le_refl _)
  refine R_run hg.ok 1000 rfl rfl ?_
  refine R_if rfl rfl (fun h => ?_) (fun h => ?_) <;> refine R_run hg.ok 1000 rfl rfl ?_
  · have hl : st.at_ < L.length := by have := of_decide_eq_true h; rw [tkRows_len] at this; omega
    have e1 : L[st.at_]? = some L[st.at_] := List.getElem?_eq_getElem hl
    rw [show plcR L S0.length st.at_ = L[st.at_].at_ by unfold plcR; rw [e1]]
    generalize L[st.at_] = t at e1
    refine R_index hg.ok rfl rfl rfl rfl rfl rfl (Int.natCast_nonneg _) (tkRows_get e1) rfl ?_
    refine R_run hg.ok 1000 rfl rfl ?_
    exact R_retS hg 2 5 (Nat.le_refl _) rfl rfl (hk _)
  · have hl : L.length ≤ st.at_ := by have := of_decide_eq_false h; rw [tkRows_len] at this; omega
    rw [show plcR L S0.length st.at_ = (S0.length : Int) by unfold plcR; rw [List.getElem?_eq_none hl]]
    refine R_see 2 rfl (v' := iV S0.length) (by rw [show ((Tx S0).size : Int) = S0.length by rw [Tx_size]]; exact .refl _) ?_
    exact R_retS hg 2 5 (Nat.le_refl _) rfl rfl (hk _)

set_option maxRecDepth 100000 in
theorem rdFail_ok (Y : YP) (S0 : Bs) (L : List Tk) (st : RSt) (deep : Int) (mk : Bool) (c : Int) : SCtr Try.prog Y 23 [.lo 0 0, iV c] (rdO S0 L st deep mk) (.tup []) (rdO S0 L (failR L S0.length st c) deep mk) := by
  refine SCtr.of_R (pf := fun _ => .eff) tyOk mixed Try.func23 rfl (by kernel_rfl) (by kernel_rfl) (by simp [Try.ntmps23]) (by simp [rdO, robj]) fun w S φ hg => ?_
  have hk : ∀ st (o : List Ob), (rdO S0 L st deep mk).map (mapOb (sealT false 2 o 5)) = rdO S0 L st deep mk := fun st o => rdO_keep _ _ _ _ _ _ _ (Nat.le_refl _)
  refine R_run hg.ok 1000 rfl rfl ?_
  refine R_if rfl rfl (fun h => ?_) (fun h => ?_) <;> refine R_run hg.ok 1000 rfl rfl ?_
  · have he : st.e = 0 := by simpa using h
    refine R_callSO hg.ok hg.gup hg.wide hg.Y [0, 1] (rdO S0 L st deep mk) (rdPlace_ok Y S0 L st deep mk) (fun _ => rfl) rfl rfl rfl rfl rfl (by rw [rdO_ren]; rfl) rfl (by rw [rdO_ren]; rfl) ?_
    refine R_run hg.ok 1000 rfl rfl ?_
    rw [show failR L S0.length st c = { st with e := c, bad := plcR L S0.length st.at_ } by unfold failR; rw [if_pos he]]
    exact R_endS hg 2 5 (Nat.le_refl _) rfl rfl (hk { st with e := c, bad := plcR L S0.length st.at_ } _)
  · have he : ¬ st.e = 0 := by simpa using h
    rw [show failR L S0.length st c = st by unfold failR; rw [if_neg he]]
    exact R_endS hg 2 5 (Nat.le_refl _) rfl rfl (hk _ _)

theorem obsIn_refl : ∀ l : List Ob, ObsIn l l
  | [] => trivial
  | o :: l => ⟨.refl o, obsIn_refl l⟩

/-- The place that a reader has come to. -/
theorem R_rdAt {g : G} {pf : Nat → Cls} {Fin : Exit → Act → World → Prop} {k : List It} {E : Env} {rest : List Ob} {S : Bs} {L : List Tk} {st : RSt} {deep : Int} {mk : Bool} {m : Int} (n : Nat) (hm : m = n) (hb : n < 9223372036854775808) (ht : topCode k = true) (h : R g pf Fin k E (rdO S L { st with at_ := n } deep mk ++ rest)) :
    R g pf Fin k E (.box [.d (.v (.string (Tx S))), .d (.sl (tkRows L)), .d (.v (.int .i64 (IntKind.i64.wrap m))), .ow 1 st.names.length, iV deep, iV st.bad, iV st.e, .d (.v (.int .u32 (if mk then 1 else 0))), .d (.v (.int .i32 0)), .d (.v (.int .u32 0)), tblV mk] :: .arr 1 st.names.length (strRows st.names) :: rest) :=
  R_obs (rdO S L { st with at_ := n } deep mk ++ rest) ⟨⟨.refl _, .refl _, Ent.wrap hm (by simp only; omega) (by simp only; omega), .refl _, .refl _, .refl _, .refl _, .refl _, .refl _, .refl _, .refl _, trivial⟩, rfl, obsIn_refl _⟩ ht h
theorem isMk_iff {t : Tk} {s : Bs} : isMk t s = true ↔ t.kind = 4 ∧ t.text = s := by simp [isMk]

set_option maxRecDepth 100000 in
theorem rdMark_ok (Y : YP) (S0 : Bs) (L : List Tk) (hL : L.length ≤ 9000) (st : RSt) (deep : Int) (mk : Bool) (s : Bs) : SCtr Try.prog Y 79 [.lo 0 0, .d (.v (.string (Tx s)))] (rdO S0 L st deep mk) (bV (isMk (peekR L st) s)) (rdO S0 L (if isMk (peekR L st) s then nxR st else st) deep mk) := by
  refine SCtr.of_R (pf := fun _ => .eff) tyOk mixed Try.func79 rfl (by kernel_rfl) (by kernel_rfl) (by simp [Try.ntmps79]) (by simp [rdO, robj]) fun w S φ hg => ?_
  have hk : ∀ st (o : List Ob), (rdO S0 L st deep mk).map (mapOb (sealT false 2 o 5)) = rdO S0 L st deep mk := fun st o => rdO_keep _ _ _ _ _ _ _ (Nat.le_refl _)
  have hlt : isMk (peekR L st) s = true → st.at_ < L.length := fun h => by
    have h1 := (isMk_iff.1 h).1
    unfold peekR at h1
    split at h1
    · cases h1
    · rcases Nat.lt_or_ge st.at_ L.length with h2 | h2
      · exact h2
      · rw [List.getElem?_eq_none h2] at h1; cases h1
  refine R_run hg.ok 1000 rfl rfl ?_
  refine R_callSO hg.ok hg.gup hg.wide hg.Y [0, 1] (rdO S0 L st deep mk) (rdPeek_ok Y S0 L st deep mk) (fun _ => rfl) rfl rfl rfl rfl rfl (by rw [rdO_ren]; rfl) rfl (by rw [rdO_ren]; rfl) ?_
  refine R_run hg.ok 1000 rfl rfl ?_
  refine R_if rfl rfl (fun h => ?_) (fun h => ?_) <;> refine R_run hg.ok 1000 rfl rfl ?_
  · have h1 : ¬ (peekR L st).kind = 4 := by simpa using h
    have h2 : isMk (peekR L st) s = false := by cases h3 : isMk (peekR L st) s; rfl; exact absurd (isMk_iff.1 h3).1 h1
    rw [h2]
    exact R_retS hg 2 5 (Nat.le_refl _) rfl rfl (hk st _)
  have h1 : (peekR L st).kind = 4 := by simpa using h
  refine R_if rfl rfl (fun h => ?_) (fun h => ?_) <;> refine R_run hg.ok 1000 rfl rfl ?_
  · have h2 : isMk (peekR L st) s = false := by
      cases h3 : isMk (peekR L st) s
      · rfl
      · rw [(isMk_iff.1 h3).2, Tx_eq] at h; simp at h
    rw [h2]
    exact R_retS hg 2 5 (Nat.le_refl _) rfl rfl (hk st _)
  · have h2 : isMk (peekR L st) s = true := by
      rw [isMk_iff]; rw [Tx_eq] at h; exact ⟨h1, by simpa using h⟩
    have hl := hlt h2
    rw [h2]
    refine R_rdAt (st.at_ + 1) rfl (by omega) rfl ?_
    exact R_retS hg 2 5 (Nat.le_refl _) rfl rfl (hk (nxR st) _)
end Go.Proofs.Ythdpfglpdgmphaa

namespace Go.Proofs.Ythdpfglpdgmphaa
open Go PSL Go.Proofs

set_option maxRecDepth 100000 in
theorem rdMust_ok (Y : YP) (S0 : Bs) (L : List Tk) (hL : L.length ≤ 9000) (st : RSt) (deep : Int) (mk : Bool) (s : Bs) : SCtr Try.prog Y 80 [.lo 0 0, .d (.v (.string (Tx s)))] (rdO S0 L st deep mk) (.tup []) (rdO S0 L (mustR L S0.length st s) deep mk) := by
  refine SCtr.of_R (pf := fun _ => .eff) tyOk mixed Try.func80 rfl (by kernel_rfl) (by kernel_rfl) (by simp [Try.ntmps80]) (by simp [rdO, robj]) fun w S φ hg => ?_
  have hk : ∀ st (o : List Ob), (rdO S0 L st deep mk).map (mapOb (sealT false 2 o 5)) = rdO S0 L st deep mk := fun st o => rdO_keep _ _ _ _ _ _ _ (Nat.le_refl _)
  have hM := rdMark_ok Y S0 L hL st deep mk s
  unfold mustR
  refine R_run hg.ok 1000 rfl rfl ?_
  cases h : isMk (peekR L st) s with
  | false =>
    rw [h] at hM
    refine R_callSO hg.ok hg.gup hg.wide hg.Y [0, 1] (rdO S0 L st deep mk) hM (fun _ => rfl) rfl rfl rfl rfl rfl (by rw [rdO_ren]; rfl) rfl (by simp only [Bool.false_eq_true, if_false]; rw [rdO_ren]; rfl) ?_
    refine R_run hg.ok 1000 rfl rfl ?_
    refine R_if rfl rfl (fun _ => ?_) (fun h => absurd h (by simp)) <;> refine R_run hg.ok 1000 rfl rfl ?_
    refine R_callSO hg.ok hg.gup hg.wide hg.Y [0, 1] (rdO S0 L (failR L S0.length st 2) deep mk) (rdFail_ok Y S0 L st deep mk 2) (fun _ => rfl) rfl rfl rfl rfl rfl (by rw [rdO_ren]; rfl) rfl (by rw [rdO_ren]; rfl) ?_
    refine R_run hg.ok 1000 rfl rfl ?_
    exact R_endS hg 2 5 (Nat.le_refl _) rfl rfl (hk (failR L S0.length st 2) _)
  | true =>
    rw [h] at hM
    refine R_callSO hg.ok hg.gup hg.wide hg.Y [0, 1] (rdO S0 L (nxR st) deep mk) hM (fun _ => rfl) rfl rfl rfl rfl rfl (by rw [rdO_ren]; rfl) rfl (by simp only [if_true]; rw [rdO_ren]; rfl) ?_
    refine R_run hg.ok 1000 rfl rfl ?_
    refine R_if rfl rfl (fun h => absurd h (by simp)) (fun _ => ?_) <;> refine R_run hg.ok 1000 rfl rfl ?_
    exact R_endS hg 2 5 (Nat.le_refl _) rfl rfl (hk (nxR st) _)
def tkO (t : Tk) : Ob := .box [.d (.v (.int .i64 t.kind)), .d (.v (.string (Tx t.text))), .d (.v (.int .i64 t.n)), .d (.v (.int .i64 t.at_)), .d (.v (.bool t.opn))]

set_option maxRecDepth 100000 in
theorem rdIn_ok (Y : YP) (S0 : Bs) (L : List Tk) (st : RSt) (deep : Int) (mk : Bool) : SCtr Try.prog Y 46 [.lo 0 0] (rdO S0 L st deep mk) (infA (inT (peekR L st))) (rdO S0 L st deep (if (peekR L st).kind ≠ 1 ∧ ((peekR L st).kind ≠ 4 ∨ (peekR L st).text ≠ [44]) then mk else true)) := by
  by_cases hc : (peekR L st).kind ≠ 1 ∧ ((peekR L st).kind ≠ 4 ∨ (peekR L st).text ≠ [44])
  · rw [if_pos hc]
    rw [show inT (peekR L st) = none by unfold inT; rw [if_pos hc]]
    refine SCtr.of_R (pf := fun _ => .eff) tyOk mixed Try.func46 rfl (by kernel_rfl) (by kernel_rfl) (by simp [Try.ntmps46]) (by simp [rdO, robj]) fun w S φ hg => ?_
    have hk : ∀ (o : List Ob), (rdO S0 L st deep mk).map (mapOb (sealT false 2 o 5)) = rdO S0 L st deep mk := fun o => rdO_keep _ _ _ _ _ _ _ (Nat.le_refl _)
    refine R_run hg.ok 1000 rfl rfl ?_
    refine R_callSO hg.ok hg.gup hg.wide hg.Y [0, 1] (rdO S0 L st deep mk ++ [.box [iV 0, iV 0, iV 0]]) (rdPeek_ok Y S0 L st deep mk) (fun _ => rfl) rfl rfl rfl rfl rfl (by rw [rdO_ren]; rfl) rfl (by rw [rdO_ren]; rfl) ?_
    refine R_run hg.ok 1000 rfl rfl ?_
    refine R_if rfl rfl (fun _ => ?_) (fun h => absurd h (by simp [hc.1])) <;> refine R_run hg.ok 1000 rfl rfl ?_
    refine R_if rfl rfl (fun h => ?_) (fun h => ?_) <;> refine R_run hg.ok 1000 rfl rfl ?_
    · exact R_retS hg 2 5 (Nat.le_refl _) rfl rfl (hk _)
    · have h4 : (peekR L st).kind = 4 := by simpa using h
      have h5 : (peekR L st).text ≠ [44] := hc.2.resolve_left (fun e => e h4)
      refine R_if rfl rfl (fun _ => ?_) (fun h => absurd h (by rw [show (⟨#[44]⟩ : ByteArray) = Tx [44] from rfl, Tx_eq]; simpa using h5)) <;> refine R_run hg.ok 1000 rfl rfl ?_
      exact R_retS hg 2 5 (Nat.le_refl _) rfl rfl (hk _)
  · rw [if_neg hc]
    rw [show inT (peekR L st) = infT (peekR L st).text by unfold inT; rw [if_neg hc]]
    have hI := infix_ok Y S0 L st deep mk (peekR L st).text
    refine SCtr.of_R (pf := fun _ => .eff) tyOk mixed Try.func46 rfl (by kernel_rfl) (by kernel_rfl) (by simp [Try.ntmps46]) (by simp [rdO, robj]) fun w S φ hg => ?_
    have hk : ∀ (o : List Ob), (rdO S0 L st deep true).map (mapOb (sealT false 2 o 5)) = rdO S0 L st deep true := fun o => rdO_keep _ _ _ _ _ _ _ (Nat.le_refl _)
    refine R_run hg.ok 1000 rfl rfl ?_
    refine R_callSO hg.ok hg.gup hg.wide hg.Y [0, 1] (rdO S0 L st deep mk ++ [.box [iV 0, iV 0, iV 0]]) (rdPeek_ok Y S0 L st deep mk) (fun _ => rfl) rfl rfl rfl rfl rfl (by rw [rdO_ren]; rfl) rfl (by rw [rdO_ren]; rfl) ?_
    refine R_run hg.ok 1000 rfl rfl ?_
    generalize peekR L st = t at hc hI
    by_cases h1 : t.kind = 1
    · refine R_if rfl rfl (fun h => absurd h (by simp [h1])) (fun _ => ?_) <;> refine R_run hg.ok 1000 rfl rfl ?_
      refine R_callSO hg.ok hg.gup hg.wide hg.Y [0, 1] (rdO S0 L st deep true ++ [.box [iV 0, iV 0, iV 0], tkO t]) hI (fun _ => rfl) rfl rfl rfl rfl rfl (by rw [rdO_ren]; rfl) rfl (by rw [rdO_ren]; rfl) ?_
      cases infT t.text with
      | none => refine R_run hg.ok 1000 rfl rfl ?_; exact R_retS hg 2 5 (Nat.le_refl _) rfl rfl (hk _)
      | some x => refine R_run hg.ok 1000 rfl rfl ?_; exact R_retS hg 2 5 (Nat.le_refl _) rfl rfl (hk _)
    · have h4 : t.kind = 4 := Classical.byContradiction fun h4 => hc ⟨h1, .inl h4⟩
      have h5 : t.text = [44] := Classical.byContradiction fun h5 => hc ⟨h1, .inr h5⟩
      refine R_if rfl rfl (fun _ => ?_) (fun h => absurd h (by simp [h1])) <;> refine R_run hg.ok 1000 rfl rfl ?_
      refine R_if rfl rfl (fun h => absurd h (by simp [h4])) (fun _ => ?_) <;> refine R_run hg.ok 1000 rfl rfl ?_
      refine R_if rfl rfl (fun h => absurd h (by rw [show (⟨#[44]⟩ : ByteArray) = Tx [44] from rfl, Tx_eq, h5]; simp)) (fun _ => ?_) <;> refine R_run hg.ok 1000 rfl rfl ?_
      refine R_callSO hg.ok hg.gup hg.wide hg.Y [0, 1] (rdO S0 L st deep true ++ [.box [iV 0, iV 0, iV 0], tkO t]) hI (fun _ => rfl) rfl rfl rfl rfl rfl (by rw [rdO_ren]; rfl) rfl (by rw [rdO_ren]; rfl) ?_
      cases infT t.text with
      | none => refine R_run hg.ok 1000 rfl rfl ?_; exact R_retS hg 2 5 (Nat.le_refl _) rfl rfl (hk _)
      | some x => refine R_run hg.ok 1000 rfl rfl ?_; exact R_retS hg 2 5 (Nat.le_refl _) rfl rfl (hk _)
end Go.Proofs.Ythdpfglpdgmphaa

namespace Go.Proofs.Ythdpfglpdgmphaa
open Go PSL Go.Proofs
def pfBeg : Nat → Cls := fun f => bif Nat.beq f 4900100009 then .turn 100 else .eff

set_option maxRecDepth 100000 in
theorem rdBegins_ok (Y : YP) (S0 : Bs) (L : List Tk) (st : RSt) (deep : Int) (mk : Bool) : SCtr Try.prog Y 97 [.lo 0 0] (rdO S0 L st deep mk) (bV (begR L st)) (rdO S0 L st deep (if (peekR L st).kind = 1 then true else mk)) := by
  have hP := rdPeek_ok Y S0 L st deep mk
  have hI := infix_ok Y S0 L st deep mk (peekR L st).text
  unfold begR
  generalize peekR L st = t at hP hI
  simp only
  by_cases h1 : t.kind = 1
  · rw [if_pos h1]
    rw [show (decide (t.kind = 3) || decide (t.kind = 2) || (decide (t.kind = 4) && (t.text == [40] || t.text == [91])) || (decide (t.kind = 1) && (infT t.text).isNone)) = (infT t.text).isNone by simp [h1]]
    refine SCtr.of_R (pf := pfBeg) tyOk mixed Try.func97 rfl (by kernel_rfl) (by kernel_rfl) (by simp [Try.ntmps97]) (by simp [rdO, robj]) fun w S φ hg => ?_
    have hk : ∀ (o : List Ob), (rdO S0 L st deep true).map (mapOb (sealT false 2 o 5)) = rdO S0 L st deep true := fun o => rdO_keep _ _ _ _ _ _ _ (Nat.le_refl _)
    refine R_run hg.ok 1000 rfl rfl ?_
    refine R_callSO hg.ok hg.gup hg.wide hg.Y [0, 1] (rdO S0 L st deep mk) hP (fun _ => rfl) rfl rfl rfl rfl rfl (by rw [rdO_ren]; rfl) rfl (by rw [rdO_ren]; rfl) ?_
    refine R_run hg.ok 1000 rfl rfl ?_
    refine R_if rfl rfl (fun h => absurd h (by simp [h1])) (fun _ => ?_) <;> refine R_run hg.ok 1000 rfl rfl ?_
    refine R_if rfl rfl (fun h => absurd h (by simp [h1])) (fun _ => ?_) <;> refine R_run hg.ok 1000 rfl rfl ?_
    refine R_if rfl rfl (fun h => absurd h (by simp [h1])) (fun _ => ?_) <;> refine R_run hg.ok 1000 rfl rfl ?_
    refine R_if rfl rfl (fun _ => ?_) (fun h => absurd h (by simp [h1])) <;> refine R_run hg.ok 1000 rfl rfl ?_
    refine R_pair3 hg.ok 5 9 (by kernel_rfl) (by kernel_rfl) ?_ ?_
    · refine R_run hg.ok 1000 rfl rfl ?_
      refine R_callSO hg.ok hg.gup hg.wide hg.Y [0, 1] (rdO S0 L st deep true ++ [tkO t]) hI (fun _ => rfl) rfl rfl rfl rfl rfl (by rw [rdO_ren]; rfl) rfl (by rw [rdO_ren]; rfl) ?_
      cases infT t.text with
      | none => refine R_run hg.ok 1000 rfl rfl ?_; exact R_retS hg 2 5 (Nat.le_refl _) rfl rfl (hk _)
      | some x => refine R_run hg.ok 1000 rfl rfl ?_; exact R_retS hg 2 5 (Nat.le_refl _) rfl rfl (hk _)
    · refine R_run hg.ok 1000 rfl rfl ?_
      refine R_callSO hg.ok hg.gup hg.wide hg.Y [0, 1] (rdO S0 L st deep true ++ [tkO t, .box [iV 0, iV 0, iV 0]]) hI (fun _ => rfl) rfl rfl rfl rfl rfl (by rw [rdO_ren]; rfl) rfl (by rw [rdO_ren]; rfl) ?_
      cases infT t.text with
      | none => refine R_run hg.ok 1000 rfl rfl ?_; exact R_retS hg 2 5 (Nat.le_refl _) rfl rfl (hk _)
      | some x => refine R_run hg.ok 1000 rfl rfl ?_; exact R_retS hg 2 5 (Nat.le_refl _) rfl rfl (hk _)
  · rw [if_neg h1]
    refine SCtr.of_R (pf := pfBeg) tyOk mixed Try.func97 rfl (by kernel_rfl) (by kernel_rfl) (by simp [Try.ntmps97]) (by simp [rdO, robj]) fun w S φ hg => ?_
    have hk : ∀ (o : List Ob), (rdO S0 L st deep mk).map (mapOb (sealT false 2 o 5)) = rdO S0 L st deep mk := fun o => rdO_keep _ _ _ _ _ _ _ (Nat.le_refl _)
    refine R_run hg.ok 1000 rfl rfl ?_
    refine R_callSO hg.ok hg.gup hg.wide hg.Y [0, 1] (rdO S0 L st deep mk) hP (fun _ => rfl) rfl rfl rfl rfl rfl (by rw [rdO_ren]; rfl) rfl (by rw [rdO_ren]; rfl) ?_
    refine R_run hg.ok 1000 rfl rfl ?_
    by_cases h3 : t.kind = 3
    · rw [show (decide (t.kind = 3) || decide (t.kind = 2) || (decide (t.kind = 4) && (t.text == [40] || t.text == [91])) || (decide (t.kind = 1) && (infT t.text).isNone)) = true by simp [h3]]
      refine R_if rfl rfl (fun _ => ?_) (fun h => absurd h (by simp [h3])) <;> refine R_run hg.ok 1000 rfl rfl ?_
      exact R_retS hg 2 5 (Nat.le_refl _) rfl rfl (hk _)
    by_cases h2 : t.kind = 2
    · rw [show (decide (t.kind = 3) || decide (t.kind = 2) || (decide (t.kind = 4) && (t.text == [40] || t.text == [91])) || (decide (t.kind = 1) && (infT t.text).isNone)) = true by simp [h2]]
      refine R_if rfl rfl (fun h => absurd h (by simp [h3])) (fun _ => ?_) <;> refine R_run hg.ok 1000 rfl rfl ?_
      refine R_if rfl rfl (fun _ => ?_) (fun h => absurd h (by simp [h2])) <;> refine R_run hg.ok 1000 rfl rfl ?_
      exact R_retS hg 2 5 (Nat.le_refl _) rfl rfl (hk _)
    refine R_if rfl rfl (fun h => absurd h (by simp [h3])) (fun _ => ?_) <;> refine R_run hg.ok 1000 rfl rfl ?_
    refine R_if rfl rfl (fun h => absurd h (by simp [h2])) (fun _ => ?_) <;> refine R_run hg.ok 1000 rfl rfl ?_
    by_cases h4 : t.kind = 4
    · rw [show (decide (t.kind = 3) || decide (t.kind = 2) || (decide (t.kind = 4) && (t.text == [40] || t.text == [91])) || (decide (t.kind = 1) && (infT t.text).isNone)) = (t.text == [40] || t.text == [91]) by simp [h4]]
      refine R_if rfl rfl (fun _ => ?_) (fun h => absurd h (by simp [h4])) <;> refine R_run hg.ok 1000 rfl rfl ?_
      have e40 : strEq (Tx t.text) ⟨#[40]⟩ = (t.text == [40]) := Tx_eq _ _
      have e91 : strEq (Tx t.text) ⟨#[91]⟩ = (t.text == [91]) := Tx_eq _ _
      cases h40 : (t.text == [40]) with
      | true =>
        refine R_if rfl rfl (fun _ => ?_) (fun h => absurd h (by rw [e40, h40]; simp)) <;> refine R_run hg.ok 1000 rfl rfl ?_
        exact R_retS hg 2 5 (Nat.le_refl _) rfl rfl (hk _)
      | false =>
        refine R_if rfl rfl (fun h => absurd h (by rw [e40, h40]; simp)) (fun _ => ?_) <;> refine R_run hg.ok 1000 rfl rfl ?_
        rw [e91]
        exact R_retS hg 2 5 (Nat.le_refl _) rfl rfl (hk _)
    · rw [show (decide (t.kind = 3) || decide (t.kind = 2) || (decide (t.kind = 4) && (t.text == [40] || t.text == [91])) || (decide (t.kind = 1) && (infT t.text).isNone)) = false by simp [h1, h2, h3, h4]]
      refine R_if rfl rfl (fun h => absurd h (by simp [h4])) (fun _ => ?_) <;> refine R_run hg.ok 1000 rfl rfl ?_
      refine R_if rfl rfl (fun h => absurd h (by simp [h1])) (fun _ => ?_) <;> refine R_run hg.ok 1000 rfl rfl ?_
      exact R_retS hg 2 5 (Nat.le_refl _) rfl rfl (hk _)

set_option maxRecDepth 100000 in
theorem rdPrefix_ok (s : Bs) : PCtr Try.prog 95 [.d (.v (.string (Tx s)))] (iV (preT s)) := by
  have e1 : strEq (Tx s) ⟨#[92, 43]⟩ = (s == [92, 43]) := Tx_eq _ _
  have e2 : strEq (Tx s) ⟨#[45]⟩ = (s == [45]) := Tx_eq _ _
  unfold preT
  refine PCtr.of_R (pf := fun _ => .still) tyOk mixed Try.func95 rfl (by kernel_rfl) (by kernel_rfl) (by simp [Try.ntmps95]) fun w S hg => ?_
  refine R_run hg.ok 1000 rfl rfl ?_
  by_cases h1 : s = [92, 43]
  · rw [if_pos h1]
    refine R_if rfl rfl (fun _ => ?_) (fun h => absurd h (by rw [e1, h1]; simp)) <;> refine R_run hg.ok 1000 rfl rfl ?_
    refine R_ret hg 5 rfl rfl ?_
    rfl
  rw [if_neg h1]
  refine R_if rfl rfl (fun h => absurd h (by rw [e1]; simpa using h1)) (fun _ => ?_) <;> refine R_run hg.ok 1000 rfl rfl ?_
  by_cases h2 : s = [45]
  · rw [if_pos h2]
    refine R_if rfl rfl (fun _ => ?_) (fun h => absurd h (by rw [e2, h2]; simp)) <;> refine R_run hg.ok 1000 rfl rfl ?_
    refine R_ret hg 5 rfl rfl ?_
    rfl
  rw [if_neg h2]
  refine R_if rfl rfl (fun h => absurd h (by rw [e2]; simpa using h2)) (fun _ => ?_) <;> refine R_run hg.ok 1000 rfl rfl ?_
  refine R_ret hg 5 rfl rfl ?_
  rfl
end Go.Proofs.Ythdpfglpdgmphaa

namespace Go.Proofs.Ythdpfglpdgmphaa
open Go PSL Go.Proofs

theorem rdO_snoc (S0 : Bs) (L : List Tk) (st : RSt) (deep : Int) (mk : Bool) (x : Bs) : rdO S0 L { st with names := st.names ++ [x] } deep mk = [.box [.d (.v (.string (Tx S0))), .d (.sl (tkRows L)), iV st.at_, .ow 1 (st.names.length + 1), iV deep, iV st.bad, iV st.e, .d (.v (.int .u32 (if mk then 1 else 0))), .d (.v (.int .i32 0)), .d (.v (.int .u32 0)), tblV mk], .arr 1 (st.names.length + 1) (strRows (st.names ++ [x]))] := by
  simp only [rdO, robj, List.length_append, List.length_singleton]

set_option maxRecDepth 100000 in
theorem rdVar_ok (Y : YP) (S0 : Bs) (L : List Tk) (st : RSt) (hn : st.names.length ≤ 20000) (deep : Int) (mk : Bool) (s : Bs) : SCtr Try.prog Y 77 [.lo 0 0, .d (.v (.string (Tx s)))] (rdO S0 L st deep mk) (iV (varR st s).1) (rdO S0 L (varR st s).2 deep mk) := by
  refine SCtr.of_R (pf := fun _ => .eff) tyOk mixed Try.func77 rfl (by kernel_rfl) (by kernel_rfl) (by simp [Try.ntmps77]) (by simp [rdO, robj]) fun w S φ hg => ?_
  have hk : ∀ (st : RSt) (o : List Ob), (rdO S0 L st deep mk).map (mapOb (sealT false 2 o 5)) = rdO S0 L st deep mk := fun st o => rdO_keep _ _ _ _ _ _ _ (Nat.le_refl _)
  have hk2 : ∀ (x : Bs) (o : List Ob), ([.box [.d (.v (.string (Tx S0))), .d (.sl (tkRows L)), iV st.at_, .ow 1 (st.names.length + 1), iV deep, iV st.bad, iV st.e, .d (.v (.int .u32 (if mk then 1 else 0))), .d (.v (.int .i32 0)), .d (.v (.int .u32 0)), tblV mk], .arr 1 (st.names.length + 1) (strRows (st.names ++ [x]))] : List Ob).map (mapOb (sealT false 2 o 5)) = [.box [.d (.v (.string (Tx S0))), .d (.sl (tkRows L)), iV st.at_, .ow 1 (st.names.length + 1), iV deep, iV st.bad, iV st.e, .d (.v (.int .u32 (if mk then 1 else 0))), .d (.v (.int .i32 0)), .d (.v (.int .u32 0)), tblV mk], .arr 1 (st.names.length + 1) (strRows (st.names ++ [x]))] := fun x o => by
    have := hk { st with names := st.names ++ [x] } o
    rwa [rdO_snoc] at this
  have e95 : strEq (Tx s) ⟨#[95]⟩ = (s == [95]) := Tx_eq _ _
  refine R_run hg.ok 1000 rfl rfl ?_
  refine R_lenO hg.ok rfl rfl rfl rfl rfl (n := (st.names.length : Int)) (by rw [strRows_len]) ?_
  refine R_run hg.ok 1000 rfl rfl ?_
  refine R_cut2 (fun _ : Unit => ([(0, .lo 0 0), (1, .d (.v (.string (Tx s))))], rdO S0 L st deep mk)) (fun _ => (if s = [95] then none else idxV st.names s 0) = none) rfl ?_ ?_
  · refine R_loop (fun k : Nat => ([(0, .lo 0 0), (1, .d (.v (.string (Tx s)))), (10, .ow 1 st.names.length), (11, iV st.names.length), (12, iV k)], rdO S0 L st deep mk)) (fun k => k ≤ st.names.length ∧ (s ≠ [95] → idxV st.names s 0 = idxV (st.names.drop k) s k)) (fun k => st.names.length - k) 0 ⟨Nat.zero_le _, fun _ => rfl⟩ ⟨.refl _, .refl _, .refl _, .refl _, .refl _, trivial⟩ rfl ?_
    rintro k ⟨hk1, hm⟩
    refine R_run hg.ok 1000 rfl rfl ?_
    refine R_if rfl rfl (fun h => ?_) (fun h => ?_) <;> refine R_run hg.ok 1000 rfl rfl ?_
    · have hk2 : k < st.names.length := lt_dec h rfl
      have e1 : st.names[k]? = some st.names[k] := List.getElem?_eq_getElem hk2
      rw [List.drop_eq_getElem_cons hk2] at hm
      generalize st.names[k] = x at e1 hm
      refine R_indexO hg.ok rfl rfl rfl rfl rfl rfl rfl rfl rfl (Int.natCast_nonneg k) (by rw [strRows_len]; simpa using hk2) ?_
      refine R_run hg.ok 1000 rfl rfl ?_
      refine R_loadE hg.ok rfl rfl rfl rfl rfl rfl (by rw [Int.toNat_natCast]; exact strRows_get e1) rfl ?_
      refine R_run hg.ok 1000 rfl rfl ?_
      have hx : strEq (Tx x) (Tx s) = (x == s) := Tx_eq _ _
      by_cases hxs : x = s
      · refine R_if rfl rfl (fun _ => ?_) (fun h => absurd h (by rw [hx, hxs]; simp)) <;> refine R_run hg.ok 1000 rfl rfl ?_
        by_cases h95 : s = [95]
        · refine R_if rfl rfl (fun h => absurd h (by rw [e95, h95]; simp)) (fun _ => ?_) <;> refine R_run hg.ok 1000 rfl rfl ?_
          exact R_next (k + 1) ⟨hk2, fun h => absurd h95 h⟩ (by omega) ⟨.refl _, .refl _, .refl _, .refl _, Ent.wrap (by omega) (by omega) (by omega), trivial⟩ rfl
        · refine R_if rfl rfl (fun _ => ?_) (fun h => absurd h (by rw [e95]; simpa using h95)) <;> refine R_run hg.ok 1000 rfl rfl ?_
          have hv : varR st s = ((k : Int), st) := by
            unfold varR
            rw [if_neg h95, hm h95, idxV, if_pos hxs]
          rw [hv]
          exact R_retS hg 2 5 (Nat.le_refl _) rfl rfl (hk st _)
      · refine R_if rfl rfl (fun h => absurd h (by rw [hx]; simpa using hxs)) (fun _ => ?_) <;> refine R_run hg.ok 1000 rfl rfl ?_
        exact R_next (k + 1) ⟨hk2, fun h => by rw [hm h, idxV, if_neg hxs]⟩ (by omega) ⟨.refl _, .refl _, .refl _, .refl _, Ent.wrap (by omega) (by omega) (by omega), trivial⟩ rfl
    · have hk2 : st.names.length ≤ k := ge_dec h rfl
      refine R_to () ?_ ⟨.refl _, .refl _, trivial⟩ rfl
      split
      · rfl
      · rename_i hs
        rw [hm hs, List.drop_eq_nil_of_le hk2]; rfl
  rintro _ hno
  refine R_run hg.ok 1000 rfl rfl ?_
  have hv : varR st s = ((st.names.length : Int), { st with names := st.names ++ [if s = [95] then [] else s] }) := by
    unfold varR
    rw [hno]
  rw [hv]
  by_cases h95 : s = [95]
  · refine R_if rfl rfl (fun _ => ?_) (fun h => absurd h (by rw [e95, h95]; simp)) <;> refine R_run hg.ok 1000 rfl rfl ?_
    rw [if_pos h95, rdO_snoc]
    refine R_appendO hg.ok (strRows (st.names ++ [[]])) rfl rfl rfl rfl rfl rfl rfl rfl rfl (by simp) (by simp [one1]) (strRows_snoc st.names []) (by rw [strRows_len]; simp; omega) (by rw [strRows_len]; simp; omega) ?_
    refine R_run hg.ok 1000 rfl rfl ?_
    refine R_lenO hg.ok rfl rfl rfl rfl rfl (n := ((st.names.length + 1 : Nat) : Int)) (by rw [strRows_len]; simp) ?_
    refine R_run hg.ok 1000 rfl rfl ?_
    refine R_see 4 rfl (Ent.wrap (n := (st.names.length : Int)) (by omega) (by omega) (by omega)) ?_
    exact R_retS hg 2 5 (Nat.le_refl _) rfl rfl (hk2 [] _)
  · refine R_if rfl rfl (fun h => absurd h (by rw [e95]; simpa using h95)) (fun _ => ?_) <;> refine R_run hg.ok 1000 rfl rfl ?_
    rw [if_neg h95, rdO_snoc]
    refine R_appendO hg.ok (strRows (st.names ++ [s])) rfl rfl rfl rfl rfl rfl rfl rfl rfl (by simp) (by simp [one1]) (strRows_snoc st.names s) (by rw [strRows_len]; simp; omega) (by rw [strRows_len]; simp; omega) ?_
    refine R_run hg.ok 1000 rfl rfl ?_
    refine R_lenO hg.ok rfl rfl rfl rfl rfl (n := ((st.names.length + 1 : Nat) : Int)) (by rw [strRows_len]; simp) ?_
    refine R_run hg.ok 1000 rfl rfl ?_
    refine R_see 4 rfl (Ent.wrap (n := (st.names.length : Int)) (by omega) (by omega) (by omega)) ?_
    exact R_retS hg 2 5 (Nat.le_refl _) rfl rfl (hk2 s _)
end Go.Proofs.Ythdpfglpdgmphaa

namespace PSL
open Go

/-- How many names there are, and how far it is. -/
def RInv (L : List Tk) (st : RSt) : Prop := st.names.length ≤ st.at_ ∧ st.at_ ≤ L.length
def TGood (L : List Tk) (T : TF) : Prop := ∀ deep p st t st', T deep p st = some (t, st') → RInv L st → RInv L st'
section
variable {S : Bs} {L : List Tk} {T : TF} {st : RSt}

theorem peek_lt (h : (peekR L st).kind ≠ 0) : st.e = 0 ∧ st.at_ < L.length := by
  unfold peekR at h
  by_cases he : st.e ≠ 0
  · rw [if_pos he] at h; exact absurd rfl h
  · rw [if_neg he] at h
    refine ⟨by simpa using he, ?_⟩
    rcases Nat.lt_or_ge st.at_ L.length with h2 | h2
    · exact h2
    · rw [List.getElem?_eq_none h2] at h; exact absurd rfl h

theorem isMk_lt {s : Bs} (h : isMk (peekR L st) s = true) : st.e = 0 ∧ st.at_ < L.length := by
  simp only [isMk, Bool.and_eq_true, decide_eq_true_eq] at h
  exact peek_lt (by rw [h.1]; decide)
theorem RInv.nx (h : RInv L st) (hl : st.at_ < L.length) : RInv L (nxR st) := ⟨by have := h.1; simp only [nxR]; omega, by simp only [nxR]; omega⟩

theorem RInv.fail {n : Nat} {c : Int} (h : RInv L st) : RInv L (failR L n st c) := by
  unfold failR; split
  · exact h
  · exact h

theorem RInv.must {n : Nat} {s : Bs} (h : RInv L st) : RInv L (mustR L n st s) := by
  unfold mustR; split
  · rename_i hm; exact h.nx (isMk_lt hm).2
  · exact h.fail

theorem RInv.ins (h : RInv L st) : RInv L (inS L st) := by
  unfold inS; split
  · exact h
  · exact h

theorem RInv.beg (h : RInv L st) : RInv L (begS L st) := by
  unfold begS; split
  · exact h
  · exact h

theorem var_at (s : Bs) : (varR st s).2.at_ = st.at_ ∧ (varR st s).2.names.length ≤ st.names.length + 1 ∧ (varR st s).2.lay = st.lay ∧ (varR st s).2.e = st.e ∧ (varR st s).2.bad = st.bad := by
  unfold varR
  split <;> simp

theorem RInv.var {s : Bs} (h : RInv L st) (hl : st.at_ < L.length) : RInv L (varR (nxR st) s).2 := by
  obtain ⟨h1, h2, _⟩ := var_at (st := nxR st) s
  have := h.1
  refine ⟨?_, ?_⟩
  · rw [h1]; simp only [nxR] at h2 ⊢; omega
  · rw [h1]; simp only [nxR]; omega

theorem many_inv (hT : TGood L T) : ∀ (f deep : Nat) (st : RSt) (acc : List Tm) (l : List Tm) (st' : RSt), manyR L T f deep st acc = some (l, st') → RInv L st → RInv L st'
  | 0, _, _, _, _, _, h, _ => by cases h
  | f + 1, deep, st, acc, l, st', h, hi => by
    simp only [manyR] at h
    split at h
    · rename_i hm
      obtain ⟨x, hx, h⟩ := Option.bind_eq_some_iff.1 h
      exact many_inv hT f deep _ _ _ _ h (hT _ _ _ _ _ hx (hi.nx (isMk_lt hm).2))
    · cases h; exact hi

theorem row_inv (hT : TGood L T) {deep : Nat} {l : List Tm} {st' : RSt} (h : rowR L T deep st = some (l, st')) (hi : RInv L st) : RInv L st' := by
  obtain ⟨x, hx, h⟩ := Option.bind_eq_some_iff.1 h
  exact many_inv hT _ _ _ _ _ _ h (hT _ _ _ _ _ hx hi)

theorem named_inv (hT : TGood L T) {deep : Nat} {p : Int} {t : Tk} {x : Tm × Int × RSt} (h : namedR S L T deep p t st = some x) (hi : RInv L st) (hl : st.at_ < L.length) : RInv L x.2.2 := by
  have hn := hi.nx hl
  unfold namedR at h
  split at h
  · rename_i hm
    simp only [minR, Bool.and_eq_true, decide_eq_true_eq] at hm
    cases h
    exact hn.nx (peek_lt (by rw [hm.1.2]; decide)).2
  · split at h
    · obtain ⟨y, hy, rfl⟩ := Option.map_eq_some_iff.1 h
      exact (row_inv hT hy hn.must).must
    · split at h
      · split at h
        · split at h
          · cases h; exact RInv.fail ⟨by simp only; have := hn.beg.1; have h2 := hi.1; unfold begS at *; split <;> exact h2, hi.2⟩
          · obtain ⟨y, hy, rfl⟩ := Option.map_eq_some_iff.1 h
            exact hT _ _ _ _ _ hy hn.beg
        · cases h; exact hn.beg
      · cases h; exact hn

theorem list_inv (hT : TGood L T) {deep : Nat} {x : Tm × RSt} (h : listR S L T deep st = some x) (hi : RInv L st) : RInv L x.2 := by
  obtain ⟨y, hy, h⟩ := Option.bind_eq_some_iff.1 h
  have h1 := row_inv hT hy hi
  split at h
  · rename_i hm
    obtain ⟨z, hz, rfl⟩ := Option.map_eq_some_iff.1 h
    exact (hT _ _ _ _ _ hz (h1.nx (isMk_lt hm).2)).must
  · cases h; exact h1.must

theorem opnd_inv (hT : TGood L T) {sw : Bool} {deep : Nat} {p : Int} {x : Tm × Int × RSt} (h : opndR sw S L T deep p st = some x) (hi : RInv L st) : RInv L x.2.2 := by
  unfold opndR at h
  split at h
  · cases h; exact hi.fail
  split at h
  · rename_i hk; cases h; exact hi.nx (peek_lt (by rw [hk]; decide)).2
  split at h
  · rename_i hk; cases h; exact hi.var (peek_lt (by rw [hk]; decide)).2
  split at h
  · rename_i hk
    obtain ⟨y, hy, rfl⟩ := Option.map_eq_some_iff.1 h
    have := named_inv hT hy hi (peek_lt (by rw [hk]; decide)).2
    split <;> exact this
  split at h
  · rename_i hm
    obtain ⟨y, hy, rfl⟩ := Option.map_eq_some_iff.1 h
    exact (hT _ _ _ _ _ hy (hi.nx (isMk_lt hm).2)).must
  split at h
  · rename_i hm
    obtain ⟨y, hy, rfl⟩ := Option.map_eq_some_iff.1 h
    exact list_inv hT hy (hi.nx (isMk_lt hm).2)
  · cases h; exact hi.fail

theorem ins_lt {L : List Tk} {st : RSt} {x : Int × Int × Int} (h : inT (peekR L st) = some x) : st.e = 0 ∧ st.at_ < L.length := by
  unfold inT at h
  split at h
  · cases h
  · rename_i hc
    refine peek_lt fun h0 => hc ?_
    rw [h0]; exact ⟨by decide, .inl (by decide)⟩
theorem inS_at (L : List Tk) (st : RSt) : (inS L st).at_ = st.at_ := by unfold inS; split <;> rfl

theorem rest_inv (hT : TGood L T) : ∀ (f deep : Nat) (p : Int) (out : Tm) (now : Int) (st : RSt) (t : Tm) (st' : RSt), restR L T f deep p out now st = some (t, st') → RInv L st → RInv L st'
  | 0, _, _, _, _, _, _, _, h, _ => by cases h
  | f + 1, deep, p, out, now, st, t, st', h, hi => by
    simp only [restR] at h
    split at h
    · cases h; exact hi
    split at h
    · cases h; exact hi.ins
    · rename_i q l r hin
      split at h
      · cases h; exact hi.ins
      · obtain ⟨x, hx, h⟩ := Option.bind_eq_some_iff.1 h
        exact rest_inv hT f deep p _ _ _ _ _ h (hT _ _ _ _ _ hx (hi.ins.nx (by rw [inS_at]; exact (ins_lt hin).2)))
end

theorem term_inv (sw : Bool) (S : Bs) (L : List Tk) : ∀ n, TGood L (termR sw S L n)
  | 0 => fun _ _ _ _ _ h _ => by cases h
  | n + 1 => fun deep p st t st' h hi => by
    simp only [termR] at h
    obtain ⟨x, hx, h⟩ := Option.bind_eq_some_iff.1 h
    exact rest_inv (term_inv sw S L n) _ _ _ _ _ _ _ _ h (opnd_inv (term_inv sw S L n) hx hi)
end PSL

namespace Go.Proofs.Ythdpfglpdgmphaa
open Go PSL Go.Proofs

/-- A reader, its table laid or not as it says. -/
def rdX (S : Bs) (L : List Tk) (st : RSt) (deep : Int) : List Ob := rdO S L st deep st.lay
theorem rdX_keep (S : Bs) (L : List Tk) (st : RSt) (deep : Int) (n0 : Nat) (o : List Ob) (hn : 2 ≤ n0) : (rdX S L st deep).map (mapOb (sealT false n0 o 5)) = rdX S L st deep := rdO_keep _ _ _ _ _ _ _ hn
theorem rdX_ren (S : Bs) (L : List Tk) (st : RSt) (deep : Int) (n : Nat) (l : List Nat) : (rdX S L st deep).map (renOb (rn (0 :: 1 :: l) n)) = rdX S L st deep := rdO_ren _ _ _ _ _ _ _
theorem xPeek (Y : YP) (S0 : Bs) (L : List Tk) (st : RSt) (deep : Int) : SCtr Try.prog Y 22 [.lo 0 0] (rdX S0 L st deep) (tkA (peekR L st)) (rdX S0 L st deep) := rdPeek_ok Y S0 L st deep st.lay

theorem xFail (Y : YP) (S0 : Bs) (L : List Tk) (st : RSt) (deep c : Int) : SCtr Try.prog Y 23 [.lo 0 0, iV c] (rdX S0 L st deep) (.tup []) (rdX S0 L (failR L S0.length st c) deep) := by
  have := rdFail_ok Y S0 L st deep st.lay c
  unfold rdX
  rwa [show (failR L S0.length st c).lay = st.lay by unfold failR; split <;> rfl]

theorem xMark (Y : YP) (S0 : Bs) (L : List Tk) (hL : L.length ≤ 9000) (st : RSt) (deep : Int) (s : Bs) : SCtr Try.prog Y 79 [.lo 0 0, .d (.v (.string (Tx s)))] (rdX S0 L st deep) (bV (isMk (peekR L st) s)) (rdX S0 L (if isMk (peekR L st) s then nxR st else st) deep) := by
  have := rdMark_ok Y S0 L hL st deep st.lay s
  unfold rdX
  rwa [show (if isMk (peekR L st) s then nxR st else st).lay = st.lay by split <;> rfl]

theorem xMust (Y : YP) (S0 : Bs) (L : List Tk) (hL : L.length ≤ 9000) (st : RSt) (deep : Int) (s : Bs) : SCtr Try.prog Y 80 [.lo 0 0, .d (.v (.string (Tx s)))] (rdX S0 L st deep) (.tup []) (rdX S0 L (mustR L S0.length st s) deep) := by
  have := rdMust_ok Y S0 L hL st deep st.lay s
  unfold rdX
  rwa [show (mustR L S0.length st s).lay = st.lay by unfold mustR failR; split <;> first | rfl | (split <;> rfl)]

theorem xIn (Y : YP) (S0 : Bs) (L : List Tk) (st : RSt) (deep : Int) : SCtr Try.prog Y 46 [.lo 0 0] (rdX S0 L st deep) (infA (inT (peekR L st))) (rdX S0 L (inS L st) deep) := by
  have := rdIn_ok Y S0 L st deep st.lay
  unfold rdX inS
  split at this
  · rename_i h; rw [if_pos h]; exact this
  · rename_i h; rw [if_neg h]; exact this

theorem xBegins (Y : YP) (S0 : Bs) (L : List Tk) (st : RSt) (deep : Int) : SCtr Try.prog Y 97 [.lo 0 0] (rdX S0 L st deep) (bV (begR L st)) (rdX S0 L (begS L st) deep) := by
  have := rdBegins_ok Y S0 L st deep st.lay
  unfold rdX begS
  split at this
  · rename_i h; rw [if_pos h]; exact this
  · rename_i h; rw [if_neg h]; exact this

theorem xVar (Y : YP) (S0 : Bs) (L : List Tk) (st : RSt) (hn : st.names.length ≤ 20000) (deep : Int) (s : Bs) : SCtr Try.prog Y 77 [.lo 0 0, .d (.v (.string (Tx s)))] (rdX S0 L st deep) (iV (varR st s).1) (rdX S0 L (varR st s).2 deep) := by
  have := rdVar_ok Y S0 L st hn deep st.lay s
  unfold rdX
  rwa [(var_at s).2.2.1]

/-- What is asked of the reading of terms. -/
def TCtr (Y : YP) (S0 : Bs) (L : List Tk) (T : TF) : Prop := ∀ (deep : Nat) (p : Int) (st : RSt) (t : Tm) (st' : RSt), T deep p st = some (t, st') → deep ≤ 1000 → RInv L st → SCtr Try.prog Y 21 [.lo 0 0, iV p] (rdX S0 L st deep) t.av (rdX S0 L st' deep)
end Go.Proofs.Ythdpfglpdgmphaa

namespace Go.Proofs.Ythdpfglpdgmphaa
open Go PSL Go.Proofs
def rwT (t : Tm) : List D := [.v (.int .i64 t.k), .v (.string t.s), .v (.int .i64 t.n), .sl (Tm.rows t.l)]
theorem rwT_rows (l : List Tm) : l.map rwT = Tm.rows l := by rw [Tm.rows_eq]; rfl
theorem rwT_snoc (l : List Tm) (x : Tm) : l.map rwT ++ [rwT x] = Tm.rows (l ++ [x]) := by rw [← rwT_rows]; simp
theorem rwT_snoc2 (l : List Tm) (x : Tm) : Tm.rows l ++ [rwT x] = Tm.rows (l ++ [x]) := by rw [← rwT_rows, ← rwT_rows]; simp

/-- What was read: one term, written out, or many in a store. -/
def accS : Tm ⊕ List Tm × Nat → List Tm
  | .inl t => [t]
  | .inr p => p.1

/-- Terms that are read, one behind the other: written out at first, then appended to. -/
def sevE (S0 : Bs) (L : List Tk) (deep : Int) (s : Bs) : (Nat × RSt × (Tm ⊕ List Tm × Nat)) → Env × List Ob
  | (_, st, .inl t) => ([(0, .lo 0 0), (1, .d (.v (.string (Tx s)))), (5, .fs [rwT t])], rdX S0 L st deep)
  | (_, st, .inr p) => ([(0, .lo 0 0), (1, .d (.v (.string (Tx s)))), (5, .ow 2 p.2)], rdX S0 L st deep ++ [.arr 4 p.2 (Tm.rows p.1)])

set_option maxRecDepth 100000 in
theorem rdSeveral_ok (Y : YP) (S0 : Bs) (L : List Tk) (hL : L.length ≤ 9000) {T : TF} (hT : TCtr Y S0 L T) (hG : TGood L T) (deep : Nat) (hd : deep ≤ 1000) (st : RSt) (hi : RInv L st) (l : List Tm) (st' : RSt) (h : rowR L T deep st = some (l, st')) (s : Bs) :
    SCtr Try.prog Y 96 [.lo 0 0, .d (.v (.string (Tx s)))] (rdX S0 L st deep) (.d (.sl (Tm.rows l))) (rdX S0 L (mustR L S0.length st' s) deep) := by
  obtain ⟨⟨t, st1⟩, h1, h2⟩ := Option.bind_eq_some_iff.1 h
  simp only at h2
  refine SCtr.of_R (pf := fun _ => .eff) tyOk mixed Try.func96 rfl (by kernel_rfl) (by kernel_rfl) (by simp [Try.ntmps96]) (by simp [rdX, rdO, robj]) fun w S φ hg => ?_
  have hφ : φ.length = 2 := hg.hs0.len
  have hk : ∀ (st : RSt) (o : List Ob), (rdX S0 L st deep).map (mapOb (sealT false 2 o 5)) = rdX S0 L st deep := fun st o => rdX_keep _ _ _ _ _ _ (Nat.le_refl _)
  refine R_run hg.ok 1000 rfl rfl ?_
  refine R_callSO hg.ok hg.gup hg.wide hg.Y [0, 1] (rdX S0 L st1 deep) (hT deep 999 st t st1 h1 hd hi) (fun _ => rfl) rfl rfl rfl rfl rfl (by rw [rdX_ren]; rfl) rfl (by rw [rdX_ren]; rfl) ?_
  refine R_run hg.ok 1000 rfl rfl ?_
  refine R_cut2 (fun o : Tm ⊕ List Tm × Nat => sevE S0 L deep s (0, st', o)) (fun o => accS o = l) rfl ?_ ?_
  · refine R_loop (sevE S0 L deep s) (fun x => manyR L T x.1 deep x.2.1 (accS x.2.2) = some (l, st') ∧ RInv L x.2.1 ∧ (accS x.2.2).length + x.1 ≤ L.length + 3) (fun x => x.1) (L.length + 2, st1, .inl t) ⟨h2, hG _ _ _ _ _ h1 hi, by simp [accS]; omega⟩ ⟨.refl _, .refl _, .refl _, trivial⟩ rfl ?_
    rintro ⟨f, st2, o⟩ ⟨hm, hi2, hl⟩
    simp only at hm hi2 hl
    cases f with
    | zero => cases hm
    | succ f =>
    simp only [manyR] at hm
    have hM := xMark Y S0 L hL st2 deep [44]
    cases hmk : isMk (peekR L st2) [44] with
    | false =>
      rw [hmk] at hm hM
      simp only [Bool.false_eq_true, if_false] at hm hM
      have hm := Option.some.inj hm
      obtain ⟨ha, rfl⟩ := Prod.mk.inj hm
      cases o with
      | inl t2 =>
        refine R_run hg.ok 1000 rfl rfl ?_
        refine R_callSO hg.ok hg.gup hg.wide hg.Y [0, 1] (rdX S0 L st2 deep) hM (fun _ => rfl) rfl rfl rfl rfl rfl (by rw [rdX_ren]; rfl) rfl (by rw [rdX_ren]; rfl) ?_
        refine R_run hg.ok 1000 rfl rfl ?_
        refine R_if rfl rfl (fun h => absurd h (by simp)) (fun _ => ?_) <;> refine R_run hg.ok 1000 rfl rfl ?_
        exact R_to (.inl t2) ha ⟨.refl _, .refl _, .refl _, trivial⟩ rfl
      | inr p =>
        refine R_run hg.ok 1000 rfl rfl ?_
        refine R_callSO hg.ok hg.gup hg.wide hg.Y [0, 1] (rdX S0 L st2 deep ++ [.arr 4 p.2 (Tm.rows p.1)]) hM (fun _ => rfl) rfl rfl rfl rfl rfl (by rw [rdX_ren]; rfl) rfl (by rw [rdX_ren]; rfl) ?_
        refine R_run hg.ok 1000 rfl rfl ?_
        refine R_if rfl rfl (fun h => absurd h (by simp)) (fun _ => ?_) <;> refine R_run hg.ok 1000 rfl rfl ?_
        exact R_to (.inr p) ha ⟨.refl _, .refl _, .refl _, trivial⟩ rfl
    | true =>
      rw [hmk] at hm hM
      simp only [if_true] at hm hM
      obtain ⟨⟨x, st3⟩, hx, hm⟩ := Option.bind_eq_some_iff.1 hm
      have hi3 := hi2.nx (isMk_lt hmk).2
      have hc := hT deep 999 (nxR st2) x st3 hx hd hi3
      have hi4 := hG _ _ _ _ _ hx hi3
      cases o with
      | inl t2 =>
        refine R_run hg.ok 1000 rfl rfl ?_
        refine R_callSO hg.ok hg.gup hg.wide hg.Y [0, 1] (rdX S0 L (nxR st2) deep) hM (fun _ => rfl) rfl rfl rfl rfl rfl (by rw [rdX_ren]; rfl) rfl (by rw [rdX_ren]; rfl) ?_
        refine R_run hg.ok 1000 rfl rfl ?_
        refine R_if rfl rfl (fun _ => ?_) (fun h => absurd h (by simp)) <;> refine R_run hg.ok 1000 rfl rfl ?_
        refine R_callSO hg.ok hg.gup hg.wide hg.Y [0, 1] (rdX S0 L st3 deep) hc (fun _ => rfl) rfl rfl rfl rfl rfl (by rw [rdX_ren]; rfl) rfl (by rw [rdX_ren]; rfl) ?_
        refine R_run hg.ok 1000 rfl rfl ?_
        refine R_appendF hg.ok rfl rfl (.inl rfl) rfl (.inr (by simp)) rfl rfl rfl (by simp [rwT]) (by simp) (by simp) (by simp) ?_
        refine R_run hg.ok 1000 rfl rfl ?_
        exact R_next (f, st3, .inr ([t2] ++ [x], 0)) ⟨hm, hi4, by simp [accS] at hl ⊢; omega⟩ (by simp only; omega) ⟨.refl _, .refl _, .refl _, trivial⟩ (congrArg (fun r => rdX S0 L st3 deep ++ [Ob.arr 4 0 r]) (rwT_snoc [t2] x))
      | inr p =>
        refine R_run hg.ok 1000 rfl rfl ?_
        refine R_callSO hg.ok hg.gup hg.wide hg.Y [0, 1] (rdX S0 L (nxR st2) deep ++ [.arr 4 p.2 (Tm.rows p.1)]) hM (fun _ => rfl) rfl rfl rfl rfl rfl (by rw [rdX_ren]; rfl) rfl (by rw [rdX_ren]; rfl) ?_
        refine R_run hg.ok 1000 rfl rfl ?_
        refine R_if rfl rfl (fun _ => ?_) (fun h => absurd h (by simp)) <;> refine R_run hg.ok 1000 rfl rfl ?_
        refine R_callSO hg.ok hg.gup hg.wide hg.Y [0, 1] (rdX S0 L st3 deep ++ [.arr 4 p.2 (Tm.rows p.1)]) hc (fun _ => rfl) rfl rfl rfl rfl rfl (by rw [rdX_ren]; rfl) rfl (by rw [rdX_ren]; rfl) ?_
        refine R_run hg.ok 1000 rfl rfl ?_
        have hpl : (Tm.rows p.1).length = p.1.length := Tm.rows_length _
        simp only [accS] at hl
        refine R_appendO hg.ok (Tm.rows (p.1 ++ [x])) rfl rfl rfl rfl rfl rfl rfl rfl rfl (by simp) (by simp [one1]) (rwT_snoc2 p.1 x) (by simp; omega) (by simp; omega) ?_
        refine R_run hg.ok 1000 rfl rfl ?_
        exact R_next (f, st3, .inr (p.1 ++ [x], p.2 + 1)) ⟨hm, hi4, by simp [accS]; omega⟩ (by simp only; omega) ⟨.refl _, .refl _, .refl _, trivial⟩ rfl
  rintro o ho
  cases o with
  | inl t2 =>
    refine R_run hg.ok 1000 rfl rfl ?_
    refine R_callSO hg.ok hg.gup hg.wide hg.Y [0, 1] (rdX S0 L (mustR L S0.length st' s) deep) (xMust Y S0 L hL st' deep s) (fun _ => rfl) rfl rfl rfl rfl rfl (by rw [rdX_ren]; rfl) rfl (by rw [rdX_ren]; rfl) ?_
    refine R_run hg.ok 1000 rfl rfl ?_
    have hr : Tm.rows l = [rwT t2] := by rw [← ho, ← rwT_rows]; rfl
    rw [hr]
    exact R_retS hg 2 5 (Nat.le_refl _) rfl rfl (hk _ _)
  | inr p =>
    obtain rfl : p.1 = l := ho
    refine R_run hg.ok 1000 rfl rfl ?_
    refine R_callSO hg.ok hg.gup hg.wide hg.Y [0, 1] (rdX S0 L (mustR L S0.length st' s) deep ++ [.arr 4 p.2 (Tm.rows p.1)]) (xMust Y S0 L hL st' deep s) (fun _ => rfl) rfl rfl rfl rfl rfl (by rw [rdX_ren]; rfl) rfl (by rw [rdX_ren]; rfl) ?_
    refine R_run hg.ok 1000 rfl rfl ?_
    exact R_retS hg 2 5 (Nat.le_refl _) rfl (sealT_ow rfl rfl) (hk _ _)
end Go.Proofs.Ythdpfglpdgmphaa

namespace Go.Proofs.Ythdpfglpdgmphaa
open Go PSL Go.Proofs

/-- A box that holds a term. -/
def bxT (t : Tm) : Ob := .box [.d (.v (.int .i64 t.k)), .d (.v (.string t.s)), .d (.v (.int .i64 t.n)), .d (.sl (Tm.rows t.l))]
def bxN : Ob := .box [.d (.v (.int .i64 3)), .d (.v (.string ⟨#[91, 93]⟩)), .d (.v (.int .i64 0)), .d (.v (.slice none 0 0))]
def boxZ : Ob := .box [.d (.v (.int .i64 0)), .d (.v (.string ByteArray.empty)), .d (.v (.int .i64 0)), .d (.v (.slice none 0 0))]
theorem Ent.tblFrz (i s : Nat) (rows : List (List D)) (b : Bool) : Ent (frzA i s rows (tblV b)) (tblV b) := by cases b <;> exact .refl _
theorem bxT_fn (s : Bs) (l : List Tm) : bxT (fnT s l) = .box [.d (.v (.int .i64 3)), .d (.v (.string (Tx s))), .d (.v (.int .i64 0)), .d (.sl (Tm.rows l))] := rfl

def lstE (S0 : Bs) (L : List Tk) (deep : Int) : (Nat × RSt × (Tm ⊕ List Tm × Nat)) → Env × List Ob
  | (_, st, .inl t) => ([(0, .lo 0 0), (2, .lo 2 0), (3, .fs [rwT t])], rdX S0 L st deep ++ [boxZ])
  | (_, st, .inr p) => ([(0, .lo 0 0), (2, .lo 2 0), (3, .ow 3 p.2)], rdX S0 L st deep ++ [boxZ, .arr 4 p.2 (Tm.rows p.1)])

set_option maxRecDepth 100000 in
theorem rdList_ok (Y : YP) (S0 : Bs) (L : List Tk) (hL : L.length ≤ 9000) {T : TF} (hT : TCtr Y S0 L T) (hG : TGood L T) (deep : Nat) (hd : deep ≤ 1000) (st : RSt) (hi : RInv L st) (t : Tm) (st' : RSt) (h : listR S0 L T deep st = some (t, st')) :
    SCtr Try.prog Y 81 [.lo 0 0] (rdX S0 L st deep) t.av (rdX S0 L st' deep) := by
  obtain ⟨⟨l, st1⟩, h0, h2⟩ := Option.bind_eq_some_iff.1 h
  obtain ⟨⟨t0, st0⟩, h1, h3⟩ := Option.bind_eq_some_iff.1 h0
  simp only at h2 h3
  refine SCtr.of_R (pf := fun _ => .eff) tyOk mixed Try.func81 rfl (by kernel_rfl) (by kernel_rfl) (by simp [Try.ntmps81]) (by simp [rdX, rdO, robj]) fun w S φ hg => ?_
  have hk : ∀ (st : RSt) (o : List Ob), (rdX S0 L st deep).map (mapOb (sealT false 2 o 5)) = rdX S0 L st deep := fun st o => rdX_keep _ _ _ _ _ _ (Nat.le_refl _)
  refine R_run hg.ok 1000 rfl rfl ?_
  refine R_callSO hg.ok hg.gup hg.wide hg.Y [0, 1] (rdX S0 L st0 deep ++ [boxZ]) (hT deep 999 st t0 st0 h1 hd hi) (fun _ => rfl) rfl rfl rfl rfl rfl (by rw [rdX_ren]; rfl) rfl (by rw [rdX_ren]; rfl) ?_
  refine R_run hg.ok 1000 rfl rfl ?_
  refine R_cut2 (fun o : Tm ⊕ List Tm × Nat => lstE S0 L deep (0, st1, o)) (fun o => accS o = l ∧ RInv L st1 ∧ l.length ≤ L.length + 3) rfl ?_ ?_
  · refine R_loop (lstE S0 L deep) (fun x => manyR L T x.1 deep x.2.1 (accS x.2.2) = some (l, st1) ∧ RInv L x.2.1 ∧ (accS x.2.2).length + x.1 ≤ L.length + 3) (fun x => x.1) (L.length + 2, st0, .inl t0) ⟨h3, hG _ _ _ _ _ h1 hi, by simp [accS]; omega⟩ ⟨.refl _, .refl _, .refl _, trivial⟩ rfl ?_
    rintro ⟨f, st2, o⟩ ⟨hm, hi2, hl⟩
    simp only at hm hi2 hl
    cases f with
    | zero => cases hm
    | succ f =>
    simp only [manyR] at hm
    have hM := xMark Y S0 L hL st2 deep [44]
    cases hmk : isMk (peekR L st2) [44] with
    | false =>
      rw [hmk] at hm hM
      simp only [Bool.false_eq_true, if_false] at hm hM
      have hm := Option.some.inj hm
      obtain ⟨ha, rfl⟩ := Prod.mk.inj hm
      have hll : l.length ≤ L.length + 3 := by rw [← ha]; omega
      cases o with
      | inl t2 =>
        refine R_run hg.ok 1000 rfl rfl ?_
        refine R_callSO hg.ok hg.gup hg.wide hg.Y [0, 1] (rdX S0 L st2 deep ++ [boxZ]) (hM) (fun _ => rfl) rfl rfl rfl rfl rfl (by rw [rdX_ren]; rfl) rfl (by rw [rdX_ren]; rfl) ?_
        refine R_run hg.ok 1000 rfl rfl ?_
        refine R_if rfl rfl (fun h => absurd h (by simp)) (fun _ => ?_) <;> refine R_run hg.ok 1000 rfl rfl ?_
        exact R_to (.inl t2) ⟨ha, hi2, hll⟩ ⟨.refl _, .refl _, .refl _, trivial⟩ rfl
      | inr p =>
        refine R_run hg.ok 1000 rfl rfl ?_
        refine R_callSO hg.ok hg.gup hg.wide hg.Y [0, 1] (rdX S0 L st2 deep ++ [boxZ, .arr 4 p.2 (Tm.rows p.1)]) (hM) (fun _ => rfl) rfl rfl rfl rfl rfl (by rw [rdX_ren]; rfl) rfl (by rw [rdX_ren]; rfl) ?_
        refine R_run hg.ok 1000 rfl rfl ?_
        refine R_if rfl rfl (fun h => absurd h (by simp)) (fun _ => ?_) <;> refine R_run hg.ok 1000 rfl rfl ?_
        exact R_to (.inr p) ⟨ha, hi2, hll⟩ ⟨.refl _, .refl _, .refl _, trivial⟩ rfl
    | true =>
      rw [hmk] at hm hM
      simp only [if_true] at hm hM
      obtain ⟨⟨x, st3⟩, hx, hm⟩ := Option.bind_eq_some_iff.1 hm
      have hi3 := hi2.nx (isMk_lt hmk).2
      have hc := hT deep 999 (nxR st2) x st3 hx hd hi3
      have hi4 := hG _ _ _ _ _ hx hi3
      cases o with
      | inl t2 =>
        refine R_run hg.ok 1000 rfl rfl ?_
        refine R_callSO hg.ok hg.gup hg.wide hg.Y [0, 1] (rdX S0 L (nxR st2) deep ++ [boxZ]) (hM) (fun _ => rfl) rfl rfl rfl rfl rfl (by rw [rdX_ren]; rfl) rfl (by rw [rdX_ren]; rfl) ?_
        refine R_run hg.ok 1000 rfl rfl ?_
        refine R_if rfl rfl (fun _ => ?_) (fun h => absurd h (by simp)) <;> refine R_run hg.ok 1000 rfl rfl ?_
        refine R_callSO hg.ok hg.gup hg.wide hg.Y [0, 1] (rdX S0 L st3 deep ++ [boxZ]) (hc) (fun _ => rfl) rfl rfl rfl rfl rfl (by rw [rdX_ren]; rfl) rfl (by rw [rdX_ren]; rfl) ?_
        refine R_run hg.ok 1000 rfl rfl ?_
        refine R_appendF hg.ok rfl rfl (.inl rfl) rfl (.inr (by simp)) rfl rfl rfl (by simp [rwT]) (by simp) (by simp) (by simp) ?_
        refine R_run hg.ok 1000 rfl rfl ?_
        exact R_next (f, st3, .inr ([t2] ++ [x], 0)) ⟨hm, hi4, by simp [accS] at hl ⊢; omega⟩ (by simp only; omega) ⟨.refl _, .refl _, .refl _, trivial⟩ (congrArg (fun r => rdX S0 L st3 deep ++ [boxZ, Ob.arr 4 0 r]) (rwT_snoc [t2] x))
      | inr p =>
        refine R_run hg.ok 1000 rfl rfl ?_
        refine R_callSO hg.ok hg.gup hg.wide hg.Y [0, 1] (rdX S0 L (nxR st2) deep ++ [boxZ, .arr 4 p.2 (Tm.rows p.1)]) (hM) (fun _ => rfl) rfl rfl rfl rfl rfl (by rw [rdX_ren]; rfl) rfl (by rw [rdX_ren]; rfl) ?_
        refine R_run hg.ok 1000 rfl rfl ?_
        refine R_if rfl rfl (fun _ => ?_) (fun h => absurd h (by simp)) <;> refine R_run hg.ok 1000 rfl rfl ?_
        refine R_callSO hg.ok hg.gup hg.wide hg.Y [0, 1] (rdX S0 L st3 deep ++ [boxZ, .arr 4 p.2 (Tm.rows p.1)]) (hc) (fun _ => rfl) rfl rfl rfl rfl rfl (by rw [rdX_ren]; rfl) rfl (by rw [rdX_ren]; rfl) ?_
        refine R_run hg.ok 1000 rfl rfl ?_
        have hpl : (Tm.rows p.1).length = p.1.length := Tm.rows_length _
        simp only [accS] at hl
        refine R_appendO hg.ok (Tm.rows (p.1 ++ [x])) rfl rfl rfl rfl rfl rfl rfl rfl rfl (by simp) (by simp [one1]) (rwT_snoc2 p.1 x) (by simp; omega) (by simp; omega) ?_
        refine R_run hg.ok 1000 rfl rfl ?_
        exact R_next (f, st3, .inr (p.1 ++ [x], p.2 + 1)) ⟨hm, hi4, by simp [accS]; omega⟩ (by simp only; omega) ⟨.refl _, .refl _, .refl _, trivial⟩ rfl
  rintro o ⟨ho, hi1, hll⟩
  cases o with
  | inl t2 =>
    have hr : Tm.rows l = [rwT t2] := by rw [← ho, ← rwT_rows]; rfl
    refine R_see 3 rfl (v' := .d (.sl (Tm.rows l))) (by rw [hr]; exact Ent.fs _) ?_
    have hM := xMark Y S0 L hL st1 deep [124]
    cases hmk : isMk (peekR L st1) [124] with
    | true =>
      rw [hmk] at h2 hM
      simp only [if_true] at h2 hM
      refine R_run hg.ok 1000 rfl rfl ?_
      refine R_callSO hg.ok hg.gup hg.wide hg.Y [0, 1] (rdX S0 L (nxR st1) deep ++ [boxZ, bxN]) (hM) (fun _ => rfl) rfl rfl rfl rfl rfl (by rw [rdX_ren]; rfl) rfl (by rw [rdX_ren]; rfl) ?_
      refine R_run hg.ok 1000 rfl rfl ?_
      obtain ⟨⟨y, st2⟩, hy, h2⟩ := Option.map_eq_some_iff.1 h2
      obtain ⟨rfl, rfl⟩ := Prod.mk.inj h2
      have hi2 := hi1.nx (isMk_lt hmk).2
      refine R_if rfl rfl (fun _ => ?_) (fun h => absurd h (by simp)) <;> refine R_run hg.ok 1000 rfl rfl ?_
      refine R_callSO hg.ok hg.gup hg.wide hg.Y [0, 1] (rdX S0 L (st2) deep ++ [boxZ, bxN]) (hT deep 999 (nxR st1) y st2 hy hd hi2) (fun _ => rfl) rfl rfl rfl rfl rfl (by rw [rdX_ren]; rfl) rfl (by rw [rdX_ren]; rfl) ?_
      refine R_run hg.ok 1000 rfl rfl ?_
      refine R_callSO hg.ok hg.gup hg.wide hg.Y [0, 1] (rdX S0 L (mustR L S0.length st2 [93]) deep ++ [boxZ, bxT (y)]) (xMust Y S0 L hL st2 deep [93]) (fun _ => rfl) rfl rfl rfl rfl rfl (by rw [rdX_ren]; rfl) rfl (by rw [rdX_ren]; rfl) ?_
      refine R_run hg.ok 1000 rfl rfl ?_
      refine R_see 5 rfl (v' := iV ((l.length : Int) - 1)) (Ent.wrap (by rw [Tm.rows_length]) (by omega) (by omega)) ?_
      refine R_cut2 (fun _ : Unit => ([(2, .lo 2 0), (4, .lo 3 0)], rdX S0 L (mustR L S0.length st2 [93]) deep ++ [boxZ, bxT (consT l (y))])) (fun _ => True) rfl ?_ ?_
      · refine R_loop (fun n : Nat => ([(2, .lo 2 0), (3, .d (.sl (Tm.rows l))), (4, .lo 3 0), (5, iV ((n : Int) - 1))], rdX S0 L (mustR L S0.length st2 [93]) deep ++ [boxZ, bxT (consT (l.drop n) (y))])) (fun n => n ≤ l.length) (fun n => n) l.length (Nat.le_refl _) ⟨.refl _, .refl _, .refl _, .refl _, trivial⟩ (by rw [List.drop_length]; rfl) ?_
        intro n hn
        refine R_run hg.ok 1000 rfl rfl ?_
        refine R_if rfl rfl (fun h => ?_) (fun h => ?_) <;> refine R_run hg.ok 1000 rfl rfl ?_
        · have hn0 : 0 < n := by have := of_decide_eq_true h; omega
          obtain ⟨n, rfl⟩ : ∃ m, n = m + 1 := ⟨n - 1, by omega⟩
          have hlt : n < l.length := hn
          have hdr : l.drop n = l[n] :: l.drop (n + 1) := List.drop_eq_getElem_cons hlt
          have hix : (Tm.rows l)[n]? = some (rwT l[n]) := by rw [← rwT_rows]; simp [hlt]
          generalize l[n] = a at hdr hix
          refine R_index hg.ok rfl rfl rfl rfl rfl rfl (by omega) (by rw [show (((n + 1 : Nat) : Int) - 1).toNat = n by omega]; exact hix) rfl ?_
          have hcons : consT (a :: l.drop (n + 1)) (y) = fnT [46] [a, consT (l.drop (n + 1)) (y)] := rfl
          have ha : Ob.box [.d (.v (.int .i64 3)), .d (.v (.string ⟨#[46]⟩)), .d (.v (.int .i64 0)), .d (.sl [rwT a, rwT (consT (l.drop (n + 1)) (y))])] = bxT (consT (l.drop n) (y)) := by rw [hdr, hcons, bxT_fn, ← rwT_rows]; rfl
          first
          | (refine R_run hg.ok 1 rfl rfl ?_; refine R_obs (rdX S0 L (mustR L S0.length st2 [93]) deep ++ [boxZ, .box [.d (.v (.int .i64 3)), .d (.v (.string ⟨#[46]⟩)), .d (.v (.int .i64 0)), .d (.sl [rwT a, rwT (consT (l.drop (n + 1)) (y))])]]) ⟨.refl _, .refl _, .refl _, ⟨.refl _, .refl _, .refl _, Ent.fs _, trivial⟩, trivial⟩ rfl ?_)
          | (refine R_run hg.ok 2 rfl rfl ?_; refine R_obs (rdX S0 L (mustR L S0.length st2 [93]) deep ++ [boxZ, .box [.d (.v (.int .i64 3)), .d (.v (.string ⟨#[46]⟩)), .d (.v (.int .i64 0)), .d (.sl [rwT a, rwT (consT (l.drop (n + 1)) (y))])]]) ⟨.refl _, .refl _, .refl _, ⟨.refl _, .refl _, .refl _, Ent.fs _, trivial⟩, trivial⟩ rfl ?_)
          | (refine R_run hg.ok 3 rfl rfl ?_; refine R_obs (rdX S0 L (mustR L S0.length st2 [93]) deep ++ [boxZ, .box [.d (.v (.int .i64 3)), .d (.v (.string ⟨#[46]⟩)), .d (.v (.int .i64 0)), .d (.sl [rwT a, rwT (consT (l.drop (n + 1)) (y))])]]) ⟨.refl _, .refl _, .refl _, ⟨.refl _, .refl _, .refl _, Ent.fs _, trivial⟩, trivial⟩ rfl ?_)
          | (refine R_run hg.ok 6 rfl rfl ?_; refine R_obs (rdX S0 L (mustR L S0.length st2 [93]) deep ++ [boxZ, .box [.d (.v (.int .i64 3)), .d (.v (.string ⟨#[46]⟩)), .d (.v (.int .i64 0)), .d (.sl [rwT a, rwT (consT (l.drop (n + 1)) (y))])]]) ⟨.refl _, .refl _, .refl _, ⟨.refl _, .refl _, .refl _, Ent.fs _, trivial⟩, trivial⟩ rfl ?_)
          rw [ha]
          refine R_run hg.ok 1000 rfl rfl ?_
          exact R_next n (by omega) (by omega) ⟨.refl _, .refl _, .refl _, Ent.wrap (by omega) (by omega) (by omega), trivial⟩ rfl
        · have hn0 : n = 0 := by have := of_decide_eq_false h; omega
          subst hn0
          exact R_to () trivial ⟨.refl _, .refl _, trivial⟩ rfl
      rintro _ _
      refine R_run hg.ok 1000 rfl rfl ?_
      exact R_retS hg 2 5 (Nat.le_refl _) rfl rfl (hk _ _)
    | false =>
      rw [hmk] at h2 hM
      simp only [Bool.false_eq_true, if_false] at h2 hM
      refine R_run hg.ok 1000 rfl rfl ?_
      refine R_callSO hg.ok hg.gup hg.wide hg.Y [0, 1] (rdX S0 L (st1) deep ++ [boxZ, bxN]) (hM) (fun _ => rfl) rfl rfl rfl rfl rfl (by rw [rdX_ren]; rfl) rfl (by rw [rdX_ren]; rfl) ?_
      refine R_run hg.ok 1000 rfl rfl ?_
      have h2 := Option.some.inj h2
      obtain ⟨rfl, rfl⟩ := Prod.mk.inj h2
      refine R_if rfl rfl (fun h => absurd h (by simp)) (fun _ => ?_) <;> refine R_run hg.ok 1000 rfl rfl ?_
      refine R_callSO hg.ok hg.gup hg.wide hg.Y [0, 1] (rdX S0 L (mustR L S0.length st1 [93]) deep ++ [boxZ, bxN]) (xMust Y S0 L hL st1 deep [93]) (fun _ => rfl) rfl rfl rfl rfl rfl (by rw [rdX_ren]; rfl) rfl (by rw [rdX_ren]; rfl) ?_
      refine R_run hg.ok 1000 rfl rfl ?_
      refine R_obs (rdX S0 L (mustR L S0.length st1 [93]) deep ++ [boxZ, bxT (fnT [91, 93] [])]) ⟨.refl _, .refl _, .refl _, ⟨.refl _, .refl _, .refl _, Ent.nil, trivial⟩, trivial⟩ rfl ?_
      refine R_see 5 rfl (v' := iV ((l.length : Int) - 1)) (Ent.wrap (by rw [Tm.rows_length]) (by omega) (by omega)) ?_
      refine R_cut2 (fun _ : Unit => ([(2, .lo 2 0), (4, .lo 3 0)], rdX S0 L (mustR L S0.length st1 [93]) deep ++ [boxZ, bxT (consT l (fnT [91, 93] []))])) (fun _ => True) rfl ?_ ?_
      · refine R_loop (fun n : Nat => ([(2, .lo 2 0), (3, .d (.sl (Tm.rows l))), (4, .lo 3 0), (5, iV ((n : Int) - 1))], rdX S0 L (mustR L S0.length st1 [93]) deep ++ [boxZ, bxT (consT (l.drop n) (fnT [91, 93] []))])) (fun n => n ≤ l.length) (fun n => n) l.length (Nat.le_refl _) ⟨.refl _, .refl _, .refl _, .refl _, trivial⟩ (by rw [List.drop_length]; rfl) ?_
        intro n hn
        refine R_run hg.ok 1000 rfl rfl ?_
        refine R_if rfl rfl (fun h => ?_) (fun h => ?_) <;> refine R_run hg.ok 1000 rfl rfl ?_
        · have hn0 : 0 < n := by have := of_decide_eq_true h; omega
          obtain ⟨n, rfl⟩ : ∃ m, n = m + 1 := ⟨n - 1, by omega⟩
          have hlt : n < l.length := hn
          have hdr : l.drop n = l[n] :: l.drop (n + 1) := List.drop_eq_getElem_cons hlt
          have hix : (Tm.rows l)[n]? = some (rwT l[n]) := by rw [← rwT_rows]; simp [hlt]
          generalize l[n] = a at hdr hix
          refine R_index hg.ok rfl rfl rfl rfl rfl rfl (by omega) (by rw [show (((n + 1 : Nat) : Int) - 1).toNat = n by omega]; exact hix) rfl ?_
          have hcons : consT (a :: l.drop (n + 1)) (fnT [91, 93] []) = fnT [46] [a, consT (l.drop (n + 1)) (fnT [91, 93] [])] := rfl
          have ha : Ob.box [.d (.v (.int .i64 3)), .d (.v (.string ⟨#[46]⟩)), .d (.v (.int .i64 0)), .d (.sl [rwT a, rwT (consT (l.drop (n + 1)) (fnT [91, 93] []))])] = bxT (consT (l.drop n) (fnT [91, 93] [])) := by rw [hdr, hcons, bxT_fn, ← rwT_rows]; rfl
          first
          | (refine R_run hg.ok 1 rfl rfl ?_; refine R_obs (rdX S0 L (mustR L S0.length st1 [93]) deep ++ [boxZ, .box [.d (.v (.int .i64 3)), .d (.v (.string ⟨#[46]⟩)), .d (.v (.int .i64 0)), .d (.sl [rwT a, rwT (consT (l.drop (n + 1)) (fnT [91, 93] []))])]]) ⟨.refl _, .refl _, .refl _, ⟨.refl _, .refl _, .refl _, Ent.fs _, trivial⟩, trivial⟩ rfl ?_)
          | (refine R_run hg.ok 2 rfl rfl ?_; refine R_obs (rdX S0 L (mustR L S0.length st1 [93]) deep ++ [boxZ, .box [.d (.v (.int .i64 3)), .d (.v (.string ⟨#[46]⟩)), .d (.v (.int .i64 0)), .d (.sl [rwT a, rwT (consT (l.drop (n + 1)) (fnT [91, 93] []))])]]) ⟨.refl _, .refl _, .refl _, ⟨.refl _, .refl _, .refl _, Ent.fs _, trivial⟩, trivial⟩ rfl ?_)
          | (refine R_run hg.ok 3 rfl rfl ?_; refine R_obs (rdX S0 L (mustR L S0.length st1 [93]) deep ++ [boxZ, .box [.d (.v (.int .i64 3)), .d (.v (.string ⟨#[46]⟩)), .d (.v (.int .i64 0)), .d (.sl [rwT a, rwT (consT (l.drop (n + 1)) (fnT [91, 93] []))])]]) ⟨.refl _, .refl _, .refl _, ⟨.refl _, .refl _, .refl _, Ent.fs _, trivial⟩, trivial⟩ rfl ?_)
          | (refine R_run hg.ok 6 rfl rfl ?_; refine R_obs (rdX S0 L (mustR L S0.length st1 [93]) deep ++ [boxZ, .box [.d (.v (.int .i64 3)), .d (.v (.string ⟨#[46]⟩)), .d (.v (.int .i64 0)), .d (.sl [rwT a, rwT (consT (l.drop (n + 1)) (fnT [91, 93] []))])]]) ⟨.refl _, .refl _, .refl _, ⟨.refl _, .refl _, .refl _, Ent.fs _, trivial⟩, trivial⟩ rfl ?_)
          rw [ha]
          refine R_run hg.ok 1000 rfl rfl ?_
          exact R_next n (by omega) (by omega) ⟨.refl _, .refl _, .refl _, Ent.wrap (by omega) (by omega) (by omega), trivial⟩ rfl
        · have hn0 : n = 0 := by have := of_decide_eq_false h; omega
          subst hn0
          exact R_to () trivial ⟨.refl _, .refl _, trivial⟩ rfl
      rintro _ _
      refine R_run hg.ok 1000 rfl rfl ?_
      exact R_retS hg 2 5 (Nat.le_refl _) rfl rfl (hk _ _)
  | inr p =>
    obtain ⟨l', j⟩ := p
    have ho : l = l' := ho.symm
    subst ho
    refine R_freezeO hg.gup 3 [(0, .lo 0 0), (2, .lo 2 0), (3, .d (.sl (Tm.rows l)))] (rdX S0 L st1 deep ++ [boxZ, .dead]) rfl rfl ⟨.refl _, .refl _, Ent.frz 3 j _, trivial⟩ ⟨⟨.refl _, .refl _, .refl _, .refl _, .refl _, .refl _, .refl _, .refl _, .refl _, .refl _, Ent.tblFrz 3 j _ st1.lay, trivial⟩, rfl, ⟨.refl _, .refl _, .refl _, .refl _, trivial⟩, by simp [ObIn], trivial⟩ ?_
    have hM := xMark Y S0 L hL st1 deep [124]
    cases hmk : isMk (peekR L st1) [124] with
    | true =>
      rw [hmk] at h2 hM
      simp only [if_true] at h2 hM
      refine R_run hg.ok 1000 rfl rfl ?_
      refine R_callSO hg.ok hg.gup hg.wide hg.Y [0, 1] (rdX S0 L (nxR st1) deep ++ [boxZ, .dead, bxN]) (hM) (fun _ => rfl) rfl rfl rfl rfl rfl (by rw [rdX_ren]; rfl) rfl (by rw [rdX_ren]; rfl) ?_
      refine R_run hg.ok 1000 rfl rfl ?_
      obtain ⟨⟨y, st2⟩, hy, h2⟩ := Option.map_eq_some_iff.1 h2
      obtain ⟨rfl, rfl⟩ := Prod.mk.inj h2
      have hi2 := hi1.nx (isMk_lt hmk).2
      refine R_if rfl rfl (fun _ => ?_) (fun h => absurd h (by simp)) <;> refine R_run hg.ok 1000 rfl rfl ?_
      refine R_callSO hg.ok hg.gup hg.wide hg.Y [0, 1] (rdX S0 L (st2) deep ++ [boxZ, .dead, bxN]) (hT deep 999 (nxR st1) y st2 hy hd hi2) (fun _ => rfl) rfl rfl rfl rfl rfl (by rw [rdX_ren]; rfl) rfl (by rw [rdX_ren]; rfl) ?_
      refine R_run hg.ok 1000 rfl rfl ?_
      refine R_callSO hg.ok hg.gup hg.wide hg.Y [0, 1] (rdX S0 L (mustR L S0.length st2 [93]) deep ++ [boxZ, .dead, bxT (y)]) (xMust Y S0 L hL st2 deep [93]) (fun _ => rfl) rfl rfl rfl rfl rfl (by rw [rdX_ren]; rfl) rfl (by rw [rdX_ren]; rfl) ?_
      refine R_run hg.ok 1000 rfl rfl ?_
      refine R_see 5 rfl (v' := iV ((l.length : Int) - 1)) (Ent.wrap (by rw [Tm.rows_length]) (by omega) (by omega)) ?_
      refine R_cut2 (fun _ : Unit => ([(2, .lo 2 0), (4, .lo 4 0)], rdX S0 L (mustR L S0.length st2 [93]) deep ++ [boxZ, .dead, bxT (consT l (y))])) (fun _ => True) rfl ?_ ?_
      · refine R_loop (fun n : Nat => ([(2, .lo 2 0), (3, .d (.sl (Tm.rows l))), (4, .lo 4 0), (5, iV ((n : Int) - 1))], rdX S0 L (mustR L S0.length st2 [93]) deep ++ [boxZ, .dead, bxT (consT (l.drop n) (y))])) (fun n => n ≤ l.length) (fun n => n) l.length (Nat.le_refl _) ⟨.refl _, .refl _, .refl _, .refl _, trivial⟩ (by rw [List.drop_length]; rfl) ?_
        intro n hn
        refine R_run hg.ok 1000 rfl rfl ?_
        refine R_if rfl rfl (fun h => ?_) (fun h => ?_) <;> refine R_run hg.ok 1000 rfl rfl ?_
        · have hn0 : 0 < n := by have := of_decide_eq_true h; omega
          obtain ⟨n, rfl⟩ : ∃ m, n = m + 1 := ⟨n - 1, by omega⟩
          have hlt : n < l.length := hn
          have hdr : l.drop n = l[n] :: l.drop (n + 1) := List.drop_eq_getElem_cons hlt
          have hix : (Tm.rows l)[n]? = some (rwT l[n]) := by rw [← rwT_rows]; simp [hlt]
          generalize l[n] = a at hdr hix
          refine R_index hg.ok rfl rfl rfl rfl rfl rfl (by omega) (by rw [show (((n + 1 : Nat) : Int) - 1).toNat = n by omega]; exact hix) rfl ?_
          have hcons : consT (a :: l.drop (n + 1)) (y) = fnT [46] [a, consT (l.drop (n + 1)) (y)] := rfl
          have ha : Ob.box [.d (.v (.int .i64 3)), .d (.v (.string ⟨#[46]⟩)), .d (.v (.int .i64 0)), .d (.sl [rwT a, rwT (consT (l.drop (n + 1)) (y))])] = bxT (consT (l.drop n) (y)) := by rw [hdr, hcons, bxT_fn, ← rwT_rows]; rfl
          first
          | (refine R_run hg.ok 1 rfl rfl ?_; refine R_obs (rdX S0 L (mustR L S0.length st2 [93]) deep ++ [boxZ, .dead, .box [.d (.v (.int .i64 3)), .d (.v (.string ⟨#[46]⟩)), .d (.v (.int .i64 0)), .d (.sl [rwT a, rwT (consT (l.drop (n + 1)) (y))])]]) ⟨.refl _, .refl _, .refl _, .refl _, ⟨.refl _, .refl _, .refl _, Ent.fs _, trivial⟩, trivial⟩ rfl ?_)
          | (refine R_run hg.ok 2 rfl rfl ?_; refine R_obs (rdX S0 L (mustR L S0.length st2 [93]) deep ++ [boxZ, .dead, .box [.d (.v (.int .i64 3)), .d (.v (.string ⟨#[46]⟩)), .d (.v (.int .i64 0)), .d (.sl [rwT a, rwT (consT (l.drop (n + 1)) (y))])]]) ⟨.refl _, .refl _, .refl _, .refl _, ⟨.refl _, .refl _, .refl _, Ent.fs _, trivial⟩, trivial⟩ rfl ?_)
          | (refine R_run hg.ok 3 rfl rfl ?_; refine R_obs (rdX S0 L (mustR L S0.length st2 [93]) deep ++ [boxZ, .dead, .box [.d (.v (.int .i64 3)), .d (.v (.string ⟨#[46]⟩)), .d (.v (.int .i64 0)), .d (.sl [rwT a, rwT (consT (l.drop (n + 1)) (y))])]]) ⟨.refl _, .refl _, .refl _, .refl _, ⟨.refl _, .refl _, .refl _, Ent.fs _, trivial⟩, trivial⟩ rfl ?_)
          | (refine R_run hg.ok 6 rfl rfl ?_; refine R_obs (rdX S0 L (mustR L S0.length st2 [93]) deep ++ [boxZ, .dead, .box [.d (.v (.int .i64 3)), .d (.v (.string ⟨#[46]⟩)), .d (.v (.int .i64 0)), .d (.sl [rwT a, rwT (consT (l.drop (n + 1)) (y))])]]) ⟨.refl _, .refl _, .refl _, .refl _, ⟨.refl _, .refl _, .refl _, Ent.fs _, trivial⟩, trivial⟩ rfl ?_)
          rw [ha]
          refine R_run hg.ok 1000 rfl rfl ?_
          exact R_next n (by omega) (by omega) ⟨.refl _, .refl _, .refl _, Ent.wrap (by omega) (by omega) (by omega), trivial⟩ rfl
        · have hn0 : n = 0 := by have := of_decide_eq_false h; omega
          subst hn0
          exact R_to () trivial ⟨.refl _, .refl _, trivial⟩ rfl
      rintro _ _
      refine R_run hg.ok 1000 rfl rfl ?_
      exact R_retS hg 2 5 (Nat.le_refl _) rfl rfl (hk _ _)
    | false =>
      rw [hmk] at h2 hM
      simp only [Bool.false_eq_true, if_false] at h2 hM
      refine R_run hg.ok 1000 rfl rfl ?_
      refine R_callSO hg.ok hg.gup hg.wide hg.Y [0, 1] (rdX S0 L (st1) deep ++ [boxZ, .dead, bxN]) (hM) (fun _ => rfl) rfl rfl rfl rfl rfl (by rw [rdX_ren]; rfl) rfl (by rw [rdX_ren]; rfl) ?_
      refine R_run hg.ok 1000 rfl rfl ?_
      have h2 := Option.some.inj h2
      obtain ⟨rfl, rfl⟩ := Prod.mk.inj h2
      refine R_if rfl rfl (fun h => absurd h (by simp)) (fun _ => ?_) <;> refine R_run hg.ok 1000 rfl rfl ?_
      refine R_callSO hg.ok hg.gup hg.wide hg.Y [0, 1] (rdX S0 L (mustR L S0.length st1 [93]) deep ++ [boxZ, .dead, bxN]) (xMust Y S0 L hL st1 deep [93]) (fun _ => rfl) rfl rfl rfl rfl rfl (by rw [rdX_ren]; rfl) rfl (by rw [rdX_ren]; rfl) ?_
      refine R_run hg.ok 1000 rfl rfl ?_
      refine R_obs (rdX S0 L (mustR L S0.length st1 [93]) deep ++ [boxZ, .dead, bxT (fnT [91, 93] [])]) ⟨.refl _, .refl _, .refl _, .refl _, ⟨.refl _, .refl _, .refl _, Ent.nil, trivial⟩, trivial⟩ rfl ?_
      refine R_see 5 rfl (v' := iV ((l.length : Int) - 1)) (Ent.wrap (by rw [Tm.rows_length]) (by omega) (by omega)) ?_
      refine R_cut2 (fun _ : Unit => ([(2, .lo 2 0), (4, .lo 4 0)], rdX S0 L (mustR L S0.length st1 [93]) deep ++ [boxZ, .dead, bxT (consT l (fnT [91, 93] []))])) (fun _ => True) rfl ?_ ?_
      · refine R_loop (fun n : Nat => ([(2, .lo 2 0), (3, .d (.sl (Tm.rows l))), (4, .lo 4 0), (5, iV ((n : Int) - 1))], rdX S0 L (mustR L S0.length st1 [93]) deep ++ [boxZ, .dead, bxT (consT (l.drop n) (fnT [91, 93] []))])) (fun n => n ≤ l.length) (fun n => n) l.length (Nat.le_refl _) ⟨.refl _, .refl _, .refl _, .refl _, trivial⟩ (by rw [List.drop_length]; rfl) ?_
        intro n hn
        refine R_run hg.ok 1000 rfl rfl ?_
        refine R_if rfl rfl (fun h => ?_) (fun h => ?_) <;> refine R_run hg.ok 1000 rfl rfl ?_
        · have hn0 : 0 < n := by have := of_decide_eq_true h; omega
          obtain ⟨n, rfl⟩ : ∃ m, n = m + 1 := ⟨n - 1, by omega⟩
          have hlt : n < l.length := hn
          have hdr : l.drop n = l[n] :: l.drop (n + 1) := List.drop_eq_getElem_cons hlt
          have hix : (Tm.rows l)[n]? = some (rwT l[n]) := by rw [← rwT_rows]; simp [hlt]
          generalize l[n] = a at hdr hix
          refine R_index hg.ok rfl rfl rfl rfl rfl rfl (by omega) (by rw [show (((n + 1 : Nat) : Int) - 1).toNat = n by omega]; exact hix) rfl ?_
          have hcons : consT (a :: l.drop (n + 1)) (fnT [91, 93] []) = fnT [46] [a, consT (l.drop (n + 1)) (fnT [91, 93] [])] := rfl
          have ha : Ob.box [.d (.v (.int .i64 3)), .d (.v (.string ⟨#[46]⟩)), .d (.v (.int .i64 0)), .d (.sl [rwT a, rwT (consT (l.drop (n + 1)) (fnT [91, 93] []))])] = bxT (consT (l.drop n) (fnT [91, 93] [])) := by rw [hdr, hcons, bxT_fn, ← rwT_rows]; rfl
          first
          | (refine R_run hg.ok 1 rfl rfl ?_; refine R_obs (rdX S0 L (mustR L S0.length st1 [93]) deep ++ [boxZ, .dead, .box [.d (.v (.int .i64 3)), .d (.v (.string ⟨#[46]⟩)), .d (.v (.int .i64 0)), .d (.sl [rwT a, rwT (consT (l.drop (n + 1)) (fnT [91, 93] []))])]]) ⟨.refl _, .refl _, .refl _, .refl _, ⟨.refl _, .refl _, .refl _, Ent.fs _, trivial⟩, trivial⟩ rfl ?_)
          | (refine R_run hg.ok 2 rfl rfl ?_; refine R_obs (rdX S0 L (mustR L S0.length st1 [93]) deep ++ [boxZ, .dead, .box [.d (.v (.int .i64 3)), .d (.v (.string ⟨#[46]⟩)), .d (.v (.int .i64 0)), .d (.sl [rwT a, rwT (consT (l.drop (n + 1)) (fnT [91, 93] []))])]]) ⟨.refl _, .refl _, .refl _, .refl _, ⟨.refl _, .refl _, .refl _, Ent.fs _, trivial⟩, trivial⟩ rfl ?_)
          | (refine R_run hg.ok 3 rfl rfl ?_; refine R_obs (rdX S0 L (mustR L S0.length st1 [93]) deep ++ [boxZ, .dead, .box [.d (.v (.int .i64 3)), .d (.v (.string ⟨#[46]⟩)), .d (.v (.int .i64 0)), .d (.sl [rwT a, rwT (consT (l.drop (n + 1)) (fnT [91, 93] []))])]]) ⟨.refl _, .refl _, .refl _, .refl _, ⟨.refl _, .refl _, .refl _, Ent.fs _, trivial⟩, trivial⟩ rfl ?_)
          | (refine R_run hg.ok 6 rfl rfl ?_; refine R_obs (rdX S0 L (mustR L S0.length st1 [93]) deep ++ [boxZ, .dead, .box [.d (.v (.int .i64 3)), .d (.v (.string ⟨#[46]⟩)), .d (.v (.int .i64 0)), .d (.sl [rwT a, rwT (consT (l.drop (n + 1)) (fnT [91, 93] []))])]]) ⟨.refl _, .refl _, .refl _, .refl _, ⟨.refl _, .refl _, .refl _, Ent.fs _, trivial⟩, trivial⟩ rfl ?_)
          rw [ha]
          refine R_run hg.ok 1000 rfl rfl ?_
          exact R_next n (by omega) (by omega) ⟨.refl _, .refl _, .refl _, Ent.wrap (by omega) (by omega) (by omega), trivial⟩ rfl
        · have hn0 : n = 0 := by have := of_decide_eq_false h; omega
          subst hn0
          exact R_to () trivial ⟨.refl _, .refl _, trivial⟩ rfl
      rintro _ _
      refine R_run hg.ok 1000 rfl rfl ?_
      exact R_retS hg 2 5 (Nat.le_refl _) rfl rfl (hk _ _)
end Go.Proofs.Ythdpfglpdgmphaa

namespace Go.Proofs.Ythdpfglpdgmphaa
open Go PSL Go.Proofs
def pfNam : Nat → Cls := fun f => bif Nat.beq f 96 then .turn 3 else bif Nat.beq f 21 then .turn 3 else bif Nat.beq f 4000100067 then .look 4 else bif Nat.beq f 4000100092 then .look 4 else .eff

set_option maxRecDepth 100000 in
theorem rdNamed_ok (Y : YP) (S0 : Bs) (L : List Tk) (hL : L.length ≤ 9000) (hS : S0.length ≤ 9000) {T : TF} (hT : TCtr Y S0 L T) (hG : TGood L T) (deep : Nat) (hd : deep ≤ 1000) (st : RSt) (hi : RInv L st) (hl : st.at_ < L.length) (hpl : ∀ t ∈ L, 0 ≤ t.at_ ∧ t.at_ < S0.length ∧ 0 ≤ t.n ∧ t.n ≤ 9223372036854775807) (p : Int) (t : Tk) (ht : t ∈ L) (x : Tm × Int × RSt) (h : namedR S0 L T deep p t st = some x) :
    SCtr Try.prog Y 78 [.lo 0 0, tkA t, iV p] (rdX S0 L st deep) (.tup [x.1.av, iV x.2.1]) (rdX S0 L x.2.2 deep) := by
  refine SCtr.of_R (pf := pfNam) tyOk mixed Try.func78 rfl (by kernel_rfl) (by kernel_rfl) (by simp [Try.ntmps78]) (by simp [rdX, rdO, robj]) fun w S φ hg => ?_
  have hφ : φ.length = 2 := hg.hs0.len
  have hk : ∀ (st : RSt) (o : List Ob), (rdX S0 L st deep).map (mapOb (sealT false 2 o 5)) = rdX S0 L st deep := fun st o => rdX_keep _ _ _ _ _ _ (Nat.le_refl _)
  have hn := hi.nx hl
  have ht1 := hpl t ht
  obtain ⟨M, hM⟩ : ∃ M, M = ((t.text == [45]) && decide (S0[t.at_.toNat]? = some 45)) := ⟨_, rfl⟩
  refine R_run hg.ok 4 rfl rfl ?_
  refine R_cut1 (fun _ : Unit => ([(0, .lo 0 0), (2, iV p), (4, .lo 2 0), (6, .lo 3 0), (8, bV M)], rdX S0 L st deep ++ [tkO t, boxZ])) (fun _ => True) rfl ?_ ?_
  · have e45 : strEq (Tx t.text) ⟨#[45]⟩ = (t.text == [45]) := Tx_eq _ _
    refine R_run hg.ok 1000 rfl rfl ?_
    by_cases h45 : t.text = [45]
    · refine R_if rfl rfl (fun _ => ?_) (fun h => absurd h (by rw [e45, h45]; simp)) <;> refine R_run hg.ok 1000 rfl rfl ?_
      have hlt : t.at_.toNat < S0.length := by omega
      have e1 : S0[t.at_.toNat]? = some S0[t.at_.toNat] := List.getElem?_eq_getElem hlt
      generalize S0[t.at_.toNat] = c at e1
      rw [e1] at hM
      refine R_indexS hg.ok rfl rfl rfl rfl rfl ht1.1 (b := c) (by rw [Tx_get]; exact e1) ?_
      have hc : decide ((c.toNat : Int) = 45) = M := by
        rw [hM, h45]
        by_cases hc : c = 45
        · subst hc; rfl
        · have : ¬ (c.toNat : Int) = 45 := fun h => hc (UInt8.toNat_inj.1 (Int.ofNat_inj.1 (show ((c.toNat : Nat) : Int) = (((45 : UInt8).toNat : Nat) : Int) from h)))
          simp [hc, this]
      refine R_run hg.ok 1000 rfl rfl ?_
      exact R_to () trivial ⟨.refl _, .refl _, .refl _, .refl _, by rw [← hc]; exact .refl _, trivial⟩ rfl
    · refine R_if rfl rfl (fun h => absurd h (by rw [e45]; simpa using h45)) (fun _ => ?_) <;> refine R_run hg.ok 1000 rfl rfl ?_
      have hM : M = false := by rw [hM]; simp [h45]
      subst hM
      exact R_to () trivial ⟨.refl _, .refl _, .refl _, .refl _, by first | exact .refl _ | exact Ent.ff, trivial⟩ rfl
  rintro _ _
  first
  | (refine R_run hg.ok 1 rfl rfl ?_; refine R_rdAt (st := st) (st.at_ + 1) (rfl) (by omega) rfl ?_)
  | (refine R_run hg.ok 2 rfl rfl ?_; refine R_rdAt (st := st) (st.at_ + 1) (rfl) (by omega) rfl ?_)
  | (refine R_run hg.ok 3 rfl rfl ?_; refine R_rdAt (st := st) (st.at_ + 1) (rfl) (by omega) rfl ?_)
  | (refine R_run hg.ok 4 rfl rfl ?_; refine R_rdAt (st := st) (st.at_ + 1) (rfl) (by omega) rfl ?_)
  | (refine R_run hg.ok 5 rfl rfl ?_; refine R_rdAt (st := st) (st.at_ + 1) (rfl) (by omega) rfl ?_)
  | (refine R_run hg.ok 6 rfl rfl ?_; refine R_rdAt (st := st) (st.at_ + 1) (rfl) (by omega) rfl ?_)
  | (refine R_run hg.ok 7 rfl rfl ?_; refine R_rdAt (st := st) (st.at_ + 1) (rfl) (by omega) rfl ?_)
  refine R_run hg.ok 1000 rfl rfl ?_
  refine R_callSO hg.ok hg.gup hg.wide hg.Y [0, 1] (rdX S0 L (nxR st) deep ++ [tkO t, boxZ]) (xPeek Y S0 L (nxR st) deep) (fun _ => rfl) rfl rfl rfl rfl rfl (by rw [rdX_ren]; rfl) rfl (by rw [rdX_ren]; rfl) ?_
  refine R_run hg.ok 1000 rfl rfl ?_
  refine R_call hg.ok (rdPrefix_ok t.text) rfl rfl rfl rfl rfl rfl ?_
  refine R_run hg.ok 1000 rfl rfl ?_
  unfold namedR at h
  have hpk := peek_lt (L := L) (st := nxR st)
  have hum : (peekR L (nxR st)).kind ≠ 0 → peekR L (nxR st) ∈ L := fun h => by
    have := hpk h
    unfold peekR
    rw [if_neg (by simpa using this.1), List.getElem?_eq_getElem this.2]
    exact List.getElem_mem _
  rw [show minR S0 t (peekR L (nxR st)) = (M && decide ((peekR L (nxR st)).kind = 3) && decide ((peekR L (nxR st)).at_ = t.at_ + 1)) by rw [hM]; rfl] at h
  obtain ⟨u, hu⟩ : ∃ u, u = peekR L (nxR st) := ⟨_, rfl⟩
  rw [← hu] at h hpk hum ⊢
  obtain ⟨mr, hmr⟩ : ∃ mr, mr = (M && decide (u.kind = 3) && decide (u.at_ = t.at_ + 1)) := ⟨_, rfl⟩
  have hw : IntKind.i64.wrap (t.at_ + 1) = t.at_ + 1 := wrap_id (by omega) (by omega)
  refine R_cut1 (fun _ : Unit => ([(0, .lo 0 0), (2, iV p), (4, .lo 2 0), (6, .lo 3 0), (9, .lo 4 0), (10, iV (preT t.text)), (36, bV mr)], rdX S0 L (nxR st) deep ++ [tkO t, boxZ, tkO u])) (fun _ => True) rfl ?_ ?_
  · cases M with
    | false =>
      refine R_if rfl rfl (fun h => absurd h (by simp)) (fun _ => ?_) <;> refine R_run hg.ok 1000 rfl rfl ?_
      have hmr : mr = false := by rw [hmr]; rfl
      subst hmr
      exact R_to () trivial ⟨.refl _, .refl _, .refl _, .refl _, .refl _, .refl _, by first | exact .refl _ | exact Ent.ff, trivial⟩ rfl
    | true =>
      refine R_if rfl rfl (fun _ => ?_) (fun h => absurd h (by simp)) <;> refine R_run hg.ok 1000 rfl rfl ?_
      by_cases h3 : u.kind = 3
      · refine R_if rfl rfl (fun _ => ?_) (fun h => absurd h (by simp [h3])) <;> refine R_run hg.ok 1000 rfl rfl ?_
        have hmr : decide (u.at_ = IntKind.i64.wrap (t.at_ + 1)) = mr := by rw [hmr, hw]; simp [h3]
        exact R_to () trivial ⟨.refl _, .refl _, .refl _, .refl _, .refl _, .refl _, by rw [← hmr]; exact .refl _, trivial⟩ rfl
      · refine R_if rfl rfl (fun h => absurd h (by simp [h3])) (fun _ => ?_) <;> refine R_run hg.ok 1000 rfl rfl ?_
        have hmr : mr = false := by rw [hmr]; simp [h3]
        subst hmr
        exact R_to () trivial ⟨.refl _, .refl _, .refl _, .refl _, .refl _, .refl _, by first | exact .refl _ | exact Ent.ff, trivial⟩ rfl
  rintro _ _
  rw [← hmr] at h
  refine R_run hg.ok 1000 rfl rfl ?_
  cases mr with
  | true =>
    have hk3 : u.kind = 3 := by
      have := hmr.symm
      simp only [Bool.and_eq_true, decide_eq_true_eq] at this
      exact this.1.2
    have hul := (hpk (by rw [hk3]; decide)).2
    have hu1 := hpl u (hum (by rw [hk3]; decide))
    simp only [if_true, Option.some.injEq] at h
    subst h
    simp only
    refine R_if rfl rfl (fun _ => ?_) (fun h => absurd h (by simp))
    first
    | (refine R_run hg.ok 1 rfl rfl ?_; refine R_rdAt (st := nxR st) (st.at_ + 1 + 1) (rfl) (by omega) rfl ?_)
    | (refine R_run hg.ok 2 rfl rfl ?_; refine R_rdAt (st := nxR st) (st.at_ + 1 + 1) (rfl) (by omega) rfl ?_)
    | (refine R_run hg.ok 3 rfl rfl ?_; refine R_rdAt (st := nxR st) (st.at_ + 1 + 1) (rfl) (by omega) rfl ?_)
    | (refine R_run hg.ok 4 rfl rfl ?_; refine R_rdAt (st := nxR st) (st.at_ + 1 + 1) (rfl) (by omega) rfl ?_)
    | (refine R_run hg.ok 5 rfl rfl ?_; refine R_rdAt (st := nxR st) (st.at_ + 1 + 1) (rfl) (by omega) rfl ?_)
    | (refine R_run hg.ok 6 rfl rfl ?_; refine R_rdAt (st := nxR st) (st.at_ + 1 + 1) (rfl) (by omega) rfl ?_)
    | (refine R_run hg.ok 7 rfl rfl ?_; refine R_rdAt (st := nxR st) (st.at_ + 1 + 1) (rfl) (by omega) rfl ?_)
    | (refine R_run hg.ok 8 rfl rfl ?_; refine R_rdAt (st := nxR st) (st.at_ + 1 + 1) (rfl) (by omega) rfl ?_)
    first
    | (refine R_run hg.ok 1 rfl rfl ?_; refine R_obs (rdX S0 L (nxR (nxR st)) deep ++ [tkO t, .box [.d (.v (.int .i64 2)), .d (.v (.string ByteArray.empty)), iV (-u.n), .d (.v (.slice none 0 0))], tkO u]) ⟨.refl _, .refl _, .refl _, ⟨.refl _, .refl _, Ent.wrap (by omega) (by omega) (by omega), .refl _, trivial⟩, .refl _, trivial⟩ rfl ?_)
    | (refine R_run hg.ok 2 rfl rfl ?_; refine R_obs (rdX S0 L (nxR (nxR st)) deep ++ [tkO t, .box [.d (.v (.int .i64 2)), .d (.v (.string ByteArray.empty)), iV (-u.n), .d (.v (.slice none 0 0))], tkO u]) ⟨.refl _, .refl _, .refl _, ⟨.refl _, .refl _, Ent.wrap (by omega) (by omega) (by omega), .refl _, trivial⟩, .refl _, trivial⟩ rfl ?_)
    | (refine R_run hg.ok 3 rfl rfl ?_; refine R_obs (rdX S0 L (nxR (nxR st)) deep ++ [tkO t, .box [.d (.v (.int .i64 2)), .d (.v (.string ByteArray.empty)), iV (-u.n), .d (.v (.slice none 0 0))], tkO u]) ⟨.refl _, .refl _, .refl _, ⟨.refl _, .refl _, Ent.wrap (by omega) (by omega) (by omega), .refl _, trivial⟩, .refl _, trivial⟩ rfl ?_)
    | (refine R_run hg.ok 4 rfl rfl ?_; refine R_obs (rdX S0 L (nxR (nxR st)) deep ++ [tkO t, .box [.d (.v (.int .i64 2)), .d (.v (.string ByteArray.empty)), iV (-u.n), .d (.v (.slice none 0 0))], tkO u]) ⟨.refl _, .refl _, .refl _, ⟨.refl _, .refl _, Ent.wrap (by omega) (by omega) (by omega), .refl _, trivial⟩, .refl _, trivial⟩ rfl ?_)
    | (refine R_run hg.ok 5 rfl rfl ?_; refine R_obs (rdX S0 L (nxR (nxR st)) deep ++ [tkO t, .box [.d (.v (.int .i64 2)), .d (.v (.string ByteArray.empty)), iV (-u.n), .d (.v (.slice none 0 0))], tkO u]) ⟨.refl _, .refl _, .refl _, ⟨.refl _, .refl _, Ent.wrap (by omega) (by omega) (by omega), .refl _, trivial⟩, .refl _, trivial⟩ rfl ?_)
    refine R_run hg.ok 1000 rfl rfl ?_
    exact R_retS hg 2 5 (Nat.le_refl _) rfl rfl (hk (nxR (nxR st)) _)
  | false =>
    simp only [Bool.false_eq_true, if_false] at h
    refine R_if rfl rfl (fun h => absurd h (by simp)) (fun _ => ?_) <;> refine R_run hg.ok 1000 rfl rfl ?_
    by_cases ho : t.opn = true
    · rw [if_pos ho] at h
      obtain ⟨⟨l, st1⟩, h1, h⟩ := Option.map_eq_some_iff.1 h
      subst h
      simp only
      refine R_if rfl rfl (fun _ => ?_) (fun h => absurd h (by simp [ho])) <;> refine R_run hg.ok 1000 rfl rfl ?_
      refine R_callSO hg.ok hg.gup hg.wide hg.Y [0, 1] (rdX S0 L (mustR L S0.length (nxR st) [40]) deep ++ [tkO t, boxZ, tkO u]) (xMust Y S0 L hL (nxR st) deep [40]) (fun _ => rfl) rfl rfl rfl rfl rfl (by rw [rdX_ren]; rfl) rfl (by rw [rdX_ren]; rfl) ?_
      refine R_run hg.ok 1000 rfl rfl ?_
      refine R_load4 hg.ok (by show φ.length ≤ 2; omega) rfl rfl rfl rfl rfl rfl rfl ?_
      refine R_run hg.ok 1000 rfl rfl ?_
      refine R_callS3 hg.ok hg.gup hg.wide hg.Y [0, 1] (rdX S0 L (mustR L S0.length st1 [41]) deep ++ [tkO t, boxZ, tkO u]) (rdSeveral_ok Y S0 L hL hT hG deep hd _ hn.must l st1 h1 [41]) (fun _ => rfl) (fun i hi => by show i < φ.length; simp at hi; omega) rfl rfl rfl rfl rfl (by rw [rdX_ren]; rfl) rfl (by rw [rdX_ren]; rfl) ?_
      refine R_run hg.ok 1000 rfl rfl ?_
      exact R_retS hg 2 5 (Nat.le_refl _) rfl rfl (hk _ _)
    rw [if_neg ho] at h
    refine R_if rfl rfl (fun h => absurd h (by simp [ho])) (fun _ => ?_) <;> refine R_run hg.ok 1000 rfl rfl ?_
    by_cases hp : 0 < preT t.text
    · rw [if_pos hp] at h
      refine R_if rfl rfl (fun _ => ?_) (fun h => absurd h (by simp [hp])) <;> refine R_run hg.ok 1000 rfl rfl ?_
      have hB := xBegins Y S0 L (nxR st) deep
      cases hb : begR L (nxR st) with
      | true =>
        rw [hb] at h hB
        simp only [if_true] at h
        refine R_callSO hg.ok hg.gup hg.wide hg.Y [0, 1] (rdX S0 L (begS L (nxR st)) deep ++ [tkO t, boxZ, tkO u]) (hB) (fun _ => rfl) rfl rfl rfl rfl rfl (by rw [rdX_ren]; rfl) rfl (by rw [rdX_ren]; rfl) ?_
        refine R_run hg.ok 1000 rfl rfl ?_
        refine R_if rfl rfl (fun _ => ?_) (fun h => absurd h (by simp)) <;> refine R_run hg.ok 1000 rfl rfl ?_
        by_cases hq : preT t.text > p
        · rw [if_pos hq] at h
          cases h
          have hba : (begS L (nxR st)).at_ = st.at_ + 1 := by unfold begS; split <;> rfl
          refine R_if rfl rfl (fun _ => ?_) (fun h => absurd h (by simp [hq]))
          first
          | (refine R_run hg.ok 1 rfl rfl ?_; refine R_rdAt (st := begS L (nxR st)) (st.at_) (by rw [hba]; omega) (by omega) rfl ?_)
          | (refine R_run hg.ok 2 rfl rfl ?_; refine R_rdAt (st := begS L (nxR st)) (st.at_) (by rw [hba]; omega) (by omega) rfl ?_)
          | (refine R_run hg.ok 3 rfl rfl ?_; refine R_rdAt (st := begS L (nxR st)) (st.at_) (by rw [hba]; omega) (by omega) rfl ?_)
          | (refine R_run hg.ok 4 rfl rfl ?_; refine R_rdAt (st := begS L (nxR st)) (st.at_) (by rw [hba]; omega) (by omega) rfl ?_)
          | (refine R_run hg.ok 5 rfl rfl ?_; refine R_rdAt (st := begS L (nxR st)) (st.at_) (by rw [hba]; omega) (by omega) rfl ?_)
          | (refine R_run hg.ok 6 rfl rfl ?_; refine R_rdAt (st := begS L (nxR st)) (st.at_) (by rw [hba]; omega) (by omega) rfl ?_)
          | (refine R_run hg.ok 7 rfl rfl ?_; refine R_rdAt (st := begS L (nxR st)) (st.at_) (by rw [hba]; omega) (by omega) rfl ?_)
          | (refine R_run hg.ok 8 rfl rfl ?_; refine R_rdAt (st := begS L (nxR st)) (st.at_) (by rw [hba]; omega) (by omega) rfl ?_)
          | (refine R_run hg.ok 9 rfl rfl ?_; refine R_rdAt (st := begS L (nxR st)) (st.at_) (by rw [hba]; omega) (by omega) rfl ?_)
          | (refine R_run hg.ok 10 rfl rfl ?_; refine R_rdAt (st := begS L (nxR st)) (st.at_) (by rw [hba]; omega) (by omega) rfl ?_)
          | (refine R_run hg.ok 11 rfl rfl ?_; refine R_rdAt (st := begS L (nxR st)) (st.at_) (by rw [hba]; omega) (by omega) rfl ?_)
          refine R_run hg.ok 1000 rfl rfl ?_
          refine R_callSO hg.ok hg.gup hg.wide hg.Y [0, 1] (rdX S0 L (failR L S0.length { begS L (nxR st) with at_ := st.at_ } 2) deep ++ [tkO t, boxZ, tkO u]) (xFail Y S0 L { begS L (nxR st) with at_ := st.at_ } deep 2) (fun _ => rfl) rfl rfl rfl rfl rfl (by rw [rdX_ren]; rfl) rfl (by rw [rdX_ren]; rfl) ?_
          refine R_run hg.ok 1000 rfl rfl ?_
          exact R_retS hg 2 5 (Nat.le_refl _) rfl rfl (hk _ _)
        · rw [if_neg hq] at h
          obtain ⟨⟨y, st2⟩, h1, h⟩ := Option.map_eq_some_iff.1 h
          subst h
          simp only
          refine R_if rfl rfl (fun h => absurd h (by simp [hq])) (fun _ => ?_) <;> refine R_run hg.ok 1000 rfl rfl ?_
          refine R_load4 hg.ok (by show φ.length ≤ 2; omega) rfl rfl rfl rfl rfl rfl rfl ?_
          refine R_run hg.ok 1000 rfl rfl ?_
          refine R_callS3 hg.ok hg.gup hg.wide hg.Y [0, 1] (rdX S0 L st2 deep ++ [tkO t, boxZ, tkO u]) (hT deep _ _ y st2 h1 hd hn.beg) (fun _ => rfl) (fun i hi => by show i < φ.length; simp at hi; omega) rfl rfl rfl rfl rfl (by rw [rdX_ren]; rfl) rfl (by rw [rdX_ren]; rfl) ?_
          refine R_run hg.ok 1000 rfl rfl ?_
          rw [show Tm.av (fnT t.text [y]) = AV.agg [.d (.v (.int .i64 3)), .d (.v (.string (Tx t.text))), .d (.v (.int .i64 0)), .d (.sl [rwT y])] by rw [show [rwT y] = Tm.rows [y] from rwT_rows [y]]; rfl]
          exact R_retS hg 2 5 (Nat.le_refl _) rfl rfl (hk _ _)
      | false =>
        rw [hb] at h hB
        simp only [Bool.false_eq_true, if_false] at h
        cases h
        refine R_callSO hg.ok hg.gup hg.wide hg.Y [0, 1] (rdX S0 L (begS L (nxR st)) deep ++ [tkO t, boxZ, tkO u]) (hB) (fun _ => rfl) rfl rfl rfl rfl rfl (by rw [rdX_ren]; rfl) rfl (by rw [rdX_ren]; rfl) ?_
        refine R_run hg.ok 1000 rfl rfl ?_
        refine R_if rfl rfl (fun h => absurd h (by simp)) (fun _ => ?_) <;> refine R_run hg.ok 1000 rfl rfl ?_
        exact R_retS hg 2 5 (Nat.le_refl _) rfl rfl (hk _ _)
    · rw [if_neg hp] at h
      cases h
      refine R_if rfl rfl (fun h => absurd h (by simp [hp])) (fun _ => ?_) <;> refine R_run hg.ok 1000 rfl rfl ?_
      exact R_retS hg 2 5 (Nat.le_refl _) rfl rfl (hk (nxR st) _)
end Go.Proofs.Ythdpfglpdgmphaa

namespace Go.Proofs.Ythdpfglpdgmphaa
open Go PSL Go.Proofs

/-- How deep a reader is. -/
theorem R_rdDeep {g : G} {pf : Nat → Cls} {Fin : Exit → Act → World → Prop} {k : List It} {E : Env} {rest : List Ob} {S : Bs} {L : List Tk} {st : RSt} {mk : Bool} {m : Int} (n : Nat) (hm : m = n) (hb : n < 9223372036854775808) (ht : topCode k = true) (h : R g pf Fin k E (rdO S L st n mk ++ rest)) :
    R g pf Fin k E (.box [.d (.v (.string (Tx S))), .d (.sl (tkRows L)), iV st.at_, .ow 1 st.names.length, .d (.v (.int .i64 (IntKind.i64.wrap m))), iV st.bad, iV st.e, .d (.v (.int .u32 (if mk then 1 else 0))), .d (.v (.int .i32 0)), .d (.v (.int .u32 0)), tblV mk] :: .arr 1 st.names.length (strRows st.names) :: rest) :=
  R_obs (rdO S L st n mk ++ rest) ⟨⟨.refl _, .refl _, .refl _, .refl _, Ent.wrap hm (by omega) (by omega), .refl _, .refl _, .refl _, .refl _, .refl _, .refl _, trivial⟩, rfl, obsIn_refl _⟩ ht h

theorem rdB_ren (S : Bs) (L : List Tk) (st : RSt) (deep : Int) (n : Nat) : (rdX S L st deep ++ [Ob.box [.lo 0 0]]).map (renOb (rn [0, 1, 2] n)) = rdX S L st deep ++ [Ob.box [.lo 0 0]] := by
  rw [List.map_append, rdX_ren]; rfl

theorem rdB_keep (S : Bs) (L : List Tk) (st : RSt) (deep : Int) (o : List Ob) : (rdX S L st deep ++ [Ob.box [.lo 0 0]]).map (mapOb (sealT false 3 o 5)) = rdX S L st deep ++ [Ob.box [.lo 0 0]] := by
  rw [List.map_append, rdX_keep _ _ _ _ _ _ (by decide)]; rfl

set_option maxRecDepth 100000 in
theorem rdDown_ok (Y : YP) (S0 : Bs) (L : List Tk) (st : RSt) (deep : Nat) (hd : deep ≤ 1000) : DCtr Try.prog Y 76 [.lo 2 0] (rdX S0 L st (deep + 1 : Nat) ++ [.box [.lo 0 0]]) (.tup []) (rdX S0 L st deep ++ [.box [.lo 0 0]]) := by
  refine DCtr.of_R (pf := fun _ => .eff) tyOk mixed Try.func76 rfl (by kernel_rfl) (by kernel_rfl) (by simp [Try.ntmps76]) (by simp [rdX, rdO, robj]) fun w S φ hg => ?_
  refine R_run hg.ok 1000 rfl rfl ?_
  refine R_rdDeep (st := st) deep (by omega) (by omega) rfl ?_
  exact R_endD hg 3 5 (Nat.le_refl _) rfl rfl (rdB_keep _ _ _ _ _)

set_option maxRecDepth 100000 in
theorem rdOpnd_ok (Y : YP) (S0 : Bs) (L : List Tk) (hL : L.length ≤ 9000) (hS : S0.length ≤ 9000) {T : TF} (hT : TCtr Y S0 L T) (hG : TGood L T) (deep : Nat) (hd : deep ≤ 1000) (st : RSt) (hi : RInv L st) (hpl : ∀ t ∈ L, 0 ≤ t.at_ ∧ t.at_ < S0.length ∧ 0 ≤ t.n ∧ t.n ≤ 9223372036854775807) (p : Int) (x : Tm × Int × RSt) (h : opndR false S0 L T deep p st = some x) :
    SCtr Try.prog Y 45 [.lo 0 0, iV p] (rdX S0 L st deep) (.tup [x.1.av, iV x.2.1]) (rdX S0 L x.2.2 deep) := by
  refine SCtr.of_RD (pf := fun _ => .eff) tyOk mixed Try.func45 rfl (by kernel_rfl) (by kernel_rfl) (by simp [Try.ntmps45]) (by simp [rdX, rdO, robj]) fun w S φ hg => ?_
  have hk : ∀ (st : RSt) (o : List Ob), (rdX S0 L st deep).map (mapOb (sealT false 2 o 5)) = rdX S0 L st deep := fun st o => rdX_keep _ _ _ _ _ _ (Nat.le_refl _)
  unfold opndR at h
  refine R_run hg.ok 1000 rfl rfl ?_
  by_cases hd0 : 1000 ≤ deep
  · rw [if_pos hd0] at h
    cases h
    refine R_if rfl rfl (fun _ => ?_) (fun h => absurd h (by simp; omega)) <;> refine R_run hg.ok 1000 rfl rfl ?_
    refine R_callSO hg.ok hg.gup hg.wide hg.Y [0, 1] (rdX S0 L (failR L S0.length st 3) deep ++ [.box [.lo 0 0], boxZ]) (xFail Y S0 L st deep 3) (fun _ => rfl) rfl rfl rfl rfl rfl (by rw [rdX_ren]; rfl) rfl (by rw [rdX_ren]; rfl) ?_
    refine R_run hg.ok 1000 rfl rfl ?_
    exact R_retS hg 2 5 (Nat.le_refl _) rfl rfl (hk _ _)
  have hd : deep < 1000 := by omega
  rw [if_neg hd0] at h
  refine R_if rfl rfl (fun h => absurd h (by simp; omega)) (fun _ => ?_)
  first
  | (refine R_run hg.ok 1 rfl rfl ?_; refine R_rdDeep (st := st) (deep + 1) (by omega) (by omega) rfl ?_)
  | (refine R_run hg.ok 2 rfl rfl ?_; refine R_rdDeep (st := st) (deep + 1) (by omega) (by omega) rfl ?_)
  | (refine R_run hg.ok 3 rfl rfl ?_; refine R_rdDeep (st := st) (deep + 1) (by omega) (by omega) rfl ?_)
  | (refine R_run hg.ok 4 rfl rfl ?_; refine R_rdDeep (st := st) (deep + 1) (by omega) (by omega) rfl ?_)
  | (refine R_run hg.ok 5 rfl rfl ?_; refine R_rdDeep (st := st) (deep + 1) (by omega) (by omega) rfl ?_)
  first
  | refine R_defer hg.ok rfl hg.wide 1 rfl ?_
  | (refine R_run hg.ok 1 rfl rfl ?_; refine R_defer hg.ok rfl hg.wide 1 rfl ?_)
  | (refine R_run hg.ok 2 rfl rfl ?_; refine R_defer hg.ok rfl hg.wide 1 rfl ?_)
  refine R_run hg.ok 1000 rfl rfl ?_
  refine R_mark ⟨_, _, _, rfl, ?_⟩
  have hg1 := hg.sw [(76, [], [.lo 2 0])]
  refine R_run hg1.ok 1000 rfl rfl ?_
  refine R_callSO hg1.ok hg1.gup hg1.wide hg1.Y [0, 1] (rdX S0 L st (deep + 1 : Nat) ++ [.box [.lo 0 0], boxZ]) (xPeek Y S0 L st (deep + 1 : Nat)) (fun _ => rfl) rfl rfl rfl rfl rfl (by rw [rdX_ren]; rfl) rfl (by rw [rdX_ren]; rfl) ?_
  refine R_run hg1.ok 1000 rfl rfl ?_
  have hpk := peek_lt (L := L) (st := st)
  have hum : (peekR L st).kind ≠ 0 → peekR L st ∈ L := fun h => by
    have := hpk h
    unfold peekR
    rw [if_neg (by simpa using this.1), List.getElem?_eq_getElem this.2]
    exact List.getElem_mem _
  have hM1 := xMark Y S0 L hL st (deep + 1 : Nat) [40]
  have hM2 := xMark Y S0 L hL st (deep + 1 : Nat) [91]
  have hN := fun x => rdNamed_ok Y S0 L hL hS hT hG (deep + 1) (by omega) st hi
  obtain ⟨u, hu⟩ : ∃ u, u = peekR L st := ⟨_, rfl⟩
  rw [← hu] at h hpk hum hM1 hM2 ⊢
  by_cases h3 : u.kind = 3
  · rw [if_pos h3] at h
    cases h
    have hl := (hpk (by rw [h3]; decide)).2
    refine R_if rfl rfl (fun _ => ?_) (fun h => absurd h (by simp [h3]))
    first
    | (refine R_run hg1.ok 1 rfl rfl ?_; refine R_rdAt (st := st) (st.at_ + 1) (rfl) (by omega) rfl ?_)
    | (refine R_run hg1.ok 2 rfl rfl ?_; refine R_rdAt (st := st) (st.at_ + 1) (rfl) (by omega) rfl ?_)
    | (refine R_run hg1.ok 3 rfl rfl ?_; refine R_rdAt (st := st) (st.at_ + 1) (rfl) (by omega) rfl ?_)
    | (refine R_run hg1.ok 4 rfl rfl ?_; refine R_rdAt (st := st) (st.at_ + 1) (rfl) (by omega) rfl ?_)
    | (refine R_run hg1.ok 5 rfl rfl ?_; refine R_rdAt (st := st) (st.at_ + 1) (rfl) (by omega) rfl ?_)
    | (refine R_run hg1.ok 6 rfl rfl ?_; refine R_rdAt (st := st) (st.at_ + 1) (rfl) (by omega) rfl ?_)
    | (refine R_run hg1.ok 7 rfl rfl ?_; refine R_rdAt (st := st) (st.at_ + 1) (rfl) (by omega) rfl ?_)
    refine R_run hg1.ok 1000 rfl rfl ?_
    refine R_retL ?_
    refine Lv.cons hg [0, 1, 2] (objs' := rdX S0 L (nxR st) deep ++ [.box [.lo 0 0], .box [.d (.v (.int .i64 2)), .d (.v (.string ByteArray.empty)), .d (.v (.int .i64 u.n)), .d (.v (.slice none 0 0))], tkO u]) (rdDown_ok Y S0 L (nxR st) deep (Nat.le_of_lt hd)) (fun _ => rfl) rfl (by rw [rdB_ren]; rfl) rfl (by rw [rdB_ren]; rfl) ?_
    exact Lv.nil hg 2 5 (Nat.le_refl _) rfl rfl (hk (nxR st) _)
  rw [if_neg h3] at h
  refine R_if rfl rfl (fun h => absurd h (by simp [h3])) (fun _ => ?_) <;> refine R_run hg1.ok 1000 rfl rfl ?_
  by_cases h2 : u.kind = 2
  · rw [if_pos h2] at h
    cases h
    have hl := (hpk (by rw [h2]; decide)).2
    have hnl := hi.1
    refine R_if rfl rfl (fun _ => ?_) (fun h => absurd h (by simp [h2]))
    first
    | (refine R_run hg1.ok 1 rfl rfl ?_; refine R_rdAt (st := st) (st.at_ + 1) (rfl) (by omega) rfl ?_)
    | (refine R_run hg1.ok 2 rfl rfl ?_; refine R_rdAt (st := st) (st.at_ + 1) (rfl) (by omega) rfl ?_)
    | (refine R_run hg1.ok 3 rfl rfl ?_; refine R_rdAt (st := st) (st.at_ + 1) (rfl) (by omega) rfl ?_)
    | (refine R_run hg1.ok 4 rfl rfl ?_; refine R_rdAt (st := st) (st.at_ + 1) (rfl) (by omega) rfl ?_)
    | (refine R_run hg1.ok 5 rfl rfl ?_; refine R_rdAt (st := st) (st.at_ + 1) (rfl) (by omega) rfl ?_)
    | (refine R_run hg1.ok 6 rfl rfl ?_; refine R_rdAt (st := st) (st.at_ + 1) (rfl) (by omega) rfl ?_)
    | (refine R_run hg1.ok 7 rfl rfl ?_; refine R_rdAt (st := st) (st.at_ + 1) (rfl) (by omega) rfl ?_)
    refine R_run hg1.ok 1000 rfl rfl ?_
    refine R_callSO hg1.ok hg1.gup hg1.wide hg1.Y [0, 1] (rdX S0 L (varR (nxR st) u.text).2 (deep + 1 : Nat) ++ [.box [.lo 0 0], boxZ, tkO u]) (xVar Y S0 L (nxR st) (by simp only [nxR]; omega) (deep + 1 : Nat) u.text) (fun _ => rfl) rfl rfl rfl rfl rfl (by rw [rdX_ren]; rfl) rfl (by rw [rdX_ren]; rfl) ?_
    refine R_run hg1.ok 1000 rfl rfl ?_
    refine R_retL ?_
    refine Lv.cons hg [0, 1, 2] (objs' := rdX S0 L ((varR (nxR st) u.text).2) deep ++ [.box [.lo 0 0], .box [.d (.v (.int .i64 1)), .d (.v (.string ByteArray.empty)), .d (.v (.int .i64 (varR (nxR st) u.text).1)), .d (.v (.slice none 0 0))], tkO u]) (rdDown_ok Y S0 L ((varR (nxR st) u.text).2) deep (Nat.le_of_lt hd)) (fun _ => rfl) rfl (by rw [rdB_ren]; rfl) rfl (by rw [rdB_ren]; rfl) ?_
    exact Lv.nil hg 2 5 (Nat.le_refl _) rfl rfl (hk ((varR (nxR st) u.text).2) _)
  rw [if_neg h2] at h
  refine R_if rfl rfl (fun h => absurd h (by simp [h2])) (fun _ => ?_) <;> refine R_run hg1.ok 1000 rfl rfl ?_
  by_cases h1 : u.kind = 1
  · rw [if_pos h1] at h
    obtain ⟨y, hy, h⟩ := Option.map_eq_some_iff.1 h
    simp only [Bool.false_and, Bool.false_eq_true, if_false] at h
    subst h
    have hl := (hpk (by rw [h1]; decide)).2
    refine R_if rfl rfl (fun _ => ?_) (fun h => absurd h (by simp [h1])) <;> refine R_run hg1.ok 1000 rfl rfl ?_
    refine R_callSO hg1.ok hg1.gup hg1.wide hg1.Y [0, 1] (rdX S0 L y.2.2 (deep + 1 : Nat) ++ [.box [.lo 0 0], boxZ, tkO u]) (rdNamed_ok Y S0 L hL hS hT hG (deep + 1) (by omega) st hi hl hpl p u (hum (by rw [h1]; decide)) y hy) (fun _ => rfl) rfl rfl rfl rfl rfl (by rw [rdX_ren]; rfl) rfl (by rw [rdX_ren]; rfl) ?_
    refine R_run hg1.ok 1000 rfl rfl ?_
    refine R_retL ?_
    refine Lv.cons hg [0, 1, 2] (objs' := rdX S0 L (y.2.2) deep ++ [.box [.lo 0 0], bxT y.1, tkO u]) (rdDown_ok Y S0 L (y.2.2) deep (Nat.le_of_lt hd)) (fun _ => rfl) rfl (by rw [rdB_ren]; rfl) rfl (by rw [rdB_ren]; rfl) ?_
    exact Lv.nil hg 2 5 (Nat.le_refl _) rfl rfl (hk (y.2.2) _)
  rw [if_neg h1] at h
  refine R_if rfl rfl (fun h => absurd h (by simp [h1])) (fun _ => ?_) <;> refine R_run hg1.ok 1000 rfl rfl ?_
  cases hm1 : isMk u [40] with
  | true =>
    rw [hm1] at h hM1
    simp only [if_true] at h hM1
    have hl := (isMk_lt (hu ▸ hm1)).2
    obtain ⟨⟨y, st2⟩, hy, h⟩ := Option.map_eq_some_iff.1 h
    subst h
    refine R_callSO hg1.ok hg1.gup hg1.wide hg1.Y [0, 1] (rdX S0 L (nxR st) (deep + 1 : Nat) ++ [.box [.lo 0 0], boxZ, tkO u]) (hM1) (fun _ => rfl) rfl rfl rfl rfl rfl (by rw [rdX_ren]; rfl) rfl (by rw [rdX_ren]; rfl) ?_
    refine R_run hg1.ok 1000 rfl rfl ?_
    refine R_if rfl rfl (fun _ => ?_) (fun h => absurd h (by simp)) <;> refine R_run hg1.ok 1000 rfl rfl ?_
    refine R_callSO hg1.ok hg1.gup hg1.wide hg1.Y [0, 1] (rdX S0 L st2 (deep + 1 : Nat) ++ [.box [.lo 0 0], boxZ, tkO u]) (hT (deep + 1) 1200 (nxR st) y st2 hy (by omega) (hi.nx hl)) (fun _ => rfl) rfl rfl rfl rfl rfl (by rw [rdX_ren]; rfl) rfl (by rw [rdX_ren]; rfl) ?_
    refine R_run hg1.ok 1000 rfl rfl ?_
    refine R_callSO hg1.ok hg1.gup hg1.wide hg1.Y [0, 1] (rdX S0 L (mustR L S0.length st2 [41]) (deep + 1 : Nat) ++ [.box [.lo 0 0], boxZ, tkO u, bxT y]) (xMust Y S0 L hL st2 (deep + 1 : Nat) [41]) (fun _ => rfl) rfl rfl rfl rfl rfl (by rw [rdX_ren]; rfl) rfl (by rw [rdX_ren]; rfl) ?_
    refine R_run hg1.ok 1000 rfl rfl ?_
    refine R_retL ?_
    refine Lv.cons hg [0, 1, 2] (objs' := rdX S0 L (mustR L S0.length st2 [41]) deep ++ [.box [.lo 0 0], bxT y, tkO u, bxT y]) (rdDown_ok Y S0 L (mustR L S0.length st2 [41]) deep (Nat.le_of_lt hd)) (fun _ => rfl) rfl (by rw [rdB_ren]; rfl) rfl (by rw [rdB_ren]; rfl) ?_
    exact Lv.nil hg 2 5 (Nat.le_refl _) rfl rfl (hk (mustR L S0.length st2 [41]) _)
  | false =>
    rw [hm1] at h hM1
    simp only [Bool.false_eq_true, if_false] at h hM1
    refine R_callSO hg1.ok hg1.gup hg1.wide hg1.Y [0, 1] (rdX S0 L st (deep + 1 : Nat) ++ [.box [.lo 0 0], boxZ, tkO u]) (hM1) (fun _ => rfl) rfl rfl rfl rfl rfl (by rw [rdX_ren]; rfl) rfl (by rw [rdX_ren]; rfl) ?_
    refine R_run hg1.ok 1000 rfl rfl ?_
    refine R_if rfl rfl (fun h => absurd h (by simp)) (fun _ => ?_) <;> refine R_run hg1.ok 1000 rfl rfl ?_
    cases hm2 : isMk u [91] with
    | true =>
      rw [hm2] at h hM2
      simp only [if_true] at h hM2
      have hl := (isMk_lt (hu ▸ hm2)).2
      obtain ⟨⟨y, st2⟩, hy, h⟩ := Option.map_eq_some_iff.1 h
      subst h
      refine R_callSO hg1.ok hg1.gup hg1.wide hg1.Y [0, 1] (rdX S0 L (nxR st) (deep + 1 : Nat) ++ [.box [.lo 0 0], boxZ, tkO u]) (hM2) (fun _ => rfl) rfl rfl rfl rfl rfl (by rw [rdX_ren]; rfl) rfl (by rw [rdX_ren]; rfl) ?_
      refine R_run hg1.ok 1000 rfl rfl ?_
      refine R_if rfl rfl (fun _ => ?_) (fun h => absurd h (by simp)) <;> refine R_run hg1.ok 1000 rfl rfl ?_
      refine R_callSO hg1.ok hg1.gup hg1.wide hg1.Y [0, 1] (rdX S0 L st2 (deep + 1 : Nat) ++ [.box [.lo 0 0], boxZ, tkO u]) (rdList_ok Y S0 L hL hT hG (deep + 1) (by omega) (nxR st) (hi.nx hl) y st2 hy) (fun _ => rfl) rfl rfl rfl rfl rfl (by rw [rdX_ren]; rfl) rfl (by rw [rdX_ren]; rfl) ?_
      refine R_run hg1.ok 1000 rfl rfl ?_
      refine R_retL ?_
      refine Lv.cons hg [0, 1, 2] (objs' := rdX S0 L (st2) deep ++ [.box [.lo 0 0], bxT y, tkO u]) (rdDown_ok Y S0 L (st2) deep (Nat.le_of_lt hd)) (fun _ => rfl) rfl (by rw [rdB_ren]; rfl) rfl (by rw [rdB_ren]; rfl) ?_
      exact Lv.nil hg 2 5 (Nat.le_refl _) rfl rfl (hk (st2) _)
    | false =>
      rw [hm2] at h hM2
      simp only [Bool.false_eq_true, if_false] at h hM2
      cases h
      refine R_callSO hg1.ok hg1.gup hg1.wide hg1.Y [0, 1] (rdX S0 L st (deep + 1 : Nat) ++ [.box [.lo 0 0], boxZ, tkO u]) (hM2) (fun _ => rfl) rfl rfl rfl rfl rfl (by rw [rdX_ren]; rfl) rfl (by rw [rdX_ren]; rfl) ?_
      refine R_run hg1.ok 1000 rfl rfl ?_
      refine R_if rfl rfl (fun h => absurd h (by simp)) (fun _ => ?_) <;> refine R_run hg1.ok 1000 rfl rfl ?_
      refine R_callSO hg1.ok hg1.gup hg1.wide hg1.Y [0, 1] (rdX S0 L (failR L S0.length st 2) (deep + 1 : Nat) ++ [.box [.lo 0 0], boxZ, tkO u]) (xFail Y S0 L st (deep + 1 : Nat) 2) (fun _ => rfl) rfl rfl rfl rfl rfl (by rw [rdX_ren]; rfl) rfl (by rw [rdX_ren]; rfl) ?_
      refine R_run hg1.ok 1000 rfl rfl ?_
      refine R_retL ?_
      refine Lv.cons hg [0, 1, 2] (objs' := rdX S0 L (failR L S0.length st 2) deep ++ [.box [.lo 0 0], boxZ, tkO u]) (rdDown_ok Y S0 L (failR L S0.length st 2) deep (Nat.le_of_lt hd)) (fun _ => rfl) rfl (by rw [rdB_ren]; rfl) rfl (by rw [rdB_ren]; rfl) ?_
      exact Lv.nil hg 2 5 (Nat.le_refl _) rfl rfl (hk (failR L S0.length st 2) _)
end Go.Proofs.Ythdpfglpdgmphaa

namespace Go.Proofs.Ythdpfglpdgmphaa
open Go PSL Go.Proofs
def pfTrm : Nat → Cls := fun f => bif Nat.beq f 4000100060 then .look 104 else bif Nat.beq f 4000200005 then .turn 103 else .eff

def trmE (S0 : Bs) (L : List Tk) (deep p : Int) : (Nat × RSt × Tm × Int) → Env × List Ob
  | (_, st, out, now) => ([(0, .lo 0 0), (1, iV p), (4, .lo 2 0), (5, .lo 3 0), (6, iV now)], rdX S0 L st deep ++ [boxZ, bxT out])
theorem peek_ins (L : List Tk) (st : RSt) : peekR L (inS L st) = peekR L st := by unfold inS; split <;> rfl

set_option maxRecDepth 100000 in
theorem rdStep_ok (Y : YP) (S0 : Bs) (L : List Tk) (hL : L.length ≤ 9000) (hS : S0.length ≤ 9000) {T : TF} (hT : TCtr Y S0 L T) (hG : TGood L T) (hpl : ∀ t ∈ L, 0 ≤ t.at_ ∧ t.at_ < S0.length ∧ 0 ≤ t.n ∧ t.n ≤ 9223372036854775807) :
    TCtr Y S0 L (fun deep p st => (opndR false S0 L T deep p st).bind fun x => restR L T (L.length + 2) deep p x.1 x.2.1 x.2.2) := by
  intro deep p st t st' h hd hi
  obtain ⟨x, hx, h⟩ := Option.bind_eq_some_iff.1 h
  refine SCtr.of_R (pf := pfTrm) tyOk mixed Try.func21 rfl (by kernel_rfl) (by kernel_rfl) (by simp [Try.ntmps21]) (by simp [rdX, rdO, robj]) fun w S φ hg => ?_
  have hφ : φ.length = 2 := hg.hs0.len
  have hk : ∀ (st : RSt) (o : List Ob), (rdX S0 L st deep).map (mapOb (sealT false 2 o 5)) = rdX S0 L st deep := fun st o => rdX_keep _ _ _ _ _ _ (Nat.le_refl _)
  refine R_run hg.ok 1000 rfl rfl ?_
  refine R_callSO hg.ok hg.gup hg.wide hg.Y [0, 1] (rdX S0 L x.2.2 deep ++ [boxZ]) (rdOpnd_ok Y S0 L hL hS hT hG deep hd st hi hpl p x hx) (fun _ => rfl) rfl rfl rfl rfl rfl (by rw [rdX_ren]; rfl) rfl (by rw [rdX_ren]; rfl) ?_
  refine R_run hg.ok 1000 rfl rfl ?_
  refine R_storeJ hg.ok rfl rfl rfl rfl rfl rfl rfl rfl rfl ?_
  refine R_run hg.ok 1000 rfl rfl ?_
  refine R_loop (trmE S0 L deep p) (fun y => restR L T y.1 deep p y.2.2.1 y.2.2.2 y.2.1 = some (t, st') ∧ RInv L y.2.1) (fun y => y.1) (L.length + 2, x.2.2, x.1, x.2.1) ⟨h, opnd_inv hG hx hi⟩ ⟨.refl _, .refl _, .refl _, .refl _, .refl _, trivial⟩ rfl ?_
  rintro ⟨f, st1, out, now⟩ ⟨hm, hi1⟩
  simp only at hm hi1
  cases f with
  | zero => cases hm
  | succ f =>
  simp only [restR] at hm
  refine R_run hg.ok 1000 rfl rfl ?_
  by_cases he : st1.e = 0
  · rw [if_neg (by simp [he])] at hm
    refine R_if rfl rfl (fun _ => ?_) (fun h => absurd h (by simp [he])) <;> refine R_run hg.ok 1000 rfl rfl ?_
    have hI := xIn Y S0 L st1 deep
    cases hin : inT (peekR L st1) with
    | none =>
      rw [hin] at hm hI
      simp only at hm
      obtain ⟨rfl, rfl⟩ := Prod.mk.inj (Option.some.inj hm)
      simp only [infA] at hI
      refine R_callSO hg.ok hg.gup hg.wide hg.Y [0, 1] (rdX S0 L (inS L st1) deep ++ [boxZ, bxT out]) (hI) (fun _ => rfl) rfl rfl rfl rfl rfl (by rw [rdX_ren]; rfl) rfl (by rw [rdX_ren]; rfl) ?_
      refine R_run hg.ok 1000 rfl rfl ?_
      refine R_if rfl rfl (fun _ => ?_) (fun h => absurd h (by simp)) <;> refine R_run hg.ok 1000 rfl rfl ?_
      exact R_retS hg 2 5 (Nat.le_refl _) rfl rfl (hk _ _)
    | some z =>
      obtain ⟨q, l, r⟩ := z
      rw [hin] at hm hI
      simp only at hm
      simp only [infA] at hI
      refine R_callSO hg.ok hg.gup hg.wide hg.Y [0, 1] (rdX S0 L (inS L st1) deep ++ [boxZ, bxT out]) (hI) (fun _ => rfl) rfl rfl rfl rfl rfl (by rw [rdX_ren]; rfl) rfl (by rw [rdX_ren]; rfl) ?_
      refine R_run hg.ok 1000 rfl rfl ?_
      refine R_if rfl rfl (fun h => absurd h (by simp)) (fun _ => ?_) <;> refine R_run hg.ok 1000 rfl rfl ?_
      by_cases hq : q > p
      · rw [if_pos (.inl hq)] at hm
        obtain ⟨rfl, rfl⟩ := Prod.mk.inj (Option.some.inj hm)
        refine R_if rfl rfl (fun _ => ?_) (fun h => absurd h (by simp [hq])) <;> refine R_run hg.ok 1000 rfl rfl ?_
        exact R_retS hg 2 5 (Nat.le_refl _) rfl rfl (hk _ _)
      · refine R_if rfl rfl (fun h => absurd h (by simp [hq])) (fun _ => ?_) <;> refine R_run hg.ok 1000 rfl rfl ?_
        by_cases hn : now > l
        · rw [if_pos (.inr hn)] at hm
          obtain ⟨rfl, rfl⟩ := Prod.mk.inj (Option.some.inj hm)
          refine R_if rfl rfl (fun _ => ?_) (fun h => absurd h (by simp [hn])) <;> refine R_run hg.ok 1000 rfl rfl ?_
          exact R_retS hg 2 5 (Nat.le_refl _) rfl rfl (hk _ _)
        · rw [if_neg (by rintro (h | h); exact hq h; exact hn h)] at hm
          obtain ⟨⟨y, st2⟩, hy, hm⟩ := Option.bind_eq_some_iff.1 hm
          refine R_if rfl rfl (fun h => absurd h (by simp [hn])) (fun _ => ?_) <;> refine R_run hg.ok 1000 rfl rfl ?_
          have hat := inS_at L st1
          have hl1 := (ins_lt hin).2
          refine R_callSO hg.ok hg.gup hg.wide hg.Y [0, 1] (rdX S0 L (inS L st1) deep ++ [boxZ, bxT out, .box [iV q, iV l, iV r]]) (xPeek Y S0 L (inS L st1) deep) (fun _ => rfl) rfl rfl rfl rfl rfl (by rw [rdX_ren]; rfl) rfl (by rw [rdX_ren]; rfl) ?_
          first
          | (refine R_run hg.ok 1 rfl rfl ?_; refine R_rdAt (st := inS L st1) ((inS L st1).at_ + 1) (rfl) (by omega) rfl ?_)
          | (refine R_run hg.ok 2 rfl rfl ?_; refine R_rdAt (st := inS L st1) ((inS L st1).at_ + 1) (rfl) (by omega) rfl ?_)
          | (refine R_run hg.ok 3 rfl rfl ?_; refine R_rdAt (st := inS L st1) ((inS L st1).at_ + 1) (rfl) (by omega) rfl ?_)
          | (refine R_run hg.ok 4 rfl rfl ?_; refine R_rdAt (st := inS L st1) ((inS L st1).at_ + 1) (rfl) (by omega) rfl ?_)
          | (refine R_run hg.ok 5 rfl rfl ?_; refine R_rdAt (st := inS L st1) ((inS L st1).at_ + 1) (rfl) (by omega) rfl ?_)
          | (refine R_run hg.ok 6 rfl rfl ?_; refine R_rdAt (st := inS L st1) ((inS L st1).at_ + 1) (rfl) (by omega) rfl ?_)
          | (refine R_run hg.ok 7 rfl rfl ?_; refine R_rdAt (st := inS L st1) ((inS L st1).at_ + 1) (rfl) (by omega) rfl ?_)
          refine R_run hg.ok 1000 rfl rfl ?_
          have hi3 : RInv L (nxR (inS L st1)) := hi1.ins.nx (by rw [hat]; exact hl1)
          refine R_callSO hg.ok hg.gup hg.wide hg.Y [0, 1] (rdX S0 L st2 deep ++ [boxZ, bxT out, .box [iV q, iV l, iV r]]) (hT deep r _ y st2 hy hd hi3) (fun _ => rfl) rfl rfl rfl rfl rfl (by rw [rdX_ren]; rfl) rfl (by rw [rdX_ren]; rfl) ?_
          refine R_run hg.ok 1000 rfl rfl ?_
          refine R_loadJ hg.ok 103 (i := 4) (by unfold mayO; rintro (⟨h, _⟩ | h | ⟨h, _⟩) <;> omega) rfl rfl rfl rfl rfl rfl rfl ?_
          refine R_run hg.ok 1000 rfl rfl ?_
          refine R_storeJ hg.ok rfl rfl rfl rfl rfl rfl rfl rfl rfl ?_
          refine R_run hg.ok 1000 rfl rfl ?_
          have hb : Ob.box [.d (.v (.int .i64 3)), .d (.v (.string (Tx (peekR L st1).text))), .d (.v (.int .i64 0)), .d (.sl [rwT out, rwT y])] = bxT (fnT (peekR L st1).text [out, y]) := by rw [bxT_fn, ← rwT_rows]; rfl
          refine R_obs (rdX S0 L st2 deep ++ [boxZ, .box [.d (.v (.int .i64 3)), .d (.v (.string (Tx (peekR L (inS L st1)).text))), .d (.v (.int .i64 0)), .d (.sl [rwT out, rwT y])], .box [iV q, iV l, iV r], bxT y]) ⟨.refl _, .refl _, .refl _, ⟨.refl _, .refl _, .refl _, Ent.fs _, trivial⟩, .refl _, .refl _, trivial⟩ rfl ?_
          refine R_dropO 4 (rdX S0 L st2 deep ++ [boxZ, bxT (fnT (peekR L st1).text [out, y])]) (by show φ.length ≤ _; omega) rfl ?_ ?_
          · rw [peek_ins, hb]
            unfold rdX rdO robj; generalize st2.lay = b; cases b <;> rfl
          exact R_next (f, st2, fnT (peekR L st1).text [out, y], q) ⟨hm, hG _ _ _ _ _ hy hi3⟩ (by simp only; omega) ⟨.refl _, .refl _, .refl _, .refl _, .refl _, trivial⟩ rfl
  · rw [if_pos he] at hm
    cases hm
    refine R_if rfl rfl (fun h => absurd h (by simp [he])) (fun _ => ?_) <;> refine R_run hg.ok 1000 rfl rfl ?_
    exact R_retS hg 2 5 (Nat.le_refl _) rfl rfl (hk _ _)

theorem rdTerm_ok (Y : YP) (S0 : Bs) (L : List Tk) (hL : L.length ≤ 9000) (hS : S0.length ≤ 9000) (hpl : ∀ t ∈ L, 0 ≤ t.at_ ∧ t.at_ < S0.length ∧ 0 ≤ t.n ∧ t.n ≤ 9223372036854775807) : ∀ n, TCtr Y S0 L (termR false S0 L n)
  | 0 => fun _ _ _ _ _ h => by cases h
  | n + 1 => fun deep p st t st' h hd hi => rdStep_ok Y S0 L hL hS (rdTerm_ok Y S0 L hL hS hpl n) (term_inv false S0 L n) hpl deep p st t st' h hd hi
end Go.Proofs.Ythdpfglpdgmphaa

namespace PSL
open Go
abbrev Clau := Tm × List Bs

/-- The clauses of a text, one behind the other. -/
def clsR (right : Tm → Bool) (L : List Tk) (n : Nat) (T : TF) : Nat → RSt → List Clau → Option (List Clau × Int × Int)
  | 0, _, _ => none
  | f + 1, st, out =>
    if st.at_ < L.length then
      (T 0 1200 { st with names := [] }).bind fun x =>
        let st2 := if (peekR L x.2).kind ≠ 5 then failR L n x.2 2 else x.2
        let st3 := if st2.e = 0 ∧ right x.1 = false then { st2 with e := 3, bad := plcR L n st.at_ } else st2
        if st3.e ≠ 0 then some ([], st3.bad, st3.e) else clsR right L n T f (nxR st3) (out ++ [(x.1, st3.names)])
    else some (out, 0, 0)

def clauR (right : Tm → Bool) (sw : Bool) (S : Bs) : Option (List Clau × Int × Int) :=
  if (tokT S).2.2 ≠ 0 then some ([], (tokT S).2.1, (tokT S).2.2)
  else clsR right (tokT S).1 S.length (termR sw S (tokT S).1 ((tokT S).1.length + 2)) ((tokT S).1.length + 1) ⟨0, [], 0, 0, false⟩ []
end PSL

namespace Go.Proofs.Ythdpfglpdgmphaa
open Go PSL Go.Proofs
def wobjs (n : Nat) : List Ob := [.yld n, .box [.yl 0], .box [.clo 100 [] [.lo 1 0, .lo 2 0]]]

set_option maxRecDepth 100000 in
theorem walk_ok (Y : YP) (t : Tm) : ∀ (d : Int) (n : Nat), 0 ≤ d → d + t.size < 4611686018427387904 → (∀ (i : Nat) (e : Int × Tm), (t.els d)[i]? = some e → Y.ys[n + i]? = some (Tm.enc e)) → (n = 0 ∨ Y.go n = true) →
    SCtr Try.prog Y 100 [t.av, iV d, .lo 1 0, .lo 2 0] (wobjs n) (bV (adv Y t.size n).2) (wobjs (adv Y t.size n).1) := by
  induction t using Tm.ind with
  | _ t ih =>
  intro d n hd0 hd hy hgo
  refine SCtr.of_R (pf := fun _ => .eff) tyOk mixed Try.func100 rfl (by kernel_rfl) (by kernel_rfl) (by simp [Try.ntmps100]) (by simp [wobjs]) fun w S φ hg => ?_
  refine R_run hg.ok 1000 rfl rfl ?_
  refine R_yield hg rfl rfl rfl rfl rfl rfl rfl (avs := [iV d, t.av]) ?_ hgo ?_
  · exact hy 0 (d, t) (by rw [Tm.els_eq]; rfl)
  refine R_run hg.ok 1000 rfl rfl ?_
  have hsz := Tm.size_eq t
  have hlen := Tm.len_le_sizeL t.l
  refine R_if rfl rfl (fun h1 => ?_) (fun h1 => ?_)
  · refine R_run hg.ok 1000 rfl rfl ?_
    have h1 : (!Y.go (n + 1)) = true := h1
    have h2 : Y.go (n + 1) = false := by simpa using h1
    have h3 : adv Y t.size n = (n + 1, false) := by rw [hsz, Nat.add_comm]; simp [adv, h2]
    refine R_retS hg 3 5 (Nat.le_refl _) rfl ?_ ?_
    · rw [h3]; rfl
    · rw [h3]; rfl
  have h1 : (!Y.go (n + 1)) = false := h1
  have h2 : Y.go (n + 1) = true := by simpa using h1
  refine R_run hg.ok 1000 rfl rfl ?_
  refine R_loop (fun k : Nat => ([(1, iV d), (2, .lo 1 0), (3, .lo 2 0), (4, .lo 3 0), (15, .d (.sl (Tm.rows t.l))), (16, iV (t.l.length : Int)), (17, iV k)], wobjs (n + (1 + Tm.sizeL (t.l.take k))) ++ [.box [.d (.v (.int .i64 t.k)), .d (.v (.string t.s)), .d (.v (.int .i64 t.n)), .d (.sl (Tm.rows t.l))]]))
    (fun k => k ≤ t.l.length ∧ adv Y (1 + Tm.sizeL (t.l.take k)) n = (n + (1 + Tm.sizeL (t.l.take k)), true)) (fun k => t.l.length - k) 0 ?_ ?_ ?_ ?_
  · refine ⟨Nat.zero_le _, ?_⟩
    simp [Tm.sizeL, adv, h2]
  · exact ⟨.refl _, .refl _, .refl _, .refl _, .refl _, Ent.int (by rw [Tm.rows_length]), .refl _, trivial⟩
  · rfl
  intro k hk
  refine R_run hg.ok 1000 rfl rfl ?_
  refine R_if rfl rfl (fun h1 => ?_) (fun h1 => ?_)
  · have hk1 : k < t.l.length := by have := of_decide_eq_true h1; omega
    have e1 : t.l[k]? = some t.l[k] := List.getElem?_eq_getElem hk1
    have hszk := Tm.sizeL_take_succ e1
    have hmem := Tm.size_mem (List.getElem_mem hk1)
    refine R_run hg.ok 1000 rfl rfl ?_
    refine R_index hg.ok rfl rfl rfl rfl rfl rfl (Int.natCast_nonneg k) (Tm.rows_get e1) rfl ?_
    refine R_run hg.ok 1000 rfl rfl ?_
    refine R_see 24 rfl (Ent.wrap rfl (by omega) (by omega)) ?_
    refine R_callS hg.ok hg.gup hg.wide hg.Y [0, 1, 2] (ih _ (List.getElem_mem hk1) (d + 1) (n + (1 + Tm.sizeL (t.l.take k))) (by omega) (by omega) ?_ ?_) (fun _ => rfl) rfl rfl rfl rfl rfl rfl rfl ?_
    · intro i e he
      have hlt := (List.getElem?_eq_some_iff.1 he).1
      have := hy (1 + Tm.sizeL (t.l.take k) + i) e (by
        rw [Tm.els_eq, show 1 + Tm.sizeL (t.l.take k) + i = Tm.sizeL (t.l.take k) + i + 1 by omega, List.getElem?_cons_succ]
        have hsplit : t.l = t.l.take k ++ (t.l[k] :: t.l.drop (k + 1)) := by rw [← List.drop_eq_getElem_cons hk1, List.take_append_drop]
        rw [hsplit, Tm.elsL_append, List.getElem?_append_right (by rw [Tm.elsL_len]; rw [← hsplit]; omega), Tm.elsL_len, ← hsplit]
        simp only [Tm.elsL]
        rw [List.getElem?_append_left (by omega), show Tm.sizeL (List.take k t.l) + i - Tm.sizeL (List.take k t.l) = i by omega]
        exact he)
      rw [show n + (1 + Tm.sizeL (t.l.take k)) + i = n + (1 + Tm.sizeL (t.l.take k) + i) by omega]; exact this
    · right
      exact (adv_true (by rw [hk.2])).2 (by omega)
    refine R_run hg.ok 1000 rfl rfl ?_
    have hle : Tm.sizeL t.l = Tm.sizeL (t.l.take k) + (t.l[k].size + Tm.sizeL (t.l.drop (k + 1))) := by
      conv => lhs; rw [← List.take_append_drop k t.l, List.drop_eq_getElem_cons hk1]
      rw [Tm.sizeL_append, Tm.sizeL]
    refine R_if rfl rfl (fun h3 => ?_) (fun h3 => ?_)
    · have h3 : (!(adv Y t.l[k].size (n + (1 + Tm.sizeL (t.l.take k)))).2) = true := h3
      have h4 : (adv Y t.l[k].size (n + (1 + Tm.sizeL (t.l.take k)))).2 = false := by simpa using h3
      refine R_run hg.ok 1000 rfl rfl ?_
      have h5 : adv Y t.size n = adv Y t.l[k].size (n + (1 + Tm.sizeL (t.l.take k))) := by
        rw [hsz, hle, ← Nat.add_assoc, adv_add_true hk.2, adv_add, if_neg (by rw [h4]; simp)]
      refine R_retS hg 3 5 (Nat.le_refl _) rfl ?_ ?_
      · rw [h5, h4]; rfl
      · rw [h5]; rfl
    have h3 : (!(adv Y t.l[k].size (n + (1 + Tm.sizeL (t.l.take k)))).2) = false := h3
    have h4 : (adv Y t.l[k].size (n + (1 + Tm.sizeL (t.l.take k)))).2 = true := by simpa using h3
    have h6 := adv_eq h4
    refine R_run hg.ok 1000 rfl rfl ?_
    refine R_drop 4 (by rw [hg.hs0.len]; simp [wobjs]) rfl ?_
    have h7 : n + (1 + Tm.sizeL (t.l.take (k + 1))) = n + (1 + Tm.sizeL (t.l.take k)) + t.l[k].size := by rw [hszk]; omega
    refine R_next (k + 1) ⟨hk1, ?_⟩ (by omega) ⟨.refl _, .refl _, .refl _, .refl _, .refl _, .refl _, Ent.wrap (by omega) (by omega) (by omega), trivial⟩ ?_
    · rw [hszk, ← Nat.add_assoc 1, adv_add_true hk.2, h6]; simp only [Nat.add_assoc]
    · rw [h6]; show _ = wobjs (n + (1 + Tm.sizeL (t.l.take (k + 1)))) ++ _; rw [h7]; rfl
  · refine R_run hg.ok 1000 rfl rfl ?_
    have h3 : ¬ ((k : Int) < (t.l.length : Int)) := of_decide_eq_false h1
    have hkl : k = t.l.length := by omega
    have h4 : adv Y t.size n = (n + (1 + Tm.sizeL (t.l.take k)), true) := by
      have := hk.2
      rw [hkl, List.take_length] at this ⊢
      rw [hsz]; exact this
    refine R_retS hg 3 5 (Nat.le_refl _) rfl ?_ ?_
    · rw [h4]; rfl
    · rw [h4]; rfl

set_option maxRecDepth 100000 in
theorem all_ok (Y : YP) (t : Tm) (n : Nat) (hd : t.size < 1000000000) (hy : ∀ (i : Nat) (e : Int × Tm), (t.els 1)[i]? = some e → Y.ys[n + i]? = some (Tm.enc e)) (hgo : n = 0 ∨ Y.go n = true) :
    SCtr Try.prog Y 84 [t.av, .yl 0] [.yld n] (bV (adv Y t.size n).2) [.yld (adv Y t.size n).1] := by
  refine SCtr.of_R (pf := fun _ => .eff) tyOk mixed Try.func84 rfl (by kernel_rfl) (by kernel_rfl) (by simp [Try.ntmps84]) (by simp) fun w S φ hg => ?_
  refine R_run hg.ok 1000 rfl rfl ?_
  refine R_callS hg.ok hg.gup hg.wide hg.Y [0, 2, 3] (walk_ok Y t 1 n (by omega) (by omega) hy hgo) (fun _ => rfl) rfl rfl rfl rfl rfl rfl rfl ?_
  refine R_run hg.ok 1000 rfl rfl ?_
  refine R_retS hg 1 5 (Nat.le_refl _) rfl ?_ ?_
  · rfl
  · rfl

set_option maxRecDepth 100000 in
theorem each1_ok (Y : YP) (t : Tm) (hd : t.size < 1000000000) (hy : ∀ (i : Nat) (e : Int × Tm), (t.els 1)[i]? = some e → Y.ys[i]? = some (Tm.enc e)) :
    SCtr Try.prog Y 83 [.yl 0, .d (.ptr (Tm.row t))] [.yld 0] (.tup []) [.yld (adv Y t.size 0).1] := by
  refine SCtr.of_R (pf := fun _ => .eff) tyOk mixed Try.func83 rfl (by kernel_rfl) (by kernel_rfl) (by simp [Try.ntmps83]) (by simp) fun w S φ hg => ?_
  refine R_run hg.ok 1000 rfl rfl ?_
  refine R_callS hg.ok hg.gup hg.wide hg.Y [0] (all_ok Y t 0 hd (by simpa using hy) (.inl rfl)) (fun _ => rfl) rfl rfl rfl rfl rfl rfl rfl ?_
  refine R_run hg.ok 1000 rfl rfl ?_
  refine R_endS hg 1 5 (Nat.le_refl _) rfl ?_ ?_
  · rfl
  · rfl

set_option maxRecDepth 100000 in
theorem each_ok (t : Tm) : PCtr Try.prog 47 [t.av] (.clo 83 [] [.d (.ptr (Tm.row t))]) := by
  refine PCtr.of_R (pf := fun _ => .still) tyOk mixed Try.func47 rfl (by kernel_rfl) (by kernel_rfl) (by simp [Try.ntmps47]) fun w S hg => ?_
  refine R_run hg.ok 1000 rfl rfl ?_
  refine R_ret hg 5 rfl rfl ?_
  rfl
end Go.Proofs.Ythdpfglpdgmphaa

namespace Go.Proofs.Ythdpfglpdgmphaa
open Go PSL Go.Proofs
def boxT (t : Tm) : Ob := .box [.d (.v (.int .i64 t.k)), .d (.v (.string t.s)), .d (.v (.int .i64 t.n)), .d (.sl (Tm.rows t.l))]
theorem els_ys {t : Tm} {i : Nat} {e : Int × Tm} (h : (t.els 1)[i]? = some e) : ((t.els 1).map Tm.enc)[i]? = some (Tm.enc e) := by rw [List.getElem?_map, h]; rfl
theorem els_lt {t : Tm} {i : Nat} {e : Int × Tm} (h : (t.els 1)[i]? = some e) : i < t.size := by rw [← Tm.els_len t 1]; exact (List.getElem?_eq_some_iff.1 h).1
end Go.Proofs.Ythdpfglpdgmphaa

namespace Go.Proofs.Ythdpfglpdgmphaa
open Go PSL Go.Proofs

set_option maxRecDepth 100000 in
theorem named_ok (s : ByteArray) (hs : s.size < 1000000000) : PCtr Try.prog 85 [.d (.v (.string s))] (bV (namedB s)) := by
  refine PCtr.of_R (pf := fun _ => .still) tyOk mixed Try.func85 rfl (by kernel_rfl) (by kernel_rfl) (by simp [Try.ntmps85]) fun w S hg => ?_
  refine R_run hg.ok 1000 rfl rfl ?_
  refine R_loop (fun k : Nat => ([(0, .d (.v (.string s))), (5, iV s.size), (6, iV k)], [])) (fun k => k ≤ s.size ∧ ∀ i (hi : i < s.size), i < k → byteOk s[i] = true) (fun k => s.size - k) 0 ?_ ?_ rfl ?_
  · exact ⟨Nat.zero_le _, fun i _ h => absurd h (Nat.not_lt_zero _)⟩
  · exact ⟨.refl _, .refl _, .refl _, trivial⟩
  intro k hk
  refine R_run hg.ok 1000 rfl rfl ?_
  refine R_if rfl rfl (fun h1 => ?_) (fun h1 => ?_)
  · have hk1 : k < s.size := by have := of_decide_eq_true h1; omega
    refine R_run hg.ok 1000 rfl rfl ?_
    refine R_indexS hg.ok rfl rfl rfl rfl rfl (Int.natCast_nonneg k) (byte_at hk1) ?_
    refine R_run hg.ok 1000 rfl rfl ?_
    refine R_if rfl rfl (fun h2 => ?_) (fun h2 => ?_)
    · refine R_run hg.ok 1000 rfl rfl ?_
      refine R_ret hg 5 rfl rfl ?_
      have : byteOk s[k] = false := by unfold byteOk; rw [h2]; rfl
      simp only [namedB, not_all_bytes hk1 this]; rfl
    refine R_run hg.ok 1000 rfl rfl ?_
    refine R_indexS hg.ok rfl rfl rfl rfl rfl (Int.natCast_nonneg k) (byte_at hk1) ?_
    refine R_run hg.ok 1000 rfl rfl ?_
    refine R_if rfl rfl (fun h3 => ?_) (fun h3 => ?_)
    · refine R_run hg.ok 1000 rfl rfl ?_
      refine R_ret hg 5 rfl rfl ?_
      have : byteOk s[k] = false := by unfold byteOk; rw [h3]; simp
      simp only [namedB, not_all_bytes hk1 this]; rfl
    refine R_run hg.ok 1000 rfl rfl ?_
    refine R_next (k + 1) ⟨hk1, fun i hi hik => ?_⟩ (by omega) ⟨.refl _, .refl _, Ent.wrap (by omega) (by omega) (by omega), trivial⟩ rfl
    rcases Nat.lt_or_ge i k with h | h
    · exact hk.2 i hi h
    · have : i = k := by omega
      subst this
      unfold byteOk; rw [h2, h3]; rfl
  · have h4 : ¬ ((k : Int) < (s.size : Int)) := of_decide_eq_false h1
    have hall : s.data.toList.all byteOk = true := all_bytes fun i hi => hk.2 i hi (by omega)
    refine R_run hg.ok 1000 rfl rfl ?_
    refine R_if rfl rfl (fun h2 => ?_) (fun h2 => ?_)
    · refine R_run hg.ok 1000 rfl rfl ?_
      refine R_ret hg 5 rfl rfl ?_
      simp only [namedB, hall, h2, Bool.true_and]; rfl
    · refine R_run hg.ok 1000 rfl rfl ?_
      refine R_ret hg 5 rfl rfl ?_
      simp only [namedB, hall, h2, Bool.true_and]; rfl
end Go.Proofs.Ythdpfglpdgmphaa

namespace Go.Proofs.Ythdpfglpdgmphaa
open Go PSL Go.Proofs

set_option maxRecDepth 100000 in
theorem own_ok (t : Tm) (hs : t.s.size < 1000000000) : PCtr Try.prog 48 [t.av] (bV t.ownT) := by
  refine PCtr.of_R (pf := fun _ => .still) tyOk mixed Try.func48 rfl (by kernel_rfl) (by kernel_rfl) (by simp [Try.ntmps48]) fun w S hg => ?_
  refine R_run hg.ok 1000 rfl rfl ?_
  iterate 12
    all_goals try first
      | (refine R_if rfl rfl (fun _ => ?_) (fun _ => ?_) <;> refine R_run hg.ok 1000 rfl rfl ?_)
      | (refine R_call hg.ok (named_ok t.s hs) rfl rfl rfl rfl rfl rfl ?_; refine R_run hg.ok 1000 rfl rfl ?_)
  all_goals refine R_ret hg 5 rfl rfl ?_
  all_goals (simp only [Tm.rows_length, beq_iff_eq, beq_eq_false_iff_ne, ne_eq, decide_eq_true_eq, decide_eq_false_iff_not] at *)
  all_goals (simp_all [Tm.ownT, bV])
  all_goals (intros; omega)

set_option maxRecDepth 100000 in
theorem right_ok (t : Tm) (hd : t.size < 1000000000) (hs : ∀ e ∈ t.els 1, e.2.s.size < 1000000000) : PCtr Try.prog 24 [t.av] (bV (rightT t)) := by
  refine PCtr.of_R (pf := fun _ => .still) tyOk mixed Try.func24 rfl (by kernel_rfl) (by kernel_rfl) (by simp [Try.ntmps24]) fun w S hg => ?_
  refine R_run hg.ok 1000 rfl rfl ?_
  refine R_call hg.ok (each_ok t) rfl rfl rfl rfl rfl rfl ?_
  refine R_run hg.ok 1000 rfl rfl ?_
  refine R_range hg.ok hg.gup ⟨rfl, rfl⟩ rfl (t.els 1) Tm.enc ⟨(t.els 1).map Tm.enc, goR t⟩ rfl (fun n => [boxT t, .box [.d (.v (.bool false))], .box [iV n]]) (fun _ e => [(2, .lo 1 0), (3, .lo 2 0), (4, iV e.1), (5, .lo 3 0)]) (fun n e => [boxT t, .box [.d (.v (.bool false))], .box [iV n], boxT e.2]) _ .ret rfl rfl rfl (each1_ok _ t hd fun _ _ h => els_ys h) rfl (fun _ _ => rfl) rfl ?_ ?_ ?_ rfl rfl ?_
  · intro n x hx _ l w R0 X φ0 _
    refine R_run (gRound_ok hg.ok _ _ _ _ _) 1000 rfl rfl ?_
    exact R_finA ⟨.refl _, .refl _, .refl _, .refl _, trivial⟩ rfl
  · intro n x hx _ l w R0 X φ0 hφ0
    have hn := els_lt hx
    have hg' := gRound_ok hg.ok l w R0 X φ0
    have hgo : goR t (n + 1) = stepR x (n + 1) := by simp only [goR, hx]
    have hw : IntKind.i64.wrap ((n : Int) + 1) = ((n + 1 : Nat) : Int) := wrap_id (by omega) (by omega)
    refine R_run hg' 1000 rfl rfl ?_
    refine R_if rfl rfl (fun h1 => ?_) (fun h1 => ?_)
    · refine R_run hg' 1000 rfl rfl ?_
      refine R_drop 3 (by rw [show (gRound _ l w R0 X φ0).φ0 = φ0 from rfl, hφ0]; exact Nat.le_refl _) rfl ?_
      refine R_obs [boxT t, .box [.d (.v (.bool false))], .box [iV ((n + 1 : Nat) : Int)]] ⟨ObIn.refl _, ⟨Ent.ff, trivial⟩, ⟨Ent.int hw, trivial⟩, trivial⟩ rfl ?_
      exact R_retB (by rw [show (YP.go ⟨_, goR t⟩ (n + 1)) = goR t (n + 1) from rfl, hgo]; simp only [stepR, h1, Bool.true_or, Bool.not_true]) rfl rfl
    refine R_run hg' 1000 rfl rfl ?_
    refine R_if rfl rfl (fun h2 => ?_) (fun h2 => ?_)
    · refine R_run hg' 1000 rfl rfl ?_
      refine R_drop 3 (by rw [show (gRound _ l w R0 X φ0).φ0 = φ0 from rfl, hφ0]; exact Nat.le_refl _) rfl ?_
      refine R_obs [boxT t, .box [.d (.v (.bool false))], .box [iV ((n + 1 : Nat) : Int)]] ⟨ObIn.refl _, ⟨Ent.ff, trivial⟩, ⟨Ent.int hw, trivial⟩, trivial⟩ rfl ?_
      rw [hw] at h2
      exact R_retB (by rw [show (YP.go ⟨_, goR t⟩ (n + 1)) = goR t (n + 1) from rfl, hgo]; simp only [stepR, h2, Bool.or_true, Bool.true_or, Bool.not_true]) rfl rfl
    refine R_run hg' 1000 rfl rfl ?_
    refine R_call hg' (own_ok x.2 (hs x (List.mem_of_getElem? hx))) rfl rfl rfl rfl rfl rfl ?_
    refine R_run hg' 1000 rfl rfl ?_
    rw [hw] at h2
    refine R_if rfl rfl (fun h3 => ?_) (fun h3 => ?_)
    · refine R_run hg' 1000 rfl rfl ?_
      refine R_drop 3 (by rw [show (gRound _ l w R0 X φ0).φ0 = φ0 from rfl, hφ0]; exact Nat.le_refl _) rfl ?_
      refine R_obs [boxT t, .box [.d (.v (.bool false))], .box [iV ((n + 1 : Nat) : Int)]] ⟨ObIn.refl _, ⟨Ent.ff, trivial⟩, ⟨Ent.int hw, trivial⟩, trivial⟩ rfl ?_
      exact R_retB (by rw [show (YP.go ⟨_, goR t⟩ (n + 1)) = goR t (n + 1) from rfl, hgo]; simp only [stepR, h3, Bool.or_true, Bool.not_true]) rfl rfl
    · refine R_run hg' 1000 rfl rfl ?_
      refine R_drop 3 (by rw [show (gRound _ l w R0 X φ0).φ0 = φ0 from rfl, hφ0]; exact Nat.le_refl _) rfl ?_
      refine R_obs [boxT t, .box [.d (.v (.bool false))], .box [iV ((n + 1 : Nat) : Int)]] ⟨ObIn.refl _, ⟨.refl _, trivial⟩, ⟨Ent.int hw, trivial⟩, trivial⟩ rfl ?_
      exact R_finB (by rw [show (YP.go ⟨_, goR t⟩ (n + 1)) = goR t (n + 1) from rfl, hgo]; simp only [stepR, h1, h2, h3, Bool.or_false, Bool.not_false]) rfl
  · intro hgo
    refine R_run hg.ok 1000 rfl rfl ?_
    refine R_ret hg 5 rfl rfl ?_
    cases h : rightT t
    · obtain ⟨h1, h2⟩ := adv_false h
      exact absurd hgo (by rintro (h3 | h3); exact h2 h3; rw [h1] at h3; cases h3)
    · rfl
  · intro h0 hgo
    refine R_ret hg 5 rfl rfl ?_
    cases h : rightT t
    · rfl
    · have h1 := adv_true h
      rw [h1.1] at h0 hgo
      rw [h1.2 (by omega)] at hgo; cases hgo
end Go.Proofs.Ythdpfglpdgmphaa

namespace Go.Proofs.Ythdpfglpdgmphaa
open Go PSL Go.Proofs
def clRow (x : Clau) : List D := [.v (.int .i64 x.1.k), .v (.string x.1.s), .v (.int .i64 x.1.n), .sl (Tm.rows x.1.l), .sl (strRows x.2)]
def clRows (l : List Clau) : List (List D) := l.map clRow
theorem clRows_len (l : List Clau) : (clRows l).length = l.length := by simp [clRows]

/-- A reader between two clauses. -/
def cl1 (S : Bs) (L : List Tk) (st : RSt) : Ob := .box [.d (.v (.string (Tx S))), .d (.sl (tkRows L)), iV st.at_, .d (.sl (strRows st.names)), iV 0, iV st.bad, iV st.e, .d (.v (.int .u32 (if st.lay then 1 else 0))), .d (.v (.int .i32 0)), .d (.v (.int .u32 0)), tblV st.lay]
def cl2 (S : Bs) (L : List Tk) (st : RSt) : Ob := .box [.d (.v (.string (Tx S))), .d (.sl (tkRows L)), iV st.at_, .ow 2 st.names.length, iV 0, iV st.bad, iV st.e, .d (.v (.int .u32 (if st.lay then 1 else 0))), .d (.v (.int .i32 0)), .d (.v (.int .u32 0)), tblV st.lay]
def clO (S : Bs) (L : List Tk) (st : RSt) (j : Nat) (out : List Clau) : List Ob := [cl2 S L st, .arr 5 j (clRows out), .arr 1 st.names.length (strRows st.names)]
theorem rdX_ren02 (S : Bs) (L : List Tk) (st : RSt) (n : Nat) : (rdX S L st 0).map (renOb (rn [0, 2] n)) = [cl2 S L st, .arr 1 st.names.length (strRows st.names)] := robj_ren _ _ _ _ _ _ _ _ _ _ _

theorem cl1_keep (S : Bs) (L : List Tk) (st : RSt) (o : List Ob) : [cl1 S L st].map (mapOb (sealT false 1 o 5)) = [cl1 S L st] := by
  unfold cl1; generalize st.lay = b; cases b <;> rfl

theorem cl1_ren (S : Bs) (L : List Tk) (st : RSt) (n : Nat) : [cl1 S L st].map (renOb (rn [0] n)) = [cl1 S L st] := by
  unfold cl1; generalize st.lay = b; cases b <;> rfl

set_option maxRecDepth 100000 in
theorem clPlace_ok (Y : YP) (S0 : Bs) (L : List Tk) (st : RSt) : SCtr Try.prog Y 20 [.lo 0 0] [cl1 S0 L st] (iV (plcR L S0.length st.at_)) [cl1 S0 L st] := by
  refine SCtr.of_R (pf := fun _ => .eff) tyOk mixed Try.func20 rfl (by kernel_rfl) (by kernel_rfl) (by simp [Try.ntmps20]) (by simp) fun w S φ hg => ?_
  have hk : ∀ o : List Ob, [cl1 S0 L st].map (mapOb (sealT false 1 o 5)) = [cl1 S0 L st] := fun o => cl1_keep _ _ _ _
  refine R_run hg.ok 1000 rfl rfl ?_
  refine R_if rfl rfl (fun h => ?_) (fun h => ?_) <;> refine R_run hg.ok 1000 rfl rfl ?_
  · have hl : st.at_ < L.length := by have := of_decide_eq_true h; rw [tkRows_len] at this; omega
    have e1 : L[st.at_]? = some L[st.at_] := List.getElem?_eq_getElem hl
    rw [show plcR L S0.length st.at_ = L[st.at_].at_ by unfold plcR; rw [e1]]
    generalize L[st.at_] = t at e1
    refine R_index hg.ok rfl rfl rfl rfl rfl rfl (Int.natCast_nonneg _) (tkRows_get e1) rfl ?_
    refine R_run hg.ok 1000 rfl rfl ?_
    exact R_retS hg 1 5 (Nat.le_refl _) rfl rfl (hk _)
  · have hl : L.length ≤ st.at_ := by have := of_decide_eq_false h; rw [tkRows_len] at this; omega
    rw [show plcR L S0.length st.at_ = (S0.length : Int) by unfold plcR; rw [List.getElem?_eq_none hl]]
    refine R_see 2 rfl (v' := iV S0.length) (by rw [show ((Tx S0).size : Int) = S0.length by rw [Tx_size]]; exact .refl _) ?_
    exact R_retS hg 1 5 (Nat.le_refl _) rfl rfl (hk _)

def clsE (S0 : Bs) (L : List Tk) : (Nat × RSt × List Clau × Nat) → Env × List Ob
  | (_, st, out, j) => ([(5, .d (.sl (tkRows L))), (8, .lo 0 0), (9, .ow 1 j)], [cl1 S0 L st, .arr 5 j (clRows out)])

set_option maxRecDepth 100000 in
theorem clauses_ok (S0 : Bs) (hS : S0.length ≤ 9000) (L : List Tk) (hL : L.length ≤ 9000) (hpl : ∀ t ∈ L, 0 ≤ t.at_ ∧ t.at_ < S0.length ∧ 0 ≤ t.n ∧ t.n ≤ 9223372036854775807) (htk : tokR S0 = .tup [.d (.sl (tkRows L)), iV 0, iV 0])
    (n : Nat) (hb : ∀ st t st', RInv L st → termR false S0 L n 0 1200 st = some (t, st') → st'.e = 0 → t.size < 1000000000 ∧ ∀ e ∈ t.els 1, e.2.s.size < 1000000000) (c : List Clau) (a e : Int) (h : clsR rightT L S0.length (termR false S0 L n) (L.length + 1) ⟨0, [], 0, 0, false⟩ [] = some (c, a, e)) :
    PCtr Try.prog 9 [txA S0] (.tup [.d (.sl (clRows c)), iV a, iV e]) := by
  have hT := rdTerm_ok ⟨[], fun _ => true⟩ S0 L hL hS hpl n
  have hG := term_inv false S0 L n
  have hTk := tokens_ok S0 hS
  rw [htk] at hTk
  refine PCtr.of_R (pf := fun _ => .eff) tyOk mixed Try.func9 rfl (by kernel_rfl) (by kernel_rfl) (by simp [Try.ntmps9]) fun w S hg => ?_
  refine R_run hg.ok 1000 rfl rfl ?_
  refine R_call hg.ok (hTk) rfl rfl rfl rfl rfl rfl ?_
  refine R_run hg.ok 1000 rfl rfl ?_
  refine R_if rfl rfl (fun h => absurd h (by simp)) (fun _ => ?_)
  first
  | (refine R_run hg.ok 1 rfl rfl ?_; refine R_own 9 5 rfl rfl ?_)
  | (refine R_run hg.ok 2 rfl rfl ?_; refine R_own 9 5 rfl rfl ?_)
  | (refine R_run hg.ok 3 rfl rfl ?_; refine R_own 9 5 rfl rfl ?_)
  | (refine R_run hg.ok 4 rfl rfl ?_; refine R_own 9 5 rfl rfl ?_)
  | (refine R_run hg.ok 5 rfl rfl ?_; refine R_own 9 5 rfl rfl ?_)
  | (refine R_run hg.ok 6 rfl rfl ?_; refine R_own 9 5 rfl rfl ?_)
  | (refine R_run hg.ok 7 rfl rfl ?_; refine R_own 9 5 rfl rfl ?_)
  | (refine R_run hg.ok 8 rfl rfl ?_; refine R_own 9 5 rfl rfl ?_)
  | (refine R_run hg.ok 9 rfl rfl ?_; refine R_own 9 5 rfl rfl ?_)
  refine R_obs [cl1 S0 L ⟨0, [], 0, 0, false⟩, .arr 5 0 []] ⟨⟨.refl _, .refl _, .refl _, Ent.nil, .refl _, .refl _, .refl _, .refl _, .refl _, .refl _, .refl _, trivial⟩, .refl _, trivial⟩ rfl ?_
  refine R_run hg.ok 1000 rfl rfl ?_
  refine R_loop (clsE S0 L) (fun x => clsR rightT L S0.length (termR false S0 L n) x.1 x.2.1 x.2.2.1 = some (c, a, e) ∧ x.2.1.e = 0 ∧ x.2.2.1.length + x.1 ≤ L.length + 1 ∧ x.2.1.at_ ≤ L.length) (fun x => x.1) (L.length + 1, ⟨0, [], 0, 0, false⟩, [], 0) ⟨h, rfl, by simp, Nat.zero_le _⟩ ⟨.refl _, .refl _, .refl _, trivial⟩ rfl ?_
  rintro ⟨f, st, out, j⟩ ⟨hm, he0, hlo, hat⟩
  simp only at hm he0 hlo hat
  cases f with
  | zero => cases hm
  | succ f =>
  simp only [clsR] at hm
  refine R_run hg.ok 1000 rfl rfl ?_
  by_cases hat2 : st.at_ < L.length
  · rw [if_pos hat2] at hm
    refine R_if rfl rfl (fun _ => ?_) (fun h => absurd h (by simp [tkRows_len]; omega)) <;> refine R_run hg.ok 1000 rfl rfl ?_
    refine R_callSO hg.ok hg.gup ⟨rfl, rfl⟩ (fun _ _ _ _ h => by cases h) [0] [cl1 S0 L st, .arr 5 j (clRows out)] (clPlace_ok ⟨[], fun _ => true⟩ S0 L st) (fun _ => rfl) rfl rfl rfl rfl rfl (by rw [cl1_ren]; rfl) rfl (by rw [cl1_ren]; rfl) ?_
    first
    | (refine R_run hg.ok 1 rfl rfl ?_; refine R_ownB 0 3 1 rfl rfl rfl ?_)
    | (refine R_run hg.ok 2 rfl rfl ?_; refine R_ownB 0 3 1 rfl rfl rfl ?_)
    | (refine R_run hg.ok 3 rfl rfl ?_; refine R_ownB 0 3 1 rfl rfl rfl ?_)
    | (refine R_run hg.ok 4 rfl rfl ?_; refine R_ownB 0 3 1 rfl rfl rfl ?_)
    | (refine R_run hg.ok 5 rfl rfl ?_; refine R_ownB 0 3 1 rfl rfl rfl ?_)
    | (refine R_run hg.ok 6 rfl rfl ?_; refine R_ownB 0 3 1 rfl rfl rfl ?_)
    | (refine R_run hg.ok 7 rfl rfl ?_; refine R_ownB 0 3 1 rfl rfl rfl ?_)
    | (refine R_run hg.ok 8 rfl rfl ?_; refine R_ownB 0 3 1 rfl rfl rfl ?_)
    | (refine R_run hg.ok 9 rfl rfl ?_; refine R_ownB 0 3 1 rfl rfl rfl ?_)
    obtain ⟨⟨t, st1⟩, ht, hm⟩ := Option.bind_eq_some_iff.1 hm
    have hi0 : RInv L { st with names := [] } := ⟨Nat.zero_le _, hat⟩
    have hi1 := hG _ _ _ _ _ ht hi0
    have hc1 : SCtr Try.prog ⟨[], fun _ => true⟩ 21 [.lo 0 0, iV 1200] (rdX S0 L { st with names := [] } 0) t.av (rdX S0 L st1 0) := hT 0 1200 { st with names := [] } t st1 ht (by decide) hi0
    refine R_run hg.ok 1000 rfl rfl ?_
    refine R_callSO hg.ok hg.gup ⟨rfl, rfl⟩ (fun _ _ _ _ h => by cases h) [0, 2] (clO S0 L st1 j out) (hc1) (fun _ => rfl) rfl rfl rfl rfl rfl (by rw [rdX_ren02]; rfl) rfl (by rw [rdX_ren02]; rfl) ?_
    refine R_run hg.ok 1000 rfl rfl ?_
    refine R_callSO hg.ok hg.gup ⟨rfl, rfl⟩ (fun _ _ _ _ h => by cases h) [0, 2] (clO S0 L st1 j out ++ [bxT t]) (xPeek ⟨[], fun _ => true⟩ S0 L st1 0) (fun _ => rfl) rfl rfl rfl rfl rfl (by rw [rdX_ren02]; rfl) rfl (by rw [rdX_ren02]; rfl) ?_
    refine R_run hg.ok 1000 rfl rfl ?_
    simp only at hm
    obtain ⟨st2, hst2⟩ : ∃ st2, st2 = (if (peekR L st1).kind ≠ 5 then failR L S0.length st1 2 else st1) := ⟨_, rfl⟩
    rw [← hst2] at hm
    have h2 : st2.e = 0 → st1.e = 0 ∧ st1.at_ < L.length ∧ st2 = st1 := fun h => by
      by_cases hk5 : (peekR L st1).kind ≠ 5
      · rw [if_pos hk5] at hst2; subst hst2
        unfold failR at h; split at h
        · cases h
        · rename_i hne; exact absurd h hne
      · rw [if_neg hk5] at hst2
        have := peek_lt (L := L) (st := st1) (by rw [Decidable.not_not.1 hk5]; decide)
        exact ⟨this.1, this.2, hst2⟩
    refine R_cut1 (fun _ : Unit => ([(5, .d (.sl (tkRows L))), (8, .lo 0 0), (9, .ow 1 j), (10, iV (plcR L S0.length st.at_)), (11, .lo 3 0)], clO S0 L st2 j out ++ [bxT t])) (fun _ => True) rfl ?_ ?_
    · by_cases hk5 : (peekR L st1).kind ≠ 5
      · rw [if_pos hk5] at hst2
        refine R_if rfl rfl (fun _ => ?_) (fun h => absurd h (by simp [hk5])) <;> refine R_run hg.ok 1000 rfl rfl ?_
        refine R_callSO hg.ok hg.gup ⟨rfl, rfl⟩ (fun _ _ _ _ h => by cases h) [0, 2] (clO S0 L (failR L S0.length st1 2) j out ++ [bxT t]) (xFail ⟨[], fun _ => true⟩ S0 L st1 0 2) (fun _ => rfl) rfl rfl rfl rfl rfl (by rw [rdX_ren02]; rfl) rfl (by rw [rdX_ren02]; rfl) ?_
        refine R_run hg.ok 1000 rfl rfl ?_
        rw [← hst2]
        exact R_to () trivial ⟨.refl _, .refl _, .refl _, .refl _, .refl _, trivial⟩ rfl
      · rw [if_neg hk5] at hst2
        refine R_if rfl rfl (fun h => absurd h (by simp [hk5])) (fun _ => ?_) <;> refine R_run hg.ok 1000 rfl rfl ?_
        rw [hst2]
        exact R_to () trivial ⟨.refl _, .refl _, .refl _, .refl _, .refl _, trivial⟩ rfl
    rintro _ _
    obtain ⟨st3, hst3⟩ : ∃ st3, st3 = (if st2.e = 0 ∧ rightT t = false then { st2 with e := 3, bad := plcR L S0.length st.at_ } else st2) := ⟨_, rfl⟩
    rw [← hst3] at hm
    refine R_run hg.ok 1000 rfl rfl ?_
    by_cases h0 : st2.e = 0
    · obtain ⟨h3, h4, h5⟩ := h2 h0
      have hbt := hb _ _ _ hi0 ht h3
      have hR := right_ok t hbt.1 hbt.2
      refine R_if rfl rfl (fun _ => ?_) (fun h => absurd h (by simp [h0])) <;> refine R_run hg.ok 1000 rfl rfl ?_
      cases hr : rightT t with
      | false =>
        have hst3 : st3 = { st2 with e := 3, bad := plcR L S0.length st.at_ } := by rw [hst3, hr]; exact if_pos ⟨h0, rfl⟩
        subst hst3
        rw [hr] at hR
        rw [if_pos (show ((3 : Int) ≠ 0) by decide)] at hm
        cases hm
        refine R_call hg.ok (hR) rfl rfl rfl rfl rfl rfl ?_
        refine R_run hg.ok 1000 rfl rfl ?_
        refine R_if rfl rfl (fun _ => ?_) (fun h => absurd h (by simp)) <;> refine R_run hg.ok 1000 rfl rfl ?_
        refine R_if rfl rfl (fun _ => ?_) (fun h => absurd h (by simp)) <;> refine R_run hg.ok 1000 rfl rfl ?_
        refine R_ret hg 5 rfl rfl ?_
        rfl
      | true =>
        have hst3 : st3 = st2 := by rw [hst3, hr]; exact if_neg (by simp)
        rw [hst3] at hm
        rw [hr] at hR
        rw [if_neg (by simp [h0])] at hm
        refine R_call hg.ok (hR) rfl rfl rfl rfl rfl rfl ?_
        refine R_run hg.ok 1000 rfl rfl ?_
        refine R_if rfl rfl (fun h => absurd h (by simp)) (fun _ => ?_) <;> refine R_run hg.ok 1000 rfl rfl ?_
        refine R_if rfl rfl (fun h => absurd h (by simp [h0])) (fun _ => ?_)
        refine R_freezeO hg.gup 2 [(5, .d (.sl (tkRows L))), (8, .lo 0 0), (9, .ow 1 j), (11, .lo 3 0), (67, .ff)] [cl1 S0 L st2, .arr 5 j (clRows out), .dead, bxT t] rfl rfl ⟨.refl _, .refl _, .refl _, .refl _, .refl _, trivial⟩ ⟨⟨.refl _, .refl _, .refl _, Ent.frz 2 _ _, .refl _, .refl _, .refl _, .refl _, .refl _, .refl _, Ent.tblFrz 2 _ _ st2.lay, trivial⟩, rfl, by simp [ObIn], ⟨.refl _, .refl _, .refl _, .refl _, trivial⟩, trivial⟩ ?_
        have hnat : (nxR st2).at_ = st1.at_ + 1 := by rw [h5]; rfl
        first
        | (refine R_run hg.ok 1 rfl rfl ?_; refine R_obs [cl1 S0 L (nxR st2), .arr 5 j (clRows out), .dead, bxT t] ⟨⟨.refl _, .refl _, Ent.wrap rfl (by omega) (by omega), .refl _, .refl _, .refl _, .refl _, .refl _, .refl _, .refl _, .refl _, trivial⟩, .refl _, .refl _, .refl _, trivial⟩ rfl ?_)
        | (refine R_run hg.ok 2 rfl rfl ?_; refine R_obs [cl1 S0 L (nxR st2), .arr 5 j (clRows out), .dead, bxT t] ⟨⟨.refl _, .refl _, Ent.wrap rfl (by omega) (by omega), .refl _, .refl _, .refl _, .refl _, .refl _, .refl _, .refl _, .refl _, trivial⟩, .refl _, .refl _, .refl _, trivial⟩ rfl ?_)
        | (refine R_run hg.ok 3 rfl rfl ?_; refine R_obs [cl1 S0 L (nxR st2), .arr 5 j (clRows out), .dead, bxT t] ⟨⟨.refl _, .refl _, Ent.wrap rfl (by omega) (by omega), .refl _, .refl _, .refl _, .refl _, .refl _, .refl _, .refl _, .refl _, trivial⟩, .refl _, .refl _, .refl _, trivial⟩ rfl ?_)
        | (refine R_run hg.ok 4 rfl rfl ?_; refine R_obs [cl1 S0 L (nxR st2), .arr 5 j (clRows out), .dead, bxT t] ⟨⟨.refl _, .refl _, Ent.wrap rfl (by omega) (by omega), .refl _, .refl _, .refl _, .refl _, .refl _, .refl _, .refl _, .refl _, trivial⟩, .refl _, .refl _, .refl _, trivial⟩ rfl ?_)
        | (refine R_run hg.ok 5 rfl rfl ?_; refine R_obs [cl1 S0 L (nxR st2), .arr 5 j (clRows out), .dead, bxT t] ⟨⟨.refl _, .refl _, Ent.wrap rfl (by omega) (by omega), .refl _, .refl _, .refl _, .refl _, .refl _, .refl _, .refl _, .refl _, trivial⟩, .refl _, .refl _, .refl _, trivial⟩ rfl ?_)
        | (refine R_run hg.ok 6 rfl rfl ?_; refine R_obs [cl1 S0 L (nxR st2), .arr 5 j (clRows out), .dead, bxT t] ⟨⟨.refl _, .refl _, Ent.wrap rfl (by omega) (by omega), .refl _, .refl _, .refl _, .refl _, .refl _, .refl _, .refl _, .refl _, trivial⟩, .refl _, .refl _, .refl _, trivial⟩ rfl ?_)
        | (refine R_run hg.ok 7 rfl rfl ?_; refine R_obs [cl1 S0 L (nxR st2), .arr 5 j (clRows out), .dead, bxT t] ⟨⟨.refl _, .refl _, Ent.wrap rfl (by omega) (by omega), .refl _, .refl _, .refl _, .refl _, .refl _, .refl _, .refl _, .refl _, trivial⟩, .refl _, .refl _, .refl _, trivial⟩ rfl ?_)
        | (refine R_run hg.ok 8 rfl rfl ?_; refine R_obs [cl1 S0 L (nxR st2), .arr 5 j (clRows out), .dead, bxT t] ⟨⟨.refl _, .refl _, Ent.wrap rfl (by omega) (by omega), .refl _, .refl _, .refl _, .refl _, .refl _, .refl _, .refl _, .refl _, trivial⟩, .refl _, .refl _, .refl _, trivial⟩ rfl ?_)
        refine R_run hg.ok 1000 rfl rfl ?_
        refine R_appendO hg.ok (clRows (out ++ [(t, st2.names)])) rfl rfl rfl rfl rfl rfl rfl rfl rfl (by simp) (by simp [one1]) (by rw [clRows, clRows, List.map_append]; rfl) (by rw [clRows_len]; simp; omega) (by rw [clRows_len]; simp; omega) ?_
        refine R_run hg.ok 1000 rfl rfl ?_
        refine R_dropO 2 [cl1 S0 L (nxR st2), .arr 5 (j + 1) (clRows (out ++ [(t, st2.names)]))] (Nat.zero_le _) rfl ?_ ?_
        · unfold cl1 nxR; simp only; generalize st2.lay = b; cases b <;> rfl
        exact R_next (f, nxR st2, out ++ [(t, st2.names)], j + 1) ⟨hm, h0, by simp; omega, by rw [h5]; exact h4⟩ (by simp only; omega) ⟨.refl _, .refl _, .refl _, trivial⟩ rfl
    · have hst3 : st3 = st2 := by rw [hst3]; exact if_neg (fun h => h0 h.1)
      rw [hst3, if_pos h0] at hm
      cases hm
      refine R_if rfl rfl (fun h => absurd h (by simp [h0])) (fun _ => ?_) <;> refine R_run hg.ok 1000 rfl rfl ?_
      refine R_if rfl rfl (fun _ => ?_) (fun h => absurd h (by simp [h0])) <;> refine R_run hg.ok 1000 rfl rfl ?_
      refine R_ret hg 5 rfl rfl ?_
      rfl
  · rw [if_neg hat2] at hm
    cases hm
    refine R_if rfl rfl (fun h => absurd h (by simp [tkRows_len]; omega)) (fun _ => ?_) <;> refine R_run hg.ok 1000 rfl rfl ?_
    exact R_ret hg 5 rfl (sealA_tup (mapO_cons (sealA_ow rfl) rfl)) rfl
end Go.Proofs.Ythdpfglpdgmphaa

namespace Go.Proofs.Ythdpfglpdgmphaa
open Go PSL Go.Proofs
end Go.Proofs.Ythdpfglpdgmphaa

namespace Go.Proofs.Ythdpfglpdgmphaa
open Go PSL Go.Proofs
end Go.Proofs.Ythdpfglpdgmphaa

namespace Go.Proofs.Ythdpfglpdgmphaa
open Go PSL Go.Proofs
end Go.Proofs.Ythdpfglpdgmphaa

namespace Go.Proofs.Ythdpfglpdgmphaa
open Go PSL Go.Proofs
end Go.Proofs.Ythdpfglpdgmphaa

namespace Go.Proofs.Ythdpfglpdgmphaa
open Go PSL Go.Proofs
end Go.Proofs.Ythdpfglpdgmphaa

namespace Go.Proofs.Ythdpfglpdgmphaa
open Go PSL Go.Proofs
end Go.Proofs.Ythdpfglpdgmphaa

namespace Go.Proofs.Ythdpfglpdgmphaa
open Go PSL Go.Proofs
end Go.Proofs.Ythdpfglpdgmphaa

namespace Go.Proofs.Ythdpfglpdgmphaa
open Go PSL Go.Proofs
end Go.Proofs.Ythdpfglpdgmphaa

namespace Go.Proofs.Ythdpfglpdgmphaa
open Go PSL Go.Proofs

/-- A clause by itself. -/
def clA (x : Clau) : AV := .agg [.d (.v (.int .i64 x.1.k)), .d (.v (.string x.1.s)), .d (.v (.int .i64 x.1.n)), .d (.sl (Tm.rows x.1.l)), .d (.sl (strRows x.2))]

def oneR (n : Nat) : List Clau × Int × Int → Clau × Int × Int
  | (c, a, e) => if e ≠ 0 then ((zeroT, []), a, e) else match c with
    | [x] => (x, 0, 0)
    | _ => ((zeroT, []), n, 2)

set_option maxRecDepth 100000 in
theorem one_ok (S0 : Bs) (c : List Clau) (a e : Int) (h : PCtr Try.prog 9 [txA S0] (.tup [.d (.sl (clRows c)), iV a, iV e])) : PCtr Try.prog 13 [txA S0] (.tup [clA (oneR S0.length (c, a, e)).1, iV (oneR S0.length (c, a, e)).2.1, iV (oneR S0.length (c, a, e)).2.2]) := by
  unfold oneR
  simp only
  refine PCtr.of_R (pf := fun _ => .eff) tyOk mixed Try.func13 rfl (by kernel_rfl) (by kernel_rfl) (by simp [Try.ntmps13]) fun w S hg => ?_
  refine R_run hg.ok 1000 rfl rfl ?_
  refine R_call hg.ok (h) rfl rfl rfl rfl rfl rfl ?_
  refine R_run hg.ok 1000 rfl rfl ?_
  by_cases he : e ≠ 0
  · rw [if_pos he]
    refine R_if rfl rfl (fun _ => ?_) (fun h => absurd h (by simp [he])) <;> refine R_run hg.ok 1000 rfl rfl ?_
    refine R_ret hg 5 rfl rfl ?_
    rfl
  rw [if_neg he]
  refine R_if rfl rfl (fun h => absurd h (by simpa using he)) (fun _ => ?_) <;> refine R_run hg.ok 1000 rfl rfl ?_
  match c with
  | [x] =>
    refine R_if rfl rfl (fun h => absurd h (by simp [clRows])) (fun _ => ?_) <;> refine R_run hg.ok 1000 rfl rfl ?_
    refine R_index hg.ok rfl rfl rfl rfl rfl rfl (by decide) (show (clRows [x])[Int.toNat 0]? = some (clRow x) from rfl) rfl ?_
    refine R_run hg.ok 1000 rfl rfl ?_
    refine R_ret hg 5 rfl rfl ?_
    rfl
  | [] =>
    refine R_if rfl rfl (fun _ => ?_) (fun h => absurd h (by simp [clRows])) <;> refine R_run hg.ok 1000 rfl rfl ?_
    refine R_ret hg 5 rfl rfl ?_
    rw [Tx_size]; rfl
  | x :: y :: l =>
    refine R_if rfl rfl (fun _ => ?_) (fun h => absurd h (by simp [clRows]; omega)) <;> refine R_run hg.ok 1000 rfl rfl ?_
    refine R_ret hg 5 rfl rfl ?_
    rw [Tx_size]; rfl
end Go.Proofs.Ythdpfglpdgmphaa

namespace PSL
open Go
def TMono (T : TF) : Prop := ∀ deep p st t st', T deep p st = some (t, st') → st.at_ ≤ st'.at_
section
variable {S : Bs} {L : List Tk} {T : TF} {st : RSt}
theorem fail_at {n : Nat} {c : Int} : (failR L n st c).at_ = st.at_ := by unfold failR; split <;> rfl

theorem must_at {n : Nat} {s : Bs} : st.at_ ≤ (mustR L n st s).at_ := by
  unfold mustR; split
  · simp [nxR]
  · rw [fail_at]; exact Nat.le_refl _
theorem begS_at : (begS L st).at_ = st.at_ := by unfold begS; split <;> rfl
theorem nx_at : (nxR st).at_ = st.at_ + 1 := rfl

theorem many_mono (hT : TMono T) : ∀ (f deep : Nat) (st : RSt) (acc : List Tm) (l : List Tm) (st' : RSt), manyR L T f deep st acc = some (l, st') → st.at_ ≤ st'.at_
  | 0, _, _, _, _, _, h => by cases h
  | f + 1, deep, st, acc, l, st', h => by
    simp only [manyR] at h
    split at h
    · obtain ⟨x, hx, h⟩ := Option.bind_eq_some_iff.1 h
      have h1 := hT _ _ _ _ _ hx
      have h2 := many_mono hT f deep _ _ _ _ h
      rw [nx_at] at h1; omega
    · cases h; exact Nat.le_refl _

theorem row_mono (hT : TMono T) {deep : Nat} {l : List Tm} {st' : RSt} (h : rowR L T deep st = some (l, st')) : st.at_ ≤ st'.at_ := by
  obtain ⟨x, hx, h⟩ := Option.bind_eq_some_iff.1 h
  exact Nat.le_trans (hT _ _ _ _ _ hx) (many_mono hT _ _ _ _ _ _ h)

theorem named_mono (hT : TMono T) {deep : Nat} {p : Int} {t : Tk} {x : Tm × Int × RSt} (h : namedR S L T deep p t st = some x) : st.at_ ≤ x.2.2.at_ := by
  unfold namedR at h
  split at h
  · cases h; simp [nxR]; omega
  · split at h
    · obtain ⟨y, hy, rfl⟩ := Option.map_eq_some_iff.1 h
      have h1 := row_mono hT hy
      have h2 := must_at (L := L) (st := nxR st) (n := S.length) (s := [40])
      have h3 := must_at (L := L) (st := y.2) (n := S.length) (s := [41])
      rw [nx_at] at h2; simp only; omega
    · split at h
      · split at h
        · split at h
          · cases h; simp only; rw [fail_at]; exact Nat.le_refl _
          · obtain ⟨y, hy, rfl⟩ := Option.map_eq_some_iff.1 h
            have := hT _ _ _ _ _ hy
            rw [begS_at, nx_at] at this; simp only; omega
        · cases h; simp only; rw [begS_at, nx_at]; omega
      · cases h; simp [nxR]

theorem list_mono (hT : TMono T) {deep : Nat} {x : Tm × RSt} (h : listR S L T deep st = some x) : st.at_ ≤ x.2.at_ := by
  obtain ⟨y, hy, h⟩ := Option.bind_eq_some_iff.1 h
  have h1 := row_mono hT hy
  split at h
  · obtain ⟨z, hz, rfl⟩ := Option.map_eq_some_iff.1 h
    have h2 := hT _ _ _ _ _ hz
    have h3 := must_at (L := L) (st := z.2) (n := S.length) (s := [93])
    rw [nx_at] at h2; simp only; omega
  · cases h; exact Nat.le_trans h1 must_at

theorem opnd_mono (hT : TMono T) {sw : Bool} {deep : Nat} {p : Int} {x : Tm × Int × RSt} (h : opndR sw S L T deep p st = some x) : st.at_ ≤ x.2.2.at_ := by
  unfold opndR at h
  split at h
  · cases h; simp only; rw [fail_at]; exact Nat.le_refl _
  split at h
  · cases h; simp [nxR]
  split at h
  · cases h; simp only; rw [(var_at _).1]; simp [nxR]
  split at h
  · obtain ⟨y, hy, rfl⟩ := Option.map_eq_some_iff.1 h
    have := named_mono hT hy
    split <;> exact this
  split at h
  · obtain ⟨y, hy, rfl⟩ := Option.map_eq_some_iff.1 h
    have h2 := hT _ _ _ _ _ hy
    have h3 := must_at (L := L) (st := y.2) (n := S.length) (s := [41])
    rw [nx_at] at h2; simp only; omega
  split at h
  · obtain ⟨y, hy, rfl⟩ := Option.map_eq_some_iff.1 h
    have := list_mono hT hy
    rw [nx_at] at this; simp only; omega
  · cases h; simp only; rw [fail_at]; exact Nat.le_refl _

theorem rest_mono (hT : TMono T) : ∀ (f deep : Nat) (p : Int) (out : Tm) (now : Int) (st : RSt) (t : Tm) (st' : RSt), restR L T f deep p out now st = some (t, st') → st.at_ ≤ st'.at_
  | 0, _, _, _, _, _, _, _, h => by cases h
  | f + 1, deep, p, out, now, st, t, st', h => by
    simp only [restR] at h
    split at h
    · cases h; exact Nat.le_refl _
    split at h
    · cases h; rw [inS_at]; exact Nat.le_refl _
    · split at h
      · cases h; rw [inS_at]; exact Nat.le_refl _
      · obtain ⟨x, hx, h⟩ := Option.bind_eq_some_iff.1 h
        have h1 := hT _ _ _ _ _ hx
        have h2 := rest_mono hT f deep p _ _ _ _ _ h
        rw [nx_at, inS_at] at h1; omega
end

theorem term_mono (sw : Bool) (S : Bs) (L : List Tk) : ∀ n, TMono (termR sw S L n)
  | 0 => fun _ _ _ _ _ h => by cases h
  | n + 1 => fun deep p st t st' h => by
    simp only [termR] at h
    obtain ⟨x, hx, h⟩ := Option.bind_eq_some_iff.1 h
    exact Nat.le_trans (opnd_mono (term_mono sw S L n) hx) (rest_mono (term_mono sw S L n) _ _ _ _ _ _ _ _ h)
end PSL

namespace PSL
open Go

/-- Steps enough for a state. -/
def Enuf (L : List Tk) (m : Nat) (st : RSt) : Prop := st.e ≠ 0 ∨ L.length + 1 ≤ st.at_ + m
def TOk (L : List Tk) (m : Nat) (T : TF) : Prop := ∀ deep p st, RInv L st → Enuf L m st → ∃ r, T deep p st = some r
def TStick (T : TF) : Prop := ∀ deep p st t st', T deep p st = some (t, st') → st.e ≠ 0 → st' = st
section
variable {S : Bs} {L : List Tk} {T : TF} {st : RSt} {m : Nat}
theorem flE {n : Nat} {c : Int} (h : st.e ≠ 0) : failR L n st c = st := by unfold failR; rw [if_neg h]
theorem flN {n : Nat} {c : Int} (hc : c ≠ 0) : (failR L n st c).e ≠ 0 := by unfold failR; split; exact hc; assumption
theorem pkE (h : st.e ≠ 0) : peekR L st = zeroTk := by unfold peekR; rw [if_pos h]

theorem opE {sw : Bool} {deep : Nat} {p : Int} (h : st.e ≠ 0) : opndR sw S L T deep p st = some (zeroT, 0, st) := by
  unfold opndR
  rw [pkE h, flE h, flE h]
  split
  · rfl
  · rfl
theorem reE {f deep : Nat} {p now : Int} {out : Tm} (h : st.e ≠ 0) : restR L T (f + 1) deep p out now st = some (out, st) := by simp only [restR]; rw [if_pos h]
theorem mkE {s : Bs} (h : st.e ≠ 0) : isMk (peekR L st) s = false := by rw [pkE h]; rfl

theorem term_stick (sw : Bool) (S : Bs) (L : List Tk) : ∀ n, TStick (termR sw S L n)
  | 0 => fun _ _ _ _ _ h _ => by cases h
  | n + 1 => fun deep p st t st' h he => by
    simp only [termR] at h
    rw [opE he] at h
    simp only [Option.bind_some] at h
    rw [reE he] at h
    cases h; rfl

theorem Enuf.grow {st' : RSt} (hT : TStick T) (hM : TMono T) {deep : Nat} {p : Int} {t : Tm} (hx : T deep p st = some (t, st')) (h : Enuf L m st) : Enuf L m st' := by
  rcases h with h | h
  · exact .inl (by rw [hT _ _ _ _ _ hx h]; exact h)
  · exact .inr (by have := hM _ _ _ _ _ hx; omega)

theorem Enuf.must {n : Nat} {s : Bs} (h : Enuf L m st) : Enuf L m (mustR L n st s) := by
  rcases h with h | h
  · exact .inl (by unfold mustR; rw [mkE h]; simp only [Bool.false_eq_true, if_false]; rw [flE h]; exact h)
  · exact .inr (by have := must_at (L := L) (st := st) (n := n) (s := s); omega)

theorem many_ok (hT : TOk L m T) (hG : TGood L T) (hS : TStick T) (hM : TMono T) : ∀ (f deep : Nat) (st : RSt) (acc : List Tm), RInv L st → Enuf L m st → L.length + 1 ≤ st.at_ + f → 1 ≤ f → ∃ r, manyR L T f deep st acc = some r
  | 0, _, _, _, _, _, _, h => by omega
  | f + 1, deep, st, acc, hi, he, hf, _ => by
    simp only [manyR]
    cases hmk : isMk (peekR L st) [44] with
    | false => exact ⟨_, rfl⟩
    | true =>
      have hl := isMk_lt hmk
      have hi2 := hi.nx hl.2
      have he2 : Enuf L m (nxR st) := he.imp id fun h => by rw [nx_at]; omega
      obtain ⟨⟨x, st2⟩, hx⟩ := hT deep 999 (nxR st) hi2 he2
      have h1 := hM _ _ _ _ _ hx
      rw [nx_at] at h1
      simp only [if_true]
      rw [hx]
      exact many_ok hT hG hS hM f deep st2 _ (hG _ _ _ _ _ hx hi2) (he2.grow hS hM hx) (by omega) (by omega)

theorem row_ok (hT : TOk L m T) (hG : TGood L T) (hS : TStick T) (hM : TMono T) (deep : Nat) (hi : RInv L st) (he : Enuf L m st) : ∃ r, rowR L T deep st = some r := by
  obtain ⟨⟨x, st2⟩, hx⟩ := hT deep 999 st hi he
  unfold rowR
  rw [hx]
  exact many_ok hT hG hS hM _ deep st2 _ (hG _ _ _ _ _ hx hi) (he.grow hS hM hx) (by omega) (by omega)

theorem row_enuf (hS : TStick T) (hM : TMono T) {deep : Nat} {l : List Tm} {st' : RSt} (h : rowR L T deep st = some (l, st')) (he : Enuf L m st) : Enuf L m st' := by
  rcases he with h0 | h0
  · obtain ⟨⟨x, st2⟩, hx, h2⟩ := Option.bind_eq_some_iff.1 h
    have h2 : manyR L T (L.length + 1 + 1) deep st2 [x] = some (l, st') := h2
    rw [hS _ _ _ _ _ hx h0] at h2
    simp only [manyR] at h2
    rw [mkE h0] at h2
    cases h2
    exact .inl h0
  · exact .inr (by have := row_mono hM h; omega)

theorem named_ok (hT : TOk L m T) (hG : TGood L T) (hS : TStick T) (hM : TMono T) (deep : Nat) (p : Int) (t : Tk) (hi : RInv L st) (hl : st.at_ < L.length) (he : Enuf L m (nxR st)) : ∃ r, namedR S L T deep p t st = some r := by
  have hn := hi.nx hl
  unfold namedR
  split
  · exact ⟨_, rfl⟩
  split
  · obtain ⟨r, hr⟩ := row_ok hT hG hS hM deep hn.must he.must
    rw [hr]; exact ⟨_, rfl⟩
  split
  · split
    · split
      · exact ⟨_, rfl⟩
      · have hb : Enuf L m (begS L (nxR st)) := by
          rcases he with h | h
          · exact .inl (by unfold begS; split <;> exact h)
          · exact .inr (by rw [begS_at]; exact h)
        obtain ⟨r, hr⟩ := hT deep (preT t.text) _ hn.beg hb
        rw [hr]; exact ⟨_, rfl⟩
    · exact ⟨_, rfl⟩
  · exact ⟨_, rfl⟩

theorem list_ok (hT : TOk L m T) (hG : TGood L T) (hS : TStick T) (hM : TMono T) (deep : Nat) (hi : RInv L st) (he : Enuf L m st) : ∃ r, listR S L T deep st = some r := by
  obtain ⟨⟨l, st1⟩, hr⟩ := row_ok hT hG hS hM deep hi he
  unfold listR
  rw [hr]
  simp only [Option.bind_some]
  cases hmk : isMk (peekR L st1) [124] with
  | false => exact ⟨_, rfl⟩
  | true =>
    have hl := isMk_lt hmk
    have hi1 := row_inv hG hr hi
    have he1 : Enuf L m (nxR st1) := (row_enuf hS hM hr he).imp id fun h => by rw [nx_at]; omega
    obtain ⟨r, hr⟩ := hT deep 999 _ (hi1.nx hl.2) he1
    simp only [if_true]
    rw [hr]; exact ⟨_, rfl⟩
end
end PSL

namespace PSL
open Go
section
variable {S : Bs} {L : List Tk} {T : TF} {st : RSt} {m : Nat}

theorem opnd_ok (hT : TOk L m T) (hG : TGood L T) (hS : TStick T) (hM : TMono T) (sw : Bool) (deep : Nat) (p : Int) (hi : RInv L st) (hl : st.at_ < L.length) (he : Enuf L m (nxR st)) : ∃ r, opndR sw S L T deep p st = some r := by
  have hn := hi.nx hl
  unfold opndR
  split
  · exact ⟨_, rfl⟩
  split
  · exact ⟨_, rfl⟩
  split
  · exact ⟨_, rfl⟩
  split
  · obtain ⟨r, hr⟩ := named_ok (S := S) hT hG hS hM (deep + 1) p (peekR L st) hi hl he
    rw [hr]; exact ⟨_, rfl⟩
  split
  · obtain ⟨r, hr⟩ := hT (deep + 1) 1200 _ hn he
    rw [hr]; exact ⟨_, rfl⟩
  split
  · obtain ⟨r, hr⟩ := list_ok (S := S) hT hG hS hM (deep + 1) hn he
    rw [hr]; exact ⟨_, rfl⟩
  · exact ⟨_, rfl⟩

theorem rest_ok (hT : TOk L m T) (hG : TGood L T) (hM : TMono T) : ∀ (f deep : Nat) (p : Int) (out : Tm) (now : Int) (st : RSt), RInv L st → L.length ≤ st.at_ + m → L.length + 1 ≤ st.at_ + f → 1 ≤ f → ∃ r, restR L T f deep p out now st = some r
  | 0, _, _, _, _, _, _, _, _, h => by omega
  | f + 1, deep, p, out, now, st, hi, hm, hf, _ => by
    simp only [restR]
    split
    · exact ⟨_, rfl⟩
    split
    · exact ⟨_, rfl⟩
    · rename_i q l r hin
      split
      · exact ⟨_, rfl⟩
      · have hl := (ins_lt hin).2
        have hi2 : RInv L (nxR (inS L st)) := hi.ins.nx (by rw [inS_at]; exact hl)
        have hat : (nxR (inS L st)).at_ = st.at_ + 1 := by rw [nx_at, inS_at]
        obtain ⟨⟨x, st2⟩, hx⟩ := hT deep r _ hi2 (.inr (by rw [hat]; omega))
        have h1 := hM _ _ _ _ _ hx
        rw [hx]
        exact rest_ok hT hG hM f deep p _ _ st2 (hG _ _ _ _ _ hx hi2) (by omega) (by omega) (by omega)
end

/-- So many steps as there are tokens left, and one, are enough. -/
theorem term_ok (sw : Bool) (S : Bs) (L : List Tk) : ∀ n, 1 ≤ n → TOk L n (termR sw S L n)
  | 0, h => by omega
  | n + 1, _ => fun deep p st hi he => by
    simp only [termR]
    by_cases h0 : st.e ≠ 0
    · rw [opE h0]
      exact ⟨_, reE h0⟩
    have he : L.length + 1 ≤ st.at_ + (n + 1) := he.resolve_left h0
    have h0 : st.e = 0 := by simpa using h0
    by_cases hl : st.at_ < L.length
    · have hT := term_ok sw S L n (by omega)
      have hG := term_inv sw S L n
      have hM := term_mono sw S L n
      obtain ⟨x, hx⟩ := opnd_ok (S := S) hT hG (term_stick sw S L n) hM sw deep p hi hl (.inr (by rw [nx_at]; omega))
      have h1 := opnd_mono hM hx
      rw [hx]
      exact rest_ok hT hG hM _ deep p _ _ _ (opnd_inv hG hx hi) (by omega) (by omega) (by omega)
    · have hpk : peekR L st = zeroTk := by unfold peekR; rw [if_neg (by simp [h0]), List.getElem?_eq_none (by omega)]; rfl
      have hx : ∃ c, c ≠ 0 ∧ opndR sw S L (termR sw S L n) deep p st = some (zeroT, 0, failR L S.length st c) := by
        unfold opndR
        rw [hpk]
        split
        · exact ⟨3, by decide, rfl⟩
        · exact ⟨2, by decide, rfl⟩
      obtain ⟨c, hc, hx⟩ := hx
      rw [hx]
      exact ⟨_, reE (flN hc)⟩
end PSL

namespace PSL
open Go

/-- The same state, and the same value unless something is amiss. -/
def Agr {α : Type} (a b : Option (α × RSt)) : Prop := match a, b with
  | some x, some y => x.2 = y.2 ∧ (x.2.e = 0 → x.1 = y.1)
  | none, none => True
  | _, _ => False

theorem Agr.bind {α β : Type} {a b : Option (α × RSt)} {f g : α × RSt → Option (β × RSt)} (h : Agr a b) (hf : ∀ x y s, (s.e = 0 → x = y) → Agr (f (x, s)) (g (y, s))) : Agr (a.bind f) (b.bind g) := by
  cases a with
  | none => cases b with
    | none => trivial
    | some y => exact h.elim
  | some x => cases b with
    | none => exact h.elim
    | some y =>
      obtain ⟨x, s⟩ := x
      obtain ⟨y, s'⟩ := y
      obtain ⟨h1, h2⟩ := h
      simp only at h1 h2
      subst h1
      exact hf x y s h2
section
variable {S : Bs} {L : List Tk} {T T' : TF} {st : RSt}

theorem must_e {n : Nat} {s : Bs} (h : (mustR L n st s).e = 0) : st.e = 0 := by
  by_cases he : st.e = 0
  · exact he
  · unfold mustR at h
    rw [mkE he] at h
    simp only [Bool.false_eq_true, if_false] at h
    rw [flE he] at h
    exact h
end
end PSL

namespace PSL
open Go
section
variable {S : Bs} {L : List Tk} {T T' : TF} {st : RSt}

theorem Agr.map {α β : Type} {a b : Option (α × RSt)} {f g : α × RSt → β × RSt} (h : Agr a b) (hf : ∀ x y s, (s.e = 0 → x = y) → Agr (some (f (x, s))) (some (g (y, s)))) : Agr (a.map f) (b.map g) := by
  cases a with
  | none => cases b with
    | none => trivial
    | some y => exact h.elim
  | some x => cases b with
    | none => exact h.elim
    | some y =>
      obtain ⟨x, s⟩ := x
      obtain ⟨y, s'⟩ := y
      obtain ⟨h1, h2⟩ := h
      simp only at h1 h2
      subst h1
      exact hf x y s h2
end
end PSL

namespace PSL
open Go
end PSL

namespace PSL
open Go

theorem cls_ok (right : Tm → Bool) (L : List Tk) (n m : Nat) {T : TF} (hT : TOk L m T) (hG : TGood L T) (hM : TMono T) (hm : L.length + 1 ≤ m) : ∀ (f : Nat) (st : RSt) (out : List Clau), st.at_ ≤ L.length → L.length + 1 ≤ st.at_ + f → 1 ≤ f → ∃ r, clsR right L n T f st out = some r
  | 0, _, _, _, _, h => by omega
  | f + 1, st, out, hi, hf, _ => by
    simp only [clsR]
    by_cases hl : st.at_ < L.length
    · rw [if_pos hl]
      have hi0 : RInv L { st with names := [] } := ⟨Nat.zero_le _, hi⟩
      obtain ⟨⟨x, s⟩, hx⟩ := hT 0 1200 { st with names := [] } hi0 (.inr (by simp only; omega))
      have h1 := hM _ _ _ _ _ hx
      simp only at h1
      rw [hx]
      simp only [Option.bind_some]
      by_cases hk : (peekR L s).kind ≠ 5
      · have he : (failR L n s 2).e ≠ 0 := flN (by decide)
        rw [if_pos hk]
        simp only [he, false_and, if_false, ne_eq, not_false_eq_true, if_true]
        exact ⟨_, rfl⟩
      · rw [if_neg hk]
        have hp := peek_lt (L := L) (st := s) (by rw [Decidable.not_not.1 hk]; decide)
        by_cases hr : s.e = 0 ∧ right x = false
        · simp only [if_pos hr]
          rw [if_pos (show ((3 : Int) ≠ 0) by decide)]
          exact ⟨_, rfl⟩
        · simp only [if_neg hr]
          rw [if_neg (by simp [hp.1])]
          exact cls_ok right L n m hT hG hM hm f (nxR s) _ (by rw [nx_at]; omega) (by rw [nx_at]; omega) (by omega)
    · rw [if_neg hl]; exact ⟨_, rfl⟩

theorem clau_ok (right : Tm → Bool) (sw : Bool) (S : Bs) : ∃ r, clauR right sw S = some r := by
  unfold clauR
  split
  · exact ⟨_, rfl⟩
  · exact cls_ok right _ _ _ (term_ok sw S _ _ (by omega)) (term_inv sw S _ _) (term_mono sw S _ _) (by omega) _ _ _ (Nat.zero_le _) (by simp) (by omega)
end PSL

namespace PSL
open Go

/-- What is read without error has no more nodes than tokens gone through. -/
def TSz (T : TF) : Prop := ∀ deep p st t st', T deep p st = some (t, st') → st'.e = 0 → st.e = 0 ∧ st.at_ + t.size ≤ st'.at_
section
variable {S : Bs} {L : List Tk} {T : TF} {st : RSt}
theorem fail_sz {n : Nat} {c : Int} (hc : c ≠ 0) (h : (failR L n st c).e = 0) : False := flN hc h

theorem must_sz {n : Nat} {s : Bs} (h : (mustR L n st s).e = 0) : st.e = 0 ∧ (mustR L n st s).at_ = st.at_ + 1 := by
  refine ⟨must_e h, ?_⟩
  unfold mustR at h ⊢
  split
  · rfl
  · rename_i hm; rw [if_neg hm] at h; exact (fail_sz (by decide) h).elim

theorem sizeL_snoc (l : List Tm) (t : Tm) : Tm.sizeL (l ++ [t]) = Tm.sizeL l + t.size := by
  induction l with
  | nil => simp [Tm.sizeL]
  | cons x l ih => simp only [List.cons_append, Tm.sizeL, ih]; omega

theorem many_sz (hT : TSz T) : ∀ (f deep : Nat) (st : RSt) (acc l : List Tm) (st' : RSt), manyR L T f deep st acc = some (l, st') → st'.e = 0 → st.e = 0 ∧ acc.length ≤ l.length ∧ st.at_ + Tm.sizeL l + l.length ≤ st'.at_ + Tm.sizeL acc + acc.length
  | 0, _, _, _, _, _, h, _ => by cases h
  | f + 1, deep, st, acc, l, st', h, he => by
    simp only [manyR] at h
    split at h
    · rename_i hm
      obtain ⟨⟨x, s⟩, hx, h⟩ := Option.bind_eq_some_iff.1 h
      obtain ⟨h1, h2, h3⟩ := many_sz hT f deep _ _ _ _ h he
      obtain ⟨h4, h5⟩ := hT _ _ _ _ _ hx h1
      rw [sizeL_snoc] at h3
      rw [nx_at] at h5
      simp only [List.length_append, List.length_singleton] at h2 h3
      exact ⟨(isMk_lt hm).1, by omega, by omega⟩
    · cases h; exact ⟨he, Nat.le_refl _, by omega⟩

theorem row_sz (hT : TSz T) {deep : Nat} {l : List Tm} {st' : RSt} (h : rowR L T deep st = some (l, st')) (he : st'.e = 0) : st.e = 0 ∧ st.at_ + Tm.sizeL l + l.length ≤ st'.at_ + 1 := by
  obtain ⟨⟨x, s⟩, hx, h⟩ := Option.bind_eq_some_iff.1 h
  obtain ⟨h1, h2, h3⟩ := many_sz hT _ deep _ _ _ _ h he
  obtain ⟨h4, h5⟩ := hT _ _ _ _ _ hx h1
  simp only [Tm.sizeL, List.length_singleton] at h3
  exact ⟨h4, by omega⟩
end
end PSL

namespace PSL
open Go
section
variable {S : Bs} {L : List Tk} {T : TF} {st : RSt}
theorem fnT_size (s : Bs) (l : List Tm) : (fnT s l).size = 1 + Tm.sizeL l := by simp [fnT, Tm.size]

theorem consT_size (l : List Tm) (t : Tm) : (consT l t).size = Tm.sizeL l + l.length + t.size := by
  induction l with
  | nil => simp [consT, Tm.sizeL]
  | cons x l ih =>
    have : consT (x :: l) t = fnT [46] [x, consT l t] := rfl
    rw [this, fnT_size]
    simp only [Tm.sizeL, List.length_cons, ih]; omega

theorem named_sz (hT : TSz T) {deep : Nat} {p : Int} {t : Tk} {x : Tm × Int × RSt} (h : namedR S L T deep p t st = some x) (he : x.2.2.e = 0) : st.e = 0 ∧ st.at_ + x.1.size ≤ x.2.2.at_ := by
  unfold namedR at h
  split at h
  · cases h; exact ⟨he, by simp [nmT, nxR, Tm.size, Tm.sizeL]⟩
  split at h
  · obtain ⟨⟨l, s⟩, hy, rfl⟩ := Option.map_eq_some_iff.1 h
    simp only at he ⊢
    obtain ⟨h1, h2⟩ := must_sz he
    obtain ⟨h3, h4⟩ := row_sz hT hy h1
    obtain ⟨h5, h6⟩ := must_sz h3
    rw [h6, nx_at] at h4
    rw [fnT_size, h2]
    exact ⟨h5, by omega⟩
  split at h
  · split at h
    · split at h
      · cases h; exact (fail_sz (by decide) he).elim
      · obtain ⟨⟨y, s⟩, hy, rfl⟩ := Option.map_eq_some_iff.1 h
        simp only at he ⊢
        obtain ⟨h1, h2⟩ := hT _ _ _ _ _ hy he
        rw [begS_at, nx_at] at h2
        rw [fnT_size]
        refine ⟨?_, by simp only [Tm.sizeL]; omega⟩
        unfold begS at h1; split at h1 <;> exact h1
    · cases h
      simp only at he ⊢
      rw [fnT_size, begS_at, nx_at]
      refine ⟨?_, by simp only [Tm.sizeL]; omega⟩
      unfold begS at he; split at he <;> exact he
  · cases h; exact ⟨he, by rw [fnT_size, nx_at]; simp only [Tm.sizeL]; omega⟩

theorem list_sz (hT : TSz T) {deep : Nat} {x : Tm × RSt} (h : listR S L T deep st = some x) (he : x.2.e = 0) : st.e = 0 ∧ st.at_ + x.1.size ≤ x.2.at_ + 1 := by
  obtain ⟨⟨l, s⟩, hy, h⟩ := Option.bind_eq_some_iff.1 h
  simp only at h
  split at h
  · obtain ⟨⟨z, s2⟩, hz, rfl⟩ := Option.map_eq_some_iff.1 h
    simp only at he ⊢
    obtain ⟨h1, h2⟩ := must_sz he
    obtain ⟨h3, h4⟩ := hT _ _ _ _ _ hz h1
    obtain ⟨h5, h6⟩ := row_sz hT hy h3
    rw [nx_at] at h4
    rw [consT_size, h2]
    exact ⟨h5, by omega⟩
  · cases h
    simp only at he ⊢
    obtain ⟨h1, h2⟩ := must_sz he
    obtain ⟨h5, h6⟩ := row_sz hT hy h1
    rw [consT_size, h2, fnT_size]
    exact ⟨h5, by simp only [Tm.sizeL]; omega⟩
end
end PSL

namespace PSL
open Go
section
variable {S : Bs} {L : List Tk} {T : TF} {st : RSt}

theorem opnd_sz (hT : TSz T) {sw : Bool} {deep : Nat} {p : Int} {x : Tm × Int × RSt} (h : opndR sw S L T deep p st = some x) (he : x.2.2.e = 0) : st.e = 0 ∧ st.at_ + x.1.size ≤ x.2.2.at_ := by
  unfold opndR at h
  split at h
  · cases h; exact (fail_sz (by decide) he).elim
  split at h
  · cases h; exact ⟨he, by simp [nmT, nxR, Tm.size, Tm.sizeL]⟩
  split at h
  · cases h
    simp only at he ⊢
    obtain ⟨h1, _, _, h4, _⟩ := var_at (st := nxR st) (peekR L st).text
    rw [h4] at he
    exact ⟨he, by rw [h1, nx_at]; simp [Tm.vT, Tm.size, Tm.sizeL]⟩
  split at h
  · obtain ⟨y, hy, rfl⟩ := Option.map_eq_some_iff.1 h
    split at he
    · rename_i hc
      simp only [Bool.and_eq_true, decide_eq_true_eq] at hc
      exact absurd he hc.2
    · rename_i hc
      rw [if_neg hc]
      exact named_sz hT hy he
  split at h
  · obtain ⟨⟨y, s⟩, hy, rfl⟩ := Option.map_eq_some_iff.1 h
    simp only at he ⊢
    obtain ⟨h1, h2⟩ := must_sz he
    obtain ⟨h3, h4⟩ := hT _ _ _ _ _ hy h1
    rw [nx_at] at h4
    rw [h2]
    exact ⟨h3, by omega⟩
  split at h
  · obtain ⟨⟨y, s⟩, hy, rfl⟩ := Option.map_eq_some_iff.1 h
    simp only at he ⊢
    obtain ⟨h3, h4⟩ := list_sz hT hy he
    rw [nx_at] at h4
    simp only at h4
    exact ⟨h3, by omega⟩
  · cases h; exact (fail_sz (by decide) he).elim

theorem rest_sz (hT : TSz T) : ∀ (f deep : Nat) (p : Int) (out : Tm) (now : Int) (st : RSt) (t : Tm) (st' : RSt), restR L T f deep p out now st = some (t, st') → st'.e = 0 → st.e = 0 ∧ st.at_ + t.size ≤ st'.at_ + out.size
  | 0, _, _, _, _, _, _, _, h, _ => by cases h
  | f + 1, deep, p, out, now, st, t, st', h, he => by
    have hi : (inS L st).e = st.e := by unfold inS; split <;> rfl
    simp only [restR] at h
    split at h
    · rename_i h0; cases h; exact absurd he h0
    rename_i h0
    have h0 : st.e = 0 := by simpa using h0
    split at h
    · cases h; exact ⟨h0, by rw [inS_at]; omega⟩
    · split at h
      · cases h; exact ⟨h0, by rw [inS_at]; omega⟩
      · obtain ⟨⟨x, s⟩, hx, h⟩ := Option.bind_eq_some_iff.1 h
        obtain ⟨h1, h2⟩ := rest_sz hT f deep p _ _ _ _ _ h he
        obtain ⟨h3, h4⟩ := hT _ _ _ _ _ hx h1
        rw [nx_at, inS_at] at h4
        rw [fnT_size] at h2
        simp only [Tm.sizeL] at h2
        exact ⟨h0, by omega⟩
end

theorem term_sz (sw : Bool) (S : Bs) (L : List Tk) : ∀ n, TSz (termR sw S L n)
  | 0 => fun _ _ _ _ _ h _ => by cases h
  | n + 1 => fun deep p st t st' h he => by
    simp only [termR] at h
    obtain ⟨x, hx, h⟩ := Option.bind_eq_some_iff.1 h
    obtain ⟨h1, h2⟩ := rest_sz (term_sz sw S L n) _ _ _ _ _ _ _ _ h he
    obtain ⟨h3, h4⟩ := opnd_sz (term_sz sw S L n) hx h1
    exact ⟨h3, by omega⟩
end PSL

namespace PSL
open Go

/-- No text in a term is longer. -/
def SB (B : Nat) (t : Tm) : Prop := ∀ d e, e ∈ Tm.els t d → e.2.s.size ≤ B

theorem mem_elsL : ∀ {l : List Tm} {d : Int} {e : Int × Tm}, e ∈ Tm.elsL l d → ∃ x ∈ l, e ∈ Tm.els x d
  | [], _, _, h => by simp [Tm.elsL] at h
  | x :: l, d, e, h => by
    simp only [Tm.elsL, List.mem_append] at h
    rcases h with h | h
    · exact ⟨x, by simp, h⟩
    · obtain ⟨y, hy, h⟩ := mem_elsL h
      exact ⟨y, by simp [hy], h⟩

theorem SB.mk' {B : Nat} {t : Tm} (h : t.s.size ≤ B) (hl : ∀ x ∈ t.l, SB B x) : SB B t := fun d e he => by
  rw [Tm.els_eq] at he
  rcases List.mem_cons.1 he with rfl | he
  · exact h
  · obtain ⟨x, hx, he⟩ := mem_elsL he
    exact hl x hx _ _ he
theorem SB.fn {B : Nat} {s : Bs} {l : List Tm} (h : s.length ≤ B) (hl : ∀ x ∈ l, SB B x) : SB B (fnT s l) := .mk' (by show (Tx s).size ≤ B; rw [Tx_size]; exact h) hl
def TSB (B : Nat) (T : TF) : Prop := ∀ deep p st t st', T deep p st = some (t, st') → SB B t
section
variable {S : Bs} {L : List Tk} {T : TF} {st : RSt} {B : Nat}

theorem many_sb (hT : TSB B T) : ∀ (f deep : Nat) (st : RSt) (acc l : List Tm) (st' : RSt), manyR L T f deep st acc = some (l, st') → (∀ x ∈ acc, SB B x) → ∀ x ∈ l, SB B x
  | 0, _, _, _, _, _, h, _ => by cases h
  | f + 1, deep, st, acc, l, st', h, ha => by
    simp only [manyR] at h
    split at h
    · obtain ⟨⟨x, s⟩, hx, h⟩ := Option.bind_eq_some_iff.1 h
      refine many_sb hT f deep _ _ _ _ h fun y hy => ?_
      rcases List.mem_append.1 hy with hy | hy
      · exact ha y hy
      · rw [List.mem_singleton.1 hy]; exact hT _ _ _ _ _ hx
    · cases h; exact ha

theorem row_sb (hT : TSB B T) {deep : Nat} {l : List Tm} {st' : RSt} (h : rowR L T deep st = some (l, st')) : ∀ x ∈ l, SB B x := by
  obtain ⟨⟨x, s⟩, hx, h⟩ := Option.bind_eq_some_iff.1 h
  exact many_sb hT _ deep _ _ _ _ h fun y hy => by rw [List.mem_singleton.1 hy]; exact hT _ _ _ _ _ hx
theorem nm_sb (n : Int) : SB B (nmT n) := .mk' (Nat.zero_le _) (by simp [nmT, Tm.l])
theorem zero_sb : SB B zeroT := .mk' (Nat.zero_le _) (by simp [zeroT, Tm.l])

theorem consT_sb (hB : 2 ≤ B) {l : List Tm} {t : Tm} (hl : ∀ x ∈ l, SB B x) (ht : SB B t) : SB B (consT l t) := by
  induction l with
  | nil => exact ht
  | cons x l ih =>
    exact .fn (by simp; omega) fun y hy => by
      simp only [List.mem_cons, List.not_mem_nil, or_false] at hy
      rcases hy with rfl | rfl
      · exact hl _ (by simp)
      · exact ih fun z hz => hl z (by simp [hz])

theorem named_sb (hT : TSB B T) {deep : Nat} {p : Int} {t : Tk} (ht : t.text.length ≤ B) {x : Tm × Int × RSt} (h : namedR S L T deep p t st = some x) : SB B x.1 := by
  unfold namedR at h
  split at h
  · cases h; exact nm_sb _
  split at h
  · obtain ⟨⟨l, s⟩, hy, rfl⟩ := Option.map_eq_some_iff.1 h
    exact .fn ht (row_sb hT hy)
  split at h
  · split at h
    · split at h
      · cases h; exact zero_sb
      · obtain ⟨⟨y, s⟩, hy, rfl⟩ := Option.map_eq_some_iff.1 h
        exact .fn ht fun z hz => by rw [List.mem_singleton.1 hz]; exact hT _ _ _ _ _ hy
    · cases h; exact .fn ht (by simp)
  · cases h; exact .fn ht (by simp)
end
end PSL

namespace PSL
open Go
section
variable {S : Bs} {L : List Tk} {T : TF} {st : RSt} {B : Nat}

theorem peek_sb (hL : ∀ t ∈ L, t.text.length ≤ B) : (peekR L st).text.length ≤ B := by
  unfold peekR
  split
  · exact Nat.zero_le _
  · cases h : L[st.at_]? with
    | none => exact Nat.zero_le _
    | some t => exact hL t (List.mem_of_getElem? h)

theorem list_sb (hB : 2 ≤ B) (hT : TSB B T) {deep : Nat} {x : Tm × RSt} (h : listR S L T deep st = some x) : SB B x.1 := by
  obtain ⟨⟨l, s⟩, hy, h⟩ := Option.bind_eq_some_iff.1 h
  simp only at h
  split at h
  · obtain ⟨⟨z, s2⟩, hz, rfl⟩ := Option.map_eq_some_iff.1 h
    exact consT_sb hB (row_sb hT hy) (hT _ _ _ _ _ hz)
  · cases h
    exact consT_sb hB (row_sb hT hy) (.fn (by simp; omega) (by simp))

theorem opnd_sb (hB : 2 ≤ B) (hL : ∀ t ∈ L, t.text.length ≤ B) (hT : TSB B T) {sw : Bool} {deep : Nat} {p : Int} {x : Tm × Int × RSt} (h : opndR sw S L T deep p st = some x) : SB B x.1 := by
  unfold opndR at h
  split at h
  · cases h; exact zero_sb
  split at h
  · cases h; exact nm_sb _
  split at h
  · cases h; exact .mk' (Nat.zero_le _) (by simp [Tm.vT, Tm.l])
  split at h
  · obtain ⟨y, hy, rfl⟩ := Option.map_eq_some_iff.1 h
    split
    · exact zero_sb
    · exact named_sb hT (peek_sb hL) hy
  split at h
  · obtain ⟨⟨y, s⟩, hy, rfl⟩ := Option.map_eq_some_iff.1 h
    exact hT _ _ _ _ _ hy
  split at h
  · obtain ⟨⟨y, s⟩, hy, rfl⟩ := Option.map_eq_some_iff.1 h
    exact list_sb hB hT hy
  · cases h; exact zero_sb

theorem rest_sb (hL : ∀ t ∈ L, t.text.length ≤ B) (hT : TSB B T) : ∀ (f deep : Nat) (p : Int) (out : Tm) (now : Int) (st : RSt) (t : Tm) (st' : RSt), restR L T f deep p out now st = some (t, st') → SB B out → SB B t
  | 0, _, _, _, _, _, _, _, h, _ => by cases h
  | f + 1, deep, p, out, now, st, t, st', h, ho => by
    simp only [restR] at h
    split at h
    · cases h; exact ho
    split at h
    · cases h; exact ho
    · split at h
      · cases h; exact ho
      · obtain ⟨⟨x, s⟩, hx, h⟩ := Option.bind_eq_some_iff.1 h
        refine rest_sb hL hT f deep p _ _ _ _ _ h (.fn (peek_sb hL) fun y hy => ?_)
        simp only [List.mem_cons, List.not_mem_nil, or_false] at hy
        rcases hy with rfl | rfl
        · exact ho
        · exact hT _ _ _ _ _ hx
end

theorem term_sb {B : Nat} (hB : 2 ≤ B) (sw : Bool) (S : Bs) (L : List Tk) (hL : ∀ t ∈ L, t.text.length ≤ B) : ∀ n, TSB B (termR sw S L n)
  | 0 => fun _ _ _ _ _ h => by cases h
  | n + 1 => fun deep p st t st' h => by
    simp only [termR] at h
    obtain ⟨x, hx, h⟩ := Option.bind_eq_some_iff.1 h
    exact rest_sb hL (term_sb hB sw S L hL n) _ _ _ _ _ _ _ _ h (opnd_sb hB hL (term_sb hB sw S L hL n) hx)
end PSL

namespace PSL
open Go

/-- What is known of the tokens of a text. -/
structure TkG (L : Bs) (t : Tk) : Prop where
  lo : 0 ≤ t.n
  hi : t.n ≤ 9223372036854775807
  len : t.text.length ≤ L.length + 20
  var : t.kind = 2 → t.text ≠ []

theorem TkG.name {L : Bs} {kind : Int} {text : Bs} {i to : Nat} {t : Tk} {j : Nat} (h : nameT L kind text i to = some (t, j)) : TkG L t := by
  obtain ⟨_, rfl, l1, l2⟩ := nameT_to h
  exact ⟨by simp, by simp, by simp only; omega, fun _ h => by simp only at h; rw [h] at l1; simp at l1⟩
theorem cutB_le (L : Bs) (i j : Nat) : (cutB L i j).length ≤ L.length := by unfold cutB; simp only [List.length_take, List.length_drop]; omega

theorem numT_le {D : Bs} {n : Nat} (h : numT D = some n) : n ≤ 9223372036854775807 := by
  unfold numT at h; split at h
  · cases h
  · rename_i hc; cases h; omega

theorem oneT_good {L : Bs} {i : Nat} {t : Tk} {j : Nat} (h : oneT L i = some (t, j)) : TkG L t := by
  unfold oneT at h
  split at h
  · cases h
  split at h; · exact .name h
  split at h; · exact .name h
  split at h
  · cases hn : numT (cutB L i (runB dgC L i)) with
    | none => rw [hn] at h; cases h
    | some n =>
    rw [hn] at h
    cases h
    exact ⟨by simp, by have := numT_le hn; simp only; omega, by have := cutB_le L i (runB dgC L i); simp only; omega, fun h => by cases h⟩
  split at h
  · split at h
    · exact .name h
    · cases h
  split at h; · exact .name h
  split at h; · exact .name h
  split at h
  · cases h
    exact ⟨by simp, by simp, by simp, fun h => by cases h⟩
  split at h
  · cases h
    exact ⟨by simp, by simp, by simp, fun h => by cases h⟩
  exact .name h

theorem toks_good : ∀ (f : Nat) (L : Bs) (i : Nat) (l : List Tk), toks f L i = .ok l → ∀ t ∈ l, TkG L t
  | 0, L, i, l, h => by simp only [toks, Except.ok.injEq] at h; subst h; simp
  | f + 1, L, i, l, h => by
    simp only [toks] at h
    split at h
    · split at h
      · cases h
      · rename_i t to ho
        split at h
        · rename_i l' hl
          cases h
          intro u hu
          rcases List.mem_cons.1 hu with rfl | hu
          · exact oneT_good ho
          · exact toks_good f L to l' hl u hu
        · cases h
    · cases h; simp

/-- What is read of the tokens of a text is small. -/
theorem read_small {S : Bs} {L : List Tk} (hL : L.length ≤ 9000) (hS : S.length ≤ 9000) (hg : ∀ t ∈ L, TkG S t) {sw : Bool} {n deep : Nat} {p : Int} {st st' : RSt} {t : Tm} (hi : RInv L st) (h : termR sw S L n deep p st = some (t, st')) (he : st'.e = 0) : t.size ≤ 9000 ∧ ∀ d e, e ∈ t.els d → e.2.s.size ≤ 9020 := by
  have h1 := (term_sz sw S L n _ _ _ _ _ h he).2
  have h2 := (term_inv sw S L n _ _ _ _ _ h hi).2
  have h3 := term_sb (B := 9020) (by omega) sw S L (fun t ht => by have := (hg t ht).len; omega) n
  exact ⟨by omega, h3 _ _ _ _ _ h⟩
end PSL

namespace PSL
open Go

def TokRel (ex : Bool) (d : Int) (a b : Tk) : Prop :=
  (b.kind = a.kind ∧ b.text = a.text ∧ b.n = a.n ∧ b.opn = a.opn ∧ (a.kind ≠ 0 → b.at_ = a.at_ + d)) ∨ (ex = false ∧ a.kind = 5 ∧ b.kind = 4 ∧ b.text = [41])

structure Sim (ex : Bool) (m k δ : Nat) (d : Int) (S1 : Bs) (L1 : List Tk) (S2 : Bs) (L2 : List Tk) : Prop where
  tok : ∀ i, (ex = true ∨ i ≤ m) → TokRel ex d ((L1[i]?).getD zeroTk) ((L2[i + k]?).getD zeroTk)
  plc : ex = true → ∀ i, plcR L2 S2.length (i + k) = plcR L1 S1.length i + d
  byte : ∀ i t, L1[i]? = some t → (ex = true ∨ i ≤ m) → t.kind = 1 → decide (S2[(t.at_ + d).toNat]? = some 45) = decide (S1[t.at_.toNat]? = some 45)
  deep : δ = 0 ∨ (ex = false ∧ m + δ ≤ 999)
  len : L1.length ≤ L2.length

structure StR (k : Nat) (d : Int) (a b : RSt) : Prop where
  at_ : b.at_ = a.at_ + k
  names : b.names = a.names
  e : b.e = a.e
  bad : a.e ≠ 0 → b.bad = a.bad + d
def Fini (ex : Bool) (m : Nat) (st : RSt) : Prop := ex = true ∨ (st.e = 0 ∧ st.at_ ≤ m)
def SimT (ex : Bool) (m k δ : Nat) (d : Int) (T1 T2 : TF) : Prop := ∀ deep p a b t a', T1 deep p a = some (t, a') → Fini ex m a' → StR k d a b → (δ = 0 ∨ deep ≤ a.at_) → ∃ b', T2 (deep + δ) p b = some (t, b') ∧ StR k d a' b'
section
variable {ex : Bool} {m k δ : Nat} {d : Int} {S1 S2 : Bs} {L1 L2 : List Tk} {T1 T2 : TF} {a b : RSt} {S : Bs} {L : List Tk} {T : TF}
theorem Fini.of_nx (h : Fini ex m (nxR a)) : Fini ex m a := h.imp_right fun h => ⟨h.1, by have := h.2; simp only [nxR] at this; omega⟩
theorem Fini.of_must {n : Nat} {s : Bs} (h : Fini ex m (mustR L n a s)) : Fini ex m a := h.imp_right fun h => ⟨must_e h.1, Nat.le_trans must_at h.2⟩

theorem Fini.of_T (hS : TStick T) (hM : TMono T) {deep : Nat} {p : Int} {t : Tm} {a' : RSt} (hx : T deep p a = some (t, a')) (h : Fini ex m a') : Fini ex m a :=
  h.imp_right fun h => ⟨Decidable.byContradiction fun he => he (by have := hS _ _ _ _ _ hx he; rw [← this]; exact h.1), Nat.le_trans (hM _ _ _ _ _ hx) h.2⟩

theorem many_e : ∀ (f deep : Nat) (st : RSt) (acc : List Tm) (l : List Tm) (st' : RSt), manyR L T f deep st acc = some (l, st') → st.e ≠ 0 → st' = st
  | 0, _, _, _, _, _, h, _ => by cases h
  | f + 1, deep, st, acc, l, st', h, he => by
    simp only [manyR] at h
    rw [mkE he] at h
    simp only [Bool.false_eq_true, if_false] at h
    cases h; rfl

theorem Fini.of_many (hM : TMono T) {f deep : Nat} {acc l : List Tm} {a' : RSt} (hx : manyR L T f deep a acc = some (l, a')) (h : Fini ex m a') : Fini ex m a :=
  h.imp_right fun h => ⟨Decidable.byContradiction fun he => he (by have := many_e _ _ _ _ _ _ hx he; rw [← this]; exact h.1), Nat.le_trans (many_mono hM _ _ _ _ _ _ hx) h.2⟩

theorem Fini.of_row (hS : TStick T) (hM : TMono T) {deep : Nat} {l : List Tm} {a' : RSt} (hx : rowR L T deep a = some (l, a')) (h : Fini ex m a') : Fini ex m a := by
  obtain ⟨x, hx, h2⟩ := Option.bind_eq_some_iff.1 hx
  exact Fini.of_T hS hM hx (Fini.of_many hM h2 h)
theorem Fini.no {n : Nat} {c : Int} (hc : c ≠ 0) (h : Fini ex m (failR L n a c)) : ex = true := h.resolve_right fun h => flN hc h.1
theorem StR.nx (r : StR k d a b) : StR k d (nxR a) (nxR b) := ⟨by simp only [nxR, r.at_]; omega, r.names, r.e, r.bad⟩

theorem StR.var (r : StR k d a b) (s : Bs) : (varR b s).1 = (varR a s).1 ∧ StR k d (varR a s).2 (varR b s).2 := by
  unfold varR
  rw [r.names]
  split
  · exact ⟨rfl, r⟩
  · exact ⟨rfl, r.at_, by simp only, r.e, r.bad⟩
theorem begS_eq (L : List Tk) (st : RSt) : ∃ y, begS L st = { st with lay := y } := by unfold begS; split; exact ⟨_, rfl⟩; exact ⟨_, rfl⟩
theorem inS_eq (L : List Tk) (st : RSt) : ∃ y, inS L st = { st with lay := y } := by unfold inS; split; exact ⟨_, rfl⟩; exact ⟨_, rfl⟩

theorem StR.beg (r : StR k d a b) : StR k d (begS L1 a) (begS L2 b) := by
  obtain ⟨y, hy⟩ := begS_eq L1 a
  obtain ⟨z, hz⟩ := begS_eq L2 b
  rw [hy, hz]; exact ⟨r.at_, r.names, r.e, r.bad⟩

theorem StR.ins (r : StR k d a b) : StR k d (inS L1 a) (inS L2 b) := by
  obtain ⟨y, hy⟩ := inS_eq L1 a
  obtain ⟨z, hz⟩ := inS_eq L2 b
  rw [hy, hz]; exact ⟨r.at_, r.names, r.e, r.bad⟩
variable (H : Sim ex m k δ d S1 L1 S2 L2) (r : StR k d a b)
include H r

theorem peek_rel (h : Fini ex m a) : TokRel ex d (peekR L1 a) (peekR L2 b) := by
  unfold peekR
  rw [r.e, r.at_]
  split
  · exact .inl ⟨rfl, rfl, rfl, rfl, fun h => absurd rfl h⟩
  · exact H.tok _ (h.imp_right fun h => h.2)

theorem mk_rel (h : Fini ex m a) {s : Bs} (hs : s ≠ [41]) : isMk (peekR L2 b) s = isMk (peekR L1 a) s := by
  rcases peek_rel H r h with ⟨h1, h2, _⟩ | ⟨_, h1, h2, h3⟩
  · unfold isMk; rw [h1, h2]
  · unfold isMk
    rw [h1, h2, h3]
    have : (([41] : Bs) == s) = false := by simpa using fun h => hs h.symm
    rw [this]; rfl

theorem kind_rel (h : Fini ex m a) {c : Int} (hc : c = 1 ∨ c = 2 ∨ c = 3) : ((peekR L2 b).kind = c ↔ (peekR L1 a).kind = c) := by
  rcases peek_rel H r h with ⟨h1, _⟩ | ⟨_, h1, h2, _⟩
  · rw [h1]
  · rw [h1, h2]; rcases hc with rfl | rfl | rfl <;> decide

theorem tok_rel (h : Fini ex m a) (hc : (peekR L1 a).kind ≠ 5) (h0 : (peekR L1 a).kind ≠ 0) : (peekR L2 b).kind = (peekR L1 a).kind ∧ (peekR L2 b).text = (peekR L1 a).text ∧ (peekR L2 b).n = (peekR L1 a).n ∧ (peekR L2 b).opn = (peekR L1 a).opn ∧ (peekR L2 b).at_ = (peekR L1 a).at_ + d := by
  rcases peek_rel H r h with ⟨h1, h2, h3, h4, h5⟩ | ⟨_, h1, _⟩
  · exact ⟨h1, h2, h3, h4, h5 h0⟩
  · exact absurd h1 hc

theorem inT_rel (h : Fini ex m a) : inT (peekR L2 b) = inT (peekR L1 a) := by
  rcases peek_rel H r h with ⟨h1, h2, _⟩ | ⟨_, h1, h2, h3⟩
  · unfold inT; rw [h1, h2]
  · unfold inT; rw [h1, h2, h3]; rw [if_pos ⟨by decide, .inr (by decide)⟩, if_pos ⟨by decide, .inl (by decide)⟩]

theorem begR_rel (h : Fini ex m a) : begR L2 b = begR L1 a := by
  rcases peek_rel H r h with ⟨h1, h2, _⟩ | ⟨_, h1, h2, h3⟩
  · unfold begR; simp only; rw [h1, h2]
  · unfold begR; simp only; rw [h1, h2, h3]; rfl

theorem fail_rel {c : Int} (hc : c ≠ 0) (h : Fini ex m (failR L1 S1.length a c)) : StR k d (failR L1 S1.length a c) (failR L2 S2.length b c) := by
  have hx := Fini.no hc h
  unfold failR
  rw [r.e]
  split
  · refine ⟨r.at_, r.names, rfl, fun _ => ?_⟩
    simp only
    rw [r.at_, H.plc hx]
  · exact r

theorem must_rel {s : Bs} (h : Fini ex m (mustR L1 S1.length a s)) : StR k d (mustR L1 S1.length a s) (mustR L2 S2.length b s) := by
  have hp := peek_rel H r h.of_must
  unfold mustR at h ⊢
  cases hm : isMk (peekR L1 a) s with
  | true =>
    rw [hm] at h
    have : isMk (peekR L2 b) s = true := by
      rcases hp with ⟨h1, h2, _⟩ | ⟨_, h1, _⟩
      · unfold isMk at hm ⊢; rw [h1, h2]; exact hm
      · unfold isMk at hm; rw [h1] at hm; simp at hm
    rw [this]; exact r.nx
  | false =>
    rw [hm] at h
    have hx := Fini.no (by decide) h
    have : isMk (peekR L2 b) s = false := by
      rcases hp with ⟨h1, h2, _⟩ | ⟨h1, _⟩
      · unfold isMk at hm ⊢; rw [h1, h2]; exact hm
      · rw [hx] at h1; cases h1
    rw [this]; exact fail_rel H r (by decide) h
end
end PSL
