import Derived.Test.YtppghekipbnjhaaPlB
import Derived.Test.YtppghekipbnjhaaPslC
import Derived.Test.YtppghekipbnjhaaPlA
namespace PSL
open Go Go.RowKit Go.MapKept

/-! ### maps from texts -/
def getS : List (ByteArray × AV) → ByteArray → Option AV
  | [], _ => none
  | p :: r, n => if p.1 = n then some p.2 else getS r n
def smap (l : List (ByteArray × AV)) : List (Value × AV) := l.map fun p => (.string p.1, p.2)

theorem findA_getS {n : ByteArray} : ∀ {l : List (ByteArray × AV)} {i : Nat}, ∃ r, findA .string (.string n) (smap l) i = some r ∧ r.map (·.2) = getS l n
  | [], i => ⟨none, rfl, rfl⟩
  | p :: l, i => by
    obtain ⟨r0, h1, h2⟩ := sameNow_of_keys (d := .string) (a := .string n) (b := .string p.1) trivial trivial
    simp only [getS]
    by_cases h : p.1 = n
    · have h3 : r0 = true := h2.2 (by rw [h])
      refine ⟨some (i, p.2), ?_, by simp [h]⟩
      simp only [smap, List.map_cons, findA, h1, h3]
    · have h3 : r0 = false := by
        cases r0 with
        | false => rfl
        | true => have := h2.1 rfl; simp at this; exact absurd this.symm h
      obtain ⟨r, h4, h5⟩ := findA_getS (n := n) (l := l) (i := i + 1)
      refine ⟨r, ?_, by rw [if_neg h]; exact h5⟩
      simp only [smap, List.map_cons, findA, h1, h3]
      exact h4

theorem R_lookupS {g : G} {pf : Nat → Cls} {ops : Array Oper} {Fin : Exit → Act → World → Prop} (hg : GOk g) {dst : Option Nat} {T : Nat} {x y : Operand} {ok : Bool} {ty : Nat} {pos : String} {after : Array Edge} {gd : Option (Nat × Bool)} {rest : List Oper} {k : List It} {E : Env} {objs : List Ob}
    {i q by_ q' by' kt et : Nat} {z z' : List Value} {n : ByteArray} {zv : Value} (l : List (ByteArray × AV))
    (hgd : guardA ops.toList E gd = some true) (hd : dstOk ⟨g.ty, g.N⟩ dst = true) (hx : ev E x = .mp i) (ho : nth objs i = some (.map (smap l))) (hy : ev E y = .d (.v (.string n))) (hT : g.ty T = some ⟨q, by_, z, .map kt et⟩)
    (hkt : g.ty kt = some ⟨q', by', z', .str⟩) (hz : (g.P.info? et).bind (·.zero) = some zv) {v : AV} (hv : lookI' ok (cstV zv) (getS l n) = v)
    (hr : R g pf Fin (.dr ops rest :: k) (putO E dst v) objs) : R g pf Fin (.dr ops (⟨dst, .lookup T x y ok, ty, pos, after, gd⟩ :: rest) :: k) E objs := by
  subst hv
  have hu := (hg.ty _ _ hkt).sh
  simp only [ShFact] at hu
  obtain ⟨r, h1, h2⟩ := findA_getS (n := n) (l := l) (i := 0)
  refine R_lookup hg hgd hd hx ho hy hT hu (by simp [IsKey]) h1 hz ?_
  have : lookA ok (cstV zv) r = lookI' ok (cstV zv) (getS l n) := by rw [← h2]; cases r <;> rfl
  rw [this]; exact hr

theorem R_mapAddS {g : G} {pf : Nat → Cls} {ops : Array Oper} {Fin : Exit → Act → World → Prop} (hg : GOk g) {dst : Option Nat} {T : Nat} {x y v : Operand} {ty : Nat} {pos : String} {after : Array Edge} {gd : Option (Nat × Bool)} {rest : List Oper} {k : List It} {E : Env} {objs : List Ob}
    {i q by_ q' by' kt et : Nat} {z z' : List Value} {n : ByteArray} {av : AV} (l l' : List (ByteArray × AV))
    (hgd : guardA ops.toList E gd = some true) (hd : dstOk ⟨g.ty, g.N⟩ dst = true) (hx : ev E x = .mp i) (ho : nth objs i = some (.map (smap l))) (hy : ev E y = .d (.v (.string n))) (hT : g.ty T = some ⟨q, by_, z, .map kt et⟩)
    (hkt : g.ty kt = some ⟨q', by', z', .str⟩) (hf : getS l n = none) (hav : ev E v = av) (hl : l ++ [(n, av)] = l')
    (hr : R g pf Fin (.dr ops rest :: k) (putO E dst .any) (setN objs i (.map (smap l')))) : R g pf Fin (.dr ops (⟨dst, .mapUpdate T x y v, ty, pos, after, gd⟩ :: rest) :: k) E objs := by
  subst hl; subst hav
  have hu := (hg.ty _ _ hkt).sh
  simp only [ShFact] at hu
  obtain ⟨r, h1, h2⟩ := findA_getS (n := n) (l := l) (i := 0)
  have : r = none := by rw [hf] at h2; cases r with
    | none => rfl
    | some _ => simp at h2
  subst this
  refine R_mapAdd hg hgd hd hx ho hy hT hu (by simp [IsKey]) h1 ?_
  have e : smap l ++ [(Value.string n, ev E v)] = smap (l ++ [(n, ev E v)]) := by simp [smap]
  rw [e]; exact hr

/-- A new entry of a map that is written out. -/
theorem R_insert {g : G} {pf : Nat → Cls} {ops : Array Oper} {Fin : Exit → Act → World → Prop} (hg : GOk g) {dst : Option Nat} {T : Nat} {x y v : Operand} {ty : Nat} {pos : String} {after : Array Edge} {gd : Option (Nat × Bool)} {rest : List Oper} {k : List It} {E : Env} {objs : List Ob}
    {i q by_ kt et : Nat} {z : List Value} {es : List (Value × AV)} {kv : Value} {kd : TypeDesc}
    (hgd : guardA ops.toList E gd = some true) (hd : dstOk ⟨g.ty, g.N⟩ dst = true) (hx : ev E x = .mp i) (ho : nth objs i = some (.map es)) (hy : ev E y = .d (.v kv)) (hT : g.ty T = some ⟨q, by_, z, .map kt et⟩)
    (hkt : g.P.underlying kt = some kd) (hkey : IsKey kd kv) (hf : findA kd kv es 0 = some none)
    (hr : R g pf Fin (.dr ops rest :: k) (putO E dst .any) (setN objs i (.map (es ++ [(kv, ev E v)])))) : R g pf Fin (.dr ops (⟨dst, .insert T x y v, ty, pos, after, gd⟩ :: rest) :: k) E objs := by
  refine R_op (LocOp.turning hg (grow_map ho) hgd hd (by simp) fun φ a w hρ hs => ?_) hr
  simp only [Op.operands] at hρ
  have hxv := hρ x (by simp)
  rw [hx] at hxv
  have hyv := hρ y (by simp)
  rw [hy] at hyv
  have hvv := hρ v (by simp)
  simp only [RV] at hxv hyv
  obtain ⟨b, hb, hxv⟩ := hxv
  generalize hvy : a.eval y = vy at hyv
  cases hyv
  have hk := obj_at hs hb ho
  simp only [ObOk] at hk
  obtain ⟨ents, clk, hheap, hents⟩ := hk
  have hT' : g.P.underlying T = some (.map kt et) := by have := (hg.ty _ _ hT).sh; simpa only [ShFact] using this
  have hfind := findA_ok hents hf
  simp only at hfind
  have hset := heap_set (o' := .map (ents.push { key := kv, val := a.eval v, born := clk }) (clk + 1)) hheap
  rw [setN_eq]
  refine ⟨.skip, undef, { w with heap := w.heap.setIfInBounds b (.map (ents.push { key := kv, val := a.eval v, born := clk }) (clk + 1)) }, φ.set i (.blk b), ?_, .inr ⟨rfl, rfl⟩, by simp [RV], ?_⟩
  · simp [execOp, Instr.mapUpdate, run_underlying hT', hxv, run_getObj_map hheap, hvy, run_checkKey hkt hkey, run_findKey hkt hfind, run_setObj_map _ hheap]
  · refine Stp.swap hs hb (.inl rfl) (by simp) (fun c _ hc => hset.2 c fun e => hc (by rw [e]; rfl)) (fun b' hb => .inl hb) rfl rfl rfl fun hkeep hle => ?_
    simp only [ObOk]
    refine ⟨_, _, hset.1, ?_, ?_⟩
    · simp [hents.1]
    · have := (hents.2.mono hkeep hle).append (l' := [ev E v]) (vs' := [a.eval v]) (by simp only [RVs, and_true]; exact hvv.mono hkeep hle)
      simpa using this

theorem R_insertS {g : G} {pf : Nat → Cls} {ops : Array Oper} {Fin : Exit → Act → World → Prop} (hg : GOk g) {dst : Option Nat} {T : Nat} {x y v : Operand} {ty : Nat} {pos : String} {after : Array Edge} {gd : Option (Nat × Bool)} {rest : List Oper} {k : List It} {E : Env} {objs : List Ob}
    {i q by_ q' by' kt et : Nat} {z z' : List Value} {n : ByteArray} {av : AV} (l l' : List (ByteArray × AV))
    (hgd : guardA ops.toList E gd = some true) (hd : dstOk ⟨g.ty, g.N⟩ dst = true) (hx : ev E x = .mp i) (ho : nth objs i = some (.map (smap l))) (hy : ev E y = .d (.v (.string n))) (hT : g.ty T = some ⟨q, by_, z, .map kt et⟩)
    (hkt : g.ty kt = some ⟨q', by', z', .str⟩) (hf : getS l n = none) (hav : ev E v = av) (hl : l ++ [(n, av)] = l')
    (hr : R g pf Fin (.dr ops rest :: k) (putO E dst .any) (setN objs i (.map (smap l')))) : R g pf Fin (.dr ops (⟨dst, .insert T x y v, ty, pos, after, gd⟩ :: rest) :: k) E objs := by
  subst hl; subst hav
  have hu := (hg.ty _ _ hkt).sh
  simp only [ShFact] at hu
  obtain ⟨r, h1, h2⟩ := findA_getS (n := n) (l := l) (i := 0)
  have : r = none := by rw [hf] at h2; cases r with
    | none => rfl
    | some _ => simp at h2
  subst this
  refine R_insert hg hgd hd hx ho hy hT hu (by simp [IsKey]) h1 ?_
  have e : smap l ++ [(Value.string n, ev E v)] = smap (l ++ [(n, ev E v)]) := by simp [smap]
  rw [e]; exact hr

/-! ### what operators do -/
def inR (x : Int) : Bool := decide (-9223372036854775808 ≤ x) && decide (x ≤ 9223372036854775807)
theorem inR_iff {x : Int} : inR x = true ↔ I64 x := by simp [inR, I64]
theorem inR_not {x : Int} : inR x = false ↔ (x < -9223372036854775808 ∨ 9223372036854775807 < x) := by
  rw [← Bool.not_eq_true, inR_iff]; unfold I64; omega
def chk (x : Int) : Int × Bool := if inR x then (x, true) else (0, false)
theorem chk_in {x : Int} (h : I64 x) : chk x = (x, true) := by unfold chk; rw [if_pos (inR_iff.2 h)]
theorem chk_out {x : Int} (h : x < -9223372036854775808 ∨ 9223372036854775807 < x) : chk x = (0, false) := by unfold chk; rw [if_neg (by rw [inR_not.2 h]; simp)]
theorem chk_I64 (x : Int) : I64 (chk x).1 := by
  unfold chk
  split
  · rename_i h; exact inR_iff.1 h
  · unfold I64; simp
theorem chk_2 (x : Int) : (chk x).2 = inR x := by unfold chk; split <;> simp_all

def sPlus : ByteArray := ⟨#[43]⟩
def sMinus : ByteArray := ⟨#[45]⟩
def sMul : ByteArray := ⟨#[42]⟩
def sQuo : ByteArray := ⟨#[47, 47]⟩
def sMod : ByteArray := ⟨#[109, 111, 100]⟩
def isOp (s : ByteArray) : Bool := strEq s sPlus || strEq s sMinus || strEq s sMul || strEq s sQuo || strEq s sMod
/-- What is left, on the side of what divides. -/
def modF (a b : Int) : Int := if a.tmod b ≠ 0 ∧ ¬ (a.tmod b < 0 ↔ b < 0) then a.tmod b + b else a.tmod b
def doX (s : ByteArray) (a b : Int) : Int × Bool :=
  if strEq s sPlus then chk (a + b) else if strEq s sMinus then chk (a - b) else if strEq s sMul then chk (a * b)
  else if b = 0 then (0, false) else if strEq s sQuo then chk (a.tdiv b) else chk (modF a b)
theorem doX_I64 (s : ByteArray) (a b : Int) : I64 (doX s a b).1 := by
  unfold doX
  split
  · exact chk_I64 _
  · split
    · exact chk_I64 _
    · split
      · exact chk_I64 _
      · split
        · unfold I64; simp
        · split <;> exact chk_I64 _

def outX (r : Int × Bool) : Int × Int := if r.2 then (r.1, 0) else (0, 6)
def evalF (k : Int) (s : ByteArray) (n : Int) (L : List (Int × Int)) : Int × Int :=
  if k = 1 then (0, 4) else if k = 2 then (n, 0) else
  match L with
  | [x] => if strEq s sMinus then (if x.2 ≠ 0 then (0, x.2) else outX (doX s 0 x.1)) else (0, 5)
  | [x, y] => if isOp s then (if x.2 ≠ 0 then (0, x.2) else if y.2 ≠ 0 then (0, y.2) else outX (doX s x.1 y.1)) else (0, 5)
  | _ => (0, 5)
theorem evalF_k1 {k n : Int} {s : ByteArray} {L : List (Int × Int)} (h : k = 1) : evalF k s n L = (0, 4) := by unfold evalF; exact if_pos h
theorem evalF_k2 {k n : Int} {s : ByteArray} {L : List (Int × Int)} (h : ¬ k = 1) (h2 : k = 2) : evalF k s n L = (n, 0) := by unfold evalF; rw [if_neg h, if_pos h2]
theorem evalF_0 {k n : Int} {s : ByteArray} (h : ¬ k = 1) (h2 : ¬ k = 2) : evalF k s n [] = (0, 5) := by unfold evalF; rw [if_neg h, if_neg h2]
theorem evalF_1 {k n : Int} {s : ByteArray} {x : Int × Int} (h : ¬ k = 1) (h2 : ¬ k = 2) : evalF k s n [x] = if strEq s sMinus then (if x.2 ≠ 0 then (0, x.2) else outX (doX s 0 x.1)) else (0, 5) := by unfold evalF; rw [if_neg h, if_neg h2]
theorem evalF_2 {k n : Int} {s : ByteArray} {x y : Int × Int} (h : ¬ k = 1) (h2 : ¬ k = 2) : evalF k s n [x, y] = if isOp s then (if x.2 ≠ 0 then (0, x.2) else if y.2 ≠ 0 then (0, y.2) else outX (doX s x.1 y.1)) else (0, 5) := by unfold evalF; rw [if_neg h, if_neg h2]
theorem evalF_3 {k n : Int} {s : ByteArray} {x y z : Int × Int} {r : List (Int × Int)} (h : ¬ k = 1) (h2 : ¬ k = 2) : evalF k s n (x :: y :: z :: r) = (0, 5) := by unfold evalF; rw [if_neg h, if_neg h2]
namespace Tm
mutual
def evalX : Tm → Int × Int
  | mk k s n l => evalF k s n (evalXL l)
def evalXL : List Tm → List (Int × Int)
  | [] => []
  | x :: r => evalX x :: evalXL r
end
theorem evalX_eq (t : Tm) : evalX t = evalF t.k t.s t.n (evalXL t.l) := by cases t; simp only [evalX]; rfl
theorem evalXL_map : ∀ l, evalXL l = l.map evalX
  | [] => rfl
  | x :: r => by simp only [evalXL, List.map_cons, evalXL_map r]

theorem Fit.sub {t x : Tm} (h : t.Fit) (hx : x ∈ t.l) : x.Fit := fun d e he => h (d - 1) e (by rw [els_eq]; exact List.mem_cons_of_mem _ (els_memL hx (by rw [Int.sub_add_cancel]; exact he)))

theorem evalX_I64 {t : Tm} (h : t.Fit) : I64 (evalX t).1 := by
  have h0 : I64 0 := by unfold I64; omega
  have hn : I64 t.n := (h 0 (0, t) (by rw [els_eq]; simp)).2
  have ho : ∀ s a b, I64 (outX (doX s a b)).1 := fun s a b => by
    unfold outX; split
    · exact doX_I64 s a b
    · exact h0
  rw [evalX_eq]
  unfold evalF
  split
  · exact h0
  · split
    · exact hn
    · split
      · split
        · split
          · exact h0
          · exact ho _ _ _
        · exact h0
      · split
        · split
          · exact h0
          · split
            · exact h0
            · exact ho _ _ _
        · exact h0
      · exact h0
end Tm
def evalAll (t : Tm) : Int × Int := if t.rightB then Tm.evalX t else (0, 1)

/-! ### reckoning -/
theorem wrapI (n : Int) : IntKind.i64.wrap n = if n % 18446744073709551616 ≥ 9223372036854775808 then n % 18446744073709551616 - 18446744073709551616 else n % 18446744073709551616 := by
  simp [IntKind.wrap, IntKind.signed, IntKind.bits]
theorem wrapU (n : Int) : IntKind.u64.wrap n = n % 18446744073709551616 := by
  simp [IntKind.wrap, IntKind.signed, IntKind.bits]

theorem raw_add {a b : Int} (ha : I64 a) (hb : I64 b) : (decide (IntKind.i64.wrap (a + b) < a) == decide (b < 0)) = inR (a + b) ∧ (inR (a + b) = true → IntKind.i64.wrap (a + b) = a + b) := by
  unfold I64 at ha hb
  rw [wrapI]
  constructor
  · rw [Bool.eq_iff_iff]
    simp only [inR, beq_iff_eq, Bool.and_eq_true, decide_eq_true_eq, decide_eq_decide]
    split <;> omega
  · rw [inR_iff]; unfold I64; intro h; split <;> omega
theorem raw_sub {a b : Int} (ha : I64 a) (hb : I64 b) : (decide (IntKind.i64.wrap (a - b) > a) == decide (b < 0)) = inR (a - b) ∧ (inR (a - b) = true → IntKind.i64.wrap (a - b) = a - b) := by
  unfold I64 at ha hb
  rw [wrapI]
  constructor
  · rw [Bool.eq_iff_iff]
    simp only [inR, beq_iff_eq, Bool.and_eq_true, decide_eq_true_eq, decide_eq_decide]
    split <;> omega
  · rw [inR_iff]; unfold I64; intro h; split <;> omega

theorem tdiv_bound (p a : Int) (ha : a ≠ 0) : (0 ≤ p → -p ≤ p.tdiv a ∧ p.tdiv a ≤ p) ∧ (p ≤ 0 → p ≤ p.tdiv a ∧ p.tdiv a ≤ -p) := by
  have h := Int.natAbs_tdiv_le_natAbs p a
  omega

/-- A product, and what it was made of. -/
theorem tdiv_split (p a : Int) (ha : a ≠ 0) : ∃ r, p = a * p.tdiv a + r ∧ r.natAbs < a.natAbs := by
  refine ⟨p.tmod a, (Int.mul_tdiv_add_tmod p a).symm, ?_⟩
  rw [Int.natAbs_tmod]
  exact Nat.mod_lt _ (by omega)

theorem raw_mul {a b : Int} (ha : I64 a) (hb : I64 b) (h0 : a ≠ 0) (h1 : a ≠ -1) : (IntKind.i64.wrap ((IntKind.i64.wrap (a * b)).tdiv a) == b) = inR (a * b) ∧ (inR (a * b) = true → IntKind.i64.wrap (a * b) = a * b) := by
  unfold I64 at ha hb
  have hw : ∀ x, -9223372036854775808 ≤ IntKind.i64.wrap x ∧ IntKind.i64.wrap x ≤ 9223372036854775807 ∧ ∃ q, IntKind.i64.wrap x = x + q * 18446744073709551616 := fun x => by
    rw [wrapI]
    have h2 := Int.emod_nonneg x (show (18446744073709551616 : Int) ≠ 0 by decide)
    have h3 := Int.emod_lt_of_pos x (show (0 : Int) < 18446744073709551616 by decide)
    split
    · exact ⟨by omega, by omega, -(x / 18446744073709551616) - 1, by omega⟩
    · exact ⟨by omega, by omega, -(x / 18446744073709551616), by omega⟩
  have hid : inR (a * b) = true → IntKind.i64.wrap (a * b) = a * b := fun h => by
    rw [inR_iff] at h; unfold I64 at h; exact wrap_id (by omega) (by omega)
  refine ⟨?_, hid⟩
  rw [Bool.eq_iff_iff, beq_iff_eq]
  obtain ⟨p1, p2, q, hq⟩ := hw (a * b)
  generalize hp : IntKind.i64.wrap (a * b) = p at *
  have hb2 := tdiv_bound p a h0
  have hquo : IntKind.i64.wrap (p.tdiv a) = p.tdiv a := by
    by_cases hm : p = -9223372036854775808
    · -- the least: a is neither 0 nor -1
      have h3 := Int.natAbs_tdiv_le_natAbs p a
      have : p.tdiv a ≠ 9223372036854775808 := fun e => by
        obtain ⟨r, h4, h5⟩ := tdiv_split p a h0
        rw [e] at h4
        omega
      exact wrap_id (by omega) (by omega)
    · exact wrap_id (by omega) (by omega)
  rw [hquo]
  constructor
  · intro e
    obtain ⟨r, h4, h5⟩ := tdiv_split p a h0
    rw [e] at h4
    have : q = 0 := by omega
    rw [inR_iff]; unfold I64
    subst this
    omega
  · intro h
    have := hid h
    rw [this]
    exact Int.mul_tdiv_cancel_left b h0

theorem tdiv_in {a b : Int} (ha : I64 a) (hb0 : b ≠ 0) : (inR (a.tdiv b) = true ↔ ¬ (a = -9223372036854775808 ∧ b = -1)) := by
  unfold I64 at ha
  have h := tdiv_bound a b hb0
  rw [inR_iff]; unfold I64
  constructor
  · rintro h2 ⟨rfl, rfl⟩
    revert h2; decide
  · intro h2
    by_cases hm : a = -9223372036854775808
    · have hb1 : b ≠ -1 := fun e => h2 ⟨hm, e⟩
      have : a.tdiv b ≠ 9223372036854775808 := fun e => by
        obtain ⟨r, h4, h5⟩ := tdiv_split a b hb0
        rw [e] at h4
        omega
      omega
    · omega

theorem tmod_lt (a b : Int) (hb : b ≠ 0) : (a.tmod b).natAbs < b.natAbs ∧ (0 ≤ a → 0 ≤ a.tmod b) ∧ (a ≤ 0 → a.tmod b ≤ 0) := by
  refine ⟨by rw [Int.natAbs_tmod]; exact Nat.mod_lt _ (by omega), fun h => Int.tmod_nonneg b h, fun h => ?_⟩
  have := Int.tmod_nonneg b (a := -a) (by omega)
  rw [Int.neg_tmod] at this
  omega
theorem modF_bound {a b : Int} (hb : b ≠ 0) : (0 < b → 0 ≤ modF a b ∧ modF a b < b) ∧ (b < 0 → b < modF a b ∧ modF a b ≤ 0) := by
  obtain ⟨h1, h2, h3⟩ := tmod_lt a b hb
  unfold modF
  split
  · rename_i h
    omega
  · rename_i h
    omega
theorem modF_I64 {a b : Int} (hb : I64 b) (h0 : b ≠ 0) : I64 (modF a b) := by
  have := modF_bound (a := a) h0
  unfold I64 at hb ⊢
  omega
end PSL
namespace PSL
open Go
theorem strNe {a b : ByteArray} (h : a ≠ b) : strEq a b = false := by
  cases e : strEq a b with
  | false => rfl
  | true => exact absurd (Tm.strEq_iff.1 e) h
theorem strSelf (a : ByteArray) : strEq a a = true := Tm.strEq_iff.2 rfl
theorem doX_plus (a b : Int) : doX sPlus a b = chk (a + b) := by unfold doX; rw [strSelf]; rfl
theorem doX_minus (a b : Int) : doX sMinus a b = chk (a - b) := by unfold doX; rw [strNe (show sMinus ≠ sPlus by decide), strSelf]; rfl
theorem doX_mul (a b : Int) : doX sMul a b = chk (a * b) := by unfold doX; rw [strNe (show sMul ≠ sPlus by decide), strNe (show sMul ≠ sMinus by decide), strSelf]; rfl
theorem doX_quo (a b : Int) : doX sQuo a b = if b = 0 then (0, false) else chk (a.tdiv b) := by unfold doX; rw [strNe (show sQuo ≠ sPlus by decide), strNe (show sQuo ≠ sMinus by decide), strNe (show sQuo ≠ sMul by decide), strSelf]; rfl
theorem doX_mod (a b : Int) : doX sMod a b = if b = 0 then (0, false) else chk (modF a b) := by unfold doX; rw [strNe (show sMod ≠ sPlus by decide), strNe (show sMod ≠ sMinus by decide), strNe (show sMod ≠ sMul by decide), strNe (show sMod ≠ sQuo by decide)]; rfl

theorem isOp_cases {s : ByteArray} (h : isOp s = true) : s = sPlus ∨ s = sMinus ∨ s = sMul ∨ s = sQuo ∨ s = sMod := by
  simp only [isOp, Bool.or_eq_true, Tm.strEq_iff] at h
  rcases h with (((h | h) | h) | h) | h
  · exact .inl h
  · exact .inr (.inl h)
  · exact .inr (.inr (.inl h))
  · exact .inr (.inr (.inr (.inl h)))
  · exact .inr (.inr (.inr (.inr h)))
theorem isOp_not {s : ByteArray} (h : isOp s = false) : s ≠ sPlus ∧ s ≠ sMinus ∧ s ≠ sMul ∧ s ≠ sQuo ∧ s ≠ sMod := by
  simp only [isOp, Bool.or_eq_false_iff] at h
  have key : ∀ {b}, strEq s b = false → s ≠ b := fun h e => by rw [e, strSelf] at h; cases h
  exact ⟨key h.1.1.1.1, key h.1.1.1.2, key h.1.1.2, key h.1.2, key h.2⟩
/-- A term of an operator and two numbers. -/
def twoT (s : ByteArray) (a b : Int) : Tm := .mk 3 s 0 [.mk 2 ByteArray.empty a [], .mk 2 ByteArray.empty b []]
theorem numFair (a : Int) : Tm.fairR (.mk 2 ByteArray.empty a []) = true := by
  have e : strEq ByteArray.empty ⟨#[]⟩ = true := Tm.strEq_iff.2 rfl
  have e2 : ByteArray.empty.data.toList.all byteOk = true := rfl
  simp only [Tm.fairR, Tm.fairRL, Tm.kindR, e, e2]
  rfl
theorem twoT_right {s : ByteArray} (h : isOp s = true) (a b : Int) : (twoT s a b).rightB = true := by
  have key : (s.data.toList.all byteOk && (decide ((s.size : Int) ≥ 1) && decide ((s.size : Int) ≤ 20))) = true := by
    rcases isOp_cases h with rfl | rfl | rfl | rfl | rfl <;> rfl
  simp only [Bool.and_eq_true] at key
  refine Tm.rightB_iff.2 ⟨?_, by simp [twoT, Tm.size, Tm.sizeL], by simp [twoT, Tm.depth, Tm.depthL]⟩
  have e : Tm.fairRL [.mk 2 ByteArray.empty a [], .mk 2 ByteArray.empty b []] = true := by simp [Tm.fairRL, numFair]
  rw [twoT, Tm.fairR, key.1, e]
  simp only [Tm.kindR]
  rw [if_neg (by decide), if_neg (by decide), key.2.1, key.2.2]
  rfl
theorem evalAll_two {s : ByteArray} (h : isOp s = true) (a b : Int) : evalAll (twoT s a b) = outX (doX s a b) := by
  unfold evalAll
  rw [if_pos (twoT_right h a b)]
  simp only [twoT, Tm.evalX, Tm.evalXL, evalF]
  rw [if_neg (by decide), if_neg (by decide)]
  simp only [h, if_true]
  rfl
end PSL
namespace PSL
open Go Go.RowKit
/-- A call that makes objects of its own. -/
theorem R_callNew {g : G} {pf : Nat → Cls} {ops : Array Oper} {Fin : Exit → Act → World → Prop} (hg : GOk g) (hu : GUp g) (hF : g.F = Fence.wide ∧ g.dep = 0) (hY : ∀ (i l : Nat) (I : Nat → (Nat → Prop) → (Nat → Prop) → World → Prop) (B : Nat → Prop), g.φ0[i]? = some (Phy.ext l I B) → YStep g.P Fence.wide 0 g.Y l I g.S0) (objs' : List Ob) {Y : YP} {f : Nat} {as : List AV} {objs1 : List Ob} {r : AV} (hc : SCtr g.P Y f as [] r objs1) (hcc : (∃ (i l : Nat) (I : Nat → (Nat → Prop) → (Nat → Prop) → World → Prop) (B : Nat → Prop), g.φ0[i]? = some (Phy.ext l I B)) → Y = g.Y) {dst : Option Nat} {x : Operand} {args : Array Operand} {ts : Array Nat} {ty : Nat} {pos : String} {after : Array Edge} {gd : Option (Nat × Bool)}
    {rest : List Oper} {k : List It} {E : Env} {objs : List Ob} {fs cs : List AV}
    (hgd : guardA ops.toList E gd = some true) (hd : dstOk ⟨g.ty, g.N⟩ dst = true) (hcl : clsOf pf (.call { callee := .value x, args := args, argTypes := ts }) = .turn 0) (hx : ev E x = .clo f fs cs)
    (has : (fs ++ args.toList.map (ev E) ++ cs).map nrm = renL (rn [] (len objs)) as) (ho : objs ++ objs1.map (renOb (rn [] (len objs))) = objs')
    (hr : R g pf Fin (.dr ops rest :: k) (putO E dst (renA (rn [] (len objs)) r)) objs') :
    R g pf Fin (.dr ops (⟨dst, .call { callee := .value x, args := args, argTypes := ts }, ty, pos, after, gd⟩ :: rest) :: k) E objs := by
  subst ho
  refine R_op ?_ hr
  show LocOp g ops _ E objs (clsOf pf (.call { callee := .value x, args := args, argTypes := ts })) _ _
  rw [hcl]
  have h := loc_callS (ops := ops) (after := after) (pos := pos) (ty := ty) (ts := ts) (dst := dst) hg hu hF hY [] hc hcc hgd hd hx rfl rfl has
  refine ⟨fun hn => absurd rfl (hn 0), fun b hb _ => ?_, fun E₁ o₁ o₁' a w h1 h2 h3 => h.step E₁ o₁ o₁' a w h1 (by
    rcases h2 with ⟨h2, _⟩ | ⟨m, h2, _⟩ | h2
    · cases h2
    · cases h2
    · exact .inr (.inr h2)) h3⟩
  cases hb
  exact .add _ _

def cmpX (s : ByteArray) (a b : Int) : Bool × Int :=
  if strEq s ⟨#[61, 58, 61]⟩ then (a == b, 0) else if strEq s ⟨#[61, 92, 61]⟩ then (a != b, 0) else if strEq s ⟨#[60]⟩ then (decide (a < b), 0)
  else if strEq s ⟨#[62]⟩ then (decide (a > b), 0) else if strEq s ⟨#[61, 60]⟩ then (decide (a ≤ b), 0) else if strEq s ⟨#[62, 61]⟩ then (decide (a ≥ b), 0) else (false, 1)

theorem abs_sum {a b : Int} (h : (a < 0) ↔ (b < 0)) : (if a < 0 then -((a.natAbs : Int) + b.natAbs) else (a.natAbs : Int) + b.natAbs) = a + b := by split <;> omega
theorem abs_mul (a b : Int) : (a * b) = if (a < 0 ↔ b < 0) then (a.natAbs : Int) * b.natAbs else -((a.natAbs : Int) * b.natAbs) := by
  rw [← Int.natCast_mul, ← Int.natAbs_mul]
  rcases Int.lt_trichotomy a 0 with h1 | h1 | h1 <;> rcases Int.lt_trichotomy b 0 with h2 | h2 | h2
  · have := Int.mul_pos_of_neg_of_neg h1 h2; rw [if_pos (by omega)]; omega
  · subst h2; simp
  · have := Int.mul_neg_of_neg_of_pos h1 h2; rw [if_neg (by omega)]; omega
  · subst h1; simp
  · subst h1; simp
  · subst h1; simp
  · have := Int.mul_neg_of_pos_of_neg h1 h2; rw [if_neg (by omega)]; omega
  · subst h2; simp
  · have := Int.mul_pos h1 h2; rw [if_pos (by omega)]; omega
/-- Quotient and remainder by sizes. -/
theorem abs_quo (a b : Int) : a.tdiv b = if (a < 0 ↔ b < 0) then ((a.natAbs / b.natAbs : Nat) : Int) else -((a.natAbs / b.natAbs : Nat) : Int) := by
  rcases (by omega : a < 0 ∨ 0 ≤ a) with h1 | h1 <;> rcases (by omega : b < 0 ∨ 0 ≤ b) with h2 | h2
  · rw [if_pos (by omega)]
    have : a.tdiv b = (-a).tdiv (-b) := by rw [Int.neg_tdiv, Int.tdiv_neg, Int.neg_neg]
    rw [this, Int.tdiv_eq_ediv_of_nonneg (by omega)]
    rw [show -a = (a.natAbs : Int) by omega, show -b = (b.natAbs : Int) by omega]; rfl
  · rw [if_neg (by omega)]
    have : a.tdiv b = -((-a).tdiv b) := by rw [Int.neg_tdiv, Int.neg_neg]
    rw [this, Int.tdiv_eq_ediv_of_nonneg (by omega)]
    rw [show -a = (a.natAbs : Int) by omega]
    congr 1
    rw [show b = (b.natAbs : Int) by omega]; rfl
  · rw [if_neg (by omega)]
    have : a.tdiv b = -(a.tdiv (-b)) := by rw [Int.tdiv_neg, Int.neg_neg]
    rw [this, Int.tdiv_eq_ediv_of_nonneg (by omega)]
    congr 1
    rw [show -b = (b.natAbs : Int) by omega]
    rw [show a = (a.natAbs : Int) by omega]; rfl
  · rw [if_pos (by omega), Int.tdiv_eq_ediv_of_nonneg h1]
    rw [show a = (a.natAbs : Int) by omega, show b = (b.natAbs : Int) by omega]; rfl
theorem abs_rem (a b : Int) : a.tmod b = if a < 0 then -((a.natAbs % b.natAbs : Nat) : Int) else ((a.natAbs % b.natAbs : Nat) : Int) := by
  have h := Int.natAbs_tmod a b
  have h1 : 0 ≤ a → 0 ≤ a.tmod b := fun h => Int.tmod_nonneg b h
  have h2 : a ≤ 0 → a.tmod b ≤ 0 := fun h => by
    have := Int.tmod_nonneg b (a := -a) (by omega)
    rw [Int.neg_tmod] at this
    omega
  rw [← h]
  split <;> omega
end PSL
namespace PSL
open Go Go.RowKit
theorem PCtr.res {P : Program} {f : Nat} {as : List AV} {r r' : AV} (h : PCtr P f as r) (hl : aLe r r' = true) : PCtr P f as r' :=
  ⟨h.call, fun S w vals hS hv cs => let ⟨e, w', fr, ⟨v, e1, h2, h3⟩, s, x⟩ := h.run S w vals hS hv cs; ⟨e, w', fr, ⟨v, e1, aLe_ok hl h2, h3⟩, s, x⟩⟩
theorem two_le (s : ByteArray) (a b : Int) : aLe (.agg [.d (.v (.int .i64 3)), .d (.v (.string s)), .d (.v (.int .i64 0)), .d (.sl [[.v (.int .i64 2), .v (.string ByteArray.empty), .v (.int .i64 a), .v (.slice none 0 0)], [.v (.int .i64 2), .v (.string ByteArray.empty), .v (.int .i64 b), .v (.slice none 0 0)]])]) (twoT s a b).av = true := by
  have e : strEq ByteArray.empty ByteArray.empty = true := Tm.strEq_iff.2 rfl
  have e2 : strEq s s = true := Tm.strEq_iff.2 rfl
  simp [aLe, asLe, dLe, rowLe, rowsLe, vLe, twoT, Tm.av, Tm.k, Tm.s, Tm.n, Tm.l, Tm.rows, Tm.rowM, kEq, e, e2]
theorem twoT_fit {s : ByteArray} {a b : Int} (ha : I64 a) (hb : I64 b) : (twoT s a b).Fit := by
  have h3 : I64 3 := by unfold I64; omega
  have h2 : I64 2 := by unfold I64; omega
  have h0 : I64 0 := by unfold I64; omega
  intro d e he
  simp only [twoT, Tm.els, Tm.elsL, List.append_nil, List.cons_append, List.nil_append, List.mem_cons, List.not_mem_nil, or_false] at he
  rcases he with rfl | rfl | rfl
  · exact ⟨h3, h0⟩
  · exact ⟨h2, ha⟩
  · exact ⟨h2, hb⟩
theorem outX_2 (r : Int × Bool) : (outX r).2 = if r.2 then 0 else 6 := by unfold outX; split <;> rfl
theorem outX_chk (x : Int) : outX (chk x) = if inR x then (x, 0) else (0, 6) := by
  unfold outX; rw [chk_2]
  cases h : inR x with
  | true => simp [chk, h]
  | false => simp
def opsL : List ByteArray := [sPlus, sMinus, sMul, sQuo, sMod]
theorem opsL_op : ∀ s ∈ opsL, isOp s = true := by
  intro s hs
  simp only [opsL, List.mem_cons, List.not_mem_nil, or_false] at hs
  rcases hs with rfl | rfl | rfl | rfl | rfl <;> simp [isOp, strSelf]
theorem cmp_cases (s : ByteArray) : s = ⟨#[61, 58, 61]⟩ ∨ s = ⟨#[61, 92, 61]⟩ ∨ s = ⟨#[60]⟩ ∨ s = ⟨#[62]⟩ ∨ s = ⟨#[61, 60]⟩ ∨ s = ⟨#[62, 61]⟩ ∨ (s ≠ ⟨#[61, 58, 61]⟩ ∧ s ≠ ⟨#[61, 92, 61]⟩ ∧ s ≠ ⟨#[60]⟩ ∧ s ≠ ⟨#[62]⟩ ∧ s ≠ ⟨#[61, 60]⟩ ∧ s ≠ ⟨#[62, 61]⟩) := by
  by_cases h1 : s = ⟨#[61, 58, 61]⟩
  · exact .inl h1
  by_cases h2 : s = ⟨#[61, 92, 61]⟩
  · exact .inr (.inl h2)
  by_cases h3 : s = ⟨#[60]⟩
  · exact .inr (.inr (.inl h3))
  by_cases h4 : s = ⟨#[62]⟩
  · exact .inr (.inr (.inr (.inl h4)))
  by_cases h5 : s = ⟨#[61, 60]⟩
  · exact .inr (.inr (.inr (.inr (.inl h5))))
  by_cases h6 : s = ⟨#[62, 61]⟩
  · exact .inr (.inr (.inr (.inr (.inr (.inl h6)))))
  exact .inr (.inr (.inr (.inr (.inr (.inr ⟨h1, h2, h3, h4, h5, h6⟩)))))
end PSL
