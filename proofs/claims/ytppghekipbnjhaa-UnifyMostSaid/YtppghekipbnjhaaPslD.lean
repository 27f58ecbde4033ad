import Derived.Test.YtppghekipbnjhaaPslC
import Derived.ProofKit
import Derived.SizedLaws
import Derived.ChangeSame
import Derived.JoinedOf
import Derived.Laws.BytesString
namespace PSL
open Go Go.RowKit Go.ChangeShapes Go.WideShapes

/-- A struct's cells, field by field. -/
def HasFs (H : Nat → List D → Prop) (ty : Nat → Option Ty) : List (Nat × Nat) → List D → Prop
  | [], row => row = []
  | (_, t) :: fs, row => ∃ (τ : Ty) (a b : List D), ty t = some τ ∧ row = a ++ b ∧ a.length = τ.size ∧ H t a ∧ HasFs H ty fs b

/-- Cells as data of a type. -/
def HasTy (ty : Nat → Option Ty) (B : Nat) : Nat → Nat → List D → Prop
  | 0, _, _ => False
  | n + 1, t, row => match ty t with
    | none => False
    | some τ => match τ.sh with
      | .int k => ∃ m, row = [.v (.int k m)] ∧ k.min ≤ m ∧ m ≤ k.max
      | .bool => ∃ b, row = [.v (.bool b)]
      | .str => ∃ s : ByteArray, row = [.v (.string s)] ∧ s.size ≤ B
      | .struct flds => HasFs (HasTy ty B n) ty flds row
      | .slice e => ∃ rows : List (List D), row = [.sl rows] ∧ (∀ τ, ty e = some τ → rows.length * τ.bytes ≤ B) ∧ ∀ r ∈ rows, HasTy ty B n e r
      | _ => False

def contig (ty : Nat → Option Ty) (size : Nat) : List (Nat × Nat) → Nat → Bool
  | [], o => o == size
  | (f, t) :: fs, o => match ty t with
    | some τ => f == o && contig ty size fs (o + τ.size)
    | none => false

/-- Types of plain data, within a list of such. -/
def dT (ty : Nat → Option Ty) (L : List Nat) (t : Nat) : Bool :=
  match ty t with
  | some τ => match τ.sh with
    | .int _ => true
    | .bool => true
    | .str => true
    | .struct flds => flds.all (fun f => L.contains f.2) && contig ty τ.size flds 0
    | .slice e => L.contains e && match ty e with | some τ' => decide (0 < τ'.size) | none => false
    | _ => false
  | none => false

section
variable {H : Type} {enc : TypeId × Value → H} {P : Program} {w : World} {base : Nat} {held : Bool} {ty : Nat → Option Ty}

theorem cellsOf_ty (hty : TyOk P ty) {t : Nat} {τ : Ty} (h : ty t = some τ) : P.cellsOf t = τ.size := by
  obtain ⟨i, z, h1, _, h3, _⟩ := (hty t τ h).info
  simp [Program.cellsOf, h1, h3]

theorem und_ty (hty : TyOk P ty) {t : Nat} {τ : Ty} (h : ty t = some τ) : ShFact P t τ.sh := (hty t τ h).sh

theorem weightsAll_mem {P : Program} {e : TypeId} {d : DataW H} {m : Nat} : ∀ {l : List (DataW H)}, d ∈ l → m ∈ d.weights P e → m ∈ DataW.weightsAll P e l
  | x :: l, h, hm => by
    simp only [DataW.weightsAll, List.mem_append]
    rcases List.mem_cons.1 h with rfl | h
    · exact .inl hm
    · exact .inr (weightsAll_mem h hm)

theorem choose_lt {α : Type} [Inhabited α] {n : Nat} {p : Nat → α → Prop} (h : ∀ i, i < n → ∃ x, p i x) : ∃ f : Nat → α, ∀ i, i < n → p i (f i) := by
  classical
  refine ⟨fun i => if hi : i < n then Classical.choose (h i hi) else default, fun i hi => ?_⟩
  simp only [dif_pos hi]
  exact Classical.choose_spec (h i hi)

/-- Cells that are read as a type's are data. -/
theorem trod_rd (hty : TyOk P ty) {L : List Nat} (hL : ∀ t ∈ L, dT ty L t = true) (B : Nat) : ∀ (n t : Nat) (τ : Ty) (cs : List Value) (x : DataW H × List MemPlace), t ∈ L → DataW.trod enc P w base (fun _ => true) held n t cs = some x → ty t = some τ → (∀ m ∈ x.1.weights P t, m ≤ B) →
    ∃ row, cs.length = τ.size ∧ row.length = τ.size ∧ HasTy ty B n t row ∧ ∀ (j : Nat) (d : D), row[j]? = some d → ∃ v, cs[j]? = some v ∧ Rd (fun _ => True) w d v
  | 0, _, _, _, _, _, h, _, _ => by simp [DataW.trod] at h
  | n + 1, t, τ, cs, x, htL, h, hτ, hwt => by
    have hd := hL t htL
    have hsh := und_ty hty hτ
    have h1 := (hty t τ hτ).one
    unfold dT at hd
    rw [hτ] at hd
    simp only at hd
    have one : ∀ (d : D) (v : Value), τ.size = 1 → cs = [v] → Rd (fun _ => True) w d v → HasTy ty B (n + 1) t [d] → ∃ row, cs.length = τ.size ∧ row.length = τ.size ∧ HasTy ty B (n + 1) t row ∧ ∀ (j : Nat) (d : D), row[j]? = some d → ∃ v, cs[j]? = some v ∧ Rd (fun _ => True) w d v := by
      intro d v hs hcs hr hh
      refine ⟨[d], by rw [hcs, hs]; rfl, by rw [hs]; rfl, hh, fun j d' hj => ?_⟩
      match j, hj with
      | 0, hj => simp at hj; subst hj; exact ⟨v, by rw [hcs]; rfl, hr⟩
    cases hs : τ.sh with
    | one => rw [hs] at hd; cases hd
    | int k =>
      rw [hs] at hsh; simp only [ShFact] at hsh
      obtain ⟨m, hcs, hx, hwf⟩ := DataW.trod_int hsh h
      refine one (.v (.int k m)) _ (h1 (by unfold Ty.agg; rw [hs])) hcs (.v _) ?_
      simp only [HasTy, hτ, hs]
      simp only [Lit.wf, Bool.and_eq_true, decide_eq_true_eq] at hwf
      exact ⟨m, rfl, hwf⟩
    | bool =>
      rw [hs] at hsh; simp only [ShFact] at hsh
      obtain ⟨b, hcs, hx⟩ := DataW.trod_bool hsh h
      refine one (.v (.bool b)) _ (h1 (by unfold Ty.agg; rw [hs])) hcs (.v _) ?_
      simp only [HasTy, hτ, hs]
      exact ⟨b, rfl⟩
    | str =>
      rw [hs] at hsh; simp only [ShFact] at hsh
      obtain ⟨s, hcs, hx, hwf⟩ := DataW.trod_string hsh h
      refine one (.v (.string s)) _ (h1 (by unfold Ty.agg; rw [hs])) hcs (.v _) ?_
      simp only [HasTy, hτ, hs]
      subst hx
      exact ⟨s, rfl, by simpa using hwt s.data.toList.length (by simp [DataW.weights])⟩
    | struct flds =>
      rw [hs] at hsh hd; simp only [ShFact] at hsh
      simp only [Bool.and_eq_true, List.all_eq_true, List.contains_iff_mem] at hd
      obtain ⟨fs, hu, hfl, _⟩ := hsh
      obtain ⟨xs, n', hn, hx, hcl, hxl, hall⟩ := DataW.trod_struct hu h
      cases hn
      rw [cellsOf_ty hty hτ] at hcl
      have hmem : ∀ f ∈ flds, ∃ x, DataW.trod enc P w base (fun _ => true) held n f.2 ((cs.drop f.1).take (P.cellsOf f.2)) = some x ∧ ∀ m ∈ x.1.weights P f.2, m ≤ B := by
        intro f hf
        rw [← hfl] at hf
        obtain ⟨fl, hfl', rfl⟩ := List.mem_map.1 hf
        obtain ⟨i, hi, hii⟩ := List.mem_iff_getElem.1 hfl'
        have e1 : fs[i]? = some fl := by rw [← Array.getElem?_toList, List.getElem?_eq_getElem hi, hii]
        have hix : i < xs.length := by rw [hxl]; simpa using hi
        refine ⟨xs[i], by rw [hall i fl e1]; exact List.getElem?_eq_getElem hix, fun m hm => hwt m ?_⟩
        rw [hx]
        simp only [DataW.weights, hu]
        exact DataW.weights_mem_each (j := i) (by rw [List.getElem?_map, List.getElem?_eq_getElem hi, hii]; rfl) (by rw [List.getElem?_map, List.getElem?_eq_getElem hix]; rfl) m hm
      have hind : ∀ (t : Nat) (τ : Ty) (l : List Value) (x : DataW H × List MemPlace), t ∈ L → DataW.trod enc P w base (fun _ => true) held n t l = some x → ty t = some τ → (∀ m ∈ x.1.weights P t, m ≤ B) → ∃ row, l.length = τ.size ∧ row.length = τ.size ∧ HasTy ty B n t row ∧ ∀ (j : Nat) (d : D), row[j]? = some d → ∃ v, l[j]? = some v ∧ Rd (fun _ => True) w d v :=
        fun t τ l x ht h h' h'' => trod_rd hty hL B n t τ l x ht h h' h''
      obtain ⟨row, g1, g2, g3⟩ : ∃ row, 0 + row.length = τ.size ∧ HasFs (HasTy ty B n) ty flds row ∧ ∀ (j : Nat) (d : D), row[j]? = some d → ∃ v, cs[0 + j]? = some v ∧ Rd (fun _ => True) w d v := by
        have key : ∀ (fs : List (Nat × Nat)) (o : Nat), (∀ f ∈ fs, f.2 ∈ L) → contig ty τ.size fs o = true → (∀ f ∈ fs, ∃ x, DataW.trod enc P w base (fun _ => true) held n f.2 ((cs.drop f.1).take (P.cellsOf f.2)) = some x ∧ ∀ m ∈ x.1.weights P f.2, m ≤ B) →
            ∃ row, o + row.length = τ.size ∧ HasFs (HasTy ty B n) ty fs row ∧ ∀ (j : Nat) (d : D), row[j]? = some d → ∃ v, cs[o + j]? = some v ∧ Rd (fun _ => True) w d v := by
          intro fs
          induction fs with
          | nil => intro o _ hc _; simp only [contig, beq_iff_eq] at hc; exact ⟨[], by simpa using hc, rfl, by simp⟩
          | cons ft fs ih =>
            obtain ⟨f, t⟩ := ft
            intro o hm hc hf
            simp only [contig] at hc
            split at hc
            case h_2 => cases hc
            rename_i τ' hτ'
            simp only [Bool.and_eq_true, beq_iff_eq] at hc
            obtain ⟨rfl, hc⟩ := hc
            obtain ⟨row2, h1, h2, h3⟩ := ih (f + τ'.size) (fun g hg => hm g (List.mem_cons_of_mem _ hg)) hc fun g hg => hf g (List.mem_cons_of_mem _ hg)
            obtain ⟨x, hx, hxw⟩ := hf (f, t) (List.mem_cons_self ..)
            obtain ⟨row1, g1, g2, g3, g4⟩ := hind t τ' _ x (hm (f, t) (List.mem_cons_self ..)) hx hτ' hxw
            rw [cellsOf_ty hty hτ'] at g1 g4
            refine ⟨row1 ++ row2, by rw [List.length_append]; omega, ⟨τ', row1, row2, hτ', rfl, g2, g3, h2⟩, fun j d hj => ?_⟩
            by_cases hlt : j < row1.length
            · rw [List.getElem?_append_left hlt] at hj
              obtain ⟨v, g5, g6⟩ := g4 j d hj
              rw [List.getElem?_take_of_lt (by omega), List.getElem?_drop] at g5
              exact ⟨v, g5, g6⟩
            · rw [List.getElem?_append_right (by omega)] at hj
              obtain ⟨v, g5, g6⟩ := h3 _ d hj
              exact ⟨v, by rw [show f + j = f + τ'.size + (j - row1.length) by omega]; exact g5, g6⟩
        exact key flds 0 hd.1 hd.2 hmem
      refine ⟨row, hcl, by omega, ?_, fun j d hj => by simpa using g3 j d hj⟩
      simp only [HasTy, hτ, hs]; exact g2
    | array m e => rw [hs] at hd; cases hd
    | map k e => rw [hs] at hd; cases hd
    | slice e =>
      rw [hs] at hsh hd; simp only [ShFact] at hsh
      simp only [Bool.and_eq_true, List.contains_iff_mem] at hd
      obtain ⟨heL, hd⟩ := hd
      split at hd
      case h_2 => cases hd
      rename_i τe hτe
      have hpos := of_decide_eq_true hd
      have hsz := h1 (by unfold Ty.agg; rw [hs])
      rcases DataW.trod_slice hsh h with ⟨hcs, _⟩ | ⟨a, len, cap, elems, rest, n', hn, hcs, hx, hb, hl, hm, hlen, hel, hsp, _⟩
      · refine one (.sl []) _ hsz hcs (.nil _ _) ?_
        simp only [HasTy, hτ, hs]
        exact ⟨[], rfl, fun _ _ => by simp, by simp⟩
      · cases hn
        rcases Nat.eq_zero_or_pos len with h0 | h0
        · subst h0
          refine one (.sl []) _ hsz hcs (.nil _ _) ?_
          simp only [HasTy, hτ, hs]
          exact ⟨[], rfl, fun _ _ => by simp, by simp⟩
        have hce := cellsOf_ty hty hτe
        have hrow : ∀ i, i < len → ∃ row : List D, ∃ l : List Value, w.cells? base (a.add (i * τe.size)) τe.size = some l ∧ l.length = τe.size ∧ row.length = τe.size ∧ HasTy ty B n e row ∧ ∀ (j : Nat) (d : D), row[j]? = some d → ∃ v, l[j]? = some v ∧ Rd (fun _ => True) w d v := by
          intro i hi
          have h2 := hel i hi
          rw [hce] at h2
          have h3 : elems[i]? = some elems[i] := List.getElem?_eq_getElem (by omega)
          rw [h3] at h2
          obtain ⟨l, h4, h5⟩ := Option.bind_eq_some_iff.1 h2
          obtain ⟨row, g1, g2, g3, g4⟩ := trod_rd hty hL B n e τe l _ heL h5 hτe fun m hm => hwt m (by
            rw [hx]; simp only [DataW.weights, hsh, List.mem_cons, List.mem_append]
            exact .inr (.inl (weightsAll_mem (List.mem_map.2 ⟨elems[i], List.getElem_mem _, rfl⟩) hm)))
          exact ⟨row, l, h4, g1, g2, g3, g4⟩
        obtain ⟨R, hR⟩ := choose_lt hrow
        obtain ⟨V, hV⟩ := choose_lt (fun i hi => hR i hi)
        obtain ⟨b, o, sp⟩ := a
        have hcell : ∀ i, i < len → ∀ j, j < τe.size → w.cell? ((⟨b, o, sp⟩ : Addr).add (i * τe.size) |>.add j) = (V i)[j]? := fun i hi j hj => (World.cells?_some (hV i hi).1).2.2 j hj
        have h00 := hcell 0 h0 0 hpos
        simp only [Nat.zero_mul, Addr.add, if_true] at h00
        have hv0 : (V 0)[0]? = some ((V 0)[0]'(by rw [(hV 0 h0).2.1]; exact hpos)) := List.getElem?_eq_getElem _
        rw [hv0] at h00
        simp only [World.cell?] at h00
        split at h00
        case h_2 => cases h00
        rename_i c T fr hheap
        split at h00
        · cases h00
        rename_i hsp0
        have : sp = none := by cases sp with
          | none => rfl
          | some s => simp at hsp0
        subst this
        have hcell' : ∀ i, i < len → ∀ j, j < τe.size → c[o + i * τe.size + j]? = (V i)[j]? := fun i hi j hj => by
          have h2 := hcell i hi j hj
          rw [add_none, add_none] at h2
          simp only [World.cell?, hheap] at h2
          simpa using h2
        refine one (.sl ((List.range len).map R)) _ hsz hcs ?_ ?_
        · have key := Rd.sl (S := fun _ => True) (w := w) (rows := (List.range len).map R) (b := b) (o := o) (cap := cap) (sz := τe.size) (cs := c) (T := T) (fr := fr) (fun i j => ((V i)[j]?).getD undef) trivial hheap (by simpa using hl) hm
            (fun i r hi => ?_) (fun i r j x hi hj => ?_) (fun i r j x hi hj => ?_)
          · simpa using key
          · have hlt := (List.getElem?_eq_some_iff.1 hi).1
            simp at hlt
            rw [List.getElem?_map, List.getElem?_range hlt] at hi
            simp at hi; subst hi; exact (hV i hlt).2.2.1
          · have hlt := (List.getElem?_eq_some_iff.1 hi).1
            simp at hlt
            rw [List.getElem?_map, List.getElem?_range hlt] at hi
            simp at hi; subst hi
            obtain ⟨v, g1, _⟩ := (hV i hlt).2.2.2.2 j x hj
            have hjl := (List.getElem?_eq_some_iff.1 hj).1
            rw [(hV i hlt).2.2.1] at hjl
            rw [hcell' i hlt j hjl, g1]; rfl
          · have hlt := (List.getElem?_eq_some_iff.1 hi).1
            simp at hlt
            rw [List.getElem?_map, List.getElem?_range hlt] at hi
            simp at hi; subst hi
            obtain ⟨v, g1, g2⟩ := (hV i hlt).2.2.2.2 j x hj
            rw [g1]; exact g2
        · simp only [HasTy, hτ, hs]
          refine ⟨_, rfl, fun τ' hτ' => ?_, fun r hr => ?_⟩
          · rw [hτe] at hτ'; cases hτ'
            have h2 := hwt ((elems.length + rest.length) * P.bytesOf e) (by rw [hx]; simp [DataW.weights, hsh])
            have h3 : P.bytesOf e = τe.bytes := by
              obtain ⟨i, z, h1, _, _, h4, _⟩ := (hty e τe hτe).info
              simp [Program.bytesOf, h1, h4]
            rw [h3, hlen, Nat.add_mul] at h2
            simp; omega
          obtain ⟨i, hi, rfl⟩ := List.mem_map.1 hr
          exact (hV i (List.mem_range.1 hi)).2.2.2.1
end
end PSL

namespace PSL
open Go Go.RowKit Go.ChangeShapes Go.WideShapes Go.ChangeAt

def avOf (τ : Ty) (row : List D) : AV :=
  match τ.agg with
  | true => .agg (row.map .d)
  | false => match row with
    | [x] => .d x
    | _ => .any

/-- Arguments as data of types. -/
def ArgsAre (ty : Nat → Option Ty) (B : Nat) : List Nat → List AV → Prop
  | [], [] => True
  | t :: ts, a :: as => (∃ (n : Nat) (τ : Ty) (row : List D), ty t = some τ ∧ HasTy ty B n t row ∧ row.length = τ.size ∧ a = avOf τ row) ∧ ArgsAre ty B ts as
  | _, _ => False

section
variable {H : Type} {enc : TypeId × Value → H} {P : Program} {ty : Nat → Option Ty}

theorem rvs_ds {S : Nat → Prop} {w : World} {φ : List Phy} {row : List D} {cs : List Value} (hl : row.length = cs.length) (h : ∀ (j : Nat) (d : D), row[j]? = some d → ∃ v, cs[j]? = some v ∧ Rd S w d v) : RVs S w φ (row.map .d) cs :=
  RVs.of_get (by simpa using hl) fun i x v hx hv => by
    rw [List.getElem?_map] at hx
    cases hr : row[i]? with
    | none => rw [hr] at hx; cases hx
    | some d =>
      rw [hr] at hx; simp at hx; subst hx
      obtain ⟨v', h1, h2⟩ := h i d hr
      rw [hv] at h1; cases h1
      simpa only [RV] using h2

theorem open_arg (hty : TyOk P ty) {L : List Nat} (hL : ∀ t ∈ L, dT ty L t = true) {B : Nat} {W : World} {base t : Nat} {τ : Ty} {v : Value} {d : DataW H} {ps : List MemPlace} (ht : t ∈ L) (hτ : ty t = some τ)
    (hok : Value.okWide P W .any base t v) (h : DataW.Trod enc P W 0 (fun _ => true) true t v d ps) (hw : ∀ m ∈ d.weights P t, m ≤ B) :
    ∃ (n : Nat) (row : List D), HasTy ty B n t row ∧ row.length = τ.size ∧ RV (fun _ => True) W [] (avOf τ row) v := by
  obtain ⟨n, hn⟩ := h
  obtain ⟨row, h1, h2, h3, h4⟩ := trod_rd hty hL B n t τ _ _ ht hn hτ hw
  refine ⟨n, row, h3, h2, ?_⟩
  have hd := hL t ht
  have hsh := (hty t τ hτ).sh
  have hone := (hty t τ hτ).one
  unfold dT at hd
  rw [hτ] at hd
  simp only at hd
  have single : (∃ c, v.cells.toList = [c] ∧ v = c) → τ.agg = false → RV (fun _ => True) W [] (avOf τ row) v := by
    rintro ⟨c, hc, rfl⟩ ha
    unfold avOf
    rw [ha]
    have hs := hone ha
    match row, h2 with
    | [x], _ =>
      simp only
      obtain ⟨v', h5, h6⟩ := h4 0 x rfl
      rw [hc] at h5; simp at h5; subst h5
      simpa only [RV] using h6
    | [], h => rw [hs] at h; simp at h
    | _ :: _ :: _, h => rw [hs] at h; simp at h
  cases hs : τ.sh with
  | one => rw [hs] at hd; cases hd
  | array m e => rw [hs] at hd; cases hd
  | map k e => rw [hs] at hd; cases hd
  | int k =>
    rw [hs] at hsh; simp only [ShFact] at hsh
    obtain ⟨m, rfl⟩ := okWide_int hsh hok
    exact single ⟨_, rfl, rfl⟩ (by unfold Ty.agg; rw [hs])
  | bool =>
    rw [hs] at hsh; simp only [ShFact] at hsh
    obtain ⟨m, rfl⟩ := okWide_bool hsh hok
    exact single ⟨_, rfl, rfl⟩ (by unfold Ty.agg; rw [hs])
  | str =>
    rw [hs] at hsh; simp only [ShFact] at hsh
    obtain ⟨m, rfl⟩ := okWide_string hsh hok
    exact single ⟨_, rfl, rfl⟩ (by unfold Ty.agg; rw [hs])
  | slice e =>
    rw [hs] at hsh; simp only [ShFact] at hsh
    obtain ⟨a, l, c, rfl⟩ := okWide_slice hsh hok
    exact single ⟨_, rfl, rfl⟩ (by unfold Ty.agg; rw [hs])
  | struct flds =>
    rw [hs] at hsh; simp only [ShFact] at hsh
    obtain ⟨fs, hu, _⟩ := hsh
    obtain ⟨cs, rfl, _⟩ := okWide_struct hu hok
    have ha : τ.agg = true := by unfold Ty.agg; rw [hs]
    unfold avOf
    rw [ha]
    simp only [Value.cells] at h1 h4
    simp only [RV]
    exact ⟨cs.toList, by simp, rvs_ds (by rw [h1, h2]) h4⟩

theorem open_args (hty : TyOk P ty) {L : List Nat} (hL : ∀ t ∈ L, dT ty L t = true) {B : Nat} {W : World} {base : Nat} : ∀ (ts : List Nat) (vs : List Value) (ds : List (DataW H)) (ps : List MemPlace), (∀ t ∈ ts, t ∈ L ∧ (ty t).isSome = true) → DataW.TrodAll enc P W 0 (fun _ => true) true ts vs ds ps →
    (∀ (j : Nat) (t : Nat) (v : Value), ts[j]? = some t → vs[j]? = some v → Value.okWide P W .any base t v) → (∀ m ∈ DataW.weightsEach P ts ds, m ≤ B) → ∃ as, RVs (fun _ => True) W [] as vs ∧ ArgsAre ty B ts as ∧ ds.length = ts.length
  | [], [], [], _, _, _, _, _ => ⟨[], by simp [RVs], trivial, rfl⟩
  | [], _ :: _, _, _, _, h, _, _ => by simp [DataW.TrodAll] at h
  | [], [], _ :: _, _, _, h, _, _ => by simp [DataW.TrodAll] at h
  | _ :: _, [], _, _, _, h, _, _ => by simp [DataW.TrodAll] at h
  | _ :: _, _ :: _, [], _, _, h, _, _ => by simp [DataW.TrodAll] at h
  | t :: ts, v :: vs, d :: ds, ps, hl, h, hok, hw => by
    simp only [DataW.TrodAll] at h
    obtain ⟨p, q, h1, h2, rfl⟩ := h
    obtain ⟨htL, htS⟩ := hl t (by simp)
    obtain ⟨τ, hτ⟩ := Option.isSome_iff_exists.1 htS
    simp only [DataW.weightsEach, List.mem_append] at hw
    obtain ⟨n, row, h3, h4, h5⟩ := open_arg hty hL htL hτ (hok 0 t v rfl rfl) h1 fun m hm => hw m (.inl hm)
    obtain ⟨as, h6, h7, h8⟩ := open_args hty hL ts vs ds q (fun t ht => hl t (by simp [ht])) h2 (fun j t v ht hv => hok (j + 1) t v (by simpa using ht) (by simpa using hv)) fun m hm => hw m (.inr hm)
    exact ⟨avOf τ row :: as, by simp only [RVs]; exact ⟨h5, h6⟩, ⟨⟨n, τ, row, hτ, h3, h4, rfl⟩, h7⟩, by simp [h8]⟩

theorem trodAll_stays (hl : laidOutB P = true) {W W' : World} (hb : Below W.heap.size W W') {sp : Nat → Bool} : ∀ (ts : List Nat) (vs : List Value) (ds : List (DataW H)) (ps : List MemPlace), (∀ t ∈ ts, P.readableRec t = true ∧ t < P.types.size) → DataW.TrodAll enc P W 0 (fun _ => true) true ts vs ds ps →
    (∀ p ∈ ps, p.block < W.heap.size ∧ sp p.block = true) → DataW.TrodAll enc P W' 0 sp true ts vs ds ps
  | [], [], [], _, _, h, _ => h
  | [], _ :: _, _, _, _, h, _ => by simp [DataW.TrodAll] at h
  | [], [], _ :: _, _, _, h, _ => by simp [DataW.TrodAll] at h
  | _ :: _, [], _, _, _, h, _ => by simp [DataW.TrodAll] at h
  | _ :: _, _ :: _, [], _, _, h, _ => by simp [DataW.TrodAll] at h
  | t :: ts, v :: vs, d :: ds, ps, hr, h, hp => by
    simp only [DataW.TrodAll] at h ⊢
    obtain ⟨p, q, h1, h2, rfl⟩ := h
    obtain ⟨hr1, hr2⟩ := hr t (by simp)
    exact ⟨p, q, WideElems.Trod_stays hl hr1 hr2 h1 (fun x hx => hb.same (hp x (by simp [hx])).1) (fun x hx => (hp x (by simp [hx])).2),
      trodAll_stays hl hb ts vs ds q (fun t ht => hr t (by simp [ht])) h2 (fun x hx => hp x (by simp [hx])), rfl⟩

theorem law_post {f : Func} {s : ChangeSpec} {apart fresh handsOn again : Bool} {W W' : World} {args : Array Value} {v : Value} {ds gs : List (DataW H)} {before pa pv : List MemPlace}
    (hW : DataW.Whole enc P f.params.toList s.vars apart W args.toList ds gs before)
    (hres : ∀ (b : Nat) (sp : Nat → Bool) (hd : Bool), DataW.TrodAll enc P W' b sp hd f.resultTypes.toList (v.resultList f.resultTypes.size) (s.fn H (ds ++ gs)).results [])
    (hargs : ∀ sp : Nat → Bool, (∀ p ∈ before, sp p.block = true) → DataW.TrodAll enc P W' 0 sp true f.params.toList args.toList (s.fn H (ds ++ gs)).args pa)
    (hvars : ∀ sp : Nat → Bool, (∀ p ∈ before, sp p.block = true) → DataW.TrodVars enc P W' sp s.vars (s.fn H (ds ++ gs)).vars pv)
    (hps : before = pa ++ pv) (hb : Below W.heap.size W W')
    (hok : ∀ (j : Nat) (t : TypeId) (r : Value), f.resultTypes[j]? = some t → (v.resultList f.resultTypes.size)[j]? = some r → Value.okWide P W' .any 0 t r) :
    s.post enc P f apart fresh handsOn again W args v W' := by
  have hlt : ∀ p ∈ before, p.block < W.heap.size := fun p hp => hW.lt p hp
  have hold : ∀ p ∈ before, (fun b => decide (b < W.heap.size)) p.block = true := fun p hp => by simpa using hlt p hp
  refine ⟨ds, gs, before, [], pa, pv, hW, hres _ _ _, hargs _ hold, hvars _ hold, World.keptBut_mono (fun p hp => ⟨hp, ?_⟩) (hb.frame (· ∈ before)), fun _ => ?_⟩
  · rw [hps, List.mem_append] at hp
    exact Or.inr hp
  · obtain ⟨_, _, _, _, _, hz, hn⟩ := hW
    refine ⟨hok, _, _, ([] ++ pa) ++ pv, ⟨[] ++ pa, pv, trodAll_append (hargs _ (fun _ _ => rfl)) (hres _ _ _), hvars _ (fun _ _ => rfl), rfl, ?_, ?_⟩, ?_⟩
    · intro b off hp
      have hin : MemPlace.cell b off ∈ before := by rw [hps]; simpa using hp
      rw [hb.frozen (hlt _ hin)]
      exact hz b off hin
    · intro ha
      have := hn ha
      rw [hps] at this
      simpa using this
    · intro p hp _
      rw [hps]
      simpa using hp

/-- What a law's spec says. -/
structure LawSpec (s : ChangeSpec) (n : Nat) : Prop where
  vars : s.vars = []
  fn : ∀ (H : Type) (ds : List (DataW H)), ds.length = n → s.fn H ds = { results := [.lit (.bool true)], args := ds }

theorem law_calls (hty : TyOk P ty) {L : List Nat} (hL : ∀ t ∈ L, dT ty L t = true) (hl : laidOutB P = true) {f : Nat} {fn : Func} {s : ChangeSpec} {apart fresh handsOn again : Bool} {tb : Nat} (hs : LawSpec s fn.params.size) (hr : fn.resultTypes = #[tb]) (htb : P.underlying tb = some .bool)
    (hpar : ∀ t ∈ fn.params.toList, t ∈ L ∧ (ty t).isSome = true) (hrd : ∀ t ∈ fn.params.toList, P.readableRec t = true ∧ t < P.types.size)
    (hctr : ∀ as, ArgsAre ty reachBytes fn.params.toList as → PCtr P f as (bV true)) {W : World} {base : Nat} {args : Array Value} {ds gs : List (DataW H)} {before : List MemPlace} {vt : List Nat}
    (hok : ∀ (j : Nat) t v, fn.params[j]? = some t → args[j]? = some v → Value.okWide P W .any base t v) (hW : DataW.Whole enc P fn.params.toList s.vars apart W args.toList ds gs before)
    (hwt : (DataW.weightsEach P (fn.params.toList ++ vt) (ds ++ gs)).all (· ≤ reachBytes) = true) :
    Calls P f args W fun e W' => ∃ v, e = .returned v ∧ s.post enc P fn apart fresh handsOn again W args v W' := by
  have hW' := hW
  obtain ⟨p, q, hA, hV, rfl, _, _⟩ := hW
  rw [hs.vars] at hV
  obtain ⟨rfl, rfl⟩ := trodVars_none hV
  have hdl : ∀ {ts : List Nat} {vs : List Value} {ds : List (DataW H)} {ps : List MemPlace}, DataW.TrodAll enc P W 0 (fun _ => true) true ts vs ds ps → ds.length = ts.length := by
    intro ts
    induction ts with
    | nil => intro vs ds ps h; cases vs <;> cases ds <;> simp [DataW.TrodAll] at h ⊢
    | cons t ts ih => intro vs ds ps h; cases vs <;> cases ds <;> simp [DataW.TrodAll] at h ⊢; obtain ⟨_, _, _, h, _⟩ := h; exact ih h
  have hlen := hdl hA
  have hw : ∀ m ∈ DataW.weightsEach P fn.params.toList ds, m ≤ reachBytes := fun m hm => by
    have key : ∀ (ts vt : List Nat) (ds : List (DataW H)), ds.length = ts.length → DataW.weightsEach P (ts ++ vt) (ds ++ []) = DataW.weightsEach P ts ds := by
      intro ts
      induction ts with
      | nil => intro vt ds h; have : ds = [] := List.length_eq_zero_iff.1 (by simpa using h); subst this; cases vt <;> simp [DataW.weightsEach]
      | cons t ts ih => intro vt ds h; cases ds with
        | nil => simp at h
        | cons d ds => simp only [List.cons_append, DataW.weightsEach]; rw [ih vt ds (by simpa using h)]
    rw [key _ _ _ hlen, List.all_eq_true] at hwt
    simpa using hwt m hm
  obtain ⟨as, h1, h2, _⟩ := open_args hty hL fn.params.toList args.toList ds p hpar hA (fun j t v ht hv => hok j t v (by simpa using ht) (by simpa using hv)) hw
  have hc := (hctr as h2).run (fun _ => True) W args.toList (fun _ _ => trivial) h1
  rw [show args.toList.toArray = args from by simp] at hc
  refine hc.mono ?_
  rintro e W' ⟨v, rfl, hv, hb⟩
  simp only [bV, RV] at hv
  cases hv
  have hds : ds.length = fn.params.size := by rw [hlen]; simp
  have hfn : s.fn H (ds ++ []) = { results := [.lit (.bool true)], args := ds } := by rw [List.append_nil]; exact hs.fn H ds hds
  refine ⟨_, rfl, law_post (pa := p) (pv := []) hW' (fun b sp hd => ?_) (fun sp hsp => ?_) (fun sp hsp => ?_) rfl hb ?_⟩
  · rw [hfn, hr]
    exact trodAll_mk1 (shut_bool htb true)
  · rw [hfn]
    exact trodAll_stays hl hb _ _ _ _ hrd hA fun x hx => ⟨hW'.lt x (by simp [hx]), hsp x (by simp [hx])⟩
  · rw [hfn, hs.vars]; rfl
  · exact ok_one hr rfl (okWide_bool_mk htb true)
end
end PSL

namespace PSL
open Go Go.RowKit

section
variable {g : G} {pf : Nat → Cls} {ops : Array Oper} {Fin : Exit → Act → World → Prop}

open Classical in
/-- A load of data, of whatever class. -/
theorem R_loadD (hg : GOk g) {dst : Option Nat} {T : Nat} {x : Operand} {ty : Nat} {pos : String} {after : Array Edge} {gd : Option (Nat × Bool)} {rest : List Oper} {k : List It} {E : Env} {objs : List Ob}
    {l : List D} {τ : Ty} {v : AV}
    (hgd : guardA ops.toList E gd = some true) (hd : dstOk ⟨g.ty, g.N⟩ dst = true) (hx : ev E x = .d (.ptr l)) (hT : g.ty T = some τ) (hp : packA τ (l.map .d) 0 = some v)
    (hr : R g pf Fin (.dr ops rest :: k) (putO E dst v) objs) : R g pf Fin (.dr ops (⟨dst, .load T x, ty, pos, after, gd⟩ :: rest) :: k) E objs := by
  refine R_op (LocOp.quiet hg hgd hd (by simp) fun φ o₁ a w hρ hs => ?_) hr
  simp only [Op.operands] at hρ
  have hxv := hρ x (by simp)
  rw [hx] at hxv
  refine stepOp_ok (ρA := fun y => if y = x then .d (.ptr l) else .any) hg.ty hs (fun y => ?_) ?_
  · split
    · rename_i h; rw [h]; exact hxv
    · simp [RV]
  · simp only [stepOp, stepS, stepL, hT, if_true, hp]

open Classical in
/-- A load of a box that what is beside it leaves alone. -/
theorem R_loadJ (hg : GOk g) (m : Nat) {dst : Option Nat} {T : Nat} {x : Operand} {ty : Nat} {pos : String} {after : Array Edge} {gd : Option (Nat × Bool)} {rest : List Oper} {k : List It} {E : Env} {objs : List Ob}
    {i off : Nat} {l : List AV} {τ : Ty} {v : AV} (hi : ¬ mayO g.φ0.length m i (.box l))
    (hgd : guardA ops.toList E gd = some true) (hd : dstOk ⟨g.ty, g.N⟩ dst = true) (hcl : ldClsAt pf x = .look (m + 1)) (hx : ev E x = .lo i off) (ho : nth objs i = some (.box l)) (hT : g.ty T = some τ) (hp : packA τ l off = some v)
    (hr : R g pf Fin (.dr ops rest :: k) (putO E dst v) objs) : R g pf Fin (.dr ops (⟨dst, .load T x, ty, pos, after, gd⟩ :: rest) :: k) E objs := by
  refine R_op ?_ hr
  simp only [clsOf, hcl]
  refine LocOp.lookingM hg m hgd hd (by simp) fun φ a w objs₁ hgr hρ hs => ?_
  simp only [Op.operands] at hρ
  have hxv := hρ x (by simp)
  rw [hx] at hxv
  have hxv' := hxv
  simp only [RV] at hxv'
  obtain ⟨b, hb, _⟩ := hxv'
  have ho : nth objs₁ i = some (.box l) := by
    rw [nth_eq] at ho ⊢
    exact Gr.same' hgr ho (by rw [← hs.len]; exact (List.getElem?_eq_some_iff.1 hb).1) hi
  refine stepOp_ok (ρA := fun y => if y = x then .lo i off else .any) hg.ty hs (fun y => ?_) ?_
  · split
    · rename_i h; rw [h]; exact hxv
    · simp [RV]
  · simp only [stepOp, stepS, stepL, hT, if_true, ho, hp]

/-- A load of a box of the call's own, that calls may be drawn ahead of or behind. -/
theorem R_load4 (hg : GOk g) {dst : Option Nat} {T : Nat} {x : Operand} {ty : Nat} {pos : String} {after : Array Edge} {gd : Option (Nat × Bool)} {rest : List Oper} {k : List It} {E : Env} {objs : List Ob}
    {i off : Nat} {l : List AV} {τ : Ty} {v : AV} (hi : g.φ0.length ≤ i)
    (hgd : guardA ops.toList E gd = some true) (hd : dstOk ⟨g.ty, g.N⟩ dst = true) (hcl : ldClsAt pf x = .look 4) (hx : ev E x = .lo i off) (ho : nth objs i = some (.box l)) (hT : g.ty T = some τ) (hp : packA τ l off = some v)
    (hr : R g pf Fin (.dr ops rest :: k) (putO E dst v) objs) : R g pf Fin (.dr ops (⟨dst, .load T x, ty, pos, after, gd⟩ :: rest) :: k) E objs :=
  R_loadJ hg 3 (by unfold mayO Ob.lvl; simp only; rw [if_neg (by omega)]; omega) hgd hd hcl hx ho hT hp hr

open Classical in
/-- A store into a box that what is beside it doesn't look at. -/
theorem R_storeJ (hg : GOk g) {dst : Option Nat} {T : Nat} {d x : Operand} {ty : Nat} {pos : String} {after : Array Edge} {gd : Option (Nat × Bool)} {rest : List Oper} {k : List It} {E : Env} {objs : List Ob}
    {i off : Nat} {l new : List AV} {τ : Ty}
    (hgd : guardA ops.toList E gd = some true) (hd : dstOk ⟨g.ty, g.N⟩ dst = true) (hcl : stClsAt pf d = .turn (Nat.add 100 i)) (hx : ev E d = .lo i off) (ho : nth objs i = some (.box l)) (hT : g.ty T = some τ) (hc : cellsO (ev E x) = some new)
    (hl : Nat.beq (len new) τ.size = true) (hfit : Nat.ble (Nat.add off τ.size) (len l) = true)
    (hr : R g pf Fin (.dr ops rest :: k) (putO E dst .any) (setN objs i (.box (spliceA l off new)))) : R g pf Fin (.dr ops (⟨dst, .store T d x, ty, pos, after, gd⟩ :: rest) :: k) E objs := by
  refine R_op ?_ hr
  simp only [clsOf, hcl]
  refine .of_out hg (guardA_ok hgd) (dstOk_ok hd) (by simp) (fun h => absurd rfl (h _)) (fun b hb _ => ?_) fun φ o₁ o₁' a w E₁ hent hv ho' hs => ?_
  · cases hb
    intro j y hj
    rw [nth_eq] at ho
    rw [setN_eq]
    by_cases e : j = i
    · subst e
      exact ⟨_, List.getElem?_set_self (List.getElem?_eq_some_iff.1 ho).1, .inr ⟨.inr (.inl rfl), .inr (.inl rfl)⟩⟩
    · exact ⟨y, by rw [List.getElem?_set_ne (fun h => e h.symm)]; exact hj, .inl rfl⟩
  · rcases ho' with ⟨h, _⟩ | ⟨_, h, _⟩ | ⟨rfl, rfl⟩
    · cases h
    · cases h
    have hρ := rv_ops hent hv
    simp only [Op.operands] at hρ
    refine stepOp_ok (ρA := fun y => if y = d then .lo i off else if y = x then ev E x else .any) hg.ty hs (fun y => ?_) ?_
    · split
      · rename_i h; rw [h, ← hx]; exact hρ d (by simp)
      · split
        · rename_i h; rw [h]; exact hρ x (by simp)
        · simp [RV]
    · have hxx : (if x = d then AV.lo i off else if x = x then ev E x else .any) = ev E x := by
        split
        · rename_i h; rw [h, hx]
        · rw [if_pos rfl]
      have hxx' : (if x = d then AV.lo i off else ev E x) = ev E x := by rw [if_pos rfl] at hxx; exact hxx
      simp only [stepOp, stepS, stepL, stepE, hT, if_true, ho, hxx', hc, hl, hfit, cond_true]

/-- How long a slice of the call's own is, beside a store that leaves it alone. -/
theorem R_lenJ (hg : GOk g) (m : Nat) {dst : Option Nat} {T : Nat} {x : Operand} {ty : Nat} {pos : String} {after : Array Edge} {gd : Option (Nat × Bool)} {rest : List Oper} {k : List It} {E : Env} {objs : List Ob}
    {id s sz q by_ e : Nat} {z : List Value} {rows : List (List D)} {n : Int} (hi : ¬ mayO g.φ0.length m id (.arr sz s rows))
    (hgd : guardA ops.toList E gd = some true) (hd : dstOk ⟨g.ty, g.N⟩ dst = true) (hcl : lenCls pf #[x] = .look (m + 1)) (hx : ev E x = .ow id s) (ho : nth objs id = some (.arr sz s rows)) (hT : g.ty T = some ⟨q, by_, z, .slice e⟩) (hn : (rows.length : Int) = n)
    (hr : R g pf Fin (.dr ops rest :: k) (putO E dst (iV n)) objs) : R g pf Fin (.dr ops (⟨dst, .call { callee := .builtin .len, args := #[x], argTypes := #[T] }, ty, pos, after, gd⟩ :: rest) :: k) E objs := by
  subst hn
  refine R_op ?_ hr
  simp only [clsOf, hcl]
  refine LocOp.lookingM hg m hgd hd (by simp) fun φ a w objs₁ hgr hρ hs => ?_
  simp only [Op.operands, Call.operands] at hρ
  have hxv := hρ x (by simp)
  rw [hx] at hxv
  simp only [RV] at hxv
  obtain ⟨_, ph, hph, hxv⟩ := hxv
  have ho : nth objs₁ id = some (.arr sz s rows) := by
    rw [nth_eq] at ho ⊢
    exact Gr.same' hgr ho (by rw [← hs.len]; exact (List.getElem?_eq_some_iff.1 hph).1) hi
  have hk := obj_at hs hph ho
  cases ph <;> try (simp only [ObOk] at hk; done)
  simp only [ObOk] at hk
  obtain ⟨rfl, rfl, hlen, hk⟩ := hk
  have hv := (hxv _ _ _ _ rfl).2 rfl
  have hs2 : ∃ (p : Option Addr) (c : Nat), a.eval x = .slice p rows.length c := by
    rcases hk with ⟨a2, h1, rfl, _⟩ | ⟨b, o, cap, cs, T', h1, _⟩
    · exact ⟨_, _, hv.trans h1⟩
    · exact ⟨_, _, hv.trans h1⟩
  obtain ⟨p, c, hs2⟩ := hs2
  refine out_val hs (vv := .int .i64 rows.length) ?_ (by simp only [RV, iV]; exact .v _)
  have hu := und_slice hg hT
  simp only [execOp, resolve, Sem.run_bind, Sem.run_pure, Result.andThen_ok, invoke, builtin, List.map_toArray, List.map_cons, List.map_nil, hs2]
  simp [run_lenArr hu (.inr ⟨⟨_, rfl⟩, _, _, _, rfl, rfl⟩)]

/-- A call that turns what it is handed alone. -/
theorem R_callS3 (hg : GOk g) (hu : GUp g) (hF : g.F = Fence.wide ∧ g.dep = 0) (hY : ∀ (i l : Nat) (I : Nat → (Nat → Prop) → (Nat → Prop) → World → Prop) (B : Nat → Prop), g.φ0[i]? = some (Phy.ext l I B) → YStep g.P Fence.wide 0 g.Y l I g.S0) (is : List Nat) (objs' : List Ob) {Y : YP} {f : Nat} {as : List AV} {objs0 objs1 : List Ob} {r : AV} (hc : SCtr g.P Y f as objs0 r objs1) (hcc : (∃ (i l : Nat) (I : Nat → (Nat → Prop) → (Nat → Prop) → World → Prop) (B : Nat → Prop), g.φ0[i]? = some (Phy.ext l I B)) → Y = g.Y) {dst : Option Nat} {x : Operand} {args : Array Operand} {ts : Array Nat} {ty : Nat} {pos : String} {after : Array Edge} {gd : Option (Nat × Bool)}
    {rest : List Oper} {k : List It} {E : Env} {objs : List Ob} {fs cs : List AV} (hlt : ∀ i ∈ is, i < g.φ0.length)
    (hgd : guardA ops.toList E gd = some true) (hd : dstOk ⟨g.ty, g.N⟩ dst = true) (hcl : clsOf pf (.call { callee := .value x, args := args, argTypes := ts }) = .turn 3) (hx : ev E x = .clo f fs cs) (hok : isOk (len objs) is = true) (hpick : pickN objs is = some (objs0.map (renOb (rn is (len objs)))))
    (has : (fs ++ args.toList.map (ev E) ++ cs).map nrm = renL (rn is (len objs)) as) (ho : putAll is (objs1.map (renOb (rn is (len objs)))) objs = objs')
    (hr : R g pf Fin (.dr ops rest :: k) (putO E dst (renA (rn is (len objs)) r)) objs') :
    R g pf Fin (.dr ops (⟨dst, .call { callee := .value x, args := args, argTypes := ts }, ty, pos, after, gd⟩ :: rest) :: k) E objs := by
  subst ho
  refine R_op ?_ hr
  show LocOp g ops _ E objs (clsOf pf (.call { callee := .value x, args := args, argTypes := ts })) _ _
  rw [hcl]
  have h := loc_callS (ops := ops) (after := after) (pos := pos) (ty := ty) (ts := ts) (dst := dst) hg hu hF hY is hc hcc hgd hd hx hok hpick has
  obtain ⟨hnd, hlo⟩ := isOk_spec hok
  rw [len_eq] at hlo
  have hl0 : is.length ≤ objs1.length := by
    have h1 := pickN_len hpick
    have h2 := hc.len
    simp at h1; omega
  refine ⟨fun hn => absurd rfl (hn 3), fun b hb _ => ?_, fun E₁ o₁ o₁' a w h1 h2 h3 => h.step E₁ o₁ o₁' a w h1 (by
    rcases h2 with ⟨h2, _⟩ | ⟨m, h2, _⟩ | h2
    · cases h2
    · cases h2
    · exact .inr (.inr h2)) h3⟩
  cases hb
  intro i y hi
  have hil := (List.getElem?_eq_some_iff.1 hi).1
  by_cases hm : i ∈ is
  · have hil2 := hlt i hm
    have : i < (putAll is (objs1.map (renOb (rn is (len objs)))) objs).length := by
      rw [putAll_length (by simpa using hl0)]; omega
    refine ⟨_, List.getElem?_eq_getElem this, .inr ⟨?_, ?_⟩⟩
    · exact .inl ⟨by omega, by unfold Ob.lvl; split <;> (try split) <;> omega⟩
    · exact .inl ⟨by omega, by unfold Ob.lvl; split <;> (try split) <;> omega⟩
  · exact ⟨y, by rw [putAll_other hm hil]; exact hi, .inl rfl⟩
end
end PSL

namespace PSL
open Go Go.RowKit

section
variable {g : G} {pf : Nat → Cls} {ops : Array Oper} {Fin : Exit → Act → World → Prop}

/-- The address of an array's element. -/
theorem R_indexA (hg : GOk g) {dst : Option Nat} {T : Nat} {x i : Operand} {ty : Nat} {pos : String} {after : Array Edge} {gd : Option (Nat × Bool)} {rest : List Oper} {k : List It} {E : Env} {objs : List Ob}
    {id off n sz by_ e : Nat} {z : List Value} {τ : Ty} {m : Int} (off' : Nat)
    (hgd : guardA ops.toList E gd = some true) (hd : dstOk ⟨g.ty, g.N⟩ dst = true) (hx : ev E x = .lo id off) (hi : ev E i = .d (.v (.int .i64 m))) (hT : g.ty T = some ⟨sz, by_, z, .array n e⟩) (he : g.ty e = some τ)
    (h0 : 0 ≤ m) (hlt : m < n) (ho : off + m.toNat * τ.size = off')
    (hr : R g pf Fin (.dr ops rest :: k) (putO E dst (.lo id off')) objs) : R g pf Fin (.dr ops (⟨dst, .indexAddr T x i, ty, pos, after, gd⟩ :: rest) :: k) E objs := by
  subst ho
  refine R_op (LocOp.quiet hg hgd hd (by simp) fun φ o₁ a w hρ hs => ?_) hr
  simp only [Op.operands] at hρ
  have hxv := hρ x (by simp)
  rw [hx] at hxv
  have hiv := hρ i (by simp)
  rw [hi] at hiv
  simp only [RV] at hxv hiv
  obtain ⟨b, hb, hvx⟩ := hxv
  generalize hvi : a.eval i = vi at hiv
  cases hiv
  have hsl := (hg.ty _ _ hT).sh
  simp only [ShFact] at hsl
  refine out_val hs (vv := .pointer (some ⟨b, off + m.toNat * τ.size, none⟩)) ?_ (by simp only [RV]; exact ⟨b, hb, rfl⟩)
  have hrun : (Instr.indexAt T (a.eval x) (a.eval i)).run g.P w = .ok (.pointer (some ⟨b, off + m.toNat * τ.size, none⟩)) w := by
    simp only [Instr.indexAt, hvx, hvi, asIntOf, underlying, Sem.run_bind, Sem.run_pure, run_program, Result.andThen_ok, hsl, Instr.sureAddr]
    rw [Sem.run_ite, if_pos ⟨h0, hlt⟩]
    simp only [Sem.run_bind, run_sizeOf (hg.ty _ _ he), Result.andThen_ok, Sem.run_pure, add_none]
  simp only [execOp, Sem.run_bind, hrun, Result.andThen_ok, Sem.run_pure]

/-- An array's value, of all its elements. -/
theorem R_buildA (hg : GOk g) {dst : Option Nat} {T : Nat} {parts : Array (Nat × Operand)} {ty : Nat} {pos : String} {after : Array Edge} {gd : Option (Nat × Bool)} {rest : List Oper} {k : List It} {E : Env} {objs : List Ob}
    {n sz by_ e : Nat} {z : List Value} {τ : Ty} {rows : List (List D)} (l : List AV)
    (hgd : guardA ops.toList E gd = some true) (hd : dstOk ⟨g.ty, g.N⟩ dst = true) (hT : g.ty T = some ⟨sz, by_, z, .array n e⟩) (he : g.ty e = some τ)
    (hrows : rowsOf (parts.toList.map fun p => (p.1, ev E p.2)) 0 τ.size = some rows) (hn : parts.size = n) (hsz : sz = n * τ.size) (hl : rows.flatten.map AV.d = l)
    (hr : R g pf Fin (.dr ops rest :: k) (putO E dst (.agg l)) objs) : R g pf Fin (.dr ops (⟨dst, .build T parts, ty, pos, after, gd⟩ :: rest) :: k) E objs := by
  subst hl
  refine R_op (LocOp.quiet hg hgd hd (by simp) fun φ o₁ a w hρ hs => ?_) hr
  simp only [Op.operands] at hρ
  have hτ := hg.ty _ _ hT
  have hτe := hg.ty _ _ he
  have hsh := hτ.sh
  simp only [ShFact] at hsh
  obtain ⟨zv, hz1, hz2⟩ := run_zeroValue hτ w
  have hzl := hτ.zl
  have hzs : zv.cells.toList.length = n * τ.size := by rw [hz2, hzl]; exact hsz
  have hpm : (parts.map fun (i, x) => (i, a.eval x)).toList = parts.toList.map fun p => (p.1, a.eval p.2) := by simp [Array.toList_map]
  have hev : ∀ p ∈ parts.toList, RV (SS g.S0 φ) w φ (ev E p.2) (a.eval p.2) := fun p hp => hρ p.2 (by simp at hp ⊢; exact ⟨p.1, hp⟩)
  obtain ⟨cells, h1, h2, h2', h3⟩ := rows_fill (S0 := g.S0) (φ := φ) (w := w) hτe (parts.toList.map fun p => (p.1, ev E p.2)) (parts.toList.map fun p => (p.1, a.eval p.2)) 0 rows [] zv.cells.toList
    (by simp [List.map_map, Function.comp_def]) (by simp only [List.map_map]; exact RVs.map _ _ _ fun p hp => hev p hp) hrows (by simp) (by rw [hzs, ← hn]; simp)
  simp only [List.nil_append] at h1
  refine out_val hs (vv := .agg cells.toArray) ?_ ?_
  · have hrun : (Instr.build T (parts.map fun (i, x) => (i, a.eval x))).run g.P w = .ok (.agg cells.toArray) w := by
      have hzc : zv.cells = zv.cells.toList.toArray := by simp
      simp only [Instr.build, Sem.run_bind, hz1, Result.andThen_ok, underlying, run_program, hsh, Sem.run_pure, run_sizeOf hτe, hpm]
      rw [hzc, h1]
      simp
    simp only [execOp, Sem.run_bind, hrun, Result.andThen_ok, Sem.run_pure]
  · simp only [RV]
    refine ⟨cells, rfl, ?_⟩
    have hfl : ∀ (rs : List (List D)) (cs : List Value), cs.length = rs.length * τ.size → (∀ (i : Nat) (r : List D), rs[i]? = some r → r.length = τ.size ∧ ∀ (j : Nat) (x : D), r[j]? = some x → ∃ v, cs[i * τ.size + j]? = some v ∧ Rd (SS g.S0 φ) w x v) → RVs (SS g.S0 φ) w φ (rs.flatten.map AV.d) cs := by
      intro rs
      induction rs with
      | nil => intro cs hc _; have : cs = [] := List.length_eq_zero_iff.1 (by simpa using hc); subst this; simp [RVs]
      | cons r rs ih =>
        intro cs hc hg
        obtain ⟨g1, g2⟩ := hg 0 r rfl
        have hlen : τ.size ≤ cs.length := by rw [hc, List.length_cons, Nat.succ_mul]; omega
        rw [List.flatten_cons, List.map_append, ← List.take_append_drop τ.size cs]
        refine RVs.append (RVs.of_get (by simp [g1]; omega) fun j u v hu hv => ?_) (ih _ (by rw [List.length_drop, hc, List.length_cons, Nat.succ_mul]; omega) fun i r' hi => ?_)
        · rw [List.getElem?_map] at hu
          cases hj : r[j]? with
          | none => rw [hj] at hu; cases hu
          | some x =>
            rw [hj] at hu; simp only [Option.map_some, Option.some.injEq] at hu; subst hu
            obtain ⟨v', h4, h5⟩ := g2 j x hj
            have hjl := (List.getElem?_eq_some_iff.1 hj).1
            rw [List.getElem?_take_of_lt (by omega)] at hv
            rw [Nat.zero_mul, Nat.zero_add, hv] at h4; cases h4
            simpa only [RV] using h5
        · obtain ⟨g3, g4⟩ := hg (i + 1) r' (by simpa using hi)
          refine ⟨g3, fun j x hj => ?_⟩
          obtain ⟨v, h4, h5⟩ := g4 j x hj
          refine ⟨v, ?_, h5⟩
          rw [List.getElem?_drop, ← h4]; congr 1; rw [Nat.succ_mul]; omega
    exact hfl rows cells h2 h3
end
end PSL

namespace PSL
open Go Go.RowKit

section
variable {g : G} {pf : Nat → Cls} {ops : Array Oper} {Fin : Exit → Act → World → Prop}

theorem run_makeSlice (hg : GOk g) {w : World} {T e q by_ : Nat} {z : List Value} {zv : Value} {by2 : Nat} {sh : Sh} {n : Int} (hT : g.ty T = some ⟨q, by_, z, .slice e⟩) (he : g.ty e = some ⟨1, by2, [zv], sh⟩) (h0 : 0 ≤ n) (hn : n * by2 ≤ 1000000) (hn2 : n ≤ 1000000) :
    (Instr.makeSlice T (.int .i64 n) (.int .i64 n)).run g.P w = .ok (.slice (some ⟨w.heap.size, 0, none⟩) n.toNat n.toNat) (w.alloc (.cells (List.replicate n.toNat zv).toArray e)) := by
  have hsl := (hg.ty _ _ hT).sh
  simp only [ShFact] at hsl
  have hτ := hg.ty _ _ he
  obtain ⟨inf, z0, hi, hz, hsz, hby, hzz⟩ := hτ.info
  have hw : IntKind.i64.wrap n = n := by
    have e : IntKind.i64.wrap n = if n % 18446744073709551616 ≥ 9223372036854775808 then n % 18446744073709551616 - 18446744073709551616 else n % 18446744073709551616 := by
      simp [IntKind.wrap, IntKind.signed, IntKind.bits]
    rw [e]; split <;> omega
  obtain ⟨zv', hz1, hz2⟩ := run_zeroValue hτ w
  have hby' : inf.bytes = by2 := hby
  have hmul : (inf.bytes : Int) * n ≤ 1000000 := by rw [hby', Int.mul_comm]; exact hn
  have hmul2 : n.toNat * inf.bytes ≤ 1000000 := by
    have h1 : ((n.toNat * inf.bytes : Nat) : Int) = inf.bytes * n := by rw [Int.natCast_mul, Int.mul_comm, Int.toNat_of_nonneg h0]
    omega
  have c1 : ((decide (n < 0) || decide ((inf.bytes : Int) * n > 2 ^ 48)) || decide (n < 0) || decide (n > n)) = false := by
    simp; omega
  have hroom : ¬ n.toNat * inf.bytes > roomBytes := by unfold roomBytes; omega
  simp only [Instr.makeSlice, underlying, Sem.run_bind, run_program, Result.andThen_ok, hsl, Sem.run_pure, asInt, asIntOf, typeInfo, hi, hw]
  rw [Sem.run_ite, if_neg (by rw [c1]; simp)]
  simp only [Sem.run_bind, Sem.run_pure, Result.andThen_ok, askRoom]
  rw [Sem.run_ite, if_neg hroom]
  simp only [Sem.run_bind, Sem.run_pure, Result.andThen_ok, run_sizeOf hτ]
  by_cases hn0 : n.toNat * 1 = 0
  · rw [Sem.run_ite, if_pos hn0]
    have : n.toNat = 0 := by omega
    simp [this, newRow, run_newObj]
    congr 2
    apply Array.toList_inj.1
    simp [Array.toList_range]
  · rw [Sem.run_ite, if_neg hn0]
    have hzc : zv'.cells = #[zv] := by apply Array.toList_inj.1; simpa using hz2
    simp only [Sem.run_bind, hz1, Sem.run_pure, Result.andThen_ok, newRow, run_newObj, hzc]
    have : (Array.map (fun x => (#[zv] : Array Value)[x % (#[zv] : Array Value).size]!) (Array.range (n.toNat * 1))) = (List.replicate n.toNat zv).toArray := by
      apply Array.toList_inj.1
      refine List.ext_getElem (by simp) fun i h1 h2 => ?_
      simp [Nat.mod_one]
    rw [this]
    rfl

/-- A new slice of one-celled elements. -/
theorem R_makeSlice (hg : GOk g) {dst : Option Nat} {T : Nat} {x y : Operand} {ty : Nat} {pos : String} {after : Array Edge} {gd : Option (Nat × Bool)} {rest : List Oper} {k : List It} {E : Env} {objs : List Ob}
    {q by_ e by2 : Nat} {z : List Value} {zv : Value} {sh : Sh} {n : Int} (rows : List (List D))
    (hgd : guardA ops.toList E gd = some true) (hd : dstOk ⟨g.ty, g.N⟩ dst = true) (hx : ev E x = .d (.v (.int .i64 n))) (hy : ev E y = .d (.v (.int .i64 n))) (hT : g.ty T = some ⟨q, by_, z, .slice e⟩) (he : g.ty e = some ⟨1, by2, [zv], sh⟩)
    (h0 : 0 ≤ n) (hn : n * by2 ≤ 1000000) (hn2 : n ≤ 1000000) (hrows : List.replicate n.toNat [D.v zv] = rows)
    (hr : R g pf Fin (.dr ops rest :: k) (putO E dst (.ow (len objs) 0)) (objs ++ [.arr 1 0 rows])) :
    R g pf Fin (.dr ops (⟨dst, .makeSlice T x y, ty, pos, after, gd⟩ :: rest) :: k) E objs := by
  subst hrows
  refine R_op (LocOp.turning hg (.add _ _) hgd hd (by simp) fun φ a w hρ hs => ?_) hr
  simp only [Op.operands] at hρ
  have hxv := hρ x (by simp)
  rw [hx] at hxv
  have hyv := hρ y (by simp)
  rw [hy] at hyv
  simp only [RV] at hxv hyv
  generalize hvx : a.eval x = vx at hxv
  generalize hvy : a.eval y = vy at hyv
  cases hxv; cases hyv
  refine ⟨.value (.slice (some ⟨w.heap.size, 0, none⟩) n.toNat n.toNat), .slice (some ⟨w.heap.size, 0, none⟩) n.toNat n.toNat, w.alloc (.cells (List.replicate n.toNat zv).toArray e), φ ++ [.sli 1 0 (.slice (some ⟨w.heap.size, 0, none⟩) n.toNat n.toNat) (some w.heap.size)], ?_, .inl rfl, ?_, ?_⟩
  · simp [execOp, hvx, hvy, run_makeSlice hg hT he h0 hn hn2]
  · simp only [RV]
    refine ⟨⟨_, _, _, rfl⟩, .sli 1 0 (.slice (some ⟨w.heap.size, 0, none⟩) n.toNat n.toNat) (some w.heap.size), by rw [len_eq, ← hs.len]; simp, fun sz' s' x' ob' he => ?_⟩
    cases he
    exact ⟨Nat.le_refl _, fun _ => rfl⟩
  · refine Stp.new hs (fun b hb => by simp only [Phy.bl] at hb; cases hb; rfl) ?_
    simp only [ObOk]
    refine ⟨trivial, trivial, fun r hr => by rw [List.eq_of_mem_replicate hr]; rfl, .inr ⟨w.heap.size, 0, n.toNat, List.replicate n.toNat zv, e, by simp, rfl, heap_alloc_new _ _, by simp, by unfold maxLen; omega, by simp, fun i r j x hi hj => ?_⟩⟩
    have hil := (List.getElem?_eq_some_iff.1 hi).1
    rw [List.length_replicate] at hil
    rw [List.getElem?_replicate, if_pos hil] at hi
    cases hi
    cases j with
    | zero =>
      simp at hj; subst hj
      exact ⟨zv, by simp [List.getElem?_replicate, hil], .v _⟩
    | succ j => simp at hj
end
end PSL

namespace PSL
open Go Go.RowKit Go.MapKept

mutual
/-- The map i is data from now on. -/
def frzM (i : Nat) (ds : List (Value × D)) : AV → AV
  | .ow j t => bif Nat.beq j i then .any else .ow j t
  | .el j t r o => bif Nat.beq j i then .any else .el j t r o
  | .lo j o => bif Nat.beq j i then .any else .lo j o
  | .mp j => bif Nat.beq j i then .d (.map ds) else .mp j
  | .yl j => bif Nat.beq j i then .any else .yl j
  | .agg l => .agg (frzN i ds l)
  | .tup l => .tup (frzN i ds l)
  | .clo f a c => .clo f (frzN i ds a) (frzN i ds c)
  | .any => .any
  | .tt => .tt
  | .ff => .ff
  | .d x => .d x
  | .fs r => .fs r
def frzN (i : Nat) (ds : List (Value × D)) : List AV → List AV
  | [] => []
  | x :: l => frzM i ds x :: frzN i ds l
end

mutual
theorem frzM_ok {S S' : Nat → Prop} {w : World} {φ φ' : List Phy} {i : Nat} {ds : List (Value × D)} (hk : Keep S w S' w) (hp : ∀ j, j ≠ i → φ'[j]? = φ[j]?) (ho : ∀ v, RV S w φ (.mp i) v → Rd S' w (.map ds) v) :
    ∀ (x : AV) (v : Value), RV S w φ x v → RV S' w φ' (frzM i ds x) v
  | .any, _, _ => by simp [RV, frzM]
  | .tt, _, h => by simpa [RV, frzM] using h
  | .ff, _, h => by simpa [RV, frzM] using h
  | .d x, v, h => by simp only [RV, frzM] at h ⊢; exact h.mono hk
  | .fs rows, v, h => by simp only [RV, frzM] at h ⊢; exact ⟨h.1.mono hk, h.2⟩
  | .agg l, v, h => by
    simp only [RV, frzM] at h ⊢
    obtain ⟨cs, h1, h2⟩ := h
    exact ⟨cs, h1, frzN_ok hk hp ho l cs h2⟩
  | .lo j off, v, h => by
    simp only [frzM]
    cases hj : Nat.beq j i
    · have : j ≠ i := fun e => by subst e; simp at hj
      simp only [RV, cond_false] at h ⊢; rw [hp j this]; exact h
    · simp [RV]
  | .el j t r o, v, h => by
    simp only [frzM]
    cases hj : Nat.beq j i
    · have : j ≠ i := fun e => by subst e; simp at hj
      simp only [RV, cond_false] at h ⊢; rw [hp j this]; exact h
    · simp [RV]
  | .mp j, v, h => by
    simp only [frzM]
    cases hj : Nat.beq j i
    · have : j ≠ i := fun e => by subst e; simp at hj
      simp only [cond_false]
      simp only [RV] at h ⊢; rw [hp j this]; exact h
    · have := natBeq hj; subst this
      simp only [cond_true]
      have := ho v h
      simpa only [RV] using this
  | .yl j, v, h => by
    simp only [frzM]
    cases hj : Nat.beq j i
    · have : j ≠ i := fun e => by subst e; simp at hj
      simp only [RV, cond_false] at h ⊢; rw [hp j this]; exact h
    · simp [RV]
  | .ow j t, v, h => by
    simp only [frzM]
    cases hj : Nat.beq j i
    · have : j ≠ i := fun e => by subst e; simp at hj
      simp only [RV, cond_false] at h ⊢; rw [hp j this]; exact h
    · simp [RV]
  | .tup l, v, h => by
    simp only [RV, frzM] at h ⊢
    obtain ⟨cs, h1, h2⟩ := h
    exact ⟨cs, h1, frzN_ok hk hp ho l cs h2⟩
  | .clo f a c, v, h => by
    simp only [RV, frzM] at h ⊢
    obtain ⟨va, vc, h1, h2, h3⟩ := h
    exact ⟨va, vc, h1, frzN_ok hk hp ho a va h2, frzN_ok hk hp ho c vc h3⟩
theorem frzN_ok {S S' : Nat → Prop} {w : World} {φ φ' : List Phy} {i : Nat} {ds : List (Value × D)} (hk : Keep S w S' w) (hp : ∀ j, j ≠ i → φ'[j]? = φ[j]?) (ho : ∀ v, RV S w φ (.mp i) v → Rd S' w (.map ds) v) :
    ∀ (l : List AV) (vs : List Value), RVs S w φ l vs → RVs S' w φ' (frzN i ds l) vs
  | [], [], _ => by simp [RVs, frzN]
  | [], _ :: _, h => by simp [RVs] at h
  | _ :: _, [], h => by simp [RVs] at h
  | a :: l, v :: vs, h => by
    simp only [RVs, frzN] at h ⊢
    exact ⟨frzM_ok hk hp ho a v h.1, frzN_ok hk hp ho l vs h.2⟩
end

section
variable {g : G} {pf : Nat → Cls} {ops : Array Oper} {Fin : Exit → Act → World → Prop}

/-- A map of the call's own, from now on data. -/
theorem R_freezeM (hu : GUp g) {k : List It} {E : Env} {objs : List Ob} (i : Nat) (ds : List (Value × D)) (hn : g.φ0.length ≤ i) (ho : nth objs i = some (.map (ds.map fun p => (p.1, AV.d p.2)))) (ht : topCode k = true)
    (hr : R g pf Fin k (mapE (frzM i ds) E) (setN (objs.map (mapOb (frzM i ds))) i .dead)) : R g pf Fin k E objs := by
  refine R_ghost ht (fun a w hs => ?_) hr
  obtain ⟨φ, h1, h2, h3, h4, h5, h6⟩ := hs
  rw [nth_eq] at ho
  have hil := (List.getElem?_eq_some_iff.1 ho).1
  have hiφ : i < φ.length := by rw [h1.len]; exact hil
  have hbl0 : ∀ b, bls φ b → g.S0 b := fun b hb => (h2 b hb).elim (hu.up b) (hu.x b)
  have hbl : ∀ b, bls (φ.set i .no) b → bls φ b := fun b hb => by
    rcases bls_set hb with ⟨j, q, _, g1, g2⟩ | g1
    · exact ⟨j, q, g1, g2⟩
    · simp [Phy.bl] at g1
  have hp : ∀ j, j ≠ i → (φ.set i .no)[j]? = φ[j]? := fun j hj => List.getElem?_set_ne (fun e => hj e.symm)
  have hkeep : Keep (SS g.S0 φ) w (SS g.S0 (φ.set i .no)) w := fun b hb _ => ⟨⟨hb.1, fun hc => hb.2 (hbl b hc)⟩, rfl⟩
  have hph : φ[i]? = some φ[i] := List.getElem?_eq_getElem hiφ
  -- the object's block is free of objects from now on
  have hrd : ∀ v, RV (SS g.S0 φ) w φ (.mp i) v → Rd (SS g.S0 (φ.set i .no)) w (.map ds) v := fun v hv => by
    simp only [RV] at hv
    obtain ⟨b, hph, rfl⟩ := hv
    have hk := h1.ok i _ _ hph ho
    simp only [ObOk] at hk
    obtain ⟨ents, clk, hheap, hkeys, hvals⟩ := hk
    have hb : bls φ b := ⟨i, _, hph, rfl⟩
    have hnb : ¬ bls (φ.set i .no) b := fun hc => by
      rcases bls_set hc with ⟨j, q, hj, g1, g2⟩ | g1
      · exact hj (h1.dist _ _ _ _ _ g1 hph g2 rfl)
      · simp [Phy.bl] at g1
    have key : ∀ (j : Nat) (x : Value × D), ds[j]? = some x → ∃ e, ents[j]? = some e ∧ Rd (SS g.S0 φ) w x.2 e.val := fun j x hj => by
      obtain ⟨u, g1, g2⟩ := hvals.get j (x := .d x.2) (by simp [hj])
      rw [List.getElem?_map, Array.getElem?_toList] at g1
      cases he : ents[j]? with
      | none => rw [he] at g1; cases g1
      | some e => rw [he] at g1; simp at g1; subst g1; exact ⟨e, rfl, by simpa only [RV] using g2⟩
    refine Rd.map (fun j => ((ents[j]?).map (·.val)).getD undef) ⟨hbl0 b hb, hnb⟩ hheap (by simpa [List.map_map, Function.comp_def] using hkeys) (fun j x hj => ?_) (fun j x hj => ?_)
    · obtain ⟨e, g1, _⟩ := key j x hj
      simp [g1]
    · obtain ⟨e, g1, g2⟩ := key j x hj
      simp only [g1, Option.map_some, Option.getD_some]; exact g2.mono hkeep
  have hf := frzM_ok (ds := ds) hkeep hp hrd
  refine ⟨φ.set i .no, h1.remap (frzM i ds) (by rw [setN_eq]; simp [h1.len]) (fun j p b hj hb => ?_) (fun j ob' hj => ?_) hf, fun b hb => h2 b (hbl b hb), fun u => ?_, h4, h5.phs hbl, h6.phs (fun j l I B h => ⟨B, by
    by_cases hji : j = i
    · subst hji; rw [List.getElem?_set_self hiφ] at h; cases h
    · rw [hp j hji] at h; exact h⟩) (fun j p hi => by
    obtain ⟨p', h7, h8⟩ := h6.le j p hi
    by_cases hji : j = i
    · subst hji
      have := (List.getElem?_eq_some_iff.1 hi).1
      omega
    · exact ⟨p', by rw [hp j hji]; exact h7, h8⟩)⟩
  · by_cases hji : j = i
    · subst hji; rw [List.getElem?_set_self hiφ] at hj; cases hj; exact hb.elim
    · rw [hp j hji] at hj; exact ⟨p, hj, hb⟩
  · rw [setN_eq] at hj
    by_cases hji : j = i
    · subst hji; rw [List.getElem?_set_self (by simpa using hil)] at hj; cases hj; exact .inl rfl
    · rw [List.getElem?_set_ne (fun e => hji e.symm), List.getElem?_map] at hj
      cases ho : objs[j]? with
      | none => rw [ho] at hj; cases hj
      | some ob => rw [ho] at hj; exact .inr (.inl ⟨ob, rfl, hp j hji, by simpa using hj.symm⟩)
  · rcases lk_mapE (f := frzM i ds) E u with h | h
    · rw [h]; exact hf _ _ (h3 u)
    · rw [h]; simp [RV]

/-- What a map that is data answers. -/
theorem R_lookupD (hg : GOk g) {dst : Option Nat} {T : Nat} {x y : Operand} {ok : Bool} {ty : Nat} {pos : String} {after : Array Edge} {gd : Option (Nat × Bool)} {rest : List Oper} {k : List It} {E : Env} {objs : List Ob}
    {q by_ kt et : Nat} {ds : List (Value × D)} {z : List Value} {kv zv : Value} {kd : TypeDesc} {r : Option (Nat × AV)}
    (hgd : guardA ops.toList E gd = some true) (hd : dstOk ⟨g.ty, g.N⟩ dst = true) (hx : ev E x = .d (.map ds)) (hy : ev E y = .d (.v kv)) (hT : g.ty T = some ⟨q, by_, z, .map kt et⟩)
    (hkt : g.P.underlying kt = some kd) (hkey : IsKey kd kv) (hf : findA kd kv (ds.map fun p => (p.1, AV.d p.2)) 0 = some r) (hz : (g.P.info? et).bind (·.zero) = some zv)
    (hr : R g pf Fin (.dr ops rest :: k) (putO E dst (lookA ok (cstV zv) r)) objs) : R g pf Fin (.dr ops (⟨dst, .lookup T x y ok, ty, pos, after, gd⟩ :: rest) :: k) E objs := by
  refine R_op (LocOp.quiet hg hgd hd (by simp) fun φ objs₁ a w hρ hs => ?_) hr
  simp only [Op.operands] at hρ
  have hxv := hρ x (by simp)
  rw [hx] at hxv
  have hyv := hρ y (by simp)
  rw [hy] at hyv
  simp only [RV] at hxv hyv
  generalize hvy : a.eval y = vy at hyv
  cases hyv
  generalize hxe : a.eval x = vx at hxv
  obtain ⟨b, ents, clk, rfl, hheap, hents⟩ : ∃ (b : Nat) (ents : Array MapEntry) (clk : Nat), vx = .map (some b) ∧ w.heap[b]? = some (.map ents clk) ∧ EntsOk (SS g.S0 φ) w φ (ds.map fun p => (p.1, AV.d p.2)) ents.toList := by
    cases hxv with
    | map g' hS hb hk hg' hr' =>
      refine ⟨_, _, _, rfl, hb, by simpa [List.map_map, Function.comp_def] using hk, ?_⟩
      have hlen := congrArg List.length hk
      simp only [List.length_map, Array.length_toList] at hlen
      refine RVs.of_get (by simpa using hlen) fun j u v hu hv => ?_
      rw [List.getElem?_map, List.getElem?_map] at hu
      cases hj : ds[j]? with
      | none => rw [hj] at hu; cases hu
      | some x =>
        rw [hj] at hu; simp at hu; subst hu
        rw [List.getElem?_map, Array.getElem?_toList, hg' j x hj] at hv
        cases hv
        simpa only [RV] using hr' j x hj
  have hT' : g.P.underlying T = some (.map kt et) := by have := (hg.ty _ _ hT).sh; simpa only [ShFact] using this
  have hzero : (zeroValue et).run g.P w = .ok zv w := by
    obtain ⟨inf, h1, h2⟩ := Option.bind_eq_some_iff.1 hz
    simp [zeroValue, typeInfo, h1, h2]
  have hzR : RV (SS g.S0 φ) w φ (cstV zv) zv := rv_restr (l := []) (E := []) (E₁ := []) (a := { tmps := #[], defers := [] }) (by simp) (fun t => by simp [lk, RV]) (.const zv)
  have hfind := findA_ok hents hf
  cases r with
  | none =>
    simp only at hfind
    refine out_val hs (vv := if ok then .tuple #[zv, .bool false] else zv) ?_ ?_
    · simp [execOp, Instr.lookup, run_underlying hT', hxe, run_getObj_map hheap, hvy, run_checkKey hkt hkey, run_findKey hkt hfind, hzero]
    · simp only [lookA]
      cases ok
      · simpa using hzR
      · simp only [if_true, RV]
        exact ⟨[zv, .bool false], rfl, by simp only [RVs, RV, bV, and_true]; exact ⟨hzR, .v _⟩⟩
  | some p =>
    obtain ⟨j, v⟩ := p
    obtain ⟨vv, h1, h2, _⟩ := hfind
    refine out_val hs (vv := if ok then .tuple #[vv, .bool true] else vv) ?_ ?_
    · simp [execOp, Instr.lookup, run_underlying hT', hxe, run_getObj_map hheap, hvy, run_checkKey hkt hkey, run_findKey hkt h1]
    · simp only [lookA]
      cases ok
      · simpa using h2
      · simp only [if_true, RV]
        exact ⟨[vv, .bool true], rfl, by simp only [RVs, RV, bV, and_true]; exact ⟨h2, .v _⟩⟩
end
end PSL

namespace PSL
open Go Go.RowKit Go.MapKept
def dOf : AV → D
  | .d x => x
  | _ => .v undef
/-- A map of numbers, as data. -/
def dmI (l : List (Int × AV)) : List (Value × D) := (imap l).map fun p => (p.1, dOf p.2)
theorem dmI_map {l : List (Int × AV)} (h : ∀ p ∈ l, ∃ n, p.2 = iV n) : ((dmI l).map fun p => (p.1, AV.d p.2)) = imap l := by
  simp only [dmI, imap, List.map_map]
  refine List.map_congr_left fun p hp => ?_
  obtain ⟨n, hn⟩ := h p hp
  simp [hn, dOf, iV]
theorem dmI_len (l : List (Int × AV)) : (dmI l).length = l.length := by simp [dmI, imap]

section
variable {g : G} {pf : Nat → Cls} {ops : Array Oper} {Fin : Exit → Act → World → Prop}

theorem R_lookupDI (hg : GOk g) {dst : Option Nat} {T : Nat} {x y : Operand} {ok : Bool} {ty : Nat} {pos : String} {after : Array Edge} {gd : Option (Nat × Bool)} {rest : List Oper} {k : List It} {E : Env} {objs : List Ob}
    {q by_ q' by' kt et : Nat} {z z' : List Value} {n : Int} {zv : Value} (l : List (Int × AV)) (hl : ∀ p ∈ l, ∃ n, p.2 = iV n)
    (hgd : guardA ops.toList E gd = some true) (hd : dstOk ⟨g.ty, g.N⟩ dst = true) (hx : ev E x = .d (.map (dmI l))) (hy : ev E y = .d (.v (.int .i64 n))) (hT : g.ty T = some ⟨q, by_, z, .map kt et⟩)
    (hkt : g.ty kt = some ⟨q', by', z', .int .i64⟩) (hz : (g.P.info? et).bind (·.zero) = some zv) {v : AV} (hv : lookI' ok (cstV zv) (getI l n) = v)
    (hr : R g pf Fin (.dr ops rest :: k) (putO E dst v) objs) : R g pf Fin (.dr ops (⟨dst, .lookup T x y ok, ty, pos, after, gd⟩ :: rest) :: k) E objs := by
  subst hv
  have hu := (hg.ty _ _ hkt).sh
  simp only [ShFact] at hu
  obtain ⟨r, h1, h2⟩ := findA_getI (k' := .i64) (n := n) (l := l) (i := 0)
  refine R_lookupD hg hgd hd hx hy hT hu (by simp [IsKey]) (by rw [dmI_map hl]; exact h1) hz ?_
  have : lookA ok (cstV zv) r = lookI' ok (cstV zv) (getI l n) := by rw [← h2]; cases r <;> rfl
  rw [this]; exact hr

theorem R_lenM (hg : GOk g) {dst : Option Nat} {T : Nat} {x : Operand} {ty : Nat} {pos : String} {after : Array Edge} {gd : Option (Nat × Bool)} {rest : List Oper} {k : List It} {E : Env} {objs : List Ob}
    {q by_ kt et : Nat} {z : List Value} {ds : List (Value × D)} {n : Int}
    (hgd : guardA ops.toList E gd = some true) (hd : dstOk ⟨g.ty, g.N⟩ dst = true) (hx : ev E x = .d (.map ds)) (hT : g.ty T = some ⟨q, by_, z, .map kt et⟩) (hn : (ds.length : Int) = n)
    (hr : R g pf Fin (.dr ops rest :: k) (putO E dst (iV n)) objs) : R g pf Fin (.dr ops (⟨dst, .call { callee := .builtin .len, args := #[x], argTypes := #[T] }, ty, pos, after, gd⟩ :: rest) :: k) E objs := by
  subst hn
  refine R_op (LocOp.quiet hg hgd hd (by simp) fun φ objs₁ a w hρ hs => ?_) hr
  simp only [Op.operands, Call.operands] at hρ
  have hxv := hρ x (by simp)
  rw [hx] at hxv
  simp only [RV] at hxv
  have hu := (hg.ty _ _ hT).sh
  simp only [ShFact] at hu
  generalize hxe : a.eval x = vx at hxv
  cases hxv with
  | @map _ b clk ents g' hS hb hk hg' hr' =>
    have hlen := congrArg List.length hk
    simp only [List.length_map, Array.length_toList] at hlen
    refine out_val hs (vv := .int .i64 ds.length) ?_ (by simp only [RV, iV]; exact .v _)
    simp [execOp, resolve, invoke, builtin, hxe, Builtin.len_, underlying, hu, run_getObj_map hb, goInt, hlen]
end
end PSL

namespace PSL
open Go Go.RowKit

/-! ### rows of a table: slices of the call's own whose headers are data -/

def hdV (x : Nat × Nat × Nat) (n : Nat) : Value := .slice (some ⟨x.1, x.2.1, none⟩) n x.2.2
def elV (x : Nat × Nat × Nat) (j : Nat) : Value := .pointer (some ⟨x.1, x.2.1 + j, none⟩)

section
variable {g : G} {pf : Nat → Cls} {ops : Array Oper} {Fin : Exit → Act → World → Prop}

theorem R_ghostX {X : Type} {k : List It} {E : Env} {E' : X → Env} {objs : List Ob} {objs' : X → List Ob} (ht : topCode k = true) (h : ∀ a w, Sat g E objs a w → ∃ x, Sat g (E' x) (objs' x) a w) (hr : ∀ x, R g pf Fin k (E' x) (objs' x)) : R g pf Fin k E objs := by
  intro ho
  have hr := fun x => hr x ho
  cases k with
  | nil => exact fun a w hs => let ⟨x, hx⟩ := h a w hs; hr x a w hx
  | cons x k =>
    cases x <;> first
      | exact fun a w hs => let ⟨x, hx⟩ := h a w hs; hr x a w hx
      | (simp [topCode] at ht)

/-- A table without rows. -/
theorem R_matNew {k : List It} {E : Env} {objs : List Ob} (ht : topCode k = true) (hr : R g pf Fin k E (objs ++ [.mat [] []])) : R g pf Fin k E objs := by
  refine R_ghost ht (fun a w hs => ?_) hr
  obtain ⟨φ, h1, h2, h3, h4, h5, h6⟩ := hs
  have hst : Stp g.S0 φ w (φ ++ [.mat []]) (objs ++ [.mat [] []]) w := .add h1 (Nat.le_refl _) (fun _ _ => rfl) (fun b hb => by simp [Phy.bl] at hb) rfl rfl rfl fun _ => by simp [ObOk]
  refine ⟨_, hst.hs, fun b hb => ?_, fun u => (h3 u).mono hst.keep hst.le, h4, h5.stp hst, h6.phs hst.ext (h6.le.trans hst.le)⟩
  rcases hst.own b hb with h | h
  · exact h2 b h
  · left; have := h6.size; omega

theorem adopt_sat {E : Env} {objs : List Ob} {t j i s n0 : Nat} {rws rows : List (List D)} {hs : List (Nat × Nat × Nat)} {row : List D} (hn0 : row.length = n0)
    (h : lk E t = .ow j s) (hj : nth objs j = some (.arr 1 s rws)) (hi : nth objs i = some (.mat hs rows)) (hne : rws ≠ []) (hrow : rws = row.map fun d => [d]) (a : Act) (w : World) (hsat : Sat g E objs a w) :
    ∃ x, Sat g (put E t (.d (.v (hdV x n0)))) (setN (setN objs j .dead) i (.mat (hs ++ [x]) (rows ++ [row]))) a w := by
  subst hn0
  obtain ⟨φ, h1, h2, h3, h4, h5, h6⟩ := hsat
  have hv := h3 t
  rw [h] at hv
  simp only [RV] at hv
  obtain ⟨_, ph, hph, hv⟩ := hv
  have hkj := obj_at h1 hph hj
  rw [nth_eq] at hj hi
  have hjl := (List.getElem?_eq_some_iff.1 hj).1
  have hil := (List.getElem?_eq_some_iff.1 hi).1
  have hji : j ≠ i := fun e => by subst e; rw [hj] at hi; cases hi
  have hphi : φ[i]? = some (φ[i]'(by rw [h1.len]; exact hil)) := List.getElem?_eq_getElem _
  generalize φ[i]'(by rw [h1.len]; exact hil) = pi at hphi
  have hki := h1.ok i pi _ hphi hi
  cases ph <;> try (simp only [ObOk] at hkj; done)
  rename_i sz2 s2 v2 ob2
  cases pi <;> try (simp only [ObOk] at hki; done)
  rename_i bs
  simp only [ObOk] at hkj hki
  obtain ⟨rfl, rfl, hlen, hkj⟩ := hkj
  obtain ⟨hbs, hnd, hrl, hki⟩ := hki
  have hval := (hv _ _ _ _ rfl).2 rfl
  rcases hkj with ⟨a2, _, h0, _⟩ | ⟨b, o, cap, cs, T, hv2, rfl, hheap, hn, hcap, hle, hrd⟩
  · exact absurd h0 hne
  have hrwl : rws.length = row.length := by rw [hrow]; simp
  have hbn : b ∉ bs := fun hb => hji (h1.dist j i _ _ b hph hphi rfl hb)
  have hjφ : j < φ.length := by rw [h1.len]; exact hjl
  have hiφ : i < φ.length := by rw [h1.len]; exact hil
  have e1 : ((φ.set j .no).set i (.mat (bs ++ [b])))[i]? = some (.mat (bs ++ [b])) := List.getElem?_set_self (by simpa using hiφ)
  have e2 : ((φ.set j .no).set i (.mat (bs ++ [b])))[j]? = some .no := by rw [List.getElem?_set_ne (fun e => hji e.symm)]; exact List.getElem?_set_self hjφ
  have e3 : ∀ n, n ≠ i → n ≠ j → ((φ.set j .no).set i (.mat (bs ++ [b])))[n]? = φ[n]? := fun n n1 n2 => by
    rw [List.getElem?_set_ne (fun e => n1 e.symm), List.getElem?_set_ne (fun e => n2 e.symm)]
  obtain ⟨φ', hφ'⟩ : ∃ φ', φ' = (φ.set j .no).set i (.mat (bs ++ [b])) := ⟨_, rfl⟩
  rw [← hφ'] at e1 e2 e3
  have key : ∀ (n : Nat) (p : Phy) (c : Nat), φ'[n]? = some p → p.bl c → n ≠ j ∧ ∃ m q, φ[m]? = some q ∧ q.bl c ∧ (m = n ∨ (n = i ∧ m = j)) := fun n p c hn hc => by
    by_cases n1 : n = i
    · subst n1
      rw [e1] at hn; cases hn
      simp only [Phy.bl, List.mem_append, List.mem_singleton] at hc
      refine ⟨fun e => hji e.symm, ?_⟩
      rcases hc with hc | rfl
      · exact ⟨n, _, hphi, hc, .inl rfl⟩
      · exact ⟨j, _, hph, rfl, .inr ⟨rfl, rfl⟩⟩
    · by_cases n2 : n = j
      · subst n2; rw [e2] at hn; cases hn; simp [Phy.bl] at hc
      · rw [e3 n n1 n2] at hn; exact ⟨n2, n, p, hn, hc, .inl rfl⟩
  have hbl : ∀ c, bls φ' c → bls φ c := by
    rintro c ⟨n, p, g1, g2⟩
    obtain ⟨_, m, q, g3, g4, _⟩ := key n p c g1 g2
    exact ⟨m, q, g3, g4⟩
  have hkeep : Keep (SS g.S0 φ) w (SS g.S0 φ') w := fun c hc _ => ⟨⟨hc.1, fun e => hc.2 (hbl c e)⟩, rfl⟩
  have hle' : PhsLe φ φ' := fun n p hn => by
    by_cases n1 : n = i
    · subst n1; rw [hphi] at hn; cases hn; exact ⟨_, e1, .inr (.inr (.inr (.inr ⟨_, _, rfl, rfl⟩)))⟩
    · by_cases n2 : n = j
      · subst n2; rw [hph] at hn; cases hn; exact ⟨_, e2, .inr (.inr (.inl ⟨_, _, _, _, rfl, rfl⟩))⟩
      · exact ⟨p, by rw [e3 n n1 n2]; exact hn, .inl rfl⟩
  refine ⟨(b, o, cap), φ', ⟨?_, ?_, ?_, fun c hc => h1.lt c (hbl c hc), h1.up⟩, fun c hc => h2 c (hbl c hc), fun u => ?_, h4, h5.phs hbl, h6.phs (fun n l I B hn => ?_) (h6.le.trans hle')⟩
  · rw [hφ', setN_eq, setN_eq]; simp [h1.len]
  · intro n p ob hn ho
    rw [setN_eq, setN_eq] at ho
    by_cases n1 : n = i
    · subst n1
      rw [e1] at hn; cases hn
      rw [List.getElem?_set_self (by simpa using hil)] at ho; cases ho
      simp only [ObOk]
      refine ⟨by rw [hbs]; simp, by rw [List.nodup_append]; exact ⟨hnd, by simp, fun x hx y hy e => hbn (by simp at hy; rw [← hy, ← e]; exact hx)⟩, by simp [hrl], fun m y r hm hr => ?_⟩
      rcases Nat.lt_or_ge m hs.length with hml | hml
      · rw [List.getElem?_append_left hml] at hm
        rw [List.getElem?_append_left (by omega)] at hr
        obtain ⟨cs', T', g1, g2, g3, g4, g5⟩ := hki m y r hm hr
        refine ⟨cs', T', g1, g2, g3, g4, fun j' d hd => ?_⟩
        obtain ⟨y', g6, g7⟩ := g5 j' d hd
        exact ⟨y', g6, g7.mono hkeep⟩
      · rw [List.getElem?_append_right hml] at hm
        rw [List.getElem?_append_right (by omega)] at hr
        have hm0 : m - hs.length = 0 := by
          have := (List.getElem?_eq_some_iff.1 hm).1
          simp at this; omega
        rw [hm0] at hm
        rw [hrl, hm0] at hr
        simp at hm hr; subst hm; subst hr
        refine ⟨cs, T, hheap, by simp only; omega, hcap, ?_, fun j' d hd => ?_⟩
        · simp only; have := Nat.mul_one cap; omega
        · obtain ⟨y, g1, g2⟩ := hrd j' [d] 0 d (by rw [hrow, List.getElem?_map, hd]; rfl) rfl
          exact ⟨y, by simpa using g1, g2.mono hkeep⟩
    · rw [List.getElem?_set_ne (fun e => n1 e.symm)] at ho
      by_cases n2 : n = j
      · subst n2
        rw [e2] at hn; cases hn
        rw [List.getElem?_set_self hjl] at ho; cases ho
        simp [ObOk]
      · rw [List.getElem?_set_ne (fun e => n2 e.symm)] at ho
        rw [e3 n n1 n2] at hn
        exact (h1.ok n p ob hn ho).mono hkeep hle' (Nat.le_refl _) fun _ _ => rfl
  · intro n m p q c hn hm hp hq
    obtain ⟨n1, n', p', g1, g2, g3⟩ := key n p c hn hp
    obtain ⟨m1, m', q', g4, g5, g6⟩ := key m q c hm hq
    have := h1.dist n' m' p' q' c g1 g4 g2 g5
    omega
  · rw [lk_put]
    split
    · rename_i e; subst e
      simp only [RV]
      rw [hval, hv2, hrwl]
      exact .v _
    · exact (h3 u).mono hkeep hle'
  · by_cases n1 : n = i
    · subst n1; rw [e1] at hn; cases hn
    · by_cases n2 : n = j
      · subst n2; rw [e2] at hn; cases hn
      · rw [e3 n n1 n2] at hn; exact ⟨B, hn⟩

/-- A slice of the call's own becomes a row. -/
theorem R_adopt {k : List It} {E : Env} {objs : List Ob} (t j i s n0 : Nat) {rws rows : List (List D)} {hs : List (Nat × Nat × Nat)} (row : List D)
    (h : lk E t = .ow j s) (hj : nth objs j = some (.arr 1 s rws)) (hi : nth objs i = some (.mat hs rows)) (hne : rws ≠ []) (hrow : rws = row.map fun d => [d]) (hn0 : row.length = n0) (ht : topCode k = true)
    (hr : ∀ x, R g pf Fin k (put E t (.d (.v (hdV x n0)))) (setN (setN objs j .dead) i (.mat (hs ++ [x]) (rows ++ [row])))) : R g pf Fin k E objs :=
  R_ghostX ht (fun a w hsat => adopt_sat hn0 h hj hi hne hrow a w hsat) hr

/-- The address of a row's element. -/
theorem R_indexM (hg : GOk g) {dst : Option Nat} {T : Nat} {x i : Operand} {ty : Nat} {pos : String} {after : Array Edge} {gd : Option (Nat × Bool)} {rest : List Oper} {k : List It} {E : Env} {objs : List Ob}
    {y : Nat × Nat × Nat} {len q by_ e : Nat} {z : List Value} {τ : Ty} {n : Int} 
    (hgd : guardA ops.toList E gd = some true) (hd : dstOk ⟨g.ty, g.N⟩ dst = true) (hx : ev E x = .d (.v (hdV y len))) (hi : ev E i = .d (.v (.int .i64 n))) (hT : g.ty T = some ⟨q, by_, z, .slice e⟩) (he : g.ty e = some τ) (hsz : τ.size = 1)
    (h0 : 0 ≤ n) (hlt : n.toNat < len)
    (hr : R g pf Fin (.dr ops rest :: k) (putO E dst (.d (.v (elV y n.toNat)))) objs) : R g pf Fin (.dr ops (⟨dst, .indexAddr T x i, ty, pos, after, gd⟩ :: rest) :: k) E objs := by
  refine R_op (LocOp.quiet hg hgd hd (by simp) fun φ o₁ a w hρ hs => ?_) hr
  simp only [Op.operands] at hρ
  have hxv := hρ x (by simp)
  rw [hx] at hxv
  have hiv := hρ i (by simp)
  rw [hi] at hiv
  simp only [RV] at hxv hiv
  generalize hvi : a.eval i = vi at hiv
  generalize hvx : a.eval x = vx at hxv
  cases hiv; cases hxv
  refine out_val hs (vv := elV y n.toNat) ?_ (by simp only [RV]; exact .v _)
  have hrun : (Instr.indexAt T (a.eval x) (a.eval i)).run g.P w = .ok (elV y n.toNat) w := by
    simp only [Instr.indexAt, hvx, hdV, elV, hvi, asIntOf, underlying, Sem.run_bind, Sem.run_pure, run_program, Result.andThen_ok, und_slice hg hT]
    rw [Sem.run_ite, if_pos ⟨h0, by omega⟩]
    simp only [Sem.run_bind, run_sizeOf (hg.ty _ _ he), Result.andThen_ok, Sem.run_pure, add_none, hsz, Nat.mul_one]
  simp only [execOp, Sem.run_bind, hrun, Result.andThen_ok, Sem.run_pure]

theorem matHS {S0 : Nat → Prop} {φ : List Phy} {objs : List Ob} {w : World} (hs : HS S0 φ objs w) {id : Nat} {hds : List (Nat × Nat × Nat)} {rows : List (List D)} (ho : nth objs id = some (.mat hds rows)) :
    φ[id]? = some (.mat (hds.map (·.1))) ∧ (hds.map (·.1)).Nodup ∧ rows.length = hds.length ∧ ∀ (i : Nat) (x : Nat × Nat × Nat) (r : List D), hds[i]? = some x → rows[i]? = some r →
      ∃ (cs : List Value) (T : Nat), w.heap[x.1]? = some (.cells cs.toArray T (0, 0)) ∧ r.length ≤ x.2.2 ∧ x.2.2 ≤ maxLen ∧ x.2.1 + r.length ≤ cs.length ∧ ∀ (j : Nat) (d : D), r[j]? = some d → ∃ y, cs[x.2.1 + j]? = some y ∧ Rd (SS S0 φ) w d y := by
  rw [nth_eq] at ho
  have hil := (List.getElem?_eq_some_iff.1 ho).1
  have hphi : φ[id]? = some (φ[id]'(by rw [hs.len]; exact hil)) := List.getElem?_eq_getElem _
  generalize φ[id]'(by rw [hs.len]; exact hil) = pi at hphi
  have hki := hs.ok id pi _ hphi ho
  cases pi <;> try (simp only [ObOk] at hki; done)
  simp only [ObOk] at hki
  obtain ⟨hbs, hnd, hrl, hki⟩ := hki
  subst hbs
  exact ⟨hphi, hnd, hrl, hki⟩

/-- A load of a row's element. -/
theorem R_loadM (hg : GOk g) {dst : Option Nat} {T : Nat} {x : Operand} {ty : Nat} {pos : String} {after : Array Edge} {gd : Option (Nat × Bool)} {rest : List Oper} {k : List It} {E : Env} {objs : List Ob}
    (id r : Nat) {j : Nat} {y : Nat × Nat × Nat} {τ : Ty} {hds : List (Nat × Nat × Nat)} {rows : List (List D)} {row : List D} (d : D)
    (hgd : guardA ops.toList E gd = some true) (hd : dstOk ⟨g.ty, g.N⟩ dst = true) (hcl : ldClsAt pf x = .look 0) (hx : ev E x = .d (.v (elV y j))) (ho : nth objs id = some (.mat hds rows)) (hT : g.ty T = some τ) (hsz : τ.size = 1) (hag : τ.agg = false) (hy : hds[r]? = some y) (hrow : rows[r]? = some row) (hp : row[j]? = some d)
    (hr : R g pf Fin (.dr ops rest :: k) (putO E dst (.d d)) objs) : R g pf Fin (.dr ops (⟨dst, .load T x, ty, pos, after, gd⟩ :: rest) :: k) E objs := by
  refine R_op ?_ hr
  simp only [clsOf, hcl]
  refine .of_out hg (guardA_ok hgd) (dstOk_ok hd) (by simp) (fun _ => rfl) (fun _ _ _ => .refl _) fun φ o₁ o₁' a w E₁ hent hv hoo hs => ?_
  rcases hoo with ⟨h, _⟩ | ⟨_, h, _⟩ | ⟨rfl, rfl⟩
  · cases h
  · cases h
  have hρ := rv_ops hent hv
  simp only [Op.operands] at hρ
  have hxv := hρ x (by simp)
  rw [hx] at hxv
  simp only [RV] at hxv
  generalize hvx : a.eval x = vx at hxv
  cases hxv
  obtain ⟨_, _, _, hk⟩ := matHS hs ho
  obtain ⟨cs, T', hheap, h1, h2, h3, h4⟩ := hk r y row hy hrow
  obtain ⟨vv, h5, h6⟩ := h4 j d hp
  have hτ := hg.ty _ _ hT
  have hjl := (List.getElem?_eq_some_iff.1 hp).1
  refine ok_load hs rfl (b := y.1) (off := y.2.1 + j) (vv := vv) (by rw [hvx]; rfl) ?_ (by simp only [RV]; exact h6)
  have h7 := run_loadVar (P := g.P) hτ hheap (y.2.1 + j) (by omega)
  rw [h7]
  have h8 : pack τ ((cs.drop (y.2.1 + j)).take τ.size) = vv := by
    rw [hsz]
    have hl := (List.getElem?_eq_some_iff.1 h5).1
    rw [List.drop_eq_getElem_cons hl, List.take_succ_cons]
    simp only [pack, hag]
    simpa using (List.getElem?_eq_some_iff.1 h5).2
  rw [h8]

/-- A store into a row's element. -/
theorem R_storeM (hg : GOk g) {dst : Option Nat} {T : Nat} {p x : Operand} {ty : Nat} {pos : String} {after : Array Edge} {gd : Option (Nat × Bool)} {rest : List Oper} {k : List It} {E : Env} {objs : List Ob}
    (id r : Nat) {j : Nat} {y : Nat × Nat × Nat} {τ : Ty} {hds : List (Nat × Nat × Nat)} {rows : List (List D)} {row : List D} (d : D)
    (hgd : guardA ops.toList E gd = some true) (hd : dstOk ⟨g.ty, g.N⟩ dst = true) (hx : ev E p = .d (.v (elV y j))) (ho : nth objs id = some (.mat hds rows)) (hT : g.ty T = some τ) (hsz : τ.size = 1) (hy : hds[r]? = some y) (hrow : rows[r]? = some row) (hjl : j < row.length) {l : List AV} (hc : cellsO (ev E x) = some l) (hdd : toDs l = some [d])
    (hr : R g pf Fin (.dr ops rest :: k) (putO E dst .any) (setN objs id (.mat hds (rows.set r (row.set j d))))) (hcl : stClsAt pf p = .eff := by rfl) : R g pf Fin (.dr ops (⟨dst, .store T p x, ty, pos, after, gd⟩ :: rest) :: k) E objs := by
  refine R_op ?_ hr
  simp only [clsOf, hcl]
  refine LocOp.effect hg hgd hd (by simp) fun φ a w hρ hs => ?_
  simp only [Op.operands] at hρ
  have hxv := hρ p (by simp)
  rw [hx] at hxv
  have hyv := hρ x (by simp)
  simp only [RV] at hxv
  generalize hvx : a.eval p = vx at hxv
  cases hxv
  obtain ⟨hph, hnd, hrl, hk⟩ := matHS hs ho
  obtain ⟨cs, T', hheap, h1, h2, h3, h4⟩ := hk r y row hy hrow
  have hτ := hg.ty _ _ hT
  obtain ⟨hc1, hc2⟩ := cellsO_val hyv hc
  have hc1 := toDs_rvs hc1 hdd
  obtain ⟨c, hcl1, hcl2⟩ := hc1.get 0 rfl
  have hc1l := hc1.length
  simp only [List.length_map, List.length_cons, List.length_nil] at hc1l
  obtain ⟨w', hrun, hst⟩ := run_storeVar (P := g.P) hτ (y.2.1 + j) hheap rfl hc2 (by omega) (by omega)
  refine ⟨.skip, undef, w', φ.set id (.mat (hds.map (·.1))), ?_, .inr ⟨rfl, rfl⟩, by simp [RV], ?_⟩
  · simp only [execOp, Instr.storeAt, Instr.sureAddr, hvx, elV, Sem.run_bind, Sem.run_pure, Result.andThen_ok, hrun]
  rw [setN_eq]
  have hrll := (List.getElem?_eq_some_iff.1 hrow).1
  refine Stp.swap hs hph (.inl rfl) (by rw [hst.size]; exact Nat.le_refl _) (fun c _ hc => hst.other c fun e => hc (by rw [e]; simp only [Phy.bl, List.mem_map]; exact ⟨y, List.mem_of_getElem? hy, rfl⟩)) (fun b' hb => .inl hb) hst.os hst.tape hst.out fun hkeep _ => ?_
  simp only [ObOk]
  refine ⟨trivial, hnd, by rw [List.length_set]; exact hrl, fun i x' r' hi hr' => ?_⟩
  by_cases hir : r = i
  · subst hir
    rw [List.getElem?_set_self hrll] at hr'
    cases hr'
    rw [hy] at hi; cases hi
    refine ⟨splice cs (y.2.1 + j) (a.eval x).cells.toList, T', hst.at_, by rw [List.length_set]; exact h1, h2, by rw [List.length_set, splice_length]; exact h3, fun j' d' hd' => ?_⟩
    rw [splice_get _ _ _ (by omega)]
    by_cases hjj : j = j'
    · subst hjj
      rw [List.getElem?_set_self hjl] at hd'
      cases hd'
      refine ⟨c, ?_, ?_⟩
      · rw [if_pos (by omega), Nat.sub_self]; exact hcl1
      · simp only [RV] at hcl2; exact hcl2.mono hkeep
    · rw [List.getElem?_set_ne hjj] at hd'
      obtain ⟨v, h5, h6⟩ := h4 j' d' hd'
      exact ⟨v, by rw [if_neg (by omega)]; exact h5, h6.mono hkeep⟩
  · rw [List.getElem?_set_ne hir] at hr'
    obtain ⟨cs', T2, g1, g2, g3, g4, g5⟩ := hk i x' r' hi hr'
    have hne : x'.1 ≠ y.1 := fun e => hir (by
      have e1 : (hds.map (·.1))[r]? = some y.1 := by rw [List.getElem?_map, hy]; rfl
      have e2 : (hds.map (·.1))[i]? = some x'.1 := by rw [List.getElem?_map, hi]; rfl
      obtain ⟨l1, e1⟩ := List.getElem?_eq_some_iff.1 e1
      obtain ⟨l2, e2⟩ := List.getElem?_eq_some_iff.1 e2
      exact (List.getElem_inj hnd).1 (by rw [e1, e2, e]))
    refine ⟨cs', T2, (hst.other _ hne).trans g1, g2, g3, g4, fun j' d' hd' => ?_⟩
    obtain ⟨v, h5, h6⟩ := g5 j' d' hd'
    exact ⟨v, h5, h6.mono hkeep⟩

/-! ### a table as an argument -/

def rowsD (rows : List (List D)) : D := .sl (rows.map fun r => [.sl (r.map fun d => [d])])
def hdRows (hds : List (Nat × Nat × Nat)) (rows : List (List D)) : List (List D) := (hds.zip rows).map fun p => [.v (hdV p.1 p.2.length)]

def sealM (i s : Nat) (x : D) : AV → AV
  | .ow j t => bif Nat.beq j i then (bif Nat.beq t s then .d x else .any) else .any
  | x => bif pureA x then x else .any

theorem mat_rd {φ : List Phy} {objs : List Ob} {w : World} {S0 : Nat → Prop} (hbl : ∀ b, bls φ b → S0 b) (hs : HS S0 φ objs w) {i s im : Nat} {hds : List (Nat × Nat × Nat)} {rows : List (List D)} (ho : nth objs i = some (.arr 1 s (hdRows hds rows))) (hm : nth objs im = some (.mat hds rows))
    {v : Value} (hv : RV (SS S0 φ) w φ (.ow i s) v) : Rd S0 w (rowsD rows) v := by
  obtain ⟨hphm, hnd, hrl, hk⟩ := matHS hs hm
  have hkeep : Keep (SS S0 φ) w S0 w := fun b hb _ => ⟨hb.1, rfl⟩
  simp only [RV] at hv
  obtain ⟨⟨p0, n0, c0, hv0⟩, ph, hph, hx⟩ := hv
  have hko := obj_at hs hph ho
  cases ph <;> try (simp only [ObOk] at hko; done)
  simp only [ObOk] at hko
  obtain ⟨rfl, rfl, hlen, hko⟩ := hko
  have hx := (hx _ _ _ _ rfl).2 rfl
  have hll : (hdRows hds rows).length = rows.length := by simp [hdRows, hrl]
  rcases hko with ⟨a2, h1, h2, _⟩ | ⟨b, o, cap, cs, T, h1, h2, h3, h4, h5, h6, h7⟩
  · have : rows = [] := List.length_eq_zero_iff.1 (by rw [← hll, h2]; rfl)
    rw [hx, h1, this]
    exact .nil _ _
  · rw [hx, h1, hll]
    have hel : ∀ (n : Nat) (r : List D), rows[n]? = some r → ∃ y, hds[n]? = some y ∧ (hdRows hds rows)[n]? = some [.v (hdV y r.length)] := fun n r hn => by
      have hl := (List.getElem?_eq_some_iff.1 hn).1
      have hy : hds[n]? = some (hds[n]'(by omega)) := List.getElem?_eq_getElem _
      refine ⟨_, hy, ?_⟩
      rw [hdRows, List.getElem?_map, (List.getElem?_zip_eq_some (z := (hds[n]'(by omega), r))).2 ⟨hy, hn⟩]; rfl
    have hcl : (rows.map fun r => [D.sl (r.map fun d => [d])]).length = rows.length := by simp
    rw [rowsD, ← hcl]
    refine .sl (sz := 1) (fun n _ => (cs[o + n]?).getD undef) (hbl b ⟨i, _, hph, by simpa [Phy.bl] using h2⟩) h3 (by rw [hcl, ← hll]; exact h4) h5 (fun n r hn => ?_) (fun n r j x hn hj => ?_) (fun n r j x hn hj => ?_)
    · rw [List.getElem?_map] at hn
      cases hr : rows[n]? with
      | none => rw [hr] at hn; cases hn
      | some r0 => rw [hr] at hn; cases hn; rfl
    · rw [List.getElem?_map] at hn
      cases hr : rows[n]? with
      | none => rw [hr] at hn; cases hn
      | some r0 =>
        rw [hr] at hn; cases hn
        obtain ⟨y, h8, h9⟩ := hel n r0 hr
        cases j with
        | succ j => simp at hj
        | zero =>
          obtain ⟨c, h10, h11⟩ := h7 n _ 0 _ h9 rfl
          simp only [Nat.mul_one, Nat.add_zero] at h10 ⊢
          simp only [List.getElem?_toArray, h10, Option.getD_some]
    · rw [List.getElem?_map] at hn
      cases hr : rows[n]? with
      | none => rw [hr] at hn; cases hn
      | some r0 =>
        rw [hr] at hn; cases hn
        obtain ⟨y, h8, h9⟩ := hel n r0 hr
        cases j with
        | succ j => simp at hj
        | zero =>
          simp at hj; subst hj
          obtain ⟨c, h10, h11⟩ := h7 n _ 0 _ h9 rfl
          simp only [Nat.mul_one, Nat.add_zero] at h10
          rw [h10]
          simp only [Option.getD_some]
          cases h11
          obtain ⟨cs', T', g1, g2, g3, g4, g5⟩ := hk n y r0 h8 hr
          have hl2 : (r0.map fun d => [d]).length = r0.length := by simp
          rw [hdV, ← hl2]
          refine .sl (sz := 1) (fun n _ => (cs'[y.2.1 + n]?).getD undef) (hbl y.1 ⟨im, _, hphm, by simp only [Phy.bl, List.mem_map]; exact ⟨y, List.mem_of_getElem? h8, rfl⟩⟩) g1 (by rw [hl2]; exact g2) g3 (fun m r hm => ?_) (fun m r j x hm hj => ?_) (fun m r j x hm hj => ?_)
          · rw [List.getElem?_map] at hm
            cases hd : r0[m]? with
            | none => rw [hd] at hm; cases hm
            | some d0 => rw [hd] at hm; cases hm; rfl
          · rw [List.getElem?_map] at hm
            cases hd : r0[m]? with
            | none => rw [hd] at hm; cases hm
            | some d0 =>
              rw [hd] at hm; cases hm
              cases j with
              | succ j => simp at hj
              | zero =>
                obtain ⟨c', g6, _⟩ := g5 m d0 hd
                simp only [Nat.mul_one, Nat.add_zero, List.getElem?_toArray, g6, Option.getD_some]
          · rw [List.getElem?_map] at hm
            cases hd : r0[m]? with
            | none => rw [hd] at hm; cases hm
            | some d0 =>
              rw [hd] at hm; cases hm
              cases j with
              | succ j => simp at hj
              | zero =>
                simp at hj; subst hj
                obtain ⟨c', g6, g7⟩ := g5 m d0 hd
                simp only [g6, Option.getD_some]
                exact g7.mono hkeep

theorem sealM_ok {φ : List Phy} {objs : List Ob} {w : World} {S0 : Nat → Prop} (hbl : ∀ b, bls φ b → S0 b) (hs : HS S0 φ objs w) {i s im : Nat} {hds : List (Nat × Nat × Nat)} {rows : List (List D)} (ho : nth objs i = some (.arr 1 s (hdRows hds rows))) (hm : nth objs im = some (.mat hds rows))
    (x : AV) (v : Value) (hv : RV (SS S0 φ) w φ x v) : RV S0 w [] (sealM i s (rowsD rows) x) v := by
  have hkeep : Keep (SS S0 φ) w S0 w := fun b hb _ => ⟨hb.1, rfl⟩
  have key : ∀ x, RV (SS S0 φ) w φ x v → RV S0 w [] (bif pureA x then x else .any) v := fun x hv => by
    cases hp : pureA x
    · simp [RV]
    · exact RV.pure hkeep hp hv
  cases x with
  | ow j t =>
    simp only [sealM]
    cases h1 : Nat.beq j i
    · simp [RV]
    · cases h2 : Nat.beq t s
      · simp [RV]
      · have := natBeq h1; subst this
        have := natBeq h2; subst this
        simp only [cond_true, RV]
        exact mat_rd hbl hs ho hm hv
  | _ => exact key _ hv

/-- A call of a function of pure data that is handed a table of the call's own. -/
theorem R_callM (hg : GOk g) (hu : GUp g) {f : Nat} {as : List AV} {r : AV} (hc : PCtr g.P f as r) {dst : Option Nat} {x : Operand} {args : Array Operand} {ts : Array Nat} {ty : Nat} {pos : String} {after : Array Edge} {gd : Option (Nat × Bool)}
    {rest : List Oper} {k : List It} {E : Env} {objs : List Ob} {fs cs : List AV} (i s im : Nat) {hds : List (Nat × Nat × Nat)} {rows : List (List D)}
    (hgd : guardA ops.toList E gd = some true) (hd : dstOk ⟨g.ty, g.N⟩ dst = true) (hcl : isStill (clsOf pf (.call { callee := .value x, args := args, argTypes := ts })) = false) (hx : ev E x = .clo f fs cs) (ho : nth objs i = some (.arr 1 s (hdRows hds rows))) (hm : nth objs im = some (.mat hds rows))
    (has : ((fs ++ args.toList.map (ev E) ++ cs).map (sealM i s (rowsD rows))).map nrm = as) (hpr : scalA r = true)
    (hr : R g pf Fin (.dr ops rest :: k) (putO E dst r) objs) :
    R g pf Fin (.dr ops (⟨dst, .call { callee := .value x, args := args, argTypes := ts }, ty, pos, after, gd⟩ :: rest) :: k) E objs := by
  refine R_op (LocOp.seen hcl ?_) hr
  refine ⟨fun _ => rfl, fun _ _ _ => .refl _, fun E₁ o₁ o₁' a w he ho' hs Q => ?_⟩
  rcases ho' with ⟨h, _⟩ | ⟨_, h, _⟩ | ⟨ho1, ho2⟩
  · cases h
  · cases h
  subst ho1; subst ho2
  obtain ⟨φ, h1, h2, h3, h4, h5, h6⟩ := hs
  rw [wanted_of (guardA_ok hgd) he h3]
  simp only [if_true]
  refine ⟨about_ok hg _ w a, ?_⟩
  have hρ := rv_ops (o := ⟨dst, .call { callee := .value x, args := args, argTypes := ts }, ty, pos, after, gd⟩) he h3
  simp only [Op.operands, Call.operands] at hρ
  have hxv := hρ x (by simp)
  rw [hx] at hxv
  simp only [RV] at hxv
  obtain ⟨va, vc, hxv, hfs, hcs⟩ := hxv
  have hargs : RVs (SS g.S0 φ) w φ (args.toList.map (ev E)) (args.toList.map a.eval) := RVs.map _ _ _ fun y hy => hρ y (by simp [hy])
  have hbl : ∀ b, bls φ b → g.S0 b := fun b hb => (h2 b hb).elim (hu.up b) (hu.x b)
  have hall := RVs.map' (S' := g.S0) (w' := w) (φ' := []) (sealM i s (rowsD rows)) (fun x v h => sealM_ok hbl h1 ho hm x v h) ((hfs.append hargs).append hcs)
  have hall := hall.mapEnt nrm Ent.nrm
  rw [has] at hall
  rw [Oper.semAt_eq _ _ _ (by simp), run_callv rfl hxv hc.call]
  refine ⟨fun h => by rw [hg.depth] at h; simp at h, ?_⟩
  have hcall := hc.run g.S0 w _ h1.up hall
  refine (callsIn_free hg hcall).mono ?_
  rintro e w' ⟨v, rfl, hv, hb⟩
  have hst : Stp g.S0 φ w φ _ w' := ⟨h1.later hb.size (fun b hb' => hb.block b hb'), .of fun b hb' hl => ⟨hb', hb.block b hl⟩, .refl _, hb.size, hb.os, hb.tape, hb.output, fun b hb' _ => hb.block b hb', fun _ h => .inl h, fun _ _ _ B h => ⟨B, h⟩⟩
  exact Sat.stp h2 h3 h4 h5 h6 hst (dstOk_ok hd) fun _ => hv.scal hpr

/-! ### a region that is gone through in two parts -/

theorem wp_ops2 {K : Env → List Ob → Prop} {Q : Exit → Act → World → Prop} {more : List Nat} (hQ : ∀ E objs a w, K E objs → Sat g E objs a w → wpOpsIn g.F g.dep g.P ops Q more a w) :
    ∀ (l : List Oper) (k : Nat) (E : Env) (objs : List Ob) (a : Act) (w : World), (∀ j, j < l.length → l[j]? = ops[k + j]?) → Dr g pf ops l E objs K → Sat g E objs a w →
      wpOpsIn g.F g.dep g.P ops Q (List.range' k l.length ++ more) a w
  | [], k, E, objs, a, w, _, hd, hs => by simpa using hQ E objs a w hd hs
  | o :: l, k, E, objs, a, w, hl, hd, hs => by
    obtain ⟨v, objs', h1, h2⟩ := hd
    have h0 : ops[k]? = some o := by simpa using (hl 0 (by simp)).symm
    have hstep := h1.step E objs objs' a w (fun t _ => .refl _) (.inr (.inr ⟨rfl, rfl⟩)) hs Q
    rw [List.length_cons, List.range'_succ, List.cons_append, wpOpsIn_cons]
    refine wpOpIn_mono (K := fun a' w' => Sat g (putO E o.dst v) objs' a' w') (fun a' w' hs' => ?_) (by unfold wpOpIn; rw [h0]; exact hstep)
    exact wp_ops2 hQ l (k + 1) _ objs' a' w' (fun j hj => by have := hl (j + 1) (by simpa using hj); simpa [Nat.add_assoc, Nat.add_comm 1 j] using this) h2 hs'

theorem R_halves {id : Nat} {k : List It} {E : Env} {objs : List Ob} (n : Nat)
    (h : R g pf Fin (.dr ops (ops.toList.take n) :: .mark (fun E1 objs1 => R g pf Fin (.dr ops (ops.toList.drop n) :: k) E1 objs1) :: k) E objs) : R g pf Fin (.code (.region id ops false) :: k) E objs := by
  rintro ⟨ho1, ho⟩
  have h := h ho
  simp only at h
  intro a w hs
  simp only [KP]
  refine wpIn_region ?_
  have hsplit : List.range ops.size = List.range' 0 (ops.toList.take n).length ++ List.range' (ops.toList.take n).length (ops.toList.drop n).length := by
    rw [List.range_eq_range']
    have e : ops.size = (ops.toList.take n).length + (ops.toList.drop n).length := by
      rw [← List.length_append, List.take_append_drop]; simp
    rw [e, ← List.range'_append]; simp
  rw [hsplit]
  refine wp_ops2 (pf := pf) (K := fun E' objs' => RK g Fin (.mark (fun E1 objs1 => R g pf Fin (.dr ops (ops.toList.drop n) :: k) E1 objs1) :: k) E' objs') (fun E1 objs1 a1 w1 hk hs1 => ?_) _ 0 E objs a w (fun j hj => ?_) h hs
  · have hk := hk a1 w1 hs1
    simp only [KP] at hk
    obtain ⟨E2, objs2, hM, hs2⟩ := hk
    have hM := hM ho
    simp only at hM
    have := wp_ops (Q := KP g Fin k) (fun _ _ a w hr hs => hr a w hs) (ops.toList.drop n) (ops.toList.take n).length E2 objs2 a1 w1 (fun j => ?_) hM hs2
    · exact this
    · rw [List.getElem?_drop, List.length_take]
      rcases Nat.le_total n ops.toList.length with hle | hle
      · rw [Nat.min_eq_left hle]; simp
      · rw [Nat.min_eq_right hle, List.getElem?_eq_none (by omega)]
        symm; exact Array.getElem?_eq_none (by simp)
  · rw [Nat.zero_add, List.getElem?_take_of_lt (by simp at hj; omega)]; simp
end
end PSL

namespace PSL
open Go Go.RowKit

section
variable {g : G} {pf : Nat → Cls} {ops : Array Oper} {Fin : Exit → Act → World → Prop}

/-- A step whose outcome is shown by hand. -/
theorem R_step (hg : GOk g) {o : Oper} {rest : List Oper} {k : List It} {E : Env} {objs objs' : List Ob} {v : AV} (hhe : held (isL4 pf) o.op = false) (hgd : guardA ops.toList E o.guard = some true) (hd : dstOk ⟨g.ty, g.N⟩ o.dst = true)
    (h : stepOp g.ty (ev E) objs o.op = some (v, objs')) (hr : R g pf Fin (.dr ops rest :: k) (putO E o.dst v) objs') : R g pf Fin (.dr ops (o :: rest) :: k) E objs :=
  R_op (.step' hg hhe (guardA_ok hgd) (dstOk_ok hd) h) hr

theorem stepOp_load {ty : Nat → Option Ty} {ρ : Operand → AV} {objs : List Ob} {T : Nat} {a : Operand} {τ : Ty} {i off : Nat} {l : List AV} {v : AV} (hT : ty T = some τ) (ha : ρ a = .lo i off) (ho : nth objs i = some (.box l)) (hp : packA τ l off = some v) :
    stepOp ty ρ objs (.load T a) = some (v, objs) := by simp [stepOp, stepS, stepL, hT, ha, ho, hp]
theorem stepOp_store {ty : Nat → Option Ty} {ρ : Operand → AV} {objs objs' : List Ob} {T : Nat} {a x : Operand} {τ : Ty} {i off : Nat} {l new : List AV} (hT : ty T = some τ) (ha : ρ a = .lo i off) (ho : nth objs i = some (.box l)) (hx : cellsO (ρ x) = some new) (hn : new.length = τ.size) (hf : off + τ.size ≤ l.length)
    (he : setN objs i (.box (spliceA l off new)) = objs') : stepOp ty ρ objs (.store T a x) = some (.any, objs') := by
  subst he
  have h1 : Nat.beq (len new) τ.size = true := by rw [len_eq, hn]; exact Nat.beq_refl _
  have h2 : Nat.ble (off + τ.size) (len l) = true := by rw [len_eq]; exact Nat.ble_eq_true_of_le hf
  simp [stepOp, stepS, stepL, stepE, hT, ha, ho, hx, h1, h2]

/-- A load from a box, at a place that is no numeral. -/
theorem R_loadA (hg : GOk g) {dst : Option Nat} {T : Nat} {x : Operand} {ty : Nat} {pos : String} {after : Array Edge} {gd : Option (Nat × Bool)} {rest : List Oper} {k : List It} {E : Env} {objs : List Ob}
    {i off : Nat} {l : List AV} {τ : Ty} {v : AV} (hhe : held (isL4 pf) (.load T x) = false) (hgd : guardA ops.toList E gd = some true) (hd : dstOk ⟨g.ty, g.N⟩ dst = true) (ha : ev E x = .lo i off) (ho : nth objs i = some (.box l)) (hT : g.ty T = some τ) (hp : packA τ l off = some v)
    (hr : R g pf Fin (.dr ops rest :: k) (putO E dst v) objs) : R g pf Fin (.dr ops (⟨dst, .load T x, ty, pos, after, gd⟩ :: rest) :: k) E objs :=
  R_step hg hhe hgd hd (stepOp_load hT ha ho hp) hr

/-- A store into a box, at a place that is no numeral. -/
theorem R_storeA (hg : GOk g) {dst : Option Nat} {T : Nat} {a x : Operand} {ty : Nat} {pos : String} {after : Array Edge} {gd : Option (Nat × Bool)} {rest : List Oper} {k : List It} {E : Env} {objs : List Ob}
    {i off : Nat} {l new : List AV} {τ : Ty} (objs' : List Ob) (hhe : held (isL4 pf) (.store T a x) = false) (hgd : guardA ops.toList E gd = some true) (hd : dstOk ⟨g.ty, g.N⟩ dst = true) (ha : ev E a = .lo i off) (ho : nth objs i = some (.box l)) (hT : g.ty T = some τ) (hx : cellsO (ev E x) = some new) (hn : new.length = τ.size) (hf : off + τ.size ≤ l.length)
    (he : setN objs i (.box (spliceA l off new)) = objs') (hr : R g pf Fin (.dr ops rest :: k) (putO E dst .any) objs') : R g pf Fin (.dr ops (⟨dst, .store T a x, ty, pos, after, gd⟩ :: rest) :: k) E objs :=
  R_step hg hhe hgd hd (stepOp_store hT ha ho hx hn hf he) hr

/-- A call of a function of pure data, its arguments as they are. -/
theorem R_callV (hg : GOk g) (hu : GUp g) {f : Nat} {as : List AV} {r : AV} (hc : PCtr g.P f as r) {dst : Option Nat} {x : Operand} {args : Array Operand} {ts : Array Nat} {ty : Nat} {pos : String} {after : Array Edge} {gd : Option (Nat × Bool)}
    {rest : List Oper} {k : List It} {E : Env} {objs : List Ob} {fs cs : List AV}
    (hgd : guardA ops.toList E gd = some true) (hd : dstOk ⟨g.ty, g.N⟩ dst = true) (hx : ev E x = .clo f fs cs) (has : fs ++ args.toList.map (ev E) ++ cs = as) (hpa : pureL as = true) (hpr : pureA r = true)
    (hr : R g pf Fin (.dr ops rest :: k) (putO E dst r) objs) :
    R g pf Fin (.dr ops (⟨dst, .call { callee := .value x, args := args, argTypes := ts }, ty, pos, after, gd⟩ :: rest) :: k) E objs := by
  refine R_op (LocOp.up (c := clsOf pf (.call { callee := .value x, args := args, argTypes := ts })) ?_) hr
  refine ⟨fun _ => rfl, fun _ _ _ => .refl _, fun E₁ o₁ o₁' a w he ho' hs Q => ?_⟩
  have e : o₁' = o₁ := by
    rcases ho' with ⟨_, h⟩ | ⟨_, _, _, h⟩ | ⟨h, h'⟩
    · exact h
    · exact h
    · rw [h, h']
  subst e
  obtain ⟨φ, h1, h2, h3, h4, h5, h6⟩ := hs
  rw [wanted_of (guardA_ok hgd) he h3]
  simp only [if_true]
  refine ⟨about_ok hg _ w a, ?_⟩
  have hρ := rv_ops (o := ⟨dst, .call { callee := .value x, args := args, argTypes := ts }, ty, pos, after, gd⟩) he h3
  simp only [Op.operands, Call.operands] at hρ
  have hxv := hρ x (by simp)
  rw [hx] at hxv
  simp only [RV] at hxv
  obtain ⟨va, vc, hxv, hfs, hcs⟩ := hxv
  have hargs : RVs (SS g.S0 φ) w φ (args.toList.map (ev E)) (args.toList.map a.eval) := RVs.map _ _ _ fun y hy => hρ y (by simp [hy])
  have hall := (hfs.append hargs).append hcs
  rw [has] at hall
  have hall : RVs (SS g.S0 φ) w [] as _ := RVs.pure (fun b hb _ => ⟨hb, rfl⟩) hpa hall
  rw [Oper.semAt_eq _ _ _ (by simp), run_callv rfl hxv hc.call]
  refine ⟨fun h => by rw [hg.depth] at h; simp at h, ?_⟩
  have hcall := hc.run (SS g.S0 φ) w _ (fun b hb => ⟨h1.up b hb, fun hc => by have := h1.lt b hc; omega⟩) hall
  refine (callsIn_free hg hcall).mono ?_
  rintro e w' ⟨v, rfl, hv, hb⟩
  have hst : Stp g.S0 φ w φ _ w' := ⟨h1.later hb.size (fun b hb' => hb.block b hb'), .of fun b hb' hl => ⟨hb', hb.block b hl⟩, .refl _, hb.size, hb.os, hb.tape, hb.output, fun b hb' _ => hb.block b hb', fun _ h => .inl h, fun _ _ _ B h => ⟨B, h⟩⟩
  exact Sat.stp h2 h3 h4 h5 h6 hst (dstOk_ok hd) fun _ => RV.pure (.of fun b hb _ => ⟨hb, rfl⟩) hpr hv
end

/-- A handed slice that is nil. -/
theorem SCtr.nil {P : Program} {Y : YP} {f sz s : Nat} {as : List AV} {rows : List (List D)} (h : SCtr P Y f (.ow 0 0 :: as) [.arr sz 0 []] (.ow 0 s) [.arr sz s rows]) (hp : pureL as = true) : PCtr P f (.d (.v (.slice none 0 0)) :: as) (.d (.sl rows)) := by
  refine ⟨h.call, fun S w vals hS hv => ?_⟩
  cases vals with
  | nil => simp [RVs] at hv
  | cons v vs =>
    simp only [RVs, RV] at hv
    obtain ⟨hv1, hv2⟩ := hv
    cases hv1
    have hnb : ∀ b, ¬ bls [Phy.sli sz 0 (.slice none 0 0) none] b := by
      rintro b ⟨i, p, h1, h2⟩
      cases i with
      | zero => simp at h1; subst h1; simp [Phy.bl] at h2
      | succ i => simp at h1
    have hHS : HS S [Phy.sli sz 0 (.slice none 0 0) none] [.arr sz 0 []] w := by
      refine ⟨rfl, fun i ph ob h1 h2 => ?_, fun i j p q b h1 h2 h3 h4 => absurd ⟨i, p, h1, h3⟩ (hnb b), fun b hb => absurd hb (hnb b), hS⟩
      cases i with
      | zero => simp at h1 h2; subst h1; subst h2; simp only [ObOk]; exact ⟨trivial, trivial, by simp, .inl ⟨none, rfl, trivial, trivial⟩⟩
      | succ i => simp at h1
    have hk : Keep S w (SS S [Phy.sli sz 0 (.slice none 0 0) none]) w := fun b hb _ => ⟨⟨hb, hnb b⟩, rfl⟩
    have hcall := h.run S _ w (.slice none 0 0 :: vs) hHS (fun b hb => absurd hb (hnb b)) (fun i l I B hi => by
      cases i with
      | zero => simp at hi
      | succ i => simp at hi) (by
        simp only [RVs, RV]
        refine ⟨⟨⟨none, 0, 0, rfl⟩, _, rfl, fun sz' s' x' ob' he => ?_⟩, RVs.pure hk hp hv2⟩
        cases he; exact ⟨Nat.le_refl _, fun _ => rfl⟩)
    refine hcall.mono ?_
    rintro e w' ⟨v, φ', rfl, hr, hst⟩
    have hbl : ∀ b, bls φ' b → S b := fun b hb => (hst.own b hb).elim (fun h => absurd h (hnb b)) (hS b)
    refine ⟨v, rfl, ?_, ⟨hst.os, hst.tape, hst.out, hst.size, fun b hb => hst.fr b hb (hnb b)⟩⟩
    exact sealA_ok hbl hst.hs 5 hr (by simp [sealA, nth])
end PSL

namespace PSL
open Go Go.RowKit

section
variable {g : G} {pf : Nat → Cls} {ops : Array Oper} {Fin : Exit → Act → World → Prop}

/-- One string behind the other. -/
theorem R_concat (hg : GOk g) {dst : Option Nat} {T T' : Nat} {x y : Operand} {ty : Nat} {pos : String} {after : Array Edge} {gd : Option (Nat × Bool)} {rest : List Oper} {k : List It} {E : Env} {objs : List Ob}
    {a b : ByteArray} (c : ByteArray)
    (hgd : guardA ops.toList E gd = some true) (hd : dstOk ⟨g.ty, g.N⟩ dst = true) (hx : ev E x = .d (.v (.string a))) (hy : ev E y = .d (.v (.string b))) (hs : a.size + b.size ≤ 1000000000) (hc : a ++ b = c)
    (hr : R g pf Fin (.dr ops rest :: k) (putO E dst (.d (.v (.string c)))) objs) : R g pf Fin (.dr ops (⟨dst, .binOp .add T x y T', ty, pos, after, gd⟩ :: rest) :: k) E objs := by
  subst hc
  refine R_op (LocOp.up (LocOp.quiet hg hgd hd (by simp) fun φ objs w' w hρ hs' => ?_)) hr
  rename_i ac
  simp only [Op.operands] at hρ
  have hxv := hρ x (by simp)
  rw [hx] at hxv
  have hyv := hρ y (by simp)
  rw [hy] at hyv
  simp only [RV] at hxv hyv
  generalize hvx : w'.eval x = vx at hxv
  generalize hvy : w'.eval y = vy at hyv
  cases hxv; cases hyv
  refine out_val hs' (vv := .string (a ++ b)) ?_ (by simp only [RV]; exact .v _)
  have h1 : ¬ (((a.size + b.size : Nat) : Int) > IntKind.i64.max) := by simp [IntKind.max, IntKind.signed, IntKind.bits]; omega
  have h2 : (binOp .add T (.string a) (.string b)).run g.P w = .ok (.string (a ++ b)) w := by
    simp only [binOp, Op.stringOp]
    rw [if_neg h1]; rfl
  simp only [execOp, Sem.run_bind, hvx, hvy, run_eqGuard (show plainV (.string a) = true from rfl), Result.andThen_ok, h2, Sem.run_pure]

/-- A byte as a string. -/
theorem R_convB (hg : GOk g) {dst : Option Nat} {S D : Nat} {x : Operand} {ty : Nat} {pos : String} {after : Array Edge} {gd : Option (Nat × Bool)} {rest : List Oper} {k : List It} {E : Env} {objs : List Ob}
    {q by_ q' by' : Nat} {z z' : List Value} {kk k2 : IntKind} {n : Int} (c : ByteArray)
    (hgd : guardA ops.toList E gd = some true) (hd : dstOk ⟨g.ty, g.N⟩ dst = true) (hx : ev E x = .d (.v (.int k2 n))) (hS : g.ty S = some ⟨q, by_, z, .int kk⟩) (hD : g.ty D = some ⟨q', by', z', .str⟩) (hc : Utf8.encode n = c)
    (hr : R g pf Fin (.dr ops rest :: k) (putO E dst (.d (.v (.string c)))) objs) : R g pf Fin (.dr ops (⟨dst, .convert S D x, ty, pos, after, gd⟩ :: rest) :: k) E objs := by
  subst hc
  refine R_op (LocOp.up (LocOp.quiet hg hgd hd (by simp) fun φ objs w' w hρ hs' => ?_)) hr
  simp only [Op.operands] at hρ
  have hxv := hρ x (by simp)
  rw [hx] at hxv
  simp only [RV] at hxv
  generalize hvx : w'.eval x = vx at hxv
  cases hxv
  have hu := (hg.ty _ _ hS).sh
  have hv := (hg.ty _ _ hD).sh
  simp only [ShFact] at hu hv
  refine out_val hs' (vv := .string (Utf8.encode n)) ?_ (by simp only [RV]; exact .v _)
  simp [execOp, hvx, convert, run_underlying hu, run_underlying hv, Conv.intToString]

def byRows (l : List UInt8) : List (List D) := l.map fun b => [.v (.int .u8 b.toNat)]

theorem bytes_foldl : ∀ (l : List UInt8) (s : ByteArray), (l.map fun b => (b.toNat : Int)).foldl (fun r n => r.push (UInt8.ofNat n.toNat)) s = ⟨s.data ++ l.toArray⟩
  | [], s => by simp
  | b :: l, s => by
    simp only [List.map_cons, List.foldl_cons]
    rw [bytes_foldl l]
    have : UInt8.ofNat ((b.toNat : Int)).toNat = b := by simp
    rw [this]
    show ByteArray.mk (s.data.push b ++ l.toArray) = _
    congr 1
    apply Array.ext'
    simp

/-- Bytes as a string. -/
theorem R_convD (hg : GOk g) {dst : Option Nat} {S D : Nat} {x : Operand} {ty : Nat} {pos : String} {after : Array Edge} {gd : Option (Nat × Bool)} {rest : List Oper} {k : List It} {E : Env} {objs : List Ob}
    {q by_ q' by' q2 by2 e : Nat} {z z' z2 : List Value} (l : List UInt8)
    (hgd : guardA ops.toList E gd = some true) (hd : dstOk ⟨g.ty, g.N⟩ dst = true) (hx : nrm (ev E x) = .d (.sl (byRows l))) (hS : g.ty S = some ⟨q, by_, z, .slice e⟩) (he : g.ty e = some ⟨q2, by2, z2, .int .u8⟩) (hD : g.ty D = some ⟨q', by', z', .str⟩)
    (hr : R g pf Fin (.dr ops rest :: k) (putO E dst (.d (.v (.string ⟨l.toArray⟩)))) objs) : R g pf Fin (.dr ops (⟨dst, .convert S D x, ty, pos, after, gd⟩ :: rest) :: k) E objs := by
  refine R_op (LocOp.up (LocOp.quiet hg hgd hd (by simp) fun φ objs w' w hρ hs' => ?_)) hr
  simp only [Op.operands] at hρ
  have hxv := Ent.nrm _ _ _ _ _ (hρ x (by simp))
  rw [hx] at hxv
  simp only [RV] at hxv
  have hu := (hg.ty _ _ hS).sh
  have hv := (hg.ty _ _ hD).sh
  have hw := (hg.ty _ _ he).sh
  simp only [ShFact] at hu hv hw
  obtain ⟨cells, hf⟩ := Fst.of_rd (P := g.P) hxv (sz := 1) (by intro r hr; obtain ⟨b, _, rfl⟩ := List.mem_map.1 hr; rfl)
  generalize hvx : w'.eval x = vx at hxv hf
  refine out_val hs' (vv := .string ⟨l.toArray⟩) ?_ (by simp only [RV]; exact .v _)
  obtain ⟨p, c, hvv⟩ := hf.sl
  have hlen : (byRows l).length = l.length := by simp [byRows]
  have hcells : cells = l.map fun b => Value.int .u8 (b.toNat : Int) := by
    apply List.ext_getElem?
    intro i
    by_cases hi : i < l.length
    · have hb : (byRows l)[i]? = some [.v (.int .u8 (l[i]'hi).toNat)] := by rw [byRows, List.getElem?_map, List.getElem?_eq_getElem hi]; rfl
      obtain ⟨y, h1, h2⟩ := hf.rd i _ 0 _ hb rfl
      cases h2
      rw [Nat.mul_one, Nat.add_zero] at h1
      rw [h1, List.getElem?_map, List.getElem?_eq_getElem hi]; rfl
    · rw [List.getElem?_eq_none (by rw [hf.len, hlen]; omega), List.getElem?_eq_none (by simp; omega)]
  have hconv : (convert S D vx).run g.P w = .ok (.string ⟨l.toArray⟩) w := by
    rw [hvv, run_convert_bytes_string w S D e p _ c hu hw hv]
    cases p with
    | none =>
      have h0 : l = [] := by
        rw [hvv] at hxv
        generalize byRows l = R at hxv hlen
        cases hxv
        exact List.length_eq_zero_iff.1 hlen.symm
      subst h0
      simp [Conv.bytesToString]; rfl
    | some ad =>
      rw [hlen]
      rw [run_bytesToString w ad l.length c (l.map fun b => (b.toNat : Int)) ?_]
      · rw [bytes_foldl]; simp
      · have := hf.run w rfl
        rw [hvv, hlen, hcells] at this
        simp only [Builtin.firstCells, Nat.mul_one] at this
        rw [List.map_map]
        simpa [Function.comp_def] using this
  simp only [execOp, hvx, Sem.run_bind, hconv, Result.andThen_ok, Sem.run_pure]

/-! ### to go through a string -/

theorem R_rangeS (hg : GOk g) {dst : Option Nat} {T : Nat} {x : Operand} {ty : Nat} {pos : String} {after : Array Edge} {gd : Option (Nat × Bool)} {rest : List Oper} {k : List It} {E : Env} {objs : List Ob}
    {q by_ : Nat} {z : List Value} {s : ByteArray}
    (hgd : guardA ops.toList E gd = some true) (hd : dstOk ⟨g.ty, g.N⟩ dst = true) (hx : ev E x = .d (.v (.string s))) (hT : g.ty T = some ⟨q, by_, z, .str⟩)
    (hr : R g pf Fin (.dr ops rest :: k) (putO E dst (.lo (len objs) 0)) (objs ++ [.itr s 0])) : R g pf Fin (.dr ops (⟨dst, .range T x, ty, pos, after, gd⟩ :: rest) :: k) E objs := by
  refine R_op (LocOp.effect hg hgd hd (by simp) fun φ a w hρ hs => ?_) hr
  simp only [Op.operands] at hρ
  have hxv := hρ x (by simp)
  rw [hx] at hxv
  simp only [RV] at hxv
  generalize hvx : a.eval x = vx at hxv
  cases hxv
  have hu := (hg.ty _ _ hT).sh
  simp only [ShFact] at hu
  refine ⟨.value (.pointer (some ⟨w.heap.size, 0, none⟩)), .pointer (some ⟨w.heap.size, 0, none⟩), w.alloc (.stringIter s 0), φ ++ [.blk w.heap.size], ?_, .inl rfl, ?_, ?_⟩
  · simp only [execOp, hvx, Instr.range, Sem.run_bind, run_underlying hu, Result.andThen_ok, Sem.run_pure, run_newObj]
    rfl
  · simp only [RV]
    exact ⟨w.heap.size, by rw [len_eq, ← hs.len]; simp, rfl⟩
  · refine Stp.new hs (fun b hb => by simp only [Phy.bl] at hb; exact hb.symm) ?_
    simp only [ObOk]
    exact heap_alloc_new _ _

theorem R_nextS (hg : GOk g) {dst : Option Nat} {x : Operand} {ty : Nat} {pos : String} {after : Array Edge} {gd : Option (Nat × Bool)} {rest : List Oper} {k : List It} {E : Env} {objs : List Ob}
    {i p : Nat} {s : ByteArray} {c wd : Nat}
    (hgd : guardA ops.toList E gd = some true) (hd : dstOk ⟨g.ty, g.N⟩ dst = true) (hx : ev E x = .lo i 0) (ho : nth objs i = some (.itr s p)) (hp : p < s.size) (hc : Utf8.decode s p = (c, wd))
    (hr : R g pf Fin (.dr ops rest :: k) (putO E dst (.tup [.tt, iV p, .d (.v (.int .i32 c))])) (setN objs i (.itr s (p + wd)))) : R g pf Fin (.dr ops (⟨dst, .next x true, ty, pos, after, gd⟩ :: rest) :: k) E objs := by
  refine R_op (LocOp.effect hg hgd hd (by simp) fun φ a w hρ hs => ?_) hr
  simp only [Op.operands] at hρ
  have hxv := hρ x (by simp)
  rw [hx] at hxv
  simp only [RV] at hxv
  obtain ⟨b, hph, hvx⟩ := hxv
  have hk := obj_at hs hph ho
  simp only [ObOk] at hk
  have hbl : b < w.heap.size := (Array.getElem?_eq_some_iff.1 hk).1
  refine ⟨.value (.tuple #[.bool true, .int .i64 p, .int .i32 c]), .tuple #[.bool true, .int .i64 p, .int .i32 c], w.putObj b (.stringIter s (p + wd)), φ.set i (.blk b), ?_, .inl rfl, ?_, ?_⟩
  · have hget : (getObj b).run g.P w = .ok (.stringIter s p) w := by simp [getObj, Sem.run, hk]
    have hset : (setObj b (.stringIter s (p + wd))).run g.P w = .ok () (w.putObj b (.stringIter s (p + wd))) := by simp [setObj, Sem.run, hk, World.putObj]
    simp only [execOp, hvx, Instr.next, Sem.run_bind, hget, Result.andThen_ok]
    rw [if_pos hp]
    simp only [hc, Sem.run_bind, hset, Result.andThen_ok, Sem.run_pure]
    rfl
  · simp only [RV, RVs]
    exact ⟨[_, _, _], rfl, rfl, by simp only [iV, RV]; exact .v _, .v _, trivial⟩
  · rw [setN_eq]
    refine Stp.swap hs hph (.inl rfl) (by simp) (fun c _ hc => World.putObj_heap_other fun e => hc (by rw [e]; rfl)) (fun b' hb => .inl hb) rfl rfl rfl fun _ _ => ?_
    simp only [ObOk]
    exact World.putObj_heap_same hbl

theorem R_nextE (hg : GOk g) {dst : Option Nat} {x : Operand} {ty : Nat} {pos : String} {after : Array Edge} {gd : Option (Nat × Bool)} {rest : List Oper} {k : List It} {E : Env} {objs : List Ob}
    {i p : Nat} {s : ByteArray}
    (hgd : guardA ops.toList E gd = some true) (hd : dstOk ⟨g.ty, g.N⟩ dst = true) (hx : ev E x = .lo i 0) (ho : nth objs i = some (.itr s p)) (hp : s.size ≤ p)
    (hr : R g pf Fin (.dr ops rest :: k) (putO E dst (.tup [.ff])) objs) : R g pf Fin (.dr ops (⟨dst, .next x true, ty, pos, after, gd⟩ :: rest) :: k) E objs := by
  refine R_op (LocOp.effect hg hgd hd (by simp) fun φ a w hρ hs => ?_) hr
  simp only [Op.operands] at hρ
  have hxv := hρ x (by simp)
  rw [hx] at hxv
  simp only [RV] at hxv
  obtain ⟨b, hph, hvx⟩ := hxv
  have hk := obj_at hs hph ho
  simp only [ObOk] at hk
  refine out_val hs (vv := .tuple #[.bool false]) ?_ (by simp only [RV, RVs]; exact ⟨[_], rfl, rfl, trivial⟩)
  have hget : (getObj b).run g.P w = .ok (.stringIter s p) w := by simp [getObj, Sem.run, hk]
  simp only [execOp, hvx, Instr.next, Sem.run_bind, hget, Result.andThen_ok]
  rw [if_neg (by omega)]
  simp only [Sem.run_pure, Result.andThen_ok]

/-- How long a string is, of whatever class. -/
theorem R_lenStr (hg : GOk g) {dst : Option Nat} {T : Nat} {x : Operand} {ty : Nat} {pos : String} {after : Array Edge} {gd : Option (Nat × Bool)} {rest : List Oper} {k : List It} {E : Env} {objs : List Ob}
    {q by_ : Nat} {z : List Value} {s : ByteArray} {n : Int}
    (hgd : guardA ops.toList E gd = some true) (hd : dstOk ⟨g.ty, g.N⟩ dst = true) (hx : ev E x = .d (.v (.string s))) (hT : g.ty T = some ⟨q, by_, z, .str⟩) (hn : (s.size : Int) = n)
    (hr : R g pf Fin (.dr ops rest :: k) (putO E dst (iV n)) objs) : R g pf Fin (.dr ops (⟨dst, .call { callee := .builtin .len, args := #[x], argTypes := #[T] }, ty, pos, after, gd⟩ :: rest) :: k) E objs := by
  subst hn
  refine R_op (LocOp.up (LocOp.quiet hg hgd hd (by simp) fun φ objs a w hρ hs => ?_)) hr
  simp only [Op.operands, Call.operands] at hρ
  have hxv := hρ x (by simp)
  rw [hx] at hxv
  simp only [RV] at hxv
  generalize hvx : a.eval x = vx at hxv
  cases hxv
  have hu := (hg.ty _ _ hT).sh
  simp only [ShFact] at hu
  refine out_val hs (vv := .int .i64 s.size) ?_ (by simp only [RV, iV]; exact .v _)
  simp [execOp, resolve, invoke, builtin, Builtin.len_, hvx, run_underlying hu, Result.andThen]
  rfl
end
end PSL

namespace PSL
open Go Go.RowKit

section
variable {g : G} {pf : Nat → Cls} {ops : Array Oper} {Fin : Exit → Act → World → Prop}

/-- The first elements of a slice of the call's own. -/
theorem R_shrinkO (hg : GOk g) {dst : Option Nat} {T : Nat} {x : Operand} {lo hi : Option Operand} {ty : Nat} {pos : String} {after : Array Edge} {gd : Option (Nat × Bool)} {rest : List Oper} {k : List It} {E : Env} {objs : List Ob}
    {i s sz q by_ e : Nat} {z : List Value} {τ : Ty} {rows : List (List D)} (rows' : List (List D)) {h : Int}
    (hgd : guardA ops.toList E gd = some true) (hd : dstOk ⟨g.ty, g.N⟩ dst = true) (hcl : slCls pf = .turn 1) (hx : ev E x = .ow i s) (ho : nth objs i = some (.arr sz s rows)) (hh : bndA E hi rows.length = some h) (hlo : bndA E lo 0 = some 0) (hT : g.ty T = some ⟨q, by_, z, .slice e⟩) (he : g.ty e = some τ) (hsz : τ.size = sz)
    (h0 : 0 ≤ h) (h2 : h ≤ rows.length) (hrows : rows.take h.toNat = rows')
    (hr : R g pf Fin (.dr ops rest :: k) (putO E dst (.ow i (Nat.succ s))) (setN objs i (.arr sz (Nat.succ s) rows'))) : R g pf Fin (.dr ops (⟨dst, .slice T x lo hi none, ty, pos, after, gd⟩ :: rest) :: k) E objs := by
  subst hrows
  refine R_op ?_ hr
  simp only [clsOf, hcl]
  refine LocOp.turning hg (grow_set ho) hgd hd (by simp) fun φ a w hρ hs => ?_
  simp only [Op.operands] at hρ
  have hxv := hρ x (by simp)
  rw [hx] at hxv
  simp only [RV] at hxv
  obtain ⟨_, ph, hph, hxv⟩ := hxv
  have hk := obj_at hs hph ho
  cases ph <;> try (simp only [ObOk] at hk; done)
  rename_i sz2 s2 v2 ob2
  simp only [ObOk] at hk
  obtain ⟨e1, e2, hrl, hk'⟩ := hk
  subst e1; subst e2
  have hv := (hxv _ _ _ _ rfl).2 rfl
  clear hxv
  rw [setN_eq]
  have hlt : i < φ.length := (List.getElem?_eq_some_iff.1 hph).1
  have hτ := hg.ty _ _ he
  have htl : (rows.take h.toNat).length = h.toNat := by rw [List.length_take]; omega
  have hbd : ∀ cap : Nat, (h : Int) ≤ cap → (Instr.sliceBounds true rows.length cap (lo.map a.eval) (hi.map a.eval) none).run g.P w = .ok (0, h.toNat, cap) w := fun cap hc => by
    have := run_bounds (P := g.P) (w := w) (sl := true) (a := a) (len := rows.length) (cap := cap) (lo := lo) (hi := hi) (l := 0) hlo hh (fun y hy n he => by
      have := hρ y (by simp [hy]); rw [he] at this; simp only [RV] at this; generalize a.eval y = u at this; cases this; rfl) (fun y hy n he => by
      have := hρ y (by simp [hy]); rw [he] at this; simp only [RV] at this; generalize a.eval y = u at this; cases this; rfl) (Int.le_refl 0) h0 hc
    simpa using this
  have hall : ∀ r ∈ rows.take h.toNat, r.length = sz := fun r hr => hrl r (List.mem_of_mem_take hr)
  rcases hk' with ⟨a0, rfl, hrows, rfl⟩ | ⟨b, o, cap, cs, Tb, rfl, rfl, hheap, hn, hcap, hle, hrd⟩
  · subst hrows
    have h00 : h = 0 := by simp at h2; omega
    subst h00
    have hb := hbd 0 (by simp)
    refine ⟨.value (.slice a0 0 0), .slice a0 0 0, w, φ.set i (.sli sz (Nat.succ s) (.slice a0 0 0) none), ?_, .inl rfl, ?_, ?_⟩
    · simp only [List.length_nil] at hb
      simp [execOp, Instr.sliceAt, Instr.slice, hv, underlying, und_slice hg hT, hb, run_sizeOf hτ]
    · simp only [RV]
      exact ⟨⟨_, _, _, rfl⟩, _, List.getElem?_set_self hlt, fun sz s x ob h => by cases h; exact ⟨Nat.le_refl _, fun _ => rfl⟩⟩
    · refine Stp.swap hs hph (.inr (.inl ⟨_, _, _, _, _, _, _, _, rfl, rfl, Nat.lt_succ_self _⟩)) (Nat.le_refl _) (fun _ _ _ => rfl) (fun b hb => by simp [Phy.bl] at hb) rfl rfl rfl fun _ _ => ?_
      simp only [ObOk]
      exact ⟨trivial, trivial, by simp, .inl ⟨_, rfl, rfl, trivial⟩⟩
  · have hb := hbd cap (by omega)
    have hv2 : (if cap = 0 then (some (⟨b, o, none⟩ : Addr)) else (some (⟨b, o, none⟩ : Addr)).map (·.add (0 * τ.size))) = some ⟨b, o, none⟩ := by
      split
      · rfl
      · simp only [Option.map_some, add_none, Nat.zero_mul, Nat.add_zero]
    refine ⟨.value (.slice (some ⟨b, o, none⟩) h.toNat cap), .slice (some ⟨b, o, none⟩) h.toNat cap, w, φ.set i (.sli sz (Nat.succ s) (.slice (some ⟨b, o, none⟩) h.toNat cap) (some b)), ?_, .inl rfl, ?_, ?_⟩
    · simp only [execOp, Instr.sliceAt, Instr.slice, hv, underlying, Sem.run_bind, run_program, Result.andThen_ok, und_slice hg hT, Sem.run_pure, hb, run_sizeOf hτ, Nat.sub_zero, Option.map_none, hv2]
    · simp only [RV]
      exact ⟨⟨_, _, _, rfl⟩, _, List.getElem?_set_self hlt, fun sz s x ob h => by cases h; exact ⟨Nat.le_refl _, fun _ => rfl⟩⟩
    · refine Stp.swap hs hph (.inr (.inl ⟨_, _, _, _, _, _, _, _, rfl, rfl, Nat.lt_succ_self _⟩)) (Nat.le_refl _) (fun _ _ _ => rfl) (fun b' hb => .inl hb) rfl rfl rfl fun hkeep _ => ?_
      simp only [ObOk]
      refine ⟨trivial, trivial, hall, .inr ⟨b, o, cap, cs, Tb, by rw [htl], rfl, hheap, by rw [htl]; omega, hcap, hle, fun i' r j x' hi hj => ?_⟩⟩
      have hil := (List.getElem?_eq_some_iff.1 hi).1
      rw [htl] at hil
      rw [List.getElem?_take_of_lt hil] at hi
      obtain ⟨y, h3, h4⟩ := hrd i' r j x' hi hj
      exact ⟨y, h3, h4.mono hkeep⟩

/-- A slice written out, as one of the call's own. -/
theorem R_buildO (hg : GOk g) {dst : Option Nat} {T n : Nat} {parts : Array (Nat × Operand)} {ty : Nat} {pos : String} {after : Array Edge} {gd : Option (Nat × Bool)} {rest : List Oper} {k : List It} {E : Env} {objs : List Ob}
    {q by_ e sz : Nat} {z : List Value} {τ : Ty} (rows : List (List D))
    (hgd : guardA ops.toList E gd = some true) (hd : dstOk ⟨g.ty, g.N⟩ dst = true) (hcl : bsCls pf = .turn 0) (hT : g.ty T = some ⟨q, by_, z, .slice e⟩) (he : g.ty e = some τ) (hrows : rowsOf (parts.toList.map fun p => (p.1, ev E p.2)) 0 τ.size = some rows) (hn : rows.length = n) (hsz : τ.size = sz) (hb : n * sz ≤ 100000) (hb2 : n ≤ 100000)
    (hr : R g pf Fin (.dr ops rest :: k) (putO E dst (.ow (len objs) 0)) (objs ++ [.arr sz 0 rows])) : R g pf Fin (.dr ops (⟨dst, .buildSlice T n parts, ty, pos, after, gd⟩ :: rest) :: k) E objs := by
  subst hsz
  refine R_op ?_ hr
  simp only [clsOf, hcl]
  refine LocOp.turning hg (.add _ _) hgd hd (by simp) fun φ a w hρ hs => ?_
  have hsl := (hg.ty _ _ hT).sh
  simp only [ShFact] at hsl
  have hτ := hg.ty _ _ he
  have hρ' : ∀ p ∈ parts.toList, RV (SS g.S0 φ) w φ (ev E p.2) (a.eval p.2) := fun p hp => hρ p.2 (by
    simp only [Op.operands, Array.toList_map, List.mem_map]
    exact ⟨p, hp, rfl⟩)
  have hlp : rows.length = parts.size := by
    have key : ∀ (l : List (Nat × AV)) (k : Nat) (rs : List (List D)), rowsOf l k τ.size = some rs → rs.length = l.length := by
      intro l
      induction l with
      | nil => intro k rs h; simp [rowsOf] at h; subst h; rfl
      | cons x l ih =>
        intro k rs h
        obtain ⟨i, x⟩ := x
        simp only [rowsOf] at h
        obtain ⟨_, h⟩ := bifO h
        split at h
        · cases h
        split at h
        · obtain ⟨_, h⟩ := bifO h
          split at h
          · rename_i hl; cases h; simp [ih _ _ hl]
          · cases h
        · cases h
    simpa using key _ _ _ hrows
  obtain ⟨zv, hz1, hz2⟩ := run_zeroValue hτ w
  have hzl := hτ.zl
  have hzs : zv.cells.size = τ.size := by rw [← hz2] at hzl; simpa using hzl
  generalize hrest : (if n * τ.size = 0 then ([] : List Value) else ((List.range (n * τ.size)).map fun i => zv.cells[i % zv.cells.size]!)) = rest
  have hrl : rest.length = n * τ.size := by
    rw [← hrest]
    split
    · rename_i h0; rw [h0]; rfl
    · simp only [List.length_map, List.length_range]
  obtain ⟨cells, h1, h2, h2', h3⟩ := rows_fill (S0 := g.S0) (φ := φ) (w := w) hτ (parts.toList.map fun p => (p.1, ev E p.2)) (parts.toList.map fun p => (p.1, a.eval p.2)) 0 rows [] rest
    (by simp [List.map_map, Function.comp_def]) (by simp only [List.map_map]; exact RVs.map _ _ _ fun p hp => hρ' p hp) hrows (by simp) (by rw [hrl, ← hn, hlp]; simp)
  simp only [List.nil_append] at h1
  have hpm : (parts.map fun (i, x) => (i, a.eval x)).toList = parts.toList.map fun p => (p.1, a.eval p.2) := by simp [Array.toList_map]
  have hrun : (Instr.buildSlice T n (parts.map fun (i, x) => (i, a.eval x))).run g.P w = .ok (.slice (some ⟨w.heap.size, 0, none⟩) n n) (w.alloc (.cells cells.toArray e)) := by
    have h0 : ¬ (n * τ.size > 2 ^ 24) := by omega
    simp only [Instr.buildSlice, underlying, Sem.run_bind, run_program, Result.andThen_ok, hsl, Sem.run_pure, run_sizeOf hτ]
    rw [Sem.run_ite]
    rw [if_neg h0]
    by_cases hz0 : n * τ.size = 0
    · rw [Sem.run_ite, if_pos hz0]
      have hr0 : rest = [] := List.length_eq_zero_iff.1 (by omega)
      rw [hr0] at h1
      simp only [Sem.run_pure, Result.andThen_ok, hz0, hpm, newRow, Sem.run_bind]
      simp only [show (Array.map (fun x => (#[] : Array Value)[x % (#[] : Array Value).size]!) (Array.range 0)) = ([] : List Value).toArray from by simp, h1, Sem.run_bind, run_newObj, Result.andThen_ok, Sem.run_pure]
      rfl
    · rw [Sem.run_ite, if_neg hz0]
      have : (Array.range (n * τ.size)).map (fun x => zv.cells[x % zv.cells.size]!) = rest.toArray := by
        rw [← hrest, if_neg hz0]; apply Array.toList_inj.1; simp [Array.toList_range]
      simp only [Sem.run_bind, hz1, Sem.run_pure, Result.andThen_ok, this, hpm, h1, newRow, run_newObj]
      rfl
  refine ⟨.value (.slice (some ⟨w.heap.size, 0, none⟩) n n), .slice (some ⟨w.heap.size, 0, none⟩) n n, w.alloc (.cells cells.toArray e), φ ++ [.sli τ.size 0 (.slice (some ⟨w.heap.size, 0, none⟩) n n) (some w.heap.size)], ?_, .inl rfl, ?_, ?_⟩
  · simp only [execOp, Sem.run_bind, hrun, Result.andThen_ok, Sem.run_pure]
  · simp only [RV]
    refine ⟨⟨_, _, _, rfl⟩, .sli τ.size 0 (.slice (some ⟨w.heap.size, 0, none⟩) n n) (some w.heap.size), by rw [len_eq, ← hs.len]; simp, fun sz' s' x' ob' he => ?_⟩
    cases he
    exact ⟨Nat.le_refl _, fun _ => rfl⟩
  · refine Stp.new hs (fun b hb => by simp only [Phy.bl] at hb; cases hb; rfl) ?_
    simp only [ObOk]
    refine ⟨trivial, trivial, fun r hr => ?_, .inr ⟨w.heap.size, 0, n, cells, e, by rw [hn], rfl, heap_alloc_new _ _, by omega, by unfold maxLen; omega, by rw [h2, hn]; omega, fun i r j x hi hj => ?_⟩⟩
    · obtain ⟨i, hi⟩ := List.mem_iff_getElem?.1 hr
      exact (h3 i r hi).1
    · obtain ⟨u, hu1, hu2⟩ := (h3 i r hi).2 j x hj
      exact ⟨u, by rw [Nat.zero_add]; exact hu1, hu2.mono (keep_new (fun b hb => by simp only [Phy.bl] at hb; cases hb; rfl))⟩
/-- The same, beside stores that leave it alone. -/
theorem R_indexOJ (hg : GOk g) (m : Nat) {dst : Option Nat} {T : Nat} {x i : Operand} {ty : Nat} {pos : String} {after : Array Edge} {gd : Option (Nat × Bool)} {rest : List Oper} {k : List It} {E : Env} {objs : List Ob}
    {id s sz q by_ e : Nat} {z : List Value} {τ : Ty} {rows : List (List D)} {n : Int}
    (hgd : guardA ops.toList E gd = some true) (hd : dstOk ⟨g.ty, g.N⟩ dst = true) (hcl : ixCls pf = .look (m + 1)) (hmay : ¬ mayO g.φ0.length m id (.arr sz s rows)) (hx : ev E x = .ow id s) (ho : nth objs id = some (.arr sz s rows)) (hi : ev E i = .d (.v (.int .i64 n))) (hT : g.ty T = some ⟨q, by_, z, .slice e⟩) (he : g.ty e = some τ) (hsz : τ.size = sz)
    (h0 : 0 ≤ n) (hlt : n.toNat < rows.length)
    (hr : R g pf Fin (.dr ops rest :: k) (putO E dst (.el id s n.toNat 0)) objs) : R g pf Fin (.dr ops (⟨dst, .indexAddr T x i, ty, pos, after, gd⟩ :: rest) :: k) E objs := by
  refine R_op ?_ hr
  simp only [clsOf, hcl]
  refine LocOp.lookingM hg m hgd hd (by simp) fun φ a w objs₁ hgr hρ hs => ?_
  simp only [Op.operands] at hρ
  have hxv := hρ x (by simp)
  rw [hx] at hxv
  have hiv := hρ i (by simp)
  rw [hi] at hiv
  simp only [RV] at hiv
  generalize hvi : a.eval i = vi at hiv
  cases hiv
  have ho : nth objs₁ id = some (.arr sz s rows) := by
    have h := hxv
    simp only [RV] at h
    obtain ⟨_, ph, hph, _⟩ := h
    rw [nth_eq] at ho ⊢
    exact Gr.same' hgr ho (by rw [← hs.len]; exact (List.getElem?_eq_some_iff.1 hph).1) hmay
  obtain ⟨_, h1⟩ := own_slice hs hxv ho
  rcases h1 with h1 | ⟨b, o, cap, cs, T', h1, h2, h3, _⟩
  · subst h1; simp at hlt
  refine out_val hs (vv := .pointer (some ⟨b, o + n.toNat * sz, none⟩)) ?_ ?_
  · have hrun : (Instr.indexAt T (a.eval x) (a.eval i)).run g.P w = .ok (.pointer (some ⟨b, o + n.toNat * sz, none⟩)) w := by
      simp only [Instr.indexAt, h1, hvi, asIntOf, underlying, Sem.run_bind, Sem.run_pure, run_program, Result.andThen_ok, und_slice hg hT]
      rw [Sem.run_ite, if_pos ⟨h0, by omega⟩]
      simp only [Sem.run_bind, run_sizeOf (hg.ty _ _ he), Result.andThen_ok, Sem.run_pure, add_none, hsz]
    simp only [execOp, Sem.run_bind, hrun, Result.andThen_ok, Sem.run_pure]
  · simp only [RV]
    refine ⟨⟨_, _, rfl⟩, _, h2, fun sz' s' x' ob' h => ?_⟩
    cases h
    exact ⟨Nat.le_refl _, fun _ => ⟨b, o, _, _, h1, rfl⟩⟩


/-- A load of an element, or of a part of it. -/
theorem R_loadEJ (hg : GOk g) (m : Nat) {dst : Option Nat} {T : Nat} {x : Operand} {ty : Nat} {pos : String} {after : Array Edge} {gd : Option (Nat × Bool)} {rest : List Oper} {k : List It} {E : Env} {objs : List Ob}
    {id s sz r j : Nat} {τ : Ty} {rows : List (List D)} {row : List D} {v : AV}
    (hgd : guardA ops.toList E gd = some true) (hd : dstOk ⟨g.ty, g.N⟩ dst = true) (hcl : ldClsAt pf x = .look (m + 1)) (hmay : ¬ mayO g.φ0.length m id (.arr sz s rows)) (hx : ev E x = .el id s r j) (ho : nth objs id = some (.arr sz s rows)) (hT : g.ty T = some τ) (hrow : rows[r]? = some row) (hp : packA τ (row.map .d) j = some v)
    (hr : R g pf Fin (.dr ops rest :: k) (putO E dst v) objs) : R g pf Fin (.dr ops (⟨dst, .load T x, ty, pos, after, gd⟩ :: rest) :: k) E objs := by
  refine R_op ?_ hr
  simp only [clsOf, hcl]
  refine LocOp.lookingM hg m hgd hd (by simp) fun φ a w objs₁ hgr hρ hs => ?_
  simp only [Op.operands] at hρ
  have hxv := hρ x (by simp)
  rw [hx] at hxv
  simp only [RV] at hxv
  obtain ⟨_, ph, hph, hxv⟩ := hxv
  have ho : nth objs₁ id = some (.arr sz s rows) := by
    rw [nth_eq] at ho ⊢
    exact Gr.same' hgr ho (by rw [← hs.len]; exact (List.getElem?_eq_some_iff.1 hph).1) hmay
  have hk := obj_at hs hph ho
  cases ph <;> try (simp only [ObOk] at hk; done)
  rename_i sz2 s2 v2 ob2
  simp only [ObOk] at hk
  obtain ⟨rfl, rfl, hlen, hk⟩ := hk
  obtain ⟨b, o, n, cap, h1, h2⟩ := (hxv _ _ _ _ rfl).2 rfl
  rcases hk with ⟨a2, _, rfl, _⟩ | ⟨b', o', cap2, cs, T', h3, rfl, hheap, hn, hcap, hle, hrd⟩
  · simp at hrow
  rw [h1] at h3
  simp only [Value.slice.injEq, Option.some.injEq, Addr.mk.injEq] at h3
  obtain ⟨⟨rfl, rfl, _⟩, hnn, hcc⟩ := h3
  subst hcc
  have hrl := hlen row (List.mem_of_getElem? hrow)
  have hrlt := (List.getElem?_eq_some_iff.1 hrow).1
  have hτ := hg.ty _ _ hT
  have hfit : o + r * sz + sz ≤ cs.length := by
    have : (r + 1) * sz ≤ cap * sz := Nat.mul_le_mul_right _ (by omega)
    rw [Nat.succ_mul] at this; omega
  have hrv : RVs (SS g.S0 φ) w φ (row.map .d) ((cs.drop (o + r * sz)).take sz) := by
    refine RVs.of_get (by simp; omega) fun m u v hu hv => ?_
    rw [List.getElem?_map] at hu
    cases hm : row[m]? with
    | none => rw [hm] at hu; cases hu
    | some y =>
      rw [hm] at hu; simp at hu; subst hu
      have hml := (List.getElem?_eq_some_iff.1 hm).1
      obtain ⟨y', h4, h5⟩ := hrd r row m y hrow hm
      rw [List.getElem?_take_of_lt (by omega), List.getElem?_drop, h4] at hv
      cases hv
      simp only [RV]; exact h5
  obtain ⟨h4, h5⟩ := pack_ok hτ hrv hp
  rcases h4 with ⟨h0, ha⟩ | h4
  · exact ok_load hs rfl h2 (run_loadVar0 hτ ha h0 _ _) h5
  · simp only [List.length_take, List.length_drop] at h4
    rcases Nat.eq_zero_or_pos τ.size with hz | hz
    · have ha : τ.agg = true := by
        cases ha : τ.agg
        · have := hτ.one ha; omega
        · rfl
      exact ok_load hs rfl h2 (run_loadVar0 hτ ha hz _ _) h5
    · have h6 : (List.drop j (List.take sz (List.drop (o + r * sz) cs))).take τ.size = (cs.drop (o + r * sz + j)).take τ.size := by
        rw [List.drop_take, List.take_take, List.drop_drop, Nat.min_eq_left (by omega)]
      rw [h6] at h5
      exact ok_load hs rfl h2 (run_loadVar hτ hheap (o + r * sz + j) (by omega)) h5


open Classical in
/-- A store into a box that what is beside it doesn't look at, as no boxes. -/
theorem R_storeB (hg : GOk g) {dst : Option Nat} {T : Nat} {d x : Operand} {ty : Nat} {pos : String} {after : Array Edge} {gd : Option (Nat × Bool)} {rest : List Oper} {k : List It} {E : Env} {objs : List Ob}
    {i off : Nat} {l new : List AV} {τ : Ty}
    (hgd : guardA ops.toList E gd = some true) (hd : dstOk ⟨g.ty, g.N⟩ dst = true) (hcl : stClsAt pf d = .turn 10000) (hx : ev E d = .lo i off) (ho : nth objs i = some (.box l)) (hT : g.ty T = some τ) (hc : cellsO (ev E x) = some new)
    (hl : Nat.beq (len new) τ.size = true) (hfit : Nat.ble (Nat.add off τ.size) (len l) = true)
    (hr : R g pf Fin (.dr ops rest :: k) (putO E dst .any) (setN objs i (.box (spliceA l off new)))) : R g pf Fin (.dr ops (⟨dst, .store T d x, ty, pos, after, gd⟩ :: rest) :: k) E objs := by
  refine R_op ?_ hr
  simp only [clsOf, hcl]
  refine .of_out hg (guardA_ok hgd) (dstOk_ok hd) (by simp) (fun h => absurd rfl (h _)) (fun b hb _ => ?_) fun φ o₁ o₁' a w E₁ hent hv ho' hs => ?_
  · cases hb
    intro j y hj
    rw [nth_eq] at ho
    rw [setN_eq]
    by_cases e : j = i
    · subst e
      exact ⟨_, List.getElem?_set_self (List.getElem?_eq_some_iff.1 ho).1, .inr ⟨.inr (.inr ⟨rfl, by rw [ho] at hj; cases hj; rfl⟩), .inr (.inr ⟨rfl, rfl⟩)⟩⟩
    · exact ⟨y, by rw [List.getElem?_set_ne (fun h => e h.symm)]; exact hj, .inl rfl⟩
  · rcases ho' with ⟨h, _⟩ | ⟨_, h, _⟩ | ⟨rfl, rfl⟩
    · cases h
    · cases h
    have hρ := rv_ops hent hv
    simp only [Op.operands] at hρ
    refine stepOp_ok (ρA := fun y => if y = d then .lo i off else if y = x then ev E x else .any) hg.ty hs (fun y => ?_) ?_
    · split
      · rename_i h; rw [h, ← hx]; exact hρ d (by simp)
      · split
        · rename_i h; rw [h]; exact hρ x (by simp)
        · simp [RV]
    · have hxx : (if x = d then AV.lo i off else if x = x then ev E x else .any) = ev E x := by
        split
        · rename_i h; rw [h, hx]
        · rw [if_pos rfl]
      have hxx' : (if x = d then AV.lo i off else ev E x) = ev E x := by rw [if_pos rfl] at hxx; exact hxx
      simp only [stepOp, stepS, stepL, stepE, hT, if_true, ho, hxx', hc, hl, hfit, cond_true]


/-- The address of a part of an element of the call's own, where that is an array. -/
theorem R_indexEA (hg : GOk g) {dst : Option Nat} {T : Nat} {x i : Operand} {ty : Nat} {pos : String} {after : Array Edge} {gd : Option (Nat × Bool)} {rest : List Oper} {k : List It} {E : Env} {objs : List Ob}
    {id s r j n sz by_ e : Nat} {z : List Value} {τ : Ty} {m : Int} (j' : Nat)
    (hgd : guardA ops.toList E gd = some true) (hd : dstOk ⟨g.ty, g.N⟩ dst = true) (hx : ev E x = .el id s r j) (hi : ev E i = .d (.v (.int .i64 m))) (hT : g.ty T = some ⟨sz, by_, z, .array n e⟩) (he : g.ty e = some τ)
    (h0 : 0 ≤ m) (hlt : m < n) (ho : j + m.toNat * τ.size = j')
    (hr : R g pf Fin (.dr ops rest :: k) (putO E dst (.el id s r j')) objs) : R g pf Fin (.dr ops (⟨dst, .indexAddr T x i, ty, pos, after, gd⟩ :: rest) :: k) E objs := by
  subst ho
  refine R_op (LocOp.up (LocOp.quiet hg hgd hd (by simp) fun φ o₁ a w hρ hs => ?_)) hr
  simp only [Op.operands] at hρ
  have hxv := hρ x (by simp)
  rw [hx] at hxv
  have hiv := hρ i (by simp)
  rw [hi] at hiv
  simp only [RV] at hxv hiv
  obtain ⟨⟨b, o, hvx⟩, ph, hph, hxv⟩ := hxv
  generalize hvi : a.eval i = vi at hiv
  cases hiv
  have hsl := (hg.ty _ _ hT).sh
  simp only [ShFact] at hsl
  refine out_val hs (vv := .pointer (some ⟨b, o + m.toNat * τ.size, none⟩)) ?_ ?_
  · have hrun : (Instr.indexAt T (a.eval x) (a.eval i)).run g.P w = .ok (.pointer (some ⟨b, o + m.toNat * τ.size, none⟩)) w := by
      simp only [Instr.indexAt, hvx, hvi, asIntOf, underlying, Sem.run_bind, Sem.run_pure, run_program, Result.andThen_ok, hsl, Instr.sureAddr]
      rw [Sem.run_ite, if_pos ⟨h0, hlt⟩]
      simp only [Sem.run_bind, run_sizeOf (hg.ty _ _ he), Result.andThen_ok, Sem.run_pure, add_none]
    simp only [execOp, Sem.run_bind, hrun, Result.andThen_ok, Sem.run_pure]
  · simp only [RV]
    refine ⟨⟨_, _, rfl⟩, ph, hph, fun sz' s' x' ob' h => ?_⟩
    obtain ⟨h1, h2⟩ := hxv sz' s' x' ob' h
    refine ⟨h1, fun e => ?_⟩
    obtain ⟨b', o', n', cap, h3, h4⟩ := h2 e
    rw [hvx] at h4
    simp only [Value.pointer.injEq, Option.some.injEq, Addr.mk.injEq] at h4
    obtain ⟨rfl, rfl, _⟩ := h4
    exact ⟨b, o', n', cap, h3, by rw [show o' + r * sz' + j + m.toNat * τ.size = o' + r * sz' + (j + m.toNat * τ.size) by omega]⟩
end
end PSL
