import Derived.Test.YtppghekipbnjhaaM1
import Derived.ProofKit
import Derived.SizedLaws
import Derived.ChangeSame
import Derived.JoinedOf
import Derived.Laws.BytesString
import Derived.Test.YtppghekipbnjhaaSTy
import Derived.Test.YtppghekipbnjhaaRows
namespace PSL
open Go Go.RowKit Go.ChangeShapes Go.WideShapes

/-- A struct's cells, field by field. -/
def HasFs (H : Nat → List D → Prop) (ty : Nat → Option Ty) : List (Nat × Nat) → List D → Prop
  | [], row => row = []
  | (_, t) :: fs, row => ∃ (τ : Ty) (a b : List D), ty t = some τ ∧ row = a ++ b ∧ a.length = τ.size ∧ H t a ∧ HasFs H ty fs b

/-- Cells as data of a type. -/
def HasTy (ty : Nat → Option Ty) (B : Nat) : Nat → Nat → List D → Prop
  | 0, _, _ => False
  | n + 1, t, row => match ty t with
    | none => False
    | some τ => match τ.sh with
      | .int k => ∃ m, row = [.v (.int k m)] ∧ k.min ≤ m ∧ m ≤ k.max
      | .bool => ∃ b, row = [.v (.bool b)]
      | .str => ∃ s : ByteArray, row = [.v (.string s)] ∧ s.size ≤ B
      | .struct flds => HasFs (HasTy ty B n) ty flds row
      | .slice e => ∃ rows : List (List D), row = [.sl rows] ∧ (∀ τ, ty e = some τ → rows.length * τ.bytes ≤ B) ∧ ∀ r ∈ rows, HasTy ty B n e r
      | _ => False

def contig (ty : Nat → Option Ty) (size : Nat) : List (Nat × Nat) → Nat → Bool
  | [], o => o == size
  | (f, t) :: fs, o => match ty t with
    | some τ => f == o && contig ty size fs (o + τ.size)
    | none => false

/-- Types of plain data, within a list of such. -/
def dT (ty : Nat → Option Ty) (L : List Nat) (t : Nat) : Bool :=
  match ty t with
  | some τ => match τ.sh with
    | .int _ => true
    | .bool => true
    | .str => true
    | .struct flds => flds.all (fun f => L.contains f.2) && contig ty τ.size flds 0
    | .slice e => L.contains e && match ty e with | some τ' => decide (0 < τ'.size) | none => false
    | _ => false
  | none => false
section
variable {H : Type} {enc : TypeId × Value → H} {P : Program} {w : World} {base : Nat} {held : Bool} {ty : Nat → Option Ty}

theorem cellsOf_ty (hty : TyOk P ty) {t : Nat} {τ : Ty} (h : ty t = some τ) : P.cellsOf t = τ.size := by
  obtain ⟨i, z, h1, _, h3, _⟩ := (hty t τ h).info
  simp [Program.cellsOf, h1, h3]
theorem und_ty (hty : TyOk P ty) {t : Nat} {τ : Ty} (h : ty t = some τ) : ShFact P t τ.sh := (hty t τ h).sh

theorem weightsAll_mem {P : Program} {e : TypeId} {d : DataW H} {m : Nat} : ∀ {l : List (DataW H)}, d ∈ l → m ∈ d.weights P e → m ∈ DataW.weightsAll P e l
  | x :: l, h, hm => by
    simp only [DataW.weightsAll, List.mem_append]
    rcases List.mem_cons.1 h with rfl | h
    · exact .inl hm
    · exact .inr (weightsAll_mem h hm)

theorem choose_lt {α : Type} [Inhabited α] {n : Nat} {p : Nat → α → Prop} (h : ∀ i, i < n → ∃ x, p i x) : ∃ f : Nat → α, ∀ i, i < n → p i (f i) := by
  classical
  refine ⟨fun i => if hi : i < n then Classical.choose (h i hi) else default, fun i hi => ?_⟩
  simp only [dif_pos hi]
  exact Classical.choose_spec (h i hi)

/-- Cells that are read as a type's are data. -/
theorem trod_rd (hty : TyOk P ty) {L : List Nat} (hL : ∀ t ∈ L, dT ty L t = true) (B : Nat) : ∀ (n t : Nat) (τ : Ty) (cs : List Value) (x : DataW H × List MemPlace), t ∈ L → DataW.trod enc P w base (fun _ => true) held n t cs = some x → ty t = some τ → (∀ m ∈ x.1.weights P t, m ≤ B) →
    ∃ row, cs.length = τ.size ∧ row.length = τ.size ∧ HasTy ty B n t row ∧ ∀ (j : Nat) (d : D), row[j]? = some d → ∃ v, cs[j]? = some v ∧ Rd (fun _ => True) w d v
  | 0, _, _, _, _, _, h, _, _ => by simp [DataW.trod] at h
  | n + 1, t, τ, cs, x, htL, h, hτ, hwt => by
    have hd := hL t htL
    have hsh := und_ty hty hτ
    have h1 := (hty t τ hτ).one
    unfold dT at hd
    rw [hτ] at hd
    simp only at hd
    have one : ∀ (d : D) (v : Value), τ.size = 1 → cs = [v] → Rd (fun _ => True) w d v → HasTy ty B (n + 1) t [d] → ∃ row, cs.length = τ.size ∧ row.length = τ.size ∧ HasTy ty B (n + 1) t row ∧ ∀ (j : Nat) (d : D), row[j]? = some d → ∃ v, cs[j]? = some v ∧ Rd (fun _ => True) w d v := by
      intro d v hs hcs hr hh
      refine ⟨[d], by rw [hcs, hs]; rfl, by rw [hs]; rfl, hh, fun j d' hj => ?_⟩
      match j, hj with
      | 0, hj => simp at hj; subst hj; exact ⟨v, by rw [hcs]; rfl, hr⟩
    cases hs : τ.sh with
    | one => rw [hs] at hd; cases hd
    | int k =>
      rw [hs] at hsh; simp only [ShFact] at hsh
      obtain ⟨m, hcs, hx, hwf⟩ := DataW.trod_int hsh h
      refine one (.v (.int k m)) _ (h1 (by unfold Ty.agg; rw [hs])) hcs (.v _) ?_
      simp only [HasTy, hτ, hs]
      simp only [Lit.wf, Bool.and_eq_true, decide_eq_true_eq] at hwf
      exact ⟨m, rfl, hwf⟩
    | bool =>
      rw [hs] at hsh; simp only [ShFact] at hsh
      obtain ⟨b, hcs, hx⟩ := DataW.trod_bool hsh h
      refine one (.v (.bool b)) _ (h1 (by unfold Ty.agg; rw [hs])) hcs (.v _) ?_
      simp only [HasTy, hτ, hs]
      exact ⟨b, rfl⟩
    | str =>
      rw [hs] at hsh; simp only [ShFact] at hsh
      obtain ⟨s, hcs, hx, hwf⟩ := DataW.trod_string hsh h
      refine one (.v (.string s)) _ (h1 (by unfold Ty.agg; rw [hs])) hcs (.v _) ?_
      simp only [HasTy, hτ, hs]
      subst hx
      exact ⟨s, rfl, by simpa using hwt s.data.toList.length (by simp [DataW.weights])⟩
    | struct flds =>
      rw [hs] at hsh hd; simp only [ShFact] at hsh
      simp only [Bool.and_eq_true, List.all_eq_true, List.contains_iff_mem] at hd
      obtain ⟨fs, hu, hfl, _⟩ := hsh
      obtain ⟨xs, n', hn, hx, hcl, hxl, hall⟩ := DataW.trod_struct hu h
      cases hn
      rw [cellsOf_ty hty hτ] at hcl
      have hmem : ∀ f ∈ flds, ∃ x, DataW.trod enc P w base (fun _ => true) held n f.2 ((cs.drop f.1).take (P.cellsOf f.2)) = some x ∧ ∀ m ∈ x.1.weights P f.2, m ≤ B := by
        intro f hf
        rw [← hfl] at hf
        obtain ⟨fl, hfl', rfl⟩ := List.mem_map.1 hf
        obtain ⟨i, hi, hii⟩ := List.mem_iff_getElem.1 hfl'
        have e1 : fs[i]? = some fl := by rw [← Array.getElem?_toList, List.getElem?_eq_getElem hi, hii]
        have hix : i < xs.length := by rw [hxl]; simpa using hi
        refine ⟨xs[i], by rw [hall i fl e1]; exact List.getElem?_eq_getElem hix, fun m hm => hwt m ?_⟩
        rw [hx]
        simp only [DataW.weights, hu]
        exact DataW.weights_mem_each (j := i) (by rw [List.getElem?_map, List.getElem?_eq_getElem hi, hii]; rfl) (by rw [List.getElem?_map, List.getElem?_eq_getElem hix]; rfl) m hm
      have hind : ∀ (t : Nat) (τ : Ty) (l : List Value) (x : DataW H × List MemPlace), t ∈ L → DataW.trod enc P w base (fun _ => true) held n t l = some x → ty t = some τ → (∀ m ∈ x.1.weights P t, m ≤ B) → ∃ row, l.length = τ.size ∧ row.length = τ.size ∧ HasTy ty B n t row ∧ ∀ (j : Nat) (d : D), row[j]? = some d → ∃ v, l[j]? = some v ∧ Rd (fun _ => True) w d v :=
        fun t τ l x ht h h' h'' => trod_rd hty hL B n t τ l x ht h h' h''
      obtain ⟨row, g1, g2, g3⟩ : ∃ row, 0 + row.length = τ.size ∧ HasFs (HasTy ty B n) ty flds row ∧ ∀ (j : Nat) (d : D), row[j]? = some d → ∃ v, cs[0 + j]? = some v ∧ Rd (fun _ => True) w d v := by
        have key : ∀ (fs : List (Nat × Nat)) (o : Nat), (∀ f ∈ fs, f.2 ∈ L) → contig ty τ.size fs o = true → (∀ f ∈ fs, ∃ x, DataW.trod enc P w base (fun _ => true) held n f.2 ((cs.drop f.1).take (P.cellsOf f.2)) = some x ∧ ∀ m ∈ x.1.weights P f.2, m ≤ B) →
            ∃ row, o + row.length = τ.size ∧ HasFs (HasTy ty B n) ty fs row ∧ ∀ (j : Nat) (d : D), row[j]? = some d → ∃ v, cs[o + j]? = some v ∧ Rd (fun _ => True) w d v := by
          intro fs
          induction fs with
          | nil => intro o _ hc _; simp only [contig, beq_iff_eq] at hc; exact ⟨[], by simpa using hc, rfl, by simp⟩
          | cons ft fs ih =>
            obtain ⟨f, t⟩ := ft
            intro o hm hc hf
            simp only [contig] at hc
            split at hc
            case h_2 => cases hc
            rename_i τ' hτ'
            simp only [Bool.and_eq_true, beq_iff_eq] at hc
            obtain ⟨rfl, hc⟩ := hc
            obtain ⟨row2, h1, h2, h3⟩ := ih (f + τ'.size) (fun g hg => hm g (List.mem_cons_of_mem _ hg)) hc fun g hg => hf g (List.mem_cons_of_mem _ hg)
            obtain ⟨x, hx, hxw⟩ := hf (f, t) (List.mem_cons_self ..)
            obtain ⟨row1, g1, g2, g3, g4⟩ := hind t τ' _ x (hm (f, t) (List.mem_cons_self ..)) hx hτ' hxw
            rw [cellsOf_ty hty hτ'] at g1 g4
            refine ⟨row1 ++ row2, by rw [List.length_append]; omega, ⟨τ', row1, row2, hτ', rfl, g2, g3, h2⟩, fun j d hj => ?_⟩
            by_cases hlt : j < row1.length
            · rw [List.getElem?_append_left hlt] at hj
              obtain ⟨v, g5, g6⟩ := g4 j d hj
              rw [List.getElem?_take_of_lt (by omega), List.getElem?_drop] at g5
              exact ⟨v, g5, g6⟩
            · rw [List.getElem?_append_right (by omega)] at hj
              obtain ⟨v, g5, g6⟩ := h3 _ d hj
              exact ⟨v, by rw [show f + j = f + τ'.size + (j - row1.length) by omega]; exact g5, g6⟩
        exact key flds 0 hd.1 hd.2 hmem
      refine ⟨row, hcl, by omega, ?_, fun j d hj => by simpa using g3 j d hj⟩
      simp only [HasTy, hτ, hs]; exact g2
    | array m e => rw [hs] at hd; cases hd
    | map k e => rw [hs] at hd; cases hd
    | slice e =>
      rw [hs] at hsh hd; simp only [ShFact] at hsh
      simp only [Bool.and_eq_true, List.contains_iff_mem] at hd
      obtain ⟨heL, hd⟩ := hd
      split at hd
      case h_2 => cases hd
      rename_i τe hτe
      have hpos := of_decide_eq_true hd
      have hsz := h1 (by unfold Ty.agg; rw [hs])
      rcases DataW.trod_slice hsh h with ⟨hcs, _⟩ | ⟨a, len, cap, elems, rest, n', hn, hcs, hx, hb, hl, hm, hlen, hel, hsp, _⟩
      · refine one (.sl []) _ hsz hcs (.nil _ _) ?_
        simp only [HasTy, hτ, hs]
        exact ⟨[], rfl, fun _ _ => by simp, by simp⟩
      · cases hn
        rcases Nat.eq_zero_or_pos len with h0 | h0
        · subst h0
          refine one (.sl []) _ hsz hcs (.nil _ _) ?_
          simp only [HasTy, hτ, hs]
          exact ⟨[], rfl, fun _ _ => by simp, by simp⟩
        have hce := cellsOf_ty hty hτe
        have hrow : ∀ i, i < len → ∃ row : List D, ∃ l : List Value, w.cells? base (a.add (i * τe.size)) τe.size = some l ∧ l.length = τe.size ∧ row.length = τe.size ∧ HasTy ty B n e row ∧ ∀ (j : Nat) (d : D), row[j]? = some d → ∃ v, l[j]? = some v ∧ Rd (fun _ => True) w d v := by
          intro i hi
          have h2 := hel i hi
          rw [hce] at h2
          have h3 : elems[i]? = some elems[i] := List.getElem?_eq_getElem (by omega)
          rw [h3] at h2
          obtain ⟨l, h4, h5⟩ := Option.bind_eq_some_iff.1 h2
          obtain ⟨row, g1, g2, g3, g4⟩ := trod_rd hty hL B n e τe l _ heL h5 hτe fun m hm => hwt m (by
            rw [hx]; simp only [DataW.weights, hsh, List.mem_cons, List.mem_append]
            exact .inr (.inl (weightsAll_mem (List.mem_map.2 ⟨elems[i], List.getElem_mem _, rfl⟩) hm)))
          exact ⟨row, l, h4, g1, g2, g3, g4⟩
        obtain ⟨R, hR⟩ := choose_lt hrow
        obtain ⟨V, hV⟩ := choose_lt (fun i hi => hR i hi)
        obtain ⟨b, o, sp⟩ := a
        have hcell : ∀ i, i < len → ∀ j, j < τe.size → w.cell? ((⟨b, o, sp⟩ : Addr).add (i * τe.size) |>.add j) = (V i)[j]? := fun i hi j hj => (World.cells?_some (hV i hi).1).2.2 j hj
        have h00 := hcell 0 h0 0 hpos
        simp only [Nat.zero_mul, Addr.add, if_true] at h00
        have hv0 : (V 0)[0]? = some ((V 0)[0]'(by rw [(hV 0 h0).2.1]; exact hpos)) := List.getElem?_eq_getElem _
        rw [hv0] at h00
        simp only [World.cell?] at h00
        split at h00
        case h_2 => cases h00
        rename_i c T fr hheap
        split at h00
        · cases h00
        rename_i hsp0
        have : sp = none := by cases sp with
          | none => rfl
          | some s => simp at hsp0
        subst this
        have hcell' : ∀ i, i < len → ∀ j, j < τe.size → c[o + i * τe.size + j]? = (V i)[j]? := fun i hi j hj => by
          have h2 := hcell i hi j hj
          rw [add_none, add_none] at h2
          simp only [World.cell?, hheap] at h2
          simpa using h2
        refine one (.sl ((List.range len).map R)) _ hsz hcs ?_ ?_
        · have key := Rd.sl (S := fun _ => True) (w := w) (rows := (List.range len).map R) (b := b) (o := o) (cap := cap) (sz := τe.size) (cs := c) (T := T) (fr := fr) (fun i j => ((V i)[j]?).getD undef) trivial hheap (by simpa using hl) hm
            (fun i r hi => ?_) (fun i r j x hi hj => ?_) (fun i r j x hi hj => ?_)
          · simpa using key
          · have hlt := (List.getElem?_eq_some_iff.1 hi).1
            simp at hlt
            rw [List.getElem?_map, List.getElem?_range hlt] at hi
            simp at hi; subst hi; exact (hV i hlt).2.2.1
          · have hlt := (List.getElem?_eq_some_iff.1 hi).1
            simp at hlt
            rw [List.getElem?_map, List.getElem?_range hlt] at hi
            simp at hi; subst hi
            obtain ⟨v, g1, _⟩ := (hV i hlt).2.2.2.2 j x hj
            have hjl := (List.getElem?_eq_some_iff.1 hj).1
            rw [(hV i hlt).2.2.1] at hjl
            rw [hcell' i hlt j hjl, g1]; rfl
          · have hlt := (List.getElem?_eq_some_iff.1 hi).1
            simp at hlt
            rw [List.getElem?_map, List.getElem?_range hlt] at hi
            simp at hi; subst hi
            obtain ⟨v, g1, g2⟩ := (hV i hlt).2.2.2.2 j x hj
            rw [g1]; exact g2
        · simp only [HasTy, hτ, hs]
          refine ⟨_, rfl, fun τ' hτ' => ?_, fun r hr => ?_⟩
          · rw [hτe] at hτ'; cases hτ'
            have h2 := hwt ((elems.length + rest.length) * P.bytesOf e) (by rw [hx]; simp [DataW.weights, hsh])
            have h3 : P.bytesOf e = τe.bytes := by
              obtain ⟨i, z, h1, _, _, h4, _⟩ := (hty e τe hτe).info
              simp [Program.bytesOf, h1, h4]
            rw [h3, hlen, Nat.add_mul] at h2
            simp; omega
          obtain ⟨i, hi, rfl⟩ := List.mem_map.1 hr
          exact (hV i (List.mem_range.1 hi)).2.2.2.1
end
end PSL
namespace PSL
open Go Go.RowKit Go.ChangeShapes Go.WideShapes Go.ChangeAt

def avOf (τ : Ty) (row : List D) : AV :=
  match τ.agg with
  | true => .agg (row.map .d)
  | false => match row with
    | [x] => .d x
    | _ => .any

/-- Arguments as data of types. -/
def ArgsAre (ty : Nat → Option Ty) (B : Nat) : List Nat → List AV → Prop
  | [], [] => True
  | t :: ts, a :: axs => (∃ (n : Nat) (τ : Ty) (row : List D), ty t = some τ ∧ HasTy ty B n t row ∧ row.length = τ.size ∧ a = avOf τ row) ∧ ArgsAre ty B ts axs
  | _, _ => False
section
variable {H : Type} {enc : TypeId × Value → H} {P : Program} {ty : Nat → Option Ty}

theorem rvs_ds {S : Nat → Prop} {w : World} {φ : List Phy} {row : List D} {cs : List Value} (hl : row.length = cs.length) (h : ∀ (j : Nat) (d : D), row[j]? = some d → ∃ v, cs[j]? = some v ∧ Rd S w d v) : RVs S w φ (row.map .d) cs :=
  RVs.of_get (by simpa using hl) fun i x v hx hv => by
    rw [List.getElem?_map] at hx
    cases hr : row[i]? with
    | none => rw [hr] at hx; cases hx
    | some d =>
      rw [hr] at hx; simp at hx; subst hx
      obtain ⟨v', h1, h2⟩ := h i d hr
      rw [hv] at h1; cases h1
      simpa only [RV] using h2

theorem open_arg (hty : TyOk P ty) {L : List Nat} (hL : ∀ t ∈ L, dT ty L t = true) {B : Nat} {W : World} {base t : Nat} {τ : Ty} {v : Value} {d : DataW H} {ps : List MemPlace} (ht : t ∈ L) (hτ : ty t = some τ)
    (hok : Value.okWide P W .any base t v) (h : DataW.Trod enc P W 0 (fun _ => true) true t v d ps) (hw : ∀ m ∈ d.weights P t, m ≤ B) :
    ∃ (n : Nat) (row : List D), HasTy ty B n t row ∧ row.length = τ.size ∧ RV (fun _ => True) W [] (avOf τ row) v := by
  obtain ⟨n, hn⟩ := h
  obtain ⟨row, h1, h2, h3, h4⟩ := trod_rd hty hL B n t τ _ _ ht hn hτ hw
  refine ⟨n, row, h3, h2, ?_⟩
  have hd := hL t ht
  have hsh := (hty t τ hτ).sh
  have hone := (hty t τ hτ).one
  unfold dT at hd
  rw [hτ] at hd
  simp only at hd
  have single : (∃ c, v.cells.toList = [c] ∧ v = c) → τ.agg = false → RV (fun _ => True) W [] (avOf τ row) v := by
    rintro ⟨c, hc, rfl⟩ ha
    unfold avOf
    rw [ha]
    have hs := hone ha
    match row, h2 with
    | [x], _ =>
      simp only
      obtain ⟨v', h5, h6⟩ := h4 0 x rfl
      rw [hc] at h5; simp at h5; subst h5
      simpa only [RV] using h6
    | [], h => rw [hs] at h; simp at h
    | _ :: _ :: _, h => rw [hs] at h; simp at h
  cases hs : τ.sh with
  | one => rw [hs] at hd; cases hd
  | array m e => rw [hs] at hd; cases hd
  | map k e => rw [hs] at hd; cases hd
  | int k =>
    rw [hs] at hsh; simp only [ShFact] at hsh
    obtain ⟨m, rfl⟩ := okWide_int hsh hok
    exact single ⟨_, rfl, rfl⟩ (by unfold Ty.agg; rw [hs])
  | bool =>
    rw [hs] at hsh; simp only [ShFact] at hsh
    obtain ⟨m, rfl⟩ := okWide_bool hsh hok
    exact single ⟨_, rfl, rfl⟩ (by unfold Ty.agg; rw [hs])
  | str =>
    rw [hs] at hsh; simp only [ShFact] at hsh
    obtain ⟨m, rfl⟩ := okWide_string hsh hok
    exact single ⟨_, rfl, rfl⟩ (by unfold Ty.agg; rw [hs])
  | slice e =>
    rw [hs] at hsh; simp only [ShFact] at hsh
    obtain ⟨a, l, c, rfl⟩ := okWide_slice hsh hok
    exact single ⟨_, rfl, rfl⟩ (by unfold Ty.agg; rw [hs])
  | struct flds =>
    rw [hs] at hsh; simp only [ShFact] at hsh
    obtain ⟨fs, hu, _⟩ := hsh
    obtain ⟨cs, rfl, _⟩ := okWide_struct hu hok
    have ha : τ.agg = true := by unfold Ty.agg; rw [hs]
    unfold avOf
    rw [ha]
    simp only [Value.cells] at h1 h4
    simp only [RV]
    exact ⟨cs.toList, by simp, rvs_ds (by rw [h1, h2]) h4⟩

theorem open_args (hty : TyOk P ty) {L : List Nat} (hL : ∀ t ∈ L, dT ty L t = true) {B : Nat} {W : World} {base : Nat} : ∀ (ts : List Nat) (vs : List Value) (ds : List (DataW H)) (ps : List MemPlace), (∀ t ∈ ts, t ∈ L ∧ (ty t).isSome = true) → DataW.TrodAll enc P W 0 (fun _ => true) true ts vs ds ps →
    (∀ (j : Nat) (t : Nat) (v : Value), ts[j]? = some t → vs[j]? = some v → Value.okWide P W .any base t v) → (∀ m ∈ DataW.weightsEach P ts ds, m ≤ B) → ∃ axs, RVs (fun _ => True) W [] axs vs ∧ ArgsAre ty B ts axs ∧ ds.length = ts.length
  | [], [], [], _, _, _, _, _ => ⟨[], by simp [RVs], trivial, rfl⟩
  | [], _ :: _, _, _, _, h, _, _ => by simp [DataW.TrodAll] at h
  | [], [], _ :: _, _, _, h, _, _ => by simp [DataW.TrodAll] at h
  | _ :: _, [], _, _, _, h, _, _ => by simp [DataW.TrodAll] at h
  | _ :: _, _ :: _, [], _, _, h, _, _ => by simp [DataW.TrodAll] at h
  | t :: ts, v :: vs, d :: ds, ps, hl, h, hok, hw => by
    simp only [DataW.TrodAll] at h
    obtain ⟨p, q, h1, h2, rfl⟩ := h
    obtain ⟨htL, htS⟩ := hl t (by simp)
    obtain ⟨τ, hτ⟩ := Option.isSome_iff_exists.1 htS
    simp only [DataW.weightsEach, List.mem_append] at hw
    obtain ⟨n, row, h3, h4, h5⟩ := open_arg hty hL htL hτ (hok 0 t v rfl rfl) h1 fun m hm => hw m (.inl hm)
    obtain ⟨axs, h6, h7, h8⟩ := open_args hty hL ts vs ds q (fun t ht => hl t (by simp [ht])) h2 (fun j t v ht hv => hok (j + 1) t v (by simpa using ht) (by simpa using hv)) fun m hm => hw m (.inr hm)
    exact ⟨avOf τ row :: axs, by simp only [RVs]; exact ⟨h5, h6⟩, ⟨⟨n, τ, row, hτ, h3, h4, rfl⟩, h7⟩, by simp [h8]⟩

theorem trodAll_stays (hl : laidOutB P = true) {W W' : World} (hb : Below W.heap.size W W') {sp : Nat → Bool} : ∀ (ts : List Nat) (vs : List Value) (ds : List (DataW H)) (ps : List MemPlace), (∀ t ∈ ts, P.readableRec t = true ∧ t < P.types.size) → DataW.TrodAll enc P W 0 (fun _ => true) true ts vs ds ps →
    (∀ p ∈ ps, p.block < W.heap.size ∧ sp p.block = true) → DataW.TrodAll enc P W' 0 sp true ts vs ds ps
  | [], [], [], _, _, h, _ => h
  | [], _ :: _, _, _, _, h, _ => by simp [DataW.TrodAll] at h
  | [], [], _ :: _, _, _, h, _ => by simp [DataW.TrodAll] at h
  | _ :: _, [], _, _, _, h, _ => by simp [DataW.TrodAll] at h
  | _ :: _, _ :: _, [], _, _, h, _ => by simp [DataW.TrodAll] at h
  | t :: ts, v :: vs, d :: ds, ps, hr, h, hp => by
    simp only [DataW.TrodAll] at h ⊢
    obtain ⟨p, q, h1, h2, rfl⟩ := h
    obtain ⟨hr1, hr2⟩ := hr t (by simp)
    exact ⟨p, q, WideElems.Trod_stays hl hr1 hr2 h1 (fun x hx => hb.same (hp x (by simp [hx])).1) (fun x hx => (hp x (by simp [hx])).2),
      trodAll_stays hl hb ts vs ds q (fun t ht => hr t (by simp [ht])) h2 (fun x hx => hp x (by simp [hx])), rfl⟩

theorem law_post {f : Func} {s : ChangeSpec} {apart fresh handsOn again : Bool} {W W' : World} {args : Array Value} {v : Value} {ds gs : List (DataW H)} {before pa pv : List MemPlace}
    (hW : DataW.Whole enc P f.params.toList s.vars apart W args.toList ds gs before)
    (hres : ∀ (b : Nat) (sp : Nat → Bool) (hd : Bool), DataW.TrodAll enc P W' b sp hd f.resultTypes.toList (v.resultList f.resultTypes.size) (s.fn H (ds ++ gs)).results [])
    (hargs : ∀ sp : Nat → Bool, (∀ p ∈ before, sp p.block = true) → DataW.TrodAll enc P W' 0 sp true f.params.toList args.toList (s.fn H (ds ++ gs)).args pa)
    (hvars : ∀ sp : Nat → Bool, (∀ p ∈ before, sp p.block = true) → DataW.TrodVars enc P W' sp s.vars (s.fn H (ds ++ gs)).vars pv)
    (hps : before = pa ++ pv) (hb : Below W.heap.size W W')
    (hok : ∀ (j : Nat) (t : TypeId) (r : Value), f.resultTypes[j]? = some t → (v.resultList f.resultTypes.size)[j]? = some r → Value.okWide P W' .any 0 t r) :
    s.post enc P f apart fresh handsOn again W args v W' := by
  have hlt : ∀ p ∈ before, p.block < W.heap.size := fun p hp => hW.lt p hp
  have hold : ∀ p ∈ before, (fun b => decide (b < W.heap.size)) p.block = true := fun p hp => by simpa using hlt p hp
  refine ⟨ds, gs, before, [], pa, pv, hW, hres _ _ _, hargs _ hold, hvars _ hold, World.keptBut_mono (fun p hp => ⟨hp, ?_⟩) (hb.frame (· ∈ before)), fun _ => ?_⟩
  · rw [hps, List.mem_append] at hp
    exact Or.inr hp
  · obtain ⟨_, _, _, _, _, hz, hn⟩ := hW
    refine ⟨hok, _, _, ([] ++ pa) ++ pv, ⟨[] ++ pa, pv, trodAll_append (hargs _ (fun _ _ => rfl)) (hres _ _ _), hvars _ (fun _ _ => rfl), rfl, ?_, ?_⟩, ?_⟩
    · intro b off hp
      have hin : MemPlace.cell b off ∈ before := by rw [hps]; simpa using hp
      rw [hb.frozen (hlt _ hin)]
      exact hz b off hin
    · intro ha
      have := hn ha
      rw [hps] at this
      simpa using this
    · intro p hp _
      rw [hps]
      simpa using hp

/-- What a law's spec says. -/
structure LawSpec (s : ChangeSpec) (n : Nat) : Prop where
  vars : s.vars = []
  fn : ∀ (H : Type) (ds : List (DataW H)), ds.length = n → s.fn H ds = { results := [.lit (.bool true)], args := ds }

theorem law_calls (hty : TyOk P ty) {L : List Nat} (hL : ∀ t ∈ L, dT ty L t = true) (hl : laidOutB P = true) {f : Nat} {fn : Func} {s : ChangeSpec} {apart fresh handsOn again : Bool} {tb : Nat} (hs : LawSpec s fn.params.size) (hr : fn.resultTypes = #[tb]) (htb : P.underlying tb = some .bool)
    (hpar : ∀ t ∈ fn.params.toList, t ∈ L ∧ (ty t).isSome = true) (hrd : ∀ t ∈ fn.params.toList, P.readableRec t = true ∧ t < P.types.size)
    (hctr : ∀ axs, ArgsAre ty reachBytes fn.params.toList axs → PCtr P f axs (bV true)) {W : World} {base : Nat} {args : Array Value} {ds gs : List (DataW H)} {before : List MemPlace} {vt : List Nat}
    (hok : ∀ (j : Nat) t v, fn.params[j]? = some t → args[j]? = some v → Value.okWide P W .any base t v) (hW : DataW.Whole enc P fn.params.toList s.vars apart W args.toList ds gs before)
    (hwt : (DataW.weightsEach P (fn.params.toList ++ vt) (ds ++ gs)).all (· ≤ reachBytes) = true) :
    Calls P f args W fun e W' => ∃ v, e = .returned v ∧ s.post enc P fn apart fresh handsOn again W args v W' := by
  have hW' := hW
  obtain ⟨p, q, hA, hV, rfl, _, _⟩ := hW
  rw [hs.vars] at hV
  obtain ⟨rfl, rfl⟩ := trodVars_none hV
  have hdl : ∀ {ts : List Nat} {vs : List Value} {ds : List (DataW H)} {ps : List MemPlace}, DataW.TrodAll enc P W 0 (fun _ => true) true ts vs ds ps → ds.length = ts.length := by
    intro ts
    induction ts with
    | nil => intro vs ds ps h; cases vs <;> cases ds <;> simp [DataW.TrodAll] at h ⊢
    | cons t ts ih => intro vs ds ps h; cases vs <;> cases ds <;> simp [DataW.TrodAll] at h ⊢; obtain ⟨_, _, _, h, _⟩ := h; exact ih h
  have hlen := hdl hA
  have hw : ∀ m ∈ DataW.weightsEach P fn.params.toList ds, m ≤ reachBytes := fun m hm => by
    have key : ∀ (ts vt : List Nat) (ds : List (DataW H)), ds.length = ts.length → DataW.weightsEach P (ts ++ vt) (ds ++ []) = DataW.weightsEach P ts ds := by
      intro ts
      induction ts with
      | nil => intro vt ds h; have : ds = [] := List.length_eq_zero_iff.1 (by simpa using h); subst this; cases vt <;> simp [DataW.weightsEach]
      | cons t ts ih => intro vt ds h; cases ds with
        | nil => simp at h
        | cons d ds => simp only [List.cons_append, DataW.weightsEach]; rw [ih vt ds (by simpa using h)]
    rw [key _ _ _ hlen, List.all_eq_true] at hwt
    simpa using hwt m hm
  obtain ⟨axs, h1, h2, _⟩ := open_args hty hL fn.params.toList args.toList ds p hpar hA (fun j t v ht hv => hok j t v (by simpa using ht) (by simpa using hv)) hw
  have hc := (hctr axs h2).run (fun _ => True) W args.toList (fun _ _ => trivial) h1
  rw [show args.toList.toArray = args from by simp] at hc
  refine hc.mono ?_
  rintro e W' ⟨v, rfl, hv, hb⟩
  simp only [bV, RV] at hv
  cases hv
  have hds : ds.length = fn.params.size := by rw [hlen]; simp
  have hfn : s.fn H (ds ++ []) = { results := [.lit (.bool true)], args := ds } := by rw [List.append_nil]; exact hs.fn H ds hds
  refine ⟨_, rfl, law_post (pa := p) (pv := []) hW' (fun b sp hd => ?_) (fun sp hsp => ?_) (fun sp hsp => ?_) rfl hb ?_⟩
  · rw [hfn, hr]
    exact trodAll_mk1 (shut_bool htb true)
  · rw [hfn]
    exact trodAll_stays hl hb _ _ _ _ hrd hA fun x hx => ⟨hW'.lt x (by simp [hx]), hsp x (by simp [hx])⟩
  · rw [hfn, hs.vars]; rfl
  · exact ok_one hr rfl (okWide_bool_mk htb true)
end
end PSL
namespace PSL
open Go Go.RowKit
section
variable {g : G} {pf : Nat → Cls} {ops : Array Oper} {Fin : Exit → Act → World → Prop}

open Classical in
/-- A load of a box that what is beside it leaves alone. -/
theorem R_loadJ (hg : GOk g) (m : Nat) {dst : Option Nat} {T : Nat} {x : Operand} {ty : Nat} {pos : String} {after : Array Edge} {gd : Option (Nat × Bool)} {rest : List Oper} {k : List It} {E : Env} {objs : List Ob}
    {i off : Nat} {l : List AV} {τ : Ty} {v : AV} (hi : ¬ mayO g.φ0.length m i (.box l))
    (hgd : guardA ops.toList E gd = some true) (hd : dstOk ⟨g.ty, g.N⟩ dst = true) (hcl : ldClsAt pf x = .look (m + 1)) (hx : ev E x = .lo i off) (ho : nth objs i = some (.box l)) (hT : g.ty T = some τ) (hp : packA τ l off = some v)
    (hr : R g pf Fin (.dr ops rest :: k) (putO E dst v) objs) : R g pf Fin (.dr ops (⟨dst, .load T x, ty, pos, after, gd⟩ :: rest) :: k) E objs := by
  refine R_op ?_ hr
  simp only [clsOf, hcl]
  refine LocOp.lookingM hg m hgd hd (by simp) fun φ a w objs₁ hgr hρ hs => ?_
  simp only [Op.operands] at hρ
  have hxv := hρ x (by simp)
  rw [hx] at hxv
  have hxv' := hxv
  simp only [RV] at hxv'
  obtain ⟨b, hb, _⟩ := hxv'
  have ho : nth objs₁ i = some (.box l) := by
    rw [nth_eq] at ho ⊢
    exact Gr.same' hgr ho (by rw [← hs.len]; exact (List.getElem?_eq_some_iff.1 hb).1) hi
  refine stepOp_ok (ρA := fun y => if y = x then .lo i off else .any) hg.ty hs (fun y => ?_) ?_
  · split
    · rename_i h; rw [h]; exact hxv
    · simp [RV]
  · simp only [stepOp, stepS, stepL, hT, if_true, ho, hp]

/-- A load of a box of the call's own, that calls may be drawn ahead of or behind. -/
theorem R_load4 (hg : GOk g) {dst : Option Nat} {T : Nat} {x : Operand} {ty : Nat} {pos : String} {after : Array Edge} {gd : Option (Nat × Bool)} {rest : List Oper} {k : List It} {E : Env} {objs : List Ob}
    {i off : Nat} {l : List AV} {τ : Ty} {v : AV} (hi : g.φ0.length ≤ i)
    (hgd : guardA ops.toList E gd = some true) (hd : dstOk ⟨g.ty, g.N⟩ dst = true) (hcl : ldClsAt pf x = .look 4) (hx : ev E x = .lo i off) (ho : nth objs i = some (.box l)) (hT : g.ty T = some τ) (hp : packA τ l off = some v)
    (hr : R g pf Fin (.dr ops rest :: k) (putO E dst v) objs) : R g pf Fin (.dr ops (⟨dst, .load T x, ty, pos, after, gd⟩ :: rest) :: k) E objs :=
  R_loadJ hg 3 (by unfold mayO Ob.lvl; simp only; rw [if_neg (by omega)]; omega) hgd hd hcl hx ho hT hp hr

/-- How long a slice of the call's own is, beside a store that leaves it alone. -/
theorem R_lenJ (hg : GOk g) (m : Nat) {dst : Option Nat} {T : Nat} {x : Operand} {ty : Nat} {pos : String} {after : Array Edge} {gd : Option (Nat × Bool)} {rest : List Oper} {k : List It} {E : Env} {objs : List Ob}
    {id s sz q by_ e : Nat} {z : List Value} {rows : List (List D)} {n : Int} (hi : ¬ mayO g.φ0.length m id (.arr sz s rows))
    (hgd : guardA ops.toList E gd = some true) (hd : dstOk ⟨g.ty, g.N⟩ dst = true) (hcl : lenCls pf #[x] = .look (m + 1)) (hx : ev E x = .ow id s) (ho : nth objs id = some (.arr sz s rows)) (hT : g.ty T = some ⟨q, by_, z, .slice e⟩) (hn : (rows.length : Int) = n)
    (hr : R g pf Fin (.dr ops rest :: k) (putO E dst (iV n)) objs) : R g pf Fin (.dr ops (⟨dst, .call { callee := .builtin .len, args := #[x], argTypes := #[T] }, ty, pos, after, gd⟩ :: rest) :: k) E objs := by
  subst hn
  refine R_op ?_ hr
  simp only [clsOf, hcl]
  refine LocOp.lookingM hg m hgd hd (by simp) fun φ a w objs₁ hgr hρ hs => ?_
  simp only [Op.operands, Call.operands] at hρ
  have hxv := hρ x (by simp)
  rw [hx] at hxv
  simp only [RV] at hxv
  obtain ⟨_, ph, hph, hxv⟩ := hxv
  have ho : nth objs₁ id = some (.arr sz s rows) := by
    rw [nth_eq] at ho ⊢
    exact Gr.same' hgr ho (by rw [← hs.len]; exact (List.getElem?_eq_some_iff.1 hph).1) hi
  have hk := obj_at hs hph ho
  cases ph <;> try (simp only [ObOk] at hk; done)
  simp only [ObOk] at hk
  obtain ⟨rfl, rfl, hlen, hk⟩ := hk
  have hv := (hxv _ _ _ _ rfl).2 rfl
  have hs2 : ∃ (p : Option Addr) (c : Nat), a.eval x = .slice p rows.length c := by
    rcases hk with ⟨a2, h1, rfl, _⟩ | ⟨b, o, cap, cs, T', h1, _⟩
    · exact ⟨_, _, hv.trans h1⟩
    · exact ⟨_, _, hv.trans h1⟩
  obtain ⟨p, c, hs2⟩ := hs2
  refine out_val hs (vv := .int .i64 rows.length) ?_ (by simp only [RV, iV]; exact .v _)
  have hu := und_slice hg hT
  simp only [execOp, resolve, Sem.run_bind, Sem.run_pure, Result.andThen_ok, invoke, builtin, List.map_toArray, List.map_cons, List.map_nil, hs2]
  simp [run_lenArr hu (.inr ⟨⟨_, rfl⟩, _, _, _, rfl, rfl⟩)]

/-- A call that turns what it is handed alone. -/
theorem R_callS3 (hg : GOk g) (hu : GUp g) (hF : g.F = Fence.wide ∧ g.dep = 0) (hY : ∀ (i l : Nat) (I : Nat → (Nat → Prop) → (Nat → Prop) → World → Prop) (B : Nat → Prop), g.φ0[i]? = some (Phy.ext l I B) → YStep g.P Fence.wide 0 g.Y l I g.S0) (is : List Nat) (objs' : List Ob) {Y : YP} {f : Nat} {axs : List AV} {objs0 objs1 : List Ob} {r : AV} (hc : SCtr g.P Y f axs objs0 r objs1) (hcc : (∃ (i l : Nat) (I : Nat → (Nat → Prop) → (Nat → Prop) → World → Prop) (B : Nat → Prop), g.φ0[i]? = some (Phy.ext l I B)) → Y = g.Y) {dst : Option Nat} {x : Operand} {args : Array Operand} {ts : Array Nat} {ty : Nat} {pos : String} {after : Array Edge} {gd : Option (Nat × Bool)}
    {rest : List Oper} {k : List It} {E : Env} {objs : List Ob} {fs cs : List AV} (hlt : ∀ i ∈ is, i < g.φ0.length)
    (hgd : guardA ops.toList E gd = some true) (hd : dstOk ⟨g.ty, g.N⟩ dst = true) (hcl : clsOf pf (.call { callee := .value x, args := args, argTypes := ts }) = .turn 3) (hx : ev E x = .clo f fs cs) (hok : isOk (len objs) is = true) (hpick : pickN objs is = some (objs0.map (renOb (rn is (len objs)))))
    (has : (fs ++ args.toList.map (ev E) ++ cs).map nrm = renL (rn is (len objs)) axs) (ho : putAll is (objs1.map (renOb (rn is (len objs)))) objs = objs')
    (hr : R g pf Fin (.dr ops rest :: k) (putO E dst (renA (rn is (len objs)) r)) objs') :
    R g pf Fin (.dr ops (⟨dst, .call { callee := .value x, args := args, argTypes := ts }, ty, pos, after, gd⟩ :: rest) :: k) E objs := by
  subst ho
  refine R_op ?_ hr
  show LocOp g ops _ E objs (clsOf pf (.call { callee := .value x, args := args, argTypes := ts })) _ _
  rw [hcl]
  have h := loc_callS (ops := ops) (after := after) (pos := pos) (ty := ty) (ts := ts) (dst := dst) hg hu hF hY is hc hcc hgd hd hx hok hpick has
  obtain ⟨hnd, hlo⟩ := isOk_spec hok
  rw [len_eq] at hlo
  have hl0 : is.length ≤ objs1.length := by
    have h1 := pickN_len hpick
    have h2 := hc.len
    simp at h1; omega
  refine ⟨fun hn => absurd rfl (hn 3), fun b hb _ => ?_, fun E₁ o₁ o₁' a w h1 h2 h3 => h.step E₁ o₁ o₁' a w h1 (by
    rcases h2 with ⟨h2, _⟩ | ⟨m, h2, _⟩ | h2
    · cases h2
    · cases h2
    · exact .inr (.inr h2)) h3⟩
  cases hb
  intro i y hi
  have hil := (List.getElem?_eq_some_iff.1 hi).1
  by_cases hm : i ∈ is
  · have hil2 := hlt i hm
    have : i < (putAll is (objs1.map (renOb (rn is (len objs)))) objs).length := by
      rw [putAll_length (by simpa using hl0)]; omega
    refine ⟨_, List.getElem?_eq_getElem this, .inr ⟨?_, ?_⟩⟩
    · exact .inl ⟨by omega, by unfold Ob.lvl; split <;> (try split) <;> omega⟩
    · exact .inl ⟨by omega, by unfold Ob.lvl; split <;> (try split) <;> omega⟩
  · exact ⟨y, by rw [putAll_other hm hil]; exact hi, .inl rfl⟩
end
end PSL
namespace PSL
open Go Go.RowKit
section
variable {g : G} {pf : Nat → Cls} {ops : Array Oper} {Fin : Exit → Act → World → Prop}

/-- An array's value, of all its elements. -/
theorem R_buildA (hg : GOk g) {dst : Option Nat} {T : Nat} {parts : Array (Nat × Operand)} {ty : Nat} {pos : String} {after : Array Edge} {gd : Option (Nat × Bool)} {rest : List Oper} {k : List It} {E : Env} {objs : List Ob}
    {n sz by_ e : Nat} {z : List Value} {τ : Ty} {rows : List (List D)} (l : List AV)
    (hgd : guardA ops.toList E gd = some true) (hd : dstOk ⟨g.ty, g.N⟩ dst = true) (hT : g.ty T = some ⟨sz, by_, z, .array n e⟩) (he : g.ty e = some τ)
    (hrows : rowsOf (parts.toList.map fun p => (p.1, ev E p.2)) 0 τ.size = some rows) (hn : parts.size = n) (hsz : sz = n * τ.size) (hl : rows.flatten.map AV.d = l)
    (hr : R g pf Fin (.dr ops rest :: k) (putO E dst (.agg l)) objs) : R g pf Fin (.dr ops (⟨dst, .build T parts, ty, pos, after, gd⟩ :: rest) :: k) E objs := by
  subst hl
  refine R_op (LocOp.quiet hg hgd hd (by simp) fun φ o₁ a w hρ hs => ?_) hr
  simp only [Op.operands] at hρ
  have hτ := hg.ty _ _ hT
  have hτe := hg.ty _ _ he
  have hsh := hτ.sh
  simp only [ShFact] at hsh
  obtain ⟨zv, hz1, hz2⟩ := run_zeroValue hτ w
  have hzl := hτ.zl
  have hzs : zv.cells.toList.length = n * τ.size := by rw [hz2, hzl]; exact hsz
  have hpm : (parts.map fun (i, x) => (i, a.eval x)).toList = parts.toList.map fun p => (p.1, a.eval p.2) := by simp [Array.toList_map]
  have hev : ∀ p ∈ parts.toList, RV (SS g.S0 φ) w φ (ev E p.2) (a.eval p.2) := fun p hp => hρ p.2 (by simp at hp ⊢; exact ⟨p.1, hp⟩)
  obtain ⟨cells, h1, h2, h2', h3⟩ := rows_fill (S0 := g.S0) (φ := φ) (w := w) hτe (parts.toList.map fun p => (p.1, ev E p.2)) (parts.toList.map fun p => (p.1, a.eval p.2)) 0 rows [] zv.cells.toList
    (by simp [List.map_map, Function.comp_def]) (by simp only [List.map_map]; exact RVs.map _ _ _ fun p hp => hev p hp) hrows (by simp) (by rw [hzs, ← hn]; simp)
  simp only [List.nil_append] at h1
  refine out_val hs (vv := .agg cells.toArray) ?_ ?_
  · have hrun : (Instr.build T (parts.map fun (i, x) => (i, a.eval x))).run g.P w = .ok (.agg cells.toArray) w := by
      have hzc : zv.cells = zv.cells.toList.toArray := by simp
      simp only [Instr.build, Sem.run_bind, hz1, Result.andThen_ok, underlying, run_program, hsh, Sem.run_pure, run_sizeOf hτe, hpm]
      rw [hzc, h1]
      simp
    simp only [execOp, Sem.run_bind, hrun, Result.andThen_ok, Sem.run_pure]
  · simp only [RV]
    refine ⟨cells, rfl, ?_⟩
    have hfl : ∀ (rs : List (List D)) (cs : List Value), cs.length = rs.length * τ.size → (∀ (i : Nat) (r : List D), rs[i]? = some r → r.length = τ.size ∧ ∀ (j : Nat) (x : D), r[j]? = some x → ∃ v, cs[i * τ.size + j]? = some v ∧ Rd (SS g.S0 φ) w x v) → RVs (SS g.S0 φ) w φ (rs.flatten.map AV.d) cs := by
      intro rs
      induction rs with
      | nil => intro cs hc _; have : cs = [] := List.length_eq_zero_iff.1 (by simpa using hc); subst this; simp [RVs]
      | cons r rs ih =>
        intro cs hc hg
        obtain ⟨g1, g2⟩ := hg 0 r rfl
        have hlen : τ.size ≤ cs.length := by rw [hc, List.length_cons, Nat.succ_mul]; omega
        rw [List.flatten_cons, List.map_append, ← List.take_append_drop τ.size cs]
        refine RVs.append (RVs.of_get (by simp [g1]; omega) fun j u v hu hv => ?_) (ih _ (by rw [List.length_drop, hc, List.length_cons, Nat.succ_mul]; omega) fun i r' hi => ?_)
        · rw [List.getElem?_map] at hu
          cases hj : r[j]? with
          | none => rw [hj] at hu; cases hu
          | some x =>
            rw [hj] at hu; simp only [Option.map_some, Option.some.injEq] at hu; subst hu
            obtain ⟨v', h4, h5⟩ := g2 j x hj
            have hjl := (List.getElem?_eq_some_iff.1 hj).1
            rw [List.getElem?_take_of_lt (by omega)] at hv
            rw [Nat.zero_mul, Nat.zero_add, hv] at h4; cases h4
            simpa only [RV] using h5
        · obtain ⟨g3, g4⟩ := hg (i + 1) r' (by simpa using hi)
          refine ⟨g3, fun j x hj => ?_⟩
          obtain ⟨v, h4, h5⟩ := g4 j x hj
          refine ⟨v, ?_, h5⟩
          rw [List.getElem?_drop, ← h4]; congr 1; rw [Nat.succ_mul]; omega
    exact hfl rows cells h2 h3
end
end PSL
namespace PSL
open Go Go.RowKit
section
variable {g : G} {pf : Nat → Cls} {ops : Array Oper} {Fin : Exit → Act → World → Prop}

theorem run_makeSlice (hg : GOk g) {w : World} {T e q by_ : Nat} {z : List Value} {zv : Value} {by2 : Nat} {sh : Sh} {n : Int} (hT : g.ty T = some ⟨q, by_, z, .slice e⟩) (he : g.ty e = some ⟨1, by2, [zv], sh⟩) (h0 : 0 ≤ n) (hn : n * by2 ≤ 1000000) (hn2 : n ≤ 1000000) :
    (Instr.makeSlice T (.int .i64 n) (.int .i64 n)).run g.P w = .ok (.slice (some ⟨w.heap.size, 0, none⟩) n.toNat n.toNat) (w.alloc (.cells (List.replicate n.toNat zv).toArray e)) := by
  have hsl := (hg.ty _ _ hT).sh
  simp only [ShFact] at hsl
  have hτ := hg.ty _ _ he
  obtain ⟨inf, z0, hi, hz, hsz, hby, hzz⟩ := hτ.info
  have hw : IntKind.i64.wrap n = n := by
    have e : IntKind.i64.wrap n = if n % 18446744073709551616 ≥ 9223372036854775808 then n % 18446744073709551616 - 18446744073709551616 else n % 18446744073709551616 := by
      simp [IntKind.wrap, IntKind.signed, IntKind.bits]
    rw [e]; split <;> omega
  obtain ⟨zv', hz1, hz2⟩ := run_zeroValue hτ w
  have hby' : inf.bytes = by2 := hby
  have hmul : (inf.bytes : Int) * n ≤ 1000000 := by rw [hby', Int.mul_comm]; exact hn
  have hmul2 : n.toNat * inf.bytes ≤ 1000000 := by
    have h1 : ((n.toNat * inf.bytes : Nat) : Int) = inf.bytes * n := by rw [Int.natCast_mul, Int.mul_comm, Int.toNat_of_nonneg h0]
    omega
  have c1 : ((decide (n < 0) || decide ((inf.bytes : Int) * n > 2 ^ 48)) || decide (n < 0) || decide (n > n)) = false := by
    simp; omega
  have hroom : ¬ n.toNat * inf.bytes > roomBytes := by unfold roomBytes; omega
  simp only [Instr.makeSlice, underlying, Sem.run_bind, run_program, Result.andThen_ok, hsl, Sem.run_pure, asInt, asIntOf, typeInfo, hi, hw]
  rw [Sem.run_ite, if_neg (by rw [c1]; simp)]
  simp only [Sem.run_bind, Sem.run_pure, Result.andThen_ok, askRoom]
  rw [Sem.run_ite, if_neg hroom]
  simp only [Sem.run_bind, Sem.run_pure, Result.andThen_ok, run_sizeOf hτ]
  by_cases hn0 : n.toNat * 1 = 0
  · rw [Sem.run_ite, if_pos hn0]
    have : n.toNat = 0 := by omega
    simp [this, newRow, run_newObj]
    congr 2
    apply Array.toList_inj.1
    simp [Array.toList_range]
  · rw [Sem.run_ite, if_neg hn0]
    have hzc : zv'.cells = #[zv] := by apply Array.toList_inj.1; simpa using hz2
    simp only [Sem.run_bind, hz1, Sem.run_pure, Result.andThen_ok, newRow, run_newObj, hzc]
    have : (Array.map (fun x => (#[zv] : Array Value)[x % (#[zv] : Array Value).size]!) (Array.range (n.toNat * 1))) = (List.replicate n.toNat zv).toArray := by
      apply Array.toList_inj.1
      refine List.ext_getElem (by simp) fun i h1 h2 => ?_
      simp [Nat.mod_one]
    rw [this]
    rfl

/-- A new slice of one-celled elements. -/
theorem R_makeSlice (hg : GOk g) {dst : Option Nat} {T : Nat} {x y : Operand} {ty : Nat} {pos : String} {after : Array Edge} {gd : Option (Nat × Bool)} {rest : List Oper} {k : List It} {E : Env} {objs : List Ob}
    {q by_ e by2 : Nat} {z : List Value} {zv : Value} {sh : Sh} {n : Int} (rows : List (List D))
    (hgd : guardA ops.toList E gd = some true) (hd : dstOk ⟨g.ty, g.N⟩ dst = true) (hx : ev E x = .d (.v (.int .i64 n))) (hy : ev E y = .d (.v (.int .i64 n))) (hT : g.ty T = some ⟨q, by_, z, .slice e⟩) (he : g.ty e = some ⟨1, by2, [zv], sh⟩)
    (h0 : 0 ≤ n) (hn : n * by2 ≤ 1000000) (hn2 : n ≤ 1000000) (hrows : List.replicate n.toNat [D.v zv] = rows)
    (hr : R g pf Fin (.dr ops rest :: k) (putO E dst (.ow (len objs) 0)) (objs ++ [.arr 1 0 rows])) :
    R g pf Fin (.dr ops (⟨dst, .makeSlice T x y, ty, pos, after, gd⟩ :: rest) :: k) E objs := by
  subst hrows
  refine R_op (LocOp.turning hg (.add _ _) hgd hd (by simp) fun φ a w hρ hs => ?_) hr
  simp only [Op.operands] at hρ
  have hxv := hρ x (by simp)
  rw [hx] at hxv
  have hyv := hρ y (by simp)
  rw [hy] at hyv
  simp only [RV] at hxv hyv
  generalize hvx : a.eval x = vx at hxv
  generalize hvy : a.eval y = vy at hyv
  cases hxv; cases hyv
  refine ⟨.value (.slice (some ⟨w.heap.size, 0, none⟩) n.toNat n.toNat), .slice (some ⟨w.heap.size, 0, none⟩) n.toNat n.toNat, w.alloc (.cells (List.replicate n.toNat zv).toArray e), φ ++ [.sli 1 0 (.slice (some ⟨w.heap.size, 0, none⟩) n.toNat n.toNat) (some w.heap.size)], ?_, .inl rfl, ?_, ?_⟩
  · simp [execOp, hvx, hvy, run_makeSlice hg hT he h0 hn hn2]
  · simp only [RV]
    refine ⟨⟨_, _, _, rfl⟩, .sli 1 0 (.slice (some ⟨w.heap.size, 0, none⟩) n.toNat n.toNat) (some w.heap.size), by rw [len_eq, ← hs.len]; simp, fun sz' s' x' ob' he => ?_⟩
    cases he
    exact ⟨Nat.le_refl _, fun _ => rfl⟩
  · refine Stp.new hs (fun b hb => by simp only [Phy.bl] at hb; cases hb; rfl) ?_
    simp only [ObOk]
    refine ⟨trivial, trivial, fun r hr => by rw [List.eq_of_mem_replicate hr]; rfl, .inr ⟨w.heap.size, 0, n.toNat, List.replicate n.toNat zv, e, by simp, rfl, heap_alloc_new _ _, by simp, by unfold maxLen; omega, by simp, fun i r j x hi hj => ?_⟩⟩
    have hil := (List.getElem?_eq_some_iff.1 hi).1
    rw [List.length_replicate] at hil
    rw [List.getElem?_replicate, if_pos hil] at hi
    cases hi
    cases j with
    | zero =>
      simp at hj; subst hj
      exact ⟨zv, by simp [List.getElem?_replicate, hil], .v _⟩
    | succ j => simp at hj
end
end PSL
namespace PSL
open Go Go.RowKit Go.MapKept

mutual
/-- The map i is data from now on. -/
def frzM (i : Nat) (ds : List (Value × D)) : AV → AV
  | .ow j t => bif Nat.beq j i then .any else .ow j t
  | .el j t r o => bif Nat.beq j i then .any else .el j t r o
  | .vw j t r => bif Nat.beq j i then .any else .vw j t r
  | .lo j o => bif Nat.beq j i then .any else .lo j o
  | .mp j => bif Nat.beq j i then .d (.map ds) else .mp j
  | .yl j => bif Nat.beq j i then .any else .yl j
  | .agg l => .agg (frzN i ds l)
  | .tup l => .tup (frzN i ds l)
  | .clo f a c => .clo f (frzN i ds a) (frzN i ds c)
  | .any => .any
  | .tt => .tt
  | .ff => .ff
  | .d x => .d x
  | .fs r => .fs r
def frzN (i : Nat) (ds : List (Value × D)) : List AV → List AV
  | [] => []
  | x :: l => frzM i ds x :: frzN i ds l
end

mutual
theorem frzM_ok {S S' : Nat → Prop} {w : World} {φ φ' : List Phy} {i : Nat} {ds : List (Value × D)} (hk : Keep S w S' w) (hp : ∀ j, j ≠ i → φ'[j]? = φ[j]?) (ho : ∀ v, RV S w φ (.mp i) v → Rd S' w (.map ds) v) :
    ∀ (x : AV) (v : Value), RV S w φ x v → RV S' w φ' (frzM i ds x) v
  | .any, _, _ => by simp [RV, frzM]
  | .tt, _, h => by simpa [RV, frzM] using h
  | .ff, _, h => by simpa [RV, frzM] using h
  | .d x, v, h => by simp only [RV, frzM] at h ⊢; exact h.mono hk
  | .fs rows, v, h => by simp only [RV, frzM] at h ⊢; exact ⟨h.1.mono hk, h.2⟩
  | .agg l, v, h => by
    simp only [RV, frzM] at h ⊢
    obtain ⟨cs, h1, h2⟩ := h
    exact ⟨cs, h1, frzN_ok hk hp ho l cs h2⟩
  | .lo j off, v, h => by
    simp only [frzM]
    cases hj : Nat.beq j i
    · have : j ≠ i := fun e => by subst e; simp at hj
      simp only [RV, cond_false] at h ⊢; rw [hp j this]; exact h
    · simp [RV]
  | .el j t r o, v, h => by
    simp only [frzM]
    cases hj : Nat.beq j i
    · have : j ≠ i := fun e => by subst e; simp at hj
      simp only [RV, cond_false] at h ⊢; rw [hp j this]; exact h
    · simp [RV]
  | .vw j t r, v, h => by
    simp only [frzM]
    cases hj : Nat.beq j i
    · have : j ≠ i := fun e => by subst e; simp at hj
      simp only [RV, cond_false] at h ⊢; rw [hp j this]; exact h
    · simp [RV]
  | .mp j, v, h => by
    simp only [frzM]
    cases hj : Nat.beq j i
    · have : j ≠ i := fun e => by subst e; simp at hj
      simp only [cond_false]
      simp only [RV] at h ⊢; rw [hp j this]; exact h
    · have := natBeq hj; subst this
      simp only [cond_true]
      have := ho v h
      simpa only [RV] using this
  | .yl j, v, h => by
    simp only [frzM]
    cases hj : Nat.beq j i
    · have : j ≠ i := fun e => by subst e; simp at hj
      simp only [RV, cond_false] at h ⊢; rw [hp j this]; exact h
    · simp [RV]
  | .ow j t, v, h => by
    simp only [frzM]
    cases hj : Nat.beq j i
    · have : j ≠ i := fun e => by subst e; simp at hj
      simp only [RV, cond_false] at h ⊢; rw [hp j this]; exact h
    · simp [RV]
  | .tup l, v, h => by
    simp only [RV, frzM] at h ⊢
    obtain ⟨cs, h1, h2⟩ := h
    exact ⟨cs, h1, frzN_ok hk hp ho l cs h2⟩
  | .clo f a c, v, h => by
    simp only [RV, frzM] at h ⊢
    obtain ⟨va, vc, h1, h2, h3⟩ := h
    exact ⟨va, vc, h1, frzN_ok hk hp ho a va h2, frzN_ok hk hp ho c vc h3⟩
theorem frzN_ok {S S' : Nat → Prop} {w : World} {φ φ' : List Phy} {i : Nat} {ds : List (Value × D)} (hk : Keep S w S' w) (hp : ∀ j, j ≠ i → φ'[j]? = φ[j]?) (ho : ∀ v, RV S w φ (.mp i) v → Rd S' w (.map ds) v) :
    ∀ (l : List AV) (vs : List Value), RVs S w φ l vs → RVs S' w φ' (frzN i ds l) vs
  | [], [], _ => by simp [RVs, frzN]
  | [], _ :: _, h => by simp [RVs] at h
  | _ :: _, [], h => by simp [RVs] at h
  | a :: l, v :: vs, h => by
    simp only [RVs, frzN] at h ⊢
    exact ⟨frzM_ok hk hp ho a v h.1, frzN_ok hk hp ho l vs h.2⟩
end
section
variable {g : G} {pf : Nat → Cls} {ops : Array Oper} {Fin : Exit → Act → World → Prop}

/-- A map of the call's own, from now on data. -/
theorem R_freezeM (hu : GUp g) {k : List It} {E : Env} {objs : List Ob} (i : Nat) (ds : List (Value × D)) (hn : g.φ0.length ≤ i) (ho : nth objs i = some (.map (ds.map fun p => (p.1, AV.d p.2)))) (ht : topCode k = true)
    (hr : R g pf Fin k (mapE (frzM i ds) E) (setN (objs.map (mapOb (frzM i ds))) i .dead)) : R g pf Fin k E objs := by
  refine R_ghost ht (fun a w hs => ?_) hr
  obtain ⟨φ, h1, h2, h3, h4, h5, h6⟩ := hs
  rw [nth_eq] at ho
  have hil := (List.getElem?_eq_some_iff.1 ho).1
  have hiφ : i < φ.length := by rw [h1.len]; exact hil
  have hbl0 : ∀ b, bls φ b → g.S0 b := fun b hb => (h2 b hb).elim (hu.up b) (hu.x b)
  have hbl : ∀ b, bls (φ.set i .no) b → bls φ b := fun b hb => by
    rcases bls_set hb with ⟨j, q, _, g1, g2⟩ | g1
    · exact ⟨j, q, g1, g2⟩
    · simp [Phy.bl] at g1
  have hp : ∀ j, j ≠ i → (φ.set i .no)[j]? = φ[j]? := fun j hj => List.getElem?_set_ne (fun e => hj e.symm)
  have hkeep : Keep (SS g.S0 φ) w (SS g.S0 (φ.set i .no)) w := fun b hb _ => ⟨⟨hb.1, fun hc => hb.2 (hbl b hc)⟩, rfl⟩
  have hph : φ[i]? = some φ[i] := List.getElem?_eq_getElem hiφ
  -- the object's block is free of objects from now on
  have hrd : ∀ v, RV (SS g.S0 φ) w φ (.mp i) v → Rd (SS g.S0 (φ.set i .no)) w (.map ds) v := fun v hv => by
    simp only [RV] at hv
    obtain ⟨b, hph, rfl⟩ := hv
    have hk := h1.ok i _ _ hph ho
    simp only [ObOk] at hk
    obtain ⟨ents, clk, hheap, hkeys, hvals⟩ := hk
    have hb : bls φ b := ⟨i, _, hph, rfl⟩
    have hnb : ¬ bls (φ.set i .no) b := fun hc => by
      rcases bls_set hc with ⟨j, q, hj, g1, g2⟩ | g1
      · exact hj (h1.dist _ _ _ _ _ g1 hph g2 rfl)
      · simp [Phy.bl] at g1
    have key : ∀ (j : Nat) (x : Value × D), ds[j]? = some x → ∃ e, ents[j]? = some e ∧ Rd (SS g.S0 φ) w x.2 e.val := fun j x hj => by
      obtain ⟨u, g1, g2⟩ := hvals.get j (x := .d x.2) (by simp [hj])
      rw [List.getElem?_map, Array.getElem?_toList] at g1
      cases he : ents[j]? with
      | none => rw [he] at g1; cases g1
      | some e => rw [he] at g1; simp at g1; subst g1; exact ⟨e, rfl, by simpa only [RV] using g2⟩
    refine Rd.map (fun j => ((ents[j]?).map (·.val)).getD undef) ⟨hbl0 b hb, hnb⟩ hheap (by simpa [List.map_map, Function.comp_def] using hkeys) (fun j x hj => ?_) (fun j x hj => ?_)
    · obtain ⟨e, g1, _⟩ := key j x hj
      simp [g1]
    · obtain ⟨e, g1, g2⟩ := key j x hj
      simp only [g1, Option.map_some, Option.getD_some]; exact g2.mono hkeep
  have hf := frzM_ok (ds := ds) hkeep hp hrd
  refine ⟨φ.set i .no, h1.remap (frzM i ds) (by rw [setN_eq]; simp [h1.len]) (fun j p b hj hb => ?_) (fun j ob' hj => ?_) hf, fun b hb => h2 b (hbl b hb), fun u => ?_, h4, h5.phs hbl, h6.phs (fun j l I B h => ⟨B, by
    by_cases hji : j = i
    · subst hji; rw [List.getElem?_set_self hiφ] at h; cases h
    · rw [hp j hji] at h; exact h⟩) (fun j p hi => by
    obtain ⟨p', h7, h8⟩ := h6.le j p hi
    by_cases hji : j = i
    · subst hji
      have := (List.getElem?_eq_some_iff.1 hi).1
      omega
    · exact ⟨p', by rw [hp j hji]; exact h7, h8⟩)⟩
  · by_cases hji : j = i
    · subst hji; rw [List.getElem?_set_self hiφ] at hj; cases hj; exact hb.elim
    · rw [hp j hji] at hj; exact ⟨p, hj, hb⟩
  · rw [setN_eq] at hj
    by_cases hji : j = i
    · subst hji; rw [List.getElem?_set_self (by simpa using hil)] at hj; cases hj; exact .inl rfl
    · rw [List.getElem?_set_ne (fun e => hji e.symm), List.getElem?_map] at hj
      cases ho : objs[j]? with
      | none => rw [ho] at hj; cases hj
      | some ob => rw [ho] at hj; exact .inr (.inl ⟨ob, rfl, hp j hji, by simpa using hj.symm⟩)
  · rcases lk_mapE (f := frzM i ds) E u with h | h
    · rw [h]; exact hf _ _ (h3 u)
    · rw [h]; simp [RV]

/-- What a map that is data answers. -/
theorem R_lookupD (hg : GOk g) {dst : Option Nat} {T : Nat} {x y : Operand} {ok : Bool} {ty : Nat} {pos : String} {after : Array Edge} {gd : Option (Nat × Bool)} {rest : List Oper} {k : List It} {E : Env} {objs : List Ob}
    {q by_ kt et : Nat} {ds : List (Value × D)} {z : List Value} {kv zv : Value} {kd : TypeDesc} {r : Option (Nat × AV)}
    (hgd : guardA ops.toList E gd = some true) (hd : dstOk ⟨g.ty, g.N⟩ dst = true) (hx : ev E x = .d (.map ds)) (hy : ev E y = .d (.v kv)) (hT : g.ty T = some ⟨q, by_, z, .map kt et⟩)
    (hkt : g.P.underlying kt = some kd) (hkey : IsKey kd kv) (hf : findA kd kv (ds.map fun p => (p.1, AV.d p.2)) 0 = some r) (hz : (g.P.info? et).bind (·.zero) = some zv)
    (hr : R g pf Fin (.dr ops rest :: k) (putO E dst (lookA ok (cstV zv) r)) objs) : R g pf Fin (.dr ops (⟨dst, .lookup T x y ok, ty, pos, after, gd⟩ :: rest) :: k) E objs := by
  refine R_op (LocOp.quiet hg hgd hd (by simp) fun φ objs₁ a w hρ hs => ?_) hr
  simp only [Op.operands] at hρ
  have hxv := hρ x (by simp)
  rw [hx] at hxv
  have hyv := hρ y (by simp)
  rw [hy] at hyv
  simp only [RV] at hxv hyv
  generalize hvy : a.eval y = vy at hyv
  cases hyv
  generalize hxe : a.eval x = vx at hxv
  obtain ⟨b, ents, clk, rfl, hheap, hents⟩ : ∃ (b : Nat) (ents : Array MapEntry) (clk : Nat), vx = .map (some b) ∧ w.heap[b]? = some (.map ents clk) ∧ EntsOk (SS g.S0 φ) w φ (ds.map fun p => (p.1, AV.d p.2)) ents.toList := by
    cases hxv with
    | map g' hS hb hk hg' hr' =>
      refine ⟨_, _, _, rfl, hb, by simpa [List.map_map, Function.comp_def] using hk, ?_⟩
      have hlen := congrArg List.length hk
      simp only [List.length_map, Array.length_toList] at hlen
      refine RVs.of_get (by simpa using hlen) fun j u v hu hv => ?_
      rw [List.getElem?_map, List.getElem?_map] at hu
      cases hj : ds[j]? with
      | none => rw [hj] at hu; cases hu
      | some x =>
        rw [hj] at hu; simp at hu; subst hu
        rw [List.getElem?_map, Array.getElem?_toList, hg' j x hj] at hv
        cases hv
        simpa only [RV] using hr' j x hj
  have hT' : g.P.underlying T = some (.map kt et) := by have := (hg.ty _ _ hT).sh; simpa only [ShFact] using this
  have hzero : (zeroValue et).run g.P w = .ok zv w := by
    obtain ⟨inf, h1, h2⟩ := Option.bind_eq_some_iff.1 hz
    simp [zeroValue, typeInfo, h1, h2]
  have hzR : RV (SS g.S0 φ) w φ (cstV zv) zv := rv_restr (l := []) (E := []) (E₁ := []) (a := { tmps := #[], defers := [] }) (by simp) (fun t => by simp [lk, RV]) (.const zv)
  have hfind := findA_ok hents hf
  cases r with
  | none =>
    simp only at hfind
    refine out_val hs (vv := if ok then .tuple #[zv, .bool false] else zv) ?_ ?_
    · simp [execOp, Instr.lookup, run_underlying hT', hxe, run_getObj_map hheap, hvy, run_checkKey hkt hkey, run_findKey hkt hfind, hzero]
    · simp only [lookA]
      cases ok
      · simpa using hzR
      · simp only [if_true, RV]
        exact ⟨[zv, .bool false], rfl, by simp only [RVs, RV, bV, and_true]; exact ⟨hzR, .v _⟩⟩
  | some p =>
    obtain ⟨j, v⟩ := p
    obtain ⟨vv, h1, h2, _⟩ := hfind
    refine out_val hs (vv := if ok then .tuple #[vv, .bool true] else vv) ?_ ?_
    · simp [execOp, Instr.lookup, run_underlying hT', hxe, run_getObj_map hheap, hvy, run_checkKey hkt hkey, run_findKey hkt h1]
    · simp only [lookA]
      cases ok
      · simpa using h2
      · simp only [if_true, RV]
        exact ⟨[vv, .bool true], rfl, by simp only [RVs, RV, bV, and_true]; exact ⟨h2, .v _⟩⟩
end
end PSL
namespace PSL
open Go Go.RowKit Go.MapKept

def dOf : AV → D
  | .d x => x
  | _ => .v undef

/-- A map of numbers, as data. -/
def dmI (l : List (Int × AV)) : List (Value × D) := (imap l).map fun p => (p.1, dOf p.2)

theorem dmI_map {l : List (Int × AV)} (h : ∀ p ∈ l, ∃ n, p.2 = iV n) : ((dmI l).map fun p => (p.1, AV.d p.2)) = imap l := by
  simp only [dmI, imap, List.map_map]
  refine List.map_congr_left fun p hp => ?_
  obtain ⟨n, hn⟩ := h p hp
  simp [hn, dOf, iV]
theorem dmI_len (l : List (Int × AV)) : (dmI l).length = l.length := by simp [dmI, imap]
section
variable {g : G} {pf : Nat → Cls} {ops : Array Oper} {Fin : Exit → Act → World → Prop}

theorem R_lookupDI (hg : GOk g) {dst : Option Nat} {T : Nat} {x y : Operand} {ok : Bool} {ty : Nat} {pos : String} {after : Array Edge} {gd : Option (Nat × Bool)} {rest : List Oper} {k : List It} {E : Env} {objs : List Ob}
    {q by_ q' by' kt et : Nat} {z z' : List Value} {n : Int} {zv : Value} (l : List (Int × AV)) (hl : ∀ p ∈ l, ∃ n, p.2 = iV n)
    (hgd : guardA ops.toList E gd = some true) (hd : dstOk ⟨g.ty, g.N⟩ dst = true) (hx : ev E x = .d (.map (dmI l))) (hy : ev E y = .d (.v (.int .i64 n))) (hT : g.ty T = some ⟨q, by_, z, .map kt et⟩)
    (hkt : g.ty kt = some ⟨q', by', z', .int .i64⟩) (hz : (g.P.info? et).bind (·.zero) = some zv) {v : AV} (hv : lookI' ok (cstV zv) (getI l n) = v)
    (hr : R g pf Fin (.dr ops rest :: k) (putO E dst v) objs) : R g pf Fin (.dr ops (⟨dst, .lookup T x y ok, ty, pos, after, gd⟩ :: rest) :: k) E objs := by
  subst hv
  have hu := (hg.ty _ _ hkt).sh
  simp only [ShFact] at hu
  obtain ⟨r, h1, h2⟩ := findA_getI (k' := .i64) (n := n) (l := l) (i := 0)
  refine R_lookupD hg hgd hd hx hy hT hu (by simp [IsKey]) (by rw [dmI_map hl]; exact h1) hz ?_
  have : lookA ok (cstV zv) r = lookI' ok (cstV zv) (getI l n) := by rw [← h2]; cases r <;> rfl
  rw [this]; exact hr

theorem R_lenM (hg : GOk g) {dst : Option Nat} {T : Nat} {x : Operand} {ty : Nat} {pos : String} {after : Array Edge} {gd : Option (Nat × Bool)} {rest : List Oper} {k : List It} {E : Env} {objs : List Ob}
    {q by_ kt et : Nat} {z : List Value} {ds : List (Value × D)} {n : Int}
    (hgd : guardA ops.toList E gd = some true) (hd : dstOk ⟨g.ty, g.N⟩ dst = true) (hx : ev E x = .d (.map ds)) (hT : g.ty T = some ⟨q, by_, z, .map kt et⟩) (hn : (ds.length : Int) = n)
    (hr : R g pf Fin (.dr ops rest :: k) (putO E dst (iV n)) objs) : R g pf Fin (.dr ops (⟨dst, .call { callee := .builtin .len, args := #[x], argTypes := #[T] }, ty, pos, after, gd⟩ :: rest) :: k) E objs := by
  subst hn
  refine R_op (LocOp.quiet hg hgd hd (by simp) fun φ objs₁ a w hρ hs => ?_) hr
  simp only [Op.operands, Call.operands] at hρ
  have hxv := hρ x (by simp)
  rw [hx] at hxv
  simp only [RV] at hxv
  have hu := (hg.ty _ _ hT).sh
  simp only [ShFact] at hu
  generalize hxe : a.eval x = vx at hxv
  cases hxv with
  | @map _ b clk ents g' hS hb hk hg' hr' =>
    have hlen := congrArg List.length hk
    simp only [List.length_map, Array.length_toList] at hlen
    refine out_val hs (vv := .int .i64 ds.length) ?_ (by simp only [RV, iV]; exact .v _)
    simp [execOp, resolve, invoke, builtin, hxe, Builtin.len_, underlying, hu, run_getObj_map hb, goInt, hlen]
end
end PSL
namespace PSL
open Go Go.RowKit
def hdV (x : Nat × Nat × Nat) (n : Nat) : Value := .slice (some ⟨x.1, x.2.1, none⟩) n x.2.2
def elV (x : Nat × Nat × Nat) (j : Nat) : Value := .pointer (some ⟨x.1, x.2.1 + j, none⟩)
section
variable {g : G} {pf : Nat → Cls} {ops : Array Oper} {Fin : Exit → Act → World → Prop}

theorem R_ghostX {X : Type} {k : List It} {E : Env} {E' : X → Env} {objs : List Ob} {objs' : X → List Ob} (ht : topCode k = true) (h : ∀ a w, Sat g E objs a w → ∃ x, Sat g (E' x) (objs' x) a w) (hr : ∀ x, R g pf Fin k (E' x) (objs' x)) : R g pf Fin k E objs := by
  intro ho
  have hr := fun x => hr x ho
  cases k with
  | nil => exact fun a w hs => let ⟨x, hx⟩ := h a w hs; hr x a w hx
  | cons x k =>
    cases x <;> first
      | exact fun a w hs => let ⟨x, hx⟩ := h a w hs; hr x a w hx
      | (simp [topCode] at ht)

/-- A table without rows. -/
theorem R_matNew {k : List It} {E : Env} {objs : List Ob} (ht : topCode k = true) (hr : R g pf Fin k E (objs ++ [.mat [] []])) : R g pf Fin k E objs := by
  refine R_ghost ht (fun a w hs => ?_) hr
  obtain ⟨φ, h1, h2, h3, h4, h5, h6⟩ := hs
  have hst : Stp g.S0 φ w (φ ++ [.mat []]) (objs ++ [.mat [] []]) w := .add h1 (Nat.le_refl _) (fun _ _ => rfl) (fun b hb => by simp [Phy.bl] at hb) rfl rfl rfl fun _ => by simp [ObOk]
  refine ⟨_, hst.hs, fun b hb => ?_, fun u => (h3 u).mono hst.keep hst.le, h4, h5.stp hst, h6.phs hst.ext (h6.le.trans hst.le)⟩
  rcases hst.own b hb with h | h
  · exact h2 b h
  · left; have := h6.size; omega

theorem adopt_sat {E : Env} {objs : List Ob} {t j i s n0 : Nat} {rws rows : List (List D)} {hs : List (Nat × Nat × Nat)} {row : List D} (hn0 : row.length = n0)
    (h : lk E t = .ow j s) (hj : nth objs j = some (.arr 1 s rws)) (hi : nth objs i = some (.mat hs rows)) (hne : rws ≠ []) (hrow : rws = row.map fun d => [d]) (a : Act) (w : World) (hsat : Sat g E objs a w) :
    ∃ x, Sat g (put E t (.d (.v (hdV x n0)))) (setN (setN objs j .dead) i (.mat (hs ++ [x]) (rows ++ [row]))) a w := by
  subst hn0
  obtain ⟨φ, h1, h2, h3, h4, h5, h6⟩ := hsat
  have hv := h3 t
  rw [h] at hv
  simp only [RV] at hv
  obtain ⟨_, ph, hph, hv⟩ := hv
  have hkj := obj_at h1 hph hj
  rw [nth_eq] at hj hi
  have hjl := (List.getElem?_eq_some_iff.1 hj).1
  have hil := (List.getElem?_eq_some_iff.1 hi).1
  have hji : j ≠ i := fun e => by subst e; rw [hj] at hi; cases hi
  have hphi : φ[i]? = some (φ[i]'(by rw [h1.len]; exact hil)) := List.getElem?_eq_getElem _
  generalize φ[i]'(by rw [h1.len]; exact hil) = pi at hphi
  have hki := h1.ok i pi _ hphi hi
  cases ph <;> try (simp only [ObOk] at hkj; done)
  rename_i sz2 s2 v2 ob2
  cases pi <;> try (simp only [ObOk] at hki; done)
  rename_i bs
  simp only [ObOk] at hkj hki
  obtain ⟨rfl, rfl, hlen, hkj⟩ := hkj
  obtain ⟨hbs, hnd, hrl, hki⟩ := hki
  have hval := (hv _ _ _ _ rfl).2 rfl
  rcases hkj with ⟨a2, _, h0, _⟩ | ⟨b, o, cap, cs, T, hv2, rfl, hheap, hn, hcap, hle, hrd⟩
  · exact absurd h0 hne
  have hrwl : rws.length = row.length := by rw [hrow]; simp
  have hbn : b ∉ bs := fun hb => hji (h1.dist j i _ _ b hph hphi rfl hb)
  have hjφ : j < φ.length := by rw [h1.len]; exact hjl
  have hiφ : i < φ.length := by rw [h1.len]; exact hil
  have e1 : ((φ.set j .no).set i (.mat (bs ++ [b])))[i]? = some (.mat (bs ++ [b])) := List.getElem?_set_self (by simpa using hiφ)
  have e2 : ((φ.set j .no).set i (.mat (bs ++ [b])))[j]? = some .no := by rw [List.getElem?_set_ne (fun e => hji e.symm)]; exact List.getElem?_set_self hjφ
  have e3 : ∀ n, n ≠ i → n ≠ j → ((φ.set j .no).set i (.mat (bs ++ [b])))[n]? = φ[n]? := fun n n1 n2 => by
    rw [List.getElem?_set_ne (fun e => n1 e.symm), List.getElem?_set_ne (fun e => n2 e.symm)]
  obtain ⟨φ', hφ'⟩ : ∃ φ', φ' = (φ.set j .no).set i (.mat (bs ++ [b])) := ⟨_, rfl⟩
  rw [← hφ'] at e1 e2 e3
  have key : ∀ (n : Nat) (p : Phy) (c : Nat), φ'[n]? = some p → p.bl c → n ≠ j ∧ ∃ m q, φ[m]? = some q ∧ q.bl c ∧ (m = n ∨ (n = i ∧ m = j)) := fun n p c hn hc => by
    by_cases n1 : n = i
    · subst n1
      rw [e1] at hn; cases hn
      simp only [Phy.bl, List.mem_append, List.mem_singleton] at hc
      refine ⟨fun e => hji e.symm, ?_⟩
      rcases hc with hc | rfl
      · exact ⟨n, _, hphi, hc, .inl rfl⟩
      · exact ⟨j, _, hph, rfl, .inr ⟨rfl, rfl⟩⟩
    · by_cases n2 : n = j
      · subst n2; rw [e2] at hn; cases hn; simp [Phy.bl] at hc
      · rw [e3 n n1 n2] at hn; exact ⟨n2, n, p, hn, hc, .inl rfl⟩
  have hbl : ∀ c, bls φ' c → bls φ c := by
    rintro c ⟨n, p, g1, g2⟩
    obtain ⟨_, m, q, g3, g4, _⟩ := key n p c g1 g2
    exact ⟨m, q, g3, g4⟩
  have hkeep : Keep (SS g.S0 φ) w (SS g.S0 φ') w := fun c hc _ => ⟨⟨hc.1, fun e => hc.2 (hbl c e)⟩, rfl⟩
  have hle' : PhsLe φ φ' := fun n p hn => by
    by_cases n1 : n = i
    · subst n1; rw [hphi] at hn; cases hn; exact ⟨_, e1, .inr (.inr (.inr (.inr ⟨_, _, rfl, rfl⟩)))⟩
    · by_cases n2 : n = j
      · subst n2; rw [hph] at hn; cases hn; exact ⟨_, e2, .inr (.inr (.inl ⟨_, _, _, _, rfl, rfl⟩))⟩
      · exact ⟨p, by rw [e3 n n1 n2]; exact hn, .inl rfl⟩
  refine ⟨(b, o, cap), φ', ⟨?_, ?_, ?_, fun c hc => h1.lt c (hbl c hc), h1.up⟩, fun c hc => h2 c (hbl c hc), fun u => ?_, h4, h5.phs hbl, h6.phs (fun n l I B hn => ?_) (h6.le.trans hle')⟩
  · rw [hφ', setN_eq, setN_eq]; simp [h1.len]
  · intro n p ob hn ho
    rw [setN_eq, setN_eq] at ho
    by_cases n1 : n = i
    · subst n1
      rw [e1] at hn; cases hn
      rw [List.getElem?_set_self (by simpa using hil)] at ho; cases ho
      simp only [ObOk]
      refine ⟨by rw [hbs]; simp, by rw [List.nodup_append]; exact ⟨hnd, by simp, fun x hx y hy e => hbn (by simp at hy; rw [← hy, ← e]; exact hx)⟩, by simp [hrl], fun m y r hm hr => ?_⟩
      rcases Nat.lt_or_ge m hs.length with hml | hml
      · rw [List.getElem?_append_left hml] at hm
        rw [List.getElem?_append_left (by omega)] at hr
        obtain ⟨cs', T', g1, g2, g3, g4, g5⟩ := hki m y r hm hr
        refine ⟨cs', T', g1, g2, g3, g4, fun j' d hd => ?_⟩
        obtain ⟨y', g6, g7⟩ := g5 j' d hd
        exact ⟨y', g6, g7.mono hkeep⟩
      · rw [List.getElem?_append_right hml] at hm
        rw [List.getElem?_append_right (by omega)] at hr
        have hm0 : m - hs.length = 0 := by
          have := (List.getElem?_eq_some_iff.1 hm).1
          simp at this; omega
        rw [hm0] at hm
        rw [hrl, hm0] at hr
        simp at hm hr; subst hm; subst hr
        refine ⟨cs, T, hheap, by simp only; omega, hcap, ?_, fun j' d hd => ?_⟩
        · simp only; have := Nat.mul_one cap; omega
        · obtain ⟨y, g1, g2⟩ := hrd j' [d] 0 d (by rw [hrow, List.getElem?_map, hd]; rfl) rfl
          exact ⟨y, by simpa using g1, g2.mono hkeep⟩
    · rw [List.getElem?_set_ne (fun e => n1 e.symm)] at ho
      by_cases n2 : n = j
      · subst n2
        rw [e2] at hn; cases hn
        rw [List.getElem?_set_self hjl] at ho; cases ho
        simp [ObOk]
      · rw [List.getElem?_set_ne (fun e => n2 e.symm)] at ho
        rw [e3 n n1 n2] at hn
        exact (h1.ok n p ob hn ho).mono hkeep hle' (Nat.le_refl _) fun _ _ => rfl
  · intro n m p q c hn hm hp hq
    obtain ⟨n1, n', p', g1, g2, g3⟩ := key n p c hn hp
    obtain ⟨m1, m', q', g4, g5, g6⟩ := key m q c hm hq
    have := h1.dist n' m' p' q' c g1 g4 g2 g5
    omega
  · rw [lk_put]
    split
    · rename_i e; subst e
      simp only [RV]
      rw [hval, hv2, hrwl]
      exact .v _
    · exact (h3 u).mono hkeep hle'
  · by_cases n1 : n = i
    · subst n1; rw [e1] at hn; cases hn
    · by_cases n2 : n = j
      · subst n2; rw [e2] at hn; cases hn
      · rw [e3 n n1 n2] at hn; exact ⟨B, hn⟩

/-- A slice of the call's own becomes a row. -/
theorem R_adopt {k : List It} {E : Env} {objs : List Ob} (t j i s n0 : Nat) {rws rows : List (List D)} {hs : List (Nat × Nat × Nat)} (row : List D)
    (h : lk E t = .ow j s) (hj : nth objs j = some (.arr 1 s rws)) (hi : nth objs i = some (.mat hs rows)) (hne : rws ≠ []) (hrow : rws = row.map fun d => [d]) (hn0 : row.length = n0) (ht : topCode k = true)
    (hr : ∀ x, R g pf Fin k (put E t (.d (.v (hdV x n0)))) (setN (setN objs j .dead) i (.mat (hs ++ [x]) (rows ++ [row])))) : R g pf Fin k E objs :=
  R_ghostX ht (fun a w hsat => adopt_sat hn0 h hj hi hne hrow a w hsat) hr

/-- The address of a row's element. -/
theorem R_indexM (hg : GOk g) {dst : Option Nat} {T : Nat} {x i : Operand} {ty : Nat} {pos : String} {after : Array Edge} {gd : Option (Nat × Bool)} {rest : List Oper} {k : List It} {E : Env} {objs : List Ob}
    {y : Nat × Nat × Nat} {len q by_ e : Nat} {z : List Value} {τ : Ty} {n : Int} 
    (hgd : guardA ops.toList E gd = some true) (hd : dstOk ⟨g.ty, g.N⟩ dst = true) (hx : ev E x = .d (.v (hdV y len))) (hi : ev E i = .d (.v (.int .i64 n))) (hT : g.ty T = some ⟨q, by_, z, .slice e⟩) (he : g.ty e = some τ) (hsz : τ.size = 1)
    (h0 : 0 ≤ n) (hlt : n.toNat < len)
    (hr : R g pf Fin (.dr ops rest :: k) (putO E dst (.d (.v (elV y n.toNat)))) objs) : R g pf Fin (.dr ops (⟨dst, .indexAddr T x i, ty, pos, after, gd⟩ :: rest) :: k) E objs := by
  refine R_op (LocOp.quiet hg hgd hd (by simp) fun φ o₁ a w hρ hs => ?_) hr
  simp only [Op.operands] at hρ
  have hxv := hρ x (by simp)
  rw [hx] at hxv
  have hiv := hρ i (by simp)
  rw [hi] at hiv
  simp only [RV] at hxv hiv
  generalize hvi : a.eval i = vi at hiv
  generalize hvx : a.eval x = vx at hxv
  cases hiv; cases hxv
  refine out_val hs (vv := elV y n.toNat) ?_ (by simp only [RV]; exact .v _)
  have hrun : (Instr.indexAt T (a.eval x) (a.eval i)).run g.P w = .ok (elV y n.toNat) w := by
    simp only [Instr.indexAt, hvx, hdV, elV, hvi, asIntOf, underlying, Sem.run_bind, Sem.run_pure, run_program, Result.andThen_ok, und_slice hg hT]
    rw [Sem.run_ite, if_pos ⟨h0, by omega⟩]
    simp only [Sem.run_bind, run_sizeOf (hg.ty _ _ he), Result.andThen_ok, Sem.run_pure, add_none, hsz, Nat.mul_one]
  simp only [execOp, Sem.run_bind, hrun, Result.andThen_ok, Sem.run_pure]

theorem matHS {S0 : Nat → Prop} {φ : List Phy} {objs : List Ob} {w : World} (hs : HS S0 φ objs w) {id : Nat} {hds : List (Nat × Nat × Nat)} {rows : List (List D)} (ho : nth objs id = some (.mat hds rows)) :
    φ[id]? = some (.mat (hds.map (·.1))) ∧ (hds.map (·.1)).Nodup ∧ rows.length = hds.length ∧ ∀ (i : Nat) (x : Nat × Nat × Nat) (r : List D), hds[i]? = some x → rows[i]? = some r →
      ∃ (cs : List Value) (T : Nat), w.heap[x.1]? = some (.cells cs.toArray T (0, 0)) ∧ r.length ≤ x.2.2 ∧ x.2.2 ≤ maxLen ∧ x.2.1 + r.length ≤ cs.length ∧ ∀ (j : Nat) (d : D), r[j]? = some d → ∃ y, cs[x.2.1 + j]? = some y ∧ Rd (SS S0 φ) w d y := by
  rw [nth_eq] at ho
  have hil := (List.getElem?_eq_some_iff.1 ho).1
  have hphi : φ[id]? = some (φ[id]'(by rw [hs.len]; exact hil)) := List.getElem?_eq_getElem _
  generalize φ[id]'(by rw [hs.len]; exact hil) = pi at hphi
  have hki := hs.ok id pi _ hphi ho
  cases pi <;> try (simp only [ObOk] at hki; done)
  simp only [ObOk] at hki
  obtain ⟨hbs, hnd, hrl, hki⟩ := hki
  subst hbs
  exact ⟨hphi, hnd, hrl, hki⟩

/-- A load of a row's element. -/
theorem R_loadM (hg : GOk g) {dst : Option Nat} {T : Nat} {x : Operand} {ty : Nat} {pos : String} {after : Array Edge} {gd : Option (Nat × Bool)} {rest : List Oper} {k : List It} {E : Env} {objs : List Ob}
    (id r : Nat) {j : Nat} {y : Nat × Nat × Nat} {τ : Ty} {hds : List (Nat × Nat × Nat)} {rows : List (List D)} {row : List D} (d : D)
    (hgd : guardA ops.toList E gd = some true) (hd : dstOk ⟨g.ty, g.N⟩ dst = true) (hcl : ldClsAt pf x = .look 0) (hx : ev E x = .d (.v (elV y j))) (ho : nth objs id = some (.mat hds rows)) (hT : g.ty T = some τ) (hsz : τ.size = 1) (hag : τ.agg = false) (hy : hds[r]? = some y) (hrow : rows[r]? = some row) (hp : row[j]? = some d)
    (hr : R g pf Fin (.dr ops rest :: k) (putO E dst (.d d)) objs) : R g pf Fin (.dr ops (⟨dst, .load T x, ty, pos, after, gd⟩ :: rest) :: k) E objs := by
  refine R_op ?_ hr
  simp only [clsOf, hcl]
  refine .of_out hg (guardA_ok hgd) (dstOk_ok hd) (by simp) (fun _ => rfl) (fun _ _ _ => .refl _) fun φ o₁ o₁' a w E₁ hent hv hoo hs => ?_
  rcases hoo with ⟨h, _⟩ | ⟨_, h, _⟩ | ⟨rfl, rfl⟩
  · cases h
  · cases h
  have hρ := rv_ops hent hv
  simp only [Op.operands] at hρ
  have hxv := hρ x (by simp)
  rw [hx] at hxv
  simp only [RV] at hxv
  generalize hvx : a.eval x = vx at hxv
  cases hxv
  obtain ⟨_, _, _, hk⟩ := matHS hs ho
  obtain ⟨cs, T', hheap, h1, h2, h3, h4⟩ := hk r y row hy hrow
  obtain ⟨vv, h5, h6⟩ := h4 j d hp
  have hτ := hg.ty _ _ hT
  have hjl := (List.getElem?_eq_some_iff.1 hp).1
  refine ok_load hs rfl (b := y.1) (off := y.2.1 + j) (vv := vv) (by rw [hvx]; rfl) ?_ (by simp only [RV]; exact h6)
  have h7 := run_loadVar (P := g.P) hτ hheap (y.2.1 + j) (by omega)
  rw [h7]
  have h8 : pack τ ((cs.drop (y.2.1 + j)).take τ.size) = vv := by
    rw [hsz]
    have hl := (List.getElem?_eq_some_iff.1 h5).1
    rw [List.drop_eq_getElem_cons hl, List.take_succ_cons]
    simp only [pack, hag]
    simpa using (List.getElem?_eq_some_iff.1 h5).2
  rw [h8]

/-- A store into a row's element. -/
theorem R_storeM (hg : GOk g) {dst : Option Nat} {T : Nat} {p x : Operand} {ty : Nat} {pos : String} {after : Array Edge} {gd : Option (Nat × Bool)} {rest : List Oper} {k : List It} {E : Env} {objs : List Ob}
    (id r : Nat) {j : Nat} {y : Nat × Nat × Nat} {τ : Ty} {hds : List (Nat × Nat × Nat)} {rows : List (List D)} {row : List D} (d : D)
    (hgd : guardA ops.toList E gd = some true) (hd : dstOk ⟨g.ty, g.N⟩ dst = true) (hx : ev E p = .d (.v (elV y j))) (ho : nth objs id = some (.mat hds rows)) (hT : g.ty T = some τ) (hsz : τ.size = 1) (hy : hds[r]? = some y) (hrow : rows[r]? = some row) (hjl : j < row.length) {l : List AV} (hc : cellsO (ev E x) = some l) (hdd : toDs l = some [d])
    (hr : R g pf Fin (.dr ops rest :: k) (putO E dst .any) (setN objs id (.mat hds (rows.set r (row.set j d))))) (hcl : stClsAt pf p = .eff := by rfl) : R g pf Fin (.dr ops (⟨dst, .store T p x, ty, pos, after, gd⟩ :: rest) :: k) E objs := by
  refine R_op ?_ hr
  simp only [clsOf, hcl]
  refine LocOp.effect hg hgd hd (by simp) fun φ a w hρ hs => ?_
  simp only [Op.operands] at hρ
  have hxv := hρ p (by simp)
  rw [hx] at hxv
  have hyv := hρ x (by simp)
  simp only [RV] at hxv
  generalize hvx : a.eval p = vx at hxv
  cases hxv
  obtain ⟨hph, hnd, hrl, hk⟩ := matHS hs ho
  obtain ⟨cs, T', hheap, h1, h2, h3, h4⟩ := hk r y row hy hrow
  have hτ := hg.ty _ _ hT
  obtain ⟨hc1, hc2⟩ := cellsO_val hyv hc
  have hc1 := toDs_rvs hc1 hdd
  obtain ⟨c, hcl1, hcl2⟩ := hc1.get 0 rfl
  have hc1l := hc1.length
  simp only [List.length_map, List.length_cons, List.length_nil] at hc1l
  obtain ⟨w', hrun, hst⟩ := run_storeVar (P := g.P) hτ (y.2.1 + j) hheap rfl hc2 (by omega) (by omega)
  refine ⟨.skip, undef, w', φ.set id (.mat (hds.map (·.1))), ?_, .inr ⟨rfl, rfl⟩, by simp [RV], ?_⟩
  · simp only [execOp, Instr.storeAt, Instr.sureAddr, hvx, elV, Sem.run_bind, Sem.run_pure, Result.andThen_ok, hrun]
  rw [setN_eq]
  have hrll := (List.getElem?_eq_some_iff.1 hrow).1
  refine Stp.swap hs hph (.inl rfl) (by rw [hst.size]; exact Nat.le_refl _) (fun c _ hc => hst.other c fun e => hc (by rw [e]; simp only [Phy.bl, List.mem_map]; exact ⟨y, List.mem_of_getElem? hy, rfl⟩)) (fun b' hb => .inl hb) hst.os hst.tape hst.out fun hkeep _ => ?_
  simp only [ObOk]
  refine ⟨trivial, hnd, by rw [List.length_set]; exact hrl, fun i x' r' hi hr' => ?_⟩
  by_cases hir : r = i
  · subst hir
    rw [List.getElem?_set_self hrll] at hr'
    cases hr'
    rw [hy] at hi; cases hi
    refine ⟨splice cs (y.2.1 + j) (a.eval x).cells.toList, T', hst.at_, by rw [List.length_set]; exact h1, h2, by rw [List.length_set, splice_length]; exact h3, fun j' d' hd' => ?_⟩
    rw [splice_get _ _ _ (by omega)]
    by_cases hjj : j = j'
    · subst hjj
      rw [List.getElem?_set_self hjl] at hd'
      cases hd'
      refine ⟨c, ?_, ?_⟩
      · rw [if_pos (by omega), Nat.sub_self]; exact hcl1
      · simp only [RV] at hcl2; exact hcl2.mono hkeep
    · rw [List.getElem?_set_ne hjj] at hd'
      obtain ⟨v, h5, h6⟩ := h4 j' d' hd'
      exact ⟨v, by rw [if_neg (by omega)]; exact h5, h6.mono hkeep⟩
  · rw [List.getElem?_set_ne hir] at hr'
    obtain ⟨cs', T2, g1, g2, g3, g4, g5⟩ := hk i x' r' hi hr'
    have hne : x'.1 ≠ y.1 := fun e => hir (by
      have e1 : (hds.map (·.1))[r]? = some y.1 := by rw [List.getElem?_map, hy]; rfl
      have e2 : (hds.map (·.1))[i]? = some x'.1 := by rw [List.getElem?_map, hi]; rfl
      obtain ⟨l1, e1⟩ := List.getElem?_eq_some_iff.1 e1
      obtain ⟨l2, e2⟩ := List.getElem?_eq_some_iff.1 e2
      exact (List.getElem_inj hnd).1 (by rw [e1, e2, e]))
    refine ⟨cs', T2, (hst.other _ hne).trans g1, g2, g3, g4, fun j' d' hd' => ?_⟩
    obtain ⟨v, h5, h6⟩ := g5 j' d' hd'
    exact ⟨v, h5, h6.mono hkeep⟩
end
end PSL
namespace PSL
open Go Go.RowKit
section
variable {g : G} {pf : Nat → Cls} {ops : Array Oper} {Fin : Exit → Act → World → Prop}

/-- A call of a function of pure data, its arguments as they are. -/
theorem R_callV (hg : GOk g) (hu : GUp g) {f : Nat} {axs : List AV} {r : AV} (hc : PCtr g.P f axs r) {dst : Option Nat} {x : Operand} {args : Array Operand} {ts : Array Nat} {ty : Nat} {pos : String} {after : Array Edge} {gd : Option (Nat × Bool)}
    {rest : List Oper} {k : List It} {E : Env} {objs : List Ob} {fs cs : List AV}
    (hgd : guardA ops.toList E gd = some true) (hd : dstOk ⟨g.ty, g.N⟩ dst = true) (hx : ev E x = .clo f fs cs) (has : fs ++ args.toList.map (ev E) ++ cs = axs) (hpa : pureL axs = true) (hpr : pureA r = true)
    (hr : R g pf Fin (.dr ops rest :: k) (putO E dst r) objs) :
    R g pf Fin (.dr ops (⟨dst, .call { callee := .value x, args := args, argTypes := ts }, ty, pos, after, gd⟩ :: rest) :: k) E objs := by
  refine R_op (LocOp.up (c := clsOf pf (.call { callee := .value x, args := args, argTypes := ts })) ?_) hr
  refine ⟨fun _ => rfl, fun _ _ _ => .refl _, fun E₁ o₁ o₁' a w he ho' hs Q => ?_⟩
  have e : o₁' = o₁ := by
    rcases ho' with ⟨_, h⟩ | ⟨_, _, _, h⟩ | ⟨h, h'⟩
    · exact h
    · exact h
    · rw [h, h']
  subst e
  obtain ⟨φ, h1, h2, h3, h4, h5, h6⟩ := hs
  rw [wanted_of (guardA_ok hgd) he h3]
  simp only [if_true]
  refine ⟨about_ok hg _ w a, ?_⟩
  have hρ := rv_ops (o := ⟨dst, .call { callee := .value x, args := args, argTypes := ts }, ty, pos, after, gd⟩) he h3
  simp only [Op.operands, Call.operands] at hρ
  have hxv := hρ x (by simp)
  rw [hx] at hxv
  simp only [RV] at hxv
  obtain ⟨va, vc, hxv, hfs, hcs⟩ := hxv
  have hargs : RVs (SS g.S0 φ) w φ (args.toList.map (ev E)) (args.toList.map a.eval) := RVs.map _ _ _ fun y hy => hρ y (by simp [hy])
  have hall := (hfs.append hargs).append hcs
  rw [has] at hall
  have hall : RVs (SS g.S0 φ) w [] axs _ := RVs.pure (fun b hb _ => ⟨hb, rfl⟩) hpa hall
  rw [Oper.semAt_eq _ _ _ (by simp), run_callv rfl hxv hc.call]
  refine ⟨fun h => by rw [hg.depth] at h; simp at h, ?_⟩
  have hcall := hc.run (SS g.S0 φ) w _ (fun b hb => ⟨h1.up b hb, fun hc => by have := h1.lt b hc; omega⟩) hall
  refine (callsIn_free hg hcall).mono ?_
  rintro e w' ⟨v, rfl, hv, hb⟩
  have hst : Stp g.S0 φ w φ _ w' := ⟨h1.later hb.size (fun b hb' => hb.block b hb'), .of fun b hb' hl => ⟨hb', hb.block b hl⟩, .refl _, hb.size, hb.os, hb.tape, hb.output, fun b hb' _ => hb.block b hb', fun _ h => .inl h, fun _ _ _ B h => ⟨B, h⟩⟩
  exact Sat.stp h2 h3 h4 h5 h6 hst (dstOk_ok hd) fun _ => RV.pure (.of fun b hb _ => ⟨hb, rfl⟩) hpr hv
end

/-- A handed slice that is nil. -/
theorem SCtr.nil {P : Program} {Y : YP} {f sz s : Nat} {axs : List AV} {rows : List (List D)} (h : SCtr P Y f (.ow 0 0 :: axs) [.arr sz 0 []] (.ow 0 s) [.arr sz s rows]) (hp : pureL axs = true) : PCtr P f (.d (.v (.slice none 0 0)) :: axs) (.d (.sl rows)) := by
  refine ⟨h.call, fun S w vals hS hv => ?_⟩
  cases vals with
  | nil => simp [RVs] at hv
  | cons v vs =>
    simp only [RVs, RV] at hv
    obtain ⟨hv1, hv2⟩ := hv
    cases hv1
    have hnb : ∀ b, ¬ bls [Phy.sli sz 0 (.slice none 0 0) none] b := by
      rintro b ⟨i, p, h1, h2⟩
      cases i with
      | zero => simp at h1; subst h1; simp [Phy.bl] at h2
      | succ i => simp at h1
    have hHS : HS S [Phy.sli sz 0 (.slice none 0 0) none] [.arr sz 0 []] w := by
      refine ⟨rfl, fun i ph ob h1 h2 => ?_, fun i j p q b h1 h2 h3 h4 => absurd ⟨i, p, h1, h3⟩ (hnb b), fun b hb => absurd hb (hnb b), hS⟩
      cases i with
      | zero => simp at h1 h2; subst h1; subst h2; simp only [ObOk]; exact ⟨trivial, trivial, by simp, .inl ⟨none, rfl, trivial, trivial⟩⟩
      | succ i => simp at h1
    have hk : Keep S w (SS S [Phy.sli sz 0 (.slice none 0 0) none]) w := fun b hb _ => ⟨⟨hb, hnb b⟩, rfl⟩
    have hcall := h.run S _ w (.slice none 0 0 :: vs) hHS (fun b hb => absurd hb (hnb b)) (fun i l I B hi => by
      cases i with
      | zero => simp at hi
      | succ i => simp at hi) (by
        simp only [RVs, RV]
        refine ⟨⟨⟨none, 0, 0, rfl⟩, _, rfl, fun sz' s' x' ob' he => ?_⟩, RVs.pure hk hp hv2⟩
        cases he; exact ⟨Nat.le_refl _, fun _ => rfl⟩)
    refine hcall.mono ?_
    rintro e w' ⟨v, φ', rfl, hr, hst⟩
    have hbl : ∀ b, bls φ' b → S b := fun b hb => (hst.own b hb).elim (fun h => absurd h (hnb b)) (hS b)
    refine ⟨v, rfl, ?_, ⟨hst.os, hst.tape, hst.out, hst.size, fun b hb => hst.fr b hb (hnb b)⟩⟩
    exact sealA_ok hbl hst.hs 5 hr (by simp [sealA, nth])
end PSL
namespace PSL
open Go Go.RowKit
section
variable {g : G} {pf : Nat → Cls} {ops : Array Oper} {Fin : Exit → Act → World → Prop}
end
end PSL
namespace PSL
open Go Go.RowKit
section
variable {g : G} {pf : Nat → Cls} {ops : Array Oper} {Fin : Exit → Act → World → Prop}

/-- The first elements of a slice of the call's own. -/
theorem R_shrinkO (hg : GOk g) {dst : Option Nat} {T : Nat} {x : Operand} {lo hi : Option Operand} {ty : Nat} {pos : String} {after : Array Edge} {gd : Option (Nat × Bool)} {rest : List Oper} {k : List It} {E : Env} {objs : List Ob}
    {i s sz q by_ e : Nat} {z : List Value} {τ : Ty} {rows : List (List D)} (rows' : List (List D)) {h : Int}
    (hgd : guardA ops.toList E gd = some true) (hd : dstOk ⟨g.ty, g.N⟩ dst = true) (hcl : slCls pf = .turn 1) (hx : ev E x = .ow i s) (ho : nth objs i = some (.arr sz s rows)) (hh : bndA E hi rows.length = some h) (hlo : bndA E lo 0 = some 0) (hT : g.ty T = some ⟨q, by_, z, .slice e⟩) (he : g.ty e = some τ) (hsz : τ.size = sz)
    (h0 : 0 ≤ h) (h2 : h ≤ rows.length) (hrows : rows.take h.toNat = rows')
    (hr : R g pf Fin (.dr ops rest :: k) (putO E dst (.ow i (Nat.succ s))) (setN objs i (.arr sz (Nat.succ s) rows'))) : R g pf Fin (.dr ops (⟨dst, .slice T x lo hi none, ty, pos, after, gd⟩ :: rest) :: k) E objs := by
  subst hrows
  refine R_op ?_ hr
  simp only [clsOf, hcl]
  refine LocOp.turning hg (grow_set ho) hgd hd (by simp) fun φ a w hρ hs => ?_
  simp only [Op.operands] at hρ
  have hxv := hρ x (by simp)
  rw [hx] at hxv
  simp only [RV] at hxv
  obtain ⟨_, ph, hph, hxv⟩ := hxv
  have hk := obj_at hs hph ho
  cases ph <;> try (simp only [ObOk] at hk; done)
  rename_i sz2 s2 v2 ob2
  simp only [ObOk] at hk
  obtain ⟨e1, e2, hrl, hk'⟩ := hk
  subst e1; subst e2
  have hv := (hxv _ _ _ _ rfl).2 rfl
  clear hxv
  rw [setN_eq]
  have hlt : i < φ.length := (List.getElem?_eq_some_iff.1 hph).1
  have hτ := hg.ty _ _ he
  have htl : (rows.take h.toNat).length = h.toNat := by rw [List.length_take]; omega
  have hbd : ∀ cap : Nat, (h : Int) ≤ cap → (Instr.sliceBounds true rows.length cap (lo.map a.eval) (hi.map a.eval) none).run g.P w = .ok (0, h.toNat, cap) w := fun cap hc => by
    have := run_bounds (P := g.P) (w := w) (sl := true) (a := a) (len := rows.length) (cap := cap) (lo := lo) (hi := hi) (l := 0) hlo hh (fun y hy n he => by
      have := hρ y (by simp [hy]); rw [he] at this; simp only [RV] at this; generalize a.eval y = u at this; cases this; rfl) (fun y hy n he => by
      have := hρ y (by simp [hy]); rw [he] at this; simp only [RV] at this; generalize a.eval y = u at this; cases this; rfl) (Int.le_refl 0) h0 hc
    simpa using this
  have hall : ∀ r ∈ rows.take h.toNat, r.length = sz := fun r hr => hrl r (List.mem_of_mem_take hr)
  rcases hk' with ⟨a0, rfl, hrows, rfl⟩ | ⟨b, o, cap, cs, Tb, rfl, rfl, hheap, hn, hcap, hle, hrd⟩
  · subst hrows
    have h00 : h = 0 := by simp at h2; omega
    subst h00
    have hb := hbd 0 (by simp)
    refine ⟨.value (.slice a0 0 0), .slice a0 0 0, w, φ.set i (.sli sz (Nat.succ s) (.slice a0 0 0) none), ?_, .inl rfl, ?_, ?_⟩
    · simp only [List.length_nil] at hb
      simp [execOp, Instr.sliceAt, Instr.slice, hv, underlying, und_slice hg hT, hb, run_sizeOf hτ]
    · simp only [RV]
      exact ⟨⟨_, _, _, rfl⟩, _, List.getElem?_set_self hlt, fun sz s x ob h => by cases h; exact ⟨Nat.le_refl _, fun _ => rfl⟩⟩
    · refine Stp.swap hs hph (.inr (.inl ⟨_, _, _, _, _, _, _, _, rfl, rfl, Nat.lt_succ_self _⟩)) (Nat.le_refl _) (fun _ _ _ => rfl) (fun b hb => by simp [Phy.bl] at hb) rfl rfl rfl fun _ _ => ?_
      simp only [ObOk]
      exact ⟨trivial, trivial, by simp, .inl ⟨_, rfl, rfl, trivial⟩⟩
  · have hb := hbd cap (by omega)
    have hv2 : (if cap = 0 then (some (⟨b, o, none⟩ : Addr)) else (some (⟨b, o, none⟩ : Addr)).map (·.add (0 * τ.size))) = some ⟨b, o, none⟩ := by
      split
      · rfl
      · simp only [Option.map_some, add_none, Nat.zero_mul, Nat.add_zero]
    refine ⟨.value (.slice (some ⟨b, o, none⟩) h.toNat cap), .slice (some ⟨b, o, none⟩) h.toNat cap, w, φ.set i (.sli sz (Nat.succ s) (.slice (some ⟨b, o, none⟩) h.toNat cap) (some b)), ?_, .inl rfl, ?_, ?_⟩
    · simp only [execOp, Instr.sliceAt, Instr.slice, hv, underlying, Sem.run_bind, run_program, Result.andThen_ok, und_slice hg hT, Sem.run_pure, hb, run_sizeOf hτ, Nat.sub_zero, Option.map_none, hv2]
    · simp only [RV]
      exact ⟨⟨_, _, _, rfl⟩, _, List.getElem?_set_self hlt, fun sz s x ob h => by cases h; exact ⟨Nat.le_refl _, fun _ => rfl⟩⟩
    · refine Stp.swap hs hph (.inr (.inl ⟨_, _, _, _, _, _, _, _, rfl, rfl, Nat.lt_succ_self _⟩)) (Nat.le_refl _) (fun _ _ _ => rfl) (fun b' hb => .inl hb) rfl rfl rfl fun hkeep _ => ?_
      simp only [ObOk]
      refine ⟨trivial, trivial, hall, .inr ⟨b, o, cap, cs, Tb, by rw [htl], rfl, hheap, by rw [htl]; omega, hcap, hle, fun i' r j x' hi hj => ?_⟩⟩
      have hil := (List.getElem?_eq_some_iff.1 hi).1
      rw [htl] at hil
      rw [List.getElem?_take_of_lt hil] at hi
      obtain ⟨y, h3, h4⟩ := hrd i' r j x' hi hj
      exact ⟨y, h3, h4.mono hkeep⟩

/-- A slice written out, as one of the call's own. -/
theorem R_buildO (hg : GOk g) {dst : Option Nat} {T n : Nat} {parts : Array (Nat × Operand)} {ty : Nat} {pos : String} {after : Array Edge} {gd : Option (Nat × Bool)} {rest : List Oper} {k : List It} {E : Env} {objs : List Ob}
    {q by_ e sz : Nat} {z : List Value} {τ : Ty} (rows : List (List D))
    (hgd : guardA ops.toList E gd = some true) (hd : dstOk ⟨g.ty, g.N⟩ dst = true) (hcl : bsCls pf = .turn 0) (hT : g.ty T = some ⟨q, by_, z, .slice e⟩) (he : g.ty e = some τ) (hrows : rowsOf (parts.toList.map fun p => (p.1, ev E p.2)) 0 τ.size = some rows) (hn : rows.length = n) (hsz : τ.size = sz) (hb : n * sz ≤ 100000) (hb2 : n ≤ 100000)
    (hr : R g pf Fin (.dr ops rest :: k) (putO E dst (.ow (len objs) 0)) (objs ++ [.arr sz 0 rows])) : R g pf Fin (.dr ops (⟨dst, .buildSlice T n parts, ty, pos, after, gd⟩ :: rest) :: k) E objs := by
  subst hsz
  refine R_op ?_ hr
  simp only [clsOf, hcl]
  refine LocOp.turning hg (.add _ _) hgd hd (by simp) fun φ a w hρ hs => ?_
  have hsl := (hg.ty _ _ hT).sh
  simp only [ShFact] at hsl
  have hτ := hg.ty _ _ he
  have hρ' : ∀ p ∈ parts.toList, RV (SS g.S0 φ) w φ (ev E p.2) (a.eval p.2) := fun p hp => hρ p.2 (by
    simp only [Op.operands, Array.toList_map, List.mem_map]
    exact ⟨p, hp, rfl⟩)
  have hlp : rows.length = parts.size := by
    have key : ∀ (l : List (Nat × AV)) (k : Nat) (rs : List (List D)), rowsOf l k τ.size = some rs → rs.length = l.length := by
      intro l
      induction l with
      | nil => intro k rs h; simp [rowsOf] at h; subst h; rfl
      | cons x l ih =>
        intro k rs h
        obtain ⟨i, x⟩ := x
        simp only [rowsOf] at h
        obtain ⟨_, h⟩ := bifO h
        split at h
        · cases h
        split at h
        · obtain ⟨_, h⟩ := bifO h
          split at h
          · rename_i hl; cases h; simp [ih _ _ hl]
          · cases h
        · cases h
    simpa using key _ _ _ hrows
  obtain ⟨zv, hz1, hz2⟩ := run_zeroValue hτ w
  have hzl := hτ.zl
  have hzs : zv.cells.size = τ.size := by rw [← hz2] at hzl; simpa using hzl
  generalize hrest : (if n * τ.size = 0 then ([] : List Value) else ((List.range (n * τ.size)).map fun i => zv.cells[i % zv.cells.size]!)) = rest
  have hrl : rest.length = n * τ.size := by
    rw [← hrest]
    split
    · rename_i h0; rw [h0]; rfl
    · simp only [List.length_map, List.length_range]
  obtain ⟨cells, h1, h2, h2', h3⟩ := rows_fill (S0 := g.S0) (φ := φ) (w := w) hτ (parts.toList.map fun p => (p.1, ev E p.2)) (parts.toList.map fun p => (p.1, a.eval p.2)) 0 rows [] rest
    (by simp [List.map_map, Function.comp_def]) (by simp only [List.map_map]; exact RVs.map _ _ _ fun p hp => hρ' p hp) hrows (by simp) (by rw [hrl, ← hn, hlp]; simp)
  simp only [List.nil_append] at h1
  have hpm : (parts.map fun (i, x) => (i, a.eval x)).toList = parts.toList.map fun p => (p.1, a.eval p.2) := by simp [Array.toList_map]
  have hrun : (Instr.buildSlice T n (parts.map fun (i, x) => (i, a.eval x))).run g.P w = .ok (.slice (some ⟨w.heap.size, 0, none⟩) n n) (w.alloc (.cells cells.toArray e)) := by
    have h0 : ¬ (n * τ.size > 2 ^ 24) := by omega
    simp only [Instr.buildSlice, underlying, Sem.run_bind, run_program, Result.andThen_ok, hsl, Sem.run_pure, run_sizeOf hτ]
    rw [Sem.run_ite]
    rw [if_neg h0]
    by_cases hz0 : n * τ.size = 0
    · rw [Sem.run_ite, if_pos hz0]
      have hr0 : rest = [] := List.length_eq_zero_iff.1 (by omega)
      rw [hr0] at h1
      simp only [Sem.run_pure, Result.andThen_ok, hz0, hpm, newRow, Sem.run_bind]
      simp only [show (Array.map (fun x => (#[] : Array Value)[x % (#[] : Array Value).size]!) (Array.range 0)) = ([] : List Value).toArray from by simp, h1, Sem.run_bind, run_newObj, Result.andThen_ok, Sem.run_pure]
      rfl
    · rw [Sem.run_ite, if_neg hz0]
      have : (Array.range (n * τ.size)).map (fun x => zv.cells[x % zv.cells.size]!) = rest.toArray := by
        rw [← hrest, if_neg hz0]; apply Array.toList_inj.1; simp [Array.toList_range]
      simp only [Sem.run_bind, hz1, Sem.run_pure, Result.andThen_ok, this, hpm, h1, newRow, run_newObj]
      rfl
  refine ⟨.value (.slice (some ⟨w.heap.size, 0, none⟩) n n), .slice (some ⟨w.heap.size, 0, none⟩) n n, w.alloc (.cells cells.toArray e), φ ++ [.sli τ.size 0 (.slice (some ⟨w.heap.size, 0, none⟩) n n) (some w.heap.size)], ?_, .inl rfl, ?_, ?_⟩
  · simp only [execOp, Sem.run_bind, hrun, Result.andThen_ok, Sem.run_pure]
  · simp only [RV]
    refine ⟨⟨_, _, _, rfl⟩, .sli τ.size 0 (.slice (some ⟨w.heap.size, 0, none⟩) n n) (some w.heap.size), by rw [len_eq, ← hs.len]; simp, fun sz' s' x' ob' he => ?_⟩
    cases he
    exact ⟨Nat.le_refl _, fun _ => rfl⟩
  · refine Stp.new hs (fun b hb => by simp only [Phy.bl] at hb; cases hb; rfl) ?_
    simp only [ObOk]
    refine ⟨trivial, trivial, fun r hr => ?_, .inr ⟨w.heap.size, 0, n, cells, e, by rw [hn], rfl, heap_alloc_new _ _, by omega, by unfold maxLen; omega, by rw [h2, hn]; omega, fun i r j x hi hj => ?_⟩⟩
    · obtain ⟨i, hi⟩ := List.mem_iff_getElem?.1 hr
      exact (h3 i r hi).1
    · obtain ⟨u, hu1, hu2⟩ := (h3 i r hi).2 j x hj
      exact ⟨u, by rw [Nat.zero_add]; exact hu1, hu2.mono (keep_new (fun b hb => by simp only [Phy.bl] at hb; cases hb; rfl))⟩

/-- The same, beside stores that leave it alone. -/
theorem R_indexOJ (hg : GOk g) (m : Nat) {dst : Option Nat} {T : Nat} {x i : Operand} {ty : Nat} {pos : String} {after : Array Edge} {gd : Option (Nat × Bool)} {rest : List Oper} {k : List It} {E : Env} {objs : List Ob}
    {id s sz q by_ e : Nat} {z : List Value} {τ : Ty} {rows : List (List D)} {n : Int}
    (hgd : guardA ops.toList E gd = some true) (hd : dstOk ⟨g.ty, g.N⟩ dst = true) (hcl : ixCls pf = .look (m + 1)) (hmay : ¬ mayO g.φ0.length m id (.arr sz s rows)) (hx : ev E x = .ow id s) (ho : nth objs id = some (.arr sz s rows)) (hi : ev E i = .d (.v (.int .i64 n))) (hT : g.ty T = some ⟨q, by_, z, .slice e⟩) (he : g.ty e = some τ) (hsz : τ.size = sz)
    (h0 : 0 ≤ n) (hlt : n.toNat < rows.length)
    (hr : R g pf Fin (.dr ops rest :: k) (putO E dst (.el id s n.toNat 0)) objs) : R g pf Fin (.dr ops (⟨dst, .indexAddr T x i, ty, pos, after, gd⟩ :: rest) :: k) E objs := by
  refine R_op ?_ hr
  simp only [clsOf, hcl]
  refine LocOp.lookingM hg m hgd hd (by simp) fun φ a w objs₁ hgr hρ hs => ?_
  simp only [Op.operands] at hρ
  have hxv := hρ x (by simp)
  rw [hx] at hxv
  have hiv := hρ i (by simp)
  rw [hi] at hiv
  simp only [RV] at hiv
  generalize hvi : a.eval i = vi at hiv
  cases hiv
  have ho : nth objs₁ id = some (.arr sz s rows) := by
    have h := hxv
    simp only [RV] at h
    obtain ⟨_, ph, hph, _⟩ := h
    rw [nth_eq] at ho ⊢
    exact Gr.same' hgr ho (by rw [← hs.len]; exact (List.getElem?_eq_some_iff.1 hph).1) hmay
  obtain ⟨_, h1⟩ := own_slice hs hxv ho
  rcases h1 with h1 | ⟨b, o, cap, cs, T', h1, h2, h3, _⟩
  · subst h1; simp at hlt
  refine out_val hs (vv := .pointer (some ⟨b, o + n.toNat * sz, none⟩)) ?_ ?_
  · have hrun : (Instr.indexAt T (a.eval x) (a.eval i)).run g.P w = .ok (.pointer (some ⟨b, o + n.toNat * sz, none⟩)) w := by
      simp only [Instr.indexAt, h1, hvi, asIntOf, underlying, Sem.run_bind, Sem.run_pure, run_program, Result.andThen_ok, und_slice hg hT]
      rw [Sem.run_ite, if_pos ⟨h0, by omega⟩]
      simp only [Sem.run_bind, run_sizeOf (hg.ty _ _ he), Result.andThen_ok, Sem.run_pure, add_none, hsz]
    simp only [execOp, Sem.run_bind, hrun, Result.andThen_ok, Sem.run_pure]
  · simp only [RV]
    refine ⟨⟨_, _, rfl⟩, _, h2, fun sz' s' x' ob' h => ?_⟩
    cases h
    exact ⟨Nat.le_refl _, fun _ => ⟨b, o, _, _, h1, rfl⟩⟩

/-- A load of an element, or of a part of it. -/
theorem R_loadEJ (hg : GOk g) (m : Nat) {dst : Option Nat} {T : Nat} {x : Operand} {ty : Nat} {pos : String} {after : Array Edge} {gd : Option (Nat × Bool)} {rest : List Oper} {k : List It} {E : Env} {objs : List Ob}
    {id s sz r j : Nat} {τ : Ty} {rows : List (List D)} {row : List D} {v : AV}
    (hgd : guardA ops.toList E gd = some true) (hd : dstOk ⟨g.ty, g.N⟩ dst = true) (hcl : ldClsAt pf x = .look (m + 1)) (hmay : ¬ mayO g.φ0.length m id (.arr sz s rows)) (hx : ev E x = .el id s r j) (ho : nth objs id = some (.arr sz s rows)) (hT : g.ty T = some τ) (hrow : rows[r]? = some row) (hp : packA τ (row.map .d) j = some v)
    (hr : R g pf Fin (.dr ops rest :: k) (putO E dst v) objs) : R g pf Fin (.dr ops (⟨dst, .load T x, ty, pos, after, gd⟩ :: rest) :: k) E objs := by
  refine R_op ?_ hr
  simp only [clsOf, hcl]
  refine LocOp.lookingM hg m hgd hd (by simp) fun φ a w objs₁ hgr hρ hs => ?_
  simp only [Op.operands] at hρ
  have hxv := hρ x (by simp)
  rw [hx] at hxv
  simp only [RV] at hxv
  obtain ⟨_, ph, hph, hxv⟩ := hxv
  have ho : nth objs₁ id = some (.arr sz s rows) := by
    rw [nth_eq] at ho ⊢
    exact Gr.same' hgr ho (by rw [← hs.len]; exact (List.getElem?_eq_some_iff.1 hph).1) hmay
  have hk := obj_at hs hph ho
  cases ph <;> try (simp only [ObOk] at hk; done)
  rename_i sz2 s2 v2 ob2
  simp only [ObOk] at hk
  obtain ⟨rfl, rfl, hlen, hk⟩ := hk
  obtain ⟨b, o, n, cap, h1, h2⟩ := (hxv _ _ _ _ rfl).2 rfl
  rcases hk with ⟨a2, _, rfl, _⟩ | ⟨b', o', cap2, cs, T', h3, rfl, hheap, hn, hcap, hle, hrd⟩
  · simp at hrow
  rw [h1] at h3
  simp only [Value.slice.injEq, Option.some.injEq, Addr.mk.injEq] at h3
  obtain ⟨⟨rfl, rfl, _⟩, hnn, hcc⟩ := h3
  subst hcc
  have hrl := hlen row (List.mem_of_getElem? hrow)
  have hrlt := (List.getElem?_eq_some_iff.1 hrow).1
  have hτ := hg.ty _ _ hT
  have hfit : o + r * sz + sz ≤ cs.length := by
    have : (r + 1) * sz ≤ cap * sz := Nat.mul_le_mul_right _ (by omega)
    rw [Nat.succ_mul] at this; omega
  have hrv : RVs (SS g.S0 φ) w φ (row.map .d) ((cs.drop (o + r * sz)).take sz) := by
    refine RVs.of_get (by simp; omega) fun m u v hu hv => ?_
    rw [List.getElem?_map] at hu
    cases hm : row[m]? with
    | none => rw [hm] at hu; cases hu
    | some y =>
      rw [hm] at hu; simp at hu; subst hu
      have hml := (List.getElem?_eq_some_iff.1 hm).1
      obtain ⟨y', h4, h5⟩ := hrd r row m y hrow hm
      rw [List.getElem?_take_of_lt (by omega), List.getElem?_drop, h4] at hv
      cases hv
      simp only [RV]; exact h5
  obtain ⟨h4, h5⟩ := pack_ok hτ hrv hp
  rcases h4 with ⟨h0, ha⟩ | h4
  · exact ok_load hs rfl h2 (run_loadVar0 hτ ha h0 _ _) h5
  · simp only [List.length_take, List.length_drop] at h4
    rcases Nat.eq_zero_or_pos τ.size with hz | hz
    · have ha : τ.agg = true := by
        cases ha : τ.agg
        · have := hτ.one ha; omega
        · rfl
      exact ok_load hs rfl h2 (run_loadVar0 hτ ha hz _ _) h5
    · have h6 : (List.drop j (List.take sz (List.drop (o + r * sz) cs))).take τ.size = (cs.drop (o + r * sz + j)).take τ.size := by
        rw [List.drop_take, List.take_take, List.drop_drop, Nat.min_eq_left (by omega)]
      rw [h6] at h5
      exact ok_load hs rfl h2 (run_loadVar hτ hheap (o + r * sz + j) (by omega)) h5

open Classical in
/-- A store into a box that what is beside it doesn't look at, as no boxes. -/
theorem R_storeB (hg : GOk g) {dst : Option Nat} {T : Nat} {d x : Operand} {ty : Nat} {pos : String} {after : Array Edge} {gd : Option (Nat × Bool)} {rest : List Oper} {k : List It} {E : Env} {objs : List Ob}
    {i off : Nat} {l new : List AV} {τ : Ty}
    (hgd : guardA ops.toList E gd = some true) (hd : dstOk ⟨g.ty, g.N⟩ dst = true) (hcl : stClsAt pf d = .turn 10000) (hx : ev E d = .lo i off) (ho : nth objs i = some (.box l)) (hT : g.ty T = some τ) (hc : cellsO (ev E x) = some new)
    (hl : Nat.beq (len new) τ.size = true) (hfit : Nat.ble (Nat.add off τ.size) (len l) = true)
    (hr : R g pf Fin (.dr ops rest :: k) (putO E dst .any) (setN objs i (.box (spliceA l off new)))) : R g pf Fin (.dr ops (⟨dst, .store T d x, ty, pos, after, gd⟩ :: rest) :: k) E objs := by
  refine R_op ?_ hr
  simp only [clsOf, hcl]
  refine .of_out hg (guardA_ok hgd) (dstOk_ok hd) (by simp) (fun h => absurd rfl (h _)) (fun b hb _ => ?_) fun φ o₁ o₁' a w E₁ hent hv ho' hs => ?_
  · cases hb
    intro j y hj
    rw [nth_eq] at ho
    rw [setN_eq]
    by_cases e : j = i
    · subst e
      exact ⟨_, List.getElem?_set_self (List.getElem?_eq_some_iff.1 ho).1, .inr ⟨.inr (.inr ⟨rfl, by rw [ho] at hj; cases hj; rfl⟩), .inr (.inr ⟨rfl, rfl⟩)⟩⟩
    · exact ⟨y, by rw [List.getElem?_set_ne (fun h => e h.symm)]; exact hj, .inl rfl⟩
  · rcases ho' with ⟨h, _⟩ | ⟨_, h, _⟩ | ⟨rfl, rfl⟩
    · cases h
    · cases h
    have hρ := rv_ops hent hv
    simp only [Op.operands] at hρ
    refine stepOp_ok (ρA := fun y => if y = d then .lo i off else if y = x then ev E x else .any) hg.ty hs (fun y => ?_) ?_
    · split
      · rename_i h; rw [h, ← hx]; exact hρ d (by simp)
      · split
        · rename_i h; rw [h]; exact hρ x (by simp)
        · simp [RV]
    · have hxx : (if x = d then AV.lo i off else if x = x then ev E x else .any) = ev E x := by
        split
        · rename_i h; rw [h, hx]
        · rw [if_pos rfl]
      have hxx' : (if x = d then AV.lo i off else ev E x) = ev E x := by rw [if_pos rfl] at hxx; exact hxx
      simp only [stepOp, stepS, stepL, stepE, hT, if_true, ho, hxx', hc, hl, hfit, cond_true]

/-- The address of a part of an element of the call's own, where that is an array. -/
theorem R_indexEA (hg : GOk g) {dst : Option Nat} {T : Nat} {x i : Operand} {ty : Nat} {pos : String} {after : Array Edge} {gd : Option (Nat × Bool)} {rest : List Oper} {k : List It} {E : Env} {objs : List Ob}
    {id s r j n sz by_ e : Nat} {z : List Value} {τ : Ty} {m : Int} (j' : Nat)
    (hgd : guardA ops.toList E gd = some true) (hd : dstOk ⟨g.ty, g.N⟩ dst = true) (hx : ev E x = .el id s r j) (hi : ev E i = .d (.v (.int .i64 m))) (hT : g.ty T = some ⟨sz, by_, z, .array n e⟩) (he : g.ty e = some τ)
    (h0 : 0 ≤ m) (hlt : m < n) (ho : j + m.toNat * τ.size = j')
    (hr : R g pf Fin (.dr ops rest :: k) (putO E dst (.el id s r j')) objs) : R g pf Fin (.dr ops (⟨dst, .indexAddr T x i, ty, pos, after, gd⟩ :: rest) :: k) E objs := by
  subst ho
  refine R_op (LocOp.up (LocOp.quiet hg hgd hd (by simp) fun φ o₁ a w hρ hs => ?_)) hr
  simp only [Op.operands] at hρ
  have hxv := hρ x (by simp)
  rw [hx] at hxv
  have hiv := hρ i (by simp)
  rw [hi] at hiv
  simp only [RV] at hxv hiv
  obtain ⟨⟨b, o, hvx⟩, ph, hph, hxv⟩ := hxv
  generalize hvi : a.eval i = vi at hiv
  cases hiv
  have hsl := (hg.ty _ _ hT).sh
  simp only [ShFact] at hsl
  refine out_val hs (vv := .pointer (some ⟨b, o + m.toNat * τ.size, none⟩)) ?_ ?_
  · have hrun : (Instr.indexAt T (a.eval x) (a.eval i)).run g.P w = .ok (.pointer (some ⟨b, o + m.toNat * τ.size, none⟩)) w := by
      simp only [Instr.indexAt, hvx, hvi, asIntOf, underlying, Sem.run_bind, Sem.run_pure, run_program, Result.andThen_ok, hsl, Instr.sureAddr]
      rw [Sem.run_ite, if_pos ⟨h0, hlt⟩]
      simp only [Sem.run_bind, run_sizeOf (hg.ty _ _ he), Result.andThen_ok, Sem.run_pure, add_none]
    simp only [execOp, Sem.run_bind, hrun, Result.andThen_ok, Sem.run_pure]
  · simp only [RV]
    refine ⟨⟨_, _, rfl⟩, ph, hph, fun sz' s' x' ob' h => ?_⟩
    obtain ⟨h1, h2⟩ := hxv sz' s' x' ob' h
    refine ⟨h1, fun e => ?_⟩
    obtain ⟨b', o', n', cap, h3, h4⟩ := h2 e
    rw [hvx] at h4
    simp only [Value.pointer.injEq, Option.some.injEq, Addr.mk.injEq] at h4
    obtain ⟨rfl, rfl, _⟩ := h4
    exact ⟨b, o', n', cap, h3, by rw [show o' + r * sz' + j + m.toNat * τ.size = o' + r * sz' + (j + m.toNat * τ.size) by omega]⟩
end
end PSL

namespace PSL
open Go
namespace Tm

mutual
/-- A term's variables, as often as they are met. -/
def occ : Tm → List Int
  | mk k _ n l => if k = 1 then [n] else occL l
def occL : List Tm → List Int
  | [] => []
  | t :: r => occ t ++ occL r
end

mutual
theorem withV_occ : ∀ (t : Tm) (a : List Int), withV a t = (occ t).foldl addV a
  | mk k s n l, a => by
    simp only [withV, occ]
    split
    · rfl
    · exact withVL_occ l a
theorem withVL_occ : ∀ (l : List Tm) (a : List Int), withVL a l = (occL l).foldl addV a
  | [], a => rfl
  | t :: r, a => by simp only [withVL, occL, List.foldl_append, withV_occ t a, withVL_occ r]
end

mutual
theorem occ_of : ∀ {t : Tm} {d : Int} {e : Int × Tm}, e ∈ els t d → e.2.k = 1 → plain t = true → e.2.n ∈ occ t
  | mk k s n l, d, e, he, hk, hp => by
    simp only [els, List.mem_cons] at he
    simp only [plain, Bool.and_eq_true] at hp
    rcases he with rfl | he
    · have hk : k = 1 := hk
      simp only [occ, if_pos hk]
      show n ∈ [n]; simp
    · have hl := occL_of he hk hp.2
      by_cases h1 : k = 1
      · have : l = [] := by
          have h2 := hp.1
          simp only [h1, beq_self_eq_true, Bool.true_and, Bool.not_not] at h2
          simpa using h2
        subst this
        simp [elsL] at he
      · simp only [occ, if_neg h1]; exact hl
theorem occL_of : ∀ {l : List Tm} {d : Int} {e : Int × Tm}, e ∈ elsL l d → e.2.k = 1 → plainL l = true → e.2.n ∈ occL l
  | [], _, _, he, _, _ => by simp [elsL] at he
  | t :: r, d, e, he, hk, hp => by
    simp only [elsL, List.mem_append] at he
    simp only [plainL, Bool.and_eq_true] at hp
    simp only [occL, List.mem_append]
    rcases he with he | he
    · exact .inl (occ_of he hk hp.1)
    · exact .inr (occL_of he hk hp.2)
end

theorem kindR_var {s : ByteArray} {n : Int} {m : Nat} (h : kindR 1 s n m = true) : 0 ≤ n ∧ n < 1000000 ∧ s = ByteArray.empty ∧ m = 0 := by
  simp only [kindR, if_true, Bool.and_eq_true, decide_eq_true_eq, strEq_iff, beq_iff_eq] at h
  obtain ⟨⟨⟨h1, h2⟩, h3⟩, h4⟩ := h
  exact ⟨h1, h2, h3, by omega⟩

mutual
theorem fair_plain : ∀ (t : Tm), fairR t = true → plain t = true
  | mk k s n l, h => by
    simp only [fairR, Bool.and_eq_true] at h
    simp only [plain, Bool.and_eq_true, fairL_plain l h.1.2, and_true, Bool.not_eq_true', Bool.and_eq_false_iff]
    by_cases hk : k = 1
    · subst hk
      have := (kindR_var h.2).2.2.2
      right; cases l <;> simp at this ⊢
    · left; simpa using hk
theorem fairL_plain : ∀ (l : List Tm), fairRL l = true → plainL l = true
  | [], _ => rfl
  | t :: r, h => by
    simp only [fairRL, Bool.and_eq_true] at h
    simp only [plainL, fair_plain t h.1, fairL_plain r h.2, Bool.and_self]
end

mutual
theorem occ_range : ∀ (t : Tm), fairR t = true → ∀ v ∈ occ t, 0 ≤ v ∧ v < 1000000
  | mk k s n l, h, v, hv => by
    simp only [fairR, Bool.and_eq_true] at h
    simp only [occ] at hv
    split at hv
    · rename_i hk
      subst hk
      simp at hv; subst hv
      have := kindR_var h.2
      exact ⟨this.1, this.2.1⟩
    · exact occL_range l h.1.2 v hv
theorem occL_range : ∀ (l : List Tm), fairRL l = true → ∀ v ∈ occL l, 0 ≤ v ∧ v < 1000000
  | [], _, v, hv => by simp [occL] at hv
  | t :: r, h, v, hv => by
    simp only [fairRL, Bool.and_eq_true] at h
    simp only [occL, List.mem_append] at hv
    exact hv.elim (occ_range t h.1 v) (occL_range r h.2 v)
end

mutual
theorem occ_turn (g : Int → Int) : ∀ (t : Tm), occ (turnT g t) = (occ t).map g
  | mk k s n l => by
    simp only [turnT, occ]
    split
    · rfl
    · exact occL_turn g l
theorem occL_turn (g : Int → Int) : ∀ (l : List Tm), occL (turnTL g l) = (occL l).map g
  | [] => rfl
  | t :: r => by simp only [turnTL, occL, List.map_append, occ_turn g t, occL_turn g r]
end

mutual
theorem turn_congr {g g' : Int → Int} : ∀ (t : Tm), fairR t = true → (∀ v ∈ occ t, g v = g' v) → turnT g t = turnT g' t
  | mk k s n l, h, hv => by
    simp only [fairR, Bool.and_eq_true] at h
    simp only [turnT]
    by_cases hk : k = 1
    · subst hk
      have hl := (kindR_var h.2).2.2.2
      have hl : l = [] := List.length_eq_zero_iff.1 hl
      subst hl
      rw [if_pos rfl, if_pos rfl, hv n (by simp [occ])]
      rfl
    · rw [if_neg hk, if_neg hk, turnL_congr l h.1.2 fun v h' => hv v (by simp only [occ, if_neg hk]; exact h')]
theorem turnL_congr {g g' : Int → Int} : ∀ (l : List Tm), fairRL l = true → (∀ v ∈ occL l, g v = g' v) → turnTL g l = turnTL g' l
  | [], _, _ => rfl
  | t :: r, h, hv => by
    simp only [fairRL, Bool.and_eq_true] at h
    simp only [turnTL]
    rw [turn_congr t h.1 fun v h' => hv v (by simp [occL, h']), turnL_congr r h.2 fun v h' => hv v (by simp [occL, h'])]
end

mutual
theorem turn_comp (g h : Int → Int) : ∀ (t : Tm), turnT h (turnT g t) = turnT (fun n => h (g n)) t
  | mk k s n l => by
    simp only [turnT, turnL_comp g h l]
    by_cases hk : k = 1 <;> simp [hk]
theorem turnL_comp (g h : Int → Int) : ∀ (l : List Tm), turnTL h (turnTL g l) = turnTL (fun n => h (g n)) l
  | [] => rfl
  | t :: r => by simp only [turnTL, turn_comp g h t, turnL_comp g h r]
end

mutual
theorem turn_self : ∀ (t : Tm), turnT (fun n => n) t = t
  | mk k s n l => by simp [turnT, turnL_self l]
theorem turnL_self : ∀ (l : List Tm), turnTL (fun n => n) l = l
  | [] => rfl
  | t :: r => by simp only [turnTL, turn_self t, turnL_self r]
end

mutual
theorem turnR_turnT (g : Int → Int) : ∀ (t : Tm), fairR t = true → turnR g t = turnT g t
  | mk k s n l, h => by
    simp only [fairR, Bool.and_eq_true] at h
    simp only [turnT, turnR]
    by_cases hk : k = 1
    · subst hk
      obtain ⟨_, _, h3, h4⟩ := kindR_var h.2
      have hl : l = [] := List.length_eq_zero_iff.1 h4
      subst hl; subst h3
      rfl
    · rw [if_neg hk, if_neg hk, turnRL_turnTL g l h.1.2]
theorem turnRL_turnTL (g : Int → Int) : ∀ (l : List Tm), fairRL l = true → turnRL g l = turnTL g l
  | [], _ => rfl
  | t :: r, h => by
    simp only [fairRL, Bool.and_eq_true] at h
    simp only [turnTL, turnRL, turnR_turnT g t h.1, turnRL_turnTL g r h.2]
end
theorem turnTL_len (g : Int → Int) (l : List Tm) : (turnTL g l).length = l.length := by rw [turnTL_map]; simp

mutual
theorem size_turn (g : Int → Int) : ∀ (t : Tm), size (turnT g t) = size t
  | mk k s n l => by simp only [turnT, size, sizeL_turn g l]
theorem sizeL_turn (g : Int → Int) : ∀ (l : List Tm), sizeL (turnTL g l) = sizeL l
  | [] => rfl
  | t :: r => by simp only [turnTL, sizeL, size_turn g t, sizeL_turn g r]
end

mutual
theorem depth_turn (g : Int → Int) : ∀ (t : Tm), depth (turnT g t) = depth t
  | mk k s n l => by simp only [turnT, depth, depthL_turn g l]
theorem depthL_turn (g : Int → Int) : ∀ (l : List Tm), depthL (turnTL g l) = depthL l
  | [] => rfl
  | t :: r => by simp only [turnTL, depthL, depth_turn g t, depthL_turn g r]
end

mutual
theorem fair_turn (g : Int → Int) : ∀ (t : Tm), fairR t = true → (∀ v ∈ occ t, 0 ≤ g v ∧ g v < 1000000) → fairR (turnT g t) = true
  | mk k s n l, h, hv => by
    simp only [fairR, Bool.and_eq_true] at h
    simp only [turnT, fairR, Bool.and_eq_true, turnTL_len]
    by_cases hk : k = 1
    · subst hk
      obtain ⟨_, _, h3, h4⟩ := kindR_var h.2
      have hl : l = [] := List.length_eq_zero_iff.1 h4
      subst hl; subst h3
      obtain ⟨h5, h6⟩ := hv n (by simp [occ])
      refine ⟨⟨h.1.1, rfl⟩, ?_⟩
      simp only [kindR, if_true, Bool.and_eq_true, decide_eq_true_eq]
      exact ⟨⟨⟨h5, h6⟩, strEq_iff.2 rfl⟩, by rfl⟩
    · rw [if_neg hk]
      exact ⟨⟨h.1.1, fairL_turn g l h.1.2 fun v h' => hv v (by simp only [occ, if_neg hk]; exact h')⟩, h.2⟩
theorem fairL_turn (g : Int → Int) : ∀ (l : List Tm), fairRL l = true → (∀ v ∈ occL l, 0 ≤ g v ∧ g v < 1000000) → fairRL (turnTL g l) = true
  | [], _, _ => rfl
  | t :: r, h, hv => by
    simp only [fairRL, Bool.and_eq_true] at h
    simp only [turnTL, fairRL, Bool.and_eq_true]
    exact ⟨fair_turn g t h.1 fun v h' => hv v (by simp [occL, h']), fairL_turn g r h.2 fun v h' => hv v (by simp [occL, h'])⟩
end

theorem rightB_iff {t : Tm} : rightB t = true ↔ fairR t = true ∧ t.size ≤ 3000 ∧ t.depth ≤ 100 := by
  simp only [rightB, Bool.and_eq_true, decide_eq_true_eq, and_assoc]

/-- Each once. -/
def once (l : List Int) : List Int := l.foldl addV []

theorem mem_addV {a : List Int} {x v : Int} : v ∈ addV a x ↔ v ∈ a ∨ v = x := by
  unfold addV
  split
  · rename_i h
    have : x ∈ a := by simpa using h
    constructor
    · exact .inl
    · rintro (h | rfl)
      · exact h
      · exact this
  · simp

theorem mem_foldl {l : List Int} : ∀ {a : List Int} {v : Int}, v ∈ l.foldl addV a ↔ v ∈ a ∨ v ∈ l := by
  induction l with
  | nil => simp
  | cons x l ih => intro a v; simp only [List.foldl_cons, ih, mem_addV, List.mem_cons, or_assoc]
theorem mem_once {l : List Int} {v : Int} : v ∈ once l ↔ v ∈ l := by simp [once, mem_foldl]

theorem foldl_map {g : Int → Int} : ∀ (l a : List Int), (∀ x ∈ a ++ l, ∀ y ∈ a ++ l, g x = g y → x = y) → (l.map g).foldl addV (a.map g) = (l.foldl addV a).map g
  | [], a, _ => rfl
  | x :: l, a, hg => by
    have h1 : addV (a.map g) (g x) = (addV a x).map g := by
      unfold addV
      have : (a.map g).contains (g x) = a.contains x := by
        rw [Bool.eq_iff_iff]
        simp only [List.contains_iff_mem, List.mem_map]
        constructor
        · rintro ⟨y, hy, he⟩
          have := hg y (by simp [hy]) x (by simp) he
          rw [← this]; exact hy
        · intro h; exact ⟨x, h, rfl⟩
      rw [this]
      split <;> simp
    simp only [List.map_cons, List.foldl_cons, h1]
    refine foldl_map l (addV a x) fun y hy z hz => hg y ?_ z ?_
    · simp only [List.mem_append, mem_addV] at hy
      simp only [List.mem_append, List.mem_cons]
      rcases hy with (h | h) | h
      · exact .inl h
      · exact .inr (.inl h)
      · exact .inr (.inr h)
    · simp only [List.mem_append, mem_addV] at hz
      simp only [List.mem_append, List.mem_cons]
      rcases hz with (h | h) | h
      · exact .inl h
      · exact .inr (.inl h)
      · exact .inr (.inr h)

theorem once_map {g : Int → Int} {l : List Int} (hg : ∀ x ∈ l, ∀ y ∈ l, g x = g y → x = y) : once (l.map g) = (once l).map g := by
  have := foldl_map (g := g) l [] (by simpa using hg)
  simpa [once] using this
end Tm

theorem varsT_once {l : List Tm} (h : Tm.fairRL l = true) : varsT l = Tm.once (Tm.occL l) := by
  rw [varsT_with l (Tm.fairL_plain l h), Tm.withVL_occ]; rfl
def placeG (l : List Int) (n : Int) : Int := if atI l n 0 < 0 then 0 else atI l n 0

theorem atI_mem : ∀ {l : List Int} {n : Int} (i : Int), n ∈ l → i ≤ atI l n i ∧ atI l n i < i + l.length
  | x :: l, n, i, h => by
    simp only [atI, List.length_cons]
    split
    · omega
    · rename_i hx
      have := atI_mem (l := l) (n := n) (i + 1) ((List.mem_cons.1 h).resolve_left fun e => hx e.symm)
      omega

theorem atI_map {g : Int → Int} {n : Int} : ∀ (l : List Int) (i : Int), (∀ x ∈ l, g x = g n → x = n) → atI (l.map g) (g n) i = atI l n i
  | [], i, _ => rfl
  | x :: l, i, h => by
    simp only [List.map_cons, atI]
    by_cases hx : x = n
    · simp [hx]
    · have : ¬ g x = g n := fun e => hx (h x (by simp) e)
      rw [if_neg hx, if_neg this, atI_map l (i + 1) fun y hy => h y (by simp [hy])]

theorem placeG_mem {l : List Int} {n : Int} (h : n ∈ l) : placeG l n = atI l n 0 ∧ 0 ≤ placeG l n ∧ placeG l n < l.length := by
  have := atI_mem 0 h
  unfold placeG
  rw [if_neg (by omega)]
  exact ⟨rfl, this.1, by omega⟩

theorem placeG_map {g : Int → Int} {l : List Int} {n : Int} (h : ∀ x ∈ l, g x = g n → x = n) : placeG (l.map g) (g n) = placeG l n := by
  unfold placeG; rw [atI_map l 0 h]
end PSL
namespace PSL
open Go

theorem fair_names {t : Tm} (h : t.fairR = true) : ∀ d e, e ∈ t.els d → e.2.s.size < 1000000000 := fun d e he => by
  have h1 := (Tm.fair_els t d).2 h e he
  rw [Tm.ownT_eq] at h1
  simp only [Bool.and_eq_true, Tm.kindR] at h1
  have h2 := h1.2
  split at h2
  · simp only [Bool.and_eq_true, Tm.strEq_iff] at h2
    rw [h2.1.2]; decide
  · split at h2
    · simp only [Bool.and_eq_true, Tm.strEq_iff] at h2
      rw [h2.1]; decide
    · simp only [Bool.and_eq_true, decide_eq_true_eq] at h2
      have := h2.1.2; omega
theorem right_fair {t : Tm} (h : t.rightB = true) : t.fairR = true := (Tm.rightB_iff.1 h).1
def zeroT : Tm := .mk 0 ByteArray.empty 0 []
theorem one_fair {t : Tm} (h : t.fairR = true) : Tm.fairRL [t] = true := by simp [Tm.fairRL, h]
theorem varsT_mem {l : List Tm} (h : Tm.fairRL l = true) {v : Int} : v ∈ varsT l ↔ v ∈ Tm.occL l := by rw [varsT_once h, Tm.mem_once]
theorem varsT_range {l : List Tm} (h : Tm.fairRL l = true) {v : Int} (hv : v ∈ varsT l) : 0 ≤ v ∧ v < 1000000 := Tm.occL_range l h v ((varsT_mem h).1 hv)

/-- Variables of a term with others. -/
theorem varsT_turn {l : List Tm} {g : Int → Int} (h : Tm.fairRL l = true) (hg : ∀ v ∈ Tm.occL l, 0 ≤ g v ∧ g v < 1000000) (hi : ∀ x ∈ Tm.occL l, ∀ y ∈ Tm.occL l, g x = g y → x = y) : varsT (Tm.turnTL g l) = (varsT l).map g := by
  rw [varsT_once (Tm.fairL_turn g l h hg), varsT_once h, Tm.occL_turn, Tm.once_map hi]

theorem occ_sub {l : List Tm} {t : Tm} (ht : t ∈ l) {v : Int} (hv : v ∈ Tm.occ t) : v ∈ Tm.occL l := by
  induction l with
  | nil => simp at ht
  | cons x l ih =>
    simp only [Tm.occL, List.mem_append]
    rcases List.mem_cons.1 ht with rfl | ht
    · exact .inl hv
    · exact .inr (ih ht)
end PSL
namespace PSL
open Go

/-- A type's number is that of terms. -/
structure IsTerm (ty : Nat → Option Ty) (T : Nat) : Prop where
  ex : ∃ (a b c s : Nat) (τ τa τb τc τs : Ty), ty T = some τ ∧ τ.sh = .struct [(0, a), (1, b), (2, c), (3, s)] ∧ τ.size = 4 ∧ 1 ≤ τ.bytes ∧ ty a = some τa ∧ τa.sh = .int .i64 ∧ ty b = some τb ∧ τb.sh = .str ∧ ty c = some τc ∧ τc.sh = .int .i64 ∧ ty s = some τs ∧ τs.sh = .slice T

def isTermB (ty : Nat → Option Ty) (T : Nat) : Bool :=
  match ty T with
  | some ⟨4, by_, _, .struct [(0, a), (1, b), (2, c), (3, s)]⟩ => Nat.ble 1 by_ && (match ty a with | some ⟨_, _, _, .int .i64⟩ => true | _ => false) && (match ty b with | some ⟨_, _, _, .str⟩ => true | _ => false) &&
      (match ty c with | some ⟨_, _, _, .int .i64⟩ => true | _ => false) && (match ty s with | some ⟨_, _, _, .slice T'⟩ => Nat.beq T' T | _ => false)
  | _ => false

theorem isTermB_ok {ty : Nat → Option Ty} {T : Nat} (h : isTermB ty T = true) : IsTerm ty T := by
  unfold isTermB at h
  split at h
  case h_2 => cases h
  rename_i by_ z a b c s hT
  simp only [Bool.and_eq_true] at h
  obtain ⟨⟨⟨⟨h0, h1⟩, h2⟩, h3⟩, h4⟩ := h
  split at h1
  case h_2 => cases h1
  rename_i ha
  split at h2
  case h_2 => cases h2
  rename_i hb
  split at h3
  case h_2 => cases h3
  rename_i hc
  split at h4
  case h_2 => cases h4
  rename_i hs
  have := natBeq h4
  subst this
  exact ⟨a, b, c, s, _, _, _, _, _, hT, rfl, rfl, Nat.le_of_ble_eq_true h0, ha, rfl, hb, rfl, hc, rfl, hs, rfl⟩

theorem has_int {ty : Nat → Option Ty} {B n t : Nat} {τ : Ty} {row : List D} {k : IntKind} (hτ : ty t = some τ) (hs : τ.sh = .int k) (h : HasTy ty B n t row) : ∃ m, row = [.v (.int k m)] ∧ k.min ≤ m ∧ m ≤ k.max := by
  cases n with
  | zero => simp [HasTy] at h
  | succ n => simpa only [HasTy, hτ, hs] using h

theorem has_str {ty : Nat → Option Ty} {B n t : Nat} {τ : Ty} {row : List D} (hτ : ty t = some τ) (hs : τ.sh = .str) (h : HasTy ty B n t row) : ∃ s : ByteArray, row = [.v (.string s)] ∧ s.size ≤ B := by
  cases n with
  | zero => simp [HasTy] at h
  | succ n => simpa only [HasTy, hτ, hs] using h

theorem has_slice {ty : Nat → Option Ty} {B n t e : Nat} {τ : Ty} {row : List D} (hτ : ty t = some τ) (hs : τ.sh = .slice e) (h : HasTy ty B (n + 1) t row) : ∃ rows : List (List D), row = [.sl rows] ∧ (∀ τ, ty e = some τ → rows.length * τ.bytes ≤ B) ∧ ∀ r ∈ rows, HasTy ty B n e r := by
  simpa only [HasTy, hτ, hs] using h

/-- All numbers of a term fit. -/
def Tm.Fit (t : Tm) : Prop := ∀ d e, e ∈ t.els d → I64 e.2.k ∧ I64 e.2.n

theorem tm_of {ty : Nat → Option Ty} {T B : Nat} (hT : IsTerm ty T) (hB : B ≤ 140737488355328) : ∀ (n : Nat) (row : List D), HasTy ty B n T row → ∃ t : Tm, row = t.row ∧ t.Ok ∧ t.Fit := by
  obtain ⟨a, b, c, s, τ, τa, τb, τc, τs, h1, h2, h3, hby, ha, ha', hb, hb', hc, hc', hs, hs'⟩ := hT.ex
  intro n
  induction n using Nat.strongRecOn with
  | _ n ih =>
  intro row h
  cases n with
  | zero => simp [HasTy] at h
  | succ n =>
    simp only [HasTy, h1, h2, HasFs] at h
    obtain ⟨_, ra, _, g1, rfl, g2, g3, _, rb, _, g4, rfl, g5, g6, _, rc, _, g7, rfl, g8, g9, _, rs, _, g10, rfl, g11, g12, rfl⟩ := h
    rw [ha] at g1; cases g1
    rw [hb] at g4; cases g4
    rw [hc] at g7; cases g7
    rw [hs] at g10; cases g10
    obtain ⟨k, rfl, hk⟩ := has_int ha ha' g3
    obtain ⟨nm, rfl, hnm⟩ := has_str hb hb' g6
    obtain ⟨m, rfl, hm⟩ := has_int hc hc' g9
    cases n with
    | zero => simp [HasTy] at g12
    | succ n =>
      obtain ⟨rows, rfl, hlen, hrows⟩ := has_slice hs hs' g12
      have hch : ∃ l : List Tm, rows = l.map Tm.row ∧ ∀ x ∈ l, x.Ok ∧ x.Fit := by
        clear hlen g11 g12
        induction rows with
        | nil => exact ⟨[], rfl, by simp⟩
        | cons r rows ihr =>
          obtain ⟨t, ht1, ht2⟩ := ih n (by omega) r (hrows r (by simp))
          obtain ⟨l, hl1, hl2⟩ := ihr fun r hr => hrows r (by simp [hr])
          exact ⟨t :: l, by simp [ht1, hl1], by simpa using ⟨ht2, hl2⟩⟩
      obtain ⟨l, rfl, hl⟩ := hch
      have hll : l.length ≤ B := by
        have := hlen τ h1
        rw [List.length_map] at this
        exact Nat.le_trans (Nat.le_mul_of_pos_right _ hby) this
      refine ⟨.mk k nm m l, by simp [Tm.row, Tm.k, Tm.s, Tm.n, Tm.l, Tm.rows_eq], ?_, ?_⟩
      · intro d e he
        simp only [Tm.els, List.mem_cons] at he
        rcases he with rfl | he
        · exact ⟨show l.length ≤ _ by omega, show nm.size ≤ _ by omega⟩
        · obtain ⟨x, hx, hex⟩ := Tm.elsL_mem he
          exact (hl x hx).1 _ _ hex
      · intro d e he
        simp only [Tm.els, List.mem_cons] at he
        rcases he with rfl | he
        · exact ⟨hk, hm⟩
        · obtain ⟨x, hx, hex⟩ := Tm.elsL_mem he
          exact (hl x hx).2 _ _ hex

/-- An argument that is a term. -/
theorem arg_tm {ty : Nat → Option Ty} {T B : Nat} (hT : IsTerm ty T) (hB : B ≤ 140737488355328) {n : Nat} {τ : Ty} {row : List D} {a : AV} (hτ : ty T = some τ) (h : HasTy ty B n T row) (ha : a = avOf τ row) : ∃ t : Tm, a = t.av ∧ t.Ok ∧ t.Fit := by
  obtain ⟨t, rfl, h1⟩ := tm_of hT hB n row h
  refine ⟨t, ?_, h1⟩
  obtain ⟨a', b, c, s, τ', τa, τb, τc, τs, g1, g2, _⟩ := hT.ex
  rw [hτ] at g1; cases g1
  rw [ha]; unfold avOf Ty.agg
  rw [g2]; rfl

theorem argsC {ty : Nat → Option Ty} {B t : Nat} {ts : List Nat} {axs : List AV} (h : ArgsAre ty B (t :: ts) axs) : ∃ (n : Nat) (τ : Ty) (row : List D) (a : AV) (as' : List AV), axs = a :: as' ∧ ty t = some τ ∧ HasTy ty B n t row ∧ a = avOf τ row ∧ ArgsAre ty B ts as' := by
  match axs, h with
  | a :: axs, h => simp only [ArgsAre] at h; obtain ⟨⟨n, τ, row, h1, h2, _, h3⟩, h4⟩ := h; exact ⟨n, τ, row, a, axs, rfl, h1, h2, h3, h4⟩
  | [], h => simp [ArgsAre] at h

theorem args0 {ty : Nat → Option Ty} {B : Nat} {axs : List AV} (h : ArgsAre ty B [] axs) : axs = [] := by
  cases axs with
  | nil => rfl
  | cons _ _ => simp [ArgsAre] at h
end PSL
namespace PSL
open Go
namespace Tm
end Tm
namespace Tm
end Tm
end PSL
namespace PSL
open Go
namespace Tm
end Tm
end PSL
namespace PSL
open Go
namespace Tm

theorem fairR_mk {k : Int} {s : ByteArray} {n : Int} {l : List Tm} (h : fairR (mk k s n l) = true) : fairRL l = true ∧ (k = 1 → s = ByteArray.empty ∧ l = []) := by
  simp only [fairR, Bool.and_eq_true] at h
  refine ⟨h.1.2, fun hk => ?_⟩
  subst hk
  have := kindR_var h.2
  exact ⟨this.2.2.1, List.length_eq_zero_iff.1 this.2.2.2⟩
end Tm
end PSL

namespace PSL
open Go

/-- Binds. -/
abbrev Binds := List (Int × Tm)
def bindRow (b : Int × Tm) : List D := .v (.int .i64 b.1) :: Tm.row b.2
def bindRows (l : Binds) : List (List D) := l.map bindRow
theorem bindRows_len (l : Binds) : (bindRows l).length = l.length := by simp [bindRows]
theorem bindRows_get {l : Binds} {i : Nat} {x : Int × Tm} (h : l[i]? = some x) : (bindRows l)[i]? = some (bindRow x) := by simp [bindRows, h]

theorem bindRows_sz (l : Binds) : ∀ r ∈ bindRows l, r.length = 5 := by
  intro r hr; obtain ⟨b, _, rfl⟩ := List.mem_map.1 hr; rfl

/-- The place of a variable in binds. -/
def placeB (l : Binds) (v : Int) : Int := atI (l.map (·.1)) v 0
def findB (l : Binds) (v : Int) : Option Tm := (l.find? (fun b => b.1 == v)).map (·.2)

theorem atI_find : ∀ (l : Binds) (v : Int) (i : Int), 0 ≤ i → (atI (l.map (·.1)) v i < 0 ∧ findB l v = none) ∨ (∃ (k : Nat) (t : Tm), atI (l.map (·.1)) v i = i + k ∧ l[k]? = some (v, t) ∧ findB l v = some t)
  | [], v, i, h => .inl ⟨by simp [atI], rfl⟩
  | b :: l, v, i, h => by
    by_cases hb : b.1 = v
    · refine .inr ⟨0, b.2, by simp [atI, hb], by simp [← hb], by simp [findB, hb]⟩
    · have hf : findB (b :: l) v = findB l v := by
        simp only [findB, List.find?_cons, show (b.1 == v) = false by simpa using hb]
      simp only [List.map_cons, atI, if_neg hb, hf]
      rcases atI_find l v (i + 1) (by omega) with ⟨h1, h2⟩ | ⟨k, t, h1, h2, h3⟩
      · exact .inl ⟨h1, h2⟩
      · exact .inr ⟨k + 1, t, by rw [h1]; omega, by simpa using h2, h3⟩

theorem placeB_find (l : Binds) (v : Int) : (placeB l v < 0 ∧ findB l v = none) ∨ (∃ (k : Nat) (t : Tm), placeB l v = k ∧ l[k]? = some (v, t) ∧ findB l v = some t) := by
  rcases atI_find l v 0 (Int.le_refl _) with h | ⟨k, t, h1, h2, h3⟩
  · exact .inl h
  · exact .inr ⟨k, t, by unfold placeB; omega, h2, h3⟩
namespace Tm
end Tm
namespace Tm
end Tm
namespace Tm
end Tm
namespace Tm
end Tm
end PSL
namespace PSL
open Go
namespace Tm
end Tm
end PSL
namespace PSL
open Go
namespace Tm

theorem findB_mem {B : Binds} {n : Int} {t : Tm} (h : findB B n = some t) : (n, t) ∈ B := by
  unfold findB at h
  obtain ⟨z, hz, rfl⟩ := Option.map_eq_some_iff.1 h
  have h1 := List.find?_some hz
  have h2 : z.1 = n := by simpa using h1
  subst h2; exact List.mem_of_find?_eq_some hz
end Tm
end PSL
namespace PSL
open Go
namespace Tm

mutual
/-- A pattern with terms for its variables. -/
def putF (σ : Int → Tm) : Tm → Tm
  | mk k s n l => if k = 1 then σ n else mk k s n (putFL σ l)
def putFL (σ : Int → Tm) : List Tm → List Tm
  | [] => []
  | x :: r => putF σ x :: putFL σ r
end

theorem putFL_len (σ : Int → Tm) : ∀ l, (putFL σ l).length = l.length
  | [] => rfl
  | x :: r => by simp only [putFL, List.length_cons, putFL_len σ r]

mutual
theorem putF_congr {σ τ : Int → Tm} : ∀ (p : Tm), (∀ v ∈ occ p, σ v = τ v) → putF σ p = putF τ p
  | mk k s n l, h => by
    simp only [putF]
    simp only [occ] at h
    by_cases hk : k = 1
    · simp only [if_pos hk] at h ⊢; exact h n (by simp)
    · simp only [if_neg hk] at h ⊢; rw [putFL_congr l h]
theorem putFL_congr {σ τ : Int → Tm} : ∀ (l : List Tm), (∀ v ∈ occL l, σ v = τ v) → putFL σ l = putFL τ l
  | [], _ => rfl
  | x :: r, h => by
    simp only [occL, List.mem_append] at h
    simp only [putFL, putF_congr x (fun v hv => h v (.inl hv)), putFL_congr r (fun v hv => h v (.inr hv))]
end

/-- A variable. -/
def vT (n : Int) : Tm := mk 1 ByteArray.empty n []
end Tm
end PSL
namespace PSL
open Go
namespace Tm

mutual
theorem putF_comp (σ τ : Int → Tm) : ∀ (p : Tm), putF τ (putF σ p) = putF (fun v => putF τ (σ v)) p
  | mk k s n l => by
    simp only [putF]
    by_cases hk : k = 1
    · simp [hk]
    · simp only [if_neg hk, putF, putFL_comp σ τ l]
theorem putFL_comp (σ τ : Int → Tm) : ∀ (l : List Tm), putFL τ (putFL σ l) = putFL (fun v => putF τ (σ v)) l
  | [] => rfl
  | x :: r => by simp only [putFL, putF_comp σ τ x, putFL_comp σ τ r]
end

mutual
theorem turn_put (g : Int → Int) : ∀ (p : Tm), fairR p = true → turnT g p = putF (fun v => vT (g v)) p
  | mk k s n l, h => by
    have hl := fairR_mk h
    simp only [turnT, putF]
    by_cases hk : k = 1
    · obtain ⟨rfl, rfl⟩ := hl.2 hk
      subst hk
      simp [turnTL, vT]
    · rw [if_neg hk, if_neg hk, turnL_put g l hl.1]
theorem turnL_put (g : Int → Int) : ∀ (l : List Tm), fairRL l = true → turnTL g l = putFL (fun v => vT (g v)) l
  | [], _ => rfl
  | x :: r, h => by
    simp only [fairRL, Bool.and_eq_true] at h
    simp only [turnTL, putFL, turn_put g x h.1, turnL_put g r h.2]
end

theorem put_self (p : Tm) (h : fairR p = true) : putF vT p = p := by
  have := turn_put (fun n => n) p h
  rw [turn_self] at this; exact this.symm

mutual
/-- Terms put for variables, told by what comes of it. -/
theorem putF_inj {σ τ : Int → Tm} : ∀ (p : Tm), putF σ p = putF τ p → ∀ v ∈ occ p, σ v = τ v
  | mk k s n l, h, v, hv => by
    simp only [putF] at h
    simp only [occ] at hv
    by_cases hk : k = 1
    · simp only [if_pos hk, List.mem_singleton] at h hv
      subst hv; exact h
    · simp only [if_neg hk, Tm.mk.injEq, true_and] at h hv
      exact putFL_inj l h v hv
theorem putFL_inj {σ τ : Int → Tm} : ∀ (l : List Tm), putFL σ l = putFL τ l → ∀ v ∈ occL l, σ v = τ v
  | [], _, v, hv => by simp [occL] at hv
  | x :: r, h, v, hv => by
    simp only [putFL, List.cons.injEq] at h
    simp only [occL, List.mem_append] at hv
    exact hv.elim (putF_inj x h.1 v) (putFL_inj r h.2 v)
end

mutual
theorem fair_put {σ : Int → Tm} : ∀ (p : Tm), fairR (putF σ p) = true → ∀ v ∈ occ p, fairR (σ v) = true
  | mk k s n l, h, v, hv => by
    simp only [putF] at h
    simp only [occ] at hv
    by_cases hk : k = 1
    · simp only [if_pos hk, List.mem_singleton] at h hv
      subst hv; exact h
    · simp only [if_neg hk] at h hv
      exact fairL_put l (fairR_mk h).1 v hv
theorem fairL_put {σ : Int → Tm} : ∀ (l : List Tm), fairRL (putFL σ l) = true → ∀ v ∈ occL l, fairR (σ v) = true
  | [], _, v, hv => by simp [occL] at hv
  | x :: r, h, v, hv => by
    simp only [putFL, fairRL, Bool.and_eq_true] at h
    simp only [occL, List.mem_append] at hv
    exact hv.elim (fair_put x h.1 v) (fairL_put r h.2 v)
end
end Tm
end PSL
namespace PSL
open Go
namespace Tm
end Tm
end PSL
namespace PSL
open Go
namespace Tm
end Tm
end PSL

namespace Go.Proofs.Ytppghekipbnjhaa
open Go PSL Go.Proofs Go.ChangeShapes Go.WideShapes Go.ChangeAt Go.RowKit
theorem ownK : ownKnob Try.prog.godebug = none := by kernel_rfl
theorem laidK : laidOutB Try.prog = true := by kernel_rfl
theorem isTerm : IsTerm tyT.get 24 := isTermB_ok (by kernel_rfl)

/-- The types that laws are handed. -/
def lawTys : List Nat := [3, 9, 24, 22, 54, 45]

theorem lawTysOk : ∀ t ∈ lawTys, dT tyT.get lawTys t = true := by
  have h : lawTys.all (fun t => dT tyT.get lawTys t) = true := by kernel_rfl
  exact fun t ht => List.all_eq_true.1 h t ht
theorem reach47 : reachBytes ≤ 140737488355328 := by decide
end Go.Proofs.Ytppghekipbnjhaa

namespace Go.Proofs.Ytppghekipbnjhaa
open Go PSL Go.Proofs
def wobjs (n : Nat) : List Ob := [.yld n, .box [.yl 0], .box [.clo 101 [] [.lo 1 0, .lo 2 0]]]

set_option maxRecDepth 100000 in
theorem walk_ok (Y : YP) (t : Tm) : ∀ (d : Int) (n : Nat), 0 ≤ d → d + t.size < 4611686018427387904 → (∀ (i : Nat) (e : Int × Tm), (t.els d)[i]? = some e → Y.ys[n + i]? = some (Tm.enc e)) → (n = 0 ∨ Y.go n = true) →
    SCtr Try.prog Y 101 [t.av, iV d, .lo 1 0, .lo 2 0] (wobjs n) (bV (adv Y t.size n).2) (wobjs (adv Y t.size n).1) := by
  induction t using Tm.ind with
  | _ t ih =>
  intro d n hd0 hd hy hgo
  refine SCtr.of_R (pf := fun _ => .eff) tyOk mixed Try.func101 rfl (by kernel_rfl) (by kernel_rfl) (by simp [Try.ntmps101]) (by simp [wobjs]) fun w S φ hg => ?_
  refine R_run hg.ok 1000 rfl rfl ?_
  refine R_yield hg rfl rfl rfl rfl rfl rfl rfl (avs := [iV d, t.av]) ?_ hgo ?_
  · exact hy 0 (d, t) (by rw [Tm.els_eq]; rfl)
  refine R_run hg.ok 1000 rfl rfl ?_
  have hsz := Tm.size_eq t
  have hlen := Tm.len_le_sizeL t.l
  refine R_if rfl rfl (fun h1 => ?_) (fun h1 => ?_)
  · refine R_run hg.ok 1000 rfl rfl ?_
    have h1 : (!Y.go (n + 1)) = true := h1
    have h2 : Y.go (n + 1) = false := by simpa using h1
    have h3 : adv Y t.size n = (n + 1, false) := by rw [hsz, Nat.add_comm]; simp [adv, h2]
    refine R_retS hg 3 5 (Nat.le_refl _) rfl ?_ ?_
    · rw [h3]; rfl
    · rw [h3]; rfl
  have h1 : (!Y.go (n + 1)) = false := h1
  have h2 : Y.go (n + 1) = true := by simpa using h1
  refine R_run hg.ok 1000 rfl rfl ?_
  refine R_loop (fun k : Nat => ([(1, iV d), (2, .lo 1 0), (3, .lo 2 0), (4, .lo 3 0), (15, .d (.sl (Tm.rows t.l))), (16, iV (t.l.length : Int)), (17, iV k)], wobjs (n + (1 + Tm.sizeL (t.l.take k))) ++ [.box [.d (.v (.int .i64 t.k)), .d (.v (.string t.s)), .d (.v (.int .i64 t.n)), .d (.sl (Tm.rows t.l))]]))
    (fun k => k ≤ t.l.length ∧ adv Y (1 + Tm.sizeL (t.l.take k)) n = (n + (1 + Tm.sizeL (t.l.take k)), true)) (fun k => t.l.length - k) 0 ?_ ?_ ?_ ?_
  · refine ⟨Nat.zero_le _, ?_⟩
    simp [Tm.sizeL, adv, h2]
  · exact ⟨.refl _, .refl _, .refl _, .refl _, .refl _, Ent.int (by rw [Tm.rows_length]), .refl _, trivial⟩
  · rfl
  intro k hk
  refine R_run hg.ok 1000 rfl rfl ?_
  refine R_if rfl rfl (fun h1 => ?_) (fun h1 => ?_)
  · have hk1 : k < t.l.length := by have := of_decide_eq_true h1; omega
    have e1 : t.l[k]? = some t.l[k] := List.getElem?_eq_getElem hk1
    have hszk := Tm.sizeL_take_succ e1
    have hmem := Tm.size_mem (List.getElem_mem hk1)
    refine R_run hg.ok 1000 rfl rfl ?_
    refine R_index hg.ok rfl rfl rfl rfl rfl rfl (Int.natCast_nonneg k) (Tm.rows_get e1) rfl ?_
    refine R_run hg.ok 1000 rfl rfl ?_
    refine R_see 24 rfl (Ent.wrap rfl (by omega) (by omega)) ?_
    refine R_callS hg.ok hg.gup hg.wide hg.Y [0, 1, 2] (ih _ (List.getElem_mem hk1) (d + 1) (n + (1 + Tm.sizeL (t.l.take k))) (by omega) (by omega) ?_ ?_) (fun _ => rfl) rfl rfl rfl rfl rfl rfl rfl ?_
    · intro i e he
      have hlt := (List.getElem?_eq_some_iff.1 he).1
      have := hy (1 + Tm.sizeL (t.l.take k) + i) e (by
        rw [Tm.els_eq, show 1 + Tm.sizeL (t.l.take k) + i = Tm.sizeL (t.l.take k) + i + 1 by omega, List.getElem?_cons_succ]
        have hsplit : t.l = t.l.take k ++ (t.l[k] :: t.l.drop (k + 1)) := by rw [← List.drop_eq_getElem_cons hk1, List.take_append_drop]
        rw [hsplit, Tm.elsL_append, List.getElem?_append_right (by rw [Tm.elsL_len]; rw [← hsplit]; omega), Tm.elsL_len, ← hsplit]
        simp only [Tm.elsL]
        rw [List.getElem?_append_left (by omega), show Tm.sizeL (List.take k t.l) + i - Tm.sizeL (List.take k t.l) = i by omega]
        exact he)
      rw [show n + (1 + Tm.sizeL (t.l.take k)) + i = n + (1 + Tm.sizeL (t.l.take k) + i) by omega]; exact this
    · right
      exact (adv_true (by rw [hk.2])).2 (by omega)
    refine R_run hg.ok 1000 rfl rfl ?_
    have hle : Tm.sizeL t.l = Tm.sizeL (t.l.take k) + (t.l[k].size + Tm.sizeL (t.l.drop (k + 1))) := by
      conv => lhs; rw [← List.take_append_drop k t.l, List.drop_eq_getElem_cons hk1]
      rw [Tm.sizeL_append, Tm.sizeL]
    refine R_if rfl rfl (fun h3 => ?_) (fun h3 => ?_)
    · have h3 : (!(adv Y t.l[k].size (n + (1 + Tm.sizeL (t.l.take k)))).2) = true := h3
      have h4 : (adv Y t.l[k].size (n + (1 + Tm.sizeL (t.l.take k)))).2 = false := by simpa using h3
      refine R_run hg.ok 1000 rfl rfl ?_
      have h5 : adv Y t.size n = adv Y t.l[k].size (n + (1 + Tm.sizeL (t.l.take k))) := by
        rw [hsz, hle, ← Nat.add_assoc, adv_add_true hk.2, adv_add, if_neg (by rw [h4]; simp)]
      refine R_retS hg 3 5 (Nat.le_refl _) rfl ?_ ?_
      · rw [h5, h4]; rfl
      · rw [h5]; rfl
    have h3 : (!(adv Y t.l[k].size (n + (1 + Tm.sizeL (t.l.take k)))).2) = false := h3
    have h4 : (adv Y t.l[k].size (n + (1 + Tm.sizeL (t.l.take k)))).2 = true := by simpa using h3
    have h6 := adv_eq h4
    refine R_run hg.ok 1000 rfl rfl ?_
    refine R_drop 4 (by rw [hg.hs0.len]; simp [wobjs]) rfl ?_
    have h7 : n + (1 + Tm.sizeL (t.l.take (k + 1))) = n + (1 + Tm.sizeL (t.l.take k)) + t.l[k].size := by rw [hszk]; omega
    refine R_next (k + 1) ⟨hk1, ?_⟩ (by omega) ⟨.refl _, .refl _, .refl _, .refl _, .refl _, .refl _, Ent.wrap (by omega) (by omega) (by omega), trivial⟩ ?_
    · rw [hszk, ← Nat.add_assoc 1, adv_add_true hk.2, h6]; simp only [Nat.add_assoc]
    · rw [h6]; show _ = wobjs (n + (1 + Tm.sizeL (t.l.take (k + 1)))) ++ _; rw [h7]; rfl
  · refine R_run hg.ok 1000 rfl rfl ?_
    have h3 : ¬ ((k : Int) < (t.l.length : Int)) := of_decide_eq_false h1
    have hkl : k = t.l.length := by omega
    have h4 : adv Y t.size n = (n + (1 + Tm.sizeL (t.l.take k)), true) := by
      have := hk.2
      rw [hkl, List.take_length] at this ⊢
      rw [hsz]; exact this
    refine R_retS hg 3 5 (Nat.le_refl _) rfl ?_ ?_
    · rw [h4]; rfl
    · rw [h4]; rfl

set_option maxRecDepth 100000 in
theorem all_ok (Y : YP) (t : Tm) (n : Nat) (hd : t.size < 1000000000) (hy : ∀ (i : Nat) (e : Int × Tm), (t.els 1)[i]? = some e → Y.ys[n + i]? = some (Tm.enc e)) (hgo : n = 0 ∨ Y.go n = true) :
    SCtr Try.prog Y 91 [t.av, .yl 0] [.yld n] (bV (adv Y t.size n).2) [.yld (adv Y t.size n).1] := by
  refine SCtr.of_R (pf := fun _ => .eff) tyOk mixed Try.func91 rfl (by kernel_rfl) (by kernel_rfl) (by simp [Try.ntmps91]) (by simp) fun w S φ hg => ?_
  refine R_run hg.ok 1000 rfl rfl ?_
  refine R_callS hg.ok hg.gup hg.wide hg.Y [0, 2, 3] (walk_ok Y t 1 n (by omega) (by omega) hy hgo) (fun _ => rfl) rfl rfl rfl rfl rfl rfl rfl ?_
  refine R_run hg.ok 1000 rfl rfl ?_
  refine R_retS hg 1 5 (Nat.le_refl _) rfl ?_ ?_
  · rfl
  · rfl

set_option maxRecDepth 100000 in
theorem each1_ok (Y : YP) (t : Tm) (hd : t.size < 1000000000) (hy : ∀ (i : Nat) (e : Int × Tm), (t.els 1)[i]? = some e → Y.ys[i]? = some (Tm.enc e)) :
    SCtr Try.prog Y 90 [.yl 0, .d (.ptr (Tm.row t))] [.yld 0] (.tup []) [.yld (adv Y t.size 0).1] := by
  refine SCtr.of_R (pf := fun _ => .eff) tyOk mixed Try.func90 rfl (by kernel_rfl) (by kernel_rfl) (by simp [Try.ntmps90]) (by simp) fun w S φ hg => ?_
  refine R_run hg.ok 1000 rfl rfl ?_
  refine R_callS hg.ok hg.gup hg.wide hg.Y [0] (all_ok Y t 0 hd (by simpa using hy) (.inl rfl)) (fun _ => rfl) rfl rfl rfl rfl rfl rfl rfl ?_
  refine R_run hg.ok 1000 rfl rfl ?_
  refine R_endS hg 1 5 (Nat.le_refl _) rfl ?_ ?_
  · rfl
  · rfl

set_option maxRecDepth 100000 in
theorem each_ok (t : Tm) : PCtr Try.prog 65 [t.av] (.clo 90 [] [.d (.ptr (Tm.row t))]) := by
  refine PCtr.of_R (pf := fun _ => .still) tyOk mixed Try.func65 rfl (by kernel_rfl) (by kernel_rfl) (by simp [Try.ntmps65]) fun w S hg => ?_
  refine R_run hg.ok 1000 rfl rfl ?_
  refine R_ret hg 5 rfl rfl ?_
  rfl
end Go.Proofs.Ytppghekipbnjhaa

namespace Go.Proofs.Ytppghekipbnjhaa
open Go PSL Go.Proofs
def boxT (t : Tm) : Ob := .box [.d (.v (.int .i64 t.k)), .d (.v (.string t.s)), .d (.v (.int .i64 t.n)), .d (.sl (Tm.rows t.l))]

theorem adv_allT {Y : YP} (h : ∀ n, Y.go n = true) : ∀ (k n : Nat), adv Y k n = (n + k, true)
  | 0, n => rfl
  | k + 1, n => by simp only [adv, h, if_true]; rw [adv_allT h k]; congr 1; omega
theorem els_ys {t : Tm} {i : Nat} {e : Int × Tm} (h : (t.els 1)[i]? = some e) : ((t.els 1).map Tm.enc)[i]? = some (Tm.enc e) := by rw [List.getElem?_map, h]; rfl
theorem els_lt {t : Tm} {i : Nat} {e : Int × Tm} (h : (t.els 1)[i]? = some e) : i < t.size := by rw [← Tm.els_len t 1]; exact (List.getElem?_eq_some_iff.1 h).1
end Go.Proofs.Ytppghekipbnjhaa

namespace Go.Proofs.Ytppghekipbnjhaa
open Go PSL Go.Proofs

set_option maxRecDepth 100000 in
theorem named_ok (s : ByteArray) (hs : s.size < 1000000000) : PCtr Try.prog 100 [.d (.v (.string s))] (bV (namedB s)) := by
  refine PCtr.of_R (pf := fun _ => .still) tyOk mixed Try.func100 rfl (by kernel_rfl) (by kernel_rfl) (by simp [Try.ntmps100]) fun w S hg => ?_
  refine R_run hg.ok 1000 rfl rfl ?_
  refine R_loop (fun k : Nat => ([(0, .d (.v (.string s))), (5, iV s.size), (6, iV k)], [])) (fun k => k ≤ s.size ∧ ∀ i (hi : i < s.size), i < k → byteOk s[i] = true) (fun k => s.size - k) 0 ?_ ?_ rfl ?_
  · exact ⟨Nat.zero_le _, fun i _ h => absurd h (Nat.not_lt_zero _)⟩
  · exact ⟨.refl _, .refl _, .refl _, trivial⟩
  intro k hk
  refine R_run hg.ok 1000 rfl rfl ?_
  refine R_if rfl rfl (fun h1 => ?_) (fun h1 => ?_)
  · have hk1 : k < s.size := by have := of_decide_eq_true h1; omega
    refine R_run hg.ok 1000 rfl rfl ?_
    refine R_indexS hg.ok rfl rfl rfl rfl rfl (Int.natCast_nonneg k) (byte_at hk1) ?_
    refine R_run hg.ok 1000 rfl rfl ?_
    refine R_if rfl rfl (fun h2 => ?_) (fun h2 => ?_)
    · refine R_run hg.ok 1000 rfl rfl ?_
      refine R_ret hg 5 rfl rfl ?_
      have : byteOk s[k] = false := by unfold byteOk; rw [h2]; rfl
      simp only [namedB, not_all_bytes hk1 this]; rfl
    refine R_run hg.ok 1000 rfl rfl ?_
    refine R_indexS hg.ok rfl rfl rfl rfl rfl (Int.natCast_nonneg k) (byte_at hk1) ?_
    refine R_run hg.ok 1000 rfl rfl ?_
    refine R_if rfl rfl (fun h3 => ?_) (fun h3 => ?_)
    · refine R_run hg.ok 1000 rfl rfl ?_
      refine R_ret hg 5 rfl rfl ?_
      have : byteOk s[k] = false := by unfold byteOk; rw [h3]; simp
      simp only [namedB, not_all_bytes hk1 this]; rfl
    refine R_run hg.ok 1000 rfl rfl ?_
    refine R_next (k + 1) ⟨hk1, fun i hi hik => ?_⟩ (by omega) ⟨.refl _, .refl _, Ent.wrap (by omega) (by omega) (by omega), trivial⟩ rfl
    rcases Nat.lt_or_ge i k with h | h
    · exact hk.2 i hi h
    · have : i = k := by omega
      subst this
      unfold byteOk; rw [h2, h3]; rfl
  · have h4 : ¬ ((k : Int) < (s.size : Int)) := of_decide_eq_false h1
    have hall : s.data.toList.all byteOk = true := all_bytes fun i hi => hk.2 i hi (by omega)
    refine R_run hg.ok 1000 rfl rfl ?_
    refine R_if rfl rfl (fun h2 => ?_) (fun h2 => ?_)
    · refine R_run hg.ok 1000 rfl rfl ?_
      refine R_ret hg 5 rfl rfl ?_
      simp only [namedB, hall, h2, Bool.true_and]; rfl
    · refine R_run hg.ok 1000 rfl rfl ?_
      refine R_ret hg 5 rfl rfl ?_
      simp only [namedB, hall, h2, Bool.true_and]; rfl
end Go.Proofs.Ytppghekipbnjhaa

namespace Go.Proofs.Ytppghekipbnjhaa
open Go PSL Go.Proofs

set_option maxRecDepth 100000 in
theorem own_ok (t : Tm) (hs : t.s.size < 1000000000) : PCtr Try.prog 89 [t.av] (bV t.ownT) := by
  refine PCtr.of_R (pf := fun _ => .still) tyOk mixed Try.func89 rfl (by kernel_rfl) (by kernel_rfl) (by simp [Try.ntmps89]) fun w S hg => ?_
  refine R_run hg.ok 1000 rfl rfl ?_
  iterate 12
    all_goals try first
      | (refine R_if rfl rfl (fun _ => ?_) (fun _ => ?_) <;> refine R_run hg.ok 1000 rfl rfl ?_)
      | (refine R_call hg.ok (named_ok t.s hs) rfl rfl rfl rfl rfl rfl ?_; refine R_run hg.ok 1000 rfl rfl ?_)
  all_goals refine R_ret hg 5 rfl rfl ?_
  all_goals (simp only [Tm.rows_length, beq_iff_eq, beq_eq_false_iff_ne, ne_eq, decide_eq_true_eq, decide_eq_false_iff_not] at *)
  all_goals (simp_all [Tm.ownT, bV])
  all_goals (intros; omega)

set_option maxRecDepth 100000 in
theorem right_ok (t : Tm) (hd : t.size < 1000000000) (hs : ∀ e ∈ t.els 1, e.2.s.size < 1000000000) : PCtr Try.prog 61 [t.av] (bV (rightT t)) := by
  refine PCtr.of_R (pf := fun _ => .still) tyOk mixed Try.func61 rfl (by kernel_rfl) (by kernel_rfl) (by simp [Try.ntmps61]) fun w S hg => ?_
  refine R_run hg.ok 1000 rfl rfl ?_
  refine R_call hg.ok (each_ok t) rfl rfl rfl rfl rfl rfl ?_
  refine R_run hg.ok 1000 rfl rfl ?_
  refine R_range hg.ok hg.gup ⟨rfl, rfl⟩ rfl (t.els 1) Tm.enc ⟨(t.els 1).map Tm.enc, goR t⟩ rfl (fun n => [boxT t, .box [.d (.v (.bool false))], .box [iV n]]) (fun _ e => [(2, .lo 1 0), (3, .lo 2 0), (4, iV e.1), (5, .lo 3 0)]) (fun n e => [boxT t, .box [.d (.v (.bool false))], .box [iV n], boxT e.2]) _ .ret rfl rfl rfl (each1_ok _ t hd fun _ _ h => els_ys h) rfl (fun _ _ => rfl) rfl ?_ ?_ ?_ rfl rfl ?_
  · intro n x hx _ l w R0 X φ0 _
    refine R_run (gRound_ok hg.ok _ _ _ _ _) 1000 rfl rfl ?_
    exact R_finA ⟨.refl _, .refl _, .refl _, .refl _, trivial⟩ rfl
  · intro n x hx _ l w R0 X φ0 hφ0
    have hn := els_lt hx
    have hg' := gRound_ok hg.ok l w R0 X φ0
    have hgo : goR t (n + 1) = stepR x (n + 1) := by simp only [goR, hx]
    have hw : IntKind.i64.wrap ((n : Int) + 1) = ((n + 1 : Nat) : Int) := wrap_id (by omega) (by omega)
    refine R_run hg' 1000 rfl rfl ?_
    refine R_if rfl rfl (fun h1 => ?_) (fun h1 => ?_)
    · refine R_run hg' 1000 rfl rfl ?_
      refine R_drop 3 (by rw [show (gRound _ l w R0 X φ0).φ0 = φ0 from rfl, hφ0]; exact Nat.le_refl _) rfl ?_
      refine R_obs [boxT t, .box [.d (.v (.bool false))], .box [iV ((n + 1 : Nat) : Int)]] ⟨ObIn.refl _, ⟨Ent.ff, trivial⟩, ⟨Ent.int hw, trivial⟩, trivial⟩ rfl ?_
      exact R_retB (by rw [show (YP.go ⟨_, goR t⟩ (n + 1)) = goR t (n + 1) from rfl, hgo]; simp only [stepR, h1, Bool.true_or, Bool.not_true]) rfl rfl
    refine R_run hg' 1000 rfl rfl ?_
    refine R_if rfl rfl (fun h2 => ?_) (fun h2 => ?_)
    · refine R_run hg' 1000 rfl rfl ?_
      refine R_drop 3 (by rw [show (gRound _ l w R0 X φ0).φ0 = φ0 from rfl, hφ0]; exact Nat.le_refl _) rfl ?_
      refine R_obs [boxT t, .box [.d (.v (.bool false))], .box [iV ((n + 1 : Nat) : Int)]] ⟨ObIn.refl _, ⟨Ent.ff, trivial⟩, ⟨Ent.int hw, trivial⟩, trivial⟩ rfl ?_
      rw [hw] at h2
      exact R_retB (by rw [show (YP.go ⟨_, goR t⟩ (n + 1)) = goR t (n + 1) from rfl, hgo]; simp only [stepR, h2, Bool.or_true, Bool.true_or, Bool.not_true]) rfl rfl
    refine R_run hg' 1000 rfl rfl ?_
    refine R_call hg' (own_ok x.2 (hs x (List.mem_of_getElem? hx))) rfl rfl rfl rfl rfl rfl ?_
    refine R_run hg' 1000 rfl rfl ?_
    rw [hw] at h2
    refine R_if rfl rfl (fun h3 => ?_) (fun h3 => ?_)
    · refine R_run hg' 1000 rfl rfl ?_
      refine R_drop 3 (by rw [show (gRound _ l w R0 X φ0).φ0 = φ0 from rfl, hφ0]; exact Nat.le_refl _) rfl ?_
      refine R_obs [boxT t, .box [.d (.v (.bool false))], .box [iV ((n + 1 : Nat) : Int)]] ⟨ObIn.refl _, ⟨Ent.ff, trivial⟩, ⟨Ent.int hw, trivial⟩, trivial⟩ rfl ?_
      exact R_retB (by rw [show (YP.go ⟨_, goR t⟩ (n + 1)) = goR t (n + 1) from rfl, hgo]; simp only [stepR, h3, Bool.or_true, Bool.not_true]) rfl rfl
    · refine R_run hg' 1000 rfl rfl ?_
      refine R_drop 3 (by rw [show (gRound _ l w R0 X φ0).φ0 = φ0 from rfl, hφ0]; exact Nat.le_refl _) rfl ?_
      refine R_obs [boxT t, .box [.d (.v (.bool false))], .box [iV ((n + 1 : Nat) : Int)]] ⟨ObIn.refl _, ⟨.refl _, trivial⟩, ⟨Ent.int hw, trivial⟩, trivial⟩ rfl ?_
      exact R_finB (by rw [show (YP.go ⟨_, goR t⟩ (n + 1)) = goR t (n + 1) from rfl, hgo]; simp only [stepR, h1, h2, h3, Bool.or_false, Bool.not_false]) rfl
  · intro hgo
    refine R_run hg.ok 1000 rfl rfl ?_
    refine R_ret hg 5 rfl rfl ?_
    cases h : rightT t
    · obtain ⟨h1, h2⟩ := adv_false h
      exact absurd hgo (by rintro (h3 | h3); exact h2 h3; rw [h1] at h3; cases h3)
    · rfl
  · intro h0 hgo
    refine R_ret hg 5 rfl rfl ?_
    cases h : rightT t
    · rfl
    · have h1 := adv_true h
      rw [h1.1] at h0 hgo
      rw [h1.2 (by omega)] at hgo; cases hgo
end Go.Proofs.Ytppghekipbnjhaa

namespace Go.Proofs.Ytppghekipbnjhaa
open Go PSL Go.Proofs
end Go.Proofs.Ytppghekipbnjhaa

namespace Go.Proofs.Ytppghekipbnjhaa
open Go PSL Go.Proofs
def boxR (t : Tm) : Ob := .box [.d (.v (.int .i64 t.k)), .d (.v (.string t.s)), .d (.v (.int .i64 t.n)), .d (.sl (Tm.rows t.l))]
end Go.Proofs.Ytppghekipbnjhaa

namespace Go.Proofs.Ytppghekipbnjhaa
open Go PSL Go.Proofs

set_option maxRecDepth 100000 in
theorem refSize_ok (t : Tm) : t.size < 1000000000 → PCtr Try.prog 55 [t.av] (iV t.size) := by
  induction t using Tm.ind with
  | _ t ih =>
  intro hsz
  refine PCtr.of_R (pf := fun _ => .still) tyOk mixed Try.func55 rfl (by kernel_rfl) (by kernel_rfl) (by simp [Try.ntmps55]) fun w S hg => ?_
  refine R_run hg.ok 1000 rfl rfl ?_
  refine R_loop (fun x : Nat × Nat => ([(1, .lo 0 0), (3, iV x.2), (4, iV x.1)], [boxR t])) (fun x => x.1 ≤ t.l.length ∧ t.size = x.2 + Tm.sizeL (t.l.drop x.1)) (fun x => t.l.length - x.1) (0, 1) ⟨Nat.zero_le _, Tm.size_eq t⟩ ⟨.refl _, .refl _, .refl _, trivial⟩ rfl ?_
  rintro ⟨k, m⟩ ⟨hk, hm⟩
  simp only at hk hm
  have hl := Tm.len_le_sizeL t.l
  have hs := Tm.size_eq t
  refine R_run hg.ok 1000 rfl rfl ?_
  refine R_if rfl rfl (fun h => ?_) (fun h => ?_) <;> refine R_run hg.ok 1000 rfl rfl ?_
  · have hk1 : k < t.l.length := lt_dec h (by rw [Tm.rows_length])
    have e1 : t.l[k]? = some t.l[k] := List.getElem?_eq_getElem hk1
    rw [List.drop_eq_getElem_cons hk1, Tm.sizeL] at hm
    refine R_index hg.ok rfl rfl rfl rfl rfl rfl (Int.natCast_nonneg k) (Tm.rows_get e1) rfl ?_
    refine R_run hg.ok 1000 rfl rfl ?_
    refine R_call hg.ok (ih _ (List.getElem_mem hk1) (by omega)) rfl rfl rfl rfl rfl rfl ?_
    refine R_run hg.ok 1000 rfl rfl ?_
    exact R_next (k + 1, m + t.l[k].size) ⟨hk1, by simp only; omega⟩ (by simp only; omega) ⟨.refl _, Ent.wrap (by omega) (by omega) (by omega), Ent.wrap (by omega) (by omega) (by omega), trivial⟩ rfl
  · have hk1 : t.l.length ≤ k := ge_dec h (by rw [Tm.rows_length])
    refine R_ret hg 5 rfl rfl ?_
    rw [List.drop_eq_nil_of_le hk1, Tm.sizeL] at hm
    simp only [hm, Nat.add_zero]; rfl

set_option maxRecDepth 100000 in
theorem refDeep_ok (t : Tm) : t.size < 1000000000 → PCtr Try.prog 56 [t.av] (iV t.depth) := by
  induction t using Tm.ind with
  | _ t ih =>
  intro hsz
  refine PCtr.of_R (pf := fun _ => .still) tyOk mixed Try.func56 rfl (by kernel_rfl) (by kernel_rfl) (by simp [Try.ntmps56]) fun w S hg => ?_
  refine R_run hg.ok 1000 rfl rfl ?_
  refine R_loop (fun x : Nat × Nat => ([(1, .lo 0 0), (3, iV x.2), (4, iV x.1)], [boxR t])) (fun x => x.1 ≤ t.l.length ∧ Tm.depthL t.l = max x.2 (Tm.depthL (t.l.drop x.1))) (fun x => t.l.length - x.1) (0, 0) ⟨Nat.zero_le _, by simp⟩ ⟨.refl _, .refl _, .refl _, trivial⟩ rfl ?_
  rintro ⟨k, m⟩ ⟨hk, hm⟩
  simp only at hk hm
  have hl := Tm.len_le_sizeL t.l
  have hs := Tm.size_eq t
  have hd := Tm.depth_eq t
  have hds := Tm.depth_le_size t
  refine R_run hg.ok 1000 rfl rfl ?_
  refine R_if rfl rfl (fun h => ?_) (fun h => ?_) <;> refine R_run hg.ok 1000 rfl rfl ?_
  · have hk1 : k < t.l.length := lt_dec h (by rw [Tm.rows_length])
    have e1 : t.l[k]? = some t.l[k] := List.getElem?_eq_getElem hk1
    have hsm := Tm.size_mem (List.getElem_mem hk1)
    rw [List.drop_eq_getElem_cons hk1, Tm.depthL] at hm
    refine R_index hg.ok rfl rfl rfl rfl rfl rfl (Int.natCast_nonneg k) (Tm.rows_get e1) rfl ?_
    refine R_run hg.ok 1000 rfl rfl ?_
    refine R_call hg.ok (ih _ (List.getElem_mem hk1) (by omega)) rfl rfl rfl rfl rfl rfl ?_
    refine R_run hg.ok 1000 rfl rfl ?_
    refine R_if rfl rfl (fun h => ?_) (fun h => ?_) <;> refine R_run hg.ok 1000 rfl rfl ?_
    · have h := of_decide_eq_true h
      exact R_next (k + 1, t.l[k].depth) ⟨hk1, by simp only; omega⟩ (by simp only; omega) ⟨.refl _, .refl _, Ent.wrap (by omega) (by omega) (by omega), trivial⟩ rfl
    · have h := of_decide_eq_false h
      exact R_next (k + 1, m) ⟨hk1, by simp only; omega⟩ (by simp only; omega) ⟨.refl _, .refl _, Ent.wrap (by omega) (by omega) (by omega), trivial⟩ rfl
  · have hk1 : t.l.length ≤ k := ge_dec h (by rw [Tm.rows_length])
    refine R_ret hg 5 rfl rfl ?_
    rw [List.drop_eq_nil_of_le hk1, Tm.depthL] at hm
    rw [w64 (by omega) (by omega), hd, hm]; simp [iV]

set_option maxRecDepth 100000 in
theorem refSame_ok (a : Tm) : ∀ b, a.size < 1000000000 → PCtr Try.prog 19 [a.av, b.av] (bV (a.same b)) := by
  induction a using Tm.ind with
  | _ a ih =>
  intro b hsz
  refine PCtr.of_R (pf := fun _ => .still) tyOk mixed Try.func19 rfl (by kernel_rfl) (by kernel_rfl) (by simp [Try.ntmps19]) fun w S hg => ?_
  refine R_run hg.ok 1000 rfl rfl ?_
  iterate 4
    refine R_if rfl rfl (fun _ => ?_) (fun _ => ?_) <;> refine R_run hg.ok 1000 rfl rfl ?_
    · refine R_ret hg 5 rfl rfl ?_
      simp_all [Tm.same_eq, bV, Tm.rows_length]
      try exact Tm.sameL_len (by omega)
  refine R_loop (fun k : Nat => ([(2, .lo 0 0), (3, .lo 1 0), (5, iV k)], [boxR a, boxR b])) (fun k => k ≤ a.l.length ∧ a.l.length = b.l.length ∧ a.same b = Tm.sameL (a.l.drop k) (b.l.drop k)) (fun k => a.l.length - k) 0 ?_ ⟨.refl _, .refl _, .refl _, trivial⟩ rfl ?_
  · simp_all [Tm.same_eq, Tm.rows_length]
    omega
  rintro k ⟨hk0, hl, hk⟩
  have hszl := Tm.len_le_sizeL a.l
  have hsz2 := Tm.size_eq a
  refine R_run hg.ok 1000 rfl rfl ?_
  refine R_if rfl rfl (fun h => ?_) (fun h => ?_) <;> refine R_run hg.ok 1000 rfl rfl ?_
  · have hk1 := lt_dec (n := a.l.length) h (by rw [Tm.rows_length])
    have hk2 : k < b.l.length := by omega
    have e1 : a.l[k]? = some a.l[k] := List.getElem?_eq_getElem hk1
    have e2 : b.l[k]? = some b.l[k] := List.getElem?_eq_getElem hk2
    rw [List.drop_eq_getElem_cons hk1, List.drop_eq_getElem_cons hk2, Tm.sameL] at hk
    have hm := Tm.size_mem (List.getElem_mem hk1)
    refine R_index hg.ok rfl rfl rfl rfl rfl rfl (Int.natCast_nonneg k) (Tm.rows_get e1) rfl ?_
    refine R_run hg.ok 1000 rfl rfl ?_
    refine R_index hg.ok rfl rfl rfl rfl rfl rfl (Int.natCast_nonneg k) (Tm.rows_get e2) rfl ?_
    refine R_run hg.ok 1000 rfl rfl ?_
    refine R_call hg.ok (ih _ (List.getElem_mem hk1) b.l[k] (by omega)) rfl rfl rfl rfl rfl rfl ?_
    refine R_run hg.ok 1000 rfl rfl ?_
    refine R_if rfl rfl (fun h => ?_) (fun h => ?_) <;> refine R_run hg.ok 1000 rfl rfl ?_
    · refine R_ret hg 5 rfl rfl ?_
      rw [hk]; simp_all [bV]
    · refine R_next (k + 1) ⟨hk1, hl, ?_⟩ (by omega) ⟨.refl _, .refl _, Ent.wrap (by omega) (by omega) (by omega), trivial⟩ rfl
      rw [hk]; simp_all
  · refine R_ret hg 5 rfl rfl ?_
    have hk1 := ge_dec (n := a.l.length) h (by rw [Tm.rows_length])
    rw [hk, List.drop_eq_nil_of_le (by omega), List.drop_eq_nil_of_le (by omega)]; rfl

set_option maxRecDepth 100000 in
theorem fair_ok (t : Tm) : t.size < 1000000000 → (∀ x e, e ∈ t.els x → e.2.s.size < 1000000000) → PCtr Try.prog 54 [t.av] (bV t.fairR) := by
  induction t using Tm.ind with
  | _ t ih =>
  intro hsz hns
  have hn0 : t.s.size < 1000000000 := hns 0 (0, t) (by rw [Tm.els_eq]; simp)
  have hl := Tm.len_le_sizeL t.l
  have hs := Tm.size_eq t
  refine PCtr.of_R (pf := fun _ => .still) tyOk mixed Try.func54 rfl (by kernel_rfl) (by kernel_rfl) (by simp [Try.ntmps54]) fun w S hg => ?_
  refine R_run hg.ok 1000 rfl rfl ?_
  refine R_loop (fun k : Nat => ([(1, .lo 0 0), (3, iV k)], [boxR t])) (fun k => k ≤ t.s.size ∧ ∀ i (hi : i < t.s.size), i < k → byteOk t.s[i] = true) (fun k => t.s.size - k) 0 ⟨Nat.zero_le _, fun i _ h => absurd h (Nat.not_lt_zero _)⟩ ⟨.refl _, .refl _, trivial⟩ rfl ?_
  intro k hk
  refine R_run hg.ok 1000 rfl rfl ?_
  refine R_if rfl rfl (fun h => ?_) (fun h => ?_) <;> refine R_run hg.ok 1000 rfl rfl ?_
  · have hk1 := lt_dec (n := t.s.size) h rfl
    refine R_indexS hg.ok rfl rfl rfl rfl rfl (Int.natCast_nonneg k) (byte_at hk1) ?_
    refine R_run hg.ok 1000 rfl rfl ?_
    have bad : byteOk t.s[k] = false → t.fairR = false := fun h => by rw [Tm.fairR_eq, not_all_bytes hk1 h]; rfl
    refine R_if rfl rfl (fun h2 => ?_) (fun h2 => ?_) <;> refine R_run hg.ok 1000 rfl rfl ?_
    · refine R_ret hg 5 rfl rfl ?_
      rw [bad (by unfold byteOk; rw [h2]; rfl)]; rfl
    refine R_indexS hg.ok rfl rfl rfl rfl rfl (Int.natCast_nonneg k) (byte_at hk1) ?_
    refine R_run hg.ok 1000 rfl rfl ?_
    refine R_if rfl rfl (fun h3 => ?_) (fun h3 => ?_) <;> refine R_run hg.ok 1000 rfl rfl ?_
    · refine R_ret hg 5 rfl rfl ?_
      rw [bad (by unfold byteOk; rw [h3]; simp)]; rfl
    refine R_next (k + 1) ⟨hk1, fun i hi hik => ?_⟩ (by omega) ⟨.refl _, Ent.wrap (by omega) (by omega) (by omega), trivial⟩ rfl
    rcases Nat.lt_or_ge i k with h | h
    · exact hk.2 i hi h
    · have : i = k := by omega
      subst this
      unfold byteOk; rw [h2, h3]; rfl
  have hk1 := ge_dec (n := t.s.size) h rfl
  have hall : t.s.data.toList.all byteOk = true := all_bytes fun i hi => hk.2 i hi (by omega)
  refine R_loop (fun k : Nat => ([(1, .lo 0 0), (4, iV k)], [boxR t])) (fun k => k ≤ t.l.length ∧ Tm.fairRL t.l = Tm.fairRL (t.l.drop k)) (fun k => t.l.length - k) 0 ⟨Nat.zero_le _, rfl⟩ ⟨.refl _, .refl _, trivial⟩ rfl ?_
  rintro k ⟨hk, hm⟩
  refine R_run hg.ok 1000 rfl rfl ?_
  refine R_if rfl rfl (fun h => ?_) (fun h => ?_) <;> refine R_run hg.ok 1000 rfl rfl ?_
  · have hk1 : k < t.l.length := lt_dec h (by rw [Tm.rows_length])
    have e1 : t.l[k]? = some t.l[k] := List.getElem?_eq_getElem hk1
    have hsm := Tm.size_mem (List.getElem_mem hk1)
    rw [List.drop_eq_getElem_cons hk1, Tm.fairRL] at hm
    refine R_index hg.ok rfl rfl rfl rfl rfl rfl (Int.natCast_nonneg k) (Tm.rows_get e1) rfl ?_
    refine R_run hg.ok 1000 rfl rfl ?_
    refine R_call hg.ok (ih _ (List.getElem_mem hk1) (by omega) (fun x e he => hns (x - 1) e (by rw [Tm.els_eq]; exact List.mem_cons_of_mem _ (Tm.els_memL (List.getElem_mem hk1) (by rw [Int.sub_add_cancel]; exact he))))) rfl rfl rfl rfl rfl rfl ?_
    refine R_run hg.ok 1000 rfl rfl ?_
    refine R_if rfl rfl (fun h => ?_) (fun h => ?_) <;> refine R_run hg.ok 1000 rfl rfl ?_
    · refine R_ret hg 5 rfl rfl ?_
      rw [Tm.fairR_eq, hm]; simp_all [bV]
    · refine R_next (k + 1) ⟨hk1, ?_⟩ (by omega) ⟨.refl _, Ent.wrap (by omega) (by omega) (by omega), trivial⟩ rfl
      rw [hm]; simp_all
  have hk1 : t.l.length ≤ k := ge_dec h (by rw [Tm.rows_length])
  rw [List.drop_eq_nil_of_le hk1, Tm.fairRL] at hm
  iterate 12
    all_goals try (refine R_if rfl rfl (fun _ => ?_) (fun _ => ?_) <;> refine R_run hg.ok 1000 rfl rfl ?_)
  all_goals refine R_ret hg 5 rfl rfl ?_
  all_goals (rw [Tm.fairR_eq, hall, hm]; unfold Tm.kindR)
  all_goals (simp only [Tm.rows_length, beq_iff_eq, beq_eq_false_iff_ne, ne_eq, decide_eq_true_eq, decide_eq_false_iff_not] at *)
  all_goals (simp_all [bV])
  all_goals (intros; omega)

set_option maxRecDepth 100000 in
theorem refRight_ok (t : Tm) (hsz : t.size < 1000000000) (hns : ∀ x e, e ∈ t.els x → e.2.s.size < 1000000000) : PCtr Try.prog 18 [t.av] (bV t.rightB) := by
  refine PCtr.of_R (pf := fun _ => .still) tyOk mixed Try.func18 rfl (by kernel_rfl) (by kernel_rfl) (by simp [Try.ntmps18]) fun w S hg => ?_
  refine R_run hg.ok 1000 rfl rfl ?_
  refine R_call hg.ok (fair_ok t hsz hns) rfl rfl rfl rfl rfl rfl ?_
  refine R_run hg.ok 1000 rfl rfl ?_
  refine R_if rfl rfl (fun _ => ?_) (fun _ => ?_) <;> refine R_run hg.ok 1000 rfl rfl ?_
  · refine R_call hg.ok (refSize_ok t hsz) rfl rfl rfl rfl rfl rfl ?_
    refine R_run hg.ok 1000 rfl rfl ?_
    refine R_if rfl rfl (fun _ => ?_) (fun _ => ?_) <;> refine R_run hg.ok 1000 rfl rfl ?_
    · refine R_call hg.ok (refDeep_ok t hsz) rfl rfl rfl rfl rfl rfl ?_
      refine R_run hg.ok 1000 rfl rfl ?_
      refine R_ret hg 5 rfl rfl ?_
      simp only [decide_eq_true_eq] at *
      unfold Tm.rightB
      show bV _ = bV _
      congr 1
      rw [Bool.eq_iff_iff]
      simp_all
      omega
    · refine R_ret hg 5 rfl rfl ?_
      simp only [decide_eq_false_iff_not] at *
      unfold Tm.rightB
      simp_all [bV]
      intros; omega
  · refine R_ret hg 5 rfl rfl ?_
    unfold Tm.rightB
    simp_all [bV]

set_option maxRecDepth 100000 in
theorem few_ok (t : Tm) : t.Ok → ∀ m d : Int, PCtr Try.prog 31 [t.av, iV m, iV d] (iV (t.few m d)) := by
  induction t using Tm.ind with
  | _ t ih =>
  intro hok m d
  refine PCtr.of_R (pf := fun _ => .still) tyOk mixed Try.func31 rfl (by kernel_rfl) (by kernel_rfl) (by simp [Try.ntmps31]) fun w S hg => ?_
  refine R_run hg.ok 1000 rfl rfl ?_
  iterate 3
    refine R_if rfl rfl (fun _ => ?_) (fun _ => ?_) <;> refine R_run hg.ok 1000 rfl rfl ?_
    · refine R_ret hg 5 rfl rfl ?_
      rw [Tm.few_eq, if_pos (by simp_all [Tm.fewStep])]; rfl
  have hfs : Tm.fewStep t.s m d = false := by simp_all [Tm.fewStep]
  have hlen := hok.len
  refine R_loop (fun x : Nat × Int => ([(1, iV x.2), (2, iV d), (3, .lo 0 0), (7, iV x.1)], [boxR t])) (fun x => x.1 ≤ t.l.length ∧ t.few m d = Tm.fewL (t.l.drop x.1) x.2 (IntKind.i64.wrap (d - 1))) (fun x => t.l.length - x.1) (0, IntKind.i64.wrap (m - 1)) ⟨Nat.zero_le _, by rw [Tm.few_eq, hfs]; rfl⟩ ⟨.refl _, .refl _, .refl _, .refl _, trivial⟩ rfl ?_
  rintro ⟨k, q⟩ ⟨hk, hm⟩
  simp only at hk hm
  refine R_run hg.ok 1000 rfl rfl ?_
  refine R_if rfl rfl (fun h => ?_) (fun h => ?_) <;> refine R_run hg.ok 1000 rfl rfl ?_
  · have hk1 : k < t.l.length := lt_dec h (by rw [Tm.rows_length])
    have e1 : t.l[k]? = some t.l[k] := List.getElem?_eq_getElem hk1
    rw [List.drop_eq_getElem_cons hk1, Tm.fewL] at hm
    refine R_if rfl rfl (fun h2 => ?_) (fun h2 => ?_) <;> refine R_run hg.ok 1000 rfl rfl ?_
    · rw [if_pos (of_decide_eq_true h2)] at hm
      refine R_index hg.ok rfl rfl rfl rfl rfl rfl (Int.natCast_nonneg k) (Tm.rows_get e1) rfl ?_
      refine R_run hg.ok 1000 rfl rfl ?_
      refine R_call hg.ok (ih _ (List.getElem_mem hk1) (hok.sub (List.getElem_mem hk1)) _ _) rfl rfl rfl rfl rfl rfl ?_
      refine R_run hg.ok 1000 rfl rfl ?_
      exact R_next (k + 1, t.l[k].few q (IntKind.i64.wrap (d - 1))) ⟨hk1, hm⟩ (by simp only; omega) ⟨.refl _, .refl _, .refl _, Ent.wrap (by simp only; omega) (by simp only; omega) (by simp only; omega), trivial⟩ rfl
    · rw [if_neg (of_decide_eq_false h2)] at hm
      refine R_ret hg 5 rfl rfl ?_
      rw [hm]; rfl
  · have hk1 : t.l.length ≤ k := ge_dec h (by rw [Tm.rows_length])
    refine R_ret hg 5 rfl rfl ?_
    rw [List.drop_eq_nil_of_le hk1, Tm.fewL] at hm
    rw [hm]; rfl

set_option maxRecDepth 100000 in
theorem sameAll_ok (a b : List Tm) (ha : Tm.sizeL a < 1000000000) : PCtr Try.prog 40 [.d (.sl (Tm.rows a)), .d (.sl (Tm.rows b))] (bV (Tm.sameL a b)) := by
  refine PCtr.of_R (pf := fun _ => .still) tyOk mixed Try.func40 rfl (by kernel_rfl) (by kernel_rfl) (by simp [Try.ntmps40]) fun w S hg => ?_
  refine R_run hg.ok 1000 rfl rfl ?_
  refine R_if rfl rfl (fun h => ?_) (fun h => ?_) <;> refine R_run hg.ok 1000 rfl rfl ?_
  · refine R_ret hg 5 rfl rfl ?_
    rw [Tm.sameL_len (by simp only [Tm.rows_length, bne_iff_ne, ne_eq] at h; omega)]; rfl
  have hl : a.length = b.length := by simp only [Tm.rows_length, bne_eq_false_iff_eq] at h; omega
  refine R_loop (fun k : Nat => ([(0, .d (.sl (Tm.rows a))), (1, .d (.sl (Tm.rows b))), (5, iV k)], [])) (fun k => k ≤ a.length ∧ Tm.sameL a b = Tm.sameL (a.drop k) (b.drop k)) (fun k => a.length - k) 0 ⟨Nat.zero_le _, rfl⟩ ⟨.refl _, .refl _, .refl _, trivial⟩ rfl ?_
  rintro k ⟨hk, hm⟩
  have hal := Tm.len_le_sizeL a
  refine R_run hg.ok 1000 rfl rfl ?_
  refine R_if rfl rfl (fun h => ?_) (fun h => ?_) <;> refine R_run hg.ok 1000 rfl rfl ?_
  · have hk1 : k < a.length := lt_dec h (by rw [Tm.rows_length])
    have hk2 : k < b.length := by omega
    have e1 : a[k]? = some a[k] := List.getElem?_eq_getElem hk1
    have e2 : b[k]? = some b[k] := List.getElem?_eq_getElem hk2
    have hsm := Tm.size_mem (List.getElem_mem hk1)
    rw [List.drop_eq_getElem_cons hk1, List.drop_eq_getElem_cons hk2, Tm.sameL] at hm
    refine R_index hg.ok rfl rfl rfl rfl rfl rfl (Int.natCast_nonneg k) (Tm.rows_get e1) rfl ?_
    refine R_run hg.ok 1000 rfl rfl ?_
    refine R_index hg.ok rfl rfl rfl rfl rfl rfl (Int.natCast_nonneg k) (Tm.rows_get e2) rfl ?_
    refine R_run hg.ok 1000 rfl rfl ?_
    refine R_call hg.ok (refSame_ok a[k] b[k] (by omega)) rfl rfl rfl rfl rfl rfl ?_
    refine R_run hg.ok 1000 rfl rfl ?_
    refine R_if rfl rfl (fun h => ?_) (fun h => ?_) <;> refine R_run hg.ok 1000 rfl rfl ?_
    · refine R_ret hg 5 rfl rfl ?_
      rw [hm]; simp_all [bV]
    · refine R_next (k + 1) ⟨hk1, ?_⟩ (by omega) ⟨.refl _, .refl _, Ent.wrap (by omega) (by omega) (by omega), trivial⟩ rfl
      rw [hm]; simp_all
  · have hk1 : a.length ≤ k := ge_dec h (by rw [Tm.rows_length])
    refine R_ret hg 5 rfl rfl ?_
    rw [hm, List.drop_eq_nil_of_le hk1, List.drop_eq_nil_of_le (by omega)]; rfl

set_option maxRecDepth 100000 in
theorem at_ok (l : List Int) (n : Int) (ha : l.length < 1000000000) : PCtr Try.prog 37 [.d (.sl (irows l)), iV n] (iV (atI l n 0)) := by
  refine PCtr.of_R (pf := fun _ => .still) tyOk mixed Try.func37 rfl (by kernel_rfl) (by kernel_rfl) (by simp [Try.ntmps37]) fun w S hg => ?_
  refine R_run hg.ok 1000 rfl rfl ?_
  refine R_loop (fun k : Nat => ([(0, .d (.sl (irows l))), (1, iV n), (5, iV k)], [])) (fun k => k ≤ l.length ∧ atI l n 0 = atI (l.drop k) n k) (fun k => l.length - k) 0 ⟨Nat.zero_le _, rfl⟩ ⟨.refl _, .refl _, .refl _, trivial⟩ rfl ?_
  rintro k ⟨hk, hm⟩
  refine R_run hg.ok 1000 rfl rfl ?_
  refine R_if rfl rfl (fun h => ?_) (fun h => ?_) <;> refine R_run hg.ok 1000 rfl rfl ?_
  · have hk1 : k < l.length := lt_dec h (by rw [irows_length])
    have e1 : l[k]? = some l[k] := List.getElem?_eq_getElem hk1
    rw [List.drop_eq_getElem_cons hk1, atI] at hm
    refine R_index hg.ok rfl rfl rfl rfl rfl rfl (Int.natCast_nonneg k) (irows_get e1) rfl ?_
    refine R_run hg.ok 1000 rfl rfl ?_
    refine R_if rfl rfl (fun h => ?_) (fun h => ?_) <;> refine R_run hg.ok 1000 rfl rfl ?_
    · refine R_ret hg 5 rfl rfl ?_
      rw [hm, if_pos (by simpa using h)]; rfl
    · refine R_next (k + 1) ⟨hk1, ?_⟩ (by omega) ⟨.refl _, .refl _, Ent.wrap (by omega) (by omega) (by omega), trivial⟩ rfl
      rw [hm, if_neg (by simpa using h)]; rfl
  · have hk1 : l.length ≤ k := ge_dec h (by rw [irows_length])
    refine R_ret hg 5 rfl rfl ?_
    rw [hm, List.drop_eq_nil_of_le hk1]; rfl
end Go.Proofs.Ytppghekipbnjhaa

namespace Go.Proofs.Ytppghekipbnjhaa
open Go PSL Go.Proofs
def vobjs (acc : List Int) : List Ob := [.map (imap (setI acc)), .box [.mp 0], .box [.ow 3 acc.length], .arr 1 acc.length (irows acc)]
def accN (acc : List Int) (t : Tm) (n : Nat) : List Int := ((t.els 1).take n).foldl stepV acc
theorem vdrop (f : AV → AV) (h : f .tt = .tt) (a : List Int) (r : List Ob) : mapOb f (.map (imap (setI a))) :: r = .map (imap (setI a)) :: r := by rw [mapOb_set h]
theorem setI_snoc (a : List Int) (n : Int) : setI a ++ [(n, .tt)] = setI (a ++ [n]) := by simp [setI]
theorem irows_snoc (a : List Int) (n : Int) : irows a ++ [[.v (.int .i64 n)]] = irows (a ++ [n]) := by simp [irows, irow]
theorem addV_len (l : List Int) (x : Int) : (addV l x).length ≤ l.length + 1 := by unfold addV; split <;> simp

theorem foldl_lenV : ∀ (l : List (Int × Tm)) (a : List Int), (l.foldl stepV a).length ≤ a.length + l.length
  | [], a => by simp
  | e :: l, a => by
    have := foldl_lenV l (stepV a e)
    have h2 : (stepV a e).length ≤ a.length + 1 := by unfold stepV; split; exact addV_len _ _; omega
    simp only [List.foldl_cons, List.length_cons]; omega
def varsF (a : List Int) (l : List Tm) : List Int := l.foldl (fun a t => (t.els 1).foldl stepV a) a

theorem varsF_len : ∀ (l : List Tm) (a : List Int), (varsF a l).length ≤ a.length + Tm.sizeL l
  | [], a => by simp [varsF]
  | t :: r, a => by
    have := varsF_len r ((t.els 1).foldl stepV a)
    have h := foldl_lenV (t.els 1) a
    rw [Tm.els_len] at h
    simp only [varsF, List.foldl_cons, Tm.sizeL] at this ⊢; omega

set_option maxRecDepth 100000 in
theorem vars_ok (l : List Tm) (hsz : Tm.sizeL l < 1000000000) : PCtr Try.prog 62 [.d (.sl (Tm.rows l))] (.d (.sl (irows (varsT l)))) := by
  refine PCtr.of_R (pf := fun _ => .eff) tyOk mixed Try.func62 rfl (by kernel_rfl) (by kernel_rfl) (by simp [Try.ntmps62]) fun w S hg => ?_
  refine R_run hg.ok 1000 rfl rfl ?_
  refine R_makeMap hg.ok rfl rfl ?_
  refine R_run hg.ok 1000 rfl rfl ?_
  refine R_ownB 2 0 1 rfl rfl rfl ?_
  refine R_loop (fun x : Nat × List Int => ([(3, .lo 1 0), (4, .lo 2 0), (10, .d (.sl (Tm.rows l))), (11, iV l.length), (12, iV x.1)], vobjs x.2)) (fun x => x.1 ≤ l.length ∧ varsT l = varsF x.2 (l.drop x.1) ∧ x.2.length + Tm.sizeL (l.drop x.1) ≤ Tm.sizeL l) (fun x => l.length - x.1) (0, []) ⟨Nat.zero_le _, rfl, by simp⟩ ⟨.refl _, .refl _, .refl _, Ent.int (by rw [Tm.rows_length]), .refl _, trivial⟩ rfl ?_
  rintro ⟨k, acc⟩ ⟨hk, hm, hal⟩
  simp only at hk hm hal
  have hl := Tm.len_le_sizeL l
  refine R_run hg.ok 1000 rfl rfl ?_
  refine R_if rfl rfl (fun h => ?_) (fun h => ?_) <;> refine R_run hg.ok 1000 rfl rfl ?_
  · have hk1 : k < l.length := lt_dec h rfl
    have e1 : l[k]? = some l[k] := List.getElem?_eq_getElem hk1
    rw [List.drop_eq_getElem_cons hk1] at hm hal
    simp only [Tm.sizeL] at hal
    refine R_index hg.ok rfl rfl rfl rfl rfl rfl (Int.natCast_nonneg k) (Tm.rows_get e1) rfl ?_
    refine R_run hg.ok 1000 rfl rfl ?_
    refine R_call hg.ok (each_ok l[k]) rfl rfl rfl rfl rfl rfl ?_
    refine R_run hg.ok 1000 rfl rfl ?_
    generalize l[k] = t at *
    refine R_range hg.ok hg.gup ⟨rfl, rfl⟩ rfl (t.els 1) Tm.enc ⟨(t.els 1).map Tm.enc, fun _ => true⟩ rfl (fun n => vobjs (accN acc t n) ++ [boxR t]) (fun _ _ => [(3, .lo 1 0), (4, .lo 2 0), (8, .lo 5 0)]) (fun n e => vobjs (accN acc t n) ++ [boxR t, boxR e.2]) _ .ret rfl rfl rfl (each1_ok _ t (by omega) fun _ _ h => els_ys h) rfl (fun _ _ => rfl) rfl ?_ ?_ ?_ rfl rfl (fun _ h => by cases h)
    · intro n x hx _ L w R0 X φ0 _
      refine R_run (gRound_ok hg.ok _ _ _ _ _) 1000 rfl rfl ?_
      exact R_finA ⟨.refl _, .refl _, .refl _, trivial⟩ rfl
    · intro n x hx _ L w R0 X φ0 hφ0
      have hg' := gRound_ok hg.ok L w R0 X φ0
      have hn := els_lt hx
      have hstep : accN acc t (n + 1) = stepV (accN acc t n) x := by unfold accN; rw [List.take_add_one, hx, List.foldl_append]; rfl
      have hlen : (accN acc t n).length ≤ acc.length + n := by
        have := foldl_lenV ((t.els 1).take n) acc
        unfold accN; rw [List.length_take] at this; omega
      rw [hstep]
      generalize accN acc t n = a at *
      refine R_run hg' 1000 rfl rfl ?_
      refine R_if rfl rfl (fun h1 => ?_) (fun h1 => ?_) <;> refine R_run hg' 1000 rfl rfl ?_
      · have hx1 : x.2.k = 1 := by simpa using h1
        by_cases hmem : a.contains x.2.n = true
        · refine R_lookupI hg' (setI a) rfl rfl rfl rfl rfl rfl rfl (zv := .bool false) (by kernel_rfl) (v := .tt) (by rw [getI_set, if_pos hmem]; rfl) ?_
          refine R_run hg' 1000 rfl rfl ?_
          refine R_dropO 5 _ (by rw [show (gRound _ L w R0 X φ0).φ0 = φ0 from rfl, hφ0]; exact Nat.le_refl _) rfl (vdrop (trimA 5) rfl _ _) ?_
          exact R_finB rfl (by unfold stepV addV; rw [if_pos hx1, if_pos hmem]; rfl)
        · have hmem' : a.contains x.2.n = false := by simpa using hmem
          refine R_lookupI hg' (setI a) rfl rfl rfl rfl rfl rfl rfl (zv := .bool false) (by kernel_rfl) (v := .ff) (by rw [getI_set, hmem']; rfl) ?_
          refine R_run hg' 1000 rfl rfl ?_
          refine R_mapAddI hg' (setI a) rfl rfl rfl rfl rfl rfl rfl (by rw [getI_set, hmem']; rfl) ?_
          rw [show ∀ E : Env, ev E (.const (.bool true)) = .tt from fun _ => rfl, setI_snoc]
          refine R_run hg' 1000 rfl rfl ?_
          refine R_append hg' rfl rfl rfl rfl rfl rfl rfl rfl rfl (by simp) (by simp [one1]) (by simp [irows_length]; omega) (by simp [irows_length]; omega) ?_
          rw [irows_snoc]
          refine R_run hg' 1000 rfl rfl ?_
          refine R_dropO 5 _ (by rw [show (gRound _ L w R0 X φ0).φ0 = φ0 from rfl, hφ0]; exact Nat.le_refl _) rfl (vdrop (trimA 5) rfl _ _) ?_
          refine R_finB rfl ?_
          unfold stepV addV; rw [if_pos hx1, hmem']
          simp only [Bool.false_eq_true, if_false, vobjs, List.length_append, List.length_cons, List.length_nil]; rfl
      · have hx1 : ¬ x.2.k = 1 := by simpa using h1
        refine R_dropO 5 _ (by rw [show (gRound _ L w R0 X φ0).φ0 = φ0 from rfl, hφ0]; exact Nat.le_refl _) rfl (vdrop (trimA 5) rfl _ _) ?_
        exact R_finB rfl (by unfold stepV; rw [if_neg hx1]; rfl)
    · intro _
      rw [adv_allT (fun _ => rfl)]
      refine R_run hg.ok 1000 rfl rfl ?_
      refine R_dropO 4 _ (Nat.zero_le _) rfl (vdrop (trimA 4) rfl _ _) ?_
      have hA : accN acc t (0 + t.size) = (t.els 1).foldl stepV acc := by unfold accN; rw [List.take_of_length_le (by rw [Tm.els_len]; omega)]
      have hfl := foldl_lenV (t.els 1) acc
      rw [Tm.els_len] at hfl
      rw [hA]
      refine R_next (k + 1, (t.els 1).foldl stepV acc) ⟨hk1, hm, by simp only; omega⟩ (by simp only; omega) ⟨.refl _, .refl _, .refl _, .refl _, Ent.wrap (by simp only; omega) (by simp only; omega) (by simp only; omega), trivial⟩ rfl
  · have hk1 : l.length ≤ k := ge_dec h rfl
    refine R_ret hg 5 rfl (sealA_ow rfl) ?_
    rw [hm, List.drop_eq_nil_of_le hk1]; rfl
end Go.Proofs.Ytppghekipbnjhaa

namespace Go.Proofs.Ytppghekipbnjhaa
open Go PSL Go.Proofs
end Go.Proofs.Ytppghekipbnjhaa

namespace Go.Proofs.Ytppghekipbnjhaa
open Go PSL Go.Proofs
end Go.Proofs.Ytppghekipbnjhaa

namespace Go.Proofs.Ytppghekipbnjhaa
open Go PSL Go.Proofs
end Go.Proofs.Ytppghekipbnjhaa

namespace Go.Proofs.Ytppghekipbnjhaa
open Go PSL Go.Proofs
def okT (ok : Bool) (t : Tm) : Tm := if ok then t else zeroT
def tmM (B : Binds) : List (Int × AV) := B.map fun b => (b.1, b.2.av)

theorem getI_tm : ∀ (B : Binds) (n : Int), getI (tmM B) n = (findB B n).map Tm.av
  | [], n => rfl
  | b :: B, n => by
    have ih := getI_tm B n
    by_cases h : b.1 = n
    · simp [tmM, getI, findB, h]
    · simp only [tmM, List.map_cons, getI, findB, List.find?_cons, show (b.1 == n) = false by simpa using h] at ih ⊢
      rw [if_neg h]; exact ih
end Go.Proofs.Ytppghekipbnjhaa

namespace PSL
open Go

def ixGo : List Int → Int → List (Int × AV) → List (Int × AV)
  | [], _, A => A
  | v :: r, i, A => ixGo r (i + 1) (if (getI A v).isSome then A else A ++ [(v, iV i)])
def ixM (V : List Int) : List (Int × AV) := ixGo V 0 []

theorem getI_app : ∀ (A B : List (Int × AV)) (v : Int), getI (A ++ B) v = match getI A v with | some x => some x | none => getI B v
  | [], B, v => rfl
  | p :: A, B, v => by
    simp only [List.cons_append, getI]
    split
    · rfl
    · exact getI_app A B v

theorem getI_ixGo : ∀ (V : List Int) (i : Int) (A : List (Int × AV)) (v : Int), 0 ≤ i → getI (ixGo V i A) v = match getI A v with | some x => some x | none => if atI V v i < 0 then none else some (iV (atI V v i))
  | [], i, A, v, _ => by
    simp only [ixGo, atI]
    cases getI A v <;> simp
  | u :: V, i, A, v, h => by
    simp only [ixGo, atI]
    rw [getI_ixGo V (i + 1) _ v (by omega)]
    by_cases hu : (getI A u).isSome = true
    · rw [if_pos hu]
      cases hv : getI A v with
      | some x => rfl
      | none =>
        have : ¬ u = v := fun e => by rw [e, hv] at hu; cases hu
        simp only [if_neg this]
    · rw [if_neg hu, getI_app]
      cases hv : getI A v with
      | some x => rfl
      | none =>
        simp only [getI]
        by_cases e : u = v
        · simp only [if_pos e]
          rw [if_neg (by omega)]
        · simp only [if_neg e]

theorem getI_ix (V : List Int) (v : Int) : getI (ixM V) v = if atI V v 0 < 0 then none else some (iV (atI V v 0)) := by
  unfold ixM; rw [getI_ixGo V 0 [] v (Int.le_refl _)]; rfl

theorem ixGo_keys : ∀ (V : List Int) (i : Int) (A : List (Int × AV)), (ixGo V i A).map (·.1) = V.foldl addV (A.map (·.1))
  | [], i, A => rfl
  | u :: V, i, A => by
    simp only [ixGo, List.foldl_cons]
    rw [ixGo_keys V (i + 1)]
    congr 1
    have key : ∀ (A : List (Int × AV)), (getI A u).isSome = (A.map (·.1)).contains u := by
      intro A
      induction A with
      | nil => rfl
      | cons p A ih =>
        simp only [getI, List.map_cons, List.contains_cons]
        by_cases h : p.1 = u
        · rw [if_pos h]; simp [h]
        · rw [if_neg h, ih]
          have : (u == p.1) = false := by simp; exact fun e => h e.symm
          rw [this, Bool.false_or]
    unfold addV
    rw [← key A]
    split <;> simp

theorem ixM_len (V : List Int) : (ixM V).length = (Tm.once V).length := by
  have := congrArg List.length (ixGo_keys V 0 [])
  simpa [ixM, Tm.once] using this

theorem foldl_len : ∀ (l a : List Int), (l.foldl addV a).length ≤ a.length + l.length ∧ ((l.foldl addV a).length = a.length + l.length → l.Nodup ∧ ∀ x ∈ l, x ∉ a)
  | [], a => by simp
  | x :: l, a => by
    have h := foldl_len l (addV a x)
    have h2 := Tm.addV_len' a x
    simp only [List.foldl_cons, List.length_cons]
    refine ⟨by omega, fun he => ?_⟩
    have h3 : (addV a x).length = a.length + 1 := by omega
    have hx : x ∉ a := fun hm => by
      unfold addV at h3; rw [if_pos (by simpa using hm)] at h3; omega
    obtain ⟨h4, h5⟩ := h.2 (by omega)
    have h6 : addV a x = a ++ [x] := by unfold addV; rw [if_neg (by simpa using hx)]
    rw [h6] at h5
    refine ⟨List.nodup_cons.2 ⟨fun hm => by have := h5 x hm; simp at this, h4⟩, fun y hy => ?_⟩
    rcases List.mem_cons.1 hy with rfl | hy
    · exact hx
    · have := h5 y hy; simp at this; exact this.1

theorem once_len {V : List Int} : ((Tm.once V).length < V.length) ↔ ¬ V.Nodup := by
  have h := foldl_len V []
  unfold Tm.once
  constructor
  · intro h1 h2
    have key : ∀ (l a : List Int), l.Nodup → (∀ x ∈ l, x ∉ a) → (l.foldl addV a).length = a.length + l.length := by
      intro l
      induction l with
      | nil => intro a _ _; simp
      | cons x l ih =>
        intro a hn hd
        have hx : addV a x = a ++ [x] := by unfold addV; rw [if_neg (by simpa using hd x (by simp))]
        rw [List.foldl_cons, hx, ih _ (List.nodup_cons.1 hn).2 fun y hy => ?_]
        · simp; omega
        · simp only [List.mem_append, List.mem_singleton, not_or]
          exact ⟨hd y (by simp [hy]), fun e => (List.nodup_cons.1 hn).1 (e ▸ hy)⟩
    have := key V [] h2 (by simp)
    simp at this; omega
  · intro h1
    rcases Nat.lt_or_ge (V.foldl addV []).length V.length with h2 | h2
    · exact h2
    · exact absurd (h.2 (by simp; have := h.1; simp at this; omega)).1 h1

def dfsL (g : Nat → List Int → Bool × List Int) : List Nat → List Int → Bool × List Int
  | [], st => (true, st)
  | k :: r, st => if (g k st).1 then dfsL g r (g k st).2 else (false, (g k st).2)

def dfsF (adj : Nat → List Nat) : Nat → Nat → List Int → Bool × List Int
  | 0, _, st => (false, st)
  | f + 1, i, st => if st.getD i 0 ≠ 0 then (decide (st.getD i 0 = 2), st) else
      if (dfsL (dfsF adj f) (adj i) (st.set i 1)).1 then (true, (dfsL (dfsF adj f) (adj i) (st.set i 1)).2.set i 2) else (false, (dfsL (dfsF adj f) (adj i) (st.set i 1)).2)
def zeros (st : List Int) : Nat := st.countP (· == 0)

theorem zeros_set : ∀ (st : List Int) (i : Nat) (x : Int), x ≠ 0 → zeros (st.set i x) ≤ zeros st ∧ (i < st.length → st.getD i 0 = 0 → zeros (st.set i x) + 1 = zeros st)
  | [], i, x, _ => by simp [zeros]
  | y :: st, 0, x, hx => by
    simp only [zeros, List.set_cons_zero, List.countP_cons]
    have : (x == 0) = false := by simpa using hx
    rw [this]
    constructor
    · simp
    · intro _ h0
      have : y = 0 := by simpa using h0
      simp [this]
  | y :: st, i + 1, x, hx => by
    have h := zeros_set st i x hx
    simp only [zeros, List.set_cons_succ, List.countP_cons] at h ⊢
    refine ⟨by omega, fun h1 h2 => ?_⟩
    have := h.2 (by simpa using h1) (by simpa using h2)
    omega

theorem dfs_shape (adj : Nat → List Nat) : ∀ (f i : Nat) (st : List Int), (dfsF adj f i st).2.length = st.length ∧ zeros (dfsF adj f i st).2 ≤ zeros st := by
  intro f
  induction f with
  | zero => intro i st; exact ⟨rfl, Nat.le_refl _⟩
  | succ f ih =>
    intro i st
    have hL : ∀ (L : List Nat) (st : List Int), (dfsL (dfsF adj f) L st).2.length = st.length ∧ zeros (dfsL (dfsF adj f) L st).2 ≤ zeros st := by
      intro L
      induction L with
      | nil => intro st; exact ⟨rfl, Nat.le_refl _⟩
      | cons k r ihr =>
        intro st
        have h1 := ih k st
        have h2 := ihr (dfsF adj f k st).2
        simp only [dfsL]
        split
        · exact ⟨by rw [h2.1, h1.1], by omega⟩
        · exact h1
    have h1 := hL (adj i) (st.set i 1)
    have h2 := zeros_set st i 1 (by omega)
    simp only [dfsF]
    split
    · exact ⟨rfl, Nat.le_refl _⟩
    · split
      · have h3 := zeros_set (dfsL (dfsF adj f) (adj i) (st.set i 1)).2 i 2 (by omega)
        exact ⟨by simp [h1.1], by simp only; omega⟩
      · exact ⟨by simp [h1.1], by simp only; omega⟩

/-- No way leads round. -/
inductive Okn (adj : Nat → List Nat) : Nat → Nat → Prop
  | mk {m i : Nat} (h : ∀ k ∈ adj i, Okn adj m k) : Okn adj (m + 1) i

theorem Okn.mono {adj : Nat → List Nat} : ∀ {m i : Nat}, Okn adj m i → ∀ {m' : Nat}, m ≤ m' → Okn adj m' i := by
  intro m
  induction m with
  | zero => intro i h; cases h
  | succ m ih =>
    intro i h m' hm
    cases h with
    | mk h =>
      obtain ⟨q, rfl⟩ : ∃ q, m' = q + 1 := ⟨m' - 1, by omega⟩
      exact .mk fun k hk => ih (h k hk) (by omega)

theorem Okn.all {adj : Nat → List Nat} : ∀ {L : List Nat}, (∀ k ∈ L, ∃ m, Okn adj m k) → ∃ m, ∀ k ∈ L, Okn adj m k
  | [], _ => ⟨0, by simp⟩
  | k :: L, h => by
    obtain ⟨m, h1⟩ := h k (by simp)
    obtain ⟨m', h2⟩ := Okn.all (L := L) fun k hk => h k (by simp [hk])
    refine ⟨m + m', fun x hx => ?_⟩
    rcases List.mem_cons.1 hx with rfl | hx
    · exact h1.mono (by omega)
    · exact (h2 x hx).mono (by omega)

/-- What has been looked through leads nowhere round. -/
theorem dfs_sound (adj : Nat → List Nat) : ∀ (f i : Nat) (st : List Int), (∀ j, st.getD j 0 = 2 → ∃ m, Okn adj m j) → (∀ j, (dfsF adj f i st).2.getD j 0 = 2 → ∃ m, Okn adj m j) ∧ ((dfsF adj f i st).1 = true → ∃ m, Okn adj m i) := by
  intro f
  induction f with
  | zero => intro i st h; exact ⟨h, fun h => by cases h⟩
  | succ f ih =>
    intro i st h
    have hL : ∀ (L : List Nat) (st : List Int), (∀ j, st.getD j 0 = 2 → ∃ m, Okn adj m j) → (∀ j, (dfsL (dfsF adj f) L st).2.getD j 0 = 2 → ∃ m, Okn adj m j) ∧ ((dfsL (dfsF adj f) L st).1 = true → ∀ k ∈ L, ∃ m, Okn adj m k) := by
      intro L
      induction L with
      | nil => intro st h; exact ⟨h, by simp⟩
      | cons k r ihr =>
        intro st h
        obtain ⟨h1, h2⟩ := ih k st h
        obtain ⟨h3, h4⟩ := ihr _ h1
        simp only [dfsL]
        split
        · rename_i hk
          refine ⟨h3, fun hr x hx => ?_⟩
          rcases List.mem_cons.1 hx with rfl | hx
          · exact h2 hk
          · exact h4 hr x hx
        · exact ⟨h1, fun h => by cases h⟩
    have hset : ∀ (st : List Int) (x : Int), (∀ j, st.getD j 0 = 2 → ∃ m, Okn adj m j) → (x = 2 → ∃ m, Okn adj m i) → ∀ j, (st.set i x).getD j 0 = 2 → ∃ m, Okn adj m j := fun st x hst hx j hj => by
      by_cases e : j = i
      · subst e
        rcases Nat.lt_or_ge j st.length with hl | hl
        · rw [List.getD_eq_getElem?_getD, List.getElem?_set_self hl] at hj
          exact hx (by simpa using hj)
        · rw [List.getD_eq_getElem?_getD, List.getElem?_eq_none (by simpa using hl)] at hj
          simp at hj
      · rw [List.getD_eq_getElem?_getD, List.getElem?_set_ne (fun h => e h.symm), ← List.getD_eq_getElem?_getD] at hj
        exact hst j hj
    obtain ⟨h1, h2⟩ := hL (adj i) (st.set i 1) (hset st 1 h (by omega))
    have hi : (dfsL (dfsF adj f) (adj i) (st.set i 1)).1 = true → ∃ m, Okn adj m i := fun hr => by
      obtain ⟨m, hm⟩ := Okn.all (h2 hr)
      exact ⟨m + 1, .mk hm⟩
    simp only [dfsF]
    split
    · exact ⟨h, fun hd => h i (by simpa using hd)⟩
    · split
      · rename_i hr
        exact ⟨hset _ 2 h1 fun _ => hi hr, fun _ => hi hr⟩
      · exact ⟨h1, fun h => by cases h⟩

/-- To where a bind's term leads. -/
def adjB (l : Binds) (i : Nat) : List Nat := match l[i]? with
  | some b => (varsT [b.2]).filterMap fun v => if placeB l v < 0 then none else some (placeB l v).toNat
  | none => []

/-- All are gone through. -/
def dfsAll (adj : Nat → List Nat) (n : Nat) : List Nat → List Int → Bool
  | [], _ => true
  | i :: r, st => if (dfsF adj (n + 1) i st).1 then dfsAll adj n r (dfsF adj (n + 1) i st).2 else false
def fineB (l : Binds) : Bool := l.all fun b => decide (0 ≤ b.1) && decide (b.1 < 1000000) && b.2.rightB

/-- May a substitution be? -/
def rightS (l : Binds) : Bool := !decide ((ixM (l.map (·.1))).length < l.length) && fineB l && dfsAll (adjB l) l.length (List.range l.length) (List.replicate l.length 0)

theorem dfsAll_sound {adj : Nat → List Nat} {n : Nat} : ∀ (L : List Nat) (st : List Int), (∀ j, st.getD j 0 = 2 → ∃ m, Okn adj m j) → dfsAll adj n L st = true → ∀ i ∈ L, ∃ m, Okn adj m i
  | [], st, _, _ => by simp
  | i :: r, st, h, hr => by
    simp only [dfsAll] at hr
    obtain ⟨h1, h2⟩ := dfs_sound adj (n + 1) i st h
    split at hr
    · rename_i hi
      have h3 := dfsAll_sound r _ h1 hr
      intro x hx
      rcases List.mem_cons.1 hx with rfl | hx
      · exact h2 hi
      · exact h3 x hx
    · cases hr

theorem rightS_spec {l : Binds} (h : rightS l = true) : (l.map (·.1)).Nodup ∧ (∀ b ∈ l, 0 ≤ b.1 ∧ b.1 < 1000000 ∧ b.2.rightB = true) ∧ ∃ M, ∀ i < l.length, Okn (adjB l) M i := by
  simp only [rightS, Bool.and_eq_true, Bool.not_eq_true', decide_eq_false_iff_not] at h
  obtain ⟨⟨h1, h2⟩, h3⟩ := h
  refine ⟨?_, fun b hb => ?_, ?_⟩
  · rw [ixM_len] at h1
    have := once_len (V := l.map (·.1))
    rw [List.length_map] at this
    exact Classical.byContradiction fun hn => h1 (this.2 hn)
  · have := List.all_eq_true.1 h2 b hb
    simp only [Bool.and_eq_true, decide_eq_true_eq] at this
    exact ⟨this.1.1, this.1.2, this.2⟩
  · have h4 := dfsAll_sound _ _ (fun j hj => by
      rw [List.getD_eq_getElem?_getD, List.getElem?_replicate] at hj
      split at hj <;> simp at hj) h3
    obtain ⟨M, hM⟩ := Okn.all h4
    exact ⟨M, fun i hi => hM i (by simpa using hi)⟩
end PSL
namespace PSL
open Go

theorem ixGo_iv : ∀ (V : List Int) (i : Int) (A : List (Int × AV)), (∀ p ∈ A, ∃ n, p.2 = iV n) → ∀ p ∈ ixGo V i A, ∃ n, p.2 = iV n
  | [], _, _, h => h
  | u :: V, i, A, h => ixGo_iv V (i + 1) _ (by
    intro p hp
    split at hp
    · exact h p hp
    · rcases List.mem_append.1 hp with hp | hp
      · exact h p hp
      · simp at hp; exact ⟨i, by rw [hp]⟩)
theorem ixM_iv (V : List Int) : ∀ p ∈ ixM V, ∃ n, p.2 = iV n := ixGo_iv V 0 [] (by simp)

theorem mapOb_iv {f : AV → AV} (h : ∀ n, f (iV n) = iV n) {A : List (Int × AV)} (hA : ∀ p ∈ A, ∃ n, p.2 = iV n) : mapOb f (.map (imap A)) = .map (imap A) := by
  simp only [mapOb, imap, List.map_map]
  congr 1
  refine List.map_congr_left fun p hp => ?_
  obtain ⟨n, hn⟩ := hA p hp
  simp [hn, h]
theorem placesOf {l : Binds} {i : Nat} {b : Int × Tm} (h : l[i]? = some b) : adjB l i = (varsT [b.2]).filterMap fun v => if placeB l v < 0 then none else some (placeB l v).toNat := by unfold adjB; rw [h]
theorem irows_set {st : List Int} {i : Nat} {x : Int} : (irows st).set i [.v (.int .i64 x)] = irows (st.set i x) := by simp [irows, irow, List.map_set]
end PSL
namespace PSL
open Go

theorem getI_iv : ∀ {A : List (Int × AV)} {v : Int} {x : AV}, (∀ p ∈ A, ∃ n, p.2 = iV n) → getI A v = some x → ∃ n, x = iV n
  | [], v, x, _, h => by cases h
  | p :: A, v, x, hA, h => by
    simp only [getI] at h
    split at h
    · cases h; exact hA p (by simp)
    · exact getI_iv (fun q hq => hA q (by simp [hq])) h
end PSL

namespace PSL
open Go
namespace Tm

mutual
theorem putF_fair {σ : Int → Tm} : ∀ (p : Tm), fairR p = true → (∀ v ∈ occ p, fairR (σ v) = true) → fairR (putF σ p) = true
  | mk k s n l, h, hs => by
    have hf := fairR_mk h
    simp only [occ] at hs
    simp only [putF]
    by_cases hk : k = 1
    · rw [if_pos hk] at hs ⊢; exact hs n (by simp)
    · rw [if_neg hk] at hs ⊢
      simp only [fairR, Bool.and_eq_true] at h ⊢
      exact ⟨⟨h.1.1, putFL_fair l h.1.2 hs⟩, by rw [putFL_len]; exact h.2⟩
theorem putFL_fair {σ : Int → Tm} : ∀ (l : List Tm), fairRL l = true → (∀ v ∈ occL l, fairR (σ v) = true) → fairRL (putFL σ l) = true
  | [], _, _ => rfl
  | x :: l, h, hs => by
    simp only [fairRL, Bool.and_eq_true] at h
    simp only [occL, List.mem_append] at hs
    simp only [putFL, fairRL, Bool.and_eq_true]
    exact ⟨putF_fair x h.1 fun v hv => hs v (.inl hv), putFL_fair l h.2 fun v hv => hs v (.inr hv)⟩
end

mutual
theorem occ_putF {σ : Int → Tm} : ∀ (p : Tm) (u : Int), u ∈ occ (putF σ p) → ∃ v ∈ occ p, u ∈ occ (σ v)
  | mk k s n l, u, h => by
    simp only [putF] at h
    simp only [occ]
    by_cases hk : k = 1
    · rw [if_pos hk] at h ⊢; exact ⟨n, by simp, h⟩
    · rw [if_neg hk] at h ⊢
      simp only [occ, if_neg hk] at h
      exact occL_putF l u h
theorem occL_putF {σ : Int → Tm} : ∀ (l : List Tm) (u : Int), u ∈ occL (putFL σ l) → ∃ v ∈ occL l, u ∈ occ (σ v)
  | [], u, h => by simp [putFL, occL] at h
  | x :: l, u, h => by
    simp only [putFL, occL, List.mem_append] at h
    simp only [occL, List.mem_append]
    rcases h with h | h
    · obtain ⟨v, h1, h2⟩ := occ_putF x u h; exact ⟨v, .inl h1, h2⟩
    · obtain ⟨v, h1, h2⟩ := occL_putF l u h; exact ⟨v, .inr h1, h2⟩
end

theorem vT_fair' {n : Int} (h0 : 0 ≤ n) (h1 : n < 1000000) : fairR (vT n) = true := by
  have e : strEq ByteArray.empty ⟨#[]⟩ = true := strEq_iff.2 rfl
  have e2 : ByteArray.empty.data.toList.all byteOk = true := rfl
  simp only [vT, fairR, fairRL, kindR, e, e2]
  simp
  omega

theorem putFL_map (σ : Int → Tm) : ∀ l, putFL σ l = l.map (putF σ)
  | [] => rfl
  | x :: l => by simp only [putFL, List.map_cons, putFL_map σ l]

theorem put_id {σ : Int → Tm} (p : Tm) (h : fairR p = true) (hs : ∀ v ∈ occ p, σ v = vT v) : putF σ p = p := by
  rw [putF_congr p hs, put_self p h]
end Tm

/-- What a term becomes, so many steps deep. -/
def fullS (B : Binds) : Nat → Tm → Tm
  | 0, t => t
  | m + 1, t => Tm.putF (fun v => match findB B v with | some x => fullS B m x | none => Tm.vT v) t

/-- No bound variable of a term leads further. -/
def levT (B : Binds) (m : Nat) (t : Tm) : Prop := ∀ v ∈ Tm.occ t, 0 ≤ placeB B v → Okn (adjB B) m (placeB B v).toNat

theorem lev_bind {B : Binds} {m : Nat} {v : Int} {x : Tm} (hx : x.fairR = true) (h : findB B v = some x) (ho : Okn (adjB B) m (placeB B v).toNat) : ∃ q, m = q + 1 ∧ levT B q x := by
  cases ho with
  | @mk q _ ho =>
    refine ⟨q, rfl, fun u hu hp => ho _ ?_⟩
    rcases placeB_find B v with ⟨_, h2⟩ | ⟨k, t, h1, h2, h3⟩
    · rw [h2] at h; cases h
    · rw [h3] at h; cases h
      rw [h1]
      simp only [Int.toNat_natCast, adjB, h2, List.mem_filterMap]
      refine ⟨u, ?_, by rw [if_neg (by omega)]⟩
      rw [varsT_once (one_fair hx)]
      simp [Tm.occL, Tm.mem_once, hu]
section
variable {B : Binds} (hB : ∀ b ∈ B, b.2.fairR = true)
include hB
theorem findB_fair {v : Int} {x : Tm} (h : findB B v = some x) : x.fairR = true := hB _ (Tm.findB_mem h)

theorem lev_find {m : Nat} {t : Tm} (h : levT B m t) {v : Int} (hv : v ∈ Tm.occ t) {x : Tm} (hx : findB B v = some x) : ∃ q, m = q + 1 ∧ levT B q x := by
  refine lev_bind (findB_fair hB hx) hx (h v hv ?_)
  rcases placeB_find B v with ⟨_, h2⟩ | ⟨k, t, h1, h2, h3⟩
  · rw [h2] at hx; cases hx
  · omega

theorem full_stable : ∀ (m : Nat) (t : Tm), t.fairR = true → levT B m t → ∀ m', m ≤ m' → fullS B m' t = fullS B m t := by
  intro m
  induction m with
  | zero =>
    intro t hf hl m' _
    have hn : ∀ v ∈ Tm.occ t, findB B v = none := fun v hv => by
      cases h : findB B v with
      | none => rfl
      | some x => obtain ⟨q, hq, _⟩ := lev_find hB hl hv h; omega
    cases m' with
    | zero => rfl
    | succ m' =>
      simp only [fullS]
      exact Tm.put_id t hf fun v hv => by rw [hn v hv]
  | succ m ih =>
    intro t hf hl m' hm
    obtain ⟨q, rfl⟩ : ∃ q, m' = q + 1 := ⟨m' - 1, by omega⟩
    simp only [fullS]
    refine Tm.putF_congr t fun v hv => ?_
    cases h : findB B v with
    | none => rfl
    | some x =>
      obtain ⟨r, hr, h2⟩ := lev_find hB hl hv h
      cases hr
      exact ih x (findB_fair hB h) h2 q (by omega)

theorem full_fair : ∀ (m : Nat) (t : Tm), t.fairR = true → (∀ v ∈ Tm.occ t, 0 ≤ v ∧ v < 1000000) → (fullS B m t).fairR = true := by
  intro m
  induction m with
  | zero => intro t h _; exact h
  | succ m ih =>
    intro t h hv
    refine Tm.putF_fair t h fun v hm => ?_
    cases hf : findB B v with
    | none => exact Tm.vT_fair' (hv v hm).1 (hv v hm).2
    | some x =>
      have := findB_fair hB hf
      exact ih x this (Tm.occ_range x this)

theorem full_free : ∀ (m : Nat) (t : Tm), levT B m t → ∀ u ∈ Tm.occ (fullS B m t), findB B u = none := by
  intro m
  induction m with
  | zero =>
    intro t hl u hu
    cases h : findB B u with
    | none => rfl
    | some x => obtain ⟨q, hq, _⟩ := lev_find hB hl hu h; omega
  | succ m ih =>
    intro t hl u hu
    obtain ⟨v, hv, h2⟩ := Tm.occ_putF t u hu
    cases h : findB B v with
    | none =>
      rw [h] at h2
      simp [Tm.vT, Tm.occ] at h2
      rw [h2]; exact h
    | some x =>
      rw [h] at h2
      obtain ⟨r, hr, h3⟩ := lev_find hB hl hv h
      cases hr
      exact ih x h3 u h2
end

/-- All that is needed of a right substitution. -/
structure Sub (B : Binds) (M : Nat) : Prop where
  fair : ∀ b ∈ B, b.2.fairR = true
  okn : ∀ i < B.length, Okn (adjB B) M i

theorem Sub.lev {B : Binds} {M : Nat} (h : Sub B M) (t : Tm) : levT B M t := fun v _ hp => h.okn _ (by
  rcases placeB_find B v with ⟨h1, _⟩ | ⟨k, t, h1, h2, h3⟩
  · omega
  · have := (List.getElem?_eq_some_iff.1 h2).1; omega)

theorem Sub.of {B : Binds} (h : rightS B = true) : ∃ M, Sub B M := by
  obtain ⟨_, h2, M, h3⟩ := rightS_spec h
  exact ⟨M, fun b hb => right_fair (h2 b hb).2.2, h3⟩

theorem Sub.fix {B : Binds} {M : Nat} (h : Sub B M) {t : Tm} (hf : t.fairR = true) : fullS B M t = Tm.putF (fun v => match findB B v with | some x => fullS B M x | none => Tm.vT v) t :=
  (full_stable h.fair M t hf (h.lev t) (M + 1) (by omega)).symm

/-- A step from a bound variable. -/
theorem Sub.bound {B : Binds} {M : Nat} (h : Sub B M) {t x : Tm} (hf : t.fairR = true) (hk : t.k = 1) (hx : findB B t.n = some x) : fullS B M t = fullS B M x := by
  rw [h.fix hf]
  obtain ⟨k, s, n, l⟩ := t
  simp only [Tm.k, Tm.n] at hk hx
  simp only [Tm.putF, if_pos hk, hx]

theorem occ_var {t : Tm} (hk : t.k = 1) : t.n ∈ Tm.occ t := by
  obtain ⟨k, s, n, l⟩ := t
  simp only [Tm.k] at hk
  simp [Tm.occ, hk, Tm.n]

/-- What isn't a bound variable keeps its head. -/
theorem Sub.head {B : Binds} {M : Nat} (h : Sub B M) {t : Tm} (hf : t.fairR = true) (hx : t.k = 1 → findB B t.n = none) : fullS B M t = .mk t.k t.s t.n (t.l.map (fullS B M)) := by
  rw [h.fix hf]
  obtain ⟨k, s, n, l⟩ := t
  have h1 := Tm.fairR_mk hf
  by_cases hk : k = 1
  · obtain ⟨rfl, rfl⟩ := h1.2 hk
    have := hx hk
    simp only [Tm.n] at this
    subst hk
    simp [Tm.putF, this, Tm.vT, Tm.k, Tm.s, Tm.n, Tm.l]
  · simp only [Tm.putF, if_neg hk, Tm.k, Tm.s, Tm.n, Tm.l, Tm.putFL_map]
    congr 1
    refine List.map_congr_left fun x hx => ?_
    exact (h.fix (Tm.fairRL_iff.1 h1.1 x hx)).symm

theorem Sub.kid_fair {t x : Tm} (hf : t.fairR = true) (hx : x ∈ t.l) : x.fairR = true := by
  obtain ⟨k, s, n, l⟩ := t
  exact Tm.fairRL_iff.1 (Tm.fairR_mk hf).1 x hx
theorem Sub.free {B : Binds} {M : Nat} (h : Sub B M) (t : Tm) : ∀ u ∈ Tm.occ (fullS B M t), findB B u = none := full_free h.fair M t (h.lev t)
theorem Sub.fairF {B : Binds} {M : Nat} (h : Sub B M) {t : Tm} (hf : t.fairR = true) : (fullS B M t).fairR = true := full_fair h.fair M t hf (Tm.occ_range t hf)

/-- What has no bound variable stays. -/
theorem Sub.same {B : Binds} {M : Nat} (h : Sub B M) {t : Tm} (hf : t.fairR = true) (hn : ∀ u ∈ Tm.occ t, findB B u = none) : fullS B M t = t := by
  rw [h.fix hf]
  exact Tm.put_id t hf fun v hv => by rw [hn v hv]
namespace Tm

mutual
def bldN : Tm → Int → Int → Bool × Int
  | mk _ _ _ l, left, deep => if left - 1 < 0 ∨ deep > 100 then (false, left - 1) else bldNL l (left - 1) (deep + 1)
def bldNL : List Tm → Int → Int → Bool × Int
  | [], left, _ => (true, left)
  | x :: r, left, deep => if (bldN x left deep).1 then bldNL r (bldN x left deep).2 deep else (false, (bldN x left deep).2)
end
theorem bldN_eq (t : Tm) (left deep : Int) : bldN t left deep = if left - 1 < 0 ∨ deep > 100 then (false, left - 1) else bldNL t.l (left - 1) (deep + 1) := by cases t; simp only [bldN]; rfl

mutual
theorem bldN_ok : ∀ (t : Tm) (left deep : Int), 0 ≤ left → 1 ≤ deep → ((bldN t left deep).1 = true ↔ (t.size : Int) ≤ left ∧ deep + t.depth ≤ 101) ∧ ((bldN t left deep).1 = true → (bldN t left deep).2 = left - t.size) ∧ -1 ≤ (bldN t left deep).2 ∧ (bldN t left deep).2 ≤ left
  | mk k s n l, left, deep, h0, h1 => by
    have h2 : 1 ≤ (mk k s n l).depth := by simp only [depth]; omega
    simp only [bldN, size, depth]
    split
    · rename_i h
      refine ⟨⟨fun h => (by cases h), fun h' => (by omega)⟩, fun h => (by cases h), by simp only; omega, by simp only; omega⟩
    · rename_i h
      obtain ⟨h3, h4, h5, h6⟩ := bldNL_ok l (left - 1) (deep + 1) (by omega) (by omega)
      refine ⟨?_, fun hr => by rw [h4 hr]; omega, h5, by omega⟩
      rw [h3]
      constructor
      · rintro ⟨h7, h8⟩
        refine ⟨by omega, ?_⟩
        rcases h8 with h8 | h8
        · subst h8; simp only [depthL]; omega
        · omega
      · rintro ⟨h7, h8⟩; exact ⟨by omega, .inr (by omega)⟩
theorem bldNL_ok : ∀ (l : List Tm) (left deep : Int), 0 ≤ left → 1 ≤ deep → ((bldNL l left deep).1 = true ↔ (sizeL l : Int) ≤ left ∧ (l = [] ∨ deep + depthL l ≤ 101)) ∧ ((bldNL l left deep).1 = true → (bldNL l left deep).2 = left - sizeL l) ∧ -1 ≤ (bldNL l left deep).2 ∧ (bldNL l left deep).2 ≤ left
  | [], left, deep, h0, h1 => by simp only [bldNL, sizeL]; exact ⟨⟨fun _ => ⟨by omega, by simp⟩, fun _ => by simp⟩, fun _ => by omega, by omega, by omega⟩
  | x :: r, left, deep, h0, h1 => by
    obtain ⟨h2, h3, h4, h5⟩ := bldN_ok x left deep h0 h1
    have hx := size_eq x
    simp only [bldNL, sizeL, depthL]
    cases hb : (bldN x left deep).1 with
    | true =>
      simp only [if_true]
      have h6 := h3 hb
      obtain ⟨h7, h8⟩ := h2.1 hb
      obtain ⟨g1, g2, g3, g4⟩ := bldNL_ok r (bldN x left deep).2 deep (by omega) h1
      refine ⟨?_, fun hr => by rw [g2 hr, h6]; omega, g3, by omega⟩
      rw [g1, h6]
      constructor
      · rintro ⟨a, b⟩
        refine ⟨by omega, .inr ?_⟩
        rcases b with b | b
        · subst b; simp only [depthL]; omega
        · omega
      · rintro ⟨a, b⟩
        refine ⟨by omega, ?_⟩
        rcases b with b | b
        · simp at b
        · exact .inr (by omega)
    | false =>
      simp only [Bool.false_eq_true, if_false]
      refine ⟨⟨fun h => (by cases h), fun ⟨a, b⟩ => ?_⟩, fun h => (by cases h), h4, h5⟩
      have : (bldN x left deep).1 = true := h2.2 (by
        rcases b with b | b
        · simp at b
        · exact ⟨by omega, by omega⟩)
      rw [hb] at this; cases this
end
end Tm

/-- What Apply answers. -/
def applyT (B : Binds) (M : Nat) (t : Tm) : Tm × Int :=
  if rightS B && t.rightB then (if decide ((fullS B M t).size ≤ 3000) && decide ((fullS B M t).depth ≤ 100) then (fullS B M t, 0) else (zeroT, 3)) else (zeroT, 1)
end PSL
namespace PSL
open Go

def oknB (adj : Nat → List Nat) : Nat → Nat → Bool
  | 0, _ => false
  | m + 1, i => (adj i).all (oknB adj m)

theorem oknB_ok {adj : Nat → List Nat} : ∀ {m i : Nat}, oknB adj m i = true → Okn adj m i
  | 0, i, h => by cases h
  | m + 1, i, h => .mk fun k hk => oknB_ok (List.all_eq_true.1 h k hk)
def subB (B : Binds) (M : Nat) : Bool := B.all (fun b => b.2.fairR) && (List.range B.length).all (oknB (adjB B) M)

theorem Sub.ofB {B : Binds} {M : Nat} (h : subB B M = true) : Sub B M := by
  simp only [subB, Bool.and_eq_true] at h
  exact ⟨fun b hb => List.all_eq_true.1 h.1 b hb, fun i hi => oknB_ok (List.all_eq_true.1 h.2 i (by simpa using hi))⟩
end PSL
namespace PSL
open Go

theorem findB_cons (b : Int × Tm) (r : Binds) (v : Int) : findB (b :: r) v = if b.1 = v then some b.2 else findB r v := by
  by_cases h : b.1 = v
  · simp [findB, h]
  · have : (b.1 == v) = false := by simpa using h
    simp [findB, this, h]
end PSL
namespace PSL
open Go

/-- What the document's Become answers. -/
def becR (T : Tm) (most deep : Int) : Tm × Int := if decide ((T.size : Int) ≤ most) && decide ((T.depth : Int) ≤ deep) then (T, (T.size : Int)) else (zeroT, 0)

theorem becR_no {T : Tm} {most deep : Int} (h : ¬ ((T.size : Int) ≤ most ∧ (T.depth : Int) ≤ deep)) : becR T most deep = (zeroT, 0) := by
  unfold becR
  rw [if_neg]
  simpa using h

theorem becR_yes {T : Tm} {most deep : Int} (h1 : (T.size : Int) ≤ most) (h2 : (T.depth : Int) ≤ deep) : becR T most deep = (T, (T.size : Int)) := by
  unfold becR
  rw [if_pos (by simp [h1, h2])]
namespace Tm

theorem depth_mem {l : List Tm} {x : Tm} (h : x ∈ l) : depth x ≤ depthL l := by
  induction l with
  | nil => simp at h
  | cons y l ih =>
    simp only [depthL]
    rcases List.mem_cons.1 h with rfl | h
    · omega
    · have := ih h; omega

theorem depthL_le {l : List Tm} {n : Int} (h0 : 0 ≤ n) (h : ∀ x ∈ l, (depth x : Int) ≤ n) : (depthL l : Int) ≤ n := by
  induction l with
  | nil => simpa [depthL] using h0
  | cons y l ih =>
    have h1 := h y (by simp)
    have h2 := ih fun x hx => h x (by simp [hx])
    simp only [depthL]
    omega

theorem sizeL_take (l : List Tm) (k : Nat) : sizeL (l.take k) ≤ sizeL l := by
  have := sizeL_append (l.take k) (l.drop k)
  rw [List.take_append_drop] at this; omega
end Tm
end PSL
namespace PSL
open Go

/-- What the document's Apply answers. -/
def app3 (T : Tm) : Tm × Int := if decide (T.size ≤ 3000) && decide (T.depth ≤ 100) then (T, 0) else (zeroT, 3)

theorem app3_becR (T : Tm) : app3 T = (if (becR T 3000 100).2 = 0 then (zeroT, 3) else ((becR T 3000 100).1, 0)) := by
  have hz := Tm.size_eq T
  unfold app3
  by_cases h : T.size ≤ 3000 ∧ T.depth ≤ 100
  · rw [becR_yes (by omega) (by omega), if_pos (by simp [h.1, h.2]), if_neg (by simp only; omega)]
  · rw [becR_no (by omega), if_neg (by simpa using h), if_pos rfl]
end PSL

namespace PSL
open Go
def rowD (n : Nat) (r : Nat → Bool) : List D := (List.range n).map fun j => .v (.bool (r j))
def tabD (n k : Nat) (c : Nat → Nat → Bool) : List (List D) := (List.range k).map fun i => rowD n (c i)
def hdN (hds : List (Nat × Nat × Nat)) (n : Nat) : List (List D) := hds.map fun x => [D.v (hdV x n)]
theorem rowD_len (n : Nat) (r : Nat → Bool) : (rowD n r).length = n := by simp [rowD]
theorem tabD_len (n k : Nat) (c : Nat → Nat → Bool) : (tabD n k c).length = k := by simp [tabD]
theorem hdN_len (hds : List (Nat × Nat × Nat)) (n : Nat) : (hdN hds n).length = hds.length := by simp [hdN]

theorem rowD_get {n j : Nat} {r : Nat → Bool} (h : j < n) : (rowD n r)[j]? = some (.v (.bool (r j))) := by
  rw [rowD, List.getElem?_map, List.getElem?_range h]; rfl

theorem tabD_get {n k i : Nat} {c : Nat → Nat → Bool} (h : i < k) : (tabD n k c)[i]? = some (rowD n (c i)) := by
  rw [tabD, List.getElem?_map, List.getElem?_range h]; rfl

theorem hdN_get {hds : List (Nat × Nat × Nat)} {n i : Nat} {y : Nat × Nat × Nat} (h : hds[i]? = some y) : (hdN hds n)[i]? = some [.v (hdV y n)] := by
  rw [hdN, List.getElem?_map, h]; rfl
theorem hdN_snoc (hds : List (Nat × Nat × Nat)) (n : Nat) (x : Nat × Nat × Nat) : hdN hds n ++ [[.v (hdV x n)]] = hdN (hds ++ [x]) n := by simp [hdN]
theorem tabD_snoc (n k : Nat) (c : Nat → Nat → Bool) : tabD n k c ++ [rowD n (c k)] = tabD n (k + 1) c := by simp [tabD, List.range_succ]

theorem rowD_congr {n : Nat} {r r' : Nat → Bool} (h : ∀ j < n, r j = r' j) : rowD n r = rowD n r' := by
  unfold rowD; refine List.map_congr_left fun j hj => ?_; rw [h j (by simpa using hj)]
def upd1 (r : Nat → Bool) (p : Nat) (b : Bool) : Nat → Bool := fun j => if j = p then b else r j
def upd2 (c : Nat → Nat → Bool) (p q : Nat) (b : Bool) : Nat → Nat → Bool := fun i => if i = p then upd1 (c i) q b else c i

theorem rowD_set {n : Nat} {r : Nat → Bool} {p : Nat} {b : Bool} : (rowD n r).set p (.v (.bool b)) = rowD n (upd1 r p b) := by
  apply List.ext_getElem?
  intro j
  rw [List.getElem?_set, rowD_len]
  by_cases hj : j < n
  · rw [rowD_get hj, rowD_get hj]
    by_cases e : p = j
    · subst e; simp [hj, upd1]
    · rw [if_neg e, upd1, if_neg (fun h => e (Eq.symm h))]
  · rw [List.getElem?_eq_none (by rw [rowD_len]; omega), List.getElem?_eq_none (by rw [rowD_len]; omega)]
    split
    · rename_i e; subst e; rw [if_neg hj]
    · rfl

theorem rowD_setM {n : Nat} {r : Nat → Bool} {p : Nat} {b : Bool} : ((rowD n r).map fun d => [d]).set p [.v (.bool b)] = (rowD n (upd1 r p b)).map fun d => [d] := by
  rw [← rowD_set, List.map_set]

theorem tabD_set {n k : Nat} {c : Nat → Nat → Bool} {p q : Nat} {b : Bool} : (tabD n k c).set p ((rowD n (c p)).set q (.v (.bool b))) = tabD n k (upd2 c p q b) := by
  rw [rowD_set]
  apply List.ext_getElem?
  intro i
  rw [List.getElem?_set, tabD_len]
  by_cases hi : i < k
  · rw [tabD_get hi, tabD_get hi]
    by_cases e : p = i
    · subst e; simp [hi, upd2]
    · rw [if_neg e, upd2, if_neg (fun h => e (Eq.symm h))]
  · rw [List.getElem?_eq_none (by rw [tabD_len]; omega), List.getElem?_eq_none (by rw [tabD_len]; omega)]
    split
    · rename_i e; subst e; rw [if_neg hi]
    · rfl

theorem rowD_false (n : Nat) : List.replicate n [D.v (.bool false)] = (rowD n fun _ => false).map fun d => [d] := by
  rw [rowD, List.map_map]
  induction n with
  | zero => rfl
  | succ n ih => rw [List.replicate_succ', ih, List.range_succ]; simp

def warsh (C : Nat → Nat → Bool) : Nat → Nat → Nat → Bool
  | 0, i, j => C i j
  | k + 1, i, j => warsh C k i j || (warsh C k i k && warsh C k k j)

theorem warsh_col (C : Nat → Nat → Bool) (k i : Nat) : warsh C (k + 1) i k = warsh C k i k := by
  simp only [warsh]; cases warsh C k i k <;> simp

theorem warsh_row (C : Nat → Nat → Bool) (k j : Nat) : warsh C (k + 1) k j = warsh C k k j := by
  simp only [warsh]; cases warsh C k k j <;> simp

/-- A way of at least one step. -/
inductive Way (C : Nat → Nat → Bool) : Nat → Nat → Prop
  | one {i j : Nat} (h : C i j = true) : Way C i j
  | snoc {i j k : Nat} (h : Way C i j) (h2 : C j k = true) : Way C i k

theorem Way.trans {C : Nat → Nat → Bool} {i j k : Nat} (h : Way C i j) (h2 : Way C j k) : Way C i k := by
  induction h2 with
  | one h3 => exact .snoc h h3
  | snoc _ h3 ih => exact .snoc ih h3

theorem warsh_way (C : Nat → Nat → Bool) : ∀ (k i j : Nat), warsh C k i j = true → Way C i j
  | 0, i, j, h => .one h
  | k + 1, i, j, h => by
    simp only [warsh, Bool.or_eq_true, Bool.and_eq_true] at h
    rcases h with h | ⟨h1, h2⟩
    · exact warsh_way C k i j h
    · exact (warsh_way C k i k h1).trans (warsh_way C k k j h2)

theorem warsh_mono (C : Nat → Nat → Bool) (k i j : Nat) (h : C i j = true) : warsh C k i j = true := by
  induction k with
  | zero => exact h
  | succ k ih => simp [warsh, ih]

theorem warsh_trans (C : Nat → Nat → Bool) : ∀ (k m i j : Nat), m < k → warsh C k i m = true → warsh C k m j = true → warsh C k i j = true
  | 0, m, i, j, h, _, _ => by omega
  | k + 1, m, i, j, h, h1, h2 => by
    have ih := warsh_trans C k
    by_cases e : m = k
    · subst e
      rw [warsh_col] at h1; rw [warsh_row] at h2
      simp [warsh, h1, h2]
    · have hm : m < k := by omega
      simp only [warsh, Bool.or_eq_true, Bool.and_eq_true] at h1 h2 ⊢
      rcases h1 with h1 | ⟨h1, h1'⟩ <;> rcases h2 with h2 | ⟨h2, h2'⟩
      · exact .inl (ih m i j hm h1 h2)
      · exact .inr ⟨ih m i k hm h1 h2, h2'⟩
      · exact .inr ⟨h1, ih m k j hm h1' h2⟩
      · exact .inr ⟨h1, h2'⟩

theorem warsh_full {C : Nat → Nat → Bool} {n : Nat} (hC : ∀ i j, C i j = true → i < n ∧ j < n) {i j : Nat} (h : Way C i j) : warsh C n i j = true := by
  have hj : ∀ {i j : Nat}, Way C i j → j < n := fun h => by
    cases h with
    | one h => exact (hC _ _ h).2
    | snoc _ h => exact (hC _ _ h).2
  induction h with
  | one h => exact warsh_mono C n _ _ h
  | snoc h1 h2 ih => exact warsh_trans C n _ _ _ (hj h1) ih (warsh_mono C n _ _ h2)
def isOpen (st : List Int) (j : Nat) : Prop := st.getD j 0 ≠ 0 ∧ st.getD j 0 ≠ 2
def edge (adj : Nat → List Nat) (i j : Nat) : Bool := (adj i).contains j

theorem open_set {st : List Int} {i j : Nat} {x : Int} (hi : i < st.length) : isOpen (st.set i x) j ↔ (if j = i then x ≠ 0 ∧ x ≠ 2 else isOpen st j) := by
  unfold isOpen
  by_cases e : j = i
  · subst e; rw [List.getD_eq_getElem?_getD, List.getElem?_set_self hi]; simp
  · rw [if_neg e, List.getD_eq_getElem?_getD, List.getElem?_set_ne (fun h => e h.symm), ← List.getD_eq_getElem?_getD]

theorem dfs_full (adj : Nat → List Nat) (n : Nat) (hadj : ∀ i, ∀ k ∈ adj i, k < n) : ∀ (f i : Nat) (st : List Int), st.length = n → i < n → zeros st < f → (∀ j, isOpen st j → Way (edge adj) j i) →
    ((dfsF adj f i st).1 = true ∧ ∀ j, isOpen (dfsF adj f i st).2 j ↔ isOpen st j) ∨ ((dfsF adj f i st).1 = false ∧ ∃ c, Way (edge adj) c c) := by
  intro f
  induction f with
  | zero => intro i st _ _ hz; omega
  | succ f ih =>
    intro i st hl hi hz hop
    simp only [dfsF]
    split
    · rename_i hne
      by_cases h2 : st.getD i 0 = 2
      · left; exact ⟨decide_eq_true h2, fun j => Iff.rfl⟩
      · right; exact ⟨by simp only [decide_eq_false h2], i, hop i ⟨hne, h2⟩⟩
    · rename_i h0
      have h0 : st.getD i 0 = 0 := by simpa using h0
      have hil : i < st.length := by omega
      have hz1 := (zeros_set st i 1 (by omega)).2 hil h0
      have hop1 : ∀ j, isOpen (st.set i 1) j → ∀ k ∈ adj i, Way (edge adj) j k := fun j hj k hk => by
        have he : edge adj i k = true := by simpa [edge] using hk
        rw [open_set hil] at hj
        by_cases e : j = i
        · subst e; exact .one he
        · rw [if_neg e] at hj; exact .snoc (hop j hj) he
      have hL : ∀ (L : List Nat) (st1 : List Int), st1.length = n → zeros st1 < f → (∀ k ∈ L, k ∈ adj i) → (∀ j, isOpen st1 j → ∀ k ∈ adj i, Way (edge adj) j k) →
          ((dfsL (dfsF adj f) L st1).1 = true ∧ ∀ j, isOpen (dfsL (dfsF adj f) L st1).2 j ↔ isOpen st1 j) ∨ ((dfsL (dfsF adj f) L st1).1 = false ∧ ∃ c, Way (edge adj) c c) := by
        intro L
        induction L with
        | nil => intro st1 _ _ _ _; exact .inl ⟨rfl, fun j => Iff.rfl⟩
        | cons k r ihr =>
          intro st1 hl1 hz1 hk hop1
          have hk1 := hk k (by simp)
          have hsh := dfs_shape adj f k st1
          simp only [dfsL]
          rcases ih k st1 hl1 (hadj i k hk1) hz1 (fun j hj => hop1 j hj k hk1) with ⟨h1, h2⟩ | ⟨h1, h2⟩
          · rw [if_pos h1]
            rcases ihr (dfsF adj f k st1).2 (by rw [hsh.1, hl1]) (by omega) (fun x hx => hk x (by simp [hx])) (fun j hj => hop1 j ((h2 j).1 hj)) with ⟨h3, h4⟩ | h3
            · exact .inl ⟨h3, fun j => (h4 j).trans (h2 j)⟩
            · exact .inr h3
          · rw [if_neg (by rw [h1]; simp)]; exact .inr ⟨rfl, h2⟩
      rcases hL (adj i) (st.set i 1) (by simp [hl]) (by omega) (fun _ h => h) hop1 with ⟨h1, h2⟩ | ⟨h1, h2⟩
      · rw [if_pos h1]
        refine .inl ⟨rfl, fun j => ?_⟩
        have hlen : ((dfsL (dfsF adj f) (adj i) (st.set i 1)).2).length = n := by
          have key : ∀ (L : List Nat) (st1 : List Int), st1.length = n → (dfsL (dfsF adj f) L st1).2.length = n := by
            intro L
            induction L with
            | nil => intro st1 h; exact h
            | cons k r ihr =>
              intro st1 h
              have hsh := dfs_shape adj f k st1
              simp only [dfsL]
              split
              · exact ihr _ (by rw [hsh.1, h])
              · rw [hsh.1, h]
          exact key _ _ (by simp [hl])
        rw [open_set (by omega)]
        by_cases e : j = i
        · subst e; rw [if_pos rfl]
          constructor
          · intro h; exact absurd rfl h.2
          · intro h; exact absurd h0 h.1
        · rw [if_neg e, h2 j, open_set hil, if_neg e]
      · rw [if_neg (by rw [h1]; simp)]; exact .inr ⟨rfl, h2⟩

theorem dfsAll_full (adj : Nat → List Nat) (n : Nat) (hadj : ∀ i, ∀ k ∈ adj i, k < n) : ∀ (L : List Nat) (st : List Int), st.length = n → (∀ i ∈ L, i < n) → (∀ j, ¬ isOpen st j) → dfsAll adj n L st = false → ∃ c, Way (edge adj) c c
  | [], st, _, _, _, h => by cases h
  | i :: r, st, hl, hL, hop, h => by
    have hz : zeros st < n + 1 := by have : zeros st ≤ st.length := List.countP_le_length; omega
    have hsh := dfs_shape adj (n + 1) i st
    simp only [dfsAll] at h
    rcases dfs_full adj n hadj (n + 1) i st hl (hL i (by simp)) hz (fun j hj => absurd hj (hop j)) with ⟨h1, h2⟩ | ⟨_, h2⟩
    · rw [if_pos h1] at h
      exact dfsAll_full adj n hadj r _ (by rw [hsh.1, hl]) (fun x hx => hL x (by simp [hx])) (fun j hj => hop j ((h2 j).1 hj)) h
    · exact h2

theorem okn_way {adj : Nat → List Nat} {i j : Nat} (h : Way (edge adj) i j) : ∀ {m : Nat}, Okn adj m i → ∃ q, q < m ∧ Okn adj q j := by
  induction h with
  | one h =>
    intro m ho
    cases ho with
    | @mk q _ ho => exact ⟨q, by omega, ho _ (by simpa [edge] using h)⟩
  | snoc _ h2 ih =>
    intro m ho
    obtain ⟨q, h3, h4⟩ := ih ho
    cases h4 with
    | @mk q' _ ho' => exact ⟨q', by omega, ho' _ (by simpa [edge] using h2)⟩

theorem okn_round {adj : Nat → List Nat} {i : Nat} (h : Way (edge adj) i i) : ∀ {m : Nat}, ¬ Okn adj m i := by
  intro m
  induction m using Nat.strongRecOn with
  | ind m ih => intro ho; obtain ⟨q, h1, h2⟩ := okn_way h ho; exact ih q h1 h2

theorem adjB_lt {B : Binds} {i k : Nat} (h : k ∈ adjB B i) : k < B.length := by
  unfold adjB at h
  split at h
  · simp only [List.mem_filterMap] at h
    obtain ⟨v, _, h2⟩ := h
    split at h2
    · cases h2
    · rename_i hp
      cases h2
      rcases placeB_find B v with ⟨h3, _⟩ | ⟨j, t, h3, h4, _⟩
      · omega
      · rw [h3]; have := (List.getElem?_eq_some_iff.1 h4).1; simpa using this
  · simp at h

theorem adjB_lt' {B : Binds} {i k : Nat} (h : k ∈ adjB B i) : i < B.length := by
  unfold adjB at h
  split at h
  · rename_i b hb; exact (List.getElem?_eq_some_iff.1 hb).1
  · simp at h

/-- Is the bind at a place one that may be? -/
def okAt (B : Binds) (i : Nat) : Bool := match B[i]? with
  | some b => decide (0 ≤ b.1) && decide (b.1 < 1000000) && decide (placeB B b.1 = i) && b.2.rightB
  | none => true
def rightR (B : Binds) : Bool := (List.range B.length).all (okAt B) && (List.range B.length).all fun i => !warsh (edge (adjB B)) B.length i i

theorem findB_nil : ∀ {B : Binds} {v : Int}, findB B v = none → ∀ b ∈ B, b.1 ≠ v
  | [], _, _, b, hb => by simp at hb
  | c :: B, v, h, b, hb => by
    rw [findB_cons] at h
    split at h
    · cases h
    · rename_i hc
      rcases List.mem_cons.1 hb with rfl | hb
      · exact hc
      · exact findB_nil h b hb

theorem nodup_place {B : Binds} : (B.map (·.1)).Nodup ↔ ∀ (i : Nat) (b : Int × Tm), B[i]? = some b → placeB B b.1 = i := by
  constructor
  · intro hn i b hb
    rcases placeB_find B b.1 with ⟨_, h2⟩ | ⟨j, t, h1, h2, _⟩
    · exact absurd rfl (findB_nil h2 b (List.mem_of_getElem? hb))
    · rw [h1]
      have e1 : (B.map (·.1))[i]? = some b.1 := by rw [List.getElem?_map, hb]; rfl
      have e2 : (B.map (·.1))[j]? = some b.1 := by rw [List.getElem?_map, h2]; rfl
      obtain ⟨l1, e1⟩ := List.getElem?_eq_some_iff.1 e1
      obtain ⟨l2, e2⟩ := List.getElem?_eq_some_iff.1 e2
      have := (List.getElem_inj hn).1 (e2.trans e1.symm)
      omega
  · intro h
    have hB : ∀ k, (h : k < B.length) → placeB B (B[k]).1 = k := fun k hk => h k _ (List.getElem?_eq_getElem hk)
    refine List.pairwise_iff_getElem.2 fun i j hi hj hij he => ?_
    simp only [List.getElem_map] at he
    have g1 := hB i (by simpa using hi)
    have g2 := hB j (by simpa using hj)
    rw [he, g2] at g1
    omega

theorem rightR_eq (B : Binds) : rightR B = rightS B := by
  have hadj : ∀ i, ∀ k ∈ adjB B i, k < B.length := fun i k hk => adjB_lt hk
  have hE : ∀ i j, edge (adjB B) i j = true → i < B.length ∧ j < B.length := fun i j h => by
    have h : j ∈ adjB B i := by simpa [edge] using h
    exact ⟨adjB_lt' h, adjB_lt h⟩
  have hA : ((List.range B.length).all fun i => !warsh (edge (adjB B)) B.length i i) = dfsAll (adjB B) B.length (List.range B.length) (List.replicate B.length 0) := by
    have h0 : ∀ j, (List.replicate B.length (0 : Int)).getD j 0 = 0 := fun j => by
      rw [List.getD_eq_getElem?_getD, List.getElem?_replicate]; split <;> rfl
    rw [Bool.eq_iff_iff]
    constructor
    · intro h
      cases hd : dfsAll (adjB B) B.length (List.range B.length) (List.replicate B.length 0) with
      | true => rfl
      | false =>
        obtain ⟨c, hc⟩ := dfsAll_full (adjB B) B.length hadj _ _ (by simp) (by simp) (fun j hj => hj.1 (h0 j)) hd
        have hcl : c < B.length := by
          have key : ∀ {i j : Nat}, Way (edge (adjB B)) i j → j < B.length := fun h => by
            cases h with
            | one h => exact (hE _ _ h).2
            | snoc _ h => exact (hE _ _ h).2
          exact key hc
        have h1 := List.all_eq_true.1 h c (by simpa using hcl)
        rw [warsh_full hE hc] at h1; cases h1
    · intro h
      rw [List.all_eq_true]
      intro i hi
      obtain ⟨m, hm⟩ := dfsAll_sound _ _ (fun j hj => by rw [h0] at hj; cases hj) h i hi
      cases hw : warsh (edge (adjB B)) B.length i i with
      | false => rfl
      | true => exact absurd hm (okn_round (warsh_way _ _ _ _ hw))
  have hF : (List.range B.length).all (okAt B) = (!decide ((ixM (B.map (·.1))).length < B.length) && fineB B) := by
    have hn : (!decide ((ixM (B.map (·.1))).length < B.length)) = true ↔ (B.map (·.1)).Nodup := by
      have := once_len (V := B.map (·.1))
      rw [List.length_map, ← ixM_len] at this
      simp only [Bool.not_eq_true', decide_eq_false_iff_not]
      rw [this]; exact Classical.not_not
    rw [Bool.eq_iff_iff, Bool.and_eq_true, hn, nodup_place, List.all_eq_true, fineB, List.all_eq_true]
    constructor
    · intro h
      have key : ∀ (i : Nat) (b : Int × Tm), B[i]? = some b → (0 ≤ b.1 ∧ b.1 < 1000000) ∧ placeB B b.1 = i ∧ b.2.rightB = true := fun i b hb => by
        have := h i (by simp; exact (List.getElem?_eq_some_iff.1 hb).1)
        rw [okAt, hb] at this
        simp only [Bool.and_eq_true, decide_eq_true_eq] at this
        exact ⟨this.1.1, this.1.2, this.2⟩
      refine ⟨fun i b hb => (key i b hb).2.1, fun b hb => ?_⟩
      obtain ⟨i, hi⟩ := List.mem_iff_getElem?.1 hb
      obtain ⟨h1, _, h3⟩ := key i b hi
      simp [h1.1, h1.2, h3]
    · rintro ⟨h1, h2⟩ i hi
      have hil : i < B.length := by simpa using hi
      have hb : B[i]? = some (B[i]'hil) := List.getElem?_eq_getElem _
      have h3 := h2 _ (List.mem_of_getElem? hb)
      simp only [Bool.and_eq_true, decide_eq_true_eq] at h3
      rw [okAt, hb]
      simp only [Bool.and_eq_true, decide_eq_true_eq]
      exact ⟨⟨h3.1, h1 i _ hb⟩, h3.2⟩
  rw [rightR, hA, hF, rightS]
end PSL

namespace PSL
open Go
def fitF (T : Tm) : Bool := decide (T.size ≤ 3000) && decide (T.depth ≤ 100)
theorem fitF_iff {T : Tm} : fitF T = true ↔ T.size ≤ 3000 ∧ T.depth ≤ 100 := by simp [fitF]
theorem app3_yes {T : Tm} (h : fitF T = true) : app3 T = (T, 0) := by unfold app3; exact if_pos h
theorem app3_no {T : Tm} (h : fitF T = false) : app3 T = (zeroT, 3) := by unfold app3; exact if_neg (by rw [show (decide (T.size ≤ 3000) && decide (T.depth ≤ 100)) = fitF T from rfl, h]; simp)
section
variable {B : Binds} {M : Nat}
end
end PSL
