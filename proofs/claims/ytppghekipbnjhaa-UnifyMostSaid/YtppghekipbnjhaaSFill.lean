import Derived.Test.YtppghekipbnjhaaSMatch
import Derived.Test.YtppghekipbnjhaaPlC
import Derived.Test.YtppghekipbnjhaaPlA
namespace Go.Proofs.Ytppghekipbnjhaa
open Go PSL Go.Proofs

theorem sealT_tup2 {nz : Bool} {n0 : Nat} {objs : List Ob} {n : Nat} {x y x' y' : AV} (h1 : sealT nz n0 objs n x = x') (h2 : sealT nz n0 objs n y = y') : sealT nz n0 objs (n + 1) (.tup [x, y]) = .tup [x', y'] := by
  rw [sealT]; simp only [List.map_cons, List.map_nil, h1, h2]

def nilM : AV := .d (.v (.map none))
def okT (ok : Bool) (t : Tm) : Tm := if ok then t else zeroT

theorem findB_size {B : Binds} {n : Int} {p : Tm} (hB : ∀ b ∈ B, b.2.size < 1000000000) (h : findB B n = some p) : p.size < 1000000000 := by
  unfold findB at h
  obtain ⟨z, hz, rfl⟩ := Option.map_eq_some_iff.1 h
  exact hB _ (List.mem_of_find?_eq_some hz)

def tmM (B : Binds) : List (Int × AV) := B.map fun b => (b.1, b.2.av)
theorem getI_tm : ∀ (B : Binds) (n : Int), getI (tmM B) n = (findB B n).map Tm.av
  | [], n => rfl
  | b :: B, n => by
    have ih := getI_tm B n
    by_cases h : b.1 = n
    · simp [tmM, getI, findB, h]
    · simp only [tmM, List.map_cons, getI, findB, List.find?_cons, show (b.1 == n) = false by simpa using h] at ih ⊢
      rw [if_neg h]; exact ih
theorem mapOb_tm {f : AV → AV} (h : ∀ t : Tm, f t.av = t.av) (B : Binds) : mapOb f (.map (imap (tmM B))) = .map (imap (tmM B)) := by
  simp [mapOb, imap, tmM, h]
theorem renOb_tm {f : Nat → Nat} (B : Binds) : renOb f (.map (imap (tmM B))) = .map (imap (tmM B)) := by
  have h := mapOb_tm (f := renA f) (fun t => by simp [Tm.av, renA, renL]) B
  simpa only [mapOb, renOb] using h
theorem putSnoc {B : Binds} {l : List Tm} {k : Nat} {x : Tm} (h : l[k]? = some x) : Tm.rows (Tm.putBL B (l.take k)) ++ [Tm.row (Tm.putB B x)] = Tm.rows (Tm.putBL B (l.take (k + 1))) := by
  rw [List.take_add_one, h, Tm.putBL_map, Tm.putBL_map]; simp [Tm.rows_eq]
end Go.Proofs.Ytppghekipbnjhaa
