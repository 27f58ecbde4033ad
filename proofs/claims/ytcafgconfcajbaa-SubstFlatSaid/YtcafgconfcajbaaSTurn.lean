import Derived.Test.YtcafgconfcajbaaSVars
import Derived.Test.YtcafgconfcajbaaPlA
import Derived.Test.YtcafgconfcajbaaPlB
namespace Go.Proofs.Ytcafgconfcajbaa
open Go PSL Go.Proofs

def byObjs (by_ : Int) : List Ob := [.box [iV by_]]
def plObjs (l : List Int) : List Ob := [.box [.mp 1], .map (imap (numM l 0))]

theorem getI_num : ∀ (l : List Int) (n i : Int), 0 ≤ i → getI (numM l i) n = if atI l n i < 0 then none else some (iV (atI l n i))
  | [], n, i, h => rfl
  | x :: l, n, i, h => by
    have ih := getI_num l n (i + 1) (by omega)
    by_cases hx : x = n
    · have e : atI (x :: l) n i = i := by simp [atI, hx]
      rw [e, if_neg (by omega)]; simp [numM, getI, hx]
    · have e : atI (x :: l) n i = atI l n (i + 1) := by simp [atI, hx]
      rw [e, ← ih]; simp [numM, getI, hx]

theorem turn_snoc {l : List Tm} {k : Nat} {x : Tm} {g : Int → Int} (h : l[k]? = some x) : Tm.rows (Tm.turnTL g (l.take k)) ++ [Tm.row (Tm.turnT g x)] = Tm.rows (Tm.turnTL g (l.take (k + 1))) := by
  rw [List.take_add_one, h]
  simp [Tm.turnTL_map, Tm.rows_eq]

end Go.Proofs.Ytcafgconfcajbaa
