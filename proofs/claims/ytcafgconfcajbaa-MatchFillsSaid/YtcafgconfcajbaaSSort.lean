import Derived.Test.YtcafgconfcajbaaSCmp
import Derived.Test.YtcafgconfcajbaaPlB
import Derived.Test.YtcafgconfcajbaaPlA
namespace Go.Proofs.Ytcafgconfcajbaa
open Go PSL Go.Proofs

/-- Terms that a walk bears. -/
def Bear (t : Tm) : Prop := t.size < 1000000000 ∧ ∀ x e, e ∈ t.els x → e.2.s.size < 1000000000

theorem rows_cons' (x : Tm) (l : List Tm) : Tm.rows (x :: l) = Tm.row x :: Tm.rows l := by simp [Tm.rows_eq]
theorem rows_app (a b : List Tm) : Tm.rows a ++ Tm.rows b = Tm.rows (a ++ b) := by simp [Tm.rows_eq]
theorem rows_take (a : List Tm) (n : Nat) : (Tm.rows a).take n = Tm.rows (a.take n) := by simp [Tm.rows_eq, List.map_take]
theorem rows_drop (a : List Tm) (n : Nat) : (Tm.rows a).drop n = Tm.rows (a.drop n) := by simp [Tm.rows_eq, List.map_drop]
theorem rowsz (l : List Tm) : ∀ r ∈ Tm.rows l, r.length = 4 := by
  intro r hr; rw [Tm.rows_eq] at hr; obtain ⟨t, _, rfl⟩ := List.mem_map.1 hr; rfl
theorem rows_snoc (o : List Tm) (x : Tm) : Tm.rows o ++ [[.v (.int .i64 x.k), .v (.string x.s), .v (.int .i64 x.n), .sl (Tm.rows x.l)]] = Tm.rows (o ++ [x]) := by
  cases x; simp [Tm.rows_eq, Tm.row]
theorem rows_one1 (l : List Tm) : ∀ r ∈ Tm.rows l, ∀ x ∈ r, one1 (.d x) = true := by
  intro r hr x hx
  rw [Tm.rows_eq] at hr
  obtain ⟨t, _, rfl⟩ := List.mem_map.1 hr
  simp [Tm.row] at hx
  rcases hx with rfl | rfl | rfl | rfl <;> rfl

/-- What Sort answers. -/
def sortT (l : List Tm) : List Tm × Int := if l.all rightT then (Tm.msort l, 0) else ([], 1)

theorem insR_split {x : Tm} {o : List Tm} {k : Nat} (hk : k < o.length) : Tm.insR x (o.drop k) = if Tm.cmpR o[k] x < 0 then o[k] :: Tm.insR x (o.drop (k + 1)) else if Tm.cmpR o[k] x = 0 then o.drop k else x :: o.drop k := by
  rw [List.drop_eq_getElem_cons hk, Tm.insR]
end Go.Proofs.Ytcafgconfcajbaa
