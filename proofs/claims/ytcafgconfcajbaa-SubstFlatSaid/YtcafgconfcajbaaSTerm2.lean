import Derived.Test.YtcafgconfcajbaaSTerm
namespace Go.Proofs.Ytcafgconfcajbaa
open Go PSL Go.Proofs

def boxT (t : Tm) : Ob := .box [.d (.v (.int .i64 t.k)), .d (.v (.string t.s)), .d (.v (.int .i64 t.n)), .d (.sl (Tm.rows t.l))]

theorem adv_all {Y : YP} (h : ∀ n, Y.go n = true) : ∀ (k n : Nat), adv Y k n = (n + k, true)
  | 0, n => rfl
  | k + 1, n => by simp only [adv, h, if_true]; rw [adv_all h k]; congr 1; omega

theorem els_ys {t : Tm} {i : Nat} {e : Int × Tm} (h : (t.els 1)[i]? = some e) : ((t.els 1).map Tm.enc)[i]? = some (Tm.enc e) := by rw [List.getElem?_map, h]; rfl

theorem els_lt {t : Tm} {i : Nat} {e : Int × Tm} (h : (t.els 1)[i]? = some e) : i < t.size := by rw [← Tm.els_len t 1]; exact (List.getElem?_eq_some_iff.1 h).1
end Go.Proofs.Ytcafgconfcajbaa
