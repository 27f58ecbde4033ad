import Derived.Test.YtcafgconfcajbaaSNumber
import Derived.Test.YtcafgconfcajbaaPlB
import Derived.Test.YtcafgconfcajbaaPlA
namespace Go.Proofs.Ytcafgconfcajbaa
open Go PSL Go.Proofs

theorem namesL_end : ∀ (a b : List UInt8), a = [] ∨ b = [] → namesL a b = numI a.length b.length
  | [], [], _ => rfl
  | [], y :: b, _ => by simp only [namesL, numI, List.length_nil, List.length_cons]; rw [if_pos (by omega)]
  | x :: a, [], _ => by simp only [namesL, numI, List.length_nil, List.length_cons]; rw [if_neg (by omega), if_pos (by omega)]
  | x :: a, y :: b, h => by simp at h

theorem numI_sub (m n k : Int) : numI (m - k) (n - k) = numI m n := by
  unfold numI; repeat' split
  all_goals omega

theorem byte_drop {s : ByteArray} {k : Nat} (h : k < s.size) : s.data.toList.drop k = s[k] :: s.data.toList.drop (k + 1) := by
  rw [List.drop_eq_getElem_cons (by simpa using h)]; rfl
end Go.Proofs.Ytcafgconfcajbaa
