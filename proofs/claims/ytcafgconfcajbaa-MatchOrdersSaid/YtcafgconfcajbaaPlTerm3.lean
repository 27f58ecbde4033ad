import Derived.Test.YtcafgconfcajbaaPlTerm2
namespace PSL
open Go

def byteOk (b : UInt8) : Bool := !(decide ((b.toNat : Int) < 32) || decide ((b.toNat : Int) > 126))
def namedB (s : ByteArray) : Bool := s.data.toList.all byteOk && (decide ((s.size : Int) ≥ 1) && decide ((s.size : Int) ≤ 20))

theorem byte_at {s : ByteArray} {k : Nat} (h : k < s.size) : s[k]? = some s[k] := getElem?_pos s k h

theorem all_bytes {s : ByteArray} {p : UInt8 → Bool} (h : ∀ k (hk : k < s.size), p s[k] = true) : s.data.toList.all p = true := by
  rw [List.all_eq_true]
  intro b hb
  obtain ⟨i, hi, rfl⟩ := List.mem_iff_getElem.1 hb
  have : i < s.size := by simpa using hi
  exact h i this

theorem not_all_bytes {s : ByteArray} {p : UInt8 → Bool} {k : Nat} (hk : k < s.size) (h : p s[k] = false) : s.data.toList.all p = false := by
  rw [List.all_eq_false]
  refine ⟨s[k], ?_, by simp [h]⟩
  have : s[k] = s.data.toList[k]'(by simpa using hk) := rfl
  rw [this]; exact List.getElem_mem _

namespace Tm
def ownT (t : Tm) : Bool :=
  if t.k = 1 then decide (t.n ≥ 0) && decide (t.n < 1000000) && strEq t.s ⟨#[]⟩ && ((t.l.length : Int) == 0)
  else if t.k = 2 then strEq t.s ⟨#[]⟩ && ((t.l.length : Int) == 0)
  else if t.k = 3 then (t.n == 0) && namedB t.s && decide ((t.l.length : Int) ≤ 8)
  else false
end Tm
end PSL
