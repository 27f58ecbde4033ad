import Derived.Test.YtppghekipbnjhaaSTurn
import Derived.Test.YtppghekipbnjhaaPlB
namespace Go.Proofs.Ytppghekipbnjhaa
open Go PSL Go.Proofs

theorem varsT_one_len (t : Tm) : (varsT [t]).length ≤ t.size := by
  have := varsF_len [t] []
  simpa [varsF, varsT, Tm.sizeL] using this

theorem addV_nodup {l : List Int} {x : Int} (h : l.Nodup) : (addV l x).Nodup := by
  unfold addV
  split
  · exact h
  · rename_i hc
    rw [List.nodup_append]
    refine ⟨h, by simp, fun a ha b hb => ?_⟩
    simp at hb; subst hb
    rintro rfl
    exact hc (by simpa using ha)
theorem foldl_nodup : ∀ (l : List (Int × Tm)) (a : List Int), a.Nodup → (l.foldl stepV a).Nodup
  | [], a, h => h
  | e :: l, a, h => by
    refine foldl_nodup l _ ?_
    unfold stepV; split
    · exact addV_nodup h
    · exact h
theorem varsF_nodup : ∀ (l : List Tm) (a : List Int), a.Nodup → (varsF a l).Nodup
  | [], a, h => h
  | t :: l, a, h => varsF_nodup l _ (foldl_nodup _ _ h)
theorem varsT_nodup (l : List Tm) : (varsT l).Nodup := varsF_nodup l [] (by simp)

theorem take_not_mem {l : List Int} (h : l.Nodup) {k : Nat} (hk : k < l.length) : l[k] ∉ l.take k := by
  intro hm
  obtain ⟨i, hi, e⟩ := List.mem_iff_getElem.1 hm
  rw [List.length_take] at hi
  rw [List.getElem_take] at e
  have := (List.nodup_iff_pairwise_ne.1 h)
  rw [List.pairwise_iff_getElem] at this
  exact this i k (by omega) hk (by omega) e
end Go.Proofs.Ytppghekipbnjhaa
