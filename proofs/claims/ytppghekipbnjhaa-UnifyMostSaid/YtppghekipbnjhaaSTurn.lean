import Derived.Test.YtppghekipbnjhaaSVars
import Derived.Test.YtppghekipbnjhaaPlA
import Derived.Test.YtppghekipbnjhaaPlB
namespace Go.Proofs.Ytppghekipbnjhaa
open Go PSL Go.Proofs

def byObjs (by_ : Int) : List Ob := [.box [iV by_]]
def plObjs (l : List Int) : List Ob := [.box [.mp 1], .map (imap (numM l 0))]

theorem getI_num : ∀ (l : List Int) (n i : Int), 0 ≤ i → getI (numM l i) n = if atI l n i < 0 then none else some (iV (atI l n i))
  | [], n, i, h => rfl
  | x :: l, n, i, h => by
    have ih := getI_num l n (i + 1) (by omega)
    by_cases hx : x = n
    · have e : atI (x :: l) n i = i := by simp [atI, hx]
      rw [e, if_neg (by omega)]; simp [numM, getI, hx]
    · have e : atI (x :: l) n i = atI l n (i + 1) := by simp [atI, hx]
      rw [e, ← ih]; simp [numM, getI, hx]

theorem turn_snoc {l : List Tm} {k : Nat} {x : Tm} {g : Int → Int} (h : l[k]? = some x) : Tm.rows (Tm.turnTL g (l.take k)) ++ [Tm.row (Tm.turnT g x)] = Tm.rows (Tm.turnTL g (l.take (k + 1))) := by
  rw [List.take_add_one, h]
  simp [Tm.turnTL_map, Tm.rows_eq]

set_option maxRecDepth 100000 in
theorem number1_ok (Y : YP) (n : Int) (l : List Int) : SCtr Try.prog Y 64 [iV n, .lo 0 0] (plObjs l) (iV (placeG l n)) (plObjs l) := by
  refine SCtr.of_R (pf := fun _ => .eff) tyOk mixed Try.func64 rfl (by kernel_rfl) (by kernel_rfl) (by simp [Try.ntmps64]) (by simp [plObjs]) fun w S φ hg => ?_
  refine R_run hg.ok 1000 rfl rfl ?_
  refine R_lookupI hg.ok (numM l 0) rfl rfl rfl rfl rfl rfl rfl (zv := .int .i64 0) (by kernel_rfl) (v := iV (placeG l n)) (by rw [getI_num _ _ _ (Int.le_refl _)]; unfold placeG; split <;> rfl) ?_
  refine R_run hg.ok 1000 rfl rfl ?_
  refine R_retS hg 2 5 (Nat.le_refl _) rfl rfl ?_
  show [Ob.box [AV.mp 1], mapOb _ (Ob.map (imap (numM l 0)))] = _
  rw [mapOb_num (fun _ => rfl)]; rfl

set_option maxRecDepth 100000 in
theorem turnedN_ok (Y : YP) (vs : List Int) (t : Tm) : t.size < 1000000000 → SCtr Try.prog Y 63 [t.av, .clo 64 [] [.lo 0 0]] (plObjs vs) (Tm.turnT (placeG vs) t).av (plObjs vs) := by
  induction t using Tm.ind with
  | _ t ih =>
  intro hsz
  have hl := Tm.len_le_sizeL t.l
  have hs := Tm.size_eq t
  refine SCtr.of_R (pf := fun _ => .look 0) tyOk mixed Try.func63 rfl (by kernel_rfl) (by kernel_rfl) (by simp [Try.ntmps63]) (by simp [plObjs]) fun w S φ hg => ?_
  have hφ : φ.length ≤ 2 := Nat.le_of_eq hg.hs0.len
  obtain ⟨n', hn'⟩ : ∃ n', n' = if t.k = 1 then (placeG vs) t.n else t.n := ⟨_, rfl⟩
  refine R_run hg.ok 1000 rfl rfl ?_
  refine R_if rfl rfl (fun h => ?_) (fun h => ?_) <;> refine R_run hg.ok 1000 rfl rfl ?_
  · have hkk : t.k = 1 := by simpa using h
    rw [if_pos hkk] at hn'
    have hc := number1_ok Y t.n vs
    rw [show iV _ = iV n' from congrArg iV hn'.symm] at hc
    refine R_callSO hg.ok hg.gup hg.wide hg.Y [0, 1] (([.box [.mp 1], .map (imap (numM vs 0))] : List Ob) ++ [boxR t, .box [.d (.v (.int .i64 0)), .d (.v (.string ByteArray.empty)), .d (.v (.int .i64 0)), .d (.v (.slice none 0 0))]]) hc (fun _ => rfl) rfl rfl rfl rfl rfl (some2 (renOb_num _ _)) rfl (cong2 (renOb_num _ _)) ?_
    refine R_run hg.ok 1000 rfl rfl ?_
    refine R_obs (([.box [.mp 1], .map (imap (numM vs 0))] : List Ob) ++ [.box [.d (.v (.int .i64 t.k)), .d (.v (.string t.s)), .d (.v (.int .i64 n')), .d (.v (.slice none 0 0))], .box [.d (.v (.int .i64 0)), .d (.v (.string ByteArray.empty)), .d (.v (.int .i64 0)), .d (.v (.slice none 0 0))]]) ?_ rfl ?_
    · exact ⟨ObIn.refl _, ObIn.refl _, ⟨.refl _, .refl _, Ent.int (by first|rfl|exact hn'.symm), .refl _, trivial⟩, ObIn.refl _, trivial⟩
    refine R_ownB 2 3 4 rfl rfl rfl ?_
    refine R_loop (fun k : Nat => ([(1, .clo 64 [] [.lo 0 0]), (2, .lo 2 0), (4, .lo 3 0), (19, .d (.sl (Tm.rows t.l))), (20, iV t.l.length), (21, iV k)], ([.box [.mp 1], .map (imap (numM vs 0))] : List Ob) ++ [.box [.d (.v (.int .i64 t.k)), .d (.v (.string t.s)), .d (.v (.int .i64 n')), .ow 4 k], .box [.d (.v (.int .i64 0)), .d (.v (.string ByteArray.empty)), .d (.v (.int .i64 0)), .d (.v (.slice none 0 0))], .arr 4 k (Tm.rows (Tm.turnTL (placeG vs) (t.l.take k)))]))
      (fun k => k ≤ t.l.length) (fun k => t.l.length - k) 0 (Nat.zero_le _) ⟨.refl _, .refl _, .refl _, .refl _, Ent.int (by rw [Tm.rows_length]), .refl _, trivial⟩ rfl ?_
    intro k hk
    refine R_run hg.ok 1000 rfl rfl ?_
    refine R_if rfl rfl (fun h => ?_) (fun h => ?_) <;> refine R_run hg.ok 1000 rfl rfl ?_
    · have hk1 : k < t.l.length := lt_dec h rfl
      have e1 : t.l[k]? = some t.l[k] := List.getElem?_eq_getElem hk1
      have hm := Tm.size_mem (List.getElem_mem hk1)
      refine R_index hg.ok rfl rfl rfl rfl rfl rfl (Int.natCast_nonneg k) (Tm.rows_get e1) rfl ?_
      refine R_run hg.ok 1000 rfl rfl ?_
      refine R_callL hg.ok hg.gup hg.wide hg.Y [0, 1] (ih _ (List.getElem_mem hk1) (by omega)) (fun _ => rfl) rfl rfl rfl rfl rfl (some2 (renOb_num _ _)) rfl (cong2 (renOb_num _ _)) ?_
      refine R_run hg.ok 1000 rfl rfl ?_
      refine R_appendO hg.ok _ rfl rfl rfl rfl rfl rfl rfl rfl rfl (by simp) (by simp [one1]) (turn_snoc e1) (by rw [Tm.rows_length, Tm.turnTL_map]; simp; omega) (by rw [Tm.rows_length, Tm.turnTL_map]; simp; omega) ?_
      refine R_run hg.ok 1000 rfl rfl ?_
      refine R_dropO 5 _ (by show φ.length ≤ _; omega) rfl (cong2 (mapOb_num (fun _ => rfl) _ _)) ?_
      exact R_next (k + 1) hk1 (by omega) ⟨.refl _, .refl _, .refl _, .refl _, .refl _, Ent.wrap (by omega) (by omega) (by omega), trivial⟩ rfl
    · have hk1 : t.l.length ≤ k := ge_dec h rfl
      refine R_retS hg 2 5 (Nat.le_refl _) rfl ((sealT_term rfl rfl rfl rfl rfl).trans ?_) (cong2 (mapOb_num (fun _ => rfl) _ _))
      rw [List.take_of_length_le hk1, Tm.turnT_eq, if_pos hkk]; subst hn'; rfl
  · have hkk : ¬ t.k = 1 := by simpa using h
    rw [if_neg hkk] at hn'
    refine R_obs (([.box [.mp 1], .map (imap (numM vs 0))] : List Ob) ++ [.box [.d (.v (.int .i64 t.k)), .d (.v (.string t.s)), .d (.v (.int .i64 n')), .d (.v (.slice none 0 0))], .box [.d (.v (.int .i64 0)), .d (.v (.string ByteArray.empty)), .d (.v (.int .i64 0)), .d (.v (.slice none 0 0))]]) ?_ rfl ?_
    · exact ⟨ObIn.refl _, ObIn.refl _, ⟨.refl _, .refl _, Ent.int (by first|rfl|exact hn'.symm), .refl _, trivial⟩, ObIn.refl _, trivial⟩
    refine R_ownB 2 3 4 rfl rfl rfl ?_
    refine R_loop (fun k : Nat => ([(1, .clo 64 [] [.lo 0 0]), (2, .lo 2 0), (4, .lo 3 0), (19, .d (.sl (Tm.rows t.l))), (20, iV t.l.length), (21, iV k)], ([.box [.mp 1], .map (imap (numM vs 0))] : List Ob) ++ [.box [.d (.v (.int .i64 t.k)), .d (.v (.string t.s)), .d (.v (.int .i64 n')), .ow 4 k], .box [.d (.v (.int .i64 0)), .d (.v (.string ByteArray.empty)), .d (.v (.int .i64 0)), .d (.v (.slice none 0 0))], .arr 4 k (Tm.rows (Tm.turnTL (placeG vs) (t.l.take k)))]))
      (fun k => k ≤ t.l.length) (fun k => t.l.length - k) 0 (Nat.zero_le _) ⟨.refl _, .refl _, .refl _, .refl _, Ent.int (by rw [Tm.rows_length]), .refl _, trivial⟩ rfl ?_
    intro k hk
    refine R_run hg.ok 1000 rfl rfl ?_
    refine R_if rfl rfl (fun h => ?_) (fun h => ?_) <;> refine R_run hg.ok 1000 rfl rfl ?_
    · have hk1 : k < t.l.length := lt_dec h rfl
      have e1 : t.l[k]? = some t.l[k] := List.getElem?_eq_getElem hk1
      have hm := Tm.size_mem (List.getElem_mem hk1)
      refine R_index hg.ok rfl rfl rfl rfl rfl rfl (Int.natCast_nonneg k) (Tm.rows_get e1) rfl ?_
      refine R_run hg.ok 1000 rfl rfl ?_
      refine R_callL hg.ok hg.gup hg.wide hg.Y [0, 1] (ih _ (List.getElem_mem hk1) (by omega)) (fun _ => rfl) rfl rfl rfl rfl rfl (some2 (renOb_num _ _)) rfl (cong2 (renOb_num _ _)) ?_
      refine R_run hg.ok 1000 rfl rfl ?_
      refine R_appendO hg.ok _ rfl rfl rfl rfl rfl rfl rfl rfl rfl (by simp) (by simp [one1]) (turn_snoc e1) (by rw [Tm.rows_length, Tm.turnTL_map]; simp; omega) (by rw [Tm.rows_length, Tm.turnTL_map]; simp; omega) ?_
      refine R_run hg.ok 1000 rfl rfl ?_
      refine R_dropO 5 _ (by show φ.length ≤ _; omega) rfl (cong2 (mapOb_num (fun _ => rfl) _ _)) ?_
      exact R_next (k + 1) hk1 (by omega) ⟨.refl _, .refl _, .refl _, .refl _, .refl _, Ent.wrap (by omega) (by omega) (by omega), trivial⟩ rfl
    · have hk1 : t.l.length ≤ k := ge_dec h rfl
      refine R_retS hg 2 5 (Nat.le_refl _) rfl ((sealT_term rfl rfl rfl rfl rfl).trans ?_) (cong2 (mapOb_num (fun _ => rfl) _ _))
      rw [List.take_of_length_le hk1, Tm.turnT_eq, if_neg hkk]; subst hn'; rfl

end Go.Proofs.Ytppghekipbnjhaa
