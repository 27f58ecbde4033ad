import Derived.Test.YthdpfglpdgmphaaGreatM4
import Derived.Test.YthdpfglpdgmphaaGreatPslB
namespace Go.Proofs.YthdpfglpdgmphaaGreat
open Go PSL Go.Proofs
theorem csRows_snoc (l : List Cs) (c : Cs) : Cs.rows l ++ [c.row] = Cs.rows (l ++ [c]) := by simp [Cs.rows]
def csB (x : Cs) : Ob := .box [.d (.v (.int .i64 x.head.k)), .d (.v (.string x.head.s)), .d (.v (.int .i64 x.head.n)), .d (.sl (Tm.rows x.head.l)), .d (.sl (Gl.rows x.body)), .d (.v (.int .i64 x.vars))]
theorem smT_right {t : Tm} (h : t.rightB = true) : SmT t := ⟨by have := (Tm.rightB_iff.1 h).2.1; omega, fun x e he => fair_names (right_fair h) x e he⟩
def clB (x : Clau) : Ob := .box [.d (.v (.int .i64 x.1.k)), .d (.v (.string x.1.s)), .d (.v (.int .i64 x.1.n)), .d (.sl (Tm.rows x.1.l)), .d (.sl (strRows x.2))]
def loadE (x : Clau) : Int := if sgOf x.1 = sgR then (goalsT (argT x.1 1)).2 else 0

theorem loadE_own (x : Clau) : (loadOne x).2 = if ownB (loadOne x).1.head = true then loadE x else 5 := by
 unfold loadOne loadE
 split <;> rfl

theorem loadOne_sm {x : Clau} (hx : ClG x) (hc : noCh x.1 = true) : SmC (loadOne x).1 := by
 have hs := smT_right hx.right
 have h3 := (Tm.rightB_iff.1 hx.right).2.1
 unfold loadOne
 by_cases h : sgOf x.1 = sgR
 ·rw [if_pos h]
  have hl : x.1.l.length = 2 := sg_len (n := 2) h
  have h1 : SmT (argT x.1 1) := hs.arg (by omega)
  have h2 := size_arg (t := x.1) (i := 1) (by omega)
  obtain ⟨g1, g2, _⟩ := golF_ok (argT x.1 1).size (argT x.1 1) (20, 0) 1 true h1
  refine ⟨hs.arg (by omega), ?_, ?_⟩
  ·simp only [goalsT]
   split
   ·split
    ·simp only [allGL]
    ·exact g1
   ·simp only [allGL]
  ·simp only [goalsT]
   split
   ·split
    ·simp [Gl.sizeL]
    ·simp only; omega
   ·simp [Gl.sizeL]
 ·rw [if_neg h]
  exact ⟨hs, by simp only [allGL], by simp [Gl.sizeL]⟩

set_option maxHeartbeats 4000000 in
set_option maxRecDepth 100000 in
theorem load_ok (S0 : Bs) (hS : S0.length ≤ 9000) {c : List Clau} {a e : Int} (h : clauR rightT false S0 = some (c, a, e)) (hc : ∀ x ∈ c, noCh x.1 = true) : PCtr Tryz.prog 26 [txA S0] (if e ≠ 0 then .tup [prV [], iV a, iV e] else .tup [prV (loadL c 0 []).1, iV (loadL c 0 []).2.1, iV (loadL c 0 []).2.2]) := by
 obtain ⟨_, f2, _, _⟩ := clau_facts hS h
 have hct := clau_count h
 have hrl := clRows_len c
 refine PCtr.of_R (pf := fun _ => .eff) tyOk mixed Tryz.func26 rfl (by kernel_rfl) (by kernel_rfl) (by simp [Tryz.ntmps26]) fun w S hg => ?_
 refine R_run hg.ok 1000 rfl rfl ?_
 refine R_call hg.ok (clausesT_ok S0 hS h) rfl rfl rfl rfl rfl rfl ?_
 refine R_run hg.ok 1000 rfl rfl ?_
 by_cases he : e ≠ 0
 ·rw [if_pos he]
  refine R_if rfl rfl (fun _ => ?_) (fun h => absurd h (by simp [he])) <;> refine R_run hg.ok 1000 rfl rfl ?_
  refine R_ret hg 5 rfl rfl ?_
  rfl
 rw [if_neg he]
 have he : e = 0 := Decidable.not_not.1 he
 subst he
 obtain ⟨_, hcn⟩ := f2 rfl
 refine R_if rfl rfl (fun h => absurd h (by simp)) (fun _ => ?_) <;> refine R_run hg.ok 1000 rfl rfl ?_
 refine R_ownB 1 0 6 rfl rfl rfl ?_
 refine R_loop (fun x : Nat × Nat × List Cs => ([(2, .lo 0 0), (8, .lo 1 0), (26, .d (.sl (clRows c))), (27, iV c.length), (28, iV x.1)], [.box [.d (.v (.slice none 0 0))], .box [.ow 2 x.2.1], .arr 6 x.2.1 (Cs.rows x.2.2)])) (fun x => x.1 ≤ c.length ∧ loadL c 0 [] = loadL (c.drop x.1) x.1 x.2.2 ∧ x.2.2.length ≤ x.1 ∧ ∀ y ∈ x.2.2, SmC y) (fun x => c.length - x.1) (0, 0, []) ⟨Nat.zero_le _, rfl, Nat.le_refl _, by simp⟩ ⟨.refl _, .refl _, .refl _, by rw [hrl]; exact .refl _, .refl _, trivial⟩ rfl ?_
 rintro ⟨k, s, out⟩ ⟨hk, hm, hol, hsm⟩
 have hm : loadL c 0 [] = loadL (c.drop k) k out := hm
 have hk : k ≤ c.length := hk
 have hol : out.length ≤ k := hol
 have hro := Cs.rows_len out
 refine R_run hg.ok 1000 rfl rfl ?_
 refine R_if rfl rfl (fun h => ?_) (fun h => ?_)
 ·refine R_run hg.ok 1000 rfl rfl ?_
  have hk1 : k < c.length := lt_dec h rfl
  have e1 : c[k]? = some c[k] := List.getElem?_eq_getElem hk1
  have hmem := List.getElem_mem hk1
  rw [List.drop_eq_getElem_cons hk1] at hm
  generalize c[k] = x at e1 hm hmem
  have hx := hcn x hmem
  have hnc := hc x hmem
  have hs := smT_right hx.right
  have hsm1 := loadOne_sm hx hnc
  simp only [loadL] at hm
  refine R_index hg.ok rfl rfl rfl rfl rfl rfl (Int.natCast_nonneg _) (clRows_get e1) rfl ?_
  refine R_run hg.ok 1000 rfl rfl ?_
  refine R_call hg.ok (signOf_ok x.1) rfl rfl rfl rfl rfl rfl ?_
  refine R_run hg.ok 1000 rfl rfl ?_
  refine R_eqK hg.ok (sgOf x.1) sgR signCmp rfl rfl rfl rfl ?_
  refine R_run hg.ok 1000 rfl rfl ?_
  refine R_cut1 (fun _ : Unit => ([(2, .lo 0 0), (8, .lo 1 0), (9, iV k), (11, .lo 4 0), (12, iV (loadE x)), (26, .d (.sl (clRows c))), (27, iV c.length), (28, iV k)], [.box [.d (.v (.slice none 0 0))], .box [.ow 2 s], .arr 6 s (Cs.rows out), clB x, csB (loadOne x).1])) (fun _ => True) rfl ?_ ?_
  ·by_cases hq : sgOf x.1 = sgR
   ·have hl : x.1.l.length = 2 := sg_len (n := 2) hq
    have hl0 : 0 < x.1.l.length := by omega
    have hl1 : 1 < x.1.l.length := by omega
    rw [show loadE x = (goalsT (argT x.1 1)).2 by unfold loadE; rw [if_pos hq], show (loadOne x).1 = ⟨argT x.1 0, (goalsT (argT x.1 1)).1, x.2.length⟩ by unfold loadOne; rw [if_pos hq]]
    refine R_if rfl rfl (fun _ => ?_) (fun h => absurd h (by simp [hq])) <;> refine R_run hg.ok 1000 rfl rfl ?_
    refine R_index hg.ok rfl rfl rfl rfl rfl rfl (by decide) (Tm.rows_get (i := 0) (argT_get hl0)) rfl ?_
    refine R_run hg.ok 1000 rfl rfl ?_
    refine R_index hg.ok rfl rfl rfl rfl rfl rfl (by decide) (Tm.rows_get (i := 1) (argT_get hl1)) rfl ?_
    refine R_run hg.ok 1000 rfl rfl ?_
    refine R_call hg.ok (goals_ok (argT x.1 1) (hs.arg hl1) (noCh_arg hnc hl1)) rfl rfl rfl rfl rfl rfl ?_
    refine R_run hg.ok 1000 rfl rfl ?_
    rw [strRows_len]
    exact R_to () trivial ⟨.refl _, .refl _, .refl _, .refl _, .refl _, .refl _, .refl _, .refl _, trivial⟩ rfl
   ·rw [show loadE x = 0 by unfold loadE; rw [if_neg hq], show (loadOne x).1 = ⟨x.1, [], x.2.length⟩ by unfold loadOne; rw [if_neg hq]]
    refine R_if rfl rfl (fun h => absurd h (by simp [hq])) (fun _ => ?_) <;> refine R_run hg.ok 1000 rfl rfl ?_
    rw [strRows_len]
    refine R_obs [.box [.d (.v (.slice none 0 0))], .box [.ow 2 s], .arr 6 s (Cs.rows out), clB x, csB ⟨x.1, [], x.2.length⟩] (show ObsIn [.box [.d (.v (.slice none 0 0))], .box [.ow 2 s], .arr 6 s (Cs.rows out), clB x, .box [.d (.v (.int .i64 x.1.k)), .d (.v (.string x.1.s)), .d (.v (.int .i64 x.1.n)), .d (.sl (Tm.rows x.1.l)), .d (.v (.slice none 0 0)), .d (.v (.int .i64 x.2.length))]] _ from ⟨⟨.refl _, trivial⟩, ⟨.refl _, trivial⟩, rfl, ⟨.refl _, .refl _, .refl _, .refl _, .refl _, trivial⟩, ⟨.refl _, .refl _, .refl _, .refl _, Ent.nrm _, .refl _, trivial⟩, trivial⟩) rfl ?_
    exact R_to () trivial ⟨.refl _, .refl _, .refl _, .refl _, .refl _, .refl _, .refl _, .refl _, trivial⟩ rfl
  rintro _ _
  refine R_run hg.ok 1000 rfl rfl ?_
  have hown := loadE_own x
  cases ho : ownB (loadOne x).1.head with
  | false =>
   have hc1 := own_ok11 (loadOne x).1.head
   rw [ho] at hc1 hown
   rw [if_neg (by simp)] at hown
   rw [hown, if_pos (by decide)] at hm
   refine R_call hg.ok (hc1) rfl rfl rfl rfl rfl rfl ?_
   refine R_run hg.ok 1000 rfl rfl ?_
   refine R_if rfl rfl (fun _ => ?_) (fun h => absurd h (by simp)) <;> refine R_run hg.ok 1000 rfl rfl ?_
   refine R_if rfl rfl (fun _ => ?_) (fun h => absurd h (by simp)) <;> refine R_run hg.ok 1000 rfl rfl ?_
   refine R_ret hg 5 rfl rfl ?_
   rw [hm]; rfl
  | true =>
   have hc1 := own_ok11 (loadOne x).1.head
   rw [ho] at hc1 hown
   rw [if_pos rfl] at hown
   rw [hown] at hm
   refine R_call hg.ok (hc1) rfl rfl rfl rfl rfl rfl ?_
   refine R_run hg.ok 1000 rfl rfl ?_
   refine R_if rfl rfl (fun h => absurd h (by simp)) (fun _ => ?_) <;> refine R_run hg.ok 1000 rfl rfl ?_
   by_cases hle : loadE x ≠ 0
   ·rw [if_pos hle] at hm
    refine R_if rfl rfl (fun _ => ?_) (fun h => absurd h (by simp [hle])) <;> refine R_run hg.ok 1000 rfl rfl ?_
    refine R_ret hg 5 rfl rfl ?_
    rw [hm]; rfl
   ·rw [if_neg hle] at hm
    refine R_if rfl rfl (fun h => absurd h (by simp at hle; simp [hle])) (fun _ => ?_) <;> refine R_run hg.ok 1000 rfl rfl ?_
    refine R_appendO hg.ok (Cs.rows (out ++ [(loadOne x).1])) rfl rfl rfl rfl rfl rfl rfl rfl rfl (by simp) (by simp [one1]) (csRows_snoc _ _) (by rw [hro]; simp; omega) (by rw [hro]; simp; omega) ?_
    refine R_run hg.ok 1000 rfl rfl ?_
    refine R_dropO 3 [.box [.d (.v (.slice none 0 0))], .box [.ow 2 (Nat.succ s)], .arr 6 (Nat.succ s) (Cs.rows (out ++ [(loadOne x).1]))] (Nat.zero_le _) rfl rfl ?_
    exact R_next (k + 1, Nat.succ s, out ++ [(loadOne x).1]) ⟨hk1, hm, by simp only [List.length_append, List.length_singleton]; omega, fun y hy => (List.mem_append.1 hy).elim (hsm y) (fun h => by rw [List.mem_singleton.1 h]; exact hsm1)⟩ (by simp only; omega) ⟨.refl _, .refl _, .refl _, .refl _, Ent.wrap (by simp only; omega) (by simp only; omega) (by simp only; omega), trivial⟩ rfl
 ·have hk1 : c.length ≤ k := ge_dec h rfl
  rw [List.drop_eq_nil_of_le hk1] at hm
  simp only [loadL] at hm
  refine R_freezeO hg.gup 2 [(2, .lo 0 0), (8, .lo 1 0), (29, .ff)] [.box [.d (.v (.slice none 0 0))], .box [.d (.sl (Cs.rows out))], .dead] rfl rfl ⟨.refl _, .refl _, .refl _, trivial⟩ ⟨⟨.refl _, trivial⟩, ⟨Ent.frz 2 s _, trivial⟩, trivial, trivial⟩ ?_
  refine R_run hg.ok 1000 rfl rfl ?_
  refine R_call hg.ok (check_ok out hsm) rfl rfl rfl rfl rfl rfl ?_
  refine R_run hg.ok 1000 rfl rfl ?_
  by_cases hce : (checkR out).2 ≠ 0
  ·rw [if_pos hce] at hm
   refine R_if rfl rfl (fun _ => ?_) (fun h => absurd h (by simp [hce])) <;> refine R_run hg.ok 1000 rfl rfl ?_
   refine R_ret hg 5 rfl rfl ?_
   rw [hm]; rfl
  ·rw [if_neg hce] at hm
   refine R_if rfl rfl (fun h => absurd h (by simp at hce; simp [hce])) (fun _ => ?_) <;> refine R_run hg.ok 1000 rfl rfl ?_
   refine R_ret hg 5 rfl rfl ?_
   rw [hm]; rfl
end Go.Proofs.YthdpfglpdgmphaaGreat

namespace Go.Proofs.YthdpfglpdgmphaaGreat
open Go PSL Go.Proofs
end Go.Proofs.YthdpfglpdgmphaaGreat

namespace Go.Proofs.YthdpfglpdgmphaaGreat
open Go PSL Go.Proofs
end Go.Proofs.YthdpfglpdgmphaaGreat

namespace PSL
open Go

mutual
def calls1 : Gl → List Tm
 | .mk k t a b c => (if k = 1 then [t] else []) ++ callsT a ++ callsT b ++ callsT c
def callsT : List Gl → List Tm
 | [] => []
 | g :: r => calls1 g ++ callsT r
end
theorem calls1_eq (g : Gl) : calls1 g = (if g.k = 1 then [g.t] else []) ++ callsT g.a ++ callsT g.b ++ callsT g.c := by cases g; rw [calls1]; rfl

theorem callsT_len (l : List Gl) : (callsT l).length ≤ Gl.sizeL l := by
 refine Gl.indL (p := fun l => (callsT l).length ≤ Gl.sizeL l) (fun l => ?_) l
 intro hsub
 induction l with
 | nil => simp [callsT]
 | cons g r ih =>
  obtain ⟨h1, h2, h3⟩ := hsub g (by simp)
  have ih := ih fun x hx => hsub x (by simp [hx])
  simp only [callsT, Gl.sizeL, List.length_append, calls1_eq]
  rw [Gl.size_eq]
  have := Gl.tmPos g.t
  split <;> simp only [List.length_singleton, List.length_nil] <;> omega
def callsS (l : List Gl) : List Sg := (callsT l).map sgOf

inductive Rch (l : List Cs) (roots : List Sg) : Sg → Prop
 | root {p : Sg} : p ∈ roots → Rch l roots p
 | step {c : Cs} {p : Sg} : c ∈ l → Rch l roots (sgOf c.head) → p ∈ callsS c.body → Rch l roots p
theorem hasS_iff {ks : List Sg} {p : Sg} : hasS ks p = true ↔ p ∈ ks := by unfold hasS; simp

theorem mem_addS {ks : List Sg} {p q : Sg} : q ∈ addS ks p ↔ q ∈ ks ∨ q = p := by
 have h := addS_mem ks p q
 rw [← hasS_iff, h, Bool.or_eq_true, hasS_iff, decide_eq_true_eq]
 exact or_congr_right eq_comm

def pushes (l : List Cs) (r : Sg) : List Sg := match l with
 | [] => []
 | c :: l => (if sgOf c.head = r then callsS c.body else []) ++ pushes l r

theorem mem_pushes {l : List Cs} {r p : Sg} : p ∈ pushes l r ↔ ∃ c ∈ l, sgOf c.head = r ∧ p ∈ callsS c.body := by
 induction l with
 | nil => simp [pushes]
 | cons c l ih =>
  simp only [pushes, List.mem_append, ih, List.mem_cons]
  constructor
  ·rintro (h | ⟨d, h1, h2⟩)
   ·split at h
    ·rename_i e; exact ⟨c, .inl rfl, e, h⟩
    ·cases h
   ·exact ⟨d, .inr h1, h2⟩
  ·rintro ⟨d, rfl | h1, h2, h3⟩
   ·left; rw [if_pos h2]; exact h3
   ·exact .inr ⟨d, h1, h2, h3⟩

def cost (met : List Sg) : List Cs → Nat
 | [] => 0
 | c :: l => (if hasS met (sgOf c.head) then 0 else (callsS c.body).length) + cost met l

theorem cost_add (met : List Sg) (r : Sg) (h : hasS met r = false) : ∀ (l : List Cs), cost (addS met r) l + (pushes l r).length = cost met l
 | [] => rfl
 | c :: l => by
  have ih := cost_add met r h l
  simp only [cost, pushes, List.length_append]
  by_cases e : sgOf c.head = r
  ·rw [if_pos e]
   have h1 : hasS (addS met r) (sgOf c.head) = true := by rw [hasS_iff, mem_addS]; exact .inr e
   have h2 : hasS met (sgOf c.head) = false := by rw [e]; exact h
   rw [if_pos h1, if_neg (by rw [h2]; simp)]
   omega
  ·rw [if_neg e]
   have h1 : hasS (addS met r) (sgOf c.head) = hasS met (sgOf c.head) := by
    rw [addS_mem, decide_eq_false (fun h => e h.symm), Bool.or_false]
   rw [h1]
   simp only [List.length_nil]
   omega

def reachG (l : List Cs) : Nat → List Sg → List Sg → List Sg
 | 0, _, met => met
 | n + 1, todo, met => match todo.getLast? with
  | none => met
  | some r => if hasS met r then reachG l n todo.dropLast met else reachG l n (todo.dropLast ++ pushes l r) (addS met r)

theorem reachG_fuel (l : List Cs) : ∀ (n m : Nat) (todo met : List Sg), todo.length + cost met l < n → todo.length + cost met l < m → reachG l n todo met = reachG l m todo met
 | 0, _, _, _, h, _ => by omega
 | n + 1, 0, _, _, _, h => by omega
 | n + 1, m + 1, todo, met, h1, h2 => by
  simp only [reachG]
  cases ht : todo.getLast? with
  | none => rfl
  | some r =>
   have hne : todo ≠ [] := fun e => by subst e; cases ht
   have hl : todo.dropLast.length = todo.length - 1 := List.length_dropLast
   have hp : 0 < todo.length := List.length_pos_iff.2 hne
   simp only
   split
   ·exact reachG_fuel l n m _ _ (by omega) (by omega)
   ·rename_i hm
    have := cost_add met r (by simpa using hm) l
    exact reachG_fuel l n m _ _ (by rw [List.length_append]; omega) (by rw [List.length_append]; omega)

theorem reachG_ok (l : List Cs) (roots : List Sg) : ∀ (n : Nat) (todo met : List Sg), todo.length + cost met l < n → (∀ p ∈ todo, Rch l roots p) → (∀ p ∈ met, Rch l roots p) → (∀ p ∈ roots, p ∈ met ∨ p ∈ todo) → (∀ c ∈ l, sgOf c.head ∈ met → ∀ p ∈ callsS c.body, p ∈ met ∨ p ∈ todo) → ∀ p, p ∈ reachG l n todo met ↔ Rch l roots p
 | 0, _, _, h, _, _, _, _ => by omega
 | n + 1, todo, met, h, ht, hm, hr, hc => by
  simp only [reachG]
  cases hg : todo.getLast? with
  | none =>
   have hnil : todo = [] := by simpa using hg
   subst hnil
   intro p
   simp only
   refine ⟨hm p, fun h => ?_⟩
   induction h with
   | root h => exact (hr _ h).resolve_right (by simp)
   | step h1 _ h3 ih => exact (hc _ h1 ih _ h3).resolve_right (by simp)
  | some r =>
   have hne : todo ≠ [] := fun e => by subst e; cases hg
   have hlen : 0 < todo.length := List.length_pos_iff.2 hne
   have hdl : todo.dropLast.length = todo.length - 1 := List.length_dropLast
   have hsplit : todo = todo.dropLast ++ [r] := by
    have h1 := List.dropLast_concat_getLast hne
    rw [List.getLast?_eq_some_getLast hne] at hg
    rw [Option.some.inj hg] at h1
    exact h1.symm
   have hmem : ∀ p, p ∈ todo ↔ p ∈ todo.dropLast ∨ p = r := fun p => by
    rw [hsplit]; simp
   simp only
   split
   ·rename_i hmr
    have hmr := hasS_iff.1 hmr
    refine reachG_ok l roots n todo.dropLast met (by omega) (fun p hp => ht p ((hmem p).2 (.inl hp))) hm (fun p hp => ?_) (fun c hcl hh p hp => ?_)
    ·rcases hr p hp with h | h
     ·exact .inl h
     ·rcases (hmem p).1 h with h | rfl
      ·exact .inr h
      ·exact .inl hmr
    ·rcases hc c hcl hh p hp with h | h
     ·exact .inl h
     ·rcases (hmem p).1 h with h | rfl
      ·exact .inr h
      ·exact .inl hmr
   ·rename_i hmr
    have hmr : hasS met r = false := by simpa using hmr
    have hco := cost_add met r hmr l
    have hrr := ht r ((hmem r).2 (.inr rfl))
    refine reachG_ok l roots n _ _ (by rw [List.length_append]; omega) (fun p hp => ?_) (fun p hp => ?_) (fun p hp => ?_) (fun c hcl hh p hp => ?_)
    ·rcases List.mem_append.1 hp with hp | hp
     ·exact ht p ((hmem p).2 (.inl hp))
     ·obtain ⟨c, h1, h2, h3⟩ := mem_pushes.1 hp
      exact .step h1 (by rw [h2]; exact hrr) h3
    ·rcases mem_addS.1 hp with hp | rfl
     ·exact hm p hp
     ·exact hrr
    ·rcases hr p hp with h | h
     ·exact .inl (mem_addS.2 (.inl h))
     ·rcases (hmem p).1 h with h | rfl
      ·exact .inr (List.mem_append.2 (.inl h))
      ·exact .inl (mem_addS.2 (.inr rfl))
    ·rcases mem_addS.1 hh with hh | hh
     ·rcases hc c hcl hh p hp with h | h
      ·exact .inl (mem_addS.2 (.inl h))
      ·rcases (hmem p).1 h with h | rfl
       ·exact .inr (List.mem_append.2 (.inl h))
       ·exact .inl (mem_addS.2 (.inr rfl))
     ·exact .inr (List.mem_append.2 (.inr (mem_pushes.2 ⟨c, hcl, hh, hp⟩)))
def reachL (l : List Cs) (roots : List Sg) : List Sg := reachG l (roots.length + cost [] l + 1) roots []

theorem reachL_iff (l : List Cs) (roots : List Sg) (p : Sg) : p ∈ reachL l roots ↔ Rch l roots p :=
 reachG_ok l roots _ roots [] (by omega) (fun p hp => .root hp) (by simp) (fun p hp => .inr hp) (by simp) p

def goCalls (out : List Sg) (again : Bool) : List Sg → List Sg × Bool
 | [] => (out, again)
 | t :: r => if hasS out t then goCalls out again r else goCalls (out ++ [t]) true r

def passR (l : List Cs) (out : List Sg) (again : Bool) : List Sg × Bool := match l with
 | [] => (out, again)
 | c :: l => if hasS out (sgOf c.head) then passR l (goCalls out again (callsS c.body)).1 (goCalls out again (callsS c.body)).2 else passR l out again

def iterR (l : List Cs) : Nat → List Sg → List Sg
 | 0, out => out
 | n + 1, out => if (passR l out false).2 then iterR l n (passR l out false).1 else (passR l out false).1

def left1 (out : List Sg) : List Sg → Nat
 | [] => 0
 | t :: r => (if hasS out t then 0 else 1) + left1 out r

def leftR (out : List Sg) : List Cs → Nat
 | [] => 0
 | c :: l => left1 out (callsS c.body) + leftR out l
theorem hasS_snoc (out : List Sg) (t p : Sg) : hasS (out ++ [t]) p = (hasS out p || decide (t = p)) := by unfold hasS; simp

theorem left1_snoc (out : List Sg) (t : Sg) : ∀ l : List Sg, left1 (out ++ [t]) l ≤ left1 out l
 | [] => Nat.le_refl _
 | x :: r => by
  have := left1_snoc out t r
  simp only [left1, hasS_snoc]
  cases hasS out x <;> simp <;> (try split) <;> omega

theorem leftR_snoc (out : List Sg) (t : Sg) : ∀ l : List Cs, leftR (out ++ [t]) l ≤ leftR out l
 | [] => Nat.le_refl _
 | c :: l => by
  have := leftR_snoc out t l
  have := left1_snoc out t (callsS c.body)
  simp only [leftR]; omega

theorem left1_mem (out : List Sg) (t : Sg) (h : hasS out t = false) : ∀ l : List Sg, t ∈ l → left1 (out ++ [t]) l < left1 out l
 | x :: r, hm => by
  have := left1_snoc out t r
  simp only [left1, hasS_snoc]
  rcases List.mem_cons.1 hm with rfl | hm
  ·rw [h]; simp; omega
  ·have := left1_mem out t h r hm
   cases hasS out x <;> simp <;> (try split) <;> omega

theorem leftR_mem (out : List Sg) (t : Sg) (h : hasS out t = false) : ∀ l : List Cs, (∃ c ∈ l, t ∈ callsS c.body) → leftR (out ++ [t]) l < leftR out l
 | c :: l, hm => by
  have h1 := leftR_snoc out t l
  have h2 := left1_snoc out t (callsS c.body)
  simp only [leftR]
  obtain ⟨d, hd, ht⟩ := hm
  rcases List.mem_cons.1 hd with rfl | hd
  ·have := left1_mem out t h _ ht; omega
  ·have := leftR_mem out t h l ⟨d, hd, ht⟩; omega

theorem goCalls_ok (L : List Cs) : ∀ (ts out : List Sg) (again : Bool), (∀ t ∈ ts, ∃ c ∈ L, t ∈ callsS c.body) → ∃ ext, (goCalls out again ts).1 = out ++ ext ∧ (∀ p ∈ ext, p ∈ ts) ∧ (∀ t ∈ ts, t ∈ (goCalls out again ts).1) ∧ leftR (goCalls out again ts).1 L + ext.length ≤ leftR out L ∧ (goCalls out again ts).2 = (again || decide (ext ≠ []))
 | [], out, again, _ => ⟨[], by simp [goCalls], by simp, by simp, by simp [goCalls], by simp [goCalls]⟩
 | t :: r, out, again, h => by
  simp only [goCalls]
  split
  ·rename_i ht
   obtain ⟨ext, h1, h2, h3, h4, h5⟩ := goCalls_ok L r out again fun x hx => h x (by simp [hx])
   refine ⟨ext, h1, fun p hp => List.mem_cons.2 (.inr (h2 p hp)), fun x hx => ?_, h4, h5⟩
   rcases List.mem_cons.1 hx with rfl | hx
   ·rw [h1]; exact List.mem_append.2 (.inl (hasS_iff.1 ht))
   ·exact h3 x hx
  ·rename_i ht
   have ht : hasS out t = false := by simpa using ht
   obtain ⟨ext, h1, h2, h3, h4, h5⟩ := goCalls_ok L r (out ++ [t]) true fun x hx => h x (by simp [hx])
   have h6 := leftR_mem out t ht L (h t (by simp))
   refine ⟨t :: ext, by rw [h1]; simp, fun p hp => ?_, fun x hx => ?_, by simp only [List.length_cons]; omega, by rw [h5]; simp⟩
   ·rcases List.mem_cons.1 hp with rfl | hp
    ·simp
    ·exact List.mem_cons.2 (.inr (h2 p hp))
   ·rcases List.mem_cons.1 hx with rfl | hx
    ·rw [h1]; simp
    ·exact h3 x hx

theorem goCalls_rch (L : List Cs) (roots : List Sg) : ∀ (ts out : List Sg) (again : Bool), (∀ p ∈ out, Rch L roots p) → (∀ p ∈ ts, Rch L roots p) → ∀ p ∈ (goCalls out again ts).1, Rch L roots p
 | [], _, _, h, _ => h
 | t :: r, out, again, h, ht => by
  simp only [goCalls]
  split
  ·exact goCalls_rch L roots r out again h fun p hp => ht p (by simp [hp])
  ·refine goCalls_rch L roots r _ true (fun p hp => ?_) fun p hp => ht p (by simp [hp])
   rcases List.mem_append.1 hp with hp | hp
   ·exact h p hp
   ·rw [List.mem_singleton] at hp; subst hp; exact ht _ (by simp)

theorem passR_rch (L : List Cs) (roots : List Sg) : ∀ (l : List Cs) (out : List Sg) (again : Bool), (∀ c ∈ l, c ∈ L) → (∀ p ∈ out, Rch L roots p) → ∀ p ∈ (passR l out again).1, Rch L roots p
 | [], _, _, _, h => by simpa [passR] using h
 | c :: l, out, again, hl, h => by
  simp only [passR]
  split
  ·rename_i hh
   exact passR_rch L roots l _ _ (fun d hd => hl d (by simp [hd])) (goCalls_rch L roots _ out again h fun p hp => .step (hl c (by simp)) (h _ (hasS_iff.1 hh)) hp)
  ·exact passR_rch L roots l out again (fun d hd => hl d (by simp [hd])) h

theorem passR_ok (L : List Cs) : ∀ (l : List Cs) (out : List Sg) (again : Bool), (∀ c ∈ l, c ∈ L) → ∃ ext, (passR l out again).1 = out ++ ext ∧ (∀ p ∈ ext, ∃ c ∈ l, p ∈ callsS c.body ∧ sgOf c.head ∈ (passR l out again).1) ∧ leftR (passR l out again).1 L + ext.length ≤ leftR out L ∧ (passR l out again).2 = (again || decide (ext ≠ [])) ∧ (ext = [] → ∀ c ∈ l, sgOf c.head ∈ out → ∀ p ∈ callsS c.body, p ∈ out)
 | [], out, again, _ => ⟨[], by simp [passR], by simp, by simp [passR], by simp [passR], by simp⟩
 | c :: l, out, again, h => by
  simp only [passR]
  split
  ·rename_i hh
   obtain ⟨e1, a1, a2, a3, a4, a5⟩ := goCalls_ok L (callsS c.body) out again fun t ht => ⟨c, h c (by simp), ht⟩
   obtain ⟨e2, b1, b2, b3, b4, b5⟩ := passR_ok L l (goCalls out again (callsS c.body)).1 (goCalls out again (callsS c.body)).2 fun d hd => h d (by simp [hd])
   have hout : (passR l (goCalls out again (callsS c.body)).1 (goCalls out again (callsS c.body)).2).1 = out ++ (e1 ++ e2) := by rw [b1, a1, List.append_assoc]
   refine ⟨e1 ++ e2, hout, fun p hp => ?_, by rw [List.length_append]; omega, ?_, fun he d hd hdo p hp => ?_⟩
   ·rcases List.mem_append.1 hp with hp | hp
    ·exact ⟨c, by simp, a2 p hp, by rw [hout]; exact List.mem_append.2 (.inl (hasS_iff.1 hh))⟩
    ·obtain ⟨d, h1, h2⟩ := b2 p hp
     exact ⟨d, by simp [h1], h2⟩
   ·rw [b4, a5]
    cases e1 <;> cases e2 <;> simp
   ·have he1 : e1 = [] := (List.append_eq_nil_iff.1 he).1
    have he2 : e2 = [] := (List.append_eq_nil_iff.1 he).2
    rcases List.mem_cons.1 hd with rfl | hd
    ·have := a3 p hp
     rw [a1, he1, List.append_nil] at this
     exact this
    ·have := b5 he2 d hd (by rw [a1, he1, List.append_nil]; exact hdo) p hp
     rw [a1, he1, List.append_nil] at this
     exact this
  ·rename_i hh
   obtain ⟨e2, b1, b2, b3, b4, b5⟩ := passR_ok L l out again fun d hd => h d (by simp [hd])
   refine ⟨e2, b1, fun p hp => ?_, b3, b4, fun he d hd hdo p hp => ?_⟩
   ·obtain ⟨d, h1, h2⟩ := b2 p hp
    exact ⟨d, by simp [h1], h2⟩
   ·rcases List.mem_cons.1 hd with rfl | hd
    ·exact absurd (hasS_iff.2 hdo) hh
    ·exact b5 he d hd hdo p hp

theorem iterR_fuel (l : List Cs) : ∀ (n m : Nat) (out : List Sg), leftR out l < n → leftR out l < m → iterR l n out = iterR l m out
 | 0, _, _, h, _ => by omega
 | n + 1, 0, _, _, h => by omega
 | n + 1, m + 1, out, h1, h2 => by
  simp only [iterR]
  obtain ⟨ext, a1, _, a3, a4, _⟩ := passR_ok l l out false fun c hc => hc
  split
  ·rename_i hg
   rw [a4] at hg
   simp only [Bool.false_or, decide_eq_true_eq] at hg
   have := List.length_pos_iff.2 hg
   exact iterR_fuel l n m _ (by omega) (by omega)
  ·rfl

theorem iterR_ok (l : List Cs) (roots : List Sg) : ∀ (n : Nat) (out : List Sg), leftR out l < n → (∀ p ∈ out, Rch l roots p) → (∀ p ∈ roots, p ∈ out) → ∀ p, p ∈ iterR l n out ↔ Rch l roots p
 | 0, _, h, _, _ => by omega
 | n + 1, out, h, ho, hr => by
  simp only [iterR]
  obtain ⟨ext, a1, a2, a3, a4, a5⟩ := passR_ok l l out false fun c hc => hc
  split
  ·rename_i hg
   rw [a4] at hg
   simp only [Bool.false_or, decide_eq_true_eq] at hg
   have := List.length_pos_iff.2 hg
   exact iterR_ok l roots n _ (by omega) (passR_rch l roots l out false (fun c hc => hc) ho) (fun p hp => by rw [a1]; exact List.mem_append.2 (.inl (hr p hp)))
  ·rename_i hg
   rw [a4] at hg
   simp only [Bool.false_or, decide_eq_true_eq, Decidable.not_not] at hg
   subst hg
   rw [List.append_nil] at a1
   rw [a1]
   intro p
   refine ⟨ho p, fun h => ?_⟩
   induction h with
   | root h => exact hr _ h
   | step h1 _ h3 ih => exact a5 rfl _ h1 ih _ h3
end PSL

namespace PSL
open Go

def lkB : List (Sg × Bool) → Sg → Bool
 | [], _ => false
 | e :: r, p => if e.1 = p then e.2 else lkB r p

def stB : List (Sg × Bool) → Sg → Bool → List (Sg × Bool)
 | [], p, v => [(p, v)]
 | e :: r, p, v => if e.1 = p then (p, v) :: r else e :: stB r p v
def bM (m : List (Sg × Bool)) : List (Sg × AV) := m.map fun e => (e.1, bV e.2)

theorem getK_b (m : List (Sg × Bool)) (p : Sg) : (getK (bM m) p).getD (bV false) = bV (lkB m p) := by
 induction m with
 | nil => rfl
 | cons e r ih =>
  simp only [bM, List.map_cons, getK, lkB] at ih ⊢
  split
  ·rfl
  ·exact ih

theorem setK_b (m : List (Sg × Bool)) (p : Sg) (v : Bool) : setK (bM m) p (bV v) = bM (stB m p v) := by
 induction m with
 | nil => rfl
 | cons e r ih =>
  simp only [bM, List.map_cons, setK, stB] at ih ⊢
  split
  ·rfl
  ·simp only [List.map_cons]; rw [ih]

theorem lk_st (m : List (Sg × Bool)) (p q : Sg) (v : Bool) : lkB (stB m p v) q = if p = q then v else lkB m q := by
 induction m with
 | nil => rfl
 | cons e r ih =>
  simp only [stB]
  by_cases he : e.1 = p
  ·rw [if_pos he]
   simp only [lkB]
   split
   ·rfl
   ·rename_i h; rw [if_neg (by rw [he]; exact h)]
  ·rw [if_neg he]
   simp only [lkB]
   rw [ih]
   by_cases h1 : e.1 = q
   ·rw [if_pos h1, if_pos h1, if_neg (fun h => he (by rw [h1, h]))]
   ·rw [if_neg h1, if_neg h1]
theorem mapOb_b {f : AV → AV} (h : ∀ b, f (bV b) = bV b) (m : List (Sg × Bool)) : mapOb f (.map (kmap (bM m))) = .map (kmap (bM m)) := by simp [mapOb, kmap, bM, Function.comp_def, h]
def tt (ks : List Sg) : List (Sg × Bool) := ks.map fun p => (p, true)

theorem lk_tt (ks : List Sg) (p : Sg) : lkB (tt ks) p = hasS ks p := by
 induction ks with
 | nil => rfl
 | cons k r ih =>
  rw [hasS_cons]
  simp only [tt, List.map_cons, lkB] at ih ⊢
  by_cases h : k = p
  ·rw [if_pos h, decide_eq_true h]; rfl
  ·rw [if_neg h, decide_eq_false h, ih]; rfl

def bodyK (c : Cs) (k : Int) : Bool := match c.body with
 | [] => false
 | g :: _ => g.k == k

def varsGo (ns : List Int) : List Tm → Bool
 | [] => true
 | x :: r => if x.k ≠ 1 ∨ x.n ∈ ns then false else varsGo (ns ++ [x.n]) r
def closesB (c : Cs) : Bool := varsGo [] c.head.l && bodyK c 3
def failS : Sg := (Tx [102, 97, 105, 108], 0)

def deadB (c : Cs) : Bool := match c.body with
 | [] => false
 | g :: _ => (g.k == 2) && decide (sgOf g.t = failS)

def openG (m : List (Sg × Bool)) : List Cs → List Cs
 | [] => []
 | c :: l => if lkB m (sgOf c.head) then openG m l else c :: openG (stB m (sgOf c.head) (closesB c)) l

def livesG (m : List (Sg × Bool)) : List Cs → List (Sg × Bool)
 | [] => m
 | c :: l => livesG (stB m (sgOf c.head) (lkB m (sgOf c.head) || !deadB c)) l

def aliveG (lives met : List (Sg × Bool)) : List Cs → List Cs
 | [] => []
 | c :: l => if !deadB c || (!lkB met (sgOf c.head) && !lkB lives (sgOf c.head)) then c :: aliveG lives (stB met (sgOf c.head) true) l else aliveG lives (stB met (sgOf c.head) true) l
def closedIn (pre : List Cs) (x : Cs) : Bool := pre.any fun y => decide (sgOf y.head = sgOf x.head) && closesB y

def openD (pre : List Cs) : List Cs → List Cs
 | [] => []
 | x :: l => if closedIn pre x then openD (pre ++ [x]) l else x :: openD (pre ++ [x]) l

def blkD (i : Nat) (x : Cs) : Nat → List Cs → Bool
 | _, [] => false
 | k, y :: l => (decide (sgOf y.head = sgOf x.head) && (decide (k < i) || !deadB y)) || blkD i x (k + 1) l

def aliveD (L pre : List Cs) : List Cs → List Cs
 | [] => []
 | x :: l => if !deadB x || !blkD pre.length x 0 L then x :: aliveD L (pre ++ [x]) l else aliveD L (pre ++ [x]) l

theorem open_eq : ∀ (l pre : List Cs) (m : List (Sg × Bool)), (∀ r, lkB m r = pre.any fun y => decide (sgOf y.head = r) && closesB y) → openG m l = openD pre l
 | [], _, _, _ => rfl
 | x :: l, pre, m, h => by
  have hx : lkB m (sgOf x.head) = closedIn pre x := h _
  simp only [openG, openD, hx]
  split
  ·rename_i hc
   refine open_eq l _ m fun r => ?_
   rw [List.any_append, ← h r]
   simp only [List.any_cons, List.any_nil, Bool.or_false]
   by_cases e : sgOf x.head = r
   ·subst e; rw [hx, hc]; rfl
   ·rw [decide_eq_false e]; simp
  ·rename_i hc
   congr 1
   refine open_eq l _ _ fun r => ?_
   rw [List.any_append, ← h r, lk_st]
   simp only [List.any_cons, List.any_nil, Bool.or_false]
   by_cases e : sgOf x.head = r
   ·subst e; rw [if_pos rfl, hx, Bool.eq_false_iff.2 hc]; simp
   ·rw [if_neg e, decide_eq_false e]; simp

theorem lives_ok : ∀ (l : List Cs) (m : List (Sg × Bool)) (r : Sg), lkB (livesG m l) r = (lkB m r || l.any fun y => decide (sgOf y.head = r) && !deadB y)
 | [], m, r => by simp [livesG]
 | x :: l, m, r => by
  simp only [livesG, List.any_cons]
  rw [lives_ok l, lk_st, ← Bool.or_assoc]
  congr 1
  by_cases e : sgOf x.head = r
  ·subst e; rw [if_pos rfl]; simp
  ·rw [if_neg e, decide_eq_false e]; simp

theorem blk_ok (i : Nat) (x : Cs) : ∀ (l : List Cs) (k : Nat), blkD i x k l = ((l.take (i - k)).any (fun y => decide (sgOf y.head = sgOf x.head)) || l.any fun y => decide (sgOf y.head = sgOf x.head) && !deadB y)
 | [], k => by simp [blkD]
 | y :: l, k => by
  simp only [blkD, List.any_cons]
  rw [blk_ok i x l (k + 1)]
  by_cases hk : k < i
  ·have e : i - k = (i - (k + 1)) + 1 := by omega
   rw [e, List.take_succ_cons, decide_eq_true hk]
   simp only [List.any_cons]
   cases decide (sgOf y.head = sgOf x.head) <;> simp
  ·have e : i - k = 0 := by omega
   have e2 : i - (k + 1) = 0 := by omega
   rw [e, e2, decide_eq_false hk]
   simp

theorem blk_app (pre : List Cs) (l : List Cs) (x : Cs) : blkD pre.length x 0 (pre ++ l) = (pre.any (fun y => decide (sgOf y.head = sgOf x.head)) || (pre ++ l).any fun y => decide (sgOf y.head = sgOf x.head) && !deadB y) := by
 rw [blk_ok]; simp

theorem alive_eq (L : List Cs) (lives : List (Sg × Bool)) (hl : ∀ r, lkB lives r = L.any fun y => decide (sgOf y.head = r) && !deadB y) : ∀ (l pre : List Cs) (met : List (Sg × Bool)), L = pre ++ l → (∀ r, lkB met r = pre.any fun y => decide (sgOf y.head = r)) → aliveG lives met l = aliveD L pre l
 | [], _, _, _, _ => rfl
 | x :: l, pre, met, hL, hm => by
  have h1 := alive_eq L lives hl l (pre ++ [x]) (stB met (sgOf x.head) true) (by rw [hL]; simp) fun r => by
   rw [List.any_append, ← hm r, lk_st]
   simp only [List.any_cons, List.any_nil, Bool.or_false]
   by_cases e : sgOf x.head = r
   ·rw [if_pos e, decide_eq_true e]; simp
   ·rw [if_neg e, decide_eq_false e]; simp
  have h2 : blkD pre.length x 0 L = (lkB met (sgOf x.head) || lkB lives (sgOf x.head)) := by
   rw [hm, hl, hL, blk_app]
  simp only [aliveG, aliveD, h2, Bool.not_or, h1]

theorem openD_ok : ∀ (l pre : List Cs), (openD pre l).Pairwise (fun y x => ¬(sgOf y.head = sgOf x.head ∧ closesB y = true)) ∧ (∀ x ∈ openD pre l, ∀ y ∈ pre, ¬(sgOf y.head = sgOf x.head ∧ closesB y = true)) ∧ (openD pre l).Sublist l
 | [], _ => ⟨.nil, by simp [openD], .refl _⟩
 | x :: l, pre => by
  obtain ⟨h1, h2, h3⟩ := openD_ok l (pre ++ [x])
  simp only [openD]
  split
  ·exact ⟨h1, fun z hz y hy => h2 z hz y (by simp [hy]), h3.cons _⟩
  ·rename_i hc
   refine ⟨List.pairwise_cons.2 ⟨fun z hz => h2 z hz x (by simp), h1⟩, fun z hz y hy => ?_, h3.cons_cons _⟩
   rcases List.mem_cons.1 hz with rfl | hz
   ·rintro ⟨e1, e2⟩
    exact hc (List.any_eq_true.2 ⟨y, hy, by rw [decide_eq_true e1, e2]; rfl⟩)
   ·exact h2 z hz y (by simp [hy])
theorem hasH_iff {l : List Cs} {p : Sg} : hasH l p = true ↔ ∃ c ∈ l, sgOf c.head = p := by unfold hasH; simp

theorem aliveD_ok (L : List Cs) : ∀ (l pre : List Cs), L = pre ++ l → (aliveD L pre l).Pairwise (fun y x => deadB x = true → sgOf y.head ≠ sgOf x.head) ∧ (∀ x ∈ aliveD L pre l, ∀ y ∈ pre, deadB x = true → sgOf y.head ≠ sgOf x.head) ∧ (∀ x ∈ aliveD L pre l, deadB x = true → ∀ y ∈ L, sgOf y.head = sgOf x.head → deadB y = true) ∧ (aliveD L pre l).Sublist l
 | [], _, _ => ⟨.nil, by simp [aliveD], by simp [aliveD], .refl _⟩
 | x :: l, pre, hL => by
  obtain ⟨h1, h2, h3, h4⟩ := aliveD_ok L l (pre ++ [x]) (by rw [hL]; simp)
  simp only [aliveD]
  split
  ·rename_i hc
   have key : deadB x = true → (∀ y ∈ pre, sgOf y.head ≠ sgOf x.head) ∧ ∀ y ∈ L, sgOf y.head = sgOf x.head → deadB y = true := fun hd => by
    rw [hd, hL, blk_app] at hc
    simp only [Bool.not_true, Bool.false_or, Bool.not_or, Bool.and_eq_true, Bool.not_eq_true'] at hc
    refine ⟨fun y hy e => ?_, fun y hy e => ?_⟩
    ·have := List.any_eq_false.1 hc.1 y hy
     rw [decide_eq_true e] at this
     exact this rfl
    ·have := List.any_eq_false.1 hc.2 y (by rw [← hL]; exact hy)
     rw [decide_eq_true e] at this
     simpa using this
   refine ⟨List.pairwise_cons.2 ⟨fun z hz => h2 z hz x (by simp), h1⟩, fun z hz y hy hd => ?_, fun z hz hd => ?_, h4.cons_cons _⟩
   ·rcases List.mem_cons.1 hz with rfl | hz
    ·exact (key hd).1 y hy
    ·exact h2 z hz y (by simp [hy]) hd
   ·rcases List.mem_cons.1 hz with rfl | hz
    ·exact (key hd).2
    ·exact h3 z hz hd
  ·exact ⟨h1, fun z hz y hy => h2 z hz y (by simp [hy]), h3, h4.cons _⟩
end PSL

namespace PSL
open Go
def liveL (l : List Cs) : List Cs := aliveG (livesG [] (openG [] l)) [] (openG [] l)
def liveD (l : List Cs) : List Cs := aliveD (openD [] l) [] (openD [] l)

theorem live_eq (l : List Cs) : liveL l = liveD l := by
 unfold liveL liveD
 rw [open_eq l [] [] (fun r => rfl)]
 exact alive_eq _ _ (fun r => by rw [lives_ok]; rfl) _ [] [] rfl fun r => rfl
def reachD (l : List Cs) (roots : List Sg) : List Sg := iterR l (leftR roots l + 1) roots

theorem reachD_iff (l : List Cs) (roots : List Sg) (p : Sg) : p ∈ reachD l roots ↔ Rch l roots p :=
 iterR_ok l roots _ roots (by omega) (fun p hp => .root hp) (fun p hp => hp) p

theorem reach_same (l : List Cs) (roots : List Sg) (p : Sg) : hasS (reachL l roots) p = hasS (reachD l roots) p := by
 rw [Bool.eq_iff_iff, hasS_iff, hasS_iff, reachL_iff, reachD_iff]
def cleanG (l : List Cs) (roots : List Sg) : List Cs := (liveL l).filter fun c => hasS (reachL (liveL l) roots) (sgOf c.head)

def reachedG (met : List (Sg × Bool)) : List Cs → List Sg
 | [] => []
 | c :: l => if lkB met (sgOf c.head) then sgOf c.head :: reachedG (stB met (sgOf c.head) false) l else reachedG met l

def reachedD (all : List Sg) (out : List Sg) : List Cs → List Sg
 | [] => out
 | c :: l => if hasS all (sgOf c.head) && !hasS out (sgOf c.head) then reachedD all (out ++ [sgOf c.head]) l else reachedD all out l

theorem reached_go (all : List Sg) : ∀ (l : List Cs) (met : List (Sg × Bool)) (out : List Sg), (∀ r, lkB met r = (hasS all r && !hasS out r)) → out ++ reachedG met l = reachedD all out l
 | [], _, _, _ => by simp [reachedG, reachedD]
 | c :: l, met, out, h => by
  simp only [reachedG, reachedD, h]
  split
  ·rw [← reached_go all l (stB met (sgOf c.head) false) (out ++ [sgOf c.head]) (fun r => by
    rw [lk_st, hasS_snoc, h]
    by_cases e : sgOf c.head = r
    ·rw [if_pos e, decide_eq_true e]; simp
    ·rw [if_neg e, decide_eq_false e]; simp)]
   simp
  ·exact reached_go all l met out h
def reachedP (l : List Cs) (roots : List Sg) : List Sg := reachedG (tt (reachL l roots)) l

theorem reached_eq (l : List Cs) (roots : List Sg) : reachedP l roots = reachedD (reachD l roots) [] l := by
 have := reached_go (reachD l roots) l (tt (reachL l roots)) [] (fun r => by rw [lk_tt, reach_same]; simp [hasS])
 exact this
theorem live_sub (l : List Cs) : (liveD l).Sublist l := ((aliveD_ok (openD [] l) (openD [] l) [] rfl).2.2.2).trans (openD_ok l []).2.2

def cleanA (l : List Cs) (roots : List Sg) : List Cs × Int := if (checkR l).2 ≠ 0 then ([], 1) else if roots.all (hasH l) then (cleanG l roots, 0) else ([], 1)
end PSL

namespace PSL
open Go

theorem putO_ent {E : Env} {x y : AV} (dst : Option Nat) (h : Ent x y) : EEnt (putO E dst x) (putO E dst y) := fun u => by
 cases dst with
 | none => exact .refl _
 | some t =>
  simp only [putO, lk_put]
  split
  ·exact h
  ·exact .refl _

theorem look_ent (m : List (Sg × Bool)) (p : Sg) : Ent (lookI' false (cstV (.bool false)) (getK (bM m) p)) (bV (lkB m p)) := by
 have h := getK_b m p
 cases hg : getK (bM m) p with
 | none => rw [hg] at h; rw [← h]; exact .ff
 | some v => rw [hg] at h; rw [← h]; exact .refl _

theorem lookI_ent (ns : List Int) (n : Int) : Ent (lookI' false (cstV (.bool false)) (getI (setI ns) n)) (bV (decide (n ∈ ns))) := by
 rw [getI_set]
 by_cases h : n ∈ ns
 ·rw [if_pos (by simpa using h), decide_eq_true h]; exact .tt
 ·rw [if_neg (by simpa using h), decide_eq_false h]; exact .ff
section
variable {g : G} {pf : Nat → Cls} {ops : Array Oper} {Fin : Exit → Act → World → Prop}

theorem R_lookupB (hg : GOk g) {dst : Option Nat} {T : Nat} {x y : Operand} {ty : Nat} {pos : String} {after : Array Edge} {gd : Option (Nat × Bool)} {rest : List Oper} {k : List It} {E : Env} {objs : List Ob}
  {i q by_ kt et : Nat} {z : List Value} (p : Sg) (m : List (Sg × Bool)) (hk : SKey g.P kt)
  (hgd : guardA ops.toList E gd = some true) (hd : dstOk ⟨g.ty, g.N⟩ dst = true) (hx : ev E x = .mp i) (ho : nth objs i = some (.map (kmap (bM m)))) (hy : ev E y = sgA p) (hT : g.ty T = some ⟨q, by_, z, .map kt et⟩)
  (hz : (g.P.info? et).bind (·.zero) = some (.bool false))
  (hr : R g pf Fin (.dr ops rest :: k) (putO E dst (bV (lkB m p))) objs) : R g pf Fin (.dr ops (⟨dst, .lookup T x y false, ty, pos, after, gd⟩ :: rest) :: k) E objs :=
 R_lookupK hg p (bM m) hk hgd hd hx ho hy hT hz rfl (hr.ent (putO_ent dst (look_ent m p)))

theorem R_setB (hg : GOk g) {dst : Option Nat} {T : Nat} {x y v : Operand} {ty : Nat} {pos : String} {after : Array Edge} {gd : Option (Nat × Bool)} {rest : List Oper} {k : List It} {E : Env} {objs : List Ob}
  {i q by_ kt et : Nat} {z : List Value} (p : Sg) (m : List (Sg × Bool)) (b : Bool) (hk : SKey g.P kt)
  (hgd : guardA ops.toList E gd = some true) (hd : dstOk ⟨g.ty, g.N⟩ dst = true) (hx : ev E x = .mp i) (ho : nth objs i = some (.map (kmap (bM m)))) (hy : ev E y = sgA p) (hT : g.ty T = some ⟨q, by_, z, .map kt et⟩)
  (hv : Ent (ev E v) (bV b))
  (hr : R g pf Fin (.dr ops rest :: k) (putO E dst .any) (setN objs i (.map (kmap (bM (stB m p b)))))) : R g pf Fin (.dr ops (⟨dst, .mapUpdate T x y v, ty, pos, after, gd⟩ :: rest) :: k) E objs :=
 R_setK hg p (bM m) (bM (stB m p b)) hk hgd hd hx ho hy hT hv (setK_b m p b) hr

theorem R_lookupNs (hg : GOk g) {dst : Option Nat} {T : Nat} {x y : Operand} {ty : Nat} {pos : String} {after : Array Edge} {gd : Option (Nat × Bool)} {rest : List Oper} {k : List It} {E : Env} {objs : List Ob}
  {i q by_ q' by' kt et : Nat} {z z' : List Value} {n : Int} (ns : List Int)
  (hgd : guardA ops.toList E gd = some true) (hd : dstOk ⟨g.ty, g.N⟩ dst = true) (hx : ev E x = .mp i) (ho : nth objs i = some (.map (imap (setI ns)))) (hy : ev E y = .d (.v (.int .i64 n))) (hT : g.ty T = some ⟨q, by_, z, .map kt et⟩)
  (hkt : g.ty kt = some ⟨q', by', z', .int .i64⟩) (hz : (g.P.info? et).bind (·.zero) = some (.bool false))
  (hr : R g pf Fin (.dr ops rest :: k) (putO E dst (bV (decide (n ∈ ns)))) objs) : R g pf Fin (.dr ops (⟨dst, .lookup T x y false, ty, pos, after, gd⟩ :: rest) :: k) E objs :=
 R_lookupI hg (setI ns) hgd hd hx ho hy hT hkt hz rfl (hr.ent (putO_ent dst (lookI_ent ns n)))
end
end PSL
namespace PSL
open Go

def openM (m : List (Sg × Bool)) : List Cs → List (Sg × Bool)
 | [] => m
 | c :: l => if lkB m (sgOf c.head) then openM m l else openM (stB m (sgOf c.head) (closesB c)) l

def aliveM (met : List (Sg × Bool)) : List Cs → List (Sg × Bool)
 | [] => met
 | c :: l => aliveM (stB met (sgOf c.head) true) l
theorem Cs.rows_snoc (out : List Cs) (x : Cs) : Cs.rows out ++ [x.row] = Cs.rows (out ++ [x]) := by simp [Cs.rows]
end PSL
namespace PSL
open Go

theorem renOb_b {f : Nat → Nat} (m : List (Sg × Bool)) : renOb f (.map (kmap (bM m))) = .map (kmap (bM m)) := by
 have h := mapOb_b (f := renA f) (fun _ => rfl) m
 simpa only [mapOb, renOb] using h
theorem cong4 {α : Type} {a b c d c' d' : α} {l : List α} (h : c = c') (h2 : d = d') : a :: b :: c :: d :: l = a :: b :: c' :: d' :: l := by rw [h, h2]
end PSL
namespace PSL
open Go

theorem stB_tt {ks : List Sg} {p : Sg} : stB (tt ks) p true = tt (addS ks p) := by
 unfold addS
 induction ks with
 | nil => rfl
 | cons k r ih =>
  rw [hasS_cons]
  simp only [tt, List.map_cons, stB] at ih ⊢
  by_cases h : k = p
  ·rw [if_pos h, if_pos (by rw [decide_eq_true h]; rfl), h]; rfl
  ·rw [if_neg h, ih, decide_eq_false h, Bool.false_or]
   split <;> simp

theorem reachG_snoc (l : List Cs) (n : Nat) (td : List Sg) (r : Sg) (met : List Sg) : reachG l (n + 1) (td ++ [r]) met = if hasS met r then reachG l n td met else reachG l n (td ++ pushes l r) (addS met r) := by
 simp [reachG]
theorem reachG_nil (l : List Cs) (n : Nat) (met : List Sg) : reachG l (n + 1) [] met = met := rfl

theorem pushes_len (r : Sg) : ∀ l : List Cs, (pushes l r).length ≤ cost [] l
 | [] => Nat.le_refl _
 | c :: l => by
  have := pushes_len r l
  simp only [pushes, cost, List.length_append]
  have e : hasS [] (sgOf c.head) = false := rfl
  rw [e]
  split <;> simp <;> omega

theorem cost_size : ∀ l : List Cs, cost [] l ≤ Cs.sizeL l
 | [] => Nat.le_refl _
 | c :: l => by
  have := cost_size l
  have h2 := callsT_len c.body
  have e : hasS [] (sgOf c.head) = false := rfl
  simp only [cost, Cs.sizeL, Cs.size, e, Bool.false_eq_true, if_false, callsS, List.length_map]
  omega
end PSL

namespace Go.Proofs.YthdpfglpdgmphaaGreat
open Go PSL Go.Proofs

theorem rootEq (d : Nat) (p q : Sg) (w : World) : (Op.equalIn (d + 1 + 1) 48 (skV p) (skV q)).run Tryz.prog w = .ok (decide (p = q)) w := by
 obtain ⟨s, n⟩ := p
 obtain ⟨s', n'⟩ := q
 unfold skV
 rw [run_equalIn_agg w (d + 1) 48 _ _ (by rw [Program.fieldsOf, Tryz.underlying48]) Tryz.stoodInHeld48]
 rw [Program.fieldsOf, Tryz.underlying48]
 simp [Op.eqFields, part, run_equalIn_int _ _ _ _ _ _ _ Tryz.underlying3, run_equalIn_string _ _ _ _ _ Tryz.underlying9]
 by_cases h1 : s = s'
 ·subst h1
  by_cases h2 : n = n' <;> simp [h2]
 ·have h2 : ¬ s.toList = s'.toList := fun e => h1 (Tm.strEq_iff.1 (by simp [strEq, e]))
  simp [h1, h2]

theorem rootCk (d : Nat) (b : Bool) (p : Sg) (w : World) : (Instr.checkKey b (d + 1 + 1) 48 (skV p)).run Tryz.prog w = .ok () w := by
 simp [Instr.checkKey, skV, part, run_underlying Tryz.underlying48, run_underlying Tryz.underlying3, run_underlying Tryz.underlying9]
theorem rootKey : SKey Tryz.prog 48 := ⟨⟨_, Tryz.underlying48⟩, fun p q w => rootEq 9998 p q w, fun b p w => rootCk 9998 b p w⟩

theorem rootCmp : SCmp Tryz.prog 48 := by
 constructor
 ·intro x y p q w
  have h := rootEq 9998 p q w
  unfold skV at h ⊢
  simp only [Sem.run_bind]
  rw [run_eqGuard_agg _ _ _ _ _ _ _ Tryz.eqGuardType48]
  simp only [Result.andThen_ok]
  rw [run_eql_struct, h]
  rfl
 ·intro x y p q w
  have h := rootEq 9998 p q w
  unfold skV at h ⊢
  simp only [Sem.run_bind]
  rw [run_eqGuard_agg _ _ _ _ _ _ _ Tryz.eqGuardType48]
  simp only [Result.andThen_ok]
  rw [run_neq_struct, h]
  rfl

theorem rootOf_ok (t : Tm) : PCtr Tryz.prog 39 [t.av] (sgA (sgOf t)) := by
 refine PCtr.of_R (pf := fun _ => .eff) tyOk mixed Tryz.func39 rfl (by kernel_rfl) (by kernel_rfl) (by simp [Tryz.ntmps39]) fun w S hg => ?_
 refine R_run hg.ok 1000 rfl rfl ?_
 refine R_ret hg 5 rfl rfl ?_
 unfold sgA sgOf
 rw [Tm.rows_length]

theorem body_pos {x : Cs} (h : decide (((Gl.rows x.body).length : Int) > 0) = true) : ∃ g r, x.body = g :: r ∧ x.body[0]? = some g := by
 rw [Gl.rows_length] at h
 cases hb : x.body with
 | nil => rw [hb] at h; simp at h
 | cons g r => exact ⟨g, r, rfl, rfl⟩

theorem body_nil {x : Cs} (h : decide (((Gl.rows x.body).length : Int) > 0) = false) : x.body = [] := by
 rw [Gl.rows_length] at h
 cases hb : x.body with
 | nil => rfl
 | cons g r => rw [hb] at h; simp at h

set_option maxRecDepth 100000 in
theorem closes_ok (x : Cs) (hl : x.head.l.length ≤ 1000000) : PCtr Tryz.prog 69 [x.av] (bV (closesB x)) := by
 refine PCtr.of_R (pf := fun _ => .eff) tyOk mixed Tryz.func69 rfl (by kernel_rfl) (by kernel_rfl) (by simp [Tryz.ntmps69]) fun w S hg => ?_
 refine R_run hg.ok 1000 rfl rfl ?_
 refine R_makeMap hg.ok rfl rfl ?_
 refine R_run hg.ok 1000 rfl rfl ?_
 refine R_loop (fun y : Nat × List Int => ([(1, .lo 0 0), (3, .mp 1), (9, .d (.sl (Tm.rows x.head.l))), (10, iV x.head.l.length), (11, iV y.1)], [csBox x, .map (imap (setI y.2))])) (fun y => y.1 ≤ x.head.l.length ∧ varsGo [] x.head.l = varsGo y.2 (x.head.l.drop y.1)) (fun y => x.head.l.length - y.1) (0, []) ⟨Nat.zero_le _, rfl⟩ ⟨.refl _, .refl _, .refl _, by rw [Tm.rows_length]; exact .refl _, .refl _, trivial⟩ rfl ?_
 rintro ⟨k, ns⟩ ⟨hk, hm⟩
 simp only at hk hm
 refine R_run hg.ok 1000 rfl rfl ?_
 refine R_if rfl rfl (fun h => ?_) (fun h => ?_) <;> refine R_run hg.ok 1000 rfl rfl ?_
 ·have hk1 : k < x.head.l.length := lt_dec h rfl
  have e1 : x.head.l[k]? = some x.head.l[k] := List.getElem?_eq_getElem hk1
  rw [List.drop_eq_getElem_cons hk1, varsGo] at hm
  generalize x.head.l[k] = y at e1 hm
  refine R_index hg.ok rfl rfl rfl rfl rfl rfl (Int.natCast_nonneg _) (Tm.rows_get e1) rfl ?_
  refine R_run hg.ok 1000 rfl rfl ?_
  by_cases c1 : y.k = 1
  ·refine R_if rfl rfl (fun h => absurd h (by simp [c1])) (fun _ => ?_) <;> refine R_run hg.ok 1000 rfl rfl ?_
   refine R_lookupNs hg.ok ns rfl rfl rfl rfl rfl rfl rfl (by kernel_rfl) ?_
   refine R_run hg.ok 1000 rfl rfl ?_
   by_cases c2 : y.n ∈ ns
   ·refine R_if rfl rfl (fun _ => ?_) (fun h => absurd h (by simp [c2])) <;> refine R_run hg.ok 1000 rfl rfl ?_
    rw [if_pos (.inr c2)] at hm
    refine R_ret hg 5 rfl rfl ?_
    unfold closesB
    rw [hm]; rfl
   ·refine R_if rfl rfl (fun h => absurd h (by simp [c2])) (fun _ => ?_) <;> refine R_run hg.ok 1000 rfl rfl ?_
    rw [if_neg (by rintro (h | h) <;> contradiction)] at hm
    refine R_mapAddI hg.ok (setI ns) rfl rfl rfl rfl rfl rfl rfl (by rw [getI_set, if_neg (by simpa using c2)]) ?_
    refine R_run hg.ok 1000 rfl rfl ?_
    refine R_dropO 2 [csBox x, .map (imap (setI (ns ++ [y.n])))] (Nat.zero_le _) rfl (by
     have := mapOb_set (f := trimA 2) rfl (ns ++ [y.n])
     have e : setI ns ++ [(y.n, AV.tt)] = setI (ns ++ [y.n]) := by simp [setI]
     show [_, mapOb _ (.map (imap (setI ns ++ [(y.n, AV.tt)])))] = _
     rw [e, this]; rfl) ?_
    exact R_next (k + 1, ns ++ [y.n]) ⟨hk1, hm⟩ (by simp only; omega) ⟨.refl _, .refl _, .refl _, .refl _, Ent.wrap (by simp only; omega) (by simp only; omega) (by simp only; omega), trivial⟩ rfl
  ·refine R_if rfl rfl (fun _ => ?_) (fun h => absurd h (by simp [c1])) <;> refine R_run hg.ok 1000 rfl rfl ?_
   rw [if_pos (.inl c1)] at hm
   refine R_ret hg 5 rfl rfl ?_
   unfold closesB
   rw [hm]; rfl
 ·have hk1 : x.head.l.length ≤ k := ge_dec h rfl
  rw [List.drop_eq_nil_of_le hk1] at hm
  have hc : closesB x = bodyK x 3 := by unfold closesB; rw [hm]; rfl
  rw [hc]
  refine R_if rfl rfl (fun h => ?_) (fun h => ?_) <;> refine R_run hg.ok 1000 rfl rfl ?_
  ·obtain ⟨g, r, hb, e1⟩ := body_pos h
   refine R_index hg.ok rfl rfl rfl rfl rfl rfl (Int.le_refl 0) (Gl.rows_get (i := 0) e1) rfl ?_
   refine R_run hg.ok 1000 rfl rfl ?_
   refine R_ret hg 5 rfl rfl ?_
   unfold bodyK
   rw [hb]; rfl
  ·refine R_ret hg 5 rfl rfl ?_
   unfold bodyK
   rw [body_nil h]; rfl

set_option maxRecDepth 100000 in
theorem cleanDead_ok (x : Cs) : PCtr Tryz.prog 66 [x.av] (bV (deadB x)) := by
 refine PCtr.of_R (pf := fun _ => .eff) tyOk mixed Tryz.func66 rfl (by kernel_rfl) (by kernel_rfl) (by simp [Tryz.ntmps66]) fun w S hg => ?_
 refine R_run hg.ok 1000 rfl rfl ?_
 refine R_if rfl rfl (fun h => ?_) (fun h => ?_) <;> refine R_run hg.ok 1000 rfl rfl ?_
 ·obtain ⟨g, r, hb, e1⟩ := body_pos h
  refine R_index hg.ok rfl rfl rfl rfl rfl rfl (Int.le_refl 0) (Gl.rows_get (i := 0) e1) rfl ?_
  refine R_run hg.ok 1000 rfl rfl ?_
  refine R_if rfl rfl (fun h2 => ?_) (fun h2 => ?_) <;> refine R_run hg.ok 1000 rfl rfl ?_
  ·refine R_index hg.ok rfl rfl rfl rfl rfl rfl (Int.le_refl 0) (Gl.rows_get (i := 0) e1) rfl ?_
   refine R_run hg.ok 1000 rfl rfl ?_
   refine R_call hg.ok (rootOf_ok g.t) rfl rfl rfl rfl rfl rfl ?_
   refine R_run hg.ok 1000 rfl rfl ?_
   refine R_eqK hg.ok (sgOf g.t) failS rootCmp rfl rfl rfl rfl ?_
   refine R_run hg.ok 1000 rfl rfl ?_
   refine R_ret hg 5 rfl rfl ?_
   unfold deadB
   rw [hb]
   simp only [h2, Bool.true_and]; rfl
  ·refine R_ret hg 5 rfl rfl ?_
   unfold deadB
   rw [hb]
   simp only [h2, Bool.false_and]; rfl
 ·refine R_ret hg 5 rfl rfl ?_
  unfold deadB
  rw [body_nil h]; rfl
end Go.Proofs.YthdpfglpdgmphaaGreat

namespace Go.Proofs.YthdpfglpdgmphaaGreat
open Go PSL Go.Proofs
def rtBox (p : Sg) : Ob := .box [.d (.v (.string p.1)), .d (.v (.int .i64 p.2))]
def mpO (m : List (Sg × Bool)) : List Ob := [.box [.mp 1], .map (kmap (bM m))]
def mp2O (a b : List (Sg × Bool)) : List Ob := [.box [.mp 2], .box [.mp 3], .map (kmap (bM a)), .map (kmap (bM b))]

set_option maxRecDepth 100000 in
theorem cleanIs_ok (Y : YP) (p : Sg) (x : Cs) : SCtr Tryz.prog Y 43 [x.av, .lo 0 0] [rtBox p] (bV (decide (sgOf x.head = p))) [rtBox p] := by
 refine SCtr.of_R (pf := fun _ => .still) tyOk mixed Tryz.func43 rfl (by kernel_rfl) (by kernel_rfl) (by simp [Tryz.ntmps43]) (by simp [rtBox]) fun w S φ hg => ?_
 refine R_run hg.ok 1000 rfl rfl ?_
 refine R_call hg.ok (rootOf_ok x.head) rfl rfl rfl rfl rfl rfl ?_
 refine R_run hg.ok 1000 rfl rfl ?_
 refine R_eqK hg.ok (sgOf x.head) p rootCmp rfl rfl rfl rfl ?_
 refine R_run hg.ok 1000 rfl rfl ?_
 exact R_retS hg 1 5 (Nat.le_refl _) rfl rfl rfl

set_option maxRecDepth 100000 in
theorem cleanMet_ok (Y : YP) (m : List (Sg × Bool)) (x : Cs) : SCtr Tryz.prog Y 46 [x.av, .lo 0 0] (mpO m) (bV (lkB m (sgOf x.head))) (mpO m) := by
 refine SCtr.of_R (pf := fun _ => .still) tyOk mixed Tryz.func46 rfl (by kernel_rfl) (by kernel_rfl) (by simp [Tryz.ntmps46]) (by simp [mpO]) fun w S φ hg => ?_
 refine R_run hg.ok 1000 rfl rfl ?_
 refine R_call hg.ok (rootOf_ok x.head) rfl rfl rfl rfl rfl rfl ?_
 refine R_run hg.ok 1000 rfl rfl ?_
 refine R_lookupB hg.ok (sgOf x.head) m rootKey rfl rfl rfl rfl rfl rfl (by kernel_rfl) ?_
 refine R_run hg.ok 1000 rfl rfl ?_
 exact R_retS hg 2 5 (Nat.le_refl _) rfl rfl (congrArg (fun y => [Ob.box [AV.mp 1], y]) (mapOb_b (fun _ => rfl) m))

set_option maxRecDepth 100000 in
theorem openIs_ok (Y : YP) (m : List (Sg × Bool)) (x : Cs) (hl : x.head.l.length ≤ 1000000) : SCtr Tryz.prog Y 68 [x.av, .lo 0 0] (mpO m) (bV (!lkB m (sgOf x.head))) (mpO (if lkB m (sgOf x.head) then m else stB m (sgOf x.head) (closesB x))) := by
 refine SCtr.of_R (pf := fun _ => .still) tyOk mixed Tryz.func68 rfl (by kernel_rfl) (by kernel_rfl) (by simp [Tryz.ntmps68]) (by simp [mpO]) fun w S φ hg => ?_
 refine R_run hg.ok 1000 rfl rfl ?_
 refine R_call hg.ok (rootOf_ok x.head) rfl rfl rfl rfl rfl rfl ?_
 refine R_run hg.ok 1000 rfl rfl ?_
 refine R_lookupB hg.ok (sgOf x.head) m rootKey rfl rfl rfl rfl rfl rfl (by kernel_rfl) ?_
 refine R_run hg.ok 1000 rfl rfl ?_
 refine R_if rfl rfl (fun h => ?_) (fun h => ?_) <;> refine R_run hg.ok 1000 rfl rfl ?_
 ·rw [h, if_pos rfl]
  exact R_retS hg 2 5 (Nat.le_refl _) rfl rfl (congrArg (fun y => [Ob.box [AV.mp 1], y]) (mapOb_b (fun _ => rfl) m))
 ·rw [h, if_neg (by simp)]
  refine R_call hg.ok (closes_ok x hl) rfl rfl rfl rfl rfl rfl ?_
  refine R_run hg.ok 1000 rfl rfl ?_
  refine R_setB hg.ok (sgOf x.head) m (closesB x) rootKey rfl rfl rfl rfl rfl rfl (.refl _) ?_
  refine R_run hg.ok 1000 rfl rfl ?_
  exact R_retS hg 2 5 (Nat.le_refl _) rfl rfl (congrArg (fun y => [Ob.box [AV.mp 1], y]) (mapOb_b (fun _ => rfl) _))

set_option maxRecDepth 100000 in
theorem aliveIs_ok (Y : YP) (lives met : List (Sg × Bool)) (x : Cs) : SCtr Tryz.prog Y 67 [x.av, .lo 1 0, .lo 0 0] (mp2O lives met) (bV (!deadB x || (!lkB met (sgOf x.head) && !lkB lives (sgOf x.head)))) (mp2O lives (stB met (sgOf x.head) true)) := by
 have hend : ∀ (o : List Ob) (m : List (Sg × Bool)), [Ob.box [AV.mp 2], Ob.box [AV.mp 3], Ob.map (kmap (bM lives)), Ob.map (kmap (bM m))].map (mapOb (sealT false 4 o 5)) = mp2O lives m := fun o m => by
  simp only [List.map_cons, List.map_nil, mapOb_b (f := sealT false 4 o 5) (fun _ => rfl)]; rfl
 refine SCtr.of_R (pf := fun _ => .eff) tyOk mixed Tryz.func67 rfl (by kernel_rfl) (by kernel_rfl) (by simp [Tryz.ntmps67]) (by simp [mp2O]) fun w S φ hg => ?_
 refine R_run hg.ok 1000 rfl rfl ?_
 refine R_call hg.ok (rootOf_ok x.head) rfl rfl rfl rfl rfl rfl ?_
 refine R_run hg.ok 1000 rfl rfl ?_
 refine R_lookupB hg.ok (sgOf x.head) met rootKey rfl rfl rfl rfl rfl rfl (by kernel_rfl) ?_
 refine R_run hg.ok 1000 rfl rfl ?_
 refine R_setB hg.ok (sgOf x.head) met true rootKey rfl rfl rfl rfl rfl rfl (.tt) ?_
 refine R_run hg.ok 1000 rfl rfl ?_
 refine R_call hg.ok (cleanDead_ok x) rfl rfl rfl rfl rfl rfl ?_
 refine R_run hg.ok 1000 rfl rfl ?_
 cases hd : deadB x with
 | false =>
  refine R_if rfl rfl (fun _ => ?_) (fun h => absurd h (by simp [hd])) <;> refine R_run hg.ok 1000 rfl rfl ?_
  exact R_retS hg 4 5 (Nat.le_refl _) rfl rfl (hend _ _)
 | true =>
  refine R_if rfl rfl (fun h => absurd h (by simp [hd])) (fun _ => ?_) <;> refine R_run hg.ok 1000 rfl rfl ?_
  cases hm : lkB met (sgOf x.head) with
  | true =>
   refine R_if rfl rfl (fun h => absurd h (by simp [hm])) (fun _ => ?_) <;> refine R_run hg.ok 1000 rfl rfl ?_
   exact R_retS hg 4 5 (Nat.le_refl _) rfl rfl (hend _ _)
  | false =>
   refine R_if rfl rfl (fun _ => ?_) (fun h => absurd h (by simp [hm])) <;> refine R_run hg.ok 1000 rfl rfl ?_
   refine R_lookupB hg.ok (sgOf x.head) lives rootKey rfl rfl rfl rfl rfl rfl (by kernel_rfl) ?_
   refine R_run hg.ok 1000 rfl rfl ?_
   exact R_retS hg 4 5 (Nat.le_refl _) rfl rfl (hend _ _)
end Go.Proofs.YthdpfglpdgmphaaGreat

namespace Go.Proofs.YthdpfglpdgmphaaGreat
open Go PSL Go.Proofs
def rtL (p : Sg) : List Ob := [rtBox p]

set_option maxRecDepth 100000 in
theorem leftIs_ok (Y : YP) (p : Sg) (l : List Cs) (hl : l.length ≤ 1000000)  : SCtr Tryz.prog Y 42 [.d (.sl (Cs.rows l)), .clo 43 [] [.lo 0 0]] (rtL p) (.d (.sl (Cs.rows (l.filter fun c => decide (sgOf c.head = p))))) (rtL p) := by
 refine SCtr.of_R (pf := fun _ => .eff) tyOk mixed Tryz.func42 rfl (by kernel_rfl) (by kernel_rfl) (by simp [Tryz.ntmps42]) (by simp [rtL]) fun w S φ hg => ?_
 have hφ : φ.length = 1 := hg.hs0.len
 refine R_run hg.ok 1000 rfl rfl ?_
 refine R_own 5 6 rfl rfl ?_
 refine R_loop (fun x : Nat × List Cs × Nat × Unit => ([(1, .clo 43 [] [.lo 0 0]), (5, .ow 1 x.2.2.1), (8, .d (.sl (Cs.rows l))), (9, iV l.length), (10, iV x.1)], rtL p ++ [.arr 6 x.2.2.1 (Cs.rows x.2.1)])) (fun x => x.1 ≤ l.length ∧ (l.filter fun c => decide (sgOf c.head = p)) = x.2.1 ++ ((l.drop x.1).filter fun c => decide (sgOf c.head = p)) ∧ x.2.1.length ≤ x.1) (fun x => l.length - x.1) (0, [], 0, ()) ⟨Nat.zero_le _, rfl, Nat.le_refl _⟩ ⟨.refl _, .refl _, .refl _, by rw [Cs.rows_len]; exact .refl _, .refl _, trivial⟩ rfl ?_
 rintro ⟨k, out, j, _⟩ ⟨hk, hm, hl2⟩
 simp only at hk hm hl2
 refine R_run hg.ok 1000 rfl rfl ?_
 refine R_if rfl rfl (fun h => ?_) (fun h => ?_) <;> refine R_run hg.ok 1000 rfl rfl ?_
 ·have hk1 : k < l.length := lt_dec h rfl
  have e1 : l[k]? = some l[k] := List.getElem?_eq_getElem hk1
  have hmem := List.getElem_mem hk1
  rw [List.drop_eq_getElem_cons hk1] at hm
  generalize l[k] = c at e1 hm hmem
  refine R_index hg.ok rfl rfl rfl rfl rfl rfl (Int.natCast_nonneg _) (Cs.rows_get e1) rfl ?_
  refine R_run hg.ok 1000 rfl rfl ?_
  refine R_callSO hg.ok hg.gup hg.wide hg.Y [0] (rtL p ++ [.arr 6 j (Cs.rows out)] ++ [csBox c]) (cleanIs_ok Y p c) (fun _ => rfl) rfl rfl rfl rfl rfl rfl rfl rfl ?_
  refine R_run hg.ok 1000 rfl rfl ?_
  refine R_if rfl rfl (fun h2 => ?_) (fun h2 => ?_) <;> refine R_run hg.ok 1000 rfl rfl ?_
  ·rw [List.filter_cons_of_pos (by simpa using h2)] at hm
   refine R_appendO hg.ok (Cs.rows (out ++ [c])) rfl rfl rfl rfl rfl rfl rfl rfl rfl (by simp) (by simp [one1]) (Cs.rows_snoc out c) (by rw [Cs.rows_len]; simp; omega) (by rw [Cs.rows_len]; simp; omega) ?_
   refine R_run hg.ok 1000 rfl rfl ?_
   refine R_dropO 2 (rtL p ++ [.arr 6 (Nat.succ j) (Cs.rows (out ++ [c]))]) (by show φ.length ≤ _; omega) rfl (rfl) ?_
   exact R_next (k + 1, out ++ [c], Nat.succ j, ()) ⟨hk1, by rw [hm]; simp, by simp only [List.length_append, List.length_singleton]; omega⟩ (by simp only; omega) ⟨.refl _, .refl _, .refl _, .refl _, Ent.wrap (by simp only; omega) (by simp only; omega) (by simp only; omega), trivial⟩ rfl
  ·rw [List.filter_cons_of_neg (by simpa using h2)] at hm
   refine R_dropO 2 (rtL p ++ [.arr 6 j (Cs.rows out)]) (by show φ.length ≤ _; omega) rfl (rfl) ?_
   exact R_next (k + 1, out, j, ()) ⟨hk1, hm, by simp only; omega⟩ (by simp only; omega) ⟨.refl _, .refl _, .refl _, .refl _, Ent.wrap (by simp only; omega) (by simp only; omega) (by simp only; omega), trivial⟩ rfl
 ·have hk1 : l.length ≤ k := ge_dec h rfl
  rw [List.drop_eq_nil_of_le hk1] at hm
  simp only [List.filter_nil, List.append_nil] at hm
  rw [hm]
  exact R_retS hg 1 5 (Nat.le_refl _) rfl (sealT_ow rfl rfl) (rfl)

set_option maxRecDepth 100000 in
theorem leftMet_ok (Y : YP) (m : List (Sg × Bool)) (l : List Cs) (hl : l.length ≤ 1000000)  : SCtr Tryz.prog Y 42 [.d (.sl (Cs.rows l)), .clo 46 [] [.lo 0 0]] (mpO m) (.d (.sl (Cs.rows (l.filter fun c => lkB m (sgOf c.head))))) (mpO m) := by
 refine SCtr.of_R (pf := fun _ => .eff) tyOk mixed Tryz.func42 rfl (by kernel_rfl) (by kernel_rfl) (by simp [Tryz.ntmps42]) (by simp [mpO]) fun w S φ hg => ?_
 have hφ : φ.length = 2 := hg.hs0.len
 refine R_run hg.ok 1000 rfl rfl ?_
 refine R_own 5 6 rfl rfl ?_
 refine R_loop (fun x : Nat × List Cs × Nat × Unit => ([(1, .clo 46 [] [.lo 0 0]), (5, .ow 2 x.2.2.1), (8, .d (.sl (Cs.rows l))), (9, iV l.length), (10, iV x.1)], mpO m ++ [.arr 6 x.2.2.1 (Cs.rows x.2.1)])) (fun x => x.1 ≤ l.length ∧ (l.filter fun c => lkB m (sgOf c.head)) = x.2.1 ++ ((l.drop x.1).filter fun c => lkB m (sgOf c.head)) ∧ x.2.1.length ≤ x.1) (fun x => l.length - x.1) (0, [], 0, ()) ⟨Nat.zero_le _, rfl, Nat.le_refl _⟩ ⟨.refl _, .refl _, .refl _, by rw [Cs.rows_len]; exact .refl _, .refl _, trivial⟩ rfl ?_
 rintro ⟨k, out, j, _⟩ ⟨hk, hm, hl2⟩
 simp only at hk hm hl2
 refine R_run hg.ok 1000 rfl rfl ?_
 refine R_if rfl rfl (fun h => ?_) (fun h => ?_) <;> refine R_run hg.ok 1000 rfl rfl ?_
 ·have hk1 : k < l.length := lt_dec h rfl
  have e1 : l[k]? = some l[k] := List.getElem?_eq_getElem hk1
  have hmem := List.getElem_mem hk1
  rw [List.drop_eq_getElem_cons hk1] at hm
  generalize l[k] = c at e1 hm hmem
  refine R_index hg.ok rfl rfl rfl rfl rfl rfl (Int.natCast_nonneg _) (Cs.rows_get e1) rfl ?_
  refine R_run hg.ok 1000 rfl rfl ?_
  refine R_callSO hg.ok hg.gup hg.wide hg.Y [0, 1] (mpO m ++ [.arr 6 j (Cs.rows out)] ++ [csBox c]) (cleanMet_ok Y m c) (fun _ => rfl) rfl rfl rfl rfl rfl (by simp only [mpO, mp2O, List.map_cons, List.map_nil, renOb_b]; rfl) rfl (by simp only [mpO, mp2O, List.map_cons, List.map_nil, renOb_b]; rfl) ?_
  refine R_run hg.ok 1000 rfl rfl ?_
  refine R_if rfl rfl (fun h2 => ?_) (fun h2 => ?_) <;> refine R_run hg.ok 1000 rfl rfl ?_
  ·rw [List.filter_cons_of_pos (p := fun c : Cs => lkB m (sgOf c.head)) h2] at hm
   refine R_appendO hg.ok (Cs.rows (out ++ [c])) rfl rfl rfl rfl rfl rfl rfl rfl rfl (by simp) (by simp [one1]) (Cs.rows_snoc out c) (by rw [Cs.rows_len]; simp; omega) (by rw [Cs.rows_len]; simp; omega) ?_
   refine R_run hg.ok 1000 rfl rfl ?_
   refine R_dropO 3 (mpO m ++ [.arr 6 (Nat.succ j) (Cs.rows (out ++ [c]))]) (by show φ.length ≤ _; omega) rfl (by simp only [List.take_succ_cons, List.take_zero, List.map_cons, List.map_nil, mapOb_b (f := trimA 3) (fun _ => rfl)]; rfl) ?_
   exact R_next (k + 1, out ++ [c], Nat.succ j, ()) ⟨hk1, by rw [hm]; simp, by simp only [List.length_append, List.length_singleton]; omega⟩ (by simp only; omega) ⟨.refl _, .refl _, .refl _, .refl _, Ent.wrap (by simp only; omega) (by simp only; omega) (by simp only; omega), trivial⟩ rfl
  ·rw [List.filter_cons_of_neg (p := fun c : Cs => lkB m (sgOf c.head)) (by rw [h2]; simp)] at hm
   refine R_dropO 3 (mpO m ++ [.arr 6 j (Cs.rows out)]) (by show φ.length ≤ _; omega) rfl (by simp only [List.take_succ_cons, List.take_zero, List.map_cons, List.map_nil, mapOb_b (f := trimA 3) (fun _ => rfl)]; rfl) ?_
   exact R_next (k + 1, out, j, ()) ⟨hk1, hm, by simp only; omega⟩ (by simp only; omega) ⟨.refl _, .refl _, .refl _, .refl _, Ent.wrap (by simp only; omega) (by simp only; omega) (by simp only; omega), trivial⟩ rfl
 ·have hk1 : l.length ≤ k := ge_dec h rfl
  rw [List.drop_eq_nil_of_le hk1] at hm
  simp only [List.filter_nil, List.append_nil] at hm
  rw [hm]
  exact R_retS hg 2 5 (Nat.le_refl _) rfl (sealT_ow rfl rfl) (cong2 (mapOb_b (fun _ => rfl) _))

set_option maxRecDepth 100000 in
theorem leftOpen_ok (Y : YP) (m : List (Sg × Bool)) (l : List Cs) (hl : l.length ≤ 1000000) (hh : ∀ c ∈ l, c.head.l.length ≤ 1000000) : SCtr Tryz.prog Y 42 [.d (.sl (Cs.rows l)), .clo 68 [] [.lo 0 0]] (mpO m) (.d (.sl (Cs.rows (openG m l)))) (mpO (openM m l)) := by
 refine SCtr.of_R (pf := fun _ => .eff) tyOk mixed Tryz.func42 rfl (by kernel_rfl) (by kernel_rfl) (by simp [Tryz.ntmps42]) (by simp [mpO]) fun w S φ hg => ?_
 have hφ : φ.length = 2 := hg.hs0.len
 refine R_run hg.ok 1000 rfl rfl ?_
 refine R_own 5 6 rfl rfl ?_
 refine R_loop (fun x : Nat × List Cs × Nat × List (Sg × Bool) => ([(1, .clo 68 [] [.lo 0 0]), (5, .ow 2 x.2.2.1), (8, .d (.sl (Cs.rows l))), (9, iV l.length), (10, iV x.1)], mpO x.2.2.2 ++ [.arr 6 x.2.2.1 (Cs.rows x.2.1)])) (fun x => x.1 ≤ l.length ∧ (openG m l) = x.2.1 ++ (openG x.2.2.2 (l.drop x.1)) ∧ openM m l = openM x.2.2.2 (l.drop x.1) ∧ x.2.1.length ≤ x.1) (fun x => l.length - x.1) (0, [], 0, m) ⟨Nat.zero_le _, rfl, rfl, Nat.le_refl _⟩ ⟨.refl _, .refl _, .refl _, by rw [Cs.rows_len]; exact .refl _, .refl _, trivial⟩ rfl ?_
 rintro ⟨k, out, j, s⟩ ⟨hk, hm, hf, hl2⟩
 simp only at hk hm hl2 hf
 refine R_run hg.ok 1000 rfl rfl ?_
 refine R_if rfl rfl (fun h => ?_) (fun h => ?_) <;> refine R_run hg.ok 1000 rfl rfl ?_
 ·have hk1 : k < l.length := lt_dec h rfl
  have e1 : l[k]? = some l[k] := List.getElem?_eq_getElem hk1
  have hmem := List.getElem_mem hk1
  rw [List.drop_eq_getElem_cons hk1] at hm hf
  generalize l[k] = c at e1 hm hmem hf
  refine R_index hg.ok rfl rfl rfl rfl rfl rfl (Int.natCast_nonneg _) (Cs.rows_get e1) rfl ?_
  refine R_run hg.ok 1000 rfl rfl ?_
  refine R_callSO hg.ok hg.gup hg.wide hg.Y [0, 1] (mpO (if lkB s (sgOf c.head) then s else stB s (sgOf c.head) (closesB c)) ++ [.arr 6 j (Cs.rows out)] ++ [csBox c]) (openIs_ok Y s c (hh c hmem)) (fun _ => rfl) rfl rfl rfl rfl rfl (by simp only [mpO, mp2O, List.map_cons, List.map_nil, renOb_b]; rfl) rfl (by simp only [mpO, mp2O, List.map_cons, List.map_nil, renOb_b]; rfl) ?_
  refine R_run hg.ok 1000 rfl rfl ?_
  refine R_if rfl rfl (fun h2 => ?_) (fun h2 => ?_) <;> refine R_run hg.ok 1000 rfl rfl ?_
  ·have h3 : lkB s (sgOf c.head) = false := by simpa using h2
   rw [if_neg (show ¬ (lkB s (sgOf c.head) = true) by rw [h3]; simp)]
   simp only [openG, openM, h3, Bool.false_eq_true, if_false] at hm hf
   refine R_appendO hg.ok (Cs.rows (out ++ [c])) rfl rfl rfl rfl rfl rfl rfl rfl rfl (by simp) (by simp [one1]) (Cs.rows_snoc out c) (by rw [Cs.rows_len]; simp; omega) (by rw [Cs.rows_len]; simp; omega) ?_
   refine R_run hg.ok 1000 rfl rfl ?_
   refine R_dropO 3 (mpO (stB s (sgOf c.head) (closesB c)) ++ [.arr 6 (Nat.succ j) (Cs.rows (out ++ [c]))]) (by show φ.length ≤ _; omega) rfl (by simp only [List.take_succ_cons, List.take_zero, List.map_cons, List.map_nil, mapOb_b (f := trimA 3) (fun _ => rfl)]; rfl) ?_
   exact R_next (k + 1, out ++ [c], Nat.succ j, (stB s (sgOf c.head) (closesB c))) ⟨hk1, by rw [hm]; simp, hf, by simp only [List.length_append, List.length_singleton]; omega⟩ (by simp only; omega) ⟨.refl _, .refl _, .refl _, .refl _, Ent.wrap (by simp only; omega) (by simp only; omega) (by simp only; omega), trivial⟩ rfl
  ·have h3 : lkB s (sgOf c.head) = true := by simpa using h2
   rw [if_pos h3]
   simp only [openG, openM, h3, if_true] at hm hf
   refine R_dropO 3 (mpO s ++ [.arr 6 j (Cs.rows out)]) (by show φ.length ≤ _; omega) rfl (by simp only [List.take_succ_cons, List.take_zero, List.map_cons, List.map_nil, mapOb_b (f := trimA 3) (fun _ => rfl)]; rfl) ?_
   exact R_next (k + 1, out, j, s) ⟨hk1, hm, hf, by simp only; omega⟩ (by simp only; omega) ⟨.refl _, .refl _, .refl _, .refl _, Ent.wrap (by simp only; omega) (by simp only; omega) (by simp only; omega), trivial⟩ rfl
 ·have hk1 : l.length ≤ k := ge_dec h rfl
  rw [List.drop_eq_nil_of_le hk1] at hm hf
  simp only [openG, openM, aliveG, aliveM, List.append_nil] at hm hf
  rw [hm, hf]
  exact R_retS hg 2 5 (Nat.le_refl _) rfl (sealT_ow rfl rfl) (cong2 (mapOb_b (fun _ => rfl) _))

set_option maxRecDepth 100000 in
theorem leftAlive_ok (Y : YP) (lives met : List (Sg × Bool)) (l : List Cs) (hl : l.length ≤ 1000000)  : SCtr Tryz.prog Y 42 [.d (.sl (Cs.rows l)), .clo 67 [] [.lo 1 0, .lo 0 0]] (mp2O lives met) (.d (.sl (Cs.rows (aliveG lives met l)))) (mp2O lives (aliveM met l)) := by
 refine SCtr.of_R (pf := fun _ => .eff) tyOk mixed Tryz.func42 rfl (by kernel_rfl) (by kernel_rfl) (by simp [Tryz.ntmps42]) (by simp [mp2O]) fun w S φ hg => ?_
 have hφ : φ.length = 4 := hg.hs0.len
 refine R_run hg.ok 1000 rfl rfl ?_
 refine R_own 5 6 rfl rfl ?_
 refine R_loop (fun x : Nat × List Cs × Nat × List (Sg × Bool) => ([(1, .clo 67 [] [.lo 1 0, .lo 0 0]), (5, .ow 4 x.2.2.1), (8, .d (.sl (Cs.rows l))), (9, iV l.length), (10, iV x.1)], mp2O lives x.2.2.2 ++ [.arr 6 x.2.2.1 (Cs.rows x.2.1)])) (fun x => x.1 ≤ l.length ∧ (aliveG lives met l) = x.2.1 ++ (aliveG lives x.2.2.2 (l.drop x.1)) ∧ aliveM met l = aliveM x.2.2.2 (l.drop x.1) ∧ x.2.1.length ≤ x.1) (fun x => l.length - x.1) (0, [], 0, met) ⟨Nat.zero_le _, rfl, rfl, Nat.le_refl _⟩ ⟨.refl _, .refl _, .refl _, by rw [Cs.rows_len]; exact .refl _, .refl _, trivial⟩ rfl ?_
 rintro ⟨k, out, j, s⟩ ⟨hk, hm, hf, hl2⟩
 simp only at hk hm hl2 hf
 refine R_run hg.ok 1000 rfl rfl ?_
 refine R_if rfl rfl (fun h => ?_) (fun h => ?_) <;> refine R_run hg.ok 1000 rfl rfl ?_
 ·have hk1 : k < l.length := lt_dec h rfl
  have e1 : l[k]? = some l[k] := List.getElem?_eq_getElem hk1
  have hmem := List.getElem_mem hk1
  rw [List.drop_eq_getElem_cons hk1] at hm hf
  generalize l[k] = c at e1 hm hmem hf
  refine R_index hg.ok rfl rfl rfl rfl rfl rfl (Int.natCast_nonneg _) (Cs.rows_get e1) rfl ?_
  refine R_run hg.ok 1000 rfl rfl ?_
  refine R_callSO hg.ok hg.gup hg.wide hg.Y [0, 1, 2, 3] (mp2O lives (stB s (sgOf c.head) true) ++ [.arr 6 j (Cs.rows out)] ++ [csBox c]) (aliveIs_ok Y lives s c) (fun _ => rfl) rfl rfl rfl rfl rfl (by simp only [mpO, mp2O, List.map_cons, List.map_nil, renOb_b]; rfl) rfl (by simp only [mpO, mp2O, List.map_cons, List.map_nil, renOb_b]; rfl) ?_
  refine R_run hg.ok 1000 rfl rfl ?_
  refine R_if rfl rfl (fun h2 => ?_) (fun h2 => ?_) <;> refine R_run hg.ok 1000 rfl rfl ?_
  ·simp only [aliveG, aliveM, h2, if_true] at hm hf
   refine R_appendO hg.ok (Cs.rows (out ++ [c])) rfl rfl rfl rfl rfl rfl rfl rfl rfl (by simp) (by simp [one1]) (Cs.rows_snoc out c) (by rw [Cs.rows_len]; simp; omega) (by rw [Cs.rows_len]; simp; omega) ?_
   refine R_run hg.ok 1000 rfl rfl ?_
   refine R_dropO 5 (mp2O lives (stB s (sgOf c.head) true) ++ [.arr 6 (Nat.succ j) (Cs.rows (out ++ [c]))]) (by show φ.length ≤ _; omega) rfl (by simp only [List.take_succ_cons, List.take_zero, List.map_cons, List.map_nil, mapOb_b (f := trimA 5) (fun _ => rfl)]; rfl) ?_
   exact R_next (k + 1, out ++ [c], Nat.succ j, (stB s (sgOf c.head) true)) ⟨hk1, by rw [hm]; simp, hf, by simp only [List.length_append, List.length_singleton]; omega⟩ (by simp only; omega) ⟨.refl _, .refl _, .refl _, .refl _, Ent.wrap (by simp only; omega) (by simp only; omega) (by simp only; omega), trivial⟩ rfl
  ·simp only [aliveG, aliveM, h2, Bool.false_eq_true, if_false] at hm hf
   refine R_dropO 5 (mp2O lives (stB s (sgOf c.head) true) ++ [.arr 6 j (Cs.rows out)]) (by show φ.length ≤ _; omega) rfl (by simp only [List.take_succ_cons, List.take_zero, List.map_cons, List.map_nil, mapOb_b (f := trimA 5) (fun _ => rfl)]; rfl) ?_
   exact R_next (k + 1, out, j, (stB s (sgOf c.head) true)) ⟨hk1, hm, hf, by simp only; omega⟩ (by simp only; omega) ⟨.refl _, .refl _, .refl _, .refl _, Ent.wrap (by simp only; omega) (by simp only; omega) (by simp only; omega), trivial⟩ rfl
 ·have hk1 : l.length ≤ k := ge_dec h rfl
  rw [List.drop_eq_nil_of_le hk1] at hm hf
  simp only [openG, openM, aliveG, aliveM, List.append_nil] at hm hf
  rw [hm, hf]
  exact R_retS hg 4 5 (Nat.le_refl _) rfl (sealT_ow rfl rfl) (cong4 (mapOb_b (fun _ => rfl) _) (mapOb_b (fun _ => rfl) _))
end Go.Proofs.YthdpfglpdgmphaaGreat

namespace Go.Proofs.YthdpfglpdgmphaaGreat
open Go PSL Go.Proofs

set_option maxRecDepth 100000 in
theorem cleanOpen_ok (l : List Cs) (hl : l.length ≤ 1000000) (hh : ∀ c ∈ l, c.head.l.length ≤ 1000000) : PCtr Tryz.prog 45 [.d (.sl (Cs.rows l))] (.d (.sl (Cs.rows (openG [] l)))) := by
 refine PCtr.of_R (pf := fun _ => .eff) tyOk mixed Tryz.func45 rfl (by kernel_rfl) (by kernel_rfl) (by simp [Tryz.ntmps45]) fun w S hg => ?_
 refine R_run hg.ok 1000 rfl rfl ?_
 refine R_makeMap hg.ok rfl rfl ?_
 refine R_run hg.ok 1000 rfl rfl ?_
 refine R_callSO hg.ok hg.gup ⟨rfl, rfl⟩ (fun _ _ _ _ h => by cases h) [1, 0] ([.map (kmap (bM (openM [] l))), .box [.mp 0]]) (leftOpen_ok ⟨[], fun _ => true⟩ [] l hl hh) (fun _ => rfl) rfl rfl rfl rfl rfl rfl rfl (by simp only [mpO, List.map_cons, List.map_nil, renOb_b]; rfl) ?_
 refine R_run hg.ok 1000 rfl rfl ?_
 refine R_ret hg 5 rfl rfl ?_
 rfl

set_option maxRecDepth 100000 in
theorem cleanAlive_ok (l : List Cs) (hl : l.length ≤ 1000000) : PCtr Tryz.prog 44 [.d (.sl (Cs.rows l))] (.d (.sl (Cs.rows (aliveG (livesG [] l) [] l)))) := by
 refine PCtr.of_R (pf := fun f => bif Nat.beq f 42 then .eff else .still) tyOk mixed Tryz.func44 rfl (by kernel_rfl) (by kernel_rfl) (by simp [Tryz.ntmps44]) fun w S hg => ?_
 refine R_run hg.ok 1000 rfl rfl ?_
 refine R_makeMap hg.ok rfl rfl ?_
 refine R_run hg.ok 1000 rfl rfl ?_
 refine R_makeMap hg.ok rfl rfl ?_
 refine R_run hg.ok 1000 rfl rfl ?_
 refine R_loop (fun x : Nat × List (Sg × Bool) => ([(0, .d (.sl (Cs.rows l))), (3, .lo 2 0), (4, .lo 3 0), (9, .d (.sl (Cs.rows l))), (10, iV l.length), (11, iV x.1)], [.map (kmap (bM x.2)), .map (kmap (bM [])), .box [.mp 0], .box [.mp 1]])) (fun x => x.1 ≤ l.length ∧ livesG [] l = livesG x.2 (l.drop x.1)) (fun x => l.length - x.1) (0, []) ⟨Nat.zero_le _, rfl⟩ ⟨.refl _, .refl _, .refl _, .refl _, by rw [Cs.rows_len]; exact .refl _, .refl _, trivial⟩ rfl ?_
 rintro ⟨k, m⟩ ⟨hk, hm⟩
 simp only at hk hm
 refine R_run hg.ok 1000 rfl rfl ?_
 refine R_if rfl rfl (fun h => ?_) (fun h => ?_) <;> refine R_run hg.ok 1000 rfl rfl ?_
 ·have hk1 : k < l.length := lt_dec h rfl
  have e1 : l[k]? = some l[k] := List.getElem?_eq_getElem hk1
  rw [List.drop_eq_getElem_cons hk1, livesG] at hm
  generalize l[k] = c at e1 hm
  refine R_index hg.ok rfl rfl rfl rfl rfl rfl (Int.natCast_nonneg _) (Cs.rows_get e1) rfl ?_
  refine R_run hg.ok 1000 rfl rfl ?_
  refine R_call hg.ok (rootOf_ok c.head) rfl rfl rfl rfl rfl rfl ?_
  refine R_run hg.ok 1000 rfl rfl ?_
  refine R_call hg.ok (rootOf_ok c.head) rfl rfl rfl rfl rfl rfl ?_
  refine R_run hg.ok 1000 rfl rfl ?_
  refine R_lookupB hg.ok (sgOf c.head) m rootKey rfl rfl rfl rfl rfl rfl (by kernel_rfl) ?_
  refine R_run hg.ok 1000 rfl rfl ?_
  refine R_cut1 (fun _ : Unit => ([(0, .d (.sl (Cs.rows l))), (3, .lo 2 0), (4, .lo 3 0), (9, .d (.sl (Cs.rows l))), (10, iV l.length), (11, iV k)], [.map (kmap (bM (stB m (sgOf c.head) (lkB m (sgOf c.head) || !deadB c)))), .map (kmap (bM [])), .box [.mp 0], .box [.mp 1], csBox c])) (fun _ => True) rfl ?_ ?_
  ·cases hm2 : lkB m (sgOf c.head) with
   | false =>
    refine R_if rfl rfl (fun h => absurd h (by simp [hm2])) (fun _ => ?_) <;> refine R_run hg.ok 1000 rfl rfl ?_
    refine R_call hg.ok (cleanDead_ok c) rfl rfl rfl rfl rfl rfl ?_
    refine R_run hg.ok 1000 rfl rfl ?_
    refine R_setB hg.ok (sgOf c.head) m (!deadB c) rootKey rfl rfl rfl rfl rfl rfl (.refl _) ?_
    refine R_run hg.ok 1000 rfl rfl ?_
    exact R_to () trivial ⟨.refl _, .refl _, .refl _, .refl _, .refl _, .refl _, trivial⟩ rfl
   | true =>
    refine R_if rfl rfl (fun _ => ?_) (fun h => absurd h (by simp [hm2])) <;> refine R_run hg.ok 1000 rfl rfl ?_
    refine R_setB hg.ok (sgOf c.head) m true rootKey rfl rfl rfl rfl rfl rfl (by first | exact .tt | exact .refl _) ?_
    refine R_run hg.ok 1000 rfl rfl ?_
    exact R_to () trivial ⟨.refl _, .refl _, .refl _, .refl _, .refl _, .refl _, trivial⟩ rfl
  rintro _ _
  refine R_run hg.ok 1000 rfl rfl ?_
  refine R_dropO 4 [.map (kmap (bM (stB m (sgOf c.head) (lkB m (sgOf c.head) || !deadB c)))), .map (kmap (bM [])), .box [.mp 0], .box [.mp 1]] (Nat.zero_le _) rfl (by simp only [List.take_succ_cons, List.take_zero, List.map_cons, List.map_nil, mapOb_b (f := trimA 4) (fun _ => rfl)]; rfl) ?_
  exact R_next (k + 1, stB m (sgOf c.head) (lkB m (sgOf c.head) || !deadB c)) ⟨hk1, hm⟩ (by simp only; omega) ⟨.refl _, .refl _, .refl _, .refl _, .refl _, Ent.wrap (by simp only; omega) (by simp only; omega) (by simp only; omega), trivial⟩ rfl
 ·have hk1 : l.length ≤ k := ge_dec h rfl
  rw [List.drop_eq_nil_of_le hk1] at hm
  simp only [livesG] at hm
  rw [← hm]
  refine R_callSO hg.ok hg.gup ⟨rfl, rfl⟩ (fun _ _ _ _ h => by cases h) [2, 3, 0, 1] ([.map (kmap (bM (livesG [] l))), .map (kmap (bM (aliveM [] l))), .box [.mp 0], .box [.mp 1]]) (leftAlive_ok ⟨[], fun _ => true⟩ (livesG [] l) [] l hl) (fun _ => rfl) rfl rfl rfl rfl rfl (by simp only [mp2O, List.map_cons, List.map_nil, renOb_b]; rfl) rfl (by simp only [mp2O, List.map_cons, List.map_nil, renOb_b]; rfl) ?_
  refine R_run hg.ok 1000 rfl rfl ?_
  refine R_ret hg 5 rfl rfl ?_
  rfl
def sgR (l : List Sg) : List (List D) := l.map fun p => [.v (.string p.1), .v (.int .i64 p.2)]
theorem sgR_len (l : List Sg) : (sgR l).length = l.length := by simp [sgR]
theorem sgR_get {l : List Sg} {i : Nat} {x : Sg} (h : l[i]? = some x) : (sgR l)[i]? = some [.v (.string x.1), .v (.int .i64 x.2)] := by simp [sgR, h]
theorem sgR_snoc (l : List Sg) (p : Sg) : sgR l ++ [[.v (.string p.1), .v (.int .i64 p.2)]] = sgR (l ++ [p]) := by simp [sgR]
def tdO (s : Nat) (todo : List Sg) : List Ob := [.box [.ow 1 s], .arr 2 s (sgR todo)]

set_option maxRecDepth 100000 in
theorem reachSee_ok (Y : YP) (s : Nat) (todo : List Sg) (p : Sg) (hl : todo.length ≤ 1000000) : SCtr Tryz.prog Y 64 [sgA p, .lo 0 0] (tdO s todo) (.tup []) (tdO (Nat.succ s) (todo ++ [p])) := by
 unfold sgA
 refine SCtr.of_R (pf := fun _ => .eff) tyOk mixed Tryz.func64 rfl (by kernel_rfl) (by kernel_rfl) (by simp [Tryz.ntmps64]) (by simp [tdO]) fun w S φ hg => ?_
 have hφ : φ.length = 2 := hg.hs0.len
 refine R_run hg.ok 1000 rfl rfl ?_
 refine R_appendO hg.ok (sgR (todo ++ [p])) rfl rfl rfl rfl rfl rfl rfl rfl rfl (by simp) (by simp [one1]) (sgR_snoc todo p) (by rw [sgR_len]; simp; omega) (by rw [sgR_len]; simp; omega) ?_
 refine R_run hg.ok 1000 rfl rfl ?_
 exact R_endS hg 2 5 (Nat.le_refl _) rfl rfl rfl
end Go.Proofs.YthdpfglpdgmphaaGreat

namespace Go.Proofs.YthdpfglpdgmphaaGreat
open Go PSL Go.Proofs

theorem callsS_cons (g : Gl) (r : List Gl) : callsS (g :: r) = (if g.k = 1 then [sgOf g.t] else []) ++ callsS g.a ++ callsS g.b ++ callsS g.c ++ callsS r := by
 unfold callsS
 simp only [callsT, calls1_eq, List.map_append]
 split <;> rfl
theorem callsS_len (l : List Gl) : (callsS l).length ≤ Gl.sizeL l := by unfold callsS; rw [List.length_map]; exact callsT_len l

def SeeG (Y : YP) (l : List Gl) : Prop := ∀ (s : Nat) (todo : List Sg), todo.length + Gl.sizeL l ≤ 1000000 →
 SCtr Tryz.prog Y 63 [.d (.sl (Gl.rows l)), .clo 64 [] [.lo 0 0]] (tdO s todo) (.tup []) (tdO (s + (callsS l).length) (todo ++ callsS l))

set_option maxRecDepth 100000 in
theorem cleanCalls_ok (Y : YP) (l : List Gl) : SeeG Y l := by
 refine Gl.indL (p := SeeG Y) (fun l hsub => ?_) l
 intro s todo hb
 have hlen := Gl.len_size l
 have hcl := callsS_len l
 refine SCtr.of_R (pf := fun _ => .eff) tyOk mixed Tryz.func63 rfl (by kernel_rfl) (by kernel_rfl) (by simp [Tryz.ntmps63]) (by simp [tdO]) fun w S φ hg => ?_
 have hφ : φ.length = 2 := hg.hs0.len
 refine R_run hg.ok 1000 rfl rfl ?_
 refine R_loop (fun x : Nat × Nat × List Sg => ([(1, .clo 64 [] [.lo 0 0]), (6, .d (.sl (Gl.rows l))), (7, iV l.length), (8, iV x.1)], tdO x.2.1 x.2.2)) (fun x => x.1 ≤ l.length ∧ todo ++ callsS l = x.2.2 ++ callsS (l.drop x.1) ∧ s + (callsS l).length = x.2.1 + (callsS (l.drop x.1)).length ∧ x.2.2.length + Gl.sizeL (l.drop x.1) ≤ 1000000) (fun x => l.length - x.1) (0, s, todo) ⟨Nat.zero_le _, rfl, rfl, hb⟩ ⟨.refl _, .refl _, by rw [Gl.rows_length]; exact .refl _, .refl _, trivial⟩ rfl ?_
 rintro ⟨k, j, td⟩ ⟨hk, hm, hs, hb2⟩
 simp only at hk hm hs hb2
 refine R_run hg.ok 1000 rfl rfl ?_
 refine R_if rfl rfl (fun h => ?_) (fun h => ?_) <;> refine R_run hg.ok 1000 rfl rfl ?_
 ·have hk1 : k < l.length := lt_dec h rfl
  have e1 : l[k]? = some l[k] := List.getElem?_eq_getElem hk1
  have hmem := List.getElem_mem hk1
  rw [List.drop_eq_getElem_cons hk1] at hm hs hb2
  generalize l[k] = g at e1 hm hs hmem hb2
  simp only [Gl.sizeL] at hb2
  have hsz := Gl.size_mem hmem
  have hge := Gl.size_eq g
  have htp := Gl.tmPos g.t
  obtain ⟨sa, sb, sc⟩ := hsub g hmem
  have hL := congrArg List.length hm
  rw [callsS_cons] at hm hs hL
  simp only [List.length_append] at hL hs
  have h1 : (if g.k = 1 then [sgOf g.t] else []).length ≤ 1 := by split <;> simp
  refine R_index hg.ok rfl rfl rfl rfl rfl rfl (Int.natCast_nonneg _) (Gl.rows_get e1) rfl ?_
  refine R_run hg.ok 1000 rfl rfl ?_
  refine R_cut1 (fun x : Nat × List Sg => ([(1, .clo 64 [] [.lo 0 0]), (5, .lo 2 0), (6, .d (.sl (Gl.rows l))), (7, iV l.length), (8, iV k)], tdO x.1 x.2 ++ [glBox g])) (fun x => x.1 = j + (if g.k = 1 then [sgOf g.t] else []).length ∧ x.2 = td ++ (if g.k = 1 then [sgOf g.t] else [])) rfl ?_ ?_
  ·by_cases c1 : g.k = 1
   ·refine R_if rfl rfl (fun _ => ?_) (fun h => absurd h (by simp [c1])) <;> refine R_run hg.ok 1000 rfl rfl ?_
    refine R_call hg.ok (rootOf_ok g.t) rfl rfl rfl rfl rfl rfl ?_
    refine R_run hg.ok 1000 rfl rfl ?_
    refine R_callSO hg.ok hg.gup hg.wide hg.Y [0, 1] (tdO (Nat.succ j) (td ++ [sgOf g.t]) ++ [glBox g]) (reachSee_ok Y j td (sgOf g.t) (by omega)) (fun _ => rfl) rfl rfl rfl rfl rfl rfl rfl rfl ?_
    refine R_run hg.ok 1000 rfl rfl ?_
    exact R_to (Nat.succ j, td ++ [sgOf g.t]) ⟨by rw [if_pos c1]; rfl, by rw [if_pos c1]⟩ ⟨.refl _, .refl _, .refl _, .refl _, .refl _, trivial⟩ rfl
   ·refine R_if rfl rfl (fun h => absurd h (by simp [c1])) (fun _ => ?_) <;> refine R_run hg.ok 1000 rfl rfl ?_
    exact R_to (j, td) ⟨by rw [if_neg c1]; rfl, by rw [if_neg c1]; simp⟩ ⟨.refl _, .refl _, .refl _, .refl _, .refl _, trivial⟩ rfl
  ·rintro ⟨j1, td1⟩ ⟨ej, et⟩
   simp only at ej et
   have hl1 : td1.length = td.length + (if g.k = 1 then [sgOf g.t] else []).length := by rw [et, List.length_append]
   have la := callsS_len g.a
   have lb := callsS_len g.b
   have lc := callsS_len g.c
   refine R_run hg.ok 1000 rfl rfl ?_
   refine R_callSO hg.ok hg.gup hg.wide hg.Y [0, 1] (tdO (j1 + (callsS g.a).length) (td1 ++ callsS g.a) ++ [glBox g]) (sa j1 td1 (by omega)) (fun _ => rfl) rfl rfl rfl rfl rfl rfl rfl rfl ?_
   refine R_run hg.ok 1000 rfl rfl ?_
   refine R_callSO hg.ok hg.gup hg.wide hg.Y [0, 1] (tdO (j1 + (callsS g.a).length + (callsS g.b).length) (td1 ++ callsS g.a ++ callsS g.b) ++ [glBox g]) (sb (j1 + (callsS g.a).length) (td1 ++ callsS g.a) (by rw [List.length_append]; omega)) (fun _ => rfl) rfl rfl rfl rfl rfl rfl rfl rfl ?_
   refine R_run hg.ok 1000 rfl rfl ?_
   refine R_callSO hg.ok hg.gup hg.wide hg.Y [0, 1] (tdO (j1 + (callsS g.a).length + (callsS g.b).length + (callsS g.c).length) (td1 ++ callsS g.a ++ callsS g.b ++ callsS g.c) ++ [glBox g]) (sc (j1 + (callsS g.a).length + (callsS g.b).length) (td1 ++ callsS g.a ++ callsS g.b) (by simp only [List.length_append]; omega)) (fun _ => rfl) rfl rfl rfl rfl rfl rfl rfl rfl ?_
   refine R_run hg.ok 1000 rfl rfl ?_
   refine R_dropO 2 (tdO (j1 + (callsS g.a).length + (callsS g.b).length + (callsS g.c).length) (td1 ++ callsS g.a ++ callsS g.b ++ callsS g.c)) (by show φ.length ≤ _; omega) rfl rfl ?_
   exact R_next (k + 1, j1 + (callsS g.a).length + (callsS g.b).length + (callsS g.c).length, td1 ++ callsS g.a ++ callsS g.b ++ callsS g.c) ⟨hk1, by rw [hm, et]; simp, by simp only; omega, by simp only [List.length_append]; omega⟩ (by simp only; omega) ⟨.refl _, .refl _, .refl _, Ent.wrap (by simp only; omega) (by simp only; omega) (by simp only; omega), trivial⟩ rfl
 ·have hk1 : l.length ≤ k := ge_dec h rfl
  rw [List.drop_eq_nil_of_le hk1] at hm hs
  have e2 : callsS ([] : List Gl) = [] := rfl
  rw [e2] at hm hs
  simp only [List.append_nil, List.length_nil, Nat.add_zero] at hm hs
  rw [hm, hs]
  exact R_endS hg 2 5 (Nat.le_refl _) rfl rfl rfl
end Go.Proofs.YthdpfglpdgmphaaGreat

namespace Go.Proofs.YthdpfglpdgmphaaGreat
open Go PSL Go.Proofs
def pfRch : Nat → Cls := fun f => bif Nat.beq f 4800100000 then .turn 100 else bif Nat.beq f 4000000005 then .turn 0 else bif Nat.beq f 4000000004 then .turn 1 else bif Nat.beq f 63 then .eff else .still

theorem sgR_two (l : List Sg) : ∀ r ∈ sgR l, r.length = 2 := fun r hr => by
 obtain ⟨p, _, rfl⟩ := List.mem_map.1 hr; rfl

theorem sgR_one (l : List Sg) : ∀ r ∈ sgR l, ∀ x ∈ r, one1 (.d x) = true := fun r hr x hx => by
 obtain ⟨p, _, rfl⟩ := List.mem_map.1 hr
 simp only [List.mem_cons, List.not_mem_nil, or_false] at hx
 rcases hx with rfl | rfl <;> rfl

set_option maxHeartbeats 4000000 in
set_option maxRecDepth 100000 in
theorem reach_ok (Y : YP) (l : List Cs) (roots : List Sg) (hl : l.length ≤ 1000000) (hM : roots.length + cost [] l ≤ 500000) (hb : ∀ c ∈ l, Gl.sizeL c.body ≤ 500000) : SCtr Tryz.prog Y 38 [.d (.sl (Cs.rows l)), .d (.sl (sgR roots))] [] (.mp 0) [.map (kmap (bM (tt (reachL l roots))))] := by
 refine SCtr.of_R (pf := pfRch) tyOk mixed Tryz.func38 rfl (by kernel_rfl) (by kernel_rfl) (by simp [Tryz.ntmps38]) (by simp [tdO]) fun w S φ hg => ?_
 have hφ : φ.length = 0 := hg.hs0.len
 refine R_run hg.ok 1000 rfl rfl ?_
 refine R_makeMap hg.ok rfl rfl ?_
 refine R_run hg.ok 1000 rfl rfl ?_
 refine R_buildO hg.ok [] rfl rfl rfl rfl rfl rfl rfl rfl (by simp) (by simp) ?_
 refine R_run hg.ok 1000 rfl rfl ?_
 refine R_appendO hg.ok (sgR roots) rfl rfl rfl rfl rfl rfl rfl rfl rfl (sgR_two roots) (sgR_one roots) rfl (by rw [sgR_len]; simp; omega) (by rw [sgR_len]; simp; omega) ?_
 refine R_run hg.ok 1000 rfl rfl ?_
 refine R_loop (fun x : List Sg × List Sg × Nat => ([(0, .d (.sl (Cs.rows l))), (5, .mp 0), (6, .lo 2 0)], [.map (kmap (bM (tt x.2.1))), .arr 2 x.2.2 (sgR x.1), .box [.ow 1 x.2.2]])) (fun x => reachL l roots = reachG l (roots.length + cost [] l + 1) x.1 x.2.1 ∧ x.1.length + cost x.2.1 l ≤ roots.length + cost [] l) (fun x => x.1.length + cost x.2.1 l) (roots, [], 1) ⟨rfl, Nat.le_refl _⟩ ⟨.refl _, .refl _, .refl _, trivial⟩ rfl ?_
 rintro ⟨todo, met, s⟩ ⟨hm, hb2⟩
 simp only at hm hb2
 refine R_run hg.ok 1000 rfl rfl ?_
 refine R_lenO hg.ok rfl rfl rfl rfl rfl (n := (todo.length : Int)) (by rw [sgR_len]) ?_
 refine R_run hg.ok 1000 rfl rfl ?_
 refine R_if rfl rfl (fun h => ?_) (fun h => ?_) <;> refine R_run hg.ok 1000 rfl rfl ?_
 ·have hsp : ∃ td r, todo = td ++ [r] := by
   rcases List.eq_nil_or_concat todo with rfl | ⟨td, r, e⟩
   ·simp at h
   ·exact ⟨td, r, by rw [e]; simp⟩
  obtain ⟨td, r, rfl⟩ := hsp
  have htl : (td ++ [r]).length = td.length + 1 := by simp
  rw [htl] at hb2
  rw [reachG_snoc] at hm
  refine R_lenO hg.ok rfl rfl rfl rfl rfl (n := ((td.length + 1 : Nat) : Int)) (by rw [sgR_len]; simp) ?_
  refine R_run hg.ok 1000 rfl rfl ?_
  rw [w64 (n := ((td.length + 1 : Nat) : Int) - 1) (by omega) (by omega), show ((td.length + 1 : Nat) : Int) - 1 = (td.length : Int) by omega]
  refine R_indexO hg.ok rfl rfl rfl rfl rfl rfl rfl rfl rfl (Int.natCast_nonneg td.length) (by rw [sgR_len]; simp) ?_
  refine R_run hg.ok 1000 rfl rfl ?_
  refine R_loadE hg.ok rfl rfl rfl rfl rfl rfl (sgR_get (x := r) (by simp)) rfl ?_
  refine R_run hg.ok 1000 rfl rfl ?_
  refine R_lenO hg.ok rfl rfl rfl rfl rfl (n := ((td.length + 1 : Nat) : Int)) (by rw [sgR_len]; simp) ?_
  refine R_run hg.ok 1000 rfl rfl ?_
  rw [w64 (n := ((td.length + 1 : Nat) : Int) - 1) (by omega) (by omega), show ((td.length + 1 : Nat) : Int) - 1 = (td.length : Int) by omega]
  refine R_shrinkO hg.ok (sgR td) rfl rfl rfl rfl rfl rfl rfl rfl rfl rfl (Int.natCast_nonneg td.length) (by rw [sgR_len]; simp; omega) (by rw [Int.toNat_natCast]; simp [sgR]) ?_
  refine R_run hg.ok 1000 rfl rfl ?_
  refine R_lookupB hg.ok r (tt met) rootKey rfl rfl rfl rfl rfl rfl (by kernel_rfl) ?_
  refine R_run hg.ok 1000 rfl rfl ?_
  rw [lk_tt]
  refine R_if rfl rfl (fun h2 => ?_) (fun h2 => ?_) <;> refine R_run hg.ok 1000 rfl rfl ?_
  ·rw [if_pos h2] at hm
   refine R_dropO 3 [.map (kmap (bM (tt met))), .arr 2 (Nat.succ s) (sgR td), .box [.ow 1 (Nat.succ s)]] (by show φ.length ≤ _; omega) rfl (by simp only [List.take_succ_cons, List.take_zero, List.map_cons, List.map_nil, mapOb_b (f := trimA 3) (fun _ => rfl)]; rfl) ?_
   exact R_next (td, met, Nat.succ s) ⟨by rw [hm]; exact reachG_fuel l _ _ td met (by omega) (by omega), by simp only; omega⟩ (by simp only [htl]; omega) ⟨.refl _, .refl _, .refl _, trivial⟩ rfl
  ·rw [if_neg (by rw [h2]; simp)] at hm
   have hca := cost_add met r h2 l
   have hpl := pushes_len r l
   refine R_setB hg.ok r (tt met) true rootKey rfl rfl rfl rfl rfl rfl (by first | exact .tt | exact .refl _) ?_
   rw [stB_tt]
   refine R_run hg.ok 1000 rfl rfl ?_
   refine R_loop (fun x : Nat × List Sg × Nat => ([(0, .d (.sl (Cs.rows l))), (5, .mp 0), (6, .lo 2 0), (7, .lo 3 0), (33, .d (.sl (Cs.rows l))), (34, iV l.length), (35, iV x.1)], [.map (kmap (bM (tt (addS met r)))), .arr 2 x.2.2 (sgR x.2.1), .box [.ow 1 x.2.2], rtBox r])) (fun x => x.1 ≤ l.length ∧ td ++ pushes l r = x.2.1 ++ pushes (l.drop x.1) r) (fun x => l.length - x.1) (0, td, Nat.succ s) ⟨Nat.zero_le _, rfl⟩ ⟨.refl _, .refl _, .refl _, .refl _, .refl _, by rw [Cs.rows_len]; exact .refl _, .refl _, trivial⟩ rfl ?_
   rintro ⟨k, td2, j⟩ ⟨hk, hm2⟩
   simp only at hk hm2
   have hln := congrArg List.length hm2
   simp only [List.length_append] at hln
   refine R_run hg.ok 1000 rfl rfl ?_
   refine R_if rfl rfl (fun h => ?_) (fun h => ?_) <;> refine R_run hg.ok 1000 rfl rfl ?_
   ·have hk1 : k < l.length := lt_dec h rfl
    have e1 : l[k]? = some l[k] := List.getElem?_eq_getElem hk1
    have hmem := List.getElem_mem hk1
    rw [List.drop_eq_getElem_cons hk1] at hm2
    generalize l[k] = c at e1 hm2 hmem
    have hbc := hb c hmem
    refine R_index hg.ok rfl rfl rfl rfl rfl rfl (Int.natCast_nonneg _) (Cs.rows_get e1) rfl ?_
    refine R_run hg.ok 1000 rfl rfl ?_
    refine R_call hg.ok (rootOf_ok c.head) rfl rfl rfl rfl rfl rfl ?_
    refine R_run hg.ok 1000 rfl rfl ?_
    refine R_eqK hg.ok (sgOf c.head) r rootCmp rfl rfl rfl rfl ?_
    refine R_run hg.ok 1000 rfl rfl ?_
    simp only [pushes] at hm2
    refine R_if rfl rfl (fun h3 => ?_) (fun h3 => ?_) <;> refine R_run hg.ok 1000 rfl rfl ?_
    ·rw [if_pos (of_decide_eq_true h3)] at hm2
     refine R_callSO hg.ok hg.gup hg.wide hg.Y [2, 1] ([.map (kmap (bM (tt (addS met r)))), .arr 2 (j + (callsS c.body).length) (sgR (td2 ++ callsS c.body)), .box [.ow 1 (j + (callsS c.body).length)], rtBox r, csBox c]) (cleanCalls_ok Y c.body j td2 (by omega)) (fun _ => rfl) rfl rfl rfl rfl rfl rfl rfl rfl ?_
     refine R_run hg.ok 1000 rfl rfl ?_
     refine R_dropO 4 [.map (kmap (bM (tt (addS met r)))), .arr 2 (j + (callsS c.body).length) (sgR (td2 ++ callsS c.body)), .box [.ow 1 (j + (callsS c.body).length)], rtBox r] (by show φ.length ≤ _; omega) rfl (by simp only [List.take_succ_cons, List.take_zero, List.map_cons, List.map_nil, mapOb_b (f := trimA 4) (fun _ => rfl)]; rfl) ?_
     exact R_next (k + 1, td2 ++ callsS c.body, j + (callsS c.body).length) ⟨hk1, by rw [hm2]; simp⟩ (by simp only; omega) ⟨.refl _, .refl _, .refl _, .refl _, .refl _, .refl _, Ent.wrap (by simp only; omega) (by simp only; omega) (by simp only; omega), trivial⟩ rfl
    ·rw [if_neg (of_decide_eq_false h3), List.nil_append] at hm2
     refine R_dropO 4 [.map (kmap (bM (tt (addS met r)))), .arr 2 j (sgR td2), .box [.ow 1 j], rtBox r] (by show φ.length ≤ _; omega) rfl (by simp only [List.take_succ_cons, List.take_zero, List.map_cons, List.map_nil, mapOb_b (f := trimA 4) (fun _ => rfl)]; rfl) ?_
     exact R_next (k + 1, td2, j) ⟨hk1, hm2⟩ (by simp only; omega) ⟨.refl _, .refl _, .refl _, .refl _, .refl _, .refl _, Ent.wrap (by simp only; omega) (by simp only; omega) (by simp only; omega), trivial⟩ rfl
   ·have hk1 : l.length ≤ k := ge_dec h rfl
    rw [List.drop_eq_nil_of_le hk1] at hm2
    simp only [pushes, List.append_nil] at hm2
    rw [hm2] at hm
    have hln2 : td2.length = td.length + (pushes l r).length := by rw [← hm2, List.length_append]
    refine R_dropO 3 [.map (kmap (bM (tt (addS met r)))), .arr 2 j (sgR td2), .box [.ow 1 j]] (by show φ.length ≤ _; omega) rfl (by simp only [List.take_succ_cons, List.take_zero, List.map_cons, List.map_nil, mapOb_b (f := trimA 3) (fun _ => rfl)]; rfl) ?_
    exact R_next (td2, addS met r, j) ⟨by rw [hm]; exact reachG_fuel l _ _ td2 (addS met r) (by omega) (by omega), by simp only; omega⟩ (by simp only [htl]; omega) ⟨.refl _, .refl _, .refl _, trivial⟩ rfl
 ·have h0 : todo = [] := by
   cases todo with
   | nil => rfl
   | cons a b => simp at h
  subst h0
  rw [reachG_nil] at hm
  rw [hm]
  exact R_retS hg 1 5 (Nat.zero_le _) rfl rfl (by simp only [List.take_succ_cons, List.take_zero, List.map_cons, List.map_nil, mapOb_b (f := sealT false 1 _ 5) (fun _ => rfl)])
end Go.Proofs.YthdpfglpdgmphaaGreat

namespace PSL
open Go

theorem Cs.sizeL_sub {l m : List Cs} (h : l.Sublist m) : Cs.sizeL l ≤ Cs.sizeL m := by
 induction h with
 | slnil => exact Nat.le_refl _
 | cons a _ ih => simp only [Cs.sizeL]; omega
 | cons_cons a _ ih => simp only [Cs.sizeL]; omega

theorem Cs.size_mem {l : List Cs} {c : Cs} (h : c ∈ l) : Cs.size c ≤ Cs.sizeL l := by
 have := Cs.sizeL_sub (List.singleton_sublist.2 h)
 simp only [Cs.sizeL] at this; omega

structure Med (l : List Cs) : Prop where
 sm : ∀ c ∈ l, SmC c
 len : l.length ≤ 210
 size : Cs.sizeL l ≤ 3000

theorem Med.sub {l m : List Cs} (h : Med m) (hs : l.Sublist m) : Med l :=
 ⟨fun c hc => h.sm c (hs.subset hc), by have := hs.length_le; have := h.len; omega, by have := Cs.sizeL_sub hs; have := h.size; omega⟩

theorem Med.body {l : List Cs} (h : Med l) : ∀ c ∈ l, Gl.sizeL c.body ≤ 500000 := fun c hc => by
 have h1 := Cs.size_mem hc
 have h2 := h.size
 unfold Cs.size at h1; omega

theorem Med.head {l : List Cs} (h : Med l) : ∀ c ∈ l, c.head.l.length ≤ 1000000 := fun c hc => by
 have h1 := (h.sm c hc).head.1
 have h2 := Tm.size_eq c.head
 have h3 := Tm.len_le_sizeL c.head.l
 omega
theorem Med.cost {l : List Cs} (h : Med l) : cost [] l ≤ 3000 := by have := cost_size l; have := h.size; omega
theorem openG_eq (l : List Cs) : openG [] l = openD [] l := open_eq l [] [] fun _ => rfl
theorem openG_sub (l : List Cs) : (openG [] l).Sublist l := by rw [openG_eq]; exact (openD_ok l []).2.2
theorem live_sub2 (l : List Cs) : (liveL l).Sublist l := by rw [live_eq]; exact live_sub l

theorem filter_hasH (l : List Cs) (p : Sg) : ((((l.filter fun c => decide (sgOf c.head = p)).length : Int)) == 0) = !hasH l p := by
 rw [Bool.eq_iff_iff]
 simp only [beq_iff_eq, Bool.not_eq_true', Bool.eq_false_iff, ne_eq, hasH_iff]
 constructor
 ·rintro h ⟨c, hc, e⟩
  have h0 : (l.filter fun c => decide (sgOf c.head = p)).length = 0 := by omega
  have h1 := List.length_eq_zero_iff.1 h0
  have : c ∈ l.filter fun c => decide (sgOf c.head = p) := List.mem_filter.2 ⟨hc, decide_eq_true e⟩
  rw [h1] at this; cases this
 ·intro h
  have h1 : (l.filter fun c => decide (sgOf c.head = p)) = [] := by
   rw [List.filter_eq_nil_iff]
   intro c hc e
   exact h ⟨c, hc, of_decide_eq_true e⟩
  rw [h1]; rfl

theorem cleanG_eq (l : List Cs) (roots : List Sg) : ((liveL l).filter fun c => lkB (tt (reachL (liveL l) roots)) (sgOf c.head)) = cleanG l roots := by
 unfold cleanG
 congr 1
 funext c
 exact lk_tt _ _

theorem reachedG_sub : ∀ (l : List Cs) (m : List (Sg × Bool)), (reachedG m l).length ≤ l.length
 | [], _ => Nat.le_refl _
 | c :: l, m => by
  simp only [reachedG]
  split
  ·have := reachedG_sub l (stB m (sgOf c.head) false); simp only [List.length_cons]; omega
  ·have := reachedG_sub l m; simp only [List.length_cons]; omega
end PSL
namespace PSL
open Go

theorem sg_hd (q : Sg) (s : ByteArray) (n : Int) : decide (q = (s, n)) = (strEq q.1 s && (q.2 == n)) := by
 rw [Bool.eq_iff_iff, decide_eq_true_eq, Bool.and_eq_true, beq_iff_eq, Tm.strEq_iff]
 cases q; exact Prod.mk.injEq _ _ _ _ ▸ Iff.rfl
end PSL
namespace PSL
open Go
end PSL
namespace PSL
open Go

theorem goCalls_grow : ∀ (ts out : List Sg) (again : Bool), out.length ≤ (goCalls out again ts).1.length
 | [], _, _ => Nat.le_refl _
 | t :: r, out, again => by
  simp only [goCalls]
  split
  ·exact goCalls_grow r out again
  ·have := goCalls_grow r (out ++ [t]) true
   rw [List.length_append] at this
   simp only [List.length_singleton] at this; omega

theorem passR_grow : ∀ (l : List Cs) (out : List Sg) (again : Bool), out.length ≤ (passR l out again).1.length
 | [], _, _ => Nat.le_refl _
 | c :: l, out, again => by
  simp only [passR]
  split
  ·exact Nat.le_trans (goCalls_grow _ out again) (passR_grow l _ _)
  ·exact passR_grow l out again

theorem left1_len (out : List Sg) : ∀ l : List Sg, left1 out l ≤ l.length
 | [] => Nat.le_refl _
 | t :: r => by have := left1_len out r; simp only [left1, List.length_cons]; split <;> omega

theorem leftR_size (out : List Sg) : ∀ l : List Cs, leftR out l ≤ Cs.sizeL l
 | [] => Nat.le_refl _
 | c :: l => by
  have := leftR_size out l
  have h1 := left1_len out (callsS c.body)
  have h2 := callsT_len c.body
  unfold callsS at h1
  rw [List.length_map] at h1
  simp only [leftR, Cs.sizeL, Cs.size, callsS]; omega
end PSL
namespace PSL
open Go

theorem iterR_len (l : List Cs) : ∀ (n : Nat) (out : List Sg), (iterR l n out).length ≤ out.length + leftR out l
 | 0, _ => Nat.le_add_right _ _
 | n + 1, out => by
  obtain ⟨ext, a1, _, a3, _, _⟩ := passR_ok l l out false fun c hc => hc
  have hl : (passR l out false).1.length = out.length + ext.length := by rw [a1, List.length_append]
  simp only [iterR]
  split
  ·have := iterR_len l n (passR l out false).1; omega
  ·omega
end PSL
namespace PSL
open Go
end PSL

namespace Go.Proofs.YthdpfglpdgmphaaGreat
open Go PSL Go.Proofs
def pY : YP := ⟨[], fun _ => true⟩

set_option maxRecDepth 100000 in
theorem reached_ok (l : List Cs) (roots : List Sg) (hl : Med l) (hr : roots.length ≤ 1000) : PCtr Tryz.prog 17 [prV l, .d (.sl (sgR roots))] (.d (.sl (sgR (reachedP l roots)))) := by
 have hlen := hl.len
 have hco := hl.cost
 refine PCtr.of_R (pf := fun _ => .eff) tyOk mixed Tryz.func17 rfl (by kernel_rfl) (by kernel_rfl) (by simp [Tryz.ntmps17]) fun w S hg => ?_
 refine R_run hg.ok 1000 rfl rfl ?_
 refine R_callSO hg.ok hg.gup ⟨rfl, rfl⟩ (fun _ _ _ _ h => by cases h) [] ([.box [.d (.sl (Cs.rows l))], .map (kmap (bM (tt (reachL l roots))))]) (reach_ok pY l roots (by omega) (by omega) hl.body) (fun _ => rfl) rfl rfl rfl rfl rfl rfl rfl (by simp only [List.map_cons, List.map_nil, renOb_b]; rfl) ?_
 refine R_run hg.ok 1000 rfl rfl ?_
 refine R_own 6 2 rfl rfl ?_
 refine R_loop (fun x : Nat × List (Sg × Bool) × List Sg × Nat => ([(5, .mp 1), (6, .ow 2 x.2.2.2), (15, .d (.sl (Cs.rows l))), (16, iV l.length), (17, iV x.1)], [.box [.d (.sl (Cs.rows l))], .map (kmap (bM x.2.1)), .arr 2 x.2.2.2 (sgR x.2.2.1)])) (fun x => x.1 ≤ l.length ∧ reachedP l roots = x.2.2.1 ++ reachedG x.2.1 (l.drop x.1) ∧ x.2.2.1.length ≤ x.1) (fun x => l.length - x.1) (0, tt (reachL l roots), [], 0) ⟨Nat.zero_le _, rfl, Nat.le_refl _⟩ ⟨.refl _, .refl _, .refl _, by rw [Cs.rows_len]; exact .refl _, .refl _, trivial⟩ rfl ?_
 rintro ⟨k, m, out, j⟩ ⟨hk, hm, ho⟩
 simp only at hk hm ho
 refine R_run hg.ok 1000 rfl rfl ?_
 refine R_if rfl rfl (fun h => ?_) (fun h => ?_) <;> refine R_run hg.ok 1000 rfl rfl ?_
 ·have hk1 : k < l.length := lt_dec h rfl
  have e1 : l[k]? = some l[k] := List.getElem?_eq_getElem hk1
  rw [List.drop_eq_getElem_cons hk1] at hm
  generalize l[k] = c at e1 hm
  simp only [reachedG] at hm
  refine R_index hg.ok rfl rfl rfl rfl rfl rfl (Int.natCast_nonneg _) (Cs.rows_get e1) rfl ?_
  refine R_run hg.ok 1000 rfl rfl ?_
  refine R_call hg.ok (rootOf_ok c.head) rfl rfl rfl rfl rfl rfl ?_
  refine R_run hg.ok 1000 rfl rfl ?_
  refine R_lookupB hg.ok (sgOf c.head) m rootKey rfl rfl rfl rfl rfl rfl (by kernel_rfl) ?_
  refine R_run hg.ok 1000 rfl rfl ?_
  refine R_if rfl rfl (fun h2 => ?_) (fun h2 => ?_) <;> refine R_run hg.ok 1000 rfl rfl ?_
  ·rw [if_pos h2] at hm
   refine R_appendO hg.ok (sgR (out ++ [sgOf c.head])) rfl rfl rfl rfl rfl rfl rfl rfl rfl (by simp) (by simp [one1]) (sgR_snoc out _) (by rw [sgR_len]; simp; omega) (by rw [sgR_len]; simp; omega) ?_
   refine R_run hg.ok 1000 rfl rfl ?_
   refine R_setB hg.ok (sgOf c.head) m false rootKey rfl rfl rfl rfl rfl rfl (by first | exact .ff | exact .refl _) ?_
   refine R_run hg.ok 1000 rfl rfl ?_
   refine R_dropO 3 [.box [.d (.sl (Cs.rows l))], .map (kmap (bM (stB m (sgOf c.head) false))), .arr 2 (Nat.succ j) (sgR (out ++ [sgOf c.head]))] (Nat.zero_le _) rfl (by simp only [List.take_succ_cons, List.take_zero, List.map_cons, List.map_nil, mapOb_b (f := trimA 3) (fun _ => rfl)]; rfl) ?_
   exact R_next (k + 1, stB m (sgOf c.head) false, out ++ [sgOf c.head], Nat.succ j) ⟨hk1, by rw [hm]; simp, by simp only [List.length_append, List.length_singleton]; omega⟩ (by simp only; omega) ⟨.refl _, .refl _, .refl _, .refl _, Ent.wrap (by simp only; omega) (by simp only; omega) (by simp only; omega), trivial⟩ rfl
  ·rw [if_neg (by rw [h2]; simp)] at hm
   refine R_dropO 3 [.box [.d (.sl (Cs.rows l))], .map (kmap (bM m)), .arr 2 j (sgR out)] (Nat.zero_le _) rfl (by simp only [List.take_succ_cons, List.take_zero, List.map_cons, List.map_nil, mapOb_b (f := trimA 3) (fun _ => rfl)]; rfl) ?_
   exact R_next (k + 1, m, out, j) ⟨hk1, hm, by simp only; omega⟩ (by simp only; omega) ⟨.refl _, .refl _, .refl _, .refl _, Ent.wrap (by simp only; omega) (by simp only; omega) (by simp only; omega), trivial⟩ rfl
 ·have hk1 : l.length ≤ k := ge_dec h rfl
  rw [List.drop_eq_nil_of_le hk1] at hm
  simp only [reachedG, List.append_nil] at hm
  rw [hm]
  refine R_ret hg 5 rfl (sealA_ow rfl) ?_
  rfl

set_option maxRecDepth 100000 in
theorem clean_ok (l : List Cs) (roots : List Sg) (hl : Med l) (hr : roots.length ≤ 1000) : PCtr Tryz.prog 20 [prV l, .d (.sl (sgR roots))] (.tup [prV (cleanA l roots).1, iV (cleanA l roots).2]) := by
 have hlen := hl.len
 refine PCtr.of_R (pf := fun _ => .eff) tyOk mixed Tryz.func20 rfl (by kernel_rfl) (by kernel_rfl) (by simp [Tryz.ntmps20]) fun w S hg => ?_
 refine R_run hg.ok 1000 rfl rfl ?_
 refine R_call hg.ok (check_ok l hl.sm) rfl rfl rfl rfl rfl rfl ?_
 refine R_run hg.ok 1000 rfl rfl ?_
 refine R_if rfl rfl (fun h => ?_) (fun h => ?_) <;> refine R_run hg.ok 1000 rfl rfl ?_
 ·have h0 : (checkR l).2 ≠ 0 := by simpa using h
  have e : cleanA l roots = ([], 1) := by unfold cleanA; rw [if_pos h0]
  rw [e]
  refine R_ret hg 5 rfl rfl ?_
  rfl
 have h0 : (checkR l).2 = 0 := by simpa using h
 have e : cleanA l roots = if roots.all (hasH l) then (cleanG l roots, 0) else ([], 1) := by unfold cleanA; rw [if_neg (by rw [h0]; simp)]
 refine R_loop (fun k : Nat => ([(1, .d (.sl (sgR roots))), (2, .lo 0 0), (4, .lo 1 0), (20, .d (.sl (sgR roots))), (21, iV roots.length), (22, iV k)], [.box [.d (.sl (Cs.rows l))], .box [.d (.v (.slice none 0 0))]])) (fun k => k ≤ roots.length ∧ roots.all (hasH l) = (roots.drop k).all (hasH l)) (fun k => roots.length - k) 0 ⟨Nat.zero_le _, rfl⟩ ⟨.refl _, .refl _, .refl _, .refl _, by rw [sgR_len]; exact .refl _, .refl _, trivial⟩ rfl ?_
 rintro k ⟨hk, hm⟩
 refine R_run hg.ok 1000 rfl rfl ?_
 refine R_if rfl rfl (fun h => ?_) (fun h => ?_) <;> refine R_run hg.ok 1000 rfl rfl ?_
 ·have hk1 : k < roots.length := lt_dec h rfl
  have e1 : roots[k]? = some roots[k] := List.getElem?_eq_getElem hk1
  rw [List.drop_eq_getElem_cons hk1, List.all_cons] at hm
  generalize roots[k] = p at e1 hm
  refine R_index hg.ok rfl rfl rfl rfl rfl rfl (Int.natCast_nonneg _) (sgR_get e1) rfl ?_
  refine R_run hg.ok 1000 rfl rfl ?_
  refine R_callSO hg.ok hg.gup ⟨rfl, rfl⟩ (fun _ _ _ _ h => by cases h) [2] ([.box [.d (.sl (Cs.rows l))], .box [.d (.v (.slice none 0 0))], rtBox p]) (leftIs_ok pY p l (by omega)) (fun _ => rfl) rfl rfl rfl rfl rfl rfl rfl rfl ?_
  refine R_run hg.ok 1000 rfl rfl ?_
  rw [Cs.rows_len, filter_hasH]
  refine R_if rfl rfl (fun h2 => ?_) (fun h2 => ?_) <;> refine R_run hg.ok 1000 rfl rfl ?_
  ·have h3 : hasH l p = false := by simpa using h2
   rw [h3] at hm
   rw [hm] at e
   simp only [Bool.false_and, Bool.false_eq_true, if_false] at e
   rw [e]
   refine R_ret hg 5 rfl rfl ?_
   rfl
  ·have h3 : hasH l p = true := by simpa using h2
   rw [h3, Bool.true_and] at hm
   refine R_dropO 2 [.box [.d (.sl (Cs.rows l))], .box [.d (.v (.slice none 0 0))]] (Nat.zero_le _) rfl rfl ?_
   exact R_next (k + 1) ⟨hk1, hm⟩ (by omega) ⟨.refl _, .refl _, .refl _, .refl _, .refl _, Ent.wrap (by omega) (by omega) (by omega), trivial⟩ rfl
 ·have hk1 : roots.length ≤ k := ge_dec h rfl
  rw [List.drop_eq_nil_of_le hk1] at hm
  rw [hm] at e
  simp only [List.all_nil, if_true] at e
  rw [e]
  have hop := hl.sub (openG_sub l)
  have hlv := hl.sub (live_sub2 l)
  have hlo := hop.len
  have hlv2 := hlv.len
  have hco := hlv.cost
  refine R_call hg.ok (cleanOpen_ok l (by omega) hl.head) rfl rfl rfl rfl rfl rfl ?_
  refine R_run hg.ok 1000 rfl rfl ?_
  refine R_call hg.ok (cleanAlive_ok (openG [] l) (by omega)) rfl rfl rfl rfl rfl rfl ?_
  refine R_run hg.ok 1000 rfl rfl ?_
  refine R_callSO hg.ok hg.gup ⟨rfl, rfl⟩ (fun _ _ _ _ h => by cases h) [] ([.box [.d (.sl (Cs.rows l))], .box [.d (.v (.slice none 0 0))], .map (kmap (bM (tt (reachL (liveL l) roots))))]) (reach_ok pY (liveL l) roots (by omega) (by omega) hlv.body) (fun _ => rfl) rfl rfl rfl rfl rfl rfl rfl (by simp only [List.map_cons, List.map_nil, renOb_b]; rfl) ?_
  refine R_run hg.ok 1000 rfl rfl ?_
  refine R_callSO hg.ok hg.gup ⟨rfl, rfl⟩ (fun _ _ _ _ h => by cases h) [3, 2] ([.box [.d (.sl (Cs.rows l))], .box [.d (.v (.slice none 0 0))], .map (kmap (bM (tt (reachL (liveL l) roots)))), .box [.mp 2]]) (leftMet_ok pY (tt (reachL (liveL l) roots)) (liveL l) (by omega)) (fun _ => rfl) rfl rfl rfl rfl rfl (by simp only [mpO, List.map_cons, List.map_nil, renOb_b]; rfl) rfl (by simp only [mpO, List.map_cons, List.map_nil, renOb_b]; rfl) ?_
  rw [cleanG_eq]
  refine R_run hg.ok 1000 rfl rfl ?_
  refine R_ret hg 5 rfl rfl ?_
  rfl
end Go.Proofs.YthdpfglpdgmphaaGreat

namespace Go.Proofs.YthdpfglpdgmphaaGreat
open Go PSL Go.Proofs

set_option maxRecDepth 100000 in
theorem refHas21_ok (l : List Sg) (s : ByteArray) (n : Int) (hl : l.length ≤ 1000000) : PCtr Tryz.prog 41 [.d (.sl (sgR l)), .d (.v (.string s)), iV n] (bV (hasS l (s, n))) := by
 refine PCtr.of_R (pf := fun _ => .still) tyOk mixed Tryz.func41 rfl (by kernel_rfl) (by kernel_rfl) (by simp [Tryz.ntmps41]) fun w S hg => ?_
 refine R_run hg.ok 1000 rfl rfl ?_
 refine R_loop (fun k : Nat => ([(0, .d (.sl (sgR l))), (1, .d (.v (.string s))), (2, iV n), (7, iV k)], [])) (fun k => k ≤ l.length ∧ hasS l (s, n) = hasS (l.drop k) (s, n)) (fun k => l.length - k) 0 ⟨Nat.zero_le _, rfl⟩ ⟨.refl _, .refl _, .refl _, .refl _, trivial⟩ rfl ?_
 rintro k ⟨hk, hm⟩
 refine R_run hg.ok 1000 rfl rfl ?_
 refine R_if rfl rfl (fun h => ?_) (fun h => ?_) <;> refine R_run hg.ok 1000 rfl rfl ?_
 ·have hk1 : k < l.length := lt_dec h (by rw [sgR_len])
  have e1 : l[k]? = some l[k] := List.getElem?_eq_getElem hk1
  rw [List.drop_eq_getElem_cons hk1, hasS_cons, sg_hd] at hm
  generalize l[k] = q at e1 hm
  refine R_index hg.ok rfl rfl rfl rfl rfl rfl (Int.natCast_nonneg _) (sgR_get e1) rfl ?_
  refine R_run hg.ok 1000 rfl rfl ?_
  have nx : (strEq q.1 s && (q.2 == n)) = false → hasS l (s, n) = hasS (l.drop (k + 1)) (s, n) := fun h => by rw [hm, h, Bool.false_or]
  cases h2 : strEq q.1 s with
  | false =>
   rw [h2] at nx
   refine R_if rfl rfl (fun h => absurd h (by simp [h2])) (fun _ => ?_) <;> refine R_run hg.ok 1000 rfl rfl ?_
   exact R_next (k + 1) ⟨hk1, nx rfl⟩ (by omega) ⟨.refl _, .refl _, .refl _, Ent.wrap (by omega) (by omega) (by omega), trivial⟩ rfl
  | true =>
   rw [h2] at nx hm
   refine R_if rfl rfl (fun _ => ?_) (fun h => absurd h (by simp [h2])) <;> refine R_run hg.ok 1000 rfl rfl ?_
   refine R_index hg.ok rfl rfl rfl rfl rfl rfl (Int.natCast_nonneg _) (sgR_get e1) rfl ?_
   refine R_run hg.ok 1000 rfl rfl ?_
   refine R_if rfl rfl (fun h3 => ?_) (fun h3 => ?_) <;> refine R_run hg.ok 1000 rfl rfl ?_
   ·rw [h3] at hm
    refine R_ret hg 5 rfl rfl ?_
    rw [hm]; rfl
   ·rw [h3] at nx
    exact R_next (k + 1) ⟨hk1, nx rfl⟩ (by omega) ⟨.refl _, .refl _, .refl _, Ent.wrap (by omega) (by omega) (by omega), trivial⟩ rfl
 ·have hk1 : l.length ≤ k := ge_dec h (by rw [sgR_len])
  rw [hm, List.drop_eq_nil_of_le hk1]
  refine R_ret hg 5 rfl rfl ?_
  rfl
end Go.Proofs.YthdpfglpdgmphaaGreat

namespace Go.Proofs.YthdpfglpdgmphaaGreat
open Go PSL Go.Proofs
end Go.Proofs.YthdpfglpdgmphaaGreat

namespace PSL
open Go Go.RowKit
section
variable {g : G} {pf : Nat → Cls} {ops : Array Oper}

theorem loc_callX (hg : GOk g) {o : Oper} {E : Env} {objs : List Ob} {x : Operand} {args : Array Operand} {ts : Array Nat} {f : Nat} {fs cs axs : List AV} {r : AV} (hgd : GdOk ops E o true) (hd : ∀ t, o.dst = some t → t < g.N)
  (hop : o.op = .call { callee := .value x, args := args, argTypes := ts }) (hx : ev E x = .clo f fs cs) (has : fs ++ args.toList.map (ev E) ++ cs = axs) (hpa : pureL axs = true) (hc : PCtr g.P f axs r) (hpr : pureA r = true) :
  LocOp g ops o E objs .still r objs := by
 refine ⟨fun _ => rfl, fun _ _ _ => .refl _, fun E₁ o₁ o₁' a w he ho hs Q => ?_⟩
 have e : o₁' = o₁ := by
  rcases ho with ⟨_, h⟩ | ⟨_, _, _, h⟩ | ⟨h, h'⟩
  ·exact h
  ·exact h
  ·rw [h, h']
 subst e
 obtain ⟨φ, h1, h2, h3, h4, h5, h6⟩ := hs
 rw [wanted_of hgd he h3]
 simp only [if_true]
 refine ⟨about_ok hg o w a, ?_⟩
 have hρ := rv_restr (l := o.looksAt ops) he h3
 have hev : ∀ y ∈ o.op.operands.toList, restr (o.looksAt ops) E y = ev E y := fun y hy => by
  cases y with
  | tmp t => simp [restr, ev, mem_looks hy]
  | _ => rfl
 have hopd : o.op.operands.toList = x :: args.toList := by rw [hop]; simp [Op.operands, Call.operands]
 have hxv := hρ x
 rw [hev x (by rw [hopd]; simp), hx] at hxv
 simp only [RV] at hxv
 obtain ⟨va, vc, hxv, hfs, hcs⟩ := hxv
 have hargs : RVs (SS g.S0 φ) w φ (args.toList.map (ev E)) (args.toList.map a.eval) := by
  refine RVs.map _ _ _ fun y hy => ?_
  rw [← hev y (by rw [hopd]; simp [hy])]
  exact hρ y
 have hall := (hfs.append hargs).append hcs
 rw [has] at hall
 rw [Oper.semAt_eq _ _ _ (by rw [hop]; simp), run_callv hop hxv hc.call]
 refine ⟨fun h => by rw [hg.depth] at h; simp at h, ?_⟩
 have hup : ∀ b, w.heap.size ≤ b → SS g.S0 φ b := fun b hb => ⟨h1.up b hb, fun hc => by have := h1.lt b hc; omega⟩
 have hcall := hc.run (SS g.S0 φ) w _ hup (hall.pure (Keep.refl _ _) hpa)
 refine (callsIn_free hg hcall).mono ?_
 rintro e w' ⟨v, rfl, hv, hb⟩
 have hst : Stp g.S0 φ w φ o₁' w' := ⟨h1.later hb.size (fun b hb' => hb.block b hb'), .of fun b hb' hl => ⟨hb', hb.block b hl⟩, .refl _, hb.size, hb.os, hb.tape, hb.output, fun b hb' _ => hb.block b hb', fun _ h => .inl h, fun _ _ _ B h => ⟨B, h⟩⟩
 exact Sat.stp h2 h3 h4 h5 h6 hst hd fun _ => hv.pure (Keep.refl _ _) hpr
end
section
variable {g : G} {pf : Nat → Cls} {ops : Array Oper} {Fin : Exit → Act → World → Prop}

theorem R_callX (hg : GOk g) {f : Nat} {axs : List AV} {r : AV} (hc : PCtr g.P f axs r) {dst : Option Nat} {x : Operand} {args : Array Operand} {ts : Array Nat} {ty : Nat} {pos : String} {after : Array Edge} {gd : Option (Nat × Bool)}
  {rest : List Oper} {k : List It} {E : Env} {objs : List Ob} {fs cs : List AV}
  (hgd : guardA ops.toList E gd = some true) (hd : dstOk ⟨g.ty, g.N⟩ dst = true) (hx : ev E x = .clo f fs cs) (has : fs ++ args.toList.map (ev E) ++ cs = axs) (hpa : pureL axs = true) (hpr : pureA r = true)
  (hr : R g pf Fin (.dr ops rest :: k) (putO E dst r) objs) :
  R g pf Fin (.dr ops (⟨dst, .call { callee := .value x, args := args, argTypes := ts }, ty, pos, after, gd⟩ :: rest) :: k) E objs :=
 R_op (LocOp.up (loc_callX hg (guardA_ok hgd) (dstOk_ok hd) rfl hx has hpa hc hpr)) hr
end
end PSL
namespace PSL
open Go Go.RowKit

def DEnt (x y : D) : Prop := ∀ (S : Nat → Prop) (w : World) (v : Value), Rd S w x v → Rd S w y v

def RowEnt : List D → List D → Prop
 | [], [] => True
 | x :: r, y :: t => DEnt x y ∧ RowEnt r t
 | _, _ => False
theorem DEnt.refl (x : D) : DEnt x x := fun _ _ _ h => h
theorem DEnt.nil : DEnt (.v (.slice none 0 0)) (.sl []) := fun S w v h => by cases h; exact .nil _ _

theorem RowEnt.len : ∀ {r t : List D}, RowEnt r t → r.length = t.length
 | [], [], _ => rfl
 | _ :: _, _ :: _, h => by simp [RowEnt.len h.2]
 | [], _ :: _, h => h.elim
 | _ :: _, [], h => h.elim

theorem RowEnt.get : ∀ {r t : List D} {j : Nat} {y : D}, RowEnt r t → t[j]? = some y → ∃ x, r[j]? = some x ∧ DEnt x y
 | [], [], j, y, _, hj => by simp at hj
 | x :: r, z :: t, 0, y, h, hj => by
  simp only [List.getElem?_cons_zero, Option.some.injEq] at hj
  subst hj; exact ⟨x, rfl, h.1⟩
 | x :: r, z :: t, j + 1, y, h, hj => by
  simp only [List.getElem?_cons_succ] at hj ⊢
  exact RowEnt.get h.2 hj
 | [], _ :: _, _, _, h, _ => h.elim
 | _ :: _, [], _, _, h, _ => h.elim

theorem Ent.row1 {row row' : List D} (h : RowEnt row row') : Ent (.fs [row]) (.d (.sl [row'])) := fun S w φ v hv => by
 have hv := Ent.fs [row] S w φ v hv
 simp only [RV] at hv ⊢
 cases hv with
 | @sl _ b o cap sz cs T fr g hS hb hl hc hsz hg hr =>
  refine .sl (sz := sz) g hS hb hl hc (fun i r hi => ?_) (fun i r j x hi hj => ?_) (fun i r j x hi hj => ?_)
  ·cases i with
   | zero => cases hi; rw [← h.len]; exact hsz 0 row rfl
   | succ i => simp at hi
  ·cases i with
   | zero =>
    cases hi
    obtain ⟨x', h1, h2⟩ := h.get hj
    exact hg 0 row j x' rfl h1
   | succ i => simp at hi
  ·cases i with
   | zero =>
    cases hi
    obtain ⟨x', h1, h2⟩ := h.get hj
    exact h2 _ _ _ (hr 0 row j x' rfl h1)
   | succ i => simp at hi
end PSL

namespace Go.Proofs.YthdpfglpdgmphaaGreat
open Go PSL Go.Proofs

theorem callsT_cons (g : Gl) (r : List Gl) : callsT (g :: r) = (if g.k = 1 then [g.t] else []) ++ callsT g.a ++ callsT g.b ++ callsT g.c ++ callsT r := by
 simp only [callsT, calls1_eq]

theorem tm_snoc (o : List Tm) (t : Tm) : Tm.rows o ++ [[.v (.int .i64 t.k), .v (.string t.s), .v (.int .i64 t.n), .sl (Tm.rows t.l)]] = Tm.rows (o ++ [t]) := by
 rw [Tm.rows_eq (o ++ [t]), Tm.rows_eq o, List.map_append]; rfl

def PutG (Y : YP) (l : List Gl) : Prop := ∀ (s : Nat) (out : List Tm), out.length + Gl.sizeL l ≤ 1000000 →
 SCtr Tryz.prog Y 65 [.ow 0 s, .d (.sl (Gl.rows l))] [.arr 4 s (Tm.rows out)] (.ow 0 (s + (callsT l).length)) [.arr 4 (s + (callsT l).length) (Tm.rows (out ++ callsT l))]
def putO1 (s : Nat) (out : List Tm) : List Ob := [.arr 4 s (Tm.rows out)]

set_option maxRecDepth 100000 in
theorem refCalls_ok (Y : YP) (l : List Gl) : PutG Y l := by
 refine Gl.indL (p := PutG Y) (fun l hsub => ?_) l
 intro s out hb
 have hlen := Gl.len_size l
 have hcl := callsT_len l
 refine SCtr.of_R (pf := fun _ => .eff) tyOk mixed Tryz.func65 rfl (by kernel_rfl) (by kernel_rfl) (by simp [Tryz.ntmps65]) (by simp [putO1]) fun w S φ hg => ?_
 have hφ : φ.length = 1 := hg.hs0.len
 refine R_run hg.ok 1000 rfl rfl ?_
 refine R_loop (fun x : Nat × Nat × List Tm => ([(0, .ow 0 x.2.1), (1, .d (.sl (Gl.rows l))), (5, iV x.1)], [.arr 4 x.2.1 (Tm.rows x.2.2)])) (fun x => x.1 ≤ l.length ∧ out ++ callsT l = x.2.2 ++ callsT (l.drop x.1) ∧ s + (callsT l).length = x.2.1 + (callsT (l.drop x.1)).length ∧ x.2.2.length + Gl.sizeL (l.drop x.1) ≤ 1000000) (fun x => l.length - x.1) (0, s, out) ⟨Nat.zero_le _, rfl, rfl, hb⟩ ⟨.refl _, .refl _, .refl _, trivial⟩ rfl ?_
 rintro ⟨k, j, td⟩ ⟨hk, hm, hs, hb2⟩
 simp only at hk hm hs hb2
 refine R_run hg.ok 1000 rfl rfl ?_
 refine R_if rfl rfl (fun h => ?_) (fun h => ?_) <;> refine R_run hg.ok 1000 rfl rfl ?_
 ·have hk1 : k < l.length := lt_dec h (by rw [Gl.rows_length])
  have e1 : l[k]? = some l[k] := List.getElem?_eq_getElem hk1
  have hmem := List.getElem_mem hk1
  rw [List.drop_eq_getElem_cons hk1] at hm hs hb2
  generalize l[k] = g at e1 hm hs hmem hb2
  simp only [Gl.sizeL] at hb2
  have hge := Gl.size_eq g
  have htp := Gl.tmPos g.t
  obtain ⟨sa, sb, sc⟩ := hsub g hmem
  rw [callsT_cons] at hm hs
  simp only [List.length_append] at hs
  have h1 : (if g.k = 1 then [g.t] else []).length ≤ 1 := by split <;> simp
  have la := callsT_len g.a
  have lb := callsT_len g.b
  have lc := callsT_len g.c
  have hrl := Tm.rows_length td
  refine R_index hg.ok rfl rfl rfl rfl rfl rfl (Int.natCast_nonneg _) (Gl.rows_get e1) rfl ?_
  refine R_run hg.ok 1000 rfl rfl ?_
  refine R_cut1 (fun x : Nat × List Tm => ([(0, .ow 0 x.1), (1, .d (.sl (Gl.rows l))), (5, iV k)], [.arr 4 x.1 (Tm.rows x.2)])) (fun x => x.1 = j + (if g.k = 1 then [g.t] else []).length ∧ x.2 = td ++ (if g.k = 1 then [g.t] else [])) rfl ?_ ?_
  ·by_cases c1 : g.k = 1
   ·refine R_if rfl rfl (fun _ => ?_) (fun h => absurd h (by simp [c1])) <;> refine R_run hg.ok 1000 rfl rfl ?_
    refine R_index hg.ok rfl rfl rfl rfl rfl rfl (Int.natCast_nonneg _) (Gl.rows_get e1) rfl ?_
    refine R_run hg.ok 1000 rfl rfl ?_
    refine R_appendO hg.ok (Tm.rows (td ++ [g.t])) rfl rfl rfl rfl rfl rfl rfl rfl rfl (by simp) (by simp [one1]) (tm_snoc td g.t) (by rw [hrl]; simp; omega) (by rw [hrl]; simp; omega) ?_
    refine R_run hg.ok 1000 rfl rfl ?_
    exact R_to (Nat.succ j, td ++ [g.t]) ⟨by rw [if_pos c1]; rfl, by rw [if_pos c1]⟩ ⟨.refl _, .refl _, .refl _, trivial⟩ rfl
   ·refine R_if rfl rfl (fun h => absurd h (by simp [c1])) (fun _ => ?_) <;> refine R_run hg.ok 1000 rfl rfl ?_
    exact R_to (j, td) ⟨by rw [if_neg c1]; rfl, by rw [if_neg c1]; simp⟩ ⟨.refl _, .refl _, .refl _, trivial⟩ rfl
  ·rintro ⟨j1, td1⟩ ⟨ej, et⟩
   simp only at ej et
   have hl1 : td1.length = td.length + (if g.k = 1 then [g.t] else []).length := by rw [et, List.length_append]
   refine R_run hg.ok 1000 rfl rfl ?_
   refine R_index hg.ok rfl rfl rfl rfl rfl rfl (Int.natCast_nonneg _) (Gl.rows_get e1) rfl ?_
   refine R_run hg.ok 1000 rfl rfl ?_
   refine R_callSO hg.ok hg.gup hg.wide hg.Y [0] ([.arr 4 (j1 + (callsT g.a).length) (Tm.rows (td1 ++ callsT g.a))]) (sa j1 td1 (by omega)) (fun _ => rfl) rfl rfl rfl rfl rfl rfl rfl rfl ?_
   refine R_run hg.ok 1000 rfl rfl ?_
   refine R_index hg.ok rfl rfl rfl rfl rfl rfl (Int.natCast_nonneg _) (Gl.rows_get e1) rfl ?_
   refine R_run hg.ok 1000 rfl rfl ?_
   refine R_callSO hg.ok hg.gup hg.wide hg.Y [0] ([.arr 4 (j1 + (callsT g.a).length + (callsT g.b).length) (Tm.rows (td1 ++ callsT g.a ++ callsT g.b))]) (sb (j1 + (callsT g.a).length) (td1 ++ callsT g.a) (by rw [List.length_append]; omega)) (fun _ => rfl) rfl rfl rfl rfl rfl rfl rfl rfl ?_
   refine R_run hg.ok 1000 rfl rfl ?_
   refine R_index hg.ok rfl rfl rfl rfl rfl rfl (Int.natCast_nonneg _) (Gl.rows_get e1) rfl ?_
   refine R_run hg.ok 1000 rfl rfl ?_
   refine R_callSO hg.ok hg.gup hg.wide hg.Y [0] ([.arr 4 (j1 + (callsT g.a).length + (callsT g.b).length + (callsT g.c).length) (Tm.rows (td1 ++ callsT g.a ++ callsT g.b ++ callsT g.c))]) (sc (j1 + (callsT g.a).length + (callsT g.b).length) (td1 ++ callsT g.a ++ callsT g.b) (by simp only [List.length_append]; omega)) (fun _ => rfl) rfl rfl rfl rfl rfl rfl rfl rfl ?_
   refine R_run hg.ok 1000 rfl rfl ?_
   exact R_next (k + 1, j1 + (callsT g.a).length + (callsT g.b).length + (callsT g.c).length, td1 ++ callsT g.a ++ callsT g.b ++ callsT g.c) ⟨hk1, by rw [hm, et]; simp, by simp only; omega, by simp only [List.length_append]; omega⟩ (by simp only; omega) ⟨.refl _, .refl _, Ent.wrap (by simp only; omega) (by simp only; omega) (by simp only; omega), trivial⟩ rfl
 ·have hk1 : l.length ≤ k := ge_dec h (by rw [Gl.rows_length])
  rw [List.drop_eq_nil_of_le hk1] at hm hs
  simp only [callsT, List.append_nil, List.length_nil, Nat.add_zero] at hm hs
  rw [hm, hs]
  exact R_retS hg 1 5 (Nat.le_refl _) rfl rfl rfl

set_option maxRecDepth 100000 in
theorem refCallsN_ok (l : List Gl) (hb : Gl.sizeL l ≤ 1000000) : PCtr Tryz.prog 65 [.d (.v (.slice none 0 0)), .d (.sl (Gl.rows l))] (.d (.sl (Tm.rows (callsT l)))) := by
 have hlen := Gl.len_size l
 have hcl := callsT_len l
 refine PCtr.of_R (pf := fun _ => .eff) tyOk mixed Tryz.func65 rfl (by kernel_rfl) (by kernel_rfl) (by simp [Tryz.ntmps65]) fun w S hg => ?_
 refine R_run hg.ok 1000 rfl rfl ?_
 refine R_own 0 4 rfl rfl ?_
 refine R_loop (fun x : Nat × Nat × List Tm => ([(0, .ow 0 x.2.1), (1, .d (.sl (Gl.rows l))), (5, iV x.1)], [.arr 4 x.2.1 (Tm.rows x.2.2)])) (fun x => x.1 ≤ l.length ∧ callsT l = x.2.2 ++ callsT (l.drop x.1) ∧ x.2.2.length + Gl.sizeL (l.drop x.1) ≤ 1000000) (fun x => l.length - x.1) (0, 0, []) ⟨Nat.zero_le _, rfl, by simpa using hb⟩ ⟨.refl _, .refl _, .refl _, trivial⟩ rfl ?_
 rintro ⟨k, j, td⟩ ⟨hk, hm, hb2⟩
 simp only at hk hm hb2
 refine R_run hg.ok 1000 rfl rfl ?_
 refine R_if rfl rfl (fun h => ?_) (fun h => ?_) <;> refine R_run hg.ok 1000 rfl rfl ?_
 ·have hk1 : k < l.length := lt_dec h (by rw [Gl.rows_length])
  have e1 : l[k]? = some l[k] := List.getElem?_eq_getElem hk1
  have hmem := List.getElem_mem hk1
  rw [List.drop_eq_getElem_cons hk1] at hm hb2
  generalize l[k] = g at e1 hm hmem hb2
  simp only [Gl.sizeL] at hb2
  have hge := Gl.size_eq g
  have htp := Gl.tmPos g.t
  have sa := refCalls_ok pY g.a
  have sb := refCalls_ok pY g.b
  have sc := refCalls_ok pY g.c
  rw [callsT_cons] at hm
  have hsz := Gl.size_mem hmem
  have h1 : (if g.k = 1 then [g.t] else []).length ≤ 1 := by split <;> simp
  have la := callsT_len g.a
  have lb := callsT_len g.b
  have lc := callsT_len g.c
  have hrl := Tm.rows_length td
  refine R_index hg.ok rfl rfl rfl rfl rfl rfl (Int.natCast_nonneg _) (Gl.rows_get e1) rfl ?_
  refine R_run hg.ok 1000 rfl rfl ?_
  refine R_cut1 (fun x : Nat × List Tm => ([(0, .ow 0 x.1), (1, .d (.sl (Gl.rows l))), (5, iV k)], [.arr 4 x.1 (Tm.rows x.2)])) (fun x => x.1 = j + (if g.k = 1 then [g.t] else []).length ∧ x.2 = td ++ (if g.k = 1 then [g.t] else [])) rfl ?_ ?_
  ·by_cases c1 : g.k = 1
   ·refine R_if rfl rfl (fun _ => ?_) (fun h => absurd h (by simp [c1])) <;> refine R_run hg.ok 1000 rfl rfl ?_
    refine R_index hg.ok rfl rfl rfl rfl rfl rfl (Int.natCast_nonneg _) (Gl.rows_get e1) rfl ?_
    refine R_run hg.ok 1000 rfl rfl ?_
    refine R_appendO hg.ok (Tm.rows (td ++ [g.t])) rfl rfl rfl rfl rfl rfl rfl rfl rfl (by simp) (by simp [one1]) (tm_snoc td g.t) (by rw [hrl]; simp; omega) (by rw [hrl]; simp; omega) ?_
    refine R_run hg.ok 1000 rfl rfl ?_
    exact R_to (Nat.succ j, td ++ [g.t]) ⟨by rw [if_pos c1]; rfl, by rw [if_pos c1]⟩ ⟨.refl _, .refl _, .refl _, trivial⟩ rfl
   ·refine R_if rfl rfl (fun h => absurd h (by simp [c1])) (fun _ => ?_) <;> refine R_run hg.ok 1000 rfl rfl ?_
    exact R_to (j, td) ⟨by rw [if_neg c1]; rfl, by rw [if_neg c1]; simp⟩ ⟨.refl _, .refl _, .refl _, trivial⟩ rfl
  ·rintro ⟨j1, td1⟩ ⟨ej, et⟩
   simp only at ej et
   have hl1 : td1.length = td.length + (if g.k = 1 then [g.t] else []).length := by rw [et, List.length_append]
   refine R_run hg.ok 1000 rfl rfl ?_
   refine R_index hg.ok rfl rfl rfl rfl rfl rfl (Int.natCast_nonneg _) (Gl.rows_get e1) rfl ?_
   refine R_run hg.ok 1000 rfl rfl ?_
   refine R_callSO hg.ok hg.gup ⟨rfl, rfl⟩ (fun _ _ _ _ h => by cases h) [0] ([.arr 4 (j1 + (callsT g.a).length) (Tm.rows (td1 ++ callsT g.a))]) (sa j1 td1 (by omega)) (fun _ => rfl) rfl rfl rfl rfl rfl rfl rfl rfl ?_
   refine R_run hg.ok 1000 rfl rfl ?_
   refine R_index hg.ok rfl rfl rfl rfl rfl rfl (Int.natCast_nonneg _) (Gl.rows_get e1) rfl ?_
   refine R_run hg.ok 1000 rfl rfl ?_
   refine R_callSO hg.ok hg.gup ⟨rfl, rfl⟩ (fun _ _ _ _ h => by cases h) [0] ([.arr 4 (j1 + (callsT g.a).length + (callsT g.b).length) (Tm.rows (td1 ++ callsT g.a ++ callsT g.b))]) (sb (j1 + (callsT g.a).length) (td1 ++ callsT g.a) (by rw [List.length_append]; omega)) (fun _ => rfl) rfl rfl rfl rfl rfl rfl rfl rfl ?_
   refine R_run hg.ok 1000 rfl rfl ?_
   refine R_index hg.ok rfl rfl rfl rfl rfl rfl (Int.natCast_nonneg _) (Gl.rows_get e1) rfl ?_
   refine R_run hg.ok 1000 rfl rfl ?_
   refine R_callSO hg.ok hg.gup ⟨rfl, rfl⟩ (fun _ _ _ _ h => by cases h) [0] ([.arr 4 (j1 + (callsT g.a).length + (callsT g.b).length + (callsT g.c).length) (Tm.rows (td1 ++ callsT g.a ++ callsT g.b ++ callsT g.c))]) (sc (j1 + (callsT g.a).length + (callsT g.b).length) (td1 ++ callsT g.a ++ callsT g.b) (by simp only [List.length_append]; omega)) (fun _ => rfl) rfl rfl rfl rfl rfl rfl rfl rfl ?_
   refine R_run hg.ok 1000 rfl rfl ?_
   exact R_next (k + 1, j1 + (callsT g.a).length + (callsT g.b).length + (callsT g.c).length, td1 ++ callsT g.a ++ callsT g.b ++ callsT g.c) ⟨hk1, by rw [hm, et]; simp, by simp only [List.length_append]; omega⟩ (by simp only; omega) ⟨.refl _, .refl _, Ent.wrap (by simp only; omega) (by simp only; omega) (by simp only; omega), trivial⟩ rfl
 ·have hk1 : l.length ≤ k := ge_dec h (by rw [Gl.rows_length])
  rw [List.drop_eq_nil_of_le hk1] at hm
  simp only [callsT, List.append_nil] at hm
  rw [hm]
  refine R_ret hg 5 rfl (sealA_ow rfl) ?_
  rfl
end Go.Proofs.YthdpfglpdgmphaaGreat

namespace Go.Proofs.YthdpfglpdgmphaaGreat
open Go PSL Go.Proofs
def pfHas : Nat → Cls := fun f => bif Nat.beq f 41 then .look 0 else .still

set_option maxHeartbeats 4000000 in
set_option maxRecDepth 100000 in
theorem refReach_ok (l : List Cs) (roots : List Sg) (hl : Med l) (hr : roots.length ≤ 1000) : PCtr Tryz.prog 40 [.d (.sl (Cs.rows l)), .d (.sl (sgR roots))] (.d (.sl (sgR (reachD l roots)))) := by
 have hlen := hl.len
 have hsz := hl.size
 have hls := leftR_size roots l
 refine PCtr.of_R (pf := pfHas) tyOk mixed Tryz.func40 rfl (by kernel_rfl) (by kernel_rfl) (by simp [Tryz.ntmps40]) fun w S hg => ?_
 refine R_run hg.ok 1000 rfl rfl ?_
 refine R_appendF hg.ok rfl rfl (.inl rfl) rfl (.inl rfl) rfl rfl rfl (by simp) (sgR_two roots) (by rw [sgR_len]; simp; omega) (by rw [sgR_len]; simp; omega) ?_
 refine R_run hg.ok 1000 rfl rfl ?_
 refine R_loop (fun x : List Sg × Bool × Nat => ([(0, .d (.sl (Cs.rows l))), (5, .ow 0 x.2.2), (6, bV x.2.1)], [.arr 2 x.2.2 (sgR x.1)])) (fun x => (x.2.1 = true → reachD l roots = iterR l (leftR roots l + 1) x.1) ∧ (x.2.1 = false → reachD l roots = x.1) ∧ x.1.length + leftR x.1 l ≤ roots.length + leftR roots l ∧ leftR x.1 l ≤ leftR roots l) (fun x => 2 * leftR x.1 l + (if x.2.1 then 1 else 0)) (roots, true, 0) ⟨fun _ => rfl, by simp, Nat.le_refl _, Nat.le_refl _⟩ ⟨.refl _, .refl _, by first | exact .tt | exact .refl _, trivial⟩ rfl ?_
 rintro ⟨out, ag, j⟩ ⟨h1, h2, h3, h4⟩
 simp only at h1 h2 h3 h4
 refine R_run hg.ok 1000 rfl rfl ?_
 refine R_if rfl rfl (fun h => ?_) (fun h => ?_) <;> refine R_run hg.ok 1000 rfl rfl ?_
 ·have hag : ag = true := h
  have hit := h1 hag
  simp only [iterR] at hit
  obtain ⟨ext, a1, _, a3, a4, _⟩ := passR_ok l l out false fun c hc => hc
  have hfin : (passR l out false).1.length ≤ 500000 := by rw [a1, List.length_append]; omega
  refine R_loop (fun x : Nat × List Sg × Bool × Nat => ([(0, .d (.sl (Cs.rows l))), (5, .ow 0 x.2.2.2), (6, bV x.2.2.1), (7, iV x.1)], [.arr 2 x.2.2.2 (sgR x.2.1)])) (fun x => x.1 ≤ l.length ∧ passR l out false = passR (l.drop x.1) x.2.1 x.2.2.1) (fun x => l.length - x.1) (0, out, false, j) ⟨Nat.zero_le _, rfl⟩ ⟨.refl _, .refl _, by first | exact .ff | exact .refl _, .refl _, trivial⟩ rfl ?_
  rintro ⟨i, o, ag2, j2⟩ ⟨hi, hm⟩
  simp only at hi hm
  have hol : o.length ≤ 500000 := by
   have := passR_grow (l.drop i) o ag2
   rw [← hm] at this; omega
  refine R_run hg.ok 1000 rfl rfl ?_
  refine R_if rfl rfl (fun h => ?_) (fun h => ?_) <;> refine R_run hg.ok 1000 rfl rfl ?_
  ·have hi1 : i < l.length := lt_dec h (by rw [Cs.rows_len])
   have e1 : l[i]? = some l[i] := List.getElem?_eq_getElem hi1
   have hmem := List.getElem_mem hi1
   rw [List.drop_eq_getElem_cons hi1, passR] at hm
   generalize l[i] = c at e1 hm hmem
   have hcb := hl.body c hmem
   refine R_index hg.ok rfl rfl rfl rfl rfl rfl (Int.natCast_nonneg _) (Cs.rows_get e1) rfl ?_
   refine R_run hg.ok 1000 rfl rfl ?_
   refine R_index hg.ok rfl rfl rfl rfl rfl rfl (Int.natCast_nonneg _) (Cs.rows_get e1) rfl ?_
   refine R_run hg.ok 1000 rfl rfl ?_
   refine R_callO hg.ok hg.gup (refHas21_ok o c.head.s ((Tm.rows c.head.l).length : Int) (by omega)) rfl rfl rfl rfl (mapO_cons (sealA_ow rfl) rfl) rfl rfl ?_
   rw [show hasS o (c.head.s, ((Tm.rows c.head.l).length : Int)) = hasS o (sgOf c.head) by rw [Tm.rows_length]; rfl]
   refine R_run hg.ok 1000 rfl rfl ?_
   refine R_if rfl rfl (fun h5 => ?_) (fun h5 => ?_) <;> refine R_run hg.ok 1000 rfl rfl ?_
   ·have h6 : hasS o (sgOf c.head) = false := by simpa using h5
    rw [if_neg (by rw [h6]; simp)] at hm
    exact R_next (i + 1, o, ag2, j2) ⟨hi1, hm⟩ (by simp only; omega) ⟨.refl _, .refl _, .refl _, Ent.wrap (by simp only; omega) (by simp only; omega) (by simp only; omega), trivial⟩ rfl
   ·have h6 : hasS o (sgOf c.head) = true := by simpa using h5
    rw [if_pos h6] at hm
    refine R_index hg.ok rfl rfl rfl rfl rfl rfl (Int.natCast_nonneg _) (Cs.rows_get e1) rfl ?_
    refine R_run hg.ok 1000 rfl rfl ?_
    refine R_callX hg.ok (refCallsN_ok c.body (by omega)) rfl rfl rfl rfl rfl rfl ?_
    refine R_run hg.ok 1000 rfl rfl ?_
    have hTl := Tm.rows_length (callsT c.body)
    have hct := callsT_len c.body
    have hgr : ∀ (o2 : List Sg) (ag3 : Bool) (ts : List Sg), goCalls o ag2 (callsS c.body) = goCalls o2 ag3 ts → o2.length ≤ 500000 := fun o2 ag3 ts e => by
     have g1 := goCalls_grow ts o2 ag3
     have g2 := passR_grow (l.drop (i + 1)) (goCalls o ag2 (callsS c.body)).1 (goCalls o ag2 (callsS c.body)).2
     rw [← hm] at g2
     rw [← e] at g1
     omega
    refine R_loop (fun x : Nat × List Sg × Bool × Nat => ([(0, .d (.sl (Cs.rows l))), (5, .ow 0 x.2.2.2), (6, bV x.2.2.1), (7, iV i), (8, .d (.sl (Tm.rows (callsT c.body)))), (9, iV x.1)], [.arr 2 x.2.2.2 (sgR x.2.1)])) (fun x => x.1 ≤ (callsT c.body).length ∧ goCalls o ag2 (callsS c.body) = goCalls x.2.1 x.2.2.1 (((callsT c.body).drop x.1).map sgOf)) (fun x => (callsT c.body).length - x.1) (0, o, ag2, j2) ⟨Nat.zero_le _, rfl⟩ ⟨.refl _, .refl _, .refl _, .refl _, .refl _, .refl _, trivial⟩ rfl ?_
    rintro ⟨k, o2, ag3, j3⟩ ⟨hk, hm3⟩
    simp only at hk hm3
    have ho2 := hgr o2 ag3 _ hm3
    refine R_run hg.ok 1000 rfl rfl ?_
    refine R_if rfl rfl (fun h => ?_) (fun h => ?_) <;> refine R_run hg.ok 1000 rfl rfl ?_
    ·have hk1 : k < (callsT c.body).length := lt_dec h (by rw [hTl])
     have e2 : (callsT c.body)[k]? = some (callsT c.body)[k] := List.getElem?_eq_getElem hk1
     rw [List.drop_eq_getElem_cons hk1, List.map_cons, goCalls] at hm3
     generalize (callsT c.body)[k] = t at e2 hm3
     refine R_index hg.ok rfl rfl rfl rfl rfl rfl (Int.natCast_nonneg _) (Tm.rows_get e2) rfl ?_
     refine R_run hg.ok 1000 rfl rfl ?_
     refine R_index hg.ok rfl rfl rfl rfl rfl rfl (Int.natCast_nonneg _) (Tm.rows_get e2) rfl ?_
     refine R_run hg.ok 1000 rfl rfl ?_
     refine R_callO hg.ok hg.gup (refHas21_ok o2 t.s ((Tm.rows t.l).length : Int) (by omega)) rfl rfl rfl rfl (mapO_cons (sealA_ow rfl) rfl) rfl rfl ?_
     rw [show hasS o2 (t.s, ((Tm.rows t.l).length : Int)) = hasS o2 (sgOf t) by rw [Tm.rows_length]; rfl]
     refine R_run hg.ok 1000 rfl rfl ?_
     refine R_if rfl rfl (fun h7 => ?_) (fun h7 => ?_) <;> refine R_run hg.ok 1000 rfl rfl ?_
     ·have h8 : hasS o2 (sgOf t) = false := by simpa using h7
      rw [if_neg (by rw [h8]; simp)] at hm3
      refine R_index hg.ok rfl rfl rfl rfl rfl rfl (Int.natCast_nonneg _) (Tm.rows_get e2) rfl ?_
      refine R_run hg.ok 1000 rfl rfl ?_
      refine R_index hg.ok rfl rfl rfl rfl rfl rfl (Int.natCast_nonneg _) (Tm.rows_get e2) rfl ?_
      refine R_run hg.ok 1000 rfl rfl ?_
      refine R_appendO hg.ok (sgR (o2 ++ [sgOf t])) rfl rfl rfl rfl rfl rfl rfl rfl rfl (by simp) (by simp [one1]) (by rw [Tm.rows_length]; exact sgR_snoc o2 (sgOf t)) (by rw [sgR_len]; simp; omega) (by rw [sgR_len]; simp; omega) ?_
      refine R_run hg.ok 1000 rfl rfl ?_
      exact R_next (k + 1, o2 ++ [sgOf t], true, Nat.succ j3) ⟨hk1, hm3⟩ (by simp only; omega) ⟨.refl _, .refl _, by first | exact .tt | exact .refl _, .refl _, .refl _, Ent.wrap (by simp only; omega) (by simp only; omega) (by simp only; omega), trivial⟩ rfl
     ·have h8 : hasS o2 (sgOf t) = true := by simpa using h7
      rw [if_pos h8] at hm3
      exact R_next (k + 1, o2, ag3, j3) ⟨hk1, hm3⟩ (by simp only; omega) ⟨.refl _, .refl _, .refl _, .refl _, .refl _, Ent.wrap (by simp only; omega) (by simp only; omega) (by simp only; omega), trivial⟩ rfl
    ·have hk1 : (callsT c.body).length ≤ k := ge_dec h (by rw [hTl])
     rw [List.drop_eq_nil_of_le hk1] at hm3
     simp only [List.map_nil, goCalls] at hm3
     rw [hm3] at hm
     exact R_next (i + 1, o2, ag3, j3) ⟨hi1, hm⟩ (by simp only; omega) ⟨.refl _, .refl _, .refl _, Ent.wrap (by simp only; omega) (by simp only; omega) (by simp only; omega), trivial⟩ rfl
  ·have hi1 : l.length ≤ i := ge_dec h (by rw [Cs.rows_len])
   rw [List.drop_eq_nil_of_le hi1, passR] at hm
   rw [hm] at a1 a3 a4 hit
   simp only at a1 a3 a4 hit
   refine R_next (o, ag2, j2) ⟨fun e => ?_, fun e => ?_, ?_, ?_⟩ ?_ ⟨.refl _, .refl _, .refl _, trivial⟩ rfl
   ·have e : ag2 = true := e
    rw [e] at a4 hit
    have hx : ext ≠ [] := by simpa using a4.symm
    have := List.length_pos_iff.2 hx
    rw [hit, if_pos rfl]
    exact iterR_fuel l _ _ o (by omega) (by omega)
   ·have e : ag2 = false := e
    rw [hit, e]; rfl
   ·simp only; rw [a1, List.length_append]; rw [← a1]; omega
   ·simp only; omega
   ·have hq : (if ag = true then 1 else 0) = 1 := if_pos hag
    simp only
    cases e : ag2 with
    | false => simp only [Bool.false_eq_true, if_false]; omega
    | true =>
     rw [e] at a4
     have hx : ext ≠ [] := by simpa using a4.symm
     have := List.length_pos_iff.2 hx
     simp only [if_true]; omega
 ·have h : ag = false := h
  rw [h2 h]
  refine R_ret hg 5 rfl (sealA_ow rfl) ?_
  rfl
end Go.Proofs.YthdpfglpdgmphaaGreat

namespace Go.Proofs.YthdpfglpdgmphaaGreat
open Go PSL Go.Proofs
theorem hasRows (o : List Sg) (t : Tm) : hasS o (t.s, ((Tm.rows t.l).length : Int)) = hasS o (sgOf t) := by rw [Tm.rows_length]; rfl

set_option maxHeartbeats 4000000 in
set_option maxRecDepth 100000 in
theorem refReached_ok (l : List Cs) (roots : List Sg) (hl : Med l) (hr : roots.length ≤ 1000) : PCtr Tryz.prog 18 [prV l, .d (.sl (sgR roots))] (.d (.sl (sgR (reachedD (reachD l roots) [] l)))) := by
 have hlen := hl.len
 have hsz := hl.size
 have hls := leftR_size roots l
 have hrl : (reachD l roots).length ≤ 500000 := by have := iterR_len l (leftR roots l + 1) roots; unfold reachD; omega
 refine PCtr.of_R (pf := pfHas) tyOk mixed Tryz.func18 rfl (by kernel_rfl) (by kernel_rfl) (by simp [Tryz.ntmps18]) fun w S hg => ?_
 refine R_run hg.ok 1000 rfl rfl ?_
 refine R_call hg.ok (refReach_ok l roots hl hr) rfl rfl rfl rfl rfl rfl ?_
 refine R_run hg.ok 1000 rfl rfl ?_
 generalize reachD l roots = all at *
 refine R_own 6 2 rfl rfl ?_
 refine R_loop (fun x : Nat × List Sg × Nat => ([(2, .lo 0 0), (5, .d (.sl (sgR all))), (6, .ow 1 x.2.2), (7, iV x.1)], [.box [.d (.sl (Cs.rows l))], .arr 2 x.2.2 (sgR x.2.1)])) (fun x => x.1 ≤ l.length ∧ reachedD all [] l = reachedD all x.2.1 (l.drop x.1) ∧ x.2.1.length ≤ x.1) (fun x => l.length - x.1) (0, [], 0) ⟨Nat.zero_le _, rfl, Nat.le_refl _⟩ ⟨.refl _, .refl _, .refl _, .refl _, trivial⟩ rfl ?_
 rintro ⟨k, out, j⟩ ⟨hk, hm, ho⟩
 simp only at hk hm ho
 refine R_run hg.ok 1000 rfl rfl ?_
 refine R_if rfl rfl (fun h => ?_) (fun h => ?_) <;> refine R_run hg.ok 1000 rfl rfl ?_
 ·have hk1 : k < l.length := lt_dec h (by rw [Cs.rows_len])
  have e1 : l[k]? = some l[k] := List.getElem?_eq_getElem hk1
  rw [List.drop_eq_getElem_cons hk1, reachedD] at hm
  generalize l[k] = c at e1 hm
  refine R_index hg.ok rfl rfl rfl rfl rfl rfl (Int.natCast_nonneg _) (Cs.rows_get e1) rfl ?_
  refine R_run hg.ok 1000 rfl rfl ?_
  refine R_call hg.ok (refHas21_ok all c.head.s ((Tm.rows c.head.l).length : Int) (by omega)) rfl rfl rfl rfl rfl rfl ?_
  refine R_run hg.ok 1000 rfl rfl ?_
  rw [hasRows]
  cases h2 : hasS all (sgOf c.head) with
  | false =>
   rw [h2, Bool.false_and, if_neg (by simp)] at hm
   refine R_if rfl rfl (fun h => absurd h (by simp [h2])) (fun _ => ?_) <;> refine R_run hg.ok 1000 rfl rfl ?_
   refine R_dropO 2 [.box [.d (.sl (Cs.rows l))], .arr 2 j (sgR out)] (Nat.zero_le _) rfl rfl ?_
   exact R_next (k + 1, out, j) ⟨hk1, hm, by simp only; omega⟩ (by simp only; omega) ⟨.refl _, .refl _, .refl _, Ent.wrap (by simp only; omega) (by simp only; omega) (by simp only; omega), trivial⟩ rfl
  | true =>
   rw [h2, Bool.true_and] at hm
   refine R_if rfl rfl (fun _ => ?_) (fun h => absurd h (by simp [h2])) <;> refine R_run hg.ok 1000 rfl rfl ?_
   refine R_callO hg.ok hg.gup (refHas21_ok out c.head.s ((Tm.rows c.head.l).length : Int) (by omega)) rfl rfl rfl rfl (mapO_cons (sealA_ow rfl) rfl) rfl rfl ?_
   rw [hasRows]
   refine R_run hg.ok 1000 rfl rfl ?_
   refine R_if rfl rfl (fun h3 => ?_) (fun h3 => ?_) <;> refine R_run hg.ok 1000 rfl rfl ?_
   ·rw [if_pos h3] at hm
    refine R_appendO hg.ok (sgR (out ++ [sgOf c.head])) rfl rfl rfl rfl rfl rfl rfl rfl rfl (by simp) (by simp [one1]) (by rw [Tm.rows_length]; exact sgR_snoc out (sgOf c.head)) (by rw [sgR_len]; simp; omega) (by rw [sgR_len]; simp; omega) ?_
    refine R_run hg.ok 1000 rfl rfl ?_
    refine R_dropO 2 [.box [.d (.sl (Cs.rows l))], .arr 2 (Nat.succ j) (sgR (out ++ [sgOf c.head]))] (Nat.zero_le _) rfl rfl ?_
    exact R_next (k + 1, out ++ [sgOf c.head], Nat.succ j) ⟨hk1, hm, by simp only [List.length_append, List.length_singleton]; omega⟩ (by simp only; omega) ⟨.refl _, .refl _, .refl _, Ent.wrap (by simp only; omega) (by simp only; omega) (by simp only; omega), trivial⟩ rfl
   ·rw [if_neg (by rw [h3]; simp)] at hm
    refine R_dropO 2 [.box [.d (.sl (Cs.rows l))], .arr 2 j (sgR out)] (Nat.zero_le _) rfl rfl ?_
    exact R_next (k + 1, out, j) ⟨hk1, hm, by simp only; omega⟩ (by simp only; omega) ⟨.refl _, .refl _, .refl _, Ent.wrap (by simp only; omega) (by simp only; omega) (by simp only; omega), trivial⟩ rfl
 ·have hk1 : l.length ≤ k := ge_dec h (by rw [Cs.rows_len])
  rw [List.drop_eq_nil_of_le hk1, reachedD] at hm
  rw [hm]
  refine R_ret hg 5 rfl (sealA_ow rfl) ?_
  rfl
end Go.Proofs.YthdpfglpdgmphaaGreat

namespace Go.Proofs.YthdpfglpdgmphaaGreat
open Go PSL Go.Proofs
end Go.Proofs.YthdpfglpdgmphaaGreat

namespace Go.Proofs.YthdpfglpdgmphaaGreat
open Go PSL Go.Proofs
end Go.Proofs.YthdpfglpdgmphaaGreat

namespace Go.Proofs.YthdpfglpdgmphaaGreat
open Go PSL Go.Proofs
end Go.Proofs.YthdpfglpdgmphaaGreat

namespace Go.Proofs.YthdpfglpdgmphaaGreat
open Go PSL Go.Proofs

set_option maxRecDepth 100000 in
theorem refFewG_ok (l : List Gl) : ∀ (m d : Int), (∀ g ∈ l, g.Ok) → l.length ≤ 140737488355328 → -1000 ≤ d ∧ d ≤ 1000 → PCtr Tryz.prog 25 [.d (.sl (Gl.rows l)), iV m, iV d] (iV (fewGL l m d)) := by
 refine Gl.indL (p := fun l => ∀ (m d : Int), (∀ g ∈ l, g.Ok) → l.length ≤ 140737488355328 → -1000 ≤ d ∧ d ≤ 1000 → PCtr Tryz.prog 25 [.d (.sl (Gl.rows l)), iV m, iV d] (iV (fewGL l m d))) (fun l hsub => ?_) l
 intro m d hok hlen hd0
 have hrl := Gl.rows_length l
 refine PCtr.of_R (pf := fun _ => .still) tyOk mixed Tryz.func25 rfl (by kernel_rfl) (by kernel_rfl) (by simp [Tryz.ntmps25]) fun w S hg => ?_
 refine R_run hg.ok 1000 rfl rfl ?_
 by_cases hd : d < 1
 ·refine R_if rfl rfl (fun _ => ?_) (fun h => absurd (of_decide_eq_false h) (by omega)) <;> refine R_run hg.ok 1000 rfl rfl ?_
  refine R_ret hg 5 rfl rfl ?_
  unfold fewGL; rw [if_pos hd]; rfl
 refine R_if rfl rfl (fun h => absurd (of_decide_eq_true h) (by omega)) (fun _ => ?_) <;> refine R_run hg.ok 1000 rfl rfl ?_
 have hfe : fewGL l m d = fewGo l m d := by unfold fewGL; rw [if_neg hd]
 rw [hfe]
 have hwd : IntKind.i64.wrap (d - 1) = d - 1 := w64 (by omega) (by omega)
 refine R_loop (fun x : Nat × Int => ([(0, .d (.sl (Gl.rows l))), (1, iV x.2), (2, iV d), (7, iV x.1)], [])) (fun x => x.1 ≤ l.length ∧ fewGo l m d = fewGo (l.drop x.1) x.2 d) (fun x => l.length - x.1) (0, m) ⟨Nat.zero_le _, rfl⟩ ⟨.refl _, .refl _, .refl _, .refl _, trivial⟩ rfl ?_
 rintro ⟨k, q⟩ ⟨hk, hm⟩
 have hm : fewGo l m d = fewGo (l.drop k) q d := hm
 have hk : k ≤ l.length := hk
 refine R_run hg.ok 1000 rfl rfl ?_
 refine R_if rfl rfl (fun h => ?_) (fun h => ?_) <;> refine R_run hg.ok 1000 rfl rfl ?_
 rotate_left
 ·have hk1 : l.length ≤ k := ge_dec h (by rw [hrl])
  refine R_ret hg 5 rfl rfl ?_
  rw [hm, List.drop_eq_nil_of_le hk1]; rfl
 have hk1 : k < l.length := lt_dec h (by rw [hrl])
 have e1 : l[k]? = some l[k] := List.getElem?_eq_getElem hk1
 have hmem := List.getElem_mem hk1
 rw [List.drop_eq_getElem_cons hk1, fewGo] at hm
 generalize l[k] = g at e1 hm hmem
 obtain ⟨sa, sb, sc⟩ := hsub g hmem
 have ho := hok g hmem
 refine R_if rfl rfl (fun h2 => ?_) (fun h2 => ?_) <;> refine R_run hg.ok 1000 rfl rfl ?_
 ·rw [if_pos (of_decide_eq_true h2), fewG1_eq] at hm
  refine R_index hg.ok rfl rfl rfl rfl rfl rfl (Int.natCast_nonneg _) (Gl.rows_get e1) rfl ?_
  refine R_run hg.ok 1000 rfl rfl ?_
  refine R_call hg.ok (few_ok g.t ho.tm.1 q 200) rfl rfl rfl rfl rfl rfl ?_
  refine R_run hg.ok 1000 rfl rfl ?_
  refine R_index hg.ok rfl rfl rfl rfl rfl rfl (Int.natCast_nonneg _) (Gl.rows_get e1) rfl ?_
  refine R_run hg.ok 1000 rfl rfl ?_
  rw [hwd]
  refine R_call hg.ok (sa (g.t.few q 200) (d - 1) ho.ma ho.la (by omega)) rfl rfl rfl rfl rfl rfl ?_
  refine R_run hg.ok 1000 rfl rfl ?_
  refine R_index hg.ok rfl rfl rfl rfl rfl rfl (Int.natCast_nonneg _) (Gl.rows_get e1) rfl ?_
  refine R_run hg.ok 1000 rfl rfl ?_
  rw [hwd]
  refine R_call hg.ok (sb (fewGL g.a (g.t.few q 200) (d - 1)) (d - 1) ho.mb ho.lb (by omega)) rfl rfl rfl rfl rfl rfl ?_
  refine R_run hg.ok 1000 rfl rfl ?_
  refine R_index hg.ok rfl rfl rfl rfl rfl rfl (Int.natCast_nonneg _) (Gl.rows_get e1) rfl ?_
  refine R_run hg.ok 1000 rfl rfl ?_
  rw [hwd]
  refine R_call hg.ok (sc (fewGL g.b (fewGL g.a (g.t.few q 200) (d - 1)) (d - 1)) (d - 1) ho.mc ho.lc (by omega)) rfl rfl rfl rfl rfl rfl ?_
  refine R_run hg.ok 1000 rfl rfl ?_
  exact R_next (k + 1, fewGL g.c (fewGL g.b (fewGL g.a (g.t.few q 200) (d - 1)) (d - 1)) (d - 1)) ⟨hk1, hm⟩ (by simp only; omega) ⟨.refl _, .refl _, .refl _, Ent.wrap (by simp only; omega) (by simp only; omega) (by simp only; omega), trivial⟩ rfl
 ·rw [if_neg (of_decide_eq_false h2)] at hm
  refine R_ret hg 5 rfl rfl ?_
  rw [hm]; rfl

set_option maxRecDepth 100000 in
theorem refSomeP_ok (l : List Cs) (hok : ∀ c ∈ l, c.Ok) (hlen : l.length ≤ 140737488355328) : PCtr Tryz.prog 7 [prV l] (bV (somP l)) := by
 have hrl := Cs.rows_len l
 refine PCtr.of_R (pf := fun _ => .eff) tyOk mixed Tryz.func7 rfl (by kernel_rfl) (by kernel_rfl) (by simp [Tryz.ntmps7]) fun w S hg => ?_
 refine R_run hg.ok 1000 rfl rfl ?_
 refine R_cut2 (fun _ : Unit => ([(1, .lo 0 0), (3, iV (somGo l 3000))], [.box [.d (.sl (Cs.rows l))]])) (fun _ => True) rfl ?_ ?_
 ·refine R_loop (fun x : Nat × Int => ([(1, .lo 0 0), (3, iV x.2), (4, iV x.1)], [.box [.d (.sl (Cs.rows l))]])) (fun x => x.1 ≤ l.length ∧ somGo l 3000 = somGo (l.drop x.1) x.2) (fun x => l.length - x.1) (0, 3000) ⟨Nat.zero_le _, rfl⟩ ⟨.refl _, .refl _, .refl _, trivial⟩ rfl ?_
  rintro ⟨k, q⟩ ⟨hk, hm⟩
  have hm : somGo l 3000 = somGo (l.drop k) q := hm
  have hk : k ≤ l.length := hk
  refine R_run hg.ok 1000 rfl rfl ?_
  refine R_if rfl rfl (fun h => ?_) (fun h => ?_) <;> refine R_run hg.ok 1000 rfl rfl ?_
  rotate_left
  ·have hk1 : l.length ≤ k := ge_dec h (by rw [hrl])
   refine R_to () trivial ⟨.refl _, ?_, trivial⟩ rfl
   rw [hm, List.drop_eq_nil_of_le hk1]; exact .refl _
  have hk1 : k < l.length := lt_dec h (by rw [hrl])
  have e1 : l[k]? = some l[k] := List.getElem?_eq_getElem hk1
  have hmem := List.getElem_mem hk1
  rw [List.drop_eq_getElem_cons hk1, somGo] at hm
  generalize l[k] = c at e1 hm hmem
  have ho := hok c hmem
  refine R_if rfl rfl (fun h2 => ?_) (fun h2 => ?_) <;> refine R_run hg.ok 1000 rfl rfl ?_
  ·rw [if_pos (of_decide_eq_true h2)] at hm
   refine R_index hg.ok rfl rfl rfl rfl rfl rfl (Int.natCast_nonneg _) (Cs.rows_get e1) rfl ?_
   refine R_run hg.ok 1000 rfl rfl ?_
   refine R_call hg.ok (few_ok c.head ho.head.1 q 200) rfl rfl rfl rfl rfl rfl ?_
   refine R_run hg.ok 1000 rfl rfl ?_
   refine R_index hg.ok rfl rfl rfl rfl rfl rfl (Int.natCast_nonneg _) (Cs.rows_get e1) rfl ?_
   refine R_run hg.ok 1000 rfl rfl ?_
   refine R_call hg.ok (refFewG_ok c.body (c.head.few q 200) 30 ho.body ho.len (by omega)) rfl rfl rfl rfl rfl rfl ?_
   refine R_run hg.ok 1000 rfl rfl ?_
   exact R_next (k + 1, fewGL c.body (c.head.few q 200) 30) ⟨hk1, hm⟩ (by simp only; omega) ⟨.refl _, .refl _, Ent.wrap (by simp only; omega) (by simp only; omega) (by simp only; omega), trivial⟩ rfl
  ·rw [if_neg (of_decide_eq_false h2)] at hm
   refine R_to () trivial ⟨.refl _, ?_, trivial⟩ rfl
   rw [hm]; exact .refl _
 rintro _ _
 refine R_run hg.ok 1000 rfl rfl ?_
 unfold somP
 refine R_if rfl rfl (fun h2 => ?_) (fun h2 => ?_) <;> refine R_run hg.ok 1000 rfl rfl ?_
 ·refine R_ret hg 5 rfl rfl ?_
  rw [show decide (somGo l 3000 ≥ 0) = true from h2, Bool.true_and]
  rw [show decide (((Cs.rows l).length : Int) ≤ 210) = decide (l.length ≤ 210) by rw [hrl]; exact decide_eq_decide.2 (by omega)]
  rfl
 ·refine R_ret hg 5 rfl rfl ?_
  rw [show decide (somGo l 3000 ≥ 0) = false from h2]; rfl
end Go.Proofs.YthdpfglpdgmphaaGreat

namespace Go.Proofs.YthdpfglpdgmphaaGreat
open Go PSL Go.Proofs

set_option maxRecDepth 100000 in
theorem asRoots_ok (roots : List Sg) (hr : roots.length ≤ 1000) : PCtr Tryz.prog 19 [.d (.sl (sgR roots))] (.d (.sl (sgR roots))) := by
 refine PCtr.of_R (pf := fun _ => .still) tyOk mixed Tryz.func19 rfl (by kernel_rfl) (by kernel_rfl) (by simp [Tryz.ntmps19]) fun w S hg => ?_
 refine R_run hg.ok 1000 rfl rfl ?_
 refine R_own 3 2 rfl rfl ?_
 refine R_loop (fun k : Nat => ([(0, .d (.sl (sgR roots))), (3, .ow 0 k), (4, iV k)], [.arr 2 k (sgR (roots.take k))])) (fun k => k ≤ roots.length) (fun k => roots.length - k) 0 (Nat.zero_le _) ⟨.refl _, .refl _, .refl _, trivial⟩ rfl ?_
 rintro k hk
 have htl : (roots.take k).length = k := by rw [List.length_take]; omega
 refine R_run hg.ok 1000 rfl rfl ?_
 refine R_if rfl rfl (fun h => ?_) (fun h => ?_) <;> refine R_run hg.ok 1000 rfl rfl ?_
 ·have hk1 : k < roots.length := lt_dec h (by rw [sgR_len])
  have e1 : roots[k]? = some roots[k] := List.getElem?_eq_getElem hk1
  generalize roots[k] = p at e1
  refine R_index hg.ok rfl rfl rfl rfl rfl rfl (Int.natCast_nonneg _) (sgR_get e1) rfl ?_
  refine R_run hg.ok 1000 rfl rfl ?_
  refine R_index hg.ok rfl rfl rfl rfl rfl rfl (Int.natCast_nonneg _) (sgR_get e1) rfl ?_
  refine R_run hg.ok 1000 rfl rfl ?_
  refine R_appendO hg.ok (sgR (roots.take (k + 1))) rfl rfl rfl rfl rfl rfl rfl rfl rfl (by simp) (by simp [one1]) (by rw [List.take_add_one, e1]; exact sgR_snoc _ p) (by rw [sgR_len, htl]; simp; omega) (by rw [sgR_len, htl]; simp; omega) ?_
  refine R_run hg.ok 1000 rfl rfl ?_
  exact R_next (k + 1) hk1 (by omega) ⟨.refl _, .refl _, Ent.wrap (by omega) (by omega) (by omega), trivial⟩ rfl
 ·have hk1 : roots.length ≤ k := ge_dec h (by rw [sgR_len])
  rw [List.take_of_length_le hk1]
  refine R_ret hg 5 rfl (sealA_ow rfl) ?_
  rfl
end Go.Proofs.YthdpfglpdgmphaaGreat

namespace PSL
open Go Go.RowKit

def plain2 : Op → Bool
 | .call { callee := .builtin .append, .. } => true
 | .build .. => true
 | .buildSlice .. => true
 | o => plainOp o

theorem plain2_sem {o : Oper} (h : plain2 o.op = true) (ro : Option Nat) (ρ : Operand → Value) (P : Program) (w : World) : (∃ v w', (o.semAt ro ρ).run P w = .ok (.value v) w') ∨ (∃ x w', (o.semAt ro ρ).run P w = .halt x w') := by
 have key : ∀ s : Sem Value, (∃ v w', (do pure (Next.value (← s)) : Sem Next).run P w = .ok (.value v) w') ∨ (∃ x w', (do pure (Next.value (← s)) : Sem Next).run P w = .halt x w') := fun s => by
  rw [Sem.run_bind]
  cases s.run P w with
  | ok v w' => exact .inl ⟨v, w', rfl⟩
  | halt x w' => exact .inr ⟨x, w', rfl⟩
 have e : o.semAt ro ρ = execOp ρ o := Oper.semAt_eq ro ρ o (fun c hc => by rw [hc] at h; cases h)
 rw [e]
 unfold execOp
 cases ho : o.op <;> rw [ho] at h
 case call c =>
  obtain ⟨cal, args, ts⟩ := c
  cases cal
  case builtin b =>
   cases b <;> first
    | (cases h; done)
    | (simp only [resolve, Sem.run_bind, Sem.run_pure, Result.andThen_ok, invoke, builtin]
       first
       | (have := key (Builtin.len_ ts o.type (args.map ρ)); simp only [Sem.run_bind] at this; exact this)
       | (have := key (Builtin.append_ ts o.type (args.map ρ)); simp only [Sem.run_bind] at this; exact this)
       | exact key _)
  all_goals cases h
 case nilCheck x =>
  have hp : (∃ v w', (runtimePanic .nilDeref : Sem Next).run P w = .ok (.value v) w') ∨ (∃ x w', (runtimePanic .nilDeref : Sem Next).run P w = .halt x w') := .inr ⟨_, _, rfl⟩
  have bind : ∀ {α : Type} (s : Sem α) (k : α → Sem Next) (w : World), (∀ a w', (∃ v w2, (k a).run P w' = .ok (.value v) w2) ∨ (∃ x w2, (k a).run P w' = .halt x w2)) → (∃ v w', (s >>= k).run P w = .ok (.value v) w') ∨ (∃ x w', (s >>= k).run P w = .halt x w') := fun s k w h => by
   rw [Sem.run_bind]
   cases s.run P w with
   | halt x w' => exact .inr ⟨x, w', rfl⟩
   | ok a w' => exact h a w'
  simp only
  split
  ·exact hp
  ·exact hp
  ·exact hp
  ·split
   ·exact hp
   ·refine bind _ _ _ fun a w' => ?_
    refine bind _ _ _ fun b w' => ?_
    split
    ·exact bind _ _ _ fun c w' => .inl ⟨_, _, rfl⟩
    ·exact .inl ⟨_, _, rfl⟩
   ·exact .inl ⟨_, _, rfl⟩
  ·exact .inl ⟨_, _, rfl⟩
 all_goals first
  | (cases h; done)
  | exact key _
  | exact .inl ⟨_, _, rfl⟩
section
variable {g : G} {pf : Nat → Cls} {ops : Array Oper}

theorem any_of_drF {q : Nat} (hok : ∀ (j : Nat) (o : Oper), ops[j]? = some o → (∀ e ∈ o.after.toList, Region.binds .any e = true → e.on < j) ∧ ∀ (i : Nat) (x : Oper), i < j → ops[i]? = some x → conf pf ops x o = true → Reach ops i j ∨ j = q) {K : Env → List Ob → Prop} (hK : KC K) {Q : Exit → Act → World → Prop} (hQ : ∀ E objs a w, K E objs → Sat g E objs a w → Q .normal a w) :
  ∀ (fuel : Nat) (listed : Array Bool) (R : List Nat) (E : Env) (objs : List Ob) (a : Act) (w : World), listed.size = ops.size → Cl ops listed → (∀ i, i ∈ R ↔ i < ops.size ∧ listed.getD i true = false) → R.Pairwise (· < ·) → R.length ≤ fuel → q ∉ R →
   Dr g pf ops (R.filterMap (ops[·]?)) E objs K → Sat g E objs a w → wpAnyIn g.F g.dep g.P .any ops Q fuel listed a w := by
 intro fuel
 induction fuel with
 | zero =>
  intro listed R E objs a w hls hc hR _ hf hpq hd hs
  have : R = [] := List.length_eq_zero_iff.1 (by omega)
  subst this
  refine ⟨?_, hQ E objs a w hd hs⟩
  apply List.eq_nil_iff_forall_not_mem.2
  intro i hi
  obtain ⟨h1, h2, _⟩ := mem_ready.1 hi
  exact absurd ((hR i).2 ⟨h1, h2⟩) (by simp)
 | succ fuel ih =>
  intro listed R E objs a w hls hc hR hp hf hpq hd hs
  refine ⟨fun hnil => ?_, fun i hi => ?_⟩
  ·cases R with
   | nil => exact hQ E objs a w hd hs
   | cons k R' =>
    exfalso
    obtain ⟨hk1, hk2⟩ := (hR k).1 (by simp)
    have ho : ops[k]? = some ops[k] := Array.getElem?_eq_getElem hk1
    have : k ∈ Region.ready .any ops listed := by
     refine mem_ready.2 ⟨hk1, hk2, ops[k], ho, fun e he hb => ?_⟩
     have hlt := (hok k _ ho).1 e he hb
     have hnot : e.on ∉ (k :: R') := fun hm => by
      rcases List.mem_cons.1 hm with hm | hm
      ·omega
      ·have := (List.pairwise_cons.1 hp).1 _ hm; omega
     have hsz : e.on < listed.size := by omega
     have h2 : ¬ (listed.getD e.on true = false) := fun h2 => hnot ((hR e.on).2 ⟨by omega, h2⟩)
     simp only [Array.getD, hsz, dif_pos] at h2 ⊢
     simpa using h2
    rw [hnil] at this; cases this
  ·obtain ⟨hi1, hi2, o, ho, hdeps⟩ := mem_ready.1 hi
   obtain ⟨pre, post, rfl⟩ := List.append_of_mem ((hR i).2 ⟨hi1, hi2⟩)
   have hpre : ∀ k ∈ pre, k < i := fun k hk => (List.pairwise_append.1 hp).2.2 k hk i (by simp)
   have hd' : Dr g pf ops (pre.filterMap (ops[·]?) ++ o :: post.filterMap (ops[·]?)) E objs K := by
    have : (pre ++ i :: post).filterMap (ops[·]?) = pre.filterMap (ops[·]?) ++ o :: post.filterMap (ops[·]?) := by
     rw [List.filterMap_append, List.filterMap_cons, ho]
    rw [← this]; exact hd
   obtain ⟨v, objs', hloc, hrest⟩ := Dr.front hK (fun x hx => by
    obtain ⟨k, hk, hkx⟩ := List.mem_filterMap.1 hx
    cases hcf : conf pf ops x o
    ·rfl
    ·exfalso
     have hreach : Reach ops k i := by
      rcases (hok i o ho).2 k x (hpre k hk) hkx hcf with h | h2
      ·exact h
      ·exfalso
       exact hpq (by rw [← h2]; simp)
     have hl := reach_listed hc hreach (fun o' ho' e he hb => by rw [ho] at ho'; cases ho'; exact hdeps e he hb)
     obtain ⟨_, hk2⟩ := (hR k).1 (by simp [hk])
     have hsz : k < listed.size := by have := hpre k hk; omega
     simp only [Array.getD, hsz, dif_pos] at hl hk2
     rw [hl] at hk2; cases hk2) hd'
   have hstep := hloc.step E objs objs' a w (fun t _ => .refl _) (.inr (.inr ⟨rfl, rfl⟩)) hs Q
   refine wpOpIn_mono (K := fun a' w' => Sat g (putO E o.dst v) objs' a' w') (fun a' w' hs' => ?_) (by unfold wpOpIn; rw [ho]; exact hstep)
   have hget : ∀ (k : Nat) (d : Bool), (listed.setIfInBounds i true).getD k d = if k = i then true else listed.getD k d := by
    intro k d
    simp only [Array.getD_eq_getD_getElem?, Array.getElem?_setIfInBounds]
    by_cases hki : k = i
    ·subst hki
     simp [hls, hi1]
    ·rw [if_neg (fun e => hki e.symm), if_neg hki]
   refine ih _ (pre ++ post) _ objs' a' w' (by simp [hls]) ?_ ?_ ?_ ?_ ?_ ?_ hs'
   ·intro k o' hk hko e he hb
    rw [hget] at hk ⊢
    by_cases hki : k = i
    ·subst hki
     rw [ho] at hko; cases hko
     have := hdeps e he hb
     split
     ·rfl
     ·exact this
    ·rw [if_neg hki] at hk
     have := hc k o' hk hko e he hb
     split
     ·rfl
     ·exact this
   ·intro k
    rw [hget]
    have hk := hR k
    have hnd : i ∉ pre ++ post := by
     intro hm
     rcases List.mem_append.1 hm with hm | hm
     ·have := hpre i hm; omega
     ·have := (List.pairwise_cons.1 (List.pairwise_append.1 hp).2.1).1 i hm; omega
    by_cases hki : k = i
    ·subst hki
     simp only [if_true]
     exact ⟨fun h => absurd h hnd, fun h => by simp at h⟩
    ·simp only [hki, if_false]
     rw [← hk]
     simp [hki]
   ·obtain ⟨p1, p2, p3⟩ := List.pairwise_append.1 hp
    exact List.pairwise_append.2 ⟨p1, (List.pairwise_cons.1 p2).2, fun x hx y hy => p3 x hx y (by simp [hy])⟩
   ·simp at hf ⊢; omega
   ·exact fun hm => hpq (by simp only [List.mem_append, List.mem_cons] at hm ⊢; exact hm.imp id .inr)
   ·rw [List.filterMap_append]; exact hrest

theorem wpOpIn_all {F : Fence} {n : Nat} {P : Program} {Q : Exit → Act → World → Prop} {i : Nat} {o : Oper} {ι : Type} (x0 : ι) (ho : ops[i]? = some o) (hp : plain2 o.op = true) {K : ι → Act → World → Prop} {a : Act} {w : World} (h : ∀ x, wpOpIn F n P ops Q i (K x) a w) : wpOpIn F n P ops Q i (fun a' w' => ∀ x, K x a' w') a w := by
 have h0 := h x0
 unfold wpOpIn at *
 rw [ho] at h0 ⊢
 have h : ∀ x, _ := fun x => by have := h x; rw [ho] at this; exact this
 simp only at h h0 ⊢
 split
 ·rename_i hw
  rw [if_pos hw] at h0
  have h : ∀ x, _ := fun x => by have := h x; rw [if_pos hw] at this; exact this
  unfold Oper.wpIn at *
  refine ⟨h0.1, ?_⟩
  have h0 := h0.2
  have h : ∀ x, _ := fun x => (h x).2
  rcases plain2_sem hp F.round a.eval P w with ⟨v, w', e⟩ | ⟨x, w', e⟩
  ·rw [e] at h0 ⊢
   intro x
   have := h x
   rw [e] at this; exact this
  ·rw [e] at h0 ⊢
   cases x <;> exact h0
 ·rename_i hw
  rw [if_neg hw] at h0
  refine ⟨h0.1, fun x => ?_⟩
  have := h x
  rw [if_neg hw] at this; exact this.2
end
end PSL
namespace PSL
open Go Go.RowKit
section
variable {g : G} {pf : Nat → Cls} {ops : Array Oper}

def FltB (pf : Nat → Cls) (ops : Array Oper) (oq : Oper) (B : List Nat) : Prop := B = [] ∨ ∃ b B' y, B = b :: B' ∧ ops[b]? = some y ∧ conf pf ops y oq = true

def ncB (pf : Nat → Cls) (ops : Array Oper) (oq : Oper) (k : Nat) : Bool := match ops[k]? with
 | some y => !conf pf ops y oq
 | none => true

theorem mem_tw {α : Type} {p : α → Bool} : ∀ {l : List α} {x : α}, x ∈ l.takeWhile p → p x = true
 | y :: l, x, h => by
  rw [List.takeWhile_cons] at h
  split at h
  ·rcases List.mem_cons.1 h with rfl | h
   ·assumption
   ·exact mem_tw h
  ·cases h

theorem any_of_flt {q : Nat} {oq : Oper} (hoq : ops[q]? = some oq) (hok : ∀ (j : Nat) (o : Oper), ops[j]? = some o → (∀ e ∈ o.after.toList, Region.binds .any e = true → e.on < j) ∧ (∀ (i : Nat) (x : Oper), i < j → ops[i]? = some x → conf pf ops x o = true → Reach ops i j ∨ j = q) ∧ (q < j → Reach ops q j))
  (hps : ∀ (i j : Nat) (x y : Oper), i < j → j < q → ops[i]? = some x → ops[j]? = some y → conf pf ops x oq = true → conf pf ops oq y = true → Reach ops i j)
  {K : Env → List Ob → Prop} (hK : KC K) {Q : Exit → Act → World → Prop} (hQ : ∀ E objs a w, K E objs → Sat g E objs a w → Q .normal a w) (post : List Nat) :
  ∀ (fuel : Nat) (listed : Array Bool) (R : List Nat) (a : Act) (w : World), (∀ i ∈ R, ∀ o, ops[i]? = some o → plain2 o.op = true) → listed.size = ops.size → Cl ops listed → (∀ i, i ∈ R ++ q :: post ↔ i < ops.size ∧ listed.getD i true = false) → (R ++ q :: post).Pairwise (· < ·) → (R ++ q :: post).length ≤ fuel →
   (∀ A B : List Nat, R = A ++ B → FltB pf ops oq B → ∃ E objs, Dr g pf ops (A.filterMap (ops[·]?) ++ oq :: (B ++ post).filterMap (ops[·]?)) E objs K ∧ Sat g E objs a w) → wpAnyIn g.F g.dep g.P .any ops Q fuel listed a w := by
 intro fuel
 induction fuel with
 | zero => intro listed R a w _ _ _ _ _ hf _; simp at hf
 | succ fuel ih =>
  intro listed R a w hpl hls hc hR hp hf hd
  obtain ⟨pp1, pp2, pp3⟩ := List.pairwise_append.1 hp
  have hRq : ∀ k ∈ R, k < q := fun k hk => pp3 k hk q (by simp)
  have hpost : ∀ k ∈ post, q < k := fun k hk => (List.pairwise_cons.1 pp2).1 k hk
  have unl : ∀ k, k ∈ R ++ q :: post → listed.getD k false = false := fun k hk => by
   obtain ⟨h1, h2⟩ := (hR k).1 hk
   have hsz : k < listed.size := by omega
   simp only [Array.getD, hsz, dif_pos] at h2 ⊢
   exact h2
  refine ⟨fun hnil => ?_, fun i hi => ?_⟩
  ·exfalso
   obtain ⟨k, R', hkR⟩ : ∃ k R', R ++ q :: post = k :: R' := by
    cases R with
    | nil => exact ⟨q, _, rfl⟩
    | cons k r => exact ⟨k, _, rfl⟩
   rw [hkR] at hR hp
   obtain ⟨hk1, hk2⟩ := (hR k).1 (by simp)
   have ho : ops[k]? = some ops[k] := Array.getElem?_eq_getElem hk1
   have : k ∈ Region.ready .any ops listed := by
    refine mem_ready.2 ⟨hk1, hk2, ops[k], ho, fun e he hb => ?_⟩
    have hlt := (hok k _ ho).1 e he hb
    have hnot : e.on ∉ (k :: R') := fun hm => by
     rcases List.mem_cons.1 hm with hm | hm
     ·omega
     ·have := (List.pairwise_cons.1 hp).1 _ hm; omega
    have hsz : e.on < listed.size := by omega
    have h2 : ¬ (listed.getD e.on true = false) := fun h2 => hnot ((hR e.on).2 ⟨by omega, h2⟩)
    simp only [Array.getD, hsz, dif_pos] at h2 ⊢
    simpa using h2
   rw [hnil] at this; cases this
  ·obtain ⟨hi1, hi2, o, ho, hdeps⟩ := mem_ready.1 hi
   have hreachF : ∀ k, k ∈ R ++ q :: post → Reach ops k i → False := fun k hk hr => by
    have hl := reach_listed hc hr (fun o' ho' e he hb => by rw [ho] at ho'; cases ho'; exact hdeps e he hb)
    rw [unl k hk] at hl; cases hl
   have hmem := (hR i).2 ⟨hi1, hi2⟩
   rcases List.mem_append.1 hmem with hmem | hmem
   ·obtain ⟨RA, RB, rfl⟩ := List.append_of_mem hmem
    have hiq : i < q := hRq i hmem
    have hRA : ∀ k ∈ RA, k < i := fun k hk => (List.pairwise_append.1 pp1).2.2 k hk i (by simp)
    have hcf : ∀ k x, k ∈ RA → ops[k]? = some x → conf pf ops x o = false := fun k x hk hkx => by
     cases hc1 : conf pf ops x o
     ·rfl
     ·exfalso
      rcases (hok i o ho).2.1 k x (hRA k hk) hkx hc1 with h | h
      ·exact hreachF k (by simp [hk]) h
      ·omega
    have hfm : ∀ {A : List Nat}, (∀ k ∈ A, k ∈ RA) → ∀ x ∈ A.filterMap (ops[·]?), conf pf ops x o = false := fun hA x hx => by
     obtain ⟨k, hk, hkx⟩ := List.mem_filterMap.1 hx
     exact hcf k x (hA k hk) hkx
    have H : ∀ x : {p : List Nat × List Nat // RA ++ RB = p.1 ++ p.2 ∧ FltB pf ops oq p.2}, ∃ E1 o1, Dr g pf ops (x.1.1.filterMap (ops[·]?) ++ oq :: (x.1.2 ++ post).filterMap (ops[·]?)) E1 o1 K ∧ wpOpIn g.F g.dep g.P ops Q i (fun a' w' => Sat g E1 o1 a' w') a w := by
     rintro ⟨⟨A, B⟩, hab, hB⟩
     have one : ∀ (a' : List Nat), A = RA ++ a' → RB = a' ++ B → ∃ E1 o1, Dr g pf ops (A.filterMap (ops[·]?) ++ oq :: (B ++ post).filterMap (ops[·]?)) E1 o1 K ∧ wpOpIn g.F g.dep g.P ops Q i (fun a' w' => Sat g E1 o1 a' w') a w := fun a' h1 h2 => by
      obtain ⟨E, objs, hdr, hs⟩ := hd (RA ++ i :: a') B (by rw [h2]; simp) hB
      rw [List.filterMap_append, List.filterMap_cons, ho, List.append_assoc] at hdr
      obtain ⟨v, objs', hloc, hrest⟩ := Dr.front hK (hfm fun k hk => hk) hdr
      refine ⟨_, objs', by rw [h1, List.filterMap_append, List.append_assoc]; exact hrest, ?_⟩
      unfold wpOpIn; rw [ho]
      exact hloc.step E objs objs' a w (fun t _ => .refl _) (.inr (.inr ⟨rfl, rfl⟩)) hs Q
     rcases List.append_eq_append_iff.1 hab with ⟨a', h1, h2⟩ | ⟨c', h1, h2⟩
     ·exact one a' h1 h2
     ·cases c' with
      | nil => exact one [] (by simpa using h1.symm) (by simpa using h2.symm)
      | cons b c' =>
       simp only at h2 hB
       have hB2 : FltB pf ops oq ((b :: c') ++ i :: RB) := by
        rcases hB with h | ⟨b2, B', y, h3, h4, h5⟩
        ·rw [h2] at h; cases h
        ·rw [h2] at h3; cases h3
         exact .inr ⟨b, _, y, rfl, h4, h5⟩
       obtain ⟨E, objs, hdr, hs⟩ := hd A ((b :: c') ++ i :: RB) (by rw [h1]; simp) hB2
       have e : A.filterMap (ops[·]?) ++ oq :: ((b :: c') ++ i :: RB ++ post).filterMap (ops[·]?) = (A.filterMap (ops[·]?) ++ oq :: (b :: c').filterMap (ops[·]?)) ++ o :: (RB ++ post).filterMap (ops[·]?) := by
        rw [List.append_assoc, List.filterMap_append, List.cons_append, List.filterMap_cons (a := i), ho]; simp
       rw [e] at hdr
       obtain ⟨v, objs', hloc, hrest⟩ := Dr.front hK (fun x hx => by
        rcases List.mem_append.1 hx with hx | hx
        ·exact hfm (fun k hk => by rw [h1]; simp [hk]) x hx
        ·rcases List.mem_cons.1 hx with rfl | hx
         ·cases hc1 : conf pf ops x o
          ·rfl
          ·exfalso
           rcases hB2 with h | ⟨b2, B', y, h3, h4, h5⟩
           ·cases h
           ·cases h3
            exact hreachF b (by rw [h1]; simp) (hps b i y o (hRA b (by rw [h1]; simp)) hiq h4 ho h5 hc1)
         ·exact hfm (fun k hk => by rw [h1]; exact List.mem_append.2 (.inr hk)) x hx) hdr
       refine ⟨_, objs', by
        show Dr g pf ops (A.filterMap (ops[·]?) ++ oq :: (B ++ post).filterMap (ops[·]?)) _ _ K
        rw [h2, List.append_assoc, List.filterMap_append]
        rw [List.append_assoc, List.cons_append] at hrest; exact hrest, ?_⟩
       unfold wpOpIn; rw [ho]
       exact hloc.step E objs objs' a w (fun t _ => .refl _) (.inr (.inr ⟨rfl, rfl⟩)) hs Q
    have hall := wpOpIn_all (F := g.F) (n := g.dep) (P := g.P) (Q := Q) (⟨(RA ++ RB, []), by simp, .inl rfl⟩ : {p : List Nat × List Nat // RA ++ RB = p.1 ++ p.2 ∧ FltB pf ops oq p.2}) ho (hpl i (by simp) o ho) (K := fun x a' w' => Sat g (H x).choose (H x).choose_spec.choose a' w') (fun x => (H x).choose_spec.choose_spec.2)
    refine wpOpIn_mono (fun a' w' hs' => ?_) hall
    have hds := draw_step (pre := RA) (post := RB ++ q :: post) hls hc (by intro k; rw [← hR k]; simp) (by simpa using hp) hi1 ho hdeps
    refine ih _ (RA ++ RB) a' w' (fun j hj o' ho' => hpl j (by simp only [List.mem_append, List.mem_cons] at hj ⊢; exact hj.imp id .inr) o' ho') hds.1 hds.2.1 (by intro k; rw [← hds.2.2.1 k]; simp) (by simpa using hds.2.2.2) (by simp at hf ⊢; omega) fun A B hab hB => ?_
    exact ⟨_, _, (H ⟨(A, B), hab, hB⟩).choose_spec.choose_spec.1, hs' ⟨(A, B), hab, hB⟩⟩
   ·rcases List.mem_cons.1 hmem with hiq | hmem
    ·subst hiq
     rw [hoq] at ho; cases ho
     have hAB : R = R.takeWhile (ncB pf ops oq) ++ R.dropWhile (ncB pf ops oq) := List.takeWhile_append_dropWhile.symm
     have hB : FltB pf ops oq (R.dropWhile (ncB pf ops oq)) := by
      cases hdw : R.dropWhile (ncB pf ops oq) with
      | nil => exact .inl rfl
      | cons b B' =>
       right
       have hb : ncB pf ops oq b = false := by
        have := List.head_dropWhile_not (ncB pf ops oq) (show R.dropWhile (ncB pf ops oq) ≠ [] by rw [hdw]; simp)
        simpa [hdw] using this
       unfold ncB at hb
       cases hob : ops[b]? with
       | none => rw [hob] at hb; cases hb
       | some y => rw [hob] at hb; exact ⟨b, B', y, rfl, hob, by simpa using hb⟩
     obtain ⟨E, objs, hdr, hs⟩ := hd _ _ hAB hB
     obtain ⟨v, objs', hloc, hrest⟩ := Dr.front hK (fun x hx => by
      obtain ⟨k, hk, hkx⟩ := List.mem_filterMap.1 hx
      have := mem_tw hk
      unfold ncB at this
      rw [hkx] at this; simpa using this) hdr
     have hstep := hloc.step E objs objs' a w (fun t _ => .refl _) (.inr (.inr ⟨rfl, rfl⟩)) hs Q
     refine wpOpIn_mono (K := fun a' w' => Sat g (putO E oq.dst v) objs' a' w') (fun a' w' hs' => ?_) (by unfold wpOpIn; rw [hoq]; exact hstep)
     have hds := draw_step (pre := R) (post := post) hls hc hR hp hi1 hoq hdeps
     have e : (R ++ post).filterMap (ops[·]?) = (R.takeWhile (ncB pf ops oq)).filterMap (ops[·]?) ++ (R.dropWhile (ncB pf ops oq) ++ post).filterMap (ops[·]?) := by rw [← List.filterMap_append, ← List.append_assoc, ← hAB]
     refine any_of_drF (fun j o ho => ⟨(hok j o ho).1, (hok j o ho).2.1⟩) hK hQ fuel _ (R ++ post) _ objs' a' w' hds.1 hds.2.1 hds.2.2.1 hds.2.2.2 (by simp at hf ⊢; omega) (fun h => ?_) (by rw [e]; exact hrest) hs'
     rcases List.mem_append.1 h with h | h
     ·have := hRq _ h; omega
     ·have := hpost _ h; omega
    ·exact (hreachF q (by simp) ((hok i o ho).2.2 (hpost i hmem))).elim
end
end PSL
namespace PSL
open Go Go.RowKit
section
variable {g : G} {pf : Nat → Cls} {ops : Array Oper}

def ordGoF (q : Nat) (oq : Oper) (pf : Nat → Cls) (ops : Array Oper) : List Oper → List Nat → List Oper → Bool
 | _, _, [] => true
 | prev, acc, o :: r =>
  (o.after.toList.all fun e => !Region.binds .any e || Nat.blt e.on (len prev)) &&
  (prev.zipIdx.all fun x => !conf pf ops x.1 o || (maskOf acc o).testBit x.2 || Nat.beq (len prev) q) &&
  (Nat.ble (len prev) q || (maskOf acc o).testBit q) &&
  (prev.zipIdx.all fun x => !conf pf ops x.1 oq || !conf pf ops oq o || (maskOf acc o).testBit x.2 || Nat.ble q (len prev)) &&
  ordGoF q oq pf ops (prev ++ [o]) (acc ++ [maskOf acc o]) r

theorem ordGoF_spec {q : Nat} {oq : Oper} : ∀ (rest prev : List Oper) (acc : List Nat), ops.toList = prev ++ rest → acc.length = prev.length → (∀ j i m, acc[j]? = some m → m.testBit i = true → Reach ops i j) → ordGoF q oq pf ops prev acc rest = true →
  ∀ (j : Nat) (o : Oper), prev.length ≤ j → ops[j]? = some o → (∀ e ∈ o.after.toList, Region.binds .any e = true → e.on < j) ∧ (∀ (i : Nat) (x : Oper), i < j → ops[i]? = some x → conf pf ops x o = true → Reach ops i j ∨ j = q) ∧ (q < j → Reach ops q j) ∧ (∀ (i : Nat) (x : Oper), i < j → j < q → ops[i]? = some x → conf pf ops x oq = true → conf pf ops oq o = true → Reach ops i j)
 | [], prev, acc, h, _, _, _, j, o, hj, ho => by
  have : j < ops.size := (Array.getElem?_eq_some_iff.1 ho).1
  have : ops.size = prev.length := by rw [← Array.length_toList, h]; simp
  omega
 | o' :: r, prev, acc, h, hl, hr, hg, j, o, hj, ho => by
  simp only [ordGoF, Bool.and_eq_true] at hg
  obtain ⟨⟨⟨⟨h1, h2⟩, h4⟩, h5⟩, h3⟩ := hg
  have hcur : ops[prev.length]? = some o' := by rw [← Array.getElem?_toList, h]; simp
  have hm : ∀ i, (maskOf acc o').testBit i = true → Reach ops i prev.length := fun i hi => by
   obtain ⟨e, e1, e2, e3⟩ := maskOf_bit hi
   rcases e3 with e3 | ⟨m, e3, e4⟩
   ·exact .one hcur e1 e2 e3
   ·exact .step hcur e1 e2 rfl (hr _ _ _ e3 e4)
  rcases Nat.eq_or_lt_of_le hj with hj | hj
  ·subst hj
   rw [hcur] at ho; cases ho
   have hmem : ∀ (i : Nat) (x : Oper), i < prev.length → ops[i]? = some x → (x, i) ∈ prev.zipIdx := fun i x hi hx => by
    rw [List.mem_zipIdx_iff_getElem?]
    rw [← Array.getElem?_toList, h, List.getElem?_append_left hi] at hx
    exact hx
   refine ⟨fun e he hbd => ?_, fun i x hi hx hc => ?_, fun hq => ?_, fun i x hi hq hx hc1 hc2 => ?_⟩
   ·have := List.all_eq_true.1 h1 e he
    rw [len_eq] at this
    simpa [Nat.blt_eq, hbd] using this
   ·have := List.all_eq_true.1 h2 _ (hmem i x hi hx)
    simp only [hc, Bool.not_true, Bool.false_or, Bool.or_eq_true] at this
    rcases this with this | g2
    ·exact .inl (hm i this)
    ·rw [len_eq] at g2; exact .inr (natBeq g2)
   ·simp only [Bool.or_eq_true, len_eq, Nat.ble_eq] at h4
    rcases h4 with h4 | h4
    ·omega
    ·exact hm _ h4
   ·have := List.all_eq_true.1 h5 _ (hmem i x hi hx)
    simp only [hc1, hc2, Bool.not_true, Bool.false_or, Bool.or_eq_true, len_eq, Nat.ble_eq] at this
    rcases this with this | this
    ·exact hm i this
    ·omega
  ·refine ordGoF_spec r (prev ++ [o']) (acc ++ [maskOf acc o']) (by rw [h]; simp) (by simp [hl]) (fun j i m hj hi => ?_) h3 j o (by simp; omega) ho
   rcases Nat.lt_or_ge j acc.length with hlt | hge
   ·rw [List.getElem?_append_left hlt] at hj; exact hr j i m hj hi
   ·rw [List.getElem?_append_right hge] at hj
    have : j - acc.length = 0 := by
     rcases Nat.eq_zero_or_pos (j - acc.length) with h | h
     ·exact h
     ·rw [List.getElem?_eq_none (by simp; omega)] at hj; cases hj
    rw [this] at hj; simp at hj; subst hj
    have : j = prev.length := by omega
    subst this
    exact hm i hi
end
end PSL
namespace PSL
open Go Go.RowKit
section
variable {g : G} {pf : Nat → Cls} {ops : Array Oper}

def fltL (m q : Nat) (oq : Oper) (l : List Oper) : List Oper := l.take m ++ oq :: ((l.drop m).take (q - m) ++ l.drop (q + 1))

theorem wp_flt (hg : GOk g) {q : Nat} {oq : Oper} (hoq : ops[q]? = some oq) (hok : ordGoF q oq pf ops [] [] ops.toList = true) {K : Env → List Ob → Prop} (hK : KC K) {Q : Exit → Act → World → Prop} (hQ : ∀ E objs a w, K E objs → Sat g E objs a w → Q .normal a w)
  {E : Env} {objs : List Ob} (hpl : ((ops.toList.take q).all fun o => plain2 o.op) = true) (hd : ∀ m, m ≤ q → (m = q ∨ ∃ y, ops[m]? = some y ∧ conf pf ops y oq = true) → Dr g pf ops (fltL m q oq ops.toList) E objs K) {a : Act} {w : World} (hs : Sat g E objs a w) (id : Nat) : (Code.region id ops true).wpIn g.F g.dep g.P Q a w := by
 refine wpIn_region_any hg.mixed ?_
 have hq : q < ops.size := (Array.getElem?_eq_some_iff.1 hoq).1
 have hsz : ops.toList.length = ops.size := by simp
 have hspec := ordGoF_spec (pf := pf) (ops := ops) ops.toList [] [] rfl rfl (by simp) hok
 have f : ∀ a n, a + n ≤ ops.size → (List.range' a n).filterMap (ops[·]?) = (ops.toList.drop a).take n := fun a n h => by
  have := fm_range ops.toList a n (by omega)
  simpa using this
 have hrange : List.range ops.size = List.range' 0 q ++ q :: List.range' (q + 1) (ops.size - (q + 1)) := by
  obtain ⟨m, hm⟩ : ∃ m, ops.size = q + (1 + m) := ⟨ops.size - (q + 1), by omega⟩
  have e1 : ops.size - (q + 1) = m := by omega
  rw [e1, List.range_eq_range', hm, ← List.range'_append, ← List.range'_append]
  simp [List.range'_succ]
 refine any_of_flt hoq (fun j o ho => ⟨(hspec j o (Nat.zero_le _) ho).1, (hspec j o (Nat.zero_le _) ho).2.1, (hspec j o (Nat.zero_le _) ho).2.2.1⟩) (fun i j x y hij hjq hx hy h1 h2 => (hspec j y (Nat.zero_le _) hy).2.2.2 i x hij hjq hx h1 h2) hK hQ (List.range' (q + 1) (ops.size - (q + 1))) ops.size (Array.replicate ops.size false) (List.range' 0 q) a _ ?_ (by simp) ?_ ?_ ?_ ?_ ?_
 ·intro j hj o ho
  have hj : j < q := by have := List.mem_range'.1 hj; omega
  exact List.all_eq_true.1 hpl o (List.mem_iff_getElem?.2 ⟨j, by rw [List.getElem?_take_of_lt hj, Array.getElem?_toList]; exact ho⟩)
 ·intro k o hk
  simp [Array.getD] at hk
 ·intro i
  rw [← hrange]
  simp only [List.mem_range, Array.getD, Array.size_replicate]
  constructor
  ·intro h; simp [h]
  ·intro h; exact h.1
 ·rw [← hrange]; exact List.pairwise_lt_range
 ·rw [← hrange]; simp
 ·intro A B hab hB
  obtain ⟨m, hm, rfl, rfl⟩ := List.range'_eq_append_iff.1 hab
  rw [Nat.mul_one] at hB ⊢
  refine ⟨E, objs, ?_, hs.drew⟩
  have := hd m hm (by
   rcases hB with h | ⟨b, B', y, h1, h2, h3⟩
   ·left
    have := congrArg List.length h
    simp at this; omega
   ·right
    have hb : b = 0 + m := by
     have : (List.range' (0 + m) (q - m)).head? = some b := by rw [h1]; rfl
     cases hqm : q - m with
     | zero => rw [hqm] at this; simp at this
     | succ n => rw [hqm, List.range'_succ] at this; simp at this; omega
    exact ⟨y, by rw [← h2, hb]; simp, h3⟩)
  unfold fltL at this
  rw [List.filterMap_append, f 0 m (by omega), f (0 + m) (q - m) (by omega), f (q + 1) _ (by omega), List.drop_zero]
  rw [List.take_of_length_le (i := ops.size - (q + 1)) (by simp)]
  simpa using this
end
end PSL
namespace PSL
open Go Go.RowKit
section
variable {g : G} {pf : Nat → Cls} {ops : Array Oper}

theorem R_float {Fin : Exit → Act → World → Prop} (hg : GOk g) (q : Nat) (oq : Oper) {id : Nat} {k : List It} {E : Env} {objs : List Ob} (hoq : ops[q]? = some oq) (hx : ordGoF q oq pf ops [] [] ops.toList = true) (hpl : ((ops.toList.take q).all fun o => plain2 o.op) = true) (h : ∀ m, m ≤ q → (m = q ∨ ∃ y, ops[m]? = some y ∧ conf pf ops y oq = true) → R g pf Fin (.dr ops (fltL m q oq ops.toList) :: k) E objs) : R g pf Fin (.code (.region id ops true) :: k) E objs := by
 rintro ⟨ho1, ho⟩
 intro a w hs
 simp only [KP]
 have hQ : ∀ E objs a w, RK g Fin k E objs → Sat g E objs a w → KP g Fin k .normal a w := fun _ _ a w hr hs => hr a w hs
 exact wp_flt hg hoq hx (RK_kc k) hQ hpl (fun m h1 h2 => by have := h m h1 h2 ho; simpa only using this) hs id
end
end PSL

namespace Go.Proofs.YthdpfglpdgmphaaGreat
open Go PSL Go.Proofs
def pfSom : Nat → Cls := fun f => bif Nat.beq f 7 then .look 0 else bif Nat.beq f 4900100001 then .turn 100 else bif Nat.beq f 4000000007 then .loadB else .still
def som14 (l : List Cs) (q : Cs) : Bool := somP (l ++ [q]) && decide ((l.length : Int) ≤ 60)

theorem cs_six (l : List Cs) : ∀ r ∈ Cs.rows l, r.length = 6 := fun r hr => by
 unfold Cs.rows at hr
 obtain ⟨c, _, rfl⟩ := List.mem_map.1 hr; rfl

set_option maxRecDepth 100000 in
theorem refSome14_ok (l : List Cs) (q : Cs) (hok : ∀ c ∈ l, c.Ok) (hq : q.Ok) (hb : l.length * 88 ≤ 140737488351232) : PCtr Tryz.prog 15 [prV l, q.av] (bV (som14 l q)) := by
 have hcl := Cs.rows_len l
 have hall : ∀ c ∈ l ++ [q], c.Ok := fun c hc => by
  rcases List.mem_append.1 hc with hc | hc
  ·exact hok c hc
  ·rw [List.mem_singleton.1 hc]; exact hq
 refine PCtr.of_R (pf := pfSom) tyOk mixed Tryz.func15 rfl (by kernel_rfl) (by kernel_rfl) (by simp [Tryz.ntmps15]) fun w S hg => ?_
 refine R_run hg.ok 1000 rfl rfl ?_
 refine R_float hg.ok 8 _ rfl (by kernel_rfl) (by kernel_rfl) ?_
 intro m hm hB
 have h3 : m = 3 ∨ m = 6 ∨ m = 8 := by
  rcases hB with h | ⟨y, h1, h2⟩
  ·exact .inr (.inr h)
  ·have : m = 0 ∨ m = 1 ∨ m = 2 ∨ m = 3 ∨ m = 4 ∨ m = 5 ∨ m = 6 ∨ m = 7 ∨ m = 8 := by omega
   rcases this with rfl | rfl | rfl | rfl | rfl | rfl | rfl | rfl | rfl <;> first | (left; rfl) | (right; left; rfl) | (right; right; rfl) | (cases h1; exact absurd (h2.symm.trans (show _ = false by kernel_rfl)) (by decide))
 clear hB hm
 rcases h3 with rfl | rfl | rfl
 ·refine R_run hg.ok 1000 rfl rfl ?_
  refine R_appendF hg.ok rfl rfl (.inl rfl) rfl (.inl rfl) rfl rfl rfl (by simp) (cs_six l) (by rw [hcl]; simp; omega) (by rw [hcl]; simp; omega) ?_
  refine R_run hg.ok 1000 rfl rfl ?_
  refine R_appendO hg.ok (Cs.rows (l ++ [q])) rfl rfl rfl rfl rfl rfl rfl rfl rfl (by simp) (by simp [one1]) (Cs.rows_snoc l q) (by simp [hcl]; omega) (by simp [hcl]; omega) ?_
  refine R_run hg.ok 1000 rfl rfl ?_
  refine R_callO hg.ok hg.gup (refSomeP_ok (l ++ [q]) hall (by simp; omega)) rfl rfl rfl rfl (mapO_cons (sealA_agg (mapO_cons (sealA_ow rfl) rfl)) rfl) rfl rfl ?_
  refine R_run hg.ok 1000 rfl rfl ?_
  unfold som14
  refine R_if rfl rfl (fun h => ?_) (fun h => ?_) <;> refine R_run hg.ok 1000 rfl rfl ?_
  ·refine R_ret hg 5 rfl rfl ?_
   rw [h, hcl]; rfl
  ·refine R_ret hg 5 rfl rfl ?_
   rw [h]; rfl
 ·refine R_run hg.ok 1000 rfl rfl ?_
  refine R_appendF hg.ok rfl rfl (.inl rfl) rfl (.inl rfl) rfl rfl rfl (by simp) (cs_six l) (by rw [hcl]; simp; omega) (by rw [hcl]; simp; omega) ?_
  refine R_run hg.ok 1000 rfl rfl ?_
  refine R_appendO hg.ok (Cs.rows (l ++ [q])) rfl rfl rfl rfl rfl rfl rfl rfl rfl (by simp) (by simp [one1]) (Cs.rows_snoc l q) (by simp [hcl]; omega) (by simp [hcl]; omega) ?_
  refine R_run hg.ok 1000 rfl rfl ?_
  refine R_callO hg.ok hg.gup (refSomeP_ok (l ++ [q]) hall (by simp; omega)) rfl rfl rfl rfl (mapO_cons (sealA_agg (mapO_cons (sealA_ow rfl) rfl)) rfl) rfl rfl ?_
  refine R_run hg.ok 1000 rfl rfl ?_
  unfold som14
  refine R_if rfl rfl (fun h => ?_) (fun h => ?_) <;> refine R_run hg.ok 1000 rfl rfl ?_
  ·refine R_ret hg 5 rfl rfl ?_
   rw [h, hcl]; rfl
  ·refine R_ret hg 5 rfl rfl ?_
   rw [h]; rfl
 ·refine R_run hg.ok 1000 rfl rfl ?_
  refine R_appendF hg.ok rfl rfl (.inl rfl) rfl (.inl rfl) rfl rfl rfl (by simp) (cs_six l) (by rw [hcl]; simp; omega) (by rw [hcl]; simp; omega) ?_
  refine R_run hg.ok 1000 rfl rfl ?_
  refine R_appendO hg.ok (Cs.rows (l ++ [q])) rfl rfl rfl rfl rfl rfl rfl rfl rfl (by simp) (by simp [one1]) (Cs.rows_snoc l q) (by simp [hcl]; omega) (by simp [hcl]; omega) ?_
  refine R_run hg.ok 1000 rfl rfl ?_
  refine R_callO hg.ok hg.gup (refSomeP_ok (l ++ [q]) hall (by simp; omega)) rfl rfl rfl rfl (mapO_cons (sealA_agg (mapO_cons (sealA_ow rfl) rfl)) rfl) rfl rfl ?_
  refine R_run hg.ok 1000 rfl rfl ?_
  unfold som14
  refine R_if rfl rfl (fun h => ?_) (fun h => ?_) <;> refine R_run hg.ok 1000 rfl rfl ?_
  ·refine R_ret hg 5 rfl rfl ?_
   rw [h, hcl]; rfl
  ·refine R_ret hg 5 rfl rfl ?_
   rw [h]; rfl
end Go.Proofs.YthdpfglpdgmphaaGreat

namespace Go.Proofs.YthdpfglpdgmphaaGreat
open Go PSL Go.Proofs
end Go.Proofs.YthdpfglpdgmphaaGreat

namespace Go.Proofs.YthdpfglpdgmphaaGreat
open Go PSL Go.Proofs
end Go.Proofs.YthdpfglpdgmphaaGreat

namespace PSL
open Go
def sgRows21 (l : List Sg) : List (List D) := l.map fun p => [.v (.string p.1), .v (.int .i64 p.2)]
section
variable {ty : Nat → Option Ty} {T TT TG TS B : Nat} {n : Nat} {τ : Ty} {row : List D} {a : AV}

theorem arg_progB {TC TP s : Nat} {τs τc : Ty} (hT : IsTerm ty TT) (hG : IsGoal ty TG TT) (hC : IsClause ty TC TT TG) (hB : B ≤ 140737488355328) (hτ : ty TP = some τ) (hsh : τ.sh = .struct [(0, s)]) (hs : ty s = some τs) (hss : τs.sh = .slice TC) (hc : ty TC = some τc) (h : HasTy ty B n TP row) (ha : a = avOf τ row) : ∃ l : List Cs, a = prV l ∧ (∀ x ∈ l, x.Ok) ∧ l.length ≤ 140737488355328 ∧ l.length * τc.bytes ≤ B := by
 obtain ⟨l, h1, h2, h3⟩ := arg_prog hT hG hC hB hτ hsh hs hss h ha
 refine ⟨l, h1, h2, h3, ?_⟩
 cases n with
 | zero => simp [HasTy] at h
 | succ n =>
  simp only [HasTy, hτ, hsh, HasFs] at h
  obtain ⟨_, ra, _, g1, rfl, g2, g3, rfl⟩ := h
  rw [hs] at g1; cases g1
  cases n with
  | zero => simp [HasTy] at g3
  | succ n =>
   obtain ⟨rows, rfl, hlen, _⟩ := has_slice hs hss g3
   have hb := hlen τc hc
   have e : a = .agg [.d (.sl rows)] := by rw [ha]; unfold avOf Ty.agg; rw [hsh]; rfl
   rw [h1] at e
   unfold prV at e
   simp only [AV.agg.injEq, List.cons.injEq, AV.d.injEq, D.sl.injEq, and_true] at e
   rw [← e, Cs.rows_len] at hb
   exact hb

theorem arg_sgs {ts ti : Nat} {τr τs τi : Ty} (hτ : ty TS = some τ) (hs : τ.sh = .slice T) (htr : ty T = some τr) (hrs : τr.sh = .struct [(0, ts), (1, ti)]) (h1 : ty ts = some τs) (h1s : τs.sh = .str) (h2 : ty ti = some τi) (h2s : τi.sh = .int .i64) (h : HasTy ty B n TS row) (ha : a = avOf τ row) : ∃ l : List Sg, a = .d (.sl (sgRows21 l)) := by
 cases n with
 | zero => simp [HasTy] at h
 | succ n =>
  obtain ⟨rows, rfl, hlen, hrows⟩ := has_slice hτ hs h
  have hch : ∃ l : List Sg, rows = sgRows21 l := by
   clear h ha hlen
   induction rows with
   | nil => exact ⟨[], rfl⟩
   | cons r rows ihr =>
    obtain ⟨l, hl⟩ := ihr fun x hx => hrows x (List.mem_cons_of_mem _ hx)
    have hr0 := hrows r List.mem_cons_self
    cases n with
    | zero => simp [HasTy] at hr0
    | succ n =>
     simp only [HasTy, htr, hrs, HasFs] at hr0
     obtain ⟨_, ra, _, g1, rfl, g2, g3, _, rb, _, g4, rfl, g5, g6, rfl⟩ := hr0
     rw [h1] at g1; cases g1
     rw [h2] at g4; cases g4
     obtain ⟨s, rfl, _⟩ := has_str h1 h1s g3
     obtain ⟨m, rfl, _⟩ := has_int h2 h2s g6
     exact ⟨(s, m) :: l, by simp [sgRows21] at hl ⊢; exact hl⟩
  obtain ⟨l, rfl⟩ := hch
  refine ⟨l, ?_⟩
  rw [ha]; unfold avOf Ty.agg; rw [hs]
end
end PSL

namespace Go.Proofs.YthdpfglpdgmphaaGreat
open Go PSL Go.Proofs
def k21 : Bs := [112, 40, 88, 41, 32, 58, 45, 32, 33, 44, 32, 113, 40, 88, 41, 46, 32, 112, 40, 97, 41, 46, 32, 113, 40, 98, 41, 32, 58, 45, 32, 102, 97, 105, 108, 46, 32, 113, 40, 99, 41, 46, 32, 114, 46]
def k21C : List Clau := [(fnT [58, 45] [fnT [112] [Tm.vT 0], fnT [44] [fnT [33] [], fnT [113] [Tm.vT 0]]], [[88]]), (fnT [112] [fnT [97] []], []), (fnT [58, 45] [fnT [113] [fnT [98] []], fnT [102, 97, 105, 108] []], []), (fnT [113] [fnT [99] []], []), (fnT [114] [], [])]
def k21P : List Cs := [⟨fnT [112] [Tm.vT 0], [.mk 3 zeroT [] [] [], .mk 1 (fnT [113] [Tm.vT 0]) [] [] []], 1⟩, ⟨fnT [112] [fnT [97] []], [], 0⟩, ⟨fnT [113] [fnT [98] []], [.mk 2 (fnT [102, 97, 105, 108] []) [] [] []], 0⟩, ⟨fnT [113] [fnT [99] []], [], 0⟩, ⟨fnT [114] [], [], 0⟩]
def k21Q : List Cs := [⟨fnT [112] [Tm.vT 0], [.mk 3 zeroT [] [] [], .mk 1 (fnT [113] [Tm.vT 0]) [] [] []], 1⟩, ⟨fnT [113] [fnT [99] []], [], 0⟩]
def k21R : List Sg := [(Tx [112], 1)]
theorem k21_read : clauR rightT false k21 = some (k21C, 0, 0) := by rw [rightT_fun]; kernel_rfl
theorem k21_load : loadL k21C 0 [] = (k21P, 0, 0) := by kernel_rfl

theorem k21_ctr : PCtr Tryz.prog 26 [txA k21] (.tup [prV k21P, iV 0, iV 0]) := by
 have h := load_ok k21 (by decide) k21_read (List.all_eq_true.1 (show (k21C.all fun x => noCh x.1) = true by kernel_rfl))
 rw [if_neg (by decide), k21_load] at h
 exact h

theorem k21_med : Med k21P := by
 have z : SmT zeroT := ⟨by decide, fun x e he => by
  simp only [zeroT, Tm.els, Tm.elsL, List.mem_singleton] at he
  subst he; show (0 : Nat) < 1000000000; decide⟩
 have h1 : SmT (fnT [112] [Tm.vT 0]) := smT_right (by kernel_rfl)
 have h2 : SmT (fnT [113] [Tm.vT 0]) := smT_right (by kernel_rfl)
 have h3 : SmT (fnT [112] [fnT [97] []]) := smT_right (by kernel_rfl)
 have h4 : SmT (fnT [113] [fnT [98] []]) := smT_right (by kernel_rfl)
 have h5 : SmT (fnT [102, 97, 105, 108] []) := smT_right (by kernel_rfl)
 have h6 : SmT (fnT [113] [fnT [99] []]) := smT_right (by kernel_rfl)
 have h7 : SmT (fnT [114] []) := smT_right (by kernel_rfl)
 refine ⟨fun c hc => ?_, by decide, by decide⟩
 simp only [k21P, List.mem_cons, List.not_mem_nil, or_false] at hc
 rcases hc with rfl | rfl | rfl | rfl | rfl
 ·exact ⟨h1, by simp only [allGL, allG]; exact ⟨⟨z, trivial, trivial, trivial⟩, ⟨h2, trivial, trivial, trivial⟩, trivial⟩, by decide⟩
 ·exact ⟨h3, by simp only [allGL], by decide⟩
 ·exact ⟨h4, by simp only [allGL, allG]; exact ⟨⟨h5, trivial, trivial, trivial⟩, trivial⟩, by decide⟩
 ·exact ⟨h6, by simp only [allGL], by decide⟩
 ·exact ⟨h7, by simp only [allGL], by decide⟩

theorem k21_clean : PCtr Tryz.prog 20 [prV k21P, .d (.sl (sgR k21R))] (.tup [prV k21Q, iV 0]) := by
 have h := clean_ok k21P k21R k21_med (by decide)
 rwa [show cleanA k21P k21R = (k21Q, 0) by kernel_rfl] at h

theorem k21_reached : PCtr Tryz.prog 17 [prV k21P, .d (.sl (sgR k21R))] (.d (.sl (sgR [(Tx [112], 1), (Tx [113], 1)]))) := by
 have h := reached_ok k21P k21R k21_med (by decide)
 rwa [show reachedP k21P k21R = [(Tx [112], 1), (Tx [113], 1)] by kernel_rfl] at h

set_option maxRecDepth 100000 in
theorem knows21_ok : PCtr Tryz.prog 16 [] (bV true) := by
 refine PCtr.of_R (pf := fun _ => .eff) tyOk mixed Tryz.func16 rfl (by kernel_rfl) (by kernel_rfl) (by simp [Tryz.ntmps16]) fun w S hg => ?_
 refine R_run hg.ok 1000 rfl rfl ?_
 refine R_call hg.ok (k21_ctr) rfl rfl rfl rfl rfl rfl ?_
 refine R_run hg.ok 1000 rfl rfl ?_
 refine R_call hg.ok (k21_clean) rfl rfl rfl rfl rfl rfl ?_
 refine R_run hg.ok 1000 rfl rfl ?_
 refine R_call hg.ok (k21_reached) rfl rfl rfl rfl rfl rfl ?_
 refine R_run hg.ok 1000 rfl rfl ?_
 repeat
  first
  | (refine R_if rfl rfl (fun _ => ?_) (fun h => absurd h (by decide +kernel)); refine R_run hg.ok 1000 rfl rfl ?_)
  | (refine R_index hg.ok rfl rfl rfl rfl rfl rfl (by decide) rfl rfl ?_; refine R_run hg.ok 1000 rfl rfl ?_)
 refine R_ret hg 5 rfl rfl ?_
 show bV (strEq (Tx [113]) ⟨#[113]⟩) = bV true
 rw [show strEq (Tx [113]) ⟨#[113]⟩ = true by decide +kernel]
end Go.Proofs.YthdpfglpdgmphaaGreat

namespace Go.Proofs.YthdpfglpdgmphaaGreat
open Go PSL Go.Proofs
def zeroC : Cs := ⟨zeroT, [], 0⟩

theorem zeroC_ok : zeroC.Ok := ⟨⟨fun d e he => by
  simp only [zeroC, zeroT, Tm.els, Tm.elsL, List.mem_singleton] at he
  subst he; exact ⟨Nat.zero_le _, by show (0 : Nat) ≤ _; omega⟩, fun d e he => by
  simp only [zeroC, zeroT, Tm.els, Tm.elsL, List.mem_singleton] at he
  subst he; exact ⟨(by unfold I64; decide : I64 0), (by unfold I64; decide : I64 0)⟩⟩, ⟨by decide, by decide⟩, Nat.zero_le _, fun g h => by cases h⟩

theorem som14_med {l : List Cs} {q : Cs} (h : som14 l q = true) : Med l ∧ l.length ≤ 60 := by
 unfold som14 at h
 simp only [Bool.and_eq_true, decide_eq_true_eq] at h
 obtain ⟨h1, h2⟩ := h
 obtain ⟨a, b, c⟩ := somP_sm h1
 have hm : Med (l ++ [q]) := ⟨a, b, c⟩
 exact ⟨hm.sub (List.sublist_append_left l [q]), by omega⟩
theorem reachedP_len (l : List Cs) (roots : List Sg) : (reachedP l roots).length ≤ l.length := reachedG_sub _ _

set_option maxRecDepth 100000 in
theorem cleanReaches_ok (l : List Cs) (roots : List Sg) (hok : ∀ c ∈ l, c.Ok) (hb : l.length * 88 ≤ 140737488351232) : PCtr Tryz.prog 5 [prV l, .d (.sl (sgR roots))] (bV true) := by
 have hs := refSome14_ok l zeroC hok zeroC_ok hb
 refine PCtr.of_R (pf := fun _ => .still) tyOk mixed Tryz.func5 rfl (by kernel_rfl) (by kernel_rfl) (by simp [Tryz.ntmps5]) fun w S hg => ?_
 refine R_run hg.ok 1000 rfl rfl ?_
 cases hp : som14 l zeroC with
 | false =>
  rw [hp] at hs
  refine R_call hg.ok (hs) rfl rfl rfl rfl rfl rfl ?_
  refine R_run hg.ok 1000 rfl rfl ?_
  refine R_if rfl rfl (fun _ => ?_) (fun h => absurd h (by simp)) <;> refine R_run hg.ok 1000 rfl rfl ?_
  refine R_call hg.ok (knows21_ok) rfl rfl rfl rfl rfl rfl ?_
  refine R_run hg.ok 1000 rfl rfl ?_
  refine R_ret hg 5 rfl rfl ?_
  rfl
 | true =>
  rw [hp] at hs
  obtain ⟨hm, h60⟩ := som14_med hp
  refine R_call hg.ok (hs) rfl rfl rfl rfl rfl rfl ?_
  refine R_run hg.ok 1000 rfl rfl ?_
  refine R_if rfl rfl (fun h => absurd h (by simp)) (fun _ => ?_) <;> refine R_run hg.ok 1000 rfl rfl ?_
  refine R_if rfl rfl (fun h => ?_) (fun h => ?_) <;> refine R_run hg.ok 1000 rfl rfl ?_
  ·refine R_call hg.ok (knows21_ok) rfl rfl rfl rfl rfl rfl ?_
   refine R_run hg.ok 1000 rfl rfl ?_
   refine R_ret hg 5 rfl rfl ?_
   rfl
  have hr : roots.length ≤ 60 := by
   have := of_decide_eq_false h
   rw [sgR_len] at this; omega
  refine R_call hg.ok (reached_ok l roots hm (by omega)) rfl rfl rfl rfl rfl rfl ?_
  refine R_run hg.ok 1000 rfl rfl ?_
  refine R_call hg.ok (asRoots_ok roots (by omega)) rfl rfl rfl rfl rfl rfl ?_
  refine R_run hg.ok 1000 rfl rfl ?_
  refine R_call hg.ok (refReached_ok l roots hm (by omega)) rfl rfl rfl rfl rfl rfl ?_
  refine R_run hg.ok 1000 rfl rfl ?_
  rw [← reached_eq]
  refine R_if rfl rfl (fun h => absurd h (by simp)) (fun _ => ?_) <;> refine R_run hg.ok 1000 rfl rfl ?_
  have hle := reachedP_len l roots
  generalize reachedP l roots = ls at *
  refine R_loop (fun i : Nat => ([(5, .d (.sl (sgR ls))), (6, .d (.sl (sgR ls))), (7, iV i)], [.box [.d (.sl (Cs.rows l))]])) (fun i => i ≤ ls.length) (fun i => ls.length - i) 0 (Nat.zero_le _) ⟨.refl _, .refl _, .refl _, trivial⟩ rfl ?_
  rintro i hi
  refine R_run hg.ok 1000 rfl rfl ?_
  refine R_if rfl rfl (fun h => ?_) (fun h => ?_) <;> refine R_run hg.ok 1000 rfl rfl ?_
  ·have hi1 : i < ls.length := lt_dec h (by rw [sgR_len])
   have e1 : ls[i]? = some ls[i] := List.getElem?_eq_getElem hi1
   generalize ls[i] = p at e1
   have hss : strEq p.1 p.1 = true := Tm.strEq_iff.2 rfl
   refine R_index hg.ok rfl rfl rfl rfl rfl rfl (Int.natCast_nonneg _) (sgR_get e1) rfl ?_
   refine R_run hg.ok 1000 rfl rfl ?_
   refine R_index hg.ok rfl rfl rfl rfl rfl rfl (Int.natCast_nonneg _) (sgR_get e1) rfl ?_
   refine R_run hg.ok 1000 rfl rfl ?_
   refine R_if rfl rfl (fun h => absurd h (by simp [hss])) (fun _ => ?_) <;> refine R_run hg.ok 1000 rfl rfl ?_
   refine R_index hg.ok rfl rfl rfl rfl rfl rfl (Int.natCast_nonneg _) (sgR_get e1) rfl ?_
   refine R_run hg.ok 1000 rfl rfl ?_
   refine R_index hg.ok rfl rfl rfl rfl rfl rfl (Int.natCast_nonneg _) (sgR_get e1) rfl ?_
   refine R_run hg.ok 1000 rfl rfl ?_
   refine R_if rfl rfl (fun h => absurd h (by simp [hss])) (fun _ => ?_) <;> refine R_run hg.ok 1000 rfl rfl ?_
   exact R_next (i + 1) hi1 (by omega) ⟨.refl _, .refl _, Ent.wrap (by omega) (by omega) (by omega), trivial⟩ rfl
  ·refine R_call hg.ok (knows21_ok) rfl rfl rfl rfl rfl rfl ?_
   refine R_run hg.ok 1000 rfl rfl ?_
   refine R_ret hg 5 rfl rfl ?_
   rfl
end Go.Proofs.YthdpfglpdgmphaaGreat
