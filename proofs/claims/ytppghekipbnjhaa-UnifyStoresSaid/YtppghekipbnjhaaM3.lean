import Derived.Test.YtppghekipbnjhaaM2
namespace PSL
open Go
namespace Tm

mutual
theorem put_depth {σ : Int → Tm} {D : Nat} : ∀ (t : Tm), (∀ v ∈ occ t, depth (σ v) ≤ D) → depth (putF σ t) ≤ depth t + D
  | mk k s n l, h => by
    simp only [putF]
    by_cases hk : k = 1
    · rw [if_pos hk]
      have := h n (by simp [occ, hk])
      omega
    · rw [if_neg hk]
      have := putL_depth l fun v hv => h v (by simp [occ, hk, hv])
      simp only [depth]
      omega
theorem putL_depth {σ : Int → Tm} {D : Nat} : ∀ (l : List Tm), (∀ v ∈ occL l, depth (σ v) ≤ D) → depthL (putFL σ l) ≤ depthL l + D
  | [], _ => by simp [putFL, depthL]
  | t :: r, h => by
    have h1 := put_depth t fun v hv => h v (by simp [occL, hv])
    have h2 := putL_depth r fun v hv => h v (by simp [occL, hv])
    simp only [putFL, depthL]
    omega
end

theorem full_depth {B : Binds} {N : Nat} (h1 : 1 ≤ N) (h : ∀ b ∈ B, depth b.2 ≤ N) : ∀ (M : Nat) (t : Tm), depth (fullS B M t) ≤ depth t + M * N
  | 0, t => by simp [fullS]
  | M + 1, t => by
    simp only [fullS]
    refine put_depth t fun v _ => ?_
    rw [Nat.succ_mul]
    split
    · rename_i x hx
      have h2 := full_depth h1 h M x
      have h3 := h _ (findB_mem hx)
      simp only at h3
      omega
    · simp only [vT, depth, depthL]; omega

theorem kid_depth {σ : Int → Tm} {t x : Tm} (hk : t.k ≠ 1) (hx : x ∈ t.l) : depth (putF σ x) + 1 ≤ depth (putF σ t) := by
  rw [putF_fun hk, depth]
  have : ∀ l : List Tm, x ∈ l → depth (putF σ x) ≤ depthL (putFL σ l) := fun l => by
    induction l with
    | nil => intro h; cases h
    | cons a l ih =>
      intro h
      simp only [putFL, depthL]
      rcases List.mem_cons.1 h with rfl | h
      · omega
      · have := ih h; omega
  have := this t.l hx
  omega

/-- What stands between one round and the next; the pairs as the slice has them. -/
structure UState (S : List Int) (N : Nat) (a0 : Tm) (n : Nat) (T : List (Tm × Tm)) (B : Binds) (met : Met) (B' : Binds) (ok : Bool) : Prop where
  run : URun false n T.reverse B met B' ok
  ug : UG S N T B
  lev : ∀ (i : Nat) (p : Tm × Tm), T[i]? = some p → ∃ l, i ≤ N * l ∧ ∀ σ, solB σ B → depth (putF σ p.1) + l ≤ depth (putF σ a0)
  fa : a0.fairR = true
  sa : a0.size ≤ N
section
variable {S : List Int} {N : Nat} {a0 : Tm} {n : Nat} {R T : List (Tm × Tm)} {x y : Tm} {B B' : Binds} {met : Met} {ok : Bool}

theorem UG.blen (h : UG S N T B) : B.length ≤ S.length := by
  have := nodup_le (B.map (·.1)) S h.chain.nodup (fun v hv => by
    obtain ⟨c, hc, rfl⟩ := List.mem_map.1 hv
    exact (h.vb c hc).1)
  simpa using this
theorem UG.perm (h : UG S N T B) {T' : List (Tm × Tm)} (hs : ∀ p, p ∈ T' → p ∈ T) : UG S N T' B := h.sub hs

theorem UState.len (h : UState S N a0 n T B met B' ok) : T.length ≤ N * (N + S.length * N) + 1 := by
  obtain ⟨σ, hs⟩ := h.ug.sol
  have hS := sub_sol hs h.ug.chain h.ug.fairb
  have hv := sub_solV hS h.ug.chain
  have h1 : 1 ≤ N := by have := size_pos a0; have := h.sa; omega
  rcases List.eq_nil_or_concat T with rfl | ⟨R, p, rfl⟩
  · simp
  obtain ⟨l, g1, g2⟩ := h.lev R.length p (by simp)
  have g3 := g2 _ hv
  rw [sub_putV hS h.fa] at g3
  have g4 := full_depth h1 (B := B) (fun b hb => Nat.le_trans (depth_le_size _) (h.ug.sb b hb)) B.length a0
  have g5 := depth_le_size a0
  have g6 := h.sa
  have g7 : B.length * N ≤ S.length * N := Nat.mul_le_mul_right _ h.ug.blen
  have g8 : N * l ≤ N * (N + S.length * N) := Nat.mul_le_mul_left _ (by omega)
  simp only [List.concat_eq_append, List.length_append, List.length_singleton]
  omega

theorem UState.nil (h : UState S N a0 n [] B met B' ok) : B' = B ∧ ok = true := by
  have := h.run
  simp only [List.reverse_nil] at this
  cases this
  exact ⟨rfl, rfl⟩

theorem UState.pos (h : UState S N a0 n (R ++ [(x, y)]) B met B' ok) : ∃ m, n = m + 1 := by
  have := h.run
  rw [List.reverse_append] at this
  cases this <;> exact ⟨_, rfl⟩

theorem UState.first (ha : a0.fairR = true) (hs : a0.size ≤ N) {b0 : Tm} (h : URun false n [(a0, b0)] B [] B' ok) (hU : UG S N [(a0, b0)] B) : UState S N a0 n [(a0, b0)] B [] B' ok :=
  ⟨h, hU, fun i p hp => by
    cases i with
    | zero => simp at hp; subst hp; exact ⟨0, Nat.zero_le _, fun σ _ => Nat.le_refl _⟩
    | succ i => simp at hp, ha, hs⟩

theorem lev_tail (h : UState S N a0 n (R ++ [(x, y)]) B met B' ok) : ∀ (i : Nat) (p : Tm × Tm), R[i]? = some p → ∃ l, i ≤ N * l ∧ ∀ σ, solB σ B → depth (putF σ p.1) + l ≤ depth (putF σ a0) := fun i p hp =>
  h.lev i p (by rw [List.getElem?_append_left (List.getElem?_eq_some_iff.1 hp).1]; exact hp)

theorem UState.skip (h : UState S N a0 (n + 1) (R ++ [(x, y)]) B met B' ok) (hs : skipU x y met = true) : UState S N a0 n R B met B' ok := by
  have hr := h.run
  rw [List.reverse_append] at hr
  have ht := lev_tail h
  have hg := h.ug.perm (T' := R) (by simp +contextual)
  cases hr with
  | skip _ h1 => exact ⟨h1, hg, ht, h.fa, h.sa⟩
  | same h1 => rw [hs] at h1; cases h1
  | occ h1 => rw [hs] at h1; cases h1
  | bind h1 => rw [hs] at h1; cases h1
  | clash h1 => rw [hs] at h1; cases h1
  | args h1 => rw [hs] at h1; cases h1

theorem UState.step (h : UState S N a0 (n + 1) (R ++ [(x, y)]) B met B' ok) (hs : skipU x y met = false) :
    ((walkB B x).k = 1 → findB B (walkB B x).n = none) ∧ ((walkB B y).k = 1 → findB B (walkB B y).n = none) ∧ (walkB B x).size ≤ N ∧ (walkB B y).size ≤ N ∧
    ((walkB B x).k = 1 ∧ (walkB B y).k = 1 ∧ (walkB B x).n = (walkB B y).n → UState S N a0 n R B (metU x y met) B' ok) ∧
    (¬ ((walkB B x).k = 1 ∧ (walkB B y).k = 1 ∧ (walkB B x).n = (walkB B y).n) →
      ((walkB B x).k = 1 → (withB B (walkB B x).n (walkB B y) = true → B' = B ∧ ok = false) ∧ (withB B (walkB B x).n (walkB B y) = false → UState S N a0 n R (B ++ [((walkB B x).n, walkB B y)]) (metU x y met) B' ok)) ∧
      (¬ (walkB B x).k = 1 → ((walkB B y).k = 1 → (withB B (walkB B y).n (walkB B x) = true → B' = B ∧ ok = false) ∧ (withB B (walkB B y).n (walkB B x) = false → UState S N a0 n R (B ++ [((walkB B y).n, walkB B x)]) (metU x y met) B' ok)) ∧
        (¬ (walkB B y).k = 1 → (clashB (walkB B x) (walkB B y) = true → B' = B ∧ ok = false) ∧ (clashB (walkB B x) (walkB B y) = false → UState S N a0 n (R ++ (walkB B x).l.zip (walkB B y).l) B (metU x y met) B' ok)))) := by
  have hr := h.run
  rw [List.reverse_append] at hr
  have ht := lev_tail h
  have hU : UG S N ((x, y) :: R) B := h.ug.perm (by simp +contextual [or_comm])
  have hlast := h.lev R.length (x, y) (by simp)
  have h1 := hU.walk1
  have h2 := hU.walk2
  have wx : ∀ σ, solB σ B → putF σ (walkB B x) = putF σ x := fun σ hσ => walk_sol hσ _ x
  have hargs := fun hx hy => hU.args (sw := true) hx hy
  have hbind := fun (u w : Tm) hv hp hk hw => hU.bind (sw := false) (u := u) (w := w) hv hp hk hw
  have tmono : ∀ B1 : Binds, (∃ X, B1 = B ++ X) → ∀ (i : Nat) (p : Tm × Tm), R[i]? = some p → ∃ l, i ≤ N * l ∧ ∀ σ, solB σ B1 → depth (putF σ p.1) + l ≤ depth (putF σ a0) := fun B1 ⟨X, hX⟩ i p hp => by
    obtain ⟨l, g1, g2⟩ := ht i p hp
    exact ⟨l, g1, fun σ hσ => g2 σ fun b hb => hσ b (by rw [hX]; simp [hb])⟩
  have targs : (walkB B x).k ≠ 1 → ∀ (i : Nat) (p : Tm × Tm), (R ++ (walkB B x).l.zip (walkB B y).l)[i]? = some p → ∃ l, i ≤ N * l ∧ ∀ σ, solB σ B → depth (putF σ p.1) + l ≤ depth (putF σ a0) := fun hx i p hp => by
    by_cases hi : i < R.length
    · rw [List.getElem?_append_left hi] at hp; exact ht i p hp
    · rw [List.getElem?_append_right (by omega)] at hp
      obtain ⟨l, g1, g2⟩ := hlast
      have hil := (List.getElem?_eq_some_iff.1 hp).1
      rw [List.length_zip] at hil
      have hll := length_le_sizeL (walkB B x).l
      have hsz := size_eq (walkB B x)
      have hz := h1.size
      refine ⟨l + 1, by rw [Nat.mul_succ]; omega, fun σ hσ => ?_⟩
      have g3 := g2 σ hσ
      simp only at g3
      rw [← wx σ hσ] at g3
      have g4 := kid_depth (σ := σ) hx (List.of_mem_zip (List.mem_of_getElem? hp)).1
      omega
  clear wx
  generalize hwx : walkB B x = x' at *
  generalize hwy : walkB B y = y' at *
  have hR0 : UG S N R B := hU.tail
  refine ⟨h1.nd, h2.nd, h1.size, h2.size, fun hv => ?_, fun hv => ⟨fun hk => ?_, fun hkx => ⟨fun hk => ?_, fun hky => ?_⟩⟩⟩
  · cases hr with
    | skip g => rw [hs] at g; cases g
    | same _ _ g => exact ⟨g, hR0, ht, h.fa, h.sa⟩
    | occ _ g => rw [hwx, hwy] at g; exact absurd hv g
    | bind _ g => rw [hwx, hwy] at g; exact absurd hv g
    | clash _ g => rw [hwx] at g; exact absurd hv.1 g
    | args _ g => rw [hwx] at g; exact absurd hv.1 g
  · have hp : pickU false x' y' = (x', y') := by unfold pickU; rw [if_neg (by simp [hk])]
    cases hr with
    | skip g => rw [hs] at g; cases g
    | same _ g => rw [hwx, hwy] at g; exact absurd g hv
    | occ _ _ g _ gw =>
      rw [hwx, hwy, hp] at g; cases g
      exact ⟨fun _ => ⟨rfl, rfl⟩, fun e => by rw [gw] at e; cases e⟩
    | bind _ _ g _ gw gr =>
      rw [hwx, hwy, hp] at g; cases g
      exact ⟨fun e => (by rw [gw] at e; cases e), fun e => ⟨gr, hbind _ _ hv hp hk gw, tmono _ ⟨_, rfl⟩, h.fa, h.sa⟩⟩
    | clash _ g => rw [hwx] at g; exact absurd hk g
    | args _ g => rw [hwx] at g; exact absurd hk g
  · have hp : pickU false x' y' = (y', x') := by unfold pickU; rw [if_pos (by simp [hk, hkx])]
    cases hr with
    | skip g => rw [hs] at g; cases g
    | same _ g => rw [hwx, hwy] at g; exact absurd g hv
    | occ _ _ g _ gw =>
      rw [hwx, hwy, hp] at g; cases g
      exact ⟨fun _ => ⟨rfl, rfl⟩, fun e => by rw [gw] at e; cases e⟩
    | bind _ _ g _ gw gr =>
      rw [hwx, hwy, hp] at g; cases g
      exact ⟨fun e => (by rw [gw] at e; cases e), fun e => ⟨gr, hbind _ _ hv hp hk gw, tmono _ ⟨_, rfl⟩, h.fa, h.sa⟩⟩
    | clash _ _ g => rw [hwy] at g; exact absurd hk g
    | args _ _ g => rw [hwy] at g; exact absurd hk g
  · have hp : pickU false x' y' = (x', y') := by unfold pickU; rw [if_neg (by simp [hky])]
    cases hr with
    | skip g => rw [hs] at g; cases g
    | same _ g => rw [hwx, hwy] at g; exact absurd g hv
    | occ _ _ g gk => rw [hwx, hwy, hp] at g; cases g; exact absurd gk hkx
    | bind _ _ g gk => rw [hwx, hwy, hp] at g; cases g; exact absurd gk hkx
    | clash _ _ _ g =>
      rw [hwx, hwy] at g
      exact ⟨fun _ => ⟨rfl, rfl⟩, fun e => by rw [g] at e; cases e⟩
    | args _ _ _ g gr =>
      rw [hwx, hwy] at g gr
      refine ⟨fun e => (by rw [g] at e; cases e), fun _ => ⟨?_, (hargs hkx hky).perm fun p hp => ?_, targs hkx, h.fa, h.sa⟩⟩
      · rw [List.reverse_append]; exact gr
      · rcases List.mem_append.1 hp with hp | hp
        · exact List.mem_append.2 (.inr hp)
        · exact List.mem_append.2 (.inl (ordU_mem.2 hp))
end

/-- The program's order, to be run. -/
def ugF : Nat → List (Tm × Tm) → Binds → Met → Option (Binds × Bool)
  | 0, _, _, _ => none
  | _ + 1, [], B, _ => some (B, true)
  | f + 1, (x, y) :: R, B, met =>
    if skipU x y met then ugF f R B met
    else if (walkB B x).k = 1 ∧ (walkB B y).k = 1 ∧ (walkB B x).n = (walkB B y).n then ugF f R B (metU x y met)
    else if (pickU false (walkB B x) (walkB B y)).1.k = 1 then (if withB B (pickU false (walkB B x) (walkB B y)).1.n (pickU false (walkB B x) (walkB B y)).2 then some (B, false) else ugF f R (B ++ [((pickU false (walkB B x) (walkB B y)).1.n, (pickU false (walkB B x) (walkB B y)).2)]) (metU x y met))
    else if clashB (walkB B x) (walkB B y) then some (B, false)
    else ugF f (ordU false (walkB B x).l (walkB B y).l ++ R) B (metU x y met)

theorem ugF_run : ∀ (n : Nat) (T : List (Tm × Tm)) (B : Binds) (met : Met) (B' : Binds) (ok : Bool), ugF n T B met = some (B', ok) → URun false n T B met B' ok
  | 0, _, _, _, _, _, h => by cases h
  | f + 1, [], B, met, B', ok, h => by simp only [ugF] at h; cases h; exact .done
  | f + 1, (x, y) :: R, B, met, B', ok, h => by
    simp only [ugF] at h
    split at h
    · rename_i hs; exact .skip hs (ugF_run f _ _ _ _ _ h)
    rename_i hs
    have hs' : skipU x y met = false := by simpa using hs
    split at h
    · rename_i hv; exact .same hs' hv (ugF_run f _ _ _ _ _ h)
    rename_i hv
    split at h
    · rename_i hk
      split at h
      · rename_i hw; cases h; exact .occ hs' hv rfl hk hw
      · rename_i hw; exact .bind hs' hv (u := (pickU false (walkB B x) (walkB B y)).1) (w := (pickU false (walkB B x) (walkB B y)).2) rfl hk (by simpa using hw) (ugF_run f _ _ _ _ _ h)
    rename_i hk
    obtain ⟨hx, hy⟩ := pickU_fun (u := (pickU false (walkB B x) (walkB B y)).1) (w := (pickU false (walkB B x) (walkB B y)).2) rfl hk
    split at h
    · rename_i hc; cases h; exact .clash hs' hx hy hc
    · rename_i hc; exact .args hs' hx hy (by simpa using hc) (ugF_run f _ _ _ _ _ h)
end Tm
end PSL

namespace PSL
open Go Go.RowKit
section
variable {g : G} {pf : Nat → Cls} {ops : Array Oper} {Fin : Exit → Act → World → Prop}

/-- An object of one's own is not nil. -/
theorem R_eqNil (hg : GOk g) {dst : Option Nat} {T T' : Nat} {x : Operand} {ty : Nat} {pos : String} {after : Array Edge} {gd : Option (Nat × Bool)} {rest : List Oper} {k : List It} {E : Env} {objs : List Ob} {i off : Nat} {e : TypeId}
    (hu : g.P.underlying T = some (.pointer e)) (hgd : guardA ops.toList E gd = some true) (hd : dstOk ⟨g.ty, g.N⟩ dst = true) (hx : ev E x = .lo i off)
    (hr : R g pf Fin (.dr ops rest :: k) (putO E dst (.d (.v (.bool false)))) objs) : R g pf Fin (.dr ops (⟨dst, .binOp .eql T x (.const (.pointer none)) T', ty, pos, after, gd⟩ :: rest) :: k) E objs := by
  refine R_op (LocOp.up (LocOp.quiet hg hgd hd (by simp) fun φ objs w' w hρ hs' => ?_)) hr
  simp only [Op.operands] at hρ
  have hxv := hρ x (by simp)
  rw [hx] at hxv
  simp only [RV] at hxv
  obtain ⟨b, _, hvx⟩ := hxv
  refine out_val hs' (vv := .bool false) ?_ (by simp only [RV]; exact .v _)
  have h1 : ∀ d, (Op.equalIn (d + 1) T (.pointer (some ⟨b, off, none⟩)) (.pointer none)).run g.P w = .ok false w := fun d => by
    simp [Op.equalIn, run_underlying hu]
  have h2 : (Op.equal T (.pointer (some ⟨b, off, none⟩)) (.pointer none)).run g.P w = .ok false w := h1 9999
  have h3 : (eqGuard .eql T x (.const (.pointer none)) (.pointer (some ⟨b, off, none⟩)) (.pointer none)).run g.P w = .ok () w := by simp [eqGuard]
  have h4 : w'.eval (.const (.pointer none)) = .pointer none := rfl
  simp only [execOp, Sem.run_bind, hvx, h4, h3, Result.andThen_ok, binOp, h2, Sem.run_pure]
end
end PSL

namespace PSL
open Go Go.RowKit Go.MapKept

theorem erase_map {α β : Type} (f : α → β) : ∀ (l : List α) (i : Nat), (l.eraseIdx i).map f = (l.map f).eraseIdx i
  | [], _ => rfl
  | _ :: _, 0 => rfl
  | a :: l, i + 1 => by simp only [List.eraseIdx_cons_succ, List.map_cons, erase_map f l i]

theorem findI_at {k' : IntKind} {n : Int} {v : AV} {l2 : List (Int × AV)} : ∀ {l1 : List (Int × AV)} {i : Nat}, (∀ p ∈ l1, p.1 ≠ n) → findA (.int k') (.int .i64 n) (imap (l1 ++ (n, v) :: l2)) i = some (some (i + l1.length, v))
  | [], i, _ => by simp [imap, findA, Instr.sameNow]
  | p :: l1, i, h => by
    have h1 : (n == p.1) = false := by have := h p (by simp); simp; exact fun e => this e.symm
    have := findI_at (k' := k') (n := n) (v := v) (l2 := l2) (l1 := l1) (i := i + 1) fun q hq => h q (by simp [hq])
    simp only [List.cons_append, imap, List.map_cons, findA, Instr.sameNow, if_true, h1] at this ⊢
    rw [this]
    simp only [List.length_cons, Option.some.injEq, Prod.mk.injEq, and_true]
    omega

theorem RVs_cut {S : Nat → Prop} {w : World} {φ : List Phy} {x : AV} {l2 : List AV} : ∀ {l1 : List AV} {vs : List Value}, RVs S w φ (l1 ++ x :: l2) vs → RVs S w φ (l1 ++ l2) (vs.eraseIdx l1.length)
  | [], [], h => by simp [RVs] at h
  | [], v :: vs, h => by simp only [List.nil_append, RVs] at h; simpa using h.2
  | a :: l1, [], h => by simp [RVs] at h
  | a :: l1, v :: vs, h => by
    simp only [List.cons_append, RVs, List.length_cons, List.eraseIdx_cons_succ] at h ⊢
    exact ⟨h.1, RVs_cut h.2⟩
section
variable {g : G} {pf : Nat → Cls} {ops : Array Oper} {Fin : Exit → Act → World → Prop}

/-- An entry is struck out. -/
theorem R_deleteI (hg : GOk g) {dst : Option Nat} {T T' : Nat} {x y : Operand} {ty : Nat} {pos : String} {after : Array Edge} {gd : Option (Nat × Bool)} {rest : List Oper} {k : List It} {E : Env} {objs : List Ob}
    {i q by_ q' by' kt et : Nat} {z z' : List Value} {n : Int} {v : AV} {l : List (Int × AV)} (l1 l2 l' : List (Int × AV))
    (hgd : guardA ops.toList E gd = some true) (hd : dstOk ⟨g.ty, g.N⟩ dst = true) (hx : ev E x = .mp i) (ho : nth objs i = some (.map (imap l))) (hy : ev E y = .d (.v (.int .i64 n))) (hT : g.ty T = some ⟨q, by_, z, .map kt et⟩)
    (hkt : g.ty kt = some ⟨q', by', z', .int .i64⟩) (hl : l = l1 ++ (n, v) :: l2) (hn : ∀ p ∈ l1, p.1 ≠ n) (hl' : l1 ++ l2 = l')
    (hr : R g pf Fin (.dr ops rest :: k) (putO E dst .any) (setN objs i (.map (imap l')))) : R g pf Fin (.dr ops (⟨dst, .call { callee := .builtin .delete, args := #[x, y], argTypes := #[T, T'] }, ty, pos, after, gd⟩ :: rest) :: k) E objs := by
  subst hl'
  subst hl
  have hu := (hg.ty _ _ hkt).sh
  simp only [ShFact] at hu
  refine R_op (LocOp.effect hg hgd hd (by simp) fun φ a w hρ hs => ?_) hr
  simp only [Op.operands, Call.operands] at hρ
  have hxv := hρ x (by simp)
  rw [hx] at hxv
  have hyv := hρ y (by simp)
  rw [hy] at hyv
  simp only [RV] at hxv hyv
  obtain ⟨b, hb, hxv⟩ := hxv
  generalize hvy : a.eval y = vy at hyv
  cases hyv
  have hk := obj_at hs hb ho
  simp only [ObOk] at hk
  obtain ⟨ents, clk, hheap, hents⟩ := hk
  have hT' : g.P.underlying T = some (.map kt et) := by have := (hg.ty _ _ hT).sh; simpa only [ShFact] using this
  obtain ⟨v0, hfind, _, _, _, _⟩ := findA_ok hents (findI_at (k' := .i64) (n := n) (v := v) (l2 := l2) (i := 0) hn)
  rw [Nat.zero_add] at hfind
  have hlen : ents.toList.length = l1.length + (l2.length + 1) := by
    have := congrArg List.length hents.1
    simpa [imap] using this.symm
  have hsub : (ents.eraseIdxIfInBounds l1.length).toList = ents.toList.eraseIdx l1.length := by
    unfold Array.eraseIdxIfInBounds
    rw [dif_pos (by simp at hlen; omega)]
    simp
  have hset := heap_set (o' := .map (ents.eraseIdxIfInBounds l1.length) clk) hheap
  have he : ents.isEmpty = false := by
    cases hc : ents.isEmpty with
    | false => rfl
    | true =>
      have : ents.toList.length = 0 := by simpa using Array.isEmpty_iff.1 hc
      omega
  have hrun : (Builtin.delete_ #[T, T'] ty #[.map (some b), .int .i64 n]).run g.P w = .ok (.tuple #[]) { w with heap := w.heap.setIfInBounds b (.map (ents.eraseIdxIfInBounds l1.length) clk) } := by
    simp [Builtin.delete_, run_underlying hT', run_getObj_map hheap, run_checkKey hu (show IsKey (.int .i64) (.int .i64 n) by simp [IsKey]), run_findKey hu hfind, run_setObj_map _ hheap]
  rw [setN_eq]
  refine ⟨.value (.tuple #[]), .tuple #[], { w with heap := w.heap.setIfInBounds b (.map (ents.eraseIdxIfInBounds l1.length) clk) }, φ.set i (.blk b), ?_, .inl rfl, by simp [RV], ?_⟩
  · simp only [execOp, resolve, invoke, builtin, Sem.run_bind, Sem.run_pure, Result.andThen_ok, List.map_toArray, List.map_cons, List.map_nil, hxv, hvy, hrun]
  · refine Stp.swap hs hb (.inl rfl) (by simp) (fun c _ hc => hset.2 c fun e => hc (by rw [e]; rfl)) (fun b' hb => .inl hb) rfl rfl rfl fun hkeep hle => ?_
    simp only [ObOk]
    refine ⟨_, _, hset.1, ?_, ?_⟩
    · have h1 := hents.1
      rw [hsub, erase_map, ← h1]
      simp [imap, List.eraseIdx_append_of_length_le]
    · have h2 := (hents.2.mono hkeep hle)
      rw [hsub, erase_map]
      have h3 : (imap (l1 ++ (n, v) :: l2)).map (·.2) = (imap l1).map (·.2) ++ v :: (imap l2).map (·.2) := by simp [imap]
      rw [h3] at h2
      have h4 := RVs_cut h2
      have h5 : ((imap l1).map (·.2)).length = l1.length := by simp [imap]
      rw [h5] at h4
      simpa [imap] using h4
end

theorem RVs_nilE {S S' : Nat → Prop} {w : World} {φ : List Phy} {sz : Nat} (hk : Keep S w S' w) (hφ : φ = [Phy.sli sz 0 (.slice none 0 0) none]) : ∀ {axs : List AV} {vs : List Value}, pureL axs = true → RVs S w [] (axs ++ [.d (.v (.slice none 0 0))]) vs → RVs S' w φ (axs ++ [.ow 0 0]) vs
  | [], [], _, h => by simp [RVs] at h
  | [], v :: vs, _, h => by
    simp only [List.nil_append, RVs, RV] at h ⊢
    obtain ⟨h1, h2⟩ := h
    cases h1
    refine ⟨⟨⟨none, 0, 0, rfl⟩, _, by rw [hφ]; rfl, fun sz' s' x' ob' he => ?_⟩, ?_⟩
    · cases he; exact ⟨Nat.le_refl _, fun _ => rfl⟩
    · cases vs with
      | nil => simp [RVs]
      | cons v vs => simp [RVs] at h2
  | a :: axs, [], _, h => by simp [RVs] at h
  | a :: axs, v :: vs, hp, h => by
    simp only [pureL, Bool.and_eq_true] at hp
    simp only [List.cons_append, RVs] at h ⊢
    exact ⟨RV.pure hk hp.1 h.1, RVs_nilE hk hφ hp.2 h.2⟩

/-- A handed slice, the last argument, that is nil. -/
theorem SCtr.nilE {P : Program} {Y : YP} {f sz : Nat} {axs : List AV} {r y : AV} {objs1 : List Ob} (h : SCtr P Y f (axs ++ [.ow 0 0]) [.arr sz 0 []] r objs1) (hp : pureL axs = true) (hy : sealA objs1 5 r = some y) : PCtr P f (axs ++ [.d (.v (.slice none 0 0))]) y := by
  refine ⟨h.call, fun S w vals hS hv => ?_⟩
  have hnb : ∀ b, ¬ bls [Phy.sli sz 0 (.slice none 0 0) none] b := by
    rintro b ⟨i, p, h1, h2⟩
    cases i with
    | zero => simp at h1; subst h1; simp [Phy.bl] at h2
    | succ i => simp at h1
  have hHS : HS S [Phy.sli sz 0 (.slice none 0 0) none] [.arr sz 0 []] w := by
    refine ⟨rfl, fun i ph ob h1 h2 => ?_, fun i j p q b h1 h2 h3 h4 => absurd ⟨i, p, h1, h3⟩ (hnb b), fun b hb => absurd hb (hnb b), hS⟩
    cases i with
    | zero => simp at h1 h2; subst h1; subst h2; simp only [ObOk]; exact ⟨trivial, trivial, by simp, .inl ⟨none, rfl, trivial, trivial⟩⟩
    | succ i => simp at h1
  have hk : Keep S w (SS S [Phy.sli sz 0 (.slice none 0 0) none]) w := fun b hb _ => ⟨⟨hb, hnb b⟩, rfl⟩
  have hcall := h.run S _ w vals hHS (fun b hb => absurd hb (hnb b)) (fun i l I B hi => by
    cases i with
    | zero => simp at hi
    | succ i => simp at hi) (RVs_nilE hk rfl hp hv)
  refine hcall.mono ?_
  rintro e w' ⟨v, φ', rfl, hr, hst⟩
  have hbl : ∀ b, bls φ' b → S b := fun b hb => (hst.own b hb).elim (fun h => absurd h (hnb b)) (hS b)
  refine ⟨v, rfl, ?_, ⟨hst.os, hst.tape, hst.out, hst.size, fun b hb => hst.fr b hb (hnb b)⟩⟩
  exact sealA_ok hbl hst.hs 5 hr hy
end PSL

namespace Go.Proofs.Ytppghekipbnjhaa
open Go PSL Go.Proofs

/-- A store whose trail was cut some times. -/
def uobd (d : Nat) (B : Binds) : List Ob := [.box [.mp 1, .ow 2 (B.length + d)], .map (imap (tmM B)), .arr 1 (B.length + d) (irows (B.map (·.1)))]

set_option maxRecDepth 100000 in
theorem unjWalk_ok (Y : YP) (d : Nat) (B : Binds) (hc : Tm.chainB B) (t : Tm) : SCtr Try.prog Y 97 [.lo 0 0, t.av] (uobd d B) (Tm.walkB B t).av (uobd d B) := by
  refine SCtr.of_R (pf := fun _ => .eff) tyOk mixed Try.func97 rfl (by kernel_rfl) (by kernel_rfl) (by simp [Try.ntmps97]) (by simp [uobd]) fun w S φ hg => ?_
  have hφ : φ.length = 3 := hg.hs0.len
  have fuel0 : ∀ (j : Nat) (c : Int × Tm), B[j]? = some c → t.k = 1 → c.1 = t.n → B.length - j ≤ B.length + 1 := fun j c _ _ _ => by omega
  have keep : ∀ (o : List Ob), (uobd d B).map (mapOb (sealT false 3 o 5)) = uobd d B := fun o => by
    simp only [uobd, List.map_cons, List.map_nil]
    rw [tmM_mapOb (fun t => rfl)]; rfl
  refine R_run hg.ok 1000 rfl rfl ?_
  refine R_loop (fun x : Nat × Tm => ([(0, .lo 0 0), (3, .lo 3 0), (4, .lo 4 0)], uobd d B ++ [boxR x.2, .box [.d (.v (.int .i64 0)), .d (.v (.string ByteArray.empty)), .d (.v (.int .i64 0)), .d (.v (.slice none 0 0))]])) (fun x => Tm.walkB B t = Tm.walkT B x.1 x.2 ∧ ∀ (j : Nat) (c : Int × Tm), B[j]? = some c → x.2.k = 1 → c.1 = x.2.n → B.length - j ≤ x.1) (fun x => x.1) (B.length + 1, t) ⟨rfl, fuel0⟩ ⟨.refl _, .refl _, .refl _, trivial⟩ rfl ?_
  rintro ⟨f, u⟩ ⟨hm, hf⟩
  simp only at hm hf
  refine R_run hg.ok 1000 rfl rfl ?_
  refine R_if rfl rfl (fun h1 => ?_) (fun h1 => ?_) <;> refine R_run hg.ok 1000 rfl rfl ?_
  · have hk1 : u.k = 1 := by simpa using h1
    cases hb : findB B u.n with
    | none =>
      refine R_lookupI hg.ok (tmM B) rfl rfl rfl rfl rfl rfl rfl (zv := zTmV) (by kernel_rfl) (v := .tup [zTmA, bV false]) (by rw [getI_tm, hb]; rfl) ?_
      refine R_run hg.ok 1000 rfl rfl ?_
      refine R_if rfl rfl (fun _ => ?_) (fun h => absurd h (by simp)) <;> refine R_run hg.ok 1000 rfl rfl ?_
      have e : Tm.walkB B t = u := by
        rw [hm]
        cases f with
        | zero => rfl
        | succ f => simp only [Tm.walkT]; rw [if_pos hk1, hb]
      rw [e]
      exact R_retS hg 3 5 (Nat.le_refl _) rfl rfl (keep _)
    | some x =>
      obtain ⟨j, hj⟩ := Tm.findB_at hb
      have hjl := (List.getElem?_eq_some_iff.1 hj).1
      have h2 := hf j _ hj hk1 rfl
      obtain ⟨f, rfl⟩ : ∃ g, f = g + 1 := ⟨f - 1, by omega⟩
      refine R_lookupI hg.ok (tmM B) rfl rfl rfl rfl rfl rfl rfl (zv := zTmV) (by kernel_rfl) (v := .tup [x.av, bV true]) (by rw [getI_tm, hb]; rfl) ?_
      refine R_run hg.ok 1000 rfl rfl ?_
      refine R_if rfl rfl (fun h => absurd h (by simp)) (fun _ => ?_) <;> refine R_run hg.ok 1000 rfl rfl ?_
      refine R_dropO 5 (uobd d B ++ [boxR x, .box [.d (.v (.int .i64 0)), .d (.v (.string ByteArray.empty)), .d (.v (.int .i64 0)), .d (.v (.slice none 0 0))]]) (by show φ.length ≤ _; omega) rfl ?_ ?_
      · simp only [uobd, List.cons_append, List.nil_append]
        show _ :: mapOb _ (.map (imap (tmM B))) :: _ = _
        rw [tmM_mapOb (fun t => rfl)]; rfl
      refine R_next (f, x) ⟨?_, fun j' c hc' hk hn => ?_⟩ (by simp only; omega) ⟨.refl _, .refl _, .refl _, trivial⟩ rfl
      · rw [hm]; simp only [Tm.walkT]; rw [if_pos hk1, hb]
      · have := hc.chain j _ hj hk j' c hc' hn
        omega
  · have hk1 : ¬ u.k = 1 := by simpa using h1
    have e : Tm.walkB B t = u := by
      rw [hm]
      cases f with
      | zero => rfl
      | succ f => simp only [Tm.walkT]; rw [if_neg hk1]
    rw [e]
    exact R_retS hg 3 5 (Nat.le_refl _) rfl rfl (keep _)

set_option maxRecDepth 100000 in
theorem unjBind_ok (Y : YP) (d : Nat) (B : Binds) (v : Int) (t : Tm) (hv : findB B v = none) (hB : B.length < 1000000) : SCtr Try.prog Y 99 [.lo 0 0, iV v, t.av] (uobd d B) (.tup []) (uobd d (B ++ [(v, t)])) := by
  refine SCtr.of_R (pf := fun _ => .eff) tyOk mixed Try.func99 rfl (by kernel_rfl) (by kernel_rfl) (by simp [Try.ntmps99]) (by simp [uobd]) fun w S φ hg => ?_
  have hφ : φ.length = 3 := hg.hs0.len
  refine R_run hg.ok 1000 rfl rfl ?_
  refine R_mapAddI hg.ok (tmM B) rfl rfl rfl rfl rfl rfl rfl (by rw [getI_tm, hv]; rfl) ?_
  refine R_run hg.ok 1000 rfl rfl ?_
  refine R_appendO hg.ok (irows (B.map (·.1) ++ [v])) rfl rfl rfl rfl rfl rfl rfl rfl rfl (by simp) (by simp [one1]) (irows_snoc1 _ _) (by rw [irows_length]; simp; omega) (by rw [irows_length]; simp; omega) ?_
  refine R_run hg.ok 1000 rfl rfl ?_
  refine R_endS hg 3 5 (Nat.le_refl _) rfl rfl ?_
  have e1 : imap (tmM B ++ [(v, t.av)]) = imap (tmM (B ++ [(v, t)])) := by rw [tmM_snoc]
  have e2 : B.map (·.1) ++ [v] = (B ++ [(v, t)]).map (·.1) := by simp
  have e3 : (B ++ [(v, t)]).length + d = B.length + d + 1 := by simp; omega
  show [_, mapOb _ (.map (imap (tmM B ++ [(v, t.av)]))), _] = _
  rw [e1, tmM_mapOb (fun t => rfl), e2]
  unfold uobd
  rw [e3]; rfl
def lobd (d : Nat) (B : Binds) (v : Int) (M : List Int) : List Ob := uobd d B ++ [.box [iV v], .box [.lo 0 0], .box [.mp 6], .map (imap (M.map fun n => (n, bV true))), .box [.clo 103 [] [.lo 3 0, .lo 4 0, .lo 5 0, .lo 7 0]]]

theorem lobd_map {f : AV → AV} (ht : ∀ t : Tm, f t.av = t.av) (hb : ∀ b, f (bV b) = bV b) (hi : ∀ n, f (iV n) = iV n) (h1 : f (.mp 1) = .mp 1) (h2 : ∀ s, f (.ow 2 s) = .ow 2 s) (h3 : f (.lo 0 0) = .lo 0 0) (h4 : f (.mp 6) = .mp 6) (h5 : f (.clo 103 [] [.lo 3 0, .lo 4 0, .lo 5 0, .lo 7 0]) = .clo 103 [] [.lo 3 0, .lo 4 0, .lo 5 0, .lo 7 0]) (d : Nat) (B : Binds) (v : Int) (M : List Int) : (lobd d B v M).map (mapOb f) = lobd d B v M := by
  simp only [lobd, uobd, List.map_append, List.map_cons, List.map_nil, List.cons_append, List.nil_append, tmM_mapOb ht, setM_mapOb hb]
  simp [mapOb, h1, h2, h3, h4, h5, hi]

set_option maxRecDepth 100000 in
theorem unjLook_ok (Y : YP) (d : Nat) (B : Binds) (hB : ∀ b ∈ B, b.2.size < 400000000) (hBl : B.length < 1000000) (v : Int) : ∀ (u : Nat) (n : Nat) (t : Tm) (M : List Int), t.size ≤ n → t.size < 400000000 → (B.countP fun b => !M.contains b.1) < u → SCtr Try.prog Y 103 [t.av, .lo 3 0, .lo 4 0, .lo 5 0, .lo 7 0] (lobd d B v M) (bV (Tm.lkT (Tm.lkF B v u) t M).1) (lobd d B v (Tm.lkT (Tm.lkF B v u) t M).2) := by
  intro u
  induction u with
  | zero => intro n t M _ _ h; omega
  | succ u ihu =>
  intro n
  induction n with
  | zero => intro t M h _; have := Tm.size_pos t; omega
  | succ n ihn =>
  intro t M hn ht hu
  refine SCtr.of_R (pf := fun _ => .eff) tyOk mixed Try.func103 rfl (by kernel_rfl) (by kernel_rfl) (by simp [Try.ntmps103]) (by simp [lobd, uobd]) fun w S φ hg => ?_
  have hφ : φ.length = 8 := hg.hs0.len
  have keep : ∀ (Q : List Int) (o : List Ob), (lobd d B v Q).map (mapOb (sealT false 8 o 5)) = lobd d B v Q := fun Q o => lobd_map (fun _ => rfl) (fun _ => rfl) (fun _ => rfl) rfl (fun _ => rfl) rfl rfl rfl d B v Q
  have hren : ∀ (n : Nat) (Z : List Int), (lobd d B v Z).map (renOb (rn [0, 1, 2, 3, 4, 5, 6, 7] n)) = lobd d B v Z := fun n Z => by
    have e : (renOb (rn [0, 1, 2, 3, 4, 5, 6, 7] n)) = mapOb (renA (rn [0, 1, 2, 3, 4, 5, 6, 7] n)) := by funext o; cases o <;> simp [renOb, mapOb, renL_map]
    rw [e]; exact lobd_map (fun _ => rfl) (fun _ => rfl) (fun _ => rfl) rfl (fun _ => rfl) rfl rfl rfl d B v Z
  have ret : ∀ {r : Bool} {Q : List Int}, Tm.lkT (Tm.lkF B v (u + 1)) t M = (r, Q) → bV r = bV (Tm.lkT (Tm.lkF B v (u + 1)) t M).1 ∧ lobd d B v Q = lobd d B v (Tm.lkT (Tm.lkF B v (u + 1)) t M).2 := fun e => by rw [e]; exact ⟨rfl, rfl⟩
  refine R_run hg.ok 1000 rfl rfl ?_
  refine R_if rfl rfl (fun h1 => ?_) (fun h1 => ?_) <;> refine R_run hg.ok 1000 rfl rfl ?_
  · have hk1 : t.k = 1 := by simpa using h1
    refine R_if rfl rfl (fun h2 => ?_) (fun h2 => ?_) <;> refine R_run hg.ok 1000 rfl rfl ?_
    · have h2 : t.n = v := by simpa using h2
      have e := ret (r := true) (Q := M) (by rw [Tm.lkT_var hk1]; simp only [Tm.lkF]; rw [if_pos h2])
      rw [← e.1, ← e.2]
      exact R_retS hg 8 5 (Nat.le_refl _) rfl rfl (keep M _)
    have h2 : ¬ t.n = v := by simpa using h2
    cases hb : findB B t.n with
    | none =>
      refine R_lookupI hg.ok (tmM B) rfl rfl rfl rfl rfl rfl rfl (zv := zTmV) (by kernel_rfl) (v := .tup [zTmA, bV false]) (by rw [getI_tm, hb]; rfl) ?_
      refine R_run hg.ok 1000 rfl rfl ?_
      refine R_if rfl rfl (fun _ => ?_) (fun h => absurd h (by simp)) <;> refine R_run hg.ok 1000 rfl rfl ?_
      have e := ret (r := false) (Q := M) (by rw [Tm.lkT_var hk1]; simp only [Tm.lkF]; rw [if_neg h2, hb])
      rw [← e.1, ← e.2]
      exact R_retS hg 8 5 (Nat.le_refl _) rfl rfl (keep M _)
    | some x =>
      refine R_lookupI hg.ok (tmM B) rfl rfl rfl rfl rfl rfl rfl (zv := zTmV) (by kernel_rfl) (v := .tup [x.av, bV true]) (by rw [getI_tm, hb]; rfl) ?_
      refine R_run hg.ok 1000 rfl rfl ?_
      refine R_if rfl rfl (fun h => absurd h (by simp)) (fun _ => ?_) <;> refine R_run hg.ok 1000 rfl rfl ?_
      have hg1 := setM_get M t.n
      cases hc : M.contains t.n with
      | true =>
        rw [hc, if_pos rfl] at hg1
        refine R_lookupI hg.ok (M.map fun n => (n, bV true)) rfl rfl rfl rfl rfl rfl rfl (zv := .bool false) (by kernel_rfl) (v := bV true) (by rw [hg1]; rfl) ?_
        refine R_run hg.ok 1000 rfl rfl ?_
        refine R_if rfl rfl (fun _ => ?_) (fun h => absurd h (by simp)) <;> refine R_run hg.ok 1000 rfl rfl ?_
        have e := ret (r := false) (Q := M) (by rw [Tm.lkT_var hk1]; simp only [Tm.lkF]; rw [if_neg h2, hb]; simp only; rw [hc, if_pos rfl])
        rw [← e.1, ← e.2]
        exact R_retS hg 8 5 (Nat.le_refl _) rfl rfl (keep M _)
      | false =>
        rw [hc, if_neg (by simp)] at hg1
        refine R_lookupI hg.ok (M.map fun n => (n, bV true)) rfl rfl rfl rfl rfl rfl rfl (zv := .bool false) (by kernel_rfl) (v := .ff) (by rw [hg1]; rfl) ?_
        refine R_run hg.ok 1000 rfl rfl ?_
        refine R_mapAddW hg.ok (bV true) (M.map fun n => (n, bV true)) ((M ++ [t.n]).map fun n => (n, bV true)) rfl rfl rfl rfl rfl rfl rfl hg1 .tt (by simp) ?_
        refine R_run hg.ok 1000 rfl rfl ?_
        have hcall := ihu x.size x (M ++ [t.n]) (Nat.le_refl _) (hB _ (Tm.findB_mem hb)) (by have := Tm.count_lt hb hc; omega)
        have hq : Tm.lkT (Tm.lkF B v (u + 1)) t M = Tm.lkT (Tm.lkF B v u) x (M ++ [t.n]) := by
          rw [Tm.lkT_var hk1]; simp only [Tm.lkF]; rw [if_neg h2, hb]; simp only; rw [hc, if_neg (by simp)]
        rw [hq]
        generalize Tm.lkT (Tm.lkF B v u) x (M ++ [t.n]) = rq at hcall
        obtain ⟨r, Q⟩ := rq
        refine R_callSO hg.ok hg.gup hg.wide hg.Y [0, 1, 2, 3, 4, 5, 6, 7] (lobd d B v Q ++ [boxR t, boxR x]) hcall (fun _ => rfl) rfl rfl rfl rfl rfl (by rw [hren]; rfl) rfl (by rw [hren]; rfl) ?_
        refine R_run hg.ok 1000 rfl rfl ?_
        exact R_retS hg 8 5 (Nat.le_refl _) rfl rfl (keep Q _)
  have hk1 : t.k ≠ 1 := by simpa using h1
  have hl0 : Tm.lkT (Tm.lkF B v (u + 1)) t M = Tm.lkTL (Tm.lkF B v (u + 1)) t.l M := Tm.lkT_fun hk1
  have hsz : Tm.sizeL t.l ≤ n := by have := Tm.size_eq t; omega
  have hll := Tm.length_le_sizeL t.l
  have hsz2 := Tm.size_eq t
  refine R_loop (fun x : Nat × List Int => ([(4, .lo 7 0), (43, .d (.sl (Tm.rows t.l))), (44, iV t.l.length), (45, iV x.1)], lobd d B v x.2 ++ [boxR t])) (fun x => x.1 ≤ t.l.length ∧ Tm.lkT (Tm.lkF B v (u + 1)) t M = Tm.lkTL (Tm.lkF B v (u + 1)) (t.l.drop x.1) x.2 ∧ (B.countP fun b => !x.2.contains b.1) < u + 1) (fun x => t.l.length - x.1) (0, M) ⟨Nat.zero_le _, hl0, hu⟩ ⟨.refl _, .refl _, Ent.int (by rw [Tm.rows_length]), .refl _, trivial⟩ rfl ?_
  rintro ⟨k, Q⟩ ⟨hk, hm, hQ⟩
  simp only at hk hm hQ
  refine R_run hg.ok 1000 rfl rfl ?_
  refine R_if rfl rfl (fun h => ?_) (fun h => ?_) <;> refine R_run hg.ok 1000 rfl rfl ?_
  · have hkl : k < t.l.length := lt_dec h rfl
    have e1 : t.l[k]? = some t.l[k] := List.getElem?_eq_getElem hkl
    have hms := Tm.size_mem (List.getElem_mem hkl)
    rw [List.drop_eq_getElem_cons hkl] at hm
    generalize t.l[k] = x at e1 hms hm
    simp only [Tm.lkTL] at hm
    refine R_index hg.ok rfl rfl rfl rfl rfl rfl (Int.natCast_nonneg _) (Tm.rows_get e1) rfl ?_
    refine R_run hg.ok 1000 rfl rfl ?_
    have hcall := ihn x Q (by omega) (by omega) hQ
    obtain ⟨R0, hext⟩ := Tm.lkT_ext (Tm.lkF_ext B v (u + 1)) x Q
    have hcnt := Tm.count_le B Q R0
    rw [← hext] at hcnt
    generalize Tm.lkT (Tm.lkF B v (u + 1)) x Q = rq at hcall hm hcnt
    obtain ⟨r, Q'⟩ := rq
    simp only at hm hcnt
    refine R_callSO hg.ok hg.gup hg.wide hg.Y [0, 1, 2, 3, 4, 5, 6, 7] (lobd d B v Q' ++ [boxR t, boxR x]) hcall (fun _ => rfl) rfl rfl rfl rfl rfl (by rw [hren]; rfl) rfl (by rw [hren]; rfl) ?_
    refine R_run hg.ok 1000 rfl rfl ?_
    refine R_if rfl rfl (fun h2 => ?_) (fun h2 => ?_) <;> refine R_run hg.ok 1000 rfl rfl ?_
    · have h2 : r = true := h2
      subst h2
      have e := ret (r := true) (Q := Q') (by rw [hm, if_pos rfl])
      rw [← e.1, ← e.2]
      exact R_retS hg 8 5 (Nat.le_refl _) rfl rfl (keep Q' _)
    · have h2 : r = false := h2
      subst h2
      refine R_dropO 9 (lobd d B v Q' ++ [boxR t]) (by show φ.length ≤ _; omega) rfl ?_ ?_
      · show (lobd d B v Q').map _ ++ _ = _
        rw [lobd_map (fun _ => rfl) (fun _ => rfl) (fun _ => rfl) rfl (fun _ => rfl) rfl rfl rfl d B v Q']; rfl
      exact R_next (k + 1, Q') ⟨hkl, by rw [hm, if_neg (by simp)], by simp only; omega⟩ (by simp only; omega) ⟨.refl _, .refl _, .refl _, Ent.wrap (by simp only; omega) (by simp only; omega) (by simp only; omega), trivial⟩ rfl
  · have hkl : t.l.length ≤ k := ge_dec h rfl
    rw [List.drop_eq_nil_of_le hkl] at hm
    have e := ret (r := false) (Q := Q) (by rw [hm]; simp [Tm.lkTL])
    rw [← e.1, ← e.2]
    exact R_retS hg 8 5 (Nat.le_refl _) rfl rfl (keep Q _)

set_option maxRecDepth 100000 in
theorem unjWithin_ok (Y : YP) (d : Nat) (B : Binds) (hB : ∀ b ∈ B, b.2.size < 400000000) (hBl : B.length < 1000000) (v : Int) (t : Tm) (ht : t.size < 400000000) : SCtr Try.prog Y 98 [.lo 0 0, iV v, t.av] (uobd d B) (bV (Tm.withB B v t)) (uobd d B) := by
  refine SCtr.of_R (pf := fun _ => .eff) tyOk mixed Try.func98 rfl (by kernel_rfl) (by kernel_rfl) (by simp [Try.ntmps98]) (by simp [uobd]) fun w S φ hg => ?_
  have hφ : φ.length = 3 := hg.hs0.len
  have keep : ∀ (o : List Ob), (uobd d B).map (mapOb (sealT false 3 o 5)) = uobd d B := fun o => by
    simp only [uobd, List.map_cons, List.map_nil]
    rw [tmM_mapOb (fun t => rfl)]; rfl
  have hcall := unjLook_ok Y d B hB hBl v (B.length + 1) t.size t [] (Nat.le_refl _) ht (by have := List.countP_le_length (p := fun b : Int × Tm => !([] : List Int).contains b.1) (l := B); omega)
  have hren : ∀ (n : Nat) (Z : List Int), (lobd d B v Z).map (renOb (rn [0, 1, 2, 4, 3, 7, 6, 8] n)) = uobd d B ++ [.box [iV v], .box [.lo 0 0], .box [.mp 6], .map (imap (Z.map fun n => (n, bV true))), .box [.clo 103 [] [.lo 4 0, .lo 3 0, .lo 7 0, .lo 8 0]]] := fun n Z => by
    have e : (renOb (rn [0, 1, 2, 4, 3, 7, 6, 8] n)) = mapOb (renA (rn [0, 1, 2, 4, 3, 7, 6, 8] n)) := by funext o; cases o <;> simp [renOb, mapOb, renL_map]
    rw [e]
    simp only [lobd, uobd, List.map_append, List.map_cons, List.map_nil, List.cons_append, List.nil_append, tmM_mapOb (f := renA (rn [0, 1, 2, 4, 3, 7, 6, 8] n)) (fun _ => rfl), setM_mapOb (f := renA (rn [0, 1, 2, 4, 3, 7, 6, 8] n)) (fun _ => rfl)]
    rfl
  have hw : Tm.withB B v t = (Tm.lkT (Tm.lkF B v (B.length + 1)) t []).1 := rfl
  rw [hw]
  generalize Tm.lkT (Tm.lkF B v (B.length + 1)) t [] = rq at hcall
  obtain ⟨r, Q⟩ := rq
  refine R_run hg.ok 1000 rfl rfl ?_
  refine R_makeMap hg.ok rfl rfl ?_
  refine R_run hg.ok 1000 rfl rfl ?_
  refine R_callSO hg.ok hg.gup hg.wide hg.Y [0, 1, 2, 4, 3, 7, 6, 8] (uobd d B ++ [.box [.lo 0 0], .box [iV v], boxR t, .map (imap (Q.map fun n => (n, bV true))), .box [.mp 6], .box [.clo 103 [] [.lo 4 0, .lo 3 0, .lo 7 0, .lo 8 0]]]) hcall (fun _ => rfl) rfl rfl rfl rfl rfl (by rw [hren]; rfl) rfl (by rw [hren]; rfl) ?_
  refine R_run hg.ok 1000 rfl rfl ?_
  exact R_retS hg 3 5 (Nat.le_refl _) rfl rfl (keep _)
end Go.Proofs.Ytppghekipbnjhaa

namespace Go.Proofs.Ytppghekipbnjhaa
open Go PSL Go.Proofs

/-- What lies there between one round and the next. -/
def urObd (d : Nat) (a b : Tm) (B : Binds) (s : Nat) (T : List (Tm × Tm)) (met : List (Int × Int)) : List Ob := uobd d B ++ [boxR a, boxR b, .arr 8 s (prsRows T), .map (pmap (metP met))]

theorem uobd_ren (d : Nat) (B : Binds) (n : Nat) : (uobd d B).map (renOb (rn [0, 1, 2] n)) = uobd d B := by
  have e : (renOb (rn [0, 1, 2] n)) = mapOb (renA (rn [0, 1, 2] n)) := by funext o; cases o <;> simp [renOb, mapOb, renL_map]
  rw [e]
  simp only [uobd, List.map_cons, List.map_nil]
  rw [tmM_mapOb (fun t => rfl)]; rfl

theorem urObd_trim (d : Nat) (a b : Tm) (B : Binds) (s : Nat) (T : List (Tm × Tm)) (met : List (Int × Int)) (l : List Ob) : ((urObd d a b B s T met ++ l).take 7).map (mapOb (trimA 7)) = urObd d a b B s T met := by
  have e : (urObd d a b B s T met ++ l).take 7 = urObd d a b B s T met := by simp [urObd, uobd]
  rw [e]
  simp only [urObd, uobd, List.map_append, List.map_cons, List.map_nil, List.cons_append, List.nil_append]
  rw [tmM_mapOb (f := trimA 7) (fun t => rfl), metP_mapOb (f := trimA 7) rfl]; rfl

theorem urObd_trim3 (d : Nat) (a b : Tm) (B : Binds) (s : Nat) (T : List (Tm × Tm)) (met : List (Int × Int)) (u v : Tm) (c e : Int) (l : List Ob) : ((urObd d a b B s T met ++ [boxR u, boxR v, .box [iV c, iV e]] ++ l).take 10).map (mapOb (trimA 10)) = urObd d a b B s T met ++ [boxR u, boxR v, .box [iV c, iV e]] := by
  have e' : (urObd d a b B s T met ++ [boxR u, boxR v, .box [iV c, iV e]] ++ l).take 10 = urObd d a b B s T met ++ [boxR u, boxR v, .box [iV c, iV e]] := by simp [urObd, uobd]
  rw [e']
  simp only [urObd, uobd, List.map_append, List.map_cons, List.map_nil, List.cons_append, List.nil_append]
  rw [tmM_mapOb (f := trimA 10) (fun t => rfl), metP_mapOb (f := trimA 10) rfl]; rfl

set_option maxHeartbeats 3200000 in
set_option maxRecDepth 100000 in
theorem unjLoop_ok (Y : YP) (d : Nat) {S : List Int} {N : Nat} (hS : S.length ≤ 100) (hN : N ≤ 100) (B0 B' : Binds) (ok : Bool) (a b : Tm) (n0 : Nat) (h0 : Tm.UState S N a n0 [(a, b)] B0 [] B' ok) : SCtr Try.prog Y 80 [.lo 0 0, a.av, b.av] (uobd d B0) (bV ok) (uobd d B') := by
  refine SCtr.of_R (pf := pfUni) tyOk mixed Try.func80 rfl (by kernel_rfl) (by kernel_rfl) (by simp [Try.ntmps80]) (by simp [uobd]) fun w S0 φ hg => ?_
  have hφ : φ.length = 3 := hg.hs0.len
  have keep : ∀ (B : Binds) (o : List Ob), (uobd d B).map (mapOb (sealT false 3 o 5)) = uobd d B := fun B o => by
    simp only [uobd, List.map_cons, List.map_nil]
    rw [tmM_mapOb (fun t => rfl)]; rfl
  refine R_run hg.ok 1000 rfl rfl ?_
  refine R_buildA hg.ok _ rfl rfl rfl rfl rfl rfl rfl rfl ?_
  refine R_run hg.ok 1000 rfl rfl ?_
  refine R_buildO hg.ok (prsRows [(a, b)]) rfl rfl rfl rfl rfl rfl rfl rfl (by simp [prsRows]) (by simp [prsRows]) ?_
  refine R_run hg.ok 1000 rfl rfl ?_
  refine R_makeMap hg.ok rfl rfl ?_
  refine R_run hg.ok 1000 rfl rfl ?_
  refine R_loop (fun x : Nat × List (Tm × Tm) × Binds × List (Int × Int) × Nat => ([(0, .lo 0 0), (7, .ow 5 x.2.2.2.2), (8, .mp 6)], urObd d a b x.2.2.1 x.2.2.2.2 x.2.1 x.2.2.2.1)) (fun x => Tm.UState S N a x.1 x.2.1 x.2.2.1 x.2.2.2.1 B' ok) (fun x => x.1) (n0, [(a, b)], B0, [], 0) h0 ⟨.refl _, .refl _, .refl _, trivial⟩ rfl ?_
  rintro ⟨n, T, B, met, s⟩ hU
  simp only at hU
  have hlenU : ∀ {n : Nat} {T : List (Tm × Tm)} {B : Binds} {met : List (Int × Int)}, Tm.UState S N a n T B met B' ok → T.length ≤ 1010001 := fun h => by
    have h1 := h.len
    have h2 : S.length * N ≤ 100 * 100 := Nat.mul_le_mul hS hN
    have h3 : N * (N + S.length * N) ≤ 100 * (100 + 100 * 100) := Nat.mul_le_mul hN (by omega)
    omega
  have hTl := hlenU hU
  have hBl := hU.ug.blen
  refine R_run hg.ok 1000 rfl rfl ?_
  refine R_lenO hg.ok rfl rfl rfl rfl rfl (n := (T.length : Int)) (by rw [prsRows_len]) ?_
  refine R_run hg.ok 1000 rfl rfl ?_
  rcases List.eq_nil_or_concat T with rfl | ⟨R, p, rfl⟩
  · refine R_if rfl rfl (fun h => absurd h (by simp)) (fun _ => ?_) <;> refine R_run hg.ok 1000 rfl rfl ?_
    obtain ⟨e1, e2⟩ := hU.nil
    rw [e1, e2]
    exact R_retS hg 3 5 (Nat.le_refl _) rfl rfl (keep B _)
  obtain ⟨x, y⟩ := p
  rw [List.concat_eq_append] at hU hTl ⊢
  obtain ⟨n, rfl⟩ := hU.pos
  refine R_if rfl rfl (fun _ => ?_) (fun h => absurd h (by simp)) <;> refine R_run hg.ok 1000 rfl rfl ?_
  have hRl : (R ++ [(x, y)]).length = R.length + 1 := by simp
  have hget : (prsRows (R ++ [(x, y)]))[((R.length : Nat) : Int).toNat]? = some (prsRow (x, y)) := prsRows_get (by simp)
  refine R_pair hg.ok 14 (by kernel_rfl) (by kernel_rfl) ?_ ?_
  · refine R_run hg.ok 1000 rfl rfl ?_
    refine R_lenJ hg.ok 10000 (by simp [mayO, Ob.lvl, Ob.isBox]) rfl rfl rfl rfl rfl rfl (n := ((R ++ [(x, y)]).length : Int)) (by rw [prsRows_len]) ?_
    refine R_run hg.ok 1000 rfl rfl ?_
    rw [w64 (n := ((R ++ [(x, y)]).length : Int) - 1) (by omega) (by omega), show ((R ++ [(x, y)]).length : Int) - 1 = ((R.length : Nat) : Int) by omega]
    refine R_indexOJ hg.ok 10000 rfl rfl rfl (by simp [mayO, Ob.lvl, Ob.isBox]) rfl rfl rfl rfl rfl rfl (Int.natCast_nonneg _) (by rw [prsRows_len]; simp) ?_
    refine R_run hg.ok 1000 rfl rfl ?_
    refine R_indexEA hg.ok 0 rfl rfl rfl rfl rfl rfl (by decide) (by decide) rfl ?_
    refine R_run hg.ok 1000 rfl rfl ?_
    refine R_loadEJ hg.ok 10000 rfl rfl rfl (by simp [mayO, Ob.lvl, Ob.isBox]) rfl rfl rfl hget rfl ?_
    refine R_run hg.ok 1000 rfl rfl ?_
    refine R_lenJ hg.ok 10000 (by simp [mayO, Ob.lvl, Ob.isBox]) rfl rfl rfl rfl rfl rfl (n := ((R ++ [(x, y)]).length : Int)) (by rw [prsRows_len]) ?_
    refine R_run hg.ok 1000 rfl rfl ?_
    rw [w64 (n := ((R ++ [(x, y)]).length : Int) - 1) (by omega) (by omega), show ((R ++ [(x, y)]).length : Int) - 1 = ((R.length : Nat) : Int) by omega]
    refine R_indexOJ hg.ok 10000 rfl rfl rfl (by simp [mayO, Ob.lvl, Ob.isBox]) rfl rfl rfl rfl rfl rfl (Int.natCast_nonneg _) (by rw [prsRows_len]; simp) ?_
    refine R_run hg.ok 1000 rfl rfl ?_
    refine R_indexEA hg.ok 4 rfl rfl rfl rfl rfl rfl (by decide) (by decide) rfl ?_
    refine R_run hg.ok 1000 rfl rfl ?_
    refine R_loadEJ hg.ok 10000 rfl rfl rfl (by simp [mayO, Ob.lvl, Ob.isBox]) rfl rfl rfl hget rfl ?_
    refine R_run hg.ok 1000 rfl rfl ?_
    refine R_storeB hg.ok rfl rfl rfl rfl rfl rfl rfl rfl rfl ?_
    refine R_run hg.ok 1000 rfl rfl ?_
    refine R_storeB hg.ok rfl rfl rfl rfl rfl rfl rfl rfl rfl ?_
    refine R_run hg.ok 1000 rfl rfl ?_
    refine R_lenO hg.ok rfl rfl rfl rfl rfl (n := ((R ++ [(x, y)]).length : Int)) (by rw [prsRows_len]) ?_
    refine R_run hg.ok 1000 rfl rfl ?_
    rw [w64 (n := ((R ++ [(x, y)]).length : Int) - 1) (by omega) (by omega), show ((R ++ [(x, y)]).length : Int) - 1 = ((R.length : Nat) : Int) by omega]
    refine R_shrinkO hg.ok (prsRows R) rfl rfl rfl rfl rfl rfl rfl rfl rfl rfl (Int.natCast_nonneg _) (by rw [prsRows_len]; simp; omega) (by simp [prsRows]) ?_
    refine R_run hg.ok 1000 rfl rfl ?_
    refine R_buildA hg.ok _ rfl rfl rfl rfl rfl rfl rfl rfl ?_
    refine R_run hg.ok 1000 rfl rfl ?_
    cases hs : Tm.skipU x y met with
    | true =>
      have hs' := hs
      simp only [Tm.skipU, Bool.and_eq_true, decide_eq_true_eq] at hs'
      refine R_if rfl rfl (fun _ => ?_) (fun h => absurd h (by simp [hs'.1.1])) <;> refine R_run hg.ok 1000 rfl rfl ?_
      refine R_if rfl rfl (fun _ => ?_) (fun h => absurd h (by simp [hs'.1.2])) <;> refine R_run hg.ok 1000 rfl rfl ?_
      refine R_lookupP hg.ok (metP met) uniKey rfl rfl rfl rfl rfl rfl (zv := .bool false) (by kernel_rfl) (v := .tt) (by rw [metP_get, if_pos hs'.2]; rfl) ?_
      refine R_run hg.ok 1000 rfl rfl ?_
      refine R_dropO 7 (urObd d a b B (s + 1) R met) (by show φ.length ≤ _; omega) rfl ?_ ?_
      · exact urObd_trim d a b B (s + 1) R met _
      exact R_next (n, R, B, met, s + 1) (hU.skip hs) (by simp only; omega) ⟨.refl _, .refl _, .refl _, trivial⟩ rfl
    | false =>
      have hstep := hU.step hs
      by_cases hb2 : x.k = 1 ∧ y.k = 1
      · refine R_if rfl rfl (fun _ => ?_) (fun h => absurd h (by simp [hb2.1])) <;> refine R_run hg.ok 1000 rfl rfl ?_
        refine R_if rfl rfl (fun _ => ?_) (fun h => absurd h (by simp [hb2.2])) <;> refine R_run hg.ok 1000 rfl rfl ?_
        have hmc : met.contains (x.n, y.n) = false := by
          have := hs; simp only [Tm.skipU, hb2.1, hb2.2, decide_true, Bool.true_and] at this; exact this
        have hmU : metP met ++ [((x.n, y.n), AV.tt)] = metP (Tm.metU x y met) := by simp [Tm.metU, hb2.1, hb2.2, metP]
        refine R_lookupP hg.ok (metP met) uniKey rfl rfl rfl rfl rfl rfl (zv := .bool false) (by kernel_rfl) (v := .ff) (by rw [metP_get, hmc]; rfl) ?_
        refine R_run hg.ok 1000 rfl rfl ?_
        refine R_mapAddPO hg.ok (metP met) (metP (Tm.metU x y met)) uniKey rfl rfl rfl rfl rfl rfl (by rw [metP_get, hmc]; rfl) rfl hmU ?_
        refine R_run hg.ok 1000 rfl rfl ?_
        generalize Tm.metU x y met = met' at hstep ⊢
        obtain ⟨ex, ey, zx, zy, hsame, hrest⟩ := hstep
        have cx := unjWalk_ok Y d B hU.ug.chain x
        have cy := unjWalk_ok Y d B hU.ug.chain y
        have hsb : ∀ c ∈ B, c.2.size < 400000000 := fun c hc => by have := hU.ug.sb c hc; omega
        generalize Tm.walkB B x = x' at *
        generalize Tm.walkB B y = y' at *
        refine R_load4 hg.ok (by show φ.length ≤ 7; omega) rfl rfl rfl rfl rfl rfl rfl ?_
        refine R_run hg.ok 1000 rfl rfl ?_
        refine R_callS3 hg.ok hg.gup hg.wide hg.Y [0, 1, 2] (urObd d a b B (s + 1) R met' ++ [boxR x, boxR y, .box [iV x.n, iV y.n]]) cx (fun _ => rfl) (fun i hi => by show i < φ.length; simp at hi; omega) rfl rfl rfl rfl rfl (by rw [uobd_ren]; rfl) rfl (by rw [uobd_ren]; rfl) ?_
        refine R_run hg.ok 1000 rfl rfl ?_
        refine R_load4 hg.ok (by show φ.length ≤ 8; omega) rfl rfl rfl rfl rfl rfl rfl ?_
        refine R_run hg.ok 1000 rfl rfl ?_
        refine R_callS3 hg.ok hg.gup hg.wide hg.Y [0, 1, 2] (urObd d a b B (s + 1) R met' ++ [boxR x, boxR y, .box [iV x.n, iV y.n]]) cy (fun _ => rfl) (fun i hi => by show i < φ.length; simp at hi; omega) rfl rfl rfl rfl rfl (by rw [uobd_ren]; rfl) rfl (by rw [uobd_ren]; rfl) ?_
        refine R_run hg.ok 1000 rfl rfl ?_
        refine R_storeB hg.ok rfl rfl rfl rfl rfl rfl rfl rfl rfl ?_
        refine R_run hg.ok 1000 rfl rfl ?_
        refine R_storeB hg.ok rfl rfl rfl rfl rfl rfl rfl rfl rfl ?_
        refine R_run hg.ok 1000 rfl rfl ?_
        by_cases hc : x'.k = 1 ∧ y'.k = 1 ∧ x'.n = y'.n
        · refine R_if rfl rfl (fun _ => ?_) (fun h => absurd h (by simp [hc.1])) <;> refine R_run hg.ok 1000 rfl rfl ?_
          refine R_if rfl rfl (fun _ => ?_) (fun h => absurd h (by simp [hc.2.1])) <;> refine R_run hg.ok 1000 rfl rfl ?_
          refine R_if rfl rfl (fun _ => ?_) (fun h => absurd h (by simp [hc.2.2])) <;> refine R_run hg.ok 1000 rfl rfl ?_
          refine R_dropO 7 (urObd d a b B (s + 1) R met') (by show φ.length ≤ _; omega) rfl ?_ ?_
          · exact urObd_trim d a b B (s + 1) R met' _
          exact R_next (n, R, B, met', s + 1) (hsame hc) (by simp only; omega) ⟨.refl _, .refl _, .refl _, trivial⟩ rfl
        obtain ⟨hleft, hnot⟩ := hrest hc
        by_cases hkx : x'.k = 1
        · obtain ⟨hbad, hgood⟩ := hleft hkx
          have cw := unjWithin_ok Y d B hsb (by omega) x'.n y' (by omega)
          have cb := unjBind_ok Y d B x'.n y' (ex hkx) (by omega)
          generalize Tm.withB B x'.n y' = wb at cw hbad hgood
          by_cases hky : y'.k = 1
          · refine R_if rfl rfl (fun _ => ?_) (fun h => absurd h (by simp [hkx])) <;> refine R_run hg.ok 1000 rfl rfl ?_
            refine R_if rfl rfl (fun _ => ?_) (fun h => absurd h (by simp [hky])) <;> refine R_run hg.ok 1000 rfl rfl ?_
            refine R_if rfl rfl (fun h => absurd h (by have : ¬ x'.n = y'.n := fun e => hc ⟨hkx, hky, e⟩; simp [this])) (fun _ => ?_) <;> refine R_run hg.ok 1000 rfl rfl ?_
            refine R_if rfl rfl (fun _ => ?_) (fun h => absurd h (by simp [hkx])) <;> refine R_run hg.ok 1000 rfl rfl ?_
            refine R_load4 hg.ok (by show φ.length ≤ 8; omega) rfl rfl rfl rfl rfl rfl rfl ?_
            refine R_run hg.ok 1000 rfl rfl ?_
            refine R_callSO hg.ok hg.gup hg.wide hg.Y [0, 1, 2] (urObd d a b B (s + 1) R met' ++ [boxR x', boxR y', .box [iV x.n, iV y.n]]) cw (fun _ => rfl) rfl rfl rfl rfl rfl (by rw [uobd_ren]; rfl) rfl (by rw [uobd_ren]; rfl) ?_
            refine R_run hg.ok 1000 rfl rfl ?_
            cases wb with
            | true =>
              refine R_if rfl rfl (fun _ => ?_) (fun h => absurd h (by simp)) <;> refine R_run hg.ok 1000 rfl rfl ?_
              obtain ⟨e1, e2⟩ := hbad rfl
              rw [e1, e2]
              exact R_retS hg 3 5 (Nat.le_refl _) rfl rfl (keep B _)
            | false =>
            have hN := hgood rfl
            refine R_if rfl rfl (fun h => absurd h (by simp)) (fun _ => ?_) <;> refine R_run hg.ok 1000 rfl rfl ?_
            refine R_load4 hg.ok (by show φ.length ≤ 8; omega) rfl rfl rfl rfl rfl rfl rfl ?_
            refine R_run hg.ok 1000 rfl rfl ?_
            refine R_callSO hg.ok hg.gup hg.wide hg.Y [0, 1, 2] (urObd d a b (B ++ [(x'.n, y')]) (s + 1) R met' ++ [boxR x', boxR y', .box [iV x.n, iV y.n]]) cb (fun _ => rfl) rfl rfl rfl rfl rfl (by rw [uobd_ren]; rfl) rfl (by rw [uobd_ren]; rfl) ?_
            refine R_run hg.ok 1000 rfl rfl ?_
            refine R_dropO 7 (urObd d a b (B ++ [(x'.n, y')]) (s + 1) R met') (by show φ.length ≤ _; omega) rfl ?_ ?_
            · exact urObd_trim d a b (B ++ [(x'.n, y')]) (s + 1) R met' _
            exact R_next (n, R, B ++ [(x'.n, y')], met', s + 1) hN (by simp only; omega) ⟨.refl _, .refl _, .refl _, trivial⟩ rfl
          · refine R_if rfl rfl (fun _ => ?_) (fun h => absurd h (by simp [hkx])) <;> refine R_run hg.ok 1000 rfl rfl ?_
            refine R_if rfl rfl (fun h => absurd h (by simp [hky])) (fun _ => ?_) <;> refine R_run hg.ok 1000 rfl rfl ?_
            refine R_if rfl rfl (fun _ => ?_) (fun h => absurd h (by simp [hkx])) <;> refine R_run hg.ok 1000 rfl rfl ?_
            refine R_load4 hg.ok (by show φ.length ≤ 8; omega) rfl rfl rfl rfl rfl rfl rfl ?_
            refine R_run hg.ok 1000 rfl rfl ?_
            refine R_callSO hg.ok hg.gup hg.wide hg.Y [0, 1, 2] (urObd d a b B (s + 1) R met' ++ [boxR x', boxR y', .box [iV x.n, iV y.n]]) cw (fun _ => rfl) rfl rfl rfl rfl rfl (by rw [uobd_ren]; rfl) rfl (by rw [uobd_ren]; rfl) ?_
            refine R_run hg.ok 1000 rfl rfl ?_
            cases wb with
            | true =>
              refine R_if rfl rfl (fun _ => ?_) (fun h => absurd h (by simp)) <;> refine R_run hg.ok 1000 rfl rfl ?_
              obtain ⟨e1, e2⟩ := hbad rfl
              rw [e1, e2]
              exact R_retS hg 3 5 (Nat.le_refl _) rfl rfl (keep B _)
            | false =>
            have hN := hgood rfl
            refine R_if rfl rfl (fun h => absurd h (by simp)) (fun _ => ?_) <;> refine R_run hg.ok 1000 rfl rfl ?_
            refine R_load4 hg.ok (by show φ.length ≤ 8; omega) rfl rfl rfl rfl rfl rfl rfl ?_
            refine R_run hg.ok 1000 rfl rfl ?_
            refine R_callSO hg.ok hg.gup hg.wide hg.Y [0, 1, 2] (urObd d a b (B ++ [(x'.n, y')]) (s + 1) R met' ++ [boxR x', boxR y', .box [iV x.n, iV y.n]]) cb (fun _ => rfl) rfl rfl rfl rfl rfl (by rw [uobd_ren]; rfl) rfl (by rw [uobd_ren]; rfl) ?_
            refine R_run hg.ok 1000 rfl rfl ?_
            refine R_dropO 7 (urObd d a b (B ++ [(x'.n, y')]) (s + 1) R met') (by show φ.length ≤ _; omega) rfl ?_ ?_
            · exact urObd_trim d a b (B ++ [(x'.n, y')]) (s + 1) R met' _
            exact R_next (n, R, B ++ [(x'.n, y')], met', s + 1) hN (by simp only; omega) ⟨.refl _, .refl _, .refl _, trivial⟩ rfl
        · refine R_if rfl rfl (fun h => absurd h (by simp [hkx])) (fun _ => ?_) <;> refine R_run hg.ok 1000 rfl rfl ?_
          refine R_if rfl rfl (fun h => absurd h (by simp [hkx])) (fun _ => ?_) <;> refine R_run hg.ok 1000 rfl rfl ?_
          obtain ⟨hright, hdeep⟩ := hnot hkx
          by_cases hky : y'.k = 1
          · obtain ⟨hbad, hgood⟩ := hright hky
            have cw := unjWithin_ok Y d B hsb (by omega) y'.n x' (by omega)
            have cb := unjBind_ok Y d B y'.n x' (ey hky) (by omega)
            generalize Tm.withB B y'.n x' = wb at cw hbad hgood
            refine R_if rfl rfl (fun _ => ?_) (fun h => absurd h (by simp [hky])) <;> refine R_run hg.ok 1000 rfl rfl ?_
            refine R_load4 hg.ok (by show φ.length ≤ 7; omega) rfl rfl rfl rfl rfl rfl rfl ?_
            refine R_run hg.ok 1000 rfl rfl ?_
            refine R_callSO hg.ok hg.gup hg.wide hg.Y [0, 1, 2] (urObd d a b B (s + 1) R met' ++ [boxR x', boxR y', .box [iV x.n, iV y.n]]) cw (fun _ => rfl) rfl rfl rfl rfl rfl (by rw [uobd_ren]; rfl) rfl (by rw [uobd_ren]; rfl) ?_
            refine R_run hg.ok 1000 rfl rfl ?_
            cases wb with
            | true =>
              refine R_if rfl rfl (fun _ => ?_) (fun h => absurd h (by simp)) <;> refine R_run hg.ok 1000 rfl rfl ?_
              obtain ⟨e1, e2⟩ := hbad rfl
              rw [e1, e2]
              exact R_retS hg 3 5 (Nat.le_refl _) rfl rfl (keep B _)
            | false =>
            have hN := hgood rfl
            refine R_if rfl rfl (fun h => absurd h (by simp)) (fun _ => ?_) <;> refine R_run hg.ok 1000 rfl rfl ?_
            refine R_load4 hg.ok (by show φ.length ≤ 7; omega) rfl rfl rfl rfl rfl rfl rfl ?_
            refine R_run hg.ok 1000 rfl rfl ?_
            refine R_callSO hg.ok hg.gup hg.wide hg.Y [0, 1, 2] (urObd d a b (B ++ [(y'.n, x')]) (s + 1) R met' ++ [boxR x', boxR y', .box [iV x.n, iV y.n]]) cb (fun _ => rfl) rfl rfl rfl rfl rfl (by rw [uobd_ren]; rfl) rfl (by rw [uobd_ren]; rfl) ?_
            refine R_run hg.ok 1000 rfl rfl ?_
            refine R_dropO 7 (urObd d a b (B ++ [(y'.n, x')]) (s + 1) R met') (by show φ.length ≤ _; omega) rfl ?_ ?_
            · exact urObd_trim d a b (B ++ [(y'.n, x')]) (s + 1) R met' _
            exact R_next (n, R, B ++ [(y'.n, x')], met', s + 1) hN (by simp only; omega) ⟨.refl _, .refl _, .refl _, trivial⟩ rfl
          · obtain ⟨hbad, hgood⟩ := hdeep hky
            refine R_if rfl rfl (fun h => absurd h (by simp [hky])) (fun _ => ?_) <;> refine R_run hg.ok 1000 rfl rfl ?_
            refine R_if rfl rfl (fun c1 => ?_) (fun c1 => ?_) <;> refine R_run hg.ok 1000 rfl rfl ?_
            · have c1 : ¬ x'.k = y'.k := by simpa using c1
              obtain ⟨e1, e2⟩ := hbad (by simp [Tm.clashB, c1])
              rw [e1, e2]
              exact R_retS hg 3 5 (Nat.le_refl _) rfl rfl (keep B _)
            have c1 : x'.k = y'.k := by simpa using c1
            refine R_if rfl rfl (fun c2 => ?_) (fun c2 => ?_) <;> refine R_run hg.ok 1000 rfl rfl ?_
            · have c2 : ¬ x'.n = y'.n := by simpa using c2
              obtain ⟨e1, e2⟩ := hbad (by simp [Tm.clashB, c2])
              rw [e1, e2]
              exact R_retS hg 3 5 (Nat.le_refl _) rfl rfl (keep B _)
            have c2 : x'.n = y'.n := by simpa using c2
            refine R_if rfl rfl (fun c3 => ?_) (fun c3 => ?_) <;> refine R_run hg.ok 1000 rfl rfl ?_
            · have c3 : strEq x'.s y'.s = false := by simpa using c3
              obtain ⟨e1, e2⟩ := hbad (by simp [Tm.clashB, c3])
              rw [e1, e2]
              exact R_retS hg 3 5 (Nat.le_refl _) rfl rfl (keep B _)
            have c3 : strEq x'.s y'.s = true := by simpa using c3
            refine R_if rfl rfl (fun c4 => ?_) (fun c4 => ?_) <;> refine R_run hg.ok 1000 rfl rfl ?_
            · have c4 : ¬ x'.l.length = y'.l.length := by simp [Tm.rows_length] at c4; omega
              obtain ⟨e1, e2⟩ := hbad (by simp [Tm.clashB, c4])
              rw [e1, e2]
              exact R_retS hg 3 5 (Nat.le_refl _) rfl rfl (keep B _)
            have g4 : x'.l.length = y'.l.length := by simp [Tm.rows_length] at c4; omega
            have hN := hgood (by simp [Tm.clashB, c1, c2, c3, g4])
            have hN2 := hlenU hN
            have hzl : (x'.l.zip y'.l).length = x'.l.length := by rw [List.length_zip]; omega
            have hRz : (R ++ x'.l.zip y'.l).length = R.length + x'.l.length := by rw [List.length_append, hzl]
            refine R_loop (fun k : Nat => ([(0, .lo 0 0), (7, .ow 5 (s + 1 + k)), (8, .mp 6), (10, .lo 8 0), (66, .d (.sl (Tm.rows x'.l))), (67, iV x'.l.length), (68, iV k)], urObd d a b B (s + 1 + k) (R ++ (x'.l.zip y'.l).take k) met' ++ [boxR x', boxR y', .box [iV x.n, iV y.n]])) (fun k => k ≤ x'.l.length) (fun k => x'.l.length - k) 0 (Nat.zero_le _) ⟨.refl _, .refl _, .refl _, .refl _, .refl _, Ent.int (by rw [Tm.rows_length]), .refl _, trivial⟩ (by simp only [List.take_zero, List.append_nil]; rfl) ?_
            rintro k hk
            refine R_run hg.ok 1000 rfl rfl ?_
            refine R_if rfl rfl (fun h => ?_) (fun h => ?_) <;> refine R_run hg.ok 1000 rfl rfl ?_
            · have hk1 : k < x'.l.length := lt_dec h rfl
              have e1 : x'.l[k]? = some x'.l[k] := List.getElem?_eq_getElem hk1
              have e2 : y'.l[k]? = some (y'.l[k]'(by omega)) := List.getElem?_eq_getElem (by omega)
              have e3 : (x'.l.zip y'.l)[k]? = some (x'.l[k], y'.l[k]'(by omega)) := by rw [List.getElem?_zip_eq_some]; exact ⟨e1, e2⟩
              generalize x'.l[k] = xk at e1 e3
              generalize (y'.l[k]'(by omega)) = yk at e2 e3
              have hz1 : R ++ (x'.l.zip y'.l).take (k + 1) = (R ++ (x'.l.zip y'.l).take k) ++ [(xk, yk)] := by rw [List.take_add_one, e3, List.append_assoc]; rfl
              have hz2 : (R ++ (x'.l.zip y'.l).take k).length = R.length + k := by rw [List.length_append, List.length_take]; omega
              refine R_index hg.ok rfl rfl rfl rfl rfl rfl (Int.natCast_nonneg _) (Tm.rows_get e1) rfl ?_
              refine R_run hg.ok 1000 rfl rfl ?_
              refine R_index hg.ok rfl rfl rfl rfl rfl rfl (Int.natCast_nonneg _) (Tm.rows_get e2) rfl ?_
              refine R_run hg.ok 1000 rfl rfl ?_
              refine R_buildA hg.ok _ rfl rfl rfl rfl rfl rfl rfl rfl ?_
              refine R_run hg.ok 1000 rfl rfl ?_
              refine R_buildF hg.ok (.fs [[.v (.int .i64 xk.k), .v (.string xk.s), .v (.int .i64 xk.n), .sl (Tm.rows xk.l), .v (.int .i64 yk.k), .v (.string yk.s), .v (.int .i64 yk.n), .sl (Tm.rows yk.l)]]) rfl rfl (buildS_one rfl rfl rfl rfl (by decide)) ?_
              refine R_run hg.ok 1000 rfl rfl ?_
              refine R_appendO hg.ok (prsRows (R ++ (x'.l.zip y'.l).take (k + 1))) rfl rfl rfl rfl rfl rfl rfl rfl rfl (by simp) (by simp [one1]) (by rw [hz1]; exact prs_snoc2 _ xk yk) (by rw [prsRows_len, hz2]; simp; omega) (by rw [prsRows_len, hz2]; simp; omega) ?_
              refine R_run hg.ok 1000 rfl rfl ?_
              refine R_dropO 10 (urObd d a b B (s + 1 + (k + 1)) (R ++ (x'.l.zip y'.l).take (k + 1)) met' ++ [boxR x', boxR y', .box [iV x.n, iV y.n]]) (by show φ.length ≤ _; omega) rfl ?_ ?_
              · exact urObd_trim3 d a b B (s + 1 + (k + 1)) (R ++ (x'.l.zip y'.l).take (k + 1)) met' _ _ x.n y.n _
              exact R_next (k + 1) hk1 (by omega) ⟨.refl _, .refl _, .refl _, .refl _, .refl _, .refl _, Ent.wrap (by omega) (by omega) (by omega), trivial⟩ rfl
            · have hk1 : x'.l.length ≤ k := ge_dec h rfl
              rw [List.take_of_length_le (by omega : (x'.l.zip y'.l).length ≤ k)]
              refine R_dropO 7 (urObd d a b B (s + 1 + k) (R ++ x'.l.zip y'.l) met') (by show φ.length ≤ _; omega) rfl ?_ ?_
              · exact urObd_trim d a b B (s + 1 + k) (R ++ x'.l.zip y'.l) met' _
              exact R_next (n, R ++ x'.l.zip y'.l, B, met', s + 1 + k) hN (by simp only; omega) ⟨.refl _, .refl _, .refl _, trivial⟩ rfl
      · have hmU : Tm.metU x y met = met := by
          unfold Tm.metU
          rw [if_neg]
          simp only [Bool.and_eq_true, decide_eq_true_eq]; exact hb2
        rw [hmU] at hstep
        obtain ⟨met', rfl⟩ : ∃ m, met = m := ⟨met, rfl⟩
        by_cases hx1 : x.k = 1
        · refine R_if rfl rfl (fun _ => ?_) (fun h => absurd h (by simp [hx1])) <;> refine R_run hg.ok 1000 rfl rfl ?_
          refine R_if rfl rfl (fun h => absurd h (by have : ¬ y.k = 1 := fun h => hb2 ⟨hx1, h⟩; simp [this])) (fun _ => ?_) <;> refine R_run hg.ok 1000 rfl rfl ?_
          obtain ⟨ex, ey, zx, zy, hsame, hrest⟩ := hstep
          have cx := unjWalk_ok Y d B hU.ug.chain x
          have cy := unjWalk_ok Y d B hU.ug.chain y
          have hsb : ∀ c ∈ B, c.2.size < 400000000 := fun c hc => by have := hU.ug.sb c hc; omega
          generalize Tm.walkB B x = x' at *
          generalize Tm.walkB B y = y' at *
          refine R_load4 hg.ok (by show φ.length ≤ 7; omega) rfl rfl rfl rfl rfl rfl rfl ?_
          refine R_run hg.ok 1000 rfl rfl ?_
          refine R_callS3 hg.ok hg.gup hg.wide hg.Y [0, 1, 2] (urObd d a b B (s + 1) R met ++ [boxR x, boxR y, .box [iV x.n, iV y.n]]) cx (fun _ => rfl) (fun i hi => by show i < φ.length; simp at hi; omega) rfl rfl rfl rfl rfl (by rw [uobd_ren]; rfl) rfl (by rw [uobd_ren]; rfl) ?_
          refine R_run hg.ok 1000 rfl rfl ?_
          refine R_load4 hg.ok (by show φ.length ≤ 8; omega) rfl rfl rfl rfl rfl rfl rfl ?_
          refine R_run hg.ok 1000 rfl rfl ?_
          refine R_callS3 hg.ok hg.gup hg.wide hg.Y [0, 1, 2] (urObd d a b B (s + 1) R met ++ [boxR x, boxR y, .box [iV x.n, iV y.n]]) cy (fun _ => rfl) (fun i hi => by show i < φ.length; simp at hi; omega) rfl rfl rfl rfl rfl (by rw [uobd_ren]; rfl) rfl (by rw [uobd_ren]; rfl) ?_
          refine R_run hg.ok 1000 rfl rfl ?_
          refine R_storeB hg.ok rfl rfl rfl rfl rfl rfl rfl rfl rfl ?_
          refine R_run hg.ok 1000 rfl rfl ?_
          refine R_storeB hg.ok rfl rfl rfl rfl rfl rfl rfl rfl rfl ?_
          refine R_run hg.ok 1000 rfl rfl ?_
          by_cases hc : x'.k = 1 ∧ y'.k = 1 ∧ x'.n = y'.n
          · refine R_if rfl rfl (fun _ => ?_) (fun h => absurd h (by simp [hc.1])) <;> refine R_run hg.ok 1000 rfl rfl ?_
            refine R_if rfl rfl (fun _ => ?_) (fun h => absurd h (by simp [hc.2.1])) <;> refine R_run hg.ok 1000 rfl rfl ?_
            refine R_if rfl rfl (fun _ => ?_) (fun h => absurd h (by simp [hc.2.2])) <;> refine R_run hg.ok 1000 rfl rfl ?_
            refine R_dropO 7 (urObd d a b B (s + 1) R met) (by show φ.length ≤ _; omega) rfl ?_ ?_
            · exact urObd_trim d a b B (s + 1) R met _
            exact R_next (n, R, B, met, s + 1) (hsame hc) (by simp only; omega) ⟨.refl _, .refl _, .refl _, trivial⟩ rfl
          obtain ⟨hleft, hnot⟩ := hrest hc
          by_cases hkx : x'.k = 1
          · obtain ⟨hbad, hgood⟩ := hleft hkx
            have cw := unjWithin_ok Y d B hsb (by omega) x'.n y' (by omega)
            have cb := unjBind_ok Y d B x'.n y' (ex hkx) (by omega)
            generalize Tm.withB B x'.n y' = wb at cw hbad hgood
            by_cases hky : y'.k = 1
            · refine R_if rfl rfl (fun _ => ?_) (fun h => absurd h (by simp [hkx])) <;> refine R_run hg.ok 1000 rfl rfl ?_
              refine R_if rfl rfl (fun _ => ?_) (fun h => absurd h (by simp [hky])) <;> refine R_run hg.ok 1000 rfl rfl ?_
              refine R_if rfl rfl (fun h => absurd h (by have : ¬ x'.n = y'.n := fun e => hc ⟨hkx, hky, e⟩; simp [this])) (fun _ => ?_) <;> refine R_run hg.ok 1000 rfl rfl ?_
              refine R_if rfl rfl (fun _ => ?_) (fun h => absurd h (by simp [hkx])) <;> refine R_run hg.ok 1000 rfl rfl ?_
              refine R_load4 hg.ok (by show φ.length ≤ 8; omega) rfl rfl rfl rfl rfl rfl rfl ?_
              refine R_run hg.ok 1000 rfl rfl ?_
              refine R_callSO hg.ok hg.gup hg.wide hg.Y [0, 1, 2] (urObd d a b B (s + 1) R met ++ [boxR x', boxR y', .box [iV x.n, iV y.n]]) cw (fun _ => rfl) rfl rfl rfl rfl rfl (by rw [uobd_ren]; rfl) rfl (by rw [uobd_ren]; rfl) ?_
              refine R_run hg.ok 1000 rfl rfl ?_
              cases wb with
              | true =>
                refine R_if rfl rfl (fun _ => ?_) (fun h => absurd h (by simp)) <;> refine R_run hg.ok 1000 rfl rfl ?_
                obtain ⟨e1, e2⟩ := hbad rfl
                rw [e1, e2]
                exact R_retS hg 3 5 (Nat.le_refl _) rfl rfl (keep B _)
              | false =>
              have hN := hgood rfl
              refine R_if rfl rfl (fun h => absurd h (by simp)) (fun _ => ?_) <;> refine R_run hg.ok 1000 rfl rfl ?_
              refine R_load4 hg.ok (by show φ.length ≤ 8; omega) rfl rfl rfl rfl rfl rfl rfl ?_
              refine R_run hg.ok 1000 rfl rfl ?_
              refine R_callSO hg.ok hg.gup hg.wide hg.Y [0, 1, 2] (urObd d a b (B ++ [(x'.n, y')]) (s + 1) R met ++ [boxR x', boxR y', .box [iV x.n, iV y.n]]) cb (fun _ => rfl) rfl rfl rfl rfl rfl (by rw [uobd_ren]; rfl) rfl (by rw [uobd_ren]; rfl) ?_
              refine R_run hg.ok 1000 rfl rfl ?_
              refine R_dropO 7 (urObd d a b (B ++ [(x'.n, y')]) (s + 1) R met) (by show φ.length ≤ _; omega) rfl ?_ ?_
              · exact urObd_trim d a b (B ++ [(x'.n, y')]) (s + 1) R met _
              exact R_next (n, R, B ++ [(x'.n, y')], met, s + 1) hN (by simp only; omega) ⟨.refl _, .refl _, .refl _, trivial⟩ rfl
            · refine R_if rfl rfl (fun _ => ?_) (fun h => absurd h (by simp [hkx])) <;> refine R_run hg.ok 1000 rfl rfl ?_
              refine R_if rfl rfl (fun h => absurd h (by simp [hky])) (fun _ => ?_) <;> refine R_run hg.ok 1000 rfl rfl ?_
              refine R_if rfl rfl (fun _ => ?_) (fun h => absurd h (by simp [hkx])) <;> refine R_run hg.ok 1000 rfl rfl ?_
              refine R_load4 hg.ok (by show φ.length ≤ 8; omega) rfl rfl rfl rfl rfl rfl rfl ?_
              refine R_run hg.ok 1000 rfl rfl ?_
              refine R_callSO hg.ok hg.gup hg.wide hg.Y [0, 1, 2] (urObd d a b B (s + 1) R met ++ [boxR x', boxR y', .box [iV x.n, iV y.n]]) cw (fun _ => rfl) rfl rfl rfl rfl rfl (by rw [uobd_ren]; rfl) rfl (by rw [uobd_ren]; rfl) ?_
              refine R_run hg.ok 1000 rfl rfl ?_
              cases wb with
              | true =>
                refine R_if rfl rfl (fun _ => ?_) (fun h => absurd h (by simp)) <;> refine R_run hg.ok 1000 rfl rfl ?_
                obtain ⟨e1, e2⟩ := hbad rfl
                rw [e1, e2]
                exact R_retS hg 3 5 (Nat.le_refl _) rfl rfl (keep B _)
              | false =>
              have hN := hgood rfl
              refine R_if rfl rfl (fun h => absurd h (by simp)) (fun _ => ?_) <;> refine R_run hg.ok 1000 rfl rfl ?_
              refine R_load4 hg.ok (by show φ.length ≤ 8; omega) rfl rfl rfl rfl rfl rfl rfl ?_
              refine R_run hg.ok 1000 rfl rfl ?_
              refine R_callSO hg.ok hg.gup hg.wide hg.Y [0, 1, 2] (urObd d a b (B ++ [(x'.n, y')]) (s + 1) R met ++ [boxR x', boxR y', .box [iV x.n, iV y.n]]) cb (fun _ => rfl) rfl rfl rfl rfl rfl (by rw [uobd_ren]; rfl) rfl (by rw [uobd_ren]; rfl) ?_
              refine R_run hg.ok 1000 rfl rfl ?_
              refine R_dropO 7 (urObd d a b (B ++ [(x'.n, y')]) (s + 1) R met) (by show φ.length ≤ _; omega) rfl ?_ ?_
              · exact urObd_trim d a b (B ++ [(x'.n, y')]) (s + 1) R met _
              exact R_next (n, R, B ++ [(x'.n, y')], met, s + 1) hN (by simp only; omega) ⟨.refl _, .refl _, .refl _, trivial⟩ rfl
          · refine R_if rfl rfl (fun h => absurd h (by simp [hkx])) (fun _ => ?_) <;> refine R_run hg.ok 1000 rfl rfl ?_
            refine R_if rfl rfl (fun h => absurd h (by simp [hkx])) (fun _ => ?_) <;> refine R_run hg.ok 1000 rfl rfl ?_
            obtain ⟨hright, hdeep⟩ := hnot hkx
            by_cases hky : y'.k = 1
            · obtain ⟨hbad, hgood⟩ := hright hky
              have cw := unjWithin_ok Y d B hsb (by omega) y'.n x' (by omega)
              have cb := unjBind_ok Y d B y'.n x' (ey hky) (by omega)
              generalize Tm.withB B y'.n x' = wb at cw hbad hgood
              refine R_if rfl rfl (fun _ => ?_) (fun h => absurd h (by simp [hky])) <;> refine R_run hg.ok 1000 rfl rfl ?_
              refine R_load4 hg.ok (by show φ.length ≤ 7; omega) rfl rfl rfl rfl rfl rfl rfl ?_
              refine R_run hg.ok 1000 rfl rfl ?_
              refine R_callSO hg.ok hg.gup hg.wide hg.Y [0, 1, 2] (urObd d a b B (s + 1) R met ++ [boxR x', boxR y', .box [iV x.n, iV y.n]]) cw (fun _ => rfl) rfl rfl rfl rfl rfl (by rw [uobd_ren]; rfl) rfl (by rw [uobd_ren]; rfl) ?_
              refine R_run hg.ok 1000 rfl rfl ?_
              cases wb with
              | true =>
                refine R_if rfl rfl (fun _ => ?_) (fun h => absurd h (by simp)) <;> refine R_run hg.ok 1000 rfl rfl ?_
                obtain ⟨e1, e2⟩ := hbad rfl
                rw [e1, e2]
                exact R_retS hg 3 5 (Nat.le_refl _) rfl rfl (keep B _)
              | false =>
              have hN := hgood rfl
              refine R_if rfl rfl (fun h => absurd h (by simp)) (fun _ => ?_) <;> refine R_run hg.ok 1000 rfl rfl ?_
              refine R_load4 hg.ok (by show φ.length ≤ 7; omega) rfl rfl rfl rfl rfl rfl rfl ?_
              refine R_run hg.ok 1000 rfl rfl ?_
              refine R_callSO hg.ok hg.gup hg.wide hg.Y [0, 1, 2] (urObd d a b (B ++ [(y'.n, x')]) (s + 1) R met ++ [boxR x', boxR y', .box [iV x.n, iV y.n]]) cb (fun _ => rfl) rfl rfl rfl rfl rfl (by rw [uobd_ren]; rfl) rfl (by rw [uobd_ren]; rfl) ?_
              refine R_run hg.ok 1000 rfl rfl ?_
              refine R_dropO 7 (urObd d a b (B ++ [(y'.n, x')]) (s + 1) R met) (by show φ.length ≤ _; omega) rfl ?_ ?_
              · exact urObd_trim d a b (B ++ [(y'.n, x')]) (s + 1) R met _
              exact R_next (n, R, B ++ [(y'.n, x')], met, s + 1) hN (by simp only; omega) ⟨.refl _, .refl _, .refl _, trivial⟩ rfl
            · obtain ⟨hbad, hgood⟩ := hdeep hky
              refine R_if rfl rfl (fun h => absurd h (by simp [hky])) (fun _ => ?_) <;> refine R_run hg.ok 1000 rfl rfl ?_
              refine R_if rfl rfl (fun c1 => ?_) (fun c1 => ?_) <;> refine R_run hg.ok 1000 rfl rfl ?_
              · have c1 : ¬ x'.k = y'.k := by simpa using c1
                obtain ⟨e1, e2⟩ := hbad (by simp [Tm.clashB, c1])
                rw [e1, e2]
                exact R_retS hg 3 5 (Nat.le_refl _) rfl rfl (keep B _)
              have c1 : x'.k = y'.k := by simpa using c1
              refine R_if rfl rfl (fun c2 => ?_) (fun c2 => ?_) <;> refine R_run hg.ok 1000 rfl rfl ?_
              · have c2 : ¬ x'.n = y'.n := by simpa using c2
                obtain ⟨e1, e2⟩ := hbad (by simp [Tm.clashB, c2])
                rw [e1, e2]
                exact R_retS hg 3 5 (Nat.le_refl _) rfl rfl (keep B _)
              have c2 : x'.n = y'.n := by simpa using c2
              refine R_if rfl rfl (fun c3 => ?_) (fun c3 => ?_) <;> refine R_run hg.ok 1000 rfl rfl ?_
              · have c3 : strEq x'.s y'.s = false := by simpa using c3
                obtain ⟨e1, e2⟩ := hbad (by simp [Tm.clashB, c3])
                rw [e1, e2]
                exact R_retS hg 3 5 (Nat.le_refl _) rfl rfl (keep B _)
              have c3 : strEq x'.s y'.s = true := by simpa using c3
              refine R_if rfl rfl (fun c4 => ?_) (fun c4 => ?_) <;> refine R_run hg.ok 1000 rfl rfl ?_
              · have c4 : ¬ x'.l.length = y'.l.length := by simp [Tm.rows_length] at c4; omega
                obtain ⟨e1, e2⟩ := hbad (by simp [Tm.clashB, c4])
                rw [e1, e2]
                exact R_retS hg 3 5 (Nat.le_refl _) rfl rfl (keep B _)
              have g4 : x'.l.length = y'.l.length := by simp [Tm.rows_length] at c4; omega
              have hN := hgood (by simp [Tm.clashB, c1, c2, c3, g4])
              have hN2 := hlenU hN
              have hzl : (x'.l.zip y'.l).length = x'.l.length := by rw [List.length_zip]; omega
              have hRz : (R ++ x'.l.zip y'.l).length = R.length + x'.l.length := by rw [List.length_append, hzl]
              refine R_loop (fun k : Nat => ([(0, .lo 0 0), (7, .ow 5 (s + 1 + k)), (8, .mp 6), (10, .lo 8 0), (66, .d (.sl (Tm.rows x'.l))), (67, iV x'.l.length), (68, iV k)], urObd d a b B (s + 1 + k) (R ++ (x'.l.zip y'.l).take k) met ++ [boxR x', boxR y', .box [iV x.n, iV y.n]])) (fun k => k ≤ x'.l.length) (fun k => x'.l.length - k) 0 (Nat.zero_le _) ⟨.refl _, .refl _, .refl _, .refl _, .refl _, Ent.int (by rw [Tm.rows_length]), .refl _, trivial⟩ (by simp only [List.take_zero, List.append_nil]; rfl) ?_
              rintro k hk
              refine R_run hg.ok 1000 rfl rfl ?_
              refine R_if rfl rfl (fun h => ?_) (fun h => ?_) <;> refine R_run hg.ok 1000 rfl rfl ?_
              · have hk1 : k < x'.l.length := lt_dec h rfl
                have e1 : x'.l[k]? = some x'.l[k] := List.getElem?_eq_getElem hk1
                have e2 : y'.l[k]? = some (y'.l[k]'(by omega)) := List.getElem?_eq_getElem (by omega)
                have e3 : (x'.l.zip y'.l)[k]? = some (x'.l[k], y'.l[k]'(by omega)) := by rw [List.getElem?_zip_eq_some]; exact ⟨e1, e2⟩
                generalize x'.l[k] = xk at e1 e3
                generalize (y'.l[k]'(by omega)) = yk at e2 e3
                have hz1 : R ++ (x'.l.zip y'.l).take (k + 1) = (R ++ (x'.l.zip y'.l).take k) ++ [(xk, yk)] := by rw [List.take_add_one, e3, List.append_assoc]; rfl
                have hz2 : (R ++ (x'.l.zip y'.l).take k).length = R.length + k := by rw [List.length_append, List.length_take]; omega
                refine R_index hg.ok rfl rfl rfl rfl rfl rfl (Int.natCast_nonneg _) (Tm.rows_get e1) rfl ?_
                refine R_run hg.ok 1000 rfl rfl ?_
                refine R_index hg.ok rfl rfl rfl rfl rfl rfl (Int.natCast_nonneg _) (Tm.rows_get e2) rfl ?_
                refine R_run hg.ok 1000 rfl rfl ?_
                refine R_buildA hg.ok _ rfl rfl rfl rfl rfl rfl rfl rfl ?_
                refine R_run hg.ok 1000 rfl rfl ?_
                refine R_buildF hg.ok (.fs [[.v (.int .i64 xk.k), .v (.string xk.s), .v (.int .i64 xk.n), .sl (Tm.rows xk.l), .v (.int .i64 yk.k), .v (.string yk.s), .v (.int .i64 yk.n), .sl (Tm.rows yk.l)]]) rfl rfl (buildS_one rfl rfl rfl rfl (by decide)) ?_
                refine R_run hg.ok 1000 rfl rfl ?_
                refine R_appendO hg.ok (prsRows (R ++ (x'.l.zip y'.l).take (k + 1))) rfl rfl rfl rfl rfl rfl rfl rfl rfl (by simp) (by simp [one1]) (by rw [hz1]; exact prs_snoc2 _ xk yk) (by rw [prsRows_len, hz2]; simp; omega) (by rw [prsRows_len, hz2]; simp; omega) ?_
                refine R_run hg.ok 1000 rfl rfl ?_
                refine R_dropO 10 (urObd d a b B (s + 1 + (k + 1)) (R ++ (x'.l.zip y'.l).take (k + 1)) met ++ [boxR x', boxR y', .box [iV x.n, iV y.n]]) (by show φ.length ≤ _; omega) rfl ?_ ?_
                · exact urObd_trim3 d a b B (s + 1 + (k + 1)) (R ++ (x'.l.zip y'.l).take (k + 1)) met _ _ x.n y.n _
                exact R_next (k + 1) hk1 (by omega) ⟨.refl _, .refl _, .refl _, .refl _, .refl _, .refl _, Ent.wrap (by omega) (by omega) (by omega), trivial⟩ rfl
              · have hk1 : x'.l.length ≤ k := ge_dec h rfl
                rw [List.take_of_length_le (by omega : (x'.l.zip y'.l).length ≤ k)]
                refine R_dropO 7 (urObd d a b B (s + 1 + k) (R ++ x'.l.zip y'.l) met) (by show φ.length ≤ _; omega) rfl ?_ ?_
                · exact urObd_trim d a b B (s + 1 + k) (R ++ x'.l.zip y'.l) met _
                exact R_next (n, R ++ x'.l.zip y'.l, B, met, s + 1 + k) hN (by simp only; omega) ⟨.refl _, .refl _, .refl _, trivial⟩ rfl
        · refine R_if rfl rfl (fun h => absurd h (by simp [hx1])) (fun _ => ?_) <;> refine R_run hg.ok 1000 rfl rfl ?_
          obtain ⟨ex, ey, zx, zy, hsame, hrest⟩ := hstep
          have cx := unjWalk_ok Y d B hU.ug.chain x
          have cy := unjWalk_ok Y d B hU.ug.chain y
          have hsb : ∀ c ∈ B, c.2.size < 400000000 := fun c hc => by have := hU.ug.sb c hc; omega
          generalize Tm.walkB B x = x' at *
          generalize Tm.walkB B y = y' at *
          refine R_load4 hg.ok (by show φ.length ≤ 7; omega) rfl rfl rfl rfl rfl rfl rfl ?_
          refine R_run hg.ok 1000 rfl rfl ?_
          refine R_callS3 hg.ok hg.gup hg.wide hg.Y [0, 1, 2] (urObd d a b B (s + 1) R met ++ [boxR x, boxR y, .box [iV x.n, iV y.n]]) cx (fun _ => rfl) (fun i hi => by show i < φ.length; simp at hi; omega) rfl rfl rfl rfl rfl (by rw [uobd_ren]; rfl) rfl (by rw [uobd_ren]; rfl) ?_
          refine R_run hg.ok 1000 rfl rfl ?_
          refine R_load4 hg.ok (by show φ.length ≤ 8; omega) rfl rfl rfl rfl rfl rfl rfl ?_
          refine R_run hg.ok 1000 rfl rfl ?_
          refine R_callS3 hg.ok hg.gup hg.wide hg.Y [0, 1, 2] (urObd d a b B (s + 1) R met ++ [boxR x, boxR y, .box [iV x.n, iV y.n]]) cy (fun _ => rfl) (fun i hi => by show i < φ.length; simp at hi; omega) rfl rfl rfl rfl rfl (by rw [uobd_ren]; rfl) rfl (by rw [uobd_ren]; rfl) ?_
          refine R_run hg.ok 1000 rfl rfl ?_
          refine R_storeB hg.ok rfl rfl rfl rfl rfl rfl rfl rfl rfl ?_
          refine R_run hg.ok 1000 rfl rfl ?_
          refine R_storeB hg.ok rfl rfl rfl rfl rfl rfl rfl rfl rfl ?_
          refine R_run hg.ok 1000 rfl rfl ?_
          by_cases hc : x'.k = 1 ∧ y'.k = 1 ∧ x'.n = y'.n
          · refine R_if rfl rfl (fun _ => ?_) (fun h => absurd h (by simp [hc.1])) <;> refine R_run hg.ok 1000 rfl rfl ?_
            refine R_if rfl rfl (fun _ => ?_) (fun h => absurd h (by simp [hc.2.1])) <;> refine R_run hg.ok 1000 rfl rfl ?_
            refine R_if rfl rfl (fun _ => ?_) (fun h => absurd h (by simp [hc.2.2])) <;> refine R_run hg.ok 1000 rfl rfl ?_
            refine R_dropO 7 (urObd d a b B (s + 1) R met) (by show φ.length ≤ _; omega) rfl ?_ ?_
            · exact urObd_trim d a b B (s + 1) R met _
            exact R_next (n, R, B, met, s + 1) (hsame hc) (by simp only; omega) ⟨.refl _, .refl _, .refl _, trivial⟩ rfl
          obtain ⟨hleft, hnot⟩ := hrest hc
          by_cases hkx : x'.k = 1
          · obtain ⟨hbad, hgood⟩ := hleft hkx
            have cw := unjWithin_ok Y d B hsb (by omega) x'.n y' (by omega)
            have cb := unjBind_ok Y d B x'.n y' (ex hkx) (by omega)
            generalize Tm.withB B x'.n y' = wb at cw hbad hgood
            by_cases hky : y'.k = 1
            · refine R_if rfl rfl (fun _ => ?_) (fun h => absurd h (by simp [hkx])) <;> refine R_run hg.ok 1000 rfl rfl ?_
              refine R_if rfl rfl (fun _ => ?_) (fun h => absurd h (by simp [hky])) <;> refine R_run hg.ok 1000 rfl rfl ?_
              refine R_if rfl rfl (fun h => absurd h (by have : ¬ x'.n = y'.n := fun e => hc ⟨hkx, hky, e⟩; simp [this])) (fun _ => ?_) <;> refine R_run hg.ok 1000 rfl rfl ?_
              refine R_if rfl rfl (fun _ => ?_) (fun h => absurd h (by simp [hkx])) <;> refine R_run hg.ok 1000 rfl rfl ?_
              refine R_load4 hg.ok (by show φ.length ≤ 8; omega) rfl rfl rfl rfl rfl rfl rfl ?_
              refine R_run hg.ok 1000 rfl rfl ?_
              refine R_callSO hg.ok hg.gup hg.wide hg.Y [0, 1, 2] (urObd d a b B (s + 1) R met ++ [boxR x', boxR y', .box [iV x.n, iV y.n]]) cw (fun _ => rfl) rfl rfl rfl rfl rfl (by rw [uobd_ren]; rfl) rfl (by rw [uobd_ren]; rfl) ?_
              refine R_run hg.ok 1000 rfl rfl ?_
              cases wb with
              | true =>
                refine R_if rfl rfl (fun _ => ?_) (fun h => absurd h (by simp)) <;> refine R_run hg.ok 1000 rfl rfl ?_
                obtain ⟨e1, e2⟩ := hbad rfl
                rw [e1, e2]
                exact R_retS hg 3 5 (Nat.le_refl _) rfl rfl (keep B _)
              | false =>
              have hN := hgood rfl
              refine R_if rfl rfl (fun h => absurd h (by simp)) (fun _ => ?_) <;> refine R_run hg.ok 1000 rfl rfl ?_
              refine R_load4 hg.ok (by show φ.length ≤ 8; omega) rfl rfl rfl rfl rfl rfl rfl ?_
              refine R_run hg.ok 1000 rfl rfl ?_
              refine R_callSO hg.ok hg.gup hg.wide hg.Y [0, 1, 2] (urObd d a b (B ++ [(x'.n, y')]) (s + 1) R met ++ [boxR x', boxR y', .box [iV x.n, iV y.n]]) cb (fun _ => rfl) rfl rfl rfl rfl rfl (by rw [uobd_ren]; rfl) rfl (by rw [uobd_ren]; rfl) ?_
              refine R_run hg.ok 1000 rfl rfl ?_
              refine R_dropO 7 (urObd d a b (B ++ [(x'.n, y')]) (s + 1) R met) (by show φ.length ≤ _; omega) rfl ?_ ?_
              · exact urObd_trim d a b (B ++ [(x'.n, y')]) (s + 1) R met _
              exact R_next (n, R, B ++ [(x'.n, y')], met, s + 1) hN (by simp only; omega) ⟨.refl _, .refl _, .refl _, trivial⟩ rfl
            · refine R_if rfl rfl (fun _ => ?_) (fun h => absurd h (by simp [hkx])) <;> refine R_run hg.ok 1000 rfl rfl ?_
              refine R_if rfl rfl (fun h => absurd h (by simp [hky])) (fun _ => ?_) <;> refine R_run hg.ok 1000 rfl rfl ?_
              refine R_if rfl rfl (fun _ => ?_) (fun h => absurd h (by simp [hkx])) <;> refine R_run hg.ok 1000 rfl rfl ?_
              refine R_load4 hg.ok (by show φ.length ≤ 8; omega) rfl rfl rfl rfl rfl rfl rfl ?_
              refine R_run hg.ok 1000 rfl rfl ?_
              refine R_callSO hg.ok hg.gup hg.wide hg.Y [0, 1, 2] (urObd d a b B (s + 1) R met ++ [boxR x', boxR y', .box [iV x.n, iV y.n]]) cw (fun _ => rfl) rfl rfl rfl rfl rfl (by rw [uobd_ren]; rfl) rfl (by rw [uobd_ren]; rfl) ?_
              refine R_run hg.ok 1000 rfl rfl ?_
              cases wb with
              | true =>
                refine R_if rfl rfl (fun _ => ?_) (fun h => absurd h (by simp)) <;> refine R_run hg.ok 1000 rfl rfl ?_
                obtain ⟨e1, e2⟩ := hbad rfl
                rw [e1, e2]
                exact R_retS hg 3 5 (Nat.le_refl _) rfl rfl (keep B _)
              | false =>
              have hN := hgood rfl
              refine R_if rfl rfl (fun h => absurd h (by simp)) (fun _ => ?_) <;> refine R_run hg.ok 1000 rfl rfl ?_
              refine R_load4 hg.ok (by show φ.length ≤ 8; omega) rfl rfl rfl rfl rfl rfl rfl ?_
              refine R_run hg.ok 1000 rfl rfl ?_
              refine R_callSO hg.ok hg.gup hg.wide hg.Y [0, 1, 2] (urObd d a b (B ++ [(x'.n, y')]) (s + 1) R met ++ [boxR x', boxR y', .box [iV x.n, iV y.n]]) cb (fun _ => rfl) rfl rfl rfl rfl rfl (by rw [uobd_ren]; rfl) rfl (by rw [uobd_ren]; rfl) ?_
              refine R_run hg.ok 1000 rfl rfl ?_
              refine R_dropO 7 (urObd d a b (B ++ [(x'.n, y')]) (s + 1) R met) (by show φ.length ≤ _; omega) rfl ?_ ?_
              · exact urObd_trim d a b (B ++ [(x'.n, y')]) (s + 1) R met _
              exact R_next (n, R, B ++ [(x'.n, y')], met, s + 1) hN (by simp only; omega) ⟨.refl _, .refl _, .refl _, trivial⟩ rfl
          · refine R_if rfl rfl (fun h => absurd h (by simp [hkx])) (fun _ => ?_) <;> refine R_run hg.ok 1000 rfl rfl ?_
            refine R_if rfl rfl (fun h => absurd h (by simp [hkx])) (fun _ => ?_) <;> refine R_run hg.ok 1000 rfl rfl ?_
            obtain ⟨hright, hdeep⟩ := hnot hkx
            by_cases hky : y'.k = 1
            · obtain ⟨hbad, hgood⟩ := hright hky
              have cw := unjWithin_ok Y d B hsb (by omega) y'.n x' (by omega)
              have cb := unjBind_ok Y d B y'.n x' (ey hky) (by omega)
              generalize Tm.withB B y'.n x' = wb at cw hbad hgood
              refine R_if rfl rfl (fun _ => ?_) (fun h => absurd h (by simp [hky])) <;> refine R_run hg.ok 1000 rfl rfl ?_
              refine R_load4 hg.ok (by show φ.length ≤ 7; omega) rfl rfl rfl rfl rfl rfl rfl ?_
              refine R_run hg.ok 1000 rfl rfl ?_
              refine R_callSO hg.ok hg.gup hg.wide hg.Y [0, 1, 2] (urObd d a b B (s + 1) R met ++ [boxR x', boxR y', .box [iV x.n, iV y.n]]) cw (fun _ => rfl) rfl rfl rfl rfl rfl (by rw [uobd_ren]; rfl) rfl (by rw [uobd_ren]; rfl) ?_
              refine R_run hg.ok 1000 rfl rfl ?_
              cases wb with
              | true =>
                refine R_if rfl rfl (fun _ => ?_) (fun h => absurd h (by simp)) <;> refine R_run hg.ok 1000 rfl rfl ?_
                obtain ⟨e1, e2⟩ := hbad rfl
                rw [e1, e2]
                exact R_retS hg 3 5 (Nat.le_refl _) rfl rfl (keep B _)
              | false =>
              have hN := hgood rfl
              refine R_if rfl rfl (fun h => absurd h (by simp)) (fun _ => ?_) <;> refine R_run hg.ok 1000 rfl rfl ?_
              refine R_load4 hg.ok (by show φ.length ≤ 7; omega) rfl rfl rfl rfl rfl rfl rfl ?_
              refine R_run hg.ok 1000 rfl rfl ?_
              refine R_callSO hg.ok hg.gup hg.wide hg.Y [0, 1, 2] (urObd d a b (B ++ [(y'.n, x')]) (s + 1) R met ++ [boxR x', boxR y', .box [iV x.n, iV y.n]]) cb (fun _ => rfl) rfl rfl rfl rfl rfl (by rw [uobd_ren]; rfl) rfl (by rw [uobd_ren]; rfl) ?_
              refine R_run hg.ok 1000 rfl rfl ?_
              refine R_dropO 7 (urObd d a b (B ++ [(y'.n, x')]) (s + 1) R met) (by show φ.length ≤ _; omega) rfl ?_ ?_
              · exact urObd_trim d a b (B ++ [(y'.n, x')]) (s + 1) R met _
              exact R_next (n, R, B ++ [(y'.n, x')], met, s + 1) hN (by simp only; omega) ⟨.refl _, .refl _, .refl _, trivial⟩ rfl
            · obtain ⟨hbad, hgood⟩ := hdeep hky
              refine R_if rfl rfl (fun h => absurd h (by simp [hky])) (fun _ => ?_) <;> refine R_run hg.ok 1000 rfl rfl ?_
              refine R_if rfl rfl (fun c1 => ?_) (fun c1 => ?_) <;> refine R_run hg.ok 1000 rfl rfl ?_
              · have c1 : ¬ x'.k = y'.k := by simpa using c1
                obtain ⟨e1, e2⟩ := hbad (by simp [Tm.clashB, c1])
                rw [e1, e2]
                exact R_retS hg 3 5 (Nat.le_refl _) rfl rfl (keep B _)
              have c1 : x'.k = y'.k := by simpa using c1
              refine R_if rfl rfl (fun c2 => ?_) (fun c2 => ?_) <;> refine R_run hg.ok 1000 rfl rfl ?_
              · have c2 : ¬ x'.n = y'.n := by simpa using c2
                obtain ⟨e1, e2⟩ := hbad (by simp [Tm.clashB, c2])
                rw [e1, e2]
                exact R_retS hg 3 5 (Nat.le_refl _) rfl rfl (keep B _)
              have c2 : x'.n = y'.n := by simpa using c2
              refine R_if rfl rfl (fun c3 => ?_) (fun c3 => ?_) <;> refine R_run hg.ok 1000 rfl rfl ?_
              · have c3 : strEq x'.s y'.s = false := by simpa using c3
                obtain ⟨e1, e2⟩ := hbad (by simp [Tm.clashB, c3])
                rw [e1, e2]
                exact R_retS hg 3 5 (Nat.le_refl _) rfl rfl (keep B _)
              have c3 : strEq x'.s y'.s = true := by simpa using c3
              refine R_if rfl rfl (fun c4 => ?_) (fun c4 => ?_) <;> refine R_run hg.ok 1000 rfl rfl ?_
              · have c4 : ¬ x'.l.length = y'.l.length := by simp [Tm.rows_length] at c4; omega
                obtain ⟨e1, e2⟩ := hbad (by simp [Tm.clashB, c4])
                rw [e1, e2]
                exact R_retS hg 3 5 (Nat.le_refl _) rfl rfl (keep B _)
              have g4 : x'.l.length = y'.l.length := by simp [Tm.rows_length] at c4; omega
              have hN := hgood (by simp [Tm.clashB, c1, c2, c3, g4])
              have hN2 := hlenU hN
              have hzl : (x'.l.zip y'.l).length = x'.l.length := by rw [List.length_zip]; omega
              have hRz : (R ++ x'.l.zip y'.l).length = R.length + x'.l.length := by rw [List.length_append, hzl]
              refine R_loop (fun k : Nat => ([(0, .lo 0 0), (7, .ow 5 (s + 1 + k)), (8, .mp 6), (10, .lo 8 0), (66, .d (.sl (Tm.rows x'.l))), (67, iV x'.l.length), (68, iV k)], urObd d a b B (s + 1 + k) (R ++ (x'.l.zip y'.l).take k) met ++ [boxR x', boxR y', .box [iV x.n, iV y.n]])) (fun k => k ≤ x'.l.length) (fun k => x'.l.length - k) 0 (Nat.zero_le _) ⟨.refl _, .refl _, .refl _, .refl _, .refl _, Ent.int (by rw [Tm.rows_length]), .refl _, trivial⟩ (by simp only [List.take_zero, List.append_nil]; rfl) ?_
              rintro k hk
              refine R_run hg.ok 1000 rfl rfl ?_
              refine R_if rfl rfl (fun h => ?_) (fun h => ?_) <;> refine R_run hg.ok 1000 rfl rfl ?_
              · have hk1 : k < x'.l.length := lt_dec h rfl
                have e1 : x'.l[k]? = some x'.l[k] := List.getElem?_eq_getElem hk1
                have e2 : y'.l[k]? = some (y'.l[k]'(by omega)) := List.getElem?_eq_getElem (by omega)
                have e3 : (x'.l.zip y'.l)[k]? = some (x'.l[k], y'.l[k]'(by omega)) := by rw [List.getElem?_zip_eq_some]; exact ⟨e1, e2⟩
                generalize x'.l[k] = xk at e1 e3
                generalize (y'.l[k]'(by omega)) = yk at e2 e3
                have hz1 : R ++ (x'.l.zip y'.l).take (k + 1) = (R ++ (x'.l.zip y'.l).take k) ++ [(xk, yk)] := by rw [List.take_add_one, e3, List.append_assoc]; rfl
                have hz2 : (R ++ (x'.l.zip y'.l).take k).length = R.length + k := by rw [List.length_append, List.length_take]; omega
                refine R_index hg.ok rfl rfl rfl rfl rfl rfl (Int.natCast_nonneg _) (Tm.rows_get e1) rfl ?_
                refine R_run hg.ok 1000 rfl rfl ?_
                refine R_index hg.ok rfl rfl rfl rfl rfl rfl (Int.natCast_nonneg _) (Tm.rows_get e2) rfl ?_
                refine R_run hg.ok 1000 rfl rfl ?_
                refine R_buildA hg.ok _ rfl rfl rfl rfl rfl rfl rfl rfl ?_
                refine R_run hg.ok 1000 rfl rfl ?_
                refine R_buildF hg.ok (.fs [[.v (.int .i64 xk.k), .v (.string xk.s), .v (.int .i64 xk.n), .sl (Tm.rows xk.l), .v (.int .i64 yk.k), .v (.string yk.s), .v (.int .i64 yk.n), .sl (Tm.rows yk.l)]]) rfl rfl (buildS_one rfl rfl rfl rfl (by decide)) ?_
                refine R_run hg.ok 1000 rfl rfl ?_
                refine R_appendO hg.ok (prsRows (R ++ (x'.l.zip y'.l).take (k + 1))) rfl rfl rfl rfl rfl rfl rfl rfl rfl (by simp) (by simp [one1]) (by rw [hz1]; exact prs_snoc2 _ xk yk) (by rw [prsRows_len, hz2]; simp; omega) (by rw [prsRows_len, hz2]; simp; omega) ?_
                refine R_run hg.ok 1000 rfl rfl ?_
                refine R_dropO 10 (urObd d a b B (s + 1 + (k + 1)) (R ++ (x'.l.zip y'.l).take (k + 1)) met ++ [boxR x', boxR y', .box [iV x.n, iV y.n]]) (by show φ.length ≤ _; omega) rfl ?_ ?_
                · exact urObd_trim3 d a b B (s + 1 + (k + 1)) (R ++ (x'.l.zip y'.l).take (k + 1)) met _ _ x.n y.n _
                exact R_next (k + 1) hk1 (by omega) ⟨.refl _, .refl _, .refl _, .refl _, .refl _, .refl _, Ent.wrap (by omega) (by omega) (by omega), trivial⟩ rfl
              · have hk1 : x'.l.length ≤ k := ge_dec h rfl
                rw [List.take_of_length_le (by omega : (x'.l.zip y'.l).length ≤ k)]
                refine R_dropO 7 (urObd d a b B (s + 1 + k) (R ++ x'.l.zip y'.l) met) (by show φ.length ≤ _; omega) rfl ?_ ?_
                · exact urObd_trim d a b B (s + 1 + k) (R ++ x'.l.zip y'.l) met _
                exact R_next (n, R ++ x'.l.zip y'.l, B, met, s + 1 + k) hN (by simp only; omega) ⟨.refl _, .refl _, .refl _, trivial⟩ rfl
  · refine R_run hg.ok 1000 rfl rfl ?_
    refine R_lenJ hg.ok 10000 (by simp [mayO, Ob.lvl, Ob.isBox]) rfl rfl rfl rfl rfl rfl (n := ((R ++ [(x, y)]).length : Int)) (by rw [prsRows_len]) ?_
    refine R_run hg.ok 1000 rfl rfl ?_
    rw [w64 (n := ((R ++ [(x, y)]).length : Int) - 1) (by omega) (by omega), show ((R ++ [(x, y)]).length : Int) - 1 = ((R.length : Nat) : Int) by omega]
    refine R_indexOJ hg.ok 10000 rfl rfl rfl (by simp [mayO, Ob.lvl, Ob.isBox]) rfl rfl rfl rfl rfl rfl (Int.natCast_nonneg _) (by rw [prsRows_len]; simp) ?_
    refine R_run hg.ok 1000 rfl rfl ?_
    refine R_indexEA hg.ok 0 rfl rfl rfl rfl rfl rfl (by decide) (by decide) rfl ?_
    refine R_run hg.ok 1000 rfl rfl ?_
    refine R_loadEJ hg.ok 10000 rfl rfl rfl (by simp [mayO, Ob.lvl, Ob.isBox]) rfl rfl rfl hget rfl ?_
    refine R_run hg.ok 1000 rfl rfl ?_
    refine R_lenJ hg.ok 10000 (by simp [mayO, Ob.lvl, Ob.isBox]) rfl rfl rfl rfl rfl rfl (n := ((R ++ [(x, y)]).length : Int)) (by rw [prsRows_len]) ?_
    refine R_run hg.ok 1000 rfl rfl ?_
    rw [w64 (n := ((R ++ [(x, y)]).length : Int) - 1) (by omega) (by omega), show ((R ++ [(x, y)]).length : Int) - 1 = ((R.length : Nat) : Int) by omega]
    refine R_indexOJ hg.ok 10000 rfl rfl rfl (by simp [mayO, Ob.lvl, Ob.isBox]) rfl rfl rfl rfl rfl rfl (Int.natCast_nonneg _) (by rw [prsRows_len]; simp) ?_
    refine R_run hg.ok 1000 rfl rfl ?_
    refine R_indexEA hg.ok 4 rfl rfl rfl rfl rfl rfl (by decide) (by decide) rfl ?_
    refine R_run hg.ok 1000 rfl rfl ?_
    refine R_loadEJ hg.ok 10000 rfl rfl rfl (by simp [mayO, Ob.lvl, Ob.isBox]) rfl rfl rfl hget rfl ?_
    refine R_run hg.ok 1000 rfl rfl ?_
    refine R_storeB hg.ok rfl rfl rfl rfl rfl rfl rfl rfl rfl ?_
    refine R_run hg.ok 1000 rfl rfl ?_
    refine R_storeB hg.ok rfl rfl rfl rfl rfl rfl rfl rfl rfl ?_
    refine R_run hg.ok 1000 rfl rfl ?_
    refine R_lenO hg.ok rfl rfl rfl rfl rfl (n := ((R ++ [(x, y)]).length : Int)) (by rw [prsRows_len]) ?_
    refine R_run hg.ok 1000 rfl rfl ?_
    rw [w64 (n := ((R ++ [(x, y)]).length : Int) - 1) (by omega) (by omega), show ((R ++ [(x, y)]).length : Int) - 1 = ((R.length : Nat) : Int) by omega]
    refine R_shrinkO hg.ok (prsRows R) rfl rfl rfl rfl rfl rfl rfl rfl rfl rfl (Int.natCast_nonneg _) (by rw [prsRows_len]; simp; omega) (by simp [prsRows]) ?_
    refine R_run hg.ok 1000 rfl rfl ?_
    refine R_buildA hg.ok _ rfl rfl rfl rfl rfl rfl rfl rfl ?_
    refine R_run hg.ok 1000 rfl rfl ?_
    cases hs : Tm.skipU x y met with
    | true =>
      have hs' := hs
      simp only [Tm.skipU, Bool.and_eq_true, decide_eq_true_eq] at hs'
      refine R_if rfl rfl (fun _ => ?_) (fun h => absurd h (by simp [hs'.1.1])) <;> refine R_run hg.ok 1000 rfl rfl ?_
      refine R_if rfl rfl (fun _ => ?_) (fun h => absurd h (by simp [hs'.1.2])) <;> refine R_run hg.ok 1000 rfl rfl ?_
      refine R_lookupP hg.ok (metP met) uniKey rfl rfl rfl rfl rfl rfl (zv := .bool false) (by kernel_rfl) (v := .tt) (by rw [metP_get, if_pos hs'.2]; rfl) ?_
      refine R_run hg.ok 1000 rfl rfl ?_
      refine R_dropO 7 (urObd d a b B (s + 1) R met) (by show φ.length ≤ _; omega) rfl ?_ ?_
      · exact urObd_trim d a b B (s + 1) R met _
      exact R_next (n, R, B, met, s + 1) (hU.skip hs) (by simp only; omega) ⟨.refl _, .refl _, .refl _, trivial⟩ rfl
    | false =>
      have hstep := hU.step hs
      by_cases hb2 : x.k = 1 ∧ y.k = 1
      · refine R_if rfl rfl (fun _ => ?_) (fun h => absurd h (by simp [hb2.1])) <;> refine R_run hg.ok 1000 rfl rfl ?_
        refine R_if rfl rfl (fun _ => ?_) (fun h => absurd h (by simp [hb2.2])) <;> refine R_run hg.ok 1000 rfl rfl ?_
        have hmc : met.contains (x.n, y.n) = false := by
          have := hs; simp only [Tm.skipU, hb2.1, hb2.2, decide_true, Bool.true_and] at this; exact this
        have hmU : metP met ++ [((x.n, y.n), AV.tt)] = metP (Tm.metU x y met) := by simp [Tm.metU, hb2.1, hb2.2, metP]
        refine R_lookupP hg.ok (metP met) uniKey rfl rfl rfl rfl rfl rfl (zv := .bool false) (by kernel_rfl) (v := .ff) (by rw [metP_get, hmc]; rfl) ?_
        refine R_run hg.ok 1000 rfl rfl ?_
        refine R_mapAddPO hg.ok (metP met) (metP (Tm.metU x y met)) uniKey rfl rfl rfl rfl rfl rfl (by rw [metP_get, hmc]; rfl) rfl hmU ?_
        refine R_run hg.ok 1000 rfl rfl ?_
        generalize Tm.metU x y met = met' at hstep ⊢
        obtain ⟨ex, ey, zx, zy, hsame, hrest⟩ := hstep
        have cx := unjWalk_ok Y d B hU.ug.chain x
        have cy := unjWalk_ok Y d B hU.ug.chain y
        have hsb : ∀ c ∈ B, c.2.size < 400000000 := fun c hc => by have := hU.ug.sb c hc; omega
        generalize Tm.walkB B x = x' at *
        generalize Tm.walkB B y = y' at *
        refine R_load4 hg.ok (by show φ.length ≤ 8; omega) rfl rfl rfl rfl rfl rfl rfl ?_
        refine R_run hg.ok 1000 rfl rfl ?_
        refine R_callS3 hg.ok hg.gup hg.wide hg.Y [0, 1, 2] (urObd d a b B (s + 1) R met' ++ [boxR y, boxR x, .box [iV x.n, iV y.n]]) cx (fun _ => rfl) (fun i hi => by show i < φ.length; simp at hi; omega) rfl rfl rfl rfl rfl (by rw [uobd_ren]; rfl) rfl (by rw [uobd_ren]; rfl) ?_
        refine R_run hg.ok 1000 rfl rfl ?_
        refine R_load4 hg.ok (by show φ.length ≤ 7; omega) rfl rfl rfl rfl rfl rfl rfl ?_
        refine R_run hg.ok 1000 rfl rfl ?_
        refine R_callS3 hg.ok hg.gup hg.wide hg.Y [0, 1, 2] (urObd d a b B (s + 1) R met' ++ [boxR y, boxR x, .box [iV x.n, iV y.n]]) cy (fun _ => rfl) (fun i hi => by show i < φ.length; simp at hi; omega) rfl rfl rfl rfl rfl (by rw [uobd_ren]; rfl) rfl (by rw [uobd_ren]; rfl) ?_
        refine R_run hg.ok 1000 rfl rfl ?_
        refine R_storeB hg.ok rfl rfl rfl rfl rfl rfl rfl rfl rfl ?_
        refine R_run hg.ok 1000 rfl rfl ?_
        refine R_storeB hg.ok rfl rfl rfl rfl rfl rfl rfl rfl rfl ?_
        refine R_run hg.ok 1000 rfl rfl ?_
        by_cases hc : x'.k = 1 ∧ y'.k = 1 ∧ x'.n = y'.n
        · refine R_if rfl rfl (fun _ => ?_) (fun h => absurd h (by simp [hc.1])) <;> refine R_run hg.ok 1000 rfl rfl ?_
          refine R_if rfl rfl (fun _ => ?_) (fun h => absurd h (by simp [hc.2.1])) <;> refine R_run hg.ok 1000 rfl rfl ?_
          refine R_if rfl rfl (fun _ => ?_) (fun h => absurd h (by simp [hc.2.2])) <;> refine R_run hg.ok 1000 rfl rfl ?_
          refine R_dropO 7 (urObd d a b B (s + 1) R met') (by show φ.length ≤ _; omega) rfl ?_ ?_
          · exact urObd_trim d a b B (s + 1) R met' _
          exact R_next (n, R, B, met', s + 1) (hsame hc) (by simp only; omega) ⟨.refl _, .refl _, .refl _, trivial⟩ rfl
        obtain ⟨hleft, hnot⟩ := hrest hc
        by_cases hkx : x'.k = 1
        · obtain ⟨hbad, hgood⟩ := hleft hkx
          have cw := unjWithin_ok Y d B hsb (by omega) x'.n y' (by omega)
          have cb := unjBind_ok Y d B x'.n y' (ex hkx) (by omega)
          generalize Tm.withB B x'.n y' = wb at cw hbad hgood
          by_cases hky : y'.k = 1
          · refine R_if rfl rfl (fun _ => ?_) (fun h => absurd h (by simp [hkx])) <;> refine R_run hg.ok 1000 rfl rfl ?_
            refine R_if rfl rfl (fun _ => ?_) (fun h => absurd h (by simp [hky])) <;> refine R_run hg.ok 1000 rfl rfl ?_
            refine R_if rfl rfl (fun h => absurd h (by have : ¬ x'.n = y'.n := fun e => hc ⟨hkx, hky, e⟩; simp [this])) (fun _ => ?_) <;> refine R_run hg.ok 1000 rfl rfl ?_
            refine R_if rfl rfl (fun _ => ?_) (fun h => absurd h (by simp [hkx])) <;> refine R_run hg.ok 1000 rfl rfl ?_
            refine R_load4 hg.ok (by show φ.length ≤ 7; omega) rfl rfl rfl rfl rfl rfl rfl ?_
            refine R_run hg.ok 1000 rfl rfl ?_
            refine R_callSO hg.ok hg.gup hg.wide hg.Y [0, 1, 2] (urObd d a b B (s + 1) R met' ++ [boxR y', boxR x', .box [iV x.n, iV y.n]]) cw (fun _ => rfl) rfl rfl rfl rfl rfl (by rw [uobd_ren]; rfl) rfl (by rw [uobd_ren]; rfl) ?_
            refine R_run hg.ok 1000 rfl rfl ?_
            cases wb with
            | true =>
              refine R_if rfl rfl (fun _ => ?_) (fun h => absurd h (by simp)) <;> refine R_run hg.ok 1000 rfl rfl ?_
              obtain ⟨e1, e2⟩ := hbad rfl
              rw [e1, e2]
              exact R_retS hg 3 5 (Nat.le_refl _) rfl rfl (keep B _)
            | false =>
            have hN := hgood rfl
            refine R_if rfl rfl (fun h => absurd h (by simp)) (fun _ => ?_) <;> refine R_run hg.ok 1000 rfl rfl ?_
            refine R_load4 hg.ok (by show φ.length ≤ 7; omega) rfl rfl rfl rfl rfl rfl rfl ?_
            refine R_run hg.ok 1000 rfl rfl ?_
            refine R_callSO hg.ok hg.gup hg.wide hg.Y [0, 1, 2] (urObd d a b (B ++ [(x'.n, y')]) (s + 1) R met' ++ [boxR y', boxR x', .box [iV x.n, iV y.n]]) cb (fun _ => rfl) rfl rfl rfl rfl rfl (by rw [uobd_ren]; rfl) rfl (by rw [uobd_ren]; rfl) ?_
            refine R_run hg.ok 1000 rfl rfl ?_
            refine R_dropO 7 (urObd d a b (B ++ [(x'.n, y')]) (s + 1) R met') (by show φ.length ≤ _; omega) rfl ?_ ?_
            · exact urObd_trim d a b (B ++ [(x'.n, y')]) (s + 1) R met' _
            exact R_next (n, R, B ++ [(x'.n, y')], met', s + 1) hN (by simp only; omega) ⟨.refl _, .refl _, .refl _, trivial⟩ rfl
          · refine R_if rfl rfl (fun _ => ?_) (fun h => absurd h (by simp [hkx])) <;> refine R_run hg.ok 1000 rfl rfl ?_
            refine R_if rfl rfl (fun h => absurd h (by simp [hky])) (fun _ => ?_) <;> refine R_run hg.ok 1000 rfl rfl ?_
            refine R_if rfl rfl (fun _ => ?_) (fun h => absurd h (by simp [hkx])) <;> refine R_run hg.ok 1000 rfl rfl ?_
            refine R_load4 hg.ok (by show φ.length ≤ 7; omega) rfl rfl rfl rfl rfl rfl rfl ?_
            refine R_run hg.ok 1000 rfl rfl ?_
            refine R_callSO hg.ok hg.gup hg.wide hg.Y [0, 1, 2] (urObd d a b B (s + 1) R met' ++ [boxR y', boxR x', .box [iV x.n, iV y.n]]) cw (fun _ => rfl) rfl rfl rfl rfl rfl (by rw [uobd_ren]; rfl) rfl (by rw [uobd_ren]; rfl) ?_
            refine R_run hg.ok 1000 rfl rfl ?_
            cases wb with
            | true =>
              refine R_if rfl rfl (fun _ => ?_) (fun h => absurd h (by simp)) <;> refine R_run hg.ok 1000 rfl rfl ?_
              obtain ⟨e1, e2⟩ := hbad rfl
              rw [e1, e2]
              exact R_retS hg 3 5 (Nat.le_refl _) rfl rfl (keep B _)
            | false =>
            have hN := hgood rfl
            refine R_if rfl rfl (fun h => absurd h (by simp)) (fun _ => ?_) <;> refine R_run hg.ok 1000 rfl rfl ?_
            refine R_load4 hg.ok (by show φ.length ≤ 7; omega) rfl rfl rfl rfl rfl rfl rfl ?_
            refine R_run hg.ok 1000 rfl rfl ?_
            refine R_callSO hg.ok hg.gup hg.wide hg.Y [0, 1, 2] (urObd d a b (B ++ [(x'.n, y')]) (s + 1) R met' ++ [boxR y', boxR x', .box [iV x.n, iV y.n]]) cb (fun _ => rfl) rfl rfl rfl rfl rfl (by rw [uobd_ren]; rfl) rfl (by rw [uobd_ren]; rfl) ?_
            refine R_run hg.ok 1000 rfl rfl ?_
            refine R_dropO 7 (urObd d a b (B ++ [(x'.n, y')]) (s + 1) R met') (by show φ.length ≤ _; omega) rfl ?_ ?_
            · exact urObd_trim d a b (B ++ [(x'.n, y')]) (s + 1) R met' _
            exact R_next (n, R, B ++ [(x'.n, y')], met', s + 1) hN (by simp only; omega) ⟨.refl _, .refl _, .refl _, trivial⟩ rfl
        · refine R_if rfl rfl (fun h => absurd h (by simp [hkx])) (fun _ => ?_) <;> refine R_run hg.ok 1000 rfl rfl ?_
          refine R_if rfl rfl (fun h => absurd h (by simp [hkx])) (fun _ => ?_) <;> refine R_run hg.ok 1000 rfl rfl ?_
          obtain ⟨hright, hdeep⟩ := hnot hkx
          by_cases hky : y'.k = 1
          · obtain ⟨hbad, hgood⟩ := hright hky
            have cw := unjWithin_ok Y d B hsb (by omega) y'.n x' (by omega)
            have cb := unjBind_ok Y d B y'.n x' (ey hky) (by omega)
            generalize Tm.withB B y'.n x' = wb at cw hbad hgood
            refine R_if rfl rfl (fun _ => ?_) (fun h => absurd h (by simp [hky])) <;> refine R_run hg.ok 1000 rfl rfl ?_
            refine R_load4 hg.ok (by show φ.length ≤ 8; omega) rfl rfl rfl rfl rfl rfl rfl ?_
            refine R_run hg.ok 1000 rfl rfl ?_
            refine R_callSO hg.ok hg.gup hg.wide hg.Y [0, 1, 2] (urObd d a b B (s + 1) R met' ++ [boxR y', boxR x', .box [iV x.n, iV y.n]]) cw (fun _ => rfl) rfl rfl rfl rfl rfl (by rw [uobd_ren]; rfl) rfl (by rw [uobd_ren]; rfl) ?_
            refine R_run hg.ok 1000 rfl rfl ?_
            cases wb with
            | true =>
              refine R_if rfl rfl (fun _ => ?_) (fun h => absurd h (by simp)) <;> refine R_run hg.ok 1000 rfl rfl ?_
              obtain ⟨e1, e2⟩ := hbad rfl
              rw [e1, e2]
              exact R_retS hg 3 5 (Nat.le_refl _) rfl rfl (keep B _)
            | false =>
            have hN := hgood rfl
            refine R_if rfl rfl (fun h => absurd h (by simp)) (fun _ => ?_) <;> refine R_run hg.ok 1000 rfl rfl ?_
            refine R_load4 hg.ok (by show φ.length ≤ 8; omega) rfl rfl rfl rfl rfl rfl rfl ?_
            refine R_run hg.ok 1000 rfl rfl ?_
            refine R_callSO hg.ok hg.gup hg.wide hg.Y [0, 1, 2] (urObd d a b (B ++ [(y'.n, x')]) (s + 1) R met' ++ [boxR y', boxR x', .box [iV x.n, iV y.n]]) cb (fun _ => rfl) rfl rfl rfl rfl rfl (by rw [uobd_ren]; rfl) rfl (by rw [uobd_ren]; rfl) ?_
            refine R_run hg.ok 1000 rfl rfl ?_
            refine R_dropO 7 (urObd d a b (B ++ [(y'.n, x')]) (s + 1) R met') (by show φ.length ≤ _; omega) rfl ?_ ?_
            · exact urObd_trim d a b (B ++ [(y'.n, x')]) (s + 1) R met' _
            exact R_next (n, R, B ++ [(y'.n, x')], met', s + 1) hN (by simp only; omega) ⟨.refl _, .refl _, .refl _, trivial⟩ rfl
          · obtain ⟨hbad, hgood⟩ := hdeep hky
            refine R_if rfl rfl (fun h => absurd h (by simp [hky])) (fun _ => ?_) <;> refine R_run hg.ok 1000 rfl rfl ?_
            refine R_if rfl rfl (fun c1 => ?_) (fun c1 => ?_) <;> refine R_run hg.ok 1000 rfl rfl ?_
            · have c1 : ¬ x'.k = y'.k := by simpa using c1
              obtain ⟨e1, e2⟩ := hbad (by simp [Tm.clashB, c1])
              rw [e1, e2]
              exact R_retS hg 3 5 (Nat.le_refl _) rfl rfl (keep B _)
            have c1 : x'.k = y'.k := by simpa using c1
            refine R_if rfl rfl (fun c2 => ?_) (fun c2 => ?_) <;> refine R_run hg.ok 1000 rfl rfl ?_
            · have c2 : ¬ x'.n = y'.n := by simpa using c2
              obtain ⟨e1, e2⟩ := hbad (by simp [Tm.clashB, c2])
              rw [e1, e2]
              exact R_retS hg 3 5 (Nat.le_refl _) rfl rfl (keep B _)
            have c2 : x'.n = y'.n := by simpa using c2
            refine R_if rfl rfl (fun c3 => ?_) (fun c3 => ?_) <;> refine R_run hg.ok 1000 rfl rfl ?_
            · have c3 : strEq x'.s y'.s = false := by simpa using c3
              obtain ⟨e1, e2⟩ := hbad (by simp [Tm.clashB, c3])
              rw [e1, e2]
              exact R_retS hg 3 5 (Nat.le_refl _) rfl rfl (keep B _)
            have c3 : strEq x'.s y'.s = true := by simpa using c3
            refine R_if rfl rfl (fun c4 => ?_) (fun c4 => ?_) <;> refine R_run hg.ok 1000 rfl rfl ?_
            · have c4 : ¬ x'.l.length = y'.l.length := by simp [Tm.rows_length] at c4; omega
              obtain ⟨e1, e2⟩ := hbad (by simp [Tm.clashB, c4])
              rw [e1, e2]
              exact R_retS hg 3 5 (Nat.le_refl _) rfl rfl (keep B _)
            have g4 : x'.l.length = y'.l.length := by simp [Tm.rows_length] at c4; omega
            have hN := hgood (by simp [Tm.clashB, c1, c2, c3, g4])
            have hN2 := hlenU hN
            have hzl : (x'.l.zip y'.l).length = x'.l.length := by rw [List.length_zip]; omega
            have hRz : (R ++ x'.l.zip y'.l).length = R.length + x'.l.length := by rw [List.length_append, hzl]
            refine R_loop (fun k : Nat => ([(0, .lo 0 0), (7, .ow 5 (s + 1 + k)), (8, .mp 6), (10, .lo 7 0), (66, .d (.sl (Tm.rows x'.l))), (67, iV x'.l.length), (68, iV k)], urObd d a b B (s + 1 + k) (R ++ (x'.l.zip y'.l).take k) met' ++ [boxR y', boxR x', .box [iV x.n, iV y.n]])) (fun k => k ≤ x'.l.length) (fun k => x'.l.length - k) 0 (Nat.zero_le _) ⟨.refl _, .refl _, .refl _, .refl _, .refl _, Ent.int (by rw [Tm.rows_length]), .refl _, trivial⟩ (by simp only [List.take_zero, List.append_nil]; rfl) ?_
            rintro k hk
            refine R_run hg.ok 1000 rfl rfl ?_
            refine R_if rfl rfl (fun h => ?_) (fun h => ?_) <;> refine R_run hg.ok 1000 rfl rfl ?_
            · have hk1 : k < x'.l.length := lt_dec h rfl
              have e1 : x'.l[k]? = some x'.l[k] := List.getElem?_eq_getElem hk1
              have e2 : y'.l[k]? = some (y'.l[k]'(by omega)) := List.getElem?_eq_getElem (by omega)
              have e3 : (x'.l.zip y'.l)[k]? = some (x'.l[k], y'.l[k]'(by omega)) := by rw [List.getElem?_zip_eq_some]; exact ⟨e1, e2⟩
              generalize x'.l[k] = xk at e1 e3
              generalize (y'.l[k]'(by omega)) = yk at e2 e3
              have hz1 : R ++ (x'.l.zip y'.l).take (k + 1) = (R ++ (x'.l.zip y'.l).take k) ++ [(xk, yk)] := by rw [List.take_add_one, e3, List.append_assoc]; rfl
              have hz2 : (R ++ (x'.l.zip y'.l).take k).length = R.length + k := by rw [List.length_append, List.length_take]; omega
              refine R_index hg.ok rfl rfl rfl rfl rfl rfl (Int.natCast_nonneg _) (Tm.rows_get e1) rfl ?_
              refine R_run hg.ok 1000 rfl rfl ?_
              refine R_index hg.ok rfl rfl rfl rfl rfl rfl (Int.natCast_nonneg _) (Tm.rows_get e2) rfl ?_
              refine R_run hg.ok 1000 rfl rfl ?_
              refine R_buildA hg.ok _ rfl rfl rfl rfl rfl rfl rfl rfl ?_
              refine R_run hg.ok 1000 rfl rfl ?_
              refine R_buildF hg.ok (.fs [[.v (.int .i64 xk.k), .v (.string xk.s), .v (.int .i64 xk.n), .sl (Tm.rows xk.l), .v (.int .i64 yk.k), .v (.string yk.s), .v (.int .i64 yk.n), .sl (Tm.rows yk.l)]]) rfl rfl (buildS_one rfl rfl rfl rfl (by decide)) ?_
              refine R_run hg.ok 1000 rfl rfl ?_
              refine R_appendO hg.ok (prsRows (R ++ (x'.l.zip y'.l).take (k + 1))) rfl rfl rfl rfl rfl rfl rfl rfl rfl (by simp) (by simp [one1]) (by rw [hz1]; exact prs_snoc2 _ xk yk) (by rw [prsRows_len, hz2]; simp; omega) (by rw [prsRows_len, hz2]; simp; omega) ?_
              refine R_run hg.ok 1000 rfl rfl ?_
              refine R_dropO 10 (urObd d a b B (s + 1 + (k + 1)) (R ++ (x'.l.zip y'.l).take (k + 1)) met' ++ [boxR y', boxR x', .box [iV x.n, iV y.n]]) (by show φ.length ≤ _; omega) rfl ?_ ?_
              · exact urObd_trim3 d a b B (s + 1 + (k + 1)) (R ++ (x'.l.zip y'.l).take (k + 1)) met' _ _ x.n y.n _
              exact R_next (k + 1) hk1 (by omega) ⟨.refl _, .refl _, .refl _, .refl _, .refl _, .refl _, Ent.wrap (by omega) (by omega) (by omega), trivial⟩ rfl
            · have hk1 : x'.l.length ≤ k := ge_dec h rfl
              rw [List.take_of_length_le (by omega : (x'.l.zip y'.l).length ≤ k)]
              refine R_dropO 7 (urObd d a b B (s + 1 + k) (R ++ x'.l.zip y'.l) met') (by show φ.length ≤ _; omega) rfl ?_ ?_
              · exact urObd_trim d a b B (s + 1 + k) (R ++ x'.l.zip y'.l) met' _
              exact R_next (n, R ++ x'.l.zip y'.l, B, met', s + 1 + k) hN (by simp only; omega) ⟨.refl _, .refl _, .refl _, trivial⟩ rfl
      · have hmU : Tm.metU x y met = met := by
          unfold Tm.metU
          rw [if_neg]
          simp only [Bool.and_eq_true, decide_eq_true_eq]; exact hb2
        rw [hmU] at hstep
        obtain ⟨met', rfl⟩ : ∃ m, met = m := ⟨met, rfl⟩
        by_cases hx1 : x.k = 1
        · refine R_if rfl rfl (fun _ => ?_) (fun h => absurd h (by simp [hx1])) <;> refine R_run hg.ok 1000 rfl rfl ?_
          refine R_if rfl rfl (fun h => absurd h (by have : ¬ y.k = 1 := fun h => hb2 ⟨hx1, h⟩; simp [this])) (fun _ => ?_) <;> refine R_run hg.ok 1000 rfl rfl ?_
          obtain ⟨ex, ey, zx, zy, hsame, hrest⟩ := hstep
          have cx := unjWalk_ok Y d B hU.ug.chain x
          have cy := unjWalk_ok Y d B hU.ug.chain y
          have hsb : ∀ c ∈ B, c.2.size < 400000000 := fun c hc => by have := hU.ug.sb c hc; omega
          generalize Tm.walkB B x = x' at *
          generalize Tm.walkB B y = y' at *
          refine R_load4 hg.ok (by show φ.length ≤ 8; omega) rfl rfl rfl rfl rfl rfl rfl ?_
          refine R_run hg.ok 1000 rfl rfl ?_
          refine R_callS3 hg.ok hg.gup hg.wide hg.Y [0, 1, 2] (urObd d a b B (s + 1) R met ++ [boxR y, boxR x, .box [iV x.n, iV y.n]]) cx (fun _ => rfl) (fun i hi => by show i < φ.length; simp at hi; omega) rfl rfl rfl rfl rfl (by rw [uobd_ren]; rfl) rfl (by rw [uobd_ren]; rfl) ?_
          refine R_run hg.ok 1000 rfl rfl ?_
          refine R_load4 hg.ok (by show φ.length ≤ 7; omega) rfl rfl rfl rfl rfl rfl rfl ?_
          refine R_run hg.ok 1000 rfl rfl ?_
          refine R_callS3 hg.ok hg.gup hg.wide hg.Y [0, 1, 2] (urObd d a b B (s + 1) R met ++ [boxR y, boxR x, .box [iV x.n, iV y.n]]) cy (fun _ => rfl) (fun i hi => by show i < φ.length; simp at hi; omega) rfl rfl rfl rfl rfl (by rw [uobd_ren]; rfl) rfl (by rw [uobd_ren]; rfl) ?_
          refine R_run hg.ok 1000 rfl rfl ?_
          refine R_storeB hg.ok rfl rfl rfl rfl rfl rfl rfl rfl rfl ?_
          refine R_run hg.ok 1000 rfl rfl ?_
          refine R_storeB hg.ok rfl rfl rfl rfl rfl rfl rfl rfl rfl ?_
          refine R_run hg.ok 1000 rfl rfl ?_
          by_cases hc : x'.k = 1 ∧ y'.k = 1 ∧ x'.n = y'.n
          · refine R_if rfl rfl (fun _ => ?_) (fun h => absurd h (by simp [hc.1])) <;> refine R_run hg.ok 1000 rfl rfl ?_
            refine R_if rfl rfl (fun _ => ?_) (fun h => absurd h (by simp [hc.2.1])) <;> refine R_run hg.ok 1000 rfl rfl ?_
            refine R_if rfl rfl (fun _ => ?_) (fun h => absurd h (by simp [hc.2.2])) <;> refine R_run hg.ok 1000 rfl rfl ?_
            refine R_dropO 7 (urObd d a b B (s + 1) R met) (by show φ.length ≤ _; omega) rfl ?_ ?_
            · exact urObd_trim d a b B (s + 1) R met _
            exact R_next (n, R, B, met, s + 1) (hsame hc) (by simp only; omega) ⟨.refl _, .refl _, .refl _, trivial⟩ rfl
          obtain ⟨hleft, hnot⟩ := hrest hc
          by_cases hkx : x'.k = 1
          · obtain ⟨hbad, hgood⟩ := hleft hkx
            have cw := unjWithin_ok Y d B hsb (by omega) x'.n y' (by omega)
            have cb := unjBind_ok Y d B x'.n y' (ex hkx) (by omega)
            generalize Tm.withB B x'.n y' = wb at cw hbad hgood
            by_cases hky : y'.k = 1
            · refine R_if rfl rfl (fun _ => ?_) (fun h => absurd h (by simp [hkx])) <;> refine R_run hg.ok 1000 rfl rfl ?_
              refine R_if rfl rfl (fun _ => ?_) (fun h => absurd h (by simp [hky])) <;> refine R_run hg.ok 1000 rfl rfl ?_
              refine R_if rfl rfl (fun h => absurd h (by have : ¬ x'.n = y'.n := fun e => hc ⟨hkx, hky, e⟩; simp [this])) (fun _ => ?_) <;> refine R_run hg.ok 1000 rfl rfl ?_
              refine R_if rfl rfl (fun _ => ?_) (fun h => absurd h (by simp [hkx])) <;> refine R_run hg.ok 1000 rfl rfl ?_
              refine R_load4 hg.ok (by show φ.length ≤ 7; omega) rfl rfl rfl rfl rfl rfl rfl ?_
              refine R_run hg.ok 1000 rfl rfl ?_
              refine R_callSO hg.ok hg.gup hg.wide hg.Y [0, 1, 2] (urObd d a b B (s + 1) R met ++ [boxR y', boxR x', .box [iV x.n, iV y.n]]) cw (fun _ => rfl) rfl rfl rfl rfl rfl (by rw [uobd_ren]; rfl) rfl (by rw [uobd_ren]; rfl) ?_
              refine R_run hg.ok 1000 rfl rfl ?_
              cases wb with
              | true =>
                refine R_if rfl rfl (fun _ => ?_) (fun h => absurd h (by simp)) <;> refine R_run hg.ok 1000 rfl rfl ?_
                obtain ⟨e1, e2⟩ := hbad rfl
                rw [e1, e2]
                exact R_retS hg 3 5 (Nat.le_refl _) rfl rfl (keep B _)
              | false =>
              have hN := hgood rfl
              refine R_if rfl rfl (fun h => absurd h (by simp)) (fun _ => ?_) <;> refine R_run hg.ok 1000 rfl rfl ?_
              refine R_load4 hg.ok (by show φ.length ≤ 7; omega) rfl rfl rfl rfl rfl rfl rfl ?_
              refine R_run hg.ok 1000 rfl rfl ?_
              refine R_callSO hg.ok hg.gup hg.wide hg.Y [0, 1, 2] (urObd d a b (B ++ [(x'.n, y')]) (s + 1) R met ++ [boxR y', boxR x', .box [iV x.n, iV y.n]]) cb (fun _ => rfl) rfl rfl rfl rfl rfl (by rw [uobd_ren]; rfl) rfl (by rw [uobd_ren]; rfl) ?_
              refine R_run hg.ok 1000 rfl rfl ?_
              refine R_dropO 7 (urObd d a b (B ++ [(x'.n, y')]) (s + 1) R met) (by show φ.length ≤ _; omega) rfl ?_ ?_
              · exact urObd_trim d a b (B ++ [(x'.n, y')]) (s + 1) R met _
              exact R_next (n, R, B ++ [(x'.n, y')], met, s + 1) hN (by simp only; omega) ⟨.refl _, .refl _, .refl _, trivial⟩ rfl
            · refine R_if rfl rfl (fun _ => ?_) (fun h => absurd h (by simp [hkx])) <;> refine R_run hg.ok 1000 rfl rfl ?_
              refine R_if rfl rfl (fun h => absurd h (by simp [hky])) (fun _ => ?_) <;> refine R_run hg.ok 1000 rfl rfl ?_
              refine R_if rfl rfl (fun _ => ?_) (fun h => absurd h (by simp [hkx])) <;> refine R_run hg.ok 1000 rfl rfl ?_
              refine R_load4 hg.ok (by show φ.length ≤ 7; omega) rfl rfl rfl rfl rfl rfl rfl ?_
              refine R_run hg.ok 1000 rfl rfl ?_
              refine R_callSO hg.ok hg.gup hg.wide hg.Y [0, 1, 2] (urObd d a b B (s + 1) R met ++ [boxR y', boxR x', .box [iV x.n, iV y.n]]) cw (fun _ => rfl) rfl rfl rfl rfl rfl (by rw [uobd_ren]; rfl) rfl (by rw [uobd_ren]; rfl) ?_
              refine R_run hg.ok 1000 rfl rfl ?_
              cases wb with
              | true =>
                refine R_if rfl rfl (fun _ => ?_) (fun h => absurd h (by simp)) <;> refine R_run hg.ok 1000 rfl rfl ?_
                obtain ⟨e1, e2⟩ := hbad rfl
                rw [e1, e2]
                exact R_retS hg 3 5 (Nat.le_refl _) rfl rfl (keep B _)
              | false =>
              have hN := hgood rfl
              refine R_if rfl rfl (fun h => absurd h (by simp)) (fun _ => ?_) <;> refine R_run hg.ok 1000 rfl rfl ?_
              refine R_load4 hg.ok (by show φ.length ≤ 7; omega) rfl rfl rfl rfl rfl rfl rfl ?_
              refine R_run hg.ok 1000 rfl rfl ?_
              refine R_callSO hg.ok hg.gup hg.wide hg.Y [0, 1, 2] (urObd d a b (B ++ [(x'.n, y')]) (s + 1) R met ++ [boxR y', boxR x', .box [iV x.n, iV y.n]]) cb (fun _ => rfl) rfl rfl rfl rfl rfl (by rw [uobd_ren]; rfl) rfl (by rw [uobd_ren]; rfl) ?_
              refine R_run hg.ok 1000 rfl rfl ?_
              refine R_dropO 7 (urObd d a b (B ++ [(x'.n, y')]) (s + 1) R met) (by show φ.length ≤ _; omega) rfl ?_ ?_
              · exact urObd_trim d a b (B ++ [(x'.n, y')]) (s + 1) R met _
              exact R_next (n, R, B ++ [(x'.n, y')], met, s + 1) hN (by simp only; omega) ⟨.refl _, .refl _, .refl _, trivial⟩ rfl
          · refine R_if rfl rfl (fun h => absurd h (by simp [hkx])) (fun _ => ?_) <;> refine R_run hg.ok 1000 rfl rfl ?_
            refine R_if rfl rfl (fun h => absurd h (by simp [hkx])) (fun _ => ?_) <;> refine R_run hg.ok 1000 rfl rfl ?_
            obtain ⟨hright, hdeep⟩ := hnot hkx
            by_cases hky : y'.k = 1
            · obtain ⟨hbad, hgood⟩ := hright hky
              have cw := unjWithin_ok Y d B hsb (by omega) y'.n x' (by omega)
              have cb := unjBind_ok Y d B y'.n x' (ey hky) (by omega)
              generalize Tm.withB B y'.n x' = wb at cw hbad hgood
              refine R_if rfl rfl (fun _ => ?_) (fun h => absurd h (by simp [hky])) <;> refine R_run hg.ok 1000 rfl rfl ?_
              refine R_load4 hg.ok (by show φ.length ≤ 8; omega) rfl rfl rfl rfl rfl rfl rfl ?_
              refine R_run hg.ok 1000 rfl rfl ?_
              refine R_callSO hg.ok hg.gup hg.wide hg.Y [0, 1, 2] (urObd d a b B (s + 1) R met ++ [boxR y', boxR x', .box [iV x.n, iV y.n]]) cw (fun _ => rfl) rfl rfl rfl rfl rfl (by rw [uobd_ren]; rfl) rfl (by rw [uobd_ren]; rfl) ?_
              refine R_run hg.ok 1000 rfl rfl ?_
              cases wb with
              | true =>
                refine R_if rfl rfl (fun _ => ?_) (fun h => absurd h (by simp)) <;> refine R_run hg.ok 1000 rfl rfl ?_
                obtain ⟨e1, e2⟩ := hbad rfl
                rw [e1, e2]
                exact R_retS hg 3 5 (Nat.le_refl _) rfl rfl (keep B _)
              | false =>
              have hN := hgood rfl
              refine R_if rfl rfl (fun h => absurd h (by simp)) (fun _ => ?_) <;> refine R_run hg.ok 1000 rfl rfl ?_
              refine R_load4 hg.ok (by show φ.length ≤ 8; omega) rfl rfl rfl rfl rfl rfl rfl ?_
              refine R_run hg.ok 1000 rfl rfl ?_
              refine R_callSO hg.ok hg.gup hg.wide hg.Y [0, 1, 2] (urObd d a b (B ++ [(y'.n, x')]) (s + 1) R met ++ [boxR y', boxR x', .box [iV x.n, iV y.n]]) cb (fun _ => rfl) rfl rfl rfl rfl rfl (by rw [uobd_ren]; rfl) rfl (by rw [uobd_ren]; rfl) ?_
              refine R_run hg.ok 1000 rfl rfl ?_
              refine R_dropO 7 (urObd d a b (B ++ [(y'.n, x')]) (s + 1) R met) (by show φ.length ≤ _; omega) rfl ?_ ?_
              · exact urObd_trim d a b (B ++ [(y'.n, x')]) (s + 1) R met _
              exact R_next (n, R, B ++ [(y'.n, x')], met, s + 1) hN (by simp only; omega) ⟨.refl _, .refl _, .refl _, trivial⟩ rfl
            · obtain ⟨hbad, hgood⟩ := hdeep hky
              refine R_if rfl rfl (fun h => absurd h (by simp [hky])) (fun _ => ?_) <;> refine R_run hg.ok 1000 rfl rfl ?_
              refine R_if rfl rfl (fun c1 => ?_) (fun c1 => ?_) <;> refine R_run hg.ok 1000 rfl rfl ?_
              · have c1 : ¬ x'.k = y'.k := by simpa using c1
                obtain ⟨e1, e2⟩ := hbad (by simp [Tm.clashB, c1])
                rw [e1, e2]
                exact R_retS hg 3 5 (Nat.le_refl _) rfl rfl (keep B _)
              have c1 : x'.k = y'.k := by simpa using c1
              refine R_if rfl rfl (fun c2 => ?_) (fun c2 => ?_) <;> refine R_run hg.ok 1000 rfl rfl ?_
              · have c2 : ¬ x'.n = y'.n := by simpa using c2
                obtain ⟨e1, e2⟩ := hbad (by simp [Tm.clashB, c2])
                rw [e1, e2]
                exact R_retS hg 3 5 (Nat.le_refl _) rfl rfl (keep B _)
              have c2 : x'.n = y'.n := by simpa using c2
              refine R_if rfl rfl (fun c3 => ?_) (fun c3 => ?_) <;> refine R_run hg.ok 1000 rfl rfl ?_
              · have c3 : strEq x'.s y'.s = false := by simpa using c3
                obtain ⟨e1, e2⟩ := hbad (by simp [Tm.clashB, c3])
                rw [e1, e2]
                exact R_retS hg 3 5 (Nat.le_refl _) rfl rfl (keep B _)
              have c3 : strEq x'.s y'.s = true := by simpa using c3
              refine R_if rfl rfl (fun c4 => ?_) (fun c4 => ?_) <;> refine R_run hg.ok 1000 rfl rfl ?_
              · have c4 : ¬ x'.l.length = y'.l.length := by simp [Tm.rows_length] at c4; omega
                obtain ⟨e1, e2⟩ := hbad (by simp [Tm.clashB, c4])
                rw [e1, e2]
                exact R_retS hg 3 5 (Nat.le_refl _) rfl rfl (keep B _)
              have g4 : x'.l.length = y'.l.length := by simp [Tm.rows_length] at c4; omega
              have hN := hgood (by simp [Tm.clashB, c1, c2, c3, g4])
              have hN2 := hlenU hN
              have hzl : (x'.l.zip y'.l).length = x'.l.length := by rw [List.length_zip]; omega
              have hRz : (R ++ x'.l.zip y'.l).length = R.length + x'.l.length := by rw [List.length_append, hzl]
              refine R_loop (fun k : Nat => ([(0, .lo 0 0), (7, .ow 5 (s + 1 + k)), (8, .mp 6), (10, .lo 7 0), (66, .d (.sl (Tm.rows x'.l))), (67, iV x'.l.length), (68, iV k)], urObd d a b B (s + 1 + k) (R ++ (x'.l.zip y'.l).take k) met ++ [boxR y', boxR x', .box [iV x.n, iV y.n]])) (fun k => k ≤ x'.l.length) (fun k => x'.l.length - k) 0 (Nat.zero_le _) ⟨.refl _, .refl _, .refl _, .refl _, .refl _, Ent.int (by rw [Tm.rows_length]), .refl _, trivial⟩ (by simp only [List.take_zero, List.append_nil]; rfl) ?_
              rintro k hk
              refine R_run hg.ok 1000 rfl rfl ?_
              refine R_if rfl rfl (fun h => ?_) (fun h => ?_) <;> refine R_run hg.ok 1000 rfl rfl ?_
              · have hk1 : k < x'.l.length := lt_dec h rfl
                have e1 : x'.l[k]? = some x'.l[k] := List.getElem?_eq_getElem hk1
                have e2 : y'.l[k]? = some (y'.l[k]'(by omega)) := List.getElem?_eq_getElem (by omega)
                have e3 : (x'.l.zip y'.l)[k]? = some (x'.l[k], y'.l[k]'(by omega)) := by rw [List.getElem?_zip_eq_some]; exact ⟨e1, e2⟩
                generalize x'.l[k] = xk at e1 e3
                generalize (y'.l[k]'(by omega)) = yk at e2 e3
                have hz1 : R ++ (x'.l.zip y'.l).take (k + 1) = (R ++ (x'.l.zip y'.l).take k) ++ [(xk, yk)] := by rw [List.take_add_one, e3, List.append_assoc]; rfl
                have hz2 : (R ++ (x'.l.zip y'.l).take k).length = R.length + k := by rw [List.length_append, List.length_take]; omega
                refine R_index hg.ok rfl rfl rfl rfl rfl rfl (Int.natCast_nonneg _) (Tm.rows_get e1) rfl ?_
                refine R_run hg.ok 1000 rfl rfl ?_
                refine R_index hg.ok rfl rfl rfl rfl rfl rfl (Int.natCast_nonneg _) (Tm.rows_get e2) rfl ?_
                refine R_run hg.ok 1000 rfl rfl ?_
                refine R_buildA hg.ok _ rfl rfl rfl rfl rfl rfl rfl rfl ?_
                refine R_run hg.ok 1000 rfl rfl ?_
                refine R_buildF hg.ok (.fs [[.v (.int .i64 xk.k), .v (.string xk.s), .v (.int .i64 xk.n), .sl (Tm.rows xk.l), .v (.int .i64 yk.k), .v (.string yk.s), .v (.int .i64 yk.n), .sl (Tm.rows yk.l)]]) rfl rfl (buildS_one rfl rfl rfl rfl (by decide)) ?_
                refine R_run hg.ok 1000 rfl rfl ?_
                refine R_appendO hg.ok (prsRows (R ++ (x'.l.zip y'.l).take (k + 1))) rfl rfl rfl rfl rfl rfl rfl rfl rfl (by simp) (by simp [one1]) (by rw [hz1]; exact prs_snoc2 _ xk yk) (by rw [prsRows_len, hz2]; simp; omega) (by rw [prsRows_len, hz2]; simp; omega) ?_
                refine R_run hg.ok 1000 rfl rfl ?_
                refine R_dropO 10 (urObd d a b B (s + 1 + (k + 1)) (R ++ (x'.l.zip y'.l).take (k + 1)) met ++ [boxR y', boxR x', .box [iV x.n, iV y.n]]) (by show φ.length ≤ _; omega) rfl ?_ ?_
                · exact urObd_trim3 d a b B (s + 1 + (k + 1)) (R ++ (x'.l.zip y'.l).take (k + 1)) met _ _ x.n y.n _
                exact R_next (k + 1) hk1 (by omega) ⟨.refl _, .refl _, .refl _, .refl _, .refl _, .refl _, Ent.wrap (by omega) (by omega) (by omega), trivial⟩ rfl
              · have hk1 : x'.l.length ≤ k := ge_dec h rfl
                rw [List.take_of_length_le (by omega : (x'.l.zip y'.l).length ≤ k)]
                refine R_dropO 7 (urObd d a b B (s + 1 + k) (R ++ x'.l.zip y'.l) met) (by show φ.length ≤ _; omega) rfl ?_ ?_
                · exact urObd_trim d a b B (s + 1 + k) (R ++ x'.l.zip y'.l) met _
                exact R_next (n, R ++ x'.l.zip y'.l, B, met, s + 1 + k) hN (by simp only; omega) ⟨.refl _, .refl _, .refl _, trivial⟩ rfl
        · refine R_if rfl rfl (fun h => absurd h (by simp [hx1])) (fun _ => ?_) <;> refine R_run hg.ok 1000 rfl rfl ?_
          obtain ⟨ex, ey, zx, zy, hsame, hrest⟩ := hstep
          have cx := unjWalk_ok Y d B hU.ug.chain x
          have cy := unjWalk_ok Y d B hU.ug.chain y
          have hsb : ∀ c ∈ B, c.2.size < 400000000 := fun c hc => by have := hU.ug.sb c hc; omega
          generalize Tm.walkB B x = x' at *
          generalize Tm.walkB B y = y' at *
          refine R_load4 hg.ok (by show φ.length ≤ 8; omega) rfl rfl rfl rfl rfl rfl rfl ?_
          refine R_run hg.ok 1000 rfl rfl ?_
          refine R_callS3 hg.ok hg.gup hg.wide hg.Y [0, 1, 2] (urObd d a b B (s + 1) R met ++ [boxR y, boxR x, .box [iV x.n, iV y.n]]) cx (fun _ => rfl) (fun i hi => by show i < φ.length; simp at hi; omega) rfl rfl rfl rfl rfl (by rw [uobd_ren]; rfl) rfl (by rw [uobd_ren]; rfl) ?_
          refine R_run hg.ok 1000 rfl rfl ?_
          refine R_load4 hg.ok (by show φ.length ≤ 7; omega) rfl rfl rfl rfl rfl rfl rfl ?_
          refine R_run hg.ok 1000 rfl rfl ?_
          refine R_callS3 hg.ok hg.gup hg.wide hg.Y [0, 1, 2] (urObd d a b B (s + 1) R met ++ [boxR y, boxR x, .box [iV x.n, iV y.n]]) cy (fun _ => rfl) (fun i hi => by show i < φ.length; simp at hi; omega) rfl rfl rfl rfl rfl (by rw [uobd_ren]; rfl) rfl (by rw [uobd_ren]; rfl) ?_
          refine R_run hg.ok 1000 rfl rfl ?_
          refine R_storeB hg.ok rfl rfl rfl rfl rfl rfl rfl rfl rfl ?_
          refine R_run hg.ok 1000 rfl rfl ?_
          refine R_storeB hg.ok rfl rfl rfl rfl rfl rfl rfl rfl rfl ?_
          refine R_run hg.ok 1000 rfl rfl ?_
          by_cases hc : x'.k = 1 ∧ y'.k = 1 ∧ x'.n = y'.n
          · refine R_if rfl rfl (fun _ => ?_) (fun h => absurd h (by simp [hc.1])) <;> refine R_run hg.ok 1000 rfl rfl ?_
            refine R_if rfl rfl (fun _ => ?_) (fun h => absurd h (by simp [hc.2.1])) <;> refine R_run hg.ok 1000 rfl rfl ?_
            refine R_if rfl rfl (fun _ => ?_) (fun h => absurd h (by simp [hc.2.2])) <;> refine R_run hg.ok 1000 rfl rfl ?_
            refine R_dropO 7 (urObd d a b B (s + 1) R met) (by show φ.length ≤ _; omega) rfl ?_ ?_
            · exact urObd_trim d a b B (s + 1) R met _
            exact R_next (n, R, B, met, s + 1) (hsame hc) (by simp only; omega) ⟨.refl _, .refl _, .refl _, trivial⟩ rfl
          obtain ⟨hleft, hnot⟩ := hrest hc
          by_cases hkx : x'.k = 1
          · obtain ⟨hbad, hgood⟩ := hleft hkx
            have cw := unjWithin_ok Y d B hsb (by omega) x'.n y' (by omega)
            have cb := unjBind_ok Y d B x'.n y' (ex hkx) (by omega)
            generalize Tm.withB B x'.n y' = wb at cw hbad hgood
            by_cases hky : y'.k = 1
            · refine R_if rfl rfl (fun _ => ?_) (fun h => absurd h (by simp [hkx])) <;> refine R_run hg.ok 1000 rfl rfl ?_
              refine R_if rfl rfl (fun _ => ?_) (fun h => absurd h (by simp [hky])) <;> refine R_run hg.ok 1000 rfl rfl ?_
              refine R_if rfl rfl (fun h => absurd h (by have : ¬ x'.n = y'.n := fun e => hc ⟨hkx, hky, e⟩; simp [this])) (fun _ => ?_) <;> refine R_run hg.ok 1000 rfl rfl ?_
              refine R_if rfl rfl (fun _ => ?_) (fun h => absurd h (by simp [hkx])) <;> refine R_run hg.ok 1000 rfl rfl ?_
              refine R_load4 hg.ok (by show φ.length ≤ 7; omega) rfl rfl rfl rfl rfl rfl rfl ?_
              refine R_run hg.ok 1000 rfl rfl ?_
              refine R_callSO hg.ok hg.gup hg.wide hg.Y [0, 1, 2] (urObd d a b B (s + 1) R met ++ [boxR y', boxR x', .box [iV x.n, iV y.n]]) cw (fun _ => rfl) rfl rfl rfl rfl rfl (by rw [uobd_ren]; rfl) rfl (by rw [uobd_ren]; rfl) ?_
              refine R_run hg.ok 1000 rfl rfl ?_
              cases wb with
              | true =>
                refine R_if rfl rfl (fun _ => ?_) (fun h => absurd h (by simp)) <;> refine R_run hg.ok 1000 rfl rfl ?_
                obtain ⟨e1, e2⟩ := hbad rfl
                rw [e1, e2]
                exact R_retS hg 3 5 (Nat.le_refl _) rfl rfl (keep B _)
              | false =>
              have hN := hgood rfl
              refine R_if rfl rfl (fun h => absurd h (by simp)) (fun _ => ?_) <;> refine R_run hg.ok 1000 rfl rfl ?_
              refine R_load4 hg.ok (by show φ.length ≤ 7; omega) rfl rfl rfl rfl rfl rfl rfl ?_
              refine R_run hg.ok 1000 rfl rfl ?_
              refine R_callSO hg.ok hg.gup hg.wide hg.Y [0, 1, 2] (urObd d a b (B ++ [(x'.n, y')]) (s + 1) R met ++ [boxR y', boxR x', .box [iV x.n, iV y.n]]) cb (fun _ => rfl) rfl rfl rfl rfl rfl (by rw [uobd_ren]; rfl) rfl (by rw [uobd_ren]; rfl) ?_
              refine R_run hg.ok 1000 rfl rfl ?_
              refine R_dropO 7 (urObd d a b (B ++ [(x'.n, y')]) (s + 1) R met) (by show φ.length ≤ _; omega) rfl ?_ ?_
              · exact urObd_trim d a b (B ++ [(x'.n, y')]) (s + 1) R met _
              exact R_next (n, R, B ++ [(x'.n, y')], met, s + 1) hN (by simp only; omega) ⟨.refl _, .refl _, .refl _, trivial⟩ rfl
            · refine R_if rfl rfl (fun _ => ?_) (fun h => absurd h (by simp [hkx])) <;> refine R_run hg.ok 1000 rfl rfl ?_
              refine R_if rfl rfl (fun h => absurd h (by simp [hky])) (fun _ => ?_) <;> refine R_run hg.ok 1000 rfl rfl ?_
              refine R_if rfl rfl (fun _ => ?_) (fun h => absurd h (by simp [hkx])) <;> refine R_run hg.ok 1000 rfl rfl ?_
              refine R_load4 hg.ok (by show φ.length ≤ 7; omega) rfl rfl rfl rfl rfl rfl rfl ?_
              refine R_run hg.ok 1000 rfl rfl ?_
              refine R_callSO hg.ok hg.gup hg.wide hg.Y [0, 1, 2] (urObd d a b B (s + 1) R met ++ [boxR y', boxR x', .box [iV x.n, iV y.n]]) cw (fun _ => rfl) rfl rfl rfl rfl rfl (by rw [uobd_ren]; rfl) rfl (by rw [uobd_ren]; rfl) ?_
              refine R_run hg.ok 1000 rfl rfl ?_
              cases wb with
              | true =>
                refine R_if rfl rfl (fun _ => ?_) (fun h => absurd h (by simp)) <;> refine R_run hg.ok 1000 rfl rfl ?_
                obtain ⟨e1, e2⟩ := hbad rfl
                rw [e1, e2]
                exact R_retS hg 3 5 (Nat.le_refl _) rfl rfl (keep B _)
              | false =>
              have hN := hgood rfl
              refine R_if rfl rfl (fun h => absurd h (by simp)) (fun _ => ?_) <;> refine R_run hg.ok 1000 rfl rfl ?_
              refine R_load4 hg.ok (by show φ.length ≤ 7; omega) rfl rfl rfl rfl rfl rfl rfl ?_
              refine R_run hg.ok 1000 rfl rfl ?_
              refine R_callSO hg.ok hg.gup hg.wide hg.Y [0, 1, 2] (urObd d a b (B ++ [(x'.n, y')]) (s + 1) R met ++ [boxR y', boxR x', .box [iV x.n, iV y.n]]) cb (fun _ => rfl) rfl rfl rfl rfl rfl (by rw [uobd_ren]; rfl) rfl (by rw [uobd_ren]; rfl) ?_
              refine R_run hg.ok 1000 rfl rfl ?_
              refine R_dropO 7 (urObd d a b (B ++ [(x'.n, y')]) (s + 1) R met) (by show φ.length ≤ _; omega) rfl ?_ ?_
              · exact urObd_trim d a b (B ++ [(x'.n, y')]) (s + 1) R met _
              exact R_next (n, R, B ++ [(x'.n, y')], met, s + 1) hN (by simp only; omega) ⟨.refl _, .refl _, .refl _, trivial⟩ rfl
          · refine R_if rfl rfl (fun h => absurd h (by simp [hkx])) (fun _ => ?_) <;> refine R_run hg.ok 1000 rfl rfl ?_
            refine R_if rfl rfl (fun h => absurd h (by simp [hkx])) (fun _ => ?_) <;> refine R_run hg.ok 1000 rfl rfl ?_
            obtain ⟨hright, hdeep⟩ := hnot hkx
            by_cases hky : y'.k = 1
            · obtain ⟨hbad, hgood⟩ := hright hky
              have cw := unjWithin_ok Y d B hsb (by omega) y'.n x' (by omega)
              have cb := unjBind_ok Y d B y'.n x' (ey hky) (by omega)
              generalize Tm.withB B y'.n x' = wb at cw hbad hgood
              refine R_if rfl rfl (fun _ => ?_) (fun h => absurd h (by simp [hky])) <;> refine R_run hg.ok 1000 rfl rfl ?_
              refine R_load4 hg.ok (by show φ.length ≤ 8; omega) rfl rfl rfl rfl rfl rfl rfl ?_
              refine R_run hg.ok 1000 rfl rfl ?_
              refine R_callSO hg.ok hg.gup hg.wide hg.Y [0, 1, 2] (urObd d a b B (s + 1) R met ++ [boxR y', boxR x', .box [iV x.n, iV y.n]]) cw (fun _ => rfl) rfl rfl rfl rfl rfl (by rw [uobd_ren]; rfl) rfl (by rw [uobd_ren]; rfl) ?_
              refine R_run hg.ok 1000 rfl rfl ?_
              cases wb with
              | true =>
                refine R_if rfl rfl (fun _ => ?_) (fun h => absurd h (by simp)) <;> refine R_run hg.ok 1000 rfl rfl ?_
                obtain ⟨e1, e2⟩ := hbad rfl
                rw [e1, e2]
                exact R_retS hg 3 5 (Nat.le_refl _) rfl rfl (keep B _)
              | false =>
              have hN := hgood rfl
              refine R_if rfl rfl (fun h => absurd h (by simp)) (fun _ => ?_) <;> refine R_run hg.ok 1000 rfl rfl ?_
              refine R_load4 hg.ok (by show φ.length ≤ 8; omega) rfl rfl rfl rfl rfl rfl rfl ?_
              refine R_run hg.ok 1000 rfl rfl ?_
              refine R_callSO hg.ok hg.gup hg.wide hg.Y [0, 1, 2] (urObd d a b (B ++ [(y'.n, x')]) (s + 1) R met ++ [boxR y', boxR x', .box [iV x.n, iV y.n]]) cb (fun _ => rfl) rfl rfl rfl rfl rfl (by rw [uobd_ren]; rfl) rfl (by rw [uobd_ren]; rfl) ?_
              refine R_run hg.ok 1000 rfl rfl ?_
              refine R_dropO 7 (urObd d a b (B ++ [(y'.n, x')]) (s + 1) R met) (by show φ.length ≤ _; omega) rfl ?_ ?_
              · exact urObd_trim d a b (B ++ [(y'.n, x')]) (s + 1) R met _
              exact R_next (n, R, B ++ [(y'.n, x')], met, s + 1) hN (by simp only; omega) ⟨.refl _, .refl _, .refl _, trivial⟩ rfl
            · obtain ⟨hbad, hgood⟩ := hdeep hky
              refine R_if rfl rfl (fun h => absurd h (by simp [hky])) (fun _ => ?_) <;> refine R_run hg.ok 1000 rfl rfl ?_
              refine R_if rfl rfl (fun c1 => ?_) (fun c1 => ?_) <;> refine R_run hg.ok 1000 rfl rfl ?_
              · have c1 : ¬ x'.k = y'.k := by simpa using c1
                obtain ⟨e1, e2⟩ := hbad (by simp [Tm.clashB, c1])
                rw [e1, e2]
                exact R_retS hg 3 5 (Nat.le_refl _) rfl rfl (keep B _)
              have c1 : x'.k = y'.k := by simpa using c1
              refine R_if rfl rfl (fun c2 => ?_) (fun c2 => ?_) <;> refine R_run hg.ok 1000 rfl rfl ?_
              · have c2 : ¬ x'.n = y'.n := by simpa using c2
                obtain ⟨e1, e2⟩ := hbad (by simp [Tm.clashB, c2])
                rw [e1, e2]
                exact R_retS hg 3 5 (Nat.le_refl _) rfl rfl (keep B _)
              have c2 : x'.n = y'.n := by simpa using c2
              refine R_if rfl rfl (fun c3 => ?_) (fun c3 => ?_) <;> refine R_run hg.ok 1000 rfl rfl ?_
              · have c3 : strEq x'.s y'.s = false := by simpa using c3
                obtain ⟨e1, e2⟩ := hbad (by simp [Tm.clashB, c3])
                rw [e1, e2]
                exact R_retS hg 3 5 (Nat.le_refl _) rfl rfl (keep B _)
              have c3 : strEq x'.s y'.s = true := by simpa using c3
              refine R_if rfl rfl (fun c4 => ?_) (fun c4 => ?_) <;> refine R_run hg.ok 1000 rfl rfl ?_
              · have c4 : ¬ x'.l.length = y'.l.length := by simp [Tm.rows_length] at c4; omega
                obtain ⟨e1, e2⟩ := hbad (by simp [Tm.clashB, c4])
                rw [e1, e2]
                exact R_retS hg 3 5 (Nat.le_refl _) rfl rfl (keep B _)
              have g4 : x'.l.length = y'.l.length := by simp [Tm.rows_length] at c4; omega
              have hN := hgood (by simp [Tm.clashB, c1, c2, c3, g4])
              have hN2 := hlenU hN
              have hzl : (x'.l.zip y'.l).length = x'.l.length := by rw [List.length_zip]; omega
              have hRz : (R ++ x'.l.zip y'.l).length = R.length + x'.l.length := by rw [List.length_append, hzl]
              refine R_loop (fun k : Nat => ([(0, .lo 0 0), (7, .ow 5 (s + 1 + k)), (8, .mp 6), (10, .lo 7 0), (66, .d (.sl (Tm.rows x'.l))), (67, iV x'.l.length), (68, iV k)], urObd d a b B (s + 1 + k) (R ++ (x'.l.zip y'.l).take k) met ++ [boxR y', boxR x', .box [iV x.n, iV y.n]])) (fun k => k ≤ x'.l.length) (fun k => x'.l.length - k) 0 (Nat.zero_le _) ⟨.refl _, .refl _, .refl _, .refl _, .refl _, Ent.int (by rw [Tm.rows_length]), .refl _, trivial⟩ (by simp only [List.take_zero, List.append_nil]; rfl) ?_
              rintro k hk
              refine R_run hg.ok 1000 rfl rfl ?_
              refine R_if rfl rfl (fun h => ?_) (fun h => ?_) <;> refine R_run hg.ok 1000 rfl rfl ?_
              · have hk1 : k < x'.l.length := lt_dec h rfl
                have e1 : x'.l[k]? = some x'.l[k] := List.getElem?_eq_getElem hk1
                have e2 : y'.l[k]? = some (y'.l[k]'(by omega)) := List.getElem?_eq_getElem (by omega)
                have e3 : (x'.l.zip y'.l)[k]? = some (x'.l[k], y'.l[k]'(by omega)) := by rw [List.getElem?_zip_eq_some]; exact ⟨e1, e2⟩
                generalize x'.l[k] = xk at e1 e3
                generalize (y'.l[k]'(by omega)) = yk at e2 e3
                have hz1 : R ++ (x'.l.zip y'.l).take (k + 1) = (R ++ (x'.l.zip y'.l).take k) ++ [(xk, yk)] := by rw [List.take_add_one, e3, List.append_assoc]; rfl
                have hz2 : (R ++ (x'.l.zip y'.l).take k).length = R.length + k := by rw [List.length_append, List.length_take]; omega
                refine R_index hg.ok rfl rfl rfl rfl rfl rfl (Int.natCast_nonneg _) (Tm.rows_get e1) rfl ?_
                refine R_run hg.ok 1000 rfl rfl ?_
                refine R_index hg.ok rfl rfl rfl rfl rfl rfl (Int.natCast_nonneg _) (Tm.rows_get e2) rfl ?_
                refine R_run hg.ok 1000 rfl rfl ?_
                refine R_buildA hg.ok _ rfl rfl rfl rfl rfl rfl rfl rfl ?_
                refine R_run hg.ok 1000 rfl rfl ?_
                refine R_buildF hg.ok (.fs [[.v (.int .i64 xk.k), .v (.string xk.s), .v (.int .i64 xk.n), .sl (Tm.rows xk.l), .v (.int .i64 yk.k), .v (.string yk.s), .v (.int .i64 yk.n), .sl (Tm.rows yk.l)]]) rfl rfl (buildS_one rfl rfl rfl rfl (by decide)) ?_
                refine R_run hg.ok 1000 rfl rfl ?_
                refine R_appendO hg.ok (prsRows (R ++ (x'.l.zip y'.l).take (k + 1))) rfl rfl rfl rfl rfl rfl rfl rfl rfl (by simp) (by simp [one1]) (by rw [hz1]; exact prs_snoc2 _ xk yk) (by rw [prsRows_len, hz2]; simp; omega) (by rw [prsRows_len, hz2]; simp; omega) ?_
                refine R_run hg.ok 1000 rfl rfl ?_
                refine R_dropO 10 (urObd d a b B (s + 1 + (k + 1)) (R ++ (x'.l.zip y'.l).take (k + 1)) met ++ [boxR y', boxR x', .box [iV x.n, iV y.n]]) (by show φ.length ≤ _; omega) rfl ?_ ?_
                · exact urObd_trim3 d a b B (s + 1 + (k + 1)) (R ++ (x'.l.zip y'.l).take (k + 1)) met _ _ x.n y.n _
                exact R_next (k + 1) hk1 (by omega) ⟨.refl _, .refl _, .refl _, .refl _, .refl _, .refl _, Ent.wrap (by omega) (by omega) (by omega), trivial⟩ rfl
              · have hk1 : x'.l.length ≤ k := ge_dec h rfl
                rw [List.take_of_length_le (by omega : (x'.l.zip y'.l).length ≤ k)]
                refine R_dropO 7 (urObd d a b B (s + 1 + k) (R ++ x'.l.zip y'.l) met) (by show φ.length ≤ _; omega) rfl ?_ ?_
                · exact urObd_trim d a b B (s + 1 + k) (R ++ x'.l.zip y'.l) met _
                exact R_next (n, R ++ x'.l.zip y'.l, B, met, s + 1 + k) hN (by simp only; omega) ⟨.refl _, .refl _, .refl _, trivial⟩ rfl
end Go.Proofs.Ytppghekipbnjhaa

namespace PSL
open Go Go.RowKit
section
variable {g : G} {pf : Nat → Cls} {ops : Array Oper} {Fin : Exit → Act → World → Prop}

/-- A view of a slice of the call's own, from some element on: the slice is still used after. -/
theorem R_sliceV (hg : GOk g) {dst : Option Nat} {T : Nat} {x : Operand} {lo : Option Operand} {ty : Nat} {pos : String} {after : Array Edge} {gd : Option (Nat × Bool)} {rest : List Oper} {k : List It} {E : Env} {objs : List Ob}
    {i s sz q by_ e : Nat} {z : List Value} {τ : Ty} {rows : List (List D)} {h : Int}
    (hgd : guardA ops.toList E gd = some true) (hd : dstOk ⟨g.ty, g.N⟩ dst = true) (hcl : slCls pf = .turn 1) (hx : ev E x = .ow i s) (ho : nth objs i = some (.arr sz s rows)) (hl : bndA E lo 0 = some h) (hT : g.ty T = some ⟨q, by_, z, .slice e⟩) (he : g.ty e = some τ) (hsz : τ.size = sz)
    (h0 : 0 ≤ h) (h2 : h ≤ rows.length)
    (hr : R g pf Fin (.dr ops rest :: k) (putO E dst (.vw i s h.toNat)) objs) : R g pf Fin (.dr ops (⟨dst, .slice T x lo none none, ty, pos, after, gd⟩ :: rest) :: k) E objs := by
  refine R_op ?_ hr
  simp only [clsOf, hcl]
  refine LocOp.turning hg (.refl _) hgd hd (by simp) fun φ a w hρ hs => ?_
  simp only [Op.operands] at hρ
  have hxv := hρ x (by simp)
  rw [hx] at hxv
  simp only [RV] at hxv
  obtain ⟨_, ph, hph, hxv⟩ := hxv
  have hk := obj_at hs hph ho
  cases ph <;> try (simp only [ObOk] at hk; done)
  rename_i sz2 s2 v2 ob2
  simp only [ObOk] at hk
  obtain ⟨e1, e2, _, hk⟩ := hk
  subst e1; subst e2
  have hv := (hxv _ _ _ _ rfl).2 rfl
  have hτ := hg.ty _ _ he
  have hs2 : ∃ (p : Option Addr) (c : Nat), v2 = .slice p rows.length c ∧ rows.length ≤ c ∧ (0 < rows.length → ∃ b o, p = some ⟨b, o, none⟩) := by
    rcases hk with ⟨a2, h1, rfl, _⟩ | ⟨b, o, cap, cs, T', h1, _, _, hc, _⟩
    · exact ⟨_, _, h1, by simp, fun h => absurd h (by simp)⟩
    · exact ⟨_, _, h1, hc, fun _ => ⟨b, o, rfl⟩⟩
  obtain ⟨p, cap, hs2, hcap, hp⟩ := hs2
  have hb := run_bounds (P := g.P) (w := w) (sl := true) (a := a) (len := rows.length) (cap := cap) (lo := lo) (hi := none) (h := rows.length) hl rfl (fun y hy n he => by
    have := hρ y (by simp [hy]); rw [he] at this; simp only [RV] at this; generalize a.eval y = u at this; cases this; rfl) (fun y hy => by cases hy) h0 h2 (by omega)
  refine out_val hs (vv := .slice (if cap = h.toNat then p else p.map (·.add (h.toNat * τ.size))) (rows.length - h.toNat) (cap - h.toNat)) ?_ ?_
  · simp only [Option.map_none, Int.toNat_natCast] at hb
    simp [execOp, Instr.sliceAt, Instr.slice, hv, hs2, underlying, und_slice hg hT, hb, run_sizeOf hτ]
  · simp only [RV]
    refine ⟨⟨_, _, _, rfl⟩, _, hph, fun sz s x ob h => ?_⟩
    cases h
    refine ⟨Nat.le_refl _, fun _ => ⟨_, _, _, _, _, hs2, rfl, fun hlt => ?_⟩⟩
    obtain ⟨b, o, rfl⟩ := hp (by omega)
    exact ⟨b, o, rfl, by rw [if_neg (by omega)]; simp [add_none, hsz]⟩

/-- How long a view is. -/
theorem R_lenV (hg : GOk g) {dst : Option Nat} {T : Nat} {x : Operand} {ty : Nat} {pos : String} {after : Array Edge} {gd : Option (Nat × Bool)} {rest : List Oper} {k : List It} {E : Env} {objs : List Ob}
    {id s r sz q by_ e : Nat} {z : List Value} {rows : List (List D)} {n : Int}
    (hgd : guardA ops.toList E gd = some true) (hd : dstOk ⟨g.ty, g.N⟩ dst = true) (hx : ev E x = .vw id s r) (ho : nth objs id = some (.arr sz s rows)) (hT : g.ty T = some ⟨q, by_, z, .slice e⟩) (hn : (↑(rows.length - r) : Int) = n)
    (hr : R g pf Fin (.dr ops rest :: k) (putO E dst (iV n)) objs) (hcl : lenCls pf #[x] = .load := by rfl) : R g pf Fin (.dr ops (⟨dst, .call { callee := .builtin .len, args := #[x], argTypes := #[T] }, ty, pos, after, gd⟩ :: rest) :: k) E objs := by
  subst hn
  refine R_op ?_ hr
  simp only [clsOf, hcl]
  refine LocOp.lookingM hg 0 hgd hd (by simp) fun φ a w objs₁ hgr hρ hs => ?_
  simp only [Op.operands, Call.operands] at hρ
  have hxv := hρ x (by simp)
  rw [hx] at hxv
  simp only [RV] at hxv
  obtain ⟨_, ph, hph, hxv⟩ := hxv
  have ho : nth objs₁ id = some (.arr sz s rows) := by
    rw [nth_eq] at ho ⊢
    exact Gr.same hgr ho (by rw [← hs.len]; exact (List.getElem?_eq_some_iff.1 hph).1) (by simp [Ob.lvl])
  have hk := obj_at hs hph ho
  cases ph <;> try (simp only [ObOk] at hk; done)
  simp only [ObOk] at hk
  obtain ⟨rfl, rfl, hlen, hk⟩ := hk
  obtain ⟨a1, n1, c1, p, c, hv1, hv, _⟩ := (hxv _ _ _ _ rfl).2 rfl
  have hs2 : n1 = rows.length := by
    rcases hk with ⟨a2, h1, rfl, _⟩ | ⟨b, o, cap, cs, T', h1, _⟩
    · rw [h1] at hv1; cases hv1; rfl
    · rw [h1] at hv1; cases hv1; rfl
  subst hs2
  refine out_val hs (vv := .int .i64 ↑(rows.length - r)) ?_ (by simp only [RV, iV]; exact .v _)
  have hu := und_slice hg hT
  simp only [execOp, resolve, Sem.run_bind, Sem.run_pure, Result.andThen_ok, invoke, builtin, List.map_toArray, List.map_cons, List.map_nil, hv]
  simp [run_lenArr hu (.inr ⟨⟨_, rfl⟩, _, _, _, rfl, rfl⟩)]

/-- The address of an element of a view. -/
theorem R_indexV (hg : GOk g) {dst : Option Nat} {T : Nat} {x i : Operand} {ty : Nat} {pos : String} {after : Array Edge} {gd : Option (Nat × Bool)} {rest : List Oper} {k : List It} {E : Env} {objs : List Ob}
    {id s r sz q by_ e : Nat} {z : List Value} {τ : Ty} {rows : List (List D)} {n : Int} (m : Nat)
    (hgd : guardA ops.toList E gd = some true) (hd : dstOk ⟨g.ty, g.N⟩ dst = true) (hcl : ixCls pf = .load) (hx : ev E x = .vw id s r) (ho : nth objs id = some (.arr sz s rows)) (hi : ev E i = .d (.v (.int .i64 n))) (hT : g.ty T = some ⟨q, by_, z, .slice e⟩) (he : g.ty e = some τ) (hsz : τ.size = sz)
    (h0 : 0 ≤ n) (hlt : r + n.toNat < rows.length) (hm : r + n.toNat = m)
    (hr : R g pf Fin (.dr ops rest :: k) (putO E dst (.el id s m 0)) objs) : R g pf Fin (.dr ops (⟨dst, .indexAddr T x i, ty, pos, after, gd⟩ :: rest) :: k) E objs := by
  subst hm
  refine R_op ?_ hr
  simp only [clsOf, hcl]
  refine LocOp.lookingM hg 0 hgd hd (by simp) fun φ a w objs₁ hgr hρ hs => ?_
  simp only [Op.operands] at hρ
  have hxv := hρ x (by simp)
  rw [hx] at hxv
  have hiv := hρ i (by simp)
  rw [hi] at hiv
  simp only [RV] at hiv
  generalize hvi : a.eval i = vi at hiv
  cases hiv
  simp only [RV] at hxv
  obtain ⟨_, ph, hph, hxv⟩ := hxv
  have ho : nth objs₁ id = some (.arr sz s rows) := by
    rw [nth_eq] at ho ⊢
    exact Gr.same hgr ho (by rw [← hs.len]; exact (List.getElem?_eq_some_iff.1 hph).1) (by simp [Ob.lvl])
  have hk := obj_at hs hph ho
  cases ph <;> try (simp only [ObOk] at hk; done)
  simp only [ObOk] at hk
  obtain ⟨rfl, rfl, hlen, hk⟩ := hk
  obtain ⟨a1, n1, c1, p, c, hv1, hv, hp⟩ := (hxv _ _ _ _ rfl).2 rfl
  rcases hk with ⟨a2, _, rfl, _⟩ | ⟨b, o, cap, cs, T', h1, rfl, h3, _⟩
  · simp at hlt
  rw [h1] at hv1
  cases hv1
  obtain ⟨b', o', h4, rfl⟩ := hp (by omega)
  cases h4
  refine out_val hs (vv := .pointer (some ⟨b, o + (r + n.toNat) * τ.size, none⟩)) ?_ ?_
  · have hrun : (Instr.indexAt T (a.eval x) (a.eval i)).run g.P w = .ok (.pointer (some ⟨b, o + (r + n.toNat) * τ.size, none⟩)) w := by
      simp only [Instr.indexAt, hv, hvi, asIntOf, underlying, Sem.run_bind, Sem.run_pure, run_program, Result.andThen_ok, und_slice hg hT]
      rw [Sem.run_ite, if_pos ⟨h0, by omega⟩]
      simp only [Sem.run_bind, run_sizeOf (hg.ty _ _ he), Result.andThen_ok, Sem.run_pure, add_none, ← hsz]
      rw [Nat.add_mul, Nat.add_assoc]
    simp only [execOp, Sem.run_bind, hrun, Result.andThen_ok, Sem.run_pure]
  · simp only [RV]
    refine ⟨⟨_, _, rfl⟩, _, hph, fun sz' s' x' ob' h => ?_⟩
    cases h
    exact ⟨Nat.le_refl _, fun _ => ⟨b, o, _, _, h1, by rw [hsz]; rfl⟩⟩

/-- What is left of a slice of the call's own behind its first elements: the slice as it was is not used after. -/
theorem R_frontO (hg : GOk g) {dst : Option Nat} {T : Nat} {x : Operand} {lo : Option Operand} {ty : Nat} {pos : String} {after : Array Edge} {gd : Option (Nat × Bool)} {rest : List Oper} {k : List It} {E : Env} {objs : List Ob}
    {i s sz q by_ e : Nat} {z : List Value} {τ : Ty} {rows : List (List D)} (rows' : List (List D)) {h : Int}
    (hgd : guardA ops.toList E gd = some true) (hd : dstOk ⟨g.ty, g.N⟩ dst = true) (hcl : slCls pf = .turn 1) (hx : ev E x = .ow i s) (ho : nth objs i = some (.arr sz s rows)) (hl : bndA E lo 0 = some h) (hT : g.ty T = some ⟨q, by_, z, .slice e⟩) (he : g.ty e = some τ) (hsz : τ.size = sz)
    (h0 : 0 ≤ h) (h2 : h ≤ rows.length) (hrows : rows.drop h.toNat = rows')
    (hr : R g pf Fin (.dr ops rest :: k) (putO E dst (.ow i (Nat.succ s))) (setN objs i (.arr sz (Nat.succ s) rows'))) : R g pf Fin (.dr ops (⟨dst, .slice T x lo none none, ty, pos, after, gd⟩ :: rest) :: k) E objs := by
  subst hrows
  refine R_op ?_ hr
  simp only [clsOf, hcl]
  refine LocOp.turning hg (grow_set ho) hgd hd (by simp) fun φ a w hρ hs => ?_
  simp only [Op.operands] at hρ
  have hxv := hρ x (by simp)
  rw [hx] at hxv
  simp only [RV] at hxv
  obtain ⟨_, ph, hph, hxv⟩ := hxv
  have hk := obj_at hs hph ho
  cases ph <;> try (simp only [ObOk] at hk; done)
  rename_i sz2 s2 v2 ob2
  simp only [ObOk] at hk
  obtain ⟨e1, e2, hrl, hk'⟩ := hk
  subst e1; subst e2
  have hv := (hxv _ _ _ _ rfl).2 rfl
  clear hxv
  rw [setN_eq]
  have hlt : i < φ.length := (List.getElem?_eq_some_iff.1 hph).1
  have hτ := hg.ty _ _ he
  have hdl : (rows.drop h.toNat).length = rows.length - h.toNat := by rw [List.length_drop]
  have hbd : ∀ cap : Nat, rows.length ≤ cap → (Instr.sliceBounds true rows.length cap (lo.map a.eval) none none).run g.P w = .ok (h.toNat, rows.length, cap) w := fun cap hc => by
    have := run_bounds (P := g.P) (w := w) (sl := true) (a := a) (len := rows.length) (cap := cap) (lo := lo) (hi := none) (h := rows.length) hl rfl (fun y hy n he => by
      have := hρ y (by simp [hy]); rw [he] at this; simp only [RV] at this; generalize a.eval y = u at this; cases this; rfl) (fun y hy => by cases hy) h0 h2 (by omega)
    simpa using this
  have hall : ∀ r ∈ rows.drop h.toNat, r.length = sz := fun r hr => hrl r (List.mem_of_mem_drop hr)
  rcases hk' with ⟨a0, rfl, hrows, rfl⟩ | ⟨b, o, cap, cs, Tb, rfl, rfl, hheap, hn, hcap, hle, hrd⟩
  · subst hrows
    have h00 : h = 0 := by simp at h2; omega
    subst h00
    have hb := hbd 0 (by simp)
    refine ⟨.value (.slice a0 0 0), .slice a0 0 0, w, φ.set i (.sli sz (Nat.succ s) (.slice a0 0 0) none), ?_, .inl rfl, ?_, ?_⟩
    · simp only [List.length_nil] at hb
      simp [execOp, Instr.sliceAt, Instr.slice, hv, underlying, und_slice hg hT, hb, run_sizeOf hτ]
    · simp only [RV]
      exact ⟨⟨_, _, _, rfl⟩, _, List.getElem?_set_self hlt, fun sz s x ob h => by cases h; exact ⟨Nat.le_refl _, fun _ => rfl⟩⟩
    · refine Stp.swap hs hph (.inr (.inl ⟨_, _, _, _, _, _, _, _, rfl, rfl, Nat.lt_succ_self _⟩)) (Nat.le_refl _) (fun _ _ _ => rfl) (fun b hb => by simp [Phy.bl] at hb) rfl rfl rfl fun _ _ => ?_
      simp only [ObOk]
      exact ⟨trivial, trivial, by simp, .inl ⟨_, rfl, by simp, trivial⟩⟩
  · have hb := hbd cap (by omega)
    obtain ⟨o', ho'1, ho'2⟩ : ∃ o', (if cap = h.toNat then (some (⟨b, o, none⟩ : Addr)) else (some (⟨b, o, none⟩ : Addr)).map (·.add (h.toNat * τ.size))) = some ⟨b, o', none⟩ ∧ (o' + (cap - h.toNat) * τ.size ≤ cs.length ∧ (h.toNat < rows.length → o' = o + h.toNat * τ.size)) := by
      by_cases hc : cap = h.toNat
      · refine ⟨o, by rw [if_pos hc], ?_, fun hh => by omega⟩
        have : cap - h.toNat = 0 := by omega
        rw [this, Nat.zero_mul]
        have := Nat.zero_le (cap * sz)
        omega
      · refine ⟨o + h.toNat * τ.size, by rw [if_neg hc]; simp [add_none], ?_, fun _ => rfl⟩
        have h3 : h.toNat ≤ cap := by omega
        have h4 : h.toNat * sz + (cap - h.toNat) * sz = cap * sz := by rw [← Nat.add_mul]; congr 1; omega
        rw [hsz]; omega
    obtain ⟨ho'2, ho'3⟩ := ho'2
    refine ⟨.value (.slice (some ⟨b, o', none⟩) (rows.length - h.toNat) (cap - h.toNat)), .slice (some ⟨b, o', none⟩) (rows.length - h.toNat) (cap - h.toNat), w, φ.set i (.sli sz (Nat.succ s) (.slice (some ⟨b, o', none⟩) (rows.length - h.toNat) (cap - h.toNat)) (some b)), ?_, .inl rfl, ?_, ?_⟩
    · simp only [execOp, Instr.sliceAt, Instr.slice, hv, underlying, Sem.run_bind, run_program, Result.andThen_ok, und_slice hg hT, Sem.run_pure, hb, run_sizeOf hτ, Option.map_none, ho'1]
    · simp only [RV]
      exact ⟨⟨_, _, _, rfl⟩, _, List.getElem?_set_self hlt, fun sz s x ob h => by cases h; exact ⟨Nat.le_refl _, fun _ => rfl⟩⟩
    · refine Stp.swap hs hph (.inr (.inl ⟨_, _, _, _, _, _, _, _, rfl, rfl, Nat.lt_succ_self _⟩)) (Nat.le_refl _) (fun _ _ _ => rfl) (fun b' hb => .inl hb) rfl rfl rfl fun hkeep _ => ?_
      simp only [ObOk]
      refine ⟨trivial, trivial, hall, .inr ⟨b, o', cap - h.toNat, cs, Tb, by rw [hdl], rfl, hheap, by rw [hdl]; omega, by omega, by rw [← hsz]; exact ho'2, fun i' r j x' hi hj => ?_⟩⟩
      rw [List.getElem?_drop] at hi
      have hil := (List.getElem?_eq_some_iff.1 hi).1
      obtain ⟨y, h3, h4⟩ := hrd (h.toNat + i') r j x' hi hj
      refine ⟨y, ?_, h4.mono hkeep⟩
      rw [ho'3 (by omega), hsz, ← h3, Nat.add_mul]
      congr 1; omega
end
theorem SCtr.one {P : Program} {Y : YP} {f : Nat} {t : Tm} {r : AV} {o o' : List Ob} (h : SCtr P Y f [.d (.sl (Tm.rows [t]))] o r o') : SCtr P Y f [.d (.sl [Tm.row t])] o r o' := by rwa [Tm.rows_eq] at h
end PSL

namespace Go.Proofs.Ytppghekipbnjhaa
open Go PSL Go.Proofs
theorem tmM_app (A B : Binds) : tmM (A ++ B) = tmM A ++ tmM B := by simp [tmM]
theorem irows_take (l : List Int) (n : Nat) : (irows l).take n = irows (l.take n) := by simp [irows, List.map_take]

set_option maxRecDepth 100000 in
theorem unjUndo_ok (Y : YP) (d : Nat) (B X : Binds) (hn : ((B ++ X).map (·.1)).Nodup) (hl : (B ++ X).length ≤ 1000000) : SCtr Try.prog Y 81 [.lo 0 0, iV B.length] (uobd d (B ++ X)) (.tup []) (uobd (X.length + d + 1) B) := by
  refine SCtr.of_R (pf := fun f => bif Nat.beq f 4000000004 then .turn 1 else .eff) tyOk mixed Try.func81 rfl (by kernel_rfl) (by kernel_rfl) (by simp [Try.ntmps81]) (by simp [uobd]) fun w S φ hg => ?_
  have hφ : φ.length = 3 := hg.hs0.len
  have hk0 : ((B.length : Nat) : Int).toNat = B.length := Int.toNat_natCast _
  have hlen : ((B ++ X).map (·.1)).length = B.length + X.length := by simp
  have hXl : X.length ≤ 1000000 := by rw [List.length_append] at hl; omega
  refine R_run hg.ok 1000 rfl rfl ?_
  refine R_sliceV hg.ok rfl rfl rfl rfl rfl rfl rfl rfl rfl (Int.natCast_nonneg _) (by rw [irows_length, hlen]; omega) ?_
  rw [hk0]
  refine R_run hg.ok 1000 rfl rfl ?_
  refine R_lenV hg.ok rfl rfl rfl rfl rfl (n := (X.length : Int)) (by rw [irows_length, hlen]; simp) ?_
  refine R_run hg.ok 1000 rfl rfl ?_
  refine R_loop (fun k : Nat => ([(0, .lo 0 0), (1, iV B.length), (11, .vw 2 ((B ++ X).length + d) B.length), (12, iV X.length), (13, iV k)], [.box [.mp 1, .ow 2 ((B ++ X).length + d)], .map (imap (tmM (B ++ X.drop k))), .arr 1 ((B ++ X).length + d) (irows ((B ++ X).map (·.1)))])) (fun k => k ≤ X.length) (fun k => X.length - k) 0 (Nat.zero_le _) ⟨.refl _, .refl _, .refl _, .refl _, .refl _, trivial⟩ rfl ?_
  intro k hk
  refine R_run hg.ok 1000 rfl rfl ?_
  refine R_if rfl rfl (fun h => ?_) (fun h => ?_) <;> refine R_run hg.ok 1000 rfl rfl ?_
  · have hk1 : k < X.length := lt_dec h rfl
    have e1 : X[k]? = some X[k] := List.getElem?_eq_getElem hk1
    have e2 := List.drop_eq_getElem_cons hk1
    generalize X[k] = c at e1 e2
    have hrow : (irows ((B ++ X).map (·.1)))[B.length + k]? = some [.v (.int .i64 c.1)] := by
      refine irows_get ?_
      rw [List.getElem?_map, List.getElem?_append_right (by omega), Nat.add_sub_cancel_left, e1]; rfl
    refine R_indexV hg.ok (B.length + k) rfl rfl rfl rfl rfl rfl rfl rfl rfl (Int.natCast_nonneg k) (by rw [irows_length, hlen, Int.toNat_natCast]; omega) (by rw [Int.toNat_natCast]) ?_
    refine R_run hg.ok 1000 rfl rfl ?_
    refine R_loadE hg.ok rfl rfl rfl rfl rfl rfl hrow rfl ?_
    refine R_run hg.ok 1000 rfl rfl ?_
    have hne : ∀ p ∈ tmM B, p.1 ≠ c.1 := fun p hp => by
      obtain ⟨b, hb, rfl⟩ := List.mem_map.1 hp
      intro he
      rw [List.map_append, List.nodup_append] at hn
      exact hn.2.2 b.1 (List.mem_map.2 ⟨b, hb, rfl⟩) c.1 (List.mem_map.2 ⟨c, List.mem_of_getElem? e1, rfl⟩) he
    refine R_deleteI hg.ok (l := tmM (B ++ X.drop k)) (n := c.1) (v := c.2.av) (tmM B) (tmM (X.drop (k + 1))) (tmM (B ++ X.drop (k + 1))) rfl rfl rfl rfl rfl rfl rfl (by rw [tmM_app, e2]; rfl) hne (tmM_app _ _).symm ?_
    refine R_run hg.ok 1000 rfl rfl ?_
    exact R_next (k + 1) hk1 (by omega) ⟨.refl _, .refl _, .refl _, .refl _, Ent.wrap (by omega) (by omega) (by omega), trivial⟩ rfl
  · have hk1 : X.length ≤ k := ge_dec h rfl
    rw [List.drop_eq_nil_of_le hk1, List.append_nil]
    refine R_shrinkO hg.ok (irows (B.map (·.1))) rfl rfl rfl rfl rfl rfl rfl rfl rfl rfl (Int.natCast_nonneg _) (by rw [irows_length, hlen]; omega) (by rw [hk0, irows_take, List.map_append, List.take_left' (by simp)]) ?_
    refine R_run hg.ok 1000 rfl rfl ?_
    have hs : Nat.succ ((B ++ X).length + d) = B.length + (X.length + d + 1) := by rw [List.length_append]; omega
    rw [hs]
    refine R_endS hg 3 5 (Nat.le_refl _) rfl rfl ?_
    show [_, mapOb _ (.map (imap (tmM B))), _] = _
    rw [tmM_mapOb (fun t => rfl)]; rfl
end Go.Proofs.Ytppghekipbnjhaa

namespace PSL
open Go Go.RowKit Go.MapKept
def inR (x : Int) : Bool := decide (-9223372036854775808 ≤ x) && decide (x ≤ 9223372036854775807)
def chk (x : Int) : Int × Bool := if inR x then (x, true) else (0, false)
namespace Tm
theorem Fit.sub {t x : Tm} (h : t.Fit) (hx : x ∈ t.l) : x.Fit := fun d e he => h (d - 1) e (by rw [els_eq]; exact List.mem_cons_of_mem _ (els_memL hx (by rw [Int.sub_add_cancel]; exact he)))
end Tm
end PSL
namespace PSL
open Go
end PSL
namespace PSL
open Go Go.RowKit

/-- A call that makes objects of its own. -/
theorem R_callNew {g : G} {pf : Nat → Cls} {ops : Array Oper} {Fin : Exit → Act → World → Prop} (hg : GOk g) (hu : GUp g) (hF : g.F = Fence.wide ∧ g.dep = 0) (hY : ∀ (i l : Nat) (I : Nat → (Nat → Prop) → (Nat → Prop) → World → Prop) (B : Nat → Prop), g.φ0[i]? = some (Phy.ext l I B) → YStep g.P Fence.wide 0 g.Y l I g.S0) (objs' : List Ob) {Y : YP} {f : Nat} {axs : List AV} {objs1 : List Ob} {r : AV} (hc : SCtr g.P Y f axs [] r objs1) (hcc : (∃ (i l : Nat) (I : Nat → (Nat → Prop) → (Nat → Prop) → World → Prop) (B : Nat → Prop), g.φ0[i]? = some (Phy.ext l I B)) → Y = g.Y) {dst : Option Nat} {x : Operand} {args : Array Operand} {ts : Array Nat} {ty : Nat} {pos : String} {after : Array Edge} {gd : Option (Nat × Bool)}
    {rest : List Oper} {k : List It} {E : Env} {objs : List Ob} {fs cs : List AV}
    (hgd : guardA ops.toList E gd = some true) (hd : dstOk ⟨g.ty, g.N⟩ dst = true) (hcl : clsOf pf (.call { callee := .value x, args := args, argTypes := ts }) = .turn 0) (hx : ev E x = .clo f fs cs)
    (has : (fs ++ args.toList.map (ev E) ++ cs).map nrm = renL (rn [] (len objs)) axs) (ho : objs ++ objs1.map (renOb (rn [] (len objs))) = objs')
    (hr : R g pf Fin (.dr ops rest :: k) (putO E dst (renA (rn [] (len objs)) r)) objs') :
    R g pf Fin (.dr ops (⟨dst, .call { callee := .value x, args := args, argTypes := ts }, ty, pos, after, gd⟩ :: rest) :: k) E objs := by
  subst ho
  refine R_op ?_ hr
  show LocOp g ops _ E objs (clsOf pf (.call { callee := .value x, args := args, argTypes := ts })) _ _
  rw [hcl]
  have h := loc_callS (ops := ops) (after := after) (pos := pos) (ty := ty) (ts := ts) (dst := dst) hg hu hF hY [] hc hcc hgd hd hx rfl rfl has
  refine ⟨fun hn => absurd rfl (hn 0), fun b hb _ => ?_, fun E₁ o₁ o₁' a w h1 h2 h3 => h.step E₁ o₁ o₁' a w h1 (by
    rcases h2 with ⟨h2, _⟩ | ⟨m, h2, _⟩ | h2
    · cases h2
    · cases h2
    · exact .inr (.inr h2)) h3⟩
  cases hb
  exact .add _ _
end PSL
namespace PSL
open Go Go.RowKit
end PSL

namespace Go.Proofs.Ytppghekipbnjhaa
open Go PSL Go.Proofs

theorem uobd_keep (d : Nat) (B : Binds) (o : List Ob) : (uobd d B).map (mapOb (sealT false 3 o 5)) = uobd d B := by
  simp only [uobd, List.map_cons, List.map_nil]
  rw [tmM_mapOb (fun t => rfl)]; rfl

theorem bind_snoc4 {B : Binds} {k : Nat} {b : Int × Tm} (h : B[k]? = some b) : bindRows (B.take k) ++ [[.v (.int .i64 b.1), .v (.int .i64 b.2.k), .v (.string b.2.s), .v (.int .i64 b.2.n), .sl (Tm.rows b.2.l)]] = bindRows (B.take (k + 1)) := by
  rw [List.take_add_one, h]; simp [bindRows, bindRow, Tm.row]
def uaft (ok : Bool) (d : Nat) (B X : Binds) : List Ob := if ok then uobd d (B ++ X) else uobd (X.length + d + 1) B

set_option maxRecDepth 100000 in
theorem unjDo_ok (Y : YP) (d : Nat) {S : List Int} {N : Nat} (hS : S.length ≤ 100) (hN : N ≤ 100) (B X : Binds) (ok : Bool) (a b : Tm) (n0 : Nat) (h0 : Tm.UState S N a n0 [(a, b)] B [] (B ++ X) ok) (hn : ((B ++ X).map (·.1)).Nodup) (hl : (B ++ X).length ≤ 1000000) (ha : a.rightB = true) (hb : b.rightB = true) (na : ∀ e ∈ a.els 1, e.2.s.size < 1000000000) (nb : ∀ e ∈ b.els 1, e.2.s.size < 1000000000) : SCtr Try.prog Y 46 [.lo 0 0, a.av, b.av] (uobd d B) (.tup [bV ok, iV 0]) (uaft ok d B X) := by
  have sa : a.size ≤ 3000 := (Tm.rightB_iff.1 ha).2.1
  have sb : b.size ≤ 3000 := (Tm.rightB_iff.1 hb).2.1
  refine SCtr.of_R (pf := fun _ => .eff) tyOk mixed Try.func46 rfl (by kernel_rfl) (by kernel_rfl) (by simp [Try.ntmps46]) (by unfold uaft; cases ok <;> simp [uobd]) fun w S φ hg => ?_
  have hφ : φ.length = 3 := hg.hs0.len
  refine R_run hg.ok 1000 rfl rfl ?_
  refine R_eqNil hg.ok Try.underlying66 rfl rfl rfl ?_
  refine R_run hg.ok 1000 rfl rfl ?_
  refine R_if rfl rfl (fun h => absurd h (by simp)) (fun _ => ?_) <;> refine R_run hg.ok 1000 rfl rfl ?_
  refine R_call hg.ok (right_ok a (by omega) na) rfl rfl rfl rfl rfl rfl ?_
  refine R_run hg.ok 1000 rfl rfl ?_
  rw [rightT_eq, ha]
  refine R_if rfl rfl (fun h => absurd h (by simp)) (fun _ => ?_) <;> refine R_run hg.ok 1000 rfl rfl ?_
  refine R_call hg.ok (right_ok b (by omega) nb) rfl rfl rfl rfl rfl rfl ?_
  refine R_run hg.ok 1000 rfl rfl ?_
  rw [rightT_eq, hb]
  refine R_if rfl rfl (fun h => absurd h (by simp)) (fun _ => ?_) <;> refine R_run hg.ok 1000 rfl rfl ?_
  refine R_lenO hg.ok rfl rfl rfl rfl rfl (n := (B.length : Int)) (by rw [irows_length]; simp) ?_
  refine R_run hg.ok 1000 rfl rfl ?_
  refine R_callSO hg.ok hg.gup hg.wide hg.Y [0, 1, 2] (uobd d (B ++ X) ++ [boxR a, boxR b]) (unjLoop_ok Y d hS hN B (B ++ X) ok a b n0 h0) (fun _ => rfl) rfl rfl rfl rfl rfl (by rw [uobd_ren]; rfl) rfl (by rw [uobd_ren]; rfl) ?_
  refine R_run hg.ok 1000 rfl rfl ?_
  cases ok with
  | true =>
    refine R_if rfl rfl (fun _ => ?_) (fun h => absurd h (by simp)) <;> refine R_run hg.ok 1000 rfl rfl ?_
    exact R_retS hg 3 5 (Nat.le_refl _) rfl rfl (uobd_keep d (B ++ X) _)
  | false =>
    refine R_if rfl rfl (fun h => absurd h (by simp)) (fun _ => ?_) <;> refine R_run hg.ok 1000 rfl rfl ?_
    refine R_callSO hg.ok hg.gup hg.wide hg.Y [0, 1, 2] (uobd (X.length + d + 1) B ++ [boxR a, boxR b]) (unjUndo_ok Y d B X hn hl) (fun _ => rfl) rfl rfl rfl rfl rfl (by rw [uobd_ren]; rfl) rfl (by rw [uobd_ren]; rfl) ?_
    refine R_run hg.ok 1000 rfl rfl ?_
    exact R_retS hg 3 5 (Nat.le_refl _) rfl rfl (uobd_keep (X.length + d + 1) B _)

set_option maxRecDepth 100000 in
theorem unjNot_ok (Y : YP) (d : Nat) (B : Binds) (a b : Tm) (hr : (a.rightB && b.rightB) = false) (sa : a.size < 1000000000) (sb : b.size < 1000000000) (na : ∀ e ∈ a.els 1, e.2.s.size < 1000000000) (nb : ∀ e ∈ b.els 1, e.2.s.size < 1000000000) : SCtr Try.prog Y 46 [.lo 0 0, a.av, b.av] (uobd d B) (.tup [bV false, iV 1]) (uobd d B) := by
  refine SCtr.of_R (pf := fun _ => .eff) tyOk mixed Try.func46 rfl (by kernel_rfl) (by kernel_rfl) (by simp [Try.ntmps46]) (by simp [uobd]) fun w S φ hg => ?_
  have hφ : φ.length = 3 := hg.hs0.len
  refine R_run hg.ok 1000 rfl rfl ?_
  refine R_eqNil hg.ok Try.underlying66 rfl rfl rfl ?_
  refine R_run hg.ok 1000 rfl rfl ?_
  refine R_if rfl rfl (fun h => absurd h (by simp)) (fun _ => ?_) <;> refine R_run hg.ok 1000 rfl rfl ?_
  refine R_call hg.ok (right_ok a sa na) rfl rfl rfl rfl rfl rfl ?_
  refine R_run hg.ok 1000 rfl rfl ?_
  rw [rightT_eq]
  cases ha : a.rightB with
  | false =>
    refine R_if rfl rfl (fun _ => ?_) (fun h => absurd h (by simp)) <;> refine R_run hg.ok 1000 rfl rfl ?_
    exact R_retS hg 3 5 (Nat.le_refl _) rfl rfl (uobd_keep d B _)
  | true =>
    rw [ha, Bool.true_and] at hr
    refine R_if rfl rfl (fun h => absurd h (by simp)) (fun _ => ?_) <;> refine R_run hg.ok 1000 rfl rfl ?_
    refine R_call hg.ok (right_ok b sb nb) rfl rfl rfl rfl rfl rfl ?_
    refine R_run hg.ok 1000 rfl rfl ?_
    rw [rightT_eq, hr]
    refine R_if rfl rfl (fun _ => ?_) (fun h => absurd h (by simp)) <;> refine R_run hg.ok 1000 rfl rfl ?_
    exact R_retS hg 3 5 (Nat.le_refl _) rfl rfl (uobd_keep d B _)

set_option maxRecDepth 100000 in
theorem unjBinds_ok (Y : YP) (d : Nat) (B : Binds) (hc : (B.map (·.1)).Nodup) (hl : B.length < 1000000) : SCtr Try.prog Y 73 [.lo 0 0] (uobd d B) (.d (.sl (bindRows B))) (uobd d B) := by
  refine SCtr.of_R (pf := fun _ => .eff) tyOk mixed Try.func73 rfl (by kernel_rfl) (by kernel_rfl) (by simp [Try.ntmps73]) (by simp [uobd]) fun w S φ hg => ?_
  have hφ : φ.length = 3 := hg.hs0.len
  first
  | (refine R_run hg.ok 1 rfl rfl ?_; refine R_own 3 5 rfl rfl ?_)
  | (refine R_run hg.ok 2 rfl rfl ?_; refine R_own 3 5 rfl rfl ?_)
  | (refine R_run hg.ok 3 rfl rfl ?_; refine R_own 3 5 rfl rfl ?_)
  | (refine R_run hg.ok 4 rfl rfl ?_; refine R_own 3 5 rfl rfl ?_)
  | (refine R_run hg.ok 5 rfl rfl ?_; refine R_own 3 5 rfl rfl ?_)
  | (refine R_run hg.ok 6 rfl rfl ?_; refine R_own 3 5 rfl rfl ?_)
  refine R_run hg.ok 1000 rfl rfl ?_
  refine R_lenO hg.ok rfl rfl rfl rfl rfl (n := (B.length : Int)) (by rw [irows_length]; simp) ?_
  refine R_run hg.ok 1000 rfl rfl ?_
  refine R_loop (fun k : Nat => ([(0, .lo 0 0), (3, .ow 3 k), (9, .ow 2 (B.length + d)), (10, iV B.length), (11, iV k)], uobd d B ++ [.arr 5 k (bindRows (B.take k))])) (fun k => k ≤ B.length) (fun k => B.length - k) 0 (Nat.zero_le _) ⟨.refl _, .refl _, .refl _, .refl _, .refl _, trivial⟩ rfl ?_
  rintro k hk
  refine R_run hg.ok 1000 rfl rfl ?_
  refine R_if rfl rfl (fun h => ?_) (fun h => ?_) <;> refine R_run hg.ok 1000 rfl rfl ?_
  · have hk1 : k < B.length := lt_dec h rfl
    have e1 : B[k]? = some B[k] := List.getElem?_eq_getElem hk1
    generalize B[k] = c at e1
    have hrow : (irows (B.map (·.1)))[((k : Nat) : Int).toNat]? = some [.v (.int .i64 c.1)] := by
      rw [Int.toNat_natCast]; exact irows_get (by rw [List.getElem?_map, e1]; rfl)
    refine R_indexO hg.ok rfl rfl rfl rfl rfl rfl rfl rfl rfl (Int.natCast_nonneg k) (by rw [irows_length]; simpa using hk1) ?_
    refine R_run hg.ok 1000 rfl rfl ?_
    refine R_loadE hg.ok rfl rfl rfl rfl rfl rfl hrow rfl ?_
    refine R_run hg.ok 1000 rfl rfl ?_
    refine R_lookupI hg.ok (tmM B) rfl rfl rfl rfl rfl rfl rfl (zv := zTmV) (by kernel_rfl) (v := c.2.av) (by rw [getI_tm, Tm.find_nodup hc (List.mem_of_getElem? e1)]; rfl) ?_
    refine R_run hg.ok 1000 rfl rfl ?_
    refine R_appendO hg.ok (bindRows (B.take (k + 1))) rfl rfl rfl rfl rfl rfl rfl rfl rfl (by simp) (by simp [one1]) (bind_snoc4 e1) (by rw [bindRows_len]; simp; omega) (by rw [bindRows_len]; simp; omega) ?_
    refine R_run hg.ok 1000 rfl rfl ?_
    exact R_next (k + 1) hk1 (by omega) ⟨.refl _, .refl _, .refl _, .refl _, Ent.wrap (by omega) (by omega) (by omega), trivial⟩ rfl
  · have hk1 : B.length ≤ k := ge_dec h rfl
    rw [List.take_of_length_le hk1]
    exact R_retS hg 3 5 (Nat.le_refl _) rfl (sealT_ow rfl rfl) (uobd_keep d B _)

theorem uobd_ren2 (d : Nat) (B : Binds) (n : Nat) : (uobd d B).map (renOb (rn [3, 2, 4] n)) = [.box [.mp 2, .ow 4 (B.length + d)], .map (imap (tmM B)), .arr 1 (B.length + d) (irows (B.map (·.1)))] := by
  have e : (renOb (rn [3, 2, 4] n)) = mapOb (renA (rn [3, 2, 4] n)) := by funext o; cases o <;> simp [renOb, mapOb, renL_map]
  rw [e]
  simp only [uobd, List.map_cons, List.map_nil]
  rw [tmM_mapOb (fun t => rfl)]; rfl
def pfMgj : Nat → Cls := fun f => bif Nat.beq f 44 then .turn 0 else .eff

set_option maxRecDepth 100000 in
theorem mgj_ok {S : List Int} {N : Nat} (hS : S.length ≤ 100) (hN : N ≤ 100) (B' : Binds) (ok : Bool) (a b : Tm) (n0 : Nat) (h0 : Tm.UState S N a n0 [(a, b)] [] [] B' ok) (hn : (B'.map (·.1)).Nodup) (hl : B'.length < 1000000) (ha : a.rightB = true) (hb : b.rightB = true) (na : ∀ e ∈ a.els 1, e.2.s.size < 1000000000) (nb : ∀ e ∈ b.els 1, e.2.s.size < 1000000000) : PCtr Try.prog 34 [a.av, b.av] (.tup [.d (.sl (if ok then bindRows B' else [])), bV ok, iV 0]) := by
  refine PCtr.of_R (pf := pfMgj) tyOk mixed Try.func34 rfl (by kernel_rfl) (by kernel_rfl) (by simp [Try.ntmps34]) fun w S hg => ?_
  refine R_run hg.ok 1000 rfl rfl ?_
  refine R_callNew hg.ok hg.gup ⟨rfl, rfl⟩ (fun _ _ _ _ h => by cases h) [boxR a, boxR b, .map [], .box [.mp 2, .d (.v (.slice none 0 0))]] (uniNew_ok ⟨[], fun _ => true⟩) (fun _ => rfl) rfl rfl rfl rfl rfl rfl ?_
  first
  | (refine R_run hg.ok 1 rfl rfl ?_; refine R_ownB 3 1 1 rfl rfl rfl ?_)
  | (refine R_run hg.ok 2 rfl rfl ?_; refine R_ownB 3 1 1 rfl rfl rfl ?_)
  | (refine R_run hg.ok 3 rfl rfl ?_; refine R_ownB 3 1 1 rfl rfl rfl ?_)
  | (refine R_run hg.ok 4 rfl rfl ?_; refine R_ownB 3 1 1 rfl rfl rfl ?_)
  | (refine R_run hg.ok 5 rfl rfl ?_; refine R_ownB 3 1 1 rfl rfl rfl ?_)
  | (refine R_run hg.ok 6 rfl rfl ?_; refine R_ownB 3 1 1 rfl rfl rfl ?_)
  refine R_run hg.ok 1000 rfl rfl ?_
  have hcall := unjDo_ok ⟨[], fun _ => true⟩ 0 hS hN [] B' ok a b n0 h0 hn (by simp; omega) ha hb na nb
  cases ok with
  | true =>
    refine R_callSO hg.ok hg.gup ⟨rfl, rfl⟩ (fun _ _ _ _ h => by cases h) [3, 2, 4] [boxR a, boxR b, .map (imap (tmM B')), .box [.mp 2, .ow 4 (B'.length + 0)], .arr 1 (B'.length + 0) (irows (B'.map (·.1)))] hcall (fun _ => rfl) rfl rfl rfl rfl rfl (by rw [uobd_ren2]; rfl) rfl (by rw [show uaft true 0 [] B' = uobd 0 B' from rfl, uobd_ren2]; rfl) ?_
    refine R_run hg.ok 1000 rfl rfl ?_
    refine R_if rfl rfl (fun h => absurd h (by simp)) (fun _ => ?_) <;> refine R_run hg.ok 1000 rfl rfl ?_
    refine R_if rfl rfl (fun h => absurd h (by simp)) (fun _ => ?_) <;> refine R_run hg.ok 1000 rfl rfl ?_
    refine R_callSO hg.ok hg.gup ⟨rfl, rfl⟩ (fun _ _ _ _ h => by cases h) [3, 2, 4] [boxR a, boxR b, .map (imap (tmM B')), .box [.mp 2, .ow 4 (B'.length + 0)], .arr 1 (B'.length + 0) (irows (B'.map (·.1)))] (unjBinds_ok ⟨[], fun _ => true⟩ 0 B' hn hl) (fun _ => rfl) rfl rfl rfl rfl rfl (by rw [uobd_ren2]; rfl) rfl (by rw [uobd_ren2]; rfl) ?_
    refine R_run hg.ok 1000 rfl rfl ?_
    refine R_ret hg 5 rfl rfl ?_
    rfl
  | false =>
    refine R_callSO hg.ok hg.gup ⟨rfl, rfl⟩ (fun _ _ _ _ h => by cases h) [3, 2, 4] [boxR a, boxR b, .map (imap (tmM [])), .box [.mp 2, .ow 4 (B'.length + 0 + 1)], .arr 1 (B'.length + 0 + 1) []] hcall (fun _ => rfl) rfl rfl rfl rfl rfl (by rw [uobd_ren2]; rfl) rfl (by rw [show uaft false 0 [] B' = uobd (B'.length + 0 + 1) [] from rfl, uobd_ren2, List.length_nil, Nat.zero_add]; rfl) ?_
    refine R_run hg.ok 1000 rfl rfl ?_
    refine R_if rfl rfl (fun h => absurd h (by simp)) (fun _ => ?_) <;> refine R_run hg.ok 1000 rfl rfl ?_
    refine R_if rfl rfl (fun _ => ?_) (fun h => absurd h (by simp)) <;> refine R_run hg.ok 1000 rfl rfl ?_
    refine R_ret hg 5 rfl rfl ?_
    rfl
end Go.Proofs.Ytppghekipbnjhaa

namespace PSL
open Go
namespace Tm

def needF (B : Binds) : Nat → List Int → Binds → Option Binds
  | 0, _, _ => none
  | _ + 1, [], Q => some Q
  | n + 1, v :: R, Q => match findB B v with
    | none => needF B n R Q
    | some x => if (Q.map (·.1)).contains v then needF B n R Q else needF B n (R ++ varsT [x]) (Q ++ [(v, x)])

theorem need_ends (B : Binds) : ∀ (u : Nat) (Q : Binds), (B.countP fun b => !(Q.map (·.1)).contains b.1) ≤ u → ∀ R, ∃ n Q', needF B n R Q = some Q'
  | u, Q, hu, [] => ⟨1, Q, rfl⟩
  | u, Q, hu, v :: R => by
    cases hx : findB B v with
    | none =>
      obtain ⟨n, Q', h⟩ := need_ends B u Q hu R
      exact ⟨n + 1, Q', by simp only [needF, hx]; exact h⟩
    | some x =>
      cases hc : (Q.map (·.1)).contains v with
      | true =>
        obtain ⟨n, Q', h⟩ := need_ends B u Q hu R
        exact ⟨n + 1, Q', by simp only [needF, hx]; rw [if_pos hc]; exact h⟩
      | false =>
        have hlt := count_lt hx hc
        match u, hu with
        | 0, hu => omega
        | u + 1, hu =>
          obtain ⟨n, Q', h⟩ := need_ends B u (Q ++ [(v, x)]) (by rw [List.map_append]; simp only [List.map_cons, List.map_nil]; omega) (R ++ varsT [x])
          exact ⟨n + 1, Q', by simp only [needF, hx]; rw [if_neg (by rw [hc]; simp)]; exact h⟩
termination_by u _ _ R => (u, R.length)

/-- What holds on the way. -/
structure NeedI (B : Binds) (W : List Int) (R : List Int) (Q : Binds) : Prop where
  nodup : (Q.map (·.1)).Nodup
  look : ∀ b ∈ Q, findB B b.1 = some b.2
  all : ∀ v, (v ∈ W ∨ ∃ b ∈ Q, v ∈ occ b.2) → findB B v = none ∨ v ∈ Q.map (·.1) ∨ v ∈ R

theorem NeedI.first (B : Binds) (W : List Int) : NeedI B W W [] := ⟨by simp, by simp, fun v h => by
  rcases h with h | ⟨b, hb, _⟩
  · exact .inr (.inr h)
  · cases hb⟩

theorem NeedI.skip {B : Binds} {W R : List Int} {Q : Binds} {v : Int} (h : NeedI B W (v :: R) Q) (hv : findB B v = none ∨ v ∈ Q.map (·.1)) : NeedI B W R Q := ⟨h.nodup, h.look, fun u hu => by
  rcases h.all u hu with h1 | h1 | h1
  · exact .inl h1
  · exact .inr (.inl h1)
  · rcases List.mem_cons.1 h1 with rfl | h1
    · rcases hv with hv | hv
      · exact .inl hv
      · exact .inr (.inl hv)
    · exact .inr (.inr h1)⟩

theorem NeedI.more {B : Binds} (hB : ∀ b ∈ B, b.2.fairR = true) {W R : List Int} {Q : Binds} {v : Int} {x : Tm} (h : NeedI B W (v :: R) Q) (hx : findB B v = some x) (hv : v ∉ Q.map (·.1)) : NeedI B W (R ++ varsT [x]) (Q ++ [(v, x)]) := by
  have hf : fairRL [x] = true := fairRL_iff.2 fun t ht => by
    rw [List.mem_singleton] at ht; subst ht; exact hB _ (findB_mem hx)
  refine ⟨?_, fun b hb => ?_, fun u hu => ?_⟩
  · rw [List.map_append, List.nodup_append]
    refine ⟨h.nodup, by simp, fun a ha b hb => ?_⟩
    simp only [List.map_cons, List.map_nil, List.mem_singleton] at hb
    subst hb
    exact fun e => hv (e ▸ ha)
  · rcases List.mem_append.1 hb with hb | hb
    · exact h.look b hb
    · rw [List.mem_singleton] at hb; subst hb; exact hx
  · have key : (u ∈ W ∨ ∃ b ∈ Q, u ∈ occ b.2) ∨ u ∈ occ x := by
      rcases hu with hu | ⟨b, hb, hu⟩
      · exact .inl (.inl hu)
      · rcases List.mem_append.1 hb with hb | hb
        · exact .inl (.inr ⟨b, hb, hu⟩)
        · rw [List.mem_singleton] at hb; subst hb; exact .inr hu
    rcases key with hu | hu
    · rcases h.all u hu with h1 | h1 | h1
      · exact .inl h1
      · exact .inr (.inl (by rw [List.map_append]; exact List.mem_append.2 (.inl h1)))
      · rcases List.mem_cons.1 h1 with rfl | h1
        · exact .inr (.inl (by rw [List.map_append]; exact List.mem_append.2 (.inr (by simp))))
        · exact .inr (.inr (List.mem_append.2 (.inl h1)))
    · refine .inr (.inr (List.mem_append.2 (.inr ((varsT_mem hf).2 ?_))))
      simpa [occL] using hu

theorem need_ok {B : Binds} (hB : ∀ b ∈ B, b.2.fairR = true) {W : List Int} : ∀ (n : Nat) (R : List Int) (Q Q' : Binds), needF B n R Q = some Q' → NeedI B W R Q → NeedI B W [] Q'
  | 0, _, _, _, h, _ => by simp [needF] at h
  | n + 1, [], Q, Q', h, hI => by simp only [needF, Option.some.injEq] at h; subst h; exact hI
  | n + 1, v :: R, Q, Q', h, hI => by
    simp only [needF] at h
    split at h
    · rename_i hx; exact need_ok hB n _ _ _ h (hI.skip (.inl hx))
    · rename_i x hx
      split at h
      · rename_i hc; exact need_ok hB n _ _ _ h (hI.skip (.inr (by simpa using hc)))
      · rename_i hc; exact need_ok hB n _ _ _ h (hI.more hB hx (by simpa using hc))

theorem find_cases {Q : Binds} {v : Int} (h : v ∈ Q.map (·.1)) : ∃ x, findB Q v = some x := by
  cases hq : findB Q v with
  | some x => exact ⟨x, rfl⟩
  | none =>
    obtain ⟨b, hb, rfl⟩ := List.mem_map.1 h
    exact absurd rfl (findB_none_iff.1 hq b hb)

/-- Those binds do what all do. -/
theorem need_full {S : List Int} {N : Nat} {B Q : Binds} (hB : UG S N [] B) {W : List Int} (hI : NeedI B W [] Q) : Sub Q Q.length ∧ Q.length ≤ B.length ∧ (∀ b ∈ Q, b ∈ B) ∧ ∀ t, t.fairR = true → (∀ u ∈ occ t, u ∈ W) → fullS Q Q.length t = fullS B B.length t := by
  obtain ⟨σ, hσ⟩ := hB.sol
  obtain ⟨ρ, hρ⟩ := sol_rank hσ hB.chain
  have hQB : ∀ b ∈ Q, b ∈ B := fun b hb => findB_mem (hI.look b hb)
  have hlook : ∀ u x, findB Q u = some x → findB B u = some x := fun u x h => hI.look (u, x) (findB_mem h)
  have hS : Sub Q Q.length := sub_rank (ρ := ρ) (fun b hb => (hB.fairb b (hQB b hb)).1) fun b hb u hu hq => hρ b (hQB b hb) u hu fun e => by
    cases hx : findB Q u with
    | none => exact hq hx
    | some x => rw [hlook u x hx] at e; cases e
  have hl : Q.length ≤ B.length := by
    have := nodup_bound (B := B) hI.nodup fun m hm => by
      obtain ⟨x, hx⟩ := find_cases hm
      rw [hlook _ _ hx]; simp
    simpa using this
  have key : ∀ M t, (∀ u ∈ occ t, findB Q u = findB B u) → fullS Q M t = fullS B M t := by
    have hcl : ∀ b ∈ Q, ∀ u ∈ occ b.2, findB Q u = findB B u := fun b hb u hu => by
      rcases hI.all u (.inr ⟨b, hb, hu⟩) with h1 | h1 | h1
      · rw [h1]
        cases hx : findB Q u with
        | none => rfl
        | some x => rw [hlook u x hx] at h1; cases h1
      · obtain ⟨x, hx⟩ := find_cases h1
        rw [hx, hlook u x hx]
      · cases h1
    intro M
    induction M with
    | zero => intro t _; rfl
    | succ M ih =>
      intro t ht
      simp only [fullS]
      refine putF_congr t fun u hu => ?_
      rw [ht u hu]
      cases hx : findB B u with
      | none => rfl
      | some x =>
        have hq : findB Q u = some x := by rw [ht u hu, hx]
        exact ih x fun z hz => hcl (u, x) (findB_mem hq) z hz
  refine ⟨hS, hl, hQB, fun t hf ht => ?_⟩
  rw [← full_stable hS.fair Q.length t hf (hS.lev t) B.length hl]
  refine key _ t fun u hu => ?_
  rcases hI.all u (.inl (ht u hu)) with h1 | h1 | h1
  · rw [h1]
    cases hx : findB Q u with
    | none => rfl
    | some x => rw [hlook u x hx] at h1; cases h1
  · obtain ⟨x, hx⟩ := find_cases h1
    rw [hx, hlook u x hx]
  · cases h1
theorem UG.sub_ {S : List Int} {N : Nat} {T : List (Tm × Tm)} {B : Binds} (h : UG S N T B) : Sub B B.length := h.sol.elim fun _ hs => sub_sol hs h.chain h.fairb

theorem UG.right {S : List Int} {N : Nat} (hN : N ≤ 100) {T : List (Tm × Tm)} {B : Binds} (h : UG S N T B) : rightS B = true := by
  refine rightS_of h.sub_ h.chain.nodup fun b hb => ?_
  obtain ⟨h1, h2, h3⟩ := h.fairb b hb
  have h4 := h.sb b hb
  have h5 := Tm.depth_le_size b.2
  exact ⟨h2, h3, Tm.rightB_iff.2 ⟨h1, by omega, by omega⟩⟩

theorem need_right {S : List Int} {N : Nat} (hN : N ≤ 100) {B Q : Binds} (hB : UG S N [] B) {W : List Int} (hI : NeedI B W [] Q) : rightS Q = true := by
  obtain ⟨h1, _, h3, _⟩ := need_full hB hI
  refine rightS_of h1 hI.nodup fun b hb => ?_
  have hb := h3 b hb
  obtain ⟨h1, h2, h3⟩ := hB.fairb b hb
  have h4 := hB.sb b hb
  have h5 := Tm.depth_le_size b.2
  exact ⟨h2, h3, Tm.rightB_iff.2 ⟨h1, by omega, by omega⟩⟩

theorem need_apply {S : List Int} {N : Nat} (hN : N ≤ 100) {B Q : Binds} (hB : UG S N [] B) {W : List Int} (hI : NeedI B W [] Q) {t : Tm} (ht : t.rightB = true) (hW : ∀ u ∈ occ t, u ∈ W) : applyT Q Q.length t = app3 (fullS B B.length t) := by
  rw [applyT_app3 (need_right hN hB hI) ht, (need_full hB hI).2.2.2 t (right_fair ht) hW]
end Tm
end PSL

namespace Go.Proofs.Ytppghekipbnjhaa
open Go PSL Go.Proofs

set_option maxRecDepth 100000 in
theorem place_ok (l : Binds) (v : Int) (hl : l.length < 1000000000) : PCtr Try.prog 76 [.d (.sl (bindRows l)), iV v] (iV (placeB l v)) := by
  refine PCtr.of_R (pf := fun _ => .still) tyOk mixed Try.func76 rfl (by kernel_rfl) (by kernel_rfl) (by simp [Try.ntmps76]) fun w S hg => ?_
  refine R_run hg.ok 1000 rfl rfl ?_
  refine R_loop (fun k : Nat => ([(0, .d (.sl (bindRows l))), (1, iV v), (5, iV k)], [])) (fun k => k ≤ l.length ∧ placeB l v = atI ((l.drop k).map (·.1)) v k) (fun k => l.length - k) 0 ⟨Nat.zero_le _, rfl⟩ ⟨.refl _, .refl _, .refl _, trivial⟩ rfl ?_
  rintro k ⟨hk, hm⟩
  refine R_run hg.ok 1000 rfl rfl ?_
  refine R_if rfl rfl (fun h => ?_) (fun h => ?_) <;> refine R_run hg.ok 1000 rfl rfl ?_
  · have hk1 : k < l.length := lt_dec h (by rw [bindRows_len])
    have e1 : l[k]? = some l[k] := List.getElem?_eq_getElem hk1
    rw [List.drop_eq_getElem_cons hk1, List.map_cons, atI] at hm
    refine R_index hg.ok rfl rfl rfl rfl rfl rfl (Int.natCast_nonneg k) (bindRows_get e1) rfl ?_
    refine R_run hg.ok 1000 rfl rfl ?_
    refine R_if rfl rfl (fun h => ?_) (fun h => ?_) <;> refine R_run hg.ok 1000 rfl rfl ?_
    · refine R_ret hg 5 rfl rfl ?_
      rw [hm, if_pos (by simpa using h)]; rfl
    · rw [if_neg (by simpa using h)] at hm
      exact R_next (k + 1) ⟨hk1, hm⟩ (by omega) ⟨.refl _, .refl _, Ent.wrap (by omega) (by omega) (by omega), trivial⟩ rfl
  · have hk1 : l.length ≤ k := ge_dec h (by rw [bindRows_len])
    refine R_ret hg 5 rfl rfl ?_
    rw [hm, List.drop_eq_nil_of_le hk1]; rfl
end Go.Proofs.Ytppghekipbnjhaa

namespace Go.Proofs.Ytppghekipbnjhaa
open Go PSL Go.Proofs

set_option maxRecDepth 100000 in
theorem index_ok (B : Binds) (hl : B.length < 1000000000) : PCtr Try.prog 78 [.d (.sl (bindRows B))] (.d (.map (dmI (ixM (B.map (·.1)))))) := by
  refine PCtr.of_R (pf := fun _ => .eff) tyOk mixed Try.func78 rfl (by kernel_rfl) (by kernel_rfl) (by simp [Try.ntmps78]) fun w S hg => ?_
  refine R_run hg.ok 1000 rfl rfl ?_
  refine R_makeMap hg.ok rfl rfl ?_
  refine R_run hg.ok 1000 rfl rfl ?_
  refine R_loop (fun x : Nat × List (Int × AV) => ([(3, .mp 0), (9, .d (.sl (bindRows B))), (10, iV B.length), (11, iV x.1)], [.map (imap x.2)])) (fun x => x.1 ≤ B.length ∧ ixM (B.map (·.1)) = ixGo ((B.map (·.1)).drop x.1) x.1 x.2 ∧ ∀ p ∈ x.2, ∃ n, p.2 = iV n) (fun x => B.length - x.1) (0, []) ⟨Nat.zero_le _, rfl, by simp⟩ ⟨.refl _, .refl _, Ent.int (by rw [bindRows_len]), .refl _, trivial⟩ rfl ?_
  rintro ⟨k, A⟩ ⟨hk, hm, hA⟩
  simp only at hk hm hA
  refine R_run hg.ok 1000 rfl rfl ?_
  refine R_if rfl rfl (fun h => ?_) (fun h => ?_)
  rotate_left
  · have hk1 : B.length ≤ k := ge_dec h rfl
    rw [List.drop_eq_nil_of_le (by simpa using hk1), ixGo] at hm
    rw [hm]
    refine R_freezeM hg.gup 0 (dmI A) (Nat.zero_le _) (by rw [dmI_map hA]; rfl) rfl ?_
    refine R_run hg.ok 1000 rfl rfl ?_
    refine R_ret hg 5 rfl rfl ?_
    rfl
  refine R_run hg.ok 1000 rfl rfl ?_
  have hk1 : k < B.length := lt_dec h rfl
  have e1 : B[k]? = some B[k] := List.getElem?_eq_getElem hk1
  rw [List.drop_eq_getElem_cons (by simpa using hk1), List.getElem_map, ixGo] at hm
  refine R_index hg.ok rfl rfl rfl rfl rfl rfl (Int.natCast_nonneg _) (bindRows_get e1) rfl ?_
  refine R_run hg.ok 1000 rfl rfl ?_
  cases hf : getI A B[k].1 with
  | some x =>
    rw [hf] at hm
    refine R_lookupI hg.ok A rfl rfl rfl rfl rfl rfl rfl (zv := .int .i64 0) (by kernel_rfl) (v := .tup [x, bV true]) (by rw [hf]; rfl) ?_
    obtain ⟨n, rfl⟩ := getI_iv hA hf
    refine R_run hg.ok 1000 rfl rfl ?_
    refine R_if rfl rfl (fun h => absurd h (by simp)) (fun _ => ?_) <;> refine R_run hg.ok 1000 rfl rfl ?_
    refine R_dropO 1 [.map (imap A)] (Nat.zero_le _) rfl (by show [mapOb _ (.map (imap A))] = _; rw [mapOb_iv (fun _ => rfl) hA]) ?_
    exact R_next (k + 1, A) ⟨hk1, hm, hA⟩ (by simp only; omega) ⟨.refl _, .refl _, .refl _, Ent.wrap (by simp only; omega) (by simp only; omega) (by simp only; omega), trivial⟩ rfl
  | none =>
    rw [hf] at hm
    refine R_lookupI hg.ok A rfl rfl rfl rfl rfl rfl rfl (zv := .int .i64 0) (by kernel_rfl) (v := .tup [iV 0, bV false]) (by rw [hf]; rfl) ?_
    refine R_run hg.ok 1000 rfl rfl ?_
    refine R_if rfl rfl (fun _ => ?_) (fun h => absurd h (by simp)) <;> refine R_run hg.ok 1000 rfl rfl ?_
    refine R_mapAddO hg.ok A (A ++ [(B[k].1, iV k)]) rfl rfl rfl rfl rfl rfl rfl hf rfl rfl ?_
    refine R_run hg.ok 1000 rfl rfl ?_
    have hA' : ∀ p ∈ A ++ [(B[k].1, iV (k : Int))], ∃ n, p.2 = iV n := fun p hp => by
      rcases List.mem_append.1 hp with hp | hp
      · exact hA p hp
      · simp at hp; exact ⟨k, by rw [hp]⟩
    refine R_dropO 1 [.map (imap (A ++ [(B[k].1, iV k)]))] (Nat.zero_le _) rfl (by show [mapOb _ (.map (imap (A ++ [(B[k].1, iV k)])))] = _; rw [mapOb_iv (fun _ => rfl) hA']) ?_
    exact R_next (k + 1, A ++ [(B[k].1, iV k)]) ⟨hk1, hm, hA'⟩ (by simp only; omega) ⟨.refl _, .refl _, .refl _, Ent.wrap (by simp only; omega) (by simp only; omega) (by simp only; omega), trivial⟩ rfl

/-- What a walk through the binds turns: which were looked through. -/
def eobjs (B : Binds) (st : List Int) : List Ob := [.box [.ow 4 0], .box [.d (.sl (bindRows B))], .box [.d (.map (dmI (ixM (B.map (·.1)))))], .box [.clo 95 [] [.lo 0 0, .lo 1 0, .lo 2 0, .lo 3 0]], .arr 1 0 (irows st)]

theorem eobjs_map {B : Binds} {f : AV → AV} (h2 : f (.ow 4 0) = .ow 4 0) (h3 : f (.d (.sl (bindRows B))) = .d (.sl (bindRows B))) (h4 : f (.d (.map (dmI (ixM (B.map (·.1)))))) = .d (.map (dmI (ixM (B.map (·.1)))))) (h5 : f (.clo 95 [] [.lo 0 0, .lo 1 0, .lo 2 0, .lo 3 0]) = .clo 95 [] [.lo 0 0, .lo 1 0, .lo 2 0, .lo 3 0]) (st : List Int) : (eobjs B st).map (mapOb f) = eobjs B st := by
  simp only [eobjs, mapOb, List.map_cons, List.map_nil, h2, h3, h4, h5]

theorem getD_get {st : List Int} {i : Nat} (h : i < st.length) : st[i]? = some (st.getD i 0) := by
  rw [List.getElem?_eq_getElem h, List.getD_eq_getElem?_getD, List.getElem?_eq_getElem h]; rfl

set_option maxRecDepth 100000 in
theorem ends_walk (Y : YP) (B : Binds) (hB : ∀ b ∈ B, b.2.size < 400000000) (hBl : B.length < 1000000) : ∀ (f i : Nat) (st : List Int), i < B.length → st.length = B.length → zeros st < f → SCtr Try.prog Y 95 [iV i, .lo 0 0, .lo 1 0, .lo 2 0, .lo 3 0] (eobjs B st) (bV (dfsF (adjB B) f i st).1) (eobjs B (dfsF (adjB B) f i st).2) := by
  intro f
  induction f with
  | zero => intro i st _ _ h; omega
  | succ f ih =>
  intro i st hi hst hz
  have e1 : B[i]? = some B[i] := List.getElem?_eq_getElem hi
  have hsz := hB _ (List.getElem_mem hi)
  refine SCtr.of_R (pf := fun _ => .eff) tyOk mixed Try.func95 rfl (by kernel_rfl) (by kernel_rfl) (by simp [Try.ntmps95]) (by simp [eobjs]) fun w S φ hg => ?_
  have hφ : φ.length = 5 := hg.hs0.len
  have ret : ∀ {r : Bool} {Q : List Int}, dfsF (adjB B) (f + 1) i st = (r, Q) → bV r = bV (dfsF (adjB B) (f + 1) i st).1 ∧ eobjs B Q = eobjs B (dfsF (adjB B) (f + 1) i st).2 := fun e => by rw [e]; exact ⟨rfl, rfl⟩
  have keep : ∀ (Q : List Int) (o : List Ob), (eobjs B Q).map (mapOb (sealT false 5 o 5)) = eobjs B Q := fun Q o => eobjs_map rfl rfl rfl rfl Q
  have hget : ∀ {Q : List Int}, Q.length = B.length → (irows Q)[((i : Nat) : Int).toNat]? = some [.v (.int .i64 (Q.getD i 0))] := fun h => irows_get (getD_get (by omega))
  refine R_run hg.ok 1000 rfl rfl ?_
  refine R_indexO hg.ok rfl rfl rfl rfl rfl rfl rfl rfl rfl (Int.natCast_nonneg i) (by rw [irows_length]; simpa [hst] using hi) ?_
  refine R_run hg.ok 1000 rfl rfl ?_
  refine R_loadE hg.ok rfl rfl rfl rfl rfl rfl (hget hst) rfl ?_
  refine R_run hg.ok 1000 rfl rfl ?_
  refine R_if rfl rfl (fun h0 => ?_) (fun h0 => ?_) <;> refine R_run hg.ok 1000 rfl rfl ?_
  · have h0 : ¬ st.getD i 0 = 0 := by simpa using h0
    refine R_indexO hg.ok rfl rfl rfl rfl rfl rfl rfl rfl rfl (Int.natCast_nonneg i) (by rw [irows_length]; simpa [hst] using hi) ?_
    refine R_run hg.ok 1000 rfl rfl ?_
    refine R_loadE hg.ok rfl rfl rfl rfl rfl rfl (hget hst) rfl ?_
    refine R_run hg.ok 1000 rfl rfl ?_
    have e := ret (r := st.getD i 0 == 2) (Q := st) (by simp only [dfsF, if_pos h0]; congr 1)
    rw [← e.1, ← e.2]
    exact R_retS hg 5 5 (Nat.le_refl _) rfl rfl (keep st _)
  have h0 : st.getD i 0 = 0 := by simpa using h0
  have hdf : dfsF (adjB B) (f + 1) i st = if (dfsL (dfsF (adjB B) f) (adjB B i) (st.set i 1)).1 then (true, (dfsL (dfsF (adjB B) f) (adjB B i) (st.set i 1)).2.set i 2) else (false, (dfsL (dfsF (adjB B) f) (adjB B i) (st.set i 1)).2) := by
    simp only [dfsF]; rw [if_neg (by simpa using h0)]
  have hz1 := (zeros_set st i 1 (by omega)).2 (by omega) h0
  refine R_indexO hg.ok rfl rfl rfl rfl rfl rfl rfl rfl rfl (Int.natCast_nonneg i) (by rw [irows_length]; simpa [hst] using hi) ?_
  refine R_run hg.ok 1000 rfl rfl ?_
  refine R_storeEO hg.ok (irows (st.set i 1)) rfl rfl rfl rfl rfl (hget hst) rfl rfl rfl (by decide) irows_set ?_
  refine R_run hg.ok 1000 rfl rfl ?_
  refine R_index hg.ok rfl rfl rfl rfl rfl rfl (Int.natCast_nonneg i) (bindRows_get e1) rfl ?_
  refine R_run hg.ok 1000 rfl rfl ?_
  refine R_call hg.ok ((vars_ok [B[i].2] (by simp [Tm.sizeL]; omega)).one) rfl rfl rfl rfl rfl rfl ?_
  refine R_run hg.ok 1000 rfl rfl ?_
  have hvl : (varsT [B[i].2]).length ≤ Tm.sizeL [B[i].2] := by have := varsF_len [B[i].2] []; simpa [varsF, varsT] using this
  simp only [Tm.sizeL] at hvl
  rw [placesOf e1] at hdf
  generalize varsT [B[i].2] = V at hdf hvl ⊢
  refine R_loop (fun x : Nat × List Int => ([(0, iV i), (1, .lo 0 0), (3, .lo 2 0), (4, .lo 3 0), (30, .d (.sl (irows V))), (31, iV V.length), (32, iV x.1)], eobjs B x.2))
    (fun x => x.1 ≤ V.length ∧ dfsL (dfsF (adjB B) f) (V.filterMap fun v => if placeB B v < 0 then none else some (placeB B v).toNat) (st.set i 1) = dfsL (dfsF (adjB B) f) ((V.drop x.1).filterMap fun v => if placeB B v < 0 then none else some (placeB B v).toNat) x.2 ∧ x.2.length = B.length ∧ zeros x.2 ≤ zeros (st.set i 1)) (fun x => V.length - x.1) (0, st.set i 1)
    ⟨Nat.zero_le _, rfl, by simp [hst], Nat.le_refl _⟩ ⟨.refl _, .refl _, .refl _, .refl _, .refl _, Ent.int (by rw [irows_length]), .refl _, trivial⟩ rfl ?_
  rintro ⟨k, Q⟩ ⟨hk, hm, hQ, hzQ⟩
  simp only at hk hm hQ hzQ
  refine R_run hg.ok 1000 rfl rfl ?_
  refine R_if rfl rfl (fun h => ?_) (fun h => ?_) <;> refine R_run hg.ok 1000 rfl rfl ?_
  · have hk1 : k < V.length := lt_dec h rfl
    have e2 : V[k]? = some V[k] := List.getElem?_eq_getElem hk1
    rw [List.drop_eq_getElem_cons hk1, List.filterMap_cons] at hm
    refine R_index hg.ok rfl rfl rfl rfl rfl rfl (Int.natCast_nonneg _) (irows_get e2) rfl ?_
    refine R_run hg.ok 1000 rfl rfl ?_
    have hgi := getI_ix (B.map (·.1)) V[k]
    by_cases hp : placeB B V[k] < 0
    · rw [show atI (B.map (·.1)) V[k] 0 = placeB B V[k] from rfl, if_pos hp] at hgi
      rw [if_pos hp] at hm
      refine R_lookupDI hg.ok (ixM (B.map (·.1))) (ixM_iv _) rfl rfl rfl rfl rfl rfl (zv := .int .i64 0) (by kernel_rfl) (v := .tup [iV 0, bV false]) (by rw [hgi]; rfl) ?_
      refine R_run hg.ok 1000 rfl rfl ?_
      refine R_if rfl rfl (fun h => absurd h (by simp)) (fun _ => ?_) <;> refine R_run hg.ok 1000 rfl rfl ?_
      exact R_next (k + 1, Q) ⟨hk1, hm, hQ, hzQ⟩ (by simp only; omega) ⟨.refl _, .refl _, .refl _, .refl _, .refl _, .refl _, Ent.wrap (by simp only; omega) (by simp only; omega) (by simp only; omega), trivial⟩ rfl
    · rw [show atI (B.map (·.1)) V[k] 0 = placeB B V[k] from rfl, if_neg hp] at hgi
      rw [if_neg hp] at hm
      obtain ⟨j, hj, hjl⟩ : ∃ j : Nat, placeB B V[k] = j ∧ j < B.length := by
        rcases placeB_find B V[k] with ⟨h1, _⟩ | ⟨j, t, h1, h2, _⟩
        · exact absurd h1 hp
        · exact ⟨j, h1, (List.getElem?_eq_some_iff.1 h2).1⟩
      rw [hj] at hgi hm
      simp only [Int.toNat_natCast, dfsL] at hm
      refine R_lookupDI hg.ok (ixM (B.map (·.1))) (ixM_iv _) rfl rfl rfl rfl rfl rfl (zv := .int .i64 0) (by kernel_rfl) (v := .tup [iV j, bV true]) (by rw [hgi]; rfl) ?_
      refine R_run hg.ok 1000 rfl rfl ?_
      refine R_if rfl rfl (fun _ => ?_) (fun h => absurd h (by simp)) <;> refine R_run hg.ok 1000 rfl rfl ?_
      have hcall := ih j Q hjl hQ (by omega)
      have hsh := dfs_shape (adjB B) f j Q
      generalize hr : dfsF (adjB B) f j Q = rq at hcall hm hsh
      obtain ⟨r, Q'⟩ := rq
      have hren : ∀ (n : Nat) (Z : List Int), (eobjs B Z).map (renOb (rn [0, 1, 2, 3, 4] n)) = eobjs B Z := fun n Z => by
        have e : (renOb (rn [0, 1, 2, 3, 4] n)) = mapOb (renA (rn [0, 1, 2, 3, 4] n)) := by funext o; cases o <;> simp [renOb, mapOb, renL_map]
        rw [e]; exact eobjs_map rfl rfl rfl rfl Z
      refine R_callSO hg.ok hg.gup hg.wide hg.Y [0, 1, 2, 3, 4] (eobjs B Q') hcall (fun _ => rfl) rfl rfl rfl rfl rfl (by rw [hren]; rfl) rfl (by rw [hren]; rfl) ?_
      refine R_run hg.ok 1000 rfl rfl ?_
      refine R_if rfl rfl (fun h => ?_) (fun h => ?_) <;> refine R_run hg.ok 1000 rfl rfl ?_
      · have hr0 : r = false := by simpa using h
        subst hr0
        have e := ret (r := false) (Q := Q') (by rw [hdf, hm]; simp)
        rw [← e.1, ← e.2]
        exact R_retS hg 5 5 (Nat.le_refl _) rfl rfl (keep Q' _)
      · have hr0 : r = true := by simpa using h
        subst hr0
        refine R_next (k + 1, Q') ⟨hk1, by rw [hm]; simp, by rw [← hQ]; exact hsh.1, by have := hsh.2; simp only at this ⊢; omega⟩ (by simp only; omega) ⟨.refl _, .refl _, .refl _, .refl _, .refl _, .refl _, Ent.wrap (by simp only; omega) (by simp only; omega) (by simp only; omega), trivial⟩ rfl
  · have hk1 : V.length ≤ k := ge_dec h rfl
    rw [List.drop_eq_nil_of_le hk1] at hm
    refine R_indexO hg.ok rfl rfl rfl rfl rfl rfl rfl rfl rfl (Int.natCast_nonneg i) (by rw [irows_length]; simpa [hQ] using hi) ?_
    refine R_run hg.ok 1000 rfl rfl ?_
    refine R_storeEO hg.ok (irows (Q.set i 2)) rfl rfl rfl rfl rfl (hget hQ) rfl rfl rfl (by decide) irows_set ?_
    refine R_run hg.ok 1000 rfl rfl ?_
    have e := ret (r := true) (Q := Q.set i 2) (by rw [hdf, hm]; rfl)
    rw [← e.1, ← e.2]
    exact R_retS hg 5 5 (Nat.le_refl _) rfl rfl (keep (Q.set i 2) _)
end Go.Proofs.Ytppghekipbnjhaa

namespace Go.Proofs.Ytppghekipbnjhaa
open Go PSL Go.Proofs

/-- What binds must be to be gone through. -/
structure Small (B : Binds) : Prop where
  len : B.length ≤ 4000
  size : ∀ b ∈ B, b.2.size < 400000000
  name : ∀ b ∈ B, ∀ x e, e ∈ b.2.els x → e.2.s.size < 1000000000

theorem dfsAll_drop {adj : Nat → List Nat} {n i : Nat} (h : i < n) (st : List Int) : dfsAll adj n ((List.range n).drop i) st = if (dfsF adj (n + 1) i st).1 then dfsAll adj n ((List.range n).drop (i + 1)) (dfsF adj (n + 1) i st).2 else false := by
  rw [List.drop_eq_getElem_cons (by simpa using h), List.getElem_range, dfsAll]
theorem irows_zero (n : Nat) : List.replicate n [D.v (.int .i64 0)] = irows (List.replicate n 0) := by simp [irows, irow]

set_option maxRecDepth 100000 in
theorem subRight_ok (B : Binds) (hB : Small B) : PCtr Try.prog 77 [.d (.sl (bindRows B))] (bV (rightS B)) := by
  have hl := hB.len
  refine PCtr.of_R (pf := fun _ => .still) tyOk mixed Try.func77 rfl (by kernel_rfl) (by kernel_rfl) (by simp [Try.ntmps77]) fun w S hg => ?_
  refine R_run hg.ok 1000 rfl rfl ?_
  refine R_call hg.ok (index_ok B (by omega)) rfl rfl rfl rfl rfl rfl ?_
  refine R_run hg.ok 1000 rfl rfl ?_
  refine R_lenM hg.ok rfl rfl rfl rfl (n := ((ixM (B.map (·.1))).length : Int)) (by rw [dmI_len]) ?_
  refine R_run hg.ok 1000 rfl rfl ?_
  refine R_if rfl rfl (fun h => ?_) (fun h => ?_) <;> refine R_run hg.ok 1000 rfl rfl ?_
  · have h := of_decide_eq_true h
    refine R_ret hg 5 rfl rfl ?_
    rw [bindRows_len] at h
    have : (ixM (B.map (·.1))).length < B.length := by omega
    simp only [rightS]; rw [decide_eq_true this]; rfl
  have h := of_decide_eq_false h
  rw [bindRows_len] at h
  have hr1 : rightS B = (fineB B && dfsAll (adjB B) B.length (List.range B.length) (List.replicate B.length 0)) := by
    unfold rightS; rw [decide_eq_false (by omega)]; simp
  refine R_loop (fun k : Nat => ([(1, .lo 0 0), (3, .lo 1 0), (16, .d (.sl (bindRows B))), (17, iV B.length), (18, iV k)], [.box [.d (.sl (bindRows B))], .box [.d (.map (dmI (ixM (B.map (·.1)))))]])) (fun k => k ≤ B.length ∧ fineB B = fineB (B.drop k)) (fun k => B.length - k) 0 ⟨Nat.zero_le _, rfl⟩ ⟨.refl _, .refl _, .refl _, Ent.int (by rw [bindRows_len]), .refl _, trivial⟩ rfl ?_
  rintro k ⟨hk, hm⟩
  refine R_run hg.ok 1000 rfl rfl ?_
  refine R_if rfl rfl (fun h => ?_) (fun h => ?_) <;> refine R_run hg.ok 1000 rfl rfl ?_
  · have hk1 : k < B.length := lt_dec h rfl
    have e1 : B[k]? = some B[k] := List.getElem?_eq_getElem hk1
    rw [List.drop_eq_getElem_cons hk1] at hm
    simp only [fineB, List.all_cons] at hm
    have bad : fineB B = false → AV.d (.v (.bool false)) = bV (rightS B) := fun h => by rw [hr1, h]; rfl
    refine R_index hg.ok rfl rfl rfl rfl rfl rfl (Int.natCast_nonneg _) (bindRows_get e1) rfl ?_
    refine R_run hg.ok 1000 rfl rfl ?_
    refine R_if rfl rfl (fun h1 => ?_) (fun h1 => ?_) <;> refine R_run hg.ok 1000 rfl rfl ?_
    · have h1 := of_decide_eq_true h1
      refine R_ret hg 5 rfl rfl ?_
      exact bad (by unfold fineB; rw [hm, decide_eq_false (by omega : ¬ 0 ≤ B[k].1)]; simp)
    have h1 := of_decide_eq_false h1
    refine R_if rfl rfl (fun h2 => ?_) (fun h2 => ?_) <;> refine R_run hg.ok 1000 rfl rfl ?_
    · have h2 := of_decide_eq_true h2
      refine R_ret hg 5 rfl rfl ?_
      exact bad (by unfold fineB; rw [hm, decide_eq_false (by omega : ¬ B[k].1 < 1000000)]; simp)
    have h2 := of_decide_eq_false h2
    refine R_call hg.ok (right_ok B[k].2 (by have := hB.size _ (List.getElem_mem hk1); omega) (hB.name _ (List.getElem_mem hk1) 1)) rfl rfl rfl rfl rfl rfl ?_
    refine R_run hg.ok 1000 rfl rfl ?_
    rw [rightT_eq]
    refine R_if rfl rfl (fun h3 => ?_) (fun h3 => ?_) <;> refine R_run hg.ok 1000 rfl rfl ?_
    · refine R_ret hg 5 rfl rfl ?_
      exact bad (by unfold fineB; rw [hm, show B[k].2.rightB = false by simpa using h3]; simp)
    · refine R_dropO 2 [.box [.d (.sl (bindRows B))], .box [.d (.map (dmI (ixM (B.map (·.1)))))]] (Nat.zero_le _) rfl rfl ?_
      refine R_next (k + 1) ⟨hk1, ?_⟩ (by omega) ⟨.refl _, .refl _, .refl _, .refl _, Ent.wrap (by omega) (by omega) (by omega), trivial⟩ rfl
      unfold fineB
      rw [hm, show B[k].2.rightB = true by simpa using h3, decide_eq_true (by omega : 0 ≤ B[k].1), decide_eq_true (by omega : B[k].1 < 1000000)]
      simp
  have hk1 : B.length ≤ k := ge_dec h rfl
  rw [List.drop_eq_nil_of_le hk1] at hm
  have hr2 : rightS B = dfsAll (adjB B) B.length (List.range B.length) (List.replicate B.length 0) := by rw [hr1, hm]; simp [fineB]
  refine R_makeSlice hg.ok (irows (List.replicate B.length 0)) rfl rfl rfl rfl rfl rfl (by rw [bindRows_len]; omega) (by rw [bindRows_len]; omega) (by rw [bindRows_len]; omega) (by rw [bindRows_len]; exact irows_zero B.length) ?_
  refine R_run hg.ok 1000 rfl rfl ?_
  refine R_loop (fun x : Nat × List Int => ([(7, .lo 4 0), (42, iV B.length), (43, iV x.1)], [.box [.d (.sl (bindRows B))], .box [.d (.map (dmI (ixM (B.map (·.1)))))], .arr 1 0 (irows x.2), .box [.ow 2 0], .box [.clo 95 [] [.lo 3 0, .lo 0 0, .lo 1 0, .lo 4 0]]]))
    (fun x => x.1 ≤ B.length ∧ rightS B = dfsAll (adjB B) B.length ((List.range B.length).drop x.1) x.2 ∧ x.2.length = B.length) (fun x => B.length - x.1) (0, List.replicate B.length 0) ⟨Nat.zero_le _, hr2, by simp⟩ ⟨.refl _, Ent.int (by rw [bindRows_len]), .refl _, trivial⟩ rfl ?_
  rintro ⟨k, st⟩ ⟨hk, hm, hst⟩
  simp only at hk hm hst
  refine R_run hg.ok 1000 rfl rfl ?_
  refine R_if rfl rfl (fun h => ?_) (fun h => ?_) <;> refine R_run hg.ok 1000 rfl rfl ?_
  · have hk1 : k < B.length := lt_dec h rfl
    rw [dfsAll_drop hk1] at hm
    have hz : zeros st < B.length + 1 := by
      have : zeros st ≤ st.length := List.countP_le_length
      omega
    have hcall := ends_walk ⟨[], fun _ => true⟩ B hB.size (by omega) (B.length + 1) k st hk1 hst hz
    have hsh := dfs_shape (adjB B) (B.length + 1) k st
    generalize dfsF (adjB B) (B.length + 1) k st = rq at hcall hm hsh
    obtain ⟨r, Q⟩ := rq
    refine R_callSO hg.ok hg.gup ⟨rfl, rfl⟩ (fun _ _ _ _ h => by cases h) [3, 0, 1, 4, 2] [.box [.d (.sl (bindRows B))], .box [.d (.map (dmI (ixM (B.map (·.1)))))], .arr 1 0 (irows Q), .box [.ow 2 0], .box [.clo 95 [] [.lo 3 0, .lo 0 0, .lo 1 0, .lo 4 0]]] hcall (fun _ => rfl) rfl rfl rfl rfl rfl rfl rfl rfl ?_
    refine R_run hg.ok 1000 rfl rfl ?_
    refine R_if rfl rfl (fun h => ?_) (fun h => ?_) <;> refine R_run hg.ok 1000 rfl rfl ?_
    · refine R_ret hg 5 rfl rfl ?_
      have hr0 : r = false := by simpa using h
      rw [hm, hr0]; rfl
    · have hr0 : r = true := by simpa using h
      exact R_next (k + 1, Q) ⟨hk1, by rw [hm, hr0]; rfl, by rw [← hst]; exact hsh.1⟩ (by simp only; omega) ⟨.refl _, .refl _, Ent.wrap (by simp only; omega) (by simp only; omega) (by simp only; omega), trivial⟩ rfl
  · have hk1 : B.length ≤ k := ge_dec h rfl
    refine R_ret hg 5 rfl rfl ?_
    rw [hm, List.drop_eq_nil_of_le (by simpa using hk1)]; rfl

/-- What a copy turns: how much is left. -/
def bobjs (B : Binds) (left : Int) : List Ob := [.box [.d (.map (dmI (ixM (B.map (·.1)))))], .box [.d (.sl (bindRows B))], .box [iV left], .box [.clo 96 [] [.lo 0 0, .lo 1 0, .lo 2 0, .lo 3 0]]]

theorem bobjs_map {B : Binds} {f : AV → AV} (h1 : ∀ n, f (iV n) = iV n) (h3 : f (.d (.sl (bindRows B))) = .d (.sl (bindRows B))) (h4 : f (.d (.map (dmI (ixM (B.map (·.1)))))) = .d (.map (dmI (ixM (B.map (·.1)))))) (h5 : f (.clo 96 [] [.lo 0 0, .lo 1 0, .lo 2 0, .lo 3 0]) = .clo 96 [] [.lo 0 0, .lo 1 0, .lo 2 0, .lo 3 0]) (left : Int) : (bobjs B left).map (mapOb f) = bobjs B left := by
  simp only [bobjs, mapOb, List.map_cons, List.map_nil, h1, h3, h4, h5]
def zBxS : Ob := .box [.d (.v (.int .i64 0)), .d (.v (.string ByteArray.empty)), .d (.v (.int .i64 0)), .d (.v (.slice none 0 0))]

theorem rowsMap_snoc (F : Tm → Tm) {l : List Tm} {k : Nat} {x : Tm} (h : l[k]? = some x) : Tm.rows ((l.take k).map F) ++ [[.v (.int .i64 (F x).k), .v (.string (F x).s), .v (.int .i64 (F x).n), .sl (Tm.rows (F x).l)]] = Tm.rows ((l.take (k + 1)).map F) := by
  rw [List.take_add_one, h]; simp [Tm.rows_eq, Tm.row]

set_option maxRecDepth 100000 in
theorem build_walk (Y : YP) (B : Binds) (M : Nat) (hS : Sub B M) (hBl : B.length ≤ 4000) : ∀ (N : Nat) (t : Tm) (left deep : Int), (fullS B M t).size ≤ N → t.fairR = true → 0 ≤ left → left ≤ 3000 → 1 ≤ deep → deep ≤ 200 →
    SCtr Try.prog Y 96 [t.av, iV deep, .lo 0 0, .lo 1 0, .lo 2 0, .lo 3 0] (bobjs B left) (.tup [(if (Tm.bldN (fullS B M t) left deep).1 then fullS B M t else zeroT).av, bV (Tm.bldN (fullS B M t) left deep).1]) (bobjs B (Tm.bldN (fullS B M t) left deep).2) := by
  intro N
  induction N with
  | zero => intro t _ _ h; have := Tm.size_eq (fullS B M t); omega
  | succ N ih =>
  intro t left deep hN hf hl0 hl1 hd0 hd1
  refine SCtr.of_R (pf := fun _ => .eff) tyOk mixed Try.func96 rfl (by kernel_rfl) (by kernel_rfl) (by simp [Try.ntmps96]) (by simp [bobjs]) fun w S φ hg => ?_
  have hφ : φ.length = 4 := hg.hs0.len
  have ret : ∀ {r : Bool} {q : Int}, Tm.bldN (fullS B M t) left deep = (r, q) → AV.tup [(if r then fullS B M t else zeroT).av, bV r] = .tup [(if (Tm.bldN (fullS B M t) left deep).1 then fullS B M t else zeroT).av, bV (Tm.bldN (fullS B M t) left deep).1] ∧ bobjs B q = bobjs B (Tm.bldN (fullS B M t) left deep).2 := fun e => by rw [e]; exact ⟨rfl, rfl⟩
  have keep : ∀ (q : Int) (o : List Ob), (bobjs B q).map (mapOb (sealT false 4 o 5)) = bobjs B q := fun q o => bobjs_map (fun _ => rfl) rfl rfl rfl q
  refine R_run hg.ok 1000 rfl rfl ?_
  -- the way from bound variable to bound variable
  refine R_cut2 (fun u : Tm => ([(1, iV deep), (2, .lo 0 0), (3, .lo 1 0), (4, .lo 2 0), (5, .lo 3 0), (6, .lo 4 0), (8, .lo 5 0)], bobjs B left ++ [boxR u, zBxS])) (fun u => u.fairR = true ∧ fullS B M t = fullS B M u ∧ (u.k = 1 → findB B u.n = none)) rfl ?_ ?_
  · refine R_loop (fun x : Nat × Tm => ([(1, iV deep), (2, .lo 0 0), (3, .lo 1 0), (4, .lo 2 0), (5, .lo 3 0), (6, .lo 4 0), (8, .lo 5 0)], bobjs B left ++ [boxR x.2, zBxS])) (fun x => x.2.fairR = true ∧ fullS B M t = fullS B M x.2 ∧ levT B x.1 x.2) (fun x => x.1) (M, t) ⟨hf, rfl, hS.lev t⟩ ⟨.refl _, .refl _, .refl _, .refl _, .refl _, .refl _, .refl _, trivial⟩ rfl ?_
    rintro ⟨m, u⟩ ⟨hu, hfu, hlu⟩
    simp only at hu hfu hlu
    refine R_run hg.ok 1000 rfl rfl ?_
    refine R_if rfl rfl (fun hk0 => ?_) (fun hk0 => ?_) <;> refine R_run hg.ok 1000 rfl rfl ?_
    · have hk : u.k = 1 := by simpa using hk0
      have hgi := getI_ix (B.map (·.1)) u.n
      rcases placeB_find B u.n with ⟨h1, h2⟩ | ⟨j, x, h1, h2, h3⟩
      · rw [show atI (B.map (·.1)) u.n 0 = placeB B u.n from rfl, if_pos h1] at hgi
        refine R_lookupDI hg.ok (ixM (B.map (·.1))) (ixM_iv _) rfl rfl rfl rfl rfl rfl (zv := .int .i64 0) (by kernel_rfl) (v := .tup [iV 0, bV false]) (by rw [hgi]; rfl) ?_
        refine R_run hg.ok 1000 rfl rfl ?_
        refine R_if rfl rfl (fun _ => ?_) (fun h => absurd h (by simp)) <;> refine R_run hg.ok 1000 rfl rfl ?_
        exact R_to u ⟨hu, hfu, fun _ => h2⟩ ⟨.refl _, .refl _, .refl _, .refl _, .refl _, .refl _, .refl _, trivial⟩ rfl
      · rw [show atI (B.map (·.1)) u.n 0 = placeB B u.n from rfl, h1, if_neg (by omega)] at hgi
        refine R_lookupDI hg.ok (ixM (B.map (·.1))) (ixM_iv _) rfl rfl rfl rfl rfl rfl (zv := .int .i64 0) (by kernel_rfl) (v := .tup [iV j, bV true]) (by rw [hgi]; rfl) ?_
        refine R_run hg.ok 1000 rfl rfl ?_
        refine R_if rfl rfl (fun h => absurd h (by simp)) (fun _ => ?_) <;> refine R_run hg.ok 1000 rfl rfl ?_
        refine R_index hg.ok rfl rfl rfl rfl rfl rfl (Int.natCast_nonneg _) (bindRows_get h2) rfl ?_
        refine R_run hg.ok 1000 rfl rfl ?_
        obtain ⟨q, rfl, hq⟩ := lev_find hS.fair hlu (occ_var hk) h3
        exact R_next (q, x) ⟨hS.fair _ (List.mem_of_getElem? h2), by rw [hfu]; exact hS.bound hu hk h3, hq⟩ (by simp only; omega) ⟨.refl _, .refl _, .refl _, .refl _, .refl _, .refl _, .refl _, trivial⟩ rfl
    · have hk : ¬ u.k = 1 := by simpa using hk0
      exact R_to u ⟨hu, hfu, fun h => absurd h hk⟩ ⟨.refl _, .refl _, .refl _, .refl _, .refl _, .refl _, .refl _, trivial⟩ rfl
  rintro u ⟨hu, hfu, hnu⟩
  have hhead := hS.head hu hnu
  have hc := Tm.bldN_eq (fullS B M t) left deep
  have hTl : (fullS B M t).l = u.l.map (fullS B M) := by rw [hfu, hhead]; rfl
  rw [hTl] at hc
  refine R_run hg.ok 1000 rfl rfl ?_
  rw [w64 (n := left - 1) (by omega) (by omega)]
  refine R_if rfl rfl (fun h1 => ?_) (fun h1 => ?_) <;> refine R_run hg.ok 1000 rfl rfl ?_
  · have h1 := of_decide_eq_true h1
    have e := ret (r := false) (q := left - 1) (by rw [hc, if_pos (.inl h1)])
    rw [← e.1, ← e.2]
    exact R_retS hg 4 5 (Nat.le_refl _) rfl rfl (keep _ _)
  have h1 := of_decide_eq_false h1
  refine R_if rfl rfl (fun h2 => ?_) (fun h2 => ?_) <;> refine R_run hg.ok 1000 rfl rfl ?_
  · have h2 := of_decide_eq_true h2
    have e := ret (r := false) (q := left - 1) (by rw [hc, if_pos (.inr h2)])
    rw [← e.1, ← e.2]
    exact R_retS hg 4 5 (Nat.le_refl _) rfl rfl (keep _ _)
  have h2 := of_decide_eq_false h2
  rw [if_neg (by omega)] at hc
  have hszT := Tm.size_eq (fullS B M t)
  rw [hTl] at hszT
  have hll := Tm.len_le_sizeL (u.l.map (fullS B M))
  rw [List.length_map] at hll
  refine R_ownB 6 3 4 rfl rfl rfl ?_
  refine R_loop (fun x : Nat × Int => ([(1, iV deep), (5, .lo 3 0), (8, .lo 5 0), (12, .lo 6 0), (46, .d (.sl (Tm.rows u.l))), (47, iV u.l.length), (48, iV x.1)], bobjs B x.2 ++ [boxR u, zBxS, .box [.d (.v (.int .i64 u.k)), .d (.v (.string u.s)), .d (.v (.int .i64 u.n)), .ow 7 x.1], .arr 4 x.1 (Tm.rows ((u.l.take x.1).map (fullS B M)))]))
    (fun x => x.1 ≤ u.l.length ∧ Tm.bldNL (u.l.map (fullS B M)) (left - 1) (deep + 1) = Tm.bldNL ((u.l.drop x.1).map (fullS B M)) x.2 (deep + 1) ∧ 0 ≤ x.2 ∧ x.2 + x.1 ≤ left - 1) (fun x => u.l.length - x.1) (0, left - 1) ⟨Nat.zero_le _, rfl, by simp only; omega, by simp only; omega⟩ ⟨.refl _, .refl _, .refl _, .refl _, .refl _, Ent.int (by rw [Tm.rows_length]), .refl _, trivial⟩ rfl ?_
  rintro ⟨k, q⟩ ⟨hk, hm, hq0, hq1⟩
  simp only at hk hm hq0 hq1
  refine R_run hg.ok 1000 rfl rfl ?_
  refine R_if rfl rfl (fun h => ?_) (fun h => ?_) <;> refine R_run hg.ok 1000 rfl rfl ?_
  · have hk1 : k < u.l.length := lt_dec h rfl
    have e1 : u.l[k]? = some u.l[k] := List.getElem?_eq_getElem hk1
    rw [List.drop_eq_getElem_cons hk1, List.map_cons, Tm.bldNL] at hm
    have hsm : (fullS B M u.l[k]).size ≤ Tm.sizeL (u.l.map (fullS B M)) := Tm.size_mem (List.mem_map_of_mem (List.getElem_mem hk1))
    refine R_index hg.ok rfl rfl rfl rfl rfl rfl (Int.natCast_nonneg _) (Tm.rows_get e1) rfl ?_
    refine R_run hg.ok 1000 rfl rfl ?_
    have hcall := ih u.l[k] q (deep + 1) (by omega) (Sub.kid_fair hu (List.getElem_mem hk1)) hq0 (by omega) (by omega) (by omega)
    have hbd := Tm.bldN_ok (fullS B M u.l[k]) q (deep + 1) hq0 (by omega)
    have hsz1 := Tm.size_eq (fullS B M u.l[k])
    generalize hrr : Tm.bldN (fullS B M u.l[k]) q (deep + 1) = rq at hcall hm hbd
    obtain ⟨r, q'⟩ := rq
    have hren : ∀ (n : Nat) (Z : Int), (bobjs B Z).map (renOb (rn [0, 1, 2, 3] n)) = bobjs B Z := fun n Z => by
      have e : (renOb (rn [0, 1, 2, 3] n)) = mapOb (renA (rn [0, 1, 2, 3] n)) := by funext o; cases o <;> simp [renOb, mapOb, renL_map]
      rw [e]; exact bobjs_map (fun _ => rfl) rfl rfl rfl Z
    rw [w64 (n := deep + 1) (by omega) (by omega)]
    refine R_callSO hg.ok hg.gup hg.wide hg.Y [0, 1, 2, 3] (bobjs B q' ++ [boxR u, zBxS, .box [.d (.v (.int .i64 u.k)), .d (.v (.string u.s)), .d (.v (.int .i64 u.n)), .ow 7 k], .arr 4 k (Tm.rows ((u.l.take k).map (fullS B M))), boxR u.l[k]]) hcall (fun _ => rfl) rfl rfl rfl rfl rfl (by rw [hren]; rfl) rfl (by rw [hren]; rfl) ?_
    cases r with
    | false =>
      refine R_run hg.ok 1000 rfl rfl ?_
      refine R_if rfl rfl (fun _ => ?_) (fun h => absurd h (by simp)) <;> refine R_run hg.ok 1000 rfl rfl ?_
      have e := ret (r := false) (q := q') (by rw [hc, hm]; simp)
      rw [← e.1, ← e.2]
      exact R_retS hg 4 5 (Nat.le_refl _) rfl rfl (keep _ _)
    | true =>
      refine R_run hg.ok 1000 rfl rfl ?_
      refine R_if rfl rfl (fun h => absurd h (by simp)) (fun _ => ?_) <;> refine R_run hg.ok 1000 rfl rfl ?_
      refine R_appendO hg.ok (Tm.rows ((u.l.take (k + 1)).map (fullS B M))) rfl rfl rfl rfl rfl rfl rfl rfl rfl (by simp) (by simp [one1]) (rowsMap_snoc (fullS B M) e1) (by rw [Tm.rows_length]; simp; omega) (by rw [Tm.rows_length]; simp; omega) ?_
      refine R_run hg.ok 1000 rfl rfl ?_
      refine R_dropO 8 (bobjs B q' ++ [boxR u, zBxS, .box [.d (.v (.int .i64 u.k)), .d (.v (.string u.s)), .d (.v (.int .i64 u.n)), .ow 7 (k + 1)], .arr 4 (k + 1) (Tm.rows ((u.l.take (k + 1)).map (fullS B M)))]) (by show φ.length ≤ _; omega) rfl (by show (bobjs B q').map _ ++ _ = _; rw [bobjs_map (fun _ => rfl) rfl rfl rfl]; rfl) ?_
      have hq' := hbd.2.1 rfl
      have hle := hbd.1.1 rfl
      simp only at hq'
      exact R_next (k + 1, q') ⟨hk1, by rw [hm]; simp, by simp only; omega, by simp only; omega⟩ (by simp only; omega) ⟨.refl _, .refl _, .refl _, .refl _, .refl _, .refl _, Ent.wrap (by simp only; omega) (by simp only; omega) (by simp only; omega), trivial⟩ rfl
  · have hk1 : u.l.length ≤ k := ge_dec h rfl
    rw [List.drop_eq_nil_of_le hk1] at hm
    have e := ret (r := true) (q := q) (by rw [hc, hm]; rfl)
    rw [← e.1, ← e.2]
    rw [List.take_of_length_le hk1]
    have hT : (if true = true then fullS B M t else zeroT) = .mk u.k u.s u.n (u.l.map (fullS B M)) := by simp only [if_true]; rw [hfu, hhead]
    rw [hT]
    refine R_retS hg 4 5 (Nat.le_refl _) rfl ?_ (keep q _)
    exact congrArg (fun x => AV.tup [x, bV true]) (sealT_term (a' := .d (.v (.int .i64 u.k))) (b' := .d (.v (.string u.s))) (c' := .d (.v (.int .i64 u.n))) rfl rfl rfl rfl rfl)
end Go.Proofs.Ytppghekipbnjhaa

namespace Go.Proofs.Ytppghekipbnjhaa
open Go PSL Go.Proofs

set_option maxRecDepth 100000 in
theorem become_ok (B : Binds) (M : Nat) (hS : Sub B M) (hBl : B.length ≤ 4000) (t : Tm) (hf : t.fairR = true) : PCtr Try.prog 79 [.d (.sl (bindRows B)), .d (.map (dmI (ixM (B.map (·.1))))), t.av] (.tup [(if (Tm.bldN (fullS B M t) 3000 1).1 then fullS B M t else zeroT).av, bV (Tm.bldN (fullS B M t) 3000 1).1]) := by
  refine PCtr.of_R (pf := fun _ => .eff) tyOk mixed Try.func79 rfl (by kernel_rfl) (by kernel_rfl) (by simp [Try.ntmps79]) fun w S hg => ?_
  refine R_run hg.ok 1000 rfl rfl ?_
  have hcall := build_walk ⟨[], fun _ => true⟩ B M hS hBl _ t 3000 1 (Nat.le_refl _) hf (by omega) (by omega) (by omega) (by omega)
  generalize Tm.bldN (fullS B M t) 3000 1 = rq at hcall ⊢
  obtain ⟨r, q⟩ := rq
  refine R_callSO hg.ok hg.gup ⟨rfl, rfl⟩ (fun _ _ _ _ h => by cases h) [1, 0, 4, 5] [.box [.d (.sl (bindRows B))], .box [.d (.map (dmI (ixM (B.map (·.1)))))], boxR t, zBxS, .box [iV q], .box [.clo 96 [] [.lo 1 0, .lo 0 0, .lo 4 0, .lo 5 0]]] hcall (fun _ => rfl) rfl rfl rfl rfl rfl rfl rfl rfl ?_
  refine R_run hg.ok 1000 rfl rfl ?_
  refine R_ret hg 5 rfl rfl ?_
  rfl

set_option maxRecDepth 100000 in
theorem apply_ok (B : Binds) (M : Nat) (hS : rightS B = true → Sub B M) (hB : Small B) (t : Tm) (ht : t.size < 1000000000) (hn : ∀ x e, e ∈ t.els x → e.2.s.size < 1000000000) : PCtr Try.prog 43 [.d (.sl (bindRows B)), t.av] (.tup [(applyT B M t).1.av, iV (applyT B M t).2]) := by
  have hl := hB.len
  refine PCtr.of_R (pf := fun _ => .still) tyOk mixed Try.func43 rfl (by kernel_rfl) (by kernel_rfl) (by simp [Try.ntmps43]) fun w S hg => ?_
  refine R_run hg.ok 1000 rfl rfl ?_
  refine R_call hg.ok (subRight_ok B hB) rfl rfl rfl rfl rfl rfl ?_
  refine R_run hg.ok 1000 rfl rfl ?_
  refine R_if rfl rfl (fun h1 => ?_) (fun h1 => ?_) <;> refine R_run hg.ok 1000 rfl rfl ?_
  · refine R_ret hg 5 rfl rfl ?_
    unfold applyT; rw [show rightS B = false by simpa using h1]; rfl
  have h1 : rightS B = true := by simpa using h1
  refine R_call hg.ok (right_ok t ht (hn 1)) rfl rfl rfl rfl rfl rfl ?_
  refine R_run hg.ok 1000 rfl rfl ?_
  rw [rightT_eq]
  refine R_if rfl rfl (fun h2 => ?_) (fun h2 => ?_) <;> refine R_run hg.ok 1000 rfl rfl ?_
  · refine R_ret hg 5 rfl rfl ?_
    unfold applyT; rw [show t.rightB = false by simpa using h2, Bool.and_false]; rfl
  have h2 : t.rightB = true := by simpa using h2
  refine R_call hg.ok (index_ok B (by omega)) rfl rfl rfl rfl rfl rfl ?_
  refine R_run hg.ok 1000 rfl rfl ?_
  have hcall := become_ok B M (hS h1) hl t (right_fair h2)
  have hok := (Tm.bldN_ok (fullS B M t) 3000 1 (by omega) (by omega)).1
  have hb : (Tm.bldN (fullS B M t) 3000 1).1 = (decide ((fullS B M t).size ≤ 3000) && decide ((fullS B M t).depth ≤ 100)) := by
    rw [Bool.eq_iff_iff, hok]; simp; omega
  have ha : applyT B M t = if (Tm.bldN (fullS B M t) 3000 1).1 then (fullS B M t, 0) else (zeroT, 3) := by
    unfold applyT; rw [h1, h2, hb]; rfl
  generalize (Tm.bldN (fullS B M t) 3000 1).1 = r at hcall ha
  refine R_call hg.ok (hcall) rfl rfl rfl rfl rfl rfl ?_
  refine R_run hg.ok 1000 rfl rfl ?_
  rw [ha]
  cases r with
  | true =>
    refine R_if rfl rfl (fun h => absurd h (by simp)) (fun _ => ?_) <;> refine R_run hg.ok 1000 rfl rfl ?_
    refine R_ret hg 5 rfl rfl ?_
    rfl
  | false =>
    refine R_if rfl rfl (fun _ => ?_) (fun h => absurd h (by simp)) <;> refine R_run hg.ok 1000 rfl rfl ?_
    refine R_ret hg 5 rfl rfl ?_
    rfl
end Go.Proofs.Ytppghekipbnjhaa

namespace Go.Proofs.Ytppghekipbnjhaa
open Go PSL Go.Proofs

/-- What Vars makes. -/
def vobk (V : List Int) : List Ob := [.map (imap (V.map fun n => (n, bV true))), .box [.mp 0], .box [.ow 3 V.length], .arr 1 V.length (irows V)]

theorem setI_seal {f : AV → AV} (h : f .tt = bV true) (V : List Int) : mapOb f (.map (imap (setI V))) = .map (imap (V.map fun n => (n, bV true))) := by
  simp [mapOb, imap, setI, h]

set_option maxRecDepth 100000 in
theorem varsN_ok (Y : YP) (l : List Tm) (hsz : Tm.sizeL l < 1000000000) : SCtr Try.prog Y 62 [.d (.sl (Tm.rows l))] [] (.ow 3 (varsT l).length) (vobk (varsT l)) := by
  refine SCtr.of_R (pf := fun _ => .eff) tyOk mixed Try.func62 rfl (by kernel_rfl) (by kernel_rfl) (by simp [Try.ntmps62]) (by simp) fun w S φ hg => ?_
  have hφ : φ.length = 0 := hg.hs0.len
  refine R_run hg.ok 1000 rfl rfl ?_
  refine R_makeMap hg.ok rfl rfl ?_
  refine R_run hg.ok 1000 rfl rfl ?_
  refine R_ownB 2 0 1 rfl rfl rfl ?_
  refine R_loop (fun x : Nat × List Int => ([(3, .lo 1 0), (4, .lo 2 0), (10, .d (.sl (Tm.rows l))), (11, iV l.length), (12, iV x.1)], vobjs x.2)) (fun x => x.1 ≤ l.length ∧ varsT l = varsF x.2 (l.drop x.1) ∧ x.2.length + Tm.sizeL (l.drop x.1) ≤ Tm.sizeL l) (fun x => l.length - x.1) (0, []) ⟨Nat.zero_le _, rfl, by simp⟩ ⟨.refl _, .refl _, .refl _, Ent.int (by rw [Tm.rows_length]), .refl _, trivial⟩ rfl ?_
  rintro ⟨k, acc⟩ ⟨hk, hm, hal⟩
  simp only at hk hm hal
  have hl := Tm.len_le_sizeL l
  refine R_run hg.ok 1000 rfl rfl ?_
  refine R_if rfl rfl (fun h => ?_) (fun h => ?_) <;> refine R_run hg.ok 1000 rfl rfl ?_
  · have hk1 : k < l.length := lt_dec h rfl
    have e1 : l[k]? = some l[k] := List.getElem?_eq_getElem hk1
    rw [List.drop_eq_getElem_cons hk1] at hm hal
    simp only [Tm.sizeL] at hal
    refine R_index hg.ok rfl rfl rfl rfl rfl rfl (Int.natCast_nonneg k) (Tm.rows_get e1) rfl ?_
    refine R_run hg.ok 1000 rfl rfl ?_
    refine R_call hg.ok (each_ok l[k]) rfl rfl rfl rfl rfl rfl ?_
    refine R_run hg.ok 1000 rfl rfl ?_
    generalize l[k] = t at *
    refine R_range hg.ok hg.gup hg.wide rfl (t.els 1) Tm.enc ⟨(t.els 1).map Tm.enc, fun _ => true⟩ rfl (fun n => vobjs (accN acc t n) ++ [boxR t]) (fun _ _ => [(3, .lo 1 0), (4, .lo 2 0), (8, .lo 5 0)]) (fun n e => vobjs (accN acc t n) ++ [boxR t, boxR e.2]) _ .ret rfl rfl rfl (each1_ok _ t (by omega) fun _ _ h => els_ys h) rfl (fun _ _ => rfl) rfl ?_ ?_ ?_ rfl rfl (fun _ h => by cases h)
    · intro n x hx _ L w R0 X φ0 _
      refine R_run (gRound_ok hg.ok _ _ _ _ _) 1000 rfl rfl ?_
      exact R_finA ⟨.refl _, .refl _, .refl _, trivial⟩ rfl
    · intro n x hx _ L w R0 X φ0 hφ0
      have hg' := gRound_ok hg.ok L w R0 X φ0
      have hn := els_lt hx
      have hstep : accN acc t (n + 1) = stepV (accN acc t n) x := by unfold accN; rw [List.take_add_one, hx, List.foldl_append]; rfl
      have hlen : (accN acc t n).length ≤ acc.length + n := by
        have := foldl_lenV ((t.els 1).take n) acc
        unfold accN; rw [List.length_take] at this; omega
      rw [hstep]
      generalize accN acc t n = a at *
      refine R_run hg' 1000 rfl rfl ?_
      refine R_if rfl rfl (fun h1 => ?_) (fun h1 => ?_) <;> refine R_run hg' 1000 rfl rfl ?_
      · have hx1 : x.2.k = 1 := by simpa using h1
        by_cases hmem : a.contains x.2.n = true
        · refine R_lookupI hg' (setI a) rfl rfl rfl rfl rfl rfl rfl (zv := .bool false) (by kernel_rfl) (v := .tt) (by rw [getI_set, if_pos hmem]; rfl) ?_
          refine R_run hg' 1000 rfl rfl ?_
          refine R_dropO 5 _ (by rw [show (gRound _ L w R0 X φ0).φ0 = φ0 from rfl, hφ0]; exact Nat.le_refl _) rfl (vdrop (trimA 5) rfl _ _) ?_
          exact R_finB rfl (by unfold stepV addV; rw [if_pos hx1, if_pos hmem]; rfl)
        · have hmem' : a.contains x.2.n = false := by simpa using hmem
          refine R_lookupI hg' (setI a) rfl rfl rfl rfl rfl rfl rfl (zv := .bool false) (by kernel_rfl) (v := .ff) (by rw [getI_set, hmem']; rfl) ?_
          refine R_run hg' 1000 rfl rfl ?_
          refine R_mapAddI hg' (setI a) rfl rfl rfl rfl rfl rfl rfl (by rw [getI_set, hmem']; rfl) ?_
          rw [show ∀ E : Env, ev E (.const (.bool true)) = .tt from fun _ => rfl, setI_snoc]
          refine R_run hg' 1000 rfl rfl ?_
          refine R_append hg' rfl rfl rfl rfl rfl rfl rfl rfl rfl (by simp) (by simp [one1]) (by simp [irows_length]; omega) (by simp [irows_length]; omega) ?_
          rw [irows_snoc]
          refine R_run hg' 1000 rfl rfl ?_
          refine R_dropO 5 _ (by rw [show (gRound _ L w R0 X φ0).φ0 = φ0 from rfl, hφ0]; exact Nat.le_refl _) rfl (vdrop (trimA 5) rfl _ _) ?_
          refine R_finB rfl ?_
          unfold stepV addV; rw [if_pos hx1, hmem']
          simp only [Bool.false_eq_true, if_false, vobjs, List.length_append, List.length_cons, List.length_nil]; rfl
      · have hx1 : ¬ x.2.k = 1 := by simpa using h1
        refine R_dropO 5 _ (by rw [show (gRound _ L w R0 X φ0).φ0 = φ0 from rfl, hφ0]; exact Nat.le_refl _) rfl (vdrop (trimA 5) rfl _ _) ?_
        exact R_finB rfl (by unfold stepV; rw [if_neg hx1]; rfl)
    · intro _
      rw [adv_allT (fun _ => rfl)]
      refine R_run hg.ok 1000 rfl rfl ?_
      refine R_dropO 4 _ (by show φ.length ≤ _; omega) rfl (vdrop (trimA 4) rfl _ _) ?_
      have hA : accN acc t (0 + t.size) = (t.els 1).foldl stepV acc := by unfold accN; rw [List.take_of_length_le (by rw [Tm.els_len]; omega)]
      have hfl := foldl_lenV (t.els 1) acc
      rw [Tm.els_len] at hfl
      rw [hA]
      refine R_next (k + 1, (t.els 1).foldl stepV acc) ⟨hk1, hm, by simp only; omega⟩ (by simp only; omega) ⟨.refl _, .refl _, .refl _, .refl _, Ent.wrap (by simp only; omega) (by simp only; omega) (by simp only; omega), trivial⟩ rfl
  · have hk1 : l.length ≤ k := ge_dec h rfl
    have e : varsT l = acc := by rw [hm, List.drop_eq_nil_of_le hk1]; rfl
    rw [e]
    refine R_retS hg 4 5 (Nat.zero_le _) rfl rfl ?_
    simp only [vobjs, List.map_cons, List.map_nil, List.take]
    rw [setI_seal rfl]; rfl
end Go.Proofs.Ytppghekipbnjhaa
