import Derived.Test.YtppghekipbnjhaaM3
namespace Go.Proofs.Ytppghekipbnjhaa
open Go PSL Go.Proofs

set_option maxRecDepth 100000 in
theorem unjMark_ok (Y : YP) (d : Nat) (B : Binds) : SCtr Try.prog Y 45 [.lo 0 0] (uobd d B) (iV B.length) (uobd d B) := by
  refine SCtr.of_R (pf := fun _ => .eff) tyOk mixed Try.func45 rfl (by kernel_rfl) (by kernel_rfl) (by simp [Try.ntmps45]) (by simp [uobd]) fun w S φ hg => ?_
  have hφ : φ.length = 3 := hg.hs0.len
  refine R_run hg.ok 1000 rfl rfl ?_
  refine R_eqNil hg.ok Try.underlying66 rfl rfl rfl ?_
  refine R_run hg.ok 1000 rfl rfl ?_
  refine R_if rfl rfl (fun h => absurd h (by simp)) (fun _ => ?_) <;> refine R_run hg.ok 1000 rfl rfl ?_
  refine R_lenO hg.ok rfl rfl rfl rfl rfl (n := (B.length : Int)) (by rw [irows_length]; simp) ?_
  refine R_run hg.ok 1000 rfl rfl ?_
  exact R_retS hg 3 5 (Nat.le_refl _) rfl rfl (uobd_keep d B _)

set_option maxRecDepth 100000 in
theorem unjBack_ok (Y : YP) (d : Nat) (B X : Binds) (hn : ((B ++ X).map (·.1)).Nodup) (hl : (B ++ X).length ≤ 1000000) : SCtr Try.prog Y 47 [.lo 0 0, iV B.length] (uobd d (B ++ X)) (iV 0) (uobd (X.length + d + 1) B) := by
  refine SCtr.of_R (pf := fun _ => .eff) tyOk mixed Try.func47 rfl (by kernel_rfl) (by kernel_rfl) (by simp [Try.ntmps47]) (by simp [uobd]) fun w S φ hg => ?_
  have hφ : φ.length = 3 := hg.hs0.len
  refine R_run hg.ok 1000 rfl rfl ?_
  refine R_eqNil hg.ok Try.underlying66 rfl rfl rfl ?_
  refine R_run hg.ok 1000 rfl rfl ?_
  refine R_if rfl rfl (fun h => absurd h (by simp)) (fun _ => ?_) <;> refine R_run hg.ok 1000 rfl rfl ?_
  refine R_if rfl rfl (fun h => absurd h (by simp)) (fun _ => ?_) <;> refine R_run hg.ok 1000 rfl rfl ?_
  refine R_lenO hg.ok rfl rfl rfl rfl rfl (n := ((B ++ X).length : Int)) (by rw [irows_length, List.length_map]) ?_
  refine R_run hg.ok 1000 rfl rfl ?_
  refine R_if rfl rfl (fun h => absurd h (by rw [List.length_append]; simp; omega)) (fun _ => ?_) <;> refine R_run hg.ok 1000 rfl rfl ?_
  refine R_callSO hg.ok hg.gup hg.wide hg.Y [0, 1, 2] (uobd (X.length + d + 1) B) (unjUndo_ok Y d B X hn hl) (fun _ => rfl) rfl rfl rfl rfl rfl (by rw [uobd_ren]; rfl) rfl (by rw [uobd_ren]; rfl) ?_
  refine R_run hg.ok 1000 rfl rfl ?_
  exact R_retS hg 3 5 (Nat.le_refl _) rfl rfl (uobd_keep (X.length + d + 1) B _)

set_option maxRecDepth 100000 in
theorem unjBackNo_ok (Y : YP) (d : Nat) (B : Binds) : SCtr Try.prog Y 47 [.lo 0 0, iV (-1)] (uobd d B) (iV 1) (uobd d B) := by
  refine SCtr.of_R (pf := fun _ => .eff) tyOk mixed Try.func47 rfl (by kernel_rfl) (by kernel_rfl) (by simp [Try.ntmps47]) (by simp [uobd]) fun w S φ hg => ?_
  have hφ : φ.length = 3 := hg.hs0.len
  refine R_run hg.ok 1000 rfl rfl ?_
  refine R_eqNil hg.ok Try.underlying66 rfl rfl rfl ?_
  refine R_run hg.ok 1000 rfl rfl ?_
  refine R_if rfl rfl (fun h => absurd h (by simp)) (fun _ => ?_) <;> refine R_run hg.ok 1000 rfl rfl ?_
  refine R_if rfl rfl (fun _ => ?_) (fun h => absurd h (by simp)) <;> refine R_run hg.ok 1000 rfl rfl ?_
  exact R_retS hg 3 5 (Nat.le_refl _) rfl rfl (uobd_keep d B _)
def nobj (d : Nat) (B : Binds) (t : Tm) (V R : List Int) (s : Nat) (Q : Binds) : List Ob := uobd d B ++ [boxR t, .arr 5 Q.length (bindRows Q), .map (imap ((Q.map (·.1)).map fun n => (n, bV true))), .map (imap (V.map fun n => (n, bV true))), .box [.mp 6], .box [.ow 9 V.length], .arr 1 s (irows R)]
def pfNeed : Nat → Cls := fun f => bif Nat.beq f 62 then .turn 0 else bif Nat.beq f 4000000004 then .turn 1 else .eff

theorem setM_ren {f : Nat → Nat} (M : List Int) : renOb f (.map (imap (M.map fun n => (n, bV true)))) = .map (imap (M.map fun n => (n, bV true))) := by
  simp only [renOb, imap, List.map_map]
  congr 1

theorem varsT_len (l : List Tm) : (varsT l).length ≤ Tm.sizeL l := by
  have h : (varsF [] l).length ≤ Tm.sizeL l := by simpa using varsF_len l []
  exact h

theorem nobj_trim (d : Nat) (B : Binds) (t : Tm) (V R : List Int) (s : Nat) (Q : Binds) (n : Nat) (hn : n = 10) : (nobj d B t V R s Q).map (mapOb (trimA n)) = nobj d B t V R s Q := by
  subst hn
  simp only [nobj, uobd, List.map_append, List.map_cons, List.map_nil, List.cons_append, List.nil_append]
  rw [tmM_mapOb (fun t => rfl), setM_mapOb (fun b => rfl), setM_mapOb (fun b => rfl)]
  rfl

set_option maxHeartbeats 1000000 in
set_option maxRecDepth 100000 in
theorem unjNeed_ok (Y : YP) (d : Nat) (B Q' : Binds) (hB : ∀ b ∈ B, b.2.size < 1000000) (t : Tm) (ht : t.size < 1000000) (n0 : Nat) (h0 : Tm.needF B n0 (varsT [t]) [] = some Q') (hQ : ∀ Q : Binds, (Q.map (·.1)).Nodup → (∀ b ∈ Q, findB B b.1 = some b.2) → Q.length ≤ 1000) : SCtr Try.prog Y 82 [.lo 0 0, t.av] (uobd d B) (.d (.sl (bindRows Q'))) (uobd d B) := by
  refine SCtr.of_R (pf := pfNeed) tyOk mixed Try.func82 rfl (by kernel_rfl) (by kernel_rfl) (by simp [Try.ntmps82]) (by simp [uobd]) fun w S φ hg => ?_
  have hφ : φ.length = 3 := hg.hs0.len
  first
  | (refine R_run hg.ok 1 rfl rfl ?_; refine R_own 5 5 rfl rfl ?_)
  | (refine R_run hg.ok 2 rfl rfl ?_; refine R_own 5 5 rfl rfl ?_)
  | (refine R_run hg.ok 3 rfl rfl ?_; refine R_own 5 5 rfl rfl ?_)
  | (refine R_run hg.ok 4 rfl rfl ?_; refine R_own 5 5 rfl rfl ?_)
  | (refine R_run hg.ok 5 rfl rfl ?_; refine R_own 5 5 rfl rfl ?_)
  | (refine R_run hg.ok 6 rfl rfl ?_; refine R_own 5 5 rfl rfl ?_)
  | (refine R_run hg.ok 7 rfl rfl ?_; refine R_own 5 5 rfl rfl ?_)
  refine R_run hg.ok 1000 rfl rfl ?_
  refine R_makeMap hg.ok rfl rfl ?_
  refine R_run hg.ok 1000 rfl rfl ?_
  refine R_callNew hg.ok hg.gup hg.wide hg.Y (nobj d B t (varsT [t]) (varsT [t]) (varsT [t]).length []) (varsN_ok Y [t] (by simp [Tm.sizeL]; omega)).one (fun _ => rfl) rfl rfl rfl rfl rfl ?_ ?_
  · show _ ++ List.map _ (vobk _) = _
    simp only [vobk, List.map_cons, List.map_nil]
    rw [setM_ren]; rfl
  refine R_run hg.ok 1000 rfl rfl ?_
  refine R_loop (fun x : Nat × List Int × Binds × Nat => ([(0, .lo 0 0), (5, .ow 4 x.2.2.1.length), (6, .mp 5), (7, .ow 9 x.2.2.2)], nobj d B t (varsT [t]) x.2.1 x.2.2.2 x.2.2.1)) (fun x => Tm.needF B x.1 x.2.1 x.2.2.1 = some Q' ∧ (x.2.2.1.map (·.1)).Nodup ∧ (∀ b ∈ x.2.2.1, findB B b.1 = some b.2) ∧ x.2.1.length ≤ 1000000 * (x.2.2.1.length + 1)) (fun x => x.1) (n0, varsT [t], [], (varsT [t]).length) ⟨h0, by simp, by simp, ?_⟩ ⟨.refl _, .refl _, .refl _, .refl _, trivial⟩ rfl ?_
  · have := varsT_len [t]; simp only [Tm.sizeL, List.length_nil] at this ⊢; omega
  rintro ⟨n, R, Q, s⟩ ⟨hn, hnd, hlk, hRl⟩
  simp only at hn hnd hlk hRl
  have hQl := hQ Q hnd hlk
  refine R_run hg.ok 1000 rfl rfl ?_
  refine R_lenO hg.ok rfl rfl rfl rfl rfl (n := (R.length : Int)) (by rw [irows_length]) ?_
  refine R_run hg.ok 1000 rfl rfl ?_
  cases n with
  | zero => simp [Tm.needF] at hn
  | succ n =>
  cases R with
  | nil =>
    simp only [Tm.needF, Option.some.injEq] at hn
    subst hn
    refine R_if rfl rfl (fun h => absurd h (by simp)) (fun _ => ?_) <;> refine R_run hg.ok 1000 rfl rfl ?_
    exact R_retS hg 3 5 (Nat.le_refl _) rfl (sealT_ow rfl rfl) (uobd_keep d B _)
  | cons v R =>
  refine R_if rfl rfl (fun _ => ?_) (fun h => absurd h (by simp)) <;> refine R_run hg.ok 1000 rfl rfl ?_
  simp only [List.length_cons] at hRl
  have hrow : (irows (v :: R))[(0 : Int).toNat]? = some [.v (.int .i64 v)] := rfl
  refine R_indexO hg.ok rfl rfl rfl rfl rfl rfl rfl rfl rfl (Int.le_refl 0) (by rw [irows_length]; simp) ?_
  refine R_run hg.ok 1000 rfl rfl ?_
  refine R_loadE hg.ok rfl rfl rfl rfl rfl rfl hrow rfl ?_
  refine R_run hg.ok 1000 rfl rfl ?_
  refine R_frontO hg.ok (irows R) rfl rfl rfl rfl rfl rfl rfl rfl rfl (by decide) (by rw [irows_length]; simp; omega) rfl ?_
  refine R_run hg.ok 1000 rfl rfl ?_
  cases hb : findB B v with
  | none =>
    have hn' : Tm.needF B n R Q = some Q' := by simpa only [Tm.needF, hb] using hn
    refine R_lookupI hg.ok (tmM B) rfl rfl rfl rfl rfl rfl rfl (zv := zTmV) (by kernel_rfl) (v := .tup [zTmA, bV false]) (by rw [getI_tm, hb]; rfl) ?_
    refine R_run hg.ok 1000 rfl rfl ?_
    refine R_if rfl rfl (fun h => absurd h (by simp)) (fun _ => ?_) <;> refine R_run hg.ok 1000 rfl rfl ?_
    refine R_dropO 10 (nobj d B t (varsT [t]) R (s + 1) Q) (by show φ.length ≤ _; omega) rfl (nobj_trim _ _ _ _ _ _ _ _ rfl) ?_
    exact R_next (n, R, Q, s + 1) ⟨hn', hnd, hlk, by simp only; omega⟩ (by simp only; omega) ⟨.refl _, .refl _, .refl _, .refl _, trivial⟩ rfl
  | some x =>
    refine R_lookupI hg.ok (tmM B) rfl rfl rfl rfl rfl rfl rfl (zv := zTmV) (by kernel_rfl) (v := .tup [x.av, bV true]) (by rw [getI_tm, hb]; rfl) ?_
    refine R_run hg.ok 1000 rfl rfl ?_
    refine R_if rfl rfl (fun _ => ?_) (fun h => absurd h (by simp)) <;> refine R_run hg.ok 1000 rfl rfl ?_
    have hg1 := setM_get (Q.map (·.1)) v
    cases hc : (Q.map (·.1)).contains v with
    | true =>
      have hn' : Tm.needF B n R Q = some Q' := by
        simp only [Tm.needF, hb] at hn
        rwa [if_pos hc] at hn
      rw [hc, if_pos rfl] at hg1
      refine R_lookupI hg.ok ((Q.map (·.1)).map fun n => (n, bV true)) rfl rfl rfl rfl rfl rfl rfl (zv := .bool false) (by kernel_rfl) (v := bV true) (by rw [hg1]; rfl) ?_
      refine R_run hg.ok 1000 rfl rfl ?_
      refine R_if rfl rfl (fun h => absurd h (by simp)) (fun _ => ?_) <;> refine R_run hg.ok 1000 rfl rfl ?_
      refine R_dropO 10 (nobj d B t (varsT [t]) R (s + 1) Q) (by show φ.length ≤ _; omega) rfl (nobj_trim _ _ _ _ _ _ _ _ rfl) ?_
      exact R_next (n, R, Q, s + 1) ⟨hn', hnd, hlk, by simp only; omega⟩ (by simp only; omega) ⟨.refl _, .refl _, .refl _, .refl _, trivial⟩ rfl
    | false =>
      have hn' : Tm.needF B n (R ++ varsT [x]) (Q ++ [(v, x)]) = some Q' := by
        simp only [Tm.needF, hb] at hn
        rwa [if_neg (by rw [hc]; simp)] at hn
      rw [hc, if_neg (by simp)] at hg1
      have hxs : x.size < 1000000 := hB _ (Tm.findB_mem hb)
      have hxl := varsT_len [x]
      simp only [Tm.sizeL, Nat.add_zero] at hxl
      refine R_lookupI hg.ok ((Q.map (·.1)).map fun n => (n, bV true)) rfl rfl rfl rfl rfl rfl rfl (zv := .bool false) (by kernel_rfl) (v := .ff) (by rw [hg1]; rfl) ?_
      refine R_run hg.ok 1000 rfl rfl ?_
      refine R_mapAddW hg.ok (bV true) ((Q.map (·.1)).map fun n => (n, bV true)) (((Q ++ [(v, x)]).map (·.1)).map fun n => (n, bV true)) rfl rfl rfl rfl rfl rfl rfl hg1 .tt (by simp) ?_
      refine R_run hg.ok 1000 rfl rfl ?_
      refine R_appendO hg.ok (bindRows (Q ++ [(v, x)])) rfl rfl rfl rfl rfl rfl rfl rfl rfl (by simp) (by simp [one1]) (bind_snoc _ _ _) (by rw [bindRows_len]; simp; omega) (by rw [bindRows_len]; simp; omega) ?_
      refine R_run hg.ok 1000 rfl rfl ?_
      refine R_call hg.ok ((vars_ok [x] (by simp [Tm.sizeL]; omega)).one) rfl rfl rfl rfl rfl rfl ?_
      refine R_run hg.ok 1000 rfl rfl ?_
      refine R_appendO hg.ok (irows (R ++ varsT [x])) rfl rfl rfl rfl rfl rfl rfl rfl rfl (by simp [irows, irow]) (by simp [irows, irow, one1]) (by simp [irows]) (by rw [irows_length, irows_length]; simp; omega) (by rw [irows_length, irows_length]; omega) ?_
      refine R_run hg.ok 1000 rfl rfl ?_
      refine R_dropO 10 (nobj d B t (varsT [t]) (R ++ varsT [x]) (s + 2) (Q ++ [(v, x)])) (by show φ.length ≤ _; omega) rfl ?_ ?_
      · rw [← nobj_trim d B t (varsT [t]) (R ++ varsT [x]) (s + 2) (Q ++ [(v, x)]) 10 rfl]
        have e : (Q ++ [(v, x)]).length = Nat.succ Q.length := by simp
        unfold nobj
        rw [e]; rfl
      refine R_next (n, R ++ varsT [x], Q ++ [(v, x)], s + 2) ⟨hn', ?_, fun b hb' => ?_, by simp only [List.length_append, List.length_cons, List.length_nil]; omega⟩ (by simp only; omega) ⟨.refl _, ?_, .refl _, .refl _, trivial⟩ rfl
      · rw [List.map_append, List.nodup_append]
        refine ⟨hnd, by simp, fun a ha b hb => ?_⟩
        simp only [List.map_cons, List.map_nil, List.mem_singleton] at hb
        intro e
        rw [hb] at e
        rw [e] at ha
        have : (Q.map (·.1)).contains v = true := List.contains_iff_mem.2 ha
        rw [hc] at this; cases this
      · rcases List.mem_append.1 hb' with h | h
        · exact hlk b h
        · rw [List.mem_singleton] at h; subst h; exact hb
      · have e : (Q ++ [(v, x)]).length = Nat.succ Q.length := by simp
        simp only [e]; exact .refl _
def pfVal : Nat → Cls := fun f => bif Nat.beq f 82 then .turn 3 else bif Nat.beq f 4000100003 then .look 4 else .eff

set_option maxRecDepth 100000 in
theorem unjValue_ok (Y : YP) (d : Nat) {S : List Int} {N : Nat} (hS : S.length ≤ 100) (hN : N ≤ 100) (B : Binds) (hB : Tm.UG S N [] B) (t : Tm) (ht : t.rightB = true) (nt : ∀ x, ∀ e ∈ t.els x, e.2.s.size < 1000000000) : SCtr Try.prog Y 48 [.lo 0 0, t.av] (uobd d B) (.tup [(app3 (fullS B B.length t)).1.av, iV (app3 (fullS B B.length t)).2]) (uobd d B) := by
  have st : t.size ≤ 3000 := (Tm.rightB_iff.1 ht).2.1
  obtain ⟨n0, Q, h0⟩ := Tm.need_ends B _ [] (Nat.le_refl _) (varsT [t])
  have hI := Tm.need_ok (fun b hb => (hB.fairb b hb).1) _ _ _ _ h0 (Tm.NeedI.first B (varsT [t]))
  obtain ⟨q1, q2, q3, _⟩ := Tm.need_full hB hI
  have hBl := hB.blen
  have hbs : ∀ b ∈ B, b.2.size < 1000000 := fun b hb => by have := hB.sb b hb; omega
  have hft : Tm.fairRL [t] = true := Tm.fairRL_iff.2 fun x hx => by rw [List.mem_singleton] at hx; subst hx; exact right_fair ht
  have hap := Tm.need_apply hN hB hI ht fun u hu => (varsT_mem hft).2 (by simpa [Tm.occL] using hu)
  have sQ : Small Q := ⟨by omega, fun b hb => by have := hbs b (q3 b hb); omega, fun b hb x e he => fair_names (hB.fairb b (q3 b hb)).1 x e he⟩
  have hA := apply_ok Q Q.length (fun _ => q1) sQ t (by omega) fun x e he => nt x e he
  rw [hap] at hA
  have hN' := unjNeed_ok Y d B Q hbs t (by omega) n0 h0 fun Q' g1 g2 => by
    have := Tm.nodup_bound (B := B) g1 fun m hm => by
      obtain ⟨b, hb, rfl⟩ := List.mem_map.1 hm
      rw [g2 b hb]; simp
    rw [List.length_map] at this; omega
  generalize app3 (fullS B B.length t) = r at hA
  obtain ⟨x, e⟩ := r
  simp only at hA ⊢
  refine SCtr.of_R (pf := pfVal) tyOk mixed Try.func48 rfl (by kernel_rfl) (by kernel_rfl) (by simp [Try.ntmps48]) (by simp [uobd]) fun w S φ hg => ?_
  have hφ : φ.length = 3 := hg.hs0.len
  refine R_run hg.ok 1000 rfl rfl ?_
  refine R_eqNil hg.ok Try.underlying66 rfl rfl rfl ?_
  refine R_run hg.ok 1000 rfl rfl ?_
  refine R_if rfl rfl (fun h => absurd h (by simp)) (fun _ => ?_) <;> refine R_run hg.ok 1000 rfl rfl ?_
  refine R_load4 hg.ok (by show φ.length ≤ 3; omega) rfl rfl rfl rfl rfl rfl rfl ?_
  refine R_run hg.ok 1000 rfl rfl ?_
  refine R_call hg.ok (right_ok t (by omega) (nt 1)) rfl rfl rfl rfl rfl rfl ?_
  refine R_run hg.ok 1000 rfl rfl ?_
  rw [rightT_eq, ht]
  refine R_if rfl rfl (fun h => absurd h (by simp)) (fun _ => ?_) <;> refine R_run hg.ok 1000 rfl rfl ?_
  refine R_load4 hg.ok (by show φ.length ≤ 3; omega) rfl rfl rfl rfl rfl rfl rfl ?_
  refine R_run hg.ok 1000 rfl rfl ?_
  refine R_callS3 hg.ok hg.gup hg.wide hg.Y [0, 1, 2] (uobd d B ++ [boxR t, .box [.d (.v (.int .i64 0)), .d (.v (.string ByteArray.empty)), .d (.v (.int .i64 0)), .d (.v (.slice none 0 0))]]) hN' (fun _ => rfl) (fun i hi => by show i < φ.length; simp at hi; omega) rfl rfl rfl rfl rfl (by rw [uobd_ren]; rfl) rfl (by rw [uobd_ren]; rfl) ?_
  refine R_run hg.ok 1000 rfl rfl ?_
  refine R_load4 hg.ok (by show φ.length ≤ 3; omega) rfl rfl rfl rfl rfl rfl rfl ?_
  refine R_run hg.ok 1000 rfl rfl ?_
  refine R_call hg.ok (hA) rfl rfl rfl rfl rfl rfl ?_
  refine R_run hg.ok 1000 rfl rfl ?_
  exact R_retS hg 3 5 (Nat.le_refl _) rfl rfl (uobd_keep d B _)

set_option maxRecDepth 100000 in
theorem unjValueNo_ok (Y : YP) (d : Nat) (B : Binds) (t : Tm) (ht : t.rightB = false) (st : t.size < 1000000000) (nt : ∀ e ∈ t.els 1, e.2.s.size < 1000000000) : SCtr Try.prog Y 48 [.lo 0 0, t.av] (uobd d B) (.tup [zeroT.av, iV 1]) (uobd d B) := by
  refine SCtr.of_R (pf := pfVal) tyOk mixed Try.func48 rfl (by kernel_rfl) (by kernel_rfl) (by simp [Try.ntmps48]) (by simp [uobd]) fun w S φ hg => ?_
  have hφ : φ.length = 3 := hg.hs0.len
  refine R_run hg.ok 1000 rfl rfl ?_
  refine R_eqNil hg.ok Try.underlying66 rfl rfl rfl ?_
  refine R_run hg.ok 1000 rfl rfl ?_
  refine R_if rfl rfl (fun h => absurd h (by simp)) (fun _ => ?_) <;> refine R_run hg.ok 1000 rfl rfl ?_
  refine R_load4 hg.ok (by show φ.length ≤ 3; omega) rfl rfl rfl rfl rfl rfl rfl ?_
  refine R_run hg.ok 1000 rfl rfl ?_
  refine R_call hg.ok (right_ok t st nt) rfl rfl rfl rfl rfl rfl ?_
  refine R_run hg.ok 1000 rfl rfl ?_
  rw [rightT_eq, ht]
  refine R_if rfl rfl (fun _ => ?_) (fun h => absurd h (by simp)) <;> refine R_run hg.ok 1000 rfl rfl ?_
  exact R_retS hg 3 5 (Nat.le_refl _) rfl rfl (uobd_keep d B _)
end Go.Proofs.Ytppghekipbnjhaa

namespace Go.Proofs.Ytppghekipbnjhaa
open Go PSL Go.Proofs

theorem contains_cons' {l : List Int} {x n : Int} : (x :: l).contains n = (decide (x = n) || l.contains n) := by
  simp only [List.contains_cons]; congr 1; rw [Bool.eq_iff_iff]; simp; exact eq_comm

set_option maxRecDepth 100000 in
theorem with_ok (t : Tm) : ∀ (l : List Int), l.length + t.size < 1000000000 → PCtr Try.prog 75 [.d (.sl (irows l)), t.av] (.d (.sl (irows (Tm.withV l t)))) := by
  induction t using Tm.ind with
  | _ t ih =>
  intro l hsz
  have hl := Tm.len_le_sizeL t.l
  have hs := Tm.size_eq t
  refine PCtr.of_R (pf := pfB) tyOk mixed Try.func75 rfl (by kernel_rfl) (by kernel_rfl) (by simp [Try.ntmps75]) fun w S hg => ?_
  refine R_run hg.ok 1000 rfl rfl ?_
  refine R_if rfl rfl (fun h => ?_) (fun h => ?_) <;> refine R_run hg.ok 1000 rfl rfl ?_
  · have hk : t.k = 1 := by simpa using h
    refine R_loop (fun k : Nat => ([(0, .d (.sl (irows l))), (3, .lo 0 0), (5, iV k)], [boxR t])) (fun k => k ≤ l.length ∧ l.contains t.n = (l.drop k).contains t.n) (fun k => l.length - k) 0 ⟨Nat.zero_le _, rfl⟩ ⟨.refl _, .refl _, .refl _, trivial⟩ rfl ?_
    rintro k ⟨hk0, hm⟩
    refine R_run hg.ok 1000 rfl rfl ?_
    refine R_if rfl rfl (fun h => ?_) (fun h => ?_) <;> refine R_run hg.ok 1000 rfl rfl ?_
    · have hk1 : k < l.length := lt_dec h (by rw [irows_length])
      have e1 : l[k]? = some l[k] := List.getElem?_eq_getElem hk1
      rw [List.drop_eq_getElem_cons hk1, contains_cons'] at hm
      refine R_index hg.ok rfl rfl rfl rfl rfl rfl (Int.natCast_nonneg k) (irows_get e1) rfl ?_
      refine R_run hg.ok 1000 rfl rfl ?_
      refine R_if rfl rfl (fun h => ?_) (fun h => ?_) <;> refine R_run hg.ok 1000 rfl rfl ?_
      · refine R_ret hg 5 rfl rfl ?_
        have he : l[k] = t.n := by simpa using h
        rw [Tm.withV_eq, if_pos hk, addV, if_pos (by rw [hm]; simp [he])]
      · have he : ¬ l[k] = t.n := by simpa using h
        refine R_next (k + 1) ⟨hk1, by rw [hm]; simp [he]⟩ (by omega) ⟨.refl _, .refl _, Ent.wrap (by omega) (by omega) (by omega), trivial⟩ rfl
    · have hk1 : l.length ≤ k := ge_dec h (by rw [irows_length])
      rw [List.drop_eq_nil_of_le hk1] at hm
      refine R_appendF hg.ok (rows := []) rfl rfl (.inl rfl) rfl (.inl rfl) rfl rfl rfl (by simp) (by simp [irows]; intros; subst_vars; rfl) (by simp [irows_length]; omega) (by simp [irows_length]; omega) ?_
      refine R_run hg.ok 1000 rfl rfl ?_
      refine R_appendO hg.ok (irows (l ++ [t.n])) rfl rfl rfl rfl rfl rfl rfl rfl rfl (by simp) (by simp [one1]) (by simp [irows, irow]) (by simp [irows_length]; omega) (by simp [irows_length]; omega) ?_
      refine R_run hg.ok 1000 rfl rfl ?_
      refine R_ret hg 5 rfl (sealA_ow rfl) ?_
      rw [Tm.withV_eq, if_pos hk, addV, if_neg (by rw [hm]; simp)]
  · have hk : ¬ t.k = 1 := by simpa using h
    refine R_loop (fun x : Nat × List Int => ([(0, .d (.sl (irows x.2))), (3, .lo 0 0), (6, iV x.1)], [boxR t])) (fun x => x.1 ≤ t.l.length ∧ Tm.withV l t = Tm.withVL x.2 (t.l.drop x.1) ∧ x.2.length + Tm.sizeL (t.l.drop x.1) ≤ l.length + Tm.sizeL t.l) (fun x => t.l.length - x.1) (0, l) ⟨Nat.zero_le _, by rw [Tm.withV_eq, if_neg hk]; rfl, Nat.le_refl _⟩ ⟨.refl _, .refl _, .refl _, trivial⟩ rfl ?_
    rintro ⟨k, a⟩ ⟨hk0, hm, hal⟩
    simp only at hk0 hm hal
    refine R_run hg.ok 1000 rfl rfl ?_
    refine R_if rfl rfl (fun h => ?_) (fun h => ?_) <;> refine R_run hg.ok 1000 rfl rfl ?_
    · have hk1 : k < t.l.length := lt_dec h (by rw [Tm.rows_length])
      have e1 : t.l[k]? = some t.l[k] := List.getElem?_eq_getElem hk1
      rw [List.drop_eq_getElem_cons hk1] at hm hal
      simp only [Tm.withVL] at hm
      simp only [Tm.sizeL] at hal
      refine R_index hg.ok rfl rfl rfl rfl rfl rfl (Int.natCast_nonneg k) (Tm.rows_get e1) rfl ?_
      refine R_run hg.ok 1000 rfl rfl ?_
      refine R_call hg.ok (ih _ (List.getElem_mem hk1) a (by omega)) rfl rfl rfl rfl rfl rfl ?_
      refine R_run hg.ok 1000 rfl rfl ?_
      have hwl := Tm.withV_len t.l[k] a
      exact R_next (k + 1, Tm.withV a t.l[k]) ⟨hk1, hm, by simp only; omega⟩ (by simp only; omega) ⟨.refl _, .refl _, Ent.wrap (by simp only; omega) (by simp only; omega) (by simp only; omega), trivial⟩ rfl
    · have hk1 : t.l.length ≤ k := ge_dec h (by rw [Tm.rows_length])
      refine R_ret hg 5 rfl rfl ?_
      rw [hm, List.drop_eq_nil_of_le hk1]; rfl

set_option maxRecDepth 100000 in
theorem refVars_ok (l : List Tm) (hsz : Tm.sizeL l < 1000000000) : PCtr Try.prog 36 [.d (.sl (Tm.rows l))] (.d (.sl (irows (Tm.withVL [] l)))) := by
  have hl := Tm.len_le_sizeL l
  refine PCtr.of_R (pf := pfB) tyOk mixed Try.func36 rfl (by kernel_rfl) (by kernel_rfl) (by simp [Try.ntmps36]) fun w S hg => ?_
  refine R_run hg.ok 1000 rfl rfl ?_
  refine R_loop (fun x : Nat × List Int => ([(0, .d (.sl (Tm.rows l))), (3, .d (.sl (irows x.2))), (4, iV x.1)], [])) (fun x => x.1 ≤ l.length ∧ Tm.withVL [] l = Tm.withVL x.2 (l.drop x.1) ∧ x.2.length + Tm.sizeL (l.drop x.1) ≤ Tm.sizeL l) (fun x => l.length - x.1) (0, []) ⟨Nat.zero_le _, rfl, by simp⟩ ⟨.refl _, .nil, .refl _, trivial⟩ rfl ?_
  rintro ⟨k, a⟩ ⟨hk0, hm, hal⟩
  simp only at hk0 hm hal
  refine R_run hg.ok 1000 rfl rfl ?_
  refine R_if rfl rfl (fun h => ?_) (fun h => ?_) <;> refine R_run hg.ok 1000 rfl rfl ?_
  · have hk1 : k < l.length := lt_dec h (by rw [Tm.rows_length])
    have e1 : l[k]? = some l[k] := List.getElem?_eq_getElem hk1
    rw [List.drop_eq_getElem_cons hk1] at hm hal
    simp only [Tm.withVL] at hm
    simp only [Tm.sizeL] at hal
    refine R_index hg.ok rfl rfl rfl rfl rfl rfl (Int.natCast_nonneg k) (Tm.rows_get e1) rfl ?_
    refine R_run hg.ok 1000 rfl rfl ?_
    refine R_call hg.ok (with_ok l[k] a (by omega)) rfl rfl rfl rfl rfl rfl ?_
    refine R_run hg.ok 1000 rfl rfl ?_
    have hwl := Tm.withV_len l[k] a
    exact R_next (k + 1, Tm.withV a l[k]) ⟨hk1, hm, by simp only; omega⟩ (by simp only; omega) ⟨.refl _, .refl _, Ent.wrap (by simp only; omega) (by simp only; omega) (by simp only; omega), trivial⟩ rfl
  · have hk1 : l.length ≤ k := ge_dec h (by rw [Tm.rows_length])
    refine R_ret hg 5 rfl rfl ?_
    rw [hm, List.drop_eq_nil_of_le hk1]; rfl
def toG (frm to : List Int) (n : Int) : Int := (to[(atI frm n 0).toNat]?).getD 0

theorem atI_lt : ∀ (l : List Int) (n i : Int), 0 ≤ i → atI l n i < i + l.length
  | [], _, i, h => by simp [atI]; omega
  | x :: l, n, i, h => by
    have := atI_lt l n (i + 1) (by omega)
    simp only [atI, List.length_cons]
    split
    · omega
    · omega

theorem turnR_snoc {l : List Tm} {k : Nat} {x : Tm} {g : Int → Int} (h : l[k]? = some x) : Tm.rows (Tm.turnRL g (l.take k)) ++ [Tm.row (Tm.turnR g x)] = Tm.rows (Tm.turnRL g (l.take (k + 1))) := by
  rw [List.take_add_one, h]
  simp [Tm.turnRL_map, Tm.rows_eq]

set_option maxRecDepth 100000 in
theorem refTurn_ok (frm to : List Int) (hft : frm.length ≤ to.length) (htl : to.length < 1000000000) (t : Tm) : t.size < 1000000000 → (∀ d e, e ∈ t.els d → e.2.k = 1 → 0 ≤ atI frm e.2.n 0) →
    PCtr Try.prog 84 [t.av, .d (.sl (irows frm)), .d (.sl (irows to))] (Tm.turnR (toG frm to) t).av := by
  induction t using Tm.ind with
  | _ t ih =>
  intro hsz hin
  have hl := Tm.len_le_sizeL t.l
  have hs := Tm.size_eq t
  refine PCtr.of_R (pf := fun _ => .still) tyOk mixed Try.func84 rfl (by kernel_rfl) (by kernel_rfl) (by simp [Try.ntmps84]) fun w S hg => ?_
  refine R_run hg.ok 1000 rfl rfl ?_
  refine R_if rfl rfl (fun h => ?_) (fun h => ?_) <;> refine R_run hg.ok 1000 rfl rfl ?_
  · have hk : t.k = 1 := by simpa using h
    refine R_call hg.ok (at_ok frm t.n (by omega)) rfl rfl rfl rfl rfl rfl ?_
    refine R_run hg.ok 1000 rfl rfl ?_
    have h0 : 0 ≤ atI frm t.n 0 := hin 0 (0, t) (by rw [Tm.els_eq]; simp) hk
    have hlt : (atI frm t.n 0).toNat < to.length := by
      have := atI_lt frm t.n 0 (Int.le_refl _)
      omega
    have e1 : to[(atI frm t.n 0).toNat]? = some to[(atI frm t.n 0).toNat] := List.getElem?_eq_getElem hlt
    refine R_index hg.ok rfl rfl rfl rfl rfl rfl h0 (irows_get e1) rfl ?_
    refine R_run hg.ok 1000 rfl rfl ?_
    refine R_ret hg 5 rfl rfl ?_
    rw [Tm.turnR_eq, if_pos hk]
    simp only [toG, e1, Option.getD_some]; rfl
  · have hk : ¬ t.k = 1 := by simpa using h
    refine R_ownB 2 3 4 rfl rfl rfl ?_
    refine R_loop (fun k : Nat => ([(1, .d (.sl (irows frm))), (2, .d (.sl (irows to))), (3, .lo 0 0), (6, .lo 1 0), (7, .lo 2 0), (8, iV k)], [boxR t, .box [.d (.v (.int .i64 0)), .d (.v (.string ByteArray.empty)), .d (.v (.int .i64 0)), .d (.v (.slice none 0 0))], .box [.d (.v (.int .i64 t.k)), .d (.v (.string t.s)), .d (.v (.int .i64 t.n)), .ow 3 k], .arr 4 k (Tm.rows (Tm.turnRL (toG frm to) (t.l.take k)))]))
      (fun k => k ≤ t.l.length) (fun k => t.l.length - k) 0 (Nat.zero_le _) ⟨.refl _, .refl _, .refl _, .refl _, .refl _, .refl _, trivial⟩ rfl ?_
    intro k hk0
    refine R_run hg.ok 1000 rfl rfl ?_
    refine R_if rfl rfl (fun h => ?_) (fun h => ?_) <;> refine R_run hg.ok 1000 rfl rfl ?_
    · have hk1 : k < t.l.length := lt_dec h (by rw [Tm.rows_length])
      have e1 : t.l[k]? = some t.l[k] := List.getElem?_eq_getElem hk1
      have hm := Tm.size_mem (List.getElem_mem hk1)
      refine R_index hg.ok rfl rfl rfl rfl rfl rfl (Int.natCast_nonneg k) (Tm.rows_get e1) rfl ?_
      refine R_run hg.ok 1000 rfl rfl ?_
      refine R_call hg.ok (ih _ (List.getElem_mem hk1) (by omega) (fun d e he => hin (d - 1) e (by rw [Tm.els_eq]; exact List.mem_cons_of_mem _ (Tm.els_memL (List.getElem_mem hk1) (by rw [Int.sub_add_cancel]; exact he))))) rfl rfl rfl rfl rfl rfl ?_
      refine R_run hg.ok 1000 rfl rfl ?_
      refine R_appendO hg.ok _ rfl rfl rfl rfl rfl rfl rfl rfl rfl (by simp) (by simp [one1]) (turnR_snoc e1) (by rw [Tm.rows_length, Tm.turnRL_map]; simp; omega) (by rw [Tm.rows_length, Tm.turnRL_map]; simp; omega) ?_
      refine R_run hg.ok 1000 rfl rfl ?_
      exact R_next (k + 1) hk1 (by omega) ⟨.refl _, .refl _, .refl _, .refl _, .refl _, Ent.wrap (by omega) (by omega) (by omega), trivial⟩ rfl
    · have hk1 : t.l.length ≤ k := ge_dec h (by rw [Tm.rows_length])
      refine R_ret hg 5 rfl (sealA_term rfl rfl rfl rfl) ?_
      rw [List.take_of_length_le hk1, Tm.turnR_eq, if_neg hk]; rfl
end Go.Proofs.Ytppghekipbnjhaa

namespace Go.Proofs.Ytppghekipbnjhaa
open Go PSL Go.Proofs
def sY : Tm := Tm.vT 1
def sB : Binds := [(0, .mk 3 ⟨#[102]⟩ 0 [sY]), (1, .mk 3 ⟨#[97]⟩ 0 [])]

theorem smallFair {B : Binds} (hl : B.length ≤ 4000) (h : B.all (fun b => b.2.fairR) = true) (hs : B.all (fun b => decide (b.2.size < 400000000)) = true) : Small B :=
  ⟨hl, fun b hb => by simpa using List.all_eq_true.1 hs b hb, fun b hb x e he => fair_names (List.all_eq_true.1 h b hb) x e he⟩
end Go.Proofs.Ytppghekipbnjhaa

namespace Go.Proofs.Ytppghekipbnjhaa
open Go PSL Go.Proofs
end Go.Proofs.Ytppghekipbnjhaa

namespace Go.Proofs.Ytppghekipbnjhaa
open Go PSL Go.Proofs

set_option maxRecDepth 100000 in
theorem refBecome_ok (B : Binds) (M : Nat) (hS : Sub B M) (hBl : B.length ≤ 4000) : ∀ (N m : Nat) (t : Tm) (most deep : Int), (fullS B M t).size ≤ N → levT B m t → t.fairR = true → 0 ≤ most → most ≤ 3000 → 0 ≤ deep → deep ≤ 100 →
    PCtr Try.prog 83 [.d (.sl (bindRows B)), t.av, iV most, iV deep] (.tup [(becR (fullS B M t) most deep).1.av, iV (becR (fullS B M t) most deep).2]) := by
  intro N
  induction N with
  | zero => intro m t _ _ h; have := Tm.size_eq (fullS B M t); omega
  | succ N ihN =>
  intro m
  induction m using Nat.strongRecOn with
  | ind m ihm =>
  intro t most deep hN hlev hf hm0 hm1 hd0 hd1
  refine PCtr.of_R (pf := fun _ => .still) tyOk mixed Try.func83 rfl (by kernel_rfl) (by kernel_rfl) (by simp [Try.ntmps83]) fun w S hg => ?_
  refine R_run hg.ok 1000 rfl rfl ?_
  refine R_cut1 (fun _ : Unit => ([(0, .d (.sl (bindRows B))), (2, iV most), (3, iV deep), (5, .lo 0 0), (8, .lo 1 0)], [boxR t, zBxS])) (fun _ => t.k = 1 → findB B t.n = none) rfl ?_ ?_
  · refine R_if rfl rfl (fun hk => ?_) (fun hk => ?_) <;> refine R_run hg.ok 1000 rfl rfl ?_
    · have hk : t.k = 1 := by simpa using hk
      refine R_call hg.ok (place_ok B t.n (by omega)) rfl rfl rfl rfl rfl rfl ?_
      refine R_run hg.ok 1000 rfl rfl ?_
      rcases placeB_find B t.n with ⟨h1, h2⟩ | ⟨j, x, h1, h2, h3⟩
      · refine R_if rfl rfl (fun h => absurd h (by simp; omega)) (fun _ => ?_) <;> refine R_run hg.ok 1000 rfl rfl ?_
        exact R_to () (fun _ => h2) ⟨.refl _, .refl _, .refl _, .refl _, .refl _, trivial⟩ rfl
      · rw [h1]
        refine R_if rfl rfl (fun _ => ?_) (fun h => absurd h (by simp)) <;> refine R_run hg.ok 1000 rfl rfl ?_
        refine R_index hg.ok rfl rfl rfl rfl rfl rfl (Int.natCast_nonneg _) (bindRows_get h2) rfl ?_
        refine R_run hg.ok 1000 rfl rfl ?_
        obtain ⟨q, rfl, hq⟩ := lev_find hS.fair hlev (occ_var hk) h3
        have hb := hS.bound hf hk h3
        have hc := ihm q (by omega) x most deep (by rw [← hb]; exact hN) hq (hS.fair _ (List.mem_of_getElem? h2)) hm0 hm1 hd0 hd1
        rw [← hb] at hc
        refine R_call hg.ok (hc) rfl rfl rfl rfl rfl rfl ?_
        refine R_run hg.ok 1000 rfl rfl ?_
        refine R_ret hg 5 rfl rfl ?_
        rfl
    · have hk : ¬ t.k = 1 := by simpa using hk
      exact R_to () (fun h => absurd h hk) ⟨.refl _, .refl _, .refl _, .refl _, .refl _, trivial⟩ rfl
  rintro _ hx
  have hhead := hS.head hf hx
  have hTs : (fullS B M t).size = Tm.sizeL (t.l.map (fullS B M)) + 1 := by rw [Tm.size_eq, hhead, Nat.add_comm]; rfl
  have hTd : (fullS B M t).depth = Tm.depthL (t.l.map (fullS B M)) + 1 := by rw [Tm.depth_eq, hhead]; rfl
  have hll := Tm.len_le_sizeL (t.l.map (fullS B M))
  rw [List.length_map] at hll
  have bad : ¬ (((fullS B M t).size : Int) ≤ most ∧ ((fullS B M t).depth : Int) ≤ deep) → AV.tup [zeroT.av, iV 0] = .tup [(becR (fullS B M t) most deep).1.av, iV (becR (fullS B M t) most deep).2] := fun h => by rw [becR_no h]
  refine R_run hg.ok 1000 rfl rfl ?_
  refine R_if rfl rfl (fun h1 => ?_) (fun h1 => ?_) <;> refine R_run hg.ok 1000 rfl rfl ?_
  · have h1 := of_decide_eq_true h1
    refine R_ret hg 5 rfl rfl ?_
    exact bad (by omega)
  have h1 := of_decide_eq_false h1
  refine R_if rfl rfl (fun h2 => ?_) (fun h2 => ?_) <;> refine R_run hg.ok 1000 rfl rfl ?_
  · have h2 := of_decide_eq_true h2
    refine R_ret hg 5 rfl rfl ?_
    exact bad (by omega)
  have h2 := of_decide_eq_false h2
  refine R_ownB 2 3 4 rfl rfl rfl ?_
  refine R_loop (fun x : Nat × Int => ([(0, .d (.sl (bindRows B))), (2, iV most), (3, iV deep), (5, .lo 0 0), (8, .lo 1 0), (11, .lo 2 0), (12, iV x.2), (13, iV x.1)], [boxR t, zBxS, .box [.d (.v (.int .i64 t.k)), .d (.v (.string t.s)), .d (.v (.int .i64 t.n)), .ow 3 x.1], .arr 4 x.1 (Tm.rows ((t.l.take x.1).map (fullS B M)))]))
    (fun x => x.1 ≤ t.l.length ∧ x.2 = 1 + Tm.sizeL ((t.l.take x.1).map (fullS B M)) ∧ x.2 ≤ most ∧ ∀ y ∈ t.l.take x.1, ((fullS B M y).depth : Int) ≤ deep - 1) (fun x => t.l.length - x.1) (0, 1) ⟨Nat.zero_le _, by simp [Tm.sizeL], by simp only; omega, by simp⟩ ⟨.refl _, .refl _, .refl _, .refl _, .refl _, .refl _, .refl _, .refl _, trivial⟩ rfl ?_
  rintro ⟨k, n⟩ ⟨hk, hn, hnm, hdp⟩
  simp only at hk hn hnm hdp
  refine R_run hg.ok 1000 rfl rfl ?_
  refine R_if rfl rfl (fun h => ?_) (fun h => ?_) <;> refine R_run hg.ok 1000 rfl rfl ?_
  · have hk1 : k < t.l.length := lt_dec h (by rw [Tm.rows_length])
    have e1 : t.l[k]? = some t.l[k] := List.getElem?_eq_getElem hk1
    have e2 : (t.l.map (fullS B M))[k]? = some (fullS B M t.l[k]) := by rw [List.getElem?_map, e1]; rfl
    have hsm : (fullS B M t.l[k]).size ≤ Tm.sizeL (t.l.map (fullS B M)) := Tm.size_mem (List.mem_of_getElem? e2)
    have hdm : (fullS B M t.l[k]).depth ≤ Tm.depthL (t.l.map (fullS B M)) := Tm.depth_mem (List.mem_of_getElem? e2)
    have hst := Tm.sizeL_take_succ e2
    have hst2 := Tm.sizeL_take (t.l.map (fullS B M)) (k + 1)
    rw [← List.map_take, ← List.map_take] at hst
    rw [← List.map_take] at hst2
    have hz := Tm.size_eq (fullS B M t.l[k])
    have hkl := Tm.len_le_sizeL ((t.l.take k).map (fullS B M))
    rw [List.length_map, List.length_take, Nat.min_eq_left (by omega)] at hkl
    refine R_index hg.ok rfl rfl rfl rfl rfl rfl (Int.natCast_nonneg _) (Tm.rows_get e1) rfl ?_
    refine R_run hg.ok 1000 rfl rfl ?_
    rw [w64 (n := most - n) (by omega) (by omega), w64 (n := deep - 1) (by omega) (by omega)]
    have hc := ihN M t.l[k] (most - n) (deep - 1) (by omega) (hS.lev _) (Sub.kid_fair hf (List.getElem_mem hk1)) (by omega) (by omega) (by omega) (by omega)
    by_cases hfit : ((fullS B M t.l[k]).size : Int) ≤ most - n ∧ ((fullS B M t.l[k]).depth : Int) ≤ deep - 1
    · rw [becR_yes hfit.1 hfit.2] at hc
      refine R_call hg.ok (hc) rfl rfl rfl rfl rfl rfl ?_
      refine R_run hg.ok 1000 rfl rfl ?_
      refine R_if rfl rfl (fun h => absurd h (by simp; omega)) (fun _ => ?_) <;> refine R_run hg.ok 1000 rfl rfl ?_
      refine R_appendO hg.ok (Tm.rows ((t.l.take (k + 1)).map (fullS B M))) rfl rfl rfl rfl rfl rfl rfl rfl rfl (by simp) (by simp [one1]) (rowsMap_snoc (fullS B M) e1) (by rw [Tm.rows_length]; simp; omega) (by rw [Tm.rows_length]; simp; omega) ?_
      refine R_run hg.ok 1000 rfl rfl ?_
      rw [w64 (n := n + ((fullS B M t.l[k]).size : Int)) (by omega) (by omega)]
      refine R_dropO 4 [boxR t, zBxS, .box [.d (.v (.int .i64 t.k)), .d (.v (.string t.s)), .d (.v (.int .i64 t.n)), .ow 3 (k + 1)], .arr 4 (k + 1) (Tm.rows ((t.l.take (k + 1)).map (fullS B M)))] (Nat.zero_le _) rfl rfl ?_
      refine R_next (k + 1, n + (fullS B M t.l[k]).size) ⟨hk1, by simp only; rw [hst]; omega, by simp only; omega, fun y hy => ?_⟩ (by simp only; omega) ⟨.refl _, .refl _, .refl _, .refl _, .refl _, .refl _, .refl _, Ent.wrap (by simp only; omega) (by simp only; omega) (by simp only; omega), trivial⟩ rfl
      rw [List.take_add_one, e1] at hy
      rcases List.mem_append.1 hy with hy | hy
      · exact hdp y hy
      · simp at hy; rw [hy]; exact hfit.2
    · rw [becR_no hfit] at hc
      refine R_call hg.ok (hc) rfl rfl rfl rfl rfl rfl ?_
      refine R_run hg.ok 1000 rfl rfl ?_
      refine R_if rfl rfl (fun _ => ?_) (fun h => absurd h (by simp)) <;> refine R_run hg.ok 1000 rfl rfl ?_
      refine R_ret hg 5 rfl rfl ?_
      exact bad (by omega)
  · have hk1 : t.l.length ≤ k := ge_dec h (by rw [Tm.rows_length])
    rw [List.take_of_length_le hk1] at hn hdp ⊢
    have hd := Tm.depthL_le (l := t.l.map (fullS B M)) (n := deep - 1) (by omega) (fun y hy => by
      obtain ⟨z, hz, rfl⟩ := List.mem_map.1 hy
      exact hdp z hz)
    rw [becR_yes (by omega) (by omega)]
    have hT : fullS B M t = .mk t.k t.s t.n (t.l.map (fullS B M)) := hhead
    rw [show ((fullS B M t).size : Int) = n by omega, hT]
    refine R_ret hg 5 rfl (sealA_tup (mapO_cons (sealA_term rfl rfl rfl rfl) (mapO_cons rfl rfl))) ?_
    rfl

set_option maxRecDepth 100000 in
theorem refApply3_ok (B : Binds) (M : Nat) (hS : Sub B M) (hBl : B.length ≤ 4000) (t : Tm) (hf : t.fairR = true) : PCtr Try.prog 49 [.d (.sl (bindRows B)), t.av] (.tup [(app3 (fullS B M t)).1.av, iV (app3 (fullS B M t)).2]) := by
  have hc := refBecome_ok B M hS hBl _ M t 3000 100 (Nat.le_refl _) (hS.lev t) hf (by omega) (by omega) (by omega) (by omega)
  rw [app3_becR]
  generalize becR (fullS B M t) 3000 100 = q at hc ⊢
  obtain ⟨q1, q2⟩ := q
  refine PCtr.of_R (pf := fun _ => .still) tyOk mixed Try.func49 rfl (by kernel_rfl) (by kernel_rfl) (by simp [Try.ntmps49]) fun w S hg => ?_
  refine R_run hg.ok 1000 rfl rfl ?_
  refine R_call hg.ok (hc) rfl rfl rfl rfl rfl rfl ?_
  refine R_run hg.ok 1000 rfl rfl ?_
  refine R_if rfl rfl (fun h => ?_) (fun h => ?_) <;> refine R_run hg.ok 1000 rfl rfl ?_
  · have h : q2 = 0 := by simpa using h
    rw [if_pos h]
    refine R_ret hg 5 rfl rfl ?_
    rfl
  · have h : ¬ q2 = 0 := by simpa using h
    rw [if_neg h]
    refine R_ret hg 5 rfl rfl ?_
    rfl
end Go.Proofs.Ytppghekipbnjhaa

namespace Go.Proofs.Ytppghekipbnjhaa
open Go PSL Go.Proofs
end Go.Proofs.Ytppghekipbnjhaa

namespace Go.Proofs.Ytppghekipbnjhaa
open Go PSL Go.Proofs
end Go.Proofs.Ytppghekipbnjhaa

namespace PSL
open Go
namespace Tm
end Tm
abbrev Pt := Tm × List Nat
namespace Tm

/-- Each part's Args lie ahead of it. -/
def Good (P : List Pt) : Prop := ∀ (k : Nat) (y : Tm) (at_ : List Nat), P[k]? = some (y, at_) → y.fairR = true ∧ at_.length = y.l.length ∧ ∀ (j : Nat) (z : Tm), y.l[j]? = some z → ∃ (a : Nat) (b : List Nat), at_[j]? = some a ∧ a < k ∧ P[a]? = some (z, b)

/-- One row of parts goes on to another. -/
def Pre (P Q : List Pt) : Prop := ∃ R, Q = P ++ R

theorem Pre.get {P Q : List Pt} (h : Pre P Q) {i : Nat} {x : Pt} (hx : P[i]? = some x) : Q[i]? = some x := by
  obtain ⟨R, rfl⟩ := h
  rw [List.getElem?_append_left (List.getElem?_eq_some_iff.1 hx).1]; exact hx
theorem Pre.refl (P : List Pt) : Pre P P := ⟨[], by simp⟩

theorem Pre.trans {P Q R : List Pt} (h : Pre P Q) (k : Pre Q R) : Pre P R := by
  obtain ⟨A, rfl⟩ := h; obtain ⟨B, rfl⟩ := k
  exact ⟨A ++ B, by simp⟩
theorem Good.nil : Good [] := fun k y b h => by simp at h
end Tm
end PSL

namespace PSL
open Go
def gd (at_ : List Nat) (j : Nat) : Int := ((at_.getD j 0 : Nat) : Int)
end PSL
namespace PSL
open Go
end PSL
namespace PSL
open Go
end PSL
namespace PSL
open Go
end PSL
namespace PSL
open Go
def smallS (l : List Tm) : Bool := decide (Tm.fewL l 60 200 ≥ 0)

theorem smallS_ok {l : List Tm} (h : smallS l = true) : Tm.sizeL l ≤ 60 ∧ ∀ x e, e ∈ Tm.elsL l x → e.2.s.size ≤ 100 := by
  simp only [smallS, decide_eq_true_eq] at h
  rcases Tm.fewL_le l 60 200 (by omega) (by omega) (by omega) with h1 | ⟨h2, _, _, h5⟩
  · omega
  · exact ⟨by omega, h5⟩
end PSL

namespace Go.Proofs.Ytppghekipbnjhaa
open Go PSL Go.Proofs
theorem nm4 {t : Tm} (h : ∀ x e, e ∈ t.els x → e.2.s.size ≤ 100) : ∀ x e, e ∈ t.els x → e.2.s.size < 1000000000 := fun x e he => by have := h x e he; omega

set_option maxRecDepth 100000 in
theorem sm4_ok (l : List Tm) (hl : ∀ t ∈ l, t.Ok) (hlen : l.length < 4611686018427387904) : PCtr Try.prog 27 [.d (.sl (Tm.rows l))] (bV (smallS l)) := by
  refine PCtr.of_R (pf := fun _ => .still) tyOk mixed Try.func27 rfl (by kernel_rfl) (by kernel_rfl) (by simp [Try.ntmps27]) fun w S hg => ?_
  refine R_run hg.ok 1000 rfl rfl ?_
  refine R_loop (fun x : Nat × Int => ([(0, .d (.sl (Tm.rows l))), (3, iV x.2), (4, iV x.1)], [])) (fun x => x.1 ≤ l.length ∧ Tm.fewL l 60 200 = Tm.fewL (l.drop x.1) x.2 200) (fun x => l.length - x.1) (0, 60) ⟨Nat.zero_le _, rfl⟩ ⟨.refl _, .refl _, .refl _, trivial⟩ rfl ?_
  rintro ⟨k, q⟩ ⟨hk, hm⟩
  simp only at hk hm
  refine R_run hg.ok 1000 rfl rfl ?_
  refine R_if rfl rfl (fun h => ?_) (fun h => ?_) <;> refine R_run hg.ok 1000 rfl rfl ?_
  · have hk1 : k < l.length := lt_dec h (by rw [Tm.rows_length])
    have e1 : l[k]? = some l[k] := List.getElem?_eq_getElem hk1
    rw [List.drop_eq_getElem_cons hk1, Tm.fewL] at hm
    refine R_if rfl rfl (fun h2 => ?_) (fun h2 => ?_) <;> refine R_run hg.ok 1000 rfl rfl ?_
    · rw [if_pos (of_decide_eq_true h2)] at hm
      refine R_index hg.ok rfl rfl rfl rfl rfl rfl (Int.natCast_nonneg _) (Tm.rows_get e1) rfl ?_
      refine R_run hg.ok 1000 rfl rfl ?_
      refine R_call hg.ok (few_ok _ (hl _ (List.getElem_mem hk1)) _ _) rfl rfl rfl rfl rfl rfl ?_
      refine R_run hg.ok 1000 rfl rfl ?_
      exact R_next (k + 1, l[k].few q 200) ⟨hk1, hm⟩ (by simp only; omega) ⟨.refl _, .refl _, Ent.wrap (by simp only; omega) (by simp only; omega) (by simp only; omega), trivial⟩ rfl
    · have h2 := of_decide_eq_false h2
      rw [if_neg h2] at hm
      refine R_ret hg 5 rfl rfl ?_
      unfold smallS
      rw [hm]; rfl
  · have hk1 : l.length ≤ k := ge_dec h (by rw [Tm.rows_length])
    rw [List.drop_eq_nil_of_le hk1, Tm.fewL] at hm
    refine R_ret hg 5 rfl rfl ?_
    unfold smallS
    rw [hm]; rfl

theorem fun4_ok (s : ByteArray) (l : List Tm) : PCtr Try.prog 72 [.d (.v (.string s)), .d (.sl (Tm.rows l))] (Tm.mk 3 s 0 l).av := by
  refine PCtr.of_R (pf := fun _ => .still) tyOk mixed Try.func72 rfl (by kernel_rfl) (by kernel_rfl) (by simp [Try.ntmps72]) fun w S hg => ?_
  refine R_run hg.ok 1000 rfl rfl ?_
  refine R_ret hg 5 rfl rfl ?_
  rfl
def u4x : Tm := Tm.vT 0
def u4y : Tm := Tm.vT 1
def u4c : Tm := .mk 3 ⟨#[97]⟩ 0 []
def u4a : Tm := .mk 3 ⟨#[102]⟩ 0 [u4x, .mk 3 ⟨#[103]⟩ 0 [u4y]]
def u4b : Tm := .mk 3 ⟨#[102]⟩ 0 [u4c, .mk 3 ⟨#[103]⟩ 0 [u4x]]
def u4f : Tm := .mk 3 ⟨#[102]⟩ 0 [u4x]
def u4B : Binds := [(1, u4x), (0, u4c)]
end Go.Proofs.Ytppghekipbnjhaa

namespace PSL
open Go
namespace Tm

theorem UG.nil (S : List Int) (N : Nat) : UG S N [] [] :=
  ⟨chainB.nil, fun b hb => (by cases hb), fun p hp => (by cases hp), fun p hp => (by cases hp), fun b hb => (by cases hb), ⟨vT, fun b hb => (by cases hb)⟩, fun b hb => (by cases hb), fun p hp => (by cases hp)⟩

theorem UG.pair {S : List Int} {N : Nat} {B : Binds} (h : UG S N [] B) {a b : Tm} (ha : a.rightB = true) (hb : b.rightB = true) (sa : a.size ≤ N) (sb : b.size ≤ N) (oa : ∀ v ∈ occ a, v ∈ S) (ob : ∀ v ∈ occ b, v ∈ S) : UG S N [(a, b)] B :=
  ⟨h.chain, h.fairb, fun p hp => (by rw [List.mem_singleton] at hp; subst hp; exact ⟨right_fair ha, right_fair hb⟩), fun p hp => (by rw [List.mem_singleton] at hp; subst hp; exact ⟨sa, sb⟩), h.sb, h.sol, h.vb, fun p hp => (by rw [List.mem_singleton] at hp; subst hp; exact ⟨oa, ob⟩)⟩

/-- The program and the document, from binds with the same solutions. -/
theorem both_runs {S : List Int} {N : Nat} {B C B' C' : Binds} {a b : Tm} {ok ok2 : Bool} (hBC : ∀ σ, solB σ B ↔ solB σ C) (hB' : UG S N [] B') (hC' : UG S N [] C')
    (p1 : ok = true → ∀ σ, solB σ B' ↔ solB σ B ∧ putF σ a = putF σ b) (p2 : ok = false → ∀ σ, solB σ B → putF σ a ≠ putF σ b) (q1 : ok2 = true → ∀ σ, solB σ C' ↔ solB σ C ∧ putF σ a = putF σ b) (q2 : ok2 = false → ∀ σ, solB σ C → putF σ a ≠ putF σ b) :
    ok = ok2 ∧ (ok = true → ∀ σ, solB σ B' ↔ solB σ C') := by
  have he : ok = ok2 := by
    cases h1 : ok <;> cases h2 : ok2
    · rfl
    · obtain ⟨σ, hσ⟩ := hC'.sol
      have h3 := (q1 h2 σ).1 hσ
      exact absurd h3.2 (p2 h1 σ ((hBC σ).2 h3.1))
    · obtain ⟨σ, hσ⟩ := hB'.sol
      have h3 := (p1 h1 σ).1 hσ
      exact absurd h3.2 (q2 h2 σ ((hBC σ).1 h3.1))
    · rfl
  refine ⟨he, fun h σ => ?_⟩
  rw [p1 h σ, q1 (he ▸ h) σ, hBC σ]
theorem fitF_turn (g : Int → Int) (t : Tm) : fitF (turnT g t) = fitF t := by unfold fitF; rw [size_turn, depth_turn]

/-- Whether all fits is alike. -/
theorem fits_same {S S' : List Int} {N N' : Nat} {B C : Binds} (hB : UG S N [] B) (hC : UG S' N' [] C) (h : ∀ σ, solB σ B ↔ solB σ C) {l : List Tm} (hf : fairRL l = true) : l.all (fun t => fitF (fullS C C.length t)) = l.all (fun t => fitF (fullS B B.length t)) := by
  obtain ⟨_, g, hg⟩ := same_sols hB hC h hf
  have e : ∀ (f : Tm → Tm), l.all (fun t => fitF (f t)) = (l.map f).all fitF := fun f => by rw [List.all_map]; rfl
  rw [e, e, hg, turnTL_map, List.all_map]
  congr 1
  funext t
  exact fitF_turn g t
end Tm
end PSL

namespace Go.Proofs.Ytppghekipbnjhaa
open Go PSL Go.Proofs

set_option maxRecDepth 100000 in
theorem knows4j_ok : PCtr Try.prog 33 [] (bV true) := by
  have hU : Tm.UG [0, 1] 20 [(u4a, u4b)] [] := (Tm.UG.nil _ _).pair (by kernel_rfl) (by kernel_rfl) (by decide) (by decide) (by decide) (by decide)
  have hM := mgj_ok (S := [0, 1]) (N := 20) (by decide) (by decide) u4B true u4a u4b 20 (Tm.UState.first (by kernel_rfl) (by decide) (Tm.ugF_run 20 _ _ _ _ _ (by kernel_rfl)) hU) (by decide) (by decide) (by kernel_rfl) (by kernel_rfl) (fun e he => fair_names (t := u4a) (by kernel_rfl) 1 e he) (fun e he => fair_names (t := u4b) (by kernel_rfl) 1 e he)
  have sb : Small u4B := smallFair (by decide) (by kernel_rfl) (by kernel_rfl)
  have hA := apply_ok u4B 3 (fun _ => Sub.ofB (by kernel_rfl)) sb u4y (by decide) (fun x e he => fair_names (t := u4y) (by kernel_rfl) x e he)
  rw [show applyT u4B 3 u4y = (u4c, 0) by kernel_rfl] at hA
  have hV : Tm.UG [0] 20 [(u4x, u4f)] [] := (Tm.UG.nil _ _).pair (by kernel_rfl) (by kernel_rfl) (by decide) (by decide) (by decide) (by decide)
  have hN := mgj_ok (S := [0]) (N := 20) (by decide) (by decide) [] false u4x u4f 20 (Tm.UState.first (by kernel_rfl) (by decide) (Tm.ugF_run 20 _ _ _ _ _ (by kernel_rfl)) hV) (by decide) (by decide) (by kernel_rfl) (by kernel_rfl) (fun e he => fair_names (t := u4x) (by kernel_rfl) 1 e he) (fun e he => fair_names (t := u4f) (by kernel_rfl) 1 e he)
  refine PCtr.of_R (pf := fun _ => .still) tyOk mixed Try.func33 rfl (by kernel_rfl) (by kernel_rfl) (by simp [Try.ntmps33]) fun w S hg => ?_
  refine R_run hg.ok 1000 rfl rfl ?_
  refine R_callN hg.ok (fun4_ok ⟨#[103]⟩ [u4y]) rfl rfl rfl rfl (by kernel_rfl) rfl rfl ?_
  refine R_run hg.ok 1000 rfl rfl ?_
  refine R_callN hg.ok (fun4_ok ⟨#[102]⟩ [u4x, .mk 3 ⟨#[103]⟩ 0 [u4y]]) rfl rfl rfl rfl (by kernel_rfl) rfl rfl ?_
  refine R_run hg.ok 1000 rfl rfl ?_
  refine R_callN hg.ok (fun4_ok ⟨#[97]⟩ []) rfl rfl rfl rfl (by kernel_rfl) rfl rfl ?_
  refine R_run hg.ok 1000 rfl rfl ?_
  refine R_callN hg.ok (fun4_ok ⟨#[103]⟩ [u4x]) rfl rfl rfl rfl (by kernel_rfl) rfl rfl ?_
  refine R_run hg.ok 1000 rfl rfl ?_
  refine R_callN hg.ok (fun4_ok ⟨#[102]⟩ [u4c, .mk 3 ⟨#[103]⟩ 0 [u4x]]) rfl rfl rfl rfl (by kernel_rfl) rfl rfl ?_
  refine R_run hg.ok 1000 rfl rfl ?_
  refine R_callN hg.ok (hM) rfl rfl rfl rfl (by kernel_rfl) rfl rfl ?_
  refine R_run hg.ok 1000 rfl rfl ?_
  refine R_callN hg.ok (hA) rfl rfl rfl rfl (by kernel_rfl) rfl rfl ?_
  refine R_run hg.ok 1000 rfl rfl ?_
  refine R_callN hg.ok (fun4_ok ⟨#[102]⟩ [u4x]) rfl rfl rfl rfl (by kernel_rfl) rfl rfl ?_
  refine R_run hg.ok 1000 rfl rfl ?_
  refine R_callN hg.ok (hN) rfl rfl rfl rfl (by kernel_rfl) rfl rfl ?_
  refine R_run hg.ok 1000 rfl rfl ?_
  repeat
    first
    | (refine R_if rfl rfl (fun _ => ?_) (fun h => absurd h (by decide)); refine R_run hg.ok 1000 rfl rfl ?_)
    | (refine R_index hg.ok rfl rfl rfl rfl rfl rfl (by decide) rfl rfl ?_; refine R_run hg.ok 1000 rfl rfl ?_)
    | (refine R_if rfl rfl (fun _ => ?_) (fun h => absurd (h.symm.trans (Tm.strEq_iff.2 rfl)) (by simp)); refine R_run hg.ok 1000 rfl rfl ?_)
  refine R_ret hg 5 rfl rfl ?_
  rfl
end Go.Proofs.Ytppghekipbnjhaa

namespace Go.Proofs.Ytppghekipbnjhaa
open Go PSL Go.Proofs
end Go.Proofs.Ytppghekipbnjhaa

namespace Go.Proofs.Ytppghekipbnjhaa
open Go PSL Go.Proofs
end Go.Proofs.Ytppghekipbnjhaa

namespace Go.Proofs.Ytppghekipbnjhaa
open Go PSL Go.Proofs
end Go.Proofs.Ytppghekipbnjhaa

namespace Go.Proofs.Ytppghekipbnjhaa
open Go PSL Go.Proofs
end Go.Proofs.Ytppghekipbnjhaa

namespace Go.Proofs.Ytppghekipbnjhaa
open Go PSL Go.Proofs
end Go.Proofs.Ytppghekipbnjhaa

namespace Go.Proofs.Ytppghekipbnjhaa
open Go PSL Go.Proofs
end Go.Proofs.Ytppghekipbnjhaa

namespace Go.Proofs.Ytppghekipbnjhaa
open Go PSL Go.Proofs

set_option maxRecDepth 100000 in
theorem ref4Walk_ok (B : Binds) (hc : Tm.chainB B) (hl : B.length < 1000000000) : ∀ (f : Nat) (t : Tm), (∀ (j : Nat) (c : Int × Tm), B[j]? = some c → t.k = 1 → c.1 = t.n → B.length - j ≤ f) → PCtr Try.prog 93 [.d (.sl (bindRows B)), t.av] (Tm.walkT B f t).av := by
  intro f
  induction f with
  | zero =>
    intro t hf
    refine PCtr.of_R (pf := pfB) tyOk mixed Try.func93 rfl (by kernel_rfl) (by kernel_rfl) (by simp [Try.ntmps93]) fun w S hg => ?_
    refine R_run hg.ok 1000 rfl rfl ?_
    refine R_if rfl rfl (fun h => ?_) (fun h => ?_) <;> refine R_run hg.ok 1000 rfl rfl ?_
    · have hk : t.k = 1 := by simpa using h
      rcases placeB_find B t.n with ⟨h1, h2⟩ | ⟨k, x, h1, h2, h3⟩
      · refine R_call hg.ok (place_ok B t.n hl) rfl rfl rfl rfl rfl rfl ?_
        refine R_run hg.ok 1000 rfl rfl ?_
        refine R_if rfl rfl (fun h => absurd h (by simp; omega)) (fun _ => ?_) <;> refine R_run hg.ok 1000 rfl rfl ?_
        refine R_ret hg 5 rfl rfl ?_
        rfl
      · have := hf k _ h2 hk rfl
        have := (List.getElem?_eq_some_iff.1 h2).1
        omega
    · refine R_ret hg 5 rfl rfl ?_
      rfl
  | succ f ih =>
    intro t hf
    refine PCtr.of_R (pf := pfB) tyOk mixed Try.func93 rfl (by kernel_rfl) (by kernel_rfl) (by simp [Try.ntmps93]) fun w S hg => ?_
    refine R_run hg.ok 1000 rfl rfl ?_
    refine R_if rfl rfl (fun h => ?_) (fun h => ?_) <;> refine R_run hg.ok 1000 rfl rfl ?_
    · have hk : t.k = 1 := by simpa using h
      rcases placeB_find B t.n with ⟨h1, h2⟩ | ⟨k, x, h1, h2, h3⟩
      · refine R_call hg.ok (place_ok B t.n hl) rfl rfl rfl rfl rfl rfl ?_
        refine R_run hg.ok 1000 rfl rfl ?_
        refine R_if rfl rfl (fun h => absurd h (by simp; omega)) (fun _ => ?_) <;> refine R_run hg.ok 1000 rfl rfl ?_
        refine R_ret hg 5 rfl rfl ?_
        simp only [Tm.walkT]
        rw [if_pos hk, h2]; rfl
      · have hlt := (List.getElem?_eq_some_iff.1 h2).1
        have hfk := hf k _ h2 hk rfl
        refine R_call hg.ok (place_ok B t.n hl) rfl rfl rfl rfl rfl rfl ?_
        refine R_run hg.ok 1000 rfl rfl ?_
        rw [h1]
        refine R_if rfl rfl (fun _ => ?_) (fun h => absurd h (by simp)) <;> refine R_run hg.ok 1000 rfl rfl ?_
        refine R_index hg.ok rfl rfl rfl rfl rfl rfl (Int.natCast_nonneg _) (bindRows_get h2) rfl ?_
        refine R_run hg.ok 1000 rfl rfl ?_
        refine R_call hg.ok (ih x (fun j c hc' hxk hcn => by have := hc.chain k _ h2 hxk j c hc' hcn; omega)) rfl rfl rfl rfl rfl rfl ?_
        refine R_run hg.ok 1000 rfl rfl ?_
        refine R_ret hg 5 rfl rfl ?_
        simp only [Tm.walkT]
        rw [if_pos hk, h3]; rfl
    · have hk : ¬ t.k = 1 := by simpa using h
      refine R_ret hg 5 rfl rfl ?_
      simp only [Tm.walkT]
      rw [if_neg hk]; rfl
theorem ref4WalkB_ok (B : Binds) (hc : Tm.chainB B) (hl : B.length < 1000000000) (t : Tm) : PCtr Try.prog 93 [.d (.sl (bindRows B)), t.av] (Tm.walkB B t).av := ref4Walk_ok B hc hl _ t fun j c _ _ _ => by omega

set_option maxRecDepth 100000 in
theorem ref4In_ok (Y : YP) (M : List Int) (n : Int) (hM : M.length < 1000000000) : SCtr Try.prog Y 104 [.ow 0 M.length, iV n] [.arr 1 M.length (irows M)] (bV (M.contains n)) [.arr 1 M.length (irows M)] := by
  refine SCtr.of_R (pf := fun _ => .eff) tyOk mixed Try.func104 rfl (by kernel_rfl) (by kernel_rfl) (by simp [Try.ntmps104]) (by simp) fun w S φ hg => ?_
  have hφ : φ.length = 1 := hg.hs0.len
  refine R_run hg.ok 1000 rfl rfl ?_
  refine R_loop (fun k : Nat => ([(0, .ow 0 M.length), (1, iV n), (5, iV k)], [.arr 1 M.length (irows M)])) (fun k => k ≤ M.length ∧ M.contains n = (M.drop k).contains n) (fun k => M.length - k) 0 ⟨Nat.zero_le _, rfl⟩ ⟨.refl _, .refl _, .refl _, trivial⟩ rfl ?_
  rintro k ⟨hk, hm⟩
  refine R_run hg.ok 1000 rfl rfl ?_
  refine R_lenO hg.ok rfl rfl rfl rfl rfl (n := (M.length : Int)) (by rw [irows_length]) ?_
  refine R_run hg.ok 1000 rfl rfl ?_
  refine R_if rfl rfl (fun h => ?_) (fun h => ?_) <;> refine R_run hg.ok 1000 rfl rfl ?_
  · have hk1 : k < M.length := lt_dec h rfl
    have e1 : M[k]? = some M[k] := List.getElem?_eq_getElem hk1
    rw [List.drop_eq_getElem_cons hk1, contains_cons'] at hm
    generalize M[k] = m at e1 hm
    refine R_indexO hg.ok rfl rfl rfl rfl rfl rfl rfl rfl rfl (Int.natCast_nonneg k) (by rw [irows_length]; simpa using hk1) ?_
    refine R_run hg.ok 1000 rfl rfl ?_
    refine R_loadE hg.ok rfl rfl rfl rfl rfl rfl (irows_get e1) rfl ?_
    refine R_run hg.ok 1000 rfl rfl ?_
    refine R_if rfl rfl (fun h2 => ?_) (fun h2 => ?_) <;> refine R_run hg.ok 1000 rfl rfl ?_
    · have h2 : m = n := by simpa using h2
      rw [hm, decide_eq_true h2]
      exact R_retS hg 1 5 (Nat.le_refl _) rfl rfl rfl
    · have h2 : ¬ m = n := by simpa using h2
      exact R_next (k + 1) ⟨hk1, by rw [hm, decide_eq_false h2, Bool.false_or]⟩ (by omega) ⟨.refl _, .refl _, Ent.wrap (by omega) (by omega) (by omega), trivial⟩ rfl
  · have hk1 : M.length ≤ k := ge_dec h rfl
    rw [hm, List.drop_eq_nil_of_le hk1]
    exact R_retS hg 1 5 (Nat.le_refl _) rfl rfl rfl

set_option maxRecDepth 100000 in
theorem ref4Look_ok (Y : YP) (B : Binds) (hB : ∀ b ∈ B, b.2.size < 400000000) (hBl : B.length < 1000000) (v : Int) : ∀ (u : Nat) (n : Nat) (t : Tm) (M : List Int), t.size ≤ n → t.size < 400000000 → M.Nodup → (∀ m ∈ M, findB B m ≠ none) → (B.countP fun b => !M.contains b.1) < u → SCtr Try.prog Y 102 [.d (.sl (bindRows B)), iV v, t.av, .ow 0 M.length] [.arr 1 M.length (irows M)] (.tup [bV (Tm.lkT (Tm.lkF B v u) t M).1, .ow 0 (Tm.lkT (Tm.lkF B v u) t M).2.length]) [.arr 1 (Tm.lkT (Tm.lkF B v u) t M).2.length (irows (Tm.lkT (Tm.lkF B v u) t M).2)] := by
  intro u
  induction u with
  | zero => intro n t M _ _ _ _ h; omega
  | succ u ihu =>
  intro n
  induction n with
  | zero => intro t M h _; have := Tm.size_pos t; omega
  | succ n ihn =>
  intro t M hn ht hnd hmb hu
  have hMl : M.length ≤ B.length := Tm.nodup_bound hnd hmb
  refine SCtr.of_R (pf := pfBE) tyOk mixed Try.func102 rfl (by kernel_rfl) (by kernel_rfl) (by simp [Try.ntmps102]) (by simp) fun w S φ hg => ?_
  have hφ : φ.length = 1 := hg.hs0.len
  have ret : ∀ {r : Bool} {Q : List Int}, Tm.lkT (Tm.lkF B v (u + 1)) t M = (r, Q) → (Tm.lkT (Tm.lkF B v (u + 1)) t M).1 = r ∧ (Tm.lkT (Tm.lkF B v (u + 1)) t M).2 = Q := fun e => by rw [e]; exact ⟨rfl, rfl⟩
  refine R_run hg.ok 1000 rfl rfl ?_
  refine R_if rfl rfl (fun h1 => ?_) (fun h1 => ?_) <;> refine R_run hg.ok 1000 rfl rfl ?_
  · have hk1 : t.k = 1 := by simpa using h1
    rcases placeB_find B t.n with ⟨p1, p2⟩ | ⟨j, x, p1, p2, p3⟩
    · refine R_call hg.ok (place_ok B t.n (by omega)) rfl rfl rfl rfl rfl rfl ?_
      refine R_run hg.ok 1000 rfl rfl ?_
      refine R_if rfl rfl (fun _ => ?_) (fun h => absurd h (by simp; omega)) <;> refine R_run hg.ok 1000 rfl rfl ?_
      have e := ret (r := decide (t.n = v)) (Q := M) (by
        rw [Tm.lkT_var hk1]; simp only [Tm.lkF]
        by_cases h2 : t.n = v
        · rw [if_pos h2, decide_eq_true h2]
        · rw [if_neg h2, p2, decide_eq_false h2])
      rw [e.1, e.2]
      exact R_retS hg 1 5 (Nat.le_refl _) rfl rfl rfl
    · refine R_call hg.ok (place_ok B t.n (by omega)) rfl rfl rfl rfl rfl rfl ?_
      refine R_run hg.ok 1000 rfl rfl ?_
      rw [p1]
      refine R_if rfl rfl (fun h => absurd h (by simp)) (fun _ => ?_) <;> refine R_run hg.ok 1000 rfl rfl ?_
      refine R_if rfl rfl (fun h2 => ?_) (fun h2 => ?_) <;> refine R_run hg.ok 1000 rfl rfl ?_
      · have h2 : t.n = v := by simpa using h2
        have e := ret (r := decide (t.n = v)) (Q := M) (by
          rw [Tm.lkT_var hk1]; simp only [Tm.lkF]; rw [if_pos h2, decide_eq_true h2])
        rw [e.1, e.2]
        exact R_retS hg 1 5 (Nat.le_refl _) rfl rfl rfl
      · have h2 : ¬ t.n = v := by simpa using h2
        refine R_callSO hg.ok hg.gup hg.wide hg.Y [0] [.arr 1 M.length (irows M), boxR t] (ref4In_ok Y M t.n (by omega)) (fun _ => rfl) rfl rfl rfl rfl rfl rfl rfl rfl ?_
        refine R_run hg.ok 1000 rfl rfl ?_
        cases hc : M.contains t.n with
        | true =>
          refine R_if rfl rfl (fun _ => ?_) (fun h => absurd h (by simp)) <;> refine R_run hg.ok 1000 rfl rfl ?_
          have e := ret (r := false) (Q := M) (by rw [Tm.lkT_var hk1]; simp only [Tm.lkF]; rw [if_neg h2, p3]; simp only; rw [hc, if_pos rfl])
          rw [e.1, e.2]
          exact R_retS hg 1 5 (Nat.le_refl _) rfl rfl rfl
        | false =>
          refine R_if rfl rfl (fun h => absurd h (by simp)) (fun _ => ?_) <;> refine R_run hg.ok 1000 rfl rfl ?_
          have hcm : t.n ∉ M := by simpa using hc
          have hcall := ihu x.size x (M ++ [t.n]) (Nat.le_refl _) (hB _ (Tm.findB_mem p3)) (by rw [List.nodup_append]; exact ⟨hnd, by simp, fun a ha b hb => by simp at hb; subst hb; exact fun e => hcm (e ▸ ha)⟩) (fun m hm => by
            rcases List.mem_append.1 hm with hm | hm
            · exact hmb m hm
            · simp only [List.mem_singleton] at hm; subst hm; rw [p3]; simp) (by have := Tm.count_lt p3 hc; omega)
          have hq : Tm.lkT (Tm.lkF B v (u + 1)) t M = Tm.lkT (Tm.lkF B v u) x (M ++ [t.n]) := by
            rw [Tm.lkT_var hk1]; simp only [Tm.lkF]; rw [if_neg h2, p3]; simp only; rw [hc, if_neg (by simp)]
          rw [hq]
          rw [show (M ++ [t.n]).length = M.length + 1 by simp] at hcall
          generalize Tm.lkT (Tm.lkF B v u) x (M ++ [t.n]) = rq at hcall
          obtain ⟨r, Q⟩ := rq
          refine R_index hg.ok rfl rfl rfl rfl rfl rfl (Int.natCast_nonneg _) (bindRows_get p2) rfl ?_
          refine R_run hg.ok 1000 rfl rfl ?_
          refine R_appendO hg.ok (irows (M ++ [t.n])) rfl rfl rfl rfl rfl rfl rfl rfl rfl (by simp) (by simp [one1]) (irows_snoc1 _ _) (by rw [irows_length]; simp; omega) (by rw [irows_length]; simp; omega) ?_
          refine R_run hg.ok 1000 rfl rfl ?_
          refine R_callSO hg.ok hg.gup hg.wide hg.Y [0] [.arr 1 Q.length (irows Q), boxR t] hcall (fun _ => rfl) rfl rfl rfl rfl rfl rfl rfl rfl ?_
          refine R_run hg.ok 1000 rfl rfl ?_
          exact R_retS hg 1 5 (Nat.le_refl _) rfl rfl rfl
  have hk1 : t.k ≠ 1 := by simpa using h1
  have hl0 : Tm.lkT (Tm.lkF B v (u + 1)) t M = Tm.lkTL (Tm.lkF B v (u + 1)) t.l M := Tm.lkT_fun hk1
  have hsz : Tm.sizeL t.l ≤ n := by have := Tm.size_eq t; omega
  have hll := Tm.length_le_sizeL t.l
  have hsz2 := Tm.size_eq t
  refine R_loop (fun x : Nat × List Int => ([(0, .d (.sl (bindRows B))), (1, iV v), (3, .ow 0 x.2.length), (6, .lo 1 0), (11, iV x.1)], [.arr 1 x.2.length (irows x.2), boxR t])) (fun x => x.1 ≤ t.l.length ∧ Tm.lkT (Tm.lkF B v (u + 1)) t M = Tm.lkTL (Tm.lkF B v (u + 1)) (t.l.drop x.1) x.2 ∧ (x.2.Nodup ∧ ∀ m ∈ x.2, findB B m ≠ none) ∧ (B.countP fun b => !x.2.contains b.1) < u + 1) (fun x => t.l.length - x.1) (0, M) ⟨Nat.zero_le _, hl0, ⟨hnd, hmb⟩, hu⟩ ⟨.refl _, .refl _, .refl _, .refl _, .refl _, trivial⟩ rfl ?_
  rintro ⟨k, Q⟩ ⟨hk, hm, hQn, hQ⟩
  simp only at hk hm hQn hQ
  refine R_run hg.ok 1000 rfl rfl ?_
  refine R_if rfl rfl (fun h => ?_) (fun h => ?_) <;> refine R_run hg.ok 1000 rfl rfl ?_
  · have hkl : k < t.l.length := lt_dec h (by rw [Tm.rows_length])
    have e1 : t.l[k]? = some t.l[k] := List.getElem?_eq_getElem hkl
    have hms := Tm.size_mem (List.getElem_mem hkl)
    rw [List.drop_eq_getElem_cons hkl] at hm
    generalize t.l[k] = x at e1 hms hm
    simp only [Tm.lkTL] at hm
    refine R_index hg.ok rfl rfl rfl rfl rfl rfl (Int.natCast_nonneg _) (Tm.rows_get e1) rfl ?_
    refine R_run hg.ok 1000 rfl rfl ?_
    have hcall := ihn x Q (by omega) (by omega) hQn.1 hQn.2 hQ
    obtain ⟨R0, hext⟩ := Tm.lkT_ext (Tm.lkF_ext B v (u + 1)) x Q
    have hcnt := Tm.count_le B Q R0
    rw [← hext] at hcnt
    have hkeep := Tm.lkT_keep (Tm.lkF_keep B v (u + 1)) x Q hQn
    generalize Tm.lkT (Tm.lkF B v (u + 1)) x Q = rq at hcall hm hcnt hkeep
    obtain ⟨r, Q'⟩ := rq
    simp only at hm hcnt hkeep
    refine R_callSO hg.ok hg.gup hg.wide hg.Y [0] [.arr 1 Q'.length (irows Q'), boxR t] hcall (fun _ => rfl) rfl rfl rfl rfl rfl rfl rfl rfl ?_
    refine R_run hg.ok 1000 rfl rfl ?_
    refine R_if rfl rfl (fun h2 => ?_) (fun h2 => ?_) <;> refine R_run hg.ok 1000 rfl rfl ?_
    · have h2 : r = true := h2
      subst h2
      have e := ret (r := true) (Q := Q') (by rw [hm, if_pos rfl])
      rw [e.1, e.2]
      exact R_retS hg 1 5 (Nat.le_refl _) rfl rfl rfl
    · have h2 : r = false := h2
      subst h2
      exact R_next (k + 1, Q') ⟨hkl, by rw [hm, if_neg (by simp)], hkeep, by simp only; omega⟩ (by simp only; omega) ⟨.refl _, .refl _, .refl _, .refl _, Ent.wrap (by simp only; omega) (by simp only; omega) (by simp only; omega), trivial⟩ rfl
  · have hkl : t.l.length ≤ k := ge_dec h (by rw [Tm.rows_length])
    rw [List.drop_eq_nil_of_le hkl] at hm
    have e := ret (r := false) (Q := Q) (by rw [hm]; simp [Tm.lkTL])
    rw [e.1, e.2]
    exact R_retS hg 1 5 (Nat.le_refl _) rfl rfl rfl

set_option maxRecDepth 100000 in
theorem ref4Within_ok (B : Binds) (hB : ∀ b ∈ B, b.2.size < 400000000) (hBl : B.length < 1000000) (v : Int) (t : Tm) (ht : t.size < 400000000) : PCtr Try.prog 94 [.d (.sl (bindRows B)), iV v, t.av] (bV (Tm.withB B v t)) := by
  have hcall := ref4Look_ok ⟨[], fun _ => true⟩ B hB hBl v (B.length + 1) t.size t [] (Nat.le_refl _) ht (by simp) (by simp) (by have := List.countP_le_length (p := fun b : Int × Tm => !([] : List Int).contains b.1) (l := B); omega)
  have hw : Tm.withB B v t = (Tm.lkT (Tm.lkF B v (B.length + 1)) t []).1 := rfl
  rw [hw]
  generalize Tm.lkT (Tm.lkF B v (B.length + 1)) t [] = rq at hcall
  obtain ⟨r, Q⟩ := rq
  have hc := SCtr.nilE (axs := [.d (.sl (bindRows B)), iV v, t.av]) (y := .tup [bV r, .d (.sl (irows Q))]) hcall rfl (by simp [sealA, mapO, nth, bV])
  refine PCtr.of_R (pf := fun _ => .still) tyOk mixed Try.func94 rfl (by kernel_rfl) (by kernel_rfl) (by simp [Try.ntmps94]) fun w S hg => ?_
  refine R_run hg.ok 1000 rfl rfl ?_
  refine R_callV hg.ok hg.gup hc rfl rfl rfl rfl rfl rfl ?_
  refine R_run hg.ok 1000 rfl rfl ?_
  refine R_ret hg 5 rfl rfl ?_
  rfl
end Go.Proofs.Ytppghekipbnjhaa

namespace Go.Proofs.Ytppghekipbnjhaa
open Go PSL Go.Proofs
def mrows (met : Tm.Met) : List (List D) := met.map fun m => [.v (.int .i64 m.1), .v (.int .i64 m.2)]
theorem mrows_len (met : Tm.Met) : (mrows met).length = met.length := by simp [mrows]
theorem mrows_get {met : Tm.Met} {i : Nat} {m : Int × Int} (h : met[i]? = some m) : (mrows met)[i]? = some [.v (.int .i64 m.1), .v (.int .i64 m.2)] := by simp [mrows, h]
theorem mrows_snoc (met : Tm.Met) (m : Int × Int) : mrows met ++ [[.v (.int .i64 m.1), .v (.int .i64 m.2)]] = mrows (met ++ [m]) := by simp [mrows]
theorem bindRows_snoc (l : Binds) (v : Int) (t : Tm) : bindRows l ++ [[.v (.int .i64 v), .v (.int .i64 t.k), .v (.string t.s), .v (.int .i64 t.n), .sl (Tm.rows t.l)]] = bindRows (l ++ [(v, t)]) := by simp [bindRows, bindRow, Tm.row]

theorem met_cons {m : Int × Int} {met : Tm.Met} {p : Int × Int} : (m :: met).contains p = (decide (m = p) || met.contains p) := by
  simp only [List.contains_cons]; congr 1; rw [Bool.eq_iff_iff]; simp; exact eq_comm
def pfR4 : Nat → Cls := fun f => bif Nat.beq f 4000000007 then .loadB else bif Nat.beq f 4000000006 then .turn 201 else bif Nat.beq f 4000100033 then .look 10001 else bif Nat.beq f 4000100042 then .look 10001 else .eff

set_option maxHeartbeats 1600000 in
set_option maxRecDepth 100000 in
theorem ref4Uni_ok (Y : YP) {S : List Int} {N : Nat} (hSl : S.length ≤ 1000) (hN : N ≤ 1000000) : ∀ (f : Nat) (l : Binds) (a b : Tm) (met : Tm.Met) (l' : Binds) (met' : Tm.Met) (ok : Bool), Tm.refU f l a b met = some (l', met', ok) → Tm.UG S N [(a, b)] l → Tm.MetS S met → SCtr Try.prog Y 74 [.d (.sl (bindRows l)), a.av, b.av, .ow 0 met.length] [.arr 2 met.length (mrows met)] (.tup [.d (.sl (bindRows l')), .ow 0 met'.length, bV ok]) [.arr 2 met'.length (mrows met')] := by
  intro f
  induction f with
  | zero => intro l a b met l' met' ok h; cases h
  | succ f ih =>
  intro l a b met l' met' ok hr hU hM
  refine SCtr.of_R (pf := pfR4) tyOk mixed Try.func74 rfl (by kernel_rfl) (by kernel_rfl) (by simp [Try.ntmps74]) (by simp) fun w S0 φ hg => ?_
  have hφ : φ.length = 1 := hg.hs0.len
  have hll : l.length ≤ S.length := nodup_le (l.map (·.1)) S hU.chain.nodup (fun v hv => by
    obtain ⟨c, hc, rfl⟩ := List.mem_map.1 hv
    exact (hU.vb c hc).1) |> (by simpa using ·)
  have hml : met.length ≤ 1000 * 1000 := Nat.le_trans hM.len (Nat.mul_le_mul hSl hSl)
  have hsb : ∀ c ∈ l, c.2.size < 400000000 := fun c hc => by have := hU.sb c hc; omega
  have cwa := ref4WalkB_ok l hU.chain (by omega) a
  have cwb := ref4WalkB_ok l hU.chain (by omega) b
  have zwa := hU.walk1.size
  have zwb := hU.walk2.size
  have hargs := fun hx hy => hU.args (sw := true) hx hy
  unfold Tm.refU at hr
  refine R_run hg.ok 5 rfl rfl ?_
  refine R_cut2 (fun _ : Unit => ([(0, .d (.sl (bindRows l))), (3, .ow 0 (Tm.metU a b met).length), (5, .lo 1 0), (6, .lo 2 0)], [.arr 2 (Tm.metU a b met).length (mrows (Tm.metU a b met)), boxR a, boxR b])) (fun _ => Tm.skipU a b met = false) rfl ?_ ?_
  · refine R_run hg.ok 1000 rfl rfl ?_
    have one : ¬ (a.k = 1 ∧ b.k = 1) → Tm.skipU a b met = false ∧ Tm.metU a b met = met := fun h => by
      have : (decide (a.k = 1) && decide (b.k = 1)) = false := by simpa using h
      unfold Tm.skipU Tm.metU
      rw [this]
      exact ⟨rfl, rfl⟩
    refine R_if rfl rfl (fun h1 => ?_) (fun h1 => ?_) <;> refine R_run hg.ok 1000 rfl rfl ?_
    · have h1 : a.k = 1 := by simpa using h1
      refine R_if rfl rfl (fun h2 => ?_) (fun h2 => ?_) <;> refine R_run hg.ok 1000 rfl rfl ?_
      · have h2 : b.k = 1 := by simpa using h2
        have hm2 : Tm.metU a b met = met ++ [(a.n, b.n)] := by simp [Tm.metU, h1, h2]
        have hs2 : Tm.skipU a b met = met.contains (a.n, b.n) := by simp only [Tm.skipU, h1, h2, decide_true, Bool.true_and]
        refine R_loop (fun k : Nat => ([(0, .d (.sl (bindRows l))), (3, .ow 0 met.length), (5, .lo 1 0), (6, .lo 2 0), (11, iV k)], [.arr 2 met.length (mrows met), boxR a, boxR b])) (fun k => k ≤ met.length ∧ met.contains (a.n, b.n) = (met.drop k).contains (a.n, b.n)) (fun k => met.length - k) 0 ⟨Nat.zero_le _, rfl⟩ ⟨.refl _, .refl _, .refl _, .refl _, .refl _, trivial⟩ rfl ?_
        rintro k ⟨hk, hm⟩
        refine R_run hg.ok 1000 rfl rfl ?_
        refine R_lenO hg.ok rfl rfl rfl rfl rfl (n := (met.length : Int)) (by rw [mrows_len]) ?_
        refine R_run hg.ok 1000 rfl rfl ?_
        refine R_if rfl rfl (fun h => ?_) (fun h => ?_) <;> refine R_run hg.ok 1000 rfl rfl ?_
        · have hk1 : k < met.length := lt_dec h rfl
          have e1 : met[k]? = some met[k] := List.getElem?_eq_getElem hk1
          rw [List.drop_eq_getElem_cons hk1, met_cons] at hm
          generalize met[k] = m at e1 hm
          obtain ⟨m1, m2⟩ := m
          refine R_indexOJ hg.ok 10000 rfl rfl rfl (by simp [mayO, Ob.lvl, Ob.isBox]) rfl rfl rfl rfl rfl rfl (Int.natCast_nonneg _) (by rw [mrows_len]; simpa using hk1) ?_
          refine R_run hg.ok 1000 rfl rfl ?_
          refine R_loadEJ hg.ok 10000 rfl rfl rfl (by simp [mayO, Ob.lvl, Ob.isBox]) rfl rfl rfl (mrows_get e1) rfl ?_
          refine R_run hg.ok 1000 rfl rfl ?_
          refine R_if rfl rfl (fun h3 => ?_) (fun h3 => ?_) <;> refine R_run hg.ok 1000 rfl rfl ?_
          · have h3 : m1 = a.n := by simpa using h3
            refine R_indexOJ hg.ok 10000 rfl rfl rfl (by simp [mayO, Ob.lvl, Ob.isBox]) rfl rfl rfl rfl rfl rfl (Int.natCast_nonneg _) (by rw [mrows_len]; simpa using hk1) ?_
            refine R_run hg.ok 1000 rfl rfl ?_
            refine R_loadEJ hg.ok 10000 rfl rfl rfl (by simp [mayO, Ob.lvl, Ob.isBox]) rfl rfl rfl (mrows_get e1) rfl ?_
            refine R_run hg.ok 1000 rfl rfl ?_
            refine R_if rfl rfl (fun h4 => ?_) (fun h4 => ?_) <;> refine R_run hg.ok 1000 rfl rfl ?_
            · have h4 : m2 = b.n := by simpa using h4
              have hsk : Tm.skipU a b met = true := by rw [hs2, hm, h3, h4]; simp
              rw [if_pos hsk] at hr
              cases hr
              exact R_retS hg 1 5 (Nat.le_refl _) rfl rfl rfl
            · have h4 : ¬ m2 = b.n := by simpa using h4
              exact R_next (k + 1) ⟨hk1, by rw [hm]; simp [h4]⟩ (by omega) ⟨.refl _, .refl _, .refl _, .refl _, Ent.wrap (by omega) (by omega) (by omega), trivial⟩ rfl
          · have h3 : ¬ m1 = a.n := by simpa using h3
            exact R_next (k + 1) ⟨hk1, by rw [hm]; simp [h3]⟩ (by omega) ⟨.refl _, .refl _, .refl _, .refl _, Ent.wrap (by omega) (by omega) (by omega), trivial⟩ rfl
        · have hk1 : met.length ≤ k := ge_dec h rfl
          rw [List.drop_eq_nil_of_le hk1] at hm
          have hsk : Tm.skipU a b met = false := by rw [hs2, hm]; rfl
          refine R_appendO hg.ok (mrows (met ++ [(a.n, b.n)])) rfl rfl rfl rfl rfl rfl rfl rfl rfl (by simp) (by simp [one1]) (mrows_snoc met (a.n, b.n)) (by rw [mrows_len]; simp; omega) (by rw [mrows_len]; simp; omega) ?_
          refine R_run hg.ok 1000 rfl rfl ?_
          refine R_to () hsk ⟨.refl _, by rw [hm2]; simp only [List.length_append, List.length_singleton]; exact .refl _, .refl _, .refl _, trivial⟩ ?_
          rw [hm2]; simp only [List.length_append, List.length_singleton]; rfl
      · have h2 : ¬ b.k = 1 := by simpa using h2
        obtain ⟨o1, o2⟩ := one fun h => h2 h.2
        refine R_to () o1 ⟨.refl _, by rw [o2]; exact .refl _, .refl _, .refl _, trivial⟩ ?_
        rw [o2]; rfl
    · have h1 : ¬ a.k = 1 := by simpa using h1
      obtain ⟨o1, o2⟩ := one fun h => h1 h.1
      refine R_to () o1 ⟨.refl _, by rw [o2]; exact .refl _, .refl _, .refl _, trivial⟩ ?_
      rw [o2]; rfl
  rintro _ hs
  rw [if_neg (by rw [hs]; simp)] at hr
  have hM' := hM.more hs (hU.vt (a, b) (by simp)).1 (hU.vt (a, b) (by simp)).2
  have hml' : (Tm.metU a b met).length ≤ 1000 * 1000 := Nat.le_trans hM'.len (Nat.mul_le_mul hSl hSl)
  have hzs : ∀ v : Int, ∀ t : Tm, t.size ≤ N → PCtr Try.prog 94 [.d (.sl (bindRows l)), iV v, t.av] (bV (Tm.withB l v t)) := fun v t ht => ref4Within_ok l hsb (by omega) v t (by omega)
  generalize Tm.metU a b met = m1 at *
  refine R_run hg.ok 1000 rfl rfl ?_
  refine R_call hg.ok (cwa) rfl rfl rfl rfl rfl rfl ?_
  refine R_run hg.ok 1000 rfl rfl ?_
  refine R_call hg.ok (cwb) rfl rfl rfl rfl rfl rfl ?_
  refine R_run hg.ok 1000 rfl rfl ?_
  generalize Tm.walkB l a = a' at *
  generalize Tm.walkB l b = b' at *
  by_cases hv : a'.k = 1 ∧ b'.k = 1 ∧ a'.n = b'.n
  · rw [if_pos hv] at hr
    cases hr
    refine R_if rfl rfl (fun _ => ?_) (fun h => absurd h (by simp [hv.1])) <;> refine R_run hg.ok 1000 rfl rfl ?_
    refine R_if rfl rfl (fun _ => ?_) (fun h => absurd h (by simp [hv.2.1])) <;> refine R_run hg.ok 1000 rfl rfl ?_
    refine R_if rfl rfl (fun _ => ?_) (fun h => absurd h (by simp [hv.2.2])) <;> refine R_run hg.ok 1000 rfl rfl ?_
    exact R_retS hg 1 5 (Nat.le_refl _) rfl rfl rfl
  rw [if_neg hv] at hr
  by_cases hb : b'.k = 1
  · rw [if_pos hb] at hr
    cases hr
    have hw := hzs b'.n a' zwa
    by_cases ha : a'.k = 1
    · refine R_if rfl rfl (fun _ => ?_) (fun h => absurd h (by simp [ha])) <;> refine R_run hg.ok 1000 rfl rfl ?_
      refine R_if rfl rfl (fun _ => ?_) (fun h => absurd h (by simp [hb])) <;> refine R_run hg.ok 1000 rfl rfl ?_
      refine R_if rfl rfl (fun h => absurd h (by have : ¬ a'.n = b'.n := fun e => hv ⟨ha, hb, e⟩; simp [this])) (fun _ => ?_) <;> refine R_run hg.ok 1000 rfl rfl ?_
      refine R_if rfl rfl (fun _ => ?_) (fun h => absurd h (by simp [hb])) <;> refine R_run hg.ok 1000 rfl rfl ?_
      refine R_appendF hg.ok (rows := []) rfl rfl (.inl rfl) rfl (.inl rfl) rfl rfl rfl (by simp) (bindRows_sz l) (by simp [bindRows_len]; omega) (by simp [bindRows_len]; omega) ?_
      refine R_run hg.ok 1000 rfl rfl ?_
      refine R_appendO hg.ok (bindRows (l ++ [(b'.n, a')])) rfl rfl rfl rfl rfl rfl rfl rfl rfl (by simp) (by simp [one1]) (bindRows_snoc l b'.n a') (by simp [bindRows_len]; omega) (by simp [bindRows_len]; omega) ?_
      refine R_run hg.ok 1000 rfl rfl ?_
      refine R_call hg.ok (hw) rfl rfl rfl rfl rfl rfl ?_
      refine R_run hg.ok 1000 rfl rfl ?_
      exact R_retS hg 1 5 (Nat.le_refl _) rfl rfl rfl
    · refine R_if rfl rfl (fun h => absurd h (by simp [ha])) (fun _ => ?_) <;> refine R_run hg.ok 1000 rfl rfl ?_
      refine R_if rfl rfl (fun _ => ?_) (fun h => absurd h (by simp [hb])) <;> refine R_run hg.ok 1000 rfl rfl ?_
      refine R_appendF hg.ok (rows := []) rfl rfl (.inl rfl) rfl (.inl rfl) rfl rfl rfl (by simp) (bindRows_sz l) (by simp [bindRows_len]; omega) (by simp [bindRows_len]; omega) ?_
      refine R_run hg.ok 1000 rfl rfl ?_
      refine R_appendO hg.ok (bindRows (l ++ [(b'.n, a')])) rfl rfl rfl rfl rfl rfl rfl rfl rfl (by simp) (by simp [one1]) (bindRows_snoc l b'.n a') (by simp [bindRows_len]; omega) (by simp [bindRows_len]; omega) ?_
      refine R_run hg.ok 1000 rfl rfl ?_
      refine R_call hg.ok (hw) rfl rfl rfl rfl rfl rfl ?_
      refine R_run hg.ok 1000 rfl rfl ?_
      exact R_retS hg 1 5 (Nat.le_refl _) rfl rfl rfl
  rw [if_neg hb] at hr
  by_cases ha : a'.k = 1
  · rw [if_pos ha] at hr
    cases hr
    have hw := hzs a'.n b' zwb
    refine R_if rfl rfl (fun _ => ?_) (fun h => absurd h (by simp [ha])) <;> refine R_run hg.ok 1000 rfl rfl ?_
    refine R_if rfl rfl (fun h => absurd h (by simp [hb])) (fun _ => ?_) <;> refine R_run hg.ok 1000 rfl rfl ?_
    refine R_if rfl rfl (fun h => absurd h (by simp [hb])) (fun _ => ?_) <;> refine R_run hg.ok 1000 rfl rfl ?_
    refine R_if rfl rfl (fun _ => ?_) (fun h => absurd h (by simp [ha])) <;> refine R_run hg.ok 1000 rfl rfl ?_
    refine R_appendF hg.ok (rows := []) rfl rfl (.inl rfl) rfl (.inl rfl) rfl rfl rfl (by simp) (bindRows_sz l) (by simp [bindRows_len]; omega) (by simp [bindRows_len]; omega) ?_
    refine R_run hg.ok 1000 rfl rfl ?_
    refine R_appendO hg.ok (bindRows (l ++ [(a'.n, b')])) rfl rfl rfl rfl rfl rfl rfl rfl rfl (by simp) (by simp [one1]) (bindRows_snoc l a'.n b') (by simp [bindRows_len]; omega) (by simp [bindRows_len]; omega) ?_
    refine R_run hg.ok 1000 rfl rfl ?_
    refine R_call hg.ok (hw) rfl rfl rfl rfl rfl rfl ?_
    refine R_run hg.ok 1000 rfl rfl ?_
    exact R_retS hg 1 5 (Nat.le_refl _) rfl rfl rfl
  rw [if_neg ha] at hr
  have hargs := hargs ha hb
  rw [List.append_nil, show Tm.ordU true a'.l b'.l = a'.l.zip b'.l from rfl] at hargs
  have bad : Tm.clashB a' b' = true → some (l, m1, false) = some (l', met', ok) := fun h => by rw [if_pos h] at hr; exact hr
  refine R_if rfl rfl (fun h => absurd h (by simp [ha])) (fun _ => ?_) <;> refine R_run hg.ok 1000 rfl rfl ?_
  refine R_if rfl rfl (fun h => absurd h (by simp [hb])) (fun _ => ?_) <;> refine R_run hg.ok 1000 rfl rfl ?_
  refine R_if rfl rfl (fun h => absurd h (by simp [ha])) (fun _ => ?_) <;> refine R_run hg.ok 1000 rfl rfl ?_
  refine R_if rfl rfl (fun c1 => ?_) (fun c1 => ?_) <;> refine R_run hg.ok 1000 rfl rfl ?_
  · have c1 : ¬ a'.k = b'.k := by simpa using c1
    cases bad (by simp [Tm.clashB, c1])
    exact R_retS hg 1 5 (Nat.le_refl _) rfl rfl rfl
  have c1 : a'.k = b'.k := by simpa using c1
  refine R_if rfl rfl (fun c2 => ?_) (fun c2 => ?_) <;> refine R_run hg.ok 1000 rfl rfl ?_
  · have c2 : ¬ a'.n = b'.n := by simpa using c2
    cases bad (by simp [Tm.clashB, c2])
    exact R_retS hg 1 5 (Nat.le_refl _) rfl rfl rfl
  have c2 : a'.n = b'.n := by simpa using c2
  refine R_if rfl rfl (fun c3 => ?_) (fun c3 => ?_) <;> refine R_run hg.ok 1000 rfl rfl ?_
  · have c3 : strEq a'.s b'.s = false := by simpa using c3
    cases bad (by simp [Tm.clashB, c3])
    exact R_retS hg 1 5 (Nat.le_refl _) rfl rfl rfl
  have c3 : strEq a'.s b'.s = true := by simpa using c3
  refine R_if rfl rfl (fun c4 => ?_) (fun c4 => ?_) <;> refine R_run hg.ok 1000 rfl rfl ?_
  · have c4 : ¬ a'.l.length = b'.l.length := by simp [Tm.rows_length] at c4; omega
    cases bad (by simp [Tm.clashB, c4])
    exact R_retS hg 1 5 (Nat.le_refl _) rfl rfl rfl
  have c4 : a'.l.length = b'.l.length := by simp [Tm.rows_length] at c4; omega
  have hcl : Tm.clashB a' b' = false := by simp [Tm.clashB, c1, c2, c3, c4]
  rw [if_neg (by rw [hcl]; simp)] at hr
  have hla := Tm.length_le_sizeL a'.l
  have hsa := Tm.size_eq a'
  have hzl : (a'.l.zip b'.l).length = a'.l.length := by rw [List.length_zip]; omega
  refine R_loop (fun x : Nat × Binds × Tm.Met => ([(0, .d (.sl (bindRows x.2.1))), (3, .ow 0 x.2.2.length), (5, .lo 1 0), (6, .lo 2 0), (12, iV x.1)], [.arr 2 x.2.2.length (mrows x.2.2), boxR a', boxR b'])) (fun x => x.1 ≤ a'.l.length ∧ Tm.refUL (Tm.refU f) x.2.1 ((a'.l.zip b'.l).drop x.1) x.2.2 = some (l', met', ok) ∧ Tm.UG S N ((a'.l.zip b'.l).drop x.1) x.2.1 ∧ Tm.MetS S x.2.2) (fun x => a'.l.length - x.1) (0, l, m1) ⟨Nat.zero_le _, hr, hargs, hM'⟩ ⟨.refl _, .refl _, .refl _, .refl _, .refl _, trivial⟩ rfl ?_
  rintro ⟨k, l2, m2⟩ ⟨hk, hq, hU2, hM2⟩
  simp only at hk hq hU2 hM2
  refine R_run hg.ok 1000 rfl rfl ?_
  refine R_if rfl rfl (fun h => ?_) (fun h => ?_) <;> refine R_run hg.ok 1000 rfl rfl ?_
  · have hk1 : k < a'.l.length := lt_dec h (by rw [Tm.rows_length])
    have e1 : a'.l[k]? = some a'.l[k] := List.getElem?_eq_getElem hk1
    have e2 : b'.l[k]? = some (b'.l[k]'(by omega)) := List.getElem?_eq_getElem (by omega)
    have e3 : (a'.l.zip b'.l).drop k = (a'.l[k], b'.l[k]'(by omega)) :: (a'.l.zip b'.l).drop (k + 1) := by
      rw [List.drop_eq_getElem_cons (by omega), List.getElem_zip]
    rw [e3] at hq hU2
    generalize a'.l[k] = x at *
    generalize (b'.l[k]'(by omega)) = y at *
    simp only [Tm.refUL] at hq
    cases hq3 : Tm.refU f l2 x y m2 with
    | none => rw [hq3] at hq; cases hq
    | some r =>
    rw [hq3] at hq
    obtain ⟨l3, m3, ok3⟩ := r
    have hcall := ih l2 x y m2 l3 m3 ok3 hq3 (hU2.sub (by simp)) hM2
    refine R_index hg.ok rfl rfl rfl rfl rfl rfl (Int.natCast_nonneg _) (Tm.rows_get e1) rfl ?_
    refine R_run hg.ok 1000 rfl rfl ?_
    refine R_index hg.ok rfl rfl rfl rfl rfl rfl (Int.natCast_nonneg _) (Tm.rows_get e2) rfl ?_
    refine R_run hg.ok 1000 rfl rfl ?_
    refine R_callSO hg.ok hg.gup hg.wide hg.Y [0] [.arr 2 m3.length (mrows m3), boxR a', boxR b'] hcall (fun _ => rfl) rfl rfl rfl rfl rfl rfl rfl rfl ?_
    refine R_run hg.ok 1000 rfl rfl ?_
    cases ok3 with
    | false =>
      refine R_if rfl rfl (fun _ => ?_) (fun h => absurd h (by simp)) <;> refine R_run hg.ok 1000 rfl rfl ?_
      cases hq
      exact R_retS hg 1 5 (Nat.le_refl _) rfl rfl rfl
    | true =>
      refine R_if rfl rfl (fun h => absurd h (by simp)) (fun _ => ?_) <;> refine R_run hg.ok 1000 rfl rfl ?_
      obtain ⟨g1, g2⟩ := Tm.refU_good f l2 x y m2 l3 m3 hq3 _ hU2 hM2
      exact R_next (k + 1, l3, m3) ⟨hk1, hq, g1, g2⟩ (by simp only; omega) ⟨.refl _, .refl _, .refl _, .refl _, Ent.wrap (by simp only; omega) (by simp only; omega) (by simp only; omega), trivial⟩ rfl
  · have hk1 : a'.l.length ≤ k := ge_dec h (by rw [Tm.rows_length])
    rw [List.drop_eq_nil_of_le (by omega)] at hq
    cases hq
    exact R_retS hg 1 5 (Nat.le_refl _) rfl rfl rfl
end Go.Proofs.Ytppghekipbnjhaa

namespace Go.Proofs.Ytppghekipbnjhaa
open Go PSL Go.Proofs

set_option maxRecDepth 100000 in
theorem ref4Unify_ok {S : List Int} {N : Nat} (hSl : S.length ≤ 1000) (hN : N ≤ 1000000) {l : Binds} {a b : Tm} (hU : Tm.UG S N [(a, b)] l) : ∃ (l' : Binds) (ok : Bool), PCtr Try.prog 35 [.d (.sl (bindRows l)), a.av, b.av] (.tup [.d (.sl (bindRows l')), bV ok]) ∧ Tm.UG S N [] l' ∧ (ok = true → ∀ σ, Tm.solB σ l' ↔ Tm.solB σ l ∧ Tm.putF σ a = Tm.putF σ b) ∧ (ok = false → l' = l ∧ ∀ σ, Tm.solB σ l → Tm.putF σ a ≠ Tm.putF σ b) := by
  obtain ⟨n, B', ok, hrun, hg1, _, hyes, hno⟩ := Tm.unify_main true hU
  obtain ⟨l1, met1, ok1, hr, hf, ht⟩ := Tm.urun_ref n a b [] l B' [] ok hrun
  have hc := SCtr.nilE (axs := [.d (.sl (bindRows l)), a.av, b.av]) (y := .tup [.d (.sl (bindRows l1)), .d (.sl (mrows met1)), bV ok1]) (ref4Uni_ok ⟨[], fun _ => true⟩ hSl hN n l a b [] l1 met1 ok1 hr hU (Tm.MetS.nil S)) rfl (by simp [sealA, mapO, nth, bV])
  cases ok1 with
  | true =>
    obtain ⟨n1, _, h1⟩ := ht rfl
    cases h1
    refine ⟨_, true, ?_, hg1, fun _ => hyes rfl, fun h => (by cases h)⟩
    refine PCtr.of_R (pf := fun _ => .still) tyOk mixed Try.func35 rfl (by kernel_rfl) (by kernel_rfl) (by simp [Try.ntmps35]) fun w S hg => ?_
    refine R_run hg.ok 1000 rfl rfl ?_
    refine R_callV hg.ok hg.gup hc rfl rfl rfl rfl rfl rfl ?_
    refine R_run hg.ok 1000 rfl rfl ?_
    refine R_if rfl rfl (fun h => absurd h (by simp)) (fun _ => ?_) <;> refine R_run hg.ok 1000 rfl rfl ?_
    refine R_ret hg 5 rfl rfl ?_
    rfl
  | false =>
    have := hf rfl
    subst this
    refine ⟨l, false, ?_, hU.sub (by simp), fun h => (by cases h), fun _ => ⟨rfl, hno rfl⟩⟩
    refine PCtr.of_R (pf := fun _ => .still) tyOk mixed Try.func35 rfl (by kernel_rfl) (by kernel_rfl) (by simp [Try.ntmps35]) fun w S hg => ?_
    refine R_run hg.ok 1000 rfl rfl ?_
    refine R_callV hg.ok hg.gup hc rfl rfl rfl rfl rfl rfl ?_
    refine R_run hg.ok 1000 rfl rfl ?_
    refine R_if rfl rfl (fun _ => ?_) (fun h => absurd h (by simp)) <;> refine R_run hg.ok 1000 rfl rfl ?_
    refine R_ret hg 5 rfl rfl ?_
    rfl
def num4 (n : Nat) : List Int := (List.range n).map fun (i : Nat) => (i : Int)
theorem num4_snoc (n : Nat) : num4 n ++ [(n : Int)] = num4 (n + 1) := by simp [num4, List.range_succ]
theorem num4_len (n : Nat) : (num4 n).length = n := by simp [num4]

theorem toG_num4 {V : List Int} {v : Int} (hv : v ∈ V) : toG V (num4 V.length) v = placeG V v := by
  obtain ⟨h1, h2, h3⟩ := placeG_mem hv
  rw [h1] at h2 h3
  unfold toG num4
  rw [h1, List.getElem?_map, List.getElem?_range (by omega)]
  simp; omega

theorem turn4_snoc {g : Int → Int} {l : List Tm} {k : Nat} {x : Tm} (h : l[k]? = some x) : Tm.rows (Tm.turnTL g (l.take k)) ++ [Tm.row (Tm.turnT g x)] = Tm.rows (Tm.turnTL g (l.take (k + 1))) := by
  rw [List.take_add_one, h, Tm.turnTL_map, Tm.turnTL_map]; simp [Tm.rows_eq]

set_option maxRecDepth 100000 in
theorem ref4Numbered_ok (l : List Tm) (hf : Tm.fairRL l = true) (hsz : Tm.sizeL l < 1000000000) : PCtr Try.prog 50 [.d (.sl (Tm.rows l))] (.d (.sl (Tm.rows (numL l)))) := by
  have hll := Tm.length_le_sizeL l
  have hvl : (varsT l).length ≤ Tm.sizeL l := by have := varsF_len l []; simpa [varsF, varsT] using this
  have hv := refVars_ok l hsz
  rw [← varsT_with l (Tm.fairL_plain _ hf)] at hv
  have hVm : ∀ v, v ∈ varsT l ↔ v ∈ Tm.occL l := fun v => varsT_mem hf
  unfold numL
  generalize varsT l = V at *
  refine PCtr.of_R (pf := pfB) tyOk mixed Try.func50 rfl (by kernel_rfl) (by kernel_rfl) (by simp [Try.ntmps50]) fun w S hg => ?_
  refine R_run hg.ok 1000 rfl rfl ?_
  refine R_call hg.ok (hv) rfl rfl rfl rfl rfl rfl ?_
  refine R_run hg.ok 1000 rfl rfl ?_
  refine R_own 4 1 rfl rfl ?_
  refine R_cut2 (fun _ : Unit => ([(0, .d (.sl (Tm.rows l))), (3, .d (.sl (irows V))), (4, .ow 0 V.length)], [.arr 1 V.length (irows (num4 V.length))])) (fun _ => True) rfl ?_ ?_
  · refine R_loop (fun k : Nat => ([(0, .d (.sl (Tm.rows l))), (3, .d (.sl (irows V))), (4, .ow 0 k), (5, iV k)], [.arr 1 k (irows (num4 k))])) (fun k => k ≤ V.length) (fun k => V.length - k) 0 (Nat.zero_le _) ⟨.refl _, .refl _, .refl _, .refl _, trivial⟩ rfl ?_
    intro j hj
    refine R_run hg.ok 1000 rfl rfl ?_
    refine R_if rfl rfl (fun h => ?_) (fun h => ?_) <;> refine R_run hg.ok 1000 rfl rfl ?_
    · have hj1 : j < V.length := lt_dec h (by rw [irows_length])
      refine R_appendO hg.ok (irows (num4 (j + 1))) rfl rfl rfl rfl rfl rfl rfl rfl rfl (by simp) (by simp [one1]) (by rw [← num4_snoc]; exact irows_snoc _ _) (by simp [irows_length, num4_len]; omega) (by simp [irows_length, num4_len]; omega) ?_
      refine R_run hg.ok 1000 rfl rfl ?_
      exact R_next (j + 1) hj1 (by omega) ⟨.refl _, .refl _, .refl _, Ent.wrap (by omega) (by omega) (by omega), trivial⟩ rfl
    · have hj1 : V.length ≤ j := ge_dec h (by rw [irows_length])
      obtain rfl : j = V.length := by omega
      exact R_to () trivial ⟨.refl _, .refl _, .refl _, trivial⟩ rfl
  rintro _ _
  refine R_freezeO hg.gup 0 [(0, .d (.sl (Tm.rows l))), (3, .d (.sl (irows V))), (4, .d (.sl (irows (num4 V.length))))] [.dead] rfl rfl ⟨.refl _, .refl _, Ent.frz 0 V.length (irows (num4 V.length)), trivial⟩ ⟨by simp [ObIn], trivial⟩ ?_
  refine R_run hg.ok 1000 rfl rfl ?_
  refine R_own 6 4 rfl rfl ?_
  refine R_loop (fun k : Nat => ([(0, .d (.sl (Tm.rows l))), (3, .d (.sl (irows V))), (4, .d (.sl (irows (num4 V.length)))), (6, .ow 1 k), (7, iV k)], [.dead, .arr 4 k (Tm.rows (Tm.turnTL (placeG V) (l.take k)))])) (fun k => k ≤ l.length) (fun k => l.length - k) 0 (Nat.zero_le _) ⟨.refl _, .refl _, .refl _, .refl _, .refl _, trivial⟩ rfl ?_
  intro k hk
  refine R_run hg.ok 1000 rfl rfl ?_
  refine R_if rfl rfl (fun h => ?_) (fun h => ?_) <;> refine R_run hg.ok 1000 rfl rfl ?_
  · have hk1 : k < l.length := lt_dec h (by rw [Tm.rows_length])
    have e1 : l[k]? = some l[k] := List.getElem?_eq_getElem hk1
    have hmem := List.getElem_mem hk1
    generalize l[k] = x at e1 hmem
    have fx := Tm.fairRL_iff.1 hf x hmem
    have hms := Tm.size_mem hmem
    have hocc : ∀ v ∈ Tm.occ x, v ∈ V := fun v hv => (hVm v).2 (occ_sub hmem hv)
    have hT := refTurn_ok V (num4 V.length) (by rw [num4_len]; exact Nat.le_refl _) (by rw [num4_len]; omega) x (by omega) fun d e he hk => (atI_mem 0 (hocc _ (Tm.occ_of he hk (Tm.fair_plain _ fx)))).1
    rw [Tm.turnR_turnT _ x fx, Tm.turn_congr x fx (fun v hv => toG_num4 (hocc v hv))] at hT
    refine R_index hg.ok rfl rfl rfl rfl rfl rfl (Int.natCast_nonneg _) (Tm.rows_get e1) rfl ?_
    refine R_run hg.ok 1000 rfl rfl ?_
    refine R_call hg.ok (hT) rfl rfl rfl rfl rfl rfl ?_
    refine R_run hg.ok 1000 rfl rfl ?_
    refine R_appendO hg.ok (Tm.rows (Tm.turnTL (placeG V) (l.take (k + 1)))) rfl rfl rfl rfl rfl rfl rfl rfl rfl (by simp) (by simp [one1]) (turn4_snoc e1) (by rw [Tm.rows_length, Tm.turnTL_map]; simp; omega) (by rw [Tm.rows_length, Tm.turnTL_map]; simp; omega) ?_
    refine R_run hg.ok 1000 rfl rfl ?_
    exact R_next (k + 1) hk1 (by omega) ⟨.refl _, .refl _, .refl _, .refl _, Ent.wrap (by omega) (by omega) (by omega), trivial⟩ rfl
  · have hk1 : l.length ≤ k := ge_dec h (by rw [Tm.rows_length])
    refine R_ret hg 5 rfl (sealA_ow rfl) ?_
    rw [List.take_of_length_le hk1]
end Go.Proofs.Ytppghekipbnjhaa

namespace Go.Proofs.Ytppghekipbnjhaa
open Go PSL Go.Proofs
def row1 (t : Tm) : List D := [.v (.int .i64 t.k), .v (.string t.s), .v (.int .i64 t.n), .sl (Tm.rows t.l)]
end Go.Proofs.Ytppghekipbnjhaa

namespace Go.Proofs.Ytppghekipbnjhaa
open Go PSL Go.Proofs

/-- The program's unification, from any store. -/
theorem unjMain_ok (Y : YP) (d : Nat) {S : List Int} {N : Nat} (hS : S.length ≤ 100) (hN : N ≤ 100) {B : Binds} {a b : Tm} (hU : Tm.UG S N [(a, b)] B) (ha : a.rightB = true) (hb : b.rightB = true) (na : ∀ e ∈ a.els 1, e.2.s.size < 1000000000) (nb : ∀ e ∈ b.els 1, e.2.s.size < 1000000000) :
    ∃ (d' : Nat) (B' : Binds) (ok : Bool), SCtr Try.prog Y 46 [.lo 0 0, a.av, b.av] (uobd d B) (.tup [bV ok, iV 0]) (uobd d' B') ∧ Tm.UG S N [] B' ∧ (∃ X, B' = B ++ X) ∧ (ok = true → d' = d ∧ ∀ σ, Tm.solB σ B' ↔ Tm.solB σ B ∧ Tm.putF σ a = Tm.putF σ b) ∧ (ok = false → B' = B ∧ ∀ σ, Tm.solB σ B → Tm.putF σ a ≠ Tm.putF σ b) := by
  obtain ⟨n, B', ok, hrun, hG, ⟨X, hX⟩, p1, p2⟩ := Tm.unify_main false hU
  subst hX
  have hl := hG.blen
  have h := unjDo_ok Y d hS hN B X ok a b n (Tm.UState.first (right_fair ha) (hU.st (a, b) (by simp)).1 hrun hU) hG.chain.nodup (by omega) ha hb na nb
  cases ok with
  | true => exact ⟨d, B ++ X, true, h, hG, ⟨X, rfl⟩, fun _ => ⟨rfl, p1 rfl⟩, fun h => (by cases h)⟩
  | false => exact ⟨X.length + d + 1, B, false, h, hU.sub (by simp), ⟨[], by simp⟩, fun h => (by cases h), fun _ => ⟨rfl, p2 rfl⟩⟩

theorem uobd_rn (i j k : Nat) (d : Nat) (B : Binds) (n : Nat) : (uobd d B).map (renOb (rn [i, j, k] n)) = [.box [.mp j, .ow k (B.length + d)], .map (imap (tmM B)), .arr 1 (B.length + d) (irows (B.map (·.1)))] := by
  have e : (renOb (rn [i, j, k] n)) = mapOb (renA (rn [i, j, k] n)) := by funext o; cases o <;> simp [renOb, mapOb, renL_map]
  rw [e]
  simp only [uobd, List.map_cons, List.map_nil]
  rw [tmM_mapOb (fun t => rfl)]; rfl
end Go.Proofs.Ytppghekipbnjhaa

namespace PSL
open Go
abbrev Backs := List (Tm × Tm × Bool)
def backRow (b : Tm × Tm × Bool) : List D := .v (.int .i64 b.1.k) :: .v (.string b.1.s) :: .v (.int .i64 b.1.n) :: .sl (Tm.rows b.1.l) :: .v (.int .i64 b.2.1.k) :: .v (.string b.2.1.s) :: .v (.int .i64 b.2.1.n) :: .sl (Tm.rows b.2.1.l) :: [.v (.bool b.2.2)]
def backRows (l : Backs) : List (List D) := l.map backRow
theorem backRows_len (l : Backs) : (backRows l).length = l.length := by simp [backRows]
theorem backRows_get {l : Backs} {i : Nat} {x : Tm × Tm × Bool} (h : l[i]? = some x) : (backRows l)[i]? = some (backRow x) := by simp [backRows, h]

/-- A type's number is that of such pairs. -/
structure IsBack (ty : Nat → Option Ty) (T TT : Nat) : Prop where
  ex : ∃ (a : Nat) (τ τa : Ty), ty T = some τ ∧ τ.sh = .struct [(0, TT), (4, TT), (8, a)] ∧ τ.size = 9 ∧ 113 ≤ τ.bytes ∧ ty a = some τa ∧ τa.sh = .bool

def isBackB (ty : Nat → Option Ty) (T TT : Nat) : Bool :=
  match ty T with
  | some ⟨9, by_, _, .struct [(0, T'), (4, T''), (8, a)]⟩ => Nat.ble 113 by_ && (match ty a with | some ⟨_, _, _, .bool⟩ => true | _ => false) && Nat.beq T' TT && Nat.beq T'' TT
  | _ => false

theorem isBackB_ok {ty : Nat → Option Ty} {T TT : Nat} (h : isBackB ty T TT = true) : IsBack ty T TT := by
  unfold isBackB at h
  split at h
  case h_2 => cases h
  rename_i by_ z T' T'' a hT
  simp only [Bool.and_eq_true] at h
  obtain ⟨⟨⟨h0, h1⟩, h2⟩, h3⟩ := h
  split at h1
  case h_2 => cases h1
  rename_i ha
  have := natBeq h2
  subst this
  have := natBeq h3
  subst this
  exact ⟨a, _, _, hT, rfl, rfl, Nat.le_of_ble_eq_true h0, ha, rfl⟩

theorem back_of {ty : Nat → Option Ty} {T TT B : Nat} (hT : IsTerm ty TT) (hI : IsBack ty T TT) (hB : B ≤ 140737488355328) (n : Nat) (row : List D) (h : HasTy ty B n T row) : ∃ b : Tm × Tm × Bool, row = backRow b ∧ b.1.Ok ∧ b.2.1.Ok := by
  obtain ⟨a, τ, τa, h1, h2, h3, hby, ha, ha'⟩ := hI.ex
  cases n with
  | zero => simp [HasTy] at h
  | succ n =>
    simp only [HasTy, h1, h2, HasFs] at h
    obtain ⟨_, ra, _, _, rfl, _, g3, _, rt, _, _, rfl, _, g6, _, rc, _, g7, rfl, _, g9, rfl⟩ := h
    obtain ⟨t, rfl, ht⟩ := tm_of hT hB n ra g3
    obtain ⟨u, rfl, hu⟩ := tm_of hT hB n rt g6
    cases n with
    | zero => simp [HasTy] at g9
    | succ n =>
      simp only [HasTy, ha, ha'] at g9
      obtain ⟨b, rfl⟩ := g9
      exact ⟨(t, u, b), by simp [backRow, Tm.row, Tm.rowM], ht.1, hu.1⟩

theorem arg_backs {ty : Nat → Option Ty} {T TT TS B : Nat} (hT : IsTerm ty TT) (hI : IsBack ty T TT) (hB : B ≤ 140737488355328) {n : Nat} {τ : Ty} {row : List D} {a : AV} (hτ : ty TS = some τ) (hs : τ.sh = .slice T) (h : HasTy ty B n TS row) (ha : a = avOf τ row) :
    ∃ l : Backs, a = .d (.sl (backRows l)) ∧ (∀ b ∈ l, b.1.Ok ∧ b.2.1.Ok) ∧ l.length * 113 ≤ 140737488355328 := by
  cases n with
  | zero => simp [HasTy] at h
  | succ n =>
    obtain ⟨rows, rfl, h1, h2⟩ := has_slice hτ hs h
    have hch : ∃ l : Backs, rows = backRows l ∧ ∀ x ∈ l, x.1.Ok ∧ x.2.1.Ok := by
      clear h1 h ha
      induction rows with
      | nil => exact ⟨[], rfl, by simp⟩
      | cons r rows ihr =>
        obtain ⟨t, ht1, ht2⟩ := back_of hT hI hB n r (h2 r (by simp))
        obtain ⟨l, hl1, hl2⟩ := ihr fun r hr => h2 r (by simp [hr])
        exact ⟨t :: l, by simp [backRows, ht1, hl1], fun x hx => (List.mem_cons.1 hx).elim (fun e => e ▸ ht2) (hl2 x)⟩
    obtain ⟨l, rfl, hl⟩ := hch
    refine ⟨l, ?_, hl, ?_⟩
    · rw [ha]; unfold avOf Ty.agg; rw [hs]
    · obtain ⟨a', τ', τa, g1, g2, g3, hby, _⟩ := hI.ex
      have := h1 τ' g1
      rw [backRows_len] at this
      exact Nat.le_trans (Nat.mul_le_mul_left _ hby) (Nat.le_trans this hB)

/-- All terms, in a row. -/
def backTms : Backs → List Tm
  | [] => []
  | b :: l => b.1 :: b.2.1 :: backTms l

theorem backTms_len : ∀ l : Backs, (backTms l).length = 2 * l.length
  | [] => rfl
  | b :: l => by simp only [backTms, List.length_cons, backTms_len l]; omega

theorem backTms_app : ∀ l m : Backs, backTms (l ++ m) = backTms l ++ backTms m
  | [], m => rfl
  | b :: l, m => by simp only [List.cons_append, backTms, backTms_app l m]

theorem backTms_mem {l : Backs} {b : Tm × Tm × Bool} (h : b ∈ l) : b.1 ∈ backTms l ∧ b.2.1 ∈ backTms l := by
  induction l with
  | nil => cases h
  | cons c l ih =>
    simp only [backTms, List.mem_cons]
    rcases List.mem_cons.1 h with rfl | h
    · exact ⟨.inl rfl, .inr (.inl rfl)⟩
    · have := ih h; exact ⟨.inr (.inr this.1), .inr (.inr this.2)⟩

theorem backTms_ok {l : Backs} (h : ∀ b ∈ l, b.1.Ok ∧ b.2.1.Ok) : ∀ t ∈ backTms l, t.Ok := by
  induction l with
  | nil => intro t ht; cases ht
  | cons c l ih =>
    intro t ht
    simp only [backTms, List.mem_cons] at ht
    rcases ht with rfl | rfl | ht
    · exact (h c (by simp)).1
    · exact (h c (by simp)).2
    · exact ih (fun b hb => h b (by simp [hb])) t ht

theorem backTms_snoc {t : Tm} {l : Backs} {k : Nat} {b : Tm × Tm × Bool} (h : l[k]? = some b) : Tm.rows (t :: backTms (l.take k)) ++ [Tm.row b.1, Tm.row b.2.1] = Tm.rows (t :: backTms (l.take (k + 1))) := by
  rw [List.take_add_one, h, backTms_app]
  simp [Tm.rows_eq, backTms]
namespace Tm

mutual
theorem occ_len : ∀ t : Tm, (occ t).length ≤ size t
  | mk k s n l => by
    have := occL_len l
    simp only [occ, size]
    split
    · simp
    · omega
theorem occL_len : ∀ l : List Tm, (occL l).length ≤ sizeL l
  | [] => by simp [occL]
  | t :: l => by
    have h1 := occ_len t
    have h2 := occL_len l
    simp only [occL, sizeL, List.length_append]
    omega
end
end Tm
end PSL

namespace Go.Proofs.Ytppghekipbnjhaa
open Go PSL Go.Proofs
def pfSto : Nat → Cls := fun f => bif Nat.beq f 44 then .turn 0 else bif Nat.beq f 45 then .eff else bif Nat.beq f 46 then .eff else bif Nat.beq f 47 then .eff else bif Nat.beq f 48 then .eff else bif Nat.beq f 4000000004 then .turn 1 else .still

theorem ent_one4 (t : Tm) : Ent (.fs [row1 t]) (.d (.sl (Tm.rows (t :: backTms [])))) := by
  rw [Tm.rows_eq]; exact Ent.fs _

theorem backTms_snoc1 (t : Tm) {l : Backs} {b : Tm × Tm × Bool} (h : l[0]? = some b) : [row1 t] ++ [row1 b.1, row1 b.2.1] = Tm.rows (t :: backTms (l.take 1)) := by
  rw [← backTms_snoc (t := t) h, show Tm.rows (t :: backTms (l.take 0)) = [row1 t] by rw [Tm.rows_eq]; rfl]; rfl
theorem isBack : IsBack tyT.get 65 24 := isBackB_ok (by kernel_rfl)

/-- The program's unification of any two. -/
theorem unjAny_ok (Y : YP) (d : Nat) {S : List Int} {N : Nat} (hS : S.length ≤ 100) (hN : N ≤ 100) {B : Binds} {a b : Tm} (hU : Tm.UG S N [] B) (oa : ∀ v ∈ Tm.occ a, v ∈ S) (ob : ∀ v ∈ Tm.occ b, v ∈ S) (sa : a.size ≤ N) (sb : b.size ≤ N) (na : ∀ e ∈ a.els 1, e.2.s.size < 1000000000) (nb : ∀ e ∈ b.els 1, e.2.s.size < 1000000000) :
    ∃ (d' : Nat) (B' : Binds) (ok : Bool) (e : Int), SCtr Try.prog Y 46 [.lo 0 0, a.av, b.av] (uobd d B) (.tup [bV ok, iV e]) (uobd d' B') ∧ Tm.UG S N [] B' ∧ (∃ X, B' = B ++ X) ∧ ((a.rightB && b.rightB) = false → B' = B ∧ ok = false ∧ e = 1) ∧
      ((a.rightB && b.rightB) = true → e = 0 ∧ (ok = true → ∀ σ, Tm.solB σ B' ↔ Tm.solB σ B ∧ Tm.putF σ a = Tm.putF σ b) ∧ (ok = false → B' = B ∧ ∀ σ, Tm.solB σ B → Tm.putF σ a ≠ Tm.putF σ b)) := by
  cases hr : (a.rightB && b.rightB) with
  | false => exact ⟨d, B, false, 1, unjNot_ok Y d B a b hr (by omega) (by omega) na nb, hU, ⟨[], by simp⟩, fun _ => ⟨rfl, rfl, rfl⟩, fun h => (by cases h)⟩
  | true =>
    have hr' := hr
    rw [Bool.and_eq_true] at hr'
    obtain ⟨d', B', ok, h1, h2, h3, h4, h5⟩ := unjMain_ok Y d hS hN (hU.pair hr'.1 hr'.2 sa sb oa ob) hr'.1 hr'.2 na nb
    exact ⟨d', B', ok, 0, h1, h2, h3, fun h => (by cases h), fun _ => ⟨rfl, fun h => (h4 h).2, h5⟩⟩

/-- What stands between two rounds. -/
def sto4 (t : Tm) (d : Nat) (B : Binds) (sm : Nat) (ms : List Int) (ss : List (List D)) : List Ob := [boxR t, .map (imap (tmM B)), .box [.mp 1, .ow 3 (B.length + d)], .arr 1 (B.length + d) (irows (B.map (·.1))), .arr 1 sm (irows ms), .arr 1 sm ss]

set_option maxRecDepth 100000 in
theorem unifyStores_ok (L : Backs) (t : Tm) (hL : ∀ b ∈ L, b.1.Ok ∧ b.2.1.Ok) (hLl : L.length * 113 ≤ 140737488355328) (ht : t.Ok) : PCtr Try.prog 12 [.d (.sl (backRows L)), t.av] (bV true) := by
  refine PCtr.of_R (pf := pfSto) tyOk mixed Try.func12 rfl (by kernel_rfl) (by kernel_rfl) (by simp [Try.ntmps12]) fun w S hg => ?_
  refine R_run hg.ok 1000 rfl rfl ?_
  refine R_cut2 (fun _ : Unit => ([(0, .d (.sl (backRows L))), (3, .lo 0 0), (5, .d (.sl (Tm.rows (t :: backTms L))))], [boxR t])) (fun _ => True) rfl ?_ ?_
  · refine R_loop (fun k : Nat => match k with
      | 0 => ([(0, .d (.sl (backRows L))), (3, .lo 0 0), (5, .fs [row1 t]), (6, iV (0 : Nat))], [boxR t])
      | j + 1 => ([(0, .d (.sl (backRows L))), (3, .lo 0 0), (5, .ow 1 j), (6, iV (j + 1 : Nat))], [boxR t, .arr 4 j (Tm.rows (t :: backTms (L.take (j + 1))))])) (fun k => k ≤ L.length) (fun k => L.length - k) 0 (Nat.zero_le _) ⟨.refl _, .refl _, .refl _, .refl _, trivial⟩ rfl ?_
    intro k hk
    cases k with
    | zero =>
      refine R_run hg.ok 1000 rfl rfl ?_
      refine R_if rfl rfl (fun h => ?_) (fun h => ?_) <;> refine R_run hg.ok 1000 rfl rfl ?_
      · have hk1 : 0 < L.length := lt_dec h (by rw [backRows_len])
        have e1 : L[0]? = some L[0] := List.getElem?_eq_getElem hk1
        generalize L[0] = b at e1
        refine R_index hg.ok rfl rfl rfl rfl rfl rfl (Int.natCast_nonneg _) (backRows_get e1) rfl ?_
        refine R_run hg.ok 1000 rfl rfl ?_
        refine R_index hg.ok rfl rfl rfl rfl rfl rfl (Int.natCast_nonneg _) (backRows_get e1) rfl ?_
        refine R_run hg.ok 1000 rfl rfl ?_
        refine R_appendF hg.ok rfl rfl (.inl rfl) rfl (.inr (by simp)) rfl rfl rfl (by simp [row1]) (by simp) (by simp) (by simp) ?_
        refine R_run hg.ok 1000 rfl rfl ?_
        exact R_next 1 hk1 (by omega) ⟨.refl _, .refl _, .refl _, Ent.wrap (by simp) (by simp) (by simp), trivial⟩ (congrArg (fun r => [boxR t, Ob.arr 4 0 r]) (backTms_snoc1 t e1))
      · have hk1 : L.length ≤ 0 := ge_dec h (by rw [backRows_len])
        have hV : L = [] := List.length_eq_zero_iff.1 (by omega)
        subst hV
        refine R_weak [(0, .d (.sl (backRows []))), (3, .lo 0 0), (5, .d (.sl (Tm.rows (t :: backTms []))))] ⟨.refl _, .refl _, ent_one4 t, trivial⟩ ?_
        exact R_to () trivial ⟨.refl _, .refl _, .refl _, trivial⟩ rfl
    | succ j =>
      refine R_run hg.ok 1000 rfl rfl ?_
      refine R_if rfl rfl (fun h => ?_) (fun h => ?_) <;> refine R_run hg.ok 1000 rfl rfl ?_
      · have hk1 : j + 1 < L.length := lt_dec h (by rw [backRows_len])
        have e1 : L[j + 1]? = some L[j + 1] := List.getElem?_eq_getElem hk1
        generalize L[j + 1] = b at e1
        refine R_index hg.ok rfl rfl rfl rfl rfl rfl (Int.natCast_nonneg _) (backRows_get e1) rfl ?_
        refine R_run hg.ok 1000 rfl rfl ?_
        refine R_index hg.ok rfl rfl rfl rfl rfl rfl (Int.natCast_nonneg _) (backRows_get e1) rfl ?_
        refine R_run hg.ok 1000 rfl rfl ?_
        refine R_appendO hg.ok (Tm.rows (t :: backTms (L.take (j + 2)))) rfl rfl rfl rfl rfl rfl rfl rfl rfl (by simp) (by simp [one1]) (backTms_snoc e1) (by rw [Tm.rows_length]; simp [backTms_len]; omega) (by rw [Tm.rows_length]; simp [backTms_len]; omega) ?_
        refine R_run hg.ok 1000 rfl rfl ?_
        exact R_next (j + 2) hk1 (by omega) ⟨.refl _, .refl _, .refl _, Ent.wrap (by omega) (by omega) (by omega), trivial⟩ rfl
      · have hk1 : L.length ≤ j + 1 := ge_dec h (by rw [backRows_len])
        rw [List.take_of_length_le hk1]
        refine R_freezeO hg.gup 1 [(0, .d (.sl (backRows L))), (3, .lo 0 0), (5, .d (.sl (Tm.rows (t :: backTms L))))] [boxR t, .dead] rfl rfl ⟨.refl _, .refl _, Ent.frz 1 j _, trivial⟩ ⟨.refl _, by simp [ObIn], trivial⟩ ?_
        refine R_dropO 1 [boxR t] (Nat.zero_le _) rfl rfl ?_
        exact R_to () trivial ⟨.refl _, .refl _, .refl _, trivial⟩ rfl
  rintro _ _
  refine R_run hg.ok 1000 rfl rfl ?_
  refine R_if rfl rfl (fun h => ?_) (fun h => ?_) <;> refine R_run hg.ok 1000 rfl rfl ?_
  · refine R_call hg.ok (knows4j_ok) rfl rfl rfl rfl rfl rfl ?_
    refine R_run hg.ok 1000 rfl rfl ?_
    refine R_ret hg 5 rfl rfl ?_
    rfl
  have hLl2 : L.length ≤ 12 := by have := of_decide_eq_false h; rw [backRows_len] at this; omega
  refine R_call hg.ok (sm4_ok (t :: backTms L) (fun x hx => (List.mem_cons.1 hx).elim (fun e => e ▸ ht) (backTms_ok hL x)) (by simp [backTms_len]; omega)) rfl rfl rfl rfl rfl rfl ?_
  refine R_run hg.ok 1000 rfl rfl ?_
  refine R_if rfl rfl (fun h => ?_) (fun h => ?_) <;> refine R_run hg.ok 1000 rfl rfl ?_
  · refine R_call hg.ok (knows4j_ok) rfl rfl rfl rfl rfl rfl ?_
    refine R_run hg.ok 1000 rfl rfl ?_
    refine R_ret hg 5 rfl rfl ?_
    rfl
  have hs : smallS (t :: backTms L) = true := by simpa using h
  obtain ⟨h1, h2⟩ := smallS_ok hs
  have hno := Tm.occL_len (t :: backTms L)
  refine R_callNew hg.ok hg.gup ⟨rfl, rfl⟩ (fun _ _ _ _ h => by cases h) [boxR t, .map [], .box [.mp 1, .d (.v (.slice none 0 0))]] (uniNew_ok ⟨[], fun _ => true⟩) (fun _ => rfl) rfl rfl rfl rfl rfl rfl ?_
  first
  | (refine R_run hg.ok 1 rfl rfl ?_; refine R_ownB 2 1 1 rfl rfl rfl ?_)
  | (refine R_run hg.ok 2 rfl rfl ?_; refine R_ownB 2 1 1 rfl rfl rfl ?_)
  | (refine R_run hg.ok 3 rfl rfl ?_; refine R_ownB 2 1 1 rfl rfl rfl ?_)
  | (refine R_run hg.ok 4 rfl rfl ?_; refine R_ownB 2 1 1 rfl rfl rfl ?_)
  | (refine R_run hg.ok 5 rfl rfl ?_; refine R_ownB 2 1 1 rfl rfl rfl ?_)
  | (refine R_run hg.ok 6 rfl rfl ?_; refine R_ownB 2 1 1 rfl rfl rfl ?_)
  refine R_run hg.ok 1000 rfl rfl ?_
  refine R_eqNil hg.ok Try.underlying66 rfl rfl rfl ?_
  refine R_run hg.ok 1000 rfl rfl ?_
  refine R_if rfl rfl (fun h => absurd h (by simp)) (fun _ => ?_) <;> refine R_run hg.ok 1000 rfl rfl ?_
  refine R_own 9 1 rfl rfl ?_
  refine R_own 10 1 rfl rfl ?_
  have hVl : (Tm.occL (t :: backTms L)).length ≤ 100 := by omega
  have hmem : ∀ x ∈ t :: backTms L, ∀ v ∈ Tm.occ x, v ∈ Tm.occL (t :: backTms L) := fun x hx v hv => occ_sub hx hv
  have hall : ∀ x ∈ t :: backTms L, x.size ≤ 60 ∧ ∀ d, ∀ e ∈ x.els d, e.2.s.size < 1000000000 := fun x hx => ⟨by have := Tm.size_mem hx; omega, nm4 fun d e he => h2 d e (Tm.els_memL hx he)⟩
  generalize Tm.occL (t :: backTms L) = V at hVl hmem
  refine R_cut2 (fun x : Nat × Binds × Binds × Nat × List Int × List (List D) => ([(3, .lo 0 0), (7, .lo 2 0), (8, .d (.sl (bindRows x.2.2.1)))], sto4 t x.1 x.2.1 x.2.2.2.1 x.2.2.2.2.1 x.2.2.2.2.2)) (fun x => Tm.UG V 60 [] x.2.1 ∧ Tm.UG V 60 [] x.2.2.1 ∧ ∀ σ, Tm.solB σ x.2.1 ↔ Tm.solB σ x.2.2.1) rfl ?_ ?_
  · refine R_loop (fun x : Nat × Nat × Binds × Binds × Nat × List Int × List (List D) => ([(0, .d (.sl (backRows L))), (3, .lo 0 0), (7, .lo 2 0), (8, .d (.sl (bindRows x.2.2.2.1))), (9, .ow 4 x.2.2.2.2.1), (10, .ow 5 x.2.2.2.2.1), (11, iV x.1)], sto4 t x.2.1 x.2.2.1 x.2.2.2.2.1 x.2.2.2.2.2.1 x.2.2.2.2.2.2)) (fun x => x.1 ≤ L.length ∧ Tm.UG V 60 [] x.2.2.1 ∧ Tm.UG V 60 [] x.2.2.2.1 ∧ (∀ σ, Tm.solB σ x.2.2.1 ↔ Tm.solB σ x.2.2.2.1) ∧ x.2.2.2.2.2.1.length ≤ x.1 ∧ x.2.2.2.2.2.2.length = x.2.2.2.2.2.1.length) (fun x => L.length - x.1) (0, 0, [], [], 0, [], []) ⟨Nat.zero_le _, Tm.UG.nil V 60, Tm.UG.nil V 60, fun σ => Iff.rfl, Nat.zero_le _, rfl⟩ ⟨.refl _, .refl _, .refl _, Ent.nil, .refl _, .refl _, .refl _, trivial⟩ rfl ?_
    rintro ⟨k, d, B, C, s, ms, ss⟩ ⟨hk, hB, hC, hBC, hms, hss⟩
    simp only at hk hB hC hBC hms hss
    refine R_run hg.ok 1000 rfl rfl ?_
    refine R_if rfl rfl (fun h => ?_) (fun h => ?_) <;> refine R_run hg.ok 1000 rfl rfl ?_
    · have hk1 : k < L.length := lt_dec h (by rw [backRows_len])
      have e1 : L[k]? = some L[k] := List.getElem?_eq_getElem hk1
      have hbm := backTms_mem (List.getElem_mem hk1)
      generalize L[k] = b at e1 hbm
      obtain ⟨a, b, bk⟩ := b
      simp only at hbm
      refine R_callSO hg.ok hg.gup ⟨rfl, rfl⟩ (fun _ _ _ _ h => by cases h) [2, 1, 3] (sto4 t d B s ms ss) (unjMark_ok ⟨[], fun _ => true⟩ d B) (fun _ => rfl) rfl rfl rfl rfl rfl (by rw [uobd_rn]; rfl) rfl (by rw [uobd_rn]; rfl) ?_
      refine R_run hg.ok 1000 rfl rfl ?_
      refine R_appendO hg.ok (irows (ms ++ [(B.length : Int)])) rfl rfl rfl rfl rfl rfl rfl rfl rfl (by simp) (by simp [one1]) (irows_snoc _ _) (by rw [irows_length]; simp; omega) (by rw [irows_length]; simp; omega) ?_
      refine R_run hg.ok 1000 rfl rfl ?_
      refine R_appendO hg.ok (ss ++ [[.sl (bindRows C)]]) rfl rfl rfl rfl rfl rfl rfl rfl rfl (by simp) (by simp [one1]) rfl (by simp; omega) (by simp; omega) ?_
      refine R_run hg.ok 1000 rfl rfl ?_
      refine R_index hg.ok rfl rfl rfl rfl rfl rfl (Int.natCast_nonneg _) (backRows_get e1) rfl ?_
      refine R_run hg.ok 1000 rfl rfl ?_
      refine R_index hg.ok rfl rfl rfl rfl rfl rfl (Int.natCast_nonneg _) (backRows_get e1) rfl ?_
      refine R_run hg.ok 1000 rfl rfl ?_
      obtain ⟨d', B', ok, e, hU, hB', hX, hnot, hyes⟩ := unjAny_ok ⟨[], fun _ => true⟩ d hVl (by decide : 60 ≤ 100) hB (hmem a (by simp [hbm.1])) (hmem b (by simp [hbm.2])) (hall a (by simp [hbm.1])).1 (hall b (by simp [hbm.2])).1 ((hall a (by simp [hbm.1])).2 1) ((hall b (by simp [hbm.2])).2 1)
      refine R_callSO hg.ok hg.gup ⟨rfl, rfl⟩ (fun _ _ _ _ h => by cases h) [2, 1, 3] (sto4 t d' B' (s + 1) (ms ++ [(B.length : Int)]) (ss ++ [[.sl (bindRows C)]])) hU (fun _ => rfl) rfl rfl rfl rfl rfl (by rw [uobd_rn]; rfl) rfl (by rw [uobd_rn]; rfl) ?_
      refine R_run hg.ok 6 rfl rfl ?_
      refine R_cut2 (fun C' : Binds => ([(0, .d (.sl (backRows L))), (3, .lo 0 0), (7, .lo 2 0), (8, .d (.sl (bindRows C'))), (9, .ow 4 (s + 1)), (10, .ow 5 (s + 1)), (11, iV k)], sto4 t d' B' (s + 1) (ms ++ [(B.length : Int)]) (ss ++ [[.sl (bindRows C)]]))) (fun C' => Tm.UG V 60 [] C' ∧ ∀ σ, Tm.solB σ B' ↔ Tm.solB σ C') rfl ?_ ?_
      · refine R_run hg.ok 1000 rfl rfl ?_
        refine R_index hg.ok rfl rfl rfl rfl rfl rfl (Int.natCast_nonneg _) (backRows_get e1) rfl ?_
        refine R_run hg.ok 1000 rfl rfl ?_
        have hRa := refRight_ok a (by have := (hall a (by simp [hbm.1])).1; omega) (hall a (by simp [hbm.1])).2
        have hRb := refRight_ok b (by have := (hall b (by simp [hbm.2])).1; omega) (hall b (by simp [hbm.2])).2
        cases ra : a.rightB with
        | false =>
          obtain ⟨rfl, rfl, rfl⟩ := hnot (by rw [ra]; rfl)
          rw [ra] at hRa
          refine R_call hg.ok (hRa) rfl rfl rfl rfl rfl rfl ?_
          refine R_run hg.ok 1000 rfl rfl ?_
          repeat
            first
            | (refine R_if rfl rfl (fun _ => ?_) (fun h => absurd h (by first | (simp; done) | (simp; omega))); refine R_run hg.ok 1000 rfl rfl ?_)
            | (refine R_if rfl rfl (fun h => absurd h (by first | (simp; done) | (simp; omega))) (fun _ => ?_); refine R_run hg.ok 1000 rfl rfl ?_)
          exact R_to C ⟨hC, hBC⟩ ⟨.refl _, .refl _, .refl _, .refl _, .refl _, .refl _, .refl _, trivial⟩ rfl
        | true =>
          rw [ra] at hRa
          refine R_call hg.ok (hRa) rfl rfl rfl rfl rfl rfl ?_
          refine R_run hg.ok 1000 rfl rfl ?_
          refine R_if rfl rfl (fun h => absurd h (by simp)) (fun _ => ?_) <;> refine R_run hg.ok 1000 rfl rfl ?_
          refine R_index hg.ok rfl rfl rfl rfl rfl rfl (Int.natCast_nonneg _) (backRows_get e1) rfl ?_
          refine R_run hg.ok 1000 rfl rfl ?_
          cases rb : b.rightB with
          | false =>
            obtain ⟨rfl, rfl, rfl⟩ := hnot (by rw [ra, rb]; rfl)
            rw [rb] at hRb
            refine R_call hg.ok (hRb) rfl rfl rfl rfl rfl rfl ?_
            refine R_run hg.ok 1000 rfl rfl ?_
            repeat
              first
              | (refine R_if rfl rfl (fun _ => ?_) (fun h => absurd h (by first | (simp; done) | (simp; omega))); refine R_run hg.ok 1000 rfl rfl ?_)
              | (refine R_if rfl rfl (fun h => absurd h (by first | (simp; done) | (simp; omega))) (fun _ => ?_); refine R_run hg.ok 1000 rfl rfl ?_)
            exact R_to C ⟨hC, hBC⟩ ⟨.refl _, .refl _, .refl _, .refl _, .refl _, .refl _, .refl _, trivial⟩ rfl
          | true =>
            obtain ⟨rfl, p1, p2⟩ := hyes (by rw [ra, rb]; rfl)
            rw [rb] at hRb
            refine R_call hg.ok (hRb) rfl rfl rfl rfl rfl rfl ?_
            refine R_run hg.ok 1000 rfl rfl ?_
            refine R_if rfl rfl (fun h => absurd h (by simp)) (fun _ => ?_) <;> refine R_run hg.ok 1000 rfl rfl ?_
            refine R_index hg.ok rfl rfl rfl rfl rfl rfl (Int.natCast_nonneg _) (backRows_get e1) rfl ?_
            refine R_run hg.ok 1000 rfl rfl ?_
            refine R_index hg.ok rfl rfl rfl rfl rfl rfl (Int.natCast_nonneg _) (backRows_get e1) rfl ?_
            refine R_run hg.ok 1000 rfl rfl ?_
            obtain ⟨C', ok2, hdoc, hG2, q1, q2⟩ := ref4Unify_ok (by omega) (by decide) (hC.pair ra rb (hall a (by simp [hbm.1])).1 (hall b (by simp [hbm.2])).1 (hmem a (by simp [hbm.1])) (hmem b (by simp [hbm.2])))
            obtain ⟨hok, hsame⟩ := Tm.both_runs hBC hB' hG2 p1 (fun h => (p2 h).2) q1 (fun h => (q2 h).2)
            subst hok
            refine R_call hg.ok (hdoc) rfl rfl rfl rfl rfl rfl ?_
            refine R_run hg.ok 1000 rfl rfl ?_
            cases ok with
            | false =>
              obtain ⟨rfl, _⟩ := p2 rfl
              repeat
                first
                | (refine R_if rfl rfl (fun _ => ?_) (fun h => absurd h (by first | (simp; done) | (simp; omega))); refine R_run hg.ok 1000 rfl rfl ?_)
                | (refine R_if rfl rfl (fun h => absurd h (by first | (simp; done) | (simp; omega))) (fun _ => ?_); refine R_run hg.ok 1000 rfl rfl ?_)
              exact R_to C ⟨hC, hBC⟩ ⟨.refl _, .refl _, .refl _, .refl _, .refl _, .refl _, .refl _, trivial⟩ rfl
            | true =>
              repeat
                first
                | (refine R_if rfl rfl (fun _ => ?_) (fun h => absurd h (by first | (simp; done) | (simp; omega))); refine R_run hg.ok 1000 rfl rfl ?_)
                | (refine R_if rfl rfl (fun h => absurd h (by first | (simp; done) | (simp; omega))) (fun _ => ?_); refine R_run hg.ok 1000 rfl rfl ?_)
              exact R_to C' ⟨hG2, hsame rfl⟩ ⟨.refl _, .refl _, .refl _, .refl _, .refl _, .refl _, .refl _, trivial⟩ rfl
      rintro C' ⟨hC', hBC'⟩
      refine R_run hg.ok 1000 rfl rfl ?_
      refine R_index hg.ok rfl rfl rfl rfl rfl rfl (Int.natCast_nonneg _) (backRows_get e1) rfl ?_
      refine R_run hg.ok 1000 rfl rfl ?_
      cases bk with
      | false =>
        refine R_if rfl rfl (fun h => absurd h (by simp)) (fun _ => ?_) <;> refine R_run hg.ok 1000 rfl rfl ?_
        exact R_next (k + 1, d', B', C', s + 1, ms ++ [(B.length : Int)], ss ++ [[.sl (bindRows C)]]) ⟨hk1, hB', hC', hBC', by simp; omega, by simp; omega⟩ (by simp only; omega) ⟨.refl _, .refl _, .refl _, .refl _, .refl _, .refl _, Ent.wrap (by simp only; omega) (by simp only; omega) (by simp only; omega), trivial⟩ rfl
      | true =>
        obtain ⟨X, rfl⟩ := hX
        have hBl := hB'.blen
        refine R_if rfl rfl (fun _ => ?_) (fun h => absurd h (by simp)) <;> refine R_run hg.ok 1000 rfl rfl ?_
        refine R_lenO hg.ok rfl rfl rfl rfl rfl (n := ((ms.length + 1 : Nat) : Int)) (by rw [irows_length]; simp) ?_
        refine R_run hg.ok 1000 rfl rfl ?_
        refine R_see 16 rfl (Ent.wrap (n := (ms.length : Int)) (by omega) (by omega) (by omega)) ?_
        refine R_see 139 rfl (Ent.wrap (n := (ms.length : Int)) (by omega) (by omega) (by omega)) ?_
        refine R_indexO hg.ok rfl rfl rfl rfl rfl rfl rfl rfl rfl (Int.natCast_nonneg ms.length) (by rw [irows_length]; simp) ?_
        refine R_run hg.ok 1000 rfl rfl ?_
        have hrow : (irows (ms ++ [(B.length : Int)]))[((ms.length : Nat) : Int).toNat]? = some [.v (.int .i64 (B.length : Int))] := by
          rw [Int.toNat_natCast]; exact irows_get (by simp)
        refine R_loadE hg.ok rfl rfl rfl rfl rfl rfl hrow rfl ?_
        refine R_run hg.ok 1000 rfl rfl ?_
        refine R_callSO hg.ok hg.gup ⟨rfl, rfl⟩ (fun _ _ _ _ h => by cases h) [2, 1, 3] (sto4 t (X.length + d' + 1) B (s + 1) (ms ++ [(B.length : Int)]) (ss ++ [[.sl (bindRows C)]])) (unjBack_ok ⟨[], fun _ => true⟩ d' B X hB'.chain.nodup (by omega)) (fun _ => rfl) rfl rfl rfl rfl rfl (by rw [uobd_rn]; rfl) rfl (by rw [uobd_rn]; rfl) ?_
        refine R_run hg.ok 1000 rfl rfl ?_
        refine R_if rfl rfl (fun h => absurd h (by simp)) (fun _ => ?_) <;> refine R_run hg.ok 1000 rfl rfl ?_
        refine R_indexO hg.ok rfl rfl rfl rfl rfl rfl rfl rfl rfl (Int.natCast_nonneg ms.length) (by simp [hss]) ?_
        refine R_run hg.ok 1000 rfl rfl ?_
        have hrow2 : (ss ++ [[.sl (bindRows C)]])[((ms.length : Nat) : Int).toNat]? = some [.sl (bindRows C)] := by
          rw [Int.toNat_natCast, ← hss]; simp
        refine R_loadE hg.ok rfl rfl rfl rfl rfl rfl hrow2 rfl ?_
        refine R_run hg.ok 1000 rfl rfl ?_
        refine R_shrinkO hg.ok (irows ms) rfl rfl rfl rfl rfl rfl rfl rfl rfl rfl (Int.natCast_nonneg ms.length) (by rw [irows_length]; simp; omega) (by rw [Int.toNat_natCast]; simp [irows]) ?_
        refine R_run hg.ok 1000 rfl rfl ?_
        refine R_shrinkO hg.ok ss rfl rfl rfl rfl rfl rfl rfl rfl rfl rfl (Int.natCast_nonneg ms.length) (by simp [hss]; omega) (by rw [Int.toNat_natCast, ← hss]; simp) ?_
        refine R_run hg.ok 1000 rfl rfl ?_
        exact R_next (k + 1, X.length + d' + 1, B, C, s + 2, ms, ss) ⟨hk1, hB, hC, hBC, by simp only; omega, hss⟩ (by simp only; omega) ⟨.refl _, .refl _, .refl _, .refl _, .refl _, .refl _, Ent.wrap (by simp only; omega) (by simp only; omega) (by simp only; omega), trivial⟩ rfl
    · exact R_to (d, B, C, s, ms, ss) ⟨hB, hC, hBC⟩ ⟨.refl _, .refl _, .refl _, trivial⟩ rfl
  rintro ⟨d, B, C, s, ms, ss⟩ ⟨hB, hC, hBC⟩
  simp only at hB hC hBC
  have st := (hall t (by simp)).1
  have nt := (hall t (by simp)).2
  have hCl := hC.blen
  have hRt := refRight_ok t (by omega) nt
  cases rt : t.rightB with
  | false =>
    rw [rt] at hRt
    refine R_run hg.ok 1000 rfl rfl ?_
    refine R_callSO hg.ok hg.gup ⟨rfl, rfl⟩ (fun _ _ _ _ h => by cases h) [2, 1, 3] (sto4 t d B s ms ss) (unjValueNo_ok ⟨[], fun _ => true⟩ d B t rt (by omega) (nt 1)) (fun _ => rfl) rfl rfl rfl rfl rfl (by rw [uobd_rn]; rfl) rfl (by rw [uobd_rn]; rfl) ?_
    refine R_run hg.ok 1000 rfl rfl ?_
    refine R_call hg.ok (hRt) rfl rfl rfl rfl rfl rfl ?_
    refine R_run hg.ok 1000 rfl rfl ?_
    refine R_if rfl rfl (fun _ => ?_) (fun h => absurd h (by simp)) <;> refine R_run hg.ok 1000 rfl rfl ?_
    refine R_call hg.ok (refSame_ok zeroT zeroT (by decide)) rfl rfl rfl rfl rfl rfl ?_
    refine R_run hg.ok 1000 rfl rfl ?_
    rw [Tm.same_refl]
    repeat
      first
      | (refine R_if rfl rfl (fun _ => ?_) (fun h => absurd h (by first | (simp; done) | (simp; omega))); refine R_run hg.ok 1000 rfl rfl ?_)
      | (refine R_if rfl rfl (fun h => absurd h (by first | (simp; done) | (simp; omega))) (fun _ => ?_); refine R_run hg.ok 1000 rfl rfl ?_)
    refine R_callSO hg.ok hg.gup ⟨rfl, rfl⟩ (fun _ _ _ _ h => by cases h) [2, 1, 3] (sto4 t d B s ms ss ++ [boxR zeroT]) (unjBackNo_ok ⟨[], fun _ => true⟩ d B) (fun _ => rfl) rfl rfl rfl rfl rfl (by rw [uobd_rn]; rfl) rfl (by rw [uobd_rn]; rfl) ?_
    refine R_run hg.ok 1000 rfl rfl ?_
    repeat
      first
      | (refine R_if rfl rfl (fun _ => ?_) (fun h => absurd h (by first | (simp; done) | (simp; omega))); refine R_run hg.ok 1000 rfl rfl ?_)
      | (refine R_if rfl rfl (fun h => absurd h (by first | (simp; done) | (simp; omega))) (fun _ => ?_); refine R_run hg.ok 1000 rfl rfl ?_)
    refine R_call hg.ok (knows4j_ok) rfl rfl rfl rfl rfl rfl ?_
    refine R_run hg.ok 1000 rfl rfl ?_
    refine R_ret hg 5 rfl rfl ?_
    rfl
  | true =>
    rw [rt] at hRt
    have hV1 := unjValue_ok ⟨[], fun _ => true⟩ d (S := V) (N := 60) hVl (by decide) B hB t rt nt
    have hA3 := refApply3_ok C C.length hC.sub_ (by omega) t (right_fair rt)
    have ft : Tm.fairRL [t] = true := by simp only [Tm.fairRL, right_fair rt]; rfl
    have hft := Tm.fits_same hB hC hBC ft
    simp only [List.all_cons, List.all_nil, Bool.and_true] at hft
    cases hfit : fitF (fullS B B.length t) with
    | false =>
      rw [app3_no hfit] at hV1
      rw [hfit] at hft
      rw [app3_no hft] at hA3
      refine R_run hg.ok 1000 rfl rfl ?_
      refine R_callSO hg.ok hg.gup ⟨rfl, rfl⟩ (fun _ _ _ _ h => by cases h) [2, 1, 3] (sto4 t d B s ms ss) hV1 (fun _ => rfl) rfl rfl rfl rfl rfl (by rw [uobd_rn]; rfl) rfl (by rw [uobd_rn]; rfl) ?_
      refine R_run hg.ok 1000 rfl rfl ?_
      refine R_call hg.ok (hRt) rfl rfl rfl rfl rfl rfl ?_
      refine R_run hg.ok 1000 rfl rfl ?_
      refine R_if rfl rfl (fun h => absurd h (by simp)) (fun _ => ?_) <;> refine R_run hg.ok 1000 rfl rfl ?_
      refine R_call hg.ok (hA3) rfl rfl rfl rfl rfl rfl ?_
      refine R_run hg.ok 1000 rfl rfl ?_
      refine R_if rfl rfl (fun h => absurd h (by simp)) (fun _ => ?_) <;> refine R_run hg.ok 1000 rfl rfl ?_
      refine R_if rfl rfl (fun _ => ?_) (fun h => absurd h (by simp)) <;> refine R_run hg.ok 1000 rfl rfl ?_
      refine R_call hg.ok (refSame_ok zeroT zeroT (by decide)) rfl rfl rfl rfl rfl rfl ?_
      refine R_run hg.ok 1000 rfl rfl ?_
      rw [Tm.same_refl]
      repeat
        first
        | (refine R_if rfl rfl (fun _ => ?_) (fun h => absurd h (by first | (simp; done) | (simp; omega))); refine R_run hg.ok 1000 rfl rfl ?_)
        | (refine R_if rfl rfl (fun h => absurd h (by first | (simp; done) | (simp; omega))) (fun _ => ?_); refine R_run hg.ok 1000 rfl rfl ?_)
      refine R_call hg.ok (knows4j_ok) rfl rfl rfl rfl rfl rfl ?_
      refine R_run hg.ok 1000 rfl rfl ?_
      refine R_ret hg 5 rfl rfl ?_
      rfl
    | true =>
      rw [app3_yes hfit] at hV1
      rw [hfit] at hft
      rw [app3_yes hft] at hA3
      have hzB := (fitF_iff.1 hfit).1
      have hzC := (fitF_iff.1 hft).1
      have fB : Tm.fairRL [fullS B B.length t] = true := by simp only [Tm.fairRL, hB.sub_.fairF (right_fair rt)]; rfl
      have fC : Tm.fairRL [fullS C C.length t] = true := by simp only [Tm.fairRL, hC.sub_.fairF (right_fair rt)]; rfl
      have hNB := ref4Numbered_ok _ fB (by simp [Tm.sizeL]; omega)
      have hNC := ref4Numbered_ok _ fC (by simp [Tm.sizeL]; omega)
      have hsm := (Tm.same_sols hB hC hBC ft).1
      simp only [List.map_cons, List.map_nil] at hsm
      rw [hsm] at hNC
      have hSN := sameAll_ok (numL [fullS B B.length t]) (numL [fullS B B.length t]) (by unfold numL; rw [Tm.sizeL_turn]; simp [Tm.sizeL]; omega)
      rw [Tm.sameL_refl] at hSN
      rw [Tm.rows_eq] at hNB hNC
      refine R_run hg.ok 1000 rfl rfl ?_
      refine R_callSO hg.ok hg.gup ⟨rfl, rfl⟩ (fun _ _ _ _ h => by cases h) [2, 1, 3] (sto4 t d B s ms ss) hV1 (fun _ => rfl) rfl rfl rfl rfl rfl (by rw [uobd_rn]; rfl) rfl (by rw [uobd_rn]; rfl) ?_
      refine R_run hg.ok 1000 rfl rfl ?_
      refine R_call hg.ok (hRt) rfl rfl rfl rfl rfl rfl ?_
      refine R_run hg.ok 1000 rfl rfl ?_
      refine R_if rfl rfl (fun h => absurd h (by simp)) (fun _ => ?_) <;> refine R_run hg.ok 1000 rfl rfl ?_
      refine R_call hg.ok (hA3) rfl rfl rfl rfl rfl rfl ?_
      refine R_run hg.ok 1000 rfl rfl ?_
      refine R_if rfl rfl (fun h => absurd h (by simp)) (fun _ => ?_) <;> refine R_run hg.ok 1000 rfl rfl ?_
      refine R_if rfl rfl (fun h => absurd h (by simp)) (fun _ => ?_) <;> refine R_run hg.ok 1000 rfl rfl ?_
      refine R_call hg.ok (hNB) rfl rfl rfl rfl rfl rfl ?_
      refine R_run hg.ok 1000 rfl rfl ?_
      refine R_call hg.ok (hNC) rfl rfl rfl rfl rfl rfl ?_
      refine R_run hg.ok 1000 rfl rfl ?_
      refine R_call hg.ok (hSN) rfl rfl rfl rfl rfl rfl ?_
      refine R_run hg.ok 1000 rfl rfl ?_
      repeat
        first
        | (refine R_if rfl rfl (fun _ => ?_) (fun h => absurd h (by first | (simp; done) | (simp; omega))); refine R_run hg.ok 1000 rfl rfl ?_)
        | (refine R_if rfl rfl (fun h => absurd h (by first | (simp; done) | (simp; omega))) (fun _ => ?_); refine R_run hg.ok 1000 rfl rfl ?_)
      refine R_call hg.ok (knows4j_ok) rfl rfl rfl rfl rfl rfl ?_
      refine R_run hg.ok 1000 rfl rfl ?_
      refine R_ret hg 5 rfl rfl ?_
      rfl
end Go.Proofs.Ytppghekipbnjhaa
