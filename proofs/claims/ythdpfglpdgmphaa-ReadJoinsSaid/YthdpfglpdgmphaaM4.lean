import Derived.Test.YthdpfglpdgmphaaM3
namespace PSL
open Go
theorem tm_pos (t : Tm) : 1 ≤ t.size := by cases t; simp only [Tm.size]; omega
section
variable {ex : Bool} {m k δ : Nat} {d : Int} {S1 S2 : Bs} {L1 L2 : List Tk} {T1 T2 : TF} {a b : RSt} (H : Sim ex m k δ d S1 L1 S2 L2)
include H

theorem many_sim (hT : SimT ex m k δ d T1 T2) (hS : TStick T1) (hM : TMono T1) : ∀ (f1 f2 deep : Nat) (a b : RSt) (acc l : List Tm) (a' : RSt), f1 ≤ f2 → manyR L1 T1 f1 deep a acc = some (l, a') → Fini ex m a' → StR k d a b → (δ = 0 ∨ deep ≤ a.at_) → ∃ b', manyR L2 T2 f2 (deep + δ) b acc = some (l, b') ∧ StR k d a' b'
  | 0, _, _, _, _, _, _, _, _, h, _, _, _ => by cases h
  | f1 + 1, f2, deep, a, b, acc, l, a', hf, h, hF, r, hd => by
    obtain ⟨f2, rfl⟩ : ∃ g, f2 = g + 1 := ⟨f2 - 1, by omega⟩
    have hFa := Fini.of_many hM h hF
    simp only [manyR] at h ⊢
    rw [mk_rel H r hFa (by decide)]
    split at h
    · rename_i hm
      rw [if_pos hm]
      obtain ⟨⟨x, s⟩, hx, h⟩ := Option.bind_eq_some_iff.1 h
      obtain ⟨s', hs, r'⟩ := hT _ _ _ _ _ _ hx (Fini.of_many hM h hF) r.nx (hd.imp_right fun h => Nat.le_succ_of_le h)
      have h1 := hM _ _ _ _ _ hx
      rw [nx_at] at h1
      obtain ⟨b', hb, r''⟩ := many_sim hT hS hM f1 f2 deep s s' _ _ _ (by omega) h hF r' (hd.imp_right fun h => by omega)
      exact ⟨b', by rw [hs]; exact hb, r''⟩
    · rename_i hm
      rw [if_neg hm]
      cases h
      exact ⟨b, rfl, r⟩

theorem row_sim (hT : SimT ex m k δ d T1 T2) (hS : TStick T1) (hM : TMono T1) {deep : Nat} {l : List Tm} {a' : RSt} (h : rowR L1 T1 deep a = some (l, a')) (hF : Fini ex m a') (r : StR k d a b) (hd : δ = 0 ∨ deep ≤ a.at_) : ∃ b', rowR L2 T2 (deep + δ) b = some (l, b') ∧ StR k d a' b' := by
  obtain ⟨⟨x, s⟩, hx, h⟩ := Option.bind_eq_some_iff.1 h
  obtain ⟨s', hs, r'⟩ := hT _ _ _ _ _ _ hx (Fini.of_many hM h hF) r hd
  have h1 := hM _ _ _ _ _ hx
  obtain ⟨b', hb, r''⟩ := many_sim H hT hS hM _ (L2.length + 2) deep s s' _ _ _ (by have := H.len; omega) h hF r' (hd.imp_right fun h => by omega)
  exact ⟨b', by unfold rowR; rw [hs]; exact hb, r''⟩

theorem min_rel (r : StR k d a b) (h : Fini ex m (nxR a)) (hk : (peekR L1 a).kind = 1) : minR S2 (peekR L2 b) (peekR L2 (nxR b)) = minR S1 (peekR L1 a) (peekR L1 (nxR a)) := by
  have hl := peek_lt (L := L1) (st := a) (by rw [hk]; decide)
  obtain ⟨h1, h2, h3, h4, h5⟩ := tok_rel H r h.of_nx (by rw [hk]; decide) (by rw [hk]; decide)
  have hp : L1[a.at_]? = some (peekR L1 a) := by
    unfold peekR; rw [if_neg (by simp [hl.1]), List.getElem?_eq_getElem hl.2]; rfl
  have hb := H.byte _ _ hp (h.of_nx.imp_right fun h => h.2) hk
  unfold minR
  rw [h2, h5, hb]
  rcases peek_rel H r.nx h with ⟨g1, _, _, _, g5⟩ | ⟨_, g1, g2, _⟩
  · rw [g1]
    by_cases h3k : (peekR L1 (nxR a)).kind = 3
    · rw [g5 (by rw [h3k]; decide)]
      congr 1
      exact decide_eq_decide.2 ⟨fun h => by omega, fun h => by omega⟩
    · simp [h3k]
  · simp [g1, g2]

theorem named_sim (hT : SimT ex m k δ d T1 T2) (hS : TStick T1) (hM : TMono T1) (hZ : TSz T1) {deep : Nat} {p : Int} {x : Tm × Int × RSt} (h : namedR S1 L1 T1 deep p (peekR L1 a) a = some x) (hF : Fini ex m x.2.2) (hk : (peekR L1 a).kind = 1) (r : StR k d a b) (hd : δ = 0 ∨ deep ≤ a.at_ + 1) : ∃ b', namedR S2 L2 T2 (deep + δ) p (peekR L2 b) b = some (x.1, x.2.1, b') ∧ StR k d x.2.2 b' := by
  have hFn : Fini ex m (nxR a) := hF.imp_right fun hf => by
    have := named_sz hZ h hf.1
    have hs := tm_pos x.1
    have hm := hf.2
    exact ⟨this.1, by rw [nx_at]; omega⟩
  obtain ⟨h1, h2, h3, h4, h5⟩ := tok_rel H r hFn.of_nx (by rw [hk]; decide) (by rw [hk]; decide)
  unfold namedR at h ⊢
  rw [min_rel H r hFn hk, h2, h4, begR_rel H r.nx hFn]
  split at h
  · rename_i hm
    rw [if_pos hm]
    cases h
    have hm' := hm
    simp only [minR, Bool.and_eq_true, decide_eq_true_eq] at hm'
    obtain ⟨_, _, g3, _⟩ := tok_rel H r.nx hFn (by rw [hm'.1.2]; decide) (by rw [hm'.1.2]; decide)
    exact ⟨_, by rw [g3], r.nx.nx⟩
  rename_i hm
  rw [if_neg hm]
  split at h
  · rename_i ho
    rw [if_pos ho]
    obtain ⟨⟨l, s⟩, hy, rfl⟩ := Option.map_eq_some_iff.1 h
    have hFs := Fini.of_must hF
    obtain ⟨s', hs, r'⟩ := row_sim H hT hS hM hy hFs (must_rel H r.nx (Fini.of_row hS hM hy hFs)) (hd.imp_right fun h => by have := must_at (L := L1) (st := nxR a) (n := S1.length) (s := [40]); rw [nx_at] at this; omega)
    exact ⟨_, by rw [hs]; rfl, must_rel H r' hF⟩
  rename_i ho
  rw [if_neg ho]
  split at h
  · rename_i hp
    rw [if_pos hp]
    split at h
    · rename_i hb
      rw [if_pos hb]
      split at h
      · rename_i hq
        rw [if_pos hq]
        cases h
        obtain ⟨y, hy⟩ := begS_eq L1 (nxR a)
        obtain ⟨z, hz⟩ := begS_eq L2 (nxR b)
        rw [hy] at hF ⊢
        rw [hz]
        exact ⟨_, rfl, fail_rel H (StR.mk r.at_ r.names r.e r.bad : StR k d { (nxR a) with at_ := a.at_, lay := y } { (nxR b) with at_ := b.at_, lay := z }) (by decide) hF⟩
      · rename_i hq
        rw [if_neg hq]
        obtain ⟨⟨t, s⟩, hy, rfl⟩ := Option.map_eq_some_iff.1 h
        obtain ⟨s', hs, r'⟩ := hT _ _ _ _ _ _ hy hF r.nx.beg (hd.imp_right fun h => by rw [begS_at, nx_at]; exact h)
        exact ⟨_, by rw [hs]; rfl, r'⟩
    · rename_i hb
      rw [if_neg hb]
      cases h
      exact ⟨_, rfl, r.nx.beg⟩
  · rename_i hp
    rw [if_neg hp]
    cases h
    exact ⟨_, rfl, r.nx⟩

theorem list_sim (hT : SimT ex m k δ d T1 T2) (hS : TStick T1) (hM : TMono T1) {deep : Nat} {x : Tm × RSt} (h : listR S1 L1 T1 deep a = some x) (hF : Fini ex m x.2) (r : StR k d a b) (hd : δ = 0 ∨ deep ≤ a.at_) : ∃ b', listR S2 L2 T2 (deep + δ) b = some (x.1, b') ∧ StR k d x.2 b' := by
  obtain ⟨⟨l, s⟩, hy, h⟩ := Option.bind_eq_some_iff.1 h
  have hml := row_mono hM hy
  have hFs : Fini ex m s := by
    simp only at h
    split at h
    · obtain ⟨⟨t, u⟩, hz, rfl⟩ := Option.map_eq_some_iff.1 h
      exact (Fini.of_T hS hM hz (Fini.of_must hF)).of_nx
    · cases h; exact Fini.of_must hF
  obtain ⟨s', hs, r'⟩ := row_sim H hT hS hM hy hFs r hd
  simp only at h
  unfold listR
  rw [hs]
  simp only [Option.bind_some]
  rw [mk_rel H r' hFs (by decide)]
  split at h
  · rename_i hm
    rw [if_pos hm]
    obtain ⟨⟨t, u⟩, hz, rfl⟩ := Option.map_eq_some_iff.1 h
    obtain ⟨u', hu, r''⟩ := hT _ _ _ _ _ _ hz (Fini.of_must hF) r'.nx (hd.imp_right fun h => by rw [nx_at]; omega)
    exact ⟨_, by rw [hu]; rfl, must_rel H r'' hF⟩
  · rename_i hm
    rw [if_neg hm]
    cases h
    exact ⟨_, rfl, must_rel H r' hF⟩

theorem opnd_sim (hT : SimT ex m k δ d T1 T2) (hS : TStick T1) (hM : TMono T1) (hZ : TSz T1) {sw : Bool} {deep : Nat} {p : Int} {x : Tm × Int × RSt} (h : opndR sw S1 L1 T1 deep p a = some x) (hF : Fini ex m x.2.2) (r : StR k d a b) (hd : δ = 0 ∨ deep ≤ a.at_) : ∃ b', opndR sw S2 L2 T2 (deep + δ) p b = some (x.1, x.2.1, b') ∧ StR k d x.2.2 b' := by
  have hFa : Fini ex m a := hF.imp_right fun hf => by
    have := opnd_sz hZ h hf.1
    have hm := hf.2
    exact ⟨this.1, by omega⟩
  have hdd : δ + 1 ≤ 1 ∨ (ex = false ∧ deep + δ < 1000) := by
    rcases H.deep with h | ⟨h1, h2⟩
    · exact .inl (by omega)
    · rcases hd with h | h
      · exact .inl (by omega)
      · rcases hFa with h3 | h3
        · rw [h1] at h3; cases h3
        · exact .inr ⟨h1, by omega⟩
  unfold opndR at h ⊢
  split at h
  · rename_i hc
    cases h
    have hx := Fini.no (by decide) hF
    have hδ : δ = 0 := by rcases hdd with h | ⟨h, _⟩; omega; rw [hx] at h; cases h
    rw [if_pos (by omega)]
    exact ⟨_, rfl, fail_rel H r (by decide) hF⟩
  rename_i hc
  rw [if_neg (by rcases hdd with h | ⟨_, h⟩ <;> omega)]
  have k3 := kind_rel H r hFa (c := 3) (by decide)
  have k2 := kind_rel H r hFa (c := 2) (by decide)
  have k1 := kind_rel H r hFa (c := 1) (by decide)
  split at h
  · rename_i hk
    rw [if_pos (k3.2 hk)]
    cases h
    obtain ⟨_, _, g3, _⟩ := tok_rel H r hFa (by rw [hk]; decide) (by rw [hk]; decide)
    exact ⟨_, by rw [g3], r.nx⟩
  rename_i hk
  rw [if_neg (fun h => hk (k3.1 h))]
  clear hk
  split at h
  · rename_i hk
    rw [if_pos (k2.2 hk)]
    cases h
    obtain ⟨_, g2, _⟩ := tok_rel H r hFa (by rw [hk]; decide) (by rw [hk]; decide)
    rw [g2]
    obtain ⟨v1, v2⟩ := r.nx.var (peekR L1 a).text
    exact ⟨_, by rw [v1], v2⟩
  rename_i hk
  rw [if_neg (fun h => hk (k2.1 h))]
  clear hk
  split at h
  · rename_i hk
    rw [if_pos (k1.2 hk)]
    obtain ⟨y, hy, hxy⟩ := Option.map_eq_some_iff.1 h
    have he : y.2.2 = x.2.2 := by rw [← hxy]; split <;> rfl
    obtain ⟨b', hb, r'⟩ := named_sim H hT hS hM hZ hy (by rw [he]; exact hF) hk r (hd.imp_right fun h => by omega)
    rw [Nat.add_right_comm] at hb
    rw [hb]
    refine ⟨b', ?_, by rw [← he]; exact r'⟩
    simp only [Option.map_some]
    rw [← hxy, r'.e]
    split <;> rfl
  rename_i hk
  rw [if_neg (fun h => hk (k1.1 h)), mk_rel H r hFa (by decide), mk_rel H r hFa (by decide)]
  split at h
  · rename_i hm
    rw [if_pos hm]
    obtain ⟨⟨t, s⟩, hy, rfl⟩ := Option.map_eq_some_iff.1 h
    obtain ⟨s', hs, r'⟩ := hT _ _ _ _ _ _ hy (Fini.of_must hF) r.nx (hd.imp_right fun h => by rw [nx_at]; omega)
    rw [Nat.add_right_comm] at hs
    exact ⟨_, by rw [hs]; rfl, must_rel H r' hF⟩
  rename_i hm
  rw [if_neg hm]
  split at h
  · rename_i hm
    rw [if_pos hm]
    obtain ⟨⟨t, s⟩, hy, rfl⟩ := Option.map_eq_some_iff.1 h
    obtain ⟨s', hs, r'⟩ := list_sim H hT hS hM hy hF r.nx (hd.imp_right fun h => by rw [nx_at]; omega)
    rw [Nat.add_right_comm] at hs
    exact ⟨_, by rw [hs]; rfl, r'⟩
  · rename_i hm
    rw [if_neg hm]
    cases h
    exact ⟨_, rfl, fail_rel H r (by decide) hF⟩

theorem rest_sim (hT : SimT ex m k δ d T1 T2) (hS : TStick T1) (hM : TMono T1) (hZ : TSz T1) : ∀ (f1 f2 deep : Nat) (p : Int) (out : Tm) (now : Int) (a b : RSt) (t : Tm) (a' : RSt), f1 ≤ f2 → restR L1 T1 f1 deep p out now a = some (t, a') → Fini ex m a' → StR k d a b → (δ = 0 ∨ deep ≤ a.at_) → ∃ b', restR L2 T2 f2 (deep + δ) p out now b = some (t, b') ∧ StR k d a' b'
  | 0, _, _, _, _, _, _, _, _, _, _, h, _, _, _ => by cases h
  | f1 + 1, f2, deep, p, out, now, a, b, t, a', hf, h, hF, r, hd => by
    obtain ⟨f2, rfl⟩ : ∃ g, f2 = g + 1 := ⟨f2 - 1, by omega⟩
    have hmo := rest_mono hM _ _ _ _ _ _ _ _ h
    have hFa : Fini ex m a := hF.imp_right fun hf => ⟨(rest_sz hZ _ _ _ _ _ _ _ _ h hf.1).1, Nat.le_trans hmo hf.2⟩
    simp only [restR] at h ⊢
    rw [r.e, inT_rel H r hFa]
    split at h
    · rename_i he
      rw [if_pos he]
      cases h
      exact ⟨_, rfl, r⟩
    rename_i he
    rw [if_neg he]
    split at h
    · cases h
      exact ⟨_, rfl, r.ins⟩
    · rename_i q lf rt hin
      split at h
      · rename_i hc
        rw [if_pos hc]
        cases h
        exact ⟨_, rfl, r.ins⟩
      · rename_i hc
        rw [if_neg hc]
        obtain ⟨⟨x, s⟩, hx, h⟩ := Option.bind_eq_some_iff.1 h
        have h0 : (peekR L1 a).kind ≠ 5 ∧ (peekR L1 a).kind ≠ 0 := by
          unfold inT at hin
          split at hin
          · cases hin
          · rename_i hcc
            refine ⟨fun h => hcc ?_, fun h => hcc ?_⟩
            · rw [h]; exact ⟨by decide, .inl (by decide)⟩
            · rw [h]; exact ⟨by decide, .inl (by decide)⟩
        have hFs : Fini ex m s := hF.imp_right fun hf => ⟨(rest_sz hZ _ _ _ _ _ _ _ _ h hf.1).1, Nat.le_trans (rest_mono hM _ _ _ _ _ _ _ _ h) hf.2⟩
        have h1 := hM _ _ _ _ _ hx
        rw [nx_at, inS_at] at h1
        obtain ⟨s', hs, r'⟩ := hT _ _ _ _ _ _ hx hFs r.ins.nx (hd.imp_right fun h => by rw [nx_at, inS_at]; omega)
        obtain ⟨b', hb, r''⟩ := rest_sim hT hS hM hZ f1 f2 deep p _ _ s s' _ _ (by omega) h hF r' (hd.imp_right fun h => by omega)
        rw [hs, (tok_rel H r hFa h0.1 h0.2).2.1]
        exact ⟨b', hb, r''⟩

theorem term_sim (sw : Bool) : ∀ n1 n2, n1 ≤ n2 → SimT ex m k δ d (termR sw S1 L1 n1) (termR sw S2 L2 n2)
  | 0, _, _ => fun _ _ _ _ _ _ h => by cases h
  | n1 + 1, n2, hn => fun deep p a b t a' h hF r hd => by
    obtain ⟨n2, rfl⟩ : ∃ g, n2 = g + 1 := ⟨n2 - 1, by omega⟩
    have ih := term_sim sw n1 n2 (by omega)
    have hS := term_stick sw S1 L1 n1
    have hM := term_mono sw S1 L1 n1
    have hZ := term_sz sw S1 L1 n1
    simp only [termR] at h ⊢
    obtain ⟨⟨x, q, s⟩, hx, h⟩ := Option.bind_eq_some_iff.1 h
    have hFs : Fini ex m s := hF.imp_right fun hf => ⟨(rest_sz hZ _ _ _ _ _ _ _ _ h hf.1).1, Nat.le_trans (rest_mono hM _ _ _ _ _ _ _ _ h) hf.2⟩
    obtain ⟨s', hs, r'⟩ := opnd_sim H ih hS hM hZ hx hFs r hd
    have h1 := opnd_mono hM hx
    obtain ⟨b', hb, r''⟩ := rest_sim H ih hS hM hZ _ (L2.length + 2) deep p _ _ s s' _ _ (by have := H.len; omega) h hF r' (hd.imp_right fun h => by simp only at h1; omega)
    rw [hs]
    exact ⟨b', hb, r''⟩
end
end PSL

namespace PSL
open Go

/-- What is made of a term that was read, ahead of the next clause. -/
def endR (right : Tm → Bool) (L : List Tk) (n : Nat) (from_ : Nat) (x : Tm) (s : RSt) : RSt :=
  let st2 := if (peekR L s).kind ≠ 5 then failR L n s 2 else s
  if st2.e = 0 ∧ right x = false then { st2 with e := 3, bad := plcR L n from_ } else st2
theorem cls_step (right : Tm → Bool) (L : List Tk) (n : Nat) (T : TF) (f : Nat) (st : RSt) (out : List Clau) : clsR right L n T (f + 1) st out = if st.at_ < L.length then (T 0 1200 { st with names := [] }).bind fun x => if (endR right L n st.at_ x.1 x.2).e ≠ 0 then some ([], (endR right L n st.at_ x.1 x.2).bad, (endR right L n st.at_ x.1 x.2).e) else clsR right L n T f (nxR (endR right L n st.at_ x.1 x.2)) (out ++ [(x.1, (endR right L n st.at_ x.1 x.2).names)]) else some (out, 0, 0) := rfl

theorem end_ok {right : Tm → Bool} {L : List Tk} {n : Nat} {i : Nat} {x : Tm} {s : RSt} (h : (endR right L n i x s).e = 0) : s.e = 0 ∧ (peekR L s).kind = 5 ∧ s.at_ < L.length ∧ right x = true ∧ endR right L n i x s = s := by
  unfold endR at h ⊢
  by_cases hk : (peekR L s).kind ≠ 5
  · simp only [if_pos hk] at h
    split at h
    · cases h
    · exact absurd h (flN (by decide))
  · simp only [if_neg hk] at h ⊢
    have hk := Decidable.not_not.1 hk
    have hl := peek_lt (L := L) (st := s) (by rw [hk]; decide)
    split at h
    · cases h
    · rename_i hr
      rw [if_neg hr]
      refine ⟨hl.1, hk, hl.2, ?_, rfl⟩
      cases hx : right x with
      | true => rfl
      | false => exact absurd ⟨hl.1, hx⟩ hr

theorem cls_simX {m k : Nat} {d : Int} {S1 S2 : Bs} {L1 L2 : List Tk} {T1 T2 : TF} (right : Tm → Bool) (H : Sim true m k 0 d S1 L1 S2 L2) (hT : SimT true m k 0 d T1 T2) (hlen : L2.length = L1.length + k) (pre : List Clau) : ∀ (f f' : Nat) (a b : RSt) (out c : List Clau) (q e : Int), f ≤ f' → StR k d a b → a.e = 0 → clsR right L1 S1.length T1 f a out = some (c, q, e) → clsR right L2 S2.length T2 f' b (pre ++ out) = some (if e ≠ 0 then ([], q + d, e) else (pre ++ c, 0, 0))
  | 0, _, _, _, _, _, _, _, _, _, _, h => by cases h
  | f + 1, f', a, b, out, c, q, e, hf, r, ha, h => by
    obtain ⟨f', rfl⟩ : ∃ g, f' = g + 1 := ⟨f' - 1, by omega⟩
    rw [cls_step] at h ⊢
    by_cases hl : a.at_ < L1.length
    · rw [if_pos hl] at h
      rw [if_pos (by rw [r.at_, hlen]; omega)]
      obtain ⟨⟨x, s⟩, hx, h⟩ := Option.bind_eq_some_iff.1 h
      obtain ⟨s', hs, r'⟩ := hT _ _ _ _ _ _ hx (.inl rfl) (StR.mk r.at_ rfl r.e r.bad : StR k d { a with names := [] } { b with names := [] }) (.inl rfl)
      rw [Nat.add_zero] at hs
      rw [hs]
      simp only [Option.bind_some]
      have re : StR k d (endR right L1 S1.length a.at_ x s) (endR right L2 S2.length b.at_ x s') := by
        have hk : (peekR L2 s').kind = (peekR L1 s).kind := by
          rcases peek_rel H r' (.inl rfl) with ⟨h1, _⟩ | ⟨h1, _⟩
          · exact h1
          · cases h1
        have r2 : StR k d (if (peekR L1 s).kind ≠ 5 then failR L1 S1.length s 2 else s) (if (peekR L2 s').kind ≠ 5 then failR L2 S2.length s' 2 else s') := by
          rw [hk]
          split
          · exact fail_rel H r' (by decide) (.inl rfl)
          · exact r'
        unfold endR
        simp only
        generalize (if (peekR L1 s).kind ≠ 5 then failR L1 S1.length s 2 else s) = u at r2
        generalize (if (peekR L2 s').kind ≠ 5 then failR L2 S2.length s' 2 else s') = v at r2
        rw [r2.e]
        split
        · exact ⟨r2.at_, r2.names, rfl, fun _ => by simp only; rw [r.at_]; exact H.plc rfl _⟩
        · exact r2
      simp only at h
      rw [re.e]
      generalize endR right L1 S1.length a.at_ x s = u at h re
      generalize endR right L2 S2.length b.at_ x s' = v at re
      by_cases he : u.e ≠ 0
      · rw [if_pos he] at h
        cases h
        rw [if_pos he, if_pos he, re.bad he]
      · rw [if_neg he] at h
        rw [if_neg he, List.append_assoc, re.names]
        exact cls_simX right H hT hlen pre f f' _ _ _ _ _ _ (by omega) re.nx (by simpa [nxR] using he) h
    · rw [if_neg hl] at h
      rw [if_neg (by rw [r.at_, hlen]; omega)]
      cases h
      rfl

/-- The clauses that were read of the first tokens are read so, whatever stands behind. -/
theorem cls_simP {m : Nat} {S1 S2 : Bs} {L1 L2 : List Tk} {T1 T2 : TF} (right : Tm → Bool) (H : Sim false m 0 0 0 S1 L1 S2 L2) (hT : SimT false m 0 0 0 T1 T2) (hM : TMono T1) (hm : L1.length ≤ m + 1) (hL : ∀ (i : Nat) (t : Tk), L1[i]? = some t → L2[i]? = some t) : ∀ (f f' : Nat) (a b : RSt) (out c : List Clau) (q : Int), f ≤ f' → StR 0 0 a b → a.e = 0 → a.at_ ≤ L1.length → clsR right L1 S1.length T1 f a out = some (c, q, 0) →
    ∃ g b', clsR right L2 S2.length T2 f' b out = clsR right L2 S2.length T2 g b' c ∧ b'.at_ = L1.length ∧ b'.e = 0 ∧ f' + a.at_ ≤ g + L1.length
  | 0, _, _, _, _, _, _, _, _, _, _, h => by cases h
  | f + 1, f', a, b, out, c, q, hf, r, ha, hat, h => by
    obtain ⟨f', rfl⟩ : ∃ g, f' = g + 1 := ⟨f' - 1, by omega⟩
    rw [cls_step] at h
    by_cases hl : a.at_ < L1.length
    · rw [if_pos hl] at h
      obtain ⟨⟨x, s⟩, hx, h⟩ := Option.bind_eq_some_iff.1 h
      simp only at h
      have hmo := hM _ _ _ _ _ hx
      simp only at hmo
      by_cases he : (endR right L1 S1.length a.at_ x s).e ≠ 0
      · rw [if_pos he] at h
        simp only [Option.some.injEq, Prod.mk.injEq] at h
        exact absurd h.2.2 he
      rw [if_neg he] at h
      obtain ⟨e1, e2, e3, e4, e5⟩ := end_ok (Decidable.not_not.1 he)
      rw [e5] at h
      obtain ⟨s', hs, r'⟩ := hT _ _ _ _ _ _ hx (.inr ⟨e1, by omega⟩) (StR.mk r.at_ rfl r.e r.bad : StR 0 0 { a with names := [] } { b with names := [] }) (.inl rfl)
      obtain ⟨g, b', h1, h2, h3, h4⟩ := cls_simP right H hT hM hm hL f f' (nxR s) (nxR s') _ _ _ (by omega) r'.nx e1 (by rw [nx_at]; omega) h
      rw [nx_at] at h4
      refine ⟨g, b', ?_, h2, h3, by omega⟩
      rw [cls_step, if_pos (by have := H.len; rw [r.at_]; omega), hs]
      simp only [Option.bind_some]
      have hp : peekR L2 s' = peekR L1 s := by
        unfold peekR
        rw [r'.e, if_neg (by simp [e1]), if_neg (by simp [e1]), r'.at_, Nat.add_zero, List.getElem?_eq_getElem e3, hL _ _ (List.getElem?_eq_getElem e3)]
      have h5 : endR right L2 S2.length b.at_ x s' = s' := by
        unfold endR
        rw [hp, e2]
        simp [r'.e, e1, e4]
      rw [h5, if_neg (by rw [r'.e]; simp [e1]), r'.names]
      exact h1
    · rw [if_neg hl] at h
      cases h
      exact ⟨f' + 1, b, rfl, by rw [r.at_]; omega, by rw [r.e]; exact ha, by omega⟩

theorem cls_facts {right : Tm → Bool} {L : List Tk} {n : Nat} {T : TF} {P : Clau → Prop} (hP : ∀ st t s, RInv L st → st.names = [] → T 0 1200 st = some (t, s) → s.e = 0 → right t = true → P (t, s.names)) (hG : TGood L T) (hpl : ∀ t ∈ L, 0 ≤ t.at_ ∧ t.at_ ≤ n) (hB : ∀ st t s, T 0 1200 st = some (t, s) → 0 ≤ st.bad ∧ st.bad ≤ n → 0 ≤ s.bad ∧ s.bad ≤ n) : ∀ (f : Nat) (st : RSt) (out c : List Clau) (q e : Int), st.at_ ≤ L.length → 0 ≤ st.bad ∧ st.bad ≤ n → clsR right L n T f st out = some (c, q, e) → (e ≠ 0 → c = []) ∧ (e = 0 → q = 0 ∧ ∃ l, c = out ++ l ∧ (∀ x ∈ l, P x) ∧ (st.at_ < L.length → l ≠ [])) ∧ 0 ≤ q ∧ q ≤ n
  | 0, _, _, _, _, _, _, _, h => by cases h
  | f + 1, st, out, c, q, e, hat, hbad, h => by
    rw [cls_step] at h
    by_cases hl : st.at_ < L.length
    · rw [if_pos hl] at h
      obtain ⟨⟨x, s⟩, hx, h⟩ := Option.bind_eq_some_iff.1 h
      simp only at h
      have hpc : ∀ i, 0 ≤ plcR L n i ∧ plcR L n i ≤ n := by
        intro i; unfold plcR
        split
        · rename_i t ht; exact hpl t (List.mem_of_getElem? ht)
        · exact ⟨Int.natCast_nonneg _, Int.le_refl _⟩
      have hbs := hB _ _ _ hx hbad
      by_cases he : (endR right L n st.at_ x s).e ≠ 0
      · rw [if_pos he] at h
        have hb : 0 ≤ (endR right L n st.at_ x s).bad ∧ (endR right L n st.at_ x s).bad ≤ n := by
          have h2 : 0 ≤ (if (peekR L s).kind ≠ 5 then failR L n s 2 else s).bad ∧ (if (peekR L s).kind ≠ 5 then failR L n s 2 else s).bad ≤ n := by
            split
            · unfold failR; split
              · exact hpc _
              · exact hbs
            · exact hbs
          unfold endR
          simp only
          generalize (if (peekR L s).kind ≠ 5 then failR L n s 2 else s) = u at h2
          split
          · exact hpc _
          · exact h2
        cases h
        exact ⟨fun _ => rfl, fun h => absurd h he, hb⟩
      · rw [if_neg he] at h
        obtain ⟨e1, e2, e3, e4, e5⟩ := end_ok (Decidable.not_not.1 he)
        rw [e5] at h
        obtain ⟨h1, h2, h3⟩ := cls_facts hP hG hpl hB f (nxR s) _ _ _ _ (by rw [nx_at]; omega) hbs h
        refine ⟨h1, fun he => ?_, h3⟩
        obtain ⟨g1, l, g2, g3, _⟩ := h2 he
        exact ⟨g1, (x, s.names) :: l, by rw [g2, List.append_assoc]; rfl, fun y hy => by
          rcases List.mem_cons.1 hy with rfl | hy
          · exact hP _ _ _ (⟨Nat.zero_le _, hat⟩ : RInv L { st with names := [] }) rfl hx e1 e4
          · exact g3 y hy, fun _ => by simp⟩
    · rw [if_neg hl] at h
      cases h
      exact ⟨fun h => absurd rfl h, fun _ => ⟨rfl, [], by simp, by simp, fun h => absurd h hl⟩, Int.le_refl _, Int.natCast_nonneg _⟩
end PSL

namespace PSL
open Go
def TBd (B : Int → Prop) (T : TF) : Prop := ∀ deep p st t st', T deep p st = some (t, st') → B st.bad → B st'.bad
section
variable {B : Int → Prop} {S : Bs} {L : List Tk} {T : TF} {st : RSt}

theorem fail_bd (hB : ∀ i, B (plcR L S.length i)) {c : Int} (h : B st.bad) : B (failR L S.length st c).bad := by
  unfold failR; split
  · exact hB _
  · exact h

theorem must_bd (hB : ∀ i, B (plcR L S.length i)) {s : Bs} (h : B st.bad) : B (mustR L S.length st s).bad := by
  unfold mustR; split
  · exact h
  · exact fail_bd hB h
theorem beg_bd : (begS L st).bad = st.bad := by unfold begS; split <;> rfl
theorem ins_bd : (inS L st).bad = st.bad := by unfold inS; split <;> rfl

theorem many_bd (hT : TBd B T) : ∀ (f deep : Nat) (st : RSt) (acc : List Tm) (l : List Tm) (st' : RSt), manyR L T f deep st acc = some (l, st') → B st.bad → B st'.bad
  | 0, _, _, _, _, _, h, _ => by cases h
  | f + 1, deep, st, acc, l, st', h, hb => by
    simp only [manyR] at h
    split at h
    · obtain ⟨x, hx, h⟩ := Option.bind_eq_some_iff.1 h
      exact many_bd hT f deep _ _ _ _ h (hT _ _ _ _ _ hx hb)
    · cases h; exact hb

theorem row_bd (hT : TBd B T) {deep : Nat} {l : List Tm} {st' : RSt} (h : rowR L T deep st = some (l, st')) (hb : B st.bad) : B st'.bad := by
  obtain ⟨x, hx, h⟩ := Option.bind_eq_some_iff.1 h
  exact many_bd hT _ _ _ _ _ _ h (hT _ _ _ _ _ hx hb)

theorem named_bd (hB : ∀ i, B (plcR L S.length i)) (hT : TBd B T) {deep : Nat} {p : Int} {t : Tk} {x : Tm × Int × RSt} (h : namedR S L T deep p t st = some x) (hb : B st.bad) : B x.2.2.bad := by
  unfold namedR at h
  split at h
  · cases h; exact hb
  split at h
  · obtain ⟨y, hy, rfl⟩ := Option.map_eq_some_iff.1 h
    exact must_bd hB (row_bd hT hy (must_bd hB hb))
  split at h
  · split at h
    · split at h
      · cases h
        exact fail_bd hB (by simp only; rw [beg_bd]; exact hb)
      · obtain ⟨y, hy, rfl⟩ := Option.map_eq_some_iff.1 h
        exact hT _ _ _ _ _ hy (by rw [beg_bd]; exact hb)
    · cases h; simp only; rw [beg_bd]; exact hb
  · cases h; exact hb

theorem list_bd (hB : ∀ i, B (plcR L S.length i)) (hT : TBd B T) {deep : Nat} {x : Tm × RSt} (h : listR S L T deep st = some x) (hb : B st.bad) : B x.2.bad := by
  obtain ⟨y, hy, h⟩ := Option.bind_eq_some_iff.1 h
  have h1 := row_bd hT hy hb
  split at h
  · obtain ⟨z, hz, rfl⟩ := Option.map_eq_some_iff.1 h
    exact must_bd hB (hT _ _ _ _ _ hz h1)
  · cases h; exact must_bd hB h1

theorem opnd_bd (hB : ∀ i, B (plcR L S.length i)) (hT : TBd B T) {sw : Bool} {deep : Nat} {p : Int} {x : Tm × Int × RSt} (h : opndR sw S L T deep p st = some x) (hb : B st.bad) : B x.2.2.bad := by
  unfold opndR at h
  split at h
  · cases h; exact fail_bd hB hb
  split at h
  · cases h; exact hb
  split at h
  · cases h; simp only; rw [(var_at _).2.2.2.2]; exact hb
  split at h
  · obtain ⟨y, hy, rfl⟩ := Option.map_eq_some_iff.1 h
    have := named_bd hB hT hy hb
    split <;> exact this
  split at h
  · obtain ⟨y, hy, rfl⟩ := Option.map_eq_some_iff.1 h
    exact must_bd hB (hT _ _ _ _ _ hy hb)
  split at h
  · obtain ⟨y, hy, rfl⟩ := Option.map_eq_some_iff.1 h
    exact list_bd hB hT hy hb
  · cases h; exact fail_bd hB hb

theorem rest_bd (hT : TBd B T) : ∀ (f deep : Nat) (p : Int) (out : Tm) (now : Int) (st : RSt) (t : Tm) (st' : RSt), restR L T f deep p out now st = some (t, st') → B st.bad → B st'.bad
  | 0, _, _, _, _, _, _, _, h, _ => by cases h
  | f + 1, deep, p, out, now, st, t, st', h, hb => by
    simp only [restR] at h
    split at h
    · cases h; exact hb
    split at h
    · cases h; rw [ins_bd]; exact hb
    · split at h
      · cases h; rw [ins_bd]; exact hb
      · obtain ⟨x, hx, h⟩ := Option.bind_eq_some_iff.1 h
        exact rest_bd hT f deep p _ _ _ _ _ h (hT _ _ _ _ _ hx (by show B (inS L st).bad; rw [ins_bd]; exact hb))

theorem term_bd (hB : ∀ i, B (plcR L S.length i)) (sw : Bool) : ∀ n, TBd B (termR sw S L n)
  | 0 => fun _ _ _ _ _ h => by cases h
  | n + 1 => fun deep p st t st' h hb => by
    simp only [termR] at h
    obtain ⟨x, hx, h⟩ := Option.bind_eq_some_iff.1 h
    exact rest_bd (term_bd hB sw n) _ _ _ _ _ _ _ _ h (opnd_bd hB (term_bd hB sw n) hx hb)
end

/-- From so many variables known, all in order, to so many. -/
def extV : Nat → List Int → Option Nat
  | m, [] => some m
  | m, v :: r => if 0 ≤ v ∧ v < m then extV m r else if v = m then extV (m + 1) r else none

theorem extV_app : ∀ (a b : List Int) (m : Nat), extV m (a ++ b) = (extV m a).bind fun k => extV k b
  | [], _, _ => rfl
  | v :: r, b, m => by
    simp only [List.cons_append, extV]
    split
    · exact extV_app r b m
    · split
      · exact extV_app r b _
      · rfl
theorem extV_app' {a b : List Int} {m k j : Nat} (h : extV m a = some k) (h2 : extV k b = some j) : extV m (a ++ b) = some j := by rw [extV_app, h]; exact h2
def TNum (T : TF) : Prop := ∀ deep p st t st', T deep p st = some (t, st') → st'.e = 0 → extV st.names.length (Tm.occ t) = some st'.names.length
section
variable {S : Bs} {L : List Tk} {T : TF} {st : RSt}
theorem fail_nm {n : Nat} {c : Int} : (failR L n st c).names = st.names := by unfold failR; split <;> rfl

theorem must_nm {n : Nat} {s : Bs} : (mustR L n st s).names = st.names := by
  unfold mustR; split
  · rfl
  · exact fail_nm
theorem beg_nm : (begS L st).names = st.names := by unfold begS; split <;> rfl
theorem ins_nm : (inS L st).names = st.names := by unfold inS; split <;> rfl

theorem occL_app : ∀ (a b : List Tm), Tm.occL (a ++ b) = Tm.occL a ++ Tm.occL b
  | [], _ => rfl
  | x :: a, b => by simp only [List.cons_append, Tm.occL, occL_app a b, List.append_assoc]
theorem occ_fn (s : Bs) (l : List Tm) : Tm.occ (fnT s l) = Tm.occL l := by simp [fnT, Tm.occ]

theorem occ_cons (l : List Tm) (t : Tm) : Tm.occ (consT l t) = Tm.occL l ++ Tm.occ t := by
  induction l with
  | nil => rfl
  | cons x l ih =>
    show Tm.occ (fnT [46] [x, consT l t]) = _
    rw [occ_fn]
    simp only [Tm.occL, ih, List.append_nil, List.append_assoc]
theorem occ_nm (n : Int) : Tm.occ (nmT n) = [] := by simp [nmT, Tm.occ, Tm.occL]
theorem occ_one (x : Tm) : Tm.occL [x] = Tm.occ x := by simp [Tm.occL]

theorem many_num (hT : TNum T) (hZ : TSz T) : ∀ (f deep : Nat) (st : RSt) (acc : List Tm) (l : List Tm) (st' : RSt) (m : Nat), manyR L T f deep st acc = some (l, st') → st'.e = 0 → extV m (Tm.occL acc) = some st.names.length → extV m (Tm.occL l) = some st'.names.length
  | 0, _, _, _, _, _, _, h, _, _ => by cases h
  | f + 1, deep, st, acc, l, st', m, h, he, hm => by
    simp only [manyR] at h
    split at h
    · obtain ⟨⟨x, s⟩, hx, h⟩ := Option.bind_eq_some_iff.1 h
      have hs := (many_sz hZ f deep _ _ _ _ h he).1
      refine many_num hT hZ f deep _ _ _ _ m h he ?_
      rw [occL_app, occ_one]
      exact extV_app' hm (show extV st.names.length _ = _ from hT _ _ (nxR st) _ _ hx hs)
    · cases h; exact hm

theorem row_num (hT : TNum T) (hZ : TSz T) {deep : Nat} {l : List Tm} {st' : RSt} (h : rowR L T deep st = some (l, st')) (he : st'.e = 0) : extV st.names.length (Tm.occL l) = some st'.names.length := by
  obtain ⟨⟨x, s⟩, hx, h⟩ := Option.bind_eq_some_iff.1 h
  have hs := (many_sz hZ _ deep _ _ _ _ h he).1
  exact many_num hT hZ _ _ _ _ _ _ _ h he (by rw [occ_one]; exact hT _ _ _ _ _ hx hs)

theorem named_num (hT : TNum T) (hZ : TSz T) {deep : Nat} {p : Int} {t : Tk} {x : Tm × Int × RSt} (h : namedR S L T deep p t st = some x) (he : x.2.2.e = 0) : extV st.names.length (Tm.occ x.1) = some x.2.2.names.length := by
  unfold namedR at h
  split at h
  · cases h; simp only; rw [occ_nm]; rfl
  split at h
  · obtain ⟨⟨l, s⟩, hy, rfl⟩ := Option.map_eq_some_iff.1 h
    have := row_num hT hZ hy (must_e he)
    rw [must_nm] at this
    simp only
    rw [occ_fn, must_nm]
    exact this
  split at h
  · split at h
    · split at h
      · cases h; exact absurd he (flN (by decide))
      · obtain ⟨⟨u, s⟩, hy, rfl⟩ := Option.map_eq_some_iff.1 h
        have := hT _ _ _ _ _ hy he
        rw [beg_nm] at this
        simp only
        rw [occ_fn, occ_one]
        exact this
    · cases h; simp only; rw [occ_fn, beg_nm]; rfl
  · cases h; simp only; rw [occ_fn]; rfl

theorem list_num (hT : TNum T) (hZ : TSz T) {deep : Nat} {x : Tm × RSt} (h : listR S L T deep st = some x) (he : x.2.e = 0) : extV st.names.length (Tm.occ x.1) = some x.2.names.length := by
  obtain ⟨⟨l, s⟩, hy, h⟩ := Option.bind_eq_some_iff.1 h
  simp only at h
  split at h
  · obtain ⟨⟨u, v⟩, hz, rfl⟩ := Option.map_eq_some_iff.1 h
    have e1 := must_e he
    have h2 := hT _ _ _ _ _ hz e1
    have e2 := (hZ _ _ _ _ _ hz e1).1
    have h1 := row_num hT hZ hy e2
    simp only
    rw [occ_cons, must_nm]
    exact extV_app' h1 h2
  · cases h
    have h1 := row_num hT hZ hy (must_e he)
    simp only
    rw [occ_cons, must_nm, occ_fn]
    exact extV_app' h1 rfl

theorem idxV_lt : ∀ {l : List Bs} {s : Bs} {i k : Nat}, idxV l s i = some k → i ≤ k ∧ k < i + l.length
  | [], _, _, _, h => by cases h
  | x :: l, s, i, k, h => by
    simp only [idxV] at h
    split at h
    · cases h; simp
    · have := idxV_lt h; simp only [List.length_cons]; omega

theorem var_num (s : Bs) : extV st.names.length [(varR st s).1] = some (varR st s).2.names.length := by
  unfold varR
  split
  · rename_i i hi
    split at hi
    · cases hi
    · have := idxV_lt hi
      simp only [extV]
      rw [if_pos (by omega)]
  · simp only [extV]
    rw [if_neg (by omega)]
    simp
theorem occ_v (v : Int) : Tm.occ (Tm.vT v) = [v] := by simp [Tm.vT, Tm.occ]

theorem opnd_num (hT : TNum T) (hZ : TSz T) {sw : Bool} {deep : Nat} {p : Int} {x : Tm × Int × RSt} (h : opndR sw S L T deep p st = some x) (he : x.2.2.e = 0) : extV st.names.length (Tm.occ x.1) = some x.2.2.names.length := by
  unfold opndR at h
  split at h
  · cases h; exact absurd he (flN (by decide))
  split at h
  · cases h; simp only; rw [occ_nm]; rfl
  split at h
  · cases h; simp only; rw [occ_v]
    exact var_num (st := nxR st) _
  split at h
  · obtain ⟨y, hy, rfl⟩ := Option.map_eq_some_iff.1 h
    have e1 : y.2.2.e = 0 := by revert he; split <;> exact id
    have := named_num hT hZ hy e1
    rw [if_neg (by simp [e1])]
    exact this
  split at h
  · obtain ⟨⟨u, s⟩, hy, rfl⟩ := Option.map_eq_some_iff.1 h
    simp only
    rw [must_nm]
    exact hT _ _ (nxR st) _ _ hy (must_e he)
  split at h
  · obtain ⟨⟨u, s⟩, hy, rfl⟩ := Option.map_eq_some_iff.1 h
    exact list_num hT hZ hy he
  · cases h; exact absurd he (flN (by decide))

theorem rest_num (hT : TNum T) (hZ : TSz T) : ∀ (f deep : Nat) (p : Int) (out : Tm) (now : Int) (st : RSt) (t : Tm) (st' : RSt) (m : Nat), restR L T f deep p out now st = some (t, st') → st'.e = 0 → extV m (Tm.occ out) = some st.names.length → extV m (Tm.occ t) = some st'.names.length
  | 0, _, _, _, _, _, _, _, _, h, _, _ => by cases h
  | f + 1, deep, p, out, now, st, t, st', m, h, he, hm => by
    simp only [restR] at h
    split at h
    · cases h; exact hm
    split at h
    · cases h; rw [ins_nm]; exact hm
    · split at h
      · cases h; rw [ins_nm]; exact hm
      · obtain ⟨⟨x, s⟩, hx, h⟩ := Option.bind_eq_some_iff.1 h
        have hs := (rest_sz hZ _ _ _ _ _ _ _ _ h he).1
        refine rest_num hT hZ f deep p _ _ _ _ _ m h he ?_
        rw [occ_fn]
        have h2 := hT _ _ _ _ _ hx hs
        rw [show (nxR (inS L st)).names = st.names from ins_nm] at h2
        show extV m (Tm.occ out ++ (Tm.occ x ++ [])) = _
        rw [List.append_nil]
        exact extV_app' hm h2

theorem term_num (sw : Bool) (S : Bs) (L : List Tk) : ∀ n, TNum (termR sw S L n)
  | 0 => fun _ _ _ _ _ h => by cases h
  | n + 1 => fun deep p st t st' h he => by
    simp only [termR] at h
    obtain ⟨⟨x, q, s⟩, hx, h⟩ := Option.bind_eq_some_iff.1 h
    have hZ := term_sz sw S L n
    have hs := (rest_sz hZ _ _ _ _ _ _ _ _ h he).1
    exact rest_num (term_num sw S L n) hZ _ _ _ _ _ _ _ _ _ h he (opnd_num (term_num sw S L n) hZ hx hs)
end
end PSL

namespace PSL
open Go
def idn (m : Nat) : List Int := (List.range m).map Int.ofNat

theorem idn_mem {m : Nat} {v : Int} : v ∈ idn m ↔ 0 ≤ v ∧ v < m := by
  unfold idn
  simp only [List.mem_map, List.mem_range]
  exact ⟨fun ⟨a, h, e⟩ => by rw [← e]; exact ⟨Int.natCast_nonneg _, by show (a : Int) < m; omega⟩, fun h => ⟨v.toNat, by omega, by show ((v.toNat : Nat) : Int) = v; omega⟩⟩
theorem idn_len (m : Nat) : (idn m).length = m := by simp [idn]
theorem idn_snoc (m : Nat) : idn m ++ [(m : Int)] = idn (m + 1) := by unfold idn; rw [List.range_succ, List.map_append]; rfl

theorem idn_at (m : Nat) {v : Int} (h : 0 ≤ v ∧ v < m) : atI (idn m) v 0 = v := by
  have key : ∀ (k s : Nat) (v : Int), (s : Int) ≤ v → v < ((s + k : Nat) : Int) → atI ((List.range' s k).map Int.ofNat) v s = v := by
    intro k
    induction k with
    | zero => intro s v h1 h2; omega
    | succ k ih =>
      intro s v h1 h2
      simp only [List.range'_succ, List.map_cons, atI]
      split
      · rename_i e; exact e
      · rename_i e
        have e : ¬ (s : Int) = v := e
        have := ih (s + 1) v (by omega) (by omega)
        rw [show ((s + 1 : Nat) : Int) = (s : Int) + 1 by omega] at this
        exact this
  have := key m 0 v (by simpa using h.1) (by simpa using h.2)
  unfold idn
  rw [List.range_eq_range']
  exact this

theorem ext_once : ∀ (l : List Int) (k m : Nat), extV k l = some m → l.foldl addV (idn k) = idn m ∧ k ≤ m ∧ ∀ v ∈ l, 0 ≤ v ∧ v < m
  | [], k, m, h => by cases h; exact ⟨rfl, Nat.le_refl _, by simp⟩
  | v :: l, k, m, h => by
    simp only [extV] at h
    simp only [List.foldl_cons]
    split at h
    · rename_i hv
      obtain ⟨h1, h2, h3⟩ := ext_once l k m h
      have : addV (idn k) v = idn k := by unfold addV; rw [if_pos (by simpa using idn_mem.2 hv)]
      rw [this]
      exact ⟨h1, h2, fun w hw => by
        rcases List.mem_cons.1 hw with rfl | hw
        · exact ⟨hv.1, by omega⟩
        · exact h3 w hw⟩
    · rename_i hv
      split at h
      · rename_i he
        obtain ⟨h1, h2, h3⟩ := ext_once l (k + 1) m h
        have : addV (idn k) v = idn (k + 1) := by
          unfold addV
          rw [if_neg (by simpa using fun h => hv (idn_mem.1 h)), he, idn_snoc]
        rw [this]
        exact ⟨h1, by omega, fun w hw => by
          rcases List.mem_cons.1 hw with rfl | hw
          · exact ⟨by omega, by omega⟩
          · exact h3 w hw⟩
      · cases h

theorem num_read {t : Tm} {m : Nat} (hr : t.rightB = true) (h : extV 0 (Tm.occ t) = some m) : numberT [t] = ([t], (m : Int), 0) := by
  obtain ⟨h1, _, h3⟩ := ext_once _ _ _ h
  have hf : Tm.fairRL [t] = true := fairL_of (by simpa using hr)
  have hv : varsT [t] = idn m := by
    rw [varsT_once hf]
    show (Tm.occL [t]).foldl addV [] = _
    rw [show Tm.occL [t] = Tm.occ t by simp [Tm.occL]]
    exact h1
  unfold numberT
  rw [if_pos (by simp [rightT_eq, hr]), hv, idn_len]
  have : Tm.turnTL (placeG (idn m)) [t] = [t] := by
    show [Tm.turnT (placeG (idn m)) t] = [t]
    have h2 := Tm.turn_congr (g := placeG (idn m)) (g' := fun n => n) t (right_fair hr) fun v hv => by
      have := idn_at m (h3 v hv)
      unfold placeG
      rw [this, if_neg (by have := (h3 v hv).1; omega)]
    rw [h2, Tm.turn_self]
  rw [this]

theorem tok_ok {S : Bs} (h : (tokT S).2.2 = 0) : S.length ≤ 8000 ∧ toks (S.length + 1) S 0 = .ok (tokT S).1 ∧ tokT S = ((tokT S).1, 0, 0) := by
  unfold tokT at h ⊢
  split at h
  · cases h
  · rename_i hl
    rw [if_neg hl]
    cases ht : toks (S.length + 1) S 0 with
    | ok l => exact ⟨by omega, rfl, rfl⟩
    | error j => rw [ht] at h; cases h

theorem tok_bad {S : Bs} (h : (tokT S).2.2 ≠ 0) : (tokT S).1 = [] ∧ 0 ≤ (tokT S).2.1 ∧ (tokT S).2.1 ≤ S.length := by
  unfold tokT at h ⊢
  split at h
  · rename_i hl
    rw [if_pos hl]; exact ⟨rfl, by simp, by simp⟩
  · rename_i hl
    rw [if_neg hl]
    cases ht : toks (S.length + 1) S 0 with
    | ok l => rw [ht] at h; exact absurd rfl h
    | error j =>
      have := toks_bad _ _ _ _ ht
      exact ⟨rfl, by simp only; omega, by simp only; omega⟩

theorem toks_plc {S : Bs} {l : List Tk} (h : toks (S.length + 1) S 0 = .ok l) : ∀ t ∈ l, 0 ≤ t.at_ ∧ t.at_ < S.length := fun t ht => by
  have := ((toks_place _ _ _ _ h).1 t ht).lo
  have := ((toks_place _ _ _ _ h).1 t ht).hi
  omega

theorem cls_count {right : Tm → Bool} {L : List Tk} {n : Nat} {T : TF} : ∀ (f : Nat) (st : RSt) (out c : List Clau) (q e : Int), clsR right L n T f st out = some (c, q, e) → c.length ≤ out.length + f
  | 0, _, _, _, _, _, h => by cases h
  | f + 1, st, out, c, q, e, h => by
    rw [cls_step] at h
    split at h
    · obtain ⟨⟨x, s⟩, hx, h⟩ := Option.bind_eq_some_iff.1 h
      simp only at h
      split at h
      · cases h; simp
      · have := cls_count f _ _ _ _ _ h
        simp only [List.length_append, List.length_singleton] at this
        omega
    · cases h; omega

theorem clau_count {right : Tm → Bool} {sw : Bool} {S : Bs} {c : List Clau} {q e : Int} (h : clauR right sw S = some (c, q, e)) : c.length ≤ 9000 := by
  unfold clauR at h
  by_cases he : (tokT S).2.2 ≠ 0
  · rw [if_pos he] at h; cases h; simp
  · rw [if_neg he] at h
    obtain ⟨h8, ht, _⟩ := tok_ok (Decidable.not_not.1 he)
    have := toks_len _ S 0 _ ht
    have := cls_count _ _ _ _ _ _ h
    simp only [List.length_nil] at this
    omega

/-- What is known of a clause that was read. -/
structure ClG (x : Clau) : Prop where
  right : x.1.rightB = true
  num : numberT [x.1] = ([x.1], (x.2.length : Int), 0)
  few : x.2.length ≤ 9000

theorem clau_facts {sw : Bool} {S : Bs} (hS : S.length ≤ 9000) {c : List Clau} {q e : Int} (h : clauR rightT sw S = some (c, q, e)) : (e ≠ 0 → c = []) ∧ (e = 0 → q = 0 ∧ ∀ x ∈ c, ClG x) ∧ 0 ≤ q ∧ q ≤ S.length := by
  unfold clauR at h
  by_cases he : (tokT S).2.2 ≠ 0
  · rw [if_pos he] at h
    have hb := tok_bad he
    cases h
    exact ⟨fun _ => rfl, fun h => absurd h he, hb.2⟩
  · rw [if_neg he] at h
    obtain ⟨h8, ht, _⟩ := tok_ok (Decidable.not_not.1 he)
    have hpl := toks_plc ht
    have hlen := toks_len _ S 0 _ ht
    obtain ⟨h1, h2, h3⟩ := cls_facts (P := ClG) (fun st t s hi hn hx he hr => by
      have h1 := (term_inv sw S _ _ _ _ _ _ _ hx hi)
      have h2 := term_num sw S _ _ _ _ _ _ _ hx he
      rw [hn] at h2
      rw [rightT_eq] at hr
      exact ⟨hr, num_read hr h2, by have := h1.1; have := h1.2; simp only; omega⟩) (term_inv sw S _ _) (n := S.length) (fun t ht => by have := hpl t ht; omega)
      (fun st t s hx hb => term_bd (B := fun b => 0 ≤ b ∧ b ≤ (S.length : Int)) (fun i => by
        unfold plcR; split
        · rename_i t ht'; have := hpl t (List.mem_of_getElem? ht'); exact ⟨this.1, by omega⟩
        · exact ⟨Int.natCast_nonneg _, Int.le_refl _⟩) sw _ _ _ _ _ _ hx hb) _ _ _ _ _ _ (Nat.zero_le _) ⟨Int.le_refl _, Int.natCast_nonneg _⟩ h
    exact ⟨h1, fun he => by
      obtain ⟨g1, l, g2, g3, _⟩ := h2 he
      refine ⟨g1, ?_⟩
      rw [g2]
      simpa using g3, h3⟩
end PSL

namespace PSL
open Go
end PSL

namespace PSL
open Go

theorem cls_names (right : Tm → Bool) (L : List Tk) (n : Nat) (T : TF) (f : Nat) (st : RSt) (out : List Clau) : clsR right L n T f st out = clsR right L n T f { st with names := [] } out := by
  cases f <;> rfl
def st0 : RSt := ⟨0, [], 0, 0, false⟩

theorem tokT_ok {S : Bs} {l : List Tk} (hS : S.length ≤ 8000) (h : toks (S.length + 1) S 0 = .ok l) : tokT S = (l, 0, 0) := by
  unfold tokT; rw [if_neg (by omega), h]

theorem clau_eq (right : Tm → Bool) (sw : Bool) {S : Bs} {l : List Tk} (hS : S.length ≤ 8000) (h : toks (S.length + 1) S 0 = .ok l) : clauR right sw S = clsR right l S.length (termR sw S l (l.length + 2)) (l.length + 1) st0 [] := by
  unfold clauR; rw [tokT_ok hS h]; simp only; rw [if_neg (by decide)]; rfl

/-- Two texts with a line feed between. -/
theorem clau_joins {right : Tm → Bool} {sw : Bool} {A B : Bs} (hA : A.length ≤ 3000) (hB : B.length ≤ 3000) {ca cb : List Clau} {qa qb eb : Int} (h1 : clauR right sw A = some (ca, qa, 0)) (h2 : clauR right sw B = some (cb, qb, eb)) : clauR right sw (A ++ 10 :: B) = some (if eb ≠ 0 then ([], qb + (A.length + 1 : Nat), eb) else (ca ++ cb, 0, 0)) := by
  have htk : (tokT A).2.2 = 0 := by
    refine Decidable.byContradiction fun he => ?_
    unfold clauR at h1
    rw [if_pos he] at h1
    simp only [Option.some.injEq, Prod.mk.injEq] at h1
    exact he h1.2.2
  obtain ⟨_, htA, _⟩ := tok_ok htk
  generalize (tokT A).1 = la at htA
  have hSl : (A ++ 10 :: B).length = A.length + 1 + B.length := by simp; omega
  have hj := toks_join A B (c := 10) rfl (A.length + 1) 0 la (by omega) (Nat.zero_le _) htA ((A ++ 10 :: B).length + 1) (by omega)
  cases htB : toks (B.length + 1) B 0 with
  | error j =>
    rw [htB] at hj
    simp only [appE, shE] at hj
    have e1 : clauR right sw B = some ([], (j : Int), 2) := by
      unfold clauR tokT; rw [if_neg (show ¬ 8000 < B.length by omega), htB]; rfl
    rw [e1] at h2
    cases h2
    rw [if_pos (by decide)]
    unfold clauR tokT
    rw [if_neg (show ¬ 8000 < (A ++ 10 :: B).length by omega), hj]
    simp only
    rw [if_pos (by decide)]
    congr 3
    omega
  | ok lb =>
    rw [htB] at hj
    simp only [appE, shE] at hj
    obtain ⟨L, hL⟩ : ∃ L, la ++ lb.map (shT (A.length + 1)) = L := ⟨_, rfl⟩
    rw [hL] at hj
    have hll : L.length = la.length + lb.length := by rw [← hL]; simp
    rw [clau_eq right sw (by omega) htA] at h1
    rw [clau_eq right sw (by omega) htB] at h2
    rw [clau_eq right sw (by omega) hj]
    have hplA := toks_plc htA
    have hplB := toks_plc htB
    have part : ∃ g b', clsR right L (A ++ 10 :: B).length (termR sw (A ++ 10 :: B) L (L.length + 2)) (L.length + 1) st0 [] = clsR right L (A ++ 10 :: B).length (termR sw (A ++ 10 :: B) L (L.length + 2)) g b' ca ∧ b'.at_ = la.length ∧ b'.e = 0 ∧ L.length + 1 ≤ g + la.length := by
      by_cases hne : la = []
      · subst hne
        rw [cls_step, if_neg (by simp [st0])] at h1
        cases h1
        exact ⟨_, st0, rfl, rfl, rfl, by simp⟩
      · have hpos : 0 < la.length := List.length_pos_iff.2 hne
        have hleft : ∀ i t, la[i]? = some t → L[i]? = some t := fun i t h => by
          have := (List.getElem?_eq_some_iff.1 h).1
          rw [← hL, List.getElem?_append_left this]; exact h
        have H : Sim false (la.length - 1) 0 0 0 A la (A ++ 10 :: B) L := by
          refine ⟨fun i hi => ?_, (fun h => by cases h), fun i t hi _ _ => ?_, .inl rfl, by omega⟩
          · have hi : i < la.length := by have := hi.resolve_left (by decide); omega
            rw [Nat.add_zero, hleft i _ (List.getElem?_eq_getElem hi), List.getElem?_eq_getElem hi]
            exact .inl ⟨rfl, rfl, rfl, rfl, fun _ => by simp⟩
          · have := hplA t (List.mem_of_getElem? hi)
            rw [Int.add_zero, List.getElem?_append_left (by omega)]
        obtain ⟨g, b', g1, g2, g3, g4⟩ := cls_simP right H (term_sim H sw _ (L.length + 2) (by omega)) (term_mono sw _ _ _) (by omega) hleft _ (L.length + 1) st0 st0 [] ca qa (by omega) ⟨rfl, rfl, rfl, fun h => absurd rfl h⟩ rfl (Nat.zero_le _) h1
        exact ⟨g, b', g1, g2, g3, by simpa [st0] using g4⟩
    obtain ⟨g, b', g1, g2, g3, g4⟩ := part
    have hright : ∀ i, L[i + la.length]? = lb[i]?.map (shT (A.length + 1)) := fun i => by
      rw [← hL, List.getElem?_append_right (by omega), Nat.add_sub_cancel, List.getElem?_map]
    have H : Sim true 0 la.length 0 (A.length + 1 : Nat) B lb (A ++ 10 :: B) L := by
      refine ⟨fun i _ => ?_, fun _ i => ?_, fun i t hi _ _ => ?_, .inl rfl, by omega⟩
      · rw [hright]
        cases lb[i]? with
        | none => exact .inl ⟨rfl, rfl, rfl, rfl, fun h => absurd rfl h⟩
        | some t => exact .inl ⟨rfl, rfl, rfl, rfl, fun _ => rfl⟩
      · unfold plcR
        rw [hright]
        cases lb[i]? with
        | none => simp only [Option.map_none]; rw [hSl]; omega
        | some t => rfl
      · have := hplB t (List.mem_of_getElem? hi)
        rw [show (t.at_ + ((A.length + 1 : Nat) : Int)).toNat = A.length + (t.at_.toNat + 1) by omega, List.getElem?_append_right (by omega), Nat.add_sub_cancel_left, List.getElem?_cons_succ]
    have := cls_simX right H (term_sim H sw _ (L.length + 2) (by omega)) (by omega) ca _ g st0 { b' with names := [] } [] cb qb eb (by omega) ⟨by simp only; rw [g2]; simp [st0], rfl, g3, fun h => absurd rfl h⟩ rfl h2
    rw [g1, cls_names]
    rw [List.append_nil] at this
    exact this
end PSL

namespace Go.Proofs.Ythdpfglpdgmphaa
open Go PSL Go.Proofs
end Go.Proofs.Ythdpfglpdgmphaa

namespace Go.Proofs.Ythdpfglpdgmphaa
open Go PSL Go.Proofs
end Go.Proofs.Ythdpfglpdgmphaa

namespace Go.Proofs.Ythdpfglpdgmphaa
open Go PSL Go.Proofs
end Go.Proofs.Ythdpfglpdgmphaa

namespace Go.Proofs.Ythdpfglpdgmphaa
open Go PSL Go.Proofs
end Go.Proofs.Ythdpfglpdgmphaa

namespace Go.Proofs.Ythdpfglpdgmphaa
open Go PSL Go.Proofs
end Go.Proofs.Ythdpfglpdgmphaa

namespace Go.Proofs.Ythdpfglpdgmphaa
open Go PSL Go.Proofs
end Go.Proofs.Ythdpfglpdgmphaa

namespace Go.Proofs.Ythdpfglpdgmphaa
open Go PSL Go.Proofs
def boxR (t : Tm) : Ob := .box [.d (.v (.int .i64 t.k)), .d (.v (.string t.s)), .d (.v (.int .i64 t.n)), .d (.sl (Tm.rows t.l))]
end Go.Proofs.Ythdpfglpdgmphaa

namespace Go.Proofs.Ythdpfglpdgmphaa
open Go PSL Go.Proofs

set_option maxRecDepth 100000 in
theorem refSame_ok (a : Tm) : ∀ b, a.size < 1000000000 → PCtr Try.prog 11 [a.av, b.av] (bV (a.same b)) := by
  induction a using Tm.ind with
  | _ a ih =>
  intro b hsz
  refine PCtr.of_R (pf := fun _ => .still) tyOk mixed Try.func11 rfl (by kernel_rfl) (by kernel_rfl) (by simp [Try.ntmps11]) fun w S hg => ?_
  refine R_run hg.ok 1000 rfl rfl ?_
  iterate 4
    refine R_if rfl rfl (fun _ => ?_) (fun _ => ?_) <;> refine R_run hg.ok 1000 rfl rfl ?_
    · refine R_ret hg 5 rfl rfl ?_
      simp_all [Tm.same_eq, bV, Tm.rows_length]
      try exact Tm.sameL_len (by omega)
  refine R_loop (fun k : Nat => ([(2, .lo 0 0), (3, .lo 1 0), (5, iV k)], [boxR a, boxR b])) (fun k => k ≤ a.l.length ∧ a.l.length = b.l.length ∧ a.same b = Tm.sameL (a.l.drop k) (b.l.drop k)) (fun k => a.l.length - k) 0 ?_ ⟨.refl _, .refl _, .refl _, trivial⟩ rfl ?_
  · simp_all [Tm.same_eq, Tm.rows_length]
    omega
  rintro k ⟨hk0, hl, hk⟩
  have hszl := Tm.len_le_sizeL a.l
  have hsz2 := Tm.size_eq a
  refine R_run hg.ok 1000 rfl rfl ?_
  refine R_if rfl rfl (fun h => ?_) (fun h => ?_) <;> refine R_run hg.ok 1000 rfl rfl ?_
  · have hk1 := lt_dec (n := a.l.length) h (by rw [Tm.rows_length])
    have hk2 : k < b.l.length := by omega
    have e1 : a.l[k]? = some a.l[k] := List.getElem?_eq_getElem hk1
    have e2 : b.l[k]? = some b.l[k] := List.getElem?_eq_getElem hk2
    rw [List.drop_eq_getElem_cons hk1, List.drop_eq_getElem_cons hk2, Tm.sameL] at hk
    have hm := Tm.size_mem (List.getElem_mem hk1)
    refine R_index hg.ok rfl rfl rfl rfl rfl rfl (Int.natCast_nonneg k) (Tm.rows_get e1) rfl ?_
    refine R_run hg.ok 1000 rfl rfl ?_
    refine R_index hg.ok rfl rfl rfl rfl rfl rfl (Int.natCast_nonneg k) (Tm.rows_get e2) rfl ?_
    refine R_run hg.ok 1000 rfl rfl ?_
    refine R_call hg.ok (ih _ (List.getElem_mem hk1) b.l[k] (by omega)) rfl rfl rfl rfl rfl rfl ?_
    refine R_run hg.ok 1000 rfl rfl ?_
    refine R_if rfl rfl (fun h => ?_) (fun h => ?_) <;> refine R_run hg.ok 1000 rfl rfl ?_
    · refine R_ret hg 5 rfl rfl ?_
      rw [hk]; simp_all [bV]
    · refine R_next (k + 1) ⟨hk1, hl, ?_⟩ (by omega) ⟨.refl _, .refl _, Ent.wrap (by omega) (by omega) (by omega), trivial⟩ rfl
      rw [hk]; simp_all
  · refine R_ret hg 5 rfl rfl ?_
    have hk1 := ge_dec (n := a.l.length) h (by rw [Tm.rows_length])
    rw [hk, List.drop_eq_nil_of_le (by omega), List.drop_eq_nil_of_le (by omega)]; rfl
end Go.Proofs.Ythdpfglpdgmphaa

namespace Go.Proofs.Ythdpfglpdgmphaa
open Go PSL Go.Proofs
theorem rightT_fun : rightT = Tm.rightB := funext rightT_eq

set_option maxRecDepth 100000 in
theorem clausesBad_ok (S0 : Bs) (a e : Int) (he : e ≠ 0) (h : PCtr Try.prog 19 [txA S0] (.tup [.d (.sl (tkRows [])), iV a, iV e])) : PCtr Try.prog 9 [txA S0] (.tup [.d (.sl (clRows [])), iV a, iV e]) := by
  refine PCtr.of_R (pf := fun _ => .eff) tyOk mixed Try.func9 rfl (by kernel_rfl) (by kernel_rfl) (by simp [Try.ntmps9]) fun w S hg => ?_
  refine R_run hg.ok 1000 rfl rfl ?_
  refine R_call hg.ok (h) rfl rfl rfl rfl rfl rfl ?_
  refine R_run hg.ok 1000 rfl rfl ?_
  refine R_if rfl rfl (fun _ => ?_) (fun h => absurd h (by simp [he])) <;> refine R_run hg.ok 1000 rfl rfl ?_
  refine R_ret hg 5 rfl rfl ?_
  rfl

/-- The clauses of a text. -/
theorem clausesT_ok (S0 : Bs) (hS : S0.length ≤ 9000) {c : List Clau} {a e : Int} (h : clauR rightT false S0 = some (c, a, e)) : PCtr Try.prog 9 [txA S0] (.tup [.d (.sl (clRows c)), iV a, iV e]) := by
  unfold clauR at h
  by_cases he : (tokT S0).2.2 ≠ 0
  · rw [if_pos he] at h
    have ht := tokens_ok S0 hS
    unfold tokR at ht
    rw [(tok_bad he).1] at ht
    cases h
    exact clausesBad_ok S0 _ _ he ht
  · rw [if_neg he] at h
    obtain ⟨h8, ht, _⟩ := tok_ok (Decidable.not_not.1 he)
    have hpl := toks_plc ht
    have hgd := toks_good _ _ _ _ ht
    have hlen := toks_len _ S0 0 _ ht
    refine clauses_ok S0 hS _ (by omega) (fun t ht => ⟨(hpl t ht).1, (hpl t ht).2, (hgd t ht).lo, (hgd t ht).hi⟩) (tokR_ok (by omega) ht) _ (fun st t st' hi hx he => ?_) c a e h
    have := read_small (by omega) hS hgd hi hx he
    exact ⟨by have := this.1; omega, fun e he => by have := this.2 1 e he; omega⟩
theorem oneT_ok9 (S0 : Bs) (hS : S0.length ≤ 9000) {c : List Clau} {a e : Int} (h : clauR rightT false S0 = some (c, a, e)) : PCtr Try.prog 13 [txA S0] (.tup [clA (oneR S0.length (c, a, e)).1, iV (oneR S0.length (c, a, e)).2.1, iV (oneR S0.length (c, a, e)).2.2]) := one_ok S0 c a e (clausesT_ok S0 hS h)
end Go.Proofs.Ythdpfglpdgmphaa

namespace Go.Proofs.Ythdpfglpdgmphaa
open Go PSL Go.Proofs
def know9a : Bs := [97, 32, 58, 45, 32, 98, 44, 32, 92, 43, 32, 88, 32, 61, 32, 45, 49, 46]
def know9b : Bs := [97, 32, 98, 46]
def kn9c : Clau := (fnT [58, 45] [fnT [97] [], fnT [44] [fnT [98] [], fnT [92, 43] [fnT [61] [Tm.vT 0, nmT (-1)]]]], [[88]])
theorem know9a_read : clauR rightT false know9a = some ([kn9c], 0, 0) := by rw [rightT_fun]; kernel_rfl
theorem know9b_read : clauR rightT false know9b = some ([], 2, 2) := by rw [rightT_fun]; kernel_rfl

set_option maxRecDepth 100000 in
theorem knows9_ok : PCtr Try.prog 8 [] (bV true) := by
  have h1 : PCtr Try.prog 13 [txA know9a] (.tup [clA kn9c, iV 0, iV 0]) := oneT_ok9 know9a (by decide) know9a_read
  have h2 : PCtr Try.prog 13 [txA know9b] (.tup [clA (zeroT, []), iV 2, iV 2]) := oneT_ok9 know9b (by decide) know9b_read
  refine PCtr.of_R (pf := fun _ => .eff) tyOk mixed Try.func8 rfl (by kernel_rfl) (by kernel_rfl) (by simp [Try.ntmps8]) fun w S hg => ?_
  refine R_run hg.ok 1000 rfl rfl ?_
  refine R_call hg.ok (h1) rfl rfl rfl rfl rfl rfl ?_
  refine R_run hg.ok 1000 rfl rfl ?_
  refine R_call hg.ok (h2) rfl rfl rfl rfl rfl rfl ?_
  refine R_run hg.ok 1000 rfl rfl ?_
  repeat
    first
    | (refine R_if rfl rfl (fun _ => ?_) (fun h => absurd h (by decide +kernel)); refine R_run hg.ok 1000 rfl rfl ?_)
    | (refine R_index hg.ok rfl rfl rfl rfl rfl rfl (by decide) rfl rfl ?_; refine R_run hg.ok 1000 rfl rfl ?_)
  refine R_ret hg 5 rfl rfl ?_
  rfl
end Go.Proofs.Ythdpfglpdgmphaa

namespace Go.Proofs.Ythdpfglpdgmphaa
open Go PSL Go.Proofs
theorem clRows_get {c : List Clau} {i : Nat} {x : Clau} (h : c[i]? = some x) : (clRows c)[i]? = some (clRow x) := by simp [clRows, h]

theorem same_clau {c : List Clau} (hc : ∀ x ∈ c, ClG x) {x : Clau} (h : x ∈ c) : PCtr Try.prog 11 [x.1.av, x.1.av] (bV true) := by
  have := refSame_ok x.1 x.1 (right_small (hc x h).right)
  rw [(Tm.same_iff x.1 x.1).2 rfl] at this
  exact this
end Go.Proofs.Ythdpfglpdgmphaa

namespace Go.Proofs.Ythdpfglpdgmphaa
open Go PSL Go.Proofs

set_option maxHeartbeats 1600000 in
set_option maxRecDepth 100000 in
theorem readJoins_ok (s r : ByteArray) : PCtr Try.prog 5 [.d (.v (.string s)), .d (.v (.string r))] (bV true) := by
  rw [← Tx_data s, ← Tx_data r]
  generalize s.data.toList = A
  generalize r.data.toList = B
  refine PCtr.of_R (pf := fun _ => .eff) tyOk mixed Try.func5 rfl (by kernel_rfl) (by kernel_rfl) (by simp [Try.ntmps5]) fun w S hg => ?_
  refine R_run hg.ok 1000 rfl rfl ?_
  by_cases hA : A.length ≤ 3000
  rotate_left
  · refine R_if rfl rfl (fun _ => ?_) (fun h => absurd h (by simp [Tx_size]; omega)) <;> refine R_run hg.ok 1000 rfl rfl ?_
    refine R_call hg.ok (knows9_ok) rfl rfl rfl rfl rfl rfl ?_
    refine R_run hg.ok 1000 rfl rfl ?_
    refine R_ret hg 5 rfl rfl ?_
    rfl
  by_cases hB : B.length ≤ 3000
  rotate_left
  · refine R_if rfl rfl (fun h => absurd h (by simp [Tx_size]; omega)) (fun _ => ?_) <;> refine R_run hg.ok 1000 rfl rfl ?_
    refine R_if rfl rfl (fun _ => ?_) (fun h => absurd h (by simp [Tx_size]; omega)) <;> refine R_run hg.ok 1000 rfl rfl ?_
    refine R_call hg.ok (knows9_ok) rfl rfl rfl rfl rfl rfl ?_
    refine R_run hg.ok 1000 rfl rfl ?_
    refine R_ret hg 5 rfl rfl ?_
    rfl
  refine R_if rfl rfl (fun h => absurd h (by simp [Tx_size]; omega)) (fun _ => ?_) <;> refine R_run hg.ok 1000 rfl rfl ?_
  refine R_if rfl rfl (fun h => absurd h (by simp [Tx_size]; omega)) (fun _ => ?_) <;> refine R_run hg.ok 1000 rfl rfl ?_
  obtain ⟨⟨ca, qa, ea⟩, hra⟩ := clau_ok rightT false A
  obtain ⟨⟨cb, qb, eb⟩, hrb⟩ := clau_ok rightT false B
  obtain ⟨⟨cc, qc, ec⟩, hrc⟩ := clau_ok rightT false (A ++ 10 :: B)
  obtain ⟨fa1, fa2, _⟩ := clau_facts (by omega) hra
  obtain ⟨fb1, fb2, fb3, fb4⟩ := clau_facts (by omega) hrb
  have hla := clau_count hra
  have hlb := clau_count hrb
  have hlc : (A ++ 10 :: B).length ≤ 9000 := by simp; omega
  refine R_call hg.ok (clausesT_ok A (by omega) hra) rfl rfl rfl rfl rfl rfl ?_
  refine R_run hg.ok 1000 rfl rfl ?_
  refine R_call hg.ok (clausesT_ok B (by omega) hrb) rfl rfl rfl rfl rfl rfl ?_
  refine R_run hg.ok 1000 rfl rfl ?_
  refine R_concat hg.ok (Tx (A ++ [10])) rfl rfl rfl rfl (by rw [Tx_size]; simp [ByteArray.size]; omega) (Tx_app A [10]) ?_
  refine R_run hg.ok 1000 rfl rfl ?_
  refine R_concat hg.ok (Tx (A ++ 10 :: B)) rfl rfl rfl rfl (by rw [Tx_size, Tx_size]; simp; omega) (by rw [Tx_app]; simp) ?_
  refine R_run hg.ok 1000 rfl rfl ?_
  by_cases hea : ea ≠ 0
  · refine R_call hg.ok (clausesT_ok _ hlc hrc) rfl rfl rfl rfl rfl rfl ?_
    refine R_run hg.ok 1000 rfl rfl ?_
    refine R_if rfl rfl (fun _ => ?_) (fun h => absurd h (by simp [hea])) <;> refine R_run hg.ok 1000 rfl rfl ?_
    rw [fa1 hea]
    refine R_if rfl rfl (fun _ => ?_) (fun h => absurd h (by simp [clRows])) <;> refine R_run hg.ok 1000 rfl rfl ?_
    refine R_call hg.ok (knows9_ok) rfl rfl rfl rfl rfl rfl ?_
    refine R_run hg.ok 1000 rfl rfl ?_
    refine R_ret hg 5 rfl rfl ?_
    rfl
  have hea : ea = 0 := Decidable.not_not.1 hea
  subst hea
  obtain ⟨rfl, hcna⟩ := fa2 rfl
  have hj := clau_joins hA hB hra hrb
  rw [hj] at hrc
  by_cases heb : eb ≠ 0
  · rw [if_pos heb] at hj
    refine R_call hg.ok (clausesT_ok _ hlc hj) rfl rfl rfl rfl rfl rfl ?_
    refine R_run hg.ok 1000 rfl rfl ?_
    refine R_if rfl rfl (fun h => absurd h (by simp)) (fun _ => ?_) <;> refine R_run hg.ok 1000 rfl rfl ?_
    refine R_if rfl rfl (fun _ => ?_) (fun h => absurd h (by simpa using heb)) <;> refine R_run hg.ok 1000 rfl rfl ?_
    refine R_if rfl rfl (fun _ => ?_) (fun h => absurd h (by simp)) <;> refine R_run hg.ok 1000 rfl rfl ?_
    rw [w64 (n := qb + ((Tx A).size : Int)) (by rw [Tx_size]; omega) (by rw [Tx_size]; omega), w64 (n := qb + ((Tx A).size : Int) + 1) (by rw [Tx_size]; omega) (by rw [Tx_size]; omega)]
    refine R_if rfl rfl (fun _ => ?_) (fun h => absurd h (by rw [Tx_size]; simp; omega)) <;> refine R_run hg.ok 1000 rfl rfl ?_
    refine R_if rfl rfl (fun _ => ?_) (fun h => absurd h (by simp [clRows])) <;> refine R_run hg.ok 1000 rfl rfl ?_
    refine R_call hg.ok (knows9_ok) rfl rfl rfl rfl rfl rfl ?_
    refine R_run hg.ok 1000 rfl rfl ?_
    refine R_ret hg 5 rfl rfl ?_
    rfl
  rw [if_neg heb] at hj
  obtain ⟨_, hcnb⟩ := fb2 (Decidable.not_not.1 heb)
  have hlen : (clRows (ca ++ cb)).length = ca.length + cb.length := by rw [clRows_len]; simp
  have hla2 := clRows_len ca
  have hlb2 := clRows_len cb
  refine R_call hg.ok (clausesT_ok _ hlc hj) rfl rfl rfl rfl rfl rfl ?_
  refine R_run hg.ok 1000 rfl rfl ?_
  refine R_if rfl rfl (fun h => absurd h (by simp)) (fun _ => ?_) <;> refine R_run hg.ok 1000 rfl rfl ?_
  refine R_if rfl rfl (fun h => absurd h (by simpa using heb)) (fun _ => ?_) <;> refine R_run hg.ok 1000 rfl rfl ?_
  refine R_if rfl rfl (fun h => absurd h (by simp)) (fun _ => ?_) <;> refine R_run hg.ok 1000 rfl rfl ?_
  rw [w64 (n := ((clRows ca).length : Int) + ((clRows cb).length : Int)) (by omega) (by omega)]
  refine R_if rfl rfl (fun h => absurd h (by simp; omega)) (fun _ => ?_) <;> refine R_run hg.ok 1000 rfl rfl ?_
  refine R_loop (fun k : Nat => ([(5, .d (.sl (clRows ca))), (8, .d (.sl (clRows cb))), (11, .d (.sl (clRows (ca ++ cb)))), (14, iV k)], [])) (fun k => k ≤ ca.length + cb.length) (fun k => ca.length + cb.length - k) 0 (Nat.zero_le _) ⟨.refl _, .refl _, .refl _, .refl _, trivial⟩ rfl ?_
  rintro k hk
  refine R_run hg.ok 1000 rfl rfl ?_
  refine R_if rfl rfl (fun h => ?_) (fun h => ?_) <;> refine R_run hg.ok 1000 rfl rfl ?_
  · have hk1 : k < ca.length + cb.length := lt_dec h (by rw [hlen])
    by_cases hkA : k < ca.length
    · have e1 : ca[k]? = some ca[k] := List.getElem?_eq_getElem hkA
      have e2 : (ca ++ cb)[k]? = some ca[k] := by rw [List.getElem?_append_left hkA]; exact e1
      have hm : ca[k] ∈ ca := List.getElem_mem hkA
      generalize ca[k] = x at e1 e2 hm
      refine R_if rfl rfl (fun _ => ?_) (fun h => absurd h (by simp; omega)) <;> refine R_run hg.ok 1000 rfl rfl ?_
      refine R_index hg.ok rfl rfl rfl rfl rfl rfl (Int.natCast_nonneg _) (clRows_get e2) rfl ?_
      refine R_run hg.ok 1000 rfl rfl ?_
      refine R_index hg.ok rfl rfl rfl rfl rfl rfl (Int.natCast_nonneg _) (clRows_get e1) rfl ?_
      refine R_run hg.ok 1000 rfl rfl ?_
      refine R_call hg.ok (same_clau hcna hm) rfl rfl rfl rfl rfl rfl ?_
      refine R_run hg.ok 1000 rfl rfl ?_
      refine R_if rfl rfl (fun h => absurd h (by simp)) (fun _ => ?_) <;> refine R_run hg.ok 1000 rfl rfl ?_
      refine R_if rfl rfl (fun h => absurd h (by simp; omega)) (fun _ => ?_) <;> refine R_run hg.ok 1000 rfl rfl ?_
      exact R_next (k + 1) hk1 (by omega) ⟨.refl _, .refl _, .refl _, Ent.wrap (by omega) (by omega) (by omega), trivial⟩ rfl
    · have hkB : k - ca.length < cb.length := by omega
      have e1 : cb[k - ca.length]? = some cb[k - ca.length] := List.getElem?_eq_getElem hkB
      have e2 : (ca ++ cb)[k]? = some cb[k - ca.length] := by rw [List.getElem?_append_right (by omega)]; exact e1
      have hm : cb[k - ca.length] ∈ cb := List.getElem_mem hkB
      generalize cb[k - ca.length] = x at e1 e2 hm
      refine R_if rfl rfl (fun h => absurd h (by simp; omega)) (fun _ => ?_) <;> refine R_run hg.ok 1000 rfl rfl ?_
      refine R_if rfl rfl (fun _ => ?_) (fun h => absurd h (by simp; omega)) <;> refine R_run hg.ok 1000 rfl rfl ?_
      refine R_index hg.ok rfl rfl rfl rfl rfl rfl (Int.natCast_nonneg _) (clRows_get e2) rfl ?_
      refine R_run hg.ok 1000 rfl rfl ?_
      rw [w64 (n := (k : Int) - ((clRows ca).length : Int)) (by omega) (by omega), show (k : Int) - ((clRows ca).length : Int) = ((k - ca.length : Nat) : Int) by omega]
      refine R_index hg.ok rfl rfl rfl rfl rfl rfl (Int.natCast_nonneg _) (clRows_get e1) rfl ?_
      refine R_run hg.ok 1000 rfl rfl ?_
      refine R_call hg.ok (same_clau hcnb hm) rfl rfl rfl rfl rfl rfl ?_
      refine R_run hg.ok 1000 rfl rfl ?_
      refine R_if rfl rfl (fun h => absurd h (by simp)) (fun _ => ?_) <;> refine R_run hg.ok 1000 rfl rfl ?_
      exact R_next (k + 1) hk1 (by omega) ⟨.refl _, .refl _, .refl _, Ent.wrap (by omega) (by omega) (by omega), trivial⟩ rfl
  · refine R_call hg.ok (knows9_ok) rfl rfl rfl rfl rfl rfl ?_
    refine R_run hg.ok 1000 rfl rfl ?_
    refine R_ret hg 5 rfl rfl ?_
    rfl
end Go.Proofs.Ythdpfglpdgmphaa
