import Derived.Test.YtcgkgofmldhokaaGreatM4
namespace Go.Proofs.YtcgkgofmldhokaaGreat
open Go PSL Go.Proofs

def bxT (t:Tm):Ob:=.box [.d (.v (.int .i64 t.k)),.d (.v (.string t.s)),.d (.v (.int .i64 t.n)),.d (.sl (Tm.rows t.l))]
def bxN:Ob:=.box [.d (.v (.int .i64 3)),.d (.v (.string ⟨#[91,93]⟩)),.d (.v (.int .i64 0)),.d (.v (.slice none 0 0))]
def boxZ:Ob:=.box [.d (.v (.int .i64 0)),.d (.v (.string ByteArray.empty)),.d (.v (.int .i64 0)),.d (.v (.slice none 0 0))]
theorem Ent.tblFrz (i s:Nat) (rows:List (List D)) (b:Bool):Ent (frzA i s rows (tblV b)) (tblV b):=by cases b <;> exact .refl _
theorem bxT_fn (s:Bs) (l:List Tm):bxT (fnT s l)=.box [.d (.v (.int .i64 3)),.d (.v (.string (Tx s))),.d (.v (.int .i64 0)),.d (.sl (Tm.rows l))]:=rfl

def lstE (S0:Bs) (L:List Tk) (deep:Int):(Nat × RSt × (Tm ⊕ List Tm × Nat))→Env × List Ob
 | (_,st,.inl t)=>([(0,.lo 0 0),(2,.lo 2 0),(3,.fs [rwT t])],rdX S0 L st deep++[boxZ])
 | (_,st,.inr p)=>([(0,.lo 0 0),(2,.lo 2 0),(3,.ow 3 p.2)],rdX S0 L st deep++[boxZ,.arr 4 p.2 (Tm.rows p.1)])

set_option maxRecDepth 100000 in
theorem rdList_ok (Y:YP) (S0:Bs) (L:List Tk) (hL:L.length≤9000) {T:TF} (hT:TCtr Y S0 L T) (hG:TGood L T) (deep:Nat) (hd:deep≤1000) (st:RSt) (hi:RInv L st) (t:Tm) (st':RSt) (h:listR S0 L T deep st=some (t,st')) :
  SCtr Tryz.prog Y 150 [.lo 0 0] (rdX S0 L st deep) t.av (rdX S0 L st' deep):=by
 obtain ⟨⟨l,st1⟩,h0,h2⟩:=Option.bind_eq_some_iff.1 h
 obtain ⟨⟨t0,st0⟩,h1,h3⟩:=Option.bind_eq_some_iff.1 h0
 simp only at h2 h3
 refine SCtr.of_R (pf:=fun _=>.eff) tyOk mixed Tryz.func150 rfl (by kernel_rfl) (by kernel_rfl) (by simp [Tryz.ntmps150]) (by simp [rdX,rdO,robj]) fun w S φ hg=>?_
 have hk:∀ (st:RSt) (o:List Ob),(rdX S0 L st deep).map (mapOb (sealT false 2 o 5))=rdX S0 L st deep:=fun st o=>rdX_keep _ _ _ _ _ _ (Nat.le_refl _)
 refine R_run hg.ok 1000 rfl rfl ?_
 refine R_callSO hg.ok hg.gup hg.wide hg.Y [0,1] (rdX S0 L st0 deep++[boxZ]) (hT deep 999 st t0 st0 h1 hd hi) (fun _=>rfl) rfl rfl rfl rfl rfl (by rw [rdX_ren]; rfl) rfl (by rw [rdX_ren]; rfl) ?_
 refine R_run hg.ok 1000 rfl rfl ?_
 refine R_cut2 (fun o:Tm ⊕ List Tm × Nat=>lstE S0 L deep (0,st1,o)) (fun o=>accS o=l∧RInv L st1∧l.length≤L.length+3) rfl ?_ ?_
 ·refine R_loop (lstE S0 L deep) (fun x=>manyR L T x.1 deep x.2.1 (accS x.2.2)=some (l,st1)∧RInv L x.2.1∧(accS x.2.2).length+x.1≤L.length+3) (fun x=>x.1) (L.length+2,st0,.inl t0) ⟨h3,hG _ _ _ _ _ h1 hi,by simp [accS]; omega⟩ ⟨.refl _,.refl _,.refl _,trivial⟩ rfl ?_
  rintro ⟨f,st2,o⟩ ⟨hm,hi2,hl⟩
  simp only at hm hi2 hl
  cases f with
  | zero=>cases hm
  | succ f =>
  simp only [manyR] at hm
  have hM:=xMark Y S0 L hL st2 deep [44]
  cases hmk:isMk (peekR L st2) [44] with
  | false =>
   rw [hmk] at hm hM
   simp only [Bool.false_eq_true,if_false] at hm hM
   have hm:=Option.some.inj hm
   obtain ⟨ha,rfl⟩:=Prod.mk.inj hm
   have hll:l.length≤L.length+3:=by rw [← ha]; omega
   cases o with
   | inl t2 =>
    refine R_run hg.ok 1000 rfl rfl ?_
    refine R_callSO hg.ok hg.gup hg.wide hg.Y [0,1] (rdX S0 L st2 deep++[boxZ]) (hM) (fun _=>rfl) rfl rfl rfl rfl rfl (by rw [rdX_ren]; rfl) rfl (by rw [rdX_ren]; rfl) ?_
    refine R_run hg.ok 1000 rfl rfl ?_
    refine R_if rfl rfl (fun h=>absurd h (by simp)) (fun _=>?_) <;> refine R_run hg.ok 1000 rfl rfl ?_
    exact R_to (.inl t2) ⟨ha,hi2,hll⟩ ⟨.refl _,.refl _,.refl _,trivial⟩ rfl
   | inr p =>
    refine R_run hg.ok 1000 rfl rfl ?_
    refine R_callSO hg.ok hg.gup hg.wide hg.Y [0,1] (rdX S0 L st2 deep++[boxZ,.arr 4 p.2 (Tm.rows p.1)]) (hM) (fun _=>rfl) rfl rfl rfl rfl rfl (by rw [rdX_ren]; rfl) rfl (by rw [rdX_ren]; rfl) ?_
    refine R_run hg.ok 1000 rfl rfl ?_
    refine R_if rfl rfl (fun h=>absurd h (by simp)) (fun _=>?_) <;> refine R_run hg.ok 1000 rfl rfl ?_
    exact R_to (.inr p) ⟨ha,hi2,hll⟩ ⟨.refl _,.refl _,.refl _,trivial⟩ rfl
  | true =>
   rw [hmk] at hm hM
   simp only [if_true] at hm hM
   obtain ⟨⟨x,st3⟩,hx,hm⟩:=Option.bind_eq_some_iff.1 hm
   have hi3:=hi2.nx (isMk_lt hmk).2
   have hc:=hT deep 999 (nxR st2) x st3 hx hd hi3
   have hi4:=hG _ _ _ _ _ hx hi3
   cases o with
   | inl t2 =>
    refine R_run hg.ok 1000 rfl rfl ?_
    refine R_callSO hg.ok hg.gup hg.wide hg.Y [0,1] (rdX S0 L (nxR st2) deep++[boxZ]) (hM) (fun _=>rfl) rfl rfl rfl rfl rfl (by rw [rdX_ren]; rfl) rfl (by rw [rdX_ren]; rfl) ?_
    refine R_run hg.ok 1000 rfl rfl ?_
    refine R_if rfl rfl (fun _=>?_) (fun h=>absurd h (by simp)) <;> refine R_run hg.ok 1000 rfl rfl ?_
    refine R_callSO hg.ok hg.gup hg.wide hg.Y [0,1] (rdX S0 L st3 deep++[boxZ]) (hc) (fun _=>rfl) rfl rfl rfl rfl rfl (by rw [rdX_ren]; rfl) rfl (by rw [rdX_ren]; rfl) ?_
    refine R_run hg.ok 1000 rfl rfl ?_
    refine R_appendF hg.ok rfl rfl (.inl rfl) rfl (.inr (by simp)) rfl rfl rfl (by simp [rwT]) (by simp) (by simp) (by simp) ?_
    refine R_run hg.ok 1000 rfl rfl ?_
    exact R_next (f,st3,.inr ([t2]++[x],0)) ⟨hm,hi4,by simp [accS] at hl ⊢; omega⟩ (by simp only; omega) ⟨.refl _,.refl _,.refl _,trivial⟩ (congrArg (fun r=>rdX S0 L st3 deep++[boxZ,Ob.arr 4 0 r]) (rwT_snoc [t2] x))
   | inr p =>
    refine R_run hg.ok 1000 rfl rfl ?_
    refine R_callSO hg.ok hg.gup hg.wide hg.Y [0,1] (rdX S0 L (nxR st2) deep++[boxZ,.arr 4 p.2 (Tm.rows p.1)]) (hM) (fun _=>rfl) rfl rfl rfl rfl rfl (by rw [rdX_ren]; rfl) rfl (by rw [rdX_ren]; rfl) ?_
    refine R_run hg.ok 1000 rfl rfl ?_
    refine R_if rfl rfl (fun _=>?_) (fun h=>absurd h (by simp)) <;> refine R_run hg.ok 1000 rfl rfl ?_
    refine R_callSO hg.ok hg.gup hg.wide hg.Y [0,1] (rdX S0 L st3 deep++[boxZ,.arr 4 p.2 (Tm.rows p.1)]) (hc) (fun _=>rfl) rfl rfl rfl rfl rfl (by rw [rdX_ren]; rfl) rfl (by rw [rdX_ren]; rfl) ?_
    refine R_run hg.ok 1000 rfl rfl ?_
    have hpl:(Tm.rows p.1).length=p.1.length:=Tm.rows_length _
    simp only [accS] at hl
    refine R_appendO hg.ok (Tm.rows (p.1++[x])) rfl rfl rfl rfl rfl rfl rfl rfl rfl (by simp) (by simp [one1]) (rwT_snoc2 p.1 x) (by simp; omega) (by simp; omega) ?_
    refine R_run hg.ok 1000 rfl rfl ?_
    exact R_next (f,st3,.inr (p.1++[x],p.2+1)) ⟨hm,hi4,by simp [accS]; omega⟩ (by simp only; omega) ⟨.refl _,.refl _,.refl _,trivial⟩ rfl
 rintro o ⟨ho,hi1,hll⟩
 cases o with
 | inl t2 =>
  have hr:Tm.rows l=[rwT t2]:=by rw [← ho,← rwT_rows]; rfl
  refine R_see 3 rfl (v':=.d (.sl (Tm.rows l))) (by rw [hr]; exact Ent.fs _) ?_
  have hM:=xMark Y S0 L hL st1 deep [124]
  cases hmk:isMk (peekR L st1) [124] with
  | true =>
   rw [hmk] at h2 hM
   simp only [if_true] at h2 hM
   refine R_run hg.ok 1000 rfl rfl ?_
   refine R_callSO hg.ok hg.gup hg.wide hg.Y [0,1] (rdX S0 L (nxR st1) deep++[boxZ,bxN]) (hM) (fun _=>rfl) rfl rfl rfl rfl rfl (by rw [rdX_ren]; rfl) rfl (by rw [rdX_ren]; rfl) ?_
   refine R_run hg.ok 1000 rfl rfl ?_
   obtain ⟨⟨y,st2⟩,hy,h2⟩:=Option.map_eq_some_iff.1 h2
   obtain ⟨rfl,rfl⟩:=Prod.mk.inj h2
   have hi2:=hi1.nx (isMk_lt hmk).2
   refine R_if rfl rfl (fun _=>?_) (fun h=>absurd h (by simp)) <;> refine R_run hg.ok 1000 rfl rfl ?_
   refine R_callSO hg.ok hg.gup hg.wide hg.Y [0,1] (rdX S0 L (st2) deep++[boxZ,bxN]) (hT deep 999 (nxR st1) y st2 hy hd hi2) (fun _=>rfl) rfl rfl rfl rfl rfl (by rw [rdX_ren]; rfl) rfl (by rw [rdX_ren]; rfl) ?_
   refine R_run hg.ok 1000 rfl rfl ?_
   refine R_callSO hg.ok hg.gup hg.wide hg.Y [0,1] (rdX S0 L (mustR L S0.length st2 [93]) deep++[boxZ,bxT (y)]) (xMust Y S0 L hL st2 deep [93]) (fun _=>rfl) rfl rfl rfl rfl rfl (by rw [rdX_ren]; rfl) rfl (by rw [rdX_ren]; rfl) ?_
   refine R_run hg.ok 1000 rfl rfl ?_
   refine R_see 5 rfl (v':=iV ((l.length:Int) - 1)) (Ent.wrap (by rw [Tm.rows_length]) (by omega) (by omega)) ?_
   refine R_cut2 (fun _:Unit=>([(2,.lo 2 0),(4,.lo 3 0)],rdX S0 L (mustR L S0.length st2 [93]) deep++[boxZ,bxT (consT l (y))])) (fun _=>True) rfl ?_ ?_
   ·refine R_loop (fun n:Nat=>([(2,.lo 2 0),(3,.d (.sl (Tm.rows l))),(4,.lo 3 0),(5,iV ((n:Int) - 1))],rdX S0 L (mustR L S0.length st2 [93]) deep++[boxZ,bxT (consT (l.drop n) (y))])) (fun n=>n≤l.length) (fun n=>n) l.length (Nat.le_refl _) ⟨.refl _,.refl _,.refl _,.refl _,trivial⟩ (by rw [List.drop_length]; rfl) ?_
    intro n hn
    refine R_run hg.ok 1000 rfl rfl ?_
    refine R_if rfl rfl (fun h=>?_) (fun h=>?_) <;> refine R_run hg.ok 1000 rfl rfl ?_
    ·have hn0:0<n:=by have:=of_decide_eq_true h; omega
     obtain ⟨n,rfl⟩:∃ m,n=m+1:=⟨n - 1,by omega⟩
     have hlt:n<l.length:=hn
     have hdr:l.drop n=l[n]::l.drop (n+1):=List.drop_eq_getElem_cons hlt
     have hix:(Tm.rows l)[n]? = some (rwT l[n]):=by rw [← rwT_rows]; simp [hlt]
     generalize l[n]=a at hdr hix
     refine R_index hg.ok rfl rfl rfl rfl rfl rfl (by omega) (by rw [show (((n+1:Nat):Int) - 1).toNat=n by omega]; exact hix) rfl ?_
     have hcons:consT (a::l.drop (n+1)) (y)=fnT [46] [a,consT (l.drop (n+1)) (y)]:=rfl
     have ha:Ob.box [.d (.v (.int .i64 3)),.d (.v (.string ⟨#[46]⟩)),.d (.v (.int .i64 0)),.d (.sl [rwT a,rwT (consT (l.drop (n+1)) (y))])]=bxT (consT (l.drop n) (y)):=by rw [hdr,hcons,bxT_fn,← rwT_rows]; rfl
     first
     | (refine R_run hg.ok 1 rfl rfl ?_; refine R_obs (rdX S0 L (mustR L S0.length st2 [93]) deep++[boxZ,.box [.d (.v (.int .i64 3)),.d (.v (.string ⟨#[46]⟩)),.d (.v (.int .i64 0)),.d (.sl [rwT a,rwT (consT (l.drop (n+1)) (y))])]]) ⟨.refl _,.refl _,.refl _,⟨.refl _,.refl _,.refl _,Ent.fs _,trivial⟩,trivial⟩ rfl ?_)
     | (refine R_run hg.ok 2 rfl rfl ?_; refine R_obs (rdX S0 L (mustR L S0.length st2 [93]) deep++[boxZ,.box [.d (.v (.int .i64 3)),.d (.v (.string ⟨#[46]⟩)),.d (.v (.int .i64 0)),.d (.sl [rwT a,rwT (consT (l.drop (n+1)) (y))])]]) ⟨.refl _,.refl _,.refl _,⟨.refl _,.refl _,.refl _,Ent.fs _,trivial⟩,trivial⟩ rfl ?_)
     | (refine R_run hg.ok 3 rfl rfl ?_; refine R_obs (rdX S0 L (mustR L S0.length st2 [93]) deep++[boxZ,.box [.d (.v (.int .i64 3)),.d (.v (.string ⟨#[46]⟩)),.d (.v (.int .i64 0)),.d (.sl [rwT a,rwT (consT (l.drop (n+1)) (y))])]]) ⟨.refl _,.refl _,.refl _,⟨.refl _,.refl _,.refl _,Ent.fs _,trivial⟩,trivial⟩ rfl ?_)
     | (refine R_run hg.ok 6 rfl rfl ?_; refine R_obs (rdX S0 L (mustR L S0.length st2 [93]) deep++[boxZ,.box [.d (.v (.int .i64 3)),.d (.v (.string ⟨#[46]⟩)),.d (.v (.int .i64 0)),.d (.sl [rwT a,rwT (consT (l.drop (n+1)) (y))])]]) ⟨.refl _,.refl _,.refl _,⟨.refl _,.refl _,.refl _,Ent.fs _,trivial⟩,trivial⟩ rfl ?_)
     rw [ha]
     refine R_run hg.ok 1000 rfl rfl ?_
     exact R_next n (by omega) (by omega) ⟨.refl _,.refl _,.refl _,Ent.wrap (by omega) (by omega) (by omega),trivial⟩ rfl
    ·have hn0:n=0:=by have:=of_decide_eq_false h; omega
     subst hn0
     exact R_to () trivial ⟨.refl _,.refl _,trivial⟩ rfl
   rintro _ _
   refine R_run hg.ok 1000 rfl rfl ?_
   exact R_retS hg 2 5 (Nat.le_refl _) rfl rfl (hk _ _)
  | false =>
   rw [hmk] at h2 hM
   simp only [Bool.false_eq_true,if_false] at h2 hM
   refine R_run hg.ok 1000 rfl rfl ?_
   refine R_callSO hg.ok hg.gup hg.wide hg.Y [0,1] (rdX S0 L (st1) deep++[boxZ,bxN]) (hM) (fun _=>rfl) rfl rfl rfl rfl rfl (by rw [rdX_ren]; rfl) rfl (by rw [rdX_ren]; rfl) ?_
   refine R_run hg.ok 1000 rfl rfl ?_
   have h2:=Option.some.inj h2
   obtain ⟨rfl,rfl⟩:=Prod.mk.inj h2
   refine R_if rfl rfl (fun h=>absurd h (by simp)) (fun _=>?_) <;> refine R_run hg.ok 1000 rfl rfl ?_
   refine R_callSO hg.ok hg.gup hg.wide hg.Y [0,1] (rdX S0 L (mustR L S0.length st1 [93]) deep++[boxZ,bxN]) (xMust Y S0 L hL st1 deep [93]) (fun _=>rfl) rfl rfl rfl rfl rfl (by rw [rdX_ren]; rfl) rfl (by rw [rdX_ren]; rfl) ?_
   refine R_run hg.ok 1000 rfl rfl ?_
   refine R_obs (rdX S0 L (mustR L S0.length st1 [93]) deep++[boxZ,bxT (fnT [91,93] [])]) ⟨.refl _,.refl _,.refl _,⟨.refl _,.refl _,.refl _,Ent.nil,trivial⟩,trivial⟩ rfl ?_
   refine R_see 5 rfl (v':=iV ((l.length:Int) - 1)) (Ent.wrap (by rw [Tm.rows_length]) (by omega) (by omega)) ?_
   refine R_cut2 (fun _:Unit=>([(2,.lo 2 0),(4,.lo 3 0)],rdX S0 L (mustR L S0.length st1 [93]) deep++[boxZ,bxT (consT l (fnT [91,93] []))])) (fun _=>True) rfl ?_ ?_
   ·refine R_loop (fun n:Nat=>([(2,.lo 2 0),(3,.d (.sl (Tm.rows l))),(4,.lo 3 0),(5,iV ((n:Int) - 1))],rdX S0 L (mustR L S0.length st1 [93]) deep++[boxZ,bxT (consT (l.drop n) (fnT [91,93] []))])) (fun n=>n≤l.length) (fun n=>n) l.length (Nat.le_refl _) ⟨.refl _,.refl _,.refl _,.refl _,trivial⟩ (by rw [List.drop_length]; rfl) ?_
    intro n hn
    refine R_run hg.ok 1000 rfl rfl ?_
    refine R_if rfl rfl (fun h=>?_) (fun h=>?_) <;> refine R_run hg.ok 1000 rfl rfl ?_
    ·have hn0:0<n:=by have:=of_decide_eq_true h; omega
     obtain ⟨n,rfl⟩:∃ m,n=m+1:=⟨n - 1,by omega⟩
     have hlt:n<l.length:=hn
     have hdr:l.drop n=l[n]::l.drop (n+1):=List.drop_eq_getElem_cons hlt
     have hix:(Tm.rows l)[n]? = some (rwT l[n]):=by rw [← rwT_rows]; simp [hlt]
     generalize l[n]=a at hdr hix
     refine R_index hg.ok rfl rfl rfl rfl rfl rfl (by omega) (by rw [show (((n+1:Nat):Int) - 1).toNat=n by omega]; exact hix) rfl ?_
     have hcons:consT (a::l.drop (n+1)) (fnT [91,93] [])=fnT [46] [a,consT (l.drop (n+1)) (fnT [91,93] [])]:=rfl
     have ha:Ob.box [.d (.v (.int .i64 3)),.d (.v (.string ⟨#[46]⟩)),.d (.v (.int .i64 0)),.d (.sl [rwT a,rwT (consT (l.drop (n+1)) (fnT [91,93] []))])]=bxT (consT (l.drop n) (fnT [91,93] [])):=by rw [hdr,hcons,bxT_fn,← rwT_rows]; rfl
     first
     | (refine R_run hg.ok 1 rfl rfl ?_; refine R_obs (rdX S0 L (mustR L S0.length st1 [93]) deep++[boxZ,.box [.d (.v (.int .i64 3)),.d (.v (.string ⟨#[46]⟩)),.d (.v (.int .i64 0)),.d (.sl [rwT a,rwT (consT (l.drop (n+1)) (fnT [91,93] []))])]]) ⟨.refl _,.refl _,.refl _,⟨.refl _,.refl _,.refl _,Ent.fs _,trivial⟩,trivial⟩ rfl ?_)
     | (refine R_run hg.ok 2 rfl rfl ?_; refine R_obs (rdX S0 L (mustR L S0.length st1 [93]) deep++[boxZ,.box [.d (.v (.int .i64 3)),.d (.v (.string ⟨#[46]⟩)),.d (.v (.int .i64 0)),.d (.sl [rwT a,rwT (consT (l.drop (n+1)) (fnT [91,93] []))])]]) ⟨.refl _,.refl _,.refl _,⟨.refl _,.refl _,.refl _,Ent.fs _,trivial⟩,trivial⟩ rfl ?_)
     | (refine R_run hg.ok 3 rfl rfl ?_; refine R_obs (rdX S0 L (mustR L S0.length st1 [93]) deep++[boxZ,.box [.d (.v (.int .i64 3)),.d (.v (.string ⟨#[46]⟩)),.d (.v (.int .i64 0)),.d (.sl [rwT a,rwT (consT (l.drop (n+1)) (fnT [91,93] []))])]]) ⟨.refl _,.refl _,.refl _,⟨.refl _,.refl _,.refl _,Ent.fs _,trivial⟩,trivial⟩ rfl ?_)
     | (refine R_run hg.ok 6 rfl rfl ?_; refine R_obs (rdX S0 L (mustR L S0.length st1 [93]) deep++[boxZ,.box [.d (.v (.int .i64 3)),.d (.v (.string ⟨#[46]⟩)),.d (.v (.int .i64 0)),.d (.sl [rwT a,rwT (consT (l.drop (n+1)) (fnT [91,93] []))])]]) ⟨.refl _,.refl _,.refl _,⟨.refl _,.refl _,.refl _,Ent.fs _,trivial⟩,trivial⟩ rfl ?_)
     rw [ha]
     refine R_run hg.ok 1000 rfl rfl ?_
     exact R_next n (by omega) (by omega) ⟨.refl _,.refl _,.refl _,Ent.wrap (by omega) (by omega) (by omega),trivial⟩ rfl
    ·have hn0:n=0:=by have:=of_decide_eq_false h; omega
     subst hn0
     exact R_to () trivial ⟨.refl _,.refl _,trivial⟩ rfl
   rintro _ _
   refine R_run hg.ok 1000 rfl rfl ?_
   exact R_retS hg 2 5 (Nat.le_refl _) rfl rfl (hk _ _)
 | inr p =>
  obtain ⟨l',j⟩:=p
  have ho:l=l':=ho.symm
  subst ho
  refine R_freezeO hg.gup 3 [(0,.lo 0 0),(2,.lo 2 0),(3,.d (.sl (Tm.rows l)))] (rdX S0 L st1 deep++[boxZ,.dead]) rfl rfl ⟨.refl _,.refl _,Ent.frz 3 j _,trivial⟩ ⟨⟨.refl _,.refl _,.refl _,.refl _,.refl _,.refl _,.refl _,.refl _,.refl _,.refl _,Ent.tblFrz 3 j _ st1.lay,trivial⟩,rfl,⟨.refl _,.refl _,.refl _,.refl _,trivial⟩,by simp [ObIn],trivial⟩ ?_
  have hM:=xMark Y S0 L hL st1 deep [124]
  cases hmk:isMk (peekR L st1) [124] with
  | true =>
   rw [hmk] at h2 hM
   simp only [if_true] at h2 hM
   refine R_run hg.ok 1000 rfl rfl ?_
   refine R_callSO hg.ok hg.gup hg.wide hg.Y [0,1] (rdX S0 L (nxR st1) deep++[boxZ,.dead,bxN]) (hM) (fun _=>rfl) rfl rfl rfl rfl rfl (by rw [rdX_ren]; rfl) rfl (by rw [rdX_ren]; rfl) ?_
   refine R_run hg.ok 1000 rfl rfl ?_
   obtain ⟨⟨y,st2⟩,hy,h2⟩:=Option.map_eq_some_iff.1 h2
   obtain ⟨rfl,rfl⟩:=Prod.mk.inj h2
   have hi2:=hi1.nx (isMk_lt hmk).2
   refine R_if rfl rfl (fun _=>?_) (fun h=>absurd h (by simp)) <;> refine R_run hg.ok 1000 rfl rfl ?_
   refine R_callSO hg.ok hg.gup hg.wide hg.Y [0,1] (rdX S0 L (st2) deep++[boxZ,.dead,bxN]) (hT deep 999 (nxR st1) y st2 hy hd hi2) (fun _=>rfl) rfl rfl rfl rfl rfl (by rw [rdX_ren]; rfl) rfl (by rw [rdX_ren]; rfl) ?_
   refine R_run hg.ok 1000 rfl rfl ?_
   refine R_callSO hg.ok hg.gup hg.wide hg.Y [0,1] (rdX S0 L (mustR L S0.length st2 [93]) deep++[boxZ,.dead,bxT (y)]) (xMust Y S0 L hL st2 deep [93]) (fun _=>rfl) rfl rfl rfl rfl rfl (by rw [rdX_ren]; rfl) rfl (by rw [rdX_ren]; rfl) ?_
   refine R_run hg.ok 1000 rfl rfl ?_
   refine R_see 5 rfl (v':=iV ((l.length:Int) - 1)) (Ent.wrap (by rw [Tm.rows_length]) (by omega) (by omega)) ?_
   refine R_cut2 (fun _:Unit=>([(2,.lo 2 0),(4,.lo 4 0)],rdX S0 L (mustR L S0.length st2 [93]) deep++[boxZ,.dead,bxT (consT l (y))])) (fun _=>True) rfl ?_ ?_
   ·refine R_loop (fun n:Nat=>([(2,.lo 2 0),(3,.d (.sl (Tm.rows l))),(4,.lo 4 0),(5,iV ((n:Int) - 1))],rdX S0 L (mustR L S0.length st2 [93]) deep++[boxZ,.dead,bxT (consT (l.drop n) (y))])) (fun n=>n≤l.length) (fun n=>n) l.length (Nat.le_refl _) ⟨.refl _,.refl _,.refl _,.refl _,trivial⟩ (by rw [List.drop_length]; rfl) ?_
    intro n hn
    refine R_run hg.ok 1000 rfl rfl ?_
    refine R_if rfl rfl (fun h=>?_) (fun h=>?_) <;> refine R_run hg.ok 1000 rfl rfl ?_
    ·have hn0:0<n:=by have:=of_decide_eq_true h; omega
     obtain ⟨n,rfl⟩:∃ m,n=m+1:=⟨n - 1,by omega⟩
     have hlt:n<l.length:=hn
     have hdr:l.drop n=l[n]::l.drop (n+1):=List.drop_eq_getElem_cons hlt
     have hix:(Tm.rows l)[n]? = some (rwT l[n]):=by rw [← rwT_rows]; simp [hlt]
     generalize l[n]=a at hdr hix
     refine R_index hg.ok rfl rfl rfl rfl rfl rfl (by omega) (by rw [show (((n+1:Nat):Int) - 1).toNat=n by omega]; exact hix) rfl ?_
     have hcons:consT (a::l.drop (n+1)) (y)=fnT [46] [a,consT (l.drop (n+1)) (y)]:=rfl
     have ha:Ob.box [.d (.v (.int .i64 3)),.d (.v (.string ⟨#[46]⟩)),.d (.v (.int .i64 0)),.d (.sl [rwT a,rwT (consT (l.drop (n+1)) (y))])]=bxT (consT (l.drop n) (y)):=by rw [hdr,hcons,bxT_fn,← rwT_rows]; rfl
     first
     | (refine R_run hg.ok 1 rfl rfl ?_; refine R_obs (rdX S0 L (mustR L S0.length st2 [93]) deep++[boxZ,.dead,.box [.d (.v (.int .i64 3)),.d (.v (.string ⟨#[46]⟩)),.d (.v (.int .i64 0)),.d (.sl [rwT a,rwT (consT (l.drop (n+1)) (y))])]]) ⟨.refl _,.refl _,.refl _,.refl _,⟨.refl _,.refl _,.refl _,Ent.fs _,trivial⟩,trivial⟩ rfl ?_)
     | (refine R_run hg.ok 2 rfl rfl ?_; refine R_obs (rdX S0 L (mustR L S0.length st2 [93]) deep++[boxZ,.dead,.box [.d (.v (.int .i64 3)),.d (.v (.string ⟨#[46]⟩)),.d (.v (.int .i64 0)),.d (.sl [rwT a,rwT (consT (l.drop (n+1)) (y))])]]) ⟨.refl _,.refl _,.refl _,.refl _,⟨.refl _,.refl _,.refl _,Ent.fs _,trivial⟩,trivial⟩ rfl ?_)
     | (refine R_run hg.ok 3 rfl rfl ?_; refine R_obs (rdX S0 L (mustR L S0.length st2 [93]) deep++[boxZ,.dead,.box [.d (.v (.int .i64 3)),.d (.v (.string ⟨#[46]⟩)),.d (.v (.int .i64 0)),.d (.sl [rwT a,rwT (consT (l.drop (n+1)) (y))])]]) ⟨.refl _,.refl _,.refl _,.refl _,⟨.refl _,.refl _,.refl _,Ent.fs _,trivial⟩,trivial⟩ rfl ?_)
     | (refine R_run hg.ok 6 rfl rfl ?_; refine R_obs (rdX S0 L (mustR L S0.length st2 [93]) deep++[boxZ,.dead,.box [.d (.v (.int .i64 3)),.d (.v (.string ⟨#[46]⟩)),.d (.v (.int .i64 0)),.d (.sl [rwT a,rwT (consT (l.drop (n+1)) (y))])]]) ⟨.refl _,.refl _,.refl _,.refl _,⟨.refl _,.refl _,.refl _,Ent.fs _,trivial⟩,trivial⟩ rfl ?_)
     rw [ha]
     refine R_run hg.ok 1000 rfl rfl ?_
     exact R_next n (by omega) (by omega) ⟨.refl _,.refl _,.refl _,Ent.wrap (by omega) (by omega) (by omega),trivial⟩ rfl
    ·have hn0:n=0:=by have:=of_decide_eq_false h; omega
     subst hn0
     exact R_to () trivial ⟨.refl _,.refl _,trivial⟩ rfl
   rintro _ _
   refine R_run hg.ok 1000 rfl rfl ?_
   exact R_retS hg 2 5 (Nat.le_refl _) rfl rfl (hk _ _)
  | false =>
   rw [hmk] at h2 hM
   simp only [Bool.false_eq_true,if_false] at h2 hM
   refine R_run hg.ok 1000 rfl rfl ?_
   refine R_callSO hg.ok hg.gup hg.wide hg.Y [0,1] (rdX S0 L (st1) deep++[boxZ,.dead,bxN]) (hM) (fun _=>rfl) rfl rfl rfl rfl rfl (by rw [rdX_ren]; rfl) rfl (by rw [rdX_ren]; rfl) ?_
   refine R_run hg.ok 1000 rfl rfl ?_
   have h2:=Option.some.inj h2
   obtain ⟨rfl,rfl⟩:=Prod.mk.inj h2
   refine R_if rfl rfl (fun h=>absurd h (by simp)) (fun _=>?_) <;> refine R_run hg.ok 1000 rfl rfl ?_
   refine R_callSO hg.ok hg.gup hg.wide hg.Y [0,1] (rdX S0 L (mustR L S0.length st1 [93]) deep++[boxZ,.dead,bxN]) (xMust Y S0 L hL st1 deep [93]) (fun _=>rfl) rfl rfl rfl rfl rfl (by rw [rdX_ren]; rfl) rfl (by rw [rdX_ren]; rfl) ?_
   refine R_run hg.ok 1000 rfl rfl ?_
   refine R_obs (rdX S0 L (mustR L S0.length st1 [93]) deep++[boxZ,.dead,bxT (fnT [91,93] [])]) ⟨.refl _,.refl _,.refl _,.refl _,⟨.refl _,.refl _,.refl _,Ent.nil,trivial⟩,trivial⟩ rfl ?_
   refine R_see 5 rfl (v':=iV ((l.length:Int) - 1)) (Ent.wrap (by rw [Tm.rows_length]) (by omega) (by omega)) ?_
   refine R_cut2 (fun _:Unit=>([(2,.lo 2 0),(4,.lo 4 0)],rdX S0 L (mustR L S0.length st1 [93]) deep++[boxZ,.dead,bxT (consT l (fnT [91,93] []))])) (fun _=>True) rfl ?_ ?_
   ·refine R_loop (fun n:Nat=>([(2,.lo 2 0),(3,.d (.sl (Tm.rows l))),(4,.lo 4 0),(5,iV ((n:Int) - 1))],rdX S0 L (mustR L S0.length st1 [93]) deep++[boxZ,.dead,bxT (consT (l.drop n) (fnT [91,93] []))])) (fun n=>n≤l.length) (fun n=>n) l.length (Nat.le_refl _) ⟨.refl _,.refl _,.refl _,.refl _,trivial⟩ (by rw [List.drop_length]; rfl) ?_
    intro n hn
    refine R_run hg.ok 1000 rfl rfl ?_
    refine R_if rfl rfl (fun h=>?_) (fun h=>?_) <;> refine R_run hg.ok 1000 rfl rfl ?_
    ·have hn0:0<n:=by have:=of_decide_eq_true h; omega
     obtain ⟨n,rfl⟩:∃ m,n=m+1:=⟨n - 1,by omega⟩
     have hlt:n<l.length:=hn
     have hdr:l.drop n=l[n]::l.drop (n+1):=List.drop_eq_getElem_cons hlt
     have hix:(Tm.rows l)[n]? = some (rwT l[n]):=by rw [← rwT_rows]; simp [hlt]
     generalize l[n]=a at hdr hix
     refine R_index hg.ok rfl rfl rfl rfl rfl rfl (by omega) (by rw [show (((n+1:Nat):Int) - 1).toNat=n by omega]; exact hix) rfl ?_
     have hcons:consT (a::l.drop (n+1)) (fnT [91,93] [])=fnT [46] [a,consT (l.drop (n+1)) (fnT [91,93] [])]:=rfl
     have ha:Ob.box [.d (.v (.int .i64 3)),.d (.v (.string ⟨#[46]⟩)),.d (.v (.int .i64 0)),.d (.sl [rwT a,rwT (consT (l.drop (n+1)) (fnT [91,93] []))])]=bxT (consT (l.drop n) (fnT [91,93] [])):=by rw [hdr,hcons,bxT_fn,← rwT_rows]; rfl
     first
     | (refine R_run hg.ok 1 rfl rfl ?_; refine R_obs (rdX S0 L (mustR L S0.length st1 [93]) deep++[boxZ,.dead,.box [.d (.v (.int .i64 3)),.d (.v (.string ⟨#[46]⟩)),.d (.v (.int .i64 0)),.d (.sl [rwT a,rwT (consT (l.drop (n+1)) (fnT [91,93] []))])]]) ⟨.refl _,.refl _,.refl _,.refl _,⟨.refl _,.refl _,.refl _,Ent.fs _,trivial⟩,trivial⟩ rfl ?_)
     | (refine R_run hg.ok 2 rfl rfl ?_; refine R_obs (rdX S0 L (mustR L S0.length st1 [93]) deep++[boxZ,.dead,.box [.d (.v (.int .i64 3)),.d (.v (.string ⟨#[46]⟩)),.d (.v (.int .i64 0)),.d (.sl [rwT a,rwT (consT (l.drop (n+1)) (fnT [91,93] []))])]]) ⟨.refl _,.refl _,.refl _,.refl _,⟨.refl _,.refl _,.refl _,Ent.fs _,trivial⟩,trivial⟩ rfl ?_)
     | (refine R_run hg.ok 3 rfl rfl ?_; refine R_obs (rdX S0 L (mustR L S0.length st1 [93]) deep++[boxZ,.dead,.box [.d (.v (.int .i64 3)),.d (.v (.string ⟨#[46]⟩)),.d (.v (.int .i64 0)),.d (.sl [rwT a,rwT (consT (l.drop (n+1)) (fnT [91,93] []))])]]) ⟨.refl _,.refl _,.refl _,.refl _,⟨.refl _,.refl _,.refl _,Ent.fs _,trivial⟩,trivial⟩ rfl ?_)
     | (refine R_run hg.ok 6 rfl rfl ?_; refine R_obs (rdX S0 L (mustR L S0.length st1 [93]) deep++[boxZ,.dead,.box [.d (.v (.int .i64 3)),.d (.v (.string ⟨#[46]⟩)),.d (.v (.int .i64 0)),.d (.sl [rwT a,rwT (consT (l.drop (n+1)) (fnT [91,93] []))])]]) ⟨.refl _,.refl _,.refl _,.refl _,⟨.refl _,.refl _,.refl _,Ent.fs _,trivial⟩,trivial⟩ rfl ?_)
     rw [ha]
     refine R_run hg.ok 1000 rfl rfl ?_
     exact R_next n (by omega) (by omega) ⟨.refl _,.refl _,.refl _,Ent.wrap (by omega) (by omega) (by omega),trivial⟩ rfl
    ·have hn0:n=0:=by have:=of_decide_eq_false h; omega
     subst hn0
     exact R_to () trivial ⟨.refl _,.refl _,trivial⟩ rfl
   rintro _ _
   refine R_run hg.ok 1000 rfl rfl ?_
   exact R_retS hg 2 5 (Nat.le_refl _) rfl rfl (hk _ _)
end Go.Proofs.YtcgkgofmldhokaaGreat

namespace Go.Proofs.YtcgkgofmldhokaaGreat
open Go PSL Go.Proofs
def pfNam:Nat→Cls:=fun f=>bif Nat.beq f 154 then .turn 3 else bif Nat.beq f 95 then .turn 3 else bif Nat.beq f 4000100067 then .look 4 else bif Nat.beq f 4000100092 then .look 4 else .eff

set_option maxRecDepth 100000 in
theorem rdNamed_ok (Y:YP) (S0:Bs) (L:List Tk) (hL:L.length≤9000) (hS:S0.length≤9000) {T:TF} (hT:TCtr Y S0 L T) (hG:TGood L T) (deep:Nat) (hd:deep≤1000) (st:RSt) (hi:RInv L st) (hl:st.at_<L.length) (hpl:∀ t∈L,0≤t.at_∧t.at_<S0.length∧0≤t.n∧t.n≤9223372036854775807) (p:Int) (t:Tk) (ht:t∈L) (x:Tm × Int × RSt) (h:namedR S0 L T deep p t st=some x) :
  SCtr Tryz.prog Y 147 [.lo 0 0,tkA t,iV p] (rdX S0 L st deep) (.tup [x.1.av,iV x.2.1]) (rdX S0 L x.2.2 deep):=by
 refine SCtr.of_R (pf:=pfNam) tyOk mixed Tryz.func147 rfl (by kernel_rfl) (by kernel_rfl) (by simp [Tryz.ntmps147]) (by simp [rdX,rdO,robj]) fun w S φ hg=>?_
 have hφ:φ.length=2:=hg.hs0.len
 have hk:∀ (st:RSt) (o:List Ob),(rdX S0 L st deep).map (mapOb (sealT false 2 o 5))=rdX S0 L st deep:=fun st o=>rdX_keep _ _ _ _ _ _ (Nat.le_refl _)
 have hn:=hi.nx hl
 have ht1:=hpl t ht
 obtain ⟨M,hM⟩:∃ M,M=((t.text==[45])&&decide (S0[t.at_.toNat]? = some 45)):=⟨_,rfl⟩
 refine R_run hg.ok 4 rfl rfl ?_
 refine R_cut1 (fun _:Unit=>([(0,.lo 0 0),(2,iV p),(4,.lo 2 0),(6,.lo 3 0),(8,bV M)],rdX S0 L st deep++[tkO t,boxZ])) (fun _=>True) rfl ?_ ?_
 ·have e45:strEq (Tx t.text) ⟨#[45]⟩=(t.text==[45]):=Tx_eq _ _
  refine R_run hg.ok 1000 rfl rfl ?_
  by_cases h45:t.text=[45]
  ·refine R_if rfl rfl (fun _=>?_) (fun h=>absurd h (by rw [e45,h45]; simp)) <;> refine R_run hg.ok 1000 rfl rfl ?_
   have hlt:t.at_.toNat<S0.length:=by omega
   have e1:S0[t.at_.toNat]? = some S0[t.at_.toNat]:=List.getElem?_eq_getElem hlt
   generalize S0[t.at_.toNat]=c at e1
   rw [e1] at hM
   refine R_indexS hg.ok rfl rfl rfl rfl rfl ht1.1 (b:=c) (by rw [Tx_get]; exact e1) ?_
   have hc:decide ((c.toNat:Int)=45)=M:=by
    rw [hM,h45]
    by_cases hc:c=45
    ·subst hc; rfl
    ·have:¬ (c.toNat:Int)=45:=fun h=>hc (UInt8.toNat_inj.1 (Int.ofNat_inj.1 (show ((c.toNat:Nat):Int)=(((45:UInt8).toNat:Nat):Int) from h)))
     simp [hc,this]
   refine R_run hg.ok 1000 rfl rfl ?_
   exact R_to () trivial ⟨.refl _,.refl _,.refl _,.refl _,by rw [← hc]; exact .refl _,trivial⟩ rfl
  ·refine R_if rfl rfl (fun h=>absurd h (by rw [e45]; simpa using h45)) (fun _=>?_) <;> refine R_run hg.ok 1000 rfl rfl ?_
   have hM:M=false:=by rw [hM]; simp [h45]
   subst hM
   exact R_to () trivial ⟨.refl _,.refl _,.refl _,.refl _,by first | exact .refl _ | exact Ent.ff,trivial⟩ rfl
 rintro _ _
 first
 | (refine R_run hg.ok 1 rfl rfl ?_; refine R_rdAt (st:=st) (st.at_+1) (rfl) (by omega) rfl ?_)
 | (refine R_run hg.ok 2 rfl rfl ?_; refine R_rdAt (st:=st) (st.at_+1) (rfl) (by omega) rfl ?_)
 | (refine R_run hg.ok 3 rfl rfl ?_; refine R_rdAt (st:=st) (st.at_+1) (rfl) (by omega) rfl ?_)
 | (refine R_run hg.ok 4 rfl rfl ?_; refine R_rdAt (st:=st) (st.at_+1) (rfl) (by omega) rfl ?_)
 | (refine R_run hg.ok 5 rfl rfl ?_; refine R_rdAt (st:=st) (st.at_+1) (rfl) (by omega) rfl ?_)
 | (refine R_run hg.ok 6 rfl rfl ?_; refine R_rdAt (st:=st) (st.at_+1) (rfl) (by omega) rfl ?_)
 | (refine R_run hg.ok 7 rfl rfl ?_; refine R_rdAt (st:=st) (st.at_+1) (rfl) (by omega) rfl ?_)
 refine R_run hg.ok 1000 rfl rfl ?_
 refine R_callSO hg.ok hg.gup hg.wide hg.Y [0,1] (rdX S0 L (nxR st) deep++[tkO t,boxZ]) (xPeek Y S0 L (nxR st) deep) (fun _=>rfl) rfl rfl rfl rfl rfl (by rw [rdX_ren]; rfl) rfl (by rw [rdX_ren]; rfl) ?_
 refine R_run hg.ok 1000 rfl rfl ?_
 refine R_call hg.ok (rdPrefix_ok t.text) rfl rfl rfl rfl rfl rfl ?_
 refine R_run hg.ok 1000 rfl rfl ?_
 unfold namedR at h
 have hpk:=peek_lt (L:=L) (st:=nxR st)
 have hum:(peekR L (nxR st)).kind≠0→peekR L (nxR st)∈L:=fun h=>by
  have:=hpk h
  unfold peekR
  rw [if_neg (by simpa using this.1),List.getElem?_eq_getElem this.2]
  exact List.getElem_mem _
 rw [show minR S0 t (peekR L (nxR st))=(M&&decide ((peekR L (nxR st)).kind=3)&&decide ((peekR L (nxR st)).at_=t.at_+1)) by rw [hM]; rfl] at h
 obtain ⟨u,hu⟩:∃ u,u=peekR L (nxR st):=⟨_,rfl⟩
 rw [← hu] at h hpk hum ⊢
 obtain ⟨mr,hmr⟩:∃ mr,mr=(M&&decide (u.kind=3)&&decide (u.at_=t.at_+1)):=⟨_,rfl⟩
 have hw:IntKind.i64.wrap (t.at_+1)=t.at_+1:=wrap_id (by omega) (by omega)
 refine R_cut1 (fun _:Unit=>([(0,.lo 0 0),(2,iV p),(4,.lo 2 0),(6,.lo 3 0),(9,.lo 4 0),(10,iV (preT t.text)),(36,bV mr)],rdX S0 L (nxR st) deep++[tkO t,boxZ,tkO u])) (fun _=>True) rfl ?_ ?_
 ·cases M with
  | false =>
   refine R_if rfl rfl (fun h=>absurd h (by simp)) (fun _=>?_) <;> refine R_run hg.ok 1000 rfl rfl ?_
   have hmr:mr=false:=by rw [hmr]; rfl
   subst hmr
   exact R_to () trivial ⟨.refl _,.refl _,.refl _,.refl _,.refl _,.refl _,by first | exact .refl _ | exact Ent.ff,trivial⟩ rfl
  | true =>
   refine R_if rfl rfl (fun _=>?_) (fun h=>absurd h (by simp)) <;> refine R_run hg.ok 1000 rfl rfl ?_
   by_cases h3:u.kind=3
   ·refine R_if rfl rfl (fun _=>?_) (fun h=>absurd h (by simp [h3])) <;> refine R_run hg.ok 1000 rfl rfl ?_
    have hmr:decide (u.at_=IntKind.i64.wrap (t.at_+1))=mr:=by rw [hmr,hw]; simp [h3]
    exact R_to () trivial ⟨.refl _,.refl _,.refl _,.refl _,.refl _,.refl _,by rw [← hmr]; exact .refl _,trivial⟩ rfl
   ·refine R_if rfl rfl (fun h=>absurd h (by simp [h3])) (fun _=>?_) <;> refine R_run hg.ok 1000 rfl rfl ?_
    have hmr:mr=false:=by rw [hmr]; simp [h3]
    subst hmr
    exact R_to () trivial ⟨.refl _,.refl _,.refl _,.refl _,.refl _,.refl _,by first | exact .refl _ | exact Ent.ff,trivial⟩ rfl
 rintro _ _
 rw [← hmr] at h
 refine R_run hg.ok 1000 rfl rfl ?_
 cases mr with
 | true =>
  have hk3:u.kind=3:=by
   have:=hmr.symm
   simp only [Bool.and_eq_true,decide_eq_true_eq] at this
   exact this.1.2
  have hul:=(hpk (by rw [hk3]; decide)).2
  have hu1:=hpl u (hum (by rw [hk3]; decide))
  simp only [if_true,Option.some.injEq] at h
  subst h
  simp only
  refine R_if rfl rfl (fun _=>?_) (fun h=>absurd h (by simp))
  first
  | (refine R_run hg.ok 1 rfl rfl ?_; refine R_rdAt (st:=nxR st) (st.at_+1+1) (rfl) (by omega) rfl ?_)
  | (refine R_run hg.ok 2 rfl rfl ?_; refine R_rdAt (st:=nxR st) (st.at_+1+1) (rfl) (by omega) rfl ?_)
  | (refine R_run hg.ok 3 rfl rfl ?_; refine R_rdAt (st:=nxR st) (st.at_+1+1) (rfl) (by omega) rfl ?_)
  | (refine R_run hg.ok 4 rfl rfl ?_; refine R_rdAt (st:=nxR st) (st.at_+1+1) (rfl) (by omega) rfl ?_)
  | (refine R_run hg.ok 5 rfl rfl ?_; refine R_rdAt (st:=nxR st) (st.at_+1+1) (rfl) (by omega) rfl ?_)
  | (refine R_run hg.ok 6 rfl rfl ?_; refine R_rdAt (st:=nxR st) (st.at_+1+1) (rfl) (by omega) rfl ?_)
  | (refine R_run hg.ok 7 rfl rfl ?_; refine R_rdAt (st:=nxR st) (st.at_+1+1) (rfl) (by omega) rfl ?_)
  | (refine R_run hg.ok 8 rfl rfl ?_; refine R_rdAt (st:=nxR st) (st.at_+1+1) (rfl) (by omega) rfl ?_)
  first
  | (refine R_run hg.ok 1 rfl rfl ?_; refine R_obs (rdX S0 L (nxR (nxR st)) deep++[tkO t,.box [.d (.v (.int .i64 2)),.d (.v (.string ByteArray.empty)),iV (-u.n),.d (.v (.slice none 0 0))],tkO u]) ⟨.refl _,.refl _,.refl _,⟨.refl _,.refl _,Ent.wrap (by omega) (by omega) (by omega),.refl _,trivial⟩,.refl _,trivial⟩ rfl ?_)
  | (refine R_run hg.ok 2 rfl rfl ?_; refine R_obs (rdX S0 L (nxR (nxR st)) deep++[tkO t,.box [.d (.v (.int .i64 2)),.d (.v (.string ByteArray.empty)),iV (-u.n),.d (.v (.slice none 0 0))],tkO u]) ⟨.refl _,.refl _,.refl _,⟨.refl _,.refl _,Ent.wrap (by omega) (by omega) (by omega),.refl _,trivial⟩,.refl _,trivial⟩ rfl ?_)
  | (refine R_run hg.ok 3 rfl rfl ?_; refine R_obs (rdX S0 L (nxR (nxR st)) deep++[tkO t,.box [.d (.v (.int .i64 2)),.d (.v (.string ByteArray.empty)),iV (-u.n),.d (.v (.slice none 0 0))],tkO u]) ⟨.refl _,.refl _,.refl _,⟨.refl _,.refl _,Ent.wrap (by omega) (by omega) (by omega),.refl _,trivial⟩,.refl _,trivial⟩ rfl ?_)
  | (refine R_run hg.ok 4 rfl rfl ?_; refine R_obs (rdX S0 L (nxR (nxR st)) deep++[tkO t,.box [.d (.v (.int .i64 2)),.d (.v (.string ByteArray.empty)),iV (-u.n),.d (.v (.slice none 0 0))],tkO u]) ⟨.refl _,.refl _,.refl _,⟨.refl _,.refl _,Ent.wrap (by omega) (by omega) (by omega),.refl _,trivial⟩,.refl _,trivial⟩ rfl ?_)
  | (refine R_run hg.ok 5 rfl rfl ?_; refine R_obs (rdX S0 L (nxR (nxR st)) deep++[tkO t,.box [.d (.v (.int .i64 2)),.d (.v (.string ByteArray.empty)),iV (-u.n),.d (.v (.slice none 0 0))],tkO u]) ⟨.refl _,.refl _,.refl _,⟨.refl _,.refl _,Ent.wrap (by omega) (by omega) (by omega),.refl _,trivial⟩,.refl _,trivial⟩ rfl ?_)
  refine R_run hg.ok 1000 rfl rfl ?_
  exact R_retS hg 2 5 (Nat.le_refl _) rfl rfl (hk (nxR (nxR st)) _)
 | false =>
  simp only [Bool.false_eq_true,if_false] at h
  refine R_if rfl rfl (fun h=>absurd h (by simp)) (fun _=>?_) <;> refine R_run hg.ok 1000 rfl rfl ?_
  by_cases ho:t.opn=true
  ·rw [if_pos ho] at h
   obtain ⟨⟨l,st1⟩,h1,h⟩:=Option.map_eq_some_iff.1 h
   subst h
   simp only
   refine R_if rfl rfl (fun _=>?_) (fun h=>absurd h (by simp [ho])) <;> refine R_run hg.ok 1000 rfl rfl ?_
   refine R_callSO hg.ok hg.gup hg.wide hg.Y [0,1] (rdX S0 L (mustR L S0.length (nxR st) [40]) deep++[tkO t,boxZ,tkO u]) (xMust Y S0 L hL (nxR st) deep [40]) (fun _=>rfl) rfl rfl rfl rfl rfl (by rw [rdX_ren]; rfl) rfl (by rw [rdX_ren]; rfl) ?_
   refine R_run hg.ok 1000 rfl rfl ?_
   refine R_load4 hg.ok (by show φ.length≤2; omega) rfl rfl rfl rfl rfl rfl rfl ?_
   refine R_run hg.ok 1000 rfl rfl ?_
   refine R_callS3 hg.ok hg.gup hg.wide hg.Y [0,1] (rdX S0 L (mustR L S0.length st1 [41]) deep++[tkO t,boxZ,tkO u]) (rdSeveral_ok Y S0 L hL hT hG deep hd _ hn.must l st1 h1 [41]) (fun _=>rfl) (fun i hi=>by show i<φ.length; simp at hi; omega) rfl rfl rfl rfl rfl (by rw [rdX_ren]; rfl) rfl (by rw [rdX_ren]; rfl) ?_
   refine R_run hg.ok 1000 rfl rfl ?_
   exact R_retS hg 2 5 (Nat.le_refl _) rfl rfl (hk _ _)
  rw [if_neg ho] at h
  refine R_if rfl rfl (fun h=>absurd h (by simp [ho])) (fun _=>?_) <;> refine R_run hg.ok 1000 rfl rfl ?_
  by_cases hp:0<preT t.text
  ·rw [if_pos hp] at h
   refine R_if rfl rfl (fun _=>?_) (fun h=>absurd h (by simp [hp])) <;> refine R_run hg.ok 1000 rfl rfl ?_
   have hB:=xBegins Y S0 L (nxR st) deep
   cases hb:begR L (nxR st) with
   | true =>
    rw [hb] at h hB
    simp only [if_true] at h
    refine R_callSO hg.ok hg.gup hg.wide hg.Y [0,1] (rdX S0 L (begS L (nxR st)) deep++[tkO t,boxZ,tkO u]) (hB) (fun _=>rfl) rfl rfl rfl rfl rfl (by rw [rdX_ren]; rfl) rfl (by rw [rdX_ren]; rfl) ?_
    refine R_run hg.ok 1000 rfl rfl ?_
    refine R_if rfl rfl (fun _=>?_) (fun h=>absurd h (by simp)) <;> refine R_run hg.ok 1000 rfl rfl ?_
    by_cases hq:preT t.text > p
    ·rw [if_pos hq] at h
     cases h
     have hba:(begS L (nxR st)).at_=st.at_+1:=by unfold begS; split <;> rfl
     refine R_if rfl rfl (fun _=>?_) (fun h=>absurd h (by simp [hq]))
     first
     | (refine R_run hg.ok 1 rfl rfl ?_; refine R_rdAt (st:=begS L (nxR st)) (st.at_) (by rw [hba]; omega) (by omega) rfl ?_)
     | (refine R_run hg.ok 2 rfl rfl ?_; refine R_rdAt (st:=begS L (nxR st)) (st.at_) (by rw [hba]; omega) (by omega) rfl ?_)
     | (refine R_run hg.ok 3 rfl rfl ?_; refine R_rdAt (st:=begS L (nxR st)) (st.at_) (by rw [hba]; omega) (by omega) rfl ?_)
     | (refine R_run hg.ok 4 rfl rfl ?_; refine R_rdAt (st:=begS L (nxR st)) (st.at_) (by rw [hba]; omega) (by omega) rfl ?_)
     | (refine R_run hg.ok 5 rfl rfl ?_; refine R_rdAt (st:=begS L (nxR st)) (st.at_) (by rw [hba]; omega) (by omega) rfl ?_)
     | (refine R_run hg.ok 6 rfl rfl ?_; refine R_rdAt (st:=begS L (nxR st)) (st.at_) (by rw [hba]; omega) (by omega) rfl ?_)
     | (refine R_run hg.ok 7 rfl rfl ?_; refine R_rdAt (st:=begS L (nxR st)) (st.at_) (by rw [hba]; omega) (by omega) rfl ?_)
     | (refine R_run hg.ok 8 rfl rfl ?_; refine R_rdAt (st:=begS L (nxR st)) (st.at_) (by rw [hba]; omega) (by omega) rfl ?_)
     | (refine R_run hg.ok 9 rfl rfl ?_; refine R_rdAt (st:=begS L (nxR st)) (st.at_) (by rw [hba]; omega) (by omega) rfl ?_)
     | (refine R_run hg.ok 10 rfl rfl ?_; refine R_rdAt (st:=begS L (nxR st)) (st.at_) (by rw [hba]; omega) (by omega) rfl ?_)
     | (refine R_run hg.ok 11 rfl rfl ?_; refine R_rdAt (st:=begS L (nxR st)) (st.at_) (by rw [hba]; omega) (by omega) rfl ?_)
     refine R_run hg.ok 1000 rfl rfl ?_
     refine R_callSO hg.ok hg.gup hg.wide hg.Y [0,1] (rdX S0 L (failR L S0.length { begS L (nxR st) with at_:=st.at_ } 2) deep++[tkO t,boxZ,tkO u]) (xFail Y S0 L { begS L (nxR st) with at_:=st.at_ } deep 2) (fun _=>rfl) rfl rfl rfl rfl rfl (by rw [rdX_ren]; rfl) rfl (by rw [rdX_ren]; rfl) ?_
     refine R_run hg.ok 1000 rfl rfl ?_
     exact R_retS hg 2 5 (Nat.le_refl _) rfl rfl (hk _ _)
    ·rw [if_neg hq] at h
     obtain ⟨⟨y,st2⟩,h1,h⟩:=Option.map_eq_some_iff.1 h
     subst h
     simp only
     refine R_if rfl rfl (fun h=>absurd h (by simp [hq])) (fun _=>?_) <;> refine R_run hg.ok 1000 rfl rfl ?_
     refine R_load4 hg.ok (by show φ.length≤2; omega) rfl rfl rfl rfl rfl rfl rfl ?_
     refine R_run hg.ok 1000 rfl rfl ?_
     refine R_callS3 hg.ok hg.gup hg.wide hg.Y [0,1] (rdX S0 L st2 deep++[tkO t,boxZ,tkO u]) (hT deep _ _ y st2 h1 hd hn.beg) (fun _=>rfl) (fun i hi=>by show i<φ.length; simp at hi; omega) rfl rfl rfl rfl rfl (by rw [rdX_ren]; rfl) rfl (by rw [rdX_ren]; rfl) ?_
     refine R_run hg.ok 1000 rfl rfl ?_
     rw [show Tm.av (fnT t.text [y])=AV.agg [.d (.v (.int .i64 3)),.d (.v (.string (Tx t.text))),.d (.v (.int .i64 0)),.d (.sl [rwT y])] by rw [show [rwT y]=Tm.rows [y] from rwT_rows [y]]; rfl]
     exact R_retS hg 2 5 (Nat.le_refl _) rfl rfl (hk _ _)
   | false =>
    rw [hb] at h hB
    simp only [Bool.false_eq_true,if_false] at h
    cases h
    refine R_callSO hg.ok hg.gup hg.wide hg.Y [0,1] (rdX S0 L (begS L (nxR st)) deep++[tkO t,boxZ,tkO u]) (hB) (fun _=>rfl) rfl rfl rfl rfl rfl (by rw [rdX_ren]; rfl) rfl (by rw [rdX_ren]; rfl) ?_
    refine R_run hg.ok 1000 rfl rfl ?_
    refine R_if rfl rfl (fun h=>absurd h (by simp)) (fun _=>?_) <;> refine R_run hg.ok 1000 rfl rfl ?_
    exact R_retS hg 2 5 (Nat.le_refl _) rfl rfl (hk _ _)
  ·rw [if_neg hp] at h
   cases h
   refine R_if rfl rfl (fun h=>absurd h (by simp [hp])) (fun _=>?_) <;> refine R_run hg.ok 1000 rfl rfl ?_
   exact R_retS hg 2 5 (Nat.le_refl _) rfl rfl (hk (nxR st) _)
end Go.Proofs.YtcgkgofmldhokaaGreat

namespace Go.Proofs.YtcgkgofmldhokaaGreat
open Go PSL Go.Proofs

theorem R_rdDeep {g:G} {pf:Nat→Cls} {Fin:Exit→Act→World→Prop} {k:List It} {E:Env} {rest:List Ob} {S:Bs} {L:List Tk} {st:RSt} {mk:Bool} {m:Int} (n:Nat) (hm:m=n) (hb:n<9223372036854775808) (ht:topCode k=true) (h:R g pf Fin k E (rdO S L st n mk++rest)) :
  R g pf Fin k E (.box [.d (.v (.string (Tx S))),.d (.sl (tkRows L)),iV st.at_,.ow 1 st.names.length,.d (.v (.int .i64 (IntKind.i64.wrap m))),iV st.bad,iV st.e,.d (.v (.int .u32 (if mk then 1 else 0))),.d (.v (.int .i32 0)),.d (.v (.int .u32 0)),tblV mk] :: .arr 1 st.names.length (strRows st.names)::rest) :=
 R_obs (rdO S L st n mk++rest) ⟨⟨.refl _,.refl _,.refl _,.refl _,Ent.wrap hm (by omega) (by omega),.refl _,.refl _,.refl _,.refl _,.refl _,.refl _,trivial⟩,rfl,obsIn_refl _⟩ ht h

theorem rdB_ren (S:Bs) (L:List Tk) (st:RSt) (deep:Int) (n:Nat):(rdX S L st deep++[Ob.box [.lo 0 0]]).map (renOb (rn [0,1,2] n))=rdX S L st deep++[Ob.box [.lo 0 0]]:=by
 rw [List.map_append,rdX_ren]; rfl

theorem rdB_keep (S:Bs) (L:List Tk) (st:RSt) (deep:Int) (o:List Ob):(rdX S L st deep++[Ob.box [.lo 0 0]]).map (mapOb (sealT false 3 o 5))=rdX S L st deep++[Ob.box [.lo 0 0]]:=by
 rw [List.map_append,rdX_keep _ _ _ _ _ _ (by decide)]; rfl

set_option maxRecDepth 100000 in
theorem rdDown_ok (Y:YP) (S0:Bs) (L:List Tk) (st:RSt) (deep:Nat) (hd:deep≤1000):DCtr Tryz.prog Y 145 [.lo 2 0] (rdX S0 L st (deep+1:Nat)++[.box [.lo 0 0]]) (.tup []) (rdX S0 L st deep++[.box [.lo 0 0]]):=by
 refine DCtr.of_R (pf:=fun _=>.eff) tyOk mixed Tryz.func145 rfl (by kernel_rfl) (by kernel_rfl) (by simp [Tryz.ntmps145]) (by simp [rdX,rdO,robj]) fun w S φ hg=>?_
 refine R_run hg.ok 1000 rfl rfl ?_
 refine R_rdDeep (st:=st) deep (by omega) (by omega) rfl ?_
 exact R_endD hg 3 5 (Nat.le_refl _) rfl rfl (rdB_keep _ _ _ _ _)

set_option maxRecDepth 100000 in
theorem rdOpnd_ok (Y:YP) (S0:Bs) (L:List Tk) (hL:L.length≤9000) (hS:S0.length≤9000) {T:TF} (hT:TCtr Y S0 L T) (hG:TGood L T) (deep:Nat) (hd:deep≤1000) (st:RSt) (hi:RInv L st) (hpl:∀ t∈L,0≤t.at_∧t.at_<S0.length∧0≤t.n∧t.n≤9223372036854775807) (p:Int) (x:Tm × Int × RSt) (h:opndR false S0 L T deep p st=some x) :
  SCtr Tryz.prog Y 117 [.lo 0 0,iV p] (rdX S0 L st deep) (.tup [x.1.av,iV x.2.1]) (rdX S0 L x.2.2 deep):=by
 refine SCtr.of_RD (pf:=fun _=>.eff) tyOk mixed Tryz.func117 rfl (by kernel_rfl) (by kernel_rfl) (by simp [Tryz.ntmps117]) (by simp [rdX,rdO,robj]) fun w S φ hg=>?_
 have hk:∀ (st:RSt) (o:List Ob),(rdX S0 L st deep).map (mapOb (sealT false 2 o 5))=rdX S0 L st deep:=fun st o=>rdX_keep _ _ _ _ _ _ (Nat.le_refl _)
 unfold opndR at h
 refine R_run hg.ok 1000 rfl rfl ?_
 by_cases hd0:1000≤deep
 ·rw [if_pos hd0] at h
  cases h
  refine R_if rfl rfl (fun _=>?_) (fun h=>absurd h (by simp; omega)) <;> refine R_run hg.ok 1000 rfl rfl ?_
  refine R_callSO hg.ok hg.gup hg.wide hg.Y [0,1] (rdX S0 L (failR L S0.length st 3) deep++[.box [.lo 0 0],boxZ]) (xFail Y S0 L st deep 3) (fun _=>rfl) rfl rfl rfl rfl rfl (by rw [rdX_ren]; rfl) rfl (by rw [rdX_ren]; rfl) ?_
  refine R_run hg.ok 1000 rfl rfl ?_
  exact R_retS hg 2 5 (Nat.le_refl _) rfl rfl (hk _ _)
 have hd:deep<1000:=by omega
 rw [if_neg hd0] at h
 refine R_if rfl rfl (fun h=>absurd h (by simp; omega)) (fun _=>?_)
 first
 | (refine R_run hg.ok 1 rfl rfl ?_; refine R_rdDeep (st:=st) (deep+1) (by omega) (by omega) rfl ?_)
 | (refine R_run hg.ok 2 rfl rfl ?_; refine R_rdDeep (st:=st) (deep+1) (by omega) (by omega) rfl ?_)
 | (refine R_run hg.ok 3 rfl rfl ?_; refine R_rdDeep (st:=st) (deep+1) (by omega) (by omega) rfl ?_)
 | (refine R_run hg.ok 4 rfl rfl ?_; refine R_rdDeep (st:=st) (deep+1) (by omega) (by omega) rfl ?_)
 | (refine R_run hg.ok 5 rfl rfl ?_; refine R_rdDeep (st:=st) (deep+1) (by omega) (by omega) rfl ?_)
 first
 | refine R_defer hg.ok rfl hg.wide 1 rfl ?_
 | (refine R_run hg.ok 1 rfl rfl ?_; refine R_defer hg.ok rfl hg.wide 1 rfl ?_)
 | (refine R_run hg.ok 2 rfl rfl ?_; refine R_defer hg.ok rfl hg.wide 1 rfl ?_)
 refine R_run hg.ok 1000 rfl rfl ?_
 refine R_mark ⟨_,_,_,rfl,?_⟩
 have hg1:=hg.sw [(145,[],[.lo 2 0])]
 refine R_run hg1.ok 1000 rfl rfl ?_
 refine R_callSO hg1.ok hg1.gup hg1.wide hg1.Y [0,1] (rdX S0 L st (deep+1:Nat)++[.box [.lo 0 0],boxZ]) (xPeek Y S0 L st (deep+1:Nat)) (fun _=>rfl) rfl rfl rfl rfl rfl (by rw [rdX_ren]; rfl) rfl (by rw [rdX_ren]; rfl) ?_
 refine R_run hg1.ok 1000 rfl rfl ?_
 have hpk:=peek_lt (L:=L) (st:=st)
 have hum:(peekR L st).kind≠0→peekR L st∈L:=fun h=>by
  have:=hpk h
  unfold peekR
  rw [if_neg (by simpa using this.1),List.getElem?_eq_getElem this.2]
  exact List.getElem_mem _
 have hM1:=xMark Y S0 L hL st (deep+1:Nat) [40]
 have hM2:=xMark Y S0 L hL st (deep+1:Nat) [91]
 have hN:=fun x=>rdNamed_ok Y S0 L hL hS hT hG (deep+1) (by omega) st hi
 obtain ⟨u,hu⟩:∃ u,u=peekR L st:=⟨_,rfl⟩
 rw [← hu] at h hpk hum hM1 hM2 ⊢
 by_cases h3:u.kind=3
 ·rw [if_pos h3] at h
  cases h
  have hl:=(hpk (by rw [h3]; decide)).2
  refine R_if rfl rfl (fun _=>?_) (fun h=>absurd h (by simp [h3]))
  first
  | (refine R_run hg1.ok 1 rfl rfl ?_; refine R_rdAt (st:=st) (st.at_+1) (rfl) (by omega) rfl ?_)
  | (refine R_run hg1.ok 2 rfl rfl ?_; refine R_rdAt (st:=st) (st.at_+1) (rfl) (by omega) rfl ?_)
  | (refine R_run hg1.ok 3 rfl rfl ?_; refine R_rdAt (st:=st) (st.at_+1) (rfl) (by omega) rfl ?_)
  | (refine R_run hg1.ok 4 rfl rfl ?_; refine R_rdAt (st:=st) (st.at_+1) (rfl) (by omega) rfl ?_)
  | (refine R_run hg1.ok 5 rfl rfl ?_; refine R_rdAt (st:=st) (st.at_+1) (rfl) (by omega) rfl ?_)
  | (refine R_run hg1.ok 6 rfl rfl ?_; refine R_rdAt (st:=st) (st.at_+1) (rfl) (by omega) rfl ?_)
  | (refine R_run hg1.ok 7 rfl rfl ?_; refine R_rdAt (st:=st) (st.at_+1) (rfl) (by omega) rfl ?_)
  refine R_run hg1.ok 1000 rfl rfl ?_
  refine R_retL ?_
  refine Lv.cons hg [0,1,2] (objs':=rdX S0 L (nxR st) deep++[.box [.lo 0 0],.box [.d (.v (.int .i64 2)),.d (.v (.string ByteArray.empty)),.d (.v (.int .i64 u.n)),.d (.v (.slice none 0 0))],tkO u]) (rdDown_ok Y S0 L (nxR st) deep (Nat.le_of_lt hd)) (fun _=>rfl) rfl (by rw [rdB_ren]; rfl) rfl (by rw [rdB_ren]; rfl) ?_
  exact Lv.nil hg 2 5 (Nat.le_refl _) rfl rfl (hk (nxR st) _)
 rw [if_neg h3] at h
 refine R_if rfl rfl (fun h=>absurd h (by simp [h3])) (fun _=>?_) <;> refine R_run hg1.ok 1000 rfl rfl ?_
 by_cases h2:u.kind=2
 ·rw [if_pos h2] at h
  cases h
  have hl:=(hpk (by rw [h2]; decide)).2
  have hnl:=hi.1
  refine R_if rfl rfl (fun _=>?_) (fun h=>absurd h (by simp [h2]))
  first
  | (refine R_run hg1.ok 1 rfl rfl ?_; refine R_rdAt (st:=st) (st.at_+1) (rfl) (by omega) rfl ?_)
  | (refine R_run hg1.ok 2 rfl rfl ?_; refine R_rdAt (st:=st) (st.at_+1) (rfl) (by omega) rfl ?_)
  | (refine R_run hg1.ok 3 rfl rfl ?_; refine R_rdAt (st:=st) (st.at_+1) (rfl) (by omega) rfl ?_)
  | (refine R_run hg1.ok 4 rfl rfl ?_; refine R_rdAt (st:=st) (st.at_+1) (rfl) (by omega) rfl ?_)
  | (refine R_run hg1.ok 5 rfl rfl ?_; refine R_rdAt (st:=st) (st.at_+1) (rfl) (by omega) rfl ?_)
  | (refine R_run hg1.ok 6 rfl rfl ?_; refine R_rdAt (st:=st) (st.at_+1) (rfl) (by omega) rfl ?_)
  | (refine R_run hg1.ok 7 rfl rfl ?_; refine R_rdAt (st:=st) (st.at_+1) (rfl) (by omega) rfl ?_)
  refine R_run hg1.ok 1000 rfl rfl ?_
  refine R_callSO hg1.ok hg1.gup hg1.wide hg1.Y [0,1] (rdX S0 L (varR (nxR st) u.text).2 (deep+1:Nat)++[.box [.lo 0 0],boxZ,tkO u]) (xVar Y S0 L (nxR st) (by simp only [nxR]; omega) (deep+1:Nat) u.text) (fun _=>rfl) rfl rfl rfl rfl rfl (by rw [rdX_ren]; rfl) rfl (by rw [rdX_ren]; rfl) ?_
  refine R_run hg1.ok 1000 rfl rfl ?_
  refine R_retL ?_
  refine Lv.cons hg [0,1,2] (objs':=rdX S0 L ((varR (nxR st) u.text).2) deep++[.box [.lo 0 0],.box [.d (.v (.int .i64 1)),.d (.v (.string ByteArray.empty)),.d (.v (.int .i64 (varR (nxR st) u.text).1)),.d (.v (.slice none 0 0))],tkO u]) (rdDown_ok Y S0 L ((varR (nxR st) u.text).2) deep (Nat.le_of_lt hd)) (fun _=>rfl) rfl (by rw [rdB_ren]; rfl) rfl (by rw [rdB_ren]; rfl) ?_
  exact Lv.nil hg 2 5 (Nat.le_refl _) rfl rfl (hk ((varR (nxR st) u.text).2) _)
 rw [if_neg h2] at h
 refine R_if rfl rfl (fun h=>absurd h (by simp [h2])) (fun _=>?_) <;> refine R_run hg1.ok 1000 rfl rfl ?_
 by_cases h1:u.kind=1
 ·rw [if_pos h1] at h
  obtain ⟨y,hy,h⟩:=Option.map_eq_some_iff.1 h
  simp only [Bool.false_and,Bool.false_eq_true,if_false] at h
  subst h
  have hl:=(hpk (by rw [h1]; decide)).2
  refine R_if rfl rfl (fun _=>?_) (fun h=>absurd h (by simp [h1])) <;> refine R_run hg1.ok 1000 rfl rfl ?_
  refine R_callSO hg1.ok hg1.gup hg1.wide hg1.Y [0,1] (rdX S0 L y.2.2 (deep+1:Nat)++[.box [.lo 0 0],boxZ,tkO u]) (rdNamed_ok Y S0 L hL hS hT hG (deep+1) (by omega) st hi hl hpl p u (hum (by rw [h1]; decide)) y hy) (fun _=>rfl) rfl rfl rfl rfl rfl (by rw [rdX_ren]; rfl) rfl (by rw [rdX_ren]; rfl) ?_
  refine R_run hg1.ok 1000 rfl rfl ?_
  refine R_retL ?_
  refine Lv.cons hg [0,1,2] (objs':=rdX S0 L (y.2.2) deep++[.box [.lo 0 0],bxT y.1,tkO u]) (rdDown_ok Y S0 L (y.2.2) deep (Nat.le_of_lt hd)) (fun _=>rfl) rfl (by rw [rdB_ren]; rfl) rfl (by rw [rdB_ren]; rfl) ?_
  exact Lv.nil hg 2 5 (Nat.le_refl _) rfl rfl (hk (y.2.2) _)
 rw [if_neg h1] at h
 refine R_if rfl rfl (fun h=>absurd h (by simp [h1])) (fun _=>?_) <;> refine R_run hg1.ok 1000 rfl rfl ?_
 cases hm1:isMk u [40] with
 | true =>
  rw [hm1] at h hM1
  simp only [if_true] at h hM1
  have hl:=(isMk_lt (hu ▸ hm1)).2
  obtain ⟨⟨y,st2⟩,hy,h⟩:=Option.map_eq_some_iff.1 h
  subst h
  refine R_callSO hg1.ok hg1.gup hg1.wide hg1.Y [0,1] (rdX S0 L (nxR st) (deep+1:Nat)++[.box [.lo 0 0],boxZ,tkO u]) (hM1) (fun _=>rfl) rfl rfl rfl rfl rfl (by rw [rdX_ren]; rfl) rfl (by rw [rdX_ren]; rfl) ?_
  refine R_run hg1.ok 1000 rfl rfl ?_
  refine R_if rfl rfl (fun _=>?_) (fun h=>absurd h (by simp)) <;> refine R_run hg1.ok 1000 rfl rfl ?_
  refine R_callSO hg1.ok hg1.gup hg1.wide hg1.Y [0,1] (rdX S0 L st2 (deep+1:Nat)++[.box [.lo 0 0],boxZ,tkO u]) (hT (deep+1) 1200 (nxR st) y st2 hy (by omega) (hi.nx hl)) (fun _=>rfl) rfl rfl rfl rfl rfl (by rw [rdX_ren]; rfl) rfl (by rw [rdX_ren]; rfl) ?_
  refine R_run hg1.ok 1000 rfl rfl ?_
  refine R_callSO hg1.ok hg1.gup hg1.wide hg1.Y [0,1] (rdX S0 L (mustR L S0.length st2 [41]) (deep+1:Nat)++[.box [.lo 0 0],boxZ,tkO u,bxT y]) (xMust Y S0 L hL st2 (deep+1:Nat) [41]) (fun _=>rfl) rfl rfl rfl rfl rfl (by rw [rdX_ren]; rfl) rfl (by rw [rdX_ren]; rfl) ?_
  refine R_run hg1.ok 1000 rfl rfl ?_
  refine R_retL ?_
  refine Lv.cons hg [0,1,2] (objs':=rdX S0 L (mustR L S0.length st2 [41]) deep++[.box [.lo 0 0],bxT y,tkO u,bxT y]) (rdDown_ok Y S0 L (mustR L S0.length st2 [41]) deep (Nat.le_of_lt hd)) (fun _=>rfl) rfl (by rw [rdB_ren]; rfl) rfl (by rw [rdB_ren]; rfl) ?_
  exact Lv.nil hg 2 5 (Nat.le_refl _) rfl rfl (hk (mustR L S0.length st2 [41]) _)
 | false =>
  rw [hm1] at h hM1
  simp only [Bool.false_eq_true,if_false] at h hM1
  refine R_callSO hg1.ok hg1.gup hg1.wide hg1.Y [0,1] (rdX S0 L st (deep+1:Nat)++[.box [.lo 0 0],boxZ,tkO u]) (hM1) (fun _=>rfl) rfl rfl rfl rfl rfl (by rw [rdX_ren]; rfl) rfl (by rw [rdX_ren]; rfl) ?_
  refine R_run hg1.ok 1000 rfl rfl ?_
  refine R_if rfl rfl (fun h=>absurd h (by simp)) (fun _=>?_) <;> refine R_run hg1.ok 1000 rfl rfl ?_
  cases hm2:isMk u [91] with
  | true =>
   rw [hm2] at h hM2
   simp only [if_true] at h hM2
   have hl:=(isMk_lt (hu ▸ hm2)).2
   obtain ⟨⟨y,st2⟩,hy,h⟩:=Option.map_eq_some_iff.1 h
   subst h
   refine R_callSO hg1.ok hg1.gup hg1.wide hg1.Y [0,1] (rdX S0 L (nxR st) (deep+1:Nat)++[.box [.lo 0 0],boxZ,tkO u]) (hM2) (fun _=>rfl) rfl rfl rfl rfl rfl (by rw [rdX_ren]; rfl) rfl (by rw [rdX_ren]; rfl) ?_
   refine R_run hg1.ok 1000 rfl rfl ?_
   refine R_if rfl rfl (fun _=>?_) (fun h=>absurd h (by simp)) <;> refine R_run hg1.ok 1000 rfl rfl ?_
   refine R_callSO hg1.ok hg1.gup hg1.wide hg1.Y [0,1] (rdX S0 L st2 (deep+1:Nat)++[.box [.lo 0 0],boxZ,tkO u]) (rdList_ok Y S0 L hL hT hG (deep+1) (by omega) (nxR st) (hi.nx hl) y st2 hy) (fun _=>rfl) rfl rfl rfl rfl rfl (by rw [rdX_ren]; rfl) rfl (by rw [rdX_ren]; rfl) ?_
   refine R_run hg1.ok 1000 rfl rfl ?_
   refine R_retL ?_
   refine Lv.cons hg [0,1,2] (objs':=rdX S0 L (st2) deep++[.box [.lo 0 0],bxT y,tkO u]) (rdDown_ok Y S0 L (st2) deep (Nat.le_of_lt hd)) (fun _=>rfl) rfl (by rw [rdB_ren]; rfl) rfl (by rw [rdB_ren]; rfl) ?_
   exact Lv.nil hg 2 5 (Nat.le_refl _) rfl rfl (hk (st2) _)
  | false =>
   rw [hm2] at h hM2
   simp only [Bool.false_eq_true,if_false] at h hM2
   cases h
   refine R_callSO hg1.ok hg1.gup hg1.wide hg1.Y [0,1] (rdX S0 L st (deep+1:Nat)++[.box [.lo 0 0],boxZ,tkO u]) (hM2) (fun _=>rfl) rfl rfl rfl rfl rfl (by rw [rdX_ren]; rfl) rfl (by rw [rdX_ren]; rfl) ?_
   refine R_run hg1.ok 1000 rfl rfl ?_
   refine R_if rfl rfl (fun h=>absurd h (by simp)) (fun _=>?_) <;> refine R_run hg1.ok 1000 rfl rfl ?_
   refine R_callSO hg1.ok hg1.gup hg1.wide hg1.Y [0,1] (rdX S0 L (failR L S0.length st 2) (deep+1:Nat)++[.box [.lo 0 0],boxZ,tkO u]) (xFail Y S0 L st (deep+1:Nat) 2) (fun _=>rfl) rfl rfl rfl rfl rfl (by rw [rdX_ren]; rfl) rfl (by rw [rdX_ren]; rfl) ?_
   refine R_run hg1.ok 1000 rfl rfl ?_
   refine R_retL ?_
   refine Lv.cons hg [0,1,2] (objs':=rdX S0 L (failR L S0.length st 2) deep++[.box [.lo 0 0],boxZ,tkO u]) (rdDown_ok Y S0 L (failR L S0.length st 2) deep (Nat.le_of_lt hd)) (fun _=>rfl) rfl (by rw [rdB_ren]; rfl) rfl (by rw [rdB_ren]; rfl) ?_
   exact Lv.nil hg 2 5 (Nat.le_refl _) rfl rfl (hk (failR L S0.length st 2) _)
end Go.Proofs.YtcgkgofmldhokaaGreat

namespace Go.Proofs.YtcgkgofmldhokaaGreat
open Go PSL Go.Proofs
def pfTrm:Nat→Cls:=fun f=>bif Nat.beq f 4000100060 then .look 104 else bif Nat.beq f 4000200005 then .turn 103 else .eff

def trmE (S0:Bs) (L:List Tk) (deep p:Int):(Nat × RSt × Tm × Int)→Env × List Ob
 | (_,st,out,now)=>([(0,.lo 0 0),(1,iV p),(4,.lo 2 0),(5,.lo 3 0),(6,iV now)],rdX S0 L st deep++[boxZ,bxT out])
theorem peek_ins (L:List Tk) (st:RSt):peekR L (inS L st)=peekR L st:=by unfold inS; split <;> rfl

set_option maxRecDepth 100000 in
theorem rdStep_ok (Y:YP) (S0:Bs) (L:List Tk) (hL:L.length≤9000) (hS:S0.length≤9000) {T:TF} (hT:TCtr Y S0 L T) (hG:TGood L T) (hpl:∀ t∈L,0≤t.at_∧t.at_<S0.length∧0≤t.n∧t.n≤9223372036854775807) :
  TCtr Y S0 L (fun deep p st=>(opndR false S0 L T deep p st).bind fun x=>restR L T (L.length+2) deep p x.1 x.2.1 x.2.2):=by
 intro deep p st t st' h hd hi
 obtain ⟨x,hx,h⟩:=Option.bind_eq_some_iff.1 h
 refine SCtr.of_R (pf:=pfTrm) tyOk mixed Tryz.func95 rfl (by kernel_rfl) (by kernel_rfl) (by simp [Tryz.ntmps95]) (by simp [rdX,rdO,robj]) fun w S φ hg=>?_
 have hφ:φ.length=2:=hg.hs0.len
 have hk:∀ (st:RSt) (o:List Ob),(rdX S0 L st deep).map (mapOb (sealT false 2 o 5))=rdX S0 L st deep:=fun st o=>rdX_keep _ _ _ _ _ _ (Nat.le_refl _)
 refine R_run hg.ok 1000 rfl rfl ?_
 refine R_callSO hg.ok hg.gup hg.wide hg.Y [0,1] (rdX S0 L x.2.2 deep++[boxZ]) (rdOpnd_ok Y S0 L hL hS hT hG deep hd st hi hpl p x hx) (fun _=>rfl) rfl rfl rfl rfl rfl (by rw [rdX_ren]; rfl) rfl (by rw [rdX_ren]; rfl) ?_
 refine R_run hg.ok 1000 rfl rfl ?_
 refine R_storeJ hg.ok rfl rfl rfl rfl rfl rfl rfl rfl rfl ?_
 refine R_run hg.ok 1000 rfl rfl ?_
 refine R_loop (trmE S0 L deep p) (fun y=>restR L T y.1 deep p y.2.2.1 y.2.2.2 y.2.1=some (t,st')∧RInv L y.2.1) (fun y=>y.1) (L.length+2,x.2.2,x.1,x.2.1) ⟨h,opnd_inv hG hx hi⟩ ⟨.refl _,.refl _,.refl _,.refl _,.refl _,trivial⟩ rfl ?_
 rintro ⟨f,st1,out,now⟩ ⟨hm,hi1⟩
 simp only at hm hi1
 cases f with
 | zero=>cases hm
 | succ f =>
 simp only [restR] at hm
 refine R_run hg.ok 1000 rfl rfl ?_
 by_cases he:st1.e=0
 ·rw [if_neg (by simp [he])] at hm
  refine R_if rfl rfl (fun _=>?_) (fun h=>absurd h (by simp [he])) <;> refine R_run hg.ok 1000 rfl rfl ?_
  have hI:=xIn Y S0 L st1 deep
  cases hin:inT (peekR L st1) with
  | none =>
   rw [hin] at hm hI
   simp only at hm
   obtain ⟨rfl,rfl⟩:=Prod.mk.inj (Option.some.inj hm)
   simp only [infA] at hI
   refine R_callSO hg.ok hg.gup hg.wide hg.Y [0,1] (rdX S0 L (inS L st1) deep++[boxZ,bxT out]) (hI) (fun _=>rfl) rfl rfl rfl rfl rfl (by rw [rdX_ren]; rfl) rfl (by rw [rdX_ren]; rfl) ?_
   refine R_run hg.ok 1000 rfl rfl ?_
   refine R_if rfl rfl (fun _=>?_) (fun h=>absurd h (by simp)) <;> refine R_run hg.ok 1000 rfl rfl ?_
   exact R_retS hg 2 5 (Nat.le_refl _) rfl rfl (hk _ _)
  | some z =>
   obtain ⟨q,l,r⟩:=z
   rw [hin] at hm hI
   simp only at hm
   simp only [infA] at hI
   refine R_callSO hg.ok hg.gup hg.wide hg.Y [0,1] (rdX S0 L (inS L st1) deep++[boxZ,bxT out]) (hI) (fun _=>rfl) rfl rfl rfl rfl rfl (by rw [rdX_ren]; rfl) rfl (by rw [rdX_ren]; rfl) ?_
   refine R_run hg.ok 1000 rfl rfl ?_
   refine R_if rfl rfl (fun h=>absurd h (by simp)) (fun _=>?_) <;> refine R_run hg.ok 1000 rfl rfl ?_
   by_cases hq:q > p
   ·rw [if_pos (.inl hq)] at hm
    obtain ⟨rfl,rfl⟩:=Prod.mk.inj (Option.some.inj hm)
    refine R_if rfl rfl (fun _=>?_) (fun h=>absurd h (by simp [hq])) <;> refine R_run hg.ok 1000 rfl rfl ?_
    exact R_retS hg 2 5 (Nat.le_refl _) rfl rfl (hk _ _)
   ·refine R_if rfl rfl (fun h=>absurd h (by simp [hq])) (fun _=>?_) <;> refine R_run hg.ok 1000 rfl rfl ?_
    by_cases hn:now > l
    ·rw [if_pos (.inr hn)] at hm
     obtain ⟨rfl,rfl⟩:=Prod.mk.inj (Option.some.inj hm)
     refine R_if rfl rfl (fun _=>?_) (fun h=>absurd h (by simp [hn])) <;> refine R_run hg.ok 1000 rfl rfl ?_
     exact R_retS hg 2 5 (Nat.le_refl _) rfl rfl (hk _ _)
    ·rw [if_neg (by rintro (h | h); exact hq h; exact hn h)] at hm
     obtain ⟨⟨y,st2⟩,hy,hm⟩:=Option.bind_eq_some_iff.1 hm
     refine R_if rfl rfl (fun h=>absurd h (by simp [hn])) (fun _=>?_) <;> refine R_run hg.ok 1000 rfl rfl ?_
     have hat:=inS_at L st1
     have hl1:=(ins_lt hin).2
     refine R_callSO hg.ok hg.gup hg.wide hg.Y [0,1] (rdX S0 L (inS L st1) deep++[boxZ,bxT out,.box [iV q,iV l,iV r]]) (xPeek Y S0 L (inS L st1) deep) (fun _=>rfl) rfl rfl rfl rfl rfl (by rw [rdX_ren]; rfl) rfl (by rw [rdX_ren]; rfl) ?_
     first
     | (refine R_run hg.ok 1 rfl rfl ?_; refine R_rdAt (st:=inS L st1) ((inS L st1).at_+1) (rfl) (by omega) rfl ?_)
     | (refine R_run hg.ok 2 rfl rfl ?_; refine R_rdAt (st:=inS L st1) ((inS L st1).at_+1) (rfl) (by omega) rfl ?_)
     | (refine R_run hg.ok 3 rfl rfl ?_; refine R_rdAt (st:=inS L st1) ((inS L st1).at_+1) (rfl) (by omega) rfl ?_)
     | (refine R_run hg.ok 4 rfl rfl ?_; refine R_rdAt (st:=inS L st1) ((inS L st1).at_+1) (rfl) (by omega) rfl ?_)
     | (refine R_run hg.ok 5 rfl rfl ?_; refine R_rdAt (st:=inS L st1) ((inS L st1).at_+1) (rfl) (by omega) rfl ?_)
     | (refine R_run hg.ok 6 rfl rfl ?_; refine R_rdAt (st:=inS L st1) ((inS L st1).at_+1) (rfl) (by omega) rfl ?_)
     | (refine R_run hg.ok 7 rfl rfl ?_; refine R_rdAt (st:=inS L st1) ((inS L st1).at_+1) (rfl) (by omega) rfl ?_)
     refine R_run hg.ok 1000 rfl rfl ?_
     have hi3:RInv L (nxR (inS L st1)):=hi1.ins.nx (by rw [hat]; exact hl1)
     refine R_callSO hg.ok hg.gup hg.wide hg.Y [0,1] (rdX S0 L st2 deep++[boxZ,bxT out,.box [iV q,iV l,iV r]]) (hT deep r _ y st2 hy hd hi3) (fun _=>rfl) rfl rfl rfl rfl rfl (by rw [rdX_ren]; rfl) rfl (by rw [rdX_ren]; rfl) ?_
     refine R_run hg.ok 1000 rfl rfl ?_
     refine R_loadJ hg.ok 103 (i:=4) (by unfold mayO; rintro (⟨h,_⟩ | h | ⟨h,_⟩) <;> omega) rfl rfl rfl rfl rfl rfl rfl ?_
     refine R_run hg.ok 1000 rfl rfl ?_
     refine R_storeJ hg.ok rfl rfl rfl rfl rfl rfl rfl rfl rfl ?_
     refine R_run hg.ok 1000 rfl rfl ?_
     have hb:Ob.box [.d (.v (.int .i64 3)),.d (.v (.string (Tx (peekR L st1).text))),.d (.v (.int .i64 0)),.d (.sl [rwT out,rwT y])]=bxT (fnT (peekR L st1).text [out,y]):=by rw [bxT_fn,← rwT_rows]; rfl
     refine R_obs (rdX S0 L st2 deep++[boxZ,.box [.d (.v (.int .i64 3)),.d (.v (.string (Tx (peekR L (inS L st1)).text))),.d (.v (.int .i64 0)),.d (.sl [rwT out,rwT y])],.box [iV q,iV l,iV r],bxT y]) ⟨.refl _,.refl _,.refl _,⟨.refl _,.refl _,.refl _,Ent.fs _,trivial⟩,.refl _,.refl _,trivial⟩ rfl ?_
     refine R_dropO 4 (rdX S0 L st2 deep++[boxZ,bxT (fnT (peekR L st1).text [out,y])]) (by show φ.length≤_; omega) rfl ?_ ?_
     ·rw [peek_ins,hb]
      unfold rdX rdO robj; generalize st2.lay=b; cases b <;> rfl
     exact R_next (f,st2,fnT (peekR L st1).text [out,y],q) ⟨hm,hG _ _ _ _ _ hy hi3⟩ (by simp only; omega) ⟨.refl _,.refl _,.refl _,.refl _,.refl _,trivial⟩ rfl
 ·rw [if_pos he] at hm
  cases hm
  refine R_if rfl rfl (fun h=>absurd h (by simp [he])) (fun _=>?_) <;> refine R_run hg.ok 1000 rfl rfl ?_
  exact R_retS hg 2 5 (Nat.le_refl _) rfl rfl (hk _ _)

theorem rdTerm_ok (Y:YP) (S0:Bs) (L:List Tk) (hL:L.length≤9000) (hS:S0.length≤9000) (hpl:∀ t∈L,0≤t.at_∧t.at_<S0.length∧0≤t.n∧t.n≤9223372036854775807):∀ n,TCtr Y S0 L (termR false S0 L n)
 | 0=>fun _ _ _ _ _ h=>by cases h
 | n+1=>fun deep p st t st' h hd hi=>rdStep_ok Y S0 L hL hS (rdTerm_ok Y S0 L hL hS hpl n) (term_inv false S0 L n) hpl deep p st t st' h hd hi
end Go.Proofs.YtcgkgofmldhokaaGreat

namespace Go.Proofs.YtcgkgofmldhokaaGreat
open Go PSL Go.Proofs
def clRow (x:Clau):List D:=[.v (.int .i64 x.1.k),.v (.string x.1.s),.v (.int .i64 x.1.n),.sl (Tm.rows x.1.l),.sl (strRows x.2)]
def clRows (l:List Clau):List (List D):=l.map clRow
theorem clRows_len (l:List Clau):(clRows l).length=l.length:=by simp [clRows]

def cl1 (S:Bs) (L:List Tk) (st:RSt):Ob:=.box [.d (.v (.string (Tx S))),.d (.sl (tkRows L)),iV st.at_,.d (.sl (strRows st.names)),iV 0,iV st.bad,iV st.e,.d (.v (.int .u32 (if st.lay then 1 else 0))),.d (.v (.int .i32 0)),.d (.v (.int .u32 0)),tblV st.lay]
def cl2 (S:Bs) (L:List Tk) (st:RSt):Ob:=.box [.d (.v (.string (Tx S))),.d (.sl (tkRows L)),iV st.at_,.ow 2 st.names.length,iV 0,iV st.bad,iV st.e,.d (.v (.int .u32 (if st.lay then 1 else 0))),.d (.v (.int .i32 0)),.d (.v (.int .u32 0)),tblV st.lay]
def clO (S:Bs) (L:List Tk) (st:RSt) (j:Nat) (out:List Clau):List Ob:=[cl2 S L st,.arr 5 j (clRows out),.arr 1 st.names.length (strRows st.names)]
theorem rdX_ren02 (S:Bs) (L:List Tk) (st:RSt) (n:Nat):(rdX S L st 0).map (renOb (rn [0,2] n))=[cl2 S L st,.arr 1 st.names.length (strRows st.names)]:=robj_ren _ _ _ _ _ _ _ _ _ _ _

theorem cl1_keep (S:Bs) (L:List Tk) (st:RSt) (o:List Ob):[cl1 S L st].map (mapOb (sealT false 1 o 5))=[cl1 S L st]:=by
 unfold cl1; generalize st.lay=b; cases b <;> rfl

theorem cl1_ren (S:Bs) (L:List Tk) (st:RSt) (n:Nat):[cl1 S L st].map (renOb (rn [0] n))=[cl1 S L st]:=by
 unfold cl1; generalize st.lay=b; cases b <;> rfl

set_option maxRecDepth 100000 in
theorem clPlace_ok (Y:YP) (S0:Bs) (L:List Tk) (st:RSt):SCtr Tryz.prog Y 94 [.lo 0 0] [cl1 S0 L st] (iV (plcR L S0.length st.at_)) [cl1 S0 L st]:=by
 refine SCtr.of_R (pf:=fun _=>.eff) tyOk mixed Tryz.func94 rfl (by kernel_rfl) (by kernel_rfl) (by simp [Tryz.ntmps94]) (by simp) fun w S φ hg=>?_
 have hk:∀ o:List Ob,[cl1 S0 L st].map (mapOb (sealT false 1 o 5))=[cl1 S0 L st]:=fun o=>cl1_keep _ _ _ _
 refine R_run hg.ok 1000 rfl rfl ?_
 refine R_if rfl rfl (fun h=>?_) (fun h=>?_) <;> refine R_run hg.ok 1000 rfl rfl ?_
 ·have hl:st.at_<L.length:=by have:=of_decide_eq_true h; rw [tkRows_len] at this; omega
  have e1:L[st.at_]? = some L[st.at_]:=List.getElem?_eq_getElem hl
  rw [show plcR L S0.length st.at_=L[st.at_].at_ by unfold plcR; rw [e1]]
  generalize L[st.at_]=t at e1
  refine R_index hg.ok rfl rfl rfl rfl rfl rfl (Int.natCast_nonneg _) (tkRows_get e1) rfl ?_
  refine R_run hg.ok 1000 rfl rfl ?_
  exact R_retS hg 1 5 (Nat.le_refl _) rfl rfl (hk _)
 ·have hl:L.length≤st.at_:=by have:=of_decide_eq_false h; rw [tkRows_len] at this; omega
  rw [show plcR L S0.length st.at_=(S0.length:Int) by unfold plcR; rw [List.getElem?_eq_none hl]]
  refine R_see 2 rfl (v':=iV S0.length) (by rw [show ((Tx S0).size:Int)=S0.length by rw [Tx_size]]; exact .refl _) ?_
  exact R_retS hg 1 5 (Nat.le_refl _) rfl rfl (hk _)

def clsE (S0:Bs) (L:List Tk):(Nat × RSt × List Clau × Nat)→Env × List Ob
 | (_,st,out,j)=>([(5,.d (.sl (tkRows L))),(8,.lo 0 0),(9,.ow 1 j)],[cl1 S0 L st,.arr 5 j (clRows out)])

set_option maxRecDepth 100000 in
theorem clauses_ok (S0:Bs) (hS:S0.length≤9000) (L:List Tk) (hL:L.length≤9000) (hpl:∀ t∈L,0≤t.at_∧t.at_<S0.length∧0≤t.n∧t.n≤9223372036854775807) (htk:tokR S0=.tup [.d (.sl (tkRows L)),iV 0,iV 0])
  (n:Nat) (hb:∀ st t st',RInv L st→termR false S0 L n 0 1200 st=some (t,st')→st'.e=0→t.size<1000000000∧∀ e∈t.els 1,e.2.s.size<1000000000) (c:List Clau) (a e:Int) (h:clsR rightT L S0.length (termR false S0 L n) (L.length+1) ⟨0,[],0,0,false⟩ []=some (c,a,e)) :
  PCtr Tryz.prog 63 [txA S0] (.tup [.d (.sl (clRows c)),iV a,iV e]):=by
 have hT:=rdTerm_ok ⟨[],fun _=>true⟩ S0 L hL hS hpl n
 have hG:=term_inv false S0 L n
 have hTk:=tokens_ok S0 hS
 rw [htk] at hTk
 refine PCtr.of_R (pf:=fun _=>.eff) tyOk mixed Tryz.func63 rfl (by kernel_rfl) (by kernel_rfl) (by simp [Tryz.ntmps63]) fun w S hg=>?_
 refine R_run hg.ok 1000 rfl rfl ?_
 refine R_call hg.ok (hTk) rfl rfl rfl rfl rfl rfl ?_
 refine R_run hg.ok 1000 rfl rfl ?_
 refine R_if rfl rfl (fun h=>absurd h (by simp)) (fun _=>?_)
 first
 | (refine R_run hg.ok 1 rfl rfl ?_; refine R_own 9 5 rfl rfl ?_)
 | (refine R_run hg.ok 2 rfl rfl ?_; refine R_own 9 5 rfl rfl ?_)
 | (refine R_run hg.ok 3 rfl rfl ?_; refine R_own 9 5 rfl rfl ?_)
 | (refine R_run hg.ok 4 rfl rfl ?_; refine R_own 9 5 rfl rfl ?_)
 | (refine R_run hg.ok 5 rfl rfl ?_; refine R_own 9 5 rfl rfl ?_)
 | (refine R_run hg.ok 6 rfl rfl ?_; refine R_own 9 5 rfl rfl ?_)
 | (refine R_run hg.ok 7 rfl rfl ?_; refine R_own 9 5 rfl rfl ?_)
 | (refine R_run hg.ok 8 rfl rfl ?_; refine R_own 9 5 rfl rfl ?_)
 | (refine R_run hg.ok 9 rfl rfl ?_; refine R_own 9 5 rfl rfl ?_)
 refine R_obs [cl1 S0 L ⟨0,[],0,0,false⟩,.arr 5 0 []] ⟨⟨.refl _,.refl _,.refl _,Ent.nil,.refl _,.refl _,.refl _,.refl _,.refl _,.refl _,.refl _,trivial⟩,.refl _,trivial⟩ rfl ?_
 refine R_run hg.ok 1000 rfl rfl ?_
 refine R_loop (clsE S0 L) (fun x=>clsR rightT L S0.length (termR false S0 L n) x.1 x.2.1 x.2.2.1=some (c,a,e)∧x.2.1.e=0∧x.2.2.1.length+x.1≤L.length+1∧x.2.1.at_≤L.length) (fun x=>x.1) (L.length+1,⟨0,[],0,0,false⟩,[],0) ⟨h,rfl,by simp,Nat.zero_le _⟩ ⟨.refl _,.refl _,.refl _,trivial⟩ rfl ?_
 rintro ⟨f,st,out,j⟩ ⟨hm,he0,hlo,hat⟩
 simp only at hm he0 hlo hat
 cases f with
 | zero=>cases hm
 | succ f =>
 simp only [clsR] at hm
 refine R_run hg.ok 1000 rfl rfl ?_
 by_cases hat2:st.at_<L.length
 ·rw [if_pos hat2] at hm
  refine R_if rfl rfl (fun _=>?_) (fun h=>absurd h (by simp [tkRows_len]; omega)) <;> refine R_run hg.ok 1000 rfl rfl ?_
  refine R_callSO hg.ok hg.gup ⟨rfl,rfl⟩ (fun _ _ _ _ h=>by cases h) [0] [cl1 S0 L st,.arr 5 j (clRows out)] (clPlace_ok ⟨[],fun _=>true⟩ S0 L st) (fun _=>rfl) rfl rfl rfl rfl rfl (by rw [cl1_ren]; rfl) rfl (by rw [cl1_ren]; rfl) ?_
  first
  | (refine R_run hg.ok 1 rfl rfl ?_; refine R_ownB 0 3 1 rfl rfl rfl ?_)
  | (refine R_run hg.ok 2 rfl rfl ?_; refine R_ownB 0 3 1 rfl rfl rfl ?_)
  | (refine R_run hg.ok 3 rfl rfl ?_; refine R_ownB 0 3 1 rfl rfl rfl ?_)
  | (refine R_run hg.ok 4 rfl rfl ?_; refine R_ownB 0 3 1 rfl rfl rfl ?_)
  | (refine R_run hg.ok 5 rfl rfl ?_; refine R_ownB 0 3 1 rfl rfl rfl ?_)
  | (refine R_run hg.ok 6 rfl rfl ?_; refine R_ownB 0 3 1 rfl rfl rfl ?_)
  | (refine R_run hg.ok 7 rfl rfl ?_; refine R_ownB 0 3 1 rfl rfl rfl ?_)
  | (refine R_run hg.ok 8 rfl rfl ?_; refine R_ownB 0 3 1 rfl rfl rfl ?_)
  | (refine R_run hg.ok 9 rfl rfl ?_; refine R_ownB 0 3 1 rfl rfl rfl ?_)
  obtain ⟨⟨t,st1⟩,ht,hm⟩:=Option.bind_eq_some_iff.1 hm
  have hi0:RInv L { st with names:=[] }:=⟨Nat.zero_le _,hat⟩
  have hi1:=hG _ _ _ _ _ ht hi0
  have hc1:SCtr Tryz.prog ⟨[],fun _=>true⟩ 95 [.lo 0 0,iV 1200] (rdX S0 L { st with names:=[] } 0) t.av (rdX S0 L st1 0):=hT 0 1200 { st with names:=[] } t st1 ht (by decide) hi0
  refine R_run hg.ok 1000 rfl rfl ?_
  refine R_callSO hg.ok hg.gup ⟨rfl,rfl⟩ (fun _ _ _ _ h=>by cases h) [0,2] (clO S0 L st1 j out) (hc1) (fun _=>rfl) rfl rfl rfl rfl rfl (by rw [rdX_ren02]; rfl) rfl (by rw [rdX_ren02]; rfl) ?_
  refine R_run hg.ok 1000 rfl rfl ?_
  refine R_callSO hg.ok hg.gup ⟨rfl,rfl⟩ (fun _ _ _ _ h=>by cases h) [0,2] (clO S0 L st1 j out++[bxT t]) (xPeek ⟨[],fun _=>true⟩ S0 L st1 0) (fun _=>rfl) rfl rfl rfl rfl rfl (by rw [rdX_ren02]; rfl) rfl (by rw [rdX_ren02]; rfl) ?_
  refine R_run hg.ok 1000 rfl rfl ?_
  simp only at hm
  obtain ⟨st2,hst2⟩:∃ st2,st2=(if (peekR L st1).kind≠5 then failR L S0.length st1 2 else st1):=⟨_,rfl⟩
  rw [← hst2] at hm
  have h2:st2.e=0→st1.e=0∧st1.at_<L.length∧st2=st1:=fun h=>by
   by_cases hk5:(peekR L st1).kind≠5
   ·rw [if_pos hk5] at hst2; subst hst2
    unfold failR at h; split at h
    ·cases h
    ·rename_i hne; exact absurd h hne
   ·rw [if_neg hk5] at hst2
    have:=peek_lt (L:=L) (st:=st1) (by rw [Decidable.not_not.1 hk5]; decide)
    exact ⟨this.1,this.2,hst2⟩
  refine R_cut1 (fun _:Unit=>([(5,.d (.sl (tkRows L))),(8,.lo 0 0),(9,.ow 1 j),(10,iV (plcR L S0.length st.at_)),(11,.lo 3 0)],clO S0 L st2 j out++[bxT t])) (fun _=>True) rfl ?_ ?_
  ·by_cases hk5:(peekR L st1).kind≠5
   ·rw [if_pos hk5] at hst2
    refine R_if rfl rfl (fun _=>?_) (fun h=>absurd h (by simp [hk5])) <;> refine R_run hg.ok 1000 rfl rfl ?_
    refine R_callSO hg.ok hg.gup ⟨rfl,rfl⟩ (fun _ _ _ _ h=>by cases h) [0,2] (clO S0 L (failR L S0.length st1 2) j out++[bxT t]) (xFail ⟨[],fun _=>true⟩ S0 L st1 0 2) (fun _=>rfl) rfl rfl rfl rfl rfl (by rw [rdX_ren02]; rfl) rfl (by rw [rdX_ren02]; rfl) ?_
    refine R_run hg.ok 1000 rfl rfl ?_
    rw [← hst2]
    exact R_to () trivial ⟨.refl _,.refl _,.refl _,.refl _,.refl _,trivial⟩ rfl
   ·rw [if_neg hk5] at hst2
    refine R_if rfl rfl (fun h=>absurd h (by simp [hk5])) (fun _=>?_) <;> refine R_run hg.ok 1000 rfl rfl ?_
    rw [hst2]
    exact R_to () trivial ⟨.refl _,.refl _,.refl _,.refl _,.refl _,trivial⟩ rfl
  rintro _ _
  obtain ⟨st3,hst3⟩:∃ st3,st3=(if st2.e=0∧rightT t=false then { st2 with e:=3,bad:=plcR L S0.length st.at_ } else st2):=⟨_,rfl⟩
  rw [← hst3] at hm
  refine R_run hg.ok 1000 rfl rfl ?_
  by_cases h0:st2.e=0
  ·obtain ⟨h3,h4,h5⟩:=h2 h0
   have hbt:=hb _ _ _ hi0 ht h3
   have hR:=right_ok t hbt.1 hbt.2
   refine R_if rfl rfl (fun _=>?_) (fun h=>absurd h (by simp [h0])) <;> refine R_run hg.ok 1000 rfl rfl ?_
   cases hr:rightT t with
   | false =>
    have hst3:st3={ st2 with e:=3,bad:=plcR L S0.length st.at_ }:=by rw [hst3,hr]; exact if_pos ⟨h0,rfl⟩
    subst hst3
    rw [hr] at hR
    rw [if_pos (show ((3:Int)≠0) by decide)] at hm
    cases hm
    refine R_call hg.ok (hR) rfl rfl rfl rfl rfl rfl ?_
    refine R_run hg.ok 1000 rfl rfl ?_
    refine R_if rfl rfl (fun _=>?_) (fun h=>absurd h (by simp)) <;> refine R_run hg.ok 1000 rfl rfl ?_
    refine R_if rfl rfl (fun _=>?_) (fun h=>absurd h (by simp)) <;> refine R_run hg.ok 1000 rfl rfl ?_
    refine R_ret hg 5 rfl rfl ?_
    rfl
   | true =>
    have hst3:st3=st2:=by rw [hst3,hr]; exact if_neg (by simp)
    rw [hst3] at hm
    rw [hr] at hR
    rw [if_neg (by simp [h0])] at hm
    refine R_call hg.ok (hR) rfl rfl rfl rfl rfl rfl ?_
    refine R_run hg.ok 1000 rfl rfl ?_
    refine R_if rfl rfl (fun h=>absurd h (by simp)) (fun _=>?_) <;> refine R_run hg.ok 1000 rfl rfl ?_
    refine R_if rfl rfl (fun h=>absurd h (by simp [h0])) (fun _=>?_)
    refine R_freezeO hg.gup 2 [(5,.d (.sl (tkRows L))),(8,.lo 0 0),(9,.ow 1 j),(11,.lo 3 0),(67,.ff)] [cl1 S0 L st2,.arr 5 j (clRows out),.dead,bxT t] rfl rfl ⟨.refl _,.refl _,.refl _,.refl _,.refl _,trivial⟩ ⟨⟨.refl _,.refl _,.refl _,Ent.frz 2 _ _,.refl _,.refl _,.refl _,.refl _,.refl _,.refl _,Ent.tblFrz 2 _ _ st2.lay,trivial⟩,rfl,by simp [ObIn],⟨.refl _,.refl _,.refl _,.refl _,trivial⟩,trivial⟩ ?_
    have hnat:(nxR st2).at_=st1.at_+1:=by rw [h5]; rfl
    first
    | (refine R_run hg.ok 1 rfl rfl ?_; refine R_obs [cl1 S0 L (nxR st2),.arr 5 j (clRows out),.dead,bxT t] ⟨⟨.refl _,.refl _,Ent.wrap rfl (by omega) (by omega),.refl _,.refl _,.refl _,.refl _,.refl _,.refl _,.refl _,.refl _,trivial⟩,.refl _,.refl _,.refl _,trivial⟩ rfl ?_)
    | (refine R_run hg.ok 2 rfl rfl ?_; refine R_obs [cl1 S0 L (nxR st2),.arr 5 j (clRows out),.dead,bxT t] ⟨⟨.refl _,.refl _,Ent.wrap rfl (by omega) (by omega),.refl _,.refl _,.refl _,.refl _,.refl _,.refl _,.refl _,.refl _,trivial⟩,.refl _,.refl _,.refl _,trivial⟩ rfl ?_)
    | (refine R_run hg.ok 3 rfl rfl ?_; refine R_obs [cl1 S0 L (nxR st2),.arr 5 j (clRows out),.dead,bxT t] ⟨⟨.refl _,.refl _,Ent.wrap rfl (by omega) (by omega),.refl _,.refl _,.refl _,.refl _,.refl _,.refl _,.refl _,.refl _,trivial⟩,.refl _,.refl _,.refl _,trivial⟩ rfl ?_)
    | (refine R_run hg.ok 4 rfl rfl ?_; refine R_obs [cl1 S0 L (nxR st2),.arr 5 j (clRows out),.dead,bxT t] ⟨⟨.refl _,.refl _,Ent.wrap rfl (by omega) (by omega),.refl _,.refl _,.refl _,.refl _,.refl _,.refl _,.refl _,.refl _,trivial⟩,.refl _,.refl _,.refl _,trivial⟩ rfl ?_)
    | (refine R_run hg.ok 5 rfl rfl ?_; refine R_obs [cl1 S0 L (nxR st2),.arr 5 j (clRows out),.dead,bxT t] ⟨⟨.refl _,.refl _,Ent.wrap rfl (by omega) (by omega),.refl _,.refl _,.refl _,.refl _,.refl _,.refl _,.refl _,.refl _,trivial⟩,.refl _,.refl _,.refl _,trivial⟩ rfl ?_)
    | (refine R_run hg.ok 6 rfl rfl ?_; refine R_obs [cl1 S0 L (nxR st2),.arr 5 j (clRows out),.dead,bxT t] ⟨⟨.refl _,.refl _,Ent.wrap rfl (by omega) (by omega),.refl _,.refl _,.refl _,.refl _,.refl _,.refl _,.refl _,.refl _,trivial⟩,.refl _,.refl _,.refl _,trivial⟩ rfl ?_)
    | (refine R_run hg.ok 7 rfl rfl ?_; refine R_obs [cl1 S0 L (nxR st2),.arr 5 j (clRows out),.dead,bxT t] ⟨⟨.refl _,.refl _,Ent.wrap rfl (by omega) (by omega),.refl _,.refl _,.refl _,.refl _,.refl _,.refl _,.refl _,.refl _,trivial⟩,.refl _,.refl _,.refl _,trivial⟩ rfl ?_)
    | (refine R_run hg.ok 8 rfl rfl ?_; refine R_obs [cl1 S0 L (nxR st2),.arr 5 j (clRows out),.dead,bxT t] ⟨⟨.refl _,.refl _,Ent.wrap rfl (by omega) (by omega),.refl _,.refl _,.refl _,.refl _,.refl _,.refl _,.refl _,.refl _,trivial⟩,.refl _,.refl _,.refl _,trivial⟩ rfl ?_)
    refine R_run hg.ok 1000 rfl rfl ?_
    refine R_appendO hg.ok (clRows (out++[(t,st2.names)])) rfl rfl rfl rfl rfl rfl rfl rfl rfl (by simp) (by simp [one1]) (by rw [clRows,clRows,List.map_append]; rfl) (by rw [clRows_len]; simp; omega) (by rw [clRows_len]; simp; omega) ?_
    refine R_run hg.ok 1000 rfl rfl ?_
    refine R_dropO 2 [cl1 S0 L (nxR st2),.arr 5 (j+1) (clRows (out++[(t,st2.names)]))] (Nat.zero_le _) rfl ?_ ?_
    ·unfold cl1 nxR; simp only; generalize st2.lay=b; cases b <;> rfl
    exact R_next (f,nxR st2,out++[(t,st2.names)],j+1) ⟨hm,h0,by simp; omega,by rw [h5]; exact h4⟩ (by simp only; omega) ⟨.refl _,.refl _,.refl _,trivial⟩ rfl
  ·have hst3:st3=st2:=by rw [hst3]; exact if_neg (fun h=>h0 h.1)
   rw [hst3,if_pos h0] at hm
   cases hm
   refine R_if rfl rfl (fun h=>absurd h (by simp [h0])) (fun _=>?_) <;> refine R_run hg.ok 1000 rfl rfl ?_
   refine R_if rfl rfl (fun _=>?_) (fun h=>absurd h (by simp [h0])) <;> refine R_run hg.ok 1000 rfl rfl ?_
   refine R_ret hg 5 rfl rfl ?_
   rfl
 ·rw [if_neg hat2] at hm
  cases hm
  refine R_if rfl rfl (fun h=>absurd h (by simp [tkRows_len]; omega)) (fun _=>?_) <;> refine R_run hg.ok 1000 rfl rfl ?_
  exact R_ret hg 5 rfl (sealA_tup (mapO_cons (sealA_ow rfl) rfl)) rfl
end Go.Proofs.YtcgkgofmldhokaaGreat

namespace Go.Proofs.YtcgkgofmldhokaaGreat
open Go PSL Go.Proofs
end Go.Proofs.YtcgkgofmldhokaaGreat

namespace Go.Proofs.YtcgkgofmldhokaaGreat
open Go PSL Go.Proofs
end Go.Proofs.YtcgkgofmldhokaaGreat

namespace Go.Proofs.YtcgkgofmldhokaaGreat
open Go PSL Go.Proofs
end Go.Proofs.YtcgkgofmldhokaaGreat

namespace Go.Proofs.YtcgkgofmldhokaaGreat
open Go PSL Go.Proofs
end Go.Proofs.YtcgkgofmldhokaaGreat

namespace Go.Proofs.YtcgkgofmldhokaaGreat
open Go PSL Go.Proofs
end Go.Proofs.YtcgkgofmldhokaaGreat

namespace Go.Proofs.YtcgkgofmldhokaaGreat
open Go PSL Go.Proofs
end Go.Proofs.YtcgkgofmldhokaaGreat

namespace Go.Proofs.YtcgkgofmldhokaaGreat
open Go PSL Go.Proofs
end Go.Proofs.YtcgkgofmldhokaaGreat

namespace Go.Proofs.YtcgkgofmldhokaaGreat
open Go PSL Go.Proofs
end Go.Proofs.YtcgkgofmldhokaaGreat

namespace Go.Proofs.YtcgkgofmldhokaaGreat
open Go PSL Go.Proofs

def clA (x:Clau):AV:=.agg [.d (.v (.int .i64 x.1.k)),.d (.v (.string x.1.s)),.d (.v (.int .i64 x.1.n)),.d (.sl (Tm.rows x.1.l)),.d (.sl (strRows x.2))]

def oneR (n:Nat):List Clau × Int × Int→Clau × Int × Int
 | (c,a,e)=>if e≠0 then ((zeroT,[]),a,e) else match c with
  | [x]=>(x,0,0)
  | _=>((zeroT,[]),n,2)

set_option maxRecDepth 100000 in
theorem one_ok (S0:Bs) (c:List Clau) (a e:Int) (h:PCtr Tryz.prog 63 [txA S0] (.tup [.d (.sl (clRows c)),iV a,iV e])):PCtr Tryz.prog 67 [txA S0] (.tup [clA (oneR S0.length (c,a,e)).1,iV (oneR S0.length (c,a,e)).2.1,iV (oneR S0.length (c,a,e)).2.2]):=by
 unfold oneR
 simp only
 refine PCtr.of_R (pf:=fun _=>.eff) tyOk mixed Tryz.func67 rfl (by kernel_rfl) (by kernel_rfl) (by simp [Tryz.ntmps67]) fun w S hg=>?_
 refine R_run hg.ok 1000 rfl rfl ?_
 refine R_call hg.ok (h) rfl rfl rfl rfl rfl rfl ?_
 refine R_run hg.ok 1000 rfl rfl ?_
 by_cases he:e≠0
 ·rw [if_pos he]
  refine R_if rfl rfl (fun _=>?_) (fun h=>absurd h (by simp [he])) <;> refine R_run hg.ok 1000 rfl rfl ?_
  refine R_ret hg 5 rfl rfl ?_
  rfl
 rw [if_neg he]
 refine R_if rfl rfl (fun h=>absurd h (by simpa using he)) (fun _=>?_) <;> refine R_run hg.ok 1000 rfl rfl ?_
 match c with
 | [x] =>
  refine R_if rfl rfl (fun h=>absurd h (by simp [clRows])) (fun _=>?_) <;> refine R_run hg.ok 1000 rfl rfl ?_
  refine R_index hg.ok rfl rfl rfl rfl rfl rfl (by decide) (show (clRows [x])[Int.toNat 0]? = some (clRow x) from rfl) rfl ?_
  refine R_run hg.ok 1000 rfl rfl ?_
  refine R_ret hg 5 rfl rfl ?_
  rfl
 | [] =>
  refine R_if rfl rfl (fun _=>?_) (fun h=>absurd h (by simp [clRows])) <;> refine R_run hg.ok 1000 rfl rfl ?_
  refine R_ret hg 5 rfl rfl ?_
  rw [Tx_size]; rfl
 | x::y::l =>
  refine R_if rfl rfl (fun _=>?_) (fun h=>absurd h (by simp [clRows]; omega)) <;> refine R_run hg.ok 1000 rfl rfl ?_
  refine R_ret hg 5 rfl rfl ?_
  rw [Tx_size]; rfl
end Go.Proofs.YtcgkgofmldhokaaGreat

namespace PSL
open Go
end PSL

namespace PSL
open Go
def st0:RSt:=⟨0,[],0,0,false⟩
end PSL

namespace Go.Proofs.YtcgkgofmldhokaaGreat
open Go PSL Go.Proofs
end Go.Proofs.YtcgkgofmldhokaaGreat

namespace Go.Proofs.YtcgkgofmldhokaaGreat
open Go PSL Go.Proofs
end Go.Proofs.YtcgkgofmldhokaaGreat

namespace Go.Proofs.YtcgkgofmldhokaaGreat
open Go PSL Go.Proofs
end Go.Proofs.YtcgkgofmldhokaaGreat

namespace Go.Proofs.YtcgkgofmldhokaaGreat
open Go PSL Go.Proofs
end Go.Proofs.YtcgkgofmldhokaaGreat

namespace Go.Proofs.YtcgkgofmldhokaaGreat
open Go PSL Go.Proofs
end Go.Proofs.YtcgkgofmldhokaaGreat

namespace Go.Proofs.YtcgkgofmldhokaaGreat
open Go PSL Go.Proofs
theorem clRows_get {c:List Clau} {i:Nat} {x:Clau} (h:c[i]? = some x):(clRows c)[i]? = some (clRow x):=by simp [clRows,h]
theorem rightT_fun:rightT=Tm.rightB:=funext rightT_eq

set_option maxRecDepth 100000 in
theorem clausesBad_ok (S0:Bs) (a e:Int) (he:e≠0) (h:PCtr Tryz.prog 93 [txA S0] (.tup [.d (.sl (tkRows [])),iV a,iV e])):PCtr Tryz.prog 63 [txA S0] (.tup [.d (.sl (clRows [])),iV a,iV e]):=by
 refine PCtr.of_R (pf:=fun _=>.eff) tyOk mixed Tryz.func63 rfl (by kernel_rfl) (by kernel_rfl) (by simp [Tryz.ntmps63]) fun w S hg=>?_
 refine R_run hg.ok 1000 rfl rfl ?_
 refine R_call hg.ok (h) rfl rfl rfl rfl rfl rfl ?_
 refine R_run hg.ok 1000 rfl rfl ?_
 refine R_if rfl rfl (fun _=>?_) (fun h=>absurd h (by simp [he])) <;> refine R_run hg.ok 1000 rfl rfl ?_
 refine R_ret hg 5 rfl rfl ?_
 rfl

theorem clausesT_ok (S0:Bs) (hS:S0.length≤9000) {c:List Clau} {a e:Int} (h:clauR rightT false S0=some (c,a,e)):PCtr Tryz.prog 63 [txA S0] (.tup [.d (.sl (clRows c)),iV a,iV e]):=by
 unfold clauR at h
 by_cases he:(tokT S0).2.2≠0
 ·rw [if_pos he] at h
  have ht:=tokens_ok S0 hS
  unfold tokR at ht
  rw [(tok_bad he).1] at ht
  cases h
  exact clausesBad_ok S0 _ _ he ht
 ·rw [if_neg he] at h
  obtain ⟨h8,ht,_⟩:=tok_ok (Decidable.not_not.1 he)
  have hpl:=toks_plc ht
  have hgd:=toks_good _ _ _ _ ht
  have hlen:=toks_len _ S0 0 _ ht
  refine clauses_ok S0 hS _ (by omega) (fun t ht=>⟨(hpl t ht).1,(hpl t ht).2,(hgd t ht).lo,(hgd t ht).hi⟩) (tokR_ok (by omega) ht) _ (fun st t st' hi hx he=>?_) c a e h
  have:=read_small (by omega) hS hgd hi hx he
  exact ⟨by have:=this.1; omega,fun e he=>by have:=this.2 1 e he; omega⟩
theorem oneT_ok9 (S0:Bs) (hS:S0.length≤9000) {c:List Clau} {a e:Int} (h:clauR rightT false S0=some (c,a,e)):PCtr Tryz.prog 67 [txA S0] (.tup [clA (oneR S0.length (c,a,e)).1,iV (oneR S0.length (c,a,e)).2.1,iV (oneR S0.length (c,a,e)).2.2]):=one_ok S0 c a e (clausesT_ok S0 hS h)
end Go.Proofs.YtcgkgofmldhokaaGreat

namespace Go.Proofs.YtcgkgofmldhokaaGreat
open Go PSL Go.Proofs

set_option maxRecDepth 100000 in
theorem goals_ok (t:Tm) (ht:SmT t) (hc:noCh t=true):PCtr Tryz.prog 65 [t.av] (.tup [.d (.sl (Gl.rows (goalsT t).1)),iV (goalsT t).2]):=by
 have hs:=ht.1
 have hD:=(gol_ok ⟨[],fun _=>true⟩ t.size).2 t (20,0) 1 true ht hc (Nat.le_refl _) (by simp only; omega) (by simp only; omega) (by omega) (by omega)
 refine PCtr.of_R (pf:=fun _=>.eff) tyOk mixed Tryz.func65 rfl (by kernel_rfl) (by kernel_rfl) (by simp [Tryz.ntmps65]) fun w S hg=>?_
 refine R_run hg.ok 1000 rfl rfl ?_
 refine R_call hg.ok (right_ok t (by omega) (ht.2 1)) rfl rfl rfl rfl rfl rfl ?_
 refine R_run hg.ok 1000 rfl rfl ?_
 unfold goalsT
 by_cases hr:rightT t=true
 rotate_left
 ·rw [if_neg hr]
  have hr:rightT t=false:=by simpa using hr
  refine R_if rfl rfl (fun _=>?_) (fun h=>absurd h (by simp [hr])) <;> refine R_run hg.ok 1000 rfl rfl ?_
  refine R_ret hg 5 rfl rfl ?_
  rfl
 rw [if_pos hr]
 refine R_if rfl rfl (fun h=>absurd h (by simp [hr])) (fun _=>?_) <;> refine R_run hg.ok 1000 rfl rfl ?_
 generalize golF t.size t (20,0) 1 true=A at *
 refine R_callSO hg.ok hg.gup ⟨rfl,rfl⟩ (fun _ _ _ _ h=>by cases h) [1] ([boxR t]++mkO A.2) (hD) (fun _=>rfl) rfl rfl rfl rfl rfl rfl rfl rfl ?_
 refine R_run hg.ok 1000 rfl rfl ?_
 by_cases he:A.2.2≠0
 ·rw [if_pos he]
  refine R_if rfl rfl (fun _=>?_) (fun h=>absurd h (by simp [he])) <;> refine R_run hg.ok 1000 rfl rfl ?_
  refine R_ret hg 5 rfl rfl ?_
  rfl
 ·rw [if_neg he]
  refine R_if rfl rfl (fun h=>absurd h (by simp at he; simp [he])) (fun _=>?_) <;> refine R_run hg.ok 1000 rfl rfl ?_
  refine R_ret hg 5 rfl rfl ?_
  rfl
end Go.Proofs.YtcgkgofmldhokaaGreat

namespace Go.Proofs.YtcgkgofmldhokaaGreat
open Go PSL Go.Proofs
theorem csRows_snoc (l:List Cs) (c:Cs):Cs.rows l++[c.row]=Cs.rows (l++[c]):=by simp [Cs.rows]
def csB (x:Cs):Ob:=.box [.d (.v (.int .i64 x.head.k)),.d (.v (.string x.head.s)),.d (.v (.int .i64 x.head.n)),.d (.sl (Tm.rows x.head.l)),.d (.sl (Gl.rows x.body)),.d (.v (.int .i64 x.vars))]
theorem smT_right {t:Tm} (h:t.rightB=true):SmT t:=⟨by have:=(Tm.rightB_iff.1 h).2.1; omega,fun x e he=>fair_names (right_fair h) x e he⟩
def clB (x:Clau):Ob:=.box [.d (.v (.int .i64 x.1.k)),.d (.v (.string x.1.s)),.d (.v (.int .i64 x.1.n)),.d (.sl (Tm.rows x.1.l)),.d (.sl (strRows x.2))]
def loadE (x:Clau):Int:=if sgOf x.1=sgR then (goalsT (argT x.1 1)).2 else 0

theorem loadE_own (x:Clau):(loadOne x).2=if ownB (loadOne x).1.head=true then loadE x else 5:=by
 unfold loadOne loadE
 split <;> rfl

theorem loadOne_sm {x:Clau} (hx:ClG x) (hc:noCh x.1=true):SmC (loadOne x).1:=by
 have hs:=smT_right hx.right
 have h3:=(Tm.rightB_iff.1 hx.right).2.1
 unfold loadOne
 by_cases h:sgOf x.1=sgR
 ·rw [if_pos h]
  have hl:x.1.l.length=2:=sg_len (n:=2) h
  have h1:SmT (argT x.1 1):=hs.arg (by omega)
  have h2:=size_arg (t:=x.1) (i:=1) (by omega)
  obtain ⟨g1,g2,_⟩:=golF_ok (argT x.1 1).size (argT x.1 1) (20,0) 1 true h1
  refine ⟨hs.arg (by omega),?_,?_⟩
  ·simp only [goalsT]
   split
   ·split
    ·simp only [allGL]
    ·exact g1
   ·simp only [allGL]
  ·simp only [goalsT]
   split
   ·split
    ·simp [Gl.sizeL]
    ·simp only; omega
   ·simp [Gl.sizeL]
 ·rw [if_neg h]
  exact ⟨hs,by simp only [allGL],by simp [Gl.sizeL]⟩

set_option maxHeartbeats 4000000 in
set_option maxRecDepth 100000 in
theorem load_ok (S0:Bs) (hS:S0.length≤9000) {c:List Clau} {a e:Int} (h:clauR rightT false S0=some (c,a,e)) (hc:∀ x∈c,noCh x.1=true):PCtr Tryz.prog 29 [txA S0] (if e≠0 then .tup [prV [],iV a,iV e] else .tup [prV (loadL c 0 []).1,iV (loadL c 0 []).2.1,iV (loadL c 0 []).2.2]):=by
 obtain ⟨_,f2,_,_⟩:=clau_facts hS h
 have hct:=clau_count h
 have hrl:=clRows_len c
 refine PCtr.of_R (pf:=fun _=>.eff) tyOk mixed Tryz.func29 rfl (by kernel_rfl) (by kernel_rfl) (by simp [Tryz.ntmps29]) fun w S hg=>?_
 refine R_run hg.ok 1000 rfl rfl ?_
 refine R_call hg.ok (clausesT_ok S0 hS h) rfl rfl rfl rfl rfl rfl ?_
 refine R_run hg.ok 1000 rfl rfl ?_
 by_cases he:e≠0
 ·rw [if_pos he]
  refine R_if rfl rfl (fun _=>?_) (fun h=>absurd h (by simp [he])) <;> refine R_run hg.ok 1000 rfl rfl ?_
  refine R_ret hg 5 rfl rfl ?_
  rfl
 rw [if_neg he]
 have he:e=0:=Decidable.not_not.1 he
 subst he
 obtain ⟨_,hcn⟩:=f2 rfl
 refine R_if rfl rfl (fun h=>absurd h (by simp)) (fun _=>?_) <;> refine R_run hg.ok 1000 rfl rfl ?_
 refine R_ownB 1 0 6 rfl rfl rfl ?_
 refine R_loop (fun x:Nat × Nat × List Cs=>([(2,.lo 0 0),(8,.lo 1 0),(26,.d (.sl (clRows c))),(27,iV c.length),(28,iV x.1)],[.box [.d (.v (.slice none 0 0))],.box [.ow 2 x.2.1],.arr 6 x.2.1 (Cs.rows x.2.2)])) (fun x=>x.1≤c.length∧loadL c 0 []=loadL (c.drop x.1) x.1 x.2.2∧x.2.2.length≤x.1∧∀ y∈x.2.2,SmC y) (fun x=>c.length - x.1) (0,0,[]) ⟨Nat.zero_le _,rfl,Nat.le_refl _,by simp⟩ ⟨.refl _,.refl _,.refl _,by rw [hrl]; exact .refl _,.refl _,trivial⟩ rfl ?_
 rintro ⟨k,s,out⟩ ⟨hk,hm,hol,hsm⟩
 have hm:loadL c 0 []=loadL (c.drop k) k out:=hm
 have hk:k≤c.length:=hk
 have hol:out.length≤k:=hol
 have hro:=Cs.rows_len out
 refine R_run hg.ok 1000 rfl rfl ?_
 refine R_if rfl rfl (fun h=>?_) (fun h=>?_)
 ·refine R_run hg.ok 1000 rfl rfl ?_
  have hk1:k<c.length:=lt_dec h rfl
  have e1:c[k]? = some c[k]:=List.getElem?_eq_getElem hk1
  have hmem:=List.getElem_mem hk1
  rw [List.drop_eq_getElem_cons hk1] at hm
  generalize c[k]=x at e1 hm hmem
  have hx:=hcn x hmem
  have hnc:=hc x hmem
  have hs:=smT_right hx.right
  have hsm1:=loadOne_sm hx hnc
  simp only [loadL] at hm
  refine R_index hg.ok rfl rfl rfl rfl rfl rfl (Int.natCast_nonneg _) (clRows_get e1) rfl ?_
  refine R_run hg.ok 1000 rfl rfl ?_
  refine R_call hg.ok (signOf_ok x.1) rfl rfl rfl rfl rfl rfl ?_
  refine R_run hg.ok 1000 rfl rfl ?_
  refine R_eqK hg.ok (sgOf x.1) sgR signCmp rfl rfl rfl rfl ?_
  refine R_run hg.ok 1000 rfl rfl ?_
  refine R_cut1 (fun _:Unit=>([(2,.lo 0 0),(8,.lo 1 0),(9,iV k),(11,.lo 4 0),(12,iV (loadE x)),(26,.d (.sl (clRows c))),(27,iV c.length),(28,iV k)],[.box [.d (.v (.slice none 0 0))],.box [.ow 2 s],.arr 6 s (Cs.rows out),clB x,csB (loadOne x).1])) (fun _=>True) rfl ?_ ?_
  ·by_cases hq:sgOf x.1=sgR
   ·have hl:x.1.l.length=2:=sg_len (n:=2) hq
    have hl0:0<x.1.l.length:=by omega
    have hl1:1<x.1.l.length:=by omega
    rw [show loadE x=(goalsT (argT x.1 1)).2 by unfold loadE; rw [if_pos hq],show (loadOne x).1=⟨argT x.1 0,(goalsT (argT x.1 1)).1,x.2.length⟩ by unfold loadOne; rw [if_pos hq]]
    refine R_if rfl rfl (fun _=>?_) (fun h=>absurd h (by simp [hq])) <;> refine R_run hg.ok 1000 rfl rfl ?_
    refine R_index hg.ok rfl rfl rfl rfl rfl rfl (by decide) (Tm.rows_get (i:=0) (argT_get hl0)) rfl ?_
    refine R_run hg.ok 1000 rfl rfl ?_
    refine R_index hg.ok rfl rfl rfl rfl rfl rfl (by decide) (Tm.rows_get (i:=1) (argT_get hl1)) rfl ?_
    refine R_run hg.ok 1000 rfl rfl ?_
    refine R_call hg.ok (goals_ok (argT x.1 1) (hs.arg hl1) (noCh_arg hnc hl1)) rfl rfl rfl rfl rfl rfl ?_
    refine R_run hg.ok 1000 rfl rfl ?_
    rw [strRows_len]
    exact R_to () trivial ⟨.refl _,.refl _,.refl _,.refl _,.refl _,.refl _,.refl _,.refl _,trivial⟩ rfl
   ·rw [show loadE x=0 by unfold loadE; rw [if_neg hq],show (loadOne x).1=⟨x.1,[],x.2.length⟩ by unfold loadOne; rw [if_neg hq]]
    refine R_if rfl rfl (fun h=>absurd h (by simp [hq])) (fun _=>?_) <;> refine R_run hg.ok 1000 rfl rfl ?_
    rw [strRows_len]
    refine R_obs [.box [.d (.v (.slice none 0 0))],.box [.ow 2 s],.arr 6 s (Cs.rows out),clB x,csB ⟨x.1,[],x.2.length⟩] (show ObsIn [.box [.d (.v (.slice none 0 0))],.box [.ow 2 s],.arr 6 s (Cs.rows out),clB x,.box [.d (.v (.int .i64 x.1.k)),.d (.v (.string x.1.s)),.d (.v (.int .i64 x.1.n)),.d (.sl (Tm.rows x.1.l)),.d (.v (.slice none 0 0)),.d (.v (.int .i64 x.2.length))]] _ from ⟨⟨.refl _,trivial⟩,⟨.refl _,trivial⟩,rfl,⟨.refl _,.refl _,.refl _,.refl _,.refl _,trivial⟩,⟨.refl _,.refl _,.refl _,.refl _,Ent.nrm _,.refl _,trivial⟩,trivial⟩) rfl ?_
    exact R_to () trivial ⟨.refl _,.refl _,.refl _,.refl _,.refl _,.refl _,.refl _,.refl _,trivial⟩ rfl
  rintro _ _
  refine R_run hg.ok 1000 rfl rfl ?_
  have hown:=loadE_own x
  cases ho:ownB (loadOne x).1.head with
  | false =>
   have hc1:=own_ok11 (loadOne x).1.head
   rw [ho] at hc1 hown
   rw [if_neg (by simp)] at hown
   rw [hown,if_pos (by decide)] at hm
   refine R_call hg.ok (hc1) rfl rfl rfl rfl rfl rfl ?_
   refine R_run hg.ok 1000 rfl rfl ?_
   refine R_if rfl rfl (fun _=>?_) (fun h=>absurd h (by simp)) <;> refine R_run hg.ok 1000 rfl rfl ?_
   refine R_if rfl rfl (fun _=>?_) (fun h=>absurd h (by simp)) <;> refine R_run hg.ok 1000 rfl rfl ?_
   refine R_ret hg 5 rfl rfl ?_
   rw [hm]; rfl
  | true =>
   have hc1:=own_ok11 (loadOne x).1.head
   rw [ho] at hc1 hown
   rw [if_pos rfl] at hown
   rw [hown] at hm
   refine R_call hg.ok (hc1) rfl rfl rfl rfl rfl rfl ?_
   refine R_run hg.ok 1000 rfl rfl ?_
   refine R_if rfl rfl (fun h=>absurd h (by simp)) (fun _=>?_) <;> refine R_run hg.ok 1000 rfl rfl ?_
   by_cases hle:loadE x≠0
   ·rw [if_pos hle] at hm
    refine R_if rfl rfl (fun _=>?_) (fun h=>absurd h (by simp [hle])) <;> refine R_run hg.ok 1000 rfl rfl ?_
    refine R_ret hg 5 rfl rfl ?_
    rw [hm]; rfl
   ·rw [if_neg hle] at hm
    refine R_if rfl rfl (fun h=>absurd h (by simp at hle; simp [hle])) (fun _=>?_) <;> refine R_run hg.ok 1000 rfl rfl ?_
    refine R_appendO hg.ok (Cs.rows (out++[(loadOne x).1])) rfl rfl rfl rfl rfl rfl rfl rfl rfl (by simp) (by simp [one1]) (csRows_snoc _ _) (by rw [hro]; simp; omega) (by rw [hro]; simp; omega) ?_
    refine R_run hg.ok 1000 rfl rfl ?_
    refine R_dropO 3 [.box [.d (.v (.slice none 0 0))],.box [.ow 2 (Nat.succ s)],.arr 6 (Nat.succ s) (Cs.rows (out++[(loadOne x).1]))] (Nat.zero_le _) rfl rfl ?_
    exact R_next (k+1,Nat.succ s,out++[(loadOne x).1]) ⟨hk1,hm,by simp only [List.length_append,List.length_singleton]; omega,fun y hy=>(List.mem_append.1 hy).elim (hsm y) (fun h=>by rw [List.mem_singleton.1 h]; exact hsm1)⟩ (by simp only; omega) ⟨.refl _,.refl _,.refl _,.refl _,Ent.wrap (by simp only; omega) (by simp only; omega) (by simp only; omega),trivial⟩ rfl
 ·have hk1:c.length≤k:=ge_dec h rfl
  rw [List.drop_eq_nil_of_le hk1] at hm
  simp only [loadL] at hm
  refine R_freezeO hg.gup 2 [(2,.lo 0 0),(8,.lo 1 0),(29,.ff)] [.box [.d (.v (.slice none 0 0))],.box [.d (.sl (Cs.rows out))],.dead] rfl rfl ⟨.refl _,.refl _,.refl _,trivial⟩ ⟨⟨.refl _,trivial⟩,⟨Ent.frz 2 s _,trivial⟩,trivial,trivial⟩ ?_
  refine R_run hg.ok 1000 rfl rfl ?_
  refine R_call hg.ok (check_ok out hsm) rfl rfl rfl rfl rfl rfl ?_
  refine R_run hg.ok 1000 rfl rfl ?_
  by_cases hce:(checkR out).2≠0
  ·rw [if_pos hce] at hm
   refine R_if rfl rfl (fun _=>?_) (fun h=>absurd h (by simp [hce])) <;> refine R_run hg.ok 1000 rfl rfl ?_
   refine R_ret hg 5 rfl rfl ?_
   rw [hm]; rfl
  ·rw [if_neg hce] at hm
   refine R_if rfl rfl (fun h=>absurd h (by simp at hce; simp [hce])) (fun _=>?_) <;> refine R_run hg.ok 1000 rfl rfl ?_
   refine R_ret hg 5 rfl rfl ?_
   rw [hm]; rfl
end Go.Proofs.YtcgkgofmldhokaaGreat

namespace PSL
open Go

theorem stepV_len (es:List (Int × Tm)):∀ a:List Int,(es.foldl stepV a).length≤a.length+es.length:=by
 induction es with
 | nil=>intro a; exact Nat.le_refl _
 | cons x r ih =>
  intro a
  have h1:=ih (stepV a x)
  have h2:(stepV a x).length≤a.length+1:=by
   unfold stepV addV
   split
   ·split <;> simp
   ·omega
  simp only [List.foldl_cons,List.length_cons]; omega

theorem varsT_len1 (t:Tm):(varsT [t]).length≤t.size:=by
 have:=stepV_len (t.els 1) []
 rw [Tm.els_len] at this
 simpa [varsT] using this
def atomT (s:ByteArray):Tm:=.mk 3 s 0 []
def qryS:ByteArray:=⟨#[113,117,101,114,121]⟩
def pfC (s:ByteArray) (q:Cs):Cs:=⟨atomT s,q.body,q.vars⟩

theorem cls_atom (s:ByteArray) (h1:(atomT s).rightB=true) (h2:ownB (atomT s)=true) (q:Cs):clsB (pfC s q)=(decide (0≤q.vars)&&decide (q.vars≤1000)&&(chkL q.vars q.body 20 1 true).1):=by
 have h3:chkT q.vars (atomT s)=true:=by
  rw [chk_vars]
  unfold varsB
  rw [h1,show varsT [atomT s]=[] by rfl]; rfl
 show (decide (0≤q.vars)&&decide (q.vars≤1000)&&chkT q.vars (atomT s)&&ownB (atomT s)&&(chkL q.vars q.body 20 1 true).1)=_
 rw [h2,h3]; simp
theorem qry_own:(atomT qryS).rightB=true∧ownB (atomT qryS)=true:=⟨by kernel_rfl,by kernel_rfl⟩

def fairQ (q:Cs) (l:List Cs):Bool :=
 ((checkR l).2==0)&&(q.head.k==3)&&strEq q.head.s ⟨#[63]⟩&&q.head.rightB&&(varsT [q.head]).all (fun x=>decide (x<q.vars))&&clsB (pfC qryS q)&&thereL (hasH l) q.body

structure FairQ (q:Cs) (l:List Cs):Prop where
 prog:(checkR l).2=0
 kind:q.head.k=3
 name:q.head.s=⟨#[63]⟩
 right:q.head.rightB=true
 vars:∀ x∈varsT [q.head],x<q.vars
 vars0:0≤q.vars
 vars1:q.vars≤1000
 body:(chkL q.vars q.body 20 1 true).1=true
 there:thereL (hasH l) q.body=true

theorem fairQ_ok {q:Cs} {l:List Cs} (h:fairQ q l=true):FairQ q l:=by
 unfold fairQ at h
 simp only [Bool.and_eq_true,beq_iff_eq] at h
 obtain ⟨⟨⟨⟨⟨⟨h1,h2⟩,h3⟩,h4⟩,h5⟩,h6⟩,h7⟩:=h
 rw [cls_atom _ qry_own.1 qry_own.2] at h6
 simp only [Bool.and_eq_true,decide_eq_true_eq] at h6
 exact ⟨h1,h2,Tm.strEq_iff.1 h3,h4,fun x hx=>by simpa using List.all_eq_true.1 h5 x hx,h6.1.1,h6.1.2,h6.2,h7⟩

theorem codeL_app (a b:List Cs) (out:List Is):codeL (a++b) out=codeL b (codeL a out):=by
 induction a generalizing out with
 | nil=>rfl
 | cons c r ih=>simp only [List.cons_append,codeL]; exact ih _

theorem codeL_take {l:List Cs} {i:Nat} {c:Cs} (h:l[i]? = some c) (out:List Is):codeL (l.take (i+1)) out=codeL (l.take i) out++clsC c (codeL (l.take i) out).length:=by
 rw [List.take_add_one,h,codeL_app]; rfl

theorem entL_app (a b:List Cs) (out:List Is):entL (a++b) out.length=entL a out.length++entL b (codeL a out).length:=by
 induction a generalizing out with
 | nil=>rfl
 | cons c r ih =>
  simp only [List.cons_append,entL,codeL]
  have:=ih (out++clsC c out.length)
  rw [List.length_append] at this
  rw [this]

theorem entL_take {l:List Cs} {i:Nat} {c:Cs} (h:l[i]? = some c):entL (l.take (i+1)) 0=entL (l.take i) 0++[entG c (codeL (l.take i) []).length]:=by
 have:=entL_app (l.take i) [c] []
 rw [List.take_add_one,h]
 exact this

theorem entL_len:∀ (l:List Cs) (at_:Nat),(entL l at_).length=l.length
 | [],_=>rfl
 | c::r,at_=>by simp only [entL,List.length_cons,entL_len r]

theorem clsC_len (c:Cs) (at_:Nat):(clsC c at_).length≤c.head.size+c.vars.toNat+4 * Gl.sizeL c.body+1:=by
 have h1:=headGL_len c.head.l []
 have h2:=freshG_len (headGL c.head.l []).2 c.vars.toNat
 have h3:=golDL_len c.body (at_+(clsH c).length) c.vars
 have h4:=Tm.size_eq c.head
 unfold clsC
 generalize golDL c.body (at_+(clsH c).length) c.vars=G at *
 unfold clsH
 simp only [List.length_append,List.length_singleton]
 omega

theorem codeL_len:∀ (l:List Cs) (out:List Is),(∀ c∈l,c.vars≤1000)→(codeL l out).length≤out.length+4 * Cs.sizeL l+1001 * l.length
 | [],out,_=>by simp [codeL,Cs.sizeL]
 | c::r,out,h=>by
  have h1:=clsC_len c out.length
  have h2:=h c List.mem_cons_self
  have h3:=codeL_len r (out++clsC c out.length) fun x hx=>h x (List.mem_cons_of_mem _ hx)
  rw [List.length_append] at h3
  simp only [codeL,Cs.sizeL,Cs.size,List.length_cons]
  omega

theorem cs_sizeL_take (l:List Cs) (k:Nat):Cs.sizeL (l.take k)≤Cs.sizeL l:=by
 induction l generalizing k with
 | nil=>simp [Cs.sizeL]
 | cons c r ih=>cases k with
  | zero=>simp [Cs.sizeL]
  | succ k=>have:=ih k; simp only [List.take_succ_cons,Cs.sizeL]; omega

theorem cs_size_mem {l:List Cs} {c:Cs} (h:c∈l):Cs.size c≤Cs.sizeL l:=by
 induction l with
 | nil=>cases h
 | cons x r ih =>
  simp only [Cs.sizeL]
  rcases List.mem_cons.1 h with rfl | h
  ·omega
  ·have:=ih h; omega
end PSL

namespace Go.Proofs.YtcgkgofmldhokaaGreat
open Go PSL Go.Proofs
theorem smC_atom {s:ByteArray} (h:(atomT s).rightB=true) {q:Cs} (hq:SmC q):SmC (pfC s q):=⟨smT_right h,hq.body,hq.size⟩

set_option maxRecDepth 100000 in
theorem modelFair_ok (q:Cs) (l:List Cs) (hq:SmC q) (hl:∀ c∈l,SmC c) (hlen:l.length≤1000000):PCtr Tryz.prog 31 [q.av,prV l] (bV (fairQ q l)):=by
 have hs:=hq.head.1
 have hr:=right_ok q.head (by omega) (fun e he=>hq.head.2 1 e he)
 rw [rightT_eq] at hr
 have hv:=(vars_ok [q.head] (by simp [Tm.sizeL]; omega)).one
 have hc:=clause_ok11 (pfC qryS q) (smC_atom qry_own.1 hq)
 have ht:=theres_ok q.body l hq.size hlen
 have hf:fairQ q l=(((checkR l).2==0)&&(q.head.k==3)&&strEq q.head.s ⟨#[63]⟩&&q.head.rightB&&(varsT [q.head]).all (fun x=>decide (x<q.vars))&&clsB (pfC qryS q)&&thereL (hasH l) q.body):=rfl
 rw [hf]
 clear hf
 have hvl:(varsT [q.head]).length≤1000000:=Nat.le_trans (varsT_len1 q.head) hs
 generalize varsT [q.head]=V at *
 refine PCtr.of_R (pf:=fun _=>.still) tyOk mixed Tryz.func31 rfl (by kernel_rfl) (by kernel_rfl) (by simp [Tryz.ntmps31]) fun w S hg=>?_
 refine R_run hg.ok 1000 rfl rfl ?_
 refine R_call hg.ok (check_ok l hl) rfl rfl rfl rfl rfl rfl ?_
 refine R_run hg.ok 1000 rfl rfl ?_
 refine R_if rfl rfl (fun h1=>?_) (fun h1=>?_) <;> refine R_run hg.ok 1000 rfl rfl ?_
 ·refine R_ret hg 5 rfl rfl ?_
  rw [show ((checkR l).2==0)=false by simpa using h1]; rfl
 rw [show ((checkR l).2==0)=true by simpa using h1,Bool.true_and]
 refine R_if rfl rfl (fun h2=>?_) (fun h2=>?_) <;> refine R_run hg.ok 1000 rfl rfl ?_
 ·refine R_ret hg 5 rfl rfl ?_
  rw [show (q.head.k==3)=false by simpa using h2]; rfl
 rw [show (q.head.k==3)=true by simpa using h2,Bool.true_and]
 refine R_if rfl rfl (fun h3=>?_) (fun h3=>?_) <;> refine R_run hg.ok 1000 rfl rfl ?_
 ·refine R_ret hg 5 rfl rfl ?_
  rw [show strEq q.head.s ⟨#[63]⟩=false by simpa using h3]; rfl
 rw [show strEq q.head.s ⟨#[63]⟩=true by simpa using h3,Bool.true_and]
 refine R_call hg.ok (hr) rfl rfl rfl rfl rfl rfl ?_
 refine R_run hg.ok 1000 rfl rfl ?_
 refine R_if rfl rfl (fun h4=>?_) (fun h4=>?_) <;> refine R_run hg.ok 1000 rfl rfl ?_
 ·refine R_ret hg 5 rfl rfl ?_
  rw [show q.head.rightB=false by simpa using h4]; rfl
 rw [show q.head.rightB=true by simpa using h4,Bool.true_and]
 refine R_call hg.ok (hv) rfl rfl rfl rfl rfl rfl ?_
 refine R_run hg.ok 1000 rfl rfl ?_
 refine R_loop (fun k:Nat=>([(2,.lo 0 0),(3,.lo 1 0),(38,.d (.sl (irows V))),(39,iV V.length),(40,iV k)],[.box [.d (.v (.int .i64 q.head.k)),.d (.v (.string q.head.s)),.d (.v (.int .i64 q.head.n)),.d (.sl (Tm.rows q.head.l)),.d (.sl (Gl.rows q.body)),.d (.v (.int .i64 q.vars))],.box [.d (.sl (Cs.rows l))]])) (fun k=>k≤V.length∧V.all (fun x=>decide (x<q.vars))=(V.drop k).all fun x=>decide (x<q.vars)) (fun k=>V.length - k) 0 ⟨Nat.zero_le _,rfl⟩ ⟨.refl _,.refl _,.refl _,by rw [irows_length]; exact .refl _,.refl _,trivial⟩ rfl ?_
 rintro k ⟨hk,hm⟩
 refine R_run hg.ok 1000 rfl rfl ?_
 refine R_if rfl rfl (fun h=>?_) (fun h=>?_) <;> refine R_run hg.ok 1000 rfl rfl ?_
 ·have hk1:k<V.length:=lt_dec h rfl
  have e1:V[k]? = some V[k]:=List.getElem?_eq_getElem hk1
  rw [List.drop_eq_getElem_cons hk1,List.all_cons] at hm
  generalize V[k]=x at e1 hm
  refine R_index hg.ok rfl rfl rfl rfl rfl rfl (Int.natCast_nonneg _) (irows_get e1) rfl ?_
  refine R_run hg.ok 1000 rfl rfl ?_
  refine R_if rfl rfl (fun h=>?_) (fun h=>?_) <;> refine R_run hg.ok 1000 rfl rfl ?_
  ·refine R_ret hg 5 rfl rfl ?_
   rw [hm,show decide (x<q.vars)=false by simpa using h]; rfl
  ·exact R_next (k+1) ⟨hk1,by rw [hm,show decide (x<q.vars)=true by simpa using h,Bool.true_and]⟩ (by omega) ⟨.refl _,.refl _,.refl _,.refl _,Ent.wrap (by omega) (by omega) (by omega),trivial⟩ rfl
 ·have hk1:V.length≤k:=ge_dec h rfl
  rw [hm,List.drop_eq_nil_of_le hk1]
  refine R_call hg.ok (hc) rfl rfl rfl rfl rfl rfl ?_
  refine R_run hg.ok 1000 rfl rfl ?_
  refine R_if rfl rfl (fun h5=>?_) (fun h5=>?_) <;> refine R_run hg.ok 1000 rfl rfl ?_
  ·refine R_call hg.ok (ht) rfl rfl rfl rfl rfl rfl ?_
   refine R_run hg.ok 1000 rfl rfl ?_
   refine R_ret hg 5 rfl rfl ?_
   rw [h5]; rfl
  ·refine R_ret hg 5 rfl rfl ?_
   rw [h5]; rfl
end Go.Proofs.YtcgkgofmldhokaaGreat

namespace Go.Proofs.YtcgkgofmldhokaaGreat
open Go PSL Go.Proofs
end Go.Proofs.YtcgkgofmldhokaaGreat

namespace Go.Proofs.YtcgkgofmldhokaaGreat
open Go PSL Go.Proofs
end Go.Proofs.YtcgkgofmldhokaaGreat

namespace PSL
open Go Go.RowKit
section
variable {g:G} {pf:Nat→Cls} {ops:Array Oper} {Fin:Exit→Act→World→Prop}
end
end PSL

namespace Go.Proofs.YtcgkgofmldhokaaGreat
open Go PSL Go.Proofs
end Go.Proofs.YtcgkgofmldhokaaGreat

namespace Go.Proofs.YtcgkgofmldhokaaGreat
open Go PSL Go.Proofs
end Go.Proofs.YtcgkgofmldhokaaGreat

namespace Go.Proofs.YtcgkgofmldhokaaGreat
open Go PSL Go.Proofs
def pfCmp15:Nat→Cls:=fun f=>bif Nat.beq f 4000000007 then .loadB else bif Nat.beq f 37 then .still else .eff

theorem cdO_ren2 (f:Nat→Nat) (met:List Int) (slot at_:Int) (c:List Is) (e:List En):(cdO met slot at_ c e).map (renOb f)=[.box [.lo (f 1) 0,.mp (f 2),iV slot],.box [.ow (f 3) c.length,.ow (f 4) e.length,iV at_,iV 0],.map (imap (setB met)),.arr 4 c.length (Is.rows c),.arr 7 e.length (En.rows e)]:=by
 simp only [cdO,List.map_cons,List.map_nil,renOb_setB]
 simp [renOb,renA,renL,iV]

def cm6 (l:List Cs) (q:Cs) (at_:Int) (c:List Is) (e:List En):List Ob:=[.box [.d (.sl (Cs.rows l))],csBox q,.box [.d (.v (.slice none 0 0)),.d (.v (.slice none 0 0)),iV 0,iV 0],.box [.ow 4 c.length,.ow 5 e.length,iV at_,iV 0],.arr 4 c.length (Is.rows c),.arr 7 e.length (En.rows e)]
theorem is_len_app (a b:List Is):(a++b).length=a.length+b.length:=List.length_append
def cdZ:Cd:=⟨[],[],0,0⟩

set_option maxHeartbeats 4000000 in
set_option maxRecDepth 100000 in
theorem compile_bad (l:List Cs) (q:Cs) (hf:PCtr Tryz.prog 31 [q.av,prV l] (bV false)):PCtr Tryz.prog 10 [prV l,q.av] (.tup [cdZ.av,iV 1]):=by
 refine PCtr.of_R (pf:=pfCmp15) tyOk mixed Tryz.func10 rfl (by kernel_rfl) (by kernel_rfl) (by simp [Tryz.ntmps10]) fun w S hg=>?_
 refine R_run hg.ok 1000 rfl rfl ?_
 refine R_call hg.ok (hf) rfl rfl rfl rfl rfl rfl ?_
 refine R_run hg.ok 1000 rfl rfl ?_
 refine R_if rfl rfl (fun _=>?_) (fun h=>absurd h (by simp)) <;> refine R_run hg.ok 1000 rfl rfl ?_
 refine R_ret hg 5 rfl rfl ?_
 rfl

structure CmpOk (l:List Cs) (q:Cs):Prop where
 len:l.length≤210
 size:Cs.sizeL l≤3000
 qsize:Cs.size q≤3000
 five:∀ c∈l,fiveL c.body
 vars:∀ c∈l,0≤c.vars∧c.vars≤1000
 qfive:fiveL q.body
 qvars:0≤q.vars∧q.vars≤1000

set_option maxHeartbeats 4000000 in
set_option maxRecDepth 100000 in
theorem compile_ok (l:List Cs) (q:Cs) (hk:CmpOk l q) (hf:PCtr Tryz.prog 31 [q.av,prV l] (bV true)):PCtr Tryz.prog 10 [prV l,q.av] (.tup [(compG l q).av,iV 0]):=by
 have hll:=hk.len
 have hls:=hk.size
 refine PCtr.of_R (pf:=pfCmp15) tyOk mixed Tryz.func10 rfl (by kernel_rfl) (by kernel_rfl) (by simp [Tryz.ntmps10]) fun w S hg=>?_
 refine R_run hg.ok 1000 rfl rfl ?_
 refine R_call hg.ok (hf) rfl rfl rfl rfl rfl rfl ?_
 refine R_run hg.ok 1000 rfl rfl ?_
 refine R_if rfl rfl (fun h=>absurd h (by simp)) (fun _=>?_) <;> refine R_run hg.ok 1000 rfl rfl ?_
 refine R_ownB 3 0 4 rfl rfl rfl ?_
 refine R_ownB 3 1 7 rfl rfl rfl ?_
 refine R_loop (fun k:Nat=>([(3,.lo 1 0),(4,.lo 2 0),(6,.lo 3 0),(18,.d (.sl (Cs.rows l))),(19,iV l.length),(20,iV k)],cm6 l q 0 (codeL (l.take k) []) (entL (l.take k) 0))) (fun k=>k≤l.length) (fun k=>l.length - k) 0 (Nat.zero_le _) ⟨.refl _,.refl _,.refl _,.refl _,by rw [Cs.rows_len]; exact .refl _,.refl _,trivial⟩ rfl ?_
 rintro k hkl
 refine R_run hg.ok 1000 rfl rfl ?_
 refine R_if rfl rfl (fun h=>?_) (fun h=>?_) <;> refine R_run hg.ok 1000 rfl rfl ?_
 ·have hk1:k<l.length:=lt_dec h rfl
  have e1:l[k]? = some l[k]:=List.getElem?_eq_getElem hk1
  have hm:=List.getElem_mem hk1
  have hx5:=hk.five _ hm
  have hxv:=hk.vars _ hm
  have hxs:=cs_size_mem hm
  have hcl:=codeL_len (l.take k) [] fun c hc=>(hk.vars c (List.mem_of_mem_take hc)).2
  have htl:=cs_sizeL_take l k
  have hlt:(l.take k).length≤210:=by rw [List.length_take]; omega
  have hel:=entL_len (l.take k) 0
  have hct:=codeL_take e1 []
  have het:=entL_take e1
  generalize l[k]=x at *
  generalize codeL (l.take k) []=c at *
  generalize entL (l.take k) 0=e at *
  have hvv:x.vars=(x.vars.toNat:Int):=by omega
  have hxh:=Tm.size_eq x.head
  unfold Cs.size at hxs
  simp only [List.length_nil] at hcl
  have hH:=headGL_len x.head.l []
  have hF:=freshG_len (headGL x.head.l []).2 x.vars.toNat
  have hcH:(clsH x).length≤4001:=by unfold clsH; rw [List.length_append]; omega
  have hG:=golDL_len x.body (c++clsH x).length x.vars
  have htb:=testsGL_b x.body
  refine R_index hg.ok rfl rfl rfl rfl rfl rfl (Int.natCast_nonneg _) (Cs.rows_get e1) rfl ?_
  refine R_run hg.ok 1000 rfl rfl ?_
  refine R_makeMap hg.ok rfl rfl ?_
  refine R_run hg.ok 1000 rfl rfl ?_
  refine R_lenO hg.ok rfl rfl rfl rfl rfl (n:=(c.length:Int)) (by rw [Is.rows_len]) ?_
  refine R_run hg.ok 1000 rfl rfl ?_
  have p1:=cdAllH_ok ⟨[],fun _=>true⟩ x.head.l (fun t _=>cdHead_ok _ t) [] x.vars 0 c e (by omega)
  refine R_callSO hg.ok hg.gup ⟨rfl,rfl⟩ (fun _ _ _ _ h=>by cases h) [8,3,7,4,5] (cm6 l q 0 (c++(headGL x.head.l []).1) e++[csBox x,.map (imap (setB (headGL x.head.l []).2)),.box [.lo 3 0,.mp 7,iV x.vars]]) (p1) (fun _=>rfl) rfl rfl rfl rfl rfl (by rw [cdO_ren2]; rfl) rfl (by rw [cdO_ren2]; rfl) ?_
  refine R_run hg.ok 1000 rfl rfl ?_
  have p2:=cdFresh_ok ⟨[],fun _=>true⟩ x.vars.toNat (by omega) (headGL x.head.l []).2 x.vars 0 (c++(headGL x.head.l []).1) e (by rw [List.length_append]; omega)
  rw [← hvv,List.append_assoc,show (headGL x.head.l []).1++freshG (headGL x.head.l []).2 x.vars.toNat=clsH x from rfl] at p2
  generalize (headGL x.head.l []).2=M at *
  refine R_callSO hg.ok hg.gup ⟨rfl,rfl⟩ (fun _ _ _ _ h=>by cases h) [8,3,7,4,5] (cm6 l q 0 (c++clsH x) e++[csBox x,.map (imap (setB M)),.box [.lo 3 0,.mp 7,iV x.vars]]) (p2) (fun _=>rfl) rfl rfl rfl rfl rfl (by rw [cdO_ren2]; rfl) rfl (by rw [cdO_ren2]; rfl) ?_
  refine R_run hg.ok 1000 rfl rfl ?_
  have p3:=cdGoals_ok ⟨[],fun _=>true⟩ x.body M x.vars 0 (c++clsH x) e hx5 (by rw [List.length_append]; omega) hxv.1 (by omega)
  refine R_callSO hg.ok hg.gup ⟨rfl,rfl⟩ (fun _ _ _ _ h=>by cases h) [8,3,7,4,5] (cm6 l q 0 (c++clsH x++golDL x.body (c++clsH x).length x.vars) e++[csBox x,.map (imap (setB M)),.box [.lo 3 0,.mp 7,iV (x.vars+testsGL x.body)]]) (p3) (fun _=>rfl) rfl rfl rfl rfl rfl (by rw [cdO_ren2]; rfl) rfl (by rw [cdO_ren2]; rfl) ?_
  refine R_run hg.ok 1000 rfl rfl ?_
  have p4:=cdAdd_ok ⟨[],fun _=>true⟩ M (x.vars+testsGL x.body) 0 (c++clsH x++golDL x.body (c++clsH x).length x.vars) e (Is.mk 12 0 0 e0) (by have h7:=is_len_app (c++clsH x) (golDL x.body (c++clsH x).length x.vars); have h8:=is_len_app (c) (clsH x); omega)
  have hcc:c++clsH x++golDL x.body (c++clsH x).length x.vars++[Is.mk 12 0 0 e0]=c++clsC x c.length:=by
   unfold clsC; rw [List.length_append]; simp only [List.append_assoc]
  rw [hcc,← hct] at p4
  refine R_callSO hg.ok hg.gup ⟨rfl,rfl⟩ (fun _ _ _ _ h=>by cases h) [8,3,7,4,5] (cm6 l q 0 (codeL (l.take (k+1)) []) e++[csBox x,.map (imap (setB M)),.box [.lo 3 0,.mp 7,iV (x.vars+testsGL x.body)]]) (p4) (fun _=>rfl) rfl rfl rfl rfl rfl (by rw [cdO_ren2]; rfl) rfl (by rw [cdO_ren2]; rfl) ?_
  refine R_run hg.ok 1000 rfl rfl ?_
  refine R_call hg.ok (key_ok x.head) rfl rfl rfl rfl rfl rfl ?_
  refine R_run hg.ok 1000 rfl rfl ?_
  rw [Tm.rows_length]
  have hel2:(e++[entG x c.length]).length=Nat.succ e.length:=by simp
  refine R_appendO hg.ok (En.rows (e++[entG x c.length])) rfl rfl rfl rfl rfl rfl rfl rfl rfl (by simp [kyA]) (by simp [one1,kyA]) (En.rows_snoc e (entG x c.length)) (by rw [En.rows_len]; simp; omega) (by rw [En.rows_len]; simp; omega) ?_
  rw [← hel2,← het]
  refine R_run hg.ok 1000 rfl rfl ?_
  refine R_dropO 6 (cm6 l q 0 (codeL (l.take (k+1)) []) (entL (l.take (k+1)) 0)) (Nat.zero_le _) rfl rfl ?_
  exact R_next (k+1) hk1 (by omega) ⟨.refl _,.refl _,.refl _,.refl _,.refl _,Ent.wrap (by omega) (by omega) (by omega),trivial⟩ rfl
 ·have hk1:l.length≤k:=ge_dec h rfl
  rw [List.take_of_length_le hk1]
  have hcl:=codeL_len l [] fun c hc=>(hk.vars c hc).2
  simp only [List.length_nil] at hcl
  have hcg:(compG l q)=⟨codeL l []++qryE q (codeL l []).length,entL l 0,(codeL l []).length,q.vars+testsGL q.body⟩:=rfl
  rw [hcg]
  clear hcg
  generalize codeL l []=c at *
  generalize entL l 0=e at *
  have hqs:=hk.qsize
  have hqv:=hk.qvars
  unfold Cs.size at hqs
  have hvv:q.vars=(q.vars.toNat:Int):=by omega
  have hF:=freshG_len [] q.vars.toNat
  have hG:=golDL_len q.body (c++qryH q).length q.vars
  have htb:=testsGL_b q.body
  have hxh:=Tm.size_eq q.head
  have hpl:=putGL_len q.head.l
  refine R_lenO hg.ok rfl rfl rfl rfl rfl (n:=(c.length:Int)) (by rw [Is.rows_len]) ?_
  refine R_run hg.ok 1000 rfl rfl ?_
  refine R_makeMap hg.ok rfl rfl ?_
  refine R_run hg.ok 1000 rfl rfl ?_
  have p2:=cdFresh_ok ⟨[],fun _=>true⟩ q.vars.toNat (by omega) [] q.vars c.length c e (by omega)
  rw [← hvv,show freshG [] q.vars.toNat=qryH q from rfl] at p2
  have hQ:(qryH q).length≤1000:=by unfold qryH; omega
  refine R_callSO hg.ok hg.gup ⟨rfl,rfl⟩ (fun _ _ _ _ h=>by cases h) [7,3,6,4,5] (cm6 l q c.length (c++qryH q) e++[.map (imap (setB [])),.box [.lo 3 0,.mp 6,iV q.vars]]) (p2) (fun _=>rfl) rfl rfl rfl rfl rfl (by rw [cdO_ren2]; rfl) rfl (by rw [cdO_ren2]; rfl) ?_
  refine R_run hg.ok 1000 rfl rfl ?_
  have h8:=is_len_app (c) (qryH q)
  have p3:=cdGoals_ok ⟨[],fun _=>true⟩ q.body [] q.vars c.length (c++qryH q) e hk.qfive (by omega) hqv.1 (by omega)
  refine R_callSO hg.ok hg.gup ⟨rfl,rfl⟩ (fun _ _ _ _ h=>by cases h) [7,3,6,4,5] (cm6 l q c.length (c++qryH q++golDL q.body (c++qryH q).length q.vars) e++[.map (imap (setB [])),.box [.lo 3 0,.mp 6,iV (q.vars+testsGL q.body)]]) (p3) (fun _=>rfl) rfl rfl rfl rfl rfl (by rw [cdO_ren2]; rfl) rfl (by rw [cdO_ren2]; rfl) ?_
  refine R_run hg.ok 1000 rfl rfl ?_
  have h7:=is_len_app (c++qryH q) (golDL q.body (c++qryH q).length q.vars)
  have p4:=cdAllP_ok ⟨[],fun _=>true⟩ q.head.l (fun t _=>cdPut_ok _ t) [] (q.vars+testsGL q.body) c.length (c++qryH q++golDL q.body (c++qryH q).length q.vars) e (by omega)
  refine R_callSO hg.ok hg.gup ⟨rfl,rfl⟩ (fun _ _ _ _ h=>by cases h) [7,3,6,4,5] (cm6 l q c.length (c++qryH q++golDL q.body (c++qryH q).length q.vars++putGL q.head.l) e++[.map (imap (setB [])),.box [.lo 3 0,.mp 6,iV (q.vars+testsGL q.body)]]) (p4) (fun _=>rfl) rfl rfl rfl rfl rfl (by rw [cdO_ren2]; rfl) rfl (by rw [cdO_ren2]; rfl) ?_
  refine R_run hg.ok 1000 rfl rfl ?_
  rw [Tm.rows_length]
  have h9:=is_len_app (c++qryH q++golDL q.body (c++qryH q).length q.vars) (putGL q.head.l)
  have p5:=cdAdd_ok ⟨[],fun _=>true⟩ [] (q.vars+testsGL q.body) c.length (c++qryH q++golDL q.body (c++qryH q).length q.vars++putGL q.head.l) e (Is.mk 18 0 q.head.l.length e0) (by omega)
  have hcc:c++qryH q++golDL q.body (c++qryH q).length q.vars++putGL q.head.l++[Is.mk 18 0 q.head.l.length e0]=c++qryE q c.length:=by
   unfold qryE; rw [List.length_append]; simp only [List.append_assoc]
  rw [hcc] at p5
  refine R_callSO hg.ok hg.gup ⟨rfl,rfl⟩ (fun _ _ _ _ h=>by cases h) [7,3,6,4,5] (cm6 l q c.length (c++qryE q c.length) e++[.map (imap (setB [])),.box [.lo 3 0,.mp 6,iV (q.vars+testsGL q.body)]]) (p5) (fun _=>rfl) rfl rfl rfl rfl rfl (by rw [cdO_ren2]; rfl) rfl (by rw [cdO_ren2]; rfl) ?_
  refine R_run hg.ok 1000 rfl rfl ?_
  refine R_ret hg 5 rfl (sealA_tup (mapO_cons (sealA_agg (mapO_cons (sealA_ow rfl) (mapO_cons (sealA_ow rfl) rfl))) rfl)) ?_
  rfl
end Go.Proofs.YtcgkgofmldhokaaGreat

namespace PSL
open Go Go.RowKit
section
variable {g:G} {pf:Nat→Cls} {ops:Array Oper} {Fin:Exit→Act→World→Prop}
end
end PSL

namespace Go.Proofs.YtcgkgofmldhokaaGreat
open Go PSL Go.Proofs
end Go.Proofs.YtcgkgofmldhokaaGreat

namespace PSL
open Go Go.RowKit
section
variable {g:G} {pf:Nat→Cls} {ops:Array Oper} {Fin:Exit→Act→World→Prop}

theorem rvs_vals {S:Nat→Prop} {w:World} {φ:List Phy}:∀ (l:List Value) (vs:List Value),RVs S w φ (l.map fun v=>.d (.v v)) vs→vs=l
 | [],[],_=>rfl
 | [],_::_,h=>by simp [RVs] at h
 | _::_,[],h=>by simp [RVs] at h
 | a::l,b::vs,h=>by
  simp only [List.map_cons,RVs] at h
  obtain ⟨h1,h2⟩:=h
  simp only [RV] at h1
  cases h1
  rw [rvs_vals l vs h2]
end
end PSL

namespace PSL
open Go Go.RowKit

theorem Ent.agg {l m:List AV} (h:EntL l m):Ent (.agg l) (.agg m):=fun S w φ v hv=>by
 simp only [RV] at hv ⊢
 obtain ⟨cs,h1,h2⟩:=hv
 exact ⟨cs,h1,h.rvs h2⟩
section
variable {g:G} {pf:Nat→Cls} {ops:Array Oper} {Fin:Exit→Act→World→Prop}

theorem R_eqlV (hg:GOk g) (vs us:List Value) (r:Bool) {dst:Option Nat} {T T':Nat} {x y:Operand} {ty:Nat} {pos:String} {after:Array Edge} {gd:Option (Nat × Bool)} {rest:List Oper} {k:List It} {E:Env} {objs:List Ob}
  (hgd:guardA ops.toList E gd=some true) (hd:dstOk ⟨g.ty,g.N⟩ dst=true) (hx:ev E x=.agg (vs.map fun v=>.d (.v v))) (hy:ev E y=.agg (us.map fun v=>.d (.v v)))
  (hrun:∀ w,((do eqGuard .eql T x y (.agg vs.toArray) (.agg us.toArray); binOp .eql T (.agg vs.toArray) (.agg us.toArray)):Sem Value).run g.P w=.ok (.bool r) w)
  (hr:R g pf Fin (.dr ops rest::k) (putO E dst (.d (.v (.bool r)))) objs):R g pf Fin (.dr ops (⟨dst,.binOp .eql T x y T',ty,pos,after,gd⟩::rest)::k) E objs:=by
 refine R_op (LocOp.up (LocOp.quiet hg hgd hd (by simp) fun φ objs w' w hρ hs'=>?_)) hr
 simp only [Op.operands] at hρ
 have hxv:=hρ x (by simp)
 rw [hx] at hxv
 have hyv:=hρ y (by simp)
 rw [hy] at hyv
 simp only [RV] at hxv hyv
 obtain ⟨cx,ex,hxv⟩:=hxv
 obtain ⟨cy,ey,hyv⟩:=hyv
 have hxv:=rvs_vals vs cx hxv
 have hyv:=rvs_vals us cy hyv
 subst hxv; subst hyv
 refine out_val hs' (vv:=.bool r) ?_ (by simp only [RV]; exact .v _)
 have h2:=hrun w
 simp only [Sem.run_bind] at h2
 simp only [execOp,Sem.run_bind,ex,ey]
 have e:∀ (r1:Result Unit) (f:Unit→World→Result Value),(r1.andThen f).andThen (fun v w'=>.ok (Next.value v) w')=r1.andThen fun u w'=>(f u w').andThen (fun v w'=>.ok (Next.value v) w'):=fun r1 f=>by cases r1 <;> rfl
 rw [h2]; rfl
end
end PSL

namespace PSL
open Go

def shF (d:Int):Int→Int:=fun n=>IntKind.i64.wrap (n+d)

mutual
def gshG (d:Int):Gl→Gl
 | .mk k t a b c=>.mk k (if k=1∨k=2 then Tm.turnT (shF d) t else t) (gshL d a) (gshL d b) (gshL d c)
def gshL (d:Int):List Gl→List Gl
 | []=>[]
 | g::r=>gshG d g::gshL d r
end
theorem gshG_eq (d:Int) (g:Gl):gshG d g=.mk g.k (if g.k=1∨g.k=2 then Tm.turnT (shF d) g.t else g.t) (gshL d g.a) (gshL d g.b) (gshL d g.c):=by cases g; rw [gshG]; rfl

theorem gshL_map (d:Int) (l:List Gl):gshL d l=l.map (gshG d):=by
 induction l with
 | nil=>rfl
 | cons x r ih=>rw [gshL,ih]; rfl

theorem gshL_take {l:List Gl} {i:Nat} {g:Gl} (d:Int) (h:l[i]? = some g):Gl.rows (gshL d (l.take i))++[Gl.row (gshG d g)]=Gl.rows (gshL d (l.take (i+1))):=by
 rw [List.take_add_one,h,gshL_map,gshL_map,List.map_append,Gl.rows_eq,Gl.rows_eq,List.map_append]; rfl

theorem turnTL_take {g:Int→Int} {l:List Tm} {i:Nat} {x:Tm} (h:l[i]? = some x):Tm.rows (Tm.turnTL g (l.take i))++[Tm.row (Tm.turnT g x)]=Tm.rows (Tm.turnTL g (l.take (i+1))):=by
 rw [List.take_add_one,h,Tm.turnTL_map,Tm.turnTL_map]; simp [Tm.rows_eq]
end PSL

namespace PSL
open Go
section
variable {B:Binds} {M:Nat}
end
end PSL

namespace PSL
open Go
namespace Tm

def walkT (B:Binds):Nat→Tm→Tm
 | 0,t=>t
 | f+1,t=>if t.k=1 then (match findB B t.n with | some x=>walkT B f x | none=>t) else t
def walkB (B:Binds) (t:Tm):Tm:=walkT B (B.length+1) t

mutual
def lkT (g:Int→List Int→Bool × List Int):Tm→List Int→Bool × List Int
 | mk k _ n l,M=>if k=1 then g n M else lkTL g l M
def lkTL (g:Int→List Int→Bool × List Int):List Tm→List Int→Bool × List Int
 | [],M=>(false,M)
 | x::r,M=>if (lkT g x M).1 then (true,(lkT g x M).2) else lkTL g r (lkT g x M).2
end

def lkF (B:Binds) (v:Int):Nat→Int→List Int→Bool × List Int
 | 0,n,M=>(decide (n=v),M)
 | u+1,n,M=>if n=v then (true,M) else match findB B n with
  | none=>(false,M)
  | some x=>if M.contains n then (false,M) else lkT (lkF B v u) x (M++[n])
def withB (B:Binds) (v:Int) (t:Tm):Bool:=(lkT (lkF B v (B.length+1)) t []).1
def clashB (x y:Tm):Bool:=decide (x.k≠y.k) || decide (x.n≠y.n) || !strEq x.s y.s || decide (x.l.length≠y.l.length)

def uniF:Nat→List (Tm × Tm)→Binds→List (Int × Int)→Option (Option Binds)
 | 0,_,_,_=>none
 | f+1,T,B,met=>match T.getLast? with
  | none=>some (some B)
  | some (x,y) =>
   if (decide (x.k=1)&&decide (y.k=1))&&met.contains (x.n,y.n) then uniF f T.dropLast B met else
   let met':=if decide (x.k=1)&&decide (y.k=1) then met++[(x.n,y.n)] else met
   let x':=walkB B x
   let y':=walkB B y
   if x'.k=1∧y'.k=1∧x'.n=y'.n then uniF f T.dropLast B met'
   else if x'.k=1 then (if withB B x'.n y' then some none else uniF f T.dropLast (B++[(x'.n,y')]) met')
   else if y'.k=1 then (if withB B y'.n x' then some none else uniF f T.dropLast (B++[(y'.n,x')]) met')
   else if clashB x' y' then some none
   else uniF f (T.dropLast++x'.l.zip y'.l) B met'
def solB (σ:Int→Tm) (B:Binds):Prop:=∀ b∈B,σ b.1=putF σ b.2

theorem putF_var {σ:Int→Tm} {t:Tm} (h:t.k=1):putF σ t=σ t.n:=by
 cases t; simp only [k,n] at h ⊢; simp only [putF]; rw [if_pos h]

theorem putF_fun {σ:Int→Tm} {t:Tm} (h:t.k≠1):putF σ t=mk t.k t.s t.n (putFL σ t.l):=by
 cases t; simp only [k,n,s,l] at h ⊢; simp only [putF]; rw [if_neg h]
theorem size_pos (t:Tm):1≤size t:=by rw [size_eq]; omega

theorem walk_sol {σ:Int→Tm} {B:Binds} (h:solB σ B):∀ (f:Nat) (t:Tm),putF σ (walkT B f t)=putF σ t
 | 0,t=>rfl
 | f+1,t=>by
  simp only [walkT]
  by_cases hk:t.k=1
  ·rw [if_pos hk]
   cases hf:findB B t.n with
   | none=>rfl
   | some x =>
    simp only
    rw [walk_sol h f x,putF_var hk,h _ (findB_mem hf)]
  ·rw [if_neg hk]

def lkOk (σ:Int→Tm) (v:Int) (g:Int→List Int→Bool × List Int):Prop:=∀ n M,(g n M).1=true→size (σ v)≤size (σ n)

mutual
theorem lkT_size {σ:Int→Tm} {v:Int} {g:Int→List Int→Bool × List Int} (hg:lkOk σ v g):∀ (t:Tm) (M:List Int),(lkT g t M).1=true→size (σ v)≤size (putF σ t)∧(t.k≠1→size (σ v)<size (putF σ t))
 | mk k s n l,M,h=>by
  simp only [lkT] at h
  by_cases hk:k=1
  ·rw [if_pos hk] at h
   have:=hg n M h
   simp only [putF,if_pos hk,Tm.k]
   exact ⟨this,fun hne=>absurd hk hne⟩
  ·rw [if_neg hk] at h
   have:=lkTL_size hg l M h
   simp only [putF,if_neg hk,size]
   exact ⟨by omega,fun _=>by omega⟩
theorem lkTL_size {σ:Int→Tm} {v:Int} {g:Int→List Int→Bool × List Int} (hg:lkOk σ v g):∀ (l:List Tm) (M:List Int),(lkTL g l M).1=true→size (σ v)≤sizeL (putFL σ l)
 | [],M,h=>by simp [lkTL] at h
 | x::r,M,h=>by
  simp only [lkTL] at h
  simp only [putFL,sizeL]
  by_cases hx:(lkT g x M).1=true
  ·have:=(lkT_size hg x M hx).1; omega
  ·rw [if_neg hx] at h
   have:=lkTL_size hg r _ h; omega
end

theorem lkF_ok {σ:Int→Tm} {B:Binds} (h:solB σ B) (v:Int):∀ u,lkOk σ v (lkF B v u)
 | 0,n,M,hl=>by simp only [lkF,decide_eq_true_eq] at hl; rw [hl]; exact Nat.le_refl _
 | u+1,n,M,hl=>by
  simp only [lkF] at hl
  by_cases hn:n=v
  ·rw [hn]; exact Nat.le_refl _
  ·rw [if_neg hn] at hl
   cases hf:findB B n with
   | none=>rw [hf] at hl; cases hl
   | some x =>
    rw [hf] at hl
    simp only at hl
    split at hl
    ·cases hl
    ·have:=(lkT_size (lkF_ok h v u) x _ hl).1
     rw [h _ (findB_mem hf)]; exact this

theorem withB_no {σ:Int→Tm} {B:Binds} (h:solB σ B) {v:Int} {t:Tm} (he:σ v=putF σ t) (hv:¬ (t.k=1∧(t.n=v∨findB B t.n≠none))):withB B v t=false:=by
 cases hw:withB B v t with
 | false=>rfl
 | true =>
  exfalso
  unfold withB at hw
  by_cases hk:t.k=1
  ·cases t with
   | mk k s n l =>
    simp only [Tm.k,Tm.n] at hk hv
    simp only [lkT,if_pos hk,lkF] at hw
    rw [if_neg (fun e=>hv ⟨hk,.inl e⟩)] at hw
    cases hf:findB B n with
    | none=>rw [hf] at hw; cases hw
    | some x=>exact hv ⟨hk,.inr (by rw [hf]; simp)⟩
  ·have:=(lkT_size (lkF_ok h v _) t [] hw).2 hk
   rw [← he] at this; omega
end Tm
end PSL
namespace PSL
open Go
namespace Tm

structure chainB (B:Binds):Prop where
 nodup:(B.map (·.1)).Nodup
 chain:∀ (i:Nat) (b:Int × Tm),B[i]? = some b→b.2.k=1→∀ (j:Nat) (c:Int × Tm),B[j]? = some c→c.1=b.2.n→i<j
theorem chainB.nil:chainB []:=⟨by simp,by simp⟩

theorem findB_none_iff {B:Binds} {v:Int}:findB B v=none↔∀ b∈B,b.1≠v:=by
 unfold findB
 rw [Option.map_eq_none_iff,List.find?_eq_none]
 simp

theorem findB_at {B:Binds} {v:Int} {x:Tm} (h:findB B v=some x):∃ j:Nat,B[j]? = some (v,x):=by
 obtain ⟨j,hj⟩:=List.mem_iff_getElem?.1 (findB_mem h)
 exact ⟨j,hj⟩

theorem chainB.snoc {B:Binds} (h:chainB B) {v:Int} {t:Tm} (hv:findB B v=none) (ht:t.k=1→findB B t.n=none∧t.n≠v):chainB (B++[(v,t)]):=by
 have hv':=findB_none_iff.1 hv
 constructor
 ·rw [List.map_append,List.nodup_append]
  refine ⟨h.nodup,by simp,?_⟩
  intro a ha b hb
  simp only [List.map_cons,List.map_nil,List.mem_singleton] at hb
  subst hb
  obtain ⟨c,hc,rfl⟩:=List.mem_map.1 ha
  exact hv' c hc
 ·intro i b hb hk j c hc hcn
  rcases Nat.lt_or_ge i B.length with hi | hi
  ·rw [List.getElem?_append_left hi] at hb
   rcases Nat.lt_or_ge j B.length with hj | hj
   ·rw [List.getElem?_append_left hj] at hc
    exact h.chain i b hb hk j c hc hcn
   ·omega
  ·rw [List.getElem?_append_right hi] at hb
   have hi0:i - B.length=0:=by
    rcases Nat.eq_zero_or_pos (i - B.length) with h | h
    ·exact h
    ·rw [List.getElem?_eq_none (by simp; omega)] at hb; cases hb
   rw [hi0] at hb; simp at hb; subst hb
   obtain ⟨h1,h2⟩:=ht hk
   exfalso
   rcases Nat.lt_or_ge j B.length with hj | hj
   ·rw [List.getElem?_append_left hj] at hc
    exact findB_none_iff.1 h1 c (List.mem_of_getElem? hc) hcn
   ·rw [List.getElem?_append_right hj] at hc
    have hj0:j - B.length=0:=by
     rcases Nat.eq_zero_or_pos (j - B.length) with h | h
     ·exact h
     ·rw [List.getElem?_eq_none (by simp; omega)] at hc; cases hc
    rw [hj0] at hc; simp at hc; subst hc
    exact h2 hcn.symm

theorem walk_end {B:Binds} (h:chainB B):∀ (f:Nat) (t:Tm),(∀ (j:Nat) (c:Int × Tm),B[j]? = some c→t.k=1→c.1=t.n→B.length - j≤f)→(walkT B f t).k=1→findB B (walkT B f t).n=none
 | 0,t,hj,hk=>by
  simp only [walkT] at hk ⊢
  cases hf:findB B t.n with
  | none=>rfl
  | some x =>
   obtain ⟨j,hx⟩:=findB_at hf
   have h1:=hj j _ hx hk rfl
   have:=(List.getElem?_eq_some_iff.1 hx).1
   omega
 | f+1,t,hj,hk=>by
  simp only [walkT] at hk ⊢
  by_cases ht:t.k=1
  ·rw [if_pos ht] at hk ⊢
   cases hf:findB B t.n with
   | none=>exact hf
   | some x =>
    rw [hf] at hk
    simp only at hk ⊢
    obtain ⟨j,hx⟩:=findB_at hf
    have h1:=hj j _ hx ht rfl
    refine walk_end h f x (fun j' c hc hxk hcn=>?_) hk
    have:=h.chain j _ hx hxk j' c hc hcn
    omega
  ·rw [if_neg ht] at hk
   exact absurd hk ht
theorem walkB_end {B:Binds} (h:chainB B) {t:Tm} (hk:(walkB B t).k=1):findB B (walkB B t).n=none:=walk_end h _ t (fun j c hc _ _=>by omega) hk
def fairBB (B:Binds):Prop:=∀ b∈B,b.2.fairR=true∧0≤b.1∧b.1<1000000

theorem walk_fair {B:Binds} (h:fairBB B):∀ (f:Nat) (t:Tm),t.fairR=true→(walkT B f t).fairR=true
 | 0,t,ht=>ht
 | f+1,t,ht=>by
  simp only [walkT]
  split
  ·split
   ·rename_i x hx; exact walk_fair h f x (h _ (findB_mem hx)).1
   ·exact ht
  ·exact ht
def sumS (σ:Int→Tm) (T:List (Tm × Tm)):Nat:=(T.map fun p=>size (putF σ p.1)).sum
theorem sumS_app (σ:Int→Tm) (A B:List (Tm × Tm)):sumS σ (A++B)=sumS σ A+sumS σ B:=by simp [sumS]

theorem sumS_zip (σ:Int→Tm):∀ (l m:List Tm),l.length=m.length→sumS σ (l.zip m)=sizeL (putFL σ l)
 | [],[],_=>rfl
 | [],_::_,h=>by simp at h
 | _::_,[],h=>by simp at h
 | a::l,b::m,h=>by
  have:=sumS_zip σ l m (by simpa using h)
  simp only [sumS,List.zip_cons_cons,List.map_cons,List.sum_cons,putFL,sizeL] at this ⊢
  omega

theorem zip_sol {σ:Int→Tm}:∀ (l m:List Tm),putFL σ l=putFL σ m→∀ p∈l.zip m,putF σ p.1=putF σ p.2
 | [],m,_,p,hp=>by simp at hp
 | _::_,[],_,p,hp=>by simp at hp
 | a::l,b::m,h,p,hp=>by
  simp only [putFL,List.cons.injEq] at h
  rcases List.mem_cons.1 (by simpa using hp) with e | e
  ·rw [e]; exact h.1
  ·exact zip_sol l m h.2 p e

structure UInv (σ:Int→Tm) (T:List (Tm × Tm)) (B:Binds):Prop where
 solb:solB σ B
 solt:∀ p∈T,putF σ p.1=putF σ p.2
 chain:chainB B
 fairb:fairBB B
 fairt:∀ p∈T,p.1.fairR=true∧p.2.fairR=true
end Tm
end PSL
namespace PSL
open Go
namespace Tm

def lkExt (g:Int→List Int→Bool × List Int):Prop:=∀ n M,∃ R,(g n M).2=M++R

mutual
theorem lkT_ext {g:Int→List Int→Bool × List Int} (hg:lkExt g):∀ (t:Tm) (M:List Int),∃ R,(lkT g t M).2=M++R
 | mk k s n l,M=>by
  simp only [lkT]
  split
  ·exact hg n M
  ·exact lkTL_ext hg l M
theorem lkTL_ext {g:Int→List Int→Bool × List Int} (hg:lkExt g):∀ (l:List Tm) (M:List Int),∃ R,(lkTL g l M).2=M++R
 | [],M=>⟨[],by simp [lkTL]⟩
 | x::r,M=>by
  obtain ⟨R,h⟩:=lkT_ext hg x M
  simp only [lkTL]
  split
  ·exact ⟨R,h⟩
  ·obtain ⟨R2,h2⟩:=lkTL_ext hg r (lkT g x M).2
   exact ⟨R++R2,by rw [h2,h,List.append_assoc]⟩
end

theorem lkF_ext (B:Binds) (v:Int):∀ u,lkExt (lkF B v u)
 | 0,n,M=>⟨[],by simp [lkF]⟩
 | u+1,n,M=>by
  simp only [lkF]
  split
  ·exact ⟨[],by simp⟩
  ·split
   ·exact ⟨[],by simp⟩
   ·split
    ·exact ⟨[],by simp⟩
    ·rename_i x _ _
     obtain ⟨R,h⟩:=lkT_ext (lkF_ext B v u) x (M++[n])
     exact ⟨n::R,by rw [h,List.append_assoc]; rfl⟩

theorem count_le (B:Binds) (M R:List Int):(B.countP fun b=>!(M++R).contains b.1)≤B.countP fun b=>!M.contains b.1:=by
 apply List.countP_mono_left
 intro b _ h
 simp only [Bool.not_eq_true',List.contains_eq_mem,decide_eq_false_iff_not,List.mem_append,not_or] at h ⊢
 exact h.1

theorem count_lt {B:Binds} {M:List Int} {n:Int} {x:Tm} (hx:findB B n=some x) (hM:M.contains n=false):(B.countP fun b=>!(M++[n]).contains b.1)<B.countP fun b=>!M.contains b.1:=by
 obtain ⟨j,hj⟩:=List.mem_iff_append.1 (findB_mem hx)
 obtain ⟨r,rfl⟩:=hj
 have h1:=count_le j M [n]
 have h2:=count_le r M [n]
 have h3:(!(M++[n]).contains n)=false:=by simp
 have h4:(!M.contains n)=true:=by rw [hM]; rfl
 simp only [List.countP_append,List.countP_cons,h3,h4]
 simp only [if_true,Bool.false_eq_true,if_false]
 omega

theorem lkT_var {g:Int→List Int→Bool × List Int} {t:Tm} {M:List Int} (h:t.k=1):lkT g t M=g t.n M:=by
 cases t; simp only [k,n] at h ⊢; simp only [lkT]; rw [if_pos h]

theorem lkT_fun {g:Int→List Int→Bool × List Int} {t:Tm} {M:List Int} (h:t.k≠1):lkT g t M=lkTL g t.l M:=by
 cases t; simp only [k,l] at h ⊢; simp only [lkT]; rw [if_neg h]
end Tm
end PSL
namespace PSL

theorem Tm.length_le_sizeL:∀ l:List Tm,l.length≤Tm.sizeL l
 | []=>by simp
 | x::l=>by have:=Tm.length_le_sizeL l; have:=Tm.size_pos x; simp only [List.length_cons,Tm.sizeL]; omega
end PSL
namespace PSL
open Go
namespace Tm

theorem UInv.pop {σ:Int→Tm} {R:List (Tm × Tm)} {p:Tm × Tm} {B:Binds} (h:UInv σ (R++[p]) B):UInv σ R B :=
 ⟨h.solb,fun q hq=>h.solt q (by simp [hq]),h.chain,h.fairb,fun q hq=>h.fairt q (by simp [hq])⟩

theorem UInv.bind {σ:Int→Tm} {R:List (Tm × Tm)} {B:Binds} (h:UInv σ R B) {u t:Tm} (hk:u.k=1) (hfu:u.fairR=true) (hft:t.fairR=true) (he:putF σ u=putF σ t) (hu:findB B u.n=none) (ht:t.k=1→findB B t.n=none∧t.n≠u.n):UInv σ R (B++[(u.n,t)]):=by
 refine ⟨fun b hb=>?_,h.solt,h.chain.snoc hu ht,fun b hb=>?_,h.fairt⟩
 ·rcases List.mem_append.1 hb with hb | hb
  ·exact h.solb b hb
  ·simp only [List.mem_singleton] at hb; subst hb; simp only; rw [← putF_var (σ:=σ) hk]; exact he
 ·rcases List.mem_append.1 hb with hb | hb
  ·exact h.fairb b hb
  ·simp only [List.mem_singleton] at hb; subst hb; exact ⟨hft,occ_range u hfu u.n (occ_var hk)⟩

theorem UInv.zip {σ:Int→Tm} {R:List (Tm × Tm)} {B:Binds} (h:UInv σ R B) {x y:Tm} (hkx:x.k≠1) (hky:y.k≠1) (fx:x.fairR=true) (fy:y.fairR=true) (he:putF σ x=putF σ y):UInv σ (R++x.l.zip y.l) B∧x.k=y.k∧x.s=y.s∧x.n=y.n∧x.l.length=y.l.length∧sumS σ (R++x.l.zip y.l)+1=sumS σ R+size (putF σ x):=by
 have hsz:size (putF σ x)=1+sizeL (putFL σ x.l):=by rw [putF_fun hkx]; simp only [size]
 rw [putF_fun hkx,putF_fun hky] at he
 simp only [Tm.mk.injEq] at he
 obtain ⟨e1,e2,e3,e4⟩:=he
 have hlen:x.l.length=y.l.length:=by rw [← putFL_len σ,e4,putFL_len]
 refine ⟨⟨h.solb,fun q hq=>?_,h.chain,h.fairb,fun q hq=>?_⟩,e1,e2,e3,hlen,?_⟩
 ·rcases List.mem_append.1 hq with hq | hq
  ·exact h.solt q hq
  ·exact zip_sol _ _ e4 q hq
 ·rcases List.mem_append.1 hq with hq | hq
  ·exact h.fairt q hq
  ·have h1:=List.of_mem_zip hq
   exact ⟨Sub.kid_fair fx h1.1,Sub.kid_fair fy h1.2⟩
 ·rw [sumS_app,sumS_zip σ _ _ hlen,hsz]; omega

def sizT (N:Nat) (T:List (Tm × Tm)):Prop:=∀ p∈T,p.1.size≤N∧p.2.size≤N
def sizB (N:Nat) (B:Binds):Prop:=∀ b∈B,b.2.size≤N

theorem walk_siz {N:Nat} {B:Binds} (h:sizB N B):∀ (f:Nat) (t:Tm),t.size≤N→(walkT B f t).size≤N
 | 0,t,ht=>ht
 | f+1,t,ht=>by
  simp only [walkT]
  split
  ·split
   ·rename_i x hx; exact walk_siz h f x (h _ (findB_mem hx))
   ·exact ht
  ·exact ht

theorem sizB.snoc {N:Nat} {B:Binds} (h:sizB N B) {v:Int} {t:Tm} (ht:t.size≤N):sizB N (B++[(v,t)]):=fun b hb=>by
 rcases List.mem_append.1 hb with hb | hb
 ·exact h b hb
 ·simp only [List.mem_singleton] at hb; subst hb; exact ht

theorem sizT.zip {N:Nat} {R:List (Tm × Tm)} (h:sizT N R) {x y:Tm} (hx:x.size≤N) (hy:y.size≤N):sizT N (R++x.l.zip y.l):=fun q hq=>by
 rcases List.mem_append.1 hq with hq | hq
 ·exact h q hq
 ·have h1:=List.of_mem_zip hq
  have h2:=size_mem h1.1
  have h3:=size_mem h1.2
  have h4:=size_eq x
  have h5:=size_eq y
  omega

structure URound (σ:Int→Tm) (B':Binds) (n:Nat) (T:List (Tm × Tm)) (B:Binds) (met:List (Int × Int)):Prop where
 inv:UInv σ T B
 sum:sumS σ T<n
 few:n+B.length≤20000
 st:sizT 3000 T
 sb:sizB 3000 B
 run:uniF n T B met=some (some B')

theorem URound.pop {σ:Int→Tm} {B':Binds} {n:Nat} {R:List (Tm × Tm)} {x y:Tm} {B:Binds} {met:List (Int × Int)} (h:URound σ B' n (R++[(x,y)]) B met):∃ n',n=n'+1∧sumS σ R+size (putF σ x)<n'+1∧sizT 3000 R∧UInv σ R B∧x.size≤3000∧y.size≤3000∧x.fairR=true∧y.fairR=true∧putF σ x=putF σ y:=by
 have h1:=h.sum
 refine ⟨n - 1,by omega,?_,fun q hq=>h.st q (by simp [hq]),h.inv.pop,(h.st (x,y) (by simp)).1,(h.st (x,y) (by simp)).2,(h.inv.fairt (x,y) (by simp)).1,(h.inv.fairt (x,y) (by simp)).2,h.inv.solt (x,y) (by simp)⟩
 rw [sumS_app] at h1
 have:sumS σ [(x,y)]=size (putF σ x):=by simp [sumS]
 omega

theorem uniF_snoc (n:Nat) (R:List (Tm × Tm)) (x y:Tm) (B:Binds) (met:List (Int × Int)):uniF (n+1) (R++[(x,y)]) B met =
   if (decide (x.k=1)&&decide (y.k=1))&&met.contains (x.n,y.n) then uniF n R B met else
   let met':=if decide (x.k=1)&&decide (y.k=1) then met++[(x.n,y.n)] else met
   let x':=walkB B x
   let y':=walkB B y
   if x'.k=1∧y'.k=1∧x'.n=y'.n then uniF n R B met'
   else if x'.k=1 then (if withB B x'.n y' then some none else uniF n R (B++[(x'.n,y')]) met')
   else if y'.k=1 then (if withB B y'.n x' then some none else uniF n R (B++[(y'.n,x')]) met')
   else if clashB x' y' then some none
   else uniF n (R++x'.l.zip y'.l) B met':=by
 simp only [uniF,List.getLast?_append,List.getLast?_singleton,Option.or_some,List.dropLast_concat,Option.some_or]
end Tm
end PSL
namespace PSL
open Go
namespace Tm
def metU (x y:Tm) (met:List (Int × Int)):List (Int × Int):=if decide (x.k=1)&&decide (y.k=1) then met++[(x.n,y.n)] else met
def skipU (x y:Tm) (met:List (Int × Int)):Bool:=(decide (x.k=1)&&decide (y.k=1))&&met.contains (x.n,y.n)
section
variable {σ:Int→Tm} {B':Binds} {n:Nat} {R:List (Tm × Tm)} {x y:Tm} {B:Binds} {met:List (Int × Int)}

theorem URound.skip (h:URound σ B' (n+1) (R++[(x,y)]) B met) (hs:skipU x y met=true):URound σ B' n R B met:=by
 obtain ⟨m,hm,h1,h2,h3,_⟩:=h.pop
 obtain rfl:m=n:=by omega
 have hr:=h.run
 rw [uniF_snoc,if_pos (show ((decide (x.k=1)&&decide (y.k=1))&&met.contains (x.n,y.n))=true from hs)] at hr
 have:=size_pos (putF σ x)
 exact ⟨h3,by omega,by have:=h.few; omega,h2,h.sb,hr⟩

theorem URound.step (h:URound σ B' (n+1) (R++[(x,y)]) B met) (hs:skipU x y met=false) :
  ((walkB B x).k=1→findB B (walkB B x).n=none)∧((walkB B y).k=1→findB B (walkB B y).n=none)∧(walkB B x).size≤3000∧(walkB B y).size≤3000 ∧
  ((walkB B x).k=1∧(walkB B y).k=1∧(walkB B x).n=(walkB B y).n→URound σ B' n R B (metU x y met)) ∧
  (¬ ((walkB B x).k=1∧(walkB B y).k=1∧(walkB B x).n=(walkB B y).n) →
   ((walkB B x).k=1→withB B (walkB B x).n (walkB B y)=false∧URound σ B' n R (B++[((walkB B x).n,walkB B y)]) (metU x y met)) ∧
   (¬ (walkB B x).k=1→((walkB B y).k=1→withB B (walkB B y).n (walkB B x)=false∧URound σ B' n R (B++[((walkB B y).n,walkB B x)]) (metU x y met)) ∧
    (¬ (walkB B y).k=1→(walkB B x).k=(walkB B y).k∧(walkB B x).s=(walkB B y).s∧(walkB B x).n=(walkB B y).n∧(walkB B x).l.length=(walkB B y).l.length∧URound σ B' n (R++(walkB B x).l.zip (walkB B y).l) B (metU x y met)))):=by
 obtain ⟨m,hm,h1,h2,h3,sx,sy,fx,fy,he⟩:=h.pop
 obtain rfl:m=n:=by omega
 have hr:=h.run
 rw [uniF_snoc,if_neg (by rw [show ((decide (x.k=1)&&decide (y.k=1))&&met.contains (x.n,y.n))=false from hs]; simp)] at hr
 have hr:(if (walkB B x).k=1∧(walkB B y).k=1∧(walkB B x).n=(walkB B y).n then uniF m R B (metU x y met)
   else if (walkB B x).k=1 then (if withB B (walkB B x).n (walkB B y) then some none else uniF m R (B++[((walkB B x).n,walkB B y)]) (metU x y met))
   else if (walkB B y).k=1 then (if withB B (walkB B y).n (walkB B x) then some none else uniF m R (B++[((walkB B y).n,walkB B x)]) (metU x y met))
   else if clashB (walkB B x) (walkB B y) then some none
   else uniF m (R++(walkB B x).l.zip (walkB B y).l) B (metU x y met))=some (some B'):=hr
 have wx:putF σ (walkB B x)=putF σ x:=walk_sol h.inv.solb _ x
 have wy:putF σ (walkB B y)=putF σ y:=walk_sol h.inv.solb _ y
 have ex:=walkB_end h.inv.chain (t:=x)
 have ey:=walkB_end h.inv.chain (t:=y)
 have gx:(walkB B x).fairR=true:=walk_fair h.inv.fairb _ x fx
 have gy:(walkB B y).fairR=true:=walk_fair h.inv.fairb _ y fy
 have zx:(walkB B x).size≤3000:=walk_siz h.sb _ x sx
 have zy:(walkB B y).size≤3000:=walk_siz h.sb _ y sy
 have few:=h.few
 have sb:=h.sb
 have solb:=h.inv.solb
 rw [← wx,← wy] at he
 rw [← wx] at h1
 clear wx wy
 generalize walkB B x=x' at *
 generalize walkB B y=y' at *
 generalize metU x y met=met' at *
 have hp:=size_pos (putF σ x')
 refine ⟨ex,ey,zx,zy,fun hc=>?_,fun hc=>⟨fun hk=>?_,fun hkx=>⟨fun hk=>?_,fun hky=>?_⟩⟩⟩
 ·rw [if_pos hc] at hr
  exact ⟨h3,by omega,by omega,h2,sb,hr⟩
 ·rw [if_neg hc,if_pos hk] at hr
  have hw:withB B x'.n y'=false:=withB_no solb (by rw [← putF_var (σ:=σ) hk]; exact he) (fun ⟨g1,g2⟩=>by
    rcases g2 with g2 | g2
    ·exact hc ⟨hk,g1,g2.symm⟩
    ·exact g2 (ey g1))
  rw [hw,if_neg (by simp)] at hr
  exact ⟨hw,h3.bind hk gx gy he (ex hk) (fun g=>⟨ey g,fun e=>hc ⟨hk,g,e.symm⟩⟩),by omega,by simp; omega,h2,sb.snoc zy,hr⟩
 ·rw [if_neg hc,if_neg hkx,if_pos hk] at hr
  have hw:withB B y'.n x'=false:=withB_no solb (by rw [← putF_var (σ:=σ) hk]; exact he.symm) (fun ⟨g1,_⟩=>hkx g1)
  rw [hw,if_neg (by simp)] at hr
  exact ⟨hw,h3.bind hk gy gx he.symm (ey hk) (fun g=>absurd g hkx),by omega,by simp; omega,h2,sb.snoc zx,hr⟩
 ·obtain ⟨g1,g2,g3,g4,g5,g6⟩:=h3.zip hkx hky gx gy he
  have hcl:clashB x' y'=false:=by unfold clashB; simp [g2,g3,g4,g5,strEq]
  rw [if_neg hc,if_neg hkx,if_neg hky,hcl,if_neg (by simp)] at hr
  exact ⟨g2,g3,g4,g5,g1,by omega,by omega,h2.zip zx zy,sb,hr⟩
end
end Tm
end PSL

namespace PSL
open Go
namespace Tm

def Cl (B:Binds) (v:Int) (M M':List Int):Prop:=∀ n∈M',n∈M∨∃ x,findB B n=some x∧∀ u∈occ x,u≠v∧(findB B u≠none→u∈M')

theorem Cl.trans {B:Binds} {v:Int} {M M1 M2:List Int} (h1:Cl B v M M1) (h2:Cl B v M1 M2) (hs:∀ n∈M1,n∈M2):Cl B v M M2:=fun n hn=>by
 rcases h2 n hn with h | h
 ·rcases h1 n h with h | ⟨x,hx,hu⟩
  ·exact .inl h
  ·exact .inr ⟨x,hx,fun u hu1=>⟨(hu u hu1).1,fun hb=>hs u ((hu u hu1).2 hb)⟩⟩
 ·exact .inr h
def cntB (B:Binds) (M:List Int):Nat:=B.countP fun b=>!M.contains b.1

def lkCl (B:Binds) (v:Int) (u:Nat) (g:Int→List Int→Bool × List Int):Prop:=∀ n M,cntB B M<u→(g n M).1=false→(∀ m∈M,m∈(g n M).2)∧Cl B v M (g n M).2∧n≠v∧(findB B n≠none→n∈(g n M).2)

mutual
theorem lkT_cl {B:Binds} {v:Int} {u:Nat} {g:Int→List Int→Bool × List Int} (he:lkExt g) (hg:lkCl B v u g):∀ (t:Tm) (M:List Int),cntB B M<u→(lkT g t M).1=false→(∀ m∈M,m∈(lkT g t M).2)∧Cl B v M (lkT g t M).2∧∀ n∈occ t,n≠v∧(findB B n≠none→n∈(lkT g t M).2)
 | mk k s n l,M,hM,h=>by
  simp only [lkT,occ] at h ⊢
  split at h
  ·rename_i hk
   rw [if_pos hk,if_pos hk]
   obtain ⟨h1,h2,h3,h4⟩:=hg n M hM h
   exact ⟨h1,h2,fun m hm=>by simp only [List.mem_singleton] at hm; subst hm; exact ⟨h3,h4⟩⟩
  ·rename_i hk
   rw [if_neg hk,if_neg hk]
   exact lkTL_cl he hg l M hM h
theorem lkTL_cl {B:Binds} {v:Int} {u:Nat} {g:Int→List Int→Bool × List Int} (he:lkExt g) (hg:lkCl B v u g):∀ (l:List Tm) (M:List Int),cntB B M<u→(lkTL g l M).1=false→(∀ m∈M,m∈(lkTL g l M).2)∧Cl B v M (lkTL g l M).2∧∀ n∈occL l,n≠v∧(findB B n≠none→n∈(lkTL g l M).2)
 | [],M,hM,h=>by simp only [lkTL,occL]; exact ⟨fun m hm=>hm,fun n hn=>.inl hn,by simp⟩
 | x::r,M,hM,h=>by
  simp only [lkTL,occL] at h ⊢
  cases hx:(lkT g x M).1 with
  | true=>rw [hx] at h; simp at h
  | false =>
   rw [hx] at h
   simp only [Bool.false_eq_true,if_false] at h ⊢
   obtain ⟨h1,h2,h3⟩:=lkT_cl he hg x M hM hx
   obtain ⟨R,hR⟩:=lkT_ext he x M
   have hM1:cntB B (lkT g x M).2<u:=by
    have:=count_le B M R
    rw [hR]; unfold cntB at hM ⊢; omega
   obtain ⟨g1,g2,g3⟩:=lkTL_cl he hg r _ hM1 h
   refine ⟨fun m hm=>g1 m (h1 m hm),h2.trans g2 g1,fun n hn=>?_⟩
   rcases List.mem_append.1 hn with hn | hn
   ·exact ⟨(h3 n hn).1,fun hb=>g1 n ((h3 n hn).2 hb)⟩
   ·exact g3 n hn
end

theorem lkF_cl (B:Binds) (v:Int):∀ u,lkCl B v u (lkF B v u)
 | 0,n,M,hM,_=>by omega
 | u+1,n,M,hM,h=>by
  simp only [lkF] at h ⊢
  by_cases hn:n=v
  ·rw [if_pos hn] at h; cases h
  rw [if_neg hn] at h ⊢
  cases hf:findB B n with
  | none=>exact ⟨fun m hm=>hm,fun m hm=>.inl hm,hn,fun h=>absurd rfl h⟩
  | some x =>
   rw [hf] at h
   simp only at h ⊢
   split at h
   ·rename_i hc
    rw [if_pos hc]
    exact ⟨fun m hm=>hm,fun m hm=>.inl hm,hn,fun _=>by simpa using hc⟩
   ·rename_i hc
    rw [if_neg hc]
    have hc':M.contains n=false:=by simpa using hc
    have hl:=count_lt hf hc'
    obtain ⟨h1,h2,h3⟩:=lkT_cl (lkF_ext B v u) (lkF_cl B v u) x (M++[n]) (by unfold cntB at hM ⊢; omega) h
    have hnm:=h1 n (by simp)
    refine ⟨fun m hm=>h1 m (by simp [hm]),fun m hm=>?_,hn,fun _=>hnm⟩
    rcases h2 m hm with h | h
    ·rcases List.mem_append.1 h with h | h
     ·exact .inl h
     ·simp only [List.mem_singleton] at h; subst h
      exact .inr ⟨x,hf,h3⟩
    ·exact .inr h

theorem withB_free {B:Binds} {v:Int} {t:Tm} (h:withB B v t=false):∀ M,v ∉ occ (fullS B M t):=by
 unfold withB at h
 obtain ⟨_,h2,h3⟩:=lkT_cl (lkF_ext B v _) (lkF_cl B v (B.length+1)) t [] (by unfold cntB; exact Nat.lt_succ_of_le List.countP_le_length) h
 generalize (lkT (lkF B v (B.length+1)) t []).2=M' at h2 h3
 have main:∀ (m:Nat) (x:Tm),(∀ n∈occ x,n≠v∧(findB B n≠none→n∈M'))→∀ z∈occ (fullS B m x),z≠v:=by
  intro m
  induction m with
  | zero=>intro x hx z hz; exact (hx z hz).1
  | succ m ih =>
   intro x hx z hz
   simp only [fullS] at hz
   obtain ⟨u,hu,hz⟩:=occ_putF x z hz
   cases hf:findB B u with
   | none =>
    rw [hf] at hz
    simp [occ,vT] at hz
    rw [hz]; exact (hx u hu).1
   | some y =>
    rw [hf] at hz
    have hm:=(hx u hu).2 (by rw [hf]; simp)
    rcases h2 u hm with h | ⟨y',hy,hc⟩
    ·cases h
    ·rw [hf] at hy; cases hy
     exact ih y hc z hz
 exact fun M hv=>main M t h3 v hv rfl
end Tm
end PSL

namespace PSL
open Go
namespace Tm

theorem find_nodup {B:Binds} (h:(B.map (·.1)).Nodup) {b:Int × Tm} (hb:b∈B):findB B b.1=some b.2:=by
 induction B with
 | nil=>cases hb
 | cons c B ih =>
  rw [findB_cons]
  simp only [List.map_cons,List.nodup_cons] at h
  rcases List.mem_cons.1 hb with rfl | hb
  ·rw [if_pos rfl]
  ·rw [if_neg (fun e=>h.1 (by rw [e]; exact List.mem_map.2 ⟨b,hb,rfl⟩))]
   exact ih h.2 hb
def cntR (B:Binds) (ρ:Int→Nat) (r:Nat):Nat:=B.countP fun b=>decide (ρ b.1<r)

theorem cntR_le (B:Binds) (ρ:Int→Nat) {r r':Nat} (h:r≤r'):cntR B ρ r≤cntR B ρ r':=by
 apply List.countP_mono_left
 intro b _ hb
 simp only [decide_eq_true_eq] at hb ⊢
 omega

theorem cntR_lt {B:Binds} {ρ:Int→Nat} {b:Int × Tm} (hb:b∈B):cntR B ρ (ρ b.1)<cntR B ρ (ρ b.1+1):=by
 obtain ⟨l,r,rfl⟩:=List.mem_iff_append.1 hb
 have h1:=cntR_le l ρ (show ρ b.1≤ρ b.1+1 by omega)
 have h2:=cntR_le r ρ (show ρ b.1≤ρ b.1+1 by omega)
 unfold cntR at *
 simp only [List.countP_append,List.countP_cons]
 have e1:decide (ρ b.1<ρ b.1)=false:=by simp
 have e2:decide (ρ b.1<ρ b.1+1)=true:=by simp
 rw [e1,e2]
 simp only [if_true,Bool.false_eq_true,if_false]
 omega

theorem rank_okn {B:Binds} {ρ:Int→Nat} (hf:∀ b∈B,b.2.fairR=true) (hρ:∀ b∈B,∀ u∈occ b.2,findB B u≠none→ρ u<ρ b.1):∀ (r i:Nat) (b:Int × Tm),B[i]? = some b→ρ b.1=r→Okn (adjB B) (cntR B ρ (r+1)) i:=by
 intro r
 induction r using Nat.strongRecOn with
 | ind r ih =>
  intro i b hb hr
  have hm:=List.mem_of_getElem? hb
  have h1:=cntR_lt (ρ:=ρ) hm
  rw [hr] at h1
  obtain ⟨m,hm'⟩:∃ m,cntR B ρ (r+1)=m+1:=⟨cntR B ρ (r+1) - 1,by omega⟩
  rw [hm']
  refine .mk fun k hk=>?_
  simp only [adjB,hb,List.mem_filterMap] at hk
  obtain ⟨v,hv,hk⟩:=hk
  rw [varsT_mem (one_fair (hf _ hm))] at hv
  simp only [occL,List.append_nil] at hv
  rcases placeB_find B v with ⟨h1,h2⟩ | ⟨j,t,h2,h3,h4⟩
  ·rw [if_pos h1] at hk; cases hk
  ·rw [if_neg (by omega)] at hk
   simp only [Option.some.injEq] at hk
   have hlt:=hρ b hm v hv (by rw [h4]; simp)
   have hkj:k=j:=by omega
   subst hkj
   have:=ih (ρ v) (by omega) k (v,t) h3 rfl
   refine this.mono ?_
   have:=cntR_le B ρ (show ρ v+1≤r by omega)
   omega

theorem sub_rank {B:Binds} {ρ:Int→Nat} (hf:∀ b∈B,b.2.fairR=true) (hρ:∀ b∈B,∀ u∈occ b.2,findB B u≠none→ρ u<ρ b.1):Sub B B.length :=
 ⟨hf,fun i hi=>(rank_okn hf hρ _ i B[i] (List.getElem?_eq_getElem hi) rfl).mono (by unfold cntR; exact List.countP_le_length)⟩

mutual
theorem occ_size {σ:Int→Tm}:∀ (t:Tm) (u:Int),u∈occ t→size (σ u)≤size (putF σ t)∧(t.k≠1→size (σ u)<size (putF σ t))
 | mk k s n l,u,h=>by
  simp only [occ] at h
  by_cases hk:k=1
  ·rw [if_pos hk,List.mem_singleton] at h
   subst h
   simp only [putF,if_pos hk,Tm.k]
   exact ⟨Nat.le_refl _,fun h=>absurd hk h⟩
  ·rw [if_neg hk] at h
   have:=occL_size (σ:=σ) l u h
   simp only [putF,if_neg hk,size]
   exact ⟨by omega,fun _=>by omega⟩
theorem occL_size {σ:Int→Tm}:∀ (l:List Tm) (u:Int),u∈occL l→size (σ u)≤sizeL (putFL σ l)
 | [],u,h=>by simp [occL] at h
 | t::l,u,h=>by
  simp only [occL,List.mem_append] at h
  simp only [putFL,sizeL]
  rcases h with h | h
  ·have:=(occ_size (σ:=σ) t u h).1; omega
  ·have:=occL_size (σ:=σ) l u h; omega
end

theorem occ_of_var {t:Tm} (hk:t.k=1) {u:Int} (h:u∈occ t):u=t.n:=by
 cases t; simp only [k] at hk; simp only [occ,if_pos hk,List.mem_singleton] at h; exact h

theorem sol_rank {σ:Int→Tm} {B:Binds} (hs:solB σ B) (hc:chainB B):∃ ρ:Int→Nat,∀ b∈B,∀ u∈occ b.2,findB B u≠none→ρ u<ρ b.1:=by
 refine ⟨fun v=>size (σ v) * (B.length+1)+(B.length - (placeB B v).toNat),fun b hb u hu hub=>?_⟩
 show size (σ u) * (B.length+1)+(B.length - (placeB B u).toNat)<size (σ b.1) * (B.length+1)+(B.length - (placeB B b.1).toNat)
 have hbs:=hs b hb
 have h1:=occ_size (σ:=σ) b.2 u hu
 by_cases hk:b.2.k=1
 ·have he:=occ_of_var hk hu
  rw [putF_var hk,← he] at hbs
  rw [hbs]
  rcases placeB_find B u with ⟨g1,g2⟩ | ⟨j,t,g1,g2,g3⟩
  ·exact absurd g2 hub
  rcases placeB_find B b.1 with ⟨e1,e2⟩ | ⟨i,t',e1,e2,e3⟩
  ·rw [find_nodup hc.nodup hb] at e2; cases e2
  rw [find_nodup hc.nodup hb] at e3
  simp only [Option.some.injEq] at e3
  subst e3
  have:=hc.chain i _ e2 hk j _ g2 he
  have:=(List.getElem?_eq_some_iff.1 g2).1
  rw [g1,e1]
  simp only [Int.toNat_natCast]
  omega
 ·have h2:=h1.2 hk
  rw [← hbs] at h2
  have:(size (σ u)+1) * (B.length+1)≤size (σ b.1) * (B.length+1):=Nat.mul_le_mul_right _ h2
  rw [Nat.add_mul] at this
  omega

theorem sub_sol {σ:Int→Tm} {B:Binds} (hs:solB σ B) (hc:chainB B) (hf:fairBB B):Sub B B.length :=
 (sol_rank hs hc).elim fun _ h=>sub_rank (fun b hb=>(hf b hb).1) h

def fullV (B:Binds) (v:Int):Tm:=match findB B v with | some x=>fullS B B.length x | none=>vT v
theorem sub_putV {B:Binds} (h:Sub B B.length) {t:Tm} (hf:t.fairR=true):putF (fullV B) t=fullS B B.length t:=(h.fix hf).symm

theorem sub_solV {B:Binds} (h:Sub B B.length) (hc:chainB B):solB (fullV B) B:=fun b hb=>by
 rw [sub_putV h (h.fair b hb)]
 unfold fullV
 rw [find_nodup hc.nodup hb]
theorem fullV_free {B:Binds} {v:Int} (h:findB B v=none):fullV B v=vT v:=by unfold fullV; rw [h]

theorem bind_sol {σ:Int→Tm} {B:Binds} (hs:solB σ B) (hc:chainB B) (hf:fairBB B) {v:Int} {w:Tm} (hv:findB B v=none) (hw:w.fairR=true) (hn:withB B v w=false):∃ σ',solB σ' (B++[(v,w)]):=by
 have hS:=sub_sol hs hc hf
 have hfree:=withB_free hn B.length
 have hfw:=hS.fairF hw
 refine ⟨fun z=>putF (fun u=>if u=v then putF (fullV B) w else vT u) (fullV B z),fun b hb=>?_⟩
 simp only
 rw [← putF_comp]
 rcases List.mem_append.1 hb with hb | hb
 ·rw [sub_solV hS hc b hb]
 ·simp only [List.mem_singleton] at hb; subst hb
  simp only
  rw [fullV_free hv,putF_var (show (vT v).k=1 from rfl)]
  simp only [vT,Tm.n,if_true]
  rw [sub_putV hS hw]
  refine (put_id _ hfw fun u hu=>?_).symm
  rw [if_neg (fun e=>hfree (by rw [← e]; exact hu))]; rfl
end Tm
end PSL

namespace PSL
open Go
namespace Tm
def pickU (sw:Bool) (x y:Tm):Tm × Tm:=if (sw || decide (x.k≠1))&&decide (y.k=1) then (y,x) else (x,y)
def sameV (x y:Tm):Prop:=x.k=1∧y.k=1∧x.n=y.n
def ordU (sw:Bool) (l m:List Tm):List (Tm × Tm):=if sw then l.zip m else (l.zip m).reverse
theorem ordU_mem {sw:Bool} {l m:List Tm} {p:Tm × Tm}:p∈ordU sw l m↔p∈l.zip m:=by cases sw <;> simp [ordU]

theorem pickU_or {sw:Bool} {x y u w:Tm} (h:pickU sw x y=(u,w)):(u=x∧w=y)∨(u=y∧w=x∧y.k=1):=by
 unfold pickU at h
 split at h
 ·rename_i hc
  simp only [Bool.and_eq_true,decide_eq_true_eq] at hc
  cases h; exact .inr ⟨rfl,rfl,hc.2⟩
 ·cases h; exact .inl ⟨rfl,rfl⟩

theorem pickU_fun {sw:Bool} {x y u w:Tm} (h:pickU sw x y=(u,w)) (hu:u.k≠1):x.k≠1∧y.k≠1:=by
 unfold pickU at h
 split at h
 ·rename_i hc
  simp only [Bool.and_eq_true,decide_eq_true_eq] at hc
  cases h; exact absurd hc.2 hu
 ·rename_i hc
  cases h
  refine ⟨hu,fun hy=>hc ?_⟩
  simp [hu,hy]

inductive URun (sw:Bool):Nat→List (Tm × Tm)→Binds→List (Int × Int)→Binds→Bool→Prop
 | done {n:Nat} {B:Binds} {met:List (Int × Int)}:URun sw n [] B met B true
 | skip {n:Nat} {x y:Tm} {R:List (Tm × Tm)} {B B':Binds} {met:List (Int × Int)} {ok:Bool} (hs:skipU x y met=true) (h:URun sw n R B met B' ok):URun sw (n+1) ((x,y)::R) B met B' ok
 | same {n:Nat} {x y:Tm} {R:List (Tm × Tm)} {B B':Binds} {met:List (Int × Int)} {ok:Bool} (hs:skipU x y met=false) (hv:sameV (walkB B x) (walkB B y)) (h:URun sw n R B (metU x y met) B' ok):URun sw (n+1) ((x,y)::R) B met B' ok
 | occ {n:Nat} {x y u w:Tm} {R:List (Tm × Tm)} {B:Binds} {met:List (Int × Int)} (hs:skipU x y met=false) (hv:¬ sameV (walkB B x) (walkB B y)) (hp:pickU sw (walkB B x) (walkB B y)=(u,w)) (hk:u.k=1) (hw:withB B u.n w=true):URun sw (n+1) ((x,y)::R) B met B false
 | bind {n:Nat} {x y u w:Tm} {R:List (Tm × Tm)} {B B':Binds} {met:List (Int × Int)} {ok:Bool} (hs:skipU x y met=false) (hv:¬ sameV (walkB B x) (walkB B y)) (hp:pickU sw (walkB B x) (walkB B y)=(u,w)) (hk:u.k=1) (hw:withB B u.n w=false) (h:URun sw n R (B++[(u.n,w)]) (metU x y met) B' ok):URun sw (n+1) ((x,y)::R) B met B' ok
 | clash {n:Nat} {x y:Tm} {R:List (Tm × Tm)} {B:Binds} {met:List (Int × Int)} (hs:skipU x y met=false) (hx:(walkB B x).k≠1) (hy:(walkB B y).k≠1) (hc:clashB (walkB B x) (walkB B y)=true):URun sw (n+1) ((x,y)::R) B met B false
 | args {n:Nat} {x y:Tm} {R:List (Tm × Tm)} {B B':Binds} {met:List (Int × Int)} {ok:Bool} (hs:skipU x y met=false) (hx:(walkB B x).k≠1) (hy:(walkB B y).k≠1) (hc:clashB (walkB B x) (walkB B y)=false) (h:URun sw n (ordU sw (walkB B x).l (walkB B y).l++R) B (metU x y met) B' ok):URun sw (n+1) ((x,y)::R) B met B' ok

structure UG (S:List Int) (N:Nat) (T:List (Tm × Tm)) (B:Binds):Prop where
 chain:chainB B
 fairb:fairBB B
 fairt:∀ p∈T,p.1.fairR=true∧p.2.fairR=true
 st:sizT N T
 sb:sizB N B
 sol:∃ σ,solB σ B
 vb:∀ b∈B,b.1∈S∧∀ u∈occ b.2,u∈S
 vt:∀ p∈T,(∀ u∈occ p.1,u∈S)∧∀ u∈occ p.2,u∈S

theorem walk_occ {S:List Int} {B:Binds} (h:∀ b∈B,b.1∈S∧∀ u∈occ b.2,u∈S):∀ (f:Nat) (t:Tm),(∀ u∈occ t,u∈S)→∀ u∈occ (walkT B f t),u∈S
 | 0,t,ht=>ht
 | f+1,t,ht=>by
  simp only [walkT]
  split
  ·split
   ·rename_i x hx; exact walk_occ h f x (h _ (findB_mem hx)).2
   ·exact ht
  ·exact ht

structure UW (S:List Int) (N:Nat) (B:Binds) (x:Tm):Prop where
 fair:x.fairR=true
 size:x.size≤N
 occ:∀ u∈occ x,u∈S
 nd:x.k=1→findB B x.n=none
section
variable {S:List Int} {N:Nat} {x y:Tm} {R:List (Tm × Tm)} {B:Binds}

theorem UG.tail {p:Tm × Tm} (h:UG S N (p::R) B):UG S N R B :=
 ⟨h.chain,h.fairb,fun q hq=>h.fairt q (by simp [hq]),fun q hq=>h.st q (by simp [hq]),h.sb,h.sol,h.vb,fun q hq=>h.vt q (by simp [hq])⟩

theorem UG.walk1 (h:UG S N ((x,y)::R) B):UW S N B (walkB B x) :=
 ⟨walk_fair h.fairb _ x (h.fairt (x,y) (by simp)).1,walk_siz h.sb _ x (h.st (x,y) (by simp)).1,walk_occ h.vb _ x (h.vt (x,y) (by simp)).1,walkB_end h.chain⟩

theorem UG.walk2 (h:UG S N ((x,y)::R) B):UW S N B (walkB B y) :=
 ⟨walk_fair h.fairb _ y (h.fairt (x,y) (by simp)).2,walk_siz h.sb _ y (h.st (x,y) (by simp)).2,walk_occ h.vb _ y (h.vt (x,y) (by simp)).2,walkB_end h.chain⟩

theorem UG.pick {sw:Bool} {u w:Tm} (h:UG S N ((x,y)::R) B) (hv:¬ sameV (walkB B x) (walkB B y)) (hp:pickU sw (walkB B x) (walkB B y)=(u,w)) (hk:u.k=1):UW S N B u∧UW S N B w∧(w.k=1→w.n≠u.n):=by
 rcases pickU_or hp with ⟨rfl,rfl⟩ | ⟨rfl,rfl,_⟩
 ·exact ⟨h.walk1,h.walk2,fun hw e=>hv ⟨hk,hw,e.symm⟩⟩
 ·exact ⟨h.walk2,h.walk1,fun hw e=>hv ⟨hw,hk,e⟩⟩

theorem UG.bind {sw:Bool} {u w:Tm} (h:UG S N ((x,y)::R) B) (hv:¬ sameV (walkB B x) (walkB B y)) (hp:pickU sw (walkB B x) (walkB B y)=(u,w)) (hk:u.k=1) (hw:withB B u.n w=false):UG S N R (B++[(u.n,w)]):=by
 obtain ⟨hu,hw1,hne⟩:=h.pick hv hp hk
 obtain ⟨σ,hs⟩:=h.sol
 have ht:=h.tail
 refine ⟨h.chain.snoc (hu.nd hk) fun h1=>⟨hw1.nd h1,hne h1⟩,fun b hb=>?_,ht.fairt,ht.st,h.sb.snoc hw1.size,bind_sol hs h.chain h.fairb (hu.nd hk) hw1.fair hw,fun b hb=>?_,ht.vt⟩
 ·rcases List.mem_append.1 hb with hb | hb
  ·exact h.fairb b hb
  ·simp only [List.mem_singleton] at hb; subst hb
   exact ⟨hw1.fair,occ_range u hu.fair u.n (occ_var hk)⟩
 ·rcases List.mem_append.1 hb with hb | hb
  ·exact h.vb b hb
  ·simp only [List.mem_singleton] at hb; subst hb
   exact ⟨hu.occ _ (occ_var hk),hw1.occ⟩

theorem occ_kid {t x:Tm} (hk:t.k≠1) (hx:x∈t.l) {u:Int} (hu:u∈occ x):u∈occ t:=by
 cases t; simp only [k,l] at hk hx; simp only [occ,if_neg hk]
 clear hk
 rename_i l
 induction l with
 | nil=>cases hx
 | cons a l ih =>
  simp only [occL,List.mem_append]
  rcases List.mem_cons.1 hx with rfl | hx
  ·exact .inl hu
  ·exact .inr (ih hx)

theorem UG.args {sw:Bool} (h:UG S N ((x,y)::R) B) (hx:(walkB B x).k≠1) (hy:(walkB B y).k≠1):UG S N (ordU sw (walkB B x).l (walkB B y).l++R) B:=by
 have ht:=h.tail
 have h1:=h.walk1
 have h2:=h.walk2
 generalize walkB B x=x' at *
 generalize walkB B y=y' at *
 have hz:∀ p∈ordU sw x'.l y'.l,p.1∈x'.l∧p.2∈y'.l:=fun p hp=>List.of_mem_zip (ordU_mem.1 hp)
 refine ⟨h.chain,h.fairb,fun q hq=>?_,fun q hq=>?_,h.sb,h.sol,h.vb,fun q hq=>?_⟩
 ·rcases List.mem_append.1 hq with hq | hq
  ·exact ⟨Sub.kid_fair h1.fair (hz q hq).1,Sub.kid_fair h2.fair (hz q hq).2⟩
  ·exact ht.fairt q hq
 ·rcases List.mem_append.1 hq with hq | hq
  ·have g1:=size_mem (hz q hq).1
   have g2:=size_mem (hz q hq).2
   have g3:=size_eq x'
   have g4:=size_eq y'
   have g5:=h1.size
   have g6:=h2.size
   omega
  ·exact ht.st q hq
 ·rcases List.mem_append.1 hq with hq | hq
  ·exact ⟨fun u hu=>h1.occ u (occ_kid hx (hz q hq).1 hu),fun u hu=>h2.occ u (occ_kid hy (hz q hq).2 hu)⟩
  ·exact ht.vt q hq
end
def unbU (S:List Int) (B:Binds):Nat:=S.countP fun v=>(findB B v).isNone

theorem findB_snoc (B:Binds) (v z:Int) (w:Tm):findB (B++[(v,w)]) z=match findB B z with | some x=>some x | none=>if v=z then some w else none:=by
 induction B with
 | nil=>simp [findB_cons,findB]
 | cons b B ih =>
  simp only [List.cons_append,findB_cons]
  split
  ·rfl
  ·exact ih

theorem unbU_lt {S:List Int} {B:Binds} {v:Int} (hv:v∈S) (hb:findB B v=none) (w:Tm):unbU S (B++[(v,w)])<unbU S B:=by
 obtain ⟨l,r,rfl⟩:=List.mem_iff_append.1 hv
 have mono:∀ l:List Int,(l.countP fun z=>(findB (B++[(v,w)]) z).isNone)≤l.countP fun z=>(findB B z).isNone:=fun l=>by
  apply List.countP_mono_left
  intro z _ hz
  rw [findB_snoc] at hz
  cases hf:findB B z with
  | none=>rfl
  | some x=>rw [hf] at hz; simp at hz
 have h1:=mono l
 have h2:=mono r
 unfold unbU
 simp only [List.countP_append,List.countP_cons]
 rw [hb,findB_snoc,hb]
 simp
 omega
theorem sumS_rev (σ:Int→Tm) (T:List (Tm × Tm)):sumS σ T.reverse=sumS σ T:=by simp [sumS]

theorem sumS_ord (σ:Int→Tm) (sw:Bool) (l m:List Tm) (h:l.length=m.length):sumS σ (ordU sw l m)=sizeL (putFL σ l):=by
 cases sw
 ·rw [ordU,if_neg (by simp),sumS_rev,sumS_zip σ l m h]
 ·rw [ordU,if_pos rfl,sumS_zip σ l m h]
theorem sumS_cons (σ:Int→Tm) (p:Tm × Tm) (T:List (Tm × Tm)):sumS σ (p::T)=size (putF σ p.1)+sumS σ T:=by simp [sumS]

theorem clash_no {x y:Tm} (h:clashB x y=false):x.k=y.k∧x.s=y.s∧x.n=y.n∧x.l.length=y.l.length:=by
 unfold clashB at h
 simp only [Bool.or_eq_false_iff,decide_eq_false_iff_not,Decidable.not_not,Bool.not_eq_false'] at h
 obtain ⟨⟨⟨h1,h2⟩,h3⟩,h4⟩:=h
 exact ⟨h1,Tm.strEq_iff.1 h3,h2,h4⟩

theorem urun_ends (sw:Bool) {S:List Int} {N:Nat}:∀ (c:Nat) (s:Nat) (σ:Int→Tm) (T:List (Tm × Tm)) (B:Binds) (met:List (Int × Int)),UG S N T B→unbU S B≤c→solB σ B→sumS σ T≤s→∃ n B' ok,URun sw n T B met B' ok:=by
 intro c
 induction c using Nat.strongRecOn with
 | ind c ihc =>
  intro s
  induction s with
  | zero =>
   intro σ T B met hU hc hs hsum
   cases T with
   | nil=>exact ⟨0,B,true,.done⟩
   | cons p T =>
    rw [sumS_cons] at hsum
    have:=size_pos (putF σ p.1)
    omega
  | succ s ih =>
   intro σ T B met hU hc hs hsum
   cases T with
   | nil=>exact ⟨0,B,true,.done⟩
   | cons p T =>
    obtain ⟨x,y⟩:=p
    rw [sumS_cons] at hsum
    have hpos:=size_pos (putF σ x)
    simp only at hsum
    cases hsk:skipU x y met with
    | true =>
     obtain ⟨n,B',ok,h⟩:=ih σ T B met hU.tail hc hs (by omega)
     exact ⟨n+1,B',ok,.skip hsk h⟩
    | false =>
     by_cases hv:sameV (walkB B x) (walkB B y)
     ·obtain ⟨n,B',ok,h⟩:=ih σ T B (metU x y met) hU.tail hc hs (by omega)
      exact ⟨n+1,B',ok,.same hsk hv h⟩
     ·obtain ⟨u,w,hp⟩:∃ u w,pickU sw (walkB B x) (walkB B y)=(u,w):=⟨_,_,rfl⟩
      by_cases hk:u.k=1
      ·cases hw:withB B u.n w with
       | true=>exact ⟨1,B,false,.occ (n:=0) hsk hv hp hk hw⟩
       | false =>
        have hb:=hU.bind hv hp hk hw
        obtain ⟨hu,_,_⟩:=hU.pick hv hp hk
        have hlt:=unbU_lt (hu.occ _ (occ_var hk)) (hu.nd hk) w
        obtain ⟨σ',hs'⟩:=hb.sol
        obtain ⟨n,B',ok,h⟩:=ihc _ (by omega) (sumS σ' T) σ' T _ (metU x y met) hb (Nat.le_refl _) hs' (Nat.le_refl _)
        exact ⟨n+1,B',ok,.bind hsk hv hp hk hw h⟩
      ·obtain ⟨hx,hy⟩:=pickU_fun hp hk
       cases hcl:clashB (walkB B x) (walkB B y) with
       | true=>exact ⟨1,B,false,.clash (n:=0) hsk hx hy hcl⟩
       | false =>
        obtain ⟨_,_,_,hlen⟩:=clash_no hcl
        have hz:size (putF σ x)=1+sizeL (putFL σ (walkB B x).l):=by
         rw [← walk_sol hs (B.length+1) x,show walkT B (B.length+1) x=walkB B x from rfl,putF_fun hx]; simp only [size]
        obtain ⟨n,B',ok,h⟩:=ih σ (ordU sw (walkB B x).l (walkB B y).l++T) B (metU x y met) (hU.args hx hy) hc hs (by rw [sumS_app,sumS_ord σ sw _ _ hlen]; omega)
        exact ⟨n+1,B',ok,.args hsk hx hy hcl h⟩

theorem urun_finds {sw:Bool} {S:List Int} {N:Nat} {σ:Int→Tm} {n:Nat} {T:List (Tm × Tm)} {B B':Binds} {met:List (Int × Int)} {ok:Bool} (h:URun sw n T B met B' ok):UG S N T B→solB σ B→(∀ p∈T,putF σ p.1=putF σ p.2)→ok=true∧solB σ B':=by
 induction h with
 | done=>exact fun _ hs _=>⟨rfl,hs⟩
 | skip _ _ ih=>exact fun hU hs ht=>ih hU.tail hs fun p hp=>ht p (by simp [hp])
 | same _ _ _ ih=>exact fun hU hs ht=>ih hU.tail hs fun p hp=>ht p (by simp [hp])
 | occ hsk hv hp hk hw =>
  intro hU hs ht
  rename_i x y u w R B met
  have he:=ht (x,y) (by simp)
  simp only at he
  rw [← walk_sol hs (B.length+1) x,← walk_sol hs (B.length+1) y] at he
  obtain ⟨hu,hw1,hne⟩:=hU.pick hv hp hk
  have he2:putF σ u=putF σ w:=by
   rcases pickU_or hp with ⟨rfl,rfl⟩ | ⟨rfl,rfl,_⟩
   ·exact he
   ·exact he.symm
  rw [putF_var hk] at he2
  rw [withB_no hs he2 (fun ⟨h1,h2⟩=>by
   rcases h2 with h2 | h2
   ·exact hne h1 h2
   ·exact h2 (hw1.nd h1))] at hw
  cases hw
 | bind hsk hv hp hk hw _ ih =>
  intro hU hs ht
  rename_i n x y u w R B B' met ok _
  have he:=ht (x,y) (by simp)
  simp only at he
  rw [← walk_sol hs (B.length+1) x,← walk_sol hs (B.length+1) y] at he
  have he2:putF σ u=putF σ w:=by
   rcases pickU_or hp with ⟨rfl,rfl⟩ | ⟨rfl,rfl,_⟩
   ·exact he
   ·exact he.symm
  rw [putF_var hk] at he2
  refine ih (hU.bind hv hp hk hw) (fun b hb=>?_) fun p hp=>ht p (by simp [hp])
  rcases List.mem_append.1 hb with hb | hb
  ·exact hs b hb
  ·simp only [List.mem_singleton] at hb; subst hb; exact he2
 | clash hsk hx hy hc =>
  intro hU hs ht
  rename_i n x y R B met
  have he:=ht (x,y) (by simp)
  simp only at he
  rw [← walk_sol hs (B.length+1) x,← walk_sol hs (B.length+1) y] at he
  change putF σ (walkB B x)=putF σ (walkB B y) at he
  generalize walkB B x=x' at *
  generalize walkB B y=y' at *
  rw [putF_fun hx,putF_fun hy] at he
  simp only [Tm.mk.injEq] at he
  obtain ⟨e1,e2,e3,e4⟩:=he
  have hlen:x'.l.length=y'.l.length:=by rw [← putFL_len σ,e4,putFL_len]
  unfold clashB at hc
  simp [e1,e2,e3,hlen,strEq] at hc
 | args hsk hx hy hc _ ih =>
  intro hU hs ht
  rename_i n x y R B B' met ok _
  have he:=ht (x,y) (by simp)
  simp only at he
  rw [← walk_sol hs (B.length+1) x,← walk_sol hs (B.length+1) y] at he
  refine ih (hU.args hx hy) hs fun p hp=>?_
  rcases List.mem_append.1 hp with hp | hp
  ·change putF σ (walkB B x)=putF σ (walkB B y) at he
   rw [putF_fun hx,putF_fun hy] at he
   simp only [Tm.mk.injEq] at he
   exact zip_sol _ _ he.2.2.2 p (ordU_mem.1 hp)
  ·exact ht p (by simp [hp])
end Tm
end PSL

namespace PSL
open Go
namespace Tm

theorem urun_good {sw:Bool} {S:List Int} {N:Nat} {n:Nat} {T:List (Tm × Tm)} {B B':Binds} {met:List (Int × Int)} {ok:Bool} (h:URun sw n T B met B' ok):UG S N T B→UG S N [] B'∧∃ X,B'=B++X:=by
 induction h with
 | done=>exact fun hU=>⟨hU,[],by simp⟩
 | skip _ _ ih=>exact fun hU=>ih hU.tail
 | same _ _ _ ih=>exact fun hU=>ih hU.tail
 | occ hsk hv hp hk hw =>
  intro hU
  exact ⟨⟨hU.chain,hU.fairb,by simp,fun p hp=>(by cases hp),hU.sb,hU.sol,hU.vb,by simp⟩,[],by simp⟩
 | bind hsk hv hp hk hw _ ih =>
  intro hU
  obtain ⟨h1,X,h2⟩:=ih (hU.bind hv hp hk hw)
  exact ⟨h1,_,by rw [h2,List.append_assoc]⟩
 | clash hsk hx hy hc =>
  intro hU
  exact ⟨⟨hU.chain,hU.fairb,by simp,fun p hp=>(by cases hp),hU.sb,hU.sol,hU.vb,by simp⟩,[],by simp⟩
 | args hsk hx hy hc _ ih=>exact fun hU=>ih (hU.args hx hy)

theorem walk_more {B:Binds} {v:Int} {w:Tm} (hw:w.k=1→findB B w.n=none∧w.n≠v):∀ (f:Nat) (t:Tm),((walkT B f t).k=1→findB B (walkT B f t).n=none)→walkT (B++[(v,w)]) (f+1) t=if (walkT B f t).k=1∧(walkT B f t).n=v then w else walkT B f t:=by
 have hend:∀ f,walkT (B++[(v,w)]) f w=w:=fun f=>by
  cases f with
  | zero=>rfl
  | succ f =>
   simp only [walkT]
   split
   ·rename_i hk
    obtain ⟨h1,h2⟩:=hw hk
    rw [findB_snoc,h1]
    simp only
    rw [if_neg (fun e=>h2 e.symm)]
   ·rfl
 have stop:∀ (f:Nat) (t:Tm),(t.k=1→findB B t.n=none)→walkT (B++[(v,w)]) (f+1) t=if t.k=1∧t.n=v then w else t:=fun f t ht=>by
  simp only [walkT]
  by_cases hk:t.k=1
  ·rw [if_pos hk,findB_snoc,ht hk]
   simp only
   by_cases hn:v=t.n
   ·rw [if_pos hn,if_pos ⟨hk,hn.symm⟩]; exact hend f
   ·rw [if_neg hn,if_neg (fun e=>hn e.2.symm)]
  ·rw [if_neg hk,if_neg (fun e=>hk e.1)]
 intro f
 induction f with
 | zero=>exact fun t ht=>stop 0 t ht
 | succ f ih =>
  intro t ht
  by_cases hk:t.k=1
  ·cases hf:findB B t.n with
   | none =>
    have e:walkT B (f+1) t=t:=by simp only [walkT]; rw [if_pos hk,hf]
    rw [e]
    exact stop _ t fun _=>hf
   | some x =>
    have e:walkT B (f+1) t=walkT B f x:=by simp only [walkT]; rw [if_pos hk,hf]
    rw [e] at ht ⊢
    rw [← ih x ht]
    have e2:∀ f',walkT (B++[(v,w)]) (f'+1) t=walkT (B++[(v,w)]) f' x:=fun f'=>by
     conv=>lhs; unfold walkT
     rw [if_pos hk,findB_snoc,hf]
    exact e2 _
  ·have e:walkT B (f+1) t=t:=by simp only [walkT]; rw [if_neg hk]
   rw [e]
   exact stop _ t fun h=>absurd h hk

theorem walkB_more {B:Binds} (hc:chainB B) {v:Int} {w:Tm} (hw:w.k=1→findB B w.n=none∧w.n≠v) (t:Tm):walkB (B++[(v,w)]) t=if (walkB B t).k=1∧(walkB B t).n=v then w else walkB B t:=by
 have e:walkB (B++[(v,w)]) t=walkT (B++[(v,w)]) (B.length+1+1) t:=by unfold walkB; simp
 rw [e]
 exact walk_more hw (B.length+1) t (walkB_end hc)

def GoodU (B:Binds) (V:Tm × Tm→Prop) (p:Tm × Tm):Prop:=walkB B p.1=walkB B p.2∨((walkB B p.1).k≠1∧(walkB B p.2).k≠1∧(walkB B p.1).k=(walkB B p.2).k∧(walkB B p.1).s=(walkB B p.2).s∧(walkB B p.1).n=(walkB B p.2).n∧(walkB B p.1).l.length=(walkB B p.2).l.length∧∀ q∈(walkB B p.1).l.zip (walkB B p.2).l,V q)

theorem GoodU.mono {B:Binds} {V V':Tm × Tm→Prop} {p:Tm × Tm} (h:GoodU B V p) (hV:∀ q,V q→V' q):GoodU B V' p:=by
 rcases h with h | ⟨h1,h2,h3,h4,h5,h6,h7⟩
 ·exact .inl h
 ·exact .inr ⟨h1,h2,h3,h4,h5,h6,fun q hq=>hV q (h7 q hq)⟩

theorem GoodU.more {B:Binds} {V:Tm × Tm→Prop} {p:Tm × Tm} (h:GoodU B V p) (hc:chainB B) {v:Int} {w:Tm} (hw:w.k=1→findB B w.n=none∧w.n≠v):GoodU (B++[(v,w)]) V p:=by
 rcases h with h | ⟨h1,h2,h3⟩
 ·exact .inl (by rw [walkB_more hc hw,walkB_more hc hw,h])
 ·refine .inr ?_
  rw [walkB_more hc hw,walkB_more hc hw,if_neg (fun e=>h1 e.1),if_neg (fun e=>h2 e.1)]
  exact ⟨h1,h2,h3⟩

theorem fair_var {t:Tm} (hf:t.fairR=true) (hk:t.k=1):t=vT t.n:=by
 obtain ⟨k,s,n,l⟩:=t
 simp only [Tm.k] at hk
 subst hk
 obtain ⟨_,h⟩:=fairR_mk hf
 obtain ⟨rfl,rfl⟩:=h rfl
 rfl

theorem skipU_mem {x y:Tm} {met:List (Int × Int)} (h:skipU x y met=true):x.k=1∧y.k=1∧(x.n,y.n)∈met:=by
 simp only [skipU,Bool.and_eq_true,decide_eq_true_eq] at h
 exact ⟨h.1.1,h.1.2,by simpa using h.2⟩

theorem metU_mem {x y:Tm} {met:List (Int × Int)} {m:Int × Int} (h:m∈metU x y met):m∈met∨(x.k=1∧y.k=1∧m=(x.n,y.n)):=by
 unfold metU at h
 split at h
 ·rename_i hc
  simp only [Bool.and_eq_true,decide_eq_true_eq] at hc
  rcases List.mem_append.1 h with h | h
  ·exact .inl h
  ·simp only [List.mem_singleton] at h; exact .inr ⟨hc.1,hc.2,h⟩
 ·exact .inl h

theorem urun_sound {sw:Bool} {S:List Int} {N:Nat} {n:Nat} {T:List (Tm × Tm)} {B B':Binds} {met:List (Int × Int)} {ok:Bool} (h:URun sw n T B met B' ok):UG S N T B→ok=true→∀ V:Tm × Tm→Prop,(∀ p,V p→GoodU B (fun q=>V q∨q∈T) p)→(∀ m∈met,V (vT m.1,vT m.2))→∃ V':Tm × Tm→Prop,(∀ p,V p→V' p)∧(∀ p∈T,V' p)∧∀ p,V' p→GoodU B' V' p:=by
 induction h with
 | done=>exact fun _ _ V hV _=>⟨V,fun _ h=>h,by simp,fun p hp=>(hV p hp).mono fun q hq=>by rcases hq with h | h; exact h; cases h⟩
 | skip hs h ih =>
  intro hU hok V hV hm
  rename_i n x y R B B' met ok
  obtain ⟨h1,h2,h3⟩:=skipU_mem hs
  have hxy:V (x,y):=by
   have:=hm _ h3
   rw [← fair_var (hU.fairt (x,y) (by simp)).1 h1,← fair_var (hU.fairt (x,y) (by simp)).2 h2] at this
   exact this
  obtain ⟨V',g1,g2,g3⟩:=ih hU.tail hok V (fun p hp=>(hV p hp).mono fun q hq=>by
   rcases hq with h | h
   ·exact .inl h
   ·rcases List.mem_cons.1 h with rfl | h
    ·exact .inl hxy
    ·exact .inr h) hm
  exact ⟨V',g1,fun p hp=>by
   rcases List.mem_cons.1 hp with rfl | h
   ·exact g1 _ hxy
   ·exact g2 p h,g3⟩
 | same hs hv h ih =>
  intro hU hok V hV hm
  rename_i n x y R B B' met ok
  obtain ⟨V',g1,g2,g3⟩:=ih hU.tail hok (fun q=>V q∨q=(x,y)) (fun p hp=>by
   rcases hp with hp | rfl
   ·exact (hV p hp).mono fun q hq=>by
     rcases hq with h | h
     ·exact .inl (.inl h)
     ·rcases List.mem_cons.1 h with rfl | h
      ·exact .inl (.inr rfl)
      ·exact .inr h
   ·refine .inl ?_
    simp only
    rw [fair_var hU.walk1.fair hv.1,fair_var hU.walk2.fair hv.2.1,hv.2.2]) (fun m hmm=>by
   rcases metU_mem hmm with h | ⟨k1,k2,rfl⟩
   ·exact .inl (hm m h)
   ·refine .inr ?_
    simp only
    rw [← fair_var (hU.fairt (x,y) (by simp)).1 k1,← fair_var (hU.fairt (x,y) (by simp)).2 k2])
  exact ⟨V',fun p hp=>g1 p (.inl hp),fun p hp=>by
   rcases List.mem_cons.1 hp with rfl | h
   ·exact g1 _ (.inr rfl)
   ·exact g2 p h,g3⟩
 | occ=>exact fun _ h=>(by cases h)
 | clash=>exact fun _ h=>(by cases h)
 | bind hs hv hp hk hw h ih =>
  intro hU hok V hV hm
  rename_i n x y u w R B B' met ok
  obtain ⟨hu,hw1,hne⟩:=hU.pick hv hp hk
  have hend:w.k=1→findB B w.n=none∧w.n≠u.n:=fun h=>⟨hw1.nd h,hne h⟩
  obtain ⟨V',g1,g2,g3⟩:=ih (hU.bind hv hp hk hw) hok (fun q=>V q∨q=(x,y)) (fun p hp1=>by
   rcases hp1 with hp1 | rfl
   ·refine ((hV p hp1).more hU.chain hend).mono fun q hq=>?_
    rcases hq with h | h
    ·exact .inl (.inl h)
    ·rcases List.mem_cons.1 h with rfl | h
     ·exact .inl (.inr rfl)
     ·exact .inr h
   ·refine .inl ?_
    simp only
    rw [walkB_more hU.chain hend,walkB_more hU.chain hend]
    rcases pickU_or hp with ⟨rfl,rfl⟩ | ⟨rfl,rfl,_⟩
    ·rw [if_pos ⟨hk,rfl⟩,if_neg (fun e=>hne e.1 e.2)]
    ·rw [if_pos (⟨hk,rfl⟩:(walkB B y).k=1∧(walkB B y).n=(walkB B y).n),if_neg (fun e=>hne e.1 e.2)]) (fun m hmm=>by
   rcases metU_mem hmm with h | ⟨k1,k2,rfl⟩
   ·exact .inl (hm m h)
   ·refine .inr ?_
    simp only
    rw [← fair_var (hU.fairt (x,y) (by simp)).1 k1,← fair_var (hU.fairt (x,y) (by simp)).2 k2])
  exact ⟨V',fun p hp=>g1 p (.inl hp),fun p hp=>by
   rcases List.mem_cons.1 hp with rfl | h
   ·exact g1 _ (.inr rfl)
   ·exact g2 p h,g3⟩
 | args hs hx hy hc h ih =>
  intro hU hok V hV hm
  rename_i n x y R B B' met ok
  obtain ⟨e1,e2,e3,e4⟩:=clash_no hc
  obtain ⟨V',g1,g2,g3⟩:=ih (hU.args hx hy) hok (fun q=>V q∨q=(x,y)) (fun p hp1=>by
   rcases hp1 with hp1 | rfl
   ·refine (hV p hp1).mono fun q hq=>?_
    rcases hq with h | h
    ·exact .inl (.inl h)
    ·rcases List.mem_cons.1 h with rfl | h
     ·exact .inl (.inr rfl)
     ·exact .inr (List.mem_append.2 (.inr h))
   ·exact .inr ⟨hx,hy,e1,e2,e3,e4,fun q hq=>.inr (List.mem_append.2 (.inl (ordU_mem.2 hq)))⟩) (fun m hmm=>by
   rcases metU_mem hmm with h | ⟨k1,k2,rfl⟩
   ·exact .inl (hm m h)
   ·refine .inr ?_
    simp only
    rw [← fair_var (hU.fairt (x,y) (by simp)).1 k1,← fair_var (hU.fairt (x,y) (by simp)).2 k2])
  exact ⟨V',fun p hp=>g1 p (.inl hp),fun p hp=>by
   rcases List.mem_cons.1 hp with rfl | h
   ·exact g1 _ (.inr rfl)
   ·exact g2 p (List.mem_append.2 (.inr h)),g3⟩

theorem sol_zip {σ:Int→Tm}:∀ (l m:List Tm),l.length=m.length→(∀ q∈l.zip m,putF σ q.1=putF σ q.2)→putFL σ l=putFL σ m
 | [],[],_,_=>rfl
 | [],_::_,h,_=>by simp at h
 | _::_,[],h,_=>by simp at h
 | a::l,b::m,h,hq=>by
  simp only [putFL,List.cons.injEq]
  exact ⟨hq (a,b) (by simp),sol_zip l m (by simpa using h) fun q h=>hq q (by simp [h])⟩

theorem kid_putsize {σ:Int→Tm} {x z:Tm} (hx:x.k≠1) (hz:z∈x.l):size (putF σ z)<size (putF σ x):=by
 rw [putF_fun hx]
 simp only [size]
 have:∀ l:List Tm,z∈l→size (putF σ z)≤sizeL (putFL σ l):=fun l=>by
  induction l with
  | nil=>intro h; cases h
  | cons a l ih =>
   intro h
   simp only [putFL,sizeL]
   rcases List.mem_cons.1 h with rfl | h
   ·omega
   ·have:=ih h; omega
 have:=this x.l hz
 omega

theorem good_sol {σ:Int→Tm} {B:Binds} (hs:solB σ B) {V:Tm × Tm→Prop} (hV:∀ p,V p→GoodU B V p):∀ (c:Nat) (p:Tm × Tm),V p→size (putF σ p.1)≤c→putF σ p.1=putF σ p.2:=by
 intro c
 induction c with
 | zero=>intro p _ h; have:=size_pos (putF σ p.1); omega
 | succ c ih =>
  intro p hp h
  rw [← walk_sol hs (B.length+1) p.1,← walk_sol hs (B.length+1) p.2]
  rw [← walk_sol hs (B.length+1) p.1] at h
  change size (putF σ (walkB B p.1))≤_ at h
  show putF σ (walkB B p.1)=putF σ (walkB B p.2)
  rcases hV p hp with e | ⟨h1,h2,h3,h4,h5,h6,h7⟩
  ·rw [e]
  ·rw [putF_fun h1,putF_fun h2,h3,h4,h5,sol_zip _ _ h6 fun q hq=>ih q (h7 q hq) (by
    have:=kid_putsize (σ:=σ) h1 (List.of_mem_zip hq).1
    omega)]

theorem unify_main (sw:Bool) {S:List Int} {N:Nat} {a b:Tm} {B:Binds} (hU:UG S N [(a,b)] B):∃ n B' ok,URun sw n [(a,b)] B [] B' ok∧UG S N [] B'∧(∃ X,B'=B++X)∧(ok=true→∀ σ,solB σ B'↔solB σ B∧putF σ a=putF σ b)∧(ok=false→∀ σ,solB σ B→putF σ a≠putF σ b):=by
 obtain ⟨σ0,h0⟩:=hU.sol
 obtain ⟨n,B',ok,h⟩:=urun_ends sw (unbU S B) (sumS σ0 [(a,b)]) σ0 [(a,b)] B [] hU (Nat.le_refl _) h0 (Nat.le_refl _)
 obtain ⟨g1,X,g2⟩:=urun_good h hU
 refine ⟨n,B',ok,h,g1,⟨X,g2⟩,fun hok σ=>⟨fun hs=>?_,fun ⟨hs,he⟩=>?_⟩,fun hok σ hs he=>?_⟩
 ·obtain ⟨V',_,v2,v3⟩:=urun_sound h hU hok (fun _=>False) (fun p hp=>hp.elim) (fun m hm=>by cases hm)
  refine ⟨fun b hb=>hs b (by rw [g2]; simp [hb]),good_sol hs v3 _ (a,b) (v2 _ (by simp)) (Nat.le_refl _)⟩
 ·exact (urun_finds h hU hs (fun p hp=>by simp at hp; subst hp; exact he)).2
 ·have:=(urun_finds h hU hs (fun p hp=>by simp at hp; subst hp; exact he)).1
  rw [hok] at this; cases this
end Tm
end PSL

namespace PSL
open Go

theorem rightS_of {B:Binds} {M:Nat} (hS:Sub B M) (hn:(B.map (·.1)).Nodup) (hb:∀ b∈B,0≤b.1∧b.1<1000000∧b.2.rightB=true):rightS B=true:=by
 rw [← rightR_eq]
 unfold rightR
 rw [Bool.and_eq_true,List.all_eq_true,List.all_eq_true]
 constructor
 ·intro i hi
  have hil:i<B.length:=by simpa using hi
  have e1:B[i]? = some (B[i]'hil):=List.getElem?_eq_getElem _
  have h1:=hb _ (List.mem_of_getElem? e1)
  have h3:=nodup_place.1 hn i _ e1
  rw [okAt,e1]
  simp [h1.1,h1.2.1,h1.2.2,h3]
 ·intro i hi
  cases hw:warsh (edge (adjB B)) B.length i i with
  | false=>rfl
  | true=>exact absurd (hS.okn i (by simpa using hi)) (okn_round (warsh_way _ _ _ _ hw))
namespace Tm
end Tm

theorem nodup_le {α:Type} [DecidableEq α]:∀ (l L:List α),l.Nodup→(∀ x∈l,x∈L)→l.length≤L.length
 | [],L,_,_=>Nat.zero_le _
 | x::l,L,hn,hs=>by
  obtain ⟨a,b,rfl⟩:=List.mem_iff_append.1 (hs x (by simp))
  simp only [List.nodup_cons] at hn
  have:=nodup_le l (a++b) hn.2 fun y hy=>by
   have:=hs y (by simp [hy])
   simp only [List.mem_append,List.mem_cons] at this ⊢
   rcases this with h | h | h
   ·exact .inl h
   ·subst h; exact absurd hy hn.1
   ·exact .inr h
  simp only [List.length_append,List.length_cons] at this ⊢
  omega
namespace Tm

theorem nodup_bound {B:Binds} {M:List Int} (hn:M.Nodup) (hb:∀ m∈M,findB B m≠none):M.length≤B.length:=by
 have:=nodup_le M (B.map (·.1)) hn fun m hm=>by
  cases hf:findB B m with
  | none=>exact absurd hf (hb m hm)
  | some x=>exact List.mem_map.2 ⟨_,findB_mem hf,rfl⟩
 simpa using this

def MetK (B:Binds) (M:List Int):Prop:=M.Nodup∧∀ m∈M,findB B m≠none
def lkKeep (B:Binds) (g:Int→List Int→Bool × List Int):Prop:=∀ n M,MetK B M→MetK B (g n M).2

mutual
theorem lkT_keep {B:Binds} {g:Int→List Int→Bool × List Int} (hg:lkKeep B g):∀ (t:Tm) (M:List Int),MetK B M→MetK B (lkT g t M).2
 | mk k s n l,M,h=>by
  simp only [lkT]
  split
  ·exact hg n M h
  ·exact lkTL_keep hg l M h
theorem lkTL_keep {B:Binds} {g:Int→List Int→Bool × List Int} (hg:lkKeep B g):∀ (l:List Tm) (M:List Int),MetK B M→MetK B (lkTL g l M).2
 | [],M,h=>h
 | x::r,M,h=>by
  simp only [lkTL]
  split
  ·exact lkT_keep hg x M h
  ·exact lkTL_keep hg r _ (lkT_keep hg x M h)
end

theorem lkF_keep (B:Binds) (v:Int):∀ u,lkKeep B (lkF B v u)
 | 0,n,M,h=>h
 | u+1,n,M,h=>by
  simp only [lkF]
  split
  ·exact h
  ·split
   ·exact h
   ·rename_i x hx
    split
    ·exact h
    ·rename_i hc
     have hc':n ∉ M:=by simpa using hc
     refine lkT_keep (lkF_keep B v u) x _ ⟨?_,fun m hm=>?_⟩
     ·rw [List.nodup_append]; exact ⟨h.1,by simp,fun a ha b hb=>by simp at hb; subst hb; exact fun e=>hc' (e ▸ ha)⟩
     ·rcases List.mem_append.1 hm with hm | hm
      ·exact h.2 m hm
      ·simp only [List.mem_singleton] at hm; subst hm; rw [hx]; simp
end Tm
namespace Tm
abbrev Met:=List (Int × Int)

def refUL (g:Binds→Tm→Tm→Met→Option (Binds × Met × Bool)):Binds→List (Tm × Tm)→Met→Option (Binds × Met × Bool)
 | l,[],met=>some (l,met,true)
 | l,(x,y)::r,met=>match g l x y met with
  | none=>none
  | some (l',met',true)=>refUL g l' r met'
  | some (_,met',false)=>some (l,met',false)

def refU:Nat→Binds→Tm→Tm→Met→Option (Binds × Met × Bool)
 | 0,_,_,_,_=>none
 | f+1,l,a,b,met =>
  if skipU a b met then some (l,met,true)
  else if (walkB l a).k=1∧(walkB l b).k=1∧(walkB l a).n=(walkB l b).n then some (l,metU a b met,true)
  else if (walkB l b).k=1 then some (l++[((walkB l b).n,walkB l a)],metU a b met,!withB l (walkB l b).n (walkB l a))
  else if (walkB l a).k=1 then some (l++[((walkB l a).n,walkB l b)],metU a b met,!withB l (walkB l a).n (walkB l b))
  else if clashB (walkB l a) (walkB l b) then some (l,metU a b met,false)
  else refUL (refU f) l ((walkB l a).l.zip (walkB l b).l) (metU a b met)

theorem refUL_mono {g g':Binds→Tm→Tm→Met→Option (Binds × Met × Bool)} (h:∀ l a b met r,g l a b met=some r→g' l a b met=some r):∀ (T:List (Tm × Tm)) (l:Binds) (met:Met) (r:Binds × Met × Bool),refUL g l T met=some r→refUL g' l T met=some r
 | [],l,met,r,hr=>hr
 | (x,y)::T,l,met,r,hr=>by
  simp only [refUL] at hr ⊢
  cases hg:g l x y met with
  | none=>rw [hg] at hr; cases hr
  | some q =>
   rw [hg] at hr
   rw [h _ _ _ _ _ hg]
   obtain ⟨l',met',ok⟩:=q
   cases ok with
   | true=>exact refUL_mono h T l' met' r hr
   | false=>exact hr

theorem refU_mono:∀ (f:Nat) (l:Binds) (a b:Tm) (met:Met) (r:Binds × Met × Bool),refU f l a b met=some r→refU (f+1) l a b met=some r
 | 0,l,a,b,met,r,h=>by cases h
 | f+1,l,a,b,met,r,h=>by
  unfold refU at h ⊢
  split at h
  ·rename_i hc; rw [if_pos hc]; exact h
  ·rename_i hc
   rw [if_neg hc]
   split at h
   ·rename_i hc; rw [if_pos hc]; exact h
   ·rename_i hc
    rw [if_neg hc]
    split at h
    ·rename_i hc; rw [if_pos hc]; exact h
    ·rename_i hc
     rw [if_neg hc]
     split at h
     ·rename_i hc; rw [if_pos hc]; exact h
     ·rename_i hc
      rw [if_neg hc]
      split at h
      ·rename_i hc; rw [if_pos hc]; exact h
      ·rename_i hc
       rw [if_neg hc]
       exact refUL_mono (refU_mono f) _ _ _ _ h

theorem urun_ref:∀ (n:Nat) (a b:Tm) (R:List (Tm × Tm)) (l B':Binds) (met:Met) (ok:Bool),URun true n ((a,b)::R) l met B' ok→∃ l1 met1 ok1,refU n l a b met=some (l1,met1,ok1)∧(ok1=false→ok=false)∧(ok1=true→∃ n1,n1<n∧URun true n1 R l1 met1 B' ok):=by
 intro n
 induction n using Nat.strongRecOn with
 | ind n ih =>
  intro a b R l B' met ok h
  cases h with
  | skip hs h=>exact ⟨l,met,true,by unfold refU; rw [if_pos hs],by simp,fun _=>⟨_,Nat.lt_succ_self _,h⟩⟩
  | same hs hv h=>unfold sameV at hv; exact ⟨l,metU a b met,true,by unfold refU; rw [if_neg (by rw [hs]; simp),if_pos hv],by simp,fun _=>⟨_,Nat.lt_succ_self _,h⟩⟩
  | occ hs hv hp hk hw =>
   rename_i m u w
   unfold sameV at hv
   refine ⟨l++[(u.n,w)],metU a b met,false,?_,by simp,by simp⟩
   unfold refU
   rw [if_neg (by rw [hs]; simp),if_neg hv]
   unfold pickU at hp
   by_cases hb:(walkB l b).k=1
   ·rw [if_pos (by simp [hb])] at hp
    cases hp
    rw [if_pos hb,hw]; rfl
   ·rw [if_neg (by simp [hb])] at hp
    cases hp
    rw [if_neg hb,if_pos hk,hw]; rfl
  | bind hs hv hp hk hw h =>
   rename_i m u w
   unfold sameV at hv
   refine ⟨l++[(u.n,w)],metU a b met,true,?_,by simp,fun _=>⟨_,Nat.lt_succ_self _,h⟩⟩
   unfold refU
   rw [if_neg (by rw [hs]; simp),if_neg hv]
   unfold pickU at hp
   by_cases hb:(walkB l b).k=1
   ·rw [if_pos (by simp [hb])] at hp
    cases hp
    rw [if_pos hb,hw]; rfl
   ·rw [if_neg (by simp [hb])] at hp
    cases hp
    rw [if_neg hb,if_pos hk,hw]; rfl
  | clash hs hx hy hc =>
   refine ⟨l,metU a b met,false,?_,by simp,by simp⟩
   unfold refU
   rw [if_neg (by rw [hs]; simp),if_neg (fun e=>hx e.1),if_neg hy,if_neg hx,if_pos hc]
  | args hs hx hy hc h =>
   rename_i m
   have key:∀ (T:List (Tm × Tm)) (k:Nat) (l2:Binds) (met2:Met),k<m+1→URun true k (T++R) l2 met2 B' ok→∃ l1 met1 ok1,refUL (refU m) l2 T met2=some (l1,met1,ok1)∧(ok1=false→ok=false)∧(ok1=true→∃ n1,n1<m+1∧URun true n1 R l1 met1 B' ok):=by
    intro T
    induction T with
    | nil=>exact fun k l2 met2 hk h=>⟨l2,met2,true,rfl,by simp,fun _=>⟨k,hk,h⟩⟩
    | cons p T ihT =>
     intro k l2 met2 hk h
     obtain ⟨x,y⟩:=p
     obtain ⟨l3,met3,ok3,g1,g2,g3⟩:=ih k hk x y (T++R) l2 B' met2 ok h
     have up:∀ d,refU (k+d) l2 x y met2=some (l3,met3,ok3):=fun d=>by
      induction d with
      | zero=>exact g1
      | succ d ihd=>exact refU_mono _ _ _ _ _ _ ihd
     have g1':refU m l2 x y met2=some (l3,met3,ok3):=by
      have:=up (m - k)
      rwa [show k+(m - k)=m by omega] at this
     cases ok3 with
     | false=>exact ⟨l2,met3,false,by simp only [refUL,g1'],fun _=>g2 rfl,by simp⟩
     | true =>
      obtain ⟨n1,h1,h2⟩:=g3 rfl
      obtain ⟨l1,met1,ok1,e1,e2,e3⟩:=ihT n1 l3 met3 (by omega) h2
      exact ⟨l1,met1,ok1,by simp only [refUL,g1']; exact e1,e2,e3⟩
   obtain ⟨l1,met1,ok1,e1,e2,e3⟩:=key _ m l (metU a b met) (Nat.lt_succ_self _) h
   refine ⟨l1,met1,ok1,?_,e2,e3⟩
   unfold refU
   rw [if_neg (by rw [hs]; simp),if_neg (fun e=>hx e.1),if_neg hy,if_neg hx,if_neg (by rw [hc]; simp)]
   exact e1
end Tm
end PSL

namespace PSL
open Go
namespace Tm

theorem UG.sub {S:List Int} {N:Nat} {T T':List (Tm × Tm)} {B:Binds} (h:UG S N T B) (hs:∀ p∈T',p∈T):UG S N T' B :=
 ⟨h.chain,h.fairb,fun p hp=>h.fairt p (hs p hp),fun p hp=>h.st p (hs p hp),h.sb,h.sol,h.vb,fun p hp=>h.vt p (hs p hp)⟩

def MetS (S:List Int) (met:Met):Prop:=met.Nodup∧∀ m∈met,m.1∈S∧m.2∈S
theorem MetS.nil (S:List Int):MetS S []:=⟨by simp,by simp⟩

theorem MetS.len {S:List Int} {met:Met} (h:MetS S met):met.length≤S.length * S.length:=by
 have h1:=nodup_le met (S.flatMap fun a=>S.map fun b=>(a,b)) h.1 fun m hm=>by
  obtain ⟨h1,h2⟩:=h.2 m hm
  exact List.mem_flatMap.2 ⟨m.1,h1,List.mem_map.2 ⟨m.2,h2,rfl⟩⟩
 have h2:∀ L:List Int,(L.flatMap fun a=>S.map fun b=>(a,b)).length=L.length * S.length:=fun L=>by
  induction L with
  | nil=>simp
  | cons a L ih=>rw [List.flatMap_cons,List.length_append,ih,List.length_map,List.length_cons,Nat.succ_mul]; omega
 rw [h2] at h1; exact h1

theorem MetS.more {S:List Int} {met:Met} (h:MetS S met) {a b:Tm} (hs:skipU a b met=false) (ha:∀ u∈occ a,u∈S) (hb:∀ u∈occ b,u∈S):MetS S (metU a b met):=by
 unfold metU
 split
 ·rename_i hc
  have hc':=hc
  simp only [Bool.and_eq_true,decide_eq_true_eq] at hc'
  have hn:(a.n,b.n) ∉ met:=by
   unfold skipU at hs
   rw [hc,Bool.true_and] at hs
   simpa using hs
  refine ⟨?_,fun m hm=>?_⟩
  ·rw [List.nodup_append]
   exact ⟨h.1,by simp,fun x hx y hy=>by simp at hy; subst hy; exact fun e=>hn (e ▸ hx)⟩
  ·rcases List.mem_append.1 hm with hm | hm
   ·exact h.2 m hm
   ·simp only [List.mem_singleton] at hm; subst hm
    exact ⟨ha _ (occ_var hc'.1),hb _ (occ_var hc'.2)⟩
 ·exact h

theorem refU_good {S:List Int} {N:Nat}:∀ (f:Nat) (l:Binds) (a b:Tm) (met:Met) (l':Binds) (met':Met),refU f l a b met=some (l',met',true)→∀ R,UG S N ((a,b)::R) l→MetS S met→UG S N R l'∧MetS S met'
 | 0,_,_,_,_,_,_,h=>by cases h
 | f+1,l,a,b,met,l',met',h=>by
  intro R hU hM
  unfold refU at h
  split at h
  ·cases h; exact ⟨hU.tail,hM⟩
  rename_i hs
  have hs':skipU a b met=false:=by simpa using hs
  have hM':=hM.more hs' (hU.vt (a,b) (by simp)).1 (hU.vt (a,b) (by simp)).2
  split at h
  ·cases h; exact ⟨hU.tail,hM'⟩
  rename_i hv
  split at h
  ·rename_i hb
   simp only [Option.some.injEq,Prod.mk.injEq,Bool.not_eq_true'] at h
   obtain ⟨rfl,rfl,hw⟩:=h
   exact ⟨hU.bind (sw:=true) hv (by unfold pickU; rw [if_pos (by simp [hb])]) hb hw,hM'⟩
  rename_i hb
  split at h
  ·rename_i ha
   simp only [Option.some.injEq,Prod.mk.injEq,Bool.not_eq_true'] at h
   obtain ⟨rfl,rfl,hw⟩:=h
   exact ⟨hU.bind (sw:=true) hv (by unfold pickU; rw [if_neg (by simp [hb])]) ha hw,hM'⟩
  rename_i ha
  split at h
  ·cases h
  have key:∀ (T:List (Tm × Tm)) (l2:Binds) (met2:Met),refUL (refU f) l2 T met2=some (l',met',true)→UG S N (T++R) l2→MetS S met2→UG S N R l'∧MetS S met':=by
   intro T
   induction T with
   | nil=>intro l2 met2 h hU hM; cases h; exact ⟨hU,hM⟩
   | cons p T ih =>
    obtain ⟨x,y⟩:=p
    intro l2 met2 h hU hM
    simp only [refUL] at h
    split at h
    ·cases h
    ·rename_i l3 met3 hq
     obtain ⟨h1,h2⟩:=refU_good f l2 x y met2 l3 met3 hq (T++R) hU hM
     exact ih l3 met3 h h1 h2
    ·cases h
  exact key _ l _ h (hU.args (sw:=true) ha hb) hM'
end Tm
end PSL

namespace PSL
open Go
namespace Tm

mutual
theorem put_depth {σ:Int→Tm} {D:Nat}:∀ (t:Tm),(∀ v∈occ t,depth (σ v)≤D)→depth (putF σ t)≤depth t+D
 | mk k s n l,h=>by
  simp only [putF]
  by_cases hk:k=1
  ·rw [if_pos hk]
   have:=h n (by simp [occ,hk])
   omega
  ·rw [if_neg hk]
   have:=putL_depth l fun v hv=>h v (by simp [occ,hk,hv])
   simp only [depth]
   omega
theorem putL_depth {σ:Int→Tm} {D:Nat}:∀ (l:List Tm),(∀ v∈occL l,depth (σ v)≤D)→depthL (putFL σ l)≤depthL l+D
 | [],_=>by simp [putFL,depthL]
 | t::r,h=>by
  have h1:=put_depth t fun v hv=>h v (by simp [occL,hv])
  have h2:=putL_depth r fun v hv=>h v (by simp [occL,hv])
  simp only [putFL,depthL]
  omega
end

theorem full_depth {B:Binds} {N:Nat} (h1:1≤N) (h:∀ b∈B,depth b.2≤N):∀ (M:Nat) (t:Tm),depth (fullS B M t)≤depth t+M * N
 | 0,t=>by simp [fullS]
 | M+1,t=>by
  simp only [fullS]
  refine put_depth t fun v _=>?_
  rw [Nat.succ_mul]
  split
  ·rename_i x hx
   have h2:=full_depth h1 h M x
   have h3:=h _ (findB_mem hx)
   simp only at h3
   omega
  ·simp only [vT,depth,depthL]; omega

theorem kid_depth {σ:Int→Tm} {t x:Tm} (hk:t.k≠1) (hx:x∈t.l):depth (putF σ x)+1≤depth (putF σ t):=by
 rw [putF_fun hk,depth]
 have:∀ l:List Tm,x∈l→depth (putF σ x)≤depthL (putFL σ l):=fun l=>by
  induction l with
  | nil=>intro h; cases h
  | cons a l ih =>
   intro h
   simp only [putFL,depthL]
   rcases List.mem_cons.1 h with rfl | h
   ·omega
   ·have:=ih h; omega
 have:=this t.l hx
 omega

structure UState (S:List Int) (N:Nat) (a0:Tm) (n:Nat) (T:List (Tm × Tm)) (B:Binds) (met:Met) (B':Binds) (ok:Bool):Prop where
 run:URun false n T.reverse B met B' ok
 ug:UG S N T B
 lev:∀ (i:Nat) (p:Tm × Tm),T[i]? = some p→∃ l,i≤N * l∧∀ σ,solB σ B→depth (putF σ p.1)+l≤depth (putF σ a0)
 fa:a0.fairR=true
 sa:a0.size≤N
section
variable {S:List Int} {N:Nat} {a0:Tm} {n:Nat} {R T:List (Tm × Tm)} {x y:Tm} {B B':Binds} {met:Met} {ok:Bool}

theorem UG.blen (h:UG S N T B):B.length≤S.length:=by
 have:=nodup_le (B.map (·.1)) S h.chain.nodup (fun v hv=>by
  obtain ⟨c,hc,rfl⟩:=List.mem_map.1 hv
  exact (h.vb c hc).1)
 simpa using this
theorem UG.perm (h:UG S N T B) {T':List (Tm × Tm)} (hs:∀ p,p∈T'→p∈T):UG S N T' B:=h.sub hs

theorem UState.len (h:UState S N a0 n T B met B' ok):T.length≤N * (N+S.length * N)+1:=by
 obtain ⟨σ,hs⟩:=h.ug.sol
 have hS:=sub_sol hs h.ug.chain h.ug.fairb
 have hv:=sub_solV hS h.ug.chain
 have h1:1≤N:=by have:=size_pos a0; have:=h.sa; omega
 rcases List.eq_nil_or_concat T with rfl | ⟨R,p,rfl⟩
 ·simp
 obtain ⟨l,g1,g2⟩:=h.lev R.length p (by simp)
 have g3:=g2 _ hv
 rw [sub_putV hS h.fa] at g3
 have g4:=full_depth h1 (B:=B) (fun b hb=>Nat.le_trans (depth_le_size _) (h.ug.sb b hb)) B.length a0
 have g5:=depth_le_size a0
 have g6:=h.sa
 have g7:B.length * N≤S.length * N:=Nat.mul_le_mul_right _ h.ug.blen
 have g8:N * l≤N * (N+S.length * N):=Nat.mul_le_mul_left _ (by omega)
 simp only [List.concat_eq_append,List.length_append,List.length_singleton]
 omega

theorem UState.nil (h:UState S N a0 n [] B met B' ok):B'=B∧ok=true:=by
 have:=h.run
 simp only [List.reverse_nil] at this
 cases this
 exact ⟨rfl,rfl⟩

theorem UState.pos (h:UState S N a0 n (R++[(x,y)]) B met B' ok):∃ m,n=m+1:=by
 have:=h.run
 rw [List.reverse_append] at this
 cases this <;> exact ⟨_,rfl⟩

theorem UState.first (ha:a0.fairR=true) (hs:a0.size≤N) {b0:Tm} (h:URun false n [(a0,b0)] B [] B' ok) (hU:UG S N [(a0,b0)] B):UState S N a0 n [(a0,b0)] B [] B' ok :=
 ⟨h,hU,fun i p hp=>by
  cases i with
  | zero=>simp at hp; subst hp; exact ⟨0,Nat.zero_le _,fun σ _=>Nat.le_refl _⟩
  | succ i=>simp at hp,ha,hs⟩

theorem lev_tail (h:UState S N a0 n (R++[(x,y)]) B met B' ok):∀ (i:Nat) (p:Tm × Tm),R[i]? = some p→∃ l,i≤N * l∧∀ σ,solB σ B→depth (putF σ p.1)+l≤depth (putF σ a0):=fun i p hp =>
 h.lev i p (by rw [List.getElem?_append_left (List.getElem?_eq_some_iff.1 hp).1]; exact hp)

theorem UState.skip (h:UState S N a0 (n+1) (R++[(x,y)]) B met B' ok) (hs:skipU x y met=true):UState S N a0 n R B met B' ok:=by
 have hr:=h.run
 rw [List.reverse_append] at hr
 have ht:=lev_tail h
 have hg:=h.ug.perm (T':=R) (by simp +contextual)
 cases hr with
 | skip _ h1=>exact ⟨h1,hg,ht,h.fa,h.sa⟩
 | same h1=>rw [hs] at h1; cases h1
 | occ h1=>rw [hs] at h1; cases h1
 | bind h1=>rw [hs] at h1; cases h1
 | clash h1=>rw [hs] at h1; cases h1
 | args h1=>rw [hs] at h1; cases h1

theorem UState.step (h:UState S N a0 (n+1) (R++[(x,y)]) B met B' ok) (hs:skipU x y met=false) :
  ((walkB B x).k=1→findB B (walkB B x).n=none)∧((walkB B y).k=1→findB B (walkB B y).n=none)∧(walkB B x).size≤N∧(walkB B y).size≤N ∧
  ((walkB B x).k=1∧(walkB B y).k=1∧(walkB B x).n=(walkB B y).n→UState S N a0 n R B (metU x y met) B' ok) ∧
  (¬ ((walkB B x).k=1∧(walkB B y).k=1∧(walkB B x).n=(walkB B y).n) →
   ((walkB B x).k=1→(withB B (walkB B x).n (walkB B y)=true→B'=B∧ok=false)∧(withB B (walkB B x).n (walkB B y)=false→UState S N a0 n R (B++[((walkB B x).n,walkB B y)]) (metU x y met) B' ok)) ∧
   (¬ (walkB B x).k=1→((walkB B y).k=1→(withB B (walkB B y).n (walkB B x)=true→B'=B∧ok=false)∧(withB B (walkB B y).n (walkB B x)=false→UState S N a0 n R (B++[((walkB B y).n,walkB B x)]) (metU x y met) B' ok)) ∧
    (¬ (walkB B y).k=1→(clashB (walkB B x) (walkB B y)=true→B'=B∧ok=false)∧(clashB (walkB B x) (walkB B y)=false→UState S N a0 n (R++(walkB B x).l.zip (walkB B y).l) B (metU x y met) B' ok)))):=by
 have hr:=h.run
 rw [List.reverse_append] at hr
 have ht:=lev_tail h
 have hU:UG S N ((x,y)::R) B:=h.ug.perm (by simp +contextual [or_comm])
 have hlast:=h.lev R.length (x,y) (by simp)
 have h1:=hU.walk1
 have h2:=hU.walk2
 have wx:∀ σ,solB σ B→putF σ (walkB B x)=putF σ x:=fun σ hσ=>walk_sol hσ _ x
 have hargs:=fun hx hy=>hU.args (sw:=true) hx hy
 have hbind:=fun (u w:Tm) hv hp hk hw=>hU.bind (sw:=false) (u:=u) (w:=w) hv hp hk hw
 have tmono:∀ B1:Binds,(∃ X,B1=B++X)→∀ (i:Nat) (p:Tm × Tm),R[i]? = some p→∃ l,i≤N * l∧∀ σ,solB σ B1→depth (putF σ p.1)+l≤depth (putF σ a0):=fun B1 ⟨X,hX⟩ i p hp=>by
  obtain ⟨l,g1,g2⟩:=ht i p hp
  exact ⟨l,g1,fun σ hσ=>g2 σ fun b hb=>hσ b (by rw [hX]; simp [hb])⟩
 have targs:(walkB B x).k≠1→∀ (i:Nat) (p:Tm × Tm),(R++(walkB B x).l.zip (walkB B y).l)[i]? = some p→∃ l,i≤N * l∧∀ σ,solB σ B→depth (putF σ p.1)+l≤depth (putF σ a0):=fun hx i p hp=>by
  by_cases hi:i<R.length
  ·rw [List.getElem?_append_left hi] at hp; exact ht i p hp
  ·rw [List.getElem?_append_right (by omega)] at hp
   obtain ⟨l,g1,g2⟩:=hlast
   have hil:=(List.getElem?_eq_some_iff.1 hp).1
   rw [List.length_zip] at hil
   have hll:=length_le_sizeL (walkB B x).l
   have hsz:=size_eq (walkB B x)
   have hz:=h1.size
   refine ⟨l+1,by rw [Nat.mul_succ]; omega,fun σ hσ=>?_⟩
   have g3:=g2 σ hσ
   simp only at g3
   rw [← wx σ hσ] at g3
   have g4:=kid_depth (σ:=σ) hx (List.of_mem_zip (List.mem_of_getElem? hp)).1
   omega
 clear wx
 generalize hwx:walkB B x=x' at *
 generalize hwy:walkB B y=y' at *
 have hR0:UG S N R B:=hU.tail
 refine ⟨h1.nd,h2.nd,h1.size,h2.size,fun hv=>?_,fun hv=>⟨fun hk=>?_,fun hkx=>⟨fun hk=>?_,fun hky=>?_⟩⟩⟩
 ·cases hr with
  | skip g=>rw [hs] at g; cases g
  | same _ _ g=>exact ⟨g,hR0,ht,h.fa,h.sa⟩
  | occ _ g=>rw [hwx,hwy] at g; exact absurd hv g
  | bind _ g=>rw [hwx,hwy] at g; exact absurd hv g
  | clash _ g=>rw [hwx] at g; exact absurd hv.1 g
  | args _ g=>rw [hwx] at g; exact absurd hv.1 g
 ·have hp:pickU false x' y'=(x',y'):=by unfold pickU; rw [if_neg (by simp [hk])]
  cases hr with
  | skip g=>rw [hs] at g; cases g
  | same _ g=>rw [hwx,hwy] at g; exact absurd g hv
  | occ _ _ g _ gw =>
   rw [hwx,hwy,hp] at g; cases g
   exact ⟨fun _=>⟨rfl,rfl⟩,fun e=>by rw [gw] at e; cases e⟩
  | bind _ _ g _ gw gr =>
   rw [hwx,hwy,hp] at g; cases g
   exact ⟨fun e=>(by rw [gw] at e; cases e),fun e=>⟨gr,hbind _ _ hv hp hk gw,tmono _ ⟨_,rfl⟩,h.fa,h.sa⟩⟩
  | clash _ g=>rw [hwx] at g; exact absurd hk g
  | args _ g=>rw [hwx] at g; exact absurd hk g
 ·have hp:pickU false x' y'=(y',x'):=by unfold pickU; rw [if_pos (by simp [hk,hkx])]
  cases hr with
  | skip g=>rw [hs] at g; cases g
  | same _ g=>rw [hwx,hwy] at g; exact absurd g hv
  | occ _ _ g _ gw =>
   rw [hwx,hwy,hp] at g; cases g
   exact ⟨fun _=>⟨rfl,rfl⟩,fun e=>by rw [gw] at e; cases e⟩
  | bind _ _ g _ gw gr =>
   rw [hwx,hwy,hp] at g; cases g
   exact ⟨fun e=>(by rw [gw] at e; cases e),fun e=>⟨gr,hbind _ _ hv hp hk gw,tmono _ ⟨_,rfl⟩,h.fa,h.sa⟩⟩
  | clash _ _ g=>rw [hwy] at g; exact absurd hk g
  | args _ _ g=>rw [hwy] at g; exact absurd hk g
 ·have hp:pickU false x' y'=(x',y'):=by unfold pickU; rw [if_neg (by simp [hky])]
  cases hr with
  | skip g=>rw [hs] at g; cases g
  | same _ g=>rw [hwx,hwy] at g; exact absurd g hv
  | occ _ _ g gk=>rw [hwx,hwy,hp] at g; cases g; exact absurd gk hkx
  | bind _ _ g gk=>rw [hwx,hwy,hp] at g; cases g; exact absurd gk hkx
  | clash _ _ _ g =>
   rw [hwx,hwy] at g
   exact ⟨fun _=>⟨rfl,rfl⟩,fun e=>by rw [g] at e; cases e⟩
  | args _ _ _ g gr =>
   rw [hwx,hwy] at g gr
   refine ⟨fun e=>(by rw [g] at e; cases e),fun _=>⟨?_,(hargs hkx hky).perm fun p hp=>?_,targs hkx,h.fa,h.sa⟩⟩
   ·rw [List.reverse_append]; exact gr
   ·rcases List.mem_append.1 hp with hp | hp
    ·exact List.mem_append.2 (.inr hp)
    ·exact List.mem_append.2 (.inl (ordU_mem.2 hp))
end
end Tm
end PSL

namespace PSL
open Go
namespace Tm

structure NeedI (B:Binds) (W:List Int) (R:List Int) (Q:Binds):Prop where
 nodup:(Q.map (·.1)).Nodup
 look:∀ b∈Q,findB B b.1=some b.2
 all:∀ v,(v∈W∨∃ b∈Q,v∈occ b.2)→findB B v=none∨v∈Q.map (·.1)∨v∈R

theorem NeedI.first (B:Binds) (W:List Int):NeedI B W W []:=⟨by simp,by simp,fun v h=>by
 rcases h with h | ⟨b,hb,_⟩
 ·exact .inr (.inr h)
 ·cases hb⟩

theorem NeedI.skip {B:Binds} {W R:List Int} {Q:Binds} {v:Int} (h:NeedI B W (v::R) Q) (hv:findB B v=none∨v∈Q.map (·.1)):NeedI B W R Q:=⟨h.nodup,h.look,fun u hu=>by
 rcases h.all u hu with h1 | h1 | h1
 ·exact .inl h1
 ·exact .inr (.inl h1)
 ·rcases List.mem_cons.1 h1 with rfl | h1
  ·rcases hv with hv | hv
   ·exact .inl hv
   ·exact .inr (.inl hv)
  ·exact .inr (.inr h1)⟩

theorem NeedI.more {B:Binds} (hB:∀ b∈B,b.2.fairR=true) {W R:List Int} {Q:Binds} {v:Int} {x:Tm} (h:NeedI B W (v::R) Q) (hx:findB B v=some x) (hv:v ∉ Q.map (·.1)):NeedI B W (R++varsT [x]) (Q++[(v,x)]):=by
 have hf:fairRL [x]=true:=fairRL_iff.2 fun t ht=>by
  rw [List.mem_singleton] at ht; subst ht; exact hB _ (findB_mem hx)
 refine ⟨?_,fun b hb=>?_,fun u hu=>?_⟩
 ·rw [List.map_append,List.nodup_append]
  refine ⟨h.nodup,by simp,fun a ha b hb=>?_⟩
  simp only [List.map_cons,List.map_nil,List.mem_singleton] at hb
  subst hb
  exact fun e=>hv (e ▸ ha)
 ·rcases List.mem_append.1 hb with hb | hb
  ·exact h.look b hb
  ·rw [List.mem_singleton] at hb; subst hb; exact hx
 ·have key:(u∈W∨∃ b∈Q,u∈occ b.2)∨u∈occ x:=by
   rcases hu with hu | ⟨b,hb,hu⟩
   ·exact .inl (.inl hu)
   ·rcases List.mem_append.1 hb with hb | hb
    ·exact .inl (.inr ⟨b,hb,hu⟩)
    ·rw [List.mem_singleton] at hb; subst hb; exact .inr hu
  rcases key with hu | hu
  ·rcases h.all u hu with h1 | h1 | h1
   ·exact .inl h1
   ·exact .inr (.inl (by rw [List.map_append]; exact List.mem_append.2 (.inl h1)))
   ·rcases List.mem_cons.1 h1 with rfl | h1
    ·exact .inr (.inl (by rw [List.map_append]; exact List.mem_append.2 (.inr (by simp))))
    ·exact .inr (.inr (List.mem_append.2 (.inl h1)))
  ·refine .inr (.inr (List.mem_append.2 (.inr ((varsT_mem hf).2 ?_))))
   simpa [occL] using hu
theorem UG.sub_ {S:List Int} {N:Nat} {T:List (Tm × Tm)} {B:Binds} (h:UG S N T B):Sub B B.length:=h.sol.elim fun _ hs=>sub_sol hs h.chain h.fairb

theorem UG.right {S:List Int} {N:Nat} (hN:N≤100) {T:List (Tm × Tm)} {B:Binds} (h:UG S N T B):rightS B=true:=by
 refine rightS_of h.sub_ h.chain.nodup fun b hb=>?_
 obtain ⟨h1,h2,h3⟩:=h.fairb b hb
 have h4:=h.sb b hb
 have h5:=Tm.depth_le_size b.2
 exact ⟨h2,h3,Tm.rightB_iff.2 ⟨h1,by omega,by omega⟩⟩
end Tm
end PSL

namespace PSL
open Go
namespace Tm

theorem UG.nil (S:List Int) (N:Nat):UG S N [] [] :=
 ⟨chainB.nil,fun b hb=>(by cases hb),fun p hp=>(by cases hp),fun p hp=>(by cases hp),fun b hb=>(by cases hb),⟨vT,fun b hb=>(by cases hb)⟩,fun b hb=>(by cases hb),fun p hp=>(by cases hp)⟩

theorem UG.pair {S:List Int} {N:Nat} {B:Binds} (h:UG S N [] B) {a b:Tm} (ha:a.rightB=true) (hb:b.rightB=true) (sa:a.size≤N) (sb:b.size≤N) (oa:∀ v∈occ a,v∈S) (ob:∀ v∈occ b,v∈S):UG S N [(a,b)] B :=
 ⟨h.chain,h.fairb,fun p hp=>(by rw [List.mem_singleton] at hp; subst hp; exact ⟨right_fair ha,right_fair hb⟩),fun p hp=>(by rw [List.mem_singleton] at hp; subst hp; exact ⟨sa,sb⟩),h.sb,h.sol,h.vb,fun p hp=>(by rw [List.mem_singleton] at hp; subst hp; exact ⟨oa,ob⟩)⟩
end Tm
end PSL

namespace PSL
open Go
namespace Tm

mutual
theorem occ_len:∀ t:Tm,(occ t).length≤size t
 | mk k s n l=>by
  have:=occL_len l
  simp only [occ,size]
  split
  ·simp
  ·omega
theorem occL_len:∀ l:List Tm,(occL l).length≤sizeL l
 | []=>by simp [occL]
 | t::l=>by
  have h1:=occ_len t
  have h2:=occL_len l
  simp only [occL,sizeL,List.length_append]
  omega
end
end Tm
end PSL

namespace PSL
open Go
end PSL
namespace PSL
open Go
section
variable {ty:Nat→Option Ty} {T B:Nat} {n:Nat} {τ:Ty} {row:List D} {a:AV}
end
end PSL

namespace PSL
open Go
def fitK (k:Ky) (t:Tm):Bool:=if (t.k≠2∧t.k≠3)∨(k.kind≠2∧k.kind≠3) then true else (k.kind==(keyT t).kind)&&(k.n==(keyT t).n)&&strEq k.s (keyT t).s

theorem tm_depthL_mem {l:List Tm} {x:Tm} (h:x∈l):x.depth≤Tm.depthL l:=by
 induction l with
 | nil=>cases h
 | cons y r ih =>
  rw [Tm.depthL]
  rcases List.mem_cons.1 h with rfl | h
  ·omega
  ·have:=ih h; omega

theorem tm_sizeL_mem {l:List Tm} {x:Tm} (h:x∈l):x.size≤Tm.sizeL l:=by
 obtain ⟨i,hi,he⟩:=List.mem_iff_getElem.1 h
 have:=tm_sizeL_at (l:=l) (i:=i) (x:=x) (by rw [List.getElem?_eq_getElem hi,he])
 omega

theorem right_arg {t x:Tm} (h:t.rightB=true) (hx:x∈t.l):x.rightB=true:=by
 obtain ⟨h1,h2,h3⟩:=Tm.rightB_iff.1 h
 rw [Tm.fairR_eq] at h1
 simp only [Bool.and_eq_true] at h1
 have h4:=Tm.fairRL_iff.1 h1.1.2 x hx
 have h5:=Tm.size_eq t
 have h6:=tm_sizeL_mem hx
 have h7:=tm_depthL_mem hx
 have h8:t.depth=Tm.depthL t.l+1:=by cases t; rw [Tm.depth]; rfl
 exact Tm.rightB_iff.2 ⟨h4,by omega,by omega⟩

theorem occL_of {l:List Tm} {x:Tm} {v:Int} (hx:x∈l) (hv:v∈Tm.occ x):v∈Tm.occL l:=by
 induction l with
 | nil=>cases hx
 | cons y r ih =>
  rw [Tm.occL]
  rcases List.mem_cons.1 hx with rfl | hx
  ·exact List.mem_append_left _ hv
  ·exact List.mem_append_right _ (ih hx)

theorem occ_arg {t x:Tm} (hk:t.k≠1) (hx:x∈t.l) {v:Int} (hv:v∈Tm.occ x):v∈Tm.occ t:=by
 cases t with | mk k s n l =>
 have hk:k≠1:=hk
 have hx:x∈l:=hx
 rw [Tm.occ,if_neg hk]
 exact occL_of hx hv

theorem putF_no1 (σ:Int→Tm) (t:Tm) (h:t.k≠1):Tm.putF σ t=.mk t.k t.s t.n (Tm.putFL σ t.l):=by
 cases t with | mk k s n l =>
 have h:k≠1:=h
 rw [Tm.putF,if_neg h]; rfl

theorem key_fit {σ:Int→Tm} {g:Int→Int} {x t:Tm} (h:Tm.putF σ (Tm.turnT g x)=Tm.putF σ t):fitK (keyT x) t=true:=by
 unfold fitK
 split
 ·rfl
 rename_i hk
 have ht:t.k=2∨t.k=3:=by omega
 have hx:x.k=2∨x.k=3:=by
  by_cases h2:x.k=2
  ·exact .inl h2
  by_cases h3:x.k=3
  ·exact .inr h3
  exfalso
  apply hk
  right
  unfold keyT; rw [if_neg h2,if_neg h3]; exact ⟨by decide,by decide⟩
 have e1:Tm.turnT g x=.mk x.k x.s x.n (Tm.turnTL g x.l):=by rw [Tm.turnT_eq,if_neg (by omega)]
 rw [e1,putF_no1 _ _ (show (Tm.mk x.k x.s x.n (Tm.turnTL g x.l)).k≠1 by show x.k≠1; omega),putF_no1 _ t (by omega)] at h
 simp only [Tm.k,Tm.s,Tm.n,Tm.l,Tm.mk.injEq] at h
 obtain ⟨h1,h2,h3,h4⟩:=h
 have h5:=congrArg List.length h4
 rw [Tm.putFL_len,Tm.putFL_len,Tm.turnTL_map,List.length_map] at h5
 have h1:x.k=t.k:=h1
 have h2:x.s=t.s:=h2
 have h3:x.n=t.n:=h3
 have h5:x.l.length=t.l.length:=h5
 have hky:keyT x=keyT t:=by unfold keyT; rw [h1,h2,h3,h5]
 rw [hky]
 simp [Tm.strEq_iff.2 rfl]

theorem shF_small {v:Int} (h0:0≤v) (h1:v<1000):shF 1000 v=v+1000:=by
 unfold shF
 exact wrap_id (by omega) (by omega)
end PSL

namespace Go.Proofs.YtcgkgofmldhokaaGreat
open Go PSL Go.Proofs
def pfQry:Nat→Cls:=fun f=>bif Nat.beq f 4000200004 then .turn 101 else bif Nat.beq f 4000100081 then .look 102 else .eff
theorem vT_entQ (v:Int):Ent (.d (.sl [[.v (.int .i64 1),.v (.string ByteArray.empty),.v (.int .i64 v),.v (.slice none 0 0)]])) (.d (.sl [[.v (.int .i64 1),.v (.string ByteArray.empty),.v (.int .i64 v),.sl []]])):=fun _ _ _ _ h=>aLe_ok (by simp [aLe,dLe,rowLe,rowsLe,vLe,kEq,Tm.strEq_iff]) h

set_option maxHeartbeats 4000000 in
set_option maxRecDepth 100000 in
theorem query_ok (S0:Bs) (hS:S0.length≤9000) {x:Clau} {q:Int} (h:clauR rightT false S0=some ([x],q,0)) (hnc:noCh x.1=true) (p:List Cs) (hp:∀ c∈p,SmC c) (hpl:p.length≤1000000) (hck:(checkR p).2=0) (hg0:(goalsT x.1).2=0) (h8:x.2.length≤8) (hth:thereL (hasH p) (goalsT x.1).1=true) :
  PCtr Tryz.prog 30 [txA S0,prV p] (.tup [(qryC x).av,.d (.sl (strRows x.2)),iV 0,iV 0]):=by
 obtain ⟨_,f2,_,_⟩:=clau_facts hS h
 have hx:=(f2 rfl).2 x (by simp)
 have hs:=smT_right hx.right
 have h3:=(Tm.rightB_iff.1 hx.right).2.1
 have hc1:=check_ok p hp
 rw [hck] at hc1
 have hone:=oneT_ok9 S0 hS h
 rw [show oneR S0.length ([x],q,0)=(x,0,0) from rfl] at hone
 have hgo:=goals_ok x.1 hs hnc
 rw [hg0] at hgo
 have hsz:Gl.sizeL (goalsT x.1).1≤1000000:=by
  obtain ⟨_,g2,_⟩:=golF_ok x.1.size x.1 (20,0) 1 true hs
  unfold goalsT
  split
  ·split
   ·simp [Gl.sizeL]
   ·simp only; omega
  ·simp [Gl.sizeL]
 have hto:=theres_ok (goalsT x.1).1 p hsz hpl
 rw [hth] at hto
 have hrn:=strRows_len x.2
 unfold qryC
 generalize (goalsT x.1).1=B at *
 refine PCtr.of_R (pf:=pfQry) tyOk mixed Tryz.func30 rfl (by kernel_rfl) (by kernel_rfl) (by simp [Tryz.ntmps30]) fun w S hg=>?_
 refine R_run hg.ok 1000 rfl rfl ?_
 refine R_call hg.ok (hc1) rfl rfl rfl rfl rfl rfl ?_
 refine R_run hg.ok 1000 rfl rfl ?_
 refine R_if rfl rfl (fun h=>absurd h (by simp)) (fun _=>?_) <;> refine R_run hg.ok 1000 rfl rfl ?_
 refine R_call hg.ok (hone) rfl rfl rfl rfl rfl rfl ?_
 refine R_run hg.ok 1000 rfl rfl ?_
 refine R_if rfl rfl (fun h=>absurd h (by simp)) (fun _=>?_) <;> refine R_run hg.ok 1000 rfl rfl ?_
 refine R_call hg.ok (hgo) rfl rfl rfl rfl rfl rfl ?_
 refine R_run hg.ok 1000 rfl rfl ?_
 refine R_if rfl rfl (fun h=>absurd h (by simp)) (fun _=>?_) <;> refine R_run hg.ok 1000 rfl rfl ?_
 rw [hrn]
 refine R_if rfl rfl (fun h=>absurd (of_decide_eq_true h) (by omega)) (fun _=>?_) <;> refine R_run hg.ok 1000 rfl rfl ?_
 refine R_call hg.ok (hto) rfl rfl rfl rfl rfl rfl ?_
 refine R_run hg.ok 1000 rfl rfl ?_
 refine R_if rfl rfl (fun h=>absurd h (by simp)) (fun _=>?_) <;> refine R_run hg.ok 1000 rfl rfl ?_
 refine R_ownB 3 3 4 rfl rfl rfl ?_
 refine R_loop (fun y:Nat × Nat=>([(4,.lo 1 0),(10,.lo 2 0),(13,.lo 3 0),(66,iV x.2.length),(67,iV y.1)],[.box [.d (.sl (Cs.rows p))],.box [.d (.v (.int .i64 0)),.d (.v (.string ByteArray.empty)),.d (.v (.int .i64 0)),.d (.v (.slice none 0 0)),.d (.v (.slice none 0 0)),.d (.v (.int .i64 0))],clB x,.box [.d (.v (.int .i64 3)),.d (.v (.string (Tx [63]))),.d (.v (.int .i64 0)),.ow 4 y.2,.d (.sl (Gl.rows B)),.d (.v (.int .i64 x.2.length))],.arr 4 y.2 (Tm.rows (varL y.1))])) (fun y=>y.1≤x.2.length) (fun y=>x.2.length - y.1) (0,0) (Nat.zero_le _) ⟨.refl _,.refl _,.refl _,.refl _,.refl _,trivial⟩ rfl ?_
 rintro ⟨k,s⟩ hk
 have hk:k≤x.2.length:=hk
 refine R_run hg.ok 1000 rfl rfl ?_
 refine R_if rfl rfl (fun h=>?_) (fun h=>?_)
 ·refine R_run hg.ok 1000 rfl rfl ?_
  have hk1:k<x.2.length:=lt_dec h rfl
  refine R_see 75 rfl ((Ent.fs _).trans (vT_entQ (k:Int))) ?_
  refine R_appendO hg.ok (Tm.rows (varL (k+1))) rfl rfl rfl rfl rfl rfl rfl rfl rfl (by simp) (by simp [one1]) (by rw [← varL_snoc,Tm.rows_eq,Tm.rows_eq,List.map_append]; rfl) (by rw [Tm.rows_length,varL_len]; simp; omega) (by rw [Tm.rows_length,varL_len]; simp; omega) ?_
  refine R_run hg.ok 1000 rfl rfl ?_
  exact R_next (k+1,Nat.succ s) hk1 (by simp only; omega) ⟨.refl _,.refl _,.refl _,.refl _,Ent.wrap (by simp only; omega) (by simp only; omega) (by simp only; omega),trivial⟩ rfl
 ·have hk1:x.2.length≤k:=ge_dec h rfl
  have hke:k=x.2.length:=by omega
  subst hke
  refine R_freezeO hg.gup 4 [(4,.lo 1 0),(10,.lo 2 0),(13,.lo 3 0),(68,.ff)] [.box [.d (.sl (Cs.rows p))],.box [.d (.v (.int .i64 0)),.d (.v (.string ByteArray.empty)),.d (.v (.int .i64 0)),.d (.v (.slice none 0 0)),.d (.v (.slice none 0 0)),.d (.v (.int .i64 0))],clB x,.box [.d (.v (.int .i64 3)),.d (.v (.string (Tx [63]))),.d (.v (.int .i64 0)),.d (.sl (Tm.rows (varL x.2.length))),.d (.sl (Gl.rows B)),.d (.v (.int .i64 x.2.length))],.dead] rfl rfl ⟨.refl _,.refl _,.refl _,.refl _,trivial⟩ ⟨⟨.refl _,trivial⟩,⟨.refl _,.refl _,.refl _,.refl _,.refl _,.refl _,trivial⟩,⟨.refl _,.refl _,.refl _,.refl _,.refl _,trivial⟩,⟨.refl _,.refl _,.refl _,Ent.frz 4 s _,.refl _,.refl _,trivial⟩,trivial,trivial⟩ ?_
  refine R_run hg.ok 1000 rfl rfl ?_
  refine R_loadJ hg.ok 101 (by rintro (⟨h,_⟩ | h | ⟨h,_⟩) <;> omega) rfl rfl rfl rfl rfl rfl rfl ?_
  refine R_run hg.ok 1000 rfl rfl ?_
  refine R_storeJ hg.ok rfl rfl rfl rfl rfl rfl rfl rfl rfl ?_
  refine R_run hg.ok 1000 rfl rfl ?_
  refine R_ret hg 5 rfl rfl ?_
  rfl
end Go.Proofs.YtcgkgofmldhokaaGreat

namespace Go.Proofs.YtcgkgofmldhokaaGreat
open Go PSL Go.Proofs
end Go.Proofs.YtcgkgofmldhokaaGreat

namespace Go.Proofs.YtcgkgofmldhokaaGreat
open Go PSL Go.Proofs
end Go.Proofs.YtcgkgofmldhokaaGreat

namespace Go.Proofs.YtcgkgofmldhokaaGreat
open Go PSL Go.Proofs
def okT (ok:Bool) (t:Tm):Tm:=if ok then t else zeroT
end Go.Proofs.YtcgkgofmldhokaaGreat

namespace PSL
open Go Go.RowKit Go.MapKept
section
variable {g:G} {pf:Nat→Cls} {ops:Array Oper} {Fin:Exit→Act→World→Prop}
end
end PSL

namespace Go.Proofs.YtcgkgofmldhokaaGreat
open Go PSL Go.Proofs
theorem irows_snoc1 (l:List Int) (v:Int):irows l++[[.v (.int .i64 v)]]=irows (l++[v]):=by simp [irows,irow]
end Go.Proofs.YtcgkgofmldhokaaGreat

namespace Go.Proofs.YtcgkgofmldhokaaGreat
open Go PSL Go.Proofs
end Go.Proofs.YtcgkgofmldhokaaGreat

namespace Go.Proofs.YtcgkgofmldhokaaGreat
open Go PSL Go.Proofs
theorem rows_snoc (l:List Tm) (x:Tm):Tm.rows l++[[.v (.int .i64 x.k),.v (.string x.s),.v (.int .i64 x.n),.sl (Tm.rows x.l)]]=Tm.rows (l++[x]):=by simp [Tm.rows_eq,Tm.row]
end Go.Proofs.YtcgkgofmldhokaaGreat

namespace Go.Proofs.YtcgkgofmldhokaaGreat
open Go PSL Go.Proofs
end Go.Proofs.YtcgkgofmldhokaaGreat

namespace Go.Proofs.YtcgkgofmldhokaaGreat
open Go PSL Go.Proofs
end Go.Proofs.YtcgkgofmldhokaaGreat

namespace PSL
open Go Go.RowKit
section
variable {g:G} {pf:Nat→Cls} {ops:Array Oper} {Fin:Exit→Act→World→Prop}
end
end PSL

namespace Go.Proofs.YtcgkgofmldhokaaGreat
open Go PSL Go.Proofs
end Go.Proofs.YtcgkgofmldhokaaGreat

namespace Go.Proofs.YtcgkgofmldhokaaGreat
open Go PSL Go.Proofs
end Go.Proofs.YtcgkgofmldhokaaGreat

namespace Go.Proofs.YtcgkgofmldhokaaGreat
open Go PSL Go.Proofs

set_option maxRecDepth 100000 in
theorem place_ok (l:Binds) (v:Int) (hl:l.length<1000000000):PCtr Tryz.prog 108 [.d (.sl (bindRows l)),iV v] (iV (placeB l v)):=by
 refine PCtr.of_R (pf:=fun _=>.still) tyOk mixed Tryz.func108 rfl (by kernel_rfl) (by kernel_rfl) (by simp [Tryz.ntmps108]) fun w S hg=>?_
 refine R_run hg.ok 1000 rfl rfl ?_
 refine R_loop (fun k:Nat=>([(0,.d (.sl (bindRows l))),(1,iV v),(5,iV k)],[])) (fun k=>k≤l.length∧placeB l v=atI ((l.drop k).map (·.1)) v k) (fun k=>l.length - k) 0 ⟨Nat.zero_le _,rfl⟩ ⟨.refl _,.refl _,.refl _,trivial⟩ rfl ?_
 rintro k ⟨hk,hm⟩
 refine R_run hg.ok 1000 rfl rfl ?_
 refine R_if rfl rfl (fun h=>?_) (fun h=>?_) <;> refine R_run hg.ok 1000 rfl rfl ?_
 ·have hk1:k<l.length:=lt_dec h (by rw [bindRows_len])
  have e1:l[k]? = some l[k]:=List.getElem?_eq_getElem hk1
  rw [List.drop_eq_getElem_cons hk1,List.map_cons,atI] at hm
  refine R_index hg.ok rfl rfl rfl rfl rfl rfl (Int.natCast_nonneg k) (bindRows_get e1) rfl ?_
  refine R_run hg.ok 1000 rfl rfl ?_
  refine R_if rfl rfl (fun h=>?_) (fun h=>?_) <;> refine R_run hg.ok 1000 rfl rfl ?_
  ·refine R_ret hg 5 rfl rfl ?_
   rw [hm,if_pos (by simpa using h)]; rfl
  ·rw [if_neg (by simpa using h)] at hm
   exact R_next (k+1) ⟨hk1,hm⟩ (by omega) ⟨.refl _,.refl _,Ent.wrap (by omega) (by omega) (by omega),trivial⟩ rfl
 ·have hk1:l.length≤k:=ge_dec h (by rw [bindRows_len])
  refine R_ret hg 5 rfl rfl ?_
  rw [hm,List.drop_eq_nil_of_le hk1]; rfl
end Go.Proofs.YtcgkgofmldhokaaGreat

namespace Go.Proofs.YtcgkgofmldhokaaGreat
open Go PSL Go.Proofs
end Go.Proofs.YtcgkgofmldhokaaGreat

namespace Go.Proofs.YtcgkgofmldhokaaGreat
open Go PSL Go.Proofs
end Go.Proofs.YtcgkgofmldhokaaGreat

namespace Go.Proofs.YtcgkgofmldhokaaGreat
open Go PSL Go.Proofs
end Go.Proofs.YtcgkgofmldhokaaGreat

namespace Go.Proofs.YtcgkgofmldhokaaGreat
open Go PSL Go.Proofs
end Go.Proofs.YtcgkgofmldhokaaGreat

namespace Go.Proofs.YtcgkgofmldhokaaGreat
open Go PSL Go.Proofs
end Go.Proofs.YtcgkgofmldhokaaGreat

namespace Go.Proofs.YtcgkgofmldhokaaGreat
open Go PSL Go.Proofs
end Go.Proofs.YtcgkgofmldhokaaGreat

namespace Go.Proofs.YtcgkgofmldhokaaGreat
open Go PSL Go.Proofs
end Go.Proofs.YtcgkgofmldhokaaGreat

namespace Go.Proofs.YtcgkgofmldhokaaGreat
open Go PSL Go.Proofs
end Go.Proofs.YtcgkgofmldhokaaGreat

namespace Go.Proofs.YtcgkgofmldhokaaGreat
open Go PSL Go.Proofs
end Go.Proofs.YtcgkgofmldhokaaGreat

namespace Go.Proofs.YtcgkgofmldhokaaGreat
open Go PSL Go.Proofs

set_option maxRecDepth 100000 in
theorem sm4_ok (l:List Tm) (hl:∀ t∈l,t.Ok) (hlen:l.length<4611686018427387904):PCtr Tryz.prog 15 [.d (.sl (Tm.rows l))] (bV (smallS l)):=by
 refine PCtr.of_R (pf:=fun _=>.still) tyOk mixed Tryz.func15 rfl (by kernel_rfl) (by kernel_rfl) (by simp [Tryz.ntmps15]) fun w S hg=>?_
 refine R_run hg.ok 1000 rfl rfl ?_
 refine R_loop (fun x:Nat × Int=>([(0,.d (.sl (Tm.rows l))),(3,iV x.2),(4,iV x.1)],[])) (fun x=>x.1≤l.length∧Tm.fewL l 60 200=Tm.fewL (l.drop x.1) x.2 200) (fun x=>l.length - x.1) (0,60) ⟨Nat.zero_le _,rfl⟩ ⟨.refl _,.refl _,.refl _,trivial⟩ rfl ?_
 rintro ⟨k,q⟩ ⟨hk,hm⟩
 simp only at hk hm
 refine R_run hg.ok 1000 rfl rfl ?_
 refine R_if rfl rfl (fun h=>?_) (fun h=>?_) <;> refine R_run hg.ok 1000 rfl rfl ?_
 ·have hk1:k<l.length:=lt_dec h (by rw [Tm.rows_length])
  have e1:l[k]? = some l[k]:=List.getElem?_eq_getElem hk1
  rw [List.drop_eq_getElem_cons hk1,Tm.fewL] at hm
  refine R_if rfl rfl (fun h2=>?_) (fun h2=>?_) <;> refine R_run hg.ok 1000 rfl rfl ?_
  ·rw [if_pos (of_decide_eq_true h2)] at hm
   refine R_index hg.ok rfl rfl rfl rfl rfl rfl (Int.natCast_nonneg _) (Tm.rows_get e1) rfl ?_
   refine R_run hg.ok 1000 rfl rfl ?_
   refine R_call hg.ok (few_ok _ (hl _ (List.getElem_mem hk1)) _ _) rfl rfl rfl rfl rfl rfl ?_
   refine R_run hg.ok 1000 rfl rfl ?_
   exact R_next (k+1,l[k].few q 200) ⟨hk1,hm⟩ (by simp only; omega) ⟨.refl _,.refl _,Ent.wrap (by simp only; omega) (by simp only; omega) (by simp only; omega),trivial⟩ rfl
  ·have h2:=of_decide_eq_false h2
   rw [if_neg h2] at hm
   refine R_ret hg 5 rfl rfl ?_
   unfold smallS
   rw [hm]; rfl
 ·have hk1:l.length≤k:=ge_dec h (by rw [Tm.rows_length])
  rw [List.drop_eq_nil_of_le hk1,Tm.fewL] at hm
  refine R_ret hg 5 rfl rfl ?_
  unfold smallS
  rw [hm]; rfl
end Go.Proofs.YtcgkgofmldhokaaGreat

namespace Go.Proofs.YtcgkgofmldhokaaGreat
open Go PSL Go.Proofs
end Go.Proofs.YtcgkgofmldhokaaGreat

namespace PSL
open Go Go.RowKit Go.MapKept
section
variable {g:G} {pf:Nat→Cls} {ops:Array Oper} {Fin:Exit→Act→World→Prop}
end

theorem RVs_nilE {S S':Nat→Prop} {w:World} {φ:List Phy} {sz:Nat} (hk:Keep S w S' w) (hφ:φ=[Phy.sli sz 0 (.slice none 0 0) none]):∀ {axs:List AV} {vs:List Value},pureL axs=true→RVs S w [] (axs++[.d (.v (.slice none 0 0))]) vs→RVs S' w φ (axs++[.ow 0 0]) vs
 | [],[],_,h=>by simp [RVs] at h
 | [],v::vs,_,h=>by
  simp only [List.nil_append,RVs,RV] at h ⊢
  obtain ⟨h1,h2⟩:=h
  cases h1
  refine ⟨⟨⟨none,0,0,rfl⟩,_,by rw [hφ]; rfl,fun sz' s' x' ob' he=>?_⟩,?_⟩
  ·cases he; exact ⟨Nat.le_refl _,fun _=>rfl⟩
  ·cases vs with
   | nil=>simp [RVs]
   | cons v vs=>simp [RVs] at h2
 | a::axs,[],_,h=>by simp [RVs] at h
 | a::axs,v::vs,hp,h=>by
  simp only [pureL,Bool.and_eq_true] at hp
  simp only [List.cons_append,RVs] at h ⊢
  exact ⟨RV.pure hk hp.1 h.1,RVs_nilE hk hφ hp.2 h.2⟩

theorem SCtr.nilE {P:Program} {Y:YP} {f sz:Nat} {axs:List AV} {r y:AV} {objs1:List Ob} (h:SCtr P Y f (axs++[.ow 0 0]) [.arr sz 0 []] r objs1) (hp:pureL axs=true) (hy:sealA objs1 5 r=some y):PCtr P f (axs++[.d (.v (.slice none 0 0))]) y:=by
 refine ⟨h.call,fun S w vals ha hS hv=>?_⟩
 have hnb:∀ b,¬ bls [Phy.sli sz 0 (.slice none 0 0) none] b:=by
  rintro b ⟨i,p,h1,h2⟩
  cases i with
  | zero=>simp at h1; subst h1; simp [Phy.bl] at h2
  | succ i=>simp at h1
 have hHS:HS S [Phy.sli sz 0 (.slice none 0 0) none] [.arr sz 0 []] w:=by
  refine ⟨rfl,fun i ph ob h1 h2=>?_,fun i j p q b h1 h2 h3 h4=>absurd ⟨i,p,h1,h3⟩ (hnb b),fun b hb=>absurd hb (hnb b),hS⟩
  cases i with
  | zero=>simp at h1 h2; subst h1; subst h2; simp only [ObOk]; exact ⟨trivial,trivial,by simp,.inl ⟨none,rfl,trivial,trivial⟩⟩
  | succ i=>simp at h1
 have hk:Keep S w (SS S [Phy.sli sz 0 (.slice none 0 0) none]) w:=fun b hb _=>⟨⟨hb,hnb b⟩,rfl⟩
 have hcall:=h.run S _ w vals (ha.keep hk) hHS (fun b hb=>absurd hb (hnb b)) (fun i l I B hi=>by
  cases i with
  | zero=>simp at hi
  | succ i=>simp at hi) (RVs_nilE hk rfl hp hv)
 refine hcall.mono ?_
 rintro e w' ⟨v,φ',rfl,hr,hst⟩
 have hbl:∀ b,bls φ' b→S b:=fun b hb=>(hst.own b hb).elim (fun h=>absurd h (hnb b)) (hS b)
 refine ⟨v,rfl,?_,⟨hst.os,hst.tape,hst.out,hst.size,fun b hb=>hst.fr b hb (hnb b)⟩⟩
 exact sealA_ok hbl hst.hs 5 hr hy
end PSL
