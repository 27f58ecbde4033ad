import Derived.Test.YtchhahnajgfeaaaGreatDoorM3
namespace PSL
open Go

def TSz (T:TF):Prop:=∀ deep p st t st',T deep p st=some (t,st')→st'.e=0→st.e=0∧st.at_+t.size≤st'.at_
section
variable {S:Bs} {L:List Tk} {T:TF} {st:RSt}
theorem fail_sz {n:Nat} {c:Int} (hc:c≠0) (h:(failR L n st c).e=0):False:=flN hc h

theorem must_sz {n:Nat} {s:Bs} (h:(mustR L n st s).e=0):st.e=0∧(mustR L n st s).at_=st.at_+1:=by
 refine ⟨must_e h,?_⟩
 unfold mustR at h ⊢
 split
 ·rfl
 ·rename_i hm; rw [if_neg hm] at h; exact (fail_sz (by decide) h).elim

theorem sizeL_snoc (l:List Tm) (t:Tm):Tm.sizeL (l++[t])=Tm.sizeL l+t.size:=by
 induction l with
 | nil=>simp [Tm.sizeL]
 | cons x l ih=>simp only [List.cons_append,Tm.sizeL,ih]; omega

theorem many_sz (hT:TSz T):∀ (f deep:Nat) (st:RSt) (acc l:List Tm) (st':RSt),manyR L T f deep st acc=some (l,st')→st'.e=0→st.e=0∧acc.length≤l.length∧st.at_+Tm.sizeL l+l.length≤st'.at_+Tm.sizeL acc+acc.length
 | 0,_,_,_,_,_,h,_=>by cases h
 | f+1,deep,st,acc,l,st',h,he=>by
  simp only [manyR] at h
  split at h
  ·rename_i hm
   obtain ⟨⟨x,s⟩,hx,h⟩:=Option.bind_eq_some_iff.1 h
   obtain ⟨h1,h2,h3⟩:=many_sz hT f deep _ _ _ _ h he
   obtain ⟨h4,h5⟩:=hT _ _ _ _ _ hx h1
   rw [sizeL_snoc] at h3
   rw [nx_at] at h5
   simp only [List.length_append,List.length_singleton] at h2 h3
   exact ⟨(isMk_lt hm).1,by omega,by omega⟩
  ·cases h; exact ⟨he,Nat.le_refl _,by omega⟩

theorem row_sz (hT:TSz T) {deep:Nat} {l:List Tm} {st':RSt} (h:rowR L T deep st=some (l,st')) (he:st'.e=0):st.e=0∧st.at_+Tm.sizeL l+l.length≤st'.at_+1:=by
 obtain ⟨⟨x,s⟩,hx,h⟩:=Option.bind_eq_some_iff.1 h
 obtain ⟨h1,h2,h3⟩:=many_sz hT _ deep _ _ _ _ h he
 obtain ⟨h4,h5⟩:=hT _ _ _ _ _ hx h1
 simp only [Tm.sizeL,List.length_singleton] at h3
 exact ⟨h4,by omega⟩
end
end PSL

namespace PSL
open Go
section
variable {S:Bs} {L:List Tk} {T:TF} {st:RSt}
theorem fnT_size (s:Bs) (l:List Tm):(fnT s l).size=1+Tm.sizeL l:=by simp [fnT,Tm.size]

theorem consT_size (l:List Tm) (t:Tm):(consT l t).size=Tm.sizeL l+l.length+t.size:=by
 induction l with
 | nil=>simp [consT,Tm.sizeL]
 | cons x l ih =>
  have:consT (x::l) t=fnT [46] [x,consT l t]:=rfl
  rw [this,fnT_size]
  simp only [Tm.sizeL,List.length_cons,ih]; omega

theorem named_sz (hT:TSz T) {deep:Nat} {p:Int} {t:Tk} {x:Tm × Int × RSt} (h:namedR S L T deep p t st=some x) (he:x.2.2.e=0):st.e=0∧st.at_+x.1.size≤x.2.2.at_:=by
 unfold namedR at h
 split at h
 ·cases h; exact ⟨he,by simp [nmT,nxR,Tm.size,Tm.sizeL]⟩
 split at h
 ·obtain ⟨⟨l,s⟩,hy,rfl⟩:=Option.map_eq_some_iff.1 h
  simp only at he ⊢
  obtain ⟨h1,h2⟩:=must_sz he
  obtain ⟨h3,h4⟩:=row_sz hT hy h1
  obtain ⟨h5,h6⟩:=must_sz h3
  rw [h6,nx_at] at h4
  rw [fnT_size,h2]
  exact ⟨h5,by omega⟩
 split at h
 ·split at h
  ·split at h
   ·cases h; exact (fail_sz (by decide) he).elim
   ·obtain ⟨⟨y,s⟩,hy,rfl⟩:=Option.map_eq_some_iff.1 h
    simp only at he ⊢
    obtain ⟨h1,h2⟩:=hT _ _ _ _ _ hy he
    rw [begS_at,nx_at] at h2
    rw [fnT_size]
    refine ⟨?_,by simp only [Tm.sizeL]; omega⟩
    unfold begS at h1; split at h1 <;> exact h1
  ·cases h
   simp only at he ⊢
   rw [fnT_size,begS_at,nx_at]
   refine ⟨?_,by simp only [Tm.sizeL]; omega⟩
   unfold begS at he; split at he <;> exact he
 ·cases h; exact ⟨he,by rw [fnT_size,nx_at]; simp only [Tm.sizeL]; omega⟩

theorem list_sz (hT:TSz T) {deep:Nat} {x:Tm × RSt} (h:listR S L T deep st=some x) (he:x.2.e=0):st.e=0∧st.at_+x.1.size≤x.2.at_+1:=by
 obtain ⟨⟨l,s⟩,hy,h⟩:=Option.bind_eq_some_iff.1 h
 simp only at h
 split at h
 ·obtain ⟨⟨z,s2⟩,hz,rfl⟩:=Option.map_eq_some_iff.1 h
  simp only at he ⊢
  obtain ⟨h1,h2⟩:=must_sz he
  obtain ⟨h3,h4⟩:=hT _ _ _ _ _ hz h1
  obtain ⟨h5,h6⟩:=row_sz hT hy h3
  rw [nx_at] at h4
  rw [consT_size,h2]
  exact ⟨h5,by omega⟩
 ·cases h
  simp only at he ⊢
  obtain ⟨h1,h2⟩:=must_sz he
  obtain ⟨h5,h6⟩:=row_sz hT hy h1
  rw [consT_size,h2,fnT_size]
  exact ⟨h5,by simp only [Tm.sizeL]; omega⟩
end
end PSL

namespace PSL
open Go
section
variable {S:Bs} {L:List Tk} {T:TF} {st:RSt}

theorem opnd_sz (hT:TSz T) {sw:Bool} {deep:Nat} {p:Int} {x:Tm × Int × RSt} (h:opndR sw S L T deep p st=some x) (he:x.2.2.e=0):st.e=0∧st.at_+x.1.size≤x.2.2.at_:=by
 unfold opndR at h
 split at h
 ·cases h; exact (fail_sz (by decide) he).elim
 split at h
 ·cases h; exact ⟨he,by simp [nmT,nxR,Tm.size,Tm.sizeL]⟩
 split at h
 ·cases h
  simp only at he ⊢
  obtain ⟨h1,_,_,h4,_⟩:=var_at (st:=nxR st) (peekR L st).text
  rw [h4] at he
  exact ⟨he,by rw [h1,nx_at]; simp [Tm.vT,Tm.size,Tm.sizeL]⟩
 split at h
 ·obtain ⟨y,hy,rfl⟩:=Option.map_eq_some_iff.1 h
  split at he
  ·rename_i hc
   simp only [Bool.and_eq_true,decide_eq_true_eq] at hc
   exact absurd he hc.2
  ·rename_i hc
   rw [if_neg hc]
   exact named_sz hT hy he
 split at h
 ·obtain ⟨⟨y,s⟩,hy,rfl⟩:=Option.map_eq_some_iff.1 h
  simp only at he ⊢
  obtain ⟨h1,h2⟩:=must_sz he
  obtain ⟨h3,h4⟩:=hT _ _ _ _ _ hy h1
  rw [nx_at] at h4
  rw [h2]
  exact ⟨h3,by omega⟩
 split at h
 ·obtain ⟨⟨y,s⟩,hy,rfl⟩:=Option.map_eq_some_iff.1 h
  simp only at he ⊢
  obtain ⟨h3,h4⟩:=list_sz hT hy he
  rw [nx_at] at h4
  simp only at h4
  exact ⟨h3,by omega⟩
 ·cases h; exact (fail_sz (by decide) he).elim

theorem rest_sz (hT:TSz T):∀ (f deep:Nat) (p:Int) (out:Tm) (now:Int) (st:RSt) (t:Tm) (st':RSt),restR L T f deep p out now st=some (t,st')→st'.e=0→st.e=0∧st.at_+t.size≤st'.at_+out.size
 | 0,_,_,_,_,_,_,_,h,_=>by cases h
 | f+1,deep,p,out,now,st,t,st',h,he=>by
  have hi:(inS L st).e=st.e:=by unfold inS; split <;> rfl
  simp only [restR] at h
  split at h
  ·rename_i h0; cases h; exact absurd he h0
  rename_i h0
  have h0:st.e=0:=by simpa using h0
  split at h
  ·cases h; exact ⟨h0,by rw [inS_at]; omega⟩
  ·split at h
   ·cases h; exact ⟨h0,by rw [inS_at]; omega⟩
   ·obtain ⟨⟨x,s⟩,hx,h⟩:=Option.bind_eq_some_iff.1 h
    obtain ⟨h1,h2⟩:=rest_sz hT f deep p _ _ _ _ _ h he
    obtain ⟨h3,h4⟩:=hT _ _ _ _ _ hx h1
    rw [nx_at,inS_at] at h4
    rw [fnT_size] at h2
    simp only [Tm.sizeL] at h2
    exact ⟨h0,by omega⟩
end

theorem term_sz (sw:Bool) (S:Bs) (L:List Tk):∀ n,TSz (termR sw S L n)
 | 0=>fun _ _ _ _ _ h _=>by cases h
 | n+1=>fun deep p st t st' h he=>by
  simp only [termR] at h
  obtain ⟨x,hx,h⟩:=Option.bind_eq_some_iff.1 h
  obtain ⟨h1,h2⟩:=rest_sz (term_sz sw S L n) _ _ _ _ _ _ _ _ h he
  obtain ⟨h3,h4⟩:=opnd_sz (term_sz sw S L n) hx h1
  exact ⟨h3,by omega⟩
end PSL

namespace PSL
open Go

def SB (B:Nat) (t:Tm):Prop:=∀ d e,e∈Tm.els t d→e.2.s.size≤B

theorem mem_elsL:∀ {l:List Tm} {d:Int} {e:Int × Tm},e∈Tm.elsL l d→∃ x∈l,e∈Tm.els x d
 | [],_,_,h=>by simp [Tm.elsL] at h
 | x::l,d,e,h=>by
  simp only [Tm.elsL,List.mem_append] at h
  rcases h with h | h
  ·exact ⟨x,by simp,h⟩
  ·obtain ⟨y,hy,h⟩:=mem_elsL h
   exact ⟨y,by simp [hy],h⟩

theorem SB.mk' {B:Nat} {t:Tm} (h:t.s.size≤B) (hl:∀ x∈t.l,SB B x):SB B t:=fun d e he=>by
 rw [Tm.els_eq] at he
 rcases List.mem_cons.1 he with rfl | he
 ·exact h
 ·obtain ⟨x,hx,he⟩:=mem_elsL he
  exact hl x hx _ _ he
theorem SB.fn {B:Nat} {s:Bs} {l:List Tm} (h:s.length≤B) (hl:∀ x∈l,SB B x):SB B (fnT s l):=.mk' (by show (Tx s).size≤B; rw [Tx_size]; exact h) hl
def TSB (B:Nat) (T:TF):Prop:=∀ deep p st t st',T deep p st=some (t,st')→SB B t
section
variable {S:Bs} {L:List Tk} {T:TF} {st:RSt} {B:Nat}

theorem many_sb (hT:TSB B T):∀ (f deep:Nat) (st:RSt) (acc l:List Tm) (st':RSt),manyR L T f deep st acc=some (l,st')→(∀ x∈acc,SB B x)→∀ x∈l,SB B x
 | 0,_,_,_,_,_,h,_=>by cases h
 | f+1,deep,st,acc,l,st',h,ha=>by
  simp only [manyR] at h
  split at h
  ·obtain ⟨⟨x,s⟩,hx,h⟩:=Option.bind_eq_some_iff.1 h
   refine many_sb hT f deep _ _ _ _ h fun y hy=>?_
   rcases List.mem_append.1 hy with hy | hy
   ·exact ha y hy
   ·rw [List.mem_singleton.1 hy]; exact hT _ _ _ _ _ hx
  ·cases h; exact ha

theorem row_sb (hT:TSB B T) {deep:Nat} {l:List Tm} {st':RSt} (h:rowR L T deep st=some (l,st')):∀ x∈l,SB B x:=by
 obtain ⟨⟨x,s⟩,hx,h⟩:=Option.bind_eq_some_iff.1 h
 exact many_sb hT _ deep _ _ _ _ h fun y hy=>by rw [List.mem_singleton.1 hy]; exact hT _ _ _ _ _ hx
theorem nm_sb (n:Int):SB B (nmT n):=.mk' (Nat.zero_le _) (by simp [nmT,Tm.l])
theorem zero_sb:SB B zeroT:=.mk' (Nat.zero_le _) (by simp [zeroT,Tm.l])

theorem consT_sb (hB:2≤B) {l:List Tm} {t:Tm} (hl:∀ x∈l,SB B x) (ht:SB B t):SB B (consT l t):=by
 induction l with
 | nil=>exact ht
 | cons x l ih =>
  exact .fn (by simp; omega) fun y hy=>by
   simp only [List.mem_cons,List.not_mem_nil,or_false] at hy
   rcases hy with rfl | rfl
   ·exact hl _ (by simp)
   ·exact ih fun z hz=>hl z (by simp [hz])

theorem named_sb (hT:TSB B T) {deep:Nat} {p:Int} {t:Tk} (ht:t.text.length≤B) {x:Tm × Int × RSt} (h:namedR S L T deep p t st=some x):SB B x.1:=by
 unfold namedR at h
 split at h
 ·cases h; exact nm_sb _
 split at h
 ·obtain ⟨⟨l,s⟩,hy,rfl⟩:=Option.map_eq_some_iff.1 h
  exact .fn ht (row_sb hT hy)
 split at h
 ·split at h
  ·split at h
   ·cases h; exact zero_sb
   ·obtain ⟨⟨y,s⟩,hy,rfl⟩:=Option.map_eq_some_iff.1 h
    exact .fn ht fun z hz=>by rw [List.mem_singleton.1 hz]; exact hT _ _ _ _ _ hy
  ·cases h; exact .fn ht (by simp)
 ·cases h; exact .fn ht (by simp)
end
end PSL

namespace PSL
open Go
section
variable {S:Bs} {L:List Tk} {T:TF} {st:RSt} {B:Nat}

theorem peek_sb (hL:∀ t∈L,t.text.length≤B):(peekR L st).text.length≤B:=by
 unfold peekR
 split
 ·exact Nat.zero_le _
 ·cases h:L[st.at_]? with
  | none=>exact Nat.zero_le _
  | some t=>exact hL t (List.mem_of_getElem? h)

theorem list_sb (hB:2≤B) (hT:TSB B T) {deep:Nat} {x:Tm × RSt} (h:listR S L T deep st=some x):SB B x.1:=by
 obtain ⟨⟨l,s⟩,hy,h⟩:=Option.bind_eq_some_iff.1 h
 simp only at h
 split at h
 ·obtain ⟨⟨z,s2⟩,hz,rfl⟩:=Option.map_eq_some_iff.1 h
  exact consT_sb hB (row_sb hT hy) (hT _ _ _ _ _ hz)
 ·cases h
  exact consT_sb hB (row_sb hT hy) (.fn (by simp; omega) (by simp))

theorem opnd_sb (hB:2≤B) (hL:∀ t∈L,t.text.length≤B) (hT:TSB B T) {sw:Bool} {deep:Nat} {p:Int} {x:Tm × Int × RSt} (h:opndR sw S L T deep p st=some x):SB B x.1:=by
 unfold opndR at h
 split at h
 ·cases h; exact zero_sb
 split at h
 ·cases h; exact nm_sb _
 split at h
 ·cases h; exact .mk' (Nat.zero_le _) (by simp [Tm.vT,Tm.l])
 split at h
 ·obtain ⟨y,hy,rfl⟩:=Option.map_eq_some_iff.1 h
  split
  ·exact zero_sb
  ·exact named_sb hT (peek_sb hL) hy
 split at h
 ·obtain ⟨⟨y,s⟩,hy,rfl⟩:=Option.map_eq_some_iff.1 h
  exact hT _ _ _ _ _ hy
 split at h
 ·obtain ⟨⟨y,s⟩,hy,rfl⟩:=Option.map_eq_some_iff.1 h
  exact list_sb hB hT hy
 ·cases h; exact zero_sb

theorem rest_sb (hL:∀ t∈L,t.text.length≤B) (hT:TSB B T):∀ (f deep:Nat) (p:Int) (out:Tm) (now:Int) (st:RSt) (t:Tm) (st':RSt),restR L T f deep p out now st=some (t,st')→SB B out→SB B t
 | 0,_,_,_,_,_,_,_,h,_=>by cases h
 | f+1,deep,p,out,now,st,t,st',h,ho=>by
  simp only [restR] at h
  split at h
  ·cases h; exact ho
  split at h
  ·cases h; exact ho
  ·split at h
   ·cases h; exact ho
   ·obtain ⟨⟨x,s⟩,hx,h⟩:=Option.bind_eq_some_iff.1 h
    refine rest_sb hL hT f deep p _ _ _ _ _ h (.fn (peek_sb hL) fun y hy=>?_)
    simp only [List.mem_cons,List.not_mem_nil,or_false] at hy
    rcases hy with rfl | rfl
    ·exact ho
    ·exact hT _ _ _ _ _ hx
end

theorem term_sb {B:Nat} (hB:2≤B) (sw:Bool) (S:Bs) (L:List Tk) (hL:∀ t∈L,t.text.length≤B):∀ n,TSB B (termR sw S L n)
 | 0=>fun _ _ _ _ _ h=>by cases h
 | n+1=>fun deep p st t st' h=>by
  simp only [termR] at h
  obtain ⟨x,hx,h⟩:=Option.bind_eq_some_iff.1 h
  exact rest_sb hL (term_sb hB sw S L hL n) _ _ _ _ _ _ _ _ h (opnd_sb hB hL (term_sb hB sw S L hL n) hx)
end PSL

namespace PSL
open Go

structure TkG (L:Bs) (t:Tk):Prop where
 lo:0≤t.n
 hi:t.n≤9223372036854775807
 len:t.text.length≤L.length+20
 var:t.kind=2→t.text≠[]

theorem TkG.name {L:Bs} {kind:Int} {text:Bs} {i to:Nat} {t:Tk} {j:Nat} (h:nameT L kind text i to=some (t,j)):TkG L t:=by
 obtain ⟨_,rfl,l1,l2⟩:=nameT_to h
 exact ⟨by simp,by simp,by simp only; omega,fun _ h=>by simp only at h; rw [h] at l1; simp at l1⟩
theorem cutB_le (L:Bs) (i j:Nat):(cutB L i j).length≤L.length:=by unfold cutB; simp only [List.length_take,List.length_drop]; omega

theorem numT_le {D:Bs} {n:Nat} (h:numT D=some n):n≤9223372036854775807:=by
 unfold numT at h; split at h
 ·cases h
 ·rename_i hc; cases h; omega

theorem oneT_good {L:Bs} {i:Nat} {t:Tk} {j:Nat} (h:oneT L i=some (t,j)):TkG L t:=by
 unfold oneT at h
 split at h
 ·cases h
 split at h; · exact .name h
 split at h; · exact .name h
 split at h
 ·cases hn:numT (cutB L i (runB dgC L i)) with
  | none=>rw [hn] at h; cases h
  | some n =>
  rw [hn] at h
  cases h
  exact ⟨by simp,by have:=numT_le hn; simp only; omega,by have:=cutB_le L i (runB dgC L i); simp only; omega,fun h=>by cases h⟩
 split at h
 ·split at h
  ·exact .name h
  ·cases h
 split at h; · exact .name h
 split at h; · exact .name h
 split at h
 ·cases h
  exact ⟨by simp,by simp,by simp,fun h=>by cases h⟩
 split at h
 ·cases h
  exact ⟨by simp,by simp,by simp,fun h=>by cases h⟩
 exact .name h

theorem toks_good:∀ (f:Nat) (L:Bs) (i:Nat) (l:List Tk),toks f L i=.ok l→∀ t∈l,TkG L t
 | 0,L,i,l,h=>by simp only [toks,Except.ok.injEq] at h; subst h; simp
 | f+1,L,i,l,h=>by
  simp only [toks] at h
  split at h
  ·split at h
   ·cases h
   ·rename_i t to ho
    split at h
    ·rename_i l' hl
     cases h
     intro u hu
     rcases List.mem_cons.1 hu with rfl | hu
     ·exact oneT_good ho
     ·exact toks_good f L to l' hl u hu
    ·cases h
  ·cases h; simp

theorem read_small {S:Bs} {L:List Tk} (hL:L.length≤9000) (hS:S.length≤9000) (hg:∀ t∈L,TkG S t) {sw:Bool} {n deep:Nat} {p:Int} {st st':RSt} {t:Tm} (hi:RInv L st) (h:termR sw S L n deep p st=some (t,st')) (he:st'.e=0):t.size≤9000∧∀ d e,e∈t.els d→e.2.s.size≤9020:=by
 have h1:=(term_sz sw S L n _ _ _ _ _ h he).2
 have h2:=(term_inv sw S L n _ _ _ _ _ h hi).2
 have h3:=term_sb (B:=9020) (by omega) sw S L (fun t ht=>by have:=(hg t ht).len; omega) n
 exact ⟨by omega,h3 _ _ _ _ _ h⟩
end PSL

namespace PSL
open Go

def TokRel (ex:Bool) (d:Int) (a b:Tk):Prop :=
 (b.kind=a.kind∧b.text=a.text∧b.n=a.n∧b.opn=a.opn∧(a.kind≠0→b.at_=a.at_+d))∨(ex=false∧a.kind=5∧b.kind=4∧b.text=[41])

structure Sim (ex:Bool) (m k δ:Nat) (d:Int) (S1:Bs) (L1:List Tk) (S2:Bs) (L2:List Tk):Prop where
 tok:∀ i,(ex=true∨i≤m)→TokRel ex d ((L1[i]?).getD zeroTk) ((L2[i+k]?).getD zeroTk)
 plc:ex=true→∀ i,plcR L2 S2.length (i+k)=plcR L1 S1.length i+d
 byte:∀ i t,L1[i]? = some t→(ex=true∨i≤m)→t.kind=1→decide (S2[(t.at_+d).toNat]? = some 45)=decide (S1[t.at_.toNat]? = some 45)
 deep:δ=0∨(ex=false∧m+δ≤999)
 len:L1.length≤L2.length

structure StR (k:Nat) (d:Int) (a b:RSt):Prop where
 at_:b.at_=a.at_+k
 names:b.names=a.names
 e:b.e=a.e
 bad:a.e≠0→b.bad=a.bad+d
def Fini (ex:Bool) (m:Nat) (st:RSt):Prop:=ex=true∨(st.e=0∧st.at_≤m)
section
variable {ex:Bool} {m k δ:Nat} {d:Int} {S1 S2:Bs} {L1 L2:List Tk} {T1 T2:TF} {a b:RSt} {S:Bs} {L:List Tk} {T:TF}
theorem Fini.no {n:Nat} {c:Int} (hc:c≠0) (h:Fini ex m (failR L n a c)):ex=true:=h.resolve_right fun h=>flN hc h.1
theorem StR.nx (r:StR k d a b):StR k d (nxR a) (nxR b):=⟨by simp only [nxR,r.at_]; omega,r.names,r.e,r.bad⟩

theorem StR.var (r:StR k d a b) (s:Bs):(varR b s).1=(varR a s).1∧StR k d (varR a s).2 (varR b s).2:=by
 unfold varR
 rw [r.names]
 split
 ·exact ⟨rfl,r⟩
 ·exact ⟨rfl,r.at_,by simp only,r.e,r.bad⟩
theorem begS_eq (L:List Tk) (st:RSt):∃ y,begS L st={ st with lay:=y }:=by unfold begS; split; exact ⟨_,rfl⟩; exact ⟨_,rfl⟩
theorem inS_eq (L:List Tk) (st:RSt):∃ y,inS L st={ st with lay:=y }:=by unfold inS; split; exact ⟨_,rfl⟩; exact ⟨_,rfl⟩

theorem StR.beg (r:StR k d a b):StR k d (begS L1 a) (begS L2 b):=by
 obtain ⟨y,hy⟩:=begS_eq L1 a
 obtain ⟨z,hz⟩:=begS_eq L2 b
 rw [hy,hz]; exact ⟨r.at_,r.names,r.e,r.bad⟩

theorem StR.ins (r:StR k d a b):StR k d (inS L1 a) (inS L2 b):=by
 obtain ⟨y,hy⟩:=inS_eq L1 a
 obtain ⟨z,hz⟩:=inS_eq L2 b
 rw [hy,hz]; exact ⟨r.at_,r.names,r.e,r.bad⟩
variable (H:Sim ex m k δ d S1 L1 S2 L2) (r:StR k d a b)
include H r
end
end PSL

namespace PSL
open Go
section
variable {ex:Bool} {m k δ:Nat} {d:Int} {S1 S2:Bs} {L1 L2:List Tk} {T1 T2:TF} {a b:RSt} (H:Sim ex m k δ d S1 L1 S2 L2)
include H
end
end PSL

namespace PSL
open Go
end PSL

namespace PSL
open Go
section
variable {B:Int→Prop} {S:Bs} {L:List Tk} {T:TF} {st:RSt}
end
section
variable {S:Bs} {L:List Tk} {T:TF} {st:RSt}
end
end PSL

namespace PSL
open Go

theorem tok_ok {S:Bs} (h:(tokT S).2.2=0):S.length≤8000∧toks (S.length+1) S 0=.ok (tokT S).1∧tokT S=((tokT S).1,0,0):=by
 unfold tokT at h ⊢
 split at h
 ·cases h
 ·rename_i hl
  rw [if_neg hl]
  cases ht:toks (S.length+1) S 0 with
  | ok l=>exact ⟨by omega,rfl,rfl⟩
  | error j=>rw [ht] at h; cases h

theorem tok_bad {S:Bs} (h:(tokT S).2.2≠0):(tokT S).1=[]∧0≤(tokT S).2.1∧(tokT S).2.1≤S.length:=by
 unfold tokT at h ⊢
 split at h
 ·rename_i hl
  rw [if_pos hl]; exact ⟨rfl,by simp,by simp⟩
 ·rename_i hl
  rw [if_neg hl]
  cases ht:toks (S.length+1) S 0 with
  | ok l=>rw [ht] at h; exact absurd rfl h
  | error j =>
   have:=toks_bad _ _ _ _ ht
   exact ⟨rfl,by simp only; omega,by simp only; omega⟩

theorem toks_plc {S:Bs} {l:List Tk} (h:toks (S.length+1) S 0=.ok l):∀ t∈l,0≤t.at_∧t.at_<S.length:=fun t ht=>by
 have:=((toks_place _ _ _ _ h).1 t ht).lo
 have:=((toks_place _ _ _ _ h).1 t ht).hi
 omega
end PSL

namespace PSL
open Go
end PSL

namespace PSL
open Go
def st0:RSt:=⟨0,[],0,0,false⟩
end PSL

namespace Go.Proofs.YtchhahnajgfeaaaGreatDoor
open Go PSL Go.Proofs
end Go.Proofs.YtchhahnajgfeaaaGreatDoor

namespace Go.Proofs.YtchhahnajgfeaaaGreatDoor
open Go PSL Go.Proofs
end Go.Proofs.YtchhahnajgfeaaaGreatDoor

namespace Go.Proofs.YtchhahnajgfeaaaGreatDoor
open Go PSL Go.Proofs
end Go.Proofs.YtchhahnajgfeaaaGreatDoor

namespace Go.Proofs.YtchhahnajgfeaaaGreatDoor
open Go PSL Go.Proofs
end Go.Proofs.YtchhahnajgfeaaaGreatDoor

namespace Go.Proofs.YtchhahnajgfeaaaGreatDoor
open Go PSL Go.Proofs
end Go.Proofs.YtchhahnajgfeaaaGreatDoor

namespace Go.Proofs.YtchhahnajgfeaaaGreatDoor
open Go PSL Go.Proofs

set_option maxRecDepth 100000 in
theorem clausesBad_ok (S0:Bs) (a e:Int) (he:e≠0) (h:PCtr Tryz.prog 33 [txA S0] (.tup [.d (.sl (tkRows [])),iV a,iV e])):PCtr Tryz.prog 19 [txA S0] (.tup [.d (.sl (clRows [])),iV a,iV e]):=by
 refine PCtr.of_R (pf:=fun _=>.eff) tyOk mixed Tryz.func19 rfl (by kernel_rfl) (by kernel_rfl) (by simp [Tryz.ntmps19]) fun w S hg=>?_
 refine R_run hg.ok 1000 rfl rfl ?_
 refine R_call hg.ok (h) rfl rfl rfl rfl rfl rfl ?_
 refine R_run hg.ok 1000 rfl rfl ?_
 refine R_if rfl rfl (fun _=>?_) (fun h=>absurd h (by simp [he])) <;> refine R_run hg.ok 1000 rfl rfl ?_
 refine R_ret hg 5 rfl rfl ?_
 rfl

theorem clausesT_ok (S0:Bs) (hS:S0.length≤9000) {c:List Clau} {a e:Int} (h:clauR rightT false S0=some (c,a,e)):PCtr Tryz.prog 19 [txA S0] (.tup [.d (.sl (clRows c)),iV a,iV e]):=by
 unfold clauR at h
 by_cases he:(tokT S0).2.2≠0
 ·rw [if_pos he] at h
  have ht:=tokens_ok S0 hS
  unfold tokR at ht
  rw [(tok_bad he).1] at ht
  cases h
  exact clausesBad_ok S0 _ _ he ht
 ·rw [if_neg he] at h
  obtain ⟨h8,ht,_⟩:=tok_ok (Decidable.not_not.1 he)
  have hpl:=toks_plc ht
  have hgd:=toks_good _ _ _ _ ht
  have hlen:=toks_len _ S0 0 _ ht
  refine clauses_ok S0 hS _ (by omega) (fun t ht=>⟨(hpl t ht).1,(hpl t ht).2,(hgd t ht).lo,(hgd t ht).hi⟩) (tokR_ok (by omega) ht) _ (fun st t st' hi hx he=>?_) c a e h
  have:=read_small (by omega) hS hgd hi hx he
  exact ⟨by have:=this.1; omega,fun e he=>by have:=this.2 1 e he; omega⟩
theorem oneT_ok9 (S0:Bs) (hS:S0.length≤9000) {c:List Clau} {a e:Int} (h:clauR rightT false S0=some (c,a,e)):PCtr Tryz.prog 8 [txA S0] (.tup [clA (oneR S0.length (c,a,e)).1,iV (oneR S0.length (c,a,e)).2.1,iV (oneR S0.length (c,a,e)).2.2]):=one_ok S0 c a e (clausesT_ok S0 hS h)
end Go.Proofs.YtchhahnajgfeaaaGreatDoor

namespace Go.Proofs.YtchhahnajgfeaaaGreatDoor
open Go PSL Go.Proofs
end Go.Proofs.YtchhahnajgfeaaaGreatDoor

namespace Go.Proofs.YtchhahnajgfeaaaGreatDoor
open Go PSL Go.Proofs
end Go.Proofs.YtchhahnajgfeaaaGreatDoor

namespace Go.Proofs.YtchhahnajgfeaaaGreatDoor
open Go PSL Go.Proofs

theorem one_is {L:Bs} (hL:L.length≤9000) {x:Clau} {q:Int} (hr:clauR rightT false L=some ([x],q,0)):PCtr Tryz.prog 8 [txA L] (.tup [clA x,iV 0,iV 0]):=oneT_ok9 L hL hr
end Go.Proofs.YtchhahnajgfeaaaGreatDoor

namespace PSL
open Go

inductive Pc where
 | mk (c:UInt8)
 | var (n:Int)
 | num (n:Int)
 | name (s:Bs) (o:Bool)

def pcB:Pc→Bs
 | .mk c=>[c]
 | .var n=>95::Lib.itoa n
 | .num n=>Lib.itoa n
 | .name s _=>nameB s
def flatP (l:List Pc):Bs:=(l.map pcB).flatten
theorem flatP_cons (p:Pc) (r:List Pc):flatP (p::r)=pcB p++flatP r:=rfl
theorem flatP_app (a b:List Pc):flatP (a++b)=flatP a++flatP b:=by simp [flatP]

def atomQ (k:Int) (s:ByteArray) (n:Int) (e:Bool) (axs:List Pc):List Pc :=
 if k=1 then [.var n] else if k=2 then [.num n] else .name s.data.toList (!e)::(axs++if e then [] else [.mk 41])

mutual
def pq:Tm→List Pc
 | .mk k s n l=>if cellK k s l then .mk 91::pqCell l else atomQ k s n l.isEmpty (pqArgs true l)
def pqTl:Tm→List Pc
 | .mk k s n l=>if cellK k s l then .mk 44::pqCell l else if nilK k s l then [.mk 93] else .mk 124::(atomQ k s n l.isEmpty (pqArgs true l)++[.mk 93])
def pqCell:List Tm→List Pc
 | []=>[]
 | a::r=>pq a++pqCell2 r
def pqCell2:List Tm→List Pc
 | []=>[]
 | b::_=>pqTl b
def pqArgs:Bool→List Tm→List Pc
 | _,[]=>[]
 | f,x::r=>.mk (if f then 40 else 44)::(pq x++pqArgs false r)
end

theorem atomQ_map {k:Int} {s:ByteArray} {n:Int} {e:Bool} {axs:List Pc}:(atomQ k s n e axs).map pcB=atomP k s n e (axs.map pcB):=by
 unfold atomQ atomP
 split
 ·rfl
 ·split
  ·rfl
  ·cases e <;> simp [pcB]

mutual
theorem pq_map:∀ t:Tm,(pq t).map pcB=pcs t
 | .mk k s n l=>by
  rw [pq,pcs]
  split
  ·rw [List.map_cons,pqCell_map l]; rfl
  ·rw [atomQ_map,pqArgs_map true l]
theorem pqTl_map:∀ t:Tm,(pqTl t).map pcB=pcsTl t
 | .mk k s n l=>by
  rw [pqTl,pcsTl]
  split
  ·rw [List.map_cons,pqCell_map l]; rfl
  ·split
   ·rfl
   ·rw [List.map_cons,List.map_append,atomQ_map,pqArgs_map true l]; rfl
theorem pqCell_map:∀ l:List Tm,(pqCell l).map pcB=pcsCell l
 | []=>rfl
 | a::r=>by rw [pqCell,pcsCell,List.map_append,pq_map a,pqCell2_map r]
theorem pqCell2_map:∀ l:List Tm,(pqCell2 l).map pcB=pcsCell2 l
 | []=>rfl
 | b::_=>by rw [pqCell2,pcsCell2,pqTl_map b]
theorem pqArgs_map:∀ (f:Bool) (l:List Tm),(pqArgs f l).map pcB=pcsArgs f l
 | _,[]=>rfl
 | f,x::r=>by
  rw [pqArgs,pcsArgs,List.map_cons,List.map_append,pq_map x,pqArgs_map false r]
  cases f <;> rfl
end
theorem flat_pq (t:Tm):flatP (pq t)=textW t:=by rw [flatP,pq_map]; rfl
def cloC (c:UInt8):Bool:=c==41 || c==44 || c==124 || c==93 || c==32
def headB (l:Bs) (h:UInt8):UInt8:=match l with | []=>h | c::_=>c
def hdP (r:List Pc) (h:UInt8):UInt8:=match r with | []=>h | q::_=>headB (pcB q) h

def okPc:Pc→UInt8→Prop
 | .mk c,h=>mrkC c=true∧(c=91→h≠93)
 | .var n,h=>0≤n∧n<1000000∧cloC h=true
 | .num n,h=>-9223372036854775807≤n∧n≤9223372036854775807∧cloC h=true
 | .name s o,h=>1≤s.length∧s.length≤20∧(∀ c∈s,32≤c.toNat∧c.toNat≤126)∧(if o then h=40 else cloC h=true)

def chain:List Pc→UInt8→Prop
 | [],_=>True
 | p::r,h=>okPc p (hdP r h)∧chain r h
theorem decD_lo {m:Nat} (h:m<10):Lib.decDigits m=[UInt8.ofNat (48+m)]:=by rw [Lib.decDigits,dif_pos h]
theorem decD_hi {m:Nat} (h:¬ m<10):Lib.decDigits m=Lib.decDigits (m / 10)++[UInt8.ofNat (48+m % 10)]:=by rw [Lib.decDigits,dif_neg h]

theorem decD_ne (m:Nat):Lib.decDigits m≠[]:=by
 by_cases h:m<10
 ·rw [decD_lo h]; simp
 ·rw [decD_hi h]; simp

theorem itoa_ne (n:Int):Lib.itoa n≠[]:=by
 unfold Lib.itoa
 split
 ·simp
 ·exact decD_ne _

theorem pcB_ne (p:Pc):pcB p≠[]:=by
 cases p with
 | mk c=>simp [pcB]
 | var n=>simp [pcB]
 | num n=>exact itoa_ne n
 | name s o=>exact nameB_ne s

theorem headB_of {l:Bs} (hl:l≠[]) (h h2:UInt8):headB l h=headB l h2:=by
 cases l with
 | nil=>exact absurd rfl hl
 | cons c r=>rfl

theorem hdP_app (a b:List Pc) (h:UInt8):hdP (a++b) h=hdP a (hdP b h):=by
 cases a with
 | nil=>rfl
 | cons p r=>exact headB_of (pcB_ne p) _ _

theorem chain_app (a b:List Pc) (h:UInt8):chain (a++b) h↔chain a (hdP b h)∧chain b h:=by
 induction a with
 | nil=>simp [chain]
 | cons p r ih=>simp only [List.cons_append,chain,ih,hdP_app,and_assoc]

theorem digC_of (d:Nat) (h:d<10):dgC (UInt8.ofNat (48+d))=true∧(UInt8.ofNat (48+d)).toNat - 48=d:=by
 have:d=0∨d=1∨d=2∨d=3∨d=4∨d=5∨d=6∨d=7∨d=8∨d=9:=by omega
 rcases this with rfl | rfl | rfl | rfl | rfl | rfl | rfl | rfl | rfl | rfl <;> decide

theorem decD_dig (m:Nat):(Lib.decDigits m).all dgC=true:=by
 induction m using Nat.strongRecOn with
 | _ m ih =>
  by_cases h:m<10
  ·rw [decD_lo h,List.all_cons,(digC_of m h).1]; rfl
  ·rw [decD_hi h,List.all_append,ih (m / 10) (by omega)]
   rw [List.all_cons,(digC_of (m % 10) (Nat.mod_lt _ (by decide))).1]; rfl

theorem decD_val (m:Nat):valN 0 (Lib.decDigits m)=m:=by
 induction m using Nat.strongRecOn with
 | _ m ih =>
  by_cases h:m<10
  ·rw [decD_lo h,show [UInt8.ofNat (48+m)]=[]++[UInt8.ofNat (48+m)] from rfl,valN_snoc,(digC_of m h).2]; simp [valN]
  ·rw [decD_hi h,valN_snoc,ih (m / 10) (by omega),(digC_of (m % 10) (Nat.mod_lt _ (by decide))).2]; omega

theorem decD_head (m:Nat):1<(Lib.decDigits m).length→((Lib.decDigits m)[0]?.map UInt8.toNat)≠some 48:=by
 induction m using Nat.strongRecOn with
 | _ m ih =>
  intro h
  by_cases h9:m<10
  ·rw [decD_lo h9] at h; simp at h
  ·rw [decD_hi h9] at h ⊢
   have hne:=decD_ne (m / 10)
   have h0:0<(Lib.decDigits (m / 10)).length:=List.length_pos_iff.2 hne
   rw [List.getElem?_append_left h0]
   by_cases h10:m / 10<10
   ·rw [decD_lo h10]
    have:m / 10=1∨m / 10=2∨m / 10=3∨m / 10=4∨m / 10=5∨m / 10=6∨m / 10=7∨m / 10=8∨m / 10=9:=by omega
    rcases this with h | h | h | h | h | h | h | h | h <;> rw [h] <;> decide
   ·refine ih (m / 10) (by omega) ?_
    rw [decD_hi h10,List.length_append]
    have:=List.length_pos_iff.2 (decD_ne (m / 10 / 10))
    simp; omega

theorem numT_decD {m:Nat} (h:m≤9223372036854775807):numT (Lib.decDigits m)=some m:=by
 unfold numT
 rw [decD_val,if_neg]
 rintro (⟨h1,h2⟩ | h1)
 ·exact decD_head m h1 h2
 ·omega

theorem decD_le {m:Nat} (h:m<1000000):(Lib.decDigits m).length≤6:=by
 have key:∀ (k m:Nat),m<10 ^ (k+1)→(Lib.decDigits m).length≤k+1:=by
  intro k
  induction k with
  | zero=>intro m hm; rw [decD_lo (by omega)]; simp
  | succ k ih =>
   intro m hm
   by_cases h9:m<10
   ·rw [decD_lo h9]; simp
   ·rw [decD_hi h9]
    have:=ih (m / 10) (by rw [Nat.pow_succ] at hm; omega)
    simp only [List.length_append,List.length_cons,List.length_nil]; omega
 exact key 5 m (by omega)

def tk1 (a:Nat):Pc→List Tk
 | .mk c=>[⟨4,[c],0,a,false⟩]
 | .var n=>[⟨2,95::Lib.itoa n,0,a,false⟩]
 | .num n=>if n<0 then [⟨1,[45],0,a,false⟩,⟨3,Lib.decDigits n.natAbs,n.natAbs,(a+1:Nat),false⟩] else [⟨3,Lib.decDigits n.toNat,n.toNat,a,false⟩]
 | .name s o=>[⟨1,s,0,a,o⟩]

def tkP:Nat→List Pc→List Tk
 | _,[]=>[]
 | a,p::r=>tk1 a p++tkP (a+(pcB p).length) r

theorem tkP_app:∀ (x y:List Pc) (a:Nat),tkP a (x++y)=tkP a x++tkP (a+(flatP x).length) y
 | [],y,a=>by simp [tkP,flatP]
 | p::r,y,a=>by
  rw [List.cons_append,tkP,tkP_app r y,tkP,flatP_cons,List.length_append,List.append_assoc,Nat.add_assoc]

theorem runB_drop {p:UInt8→Bool} {L:Bs} {i:Nat} {x r:Bs} {h:UInt8} (hd:L.drop i=x++h::r) (hx:x.all p=true) (hh:p h=false):runB p L i=i+x.length:=by
 unfold runB
 rw [hd,List.takeWhile_append_of_pos (fun a ha=>List.all_eq_true.1 hx a ha),List.takeWhile_cons_of_neg (by simp [hh])]; simp

theorem cutB_drop {L:Bs} {i:Nat} {x r:Bs} (hd:L.drop i=x++r):cutB L i (i+x.length)=x:=by
 unfold cutB; rw [hd,Nat.add_sub_cancel_left]; simp

theorem get_drop {L:Bs} {i:Nat} {x r:Bs} {h:UInt8} (hd:L.drop i=x++h::r):L[i+x.length]? = some h:=by
 have:(L.drop i)[x.length]? = some h:=by rw [hd]; simp
 rwa [List.getElem?_drop] at this

theorem get_drop0 {L:Bs} {i:Nat} {r:Bs} {h:UInt8} (hd:L.drop i=h::r):L[i]? = some h:=by
 have:=get_drop (x:=[]) hd
 simpa using this

theorem drop_drop {L:Bs} {i:Nat} {x r:Bs} (hd:L.drop i=x++r):L.drop (i+x.length)=r:=by
 rw [← List.drop_drop,hd]; simp

theorem clo_facts {c:UInt8} (h:cloC c=true∨c=40):folC c=false∧sgnC c=false∧dgC c=false∧c.toNat≠39:=by
 have:=byte_all (p:=fun c=>!(cloC c || c==40) || (!folC c && !sgnC c && !dgC c && !decide (c.toNat=39))) (by decide +kernel) c
 have h1:(cloC c || c==40)=true:=by simpa using h
 rw [h1] at this
 simpa [and_assoc] using this

theorem clo_opn {c:UInt8} (h:cloC c=true):c.toNat≠40:=by
 have:=byte_all (p:=fun c=>!(cloC c) || !decide (c.toNat=40)) (by decide +kernel) c
 rw [h] at this
 simpa using this

theorem quo_dbl:∀ (s:Bs) (h:UInt8) (r:Bs),(∀ c∈s,32≤c.toNat∧c.toNat≤126)→h.toNat≠39→quo (dblB s++39::h::r)=some (s,(dblB s).length+1)
 | [],h,r,_,hh=>by
  show quo (39::h::r)=some ([],1)
  exact quo_one rfl fun d hd=>by simp at hd; subst hd; exact hh
 | c::s,h,r,hs,hh=>by
  have ih:=quo_dbl s h r (fun x hx=>hs x (by simp [hx])) hh
  have hc:=hs c (by simp)
  by_cases h39:c=39
  ·subst h39
   have:dblB (39::s)=39::39::dblB s:=by simp [dblB]
   rw [this,List.cons_append,List.cons_append,quo_two rfl rfl,ih]; rfl
  ·have:dblB (c::s)=c::dblB s:=by rw [dblB,List.flatMap_cons,if_neg h39]; rfl
   rw [this,List.cons_append,quo_any (by omega) (fun e=>h39 (UInt8.toNat_inj.1 e)),ih]; rfl

theorem nameT_ok {L:Bs} {kind:Int} {s:Bs} {i to:Nat} (h1:1≤s.length) (h2:s.length≤20):nameT L kind s i to=some (⟨kind,s,0,i,opnB L to⟩,to):=by
 rw [nameT,if_pos ⟨h1,h2⟩]

theorem opnB_of {L:Bs} {to:Nat} {h:UInt8} (hg:L[to]? = some h) {o:Bool} (ho:if o then h=40 else cloC h=true):opnB L to=o:=by
 unfold opnB; rw [hg]
 cases o with
 | true=>simp only [if_true] at ho; subst ho; rfl
 | false=>simp only [Bool.false_eq_true,if_false] at ho; simpa using clo_opn ho

theorem mark_facts {c:UInt8} (h:mrkC c=true):lowC c=false∧grtC c=false∧dgC c=false∧c.toNat≠39∧c.toNat≠33∧c.toNat≠59∧blkC c=false∧c.toNat≠37∧(c.toNat=91↔c=91):=by
 have:=byte_all (p:=fun c=>!(mrkC c) || (!lowC c && !grtC c && !dgC c && !decide (c.toNat=39) && !decide (c.toNat=33) && !decide (c.toNat=59) && !blkC c && !decide (c.toNat=37))) (by decide +kernel) c
 rw [h] at this
 simp at this
 refine ⟨this.1.1.1.1.1.1.1,this.1.1.1.1.1.1.2,this.1.1.1.1.1.2,this.1.1.1.1.2,this.1.1.1.2,this.1.1.2,this.1.2,this.2,?_⟩
 exact ⟨fun h=>UInt8.toNat_inj.1 h,fun h=>by rw [h]; rfl⟩

theorem one_mk {L:Bs} {i:Nat} {c h:UInt8} {r:Bs} (hd:L.drop i=c::h::r) (hc:mrkC c=true) (hn:c=91→h≠93):oneT L i=some (⟨4,[c],0,i,false⟩,i+1):=by
 obtain ⟨a1,a2,a3,a4,a5,a6,_,_,a9⟩:=mark_facts hc
 have h0:=get_drop0 hd
 have h1:L[i+1]? = some h:=get_drop (x:=[c]) hd
 unfold oneT
 rw [h0]
 simp only
 rw [a1,a2,a3,if_neg (by simp),if_neg (by simp),if_neg (by simp),if_neg a4,if_neg,if_neg (by omega),if_pos hc]
 rintro ⟨g1,g2⟩
 rw [h1] at g2
 simp at g2
 exact hn (a9.1 g1) (UInt8.toNat_inj.1 g2)

theorem one_var {L:Bs} {i:Nat} {x r:Bs} {h:UInt8} (hd:L.drop i=(95::x)++h::r) (hx:x.all dgC=true) (hl:x.length≤19) (hh:cloC h=true):oneT L i=some (⟨2,95::x,0,i,false⟩,i+(95::x).length):=by
 have h0:L[i]? = some 95:=get_drop0 (by rw [hd]; rfl)
 obtain ⟨f1,f2,f3,f4⟩:=clo_facts (.inl hh)
 have hall:(95::x).all folC=true:=by
  rw [List.all_cons,List.all_eq_true.2 fun c hc=>by simp [folC,List.all_eq_true.1 hx c hc]]; rfl
 unfold oneT
 rw [h0]
 simp only
 rw [if_neg (by decide),if_pos (by decide),runB_drop hd hall f1,cutB_drop hd,nameT_ok (by simp) (by simp; omega),opnB_of (get_drop hd) (o:=false) hh]

theorem one_num {L:Bs} {i m:Nat} {r:Bs} {h:UInt8} (hd:L.drop i=Lib.decDigits m++h::r) (hm:m≤9223372036854775807) (hh:cloC h=true):oneT L i=some (⟨3,Lib.decDigits m,m,i,false⟩,i+(Lib.decDigits m).length):=by
 obtain ⟨f1,f2,f3,f4⟩:=clo_facts (.inl hh)
 have hall:=decD_dig m
 obtain ⟨c,x,hcx⟩:∃ c x,Lib.decDigits m=c::x:=by
  cases hq:Lib.decDigits m with
  | nil=>exact absurd hq (decD_ne m)
  | cons c x=>exact ⟨c,x,rfl⟩
 have h0:L[i]? = some c:=get_drop0 (r:=x++h::r) (by rw [hd,hcx]; rfl)
 have hc:dgC c=true:=by rw [hcx,List.all_cons,Bool.and_eq_true] at hall; exact hall.1
 have hc2:lowC c=false∧grtC c=false:=by
  have:=byte_all (p:=fun c=>!(dgC c) || (!lowC c && !grtC c)) (by decide +kernel) c
  rw [hc] at this
  simpa using this
 unfold oneT
 rw [h0]
 simp only
 rw [hc2.1,hc2.2,if_neg (by simp),if_neg (by simp),if_pos hc,runB_drop hd hall f3,cutB_drop hd,numT_decD hm]; rfl

theorem one_minus {L:Bs} {i:Nat} {x:Bs} {d:UInt8} (hd:L.drop i=45::d::x) (hh:dgC d=true):oneT L i=some (⟨1,[45],0,i,false⟩,i+1):=by
 have h0:=get_drop0 hd
 have h1:L[i+1]? = some d:=get_drop (x:=[45]) hd
 have f2:sgnC d=false∧d.toNat≠40:=by
  have:=byte_all (p:=fun c=>!(dgC c) || (!sgnC c && !decide (c.toNat=40))) (by decide +kernel) d
  rw [hh] at this
  simpa using this
 have hr:runB sgnC L i=i+1:=runB_drop (x:=[45]) hd (by decide) f2.1
 have ho:opnB L (i+1)=false:=by unfold opnB; rw [h1]; simpa using f2.2
 unfold oneT
 rw [h0]
 simp only
 rw [if_neg (by decide),if_neg (by decide),if_neg (by decide),if_neg (by decide),if_neg (fun h=>absurd h.1 (by decide)),if_neg (by decide),if_neg (by decide),if_neg (fun h=>absurd h.2.1 (by decide)),hr]
 have:cutB L i (i+1)=[45]:=cutB_drop (x:=[45]) hd
 rw [this,nameT_ok (by simp) (by simp),ho]

theorem sgW_facts {c:UInt8} (h:sgWC c=true):lowC c=false∧grtC c=false∧dgC c=false∧c.toNat≠39∧c.toNat≠33∧c.toNat≠59∧c.toNat≠91∧c.toNat≠46∧mrkC c=false∧sgnC c=true∧blkC c=false∧c.toNat≠37:=by
 have:=byte_all (p:=fun c=>!(sgWC c) || (!lowC c && !grtC c && !dgC c && !decide (c.toNat=39) && !decide (c.toNat=33) && !decide (c.toNat=59) && !decide (c.toNat=91) && !decide (c.toNat=46) && !mrkC c&&sgnC c && !blkC c && !decide (c.toNat=37))) (by decide +kernel) c
 rw [h] at this
 simpa [and_assoc] using this

theorem one_name {L:Bs} {i:Nat} {s r:Bs} {h:UInt8} {o:Bool} (hd:L.drop i=nameB s++h::r) (h1:1≤s.length) (h2:s.length≤20) (hs:∀ c∈s,32≤c.toNat∧c.toNat≤126) (ho:if o then h=40 else cloC h=true):oneT L i=some (⟨1,s,0,i,o⟩,i+(nameB s).length):=by
 have hh:cloC h=true∨h=40:=by cases o <;> simp at ho <;> simp [ho]
 obtain ⟨f1,f2,f3,f4⟩:=clo_facts hh
 have hop:=opnB_of (get_drop hd) ho
 unfold nameB at hd hop ⊢
 by_cases hp:plainB s=true
 ·rw [if_pos hp] at hd hop ⊢
  obtain ⟨c,x,rfl⟩:∃ c x,s=c::x:=by
   cases s with
   | nil=>simp at h1
   | cons c x=>exact ⟨c,x,rfl⟩
  have h0:L[i]? = some c:=get_drop0 (r:=x++h::r) (by rw [hd]; rfl)
  unfold oneT
  rw [h0]
  simp only
  simp only [plainB,Bool.or_eq_true,beq_iff_eq] at hp
  rcases hp with (((hp | hp) | hp) | hp) | hp
  ·simp only [wordB,Bool.and_eq_true] at hp
   have hall:(c::x).all folC=true:=by rw [List.all_cons,hp.2,show folC c=true by simp [folC,hp.1]]; rfl
   rw [if_pos hp.1,runB_drop hd hall f1,cutB_drop hd,nameT_ok h1 h2,hop]
  ·simp only [signB,Bool.and_eq_true] at hp
   have hall:=hp.2
   rw [List.all_cons,Bool.and_eq_true] at hall
   obtain ⟨a1,a2,a3,a4,a5,a6,a7,a8,a9,_,_,_⟩:=sgW_facts hall.1
   have hall2:(c::x).all sgnC=true:=List.all_eq_true.2 fun d hd=>(sgW_facts (List.all_eq_true.1 hp.2 d hd)).2.2.2.2.2.2.2.2.2.1
   rw [a1,a2,a3,if_neg (by simp),if_neg (by simp),if_neg (by simp),if_neg a4,if_neg (fun h=>a7 h.1),if_neg (by omega),a9,if_neg (by simp),if_neg (fun h=>a8 h.2.1),runB_drop hd hall2 f2,cutB_drop hd,nameT_ok h1 h2,hop]
  ·cases hp
   rw [if_neg (by decide),if_neg (by decide),if_neg (by decide),if_neg (by decide),if_neg (fun h=>absurd h.1 (by decide)),if_pos (by decide),nameT_ok (by simp) (by simp)]
   rw [show opnB L (i+1)=o from hop]; rfl
  ·cases hp
   rw [if_neg (by decide),if_neg (by decide),if_neg (by decide),if_neg (by decide),if_neg (fun h=>absurd h.1 (by decide)),if_pos (by decide),nameT_ok (by simp) (by simp)]
   rw [show opnB L (i+1)=o from hop]; rfl
  ·cases hp
   have h9:L[i+1]? = some 93:=get_drop (x:=[91]) (by rw [hd]; rfl)
   rw [if_neg (by decide),if_neg (by decide),if_neg (by decide),if_neg (by decide),if_pos ⟨by decide,by rw [h9]; rfl⟩,nameT_ok (by simp) (by simp)]
   rw [show opnB L (i+2)=o from hop]; rfl
 ·rw [if_neg hp] at hd hop ⊢
  have h0:L[i]? = some 39:=get_drop0 (r:=(dblB s++[39])++h::r) (by rw [hd]; rfl)
  have h1':L.drop (i+1)=dblB s++39::h::r:=by
   have:=drop_drop (x:=[39]) (r:=(dblB s++[39])++h::r) (by rw [hd]; rfl)
   simpa using this
  unfold oneT
  rw [h0]
  simp only
  rw [if_neg (by decide),if_neg (by decide),if_neg (by decide),if_pos (by decide),h1',quo_dbl s h r hs f4]
  simp only
  have hl:i+(39::(dblB s++[39])).length=i+1+((dblB s).length+1):=by simp; omega
  rw [hl] at hop ⊢
  rw [nameT_ok h1 h2,hop]

theorem toks_step {f:Nat} {L:Bs} {i to:Nat} {t:Tk} (hi:passN L i=i) (hl:i<L.length) (h1:oneT L i=some (t,to)) {l:List Tk} (h:toks f L to=.ok l):toks (f+1) L i=.ok (t::l):=by
 rw [toks,hi,if_pos hl,h1]
 simp only [h]

theorem pass_at {L:Bs} {i:Nat} {c:UInt8} {r:Bs} (hd:L.drop i=c::r) (h1:blkC c=false) (h2:c.toNat≠37):passN L i=i∧i<L.length:=by
 refine ⟨?_,(List.getElem?_eq_some_iff.1 (get_drop0 hd)).1⟩
 unfold passN
 rw [hd,skipL,if_neg h2,h1]; rfl

theorem head_ok {p:Pc} {h:UInt8} (hp:okPc p h):∃ c x,pcB p=c::x∧blkC c=false∧c.toNat≠37:=by
 cases p with
 | mk c=>exact ⟨c,[],rfl,(mark_facts hp.1).2.2.2.2.2.2.1,(mark_facts hp.1).2.2.2.2.2.2.2.1⟩
 | var n=>exact ⟨95,_,rfl,by decide,by decide⟩
 | num n =>
  have hdig:∀ m,∃ c x,Lib.decDigits m=c::x∧blkC c=false∧c.toNat≠37:=fun m=>by
   cases hq:Lib.decDigits m with
   | nil=>exact absurd hq (decD_ne m)
   | cons c x =>
    have hall:=decD_dig m
    rw [hq,List.all_cons,Bool.and_eq_true] at hall
    have:=byte_all (p:=fun c=>!(dgC c) || (!blkC c && !decide (c.toNat=37))) (by decide +kernel) c
    rw [hall.1] at this
    exact ⟨c,x,rfl,by simpa using this⟩
  show ∃ c x,Lib.itoa n=c::x∧_
  unfold Lib.itoa
  split
  ·exact ⟨45,_,rfl,by decide,by decide⟩
  ·exact hdig _
 | name s o =>
  show ∃ c x,nameB s=c::x∧_
  unfold nameB
  split
  ·rename_i hp2
   cases s with
   | nil=>simp [plainB,wordB,signB] at hp2
   | cons c x =>
    refine ⟨c,x,rfl,?_⟩
    simp only [plainB,Bool.or_eq_true,beq_iff_eq] at hp2
    rcases hp2 with (((hp2 | hp2) | hp2) | hp2) | hp2
    ·simp only [wordB,Bool.and_eq_true] at hp2
     have:=byte_all (p:=fun c=>!(lowC c) || (!blkC c && !decide (c.toNat=37))) (by decide +kernel) c
     rw [hp2.1] at this
     simpa using this
    ·simp only [signB,Bool.and_eq_true,List.all_cons] at hp2
     obtain ⟨_,_,_,_,_,_,_,_,_,_,a,b⟩:=sgW_facts hp2.2.1
     exact ⟨a,b⟩
    ·cases hp2; decide
    ·cases hp2; decide
    ·cases hp2; decide
  ·exact ⟨39,_,rfl,by decide,by decide⟩

theorem toks_P:∀ (ps:List Pc) (f:Nat) (L:Bs) (i:Nat),L.drop i=flatP ps++[32,46]→chain ps 32→L.length+1≤f+i→toks f L i=.ok (tkP i ps++[⟨5,[46],0,(i+(flatP ps).length+1:Nat),false⟩])
 | [],f,L,i,hd,_,hf=>by
  have hd:L.drop i=[32,46]:=hd
  have hlen:L.length=i+2:=by have:=congrArg List.length hd; rw [List.length_drop] at this; simp at this; omega
  obtain ⟨g,rfl⟩:∃ g,f=g+2:=⟨f - 2,by omega⟩
  have hp:passN L i=i+1:=by unfold passN; rw [hd]; rfl
  have h46:L[i+1]? = some 46:=get_drop (x:=[32]) (r:=[]) hd
  have hd1:L.drop (i+1)=[46]:=drop_drop (x:=[32]) hd
  have hr:runB sgnC L (i+1)=i+1+1:=by unfold runB; rw [hd1]; rfl
  have h1:oneT L (i+1)=some (⟨5,[46],0,(i+1:Nat),false⟩,i+2):=by
   unfold oneT
   rw [h46]
   simp only
   rw [if_neg (by decide),if_neg (by decide),if_neg (by decide),if_neg (by decide),if_neg (fun h=>absurd h.1 (by decide)),if_neg (by decide),if_neg (by decide),if_pos ⟨hr,by decide,by unfold endAft; rw [List.getElem?_eq_none (by omega)]⟩]
  have h2:toks (g+1) L (i+2)=.ok []:=by
   rw [toks,show passN L (i+2)=i+2 by unfold passN; rw [List.drop_eq_nil_of_le (by omega)]; rfl,if_neg (by omega)]
  rw [toks,hp,if_pos (by omega),h1]
  simp only [h2]
  rfl
 | p::r,f,L,i,hd,hc,hf=>by
  obtain ⟨hok,hr⟩:=hc
  rw [flatP_cons,List.append_assoc] at hd
  -- what stands behind
  obtain ⟨h,q,hq,hh⟩:∃ h q,flatP r++[32,46]=h::q∧hdP r 32=h:=by
   cases r with
   | nil=>exact ⟨32,[46],rfl,rfl⟩
   | cons p2 r2 =>
    cases hp2:pcB p2 with
    | nil=>exact absurd hp2 (pcB_ne p2)
    | cons c x=>exact ⟨c,x++(flatP r2++[32,46]),by rw [flatP_cons,hp2]; simp,by simp [hdP,hp2,headB]⟩
  rw [hh] at hok
  obtain ⟨c0,x0,e0,b1,b2⟩:=head_ok hok
  obtain ⟨hpass,hlt⟩:=pass_at (r:=x0++(flatP r++[32,46])) (by rw [hd,e0]; rfl) b1 b2
  have hd2:L.drop (i+(pcB p).length)=flatP r++[32,46]:=drop_drop hd
  have hpl:1≤(pcB p).length:=List.length_pos_iff.2 (pcB_ne p)
  have hend:(i+(flatP (p::r)).length+1:Nat)=(i+(pcB p).length+(flatP r).length+1:Nat):=by rw [flatP_cons,List.length_append]; omega
  rw [hend,tkP,List.append_assoc]
  obtain ⟨g,rfl⟩:∃ g,f=g+1:=⟨f - 1,by omega⟩
  rw [hq] at hd
  have ih:=fun g hg=>toks_P r g L (i+(pcB p).length) hd2 hr hg
  cases p with
  | mk c=>exact toks_step hpass hlt (one_mk hd hok.1 hok.2) (ih g (by simp only [pcB,List.length_cons,List.length_nil] at hpl ⊢; omega))
  | var n =>
   obtain ⟨n0,n1,hcl⟩:=hok
   have hit:Lib.itoa n=Lib.decDigits n.toNat:=by rw [Lib.itoa,if_neg (by omega)]
   have hall:(Lib.itoa n).all dgC=true:=by rw [hit]; exact decD_dig _
   have hl:(Lib.itoa n).length≤19:=by rw [hit]; have:=decD_le (m:=n.toNat) (by omega); omega
   exact toks_step hpass hlt (one_var hd hall hl hcl) (ih g (by simp only [pcB,List.length_cons] at hpl ⊢; omega))
  | num n =>
   obtain ⟨n0,n1,hcl⟩:=hok
   by_cases hn:n<0
   ·have hit:Lib.itoa n=45::Lib.decDigits n.natAbs:=by rw [Lib.itoa,if_pos hn]
    have hd':L.drop i=45::(Lib.decDigits n.natAbs++h::q):=by rw [hd]; show Lib.itoa n++_=_; rw [hit]; rfl
    have hd1:L.drop (i+1)=Lib.decDigits n.natAbs++h::q:=drop_drop (x:=[45]) hd'
    obtain ⟨d,x,hdx⟩:∃ d x,Lib.decDigits n.natAbs=d::x:=by
     cases hq:Lib.decDigits n.natAbs with
     | nil=>exact absurd hq (decD_ne _)
     | cons c x=>exact ⟨c,x,rfl⟩
    have hdd:dgC d=true:=by have:=decD_dig n.natAbs; rw [hdx,List.all_cons,Bool.and_eq_true] at this; exact this.1
    have h1:=one_minus (by rw [hd',hdx]; rfl) hdd
    have h2:=one_num hd1 (by omega) hcl
    have hp2:passN L (i+1)=i+1∧i+1<L.length:=by
     have hbl:=byte_all (p:=fun c=>!(dgC c) || (!blkC c && !decide (c.toNat=37))) (by decide +kernel) d
     rw [hdd] at hbl
     have hbl:blkC d=false∧d.toNat≠37:=by simpa using hbl
     exact pass_at (c:=d) (r:=x++h::q) (by rw [hd1,hdx]; rfl) hbl.1 hbl.2
    have hpl2:(pcB (.num n)).length=1+(Lib.decDigits n.natAbs).length:=by show (Lib.itoa n).length=_; rw [hit]; simp; omega
    have hdl:1≤(Lib.decDigits n.natAbs).length:=List.length_pos_iff.2 (decD_ne _)
    obtain ⟨g2,rfl⟩:∃ g2,g=g2+1:=⟨g - 1,by
     have:(L.drop i).length=1+((Lib.decDigits n.natAbs).length+(1+q.length)):=by rw [hd']; simp; omega
     rw [List.length_drop] at this; omega⟩
    have h3:=ih g2 (by rw [hpl2]; omega)
    rw [hpl2] at h3 ⊢
    rw [show tk1 i (.num n)=[⟨1,[45],0,i,false⟩,⟨3,Lib.decDigits n.natAbs,n.natAbs,(i+1:Nat),false⟩] by rw [tk1,if_pos hn]]
    refine toks_step hpass hlt h1 (toks_step hp2.1 hp2.2 h2 ?_)
    rw [show i+1+(Lib.decDigits n.natAbs).length=i+(1+(Lib.decDigits n.natAbs).length) by omega]
    exact h3
   ·have hit:Lib.itoa n=Lib.decDigits n.toNat:=by rw [Lib.itoa,if_neg hn]
    have hd':L.drop i=Lib.decDigits n.toNat++h::q:=by rw [hd]; show Lib.itoa n++_=_; rw [hit]
    have h1:=one_num hd' (by omega) hcl
    have hpl2:(pcB (.num n)).length=(Lib.decDigits n.toNat).length:=by show (Lib.itoa n).length=_; rw [hit]
    have h3:=ih g (by omega)
    rw [hpl2] at h3 ⊢
    rw [show tk1 i (.num n)=[⟨3,Lib.decDigits n.toNat,n.toNat,i,false⟩] by rw [tk1,if_neg hn]]
    exact toks_step hpass hlt h1 h3
  | name s o =>
   obtain ⟨s1,s2,s3,s4⟩:=hok
   exact toks_step hpass hlt (one_name hd s1 s2 s3 s4) (ih g (by simp only [pcB] at hpl ⊢; omega))
end PSL

namespace PSL
open Go

mutual
def leastT:Tm→Bool
 | .mk k _ n l=>leastL l || ((k==2)&&decide (n < -9223372036854775807))
def leastL:List Tm→Bool
 | []=>false
 | x::r=>leastT x || leastL r
end
theorem leastT_eq (t:Tm):leastT t=(leastL t.l || ((t.k==2)&&decide (t.n < -9223372036854775807))):=by cases t; rw [leastT]; rfl

theorem leastL_no:∀ {l:List Tm},leastL l=false→∀ x∈l,leastT x=false
 | [],_,_,h=>by cases h
 | y::r,h,x,hx=>by
  simp only [leastL,Bool.or_eq_false_iff] at h
  rcases List.mem_cons.1 hx with rfl | hx
  ·exact h.1
  ·exact leastL_no h.2 x hx

theorem pq_cell {t a b:Tm} (h:cellT t=true) (hl:t.l=[a,b]):pq t=.mk 91::(pq a++pqTl b):=by
 cases t with
 | mk k s n l =>
  simp only [Tm.l] at hl
  subst hl
  simp only [cellT,Tm.k,Tm.s,Tm.l] at h
  simp only [pq,h,if_true,pqCell,pqCell2]

theorem pqTl_cell {t a b:Tm} (h:cellT t=true) (hl:t.l=[a,b]):pqTl t=.mk 44::(pq a++pqTl b):=by
 cases t with
 | mk k s n l =>
  simp only [Tm.l] at hl
  subst hl
  simp only [cellT,Tm.k,Tm.s,Tm.l] at h
  simp only [pqTl,h,if_true,pqCell,pqCell2]

theorem pq_atom {t:Tm} (h:cellT t=false):pq t=atomQ t.k t.s t.n t.l.isEmpty (pqArgs true t.l):=by
 cases t with
 | mk k s n l =>
  simp only [cellT,Tm.k,Tm.s,Tm.l] at h
  simp only [pq,h,Bool.false_eq_true,if_false,Tm.k,Tm.s,Tm.l,Tm.n]

theorem pqTl_nil {t:Tm} (h:cellT t=false) (hn:nilK t.k t.s t.l=true):pqTl t=[.mk 93]:=by
 cases t with
 | mk k s n l =>
  simp only [cellT,Tm.k,Tm.s,Tm.l] at h hn
  simp only [pqTl,h,hn,Bool.false_eq_true,if_false,if_true]

theorem pqTl_rest {t:Tm} (h:cellT t=false) (hn:nilK t.k t.s t.l=false):pqTl t=.mk 124::(pq t++[.mk 93]):=by
 rw [pq_atom h]
 cases t with
 | mk k s n l =>
  simp only [cellT,Tm.k,Tm.s,Tm.l] at h hn
  simp only [pqTl,h,hn,Bool.false_eq_true,if_false,Tm.k,Tm.s,Tm.l,Tm.n]

structure BkT (t:Tm):Prop where
 fair:t.fairR=true
 fit:t.Fit
 low:leastT t=false

theorem BkT.sub {t x:Tm} (h:BkT t) (hx:x∈t.l):BkT x:=by
 have hf:=h.fair
 rw [Tm.fairR_eq] at hf
 simp only [Bool.and_eq_true] at hf
 have hl:=h.low
 rw [leastT_eq,Bool.or_eq_false_iff] at hl
 exact ⟨Tm.fairRL_iff.1 hf.1.2 x hx,h.fit.sub hx,leastL_no hl.1 x hx⟩

theorem BkT.kinds {t:Tm} (h:BkT t):(t.k=1∧0≤t.n∧t.n<1000000∧t.s=ByteArray.empty∧t.l=[])∨(t.k=2∧-9223372036854775807≤t.n∧t.n≤9223372036854775807∧t.s=ByteArray.empty∧t.l=[]) ∨
  (t.k=3∧t.n=0∧1≤t.s.data.toList.length∧t.s.data.toList.length≤20∧(∀ c∈t.s.data.toList,32≤c.toNat∧c.toNat≤126)):=by
 have hf:=h.fair
 rw [Tm.fairR_eq] at hf
 simp only [Bool.and_eq_true] at hf
 obtain ⟨⟨h1,h2⟩,h3⟩:=hf
 have he:∀ s:ByteArray,strEq s ⟨#[]⟩=true→s=ByteArray.empty:=fun s hs=>Tm.strEq_iff.1 hs
 have hl:∀ {l:List Tm},((l.length:Int)==0)=true→l=[]:=fun hl=>List.eq_nil_of_length_eq_zero (by simpa using hl)
 have hi:=h.fit 0 (0,t) (by rw [Tm.els_eq]; simp)
 have hlow:=h.low
 rw [leastT_eq,Bool.or_eq_false_iff] at hlow
 unfold Tm.kindR at h3
 split at h3
 ·rename_i hk
  simp only [Bool.and_eq_true,decide_eq_true_eq] at h3
  exact .inl ⟨hk,h3.1.1.1,h3.1.1.2,he _ h3.1.2,hl h3.2⟩
 ·split at h3
  ·rename_i hk
   simp only [Bool.and_eq_true] at h3
   have hlow2:=hlow.2
   rw [hk] at hlow2
   simp at hlow2
   exact .inr (.inl ⟨hk,by omega,hi.2.2,he _ h3.1,hl h3.2⟩)
  ·simp only [Bool.and_eq_true,decide_eq_true_eq,beq_iff_eq] at h3
   have hss:t.s.data.toList.length=t.s.size:=rfl
   refine .inr (.inr ⟨h3.1.1.1.1,h3.1.1.1.2,by omega,by omega,fun c hc=>?_⟩)
   have:=List.all_eq_true.1 h1 c hc
   simp [byteOk] at this
   omega

theorem nameB_head {s:Bs} (h:UInt8):headB (nameB s) h≠93:=by
 unfold nameB
 split
 ·rename_i hp2
  cases s with
  | nil=>simp [plainB,wordB,signB] at hp2
  | cons c x =>
   show c≠93
   rintro rfl
   simp [plainB,wordB,signB] at hp2
   rcases hp2 with hp2 | hp2
   ·exact absurd hp2.1 (by decide)
   ·exact absurd hp2.1 (by decide)
 ·show (39:UInt8)≠93; decide

theorem itoa_head {n:Int} (h:UInt8):headB (Lib.itoa n) h≠93:=by
 unfold Lib.itoa
 split
 ·show (45:UInt8)≠93; decide
 ·cases hq:Lib.decDigits n.toNat with
  | nil=>exact absurd hq (decD_ne _)
  | cons c x =>
   show c≠93
   rintro rfl
   have hall:=decD_dig n.toNat
   rw [hq] at hall
   simp [dgC] at hall

theorem chain_pq (t:Tm):BkT t→(∀ h,cloC h=true→chain (pq t) h∧hdP (pq t) h≠93)∧(∀ h,cloC h=true→chain (pqTl t) h∧cloC (hdP (pqTl t) h)=true):=by
 induction t using Tm.ind with
 | h t ih =>
  intro hb
  have hsub:=fun x hx=>ih x hx (hb.sub hx)
  have hargs:∀ (l:List Tm) (f:Bool),(∀ x∈l,x∈t.l)→∀ h,cloC h=true→chain (pqArgs f l) h∧hdP (pqArgs f l) h=if l.isEmpty then h else if f then 40 else 44:=by
   intro l
   induction l with
   | nil=>intro f _ h hh; exact ⟨trivial,rfl⟩
   | cons x r ih2 =>
    intro f hm h hh
    obtain ⟨c1,c2⟩:=ih2 false (fun y hy=>hm y (by simp [hy])) h hh
    have hx:=(hsub x (hm x (by simp))).1
    have hcl:cloC (hdP (pqArgs false r) h)=true:=by rw [c2]; cases r.isEmpty <;> simp [hh] <;> decide
    rw [pqArgs]
    refine ⟨⟨?_,?_⟩,?_⟩
    ·cases f <;> exact ⟨by decide,fun e=>absurd e (by decide)⟩
    ·rw [chain_app]; exact ⟨(hx _ hcl).1,c1⟩
    ·cases f <;> rfl
  have hatom:cellT t=false→∀ h,cloC h=true→chain (pq t) h∧hdP (pq t) h≠93:=by
   intro hc h hh
   rw [pq_atom hc]
   rcases hb.kinds with ⟨k1,n0,n1,_,_⟩ | ⟨k2,n0,n1,_,_⟩ | ⟨k3,n0,s1,s2,s3⟩
   ·rw [atomQ,if_pos k1]
    exact ⟨⟨⟨n0,n1,hh⟩,trivial⟩,by show (95:UInt8)≠93; decide⟩
   ·rw [atomQ,if_neg (by omega),if_pos k2]
    exact ⟨⟨⟨n0,n1,hh⟩,trivial⟩,itoa_head h⟩
   ·rw [atomQ,if_neg (by omega),if_neg (by omega)]
    refine ⟨?_,nameB_head h⟩
    cases hl:t.l with
    | nil=>exact ⟨⟨s1,s2,s3,hh⟩,trivial⟩
    | cons x r =>
     obtain ⟨c1,c2⟩:=hargs (x::r) true (fun y hy=>by rw [hl]; exact hy) 41 (by decide)
     refine ⟨⟨s1,s2,s3,?_⟩,?_⟩
     ·show hdP (pqArgs true (x::r)++[.mk 41]) h=40
      rw [hdP_app]; exact c2
     ·show chain (pqArgs true (x::r)++[.mk 41]) h
      rw [chain_app]
      exact ⟨c1,⟨by decide,fun e=>absurd e (by decide)⟩,trivial⟩
  by_cases hc:cellT t=true
  ·obtain ⟨a,b,hab⟩:=cellT_l hc
   have sa:=(hsub a (by rw [hab]; simp)).1
   have sb:=(hsub b (by rw [hab]; simp)).2
   rw [pq_cell hc hab,pqTl_cell hc hab]
   have both:∀ h,cloC h=true→chain (pq a++pqTl b) h∧hdP (pq a++pqTl b) h≠93:=fun h hh=>by
    obtain ⟨c1,c2⟩:=sb h hh
    obtain ⟨c3,c4⟩:=sa _ c2
    exact ⟨(chain_app _ _ _).2 ⟨c3,c1⟩,by rw [hdP_app]; exact c4⟩
   refine ⟨fun h hh=>⟨⟨⟨by decide,fun _=>(both h hh).2⟩,(both h hh).1⟩,by show (91:UInt8)≠93; decide⟩,fun h hh=>⟨⟨⟨by decide,fun e=>absurd e (by decide)⟩,(both h hh).1⟩,by show cloC 44=true; decide⟩⟩
  ·have hc:cellT t=false:=by simpa using hc
   refine ⟨hatom hc,fun h hh=>?_⟩
   by_cases hn:nilK t.k t.s t.l=true
   ·rw [pqTl_nil hc hn]
    exact ⟨⟨⟨by decide,fun e=>absurd e (by decide)⟩,trivial⟩,by show cloC 93=true; decide⟩
   ·rw [pqTl_rest hc (by simpa using hn)]
    refine ⟨⟨⟨by decide,fun e=>absurd e (by decide)⟩,?_⟩,by show cloC 124=true; decide⟩
    rw [chain_app]
    exact ⟨(hatom hc 93 (by decide)).1,⟨by decide,fun e=>absurd e (by decide)⟩,trivial⟩
end PSL

namespace PSL
open Go
def vtx (n:Int):Bs:=95::Lib.itoa n
def namesV (vs:List Int):List Bs:=vs.map vtx

theorem vtx_inj {a b:Int} (ha:0≤a) (hb:0≤b) (h:vtx a=vtx b):a=b:=by
 have h1:Lib.itoa a=Lib.itoa b:=(List.cons.inj h).2
 rw [Lib.itoa,Lib.itoa,if_neg (by omega),if_neg (by omega)] at h1
 have:=congrArg (valN 0) h1
 rw [decD_val,decD_val] at this
 omega
theorem vtx_ne (n:Int):vtx n≠[95]:=fun h=>itoa_ne n (List.cons.inj h).2

theorem idxV_at:∀ (vs:List Int) (n:Int) (k:Nat),(∀ v∈vs,0≤v)→0≤n→(n∈vs→∃ j,idxV (namesV vs) (vtx n) k=some (k+j)∧∀ i,atI vs n i=i+(j:Int))∧(n ∉ vs→idxV (namesV vs) (vtx n) k=none)
 | [],n,k,_,_=>⟨fun h=>(by cases h),fun _=>rfl⟩
 | v::r,n,k,hv,hn=>by
  obtain ⟨h1,h2⟩:=idxV_at r n (k+1) (fun x hx=>hv x (by simp [hx])) hn
  have hv0:=hv v (by simp)
  show (n∈v::r→∃ j,(if vtx v=vtx n then some k else idxV (namesV r) (vtx n) (k+1))=some (k+j)∧∀ i,(if v=n then i else atI r n (i+1))=i+(j:Int))∧(n ∉ v::r→(if vtx v=vtx n then some k else idxV (namesV r) (vtx n) (k+1))=none)
  by_cases e:v=n
  ·subst e
   exact ⟨fun _=>⟨0,by simp,fun i=>by simp⟩,fun h=>absurd (List.mem_cons_self ..) h⟩
  ·have e2:vtx v≠vtx n:=fun h=>e (vtx_inj hv0 hn h)
   rw [if_neg e2]
   refine ⟨fun hm=>?_,fun hm=>h2 fun h=>hm (by simp [h])⟩
   obtain ⟨j,g1,g2⟩:=h1 ((List.mem_cons.1 hm).resolve_left fun h=>e h.symm)
   exact ⟨j+1,by rw [g1]; congr 1; omega,fun i=>by rw [if_neg e,g2]; push_cast; omega⟩

theorem atI_app_in:∀ (vs m:List Int) (n i:Int),n∈vs→atI (vs++m) n i=atI vs n i
 | [],_,_,_,h=>by cases h
 | v::r,m,n,i,h=>by
  show (if v=n then i else atI (r++m) n (i+1))=(if v=n then i else atI r n (i+1))
  by_cases e:v=n
  ·rw [if_pos e,if_pos e]
  ·rw [if_neg e,if_neg e,atI_app_in r m n (i+1) ((List.mem_cons.1 h).resolve_left fun h=>e h.symm)]

theorem atI_app_new:∀ (vs:List Int) (n i:Int),n ∉ vs→atI (vs++[n]) n i=i+vs.length
 | [],n,i,_=>by simp [atI]
 | v::r,n,i,h=>by
  show (if v=n then i else atI (r++[n]) n (i+1))=_
  rw [if_neg (fun e=>h (by simp [e])),atI_app_new r n (i+1) (fun hm=>h (by simp [hm]))]
  simp only [List.length_cons]; push_cast; omega
theorem placeG_app {vs m:List Int} {n:Int} (h:n∈vs):placeG (vs++m) n=placeG vs n:=by unfold placeG; rw [atI_app_in vs m n 0 h]

theorem var_step {st:RSt} {vs:List Int} {n:Int} (hst:st.names=namesV vs) (hv:∀ v∈vs,0≤v) (hn:0≤n):varR st (vtx n)=(placeG (addV vs n) n,{ st with names:=namesV (addV vs n) }):=by
 obtain ⟨h1,h2⟩:=idxV_at vs n 0 hv hn
 unfold varR
 rw [if_neg (vtx_ne n),hst]
 by_cases hm:n∈vs
 ·obtain ⟨j,g1,g2⟩:=h1 hm
  rw [g1]
  have:addV vs n=vs:=by unfold addV; rw [if_pos (by simpa using hm)]
  rw [this]
  simp only [placeG,g2 0]
  rw [if_neg (by omega)]
  cases st; simp only at hst; subst hst
  simp
 ·rw [h2 hm]
  have:addV vs n=vs++[n]:=by unfold addV; rw [if_neg (by simpa using hm)]
  rw [this]
  simp only [placeG,atI_app_new vs n 0 hm]
  rw [if_neg (by omega:¬ (0+(vs.length:Int)<0))]
  simp [namesV,vtx_ne n]

theorem addV_ext (a:List Int) (x:Int):∃ m,addV a x=a++m:=by
 unfold addV; split
 ·exact ⟨[],by simp⟩
 ·exact ⟨[x],rfl⟩

theorem foldV_ext:∀ (l a:List Int),∃ m,l.foldl addV a=a++m
 | [],a=>⟨[],by simp⟩
 | x::l,a=>by
  obtain ⟨m,h⟩:=addV_ext a x
  obtain ⟨m2,h2⟩:=foldV_ext l (addV a x)
  exact ⟨m++m2,by rw [List.foldl_cons,h2,h,List.append_assoc]⟩
theorem withV_ext (t:Tm) (a:List Int):∃ m,Tm.withV a t=a++m:=by rw [Tm.withV_occ]; exact foldV_ext _ _
theorem withVL_ext (l:List Tm) (a:List Int):∃ m,Tm.withVL a l=a++m:=by rw [Tm.withVL_occ]; exact foldV_ext _ _
theorem withV_in {t:Tm} {a:List Int} {v:Int} (h:v∈Tm.occ t):v∈Tm.withV a t:=by rw [Tm.withV_occ,Tm.mem_foldl]; exact .inr h

theorem withV_pos {t:Tm} {a:List Int} (hf:t.fairR=true) (ha:∀ v∈a,0≤v):∀ v∈Tm.withV a t,0≤v:=fun v hv=>by
 rw [Tm.withV_occ,Tm.mem_foldl] at hv
 rcases hv with hv | hv
 ·exact ha v hv
 ·have:=(Tm.occL_range [t] (one_fair hf) v (by simpa [Tm.occL] using hv)).1
  omega

theorem turn_later {t:Tm} {a m:List Int} (hf:t.fairR=true):Tm.turnT (placeG (Tm.withV a t++m)) t=Tm.turnT (placeG (Tm.withV a t)) t :=
 Tm.turn_congr t hf fun v hv=>placeG_app (withV_in hv)

theorem peek_of {L:List Tk} {st:RSt} {t:Tk} {r:List Tk} (he:st.e=0) (hd:L.drop st.at_=t::r):peekR L st=t∧st.at_<L.length:=by
 have:L[st.at_]? = some t:=by
  have:(L.drop st.at_)[0]? = some t:=by rw [hd]; rfl
  rwa [List.getElem?_drop,Nat.add_zero] at this
 refine ⟨?_,(List.getElem?_eq_some_iff.1 this).1⟩
 unfold peekR; rw [if_neg (by simp [he]),this]; rfl

theorem drop_nx {L:List Tk} {st:RSt} {t:Tk} {r:List Tk} (hd:L.drop st.at_=t::r):L.drop (nxR st).at_=r:=by
 show L.drop (st.at_+1)=r
 rw [← List.drop_drop,hd]; rfl

def cloK (p:Int) (k:Tk):Prop:=(k.kind=4∧(k.text=[41]∨k.text=[124]∨k.text=[93]∨(k.text=[44]∧p=999)))∨k.kind=5

theorem rest_end {L:List Tk} {T:TF} {f deep:Nat} {p now:Int} {out:Tm} {st:RSt} {kt:Tk} {R:List Tk} (he:st.e=0) (hd:L.drop st.at_=kt::R) (hk:cloK p kt):∃ lay,restR L T (f+1) deep p out now st=some (out,⟨st.at_,st.names,st.bad,0,lay⟩):=by
 have hp:=(peek_of he hd).1
 have key:∀ st2:RSt,(st2=st∨st2=mkR st)→∃ lay,(some (out,st2):Option (Tm × RSt))=some (out,⟨st.at_,st.names,st.bad,0,lay⟩):=by
  rintro st2 (rfl | rfl)
  ·exact ⟨st2.lay,by rw [← he]⟩
  ·exact ⟨true,by rw [← he]; rfl⟩
 have hin:∀ st2:RSt,inS L st=st2→st2=st∨st2=mkR st:=by
  rintro st2 rfl
  unfold inS; split
  ·exact .inl rfl
  ·exact .inr rfl
 rw [restR,if_neg (by simp [he]),hp]
 rcases hk with ⟨h4,hk⟩ | h5
 ·rcases hk with hk | hk | hk | ⟨hk,rfl⟩
  ·rw [inT,if_pos ⟨by omega,.inr (by rw [hk]; decide)⟩]; exact key _ (hin _ rfl)
  ·rw [inT,if_pos ⟨by omega,.inr (by rw [hk]; decide)⟩]; exact key _ (hin _ rfl)
  ·rw [inT,if_pos ⟨by omega,.inr (by rw [hk]; decide)⟩]; exact key _ (hin _ rfl)
  ·rw [inT,if_neg (by rw [hk]; simp [h4]),hk,show infT [44]=some (1000,999,1000) by decide]
   simp only
   rw [if_pos (.inl (by decide))]
   exact key _ (hin _ rfl)
 ·rw [inT,if_pos ⟨by omega,.inl (by omega)⟩]; exact key _ (hin _ rfl)

theorem clo_beg {L:List Tk} {st:RSt} {kt:Tk} {R:List Tk} {p:Int} (he:st.e=0) (hd:L.drop st.at_=kt::R) (hk:cloK p kt):begR L st=false∧begS L st=st∧kt.kind≠3:=by
 have hp:=(peek_of he hd).1
 unfold begR begS
 rw [hp]
 rcases hk with ⟨h4,hk⟩ | h5
 ·refine ⟨?_,by rw [if_neg (by omega)],by omega⟩
  rcases hk with hk | hk | hk | ⟨hk,_⟩ <;> simp [h4,hk]
 ·exact ⟨by simp [h5],by rw [if_neg (by omega)],by omega⟩

def stAt (st:RSt) (k:Nat) (vs:List Int) (lay:Bool):RSt:=⟨st.at_+k,namesV vs,st.bad,0,lay⟩

def TermBk (S:Bs) (L:List Tk) (t:Tm):Prop:=∀ (n deep:Nat) (p:Int) (st:RSt) (vs:List Int) (i:Nat) (kt:Tk) (R:List Tk) (Q:Bs),
 t.depth≤n→deep+t.depth≤1000→(∀ v∈vs,0≤v)→st.e=0→st.names=namesV vs→L.drop st.at_=tkP i (pq t)++kt::R→S.drop i=flatP (pq t)++Q→cloK p kt →
 ∃ lay,termR false S L n deep p st=some (Tm.turnT (placeG (Tm.withV vs t)) t,stAt st (tkP i (pq t)).length (Tm.withV vs t) lay)

def tailR (S:Bs) (L:List Tk) (T:TF) (deep:Nat) (x:List Tm × RSt):Option (Tm × RSt) :=
 if isMk (peekR L x.2) [124] then (T deep 999 (nxR x.2)).map fun y=>(consT x.1 y.1,mustR L S.length y.2 [93]) else some (consT x.1 (fnT [91,93] []),mustR L S.length x.2 [93])

def TailBk (S:Bs) (L:List Tk) (t:Tm):Prop:=∀ (n f deep:Nat) (st:RSt) (vs:List Int) (i:Nat) (R:List Tk) (Q:Bs) (acc:List Tm),
 t.depth≤n→deep+t.depth≤1000→(∀ v∈vs,0≤v)→st.e=0→st.names=namesV vs→L.drop st.at_=tkP i (pqTl t)++R→S.drop i=flatP (pqTl t)++Q→L.length+1≤f+st.at_ →
 ∃ lay,(manyR L (termR false S L n) f deep st acc).bind (tailR S L (termR false S L n) deep)=some (consT acc (Tm.turnT (placeG (Tm.withV vs t)) t),stAt st (tkP i (pqTl t)).length (Tm.withV vs t) lay)
end PSL

namespace PSL
open Go
variable {S:Bs} {L:List Tk}

theorem termR_op {m deep:Nat} {p:Int} {st st2:RSt} {out:Tm} {now:Int} {kt:Tk} {R:List Tk} (ho:opndR false S L (termR false S L m) deep p st=some (out,now,st2)) (he:st2.e=0) (hd:L.drop st2.at_=kt::R) (hk:cloK p kt) :
  ∃ lay,termR false S L (m+1) deep p st=some (out,⟨st2.at_,st2.names,st2.bad,0,lay⟩):=by
 obtain ⟨lay,h⟩:=rest_end (T:=termR false S L m) (f:=L.length+1) (deep:=deep) (now:=now) (out:=out) he hd hk
 refine ⟨lay,?_⟩
 show (opndR false S L (termR false S L m) deep p st).bind _=_
 rw [ho]
 exact h
theorem tkP_one (i:Nat) (p:Pc):tkP i [p]=tk1 i p:=by simp [tkP]

theorem bk_var (t:Tm) (hb:BkT t) (k1:t.k=1):TermBk S L t:=by
 intro n deep p st vs i kt R Q hn hdeep hvs he hst hL hS hk
 rcases hb.kinds with ⟨_,n0,n1,hs,hl⟩ | ⟨k2,_⟩ | ⟨k3,_⟩
 rotate_left
 ·omega
 ·omega
 obtain ⟨k,s,v,l⟩:=t
 simp only [Tm.k,Tm.n,Tm.s,Tm.l] at k1 n0 n1 hs hl
 subst k1; subst hs; subst hl
 have hdp:=Tm.depth_eq (.mk 1 ByteArray.empty v [])
 obtain ⟨m,rfl⟩:∃ m,n=m+1:=⟨n - 1,by omega⟩
 have hpq:pq (.mk 1 ByteArray.empty v [])=[.var v]:=by rw [pq_atom (by rfl)]; rfl
 rw [hpq] at hL hS ⊢
 rw [tkP_one] at hL ⊢
 have hL:L.drop st.at_=⟨2,vtx v,0,i,false⟩::kt::R:=hL
 have hp:=(peek_of he hL).1
 have hw:Tm.withV vs (.mk 1 ByteArray.empty v [])=addV vs v:=by rw [Tm.withV_eq]; rfl
 have ho:opndR false S L (termR false S L m) deep p st=some (Tm.vT (placeG (addV vs v) v),0,{ nxR st with names:=namesV (addV vs v) }):=by
  unfold opndR
  rw [if_neg (by omega),hp]
  simp only
  rw [if_neg (by decide),if_pos trivial,var_step (st:=nxR st) hst hvs n0]
 obtain ⟨lay,h⟩:=termR_op (kt:=kt) (R:=R) ho he (drop_nx hL) hk
 refine ⟨lay,?_⟩
 rw [h,hw,Tm.turnT_eq]
 rfl

theorem bk_num (t:Tm) (hb:BkT t) (k2:t.k=2):TermBk S L t:=by
 intro n deep p st vs i kt R Q hn hdeep hvs he hst hL hS hk
 rcases hb.kinds with ⟨k1,_⟩ | ⟨_,n0,n1,hs,hl⟩ | ⟨k3,_⟩
 ·omega
 rotate_left
 ·omega
 obtain ⟨k,s,v,l⟩:=t
 simp only [Tm.k,Tm.n,Tm.s,Tm.l] at k2 n0 n1 hs hl
 subst k2; subst hs; subst hl
 have hdp:=Tm.depth_eq (.mk 2 ByteArray.empty v [])
 obtain ⟨m,rfl⟩:∃ m,n=m+1:=⟨n - 1,by omega⟩
 have hpq:pq (.mk 2 ByteArray.empty v [])=[.num v]:=by rw [pq_atom (by rfl)]; rfl
 rw [hpq] at hL hS ⊢
 rw [tkP_one] at hL ⊢
 have hw:Tm.withV vs (.mk 2 ByteArray.empty v [])=vs:=by rw [Tm.withV_eq]; rfl
 have ht:Tm.turnT (placeG vs) (.mk 2 ByteArray.empty v [])=nmT v:=by rw [Tm.turnT_eq]; rfl
 by_cases hv:v<0
 ·have htk:tk1 i (.num v)=[⟨1,[45],0,i,false⟩,⟨3,Lib.decDigits v.natAbs,v.natAbs,(i+1:Nat),false⟩]:=by rw [tk1,if_pos hv]
  rw [htk] at hL ⊢
  have hL:L.drop st.at_=⟨1,[45],0,i,false⟩::⟨3,Lib.decDigits v.natAbs,v.natAbs,(i+1:Nat),false⟩::kt::R:=hL
  have hp:=(peek_of he hL).1
  have hL2:=drop_nx hL
  have hp2:=(peek_of (st:=nxR st) he hL2).1
  have hS0:S[i]? = some 45:=by
   have hit:Lib.itoa v=45::Lib.decDigits v.natAbs:=by rw [Lib.itoa,if_pos hv]
   refine get_drop0 (r:=Lib.decDigits v.natAbs++Q) ?_
   rw [hS]; show (Lib.itoa v++[])++Q=_; rw [hit]; simp
  have ho:opndR false S L (termR false S L m) deep p st=some (nmT v,0,nxR (nxR st)):=by
   unfold opndR
   rw [if_neg (by omega),hp]
   simp only
   rw [if_neg (by decide),if_neg (by decide),if_pos trivial]
   unfold namedR
   rw [if_pos (by rw [hp2]; simp [minR,hS0]),hp2]
   simp only [Option.map_some,Bool.false_and]
   rw [show -((v.natAbs:Nat):Int)=v by omega]; rfl
  obtain ⟨lay,h⟩:=termR_op (kt:=kt) (R:=R) ho he (drop_nx hL2) hk
  refine ⟨lay,?_⟩
  rw [h,hw,ht]
  simp only [stAt,nxR,hst,List.length_cons,List.length_nil]
 ·have htk:tk1 i (.num v)=[⟨3,Lib.decDigits v.toNat,v.toNat,i,false⟩]:=by rw [tk1,if_neg hv]
  rw [htk] at hL ⊢
  have hL:L.drop st.at_=⟨3,Lib.decDigits v.toNat,v.toNat,i,false⟩::kt::R:=hL
  have hp:=(peek_of he hL).1
  have ho:opndR false S L (termR false S L m) deep p st=some (nmT v,0,nxR st):=by
   unfold opndR
   rw [if_neg (by omega),hp]
   simp only
   rw [if_pos trivial,show ((v.toNat:Nat):Int)=v by omega]
  obtain ⟨lay,h⟩:=termR_op (kt:=kt) (R:=R) ho he (drop_nx hL) hk
  refine ⟨lay,?_⟩
  rw [h,hw,ht]
  simp only [stAt,nxR,hst,List.length_cons,List.length_nil]

theorem bk_atom (t:Tm) (hb:BkT t) (k3:t.k=3) (hl:t.l=[]):TermBk S L t:=by
 intro n deep p st vs i kt R Q hn hdeep hvs he hst hL hS hk
 rcases hb.kinds with ⟨k1,_⟩ | ⟨k2,_⟩ | ⟨_,n0,s1,s2,s3⟩
 ·omega
 ·omega
 obtain ⟨k,s,v,l⟩:=t
 simp only [Tm.k,Tm.n,Tm.s,Tm.l] at k3 n0 s1 s2 s3 hl
 subst k3; subst n0; subst hl
 have hdp:=Tm.depth_eq (.mk 3 s 0 [])
 obtain ⟨m,rfl⟩:∃ m,n=m+1:=⟨n - 1,by omega⟩
 have hc:cellT (.mk 3 s 0 [])=false:=by simp [cellT,cellK,Tm.l]
 have hpq:pq (.mk 3 s 0 [])=[.name s.data.toList false]:=by rw [pq_atom hc]; rfl
 rw [hpq] at hL hS ⊢
 rw [tkP_one] at hL ⊢
 have hL:L.drop st.at_=⟨1,s.data.toList,0,i,false⟩::kt::R:=hL
 have hp:=(peek_of he hL).1
 have hL2:=drop_nx hL
 have hp2:=(peek_of (st:=nxR st) he hL2).1
 obtain ⟨c1,c2,c3⟩:=clo_beg (st:=nxR st) he hL2 hk
 have hw:Tm.withV vs (.mk 3 s 0 [])=vs:=by rw [Tm.withV_eq]; rfl
 have ht:Tm.turnT (placeG vs) (.mk 3 s 0 [])=fnT s.data.toList []:=by rw [Tm.turnT_eq,fnT,Tx_data]; rfl
 have ho:opndR false S L (termR false S L m) deep p st=some (fnT s.data.toList [],0,nxR st):=by
  unfold opndR
  rw [if_neg (by omega),hp]
  simp only
  rw [if_neg (by decide),if_neg (by decide),if_pos trivial]
  unfold namedR
  rw [if_neg (by rw [hp2]; simp [minR,c3]),if_neg (by simp),c1,c2]
  simp only [Bool.false_eq_true,if_false]
  split <;> simp
 obtain ⟨lay,h⟩:=termR_op (kt:=kt) (R:=R) ho he hL2 hk
 refine ⟨lay,?_⟩
 rw [h,hw,ht]
 simp only [stAt,nxR,hst,List.length_cons,List.length_nil,tk1]
end PSL

namespace PSL
open Go
variable {S:Bs} {L:List Tk}

theorem drop_on {α:Type} {l x y:List α} {a:Nat} (h:l.drop a=x++y):l.drop (a+x.length)=y:=by
 rw [← List.drop_drop,h]; simp

theorem stAt_self {st:RSt} {vs:List Int} (he:st.e=0) (hst:st.names=namesV vs):stAt st 0 vs st.lay=st:=by
 cases st; simp only at he hst; subst he; subst hst; rfl
theorem isMk_of {k:Tk} {s:Bs} (h4:k.kind=4) (h:k.text=s):isMk k s=true:=by simp [isMk,h4,h]
theorem isMk_no {k:Tk} {s:Bs} (h:k.text≠s):isMk k s=false:=by simp [isMk,h]

theorem args_next (a:Nat) (r:List Tm) (kt:Tk) (R:List Tk) (hk:kt.kind=4∧kt.text=[41]):∃ k2 R2,tkP a (pqArgs false r)++kt::R=k2::R2∧cloK 999 k2:=by
 cases r with
 | nil=>exact ⟨kt,R,rfl,.inl ⟨hk.1,.inl hk.2⟩⟩
 | cons x r=>exact ⟨⟨4,[44],0,a,false⟩,_,rfl,.inl ⟨rfl,.inr (.inr (.inr ⟨rfl,rfl⟩))⟩⟩

theorem bk_many:∀ (r:List Tm),(∀ x∈r,BkT x∧TermBk S L x)→∀ (n f deep:Nat) (st:RSt) (vs:List Int) (i:Nat) (kt:Tk) (R:List Tk) (Q:Bs) (acc:List Tm),
  (∀ x∈r,x.depth≤n∧deep+x.depth≤1000)→(∀ v∈vs,0≤v)→st.e=0→st.names=namesV vs→L.drop st.at_=tkP i (pqArgs false r)++kt::R→S.drop i=flatP (pqArgs false r)++Q→kt.kind=4∧kt.text=[41]→L.length+1≤f+st.at_ →
  ∃ lay,manyR L (termR false S L n) f deep st acc=some (acc++Tm.turnTL (placeG (Tm.withVL vs r)) r,stAt st (tkP i (pqArgs false r)).length (Tm.withVL vs r) lay)
 | [],_,n,f,deep,st,vs,i,kt,R,Q,acc,_,_,he,hst,hL,_,hk,hf=>by
  have hL:L.drop st.at_=kt::R:=hL
  obtain ⟨hp,hlt⟩:=peek_of he hL
  obtain ⟨g,rfl⟩:∃ g,f=g+1:=⟨f - 1,by omega⟩
  refine ⟨st.lay,?_⟩
  rw [manyR,hp,isMk_no (by rw [hk.2]; decide),if_neg (by simp)]
  show some (acc,st)=some (acc++[],stAt st 0 vs st.lay)
  rw [stAt_self he hst,List.append_nil]
 | x::r,hr,n,f,deep,st,vs,i,kt,R,Q,acc,hd,hvs,he,hst,hL,hS,hk,hf=>by
  obtain ⟨hbx,hx⟩:=hr x (by simp)
  have hdx:=hd x (by simp)
  rw [pqArgs] at hL hS ⊢
  simp only [Bool.false_eq_true,if_false] at hL hS ⊢
  rw [tkP,tkP_app] at hL ⊢
  rw [flatP_cons,flatP_app] at hS
  have hL:L.drop st.at_=⟨4,[44],0,i,false⟩::(tkP (i+1) (pq x)++(tkP (i+1+(flatP (pq x)).length) (pqArgs false r)++kt::R)):=by
   rw [hL]; simp [tk1,pcB]
  have hS1:S.drop (i+1)=flatP (pq x)++(flatP (pqArgs false r)++Q):=by
   have:=drop_on (x:=[44]) (y:=flatP (pq x)++(flatP (pqArgs false r)++Q)) (by rw [hS]; simp [pcB])
   simpa using this
  obtain ⟨hp,hlt⟩:=peek_of he hL
  obtain ⟨g,rfl⟩:∃ g,f=g+1:=⟨f - 1,by omega⟩
  obtain ⟨k2,R2,hk2,hck⟩:=args_next (i+1+(flatP (pq x)).length) r kt R hk
  have hL1:=drop_nx hL
  obtain ⟨lay1,h1⟩:=hx n deep 999 (nxR st) vs (i+1) k2 R2 _ hdx.1 hdx.2 hvs he hst (by rw [hL1,hk2]) hS1 hck
  have hL2:L.drop (stAt (nxR st) (tkP (i+1) (pq x)).length (Tm.withV vs x) lay1).at_=tkP (i+1+(flatP (pq x)).length) (pqArgs false r)++kt::R:=drop_on hL1
  have hS2:=drop_on hS1
  obtain ⟨lay2,h2⟩:=bk_many r (fun y hy=>hr y (by simp [hy])) n g deep (stAt (nxR st) (tkP (i+1) (pq x)).length (Tm.withV vs x) lay1) (Tm.withV vs x) (i+1+(flatP (pq x)).length) kt R Q (acc++[Tm.turnT (placeG (Tm.withV vs x)) x])
   (fun y hy=>hd y (by simp [hy])) (withV_pos hbx.fair hvs) rfl rfl hL2 hS2 hk (by show L.length+1≤g+(st.at_+1+_); omega)
  refine ⟨lay2,?_⟩
  rw [manyR,hp,isMk_of rfl rfl,if_pos rfl,h1]
  show manyR L (termR false S L n) g deep _ _=_
  rw [h2]
  obtain ⟨m,hm⟩:=withVL_ext r (Tm.withV vs x)
  have hlater:=turn_later (a:=vs) (m:=m) hbx.fair
  rw [show Tm.withVL vs (x::r)=Tm.withVL (Tm.withV vs x) r by rfl,Tm.turnTL,← hlater,← hm,List.append_assoc]
  congr 2
  simp only [stAt,nxR,tk1,pcB,List.length_append,List.length_cons,List.length_nil,Nat.zero_add]
  congr 1
  omega

theorem bk_fun (t:Tm) (hb:BkT t) (k3:t.k=3) (hl:t.l≠[]) (hc:cellT t=false) (hsub:∀ x∈t.l,TermBk S L x):TermBk S L t:=by
 intro n deep p st vs i kt R Q hn hdeep hvs he hst hL hS hk
 have hbs:=fun x hx=>hb.sub (x:=x) hx
 rcases hb.kinds with ⟨k1,_⟩ | ⟨k2,_⟩ | ⟨_,n0,s1,s2,s3⟩
 ·omega
 ·omega
 have hdp:=Tm.depth_eq t
 have hpq:=pq_atom hc
 have htt:∀ g,Tm.turnT g t=fnT t.s.data.toList (Tm.turnTL g t.l):=fun g=>by rw [Tm.turnT_eq,if_neg (by omega),k3,n0,fnT,Tx_data]
 have hw:Tm.withV vs t=Tm.withVL vs t.l:=by rw [Tm.withV_eq,if_neg (by omega)]
 obtain ⟨x,r,hxr⟩:∃ x r,t.l=x::r:=by
  cases hq:t.l with
  | nil=>exact absurd hq hl
  | cons x r=>exact ⟨x,r,rfl⟩
 rw [htt,hw]
 rw [hxr] at hdp hpq hsub hbs ⊢
 have hdl:∀ y∈x::r,y.depth+1≤t.depth:=fun y hy=>by
  have:=Tm.depth_mem hy
  omega
 obtain ⟨m,rfl⟩:∃ m,n=m+1:=⟨n - 1,by omega⟩
 generalize hsd:t.s.data.toList=s at *
 have hpq:pq t=.name s true :: .mk 40::(pq x++(pqArgs false r++[.mk 41])):=by
  rw [hpq,atomQ,if_neg (by omega),if_neg (by omega),hsd]
  simp [pqArgs]
 rw [hpq] at hL hS ⊢
 have hlen:tkP i (.name s true :: .mk 40::(pq x++(pqArgs false r++[.mk 41])))=⟨1,s,0,i,true⟩::⟨4,[40],0,(i+(nameB s).length:Nat),false⟩::(tkP (i+(nameB s).length+1) (pq x)++(tkP (i+(nameB s).length+1+(flatP (pq x)).length) (pqArgs false r)++[⟨4,[41],0,(i+(nameB s).length+1+(flatP (pq x)).length+(flatP (pqArgs false r)).length:Nat),false⟩])):=by
  rw [tkP,tkP,tkP_app,tkP_app,tkP_one]; rfl
 rw [hlen] at hL ⊢
 generalize hj:i+(nameB s).length+1=j at hL hlen ⊢
 rw [flatP_cons,flatP_cons,flatP_app,flatP_app] at hS
 have hS1:S.drop j=flatP (pq x)++(flatP (pqArgs false r)++(flatP [.mk 41]++Q)):=by
  have:=drop_on (x:=nameB s++[40]) (y:=flatP (pq x)++(flatP (pqArgs false r)++(flatP [.mk 41]++Q))) (by rw [hS]; simp [pcB])
  rw [← hj]
  simpa [Nat.add_assoc] using this
 simp only [List.cons_append,List.append_assoc,List.nil_append] at hL
 have hp:=(peek_of he hL).1
 have hL1:=drop_nx hL
 have hp1:=(peek_of (st:=nxR st) he hL1).1
 have hL2:=drop_nx hL1
 obtain ⟨k2,R2,hk2,hck⟩:=args_next (j+(flatP (pq x)).length) r ⟨4,[41],0,(j+(flatP (pq x)).length+(flatP (pqArgs false r)).length:Nat),false⟩ (kt::R) ⟨rfl,rfl⟩
 obtain ⟨lay1,h1⟩:=hsub x (by simp) m (deep+1) 999 (nxR (nxR st)) vs j k2 R2 _ (by have:=hdl x (by simp); omega) (by have:=hdl x (by simp); omega) hvs he hst (by rw [hL2,hk2]) hS1 hck
 have hL3:L.drop (stAt (nxR (nxR st)) (tkP j (pq x)).length (Tm.withV vs x) lay1).at_=_:=drop_on hL2
 have hlt:L.length+1≤L.length+2+(stAt (nxR (nxR st)) (tkP j (pq x)).length (Tm.withV vs x) lay1).at_:=by omega
 obtain ⟨lay2,h2⟩:=bk_many r (fun y hy=>⟨hbs y (by simp [hy]),hsub y (by simp [hy])⟩) m (L.length+2) (deep+1) (stAt (nxR (nxR st)) (tkP j (pq x)).length (Tm.withV vs x) lay1) (Tm.withV vs x) (j+(flatP (pq x)).length) ⟨4,[41],0,(j+(flatP (pq x)).length+(flatP (pqArgs false r)).length:Nat),false⟩ (kt::R) _ [Tm.turnT (placeG (Tm.withV vs x)) x]
  (fun y hy=>by have:=hdl y (by simp [hy]); omega) (withV_pos (hbs x (by simp)).fair hvs) rfl rfl hL3 (drop_on hS1) ⟨rfl,rfl⟩ hlt
 obtain ⟨m2,hm2⟩:=withVL_ext r (Tm.withV vs x)
 have hlater:=turn_later (a:=vs) (m:=m2) (hbs x (by simp)).fair
 have hT:Tm.turnTL (placeG (Tm.withVL vs (x::r))) (x::r)=[Tm.turnT (placeG (Tm.withV vs x)) x]++Tm.turnTL (placeG (Tm.withVL (Tm.withV vs x) r)) r:=by
  rw [show Tm.withVL vs (x::r)=Tm.withVL (Tm.withV vs x) r by rfl,Tm.turnTL,← hlater,← hm2]; rfl
 rw [hT]
 generalize hst3:stAt (stAt (nxR (nxR st)) (tkP j (pq x)).length (Tm.withV vs x) lay1) (tkP (j+(flatP (pq x)).length) (pqArgs false r)).length (Tm.withVL (Tm.withV vs x) r) lay2=st3 at h2
 have hL4:L.drop st3.at_=⟨4,[41],0,(j+(flatP (pq x)).length+(flatP (pqArgs false r)).length:Nat),false⟩::kt::R:=by rw [← hst3]; exact drop_on hL3
 have he3:st3.e=0:=by rw [← hst3]; rfl
 have hp3:=(peek_of he3 hL4).1
 have hL5:=drop_nx hL4
 have ho:opndR false S L (termR false S L m) deep p st=some (fnT s ([Tm.turnT (placeG (Tm.withV vs x)) x]++Tm.turnTL (placeG (Tm.withVL (Tm.withV vs x) r)) r),0,nxR st3):=by
  unfold opndR
  rw [if_neg (by omega),hp]
  simp only
  rw [if_neg (by decide),if_neg (by decide),if_pos trivial]
  unfold namedR
  rw [if_neg (by rw [hp1]; simp [minR]),if_pos rfl,mustR,hp1,isMk_of rfl rfl,if_pos rfl,rowR,h1]
  simp only [Option.bind_some]
  rw [h2]
  simp only [Option.map_some,Bool.false_and,Bool.false_eq_true,if_false]
  rw [mustR,hp3,isMk_of rfl rfl,if_pos rfl]
 obtain ⟨lay,h⟩:=termR_op (kt:=kt) (R:=R) ho he3 hL5 hk
 refine ⟨lay,?_⟩
 rw [h]
 congr 2
 rw [← hst3]
 simp only [stAt,nxR,List.length_append,List.length_cons,List.length_nil]
 congr 1
 omega
end PSL

namespace PSL
open Go
variable {S:Bs} {L:List Tk}

theorem tail_next (a:Nat) (b:Tm) (R:List Tk):∃ k2 R2,tkP a (pqTl b)++R=k2::R2∧cloK 999 k2:=by
 by_cases hc:cellT b=true
 ·obtain ⟨x,y,hl⟩:=cellT_l hc
  rw [pqTl_cell hc hl]
  exact ⟨⟨4,[44],0,a,false⟩,_,rfl,.inl ⟨rfl,.inr (.inr (.inr ⟨rfl,rfl⟩))⟩⟩
 ·have hc:cellT b=false:=by simpa using hc
  by_cases hn:nilK b.k b.s b.l=true
  ·rw [pqTl_nil hc hn]
   exact ⟨⟨4,[93],0,a,false⟩,_,rfl,.inl ⟨rfl,.inr (.inr (.inl rfl))⟩⟩
  ·rw [pqTl_rest hc (by simpa using hn)]
   exact ⟨⟨4,[124],0,a,false⟩,_,rfl,.inl ⟨rfl,.inr (.inl rfl)⟩⟩

theorem cell_turn {t a b:Tm} (hb:BkT t) (hc:cellT t=true) (hl:t.l=[a,b]) (vs:List Int):Tm.turnT (placeG (Tm.withV vs t)) t=fnT [46] [Tm.turnT (placeG (Tm.withV vs a)) a,Tm.turnT (placeG (Tm.withV (Tm.withV vs a) b)) b]∧Tm.withV vs t=Tm.withV (Tm.withV vs a) b:=by
 simp only [cellT,cellK,Bool.and_eq_true,decide_eq_true_eq,beq_iff_eq] at hc
 obtain ⟨⟨k3,hs⟩,_⟩:=hc
 rcases hb.kinds with ⟨k1,_⟩ | ⟨k2,_⟩ | ⟨_,n0,_,_,_⟩
 ·omega
 ·omega
 have hw:Tm.withV vs t=Tm.withV (Tm.withV vs a) b:=by rw [Tm.withV_eq,if_neg (by omega),hl]; rfl
 refine ⟨?_,hw⟩
 obtain ⟨m,hm⟩:=withV_ext b (Tm.withV vs a)
 have hlater:=turn_later (a:=vs) (m:=m) (hb.sub (x:=a) (by rw [hl]; simp)).fair
 rw [hw,Tm.turnT_eq,if_neg (by omega),k3,n0,hl,← hlater,← hm,fnT,← hs,Tx_data]
 rfl
theorem consT_snoc (l:List Tm) (x t:Tm):consT (l++[x]) t=consT l (fnT [46] [x,t]):=by simp [consT]

theorem bk_tail (t:Tm) (hb:BkT t) (hself:cellT t=false→TermBk S L t) (hsubT:∀ x∈t.l,TermBk S L x) (hsub:∀ x∈t.l,TailBk S L x):TailBk S L t:=by
 intro n f deep st vs i R Q acc hn hdeep hvs he hst hL hS hf
 have hdp:=Tm.depth_eq t
 have hlt:st.at_<L.length:=by
  obtain ⟨k2,R2,h2,_⟩:=tail_next i t R
  rw [h2] at hL
  exact (peek_of he hL).2
 obtain ⟨g,rfl⟩:∃ g,f=g+1:=⟨f - 1,by omega⟩
 by_cases hc:cellT t=true
 ·obtain ⟨a,b,hab⟩:=cellT_l hc
  have ma:a∈t.l:=by rw [hab]; simp
  have mb:b∈t.l:=by rw [hab]; simp
  have da:=Tm.depth_mem ma
  have db:=Tm.depth_mem mb
  obtain ⟨ct,cw⟩:=cell_turn hb hc hab vs
  rw [ct,cw]
  rw [pqTl_cell hc hab] at hL hS ⊢
  rw [tkP,tkP_app] at hL ⊢
  rw [flatP_cons,flatP_app] at hS
  have hL:L.drop st.at_=⟨4,[44],0,i,false⟩::(tkP (i+1) (pq a)++(tkP (i+1+(flatP (pq a)).length) (pqTl b)++R)):=by
   rw [hL]; simp [tk1,pcB]
  have hS1:S.drop (i+1)=flatP (pq a)++(flatP (pqTl b)++Q):=by
   have:=drop_on (x:=[44]) (y:=flatP (pq a)++(flatP (pqTl b)++Q)) (by rw [hS]; simp [pcB])
   simpa using this
  have hp:=(peek_of he hL).1
  have hL1:=drop_nx hL
  obtain ⟨k2,R2,hk2,hck⟩:=tail_next (i+1+(flatP (pq a)).length) b R
  obtain ⟨lay1,h1⟩:=hsubT a ma n deep 999 (nxR st) vs (i+1) k2 R2 _ (by omega) (by omega) hvs he hst (by rw [hL1,hk2]) hS1 hck
  obtain ⟨lay2,h2⟩:=hsub b mb n g deep (stAt (nxR st) (tkP (i+1) (pq a)).length (Tm.withV vs a) lay1) (Tm.withV vs a) (i+1+(flatP (pq a)).length) R Q (acc++[Tm.turnT (placeG (Tm.withV vs a)) a])
   (by omega) (by omega) (withV_pos (hb.sub ma).fair hvs) rfl rfl (drop_on hL1) (drop_on hS1) (by show L.length+1≤g+(st.at_+1+_); omega)
  refine ⟨lay2,?_⟩
  rw [manyR,hp,isMk_of rfl rfl,if_pos rfl,h1]
  simp only [Option.bind_some]
  rw [h2,consT_snoc]
  congr 2
  simp only [stAt,nxR,tk1,pcB,List.length_append,List.length_cons,List.length_nil,Nat.zero_add]
  congr 1
  omega
 ·have hc:cellT t=false:=by simpa using hc
  by_cases hn9:nilK t.k t.s t.l=true
  ·rw [pqTl_nil hc hn9] at hL hS ⊢
   rw [tkP_one] at hL ⊢
   have hL:L.drop st.at_=⟨4,[93],0,i,false⟩::R:=hL
   have hp:=(peek_of he hL).1
   simp only [nilK,Bool.and_eq_true,decide_eq_true_eq,beq_iff_eq,List.isEmpty_iff] at hn9
   obtain ⟨⟨k3,hs⟩,hl⟩:=hn9
   rcases hb.kinds with ⟨k1,_⟩ | ⟨k2,_⟩ | ⟨_,n0,_,_,_⟩
   ·omega
   ·omega
   have hw:Tm.withV vs t=vs:=by rw [Tm.withV_eq,if_neg (by omega),hl]; rfl
   have ht:Tm.turnT (placeG vs) t=fnT [91,93] []:=by rw [Tm.turnT_eq,if_neg (by omega),k3,n0,hl,fnT,← hs,Tx_data]; rfl
   refine ⟨st.lay,?_⟩
   rw [manyR,hp,isMk_no (by simp),if_neg (by simp)]
   simp only [Option.bind_some,tailR]
   rw [hp,isMk_no (by simp),if_neg (by simp),hw,ht,mustR,hp,isMk_of rfl rfl,if_pos rfl]
   congr 2
   cases st; simp only at he hst; subst he; subst hst; rfl
  ·have hn9:nilK t.k t.s t.l=false:=by simpa using hn9
   rw [pqTl_rest hc hn9] at hL hS ⊢
   rw [tkP,tkP_app,tkP_one] at hL ⊢
   rw [flatP_cons,flatP_app] at hS
   have hL:L.drop st.at_=⟨4,[124],0,i,false⟩::(tkP (i+1) (pq t)++(⟨4,[93],0,(i+1+(flatP (pq t)).length:Nat),false⟩::R)):=by
    rw [hL]; simp [tk1,pcB]
   have hS1:S.drop (i+1)=flatP (pq t)++(flatP [.mk 93]++Q):=by
    have:=drop_on (x:=[124]) (y:=flatP (pq t)++(flatP [.mk 93]++Q)) (by rw [hS]; simp [pcB])
    simpa using this
   have hp:=(peek_of he hL).1
   have hL1:=drop_nx hL
   obtain ⟨lay1,h1⟩:=hself hc n deep 999 (nxR st) vs (i+1) _ R _ (by omega) (by omega) hvs he hst hL1 hS1 (.inl ⟨rfl,.inr (.inr (.inl rfl))⟩)
   have hL2:=drop_on hL1
   have hp2:=(peek_of (st:=stAt (nxR st) (tkP (i+1) (pq t)).length (Tm.withV vs t) lay1) rfl hL2).1
   refine ⟨lay1,?_⟩
   rw [manyR,hp,isMk_no (by simp),if_neg (by simp)]
   simp only [Option.bind_some,tailR]
   rw [hp,isMk_of rfl rfl,if_pos rfl,h1]
   simp only [Option.map_some]
   rw [mustR,hp2,isMk_of rfl rfl,if_pos rfl]
   congr 2
   simp only [stAt,nxR,tk1,pcB,List.length_append,List.length_cons,List.length_nil,Nat.zero_add]
   congr 1
   omega

theorem bk_cell (t:Tm) (hb:BkT t) (hc:cellT t=true) (hsubT:∀ x∈t.l,TermBk S L x) (hsub:∀ x∈t.l,TailBk S L x):TermBk S L t:=by
 intro n deep p st vs i kt R Q hn hdeep hvs he hst hL hS hk
 have hdp:=Tm.depth_eq t
 obtain ⟨a,b,hab⟩:=cellT_l hc
 have ma:a∈t.l:=by rw [hab]; simp
 have mb:b∈t.l:=by rw [hab]; simp
 have da:=Tm.depth_mem ma
 have db:=Tm.depth_mem mb
 obtain ⟨ct,cw⟩:=cell_turn hb hc hab vs
 rw [ct,cw]
 obtain ⟨m,rfl⟩:∃ m,n=m+1:=⟨n - 1,by omega⟩
 rw [pq_cell hc hab] at hL hS ⊢
 rw [tkP,tkP_app] at hL ⊢
 rw [flatP_cons,flatP_app] at hS
 have hL:L.drop st.at_=⟨4,[91],0,i,false⟩::(tkP (i+1) (pq a)++(tkP (i+1+(flatP (pq a)).length) (pqTl b)++(kt::R))):=by
  rw [hL]; simp [tk1,pcB]
 have hS1:S.drop (i+1)=flatP (pq a)++(flatP (pqTl b)++Q):=by
  have:=drop_on (x:=[91]) (y:=flatP (pq a)++(flatP (pqTl b)++Q)) (by rw [hS]; simp [pcB])
  simpa using this
 have hp:=(peek_of he hL).1
 have hL1:=drop_nx hL
 obtain ⟨k2,R2,hk2,hck⟩:=tail_next (i+1+(flatP (pq a)).length) b (kt::R)
 obtain ⟨lay1,h1⟩:=hsubT a ma m (deep+1) 999 (nxR st) vs (i+1) k2 R2 _ (by omega) (by omega) hvs he hst (by rw [hL1,hk2]) hS1 hck
 have hL2:=drop_on hL1
 obtain ⟨lay2,h2⟩:=hsub b mb m (L.length+2) (deep+1) (stAt (nxR st) (tkP (i+1) (pq a)).length (Tm.withV vs a) lay1) (Tm.withV vs a) (i+1+(flatP (pq a)).length) (kt::R) Q [Tm.turnT (placeG (Tm.withV vs a)) a]
  (by omega) (by omega) (withV_pos (hb.sub ma).fair hvs) rfl rfl hL2 (drop_on hS1) (by omega)
 have hL3:=drop_on hL2
 generalize hst3:stAt (stAt (nxR st) (tkP (i+1) (pq a)).length (Tm.withV vs a) lay1) (tkP (i+1+(flatP (pq a)).length) (pqTl b)).length (Tm.withV (Tm.withV vs a) b) lay2=st3 at h2
 have hL4:L.drop st3.at_=kt::R:=by rw [← hst3]; exact hL3
 have he3:st3.e=0:=by rw [← hst3]; rfl
 have ho:opndR false S L (termR false S L m) deep p st=some (fnT [46] [Tm.turnT (placeG (Tm.withV vs a)) a,Tm.turnT (placeG (Tm.withV (Tm.withV vs a) b)) b],0,st3):=by
  unfold opndR
  rw [if_neg (by omega),hp]
  simp only
  rw [if_neg (by decide),if_neg (by decide),if_neg (by decide),isMk_no (by simp),if_neg (by simp),isMk_of rfl rfl,if_pos rfl]
  unfold listR rowR
  rw [h1]
  simp only [Option.bind_some]
  have h2':((manyR L (termR false S L m) (L.length+2) (deep+1) (stAt (nxR st) (tkP (i+1) (pq a)).length (Tm.withV vs a) lay1) [Tm.turnT (placeG (Tm.withV vs a)) a]).bind fun x=>tailR S L (termR false S L m) (deep+1) x)=_:=h2
  unfold tailR at h2'
  rw [h2']
  rfl
 obtain ⟨lay,h⟩:=termR_op (kt:=kt) (R:=R) ho he3 hL4 hk
 refine ⟨lay,?_⟩
 rw [h]
 congr 2
 rw [← hst3]
 simp only [stAt,nxR,tk1,pcB,List.length_append,List.length_cons,List.length_nil,Nat.zero_add]
 congr 1
 omega

theorem bk_both (t:Tm):BkT t→TermBk S L t∧TailBk S L t:=by
 induction t using Tm.ind with
 | h t ih =>
  intro hb
  have hT:=fun x hx=>(ih x hx (hb.sub hx)).1
  have hL:=fun x hx=>(ih x hx (hb.sub hx)).2
  have h1:TermBk S L t:=by
   by_cases hc:cellT t=true
   ·exact bk_cell t hb hc hT hL
   ·have hc:cellT t=false:=by simpa using hc
    rcases hb.kinds with ⟨k1,_⟩ | ⟨k2,_⟩ | ⟨k3,_⟩
    ·exact bk_var t hb k1
    ·exact bk_num t hb k2
    ·by_cases hl:t.l=[]
     ·exact bk_atom t hb k3 hl
     ·exact bk_fun t hb k3 hl hc hT
  exact ⟨h1,bk_tail t hb (fun _=>h1) hT hL⟩

theorem pq_depth (t:Tm):BkT t→t.depth≤(pq t).length∧t.depth≤(pqTl t).length:=by
 induction t using Tm.ind with
 | h t ih0 =>
  intro hb0
  have ih:=fun x hx=>ih0 x hx (hb0.sub hx)
  have hdp:=Tm.depth_eq t
  have hargs:∀ (l:List Tm) (f:Bool),(∀ x∈l,x∈t.l)→Tm.depthL l≤(pqArgs f l).length:=by
   intro l
   induction l with
   | nil=>intro f _; simp [Tm.depthL]
   | cons x r ih2 =>
    intro f hm
    have h1:=(ih x (hm x (by simp))).1
    have h2:=ih2 false fun y hy=>hm y (by simp [hy])
    simp only [Tm.depthL,pqArgs,List.length_cons,List.length_append]
    omega
  by_cases hc:cellT t=true
  ·obtain ⟨a,b,hab⟩:=cellT_l hc
   have ha:=(ih a (by rw [hab]; simp)).1
   have hb:=(ih b (by rw [hab]; simp)).2
   rw [hab] at hdp
   simp only [Tm.depthL] at hdp
   rw [pq_cell hc hab,pqTl_cell hc hab]
   simp only [List.length_cons,List.length_append]
   omega
  ·have hc:cellT t=false:=by simpa using hc
   have h1:t.depth≤(pq t).length:=by
    rw [pq_atom hc,atomQ]
    rcases hb0.kinds with ⟨k1,_,_,_,hl⟩ | ⟨k2,_,_,_,hl⟩ | ⟨k3,_⟩
    ·rw [if_pos k1,hdp,hl]; simp [Tm.depthL]
    ·rw [if_neg (by omega),if_pos k2,hdp,hl]; simp [Tm.depthL]
    ·rw [if_neg (by omega),if_neg (by omega)]
     have:=hargs t.l true fun _ h=>h
     simp only [List.length_cons,List.length_append]; omega
   refine ⟨h1,?_⟩
   by_cases hn:nilK t.k t.s t.l=true
   ·rw [pqTl_nil hc hn]
    simp only [nilK,Bool.and_eq_true,List.isEmpty_iff] at hn
    rw [hdp,hn.2]; simp [Tm.depthL]
   ·rw [pqTl_rest hc (by simpa using hn)]
    simp only [List.length_cons,List.length_append]
    omega

theorem tkP_len:∀ (ps:List Pc) (a:Nat),ps.length≤(tkP a ps).length
 | [],_=>Nat.le_refl _
 | p::r,a=>by
  have:=tkP_len r (a+(pcB p).length)
  have h1:1≤(tk1 a p).length:=by
   cases p with
   | num n=>simp only [tk1]; split <;> simp
   | _=>simp [tk1]
  simp only [tkP,List.length_cons,List.length_append]
  omega

theorem back_ok {t:Tm} (hr:t.rightB=true) (hf:t.Fit) (hl:leastT t=false) (hlen:(textW t).length≤7998) :
  clauR rightT false (textW t++[32,46])=some ([(numOne t,namesV (varsT [t]))],0,0):=by
 have hri:=Tm.rightB_iff.1 hr
 have hb:BkT t:=⟨hri.1,hf,hl⟩
 have hch:=((chain_pq t hb).1 32 (by decide)).1
 have htk:=toks_P (pq t) ((textW t++[32,46]).length+1) (textW t++[32,46]) 0 (by rw [flat_pq]; rfl) hch (by omega)
 have hT:tokT (textW t++[32,46])=(tkP 0 (pq t)++[⟨5,[46],0,(0+(flatP (pq t)).length+1:Nat),false⟩],0,0):=by
  rw [tokT,if_neg (by simp; omega),htk]
 have hvars:Tm.withV [] t=varsT [t]:=by rw [varsT_once (one_fair hri.1),Tm.withV_occ]; simp [Tm.once,Tm.occL]
 unfold clauR
 rw [hT]
 simp only
 rw [if_neg (by simp)]
 generalize hLL:tkP 0 (pq t)++[⟨5,[46],0,(0+(flatP (pq t)).length+1:Nat),false⟩]=LL
 have hll:LL.length=(tkP 0 (pq t)).length+1:=by rw [← hLL]; simp
 have hd1:=(pq_depth t hb).1
 have hd2:=tkP_len (pq t) 0
 have hd3:=hri.2.2
 obtain ⟨lay,h⟩:=(bk_both (S:=textW t++[32,46]) (L:=LL) t hb).1 (LL.length+2) 0 1200 ⟨0,[],0,0,false⟩ [] 0 ⟨5,[46],0,(0+(flatP (pq t)).length+1:Nat),false⟩ [] [32,46]
  (by omega) (by omega) (by simp) rfl rfl (by rw [← hLL]; rfl) (by rw [flat_pq]; rfl) (.inr rfl)
 have hdr:LL.drop (tkP 0 (pq t)).length=[⟨5,[46],0,(0+(flatP (pq t)).length+1:Nat),false⟩]:=by rw [← hLL]; simp
 have hp:=(peek_of (st:=stAt ⟨0,[],0,0,false⟩ (tkP 0 (pq t)).length (Tm.withV [] t) lay) rfl (by show LL.drop (0+_)=_; rw [Nat.zero_add]; exact hdr)).1
 have hright:rightT (Tm.turnT (placeG (Tm.withV [] t)) t)=true:=by
  rw [rightT_eq]
  refine Tm.right_turn hr fun v hv=>?_
  obtain ⟨_,g1,g2⟩:=placeG_mem (withV_in (a:=[]) hv)
  have g3:=Tm.withV_len t []
  have g4:=hri.2.1
  simp only [List.length_nil] at g3
  exact ⟨g1,by omega⟩
 rw [clsR,if_pos (by show 0<LL.length; omega),h]
 simp only [Option.bind_some]
 rw [hp]
 simp only
 simp only [ne_eq,not_true_eq_false,if_false,hright,Bool.true_eq_false,and_false,stAt]
 have hend:∃ g,LL.length=g+1:=⟨LL.length - 1,by omega⟩
 obtain ⟨g,hg⟩:=hend
 rw [hg,clsR,if_neg (by show ¬ (0+(tkP 0 (pq t)).length+1<LL.length); omega),hvars]
 rfl
end PSL

namespace Go.Proofs.YtchhahnajgfeaaaGreatDoor
open Go PSL Go.Proofs

set_option maxRecDepth 100000 in
theorem least10_ok (t:Tm):t.Ok→PCtr Tryz.prog 5 [t.av] (bV (leastT t)):=by
 induction t using Tm.ind with
 | h t ih =>
 intro hok
 have hrl:=Tm.rows_length t.l
 have hlen:=hok.len
 refine PCtr.of_R (pf:=fun _=>.still) tyOk mixed Tryz.func5 rfl (by kernel_rfl) (by kernel_rfl) (by simp [Tryz.ntmps5]) fun w S hg=>?_
 refine R_run hg.ok 1000 rfl rfl ?_
 refine R_loop (fun k:Nat=>([(1,.lo 0 0),(3,iV k)],[boxR t])) (fun k=>k≤t.l.length∧leastL t.l=leastL (t.l.drop k)) (fun k=>t.l.length - k) 0 ⟨Nat.zero_le _,rfl⟩ ⟨.refl _,.refl _,trivial⟩ rfl ?_
 rintro k ⟨hk,hm⟩
 refine R_run hg.ok 1000 rfl rfl ?_
 refine R_if rfl rfl (fun h=>?_) (fun h=>?_) <;> refine R_run hg.ok 1000 rfl rfl ?_
 ·have hk1:k<t.l.length:=lt_dec h (by rw [hrl])
  have e1:t.l[k]? = some t.l[k]:=List.getElem?_eq_getElem hk1
  rw [List.drop_eq_getElem_cons hk1,leastL] at hm
  have hmem:=List.getElem_mem hk1
  generalize t.l[k]=x at e1 hm hmem
  refine R_index hg.ok rfl rfl rfl rfl rfl rfl (Int.natCast_nonneg _) (Tm.rows_get e1) rfl ?_
  refine R_run hg.ok 1000 rfl rfl ?_
  refine R_call hg.ok (ih x hmem (hok.sub hmem)) rfl rfl rfl rfl rfl rfl ?_
  refine R_run hg.ok 1000 rfl rfl ?_
  refine R_if rfl rfl (fun h2=>?_) (fun h2=>?_) <;> refine R_run hg.ok 1000 rfl rfl ?_
  ·refine R_ret hg 5 rfl rfl ?_
   rw [leastT_eq,hm,h2]; rfl
  ·rw [h2,Bool.false_or] at hm
   exact R_next (k+1) ⟨hk1,hm⟩ (by omega) ⟨.refl _,Ent.wrap (by omega) (by omega) (by omega),trivial⟩ rfl
 ·have hk1:t.l.length≤k:=ge_dec h (by rw [hrl])
  rw [List.drop_eq_nil_of_le hk1] at hm
  refine R_if rfl rfl (fun h2=>?_) (fun h2=>?_) <;> refine R_run hg.ok 1000 rfl rfl ?_
  ·refine R_ret hg 5 rfl rfl ?_
   rw [leastT_eq,hm,h2]; rfl
  ·refine R_ret hg 5 rfl rfl ?_
   rw [leastT_eq,hm,h2]; rfl

set_option maxRecDepth 100000 in
theorem writeBack_ok (t:Tm) (hok:t.Ok) (hf:t.Fit):PCtr Tryz.prog 3 [t.av] (bV true):=by
 refine PCtr.of_R (pf:=fun _=>.still) tyOk mixed Tryz.func3 rfl (by kernel_rfl) (by kernel_rfl) (by simp [Tryz.ntmps3]) fun w S hg=>?_
 refine R_run hg.ok 1000 rfl rfl ?_
 refine R_call hg.ok (some_ok [t] (by simp; exact hok) (by simp)).one rfl rfl rfl rfl rfl rfl ?_
 refine R_run hg.ok 1000 rfl rfl ?_
 refine R_cut1 (fun x:Bool=>([(1,.lo 0 0),(18,bV x)],[boxR t])) (fun x=>x=false→Tm.someT [t]=true∧leastT t=false) rfl ?_ ?_
 ·refine R_if rfl rfl (fun h=>?_) (fun h=>?_) <;> refine R_run hg.ok 1000 rfl rfl ?_
  ·exact R_mark ⟨true,by simp,⟨.refl _,.tt,trivial⟩,rfl⟩
  refine R_call hg.ok (least10_ok t hok) rfl rfl rfl rfl rfl rfl ?_
  refine R_run hg.ok 1000 rfl rfl ?_
  exact R_mark ⟨leastT t,fun h9=>⟨by simpa using h,h9⟩,⟨.refl _,.refl _,trivial⟩,rfl⟩
 rintro x hx
 refine R_run hg.ok 1000 rfl rfl ?_
 refine R_if rfl rfl (fun h=>?_) (fun h=>?_) <;> refine R_run hg.ok 1000 rfl rfl ?_
 ·refine R_call hg.ok (knows10_ok) rfl rfl rfl rfl rfl rfl ?_
  refine R_run hg.ok 1000 rfl rfl ?_
  refine R_ret hg 5 rfl rfl ?_
  rfl
 obtain ⟨hs,hlow⟩:=hx h
 obtain ⟨s1,s2,s3,s4⟩:=Tm.someT_ok hs
 have hw:TmW t:=⟨hf,fun x e he=>s4 x e (by simpa only [Tm.elsL,List.append_nil] using he),by simp only [Tm.sizeL] at s1; omega⟩
 refine R_call hg.ok (writeW_ok t hw) rfl rfl rfl rfl rfl rfl ?_
 refine R_run hg.ok 1000 rfl rfl ?_
 cases hr:t.rightB with
 | false =>
  rw [writeT_wrong hr]
  refine R_if rfl rfl (fun _=>?_) (fun h=>absurd h (by simp)) <;> refine R_run hg.ok 1000 rfl rfl ?_
  refine R_if rfl rfl (fun h=>absurd h (by simp)) (fun _=>?_) <;> refine R_run hg.ok 1000 rfl rfl ?_
  refine R_if rfl rfl (fun _=>?_) (fun h=>absurd (h.symm.trans (Tm.strEq_iff.2 rfl)) (by simp)) <;> refine R_run hg.ok 1000 rfl rfl ?_
  refine R_call hg.ok (knows10_ok) rfl rfl rfl rfl rfl rfl ?_
  refine R_run hg.ok 1000 rfl rfl ?_
  refine R_ret hg 5 rfl rfl ?_
  rfl
 | true =>
  rw [writeT_right hr]
  by_cases hl:(textW t).length≤8000
  rotate_left
  ·rw [if_neg hl]
   refine R_if rfl rfl (fun _=>?_) (fun h=>absurd h (by simp)) <;> refine R_run hg.ok 1000 rfl rfl ?_
   refine R_if rfl rfl (fun h=>absurd h (by simp)) (fun _=>?_) <;> refine R_run hg.ok 1000 rfl rfl ?_
   refine R_if rfl rfl (fun _=>?_) (fun h=>absurd (h.symm.trans (Tm.strEq_iff.2 rfl)) (by simp)) <;> refine R_run hg.ok 1000 rfl rfl ?_
   refine R_call hg.ok (knows10_ok) rfl rfl rfl rfl rfl rfl ?_
   refine R_run hg.ok 1000 rfl rfl ?_
   refine R_ret hg 5 rfl rfl ?_
   rfl
  rw [if_pos hl]
  refine R_if rfl rfl (fun h=>absurd h (by simp)) (fun _=>?_) <;> refine R_run hg.ok 1000 rfl rfl ?_
  by_cases hl2:(textW t).length≤7998
  rotate_left
  ·refine R_if rfl rfl (fun _=>?_) (fun h=>absurd h (by rw [Tx_size]; simp; omega)) <;> refine R_run hg.ok 1000 rfl rfl ?_
   refine R_if rfl rfl (fun _=>?_) (fun h=>absurd h (by simp)) <;> refine R_run hg.ok 1000 rfl rfl ?_
   refine R_call hg.ok (knows10_ok) rfl rfl rfl rfl rfl rfl ?_
   refine R_run hg.ok 1000 rfl rfl ?_
   refine R_ret hg 5 rfl rfl ?_
   rfl
  refine R_if rfl rfl (fun h=>absurd h (by rw [Tx_size]; simp; omega)) (fun _=>?_) <;> refine R_run hg.ok 1000 rfl rfl ?_
  refine R_concat hg.ok (Tx (textW t++[32,46])) rfl rfl rfl rfl (by rw [Tx_size]; show (textW t).length+2≤_; omega) (Tx_app _ [32,46]) ?_
  refine R_run hg.ok 1000 rfl rfl ?_
  refine R_call hg.ok (one_is (by simp; omega) (back_ok hr hf hlow hl2)) rfl rfl rfl rfl rfl rfl ?_
  refine R_run hg.ok 1000 rfl rfl ?_
  have hnum:=termNumber_ok [t] (by simp only [Tm.sizeL] at s1 ⊢; omega) (fun x hx e he=>by
   simp only [List.mem_cons,List.not_mem_nil,or_false] at hx
   subst hx
   have:=hw.fw 1 e he; omega)
  rw [numOne_eq hr] at hnum
  refine R_call hg.ok (hnum.one) rfl rfl rfl rfl rfl rfl ?_
  refine R_run hg.ok 1000 rfl rfl ?_
  have hsame:=refSame_ok (numOne t) (numOne t) (by rw [numOne,Tm.size_turn]; have:=hw.size; omega)
  rw [Tm.same_refl] at hsame
  repeat
   first
   | (refine R_if rfl rfl (fun _=>?_) (fun h=>absurd h (by first | (simp [Tm.rows_length]; done) | (simp [Tm.rows_length]; omega))); refine R_run hg.ok 1000 rfl rfl ?_)
   | (refine R_if rfl rfl (fun h=>absurd h (by first | (simp [Tm.rows_length]; done) | (simp [Tm.rows_length]; omega))) (fun _=>?_); refine R_run hg.ok 1000 rfl rfl ?_)
  refine R_index hg.ok rfl rfl rfl rfl rfl rfl (Int.natCast_nonneg _) (Tm.rows_get (l:=[numOne t]) (i:=0) rfl) rfl ?_
  refine R_run hg.ok 1000 rfl rfl ?_
  refine R_call hg.ok (hsame) rfl rfl rfl rfl rfl rfl ?_
  refine R_run hg.ok 1000 rfl rfl ?_
  repeat
   first
   | (refine R_if rfl rfl (fun _=>?_) (fun h=>absurd h (by first | (simp [strRows_len,namesV]; done) | (simp [strRows_len,namesV]; omega))); refine R_run hg.ok 1000 rfl rfl ?_)
   | (refine R_if rfl rfl (fun h=>absurd h (by first | (simp [strRows_len,namesV]; done) | (simp [strRows_len,namesV]; omega))) (fun _=>?_); refine R_run hg.ok 1000 rfl rfl ?_)
  refine R_call hg.ok (knows10_ok) rfl rfl rfl rfl rfl rfl ?_
  refine R_run hg.ok 1000 rfl rfl ?_
  refine R_ret hg 5 rfl rfl ?_
  rfl
end Go.Proofs.YtchhahnajgfeaaaGreatDoor
