import Derived.Test.YtcgkgofmldhokaaGreatM3
import Derived.Test.YtcgkgofmldhokaaGreatPslB
set_option maxRecDepth 100000
set_option maxHeartbeats 4000000
namespace PSL
open Go
def GoodI (l:List Cs)(I:ByteArray→Nat→Bool):Prop:=∀c∈l,∀i x,c.head.l[i]? = some x→I c.head.s i=true→x.k=1∧stT c.head x.n=1∧lkGs I c.body x.n=0

theorem lkA_mono {I J:ByteArray→Nat→Bool}(h:∀s i,I s i=true→J s i=true)(k:Int)(s:ByteArray)(v:Int):∀ (l:List Tm) (i:Nat),lkA J k s l i v≤lkA I k s l i v
 |[],_=>Nat.le_refl _
 |x::r,i=>by
  have ih:=lkA_mono h k s v r (i+1)
  simp only[lkA]
  cases hI:offA I k s x i with
  |true =>
   have:offA J k s x i=true:=by
    simp only[offA,Bool.and_eq_true]at hI ⊢
    exact⟨hI.1,h _ _ hI.2⟩
   rw[this];simpa using ih
  |false=>cases offA J k s x i<;>simp<;>omega

theorem lkG_mono {I J:ByteArray→Nat→Bool}(h:∀s i,I s i=true→J s i=true)(v:Int)(g:Gl):lkG J g v≤lkG I g v:=by
 induction g using Gl.ind with
 |h g iha ihb ihc =>
  have hL:∀l:List Gl,(∀x∈l,lkG J x v≤lkG I x v)→lkGs J l v≤lkGs I l v:=by
   intro l
   induction l with
   |nil=>intro _;simp[lkGs]
   |cons x r ih =>
    intro hx
    have h1:=hx x (by simp)
    have h2:=ih fun y hy=>hx y (by simp[hy])
    simp only[lkGs];omega
  have h1:=hL _ iha
  have h2:=hL _ ihb
  have h3:=hL _ ihc
  have h4:=lkA_mono h g.k g.t.s v g.t.l 0
  rw[lkG_eq,lkG_eq];omega

theorem lkGs_mono {I J:ByteArray→Nat→Bool}(h:∀s i,I s i=true→J s i=true)(v:Int):∀l:List Gl,lkGs J l v≤lkGs I l v
 |[]=>by simp[lkGs]
 |g::r=>by have h1:=lkG_mono h v g;have h2:=lkGs_mono h v r;simp only[lkGs];omega

theorem busyF_nil {M:List Sg}{c:Cs}:∀ {l:List Tm} {k:Nat},busyF M c l k=[]→∀i x,l[i]? = some x→busyB M c (k+i) x=false
 |[],_,_,i,x,h=>by simp at h
 |y::r,k,hb,i,x,h=>by
  simp only[busyF,List.append_eq_nil_iff]at hb
  cases i with
  |zero =>
   simp at h;subst h
   cases hq:busyB M c k y with
   |false=>rfl
   |true=>have:=hb.1;rw[hq]at this;simp at this
  |succ i =>
   have:=busyF_nil hb.2 i x (by simpa using h)
   rwa [show k+(i+1)=k+1+i by omega]

theorem good_idle {l:List Cs}{M:List Sg}(h:∀c∈l,busyL M c=[]):GoodI l (idM M):=by
 intro c hc i x hx hi
 have hb:=busyF_nil (h c hc) i x hx
 rw[Nat.zero_add,busyB,hi,Bool.true_and,Bool.or_eq_false_iff]at hb
 have hk:x.k=1:=by simpa using hb.1
 have h1:=of_decide_eq_false hb.2
 have h2:=stT_some (List.mem_of_getElem? hx) hk
 exact⟨hk,by omega,by omega⟩

theorem rm_keeps {M:List Sg}{I:ByteArray→Nat→Bool}:∀ {B:List Sg} {M:List Sg},(∀s i,I s i=true→idM M s i=true)→(∀p∈B,∃s,∃i:Nat,p=(s,(i:Int))∧I s i=false)→∀s i,I s i=true→idM (rmL M B) s i=true
 |[],M,h,_,s,i,hi=>h s i hi
 |p::B,M,h,hB,s,i,hi=>by
  rw[rmL_cons]
  refine rm_keeps (M:=M) (fun s' i' hi'=>?_) (fun q hq=>hB q (by simp[hq])) s i hi
  obtain⟨s2,i2,rfl,h2⟩:=hB p (by simp)
  refine hasS_iff.2 (rm_mem.2 ⟨hasS_iff.1 (h s' i' hi'),fun e=>?_⟩)
  obtain⟨e1,e2⟩:=Prod.mk.inj e
  subst e1
  have:i'=i2:=by omega
  subst this
  rw[h2]at hi';cases hi'

theorem busy_good {l:List Cs}{M:List Sg}{I:ByteArray→Nat→Bool}(hI:GoodI l I)(h:∀s i,I s i=true→idM M s i=true){c:Cs}(hc:c∈l):∀p∈busyL M c,∃s,∃i:Nat,p=(s,(i:Int))∧I s i=false:=by
 intro p hp
 obtain⟨_,j,x,h2,h3,h4⟩:=busyF_mem hp
 rw[Nat.zero_add]at h3 h4
 refine⟨c.head.s,j,h3,?_⟩
 cases hij:I c.head.s j with
 |false=>rfl
 |true =>
  obtain⟨g1,g2,g3⟩:=hI c hc j x h2 hij
  have g4:=lkGs_mono h x.n c.body
  rw[busyB,Bool.and_eq_true,Bool.or_eq_true,decide_eq_true_eq]at h4
  rcases h4.2 with h5 |h5
  ·simp[g1]at h5
  ·omega

theorem pass_good {l:List Cs}{I:ByteArray→Nat→Bool}(hI:GoodI l I):∀ (r:List Cs) (M:List Sg),(∀c∈r,c∈l)→(∀s i,I s i=true→idM M s i=true)→∀s i,I s i=true→idM (passM r M) s i=true
 |[],M,_,h=>h
 |c::r,M,hr,h=>by
  rw[passM]
  exact pass_good hI r _ (fun d hd=>hr d (by simp[hd])) (rm_keeps (M:=M) h (busy_good hI h (hr c (by simp))))

theorem pass_same:∀ (l:List Cs) (M:List Sg),M.Nodup→(passM l M).length=M.length→passM l M=M∧∀c∈l,busyL M c=[]
 |[],M,_,_=>⟨rfl,fun _ h=>by cases h⟩
 |c::r,M,hn,h=>by
  obtain⟨h1,h2⟩:=busy_rm M c hn
  obtain⟨h3,h4⟩:=passM_len r _ h2
  rw[passM]at h ⊢
  have hb:busyL M c=[]:=List.length_eq_zero_iff.1 (by omega)
  rw[hb]at h ⊢
  have e:rmL M []=M:=rfl
  rw[e]at h ⊢
  obtain⟨h5,h6⟩:=pass_same r M hn h
  refine⟨h5,fun d hd=>?_⟩
  rcases List.mem_cons.1 hd with rfl |hd
  ·exact hb
  ·exact h6 d hd

theorem idleF_ok (l:List Cs):∀ (f:Nat) (M:List Sg),M.Nodup→M.length<f→(∀c∈l,busyL (idleF f l M) c=[])∧∀I,GoodI l I→(∀s i,I s i=true→idM M s i=true)→∀s i,I s i=true→idM (idleF f l M) s i=true
 |0,M,_,h=>by omega
 |f+1,M,hn,h=>by
  rw[idleF]
  obtain⟨h1,h2⟩:=passM_len l M hn
  split
  ·rename_i he
   obtain⟨h3,h4⟩:=pass_same l M hn he
   rw[h3]
   exact⟨h4,fun I _ hI=>hI⟩
  ·obtain ⟨h3,h4⟩:=idleF_ok l f (passM l M) h2 (by omega)
   exact⟨h3,fun I hI hM=>h4 I hI (pass_good hI l M (fun _ h=>h) hM)⟩

theorem step_good {l:List Cs}{I:ByteArray→Nat→Bool}(hI:GoodI l I){K:List Kp}(h:∀s i,I s i=true→idK K s i=true){c:Cs}(hc:c∈l){i:Nat}{x:Tm}(hx:c.head.l[i]? = some x):∀s j,I s j=true→idK (stepA K c i x) s j=true:=by
 intro s j hj
 unfold stepA
 split
 ·rename_i hb
  rw[id_with,h s j hj,Bool.true_and,Bool.not_eq_true',Bool.and_eq_false_iff]
  by_cases hs:s=c.head.s
  ·by_cases hji:j=i
   ·subst hs; subst hji
    obtain⟨g1,g2,g3⟩:=hI c hc j x hx hj
    have g4:=lkGs_mono h x.n c.body
    rw[Bool.and_eq_true,Bool.not_eq_true']at hb
    have hf:=hb.2
    rw[freeB,g1,g2,show lkGs (idK K) c.body x.n=0 by omega]at hf
    simp at hf
   ·exact .inr (decide_eq_false hji)
  ·exact .inl (decide_eq_false hs)
 ·exact h s j hj

theorem args_good {l:List Cs}{I:ByteArray→Nat→Bool}(hI:GoodI l I){c:Cs}(hc:c∈l):∀ (r:List Tm) (i:Nat) (K:List Kp),(∀j x,r[j]? = some x→c.head.l[i+j]? = some x)→(∀s i,I s i=true→idK K s i=true)→∀s j,I s j=true→idK (argsK c K r i) s j=true
 |[],_,_,_,h=>h
 |x::r,i,K,hr,h=>by
  rw[argsK]
  exact args_good hI hc r (i+1) _ (fun j y hy=>by rw[show i+1+j=i+(j+1) by omega];exact hr (j+1) y (by simpa using hy)) (step_good hI h hc (hr 0 x rfl))

theorem passK_good {l:List Cs}{I:ByteArray→Nat→Bool}(hI:GoodI l I):∀ (r:List Cs) (K:List Kp),(∀c∈r,c∈l)→(∀s i,I s i=true→idK K s i=true)→∀s j,I s j=true→idK (passK K r) s j=true
 |[],_,_,h=>h
 |c::r,K,hr,h=>by
  rw[passK]
  exact passK_good hI r _ (fun d hd=>hr d (by simp[hd])) (args_good hI (hr c (by simp)) c.head.l 0 K (fun j x hx=>by rwa [Nat.zero_add]) h)

theorem args_same {l:List Cs}{c:Cs}(hc:c∈l):∀ (r:List Tm) (i:Nat) (K:List Kp),i+r.length≤c.head.l.length→unK (argsK c K r i) l=unK K l→∀j x,r[j]? = some x→(idK K c.head.s (i+j) && !freeB K c x)=false
 |[],_,_,_,_,j,x,h=>by simp at h
 |y::r,i,K,hl,hu,j,x,h=>by
  simp only[List.length_cons]at hl
  rw[argsK]at hu
  obtain⟨h1,h2⟩:=argsK_un (l:=l) hc r (i+1) (stepA K c i y) (by omega)
  rcases stepA_un (l:=l) (K:=K) (x:=y) hc (show i<c.head.l.length by omega) with ⟨h3,h4⟩ |⟨_,_,h4⟩
  ·rw [h4] at hu
   cases j with
   |zero=>simp at h;subst h;exact h3
   |succ j =>
    have:=args_same hc r (i+1) K (by omega) hu j x (by simpa using h)
    rwa [show i+(j+1)=i+1+j by omega]
  ·omega

theorem passK_same {l:List Cs}:∀ (r:List Cs) (K:List Kp),(∀c∈r,c∈l)→unK (passK K r) l=unK K l→∀c∈r,∀i x,c.head.l[i]? = some x→(idK K c.head.s i && !freeB K c x)=false
 |[],_,_,_,c,hc=>by cases hc
 |d::r,K,hr,hu,c,hc=>by
  rw[passK]at hu
  obtain⟨h1,h2⟩:=argsK_un (hr d (by simp)) d.head.l 0 K (by omega)
  obtain⟨h3,h4⟩:=passK_un r (argsK d K d.head.l 0) fun e he=>hr e (by simp[he])
  have hsame:=h2 (by omega)
  rcases List.mem_cons.1 hc with rfl |hc
  ·intro i x hx
   have:=args_same (hr c (by simp)) c.head.l 0 K (by omega) (by omega) i x hx
   rwa [Nat.zero_add]at this
  ·rw [hsame] at hu
   exact passK_same r K (fun e he=>hr e (by simp[he])) hu c hc

theorem good_ref {l:List Cs}{K:List Kp}(h:∀c∈l,∀i x,c.head.l[i]? = some x→(idK K c.head.s i && !freeB K c x)=false):GoodI l (idK K):=by
 intro c hc i x hx hi
 have:=h c hc i x hx
 rw[hi,Bool.true_and,Bool.not_eq_false',freeB]at this
 simp only[Bool.and_eq_true,beq_iff_eq]at this
 exact⟨this.1.1,this.1.2,this.2⟩

theorem refF_ok (l:List Cs):∀ (f:Nat) (K:List Kp),unK K l<f→GoodI l (idK (refF f l K))∧∀I,GoodI l I→(∀s i,I s i=true→idK K s i=true)→∀s i,I s i=true→idK (refF f l K) s i=true
 |0,K,h=>by omega
 |f+1,K,h=>by
  rw[refF]
  obtain⟨h1,h2⟩:=passK_un l K fun _ h=>h
  split
  ·rename_i he
   refine⟨good_ref (passK_same l K (fun _ h=>h) (by rw[he])),fun I _ hI=>hI⟩
  ·rename_i hne
   have:unK (passK K l) l<unK K l:=by
    rcases Nat.lt_or_ge (unK (passK K l) l) (unK K l) with h3 |h3
    ·exact h3
    ·exact absurd (h2 (by omega)) hne
   obtain⟨h3,h4⟩:=refF_ok l f (passK K l) (by omega)
   exact⟨h3,fun I hI hK=>h4 I hI (passK_good hI l K (fun _ h=>h) hK)⟩

theorem addFrom_mem (s:ByteArray)(p:Sg):∀ (m i:Nat) (M:List Sg),p∈addFrom s M i m↔p∈M∨∃j:Nat,i≤j∧j<i+m∧p=(s,(j:Int))
 |0,i,M=>by
  simp only[addFrom]
  exact⟨.inl,fun h=>h.elim id fun ⟨j,h1,h2,_⟩=>by omega⟩
 |m+1,i,M=>by
  rw[addFrom,addFrom_mem s p m (i+1),mem_addS]
  constructor
  ·rintro ((h | h) | ⟨j,h1,h2,h3⟩)
   ·exact .inl h
   ·exact .inr ⟨i,Nat.le_refl _,by omega,h⟩
   ·exact .inr ⟨j,by omega,by omega,h3⟩
  ·rintro (h | ⟨j,h1,h2,h3⟩)
   ·exact .inl (.inl h)
   ·by_cases hj:j=i
    ·subst hj;exact .inl (.inr h3)
    ·exact .inr ⟨j,by omega,by omega,h3⟩

theorem spots_mem (p:Sg):∀ (l:List Cs) (M:List Sg),p∈l.foldl (fun M c=>addArgs c.head.s M c.head.l.length) M↔p∈M∨∃c∈l,∃j:Nat,j<c.head.l.length∧p=(c.head.s,(j:Int))
 |[],M=>by simp
 |c::r,M=>by
  rw[List.foldl_cons,spots_mem p r,addArgs,addFrom_mem]
  constructor
  ·rintro ((h | ⟨j,_,h2,h3⟩) | ⟨d,hd,j,h1,h2⟩)
   ·exact .inl h
   ·exact .inr ⟨c,by simp,j,by omega,h3⟩
   ·exact .inr ⟨d,by simp[hd],j,h1,h2⟩
  ·rintro (h | ⟨d,hd,j,h1,h2⟩)
   ·exact .inl (.inl h)
   ·rcases List.mem_cons.1 hd with rfl | hd
    ·exact .inl (.inr ⟨j,Nat.zero_le _,by omega,h2⟩)
    ·exact .inr ⟨d,hd,j,h1,h2⟩

theorem spot_iff {l:List Cs}{s:ByteArray}{i:Nat}:idM (spotsL l) s i=true↔∃c∈l,c.head.s=s∧i<c.head.l.length:=by
 rw[idM,hasS_iff,spotsL,spots_mem]
 constructor
 ·rintro (h | ⟨c,hc,j,h1,h2⟩)
  ·cases h
  ·obtain ⟨e1,e2⟩:=Prod.mk.inj h2
   exact⟨c,hc,e1.symm,by omega⟩
 ·rintro ⟨c,hc,rfl,h⟩
  exact .inr ⟨c,hc,i,h,rfl⟩

theorem rmL_sub {p:Sg}:∀ {B M:List Sg},p∈rmL M B→p∈M
 |[],_,h=>h
 |q::B,M,h=>(rm_mem.1 (rmL_sub (B:=B) (by rwa [rmL_cons]at h))).1

theorem passM_sub {p:Sg}:∀ {l:List Cs} {M:List Sg},p∈passM l M→p∈M
 |[],_,h=>h
 |c::r,M,h=>rmL_sub (passM_sub (l:=r) (by rwa [passM]at h))

theorem idleF_sub {p:Sg}{l:List Cs}:∀ {f:Nat} {M:List Sg},p∈idleF f l M→p∈M
 |0,_,h=>h
 |f+1,M,h=>by
  rw[idleF]at h
  split at h
  ·exact passM_sub h
  ·exact passM_sub (idleF_sub h)

theorem lkA_there {I J:ByteArray→Nat→Bool}{k:Int}{s:ByteArray}(n:Nat)(h:k=1→∀j,j<n→I s j=J s j)(v:Int):∀ (l:List Tm) (i:Nat),i+l.length≤n→lkA I k s l i v=lkA J k s l i v
 |[],_,_=>rfl
 |x::r,i,hl=>by
  simp only[List.length_cons]at hl
  have ih:=lkA_there n h v r (i+1) (by omega)
  have:offA I k s x i=offA J k s x i:=by
   unfold offA
   by_cases hk:k=1
   ·rw[h hk i (by omega)]
   ·rw[show (k==1)=false by simpa using hk];rfl
  simp only[lkA,this,ih]

theorem lkG_there {I J:ByteArray→Nat→Bool}{l:List Cs}(h:∀ (s:ByteArray) (j n:Nat),hasH l (s,(n:Int))=true→j<n→I s j=J s j)(v:Int)(g:Gl):there1 (hasH l) g=true→lkG I g v=lkG J g v:=by
 induction g using Gl.ind with
 |h g iha ihb ihc =>
  intro ht
  rw[there1_eq]at ht
  simp only[Bool.and_eq_true,Bool.not_eq_true',Bool.and_eq_false_iff]at ht
  have hL:∀r:List Gl,(∀x∈r,there1 (hasH l) x=true→lkG I x v=lkG J x v)→thereL (hasH l) r=true→lkGs I r v=lkGs J r v:=by
   intro r
   induction r with
   |nil=>intro _ _;rfl
   |cons x r ih =>
    intro hx htr
    rw[thereL,Bool.and_eq_true]at htr
    simp only[lkGs,hx x (by simp) htr.1,ih (fun y hy=>hx y (by simp[hy])) htr.2]
  have h1:=lkA_there (I:=I) (J:=J) (k:=g.k) (s:=g.t.s) g.t.l.length (fun hk j hj=>by
   refine h g.t.s j g.t.l.length ?_ hj
   rcases ht.1.1.1 with h9 |h9
   ·simp[hk]at h9
   ·simpa[sgOf]using h9) v g.t.l 0 (by omega)
  rw[lkG_eq,lkG_eq,h1,hL _ iha ht.1.1.2,hL _ ihb ht.1.2,hL _ ihc ht.2]

theorem lkGs_there {I J:ByteArray→Nat→Bool}{l:List Cs}(h:∀ (s:ByteArray) (j n:Nat),hasH l (s,(n:Int))=true→j<n→I s j=J s j)(v:Int):∀ (r:List Gl),thereL (hasH l) r=true→lkGs I r v=lkGs J r v
 |[],_=>rfl
 |g::r,ht=>by
  rw[thereL,Bool.and_eq_true]at ht
  simp only[lkGs,lkG_there h v g ht.1,lkGs_there h v r ht.2]

theorem init_def (s:ByteArray):∀ (l:List Cs) (K:List Kp),defK (initK K l) s=(defK K s || l.any fun c=>decide (c.head.s=s))
 |[],K=>by simp[initK]
 |c::r,K=>by
  rw[initK,init_def s r,List.any_cons]
  by_cases h:K.any (fun x=>decide (x.s=c.head.s))=true
  ·rw [if_pos h]
   by_cases hs:c.head.s=s
   ·subst hs
    have:defK K c.head.s=true:=h
    simp[this]
   ·simp[hs]
  ·rw [if_neg h]
   simp only[defK,List.any_append,List.any_cons,List.any_nil,Bool.or_false,Bool.or_assoc]

theorem init_at:∀ (l:List Cs) (K:List Kp),(∀x∈K,x.at_=[])→∀x∈initK K l,x.at_=[]
 |[],K,h=>h
 |c::r,K,h=>by
  rw[initK]
  refine init_at r _ fun x hx=>?_
  split at hx
  ·exact h x hx
  ·rcases List.mem_append.1 hx with hx | hx
   ·exact h x hx
   ·simp only[List.mem_singleton]at hx;rw[hx]

theorem id_empty {K:List Kp}(h:∀x∈K,x.at_=[])(s:ByteArray)(i:Nat):idK K s i=defK K s:=by
 induction K with
 |nil=>rfl
 |cons x r ih =>
  unfold idK at ih ⊢
  rw[keptB]
  show _=(decide (x.s=s) || defK r s)
  by_cases hs:x.s=s
  ·rw[if_pos hs,h x (by simp),decide_eq_true hs];rfl
  ·rw[if_neg hs,ih fun y hy=>h y (by simp[hy]),decide_eq_false hs];rfl

theorem idle_same {l:List Cs}(hc:(checkR l).2=0){s:ByteArray}{i:Nat}(hsp:idM (spotsL l) s i=true):idM (idleL l) s i=idK (refKeeps l) s i:=by
 have hn:(spotsL l).Nodup:=spots_nodup l [] (by simp)
 obtain⟨h1,h2⟩:=idleF_ok l ((spotsL l).length+1) (spotsL l) hn (by omega)
 obtain⟨h3,h4⟩:=refF_ok l (unK (initK [] l) l+1) (initK [] l) (by omega)
 have hid0:∀s i,idK (initK [] l) s i=l.any fun c=>decide (c.head.s=s):=fun s i=>by
  rw[id_empty (init_at l [] (by simp)),init_def];rfl
 have hsub:∀s i,idM (idleL l) s i=true→idM (spotsL l) s i=true:=fun s i h=>hasS_iff.2 (idleF_sub (hasS_iff.1 h))
 have hg1:GoodI l (idM (idleL l)):=good_idle h1
 have ha:∀s i,idM (idleL l) s i=true→idK (refKeeps l) s i=true:=h4 _ hg1 fun s i h=>by
  obtain⟨c,hc,h5,_⟩:=spot_iff.1 (hsub s i h)
  rw[hid0,List.any_eq_true]
  exact⟨c,hc,by simp[h5]⟩
 obtain⟨_,_,hth⟩:=(checkR_ok l).1 hc
 have hg2:GoodI l (fun s i=>idK (refKeeps l) s i&&idM (spotsL l) s i):=by
  intro c hcm i x hx hi
  rw[Bool.and_eq_true]at hi
  obtain⟨g1,g2,g3⟩:=h3 c hcm i x hx hi.1
  refine⟨g1,g2,?_⟩
  rw[← g3]
  refine lkGs_there (l:=l) (fun s j n hh hj=>?_) x.n c.body (hth c hcm)
  have:idM (spotsL l) s j=true:=by
   simp only[hasH,List.any_eq_true,decide_eq_true_eq]at hh
   obtain⟨d,hd,h6⟩:=hh
   obtain⟨e1,e2⟩:=Prod.mk.inj h6
   exact spot_iff.2 ⟨d,hd,e1,by omega⟩
  show (idK (refKeeps l) s j&&idM (spotsL l) s j)=_
  rw[this,Bool.and_true];rfl
 have hb:=h2 _ hg2 (fun s i h=>by rw[Bool.and_eq_true]at h;exact h.2) s i
 rw[Bool.eq_iff_iff]
 exact⟨ha s i,fun h=>hb (by rw[h,hsp];rfl)⟩

theorem sorted_ext:∀ {l m:List Int},l.Pairwise (· < ·)→m.Pairwise (· < ·)→(∀x,x∈l↔x∈m)→l=m
 |[],[],_,_,_=>rfl
 |[],b::m,_,_,h=>by have:=(h b).2 (by simp);cases this
 |a::l,[],_,_,h=>by have:=(h a).1 (by simp);cases this
 |a::l,b::m,hl,hm,h=>by
  rw[List.pairwise_cons]at hl hm
  have hab:a=b:=by
   have h1:=(h a).1 (by simp)
   have h2:=(h b).2 (by simp)
   rcases List.mem_cons.1 h1 with h1 |h1
   ·exact h1
   ·rcases List.mem_cons.1 h2 with h2 | h2
    ·exact h2.symm
    ·have:=hl.1 b h2;have:=hm.1 a h1;omega
  subst hab
  congr 1
  refine sorted_ext hl.2 hm.2 fun x=>?_
  constructor
  ·intro hx
   have:=hl.1 x hx
   rcases List.mem_cons.1 ((h x).1 (by simp[hx])) with h1 |h1
   ·omega
   ·exact h1
  ·intro hx
   have:=hm.1 x hx
   rcases List.mem_cons.1 ((h x).2 (by simp[hx])) with h1 |h1
   ·omega
   ·exact h1

theorem ats_mem (off:ByteArray→Nat→Bool)(s:ByteArray)(a:Int):∀ (m i:Nat),a∈atsF off s i m↔∃j:Nat,a=(j:Int)∧i≤j∧j<i+m∧off s j=false
 |0,i=>by simp only[atsF];exact⟨fun h=>(by cases h),fun ⟨j,_,h1,h2,_⟩=>(by omega)⟩
 |m+1,i=>by
  rw[atsF,List.mem_append,ats_mem off s a m (i+1)]
  constructor
  ·rintro (h | ⟨j,h1,h2,h3,h4⟩)
   ·cases ho:off s i with
    |true=>rw[ho]at h;simp at h
    |false=>rw[ho]at h;simp at h;exact⟨i,h,Nat.le_refl _,by omega,ho⟩
   ·exact⟨j,h1,by omega,by omega,h4⟩
  ·rintro ⟨j,h1,h2,h3,h4⟩
   by_cases hj:j=i
   ·subst hj;left;rw[h4];simp[h1]
   ·exact .inr ⟨j,h1,by omega,by omega,h4⟩

theorem ats_sorted (off:ByteArray→Nat→Bool)(s:ByteArray):∀ (m i:Nat),(atsF off s i m).Pairwise (· < ·)
 |0,i=>by simp[atsF]
 |m+1,i=>by
  rw[atsF]
  have ih:=ats_sorted off s m (i+1)
  cases ho:off s i with
  |true=>simpa using ih
  |false =>
   simp only[Bool.false_eq_true,if_false,List.singleton_append,List.pairwise_cons]
   refine⟨fun b hb=>?_,ih⟩
   obtain⟨j,h1,h2,_⟩:=(ats_mem off s b m (i+1)).1 hb
   omega

theorem sing_get:∀ (l:List Cs) (A:List (ByteArray × Int)),singP A l=true→∀c∈l,∀n,nGet A c.head.s=some n→n=c.head.l.length
 |[],_,_,c,hc,_,_=>by cases hc
 |d::r,A,h,c,hc,n,hn=>by
  rw[singP]at h
  have key:(∀n',nGet A d.head.s=some n'→n'=d.head.l.length)∧singP (nSet A d.head.s d.head.l.length) r=true:=by
   cases hg:nGet A d.head.s with
   |none=>rw[hg]at h;exact⟨fun _ h=>(by cases h),h⟩
   |some n' =>
    rw[hg]at h
    simp only at h
    split at h
    ·cases h
    ·rename_i hne
     exact⟨fun _ h=>(by cases h;simpa using hne),h⟩
  rcases List.mem_cons.1 hc with rfl |hc
  ·exact key.1 n hn
  ·by_cases hs:d.head.s=c.head.s
   ·have h1:=key.1 n (by rw [hs]; exact hn)
    have h2:=sing_get r _ key.2 c hc d.head.l.length (by rw[nGet_set,if_pos hs])
    omega
   ·exact sing_get r _ key.2 c hc n (by rw[nGet_set,if_neg hs];exact hn)

theorem sing_ok:∀ (l:List Cs) (A:List (ByteArray × Int)),singP A l=true→∀c∈l,∀d∈l,c.head.s=d.head.s→c.head.l.length=d.head.l.length
 |[],_,_,c,hc,_,_,_=>by cases hc
 |e::r,A,h,c,hc,d,hd,hs=>by
  have h2:singP (nSet A e.head.s e.head.l.length) r=true:=by
   rw[singP]at h
   cases hg:nGet A e.head.s with
   |none=>rw[hg]at h;exact h
   |some n' =>
    rw[hg]at h
    simp only at h
    split at h
    ·cases h
    ·exact h
  have key:∀x∈r,e.head.s=x.head.s→e.head.l.length=x.head.l.length:=fun x hx hxs=>by
   have:=sing_get r _ h2 x hx e.head.l.length (by rw[nGet_set,if_pos hxs])
   omega
  rcases List.mem_cons.1 hc with ec |hc2
  ·rcases List.mem_cons.1 hd with ed | hd2
   ·rw[ec,ed]
   ·rw[ec]at hs ⊢;exact key d hd2 hs
  ·rcases List.mem_cons.1 hd with ed | hd2
   ·rw[ed]at hs ⊢;exact(key c hc2 hs.symm).symm
   ·exact sing_ok r _ h2 c hc2 d hd2 hs

theorem sing_of:∀ (l:List Cs) (A:List (ByteArray × Int)),(∀c∈l,∀n,nGet A c.head.s=some n→n=c.head.l.length)→(∀c∈l,∀d∈l,c.head.s=d.head.s→c.head.l.length=d.head.l.length)→singP A l=true
 |[],_,_,_=>rfl
 |c::r,A,h1,h2=>by
  have h3:singP (nSet A c.head.s c.head.l.length) r=true:=sing_of r _ (fun d hd n hn=>by
   rw[nGet_set]at hn
   by_cases hs:c.head.s=d.head.s
   ·rw [if_pos hs] at hn
    have:=h2 c (by simp) d (by simp[hd]) hs
    have:=Option.some.inj hn
    omega
   ·rw[if_neg hs]at hn;exact h1 d (by simp[hd]) n hn) (fun d hd e he=>h2 d (by simp[hd]) e (by simp[he]))
  rw[singP]
  cases hg:nGet A c.head.s with
  |none=>exact h3
  |some n =>
   simp only
   rw[if_neg (by simpa using h1 c (by simp) n hg)];exact h3

theorem sing_pairs {l:List Cs}:singP [] l=true↔∀ (i k:Nat) (c d:Cs),k<i→l[i]? = some c→l[k]? = some d→c.head.s=d.head.s→c.head.l.length=d.head.l.length:=by
 constructor
 ·intro h i k c d _ hc hd hs
  exact sing_ok l [] h c (List.mem_of_getElem? hc) d (List.mem_of_getElem? hd) hs
 ·intro h
  refine sing_of l [] (fun c _ n hn=>by cases hn) fun c hc d hd hs=>?_
  obtain⟨i,hi,rfl⟩:=List.mem_iff_getElem.1 hc
  obtain⟨k,hk,rfl⟩:=List.mem_iff_getElem.1 hd
  rcases Nat.lt_trichotomy i k with h1 |h1 |h1
  ·exact(h k i _ _ h1 (List.getElem?_eq_getElem hk) (List.getElem?_eq_getElem hi) hs.symm).symm
  ·subst h1;rfl
  ·exact h i k _ _ h1 (List.getElem?_eq_getElem hi) (List.getElem?_eq_getElem hk) hs
def shp (K:List Kp):List (ByteArray × Int):=K.map fun x=>(x.s,x.n)

theorem shp_with (K:List Kp)(s:ByteArray)(a:Int):shp (withK K s a)=shp K:=by
 unfold shp withK
 rw[List.map_map]
 refine List.map_congr_left fun x _=>?_
 simp only[Function.comp_apply]
 split<;>rfl

theorem shp_step (K:List Kp)(c:Cs)(i:Nat)(x:Tm):shp (stepA K c i x)=shp K:=by
 unfold stepA;split
 ·exact shp_with _ _ _
 ·rfl

structure OkK (l:List Cs) (K:List Kp):Prop where
 nd:((shp K).map (·.1)).Nodup
 len:∀x∈K,∃c∈l,c.head.s=x.s∧x.n=c.head.l.length
 at_:∀x∈K,x.at_.Pairwise (· < ·)∧∀a∈x.at_,0≤a∧a<x.n

theorem kept_at {K:List Kp}(hn:((shp K).map (·.1)).Nodup):∀ {x:Kp},x∈K→∀a,keptB K x.s a=inB x.at_ a:=by
 induction K with
 |nil=>intro x h;cases h
 |cons y r ih =>
  intro x hx a
  simp only[shp,List.map_cons,List.nodup_cons]at hn
  rcases List.mem_cons.1 hx with rfl |hx
  ·rw[keptB,if_pos rfl]
  ·have:¬ y.s=x.s:=fun e=>hn.1 (by rw [e]; simp only [List.map_map,List.mem_map]; exact ⟨x,hx,rfl⟩)
   rw[keptB,if_neg this]
   exact ih hn.2 hx a

theorem OkK.step {l:List Cs}{K:List Kp}(hs:singP [] l=true)(h:OkK l K){c:Cs}(hc:c∈l){i:Nat}(hi:i<c.head.l.length)(x:Tm):OkK l (stepA K c i x):=by
 unfold stepA
 split
 ·rename_i hb
  rw[Bool.and_eq_true]at hb
  refine⟨by rw[shp_with];exact h.nd,fun y hy=>?_,fun y hy=>?_⟩
  ·obtain ⟨z,hz,rfl⟩:=List.mem_map.1 hy
   have:=h.len z hz
   split<;>exact this
  ·obtain ⟨z,hz,rfl⟩:=List.mem_map.1 hy
   obtain⟨h1,h2⟩:=h.at_ z hz
   split
   ·rename_i hzs
    have hk:=kept_at h.nd hz i
    have hni:(i:Int) ∉ z.at_:=fun hm=>by
     rw[← inB_iff,← hk,hzs]at hm
     have:=hb.1
     rw[idK,hm]at this;cases this
    refine⟨ins_sorted h1 hni,fun a ha=>?_⟩
    rcases ins_mem.1 ha with ha |⟨ha,_⟩
    ·exact h2 a ha
    ·obtain ⟨d,hd,e1,e2⟩:=h.len z hz
     have:=sing_ok l [] hs c hc d hd (by rw[e1,hzs])
     simp only
     omega
   ·exact⟨h1,h2⟩
 ·exact h

theorem OkK.args {l:List Cs}(hs:singP [] l=true){c:Cs}(hc:c∈l):∀ (r:List Tm) (i:Nat) {K:List Kp},OkK l K→i+r.length≤c.head.l.length→OkK l (argsK c K r i)∧shp (argsK c K r i)=shp K
 |[],_,_,h,_=>⟨h,rfl⟩
 |x::r,i,K,h,hl=>by
  simp only[List.length_cons]at hl
  obtain⟨h1,h2⟩:=OkK.args hs hc r (i+1) (h.step hs hc (i:=i) (by omega) x) (by omega)
  rw[argsK]
  exact⟨h1,by rw[h2,shp_step]⟩

theorem OkK.pass {l:List Cs}(hs:singP [] l=true):∀ (r:List Cs) {K:List Kp},(∀c∈r,c∈l)→OkK l K→OkK l (passK K r)∧shp (passK K r)=shp K
 |[],_,_,h=>⟨h,rfl⟩
 |c::r,K,hr,h=>by
  obtain⟨h1,h2⟩:=OkK.args hs (hr c (by simp)) c.head.l 0 h (by omega)
  obtain⟨h3,h4⟩:=OkK.pass hs r (fun d hd=>hr d (by simp[hd])) h1
  rw[passK]
  exact⟨h3,by rw[h4,h2]⟩

theorem OkK.ref {l:List Cs}(hs:singP [] l=true):∀ (f:Nat) {K:List Kp},OkK l K→OkK l (refF f l K)∧shp (refF f l K)=shp K
 |0,_,h=>⟨h,rfl⟩
 |f+1,K,h=>by
  obtain⟨h1,h2⟩:=OkK.pass hs l (fun _ h=>h) h
  rw[refF]
  split
  ·exact⟨h,rfl⟩
  ·obtain ⟨h3,h4⟩:=OkK.ref hs f h1
   exact⟨h3,by rw[h4,h2]⟩
def trO:ByteArray→Nat→Bool:=fun _ _=>true

theorem atsF_tr (s:ByteArray):∀ (m i:Nat),atsF trO s i m=[]
 |0,_=>rfl
 |m+1,i=>by rw[atsF,atsF_tr s m];rfl

theorem keepF_tr (off:ByteArray→Nat→Bool):∀ (l:List Cs) (met:List ByteArray),keepF off met l=(keepF trO met l).map fun y=>⟨y.s,y.n,atsF off y.s 0 y.n.toNat⟩
 |[],_=>rfl
 |c::r,met=>by
  rw[keepF,keepF]
  split
  ·exact keepF_tr off r met
  ·rw[List.map_cons,keepF_tr off r];simp

theorem init_keep:∀ (l:List Cs) (K:List Kp),initK K l=K++keepF trO (K.map (·.s)) l
 |[],K=>by simp[initK,keepF]
 |c::r,K=>by
  have hh:hasB (K.map (·.s)) c.head.s=K.any (fun x=>decide (x.s=c.head.s)):=by
   unfold hasB;rw[List.any_map];rfl
  rw[initK,keepF,init_keep r,hh]
  split
  ·rfl
  ·rw[atsF_tr];simp

theorem init_ok {l:List Cs}:∀ (r:List Cs) (K:List Kp),(∀c∈r,c∈l)→OkK l K→OkK l (initK K r)
 |[],_,_,h=>h
 |c::r,K,hr,h=>by
  rw[initK]
  refine init_ok r _ (fun d hd=>hr d (by simp[hd])) ?_
  split
  ·exact h
  ·rename_i hn
   refine⟨?_,fun x hx=>?_,fun x hx=>?_⟩
   ·simp only [shp,List.map_append,List.map_cons,List.map_nil]
    rw[List.nodup_append]
    refine⟨h.nd,by simp,fun a ha b hb e=>?_⟩
    simp only[List.mem_singleton]at hb
    subst e
    simp only[List.map_map,List.mem_map]at ha
    obtain⟨x,hx,hxa⟩:=ha
    refine hn ?_
    rw[List.any_eq_true]
    exact⟨x,hx,decide_eq_true (hxa.trans hb)⟩
   ·rcases List.mem_append.1 hx with hx | hx
    ·exact h.len x hx
    ·simp only[List.mem_singleton]at hx;subst hx;exact⟨c,hr c (by simp),rfl,rfl⟩
   ·rcases List.mem_append.1 hx with hx | hx
    ·exact h.at_ x hx
    ·simp only[List.mem_singleton]at hx;subst hx;exact⟨by simp,by simp⟩

theorem keeps_same {l:List Cs}(hc:(checkR l).2=0)(hs:singP [] l=true):refKeeps l=keepL l:=by
 have h0:OkK l (initK [] l):=init_ok l [] (fun _ h=>h) ⟨by simp[shp],by simp,by simp⟩
 obtain⟨hok,hsh⟩:=OkK.ref hs (unK (initK [] l) l+1) h0
 have hR:refF (unK (initK [] l) l+1) l (initK [] l)=refKeeps l:=rfl
 rw[hR]at hok hsh
 have hat:∀y∈refKeeps l,y.at_=atsF (idM (idleL l)) y.s 0 y.n.toNat:=fun y hy=>by
  obtain⟨h1,h2⟩:=hok.at_ y hy
  obtain⟨c,hcm,e1,e2⟩:=hok.len y hy
  refine sorted_ext h1 (ats_sorted _ _ _ _) fun a=>?_
  rw[ats_mem]
  have hkept:∀j:Nat,(j:Int)<y.n→idM (idleL l) y.s j = !inB y.at_ j:=fun j hj=>by
   rw[idle_same hc (spot_iff.2 ⟨c,hcm,e1,by omega⟩),idK,kept_at hok.nd hy]
  constructor
  ·intro ha
   have h3:=h2 a ha
   refine⟨a.toNat,by omega,by omega,by omega,?_⟩
   rw[hkept _ (by omega),show ((a.toNat:Nat):Int)=a by omega,inB_iff.2 ha];rfl
  ·rintro ⟨j,rfl,_,h4,h5⟩
   rw[hkept j (by omega),Bool.not_eq_false']at h5
   exact inB_iff.1 h5
 have e3:refKeeps l=(shp (refKeeps l)).map fun y=>(⟨y.1,y.2,atsF (idM (idleL l)) y.1 0 y.2.toNat⟩:Kp):=by
  unfold shp
  rw[List.map_map]
  conv=>lhs;rw[← List.map_id (refKeeps l)]
  refine List.map_congr_left fun y hy=>?_
  simp only[Function.comp_apply,id]
  rw[← hat y hy]
 rw[e3,hsh,keepL,keepF_tr,init_keep,shp,List.map_map]
 rfl
end PSL

namespace Go.Proofs.YtcgkgofmldhokaaGreat
open Go PSL Go.Proofs

theorem refIn20_ok (l:List Int)(n:Int)(hl:l.length<1000000000):PCtr Tryz.prog 90 [.d (.sl (irows l)),iV n] (bV (inB l n)):=by
 refine PCtr.of_R (pf:=fun _=>.still) tyOk mixed Tryz.func90 rfl (by kernel_rfl) (by kernel_rfl) (by simp[Tryz.ntmps90]) fun w S hg=>?_
 refine R_k hg.ok rfl rfl ?_
 refine R_call hg.ok (at_ok l n hl) rfl rfl rfl rfl rfl rfl ?_
 refine R_k hg.ok rfl rfl ?_
 refine R_ret hg 5 rfl rfl ?_
 exact congrArg bV (decide_eq_decide.2 (by omega))

theorem refStands_ok (t:Tm)(v:Int):t.size≤1000000→PCtr Tryz.prog 91 [t.av,iV v] (iV (stT t v)):=by
 induction t using Tm.ind with
 |h t ih =>
 intro hsz
 have hrl:=Tm.rows_length t.l
 have hse:=Tm.size_eq t
 have hll:=tml_len t.l
 have hst:=stT_eq t v
 refine PCtr.of_R (pf:=fun _=>.still) tyOk mixed Tryz.func91 rfl (by kernel_rfl) (by kernel_rfl) (by simp[Tryz.ntmps91]) fun w S hg=>?_
 refine R_k hg.ok rfl rfl ?_
 refine R_cut2 (fun n0:Nat=>([(1,iV v),(2,.lo 0 0),(5,iV n0)],[boxR t])) (fun n0=>n0=if t.k=1∧t.n=v then 1 else 0) rfl ?_ ?_
 ·refine R_if rfl rfl (fun h=>?_) (fun h=>?_) <;> refine R_run hg.ok 1000 rfl rfl ?_
  ·have h:t.k=1:=of_decide_eq_true h
   refine R_if rfl rfl (fun h2=>?_) (fun h2=>?_)<;>refine R_k hg.ok rfl rfl ?_
   ·have h2:t.n=v:=of_decide_eq_true h2
    exact R_to 1 (by rw[if_pos ⟨h,h2⟩]) ⟨.refl _,.refl _,.refl _,trivial⟩ rfl
   ·have h2:¬ t.n=v:=of_decide_eq_false h2
    exact R_to 0 (by rw[if_neg (fun x=>h2 x.2)]) ⟨.refl _,.refl _,.refl _,trivial⟩ rfl
  ·have h:¬ t.k=1:=of_decide_eq_false h
   exact R_to 0 (by rw[if_neg (fun x=>h x.1)]) ⟨.refl _,.refl _,.refl _,trivial⟩ rfl
 rintro n0 hn0
 rw[← hn0]at hst
 have hn01:n0≤1:=by rw[hn0];split<;>omega
 have hstl:=stL_le t.l v
 refine R_k hg.ok rfl rfl ?_
 refine R_loop (fun x:Nat × Nat=>([(1,iV v),(2,.lo 0 0),(5,iV x.2),(6,iV x.1)],[boxR t])) (fun x=>x.1≤t.l.length∧stT t v=x.2+stL (t.l.drop x.1) v) (fun x=>t.l.length - x.1) (0,n0) ⟨Nat.zero_le _,hst⟩ ⟨.refl _,.refl _,.refl _,.refl _,trivial⟩ rfl ?_
 rintro⟨k,n⟩ ⟨hk,hm⟩
 simp only at hk hm
 refine R_k hg.ok rfl rfl ?_
 refine R_if rfl rfl (fun h=>?_) (fun h=>?_)<;>refine R_k hg.ok rfl rfl ?_
 ·have hk1:k<t.l.length:=lt_dec h (by rw [hrl])
  have e1:t.l[k]? = some t.l[k]:=List.getElem?_eq_getElem hk1
  rw[List.drop_eq_getElem_cons hk1,stL]at hm
  have hmem:=List.getElem_mem hk1
  have hxs:=Tm.size_mem hmem
  generalize t.l[k]=x at e1 hm hmem hxs
  refine R_index hg.ok rfl rfl rfl rfl rfl rfl (Int.natCast_nonneg _) (Tm.rows_get e1) rfl ?_
  refine R_k hg.ok rfl rfl ?_
  refine R_call hg.ok (ih x hmem (by omega)) rfl rfl rfl rfl rfl rfl ?_
  refine R_k hg.ok rfl rfl ?_
  exact R_next (k+1,n+stT x v) ⟨hk1,by rw[hm];show n+(stT x v+stL (t.l.drop (k+1)) v)=n+stT x v+stL (t.l.drop (k+1)) v;omega⟩ (by show t.l.length - (k+1)<t.l.length - k;omega) ⟨.refl _,.refl _,Ent.wrap (by push_cast;rfl) (by omega) (by omega),Ent.wrap (by omega) (by omega) (by omega),trivial⟩ rfl
 ·have hk1:t.l.length≤k:=ge_dec h (by rw [hrl])
  rw[List.drop_eq_nil_of_le hk1,stL]at hm
  refine R_ret hg 5 rfl rfl ?_
  rw[hm];rfl

theorem refKept_ok (K:List Kp)(s:ByteArray)(i:Int)(hK:K.length≤1000000)(ha:∀x∈K,x.at_.length≤1000000):PCtr Tryz.prog 59 [.d (.sl (kpR K)),.d (.v (.string s)),iV i] (bV (keptB K s i)):=by
 have hrl:=kpR_len K
 refine PCtr.of_R (pf:=fun _=>.still) tyOk mixed Tryz.func59 rfl (by kernel_rfl) (by kernel_rfl) (by simp[Tryz.ntmps59]) fun w S hg=>?_
 refine R_k hg.ok rfl rfl ?_
 refine R_loop (fun k:Nat=>([(0,.d (.sl (kpR K))),(1,.d (.v (.string s))),(2,iV i),(7,iV k)],[])) (fun k=>k≤K.length∧keptB K s i=keptB (K.drop k) s i) (fun k=>K.length - k) 0 ⟨Nat.zero_le _,rfl⟩ ⟨.refl _,.refl _,.refl _,.refl _,trivial⟩ rfl ?_
 rintro k ⟨hk,hm⟩
 refine R_k hg.ok rfl rfl ?_
 refine R_if rfl rfl (fun h=>?_) (fun h=>?_)<;>refine R_k hg.ok rfl rfl ?_
 ·have hk1:k<K.length:=lt_dec h (by rw [hrl])
  have e1:K[k]? = some K[k]:=List.getElem?_eq_getElem hk1
  rw[List.drop_eq_getElem_cons hk1,keptB]at hm
  have hal:=ha _ (List.getElem_mem hk1)
  generalize K[k]=x at e1 hm hal
  refine R_index hg.ok rfl rfl rfl rfl rfl rfl (Int.natCast_nonneg _) (kpR_get e1) rfl ?_
  refine R_k hg.ok rfl rfl ?_
  refine R_if rfl rfl (fun h2=>?_) (fun h2=>?_)<;>refine R_k hg.ok rfl rfl ?_
  ·have h2:x.s=s:=Tm.strEq_iff.1 h2
   refine R_index hg.ok rfl rfl rfl rfl rfl rfl (Int.natCast_nonneg _) (kpR_get e1) rfl ?_
   refine R_k hg.ok rfl rfl ?_
   refine R_call hg.ok (refIn20_ok x.at_ i (by omega)) rfl rfl rfl rfl rfl rfl ?_
   refine R_k hg.ok rfl rfl ?_
   refine R_ret hg 5 rfl rfl ?_
   rw[hm,if_pos h2];rfl
  ·have h2:¬ x.s=s:=fun e=>by rw [Tm.strEq_iff.2 e] at h2; cases h2
   rw[if_neg h2]at hm
   exact R_next (k+1) ⟨hk1,hm⟩ (by omega) ⟨.refl _,.refl _,.refl _,Ent.wrap (by omega) (by omega) (by omega),trivial⟩ rfl
 ·have hk1:K.length≤k:=ge_dec h (by rw [hrl])
  rw[List.drop_eq_nil_of_le hk1,keptB]at hm
  refine R_ret hg 5 rfl rfl ?_
  rw[hm];rfl

theorem refLooked_ok (K:List Kp)(v:Int)(hK:K.length≤1000000)(ha:∀x∈K,x.at_.length≤1000000)(l:List Gl):Gl.sizeL l≤1000000→PCtr Tryz.prog 92 [.d (.sl (kpR K)),.d (.sl (Gl.rows l)),iV v] (iV (lkGs (idK K) l v)):=by
 refine Gl.indL (p:=fun l=>Gl.sizeL l≤1000000→PCtr Tryz.prog 92 [.d (.sl (kpR K)),.d (.sl (Gl.rows l)),iV v] (iV (lkGs (idK K) l v))) (fun l hsub=>?_) l
 intro hsz
 have hrl:=Gl.rows_length l
 have hll:=Gl.len_size l
 have htot:=lkGs_le (idK K) l v
 refine PCtr.of_R (pf:=fun _=>.still) tyOk mixed Tryz.func92 rfl (by kernel_rfl) (by kernel_rfl) (by simp[Tryz.ntmps92]) fun w S hg=>?_
 refine R_k hg.ok rfl rfl ?_
 refine R_loop (fun x:Nat × Nat=>([(0,.d (.sl (kpR K))),(1,.d (.sl (Gl.rows l))),(2,iV v),(7,iV x.2),(8,iV x.1)],[])) (fun x=>x.1≤l.length∧lkGs (idK K) l v=x.2+lkGs (idK K) (l.drop x.1) v) (fun x=>l.length - x.1) (0,0) ⟨Nat.zero_le _,by simp⟩ ⟨.refl _,.refl _,.refl _,.refl _,.refl _,trivial⟩ rfl ?_
 rintro⟨k,n⟩ ⟨hk,hm⟩
 simp only at hk hm
 refine R_k hg.ok rfl rfl ?_
 refine R_if rfl rfl (fun h=>?_) (fun h=>?_)<;>refine R_k hg.ok rfl rfl ?_
 rotate_left
 ·have hk1:l.length≤k:=ge_dec h (by rw [hrl])
  rw[List.drop_eq_nil_of_le hk1,lkGs]at hm
  refine R_ret hg 5 rfl rfl ?_
  rw[hm];rfl
 have hk1:k<l.length:=lt_dec h (by rw[hrl])
 have e1:l[k]? = some l[k]:=List.getElem?_eq_getElem hk1
 rw[List.drop_eq_getElem_cons hk1,lkGs]at hm
 have hmem:=List.getElem_mem hk1
 have hgs:=Gl.size_mem hmem
 obtain⟨sa,sb,sc⟩:=hsub _ hmem
 generalize l[k]=g at e1 hm hmem hgs sa sb sc
 rw[lkG_eq]at hm
 have hge:=Gl.size_eq g
 have hte:=Tm.size_eq g.t
 have hta:=tml_len g.t.l
 have hrt:=Tm.rows_length g.t.l
 have hla:=lkA_le (idK K) g.k g.t.s g.t.l 0 v
 refine R_cut2 (fun m:Nat=>([(0,.d (.sl (kpR K))),(1,.d (.sl (Gl.rows l))),(2,iV v),(7,iV m),(8,iV k)],[])) (fun m=>m=n+lkA (idK K) g.k g.t.s g.t.l 0 v) rfl ?_ ?_
 ·refine R_loop (fun x:Nat × Nat=>([(0,.d (.sl (kpR K))),(1,.d (.sl (Gl.rows l))),(2,iV v),(7,iV x.2),(8,iV k),(9,iV x.1)],[])) (fun x=>x.1≤g.t.l.length∧n+lkA (idK K) g.k g.t.s g.t.l 0 v=x.2+lkA (idK K) g.k g.t.s (g.t.l.drop x.1) x.1 v) (fun x=>g.t.l.length - x.1) (0,n) ⟨Nat.zero_le _,by simp⟩ ⟨.refl _,.refl _,.refl _,.refl _,.refl _,.refl _,trivial⟩ rfl ?_
  rintro⟨i,m⟩ ⟨hi,hm2⟩
  simp only at hi hm2
  refine R_k hg.ok rfl rfl ?_
  refine R_index hg.ok rfl rfl rfl rfl rfl rfl (Int.natCast_nonneg _) (Gl.rows_get e1) rfl ?_
  refine R_k hg.ok rfl rfl ?_
  refine R_if rfl rfl (fun h=>?_) (fun h=>?_)<;>refine R_k hg.ok rfl rfl ?_
  rotate_left
  ·have hi1:g.t.l.length≤i:=ge_dec h (by rw [hrt])
   rw[List.drop_eq_nil_of_le hi1,lkA]at hm2
   exact R_to m (by omega) ⟨.refl _,.refl _,.refl _,.refl _,.refl _,trivial⟩ rfl
  have hi1:i<g.t.l.length:=lt_dec h (by rw[hrt])
  have e2:g.t.l[i]? = some g.t.l[i]:=List.getElem?_eq_getElem hi1
  rw[List.drop_eq_getElem_cons hi1,lkA]at hm2
  have hxs:=Tm.size_mem (List.getElem_mem hi1)
  generalize g.t.l[i]=x at e2 hm2 hxs
  refine R_index hg.ok rfl rfl rfl rfl rfl rfl (Int.natCast_nonneg _) (Gl.rows_get e1) rfl ?_
  refine R_k hg.ok rfl rfl ?_
  refine R_index hg.ok rfl rfl rfl rfl rfl rfl (Int.natCast_nonneg _) (Tm.rows_get e2) rfl ?_
  refine R_k hg.ok rfl rfl ?_
  refine R_index hg.ok rfl rfl rfl rfl rfl rfl (Int.natCast_nonneg _) (Gl.rows_get e1) rfl ?_
  refine R_k hg.ok rfl rfl ?_
  refine R_cut1 (fun b:Bool=>([(0,.d (.sl (kpR K))),(1,.d (.sl (Gl.rows l))),(2,iV v),(7,iV m),(8,iV k),(9,iV i),(10,.lo 0 0),(58,bV b)],[boxR x])) (fun b=>b = !offA (idK K) g.k g.t.s x i) rfl ?_ ?_
  ·refine R_if rfl rfl (fun h=>?_) (fun h=>?_) <;> refine R_run hg.ok 1000 rfl rfl ?_
   ·have h:¬ g.k=1:=by simpa using h
    exact R_to true (by simp[offA,h]) ⟨.refl _,.refl _,.refl _,.refl _,.refl _,.refl _,.refl _,.tt,trivial⟩ rfl
   have h:g.k=1:=by simpa using h
   refine R_if rfl rfl (fun h2=>?_) (fun h2=>?_)<;>refine R_k hg.ok rfl rfl ?_
   ·have h2:¬ x.k=1:=by simpa using h2
    exact R_to true (by simp[offA,h2]) ⟨.refl _,.refl _,.refl _,.refl _,.refl _,.refl _,.refl _,.tt,trivial⟩ rfl
   have h2:x.k=1:=by simpa using h2
   refine R_index hg.ok rfl rfl rfl rfl rfl rfl (Int.natCast_nonneg _) (Gl.rows_get e1) rfl ?_
   refine R_k hg.ok rfl rfl ?_
   refine R_call hg.ok (refKept_ok K g.t.s (i:Int) hK ha) rfl rfl rfl rfl rfl rfl ?_
   refine R_k hg.ok rfl rfl ?_
   exact R_to (keptB K g.t.s (i:Int)) (by rw[offA,h,h2,idK];simp) ⟨.refl _,.refl _,.refl _,.refl _,.refl _,.refl _,.refl _,.refl _,trivial⟩ rfl
  rintro b hb
  refine R_k hg.ok rfl rfl ?_
  have hsx:=stT_le x v
  refine R_if rfl rfl (fun h=>?_) (fun h=>?_)<;>refine R_k hg.ok rfl rfl ?_
  ·have ho:offA (idK K) g.k g.t.s x i=false:=by rw [h] at hb; simpa using hb.symm
   rw[ho]at hm2
   refine R_call hg.ok (refStands_ok x v (by omega)) rfl rfl rfl rfl rfl rfl ?_
   refine R_k hg.ok rfl rfl ?_
   refine R_dropO 0 [] (Nat.zero_le _) rfl rfl ?_
   exact R_next (i+1,m+stT x v) ⟨hi1,by rw[hm2];show m+(stT x v+_)=m+stT x v+lkA (idK K) g.k g.t.s (g.t.l.drop (i+1)) (i+1) v;omega⟩ (by show g.t.l.length - (i+1)<g.t.l.length - i;omega) ⟨.refl _,.refl _,.refl _,Ent.wrap (by push_cast;rfl) (by omega) (by simp only[Bool.false_eq_true,if_false]at hm2;omega),.refl _,Ent.wrap (by omega) (by omega) (by omega),trivial⟩ rfl
  ·have ho:offA (idK K) g.k g.t.s x i=true:=by rw [h] at hb; simpa using hb.symm
   rw[ho]at hm2
   refine R_dropO 0 [] (Nat.zero_le _) rfl rfl ?_
   exact R_next (i+1,m) ⟨hi1,by rw[hm2];show m+(0+_)=m+lkA (idK K) g.k g.t.s (g.t.l.drop (i+1)) (i+1) v;omega⟩ (by show g.t.l.length - (i+1)<g.t.l.length - i;omega) ⟨.refl _,.refl _,.refl _,.refl _,.refl _,Ent.wrap (by omega) (by omega) (by omega),trivial⟩ rfl
 rintro _ rfl
 have hA:=lkGs_le (idK K) g.a v
 have hB:=lkGs_le (idK K) g.b v
 have hC:=lkGs_le (idK K) g.c v
 generalize lkA (idK K) g.k g.t.s g.t.l 0 v=m at hm hla
 refine R_k hg.ok rfl rfl ?_
 refine R_index hg.ok rfl rfl rfl rfl rfl rfl (Int.natCast_nonneg _) (Gl.rows_get e1) rfl ?_
 refine R_k hg.ok rfl rfl ?_
 refine R_call hg.ok (sa (by omega)) rfl rfl rfl rfl rfl rfl ?_
 refine R_k hg.ok rfl rfl ?_
 refine R_index hg.ok rfl rfl rfl rfl rfl rfl (Int.natCast_nonneg _) (Gl.rows_get e1) rfl ?_
 refine R_k hg.ok rfl rfl ?_
 refine R_call hg.ok (sb (by omega)) rfl rfl rfl rfl rfl rfl ?_
 refine R_k hg.ok rfl rfl ?_
 refine R_index hg.ok rfl rfl rfl rfl rfl rfl (Int.natCast_nonneg _) (Gl.rows_get e1) rfl ?_
 refine R_k hg.ok rfl rfl ?_
 refine R_call hg.ok (sc (by omega)) rfl rfl rfl rfl rfl rfl ?_
 refine R_k hg.ok rfl rfl ?_
 refine R_next (k+1,n+m+lkGs (idK K) g.a v+lkGs (idK K) g.b v+lkGs (idK K) g.c v) ⟨hk1,by rw[hm];show n+_=n+m+_+_+_+lkGs (idK K) (l.drop (k+1)) v;omega⟩ (by show l.length - (k+1)<l.length - k;omega) ⟨.refl _,.refl _,.refl _,?_,Ent.wrap (by omega) (by omega) (by omega),trivial⟩ rfl
 have w1:IntKind.i64.wrap (((n+m:Nat):Int)+((lkGs (idK K) g.a v:Nat):Int))=((n+m+lkGs (idK K) g.a v:Nat):Int):=by rw[w64 (by omega) (by omega)];push_cast;rfl
 have w2:IntKind.i64.wrap (((n+m+lkGs (idK K) g.a v:Nat):Int)+((lkGs (idK K) g.b v:Nat):Int))=((n+m+lkGs (idK K) g.a v+lkGs (idK K) g.b v:Nat):Int):=by rw[w64 (by omega) (by omega)];push_cast;rfl
 have w3:IntKind.i64.wrap (((n+m+lkGs (idK K) g.a v+lkGs (idK K) g.b v:Nat):Int)+((lkGs (idK K) g.c v:Nat):Int))=((n+m+lkGs (idK K) g.a v+lkGs (idK K) g.b v+lkGs (idK K) g.c v:Nat):Int):=by rw[w64 (by omega) (by omega)];push_cast;rfl
 show Ent (iV (IntKind.i64.wrap (IntKind.i64.wrap (IntKind.i64.wrap (((n+m:Nat):Int)+((lkGs (idK K) g.a v:Nat):Int))+((lkGs (idK K) g.b v:Nat):Int))+((lkGs (idK K) g.c v:Nat):Int)))) _
 rw[w1,w2,w3]
 exact .refl _

theorem refFree_ok (K:List Kp)(hK:K.length≤1000000)(ha:∀x∈K,x.at_.length≤1000000)(c:Cs)(hc:c.head.size+Gl.sizeL c.body≤1000000)(i:Nat)(x:Tm)(hx:c.head.l[i]? = some x):PCtr Tryz.prog 60 [.d (.sl (kpR K)),c.av,iV i] (bV (freeB K c x)):=by
 refine PCtr.of_R (pf:=fun _=>.still) tyOk mixed Tryz.func60 rfl (by kernel_rfl) (by kernel_rfl) (by simp[Tryz.ntmps60]) fun w S hg=>?_
 refine R_k hg.ok rfl rfl ?_
 refine R_index hg.ok rfl rfl rfl rfl rfl rfl (Int.natCast_nonneg _) (Tm.rows_get hx) rfl ?_
 refine R_k hg.ok rfl rfl ?_
 refine R_if rfl rfl (fun h=>?_) (fun h=>?_)<;>refine R_k hg.ok rfl rfl ?_
 ·have h:x.k=1:=of_decide_eq_true h
  refine R_call hg.ok (refStands_ok c.head x.n (by omega)) rfl rfl rfl rfl rfl rfl ?_
  refine R_k hg.ok rfl rfl ?_
  refine R_if rfl rfl (fun h2=>?_) (fun h2=>?_)<;>refine R_k hg.ok rfl rfl ?_
  ·have h9:((stT c.head x.n:Nat):Int)=1:=by simpa using h2
   have h2:stT c.head x.n=1:=by omega
   refine R_call hg.ok (refLooked_ok K x.n hK ha c.body (by omega)) rfl rfl rfl rfl rfl rfl ?_
   refine R_k hg.ok rfl rfl ?_
   refine R_ret hg 5 rfl rfl ?_
   rw[freeB,h,h2]
   refine congrArg bV ?_
   rw[Bool.eq_iff_iff];simp
  ·have h2:(stT c.head x.n==1)=false:=by
    cases hq:(stT c.head x.n==1) with
    |false=>rfl
    |true=>rw[show stT c.head x.n=1 by simpa using hq]at h2;simp at h2
   refine R_ret hg 5 rfl rfl ?_
   rw[show freeB K c x=false by rw[freeB,h2];simp];rfl
 ·have h:¬ x.k=1:=of_decide_eq_false h
  refine R_ret hg 5 rfl rfl ?_
  rw[show freeB K c x=false by rw[freeB,show (x.k==1)=false by simpa using h];simp];rfl

theorem refSingle_ok (l:List Cs)(hl:l.length≤1000000)(hb:∀c∈l,c.head.l.length≤1000000):PCtr Tryz.prog 25 [prV l] (bV (singP [] l)):=by
 have hrl:=Cs.rows_len l
 refine PCtr.of_R (pf:=fun _=>.eff) tyOk mixed Tryz.func25 rfl (by kernel_rfl) (by kernel_rfl) (by simp[Tryz.ntmps25]) fun w S hg=>?_
 refine R_k hg.ok rfl rfl ?_
 refine R_loop (fun i:Nat=>([(1,.lo 0 0),(3,iV i)],[.box [.d (.sl (Cs.rows l))]])) (fun i=>i≤l.length∧∀ (a k:Nat) (c d:Cs),a<i→k<a→l[a]? = some c→l[k]? = some d→c.head.s=d.head.s→c.head.l.length=d.head.l.length) (fun i=>l.length - i) 0 ⟨Nat.zero_le _,fun a k c d h=>by omega⟩ ⟨.refl _,.refl _,trivial⟩ rfl ?_
 rintro i ⟨hi,hm⟩
 refine R_k hg.ok rfl rfl ?_
 refine R_if rfl rfl (fun h=>?_) (fun h=>?_)<;>refine R_k hg.ok rfl rfl ?_
 rotate_left
 ·have hi1:l.length≤i:=ge_dec h (by rw [hrl])
  refine R_ret hg 5 rfl rfl ?_
  rw[sing_pairs.2 (fun a k c d hk hc hd hs=>hm a k c d (by have:=(List.getElem?_eq_some_iff.1 hc).1;omega) hk hc hd hs)]
  rfl
 have hi1:i<l.length:=lt_dec h (by rw[hrl])
 have e1:l[i]? = some l[i]:=List.getElem?_eq_getElem hi1
 generalize hcc:l[i]=c at e1
 have hrc:=Tm.rows_length c.head.l
 refine R_cut2 (fun _:Unit=>([(1,.lo 0 0),(3,iV i)],[.box [.d (.sl (Cs.rows l))]])) (fun _=>∀ (k:Nat) (d:Cs),k<i→l[k]? = some d→c.head.s=d.head.s→c.head.l.length=d.head.l.length) rfl ?_ ?_
 rotate_left
 ·rintro _ hin
  refine R_k hg.ok rfl rfl ?_
  refine R_next (i+1) ⟨hi1,fun a k c' d ha hk hc hd hs=>?_⟩ (by omega) ⟨.refl _,Ent.wrap (by omega) (by omega) (by omega),trivial⟩ rfl
  by_cases hai:a=i
  ·subst hai
   rw[e1]at hc;cases hc
   exact hin k d hk hd hs
  ·exact hm a k c' d (by omega) hk hc hd hs
 refine R_loop (fun k:Nat=>([(1,.lo 0 0),(3,iV i),(4,iV k)],[.box [.d (.sl (Cs.rows l))]])) (fun k=>k≤i∧∀ (j:Nat) (d:Cs),j<k→l[j]? = some d→c.head.s=d.head.s→c.head.l.length=d.head.l.length) (fun k=>i - k) 0 ⟨Nat.zero_le _,fun j d h=>by omega⟩ ⟨.refl _,.refl _,.refl _,trivial⟩ rfl ?_
 rintro k ⟨hk,hm2⟩
 refine R_k hg.ok rfl rfl ?_
 refine R_if rfl rfl (fun h=>?_) (fun h=>?_)<;>refine R_k hg.ok rfl rfl ?_
 rotate_left
 ·have hk1:i≤k:=ge_dec h rfl
  exact R_to () (fun j d hj=>hm2 j d (by omega)) ⟨.refl _,.refl _,trivial⟩ rfl
 have hk1:k<i:=lt_dec h rfl
 have e2:l[k]? = some (l[k]'(by omega)):=List.getElem?_eq_getElem (by omega)
 generalize l[k]'(by omega)=d at e2
 have hrd:=Tm.rows_length d.head.l
 refine R_index hg.ok rfl rfl rfl rfl rfl rfl (Int.natCast_nonneg _) (Cs.rows_get e1) rfl ?_
 refine R_k hg.ok rfl rfl ?_
 refine R_index hg.ok rfl rfl rfl rfl rfl rfl (Int.natCast_nonneg _) (Cs.rows_get e2) rfl ?_
 refine R_k hg.ok rfl rfl ?_
 have hnx:(c.head.s=d.head.s→c.head.l.length=d.head.l.length)→(k+1≤i∧∀ (j:Nat) (d:Cs),j<k+1→l[j]? = some d→c.head.s=d.head.s→c.head.l.length=d.head.l.length):=fun hh=>⟨hk1,fun j d' hj hd' hs=>by
  by_cases hjk:j=k
  ·subst hjk;rw[e2]at hd';cases hd';exact hh hs
  ·exact hm2 j d' (by omega) hd' hs⟩
 refine R_if rfl rfl (fun h=>?_) (fun h=>?_)<;>refine R_k hg.ok rfl rfl ?_
 ·have h:c.head.s=d.head.s:=Tm.strEq_iff.1 h
  refine R_if rfl rfl (fun h2=>?_) (fun h2=>?_)<;>refine R_k hg.ok rfl rfl ?_
  ·have h2:¬ c.head.l.length=d.head.l.length:=by rw [hrc,hrd] at h2; simp at h2; omega
   refine R_ret hg 5 rfl rfl ?_
   rw[show singP [] l=false by
    cases hs:singP [] l with
    |false=>rfl
    |true=>exact absurd (sing_pairs.1 hs i k c d hk1 e1 e2 h) h2]
   rfl
  ·have h2:c.head.l.length=d.head.l.length:=by rw [hrc,hrd] at h2; simp at h2; omega
   refine R_dropO 1 [.box [.d (.sl (Cs.rows l))]] (Nat.zero_le _) rfl rfl ?_
   exact R_next (k+1) (hnx fun _=>h2) (by omega) ⟨.refl _,.refl _,Ent.wrap (by omega) (by omega) (by omega),trivial⟩ rfl
 ·have h:¬ c.head.s=d.head.s:=fun e=>by rw [Tm.strEq_iff.2 e] at h; cases h
  refine R_dropO 1 [.box [.d (.sl (Cs.rows l))]] (Nat.zero_le _) rfl rfl ?_
  exact R_next (k+1) (hnx fun hs=>absurd hs h) (by omega) ⟨.refl _,.refl _,Ent.wrap (by omega) (by omega) (by omega),trivial⟩ rfl
end Go.Proofs.YtcgkgofmldhokaaGreat

namespace PSL
open Go Go.RowKit
section
variable {g:G} {pf:Nat→Cls} {ops:Array Oper}
end
section
variable {g:G} {pf:Nat→Cls} {ops:Array Oper} {Fin:Exit→Act→World→Prop}
end
end PSL
namespace PSL
open Go Go.RowKit

def DEnt (x y:D):Prop:=∀ (S:Nat→Prop) (w:World) (v:Value),Rd S w x v→Rd S w y v

def RowEnt:List D→List D→Prop
 |[],[]=>True
 |x::r,y::t=>DEnt x y∧RowEnt r t
 |_,_=>False
theorem DEnt.refl (x:D):DEnt x x:=fun _ _ _ h=>h
theorem DEnt.nil:DEnt (.v (.slice none 0 0)) (.sl []):=fun S w v h=>by cases h;exact .nil _ _

theorem RowEnt.len:∀ {r t:List D},RowEnt r t→r.length=t.length
 |[],[],_=>rfl
 |_::_,_::_,h=>by simp[RowEnt.len h.2]
 |[],_::_,h=>h.elim
 |_::_,[],h=>h.elim

theorem RowEnt.get:∀ {r t:List D} {j:Nat} {y:D},RowEnt r t→t[j]? = some y→∃x,r[j]? = some x∧DEnt x y
 |[],[],j,y,_,hj=>by simp at hj
 |x::r,z::t,0,y,h,hj=>by
  simp only[List.getElem?_cons_zero,Option.some.injEq]at hj
  subst hj;exact⟨x,rfl,h.1⟩
 |x::r,z::t,j+1,y,h,hj=>by
  simp only[List.getElem?_cons_succ]at hj ⊢
  exact RowEnt.get h.2 hj
 |[],_::_,_,_,h,_=>h.elim
 |_::_,[],_,_,h,_=>h.elim
end PSL

namespace PSL
open Go Go.RowKit
section
variable {g:G} {pf:Nat→Cls} {ops:Array Oper} {Fin:Exit→Act→World→Prop}
end
end PSL

namespace PSL
open Go Go.RowKit
section
variable {g:G} {pf:Nat→Cls} {ops:Array Oper} {Fin:Exit→Act→World→Prop}

theorem R_appendOO (hg:GOk g){dst:Option Nat}{T T':Nat}{x y:Operand}{ty:Nat}{pos:String}{after:Array Edge}{gd:Option (Nat × Bool)}{rest:List Oper}{k:List It}{E:Env}{objs:List Ob}
  {i s j s2 sz q q' by_ by' e e':Nat} {z z':List Value} {τ:Ty} {rows news:List (List D)}
  (hgd:guardA ops.toList E gd=some true) (hd:dstOk ⟨g.ty,g.N⟩ dst=true) (hx:ev E x=.ow i s) (ho:nth objs i=some (.arr sz s rows)) (hy:ev E y=.ow j s2) (hoy:nth objs j=some (.arr sz s2 news))
  (hT:g.ty T=some ⟨q,by_,z,.slice e⟩) (hT':g.ty T'=some ⟨q',by',z',.slice e'⟩) (he:g.ty e=some τ) (hsz:τ.size=sz) (hlen:∀r∈news,r.length=sz) (hone:∀r∈news,∀x∈r,one1 (.d x)=true)
  (hbytes:(rows.length+news.length) * τ.bytes≤140737488355328) (hmax:rows.length+news.length≤140737488355328)
  (hr:R g pf Fin (.dr ops rest::k) (putO E dst (.ow i (Nat.succ s))) (setN objs i (.arr sz (Nat.succ s) (rows++news)))) :
  R g pf Fin (.dr ops (⟨dst,.call { callee:=.builtin .append,args:=#[x,y],argTypes:=#[T,T'] },ty,pos,after,gd⟩::rest)::k) E objs:=by
 refine R_op (LocOp.turning hg (grow_set ho) hgd hd (by simp) fun φ a w hρ hs=>?_) hr
 simp only[Op.operands,Call.operands]at hρ
 have hxv:=hρ x (by simp)
 rw[hx]at hxv
 have hyv:=hρ y (by simp)
 rw[hy]at hyv
 simp only[RV]at hxv hyv
 obtain⟨_,phy,hphy,hyv⟩:=hyv
 have hky:=obj_at hs hphy hoy
 cases phy<;>try (simp only[ObOk]at hky;done)
 rename_i sz3 s3 v3 ob3
 have hky':=hky
 simp only[ObOk]at hky'
 obtain⟨ey1,ey2,_,_⟩:=hky'
 subst ey1;subst ey2
 have hvy:=(hyv _ _ _ _ rfl).2 rfl
 clear hyv
 obtain⟨_,ph,hph,hxv⟩:=hxv
 have hk:=obj_at hs hph ho
 cases ph<;>try (simp only[ObOk]at hk;done)
 rename_i sz2 s2 v2 ob2
 have hk':=hk
 simp only[ObOk]at hk'
 obtain⟨rfl,rfl,hrl,hk'⟩:=hk'
 have hv:=(hxv _ _ _ _ rfl).2 rfl
 clear hxv
 rw[setN_eq]
 obtain⟨olds,hF⟩:=Fst.of_ob (P:=g.P) hk
 subst hsz
 obtain⟨cells,hN⟩:=Fst.of_ob (P:=g.P) hky
 rw[← hvy]at hN
 have h1:=hN.one hlen hone
 have hτ:=hg.ty _ _ he
 obtain⟨xa,xc,hxs⟩:=hN.sl
 have hall:∀r∈rows++news,r.length=τ.size:=fun r hr=>(List.mem_append.1 hr).elim (hrl r) (hlen r)
 have hmax':rows.length+news.length≤maxLen:=by simp only[maxLen];omega
 have hlt:i<φ.length:=(List.getElem?_eq_some_iff.1 hph).1
 -- the grown slice
 have grow:∀ (a0:Option Addr) (cap:Nat),v2=.slice a0 rows.length cap→cap<rows.length+news.length→Out g.P (execOp a.eval ⟨dst,.call { callee:=.builtin .append,args:=#[x,y],argTypes:=#[T,T'] },ty,pos,after,gd⟩) g.S0 φ w (.ow i (Nat.succ s)) (objs.set i (.arr τ.size (Nat.succ s) (rows++news))):=by
  intro a0 cap hv2 hcap
  subst hv2
  obtain⟨zs,cap',hc1,hc2,hzl,hrun⟩:=run_app_grow (tr:=ty) (und_slice hg hT) (und_slice hg hT') hτ hxs hF.run hN.run hcap hbytes hmax'
  refine⟨.value (.slice (some ⟨w.heap.size,0,none⟩) (rows.length+news.length) cap'),.slice (some ⟨w.heap.size,0,none⟩) (rows.length+news.length) cap',w.drew.alloc (.cells (olds++cells++zs).toArray e),φ.set i (.sli τ.size (Nat.succ s) (.slice (some ⟨w.heap.size,0,none⟩) (rows.length+news.length) cap') (some w.heap.size)),?_,.inl rfl,?_,?_⟩
  ·simp only[execOp,resolve,invoke,builtin,Sem.run_bind,Sem.run_pure,Result.andThen_ok,List.map_toArray,List.map_cons,List.map_nil,hv,hrun]
  ·simp only [RV]
   exact⟨⟨_,_,_,rfl⟩,_,List.getElem?_set_self hlt,fun sz s x ob h=>by cases h;exact⟨Nat.le_refl _,fun _=>rfl⟩⟩
  ·refine Stp.swap hs hph (.inr (.inl ⟨_,_,_,_,_,_,_,_,rfl,rfl,Nat.lt_succ_self _⟩)) (by show w.heap.size≤(w.heap.push _).size; simp) (fun c hc _=>heap_drew_old hc) (fun b hb=>?_) rfl rfl rfl fun hkeep _=>?_
   ·simp only[Phy.bl,Option.some.injEq]at hb;subst hb;exact .inr ⟨Nat.le_refl _,by show w.heap.size<(w.heap.push _).size;simp⟩
   ·simp only [ObOk]
    refine⟨trivial,trivial,hall,.inr ⟨_,0,cap',_,e,by rw[List.length_append],rfl,heap_drew_new,by rw[List.length_append];exact hc1,hc2,?_,?_⟩⟩
    ·simp only [List.length_append,hF.len,hN.len,hzl]
     rw[← Nat.add_mul,← Nat.add_mul]
     have:rows.length+news.length+(cap' - (rows.length+news.length))=cap':=by omega
     rw[this];omega
    ·intro i' r j x' hi hj
     obtain⟨y',h3,h4⟩:=rows_app hF hN hkeep i' r j x' hi hj (hall r (List.mem_of_getElem? hi))
     exact⟨y',by simpa using take_rows h3,h4⟩
 rcases hk' with ⟨a0,rfl,hrows,rfl⟩ |⟨b,o,cap,cs,Tb,rfl,rfl,hheap,hn,hcap,hle,hrd⟩
 ·by_cases hm:news.length=0
  ·have hnews:news=[]:=List.length_eq_zero_iff.1 hm
   subst hnews
   subst hrows
   have hcells:cells=[]:=List.length_eq_zero_iff.1 (by simpa using hN.len)
   subst hcells
   have hrun:=run_app_none (tr:=ty) (und_slice hg hT) (und_slice hg hT') hτ (a:=a0) (n:=0) (cap:=0) hxs (hN.run w rfl) (Nat.le_refl _)
   refine⟨.value (.slice a0 0 0),.slice a0 0 0,w,φ.set i (.sli τ.size (Nat.succ s) (.slice a0 0 0) none),?_,.inl rfl,?_,?_⟩
   ·simp only[execOp,resolve,invoke,builtin,Sem.run_bind,Sem.run_pure,Result.andThen_ok,List.map_toArray,List.map_cons,List.map_nil,hv,hrun]
   ·simp only [RV]
    exact⟨⟨_,_,_,rfl⟩,_,List.getElem?_set_self hlt,fun sz s x ob h=>by cases h;exact⟨Nat.le_refl _,fun _=>rfl⟩⟩
   ·refine Stp.swap hs hph (.inr (.inl ⟨_,_,_,_,_,_,_,_,rfl,rfl,Nat.lt_succ_self _⟩)) (Nat.le_refl _) (fun _ _ _=>rfl) (fun b hb=>by simp [Phy.bl] at hb) rfl rfl rfl fun _ _=>?_
    simp only[ObOk]
    exact⟨trivial,trivial,by simp,.inl ⟨_,rfl,rfl,trivial⟩⟩
  ·subst hrows
   exact grow a0 0 rfl (by simp;omega)
 ·by_cases hroom:rows.length+news.length≤cap
  ·obtain ⟨w',hrun,hst⟩:=run_app_room (tr:=ty) (und_slice hg hT) (und_slice hg hT') hτ hxs (hN.run w rfl) hN.len h1 hheap hroom hle
   refine⟨.value (.slice (some ⟨b,o,none⟩) (rows.length+news.length) cap),.slice (some ⟨b,o,none⟩) (rows.length+news.length) cap,w',φ.set i (.sli τ.size (Nat.succ s) (.slice (some ⟨b,o,none⟩) (rows.length+news.length) cap) (some b)),?_,.inl rfl,?_,?_⟩
   ·simp only[execOp,resolve,invoke,builtin,Sem.run_bind,Sem.run_pure,Result.andThen_ok,List.map_toArray,List.map_cons,List.map_nil,hv,hrun]
   ·simp only [RV]
    exact⟨⟨_,_,_,rfl⟩,_,List.getElem?_set_self hlt,fun sz s x ob h=>by cases h;exact⟨Nat.le_refl _,fun _=>rfl⟩⟩
   ·refine Stp.swap hs hph (.inr (.inl ⟨_,_,_,_,_,_,_,_,rfl,rfl,Nat.lt_succ_self _⟩)) (by rw [hst.size]; exact Nat.le_refl _) (fun c _ hc=>hst.other c fun e=>hc (by rw [e]; rfl)) (fun b' hb=>.inl hb) hst.os hst.tape hst.out fun hkeep _=>?_
    simp only[ObOk]
    refine⟨trivial,trivial,hall,.inr ⟨b,o,cap,_,Tb,by rw[List.length_append],rfl,hst.at_,by rw[List.length_append];exact hroom,hcap,by rw[splice_length];exact hle,?_⟩⟩
    have hmul:(rows.length+news.length) * τ.size≤cap * τ.size:=Nat.mul_le_mul_right _ hroom
    rw[Nat.add_mul]at hmul
    have hsp:∀k,(splice cs (o+rows.length * τ.size) cells)[k]? = if k<o+rows.length * τ.size then cs[k]? else if k<o+rows.length * τ.size+cells.length then cells[k - (o+rows.length * τ.size)]? else cs[k]? := by
     intro k
     have hcl:=hN.len
     have hcat:∀m,m=o+rows.length * τ.size→splice cs m cells=cs.take m++cells++cs.drop (m+cells.length):=fun m hm=>by
      have:=splice_mid cells (cs.take m) ((cs.drop m).take cells.length) (cs.drop (m+cells.length)) (by simp;omega)
      rw[List.length_take,Nat.min_eq_left (by omega)]at this
      rw[List.append_assoc (cs.take m),← List.drop_drop,List.take_append_drop,List.take_append_drop,List.drop_drop]at this
      exact this
     rw[hcat _ rfl]
     have hl1:(List.take (o+rows.length * τ.size) cs).length=o+rows.length * τ.size:=by simp;omega
     split
     ·rw[List.append_assoc,List.getElem?_append_left (by omega),List.getElem?_take_of_lt (by omega)]
     ·split
      ·rw[List.append_assoc,List.getElem?_append_right (by omega),hl1,List.getElem?_append_left (by omega)]
      ·rw [List.getElem?_append_right (by simp; omega),List.length_append,hl1,List.getElem?_drop]
       congr 1;omega
    intro i' r j x' hi hj
    have hrl':=hall r (List.mem_of_getElem? hi)
    have hjl:=(List.getElem?_eq_some_iff.1 hj).1
    rcases Nat.lt_or_ge i' rows.length with h |h
    ·rw [List.getElem?_append_left h] at hi
     obtain⟨y',h3,h4⟩:=hrd i' r j x' hi hj
     refine⟨y',?_,h4.mono hkeep⟩
     have h5:(i'+1) * τ.size≤rows.length * τ.size:=Nat.mul_le_mul_right _ h
     rw[Nat.succ_mul]at h5
     rw[hsp,if_pos (by omega)];exact h3
    ·rw [List.getElem?_append_right h] at hi
     obtain⟨y',h3,h4⟩:=hN.rd _ r j x' hi hj
     refine⟨y',?_,h4.mono hkeep⟩
     have h5:rows.length * τ.size≤i' * τ.size:=Nat.mul_le_mul_right _ h
     have h6:=(List.getElem?_eq_some_iff.1 h3).1
     rw[Nat.sub_mul]at h3 h6
     rw[hsp,if_neg (by omega),if_pos (by omega),← h3]
     congr 1;omega
  ·exact grow _ cap rfl (by omega)
end
end PSL

namespace PSL
open Go Go.RowKit
section
variable {g:G} {pf:Nat→Cls} {ops:Array Oper} {Fin:Exit→Act→World→Prop}
end
end PSL

namespace PSL
open Go Go.RowKit
section
variable {g:G} {pf:Nat→Cls} {ops:Array Oper} {Fin:Exit→Act→World→Prop}
end
end PSL

namespace PSL
open Go Go.RowKit
section
variable {g:G} {pf:Nat→Cls} {ops:Array Oper} {Fin:Exit→Act→World→Prop}
end
end PSL

namespace PSL
open Go Go.RowKit

def RowsEnt:List (List D)→List (List D)→Prop
 |[],[]=>True
 |x::r,y::t=>RowEnt x y∧RowsEnt r t
 |_,_=>False

theorem RowsEnt.len:∀ {r t:List (List D)},RowsEnt r t→r.length=t.length
 |[],[],_=>rfl
 |_::_,_::_,h=>by simp[RowsEnt.len h.2]
 |[],_::_,h=>h.elim
 |_::_,[],h=>h.elim

theorem RowsEnt.get:∀ {r t:List (List D)} {j:Nat} {y:List D},RowsEnt r t→t[j]? = some y→∃x,r[j]? = some x∧RowEnt x y
 |[],[],j,y,_,hj=>by simp at hj
 |x::r,z::t,0,y,h,hj=>by
  simp only[List.getElem?_cons_zero,Option.some.injEq]at hj
  subst hj;exact⟨x,rfl,h.1⟩
 |x::r,z::t,j+1,y,h,hj=>by
  simp only[List.getElem?_cons_succ]at hj ⊢
  exact RowsEnt.get h.2 hj
 |[],_::_,_,_,h,_=>h.elim
 |_::_,[],_,_,h,_=>h.elim

theorem DEnt.sl {rows rows':List (List D)}(h:RowsEnt rows rows'):DEnt (.sl rows) (.sl rows'):=fun S w v hv=>by
 cases hv with
 |nil a c =>
  have:rows'=[]:=by cases rows' with
   |nil=>rfl
   |cons x r=>exact h.elim
  subst this;exact .nil a c
 |@sl _ b o cap sz cs T fr g hS hb hl hc hsz hg hr =>
  have hlen:=h.len
  rw[hlen]
  refine .sl (sz:=sz) g hS hb (by rw[← hlen];exact hl) hc (fun i r hi=>?_) (fun i r j x hi hj=>?_) (fun i r j x hi hj=>?_)
  ·obtain ⟨x,h1,h2⟩:=h.get hi
   rw[← h2.len];exact hsz i x h1
  ·obtain ⟨x1,h1,h2⟩:=h.get hi
   obtain⟨x',h3,h4⟩:=h2.get hj
   exact hg i x1 j x' h1 h3
  ·obtain ⟨x1,h1,h2⟩:=h.get hi
   obtain⟨x',h3,h4⟩:=h2.get hj
   exact h4 _ _ _ (hr i x1 j x' h1 h3)

theorem Ent.d {x y:D}(h:DEnt x y):Ent (.d x) (.d y):=fun S w φ v hv=>by
 simp only[RV]at hv ⊢;exact h _ _ _ hv
end PSL

namespace PSL
open Go

def withN (K:List Kp)(s:ByteArray)(a:Int)(n:Nat):List Kp:=withK (K.take n) s a++K.drop n
theorem withN_len (K:List Kp)(s:ByteArray)(a:Int)(n:Nat):(withN K s a n).length=K.length:=by simp[withN,withK];omega
theorem withN_all (K:List Kp)(s:ByteArray)(a:Int):withN K s a K.length=withK K s a:=by simp[withN]
theorem withN_zero (K:List Kp)(s:ByteArray)(a:Int):withN K s a 0=K:=by simp[withN,withK]

theorem withN_get {K:List Kp}{s:ByteArray}{a:Int}{n:Nat}{x:Kp}(h:K[n]? = some x):(withN K s a n)[n]? = some x:=by
 obtain⟨h1,h2⟩:=List.getElem?_eq_some_iff.1 h
 rw[withN,List.getElem?_append_right (by simp[withK];omega)]
 simp[withK,Nat.min_eq_left (Nat.le_of_lt h1),h]

theorem withN_skip {K:List Kp}{s:ByteArray}{a:Int}{n:Nat}{x:Kp}(h:K[n]? = some x)(hs:¬ x.s=s):withN K s a (n+1)=withN K s a n:=by
 obtain⟨h1,h2⟩:=List.getElem?_eq_some_iff.1 h
 rw[withN,withN,List.drop_eq_getElem_cons h1,h2,List.take_add_one,h]
 simp[withK,hs]

theorem withN_set {K:List Kp}{s:ByteArray}{a:Int}{n:Nat}{x:Kp}(h:K[n]? = some x)(hs:x.s=s):(kpR (withN K s a n)).set n (Kp.mk x.s x.n (insF a false x.at_)).row=kpR (withN K s a (n+1)):=by
 obtain⟨h1,h2⟩:=List.getElem?_eq_some_iff.1 h
 have hl:(kpR (withK (K.take n) s a)).length=n:=by simp[kpR_len,withK];omega
 rw[withN,withN,List.drop_eq_getElem_cons h1,h2,List.take_add_one,h]
 have hsp:kpR (withK (K.take n) s a++x::K.drop (n+1))=kpR (withK (K.take n) s a)++(x.row::kpR (K.drop (n+1))):=by simp[kpR]
 rw[hsp,List.set_append_right _ _ (by omega),hl,Nat.sub_self,List.set_cons_zero]
 simp[kpR,withK,hs]

theorem kpR_3 (K:List Kp):∀r∈kpR K,r.length=3:=by
 intro r hr
 rw[kpR,List.mem_map]at hr
 obtain⟨x,_,rfl⟩:=hr
 rfl

theorem ins_len (a:Int):∀ (l:List Int) (put:Bool),(insF a put l).length≤l.length+1
 |[],put=>by cases put<;>simp[insF]
 |x::r,put=>by
  have h1:=ins_len a r (put || decide (x > a))
  simp only[insF,List.length_append,List.length_cons]
  cases hq:(!put&&decide (x > a)) with
  |false=>simp;omega
  |true =>
   rw[Bool.and_eq_true]at hq
   rw[hq.2,Bool.or_true,ins_done]
   simp;omega

theorem sorted_len:∀ {l:List Int} {a n:Int},l.Pairwise (· < ·)→(∀x∈l,a≤x∧x<n)→(l.length:Int)≤max 0 (n - a)
 |[],_,_,_,_=>by simp;omega
 |x::r,a,n,h,hb=>by
  rw[List.pairwise_cons]at h
  have hx:=hb x (by simp)
  have ih:=sorted_len (a:=x+1) (n:=n) h.2 fun y hy=>⟨by have:=h.1 y hy;omega,(hb y (by simp[hy])).2⟩
  simp only[List.length_cons]
  push_cast
  omega

theorem OkK.at_len {l:List Cs}{K:List Kp}{n:Nat}(h:OkK l K)(hb:∀c∈l,c.head.l.length≤n):∀x∈K,x.at_.length≤n:=by
 intro x hx
 obtain⟨h1,h2⟩:=h.at_ x hx
 obtain⟨c,hc,_,h3⟩:=h.len x hx
 have:=sorted_len h1 h2
 have:=hb c hc
 omega
theorem shp_len {K K':List Kp}(h:shp K=shp K'):K.length=K'.length:=by have:=congrArg List.length h;simpa[shp]using this

theorem init_len (l:List Cs):(initK [] l).length≤l.length:=by
 rw[init_keep]
 simpa using keepF_len trO l []

def kpZ (K:List Kp):List (List D):=K.map fun x=>[.v (.string x.s),.v (.int .i64 x.n),.v (.slice none 0 0)]
theorem kpZ_len (K:List Kp):(kpZ K).length=K.length:=by simp[kpZ]
theorem kpZ_get {K:List Kp}{i:Nat}{x:Kp}(h:K[i]? = some x):(kpZ K)[i]? = some [.v (.string x.s),.v (.int .i64 x.n),.v (.slice none 0 0)]:=by simp[kpZ,h]
theorem kpZ_snoc (K:List Kp)(x:Kp):kpZ K++[[.v (.string x.s),.v (.int .i64 x.n),.v (.slice none 0 0)]]=kpZ (K++[x]):=by simp[kpZ]

theorem kpZ_ent:∀ {K:List Kp},(∀x∈K,x.at_=[])→RowsEnt (kpZ K) (kpR K)
 |[],_=>trivial
 |x::r,h=>by
  refine⟨?_,kpZ_ent fun y hy=>h y (by simp[hy])⟩
  rw[Kp.row,h x (by simp)]
  exact⟨.refl _,.refl _,.nil,trivial⟩
end PSL

namespace Go.Proofs.YtcgkgofmldhokaaGreat
open Go PSL Go.Proofs

theorem refWith_ok (K:List Kp)(s:ByteArray)(a:Int)(hK:K.length≤1000000)(ha:∀x∈K,x.at_.length≤1000001):PCtr Tryz.prog 61 [.d (.sl (kpR K)),.d (.v (.string s)),iV a] (.d (.sl (kpR (withK K s a)))):=by
 have hrl:=kpR_len K
 refine PCtr.of_R (pf:=fun _=>.eff) tyOk mixed Tryz.func61 rfl (by kernel_rfl) (by kernel_rfl) (by simp[Tryz.ntmps61]) fun w S hg=>?_
 refine R_k hg.ok rfl rfl ?_
 refine R_appendF hg.ok (rows:=[]) (news:=kpR K) rfl rfl (.inl rfl) rfl (.inl rfl) rfl rfl rfl (by simp) (kpR_3 K) (by rw[hrl];simp[Ty.bytes];omega) (by rw[hrl];simp;omega) ?_
 refine R_k hg.ok rfl rfl ?_
 refine R_loop (fun k:Nat=>([(1,.d (.v (.string s))),(2,iV a),(7,.ow 0 0),(8,iV k)],[.arr 3 0 (kpR (withN K s a k))])) (fun k=>k≤K.length) (fun k=>K.length - k) 0 (Nat.zero_le _) ⟨.refl _,.refl _,.refl _,.refl _,trivial⟩ (by rw[withN_zero];rfl) ?_
 rintro k hk
 have hwl:(kpR (withN K s a k)).length=K.length:=by rw[kpR_len,withN_len]
 refine R_k hg.ok rfl rfl ?_
 refine R_lenO hg.ok rfl rfl rfl rfl rfl (n:=K.length) (by rw[hwl]) ?_
 refine R_k hg.ok rfl rfl ?_
 refine R_if rfl rfl (fun h=>?_) (fun h=>?_)<;>refine R_k hg.ok rfl rfl ?_
 rotate_left
 ·have hk1:K.length≤k:=ge_dec h rfl
  refine R_freezeO hg.gup 0 [(6,.d (.sl (kpR (withK K s a))))] [.dead] rfl rfl ?_ ⟨by simp[ObIn],trivial⟩ ?_
  ·rw[← withN_all,show K.length=k by omega];exact⟨Ent.frz 0 0 (kpR (withN K s a k)),trivial⟩
  refine R_k hg.ok rfl rfl ?_
  refine R_ret hg 5 rfl rfl ?_
  rfl
 have hk1:k<K.length:=lt_dec h rfl
 have e1:K[k]? = some K[k]:=List.getElem?_eq_getElem hk1
 have hal:=ha _ (List.getElem_mem hk1)
 generalize K[k]=x at e1 hal
 have e2:=kpR_get (withN_get (s:=s) (a:=a) e1)
 refine R_indexO hg.ok rfl rfl rfl rfl rfl rfl rfl rfl rfl (by omega) (by simp;omega) ?_
 refine R_k hg.ok rfl rfl ?_
 refine R_loadE hg.ok rfl rfl rfl rfl rfl rfl e2 rfl ?_
 refine R_k hg.ok rfl rfl ?_
 refine R_if rfl rfl (fun h2=>?_) (fun h2=>?_)<;>refine R_k hg.ok rfl rfl ?_
 ·have h2:¬ x.s=s:=fun e=>by rw [Tm.strEq_iff.2 e] at h2; cases h2
  exact R_next (k+1) (by omega) (by omega) ⟨.refl _,.refl _,.refl _,Ent.wrap (by omega) (by omega) (by omega),trivial⟩ (by rw[withN_skip e1 h2])
 have h2:x.s=s:=by
  refine Tm.strEq_iff.1 ?_
  cases hq:strEq x.s s with
  |true=>rfl
  |false=>rw[hq]at h2;simp at h2
 refine R_own 9 1 rfl rfl ?_
 refine R_loop (fun y:Nat × Bool × List Int=>([(1,.d (.v (.string s))),(2,iV a),(7,.ow 0 0),(8,iV k),(9,.ow 1 y.2.2.length),(10,bV y.2.1),(11,iV y.1)],[.arr 3 0 (kpR (withN K s a k)),.arr 1 y.2.2.length (irows y.2.2)])) (fun y=>y.1≤x.at_.length∧insF a false x.at_=y.2.2++insF a y.2.1 (x.at_.drop y.1)) (fun y=>x.at_.length - y.1) (0,false,[]) ⟨Nat.zero_le _,rfl⟩ ⟨.refl _,.refl _,.refl _,.refl _,.refl _,.ff,.refl _,trivial⟩ rfl ?_
 rintro⟨j,put,r⟩ ⟨hj,hm⟩
 simp only at hj hm
 have hil:=ins_len a x.at_ false
 have hrj:r.length≤x.at_.length+1:=by rw[hm,List.length_append]at hil;omega
 refine R_k hg.ok rfl rfl ?_
 refine R_indexO hg.ok rfl rfl rfl rfl rfl rfl rfl rfl rfl (by omega) (by simp;omega) ?_
 refine R_k hg.ok rfl rfl ?_
 refine R_loadE hg.ok rfl rfl rfl rfl rfl rfl e2 rfl ?_
 refine R_k hg.ok rfl rfl ?_
 have hal2:=irows_length x.at_
 refine R_if rfl rfl (fun h3=>?_) (fun h3=>?_)<;>refine R_k hg.ok rfl rfl ?_
 rotate_left
 ·have hj1:x.at_.length≤j:=ge_dec h3 (by rw [hal2])
  rw[List.drop_eq_nil_of_le hj1,insF]at hm
  have hirl:(irows r).length=r.length:=irows_length r
  refine R_cut1 (fun r2:List Int=>([(1,.d (.v (.string s))),(2,iV a),(7,.ow 0 0),(8,iV k),(9,.ow 1 r2.length)],[.arr 3 0 (kpR (withN K s a k)),.arr 1 r2.length (irows r2)])) (fun r2=>r2=insF a false x.at_) rfl ?_ ?_
  ·refine R_if rfl rfl (fun h4=>?_) (fun h4=>?_) <;> refine R_run hg.ok 1000 rfl rfl ?_
   ·have h4:put=false:=by simpa using h4
    refine R_appendO hg.ok (irows (r++[a])) rfl rfl rfl rfl rfl rfl rfl rfl rfl (by simp) (by simp[one1]) (by simp[irows,irow]) (by rw[hirl];simp;omega) (by rw[hirl];simp;omega) ?_
    refine R_k hg.ok rfl rfl ?_
    have hsn:(r++[a]).length=Nat.succ r.length:=by simp
    exact R_to (r++[a]) (by rw[hm,h4];rfl) ⟨.refl _,.refl _,.refl _,.refl _,by rw[hsn];exact .refl _,trivial⟩ (by rw[hsn])
   ·have h4:put=true:=by simpa using h4
    exact R_to r (by rw[hm,h4];simp) ⟨.refl _,.refl _,.refl _,.refl _,.refl _,trivial⟩ rfl
  rintro r2 hr2
  refine R_freezeO hg.gup 1 [(1,.d (.v (.string s))),(2,iV a),(7,.ow 0 0),(8,iV k),(9,.d (.sl (irows r2)))] [.arr 3 0 (kpR (withN K s a k)),.dead] rfl rfl ⟨.refl _,.refl _,.refl _,.refl _,Ent.frz 1 _ _,trivial⟩ ⟨ObIn.refl _,by simp[ObIn],trivial⟩ ?_
  refine R_k hg.ok rfl rfl ?_
  refine R_indexO hg.ok rfl rfl rfl rfl rfl rfl rfl rfl rfl (by omega) (by simp;omega) ?_
  refine R_k hg.ok rfl rfl ?_
  refine R_storeEO hg.ok (kpR (withN K s a (k+1))) rfl rfl rfl rfl rfl e2 rfl rfl rfl (by decide) (by rw[hr2];exact withN_set e1 h2) ?_
  refine R_k hg.ok rfl rfl ?_
  refine R_dropO 1 [.arr 3 0 (kpR (withN K s a (k+1)))] (Nat.zero_le _) rfl rfl ?_
  exact R_next (k+1) (by omega) (by omega) ⟨.refl _,.refl _,.refl _,Ent.wrap (by omega) (by omega) (by omega),trivial⟩ rfl
 have hj1:j<x.at_.length:=lt_dec h3 (by rw[hal2])
 have e3:x.at_[j]? = some x.at_[j]:=List.getElem?_eq_getElem hj1
 rw[List.drop_eq_getElem_cons hj1,insF]at hm
 generalize x.at_[j]=b at e3 hm
 have hirl:(irows r).length=r.length:=irows_length r
 refine R_cut1 (fun q:Bool=>([(1,.d (.v (.string s))),(2,iV a),(7,.ow 0 0),(8,iV k),(9,.ow 1 r.length),(10,bV put),(11,iV j),(51,bV q)],[.arr 3 0 (kpR (withN K s a k)),.arr 1 r.length (irows r)])) (fun q=>q=(!put&&decide (b > a))) rfl ?_ ?_
 ·refine R_if rfl rfl (fun h4=>?_) (fun h4=>?_) <;> refine R_run hg.ok 1000 rfl rfl ?_
  ·have h4:put=false:=by simpa using h4
   refine R_indexO hg.ok rfl rfl rfl rfl rfl rfl rfl rfl rfl (by omega) (by simp;omega) ?_
   refine R_k hg.ok rfl rfl ?_
   refine R_loadE hg.ok rfl rfl rfl rfl rfl rfl e2 rfl ?_
   refine R_k hg.ok rfl rfl ?_
   refine R_index hg.ok rfl rfl rfl rfl rfl rfl (Int.natCast_nonneg _) (irows_get e3) rfl ?_
   refine R_k hg.ok rfl rfl ?_
   exact R_to (decide (b > a)) (by simp[h4]) ⟨.refl _,.refl _,.refl _,.refl _,.refl _,.refl _,.refl _,.refl _,trivial⟩ rfl
  ·have h4:put=true:=by simpa using h4
   exact R_to false (by simp[h4]) ⟨.refl _,.refl _,.refl _,.refl _,.refl _,.refl _,.refl _,.ff,trivial⟩ rfl
 rintro q hq
 rw[← hq]at hm
 refine R_cut1 (fun y:Bool × List Int=>([(1,.d (.v (.string s))),(2,iV a),(7,.ow 0 0),(8,iV k),(9,.ow 1 y.2.length),(10,bV y.1),(11,iV j)],[.arr 3 0 (kpR (withN K s a k)),.arr 1 y.2.length (irows y.2)])) (fun y=>y.1=(put || decide (b > a))∧y.2=r++(if q=true then [a] else [])) rfl ?_ ?_
 ·refine R_if rfl rfl (fun h4=>?_) (fun h4=>?_) <;> refine R_run hg.ok 1000 rfl rfl ?_
  ·have h4:q=true:=h4
   refine R_appendO hg.ok (irows (r++[a])) rfl rfl rfl rfl rfl rfl rfl rfl rfl (by simp) (by simp[one1]) (by simp[irows,irow]) (by rw[hirl];simp;omega) (by rw[hirl];simp;omega) ?_
   refine R_k hg.ok rfl rfl ?_
   have hsn:(r++[a]).length=Nat.succ r.length:=by simp
   rw[h4]at hq
   have hq2:put=false∧decide (b > a)=true:=by have:=hq.symm;rw[Bool.and_eq_true,Bool.not_eq_true']at this;exact this
   exact R_to (true,r++[a]) ⟨by rw[hq2.2];simp,by rw[if_pos h4]⟩ ⟨.refl _,.refl _,.refl _,.refl _,by rw[hsn];exact .refl _,.tt,.refl _,trivial⟩ (by rw[hsn])
  ·have h4:q=false:=h4
   have hq2:put=(put || decide (b > a)):=by rw[h4]at hq;revert hq;generalize decide (b > a)=d;cases put<;>cases d<;>simp
   exact R_to (put,r) ⟨hq2,by rw[h4];simp⟩ ⟨.refl _,.refl _,.refl _,.refl _,.refl _,.refl _,.refl _,trivial⟩ rfl
 rintro⟨p2,r2⟩ ⟨hp2,hr2⟩
 simp only at hp2 hr2
 rw[← hp2,← List.append_assoc,← hr2]at hm
 have hrl2:r2.length≤x.at_.length+1:=by rw[hm,List.length_append]at hil;omega
 have hirl2:(irows r2).length=r2.length:=irows_length r2
 refine R_k hg.ok rfl rfl ?_
 refine R_indexO hg.ok rfl rfl rfl rfl rfl rfl rfl rfl rfl (by omega) (by simp;omega) ?_
 refine R_k hg.ok rfl rfl ?_
 refine R_loadE hg.ok rfl rfl rfl rfl rfl rfl e2 rfl ?_
 refine R_k hg.ok rfl rfl ?_
 refine R_index hg.ok rfl rfl rfl rfl rfl rfl (Int.natCast_nonneg _) (irows_get e3) rfl ?_
 refine R_k hg.ok rfl rfl ?_
 refine R_appendO hg.ok (irows (r2++[b])) rfl rfl rfl rfl rfl rfl rfl rfl rfl (by simp) (by simp[one1]) (by simp[irows,irow]) (by rw[hirl2];simp;omega) (by rw[hirl2];simp;omega) ?_
 refine R_k hg.ok rfl rfl ?_
 have hsn:(r2++[b]).length=Nat.succ r2.length:=by simp
 exact R_next (j+1,p2,r2++[b]) ⟨hj1,by rw[hm,List.append_assoc];rfl⟩ (by show x.at_.length - (j+1)<x.at_.length - j;omega) ⟨.refl _,.refl _,.refl _,.refl _,by rw[hsn];exact .refl _,.refl _,Ent.wrap (by omega) (by omega) (by omega),trivial⟩ (by rw[hsn])

theorem refKeeps_ok (l:List Cs)(hl:l.length≤1000000)(hs:singP [] l=true)(hb:∀c∈l,c.head.size+Gl.sizeL c.body≤1000000):PCtr Tryz.prog 26 [prV l] (.d (.sl (kpR (refKeeps l)))):=by
 have hrl:=Cs.rows_len l
 have hhl:∀c∈l,c.head.l.length≤1000000:=fun c hc=>by have:=hb c hc;have:=Tm.size_eq c.head;have:=tml_len c.head.l;omega
 have h0:OkK l (initK [] l):=init_ok l [] (fun _ h=>h) ⟨by simp[shp],by simp,by simp⟩
 have hi0:=init_at l [] (by simp)
 have hil:=init_len l
 refine PCtr.of_R (pf:=fun _=>.eff) tyOk mixed Tryz.func26 rfl (by kernel_rfl) (by kernel_rfl) (by simp[Tryz.ntmps26]) fun w S hg=>?_
 refine R_k hg.ok rfl rfl ?_
 refine R_own 3 3 rfl rfl ?_
 refine R_cut2 (fun _:Unit=>([(1,.lo 0 0),(3,.ow 1 (initK [] l).length)],[.box [.d (.sl (Cs.rows l))],.arr 3 (initK [] l).length (kpZ (initK [] l))])) (fun _=>True) rfl ?_ ?_
 ·refine R_loop (fun x:Nat × List Kp=>([(1,.lo 0 0),(3,.ow 1 x.2.length),(4,iV x.1)],[.box [.d (.sl (Cs.rows l))],.arr 3 x.2.length (kpZ x.2)])) (fun x=>x.1≤l.length∧x.2.length≤x.1∧initK [] l=initK x.2 (l.drop x.1)) (fun x=>l.length - x.1) (0,[]) ⟨Nat.zero_le _,Nat.le_refl _,rfl⟩ ⟨.refl _,.refl _,.refl _,trivial⟩ rfl ?_
  rintro⟨k,K⟩ ⟨hk,hKk,hm⟩
  simp only at hk hKk hm
  refine R_k hg.ok rfl rfl ?_
  refine R_if rfl rfl (fun h=>?_) (fun h=>?_)<;>refine R_k hg.ok rfl rfl ?_
  rotate_left
  ·have hk1:l.length≤k:=ge_dec h (by rw [hrl])
   rw[List.drop_eq_nil_of_le hk1,initK]at hm
   rw[hm]
   exact R_to () trivial ⟨.refl _,.refl _,trivial⟩ rfl
  have hk1:k<l.length:=lt_dec h (by rw[hrl])
  have e1:l[k]? = some l[k]:=List.getElem?_eq_getElem hk1
  rw[List.drop_eq_getElem_cons hk1,initK]at hm
  have hbc:=hhl _ (List.getElem_mem hk1)
  generalize l[k]=c at e1 hm hbc
  refine R_index hg.ok rfl rfl rfl rfl rfl rfl (Int.natCast_nonneg _) (Cs.rows_get e1) rfl ?_
  refine R_k hg.ok rfl rfl ?_
  have hrt:=Tm.rows_length c.head.l
  refine R_loop (fun y:Bool × Nat=>([(1,.lo 0 0),(3,.ow 1 K.length),(4,iV k),(5,.lo 2 0),(6,bV y.1),(7,iV y.2)],[.box [.d (.sl (Cs.rows l))],.arr 3 K.length (kpZ K),boxR c.head])) (fun y=>y.2≤K.length∧K.any (fun x=>decide (x.s=c.head.s))=(y.1 || (K.drop y.2).any (fun x=>decide (x.s=c.head.s)))) (fun y=>K.length - y.2) (false,0) ⟨Nat.zero_le _,by simp⟩ ⟨.refl _,.refl _,.refl _,.refl _,.ff,.refl _,trivial⟩ rfl ?_
  rintro⟨met,j⟩ ⟨hj,hm2⟩
  simp only at hj hm2
  refine R_k hg.ok rfl rfl ?_
  refine R_lenO hg.ok rfl rfl rfl rfl rfl (n:=(K.length:Int)) (by rw[kpZ_len]) ?_
  refine R_k hg.ok rfl rfl ?_
  refine R_if rfl rfl (fun h=>?_) (fun h=>?_)<;>refine R_k hg.ok rfl rfl ?_
  ·have hj1:j<K.length:=lt_dec h rfl
   have e2:K[j]? = some K[j]:=List.getElem?_eq_getElem hj1
   rw[List.drop_eq_getElem_cons hj1,List.any_cons]at hm2
   generalize K[j]=x at e2 hm2
   refine R_if rfl rfl (fun h2=>?_) (fun h2=>?_)<;>refine R_k hg.ok rfl rfl ?_
   ·have h2:met=true:=by simpa using h2
    refine R_next (true,j+1) ⟨hj1,by rw[hm2,h2];rfl⟩ (by show K.length - (j+1)<K.length - j;omega) ⟨.refl _,.refl _,.refl _,.refl _,.tt,Ent.wrap (by omega) (by omega) (by omega),trivial⟩ rfl
   ·have h2:met=false:=by simpa using h2
    refine R_indexO hg.ok rfl rfl rfl rfl rfl rfl rfl rfl rfl (by omega) (by simp[kpZ_len];omega) ?_
    refine R_k hg.ok rfl rfl ?_
    refine R_loadE hg.ok rfl rfl rfl rfl rfl rfl (kpZ_get e2) rfl ?_
    refine R_k hg.ok rfl rfl ?_
    refine R_next (strEq x.s c.head.s,j+1) ⟨hj1,by rw[hm2,h2,show strEq x.s c.head.s=decide (x.s=c.head.s) by rw[Bool.eq_iff_iff,Tm.strEq_iff,decide_eq_true_eq]];rfl⟩ (by show K.length - (j+1)<K.length - j;omega) ⟨.refl _,.refl _,.refl _,.refl _,.refl _,Ent.wrap (by omega) (by omega) (by omega),trivial⟩ rfl
  have hj1:K.length≤j:=ge_dec h rfl
  rw[List.drop_eq_nil_of_le hj1,List.any_nil,Bool.or_false]at hm2
  rw[hm2]at hm
  refine R_if rfl rfl (fun h2=>?_) (fun h2=>?_)<;>refine R_k hg.ok rfl rfl ?_
  ·have h2:met=false:=by simpa using h2
   rw[h2,if_neg (by simp)]at hm
   refine R_appendO hg.ok (kpZ (K++[Kp.mk c.head.s c.head.l.length []])) rfl rfl rfl rfl rfl rfl rfl rfl rfl (by simp) (by simp[one1]) (by rw[hrt];exact kpZ_snoc K (Kp.mk c.head.s c.head.l.length [])) (by rw[kpZ_len];simp;omega) (by rw[kpZ_len];simp;omega) ?_
   refine R_k hg.ok rfl rfl ?_
   have hsn:(K++[(⟨c.head.s,c.head.l.length,[]⟩:Kp)]).length=Nat.succ K.length:=by simp
   refine R_dropO 2 [.box [.d (.sl (Cs.rows l))],.arr 3 (Nat.succ K.length) (kpZ (K++[Kp.mk c.head.s c.head.l.length []]))] (Nat.zero_le _) rfl rfl ?_
   exact R_next (k+1,K++[⟨c.head.s,c.head.l.length,[]⟩]) ⟨hk1,by show (K++[(⟨c.head.s,c.head.l.length,[]⟩:Kp)]).length≤k+1;omega,hm⟩ (by show l.length - (k+1)<l.length - k;omega) ⟨.refl _,by rw[hsn];exact .refl _,Ent.wrap (by omega) (by omega) (by omega),trivial⟩ (by rw[hsn])
  ·have h2:met=true:=by simpa using h2
   rw[h2,if_pos rfl]at hm
   refine R_dropO 2 [.box [.d (.sl (Cs.rows l))],.arr 3 K.length (kpZ K)] (Nat.zero_le _) rfl rfl ?_
   exact R_next (k+1,K) ⟨hk1,by show K.length≤k+1;omega,hm⟩ (by show l.length - (k+1)<l.length - k;omega) ⟨.refl _,.refl _,Ent.wrap (by omega) (by omega) (by omega),trivial⟩ rfl
 rintro _ _
 generalize hK0:initK [] l=K0 at h0 hi0 hil
 refine R_freezeO hg.gup 1 [(1,.lo 0 0),(3,.d (.sl (kpZ K0)))] [.box [.d (.sl (Cs.rows l))],.dead] rfl rfl ⟨.refl _,Ent.frz 1 _ _,trivial⟩ ⟨ObIn.refl _,by simp[ObIn],trivial⟩ ?_
 refine R_weak [(1,.lo 0 0),(3,.d (.sl (kpR K0)))] ⟨.refl _,Ent.d (DEnt.sl (kpZ_ent hi0)),trivial⟩ ?_
 refine R_k hg.ok rfl rfl ?_
 have hR0:refKeeps l=refF (unK K0 l+1) l K0:=by rw[refKeeps,hK0]
 refine R_loop (fun x:Bool × List Kp × Nat=>([(1,.lo 0 0),(3,.d (.sl (kpR x.2.1))),(8,bV x.1)],[.box [.d (.sl (Cs.rows l))],.dead])) (fun x=>OkK l x.2.1∧x.2.1.length≤l.length∧(x.1=true→refKeeps l=refF x.2.2 l x.2.1∧unK x.2.1 l<x.2.2)∧(x.1=false→refKeeps l=x.2.1)) (fun x=>2 * x.2.2+(if x.1 then 1 else 0)) (true,K0,unK K0 l+1) ⟨h0,hil,fun _=>⟨hR0,Nat.lt_succ_self _⟩,fun h=>by cases h⟩ ⟨.refl _,.refl _,by first |exact .tt |exact .refl _,trivial⟩ rfl ?_
 rintro⟨again,K,f⟩ ⟨hok,hKl,hm1,hm2⟩
 simp only at hok hKl hm1 hm2
 refine R_k hg.ok rfl rfl ?_
 refine R_if rfl rfl (fun h=>?_) (fun h=>?_)<;>refine R_k hg.ok rfl rfl ?_
 rotate_left
 ·refine R_ret hg 5 rfl rfl ?_
  rw[hm2 h]
 have h:again=true:=h
 subst h
 obtain⟨hm,hlen⟩:=hm1 rfl
 obtain⟨f,rfl⟩:∃g,f=g+1:=⟨f - 1,by omega⟩
 obtain⟨hpl,hpn⟩:=passK_un l K (fun _ h=>h) (l:=l)
 obtain⟨hok2,hsh2⟩:=hok.pass hs l (fun _ h=>h)
 refine R_cut2 (fun b:Bool=>([(1,.lo 0 0),(3,.d (.sl (kpR (passK K l)))),(8,bV b)],[.box [.d (.sl (Cs.rows l))],.dead])) (fun b=>b=decide (unK (passK K l) l<unK K l)) rfl ?_ ?_
 rotate_left
 ·rintro b hbb
  rw[refF]at hm
  have h1:b=true→refKeeps l=refF f l (passK K l)∧unK (passK K l) l<f:=fun hb1=>by
   rw[hbb]at hb1
   have:=of_decide_eq_true hb1
   rw[if_neg (fun e=>by rw[e]at this;omega)]at hm
   exact⟨hm,by omega⟩
  have h2:b=false→refKeeps l=passK K l:=fun hb1=>by
   rw[hbb]at hb1
   have:=of_decide_eq_false hb1
   have h3:=hpn (by omega)
   rw[if_pos h3]at hm
   rw[h3];exact hm
  refine R_k hg.ok rfl rfl ?_
  exact R_next (b,passK K l,f) ⟨hok2,by show (passK K l).length≤l.length;rw[shp_len hsh2];exact hKl,h1,h2⟩ (by show 2 * f+(if b then 1 else 0)<2 * (f+1)+1;split<;>omega) ⟨.refl _,.refl _,.refl _,trivial⟩ rfl
 refine R_loop (fun x:Nat × Bool × List Kp=>([(1,.lo 0 0),(3,.d (.sl (kpR x.2.2))),(8,bV x.2.1),(9,iV x.1)],[.box [.d (.sl (Cs.rows l))],.dead])) (fun x=>x.1≤l.length∧OkK l x.2.2∧x.2.2.length≤l.length∧unK x.2.2 l≤unK K l∧passK K l=passK x.2.2 (l.drop x.1)∧x.2.1=decide (unK x.2.2 l<unK K l)) (fun x=>l.length - x.1) (0,false,K) ⟨Nat.zero_le _,hok,hKl,Nat.le_refl _,rfl,by simp⟩ ⟨.refl _,.refl _,by first |exact .ff |exact .refl _,.refl _,trivial⟩ rfl ?_
 rintro⟨k,a2,K2⟩ ⟨hk,hok3,hK2l,hle,hm3,ha⟩
 simp only at hk hok3 hK2l hle hm3 ha
 refine R_k hg.ok rfl rfl ?_
 refine R_if rfl rfl (fun h=>?_) (fun h=>?_)<;>refine R_k hg.ok rfl rfl ?_
 rotate_left
 ·have hk1:l.length≤k:=ge_dec h (by rw [hrl])
  rw[List.drop_eq_nil_of_le hk1,passK]at hm3
  rw[hm3]
  exact R_to a2 (by rw[ha]) ⟨.refl _,.refl _,.refl _,trivial⟩ rfl
 have hk1:k<l.length:=lt_dec h (by rw[hrl])
 have e1:l[k]? = some l[k]:=List.getElem?_eq_getElem hk1
 rw[List.drop_eq_getElem_cons hk1,passK]at hm3
 have hcm:=List.getElem_mem hk1
 have hbc:=hb _ hcm
 have hhc:=hhl _ hcm
 generalize l[k]=c at e1 hm3 hbc hcm hhc
 have hrt:=Tm.rows_length c.head.l
 refine R_index hg.ok rfl rfl rfl rfl rfl rfl (Int.natCast_nonneg _) (Cs.rows_get e1) rfl ?_
 refine R_k hg.ok rfl rfl ?_
 refine R_loop (fun x:Nat × Bool × List Kp=>([(1,.lo 0 0),(3,.d (.sl (kpR x.2.2))),(8,bV x.2.1),(9,iV k),(10,.lo 2 0),(11,iV x.1)],[.box [.d (.sl (Cs.rows l))],.dead,csBox c])) (fun x=>x.1≤c.head.l.length∧OkK l x.2.2∧x.2.2.length≤l.length∧unK x.2.2 l≤unK K l∧argsK c K2 c.head.l 0=argsK c x.2.2 (c.head.l.drop x.1) x.1∧x.2.1=decide (unK x.2.2 l<unK K l)) (fun x=>c.head.l.length - x.1) (0,a2,K2) ⟨Nat.zero_le _,hok3,hK2l,hle,rfl,ha⟩ ⟨.refl _,.refl _,.refl _,.refl _,.refl _,.refl _,trivial⟩ rfl ?_
 rintro⟨j,a3,K3⟩ ⟨hj,hok4,hK3l,hle3,hm4,ha3⟩
 simp only at hj hok4 hK3l hle3 hm4 ha3
 have hat:=hok4.at_len hhl
 refine R_k hg.ok rfl rfl ?_
 refine R_if rfl rfl (fun h=>?_) (fun h=>?_)<;>refine R_k hg.ok rfl rfl ?_
 rotate_left
 ·have hj1:c.head.l.length≤j:=ge_dec h (by rw [hrt])
  rw[List.drop_eq_nil_of_le hj1,argsK]at hm4
  rw[hm4]at hm3
  refine R_dropO 2 [.box [.d (.sl (Cs.rows l))],.dead] (Nat.zero_le _) rfl rfl ?_
  exact R_next (k+1,a3,K3) ⟨hk1,hok4,hK3l,hle3,hm3,ha3⟩ (by show l.length - (k+1)<l.length - k;omega) ⟨.refl _,.refl _,.refl _,Ent.wrap (by omega) (by omega) (by omega),trivial⟩ rfl
 have hj1:j<c.head.l.length:=lt_dec h (by rw[hrt])
 have e2:c.head.l[j]? = some c.head.l[j]:=List.getElem?_eq_getElem hj1
 rw[List.drop_eq_getElem_cons hj1,argsK]at hm4
 generalize c.head.l[j]=x at e2 hm4
 refine R_call hg.ok (refKept_ok K3 c.head.s (j:Int) (by omega) hat) rfl rfl rfl rfl rfl rfl ?_
 refine R_k hg.ok rfl rfl ?_
 refine R_cut1 (fun q:Bool=>([(1,.lo 0 0),(3,.d (.sl (kpR K3))),(8,bV a3),(9,iV k),(10,.lo 2 0),(11,iV j),(87,bV q)],[.box [.d (.sl (Cs.rows l))],.dead,csBox c])) (fun q=>q=(idK K3 c.head.s j && !freeB K3 c x)) rfl ?_ ?_
 ·refine R_if rfl rfl (fun h4=>?_) (fun h4=>?_) <;> refine R_run hg.ok 1000 rfl rfl ?_
  ·have h4:idK K3 c.head.s j=true:=h4
   refine R_call hg.ok (refFree_ok K3 (by omega) hat c hbc j x e2) rfl rfl rfl rfl rfl rfl ?_
   refine R_k hg.ok rfl rfl ?_
   exact R_to (!freeB K3 c x) (by rw[h4];rfl) ⟨.refl _,.refl _,.refl _,.refl _,.refl _,.refl _,.refl _,trivial⟩ rfl
  ·have h4:idK K3 c.head.s j=false:=h4
   exact R_to false (by rw[h4];rfl) ⟨.refl _,.refl _,.refl _,.refl _,.refl _,.refl _,.ff,trivial⟩ rfl
 rintro q hq
 have hok5:=hok4.step hs hcm hj1 x
 have hun:=stepA_un (l:=l) (K:=K3) (x:=x) hcm hj1
 rw[← hq]at hun
 have hsl:(stepA K3 c j x).length=K3.length:=shp_len (shp_step K3 c j x)
 refine R_if rfl rfl (fun h4=>?_) (fun h4=>?_)<;>refine R_k hg.ok rfl rfl ?_
 ·have h4:q=true:=h4
  rw[h4]at hun
  obtain⟨h5,h6⟩:stepA K3 c j x=withK K3 c.head.s j∧unK (stepA K3 c j x) l<unK K3 l:=by
   rcases hun with ⟨h,_⟩ |⟨_,h⟩
   ·cases h
   ·exact h
  rw[h5]at hm4 hok5 h6 hsl
  refine R_call hg.ok (refWith_ok K3 c.head.s (j:Int) (by omega) (fun x hx=>by have:=hat x hx;omega)) rfl rfl rfl rfl rfl rfl ?_
  refine R_k hg.ok rfl rfl ?_
  exact R_next (j+1,true,withK K3 c.head.s j) ⟨hj1,hok5,by show (withK K3 c.head.s j).length≤l.length;omega,by show unK (withK K3 c.head.s j) l≤unK K l;omega,hm4,by show true=decide (unK (withK K3 c.head.s j) l<unK K l);rw[decide_eq_true (by omega)]⟩ (by show c.head.l.length - (j+1)<c.head.l.length - j;omega) ⟨.refl _,.refl _,.tt,.refl _,.refl _,Ent.wrap (by omega) (by omega) (by omega),trivial⟩ rfl
 ·have h4:q=false:=h4
  rw[h4]at hun
  have h5:stepA K3 c j x=K3:=by
   rcases hun with ⟨_,h⟩ |⟨h,_⟩
   ·exact h
   ·cases h
  rw[h5]at hm4
  exact R_next (j+1,a3,K3) ⟨hj1,hok4,hK3l,hle3,hm4,ha3⟩ (by show c.head.l.length - (j+1)<c.head.l.length - j;omega) ⟨.refl _,.refl _,.refl _,.refl _,.refl _,Ent.wrap (by omega) (by omega) (by omega),trivial⟩ rfl
end Go.Proofs.YtcgkgofmldhokaaGreat

namespace PSL
open Go Go.RowKit

def plain2:Op→Bool
 | .call { callee:=.builtin .append,.. }=>true
 | .build .. => true
 | .buildSlice .. => true
 |o=>plainOp o

theorem plain2_sem {o:Oper}(h:plain2 o.op=true)(ro:Option Nat)(ρ:Operand→Value)(P:Program)(w:World):(∃v w',(o.semAt ro ρ).run P w=.ok (.value v) w')∨(∃x w',(o.semAt ro ρ).run P w=.halt x w'):=by
 have key:∀s:Sem Value,(∃v w',(do pure (Next.value (← s)):Sem Next).run P w=.ok (.value v) w')∨(∃x w',(do pure (Next.value (← s)):Sem Next).run P w=.halt x w'):=fun s=>by
  rw[Sem.run_bind]
  cases s.run P w with
  |ok v w'=>exact .inl ⟨v,w',rfl⟩
  |halt x w'=>exact .inr ⟨x,w',rfl⟩
 have e:o.semAt ro ρ=execOp ρ o:=Oper.semAt_eq ro ρ o (fun c hc=>by rw[hc]at h;cases h)
 rw[e]
 unfold execOp
 cases ho:o.op<;>rw[ho]at h
 case call c =>
  obtain⟨cal,args,ts⟩:=c
  cases cal
  case builtin b =>
   cases b<;>first
    |(cases h;done)
    | (simp only [resolve,Sem.run_bind,Sem.run_pure,Result.andThen_ok,invoke,builtin]
       first
       |(have:=key (Builtin.len_ ts o.type (args.map ρ));simp only[Sem.run_bind]at this;exact this)
       |(have:=key (Builtin.append_ ts o.type (args.map ρ));simp only[Sem.run_bind]at this;exact this)
       |exact key _)
  all_goals cases h
 case nilCheck x =>
  have hp:(∃v w',(runtimePanic .nilDeref:Sem Next).run P w=.ok (.value v) w')∨(∃x w',(runtimePanic .nilDeref:Sem Next).run P w=.halt x w'):=.inr ⟨_,_,rfl⟩
  have bind:∀ {α:Type} (s:Sem α) (k:α→Sem Next) (w:World),(∀a w',(∃v w2,(k a).run P w'=.ok (.value v) w2)∨(∃x w2,(k a).run P w'=.halt x w2))→(∃v w',(s >>= k).run P w=.ok (.value v) w')∨(∃x w',(s >>= k).run P w=.halt x w'):=fun s k w h=>by
   rw[Sem.run_bind]
   cases s.run P w with
   |halt x w'=>exact .inr ⟨x,w',rfl⟩
   |ok a w'=>exact h a w'
  simp only
  split
  ·exact hp
  ·exact hp
  ·exact hp
  ·split
   ·exact hp
   ·refine bind _ _ _ fun a w'=>?_
    refine bind _ _ _ fun b w'=>?_
    split
    ·exact bind _ _ _ fun c w'=>.inl ⟨_,_,rfl⟩
    ·exact .inl ⟨_,_,rfl⟩
   ·exact .inl ⟨_,_,rfl⟩
  ·exact .inl ⟨_,_,rfl⟩
 all_goals first
  |(cases h;done)
  |exact key _
  |exact .inl ⟨_,_,rfl⟩
section
variable {g:G} {pf:Nat→Cls} {ops:Array Oper}

theorem any_of_drF {q:Nat}(hok:∀ (j:Nat) (o:Oper),ops[j]? = some o→(∀e∈o.after.toList,Region.binds .any e=true→e.on<j)∧∀ (i:Nat) (x:Oper),i<j→ops[i]? = some x→conf pf ops x o=true→Reach ops i j∨j=q){K:Env→List Ob→Prop}(hK:KC K){Q:Exit→Act→World→Prop}(hQ:∀E objs a w,K E objs→Sat g E objs a w→Q .normal a w) :
  ∀ (fuel:Nat) (listed:Array Bool) (R:List Nat) (E:Env) (objs:List Ob) (a:Act) (w:World),listed.size=ops.size→Cl ops listed→(∀ i,i∈R↔i<ops.size∧listed.getD i true=false)→R.Pairwise (· < ·)→R.length≤fuel→q ∉ R →
   Dr g pf ops (R.filterMap (ops[·]?)) E objs K→Sat g E objs a w→wpAnyIn g.F g.dep g.P .any ops Q fuel listed a w:=by
 intro fuel
 induction fuel with
 |zero =>
  intro listed R E objs a w hls hc hR _ hf hpq hd hs
  have:R=[]:=List.length_eq_zero_iff.1 (by omega)
  subst this
  refine⟨?_,hQ E objs a w hd hs⟩
  apply List.eq_nil_iff_forall_not_mem.2
  intro i hi
  obtain⟨h1,h2,_⟩:=mem_ready.1 hi
  exact absurd ((hR i).2 ⟨h1,h2⟩) (by simp)
 |succ fuel ih =>
  intro listed R E objs a w hls hc hR hp hf hpq hd hs
  refine⟨fun hnil=>?_,fun i hi=>?_⟩
  ·cases R with
   |nil=>exact hQ E objs a w hd hs
   |cons k R' =>
    exfalso
    obtain⟨hk1,hk2⟩:=(hR k).1 (by simp)
    have ho:ops[k]? = some ops[k]:=Array.getElem?_eq_getElem hk1
    have:k∈Region.ready .any ops listed:=by
     refine mem_ready.2 ⟨hk1,hk2,ops[k],ho,fun e he hb=>?_⟩
     have hlt:=(hok k _ ho).1 e he hb
     have hnot:e.on ∉ (k::R'):=fun hm=>by
      rcases List.mem_cons.1 hm with hm |hm
      ·omega
      ·have:=(List.pairwise_cons.1 hp).1 _ hm;omega
     have hsz:e.on<listed.size:=by omega
     have h2:¬ (listed.getD e.on true=false):=fun h2=>hnot ((hR e.on).2 ⟨by omega,h2⟩)
     simp only[Array.getD,hsz,dif_pos]at h2 ⊢
     simpa using h2
    rw[hnil]at this;cases this
  ·obtain ⟨hi1,hi2,o,ho,hdeps⟩:=mem_ready.1 hi
   obtain⟨pre,post,rfl⟩:=List.append_of_mem ((hR i).2 ⟨hi1,hi2⟩)
   have hpre:∀k∈pre,k<i:=fun k hk=>(List.pairwise_append.1 hp).2.2 k hk i (by simp)
   have hd':Dr g pf ops (pre.filterMap (ops[·]?)++o::post.filterMap (ops[·]?)) E objs K:=by
    have:(pre++i::post).filterMap (ops[·]?)=pre.filterMap (ops[·]?)++o::post.filterMap (ops[·]?):=by
     rw[List.filterMap_append,List.filterMap_cons,ho]
    rw[← this];exact hd
   obtain⟨v,objs',hloc,hrest⟩:=Dr.front hK (fun x hx=>by
    obtain⟨k,hk,hkx⟩:=List.mem_filterMap.1 hx
    cases hcf:conf pf ops x o
    ·rfl
    ·exfalso
     have hreach:Reach ops k i:=by
      rcases (hok i o ho).2 k x (hpre k hk) hkx hcf with h |h2
      ·exact h
      ·exfalso
       exact hpq (by rw[← h2];simp)
     have hl:=reach_listed hc hreach (fun o' ho' e he hb=>by rw[ho]at ho';cases ho';exact hdeps e he hb)
     obtain⟨_,hk2⟩:=(hR k).1 (by simp[hk])
     have hsz:k<listed.size:=by have:=hpre k hk;omega
     simp only[Array.getD,hsz,dif_pos]at hl hk2
     rw[hl]at hk2;cases hk2) hd'
   have hstep:=hloc.step E objs objs' a w (fun t _=>.refl _) (.inr (.inr ⟨rfl,rfl⟩)) hs Q
   refine wpOpIn_mono (K:=fun a' w'=>Sat g (putO E o.dst v) objs' a' w') (fun a' w' hs'=>?_) (by unfold wpOpIn;rw[ho];exact hstep)
   have hget:∀ (k:Nat) (d:Bool),(listed.setIfInBounds i true).getD k d=if k=i then true else listed.getD k d:=by
    intro k d
    simp only[Array.getD_eq_getD_getElem?,Array.getElem?_setIfInBounds]
    by_cases hki:k=i
    ·subst hki
     simp[hls,hi1]
    ·rw[if_neg (fun e=>hki e.symm),if_neg hki]
   refine ih _ (pre++post) _ objs' a' w' (by simp[hls]) ?_ ?_ ?_ ?_ ?_ ?_ hs'
   ·intro k o' hk hko e he hb
    rw[hget]at hk ⊢
    by_cases hki:k=i
    ·subst hki
     rw[ho]at hko;cases hko
     have:=hdeps e he hb
     split
     ·rfl
     ·exact this
    ·rw [if_neg hki] at hk
     have:=hc k o' hk hko e he hb
     split
     ·rfl
     ·exact this
   ·intro k
    rw[hget]
    have hk:=hR k
    have hnd:i ∉ pre++post:=by
     intro hm
     rcases List.mem_append.1 hm with hm |hm
     ·have:=hpre i hm;omega
     ·have:=(List.pairwise_cons.1 (List.pairwise_append.1 hp).2.1).1 i hm;omega
    by_cases hki:k=i
    ·subst hki
     simp only[if_true]
     exact⟨fun h=>absurd h hnd,fun h=>by simp at h⟩
    ·simp only [hki,if_false]
     rw[← hk]
     simp[hki]
   ·obtain ⟨p1,p2,p3⟩:=List.pairwise_append.1 hp
    exact List.pairwise_append.2 ⟨p1,(List.pairwise_cons.1 p2).2,fun x hx y hy=>p3 x hx y (by simp[hy])⟩
   ·simp at hf ⊢;omega
   ·exact fun hm=>hpq (by simp only[List.mem_append,List.mem_cons]at hm ⊢;exact hm.imp id .inr)
   ·rw[List.filterMap_append];exact hrest

theorem wpOpIn_all {F:Fence}{n:Nat}{P:Program}{Q:Exit→Act→World→Prop}{i:Nat}{o:Oper}{ι:Type}(x0:ι)(ho:ops[i]? = some o)(hp:plain2 o.op=true){K:ι→Act→World→Prop}{a:Act}{w:World}(h:∀x,wpOpIn F n P ops Q i (K x) a w):wpOpIn F n P ops Q i (fun a' w'=>∀x,K x a' w') a w:=by
 have h0:=h x0
 unfold wpOpIn at *
 rw[ho]at h0 ⊢
 have h:∀x,_:=fun x=>by have:=h x;rw[ho]at this;exact this
 simp only at h h0 ⊢
 split
 ·rename_i hw
  rw[if_pos hw]at h0
  have h:∀x,_:=fun x=>by have:=h x;rw[if_pos hw]at this;exact this
  unfold Oper.wpIn at *
  refine⟨h0.1,?_⟩
  have h0:=h0.2
  have h:∀x,_:=fun x=>(h x).2
  rcases plain2_sem hp F.round a.eval P w with ⟨v,w',e⟩ |⟨x,w',e⟩
  ·rw [e] at h0 ⊢
   intro x
   have:=h x
   rw[e]at this;exact this
  ·rw [e] at h0 ⊢
   cases x<;>exact h0
 ·rename_i hw
  rw[if_neg hw]at h0
  refine⟨h0.1,fun x=>?_⟩
  have:=h x
  rw[if_neg hw]at this;exact this.2
end
end PSL
namespace PSL
open Go Go.RowKit
section
variable {g:G} {pf:Nat→Cls} {ops:Array Oper}

def FltB (pf:Nat→Cls)(ops:Array Oper)(oq:Oper)(B:List Nat):Prop:=B=[]∨∃b B' y,B=b::B'∧ops[b]? = some y∧conf pf ops y oq=true

def ncB (pf:Nat→Cls)(ops:Array Oper)(oq:Oper)(k:Nat):Bool:=match ops[k]? with
 |some y=>!conf pf ops y oq
 |none=>true

theorem mem_tw {α:Type}{p:α→Bool}:∀ {l:List α} {x:α},x∈l.takeWhile p→p x=true
 |y::l,x,h=>by
  rw[List.takeWhile_cons]at h
  split at h
  ·rcases List.mem_cons.1 h with rfl | h
   ·assumption
   ·exact mem_tw h
  ·cases h

theorem any_of_flt {q:Nat}{oq:Oper}(hoq:ops[q]? = some oq)(hok:∀ (j:Nat) (o:Oper),ops[j]? = some o→(∀e∈o.after.toList,Region.binds .any e=true→e.on<j)∧(∀ (i:Nat) (x:Oper),i<j→ops[i]? = some x→conf pf ops x o=true→Reach ops i j∨j=q)∧(q<j→Reach ops q j))
  (hps:∀ (i j:Nat) (x y:Oper),i<j→j<q→ops[i]? = some x→ops[j]? = some y→conf pf ops x oq=true→conf pf ops oq y=true→Reach ops i j)
  {K:Env→List Ob→Prop} (hK:KC K) {Q:Exit→Act→World→Prop} (hQ:∀E objs a w,K E objs→Sat g E objs a w→Q .normal a w) (post:List Nat) :
  ∀ (fuel:Nat) (listed:Array Bool) (R:List Nat) (a:Act) (w:World),(∀ i∈R,∀ o,ops[i]? = some o→plain2 o.op=true)→listed.size=ops.size→Cl ops listed→(∀ i,i∈R++q::post↔i<ops.size∧listed.getD i true=false)→(R++q::post).Pairwise (· < ·)→(R++q::post).length≤fuel →
   (∀A B:List Nat,R=A++B→FltB pf ops oq B→∃E objs,Dr g pf ops (A.filterMap (ops[·]?)++oq::(B++post).filterMap (ops[·]?)) E objs K∧Sat g E objs a w)→wpAnyIn g.F g.dep g.P .any ops Q fuel listed a w:=by
 intro fuel
 induction fuel with
 |zero=>intro listed R a w _ _ _ _ _ hf _;simp at hf
 |succ fuel ih =>
  intro listed R a w hpl hls hc hR hp hf hd
  obtain⟨pp1,pp2,pp3⟩:=List.pairwise_append.1 hp
  have hRq:∀k∈R,k<q:=fun k hk=>pp3 k hk q (by simp)
  have hpost:∀k∈post,q<k:=fun k hk=>(List.pairwise_cons.1 pp2).1 k hk
  have unl:∀k,k∈R++q::post→listed.getD k false=false:=fun k hk=>by
   obtain⟨h1,h2⟩:=(hR k).1 hk
   have hsz:k<listed.size:=by omega
   simp only[Array.getD,hsz,dif_pos]at h2 ⊢
   exact h2
  refine⟨fun hnil=>?_,fun i hi=>?_⟩
  ·exfalso
   obtain⟨k,R',hkR⟩:∃k R',R++q::post=k::R':=by
    cases R with
    |nil=>exact⟨q,_,rfl⟩
    |cons k r=>exact⟨k,_,rfl⟩
   rw[hkR]at hR hp
   obtain⟨hk1,hk2⟩:=(hR k).1 (by simp)
   have ho:ops[k]? = some ops[k]:=Array.getElem?_eq_getElem hk1
   have:k∈Region.ready .any ops listed:=by
    refine mem_ready.2 ⟨hk1,hk2,ops[k],ho,fun e he hb=>?_⟩
    have hlt:=(hok k _ ho).1 e he hb
    have hnot:e.on ∉ (k::R'):=fun hm=>by
     rcases List.mem_cons.1 hm with hm |hm
     ·omega
     ·have:=(List.pairwise_cons.1 hp).1 _ hm;omega
    have hsz:e.on<listed.size:=by omega
    have h2:¬ (listed.getD e.on true=false):=fun h2=>hnot ((hR e.on).2 ⟨by omega,h2⟩)
    simp only[Array.getD,hsz,dif_pos]at h2 ⊢
    simpa using h2
   rw[hnil]at this;cases this
  ·obtain ⟨hi1,hi2,o,ho,hdeps⟩:=mem_ready.1 hi
   have hreachF:∀k,k∈R++q::post→Reach ops k i→False:=fun k hk hr=>by
    have hl:=reach_listed hc hr (fun o' ho' e he hb=>by rw[ho]at ho';cases ho';exact hdeps e he hb)
    rw[unl k hk]at hl;cases hl
   have hmem:=(hR i).2 ⟨hi1,hi2⟩
   rcases List.mem_append.1 hmem with hmem |hmem
   ·obtain ⟨RA,RB,rfl⟩:=List.append_of_mem hmem
    have hiq:i<q:=hRq i hmem
    have hRA:∀k∈RA,k<i:=fun k hk=>(List.pairwise_append.1 pp1).2.2 k hk i (by simp)
    have hcf:∀k x,k∈RA→ops[k]? = some x→conf pf ops x o=false:=fun k x hk hkx=>by
     cases hc1:conf pf ops x o
     ·rfl
     ·exfalso
      rcases (hok i o ho).2.1 k x (hRA k hk) hkx hc1 with h |h
      ·exact hreachF k (by simp[hk]) h
      ·omega
    have hfm:∀ {A:List Nat},(∀k∈A,k∈RA)→∀x∈A.filterMap (ops[·]?),conf pf ops x o=false:=fun hA x hx=>by
     obtain⟨k,hk,hkx⟩:=List.mem_filterMap.1 hx
     exact hcf k x (hA k hk) hkx
    have H:∀x:{p:List Nat × List Nat // RA++RB=p.1++p.2∧FltB pf ops oq p.2},∃E1 o1,Dr g pf ops (x.1.1.filterMap (ops[·]?)++oq::(x.1.2++post).filterMap (ops[·]?)) E1 o1 K∧wpOpIn g.F g.dep g.P ops Q i (fun a' w'=>Sat g E1 o1 a' w') a w:=by
     rintro⟨⟨A,B⟩,hab,hB⟩
     have one:∀ (a':List Nat),A=RA++a'→RB=a'++B→∃E1 o1,Dr g pf ops (A.filterMap (ops[·]?)++oq::(B++post).filterMap (ops[·]?)) E1 o1 K∧wpOpIn g.F g.dep g.P ops Q i (fun a' w'=>Sat g E1 o1 a' w') a w:=fun a' h1 h2=>by
      obtain⟨E,objs,hdr,hs⟩:=hd (RA++i::a') B (by rw[h2];simp) hB
      rw[List.filterMap_append,List.filterMap_cons,ho,List.append_assoc]at hdr
      obtain⟨v,objs',hloc,hrest⟩:=Dr.front hK (hfm fun k hk=>hk) hdr
      refine⟨_,objs',by rw[h1,List.filterMap_append,List.append_assoc];exact hrest,?_⟩
      unfold wpOpIn;rw[ho]
      exact hloc.step E objs objs' a w (fun t _=>.refl _) (.inr (.inr ⟨rfl,rfl⟩)) hs Q
     rcases List.append_eq_append_iff.1 hab with ⟨a',h1,h2⟩ |⟨c',h1,h2⟩
     ·exact one a' h1 h2
     ·cases c' with
      |nil=>exact one [] (by simpa using h1.symm) (by simpa using h2.symm)
      |cons b c' =>
       simp only at h2 hB
       have hB2:FltB pf ops oq ((b::c')++i::RB):=by
        rcases hB with h |⟨b2,B',y,h3,h4,h5⟩
        ·rw[h2]at h;cases h
        ·rw [h2] at h3; cases h3
         exact .inr ⟨b,_,y,rfl,h4,h5⟩
       obtain⟨E,objs,hdr,hs⟩:=hd A ((b::c')++i::RB) (by rw[h1];simp) hB2
       have e:A.filterMap (ops[·]?)++oq::((b::c')++i::RB++post).filterMap (ops[·]?)=(A.filterMap (ops[·]?)++oq::(b::c').filterMap (ops[·]?))++o::(RB++post).filterMap (ops[·]?):=by
        rw[List.append_assoc,List.filterMap_append,List.cons_append,List.filterMap_cons (a:=i),ho];simp
       rw[e]at hdr
       obtain⟨v,objs',hloc,hrest⟩:=Dr.front hK (fun x hx=>by
        rcases List.mem_append.1 hx with hx |hx
        ·exact hfm (fun k hk=>by rw[h1];simp[hk]) x hx
        ·rcases List.mem_cons.1 hx with rfl | hx
         ·cases hc1:conf pf ops x o
          ·rfl
          ·exfalso
           rcases hB2 with h |⟨b2,B',y,h3,h4,h5⟩
           ·cases h
           ·cases h3
            exact hreachF b (by rw[h1];simp) (hps b i y o (hRA b (by rw[h1];simp)) hiq h4 ho h5 hc1)
         ·exact hfm (fun k hk=>by rw[h1];exact List.mem_append.2 (.inr hk)) x hx) hdr
       refine⟨_,objs',by
        show Dr g pf ops (A.filterMap (ops[·]?)++oq::(B++post).filterMap (ops[·]?)) _ _ K
        rw[h2,List.append_assoc,List.filterMap_append]
        rw[List.append_assoc,List.cons_append]at hrest;exact hrest,?_⟩
       unfold wpOpIn;rw[ho]
       exact hloc.step E objs objs' a w (fun t _=>.refl _) (.inr (.inr ⟨rfl,rfl⟩)) hs Q
    have hall:=wpOpIn_all (F:=g.F) (n:=g.dep) (P:=g.P) (Q:=Q) (⟨(RA++RB,[]),by simp,.inl rfl⟩:{p:List Nat × List Nat // RA++RB=p.1++p.2∧FltB pf ops oq p.2}) ho (hpl i (by simp) o ho) (K:=fun x a' w'=>Sat g (H x).choose (H x).choose_spec.choose a' w') (fun x=>(H x).choose_spec.choose_spec.2)
    refine wpOpIn_mono (fun a' w' hs'=>?_) hall
    have hds:=draw_step (pre:=RA) (post:=RB++q::post) hls hc (by intro k;rw[← hR k];simp) (by simpa using hp) hi1 ho hdeps
    refine ih _ (RA++RB) a' w' (fun j hj o' ho'=>hpl j (by simp only[List.mem_append,List.mem_cons]at hj ⊢;exact hj.imp id .inr) o' ho') hds.1 hds.2.1 (by intro k;rw[← hds.2.2.1 k];simp) (by simpa using hds.2.2.2) (by simp at hf ⊢;omega) fun A B hab hB=>?_
    exact⟨_,_,(H ⟨(A,B),hab,hB⟩).choose_spec.choose_spec.1,hs' ⟨(A,B),hab,hB⟩⟩
   ·rcases List.mem_cons.1 hmem with hiq | hmem
    ·subst hiq
     rw[hoq]at ho;cases ho
     have hAB:R=R.takeWhile (ncB pf ops oq)++R.dropWhile (ncB pf ops oq):=List.takeWhile_append_dropWhile.symm
     have hB:FltB pf ops oq (R.dropWhile (ncB pf ops oq)):=by
      cases hdw:R.dropWhile (ncB pf ops oq) with
      |nil=>exact .inl rfl
      |cons b B' =>
       right
       have hb:ncB pf ops oq b=false:=by
        have:=List.head_dropWhile_not (ncB pf ops oq) (show R.dropWhile (ncB pf ops oq)≠[] by rw[hdw];simp)
        simpa[hdw]using this
       unfold ncB at hb
       cases hob:ops[b]? with
       |none=>rw[hob]at hb;cases hb
       |some y=>rw[hob]at hb;exact⟨b,B',y,rfl,hob,by simpa using hb⟩
     obtain⟨E,objs,hdr,hs⟩:=hd _ _ hAB hB
     obtain⟨v,objs',hloc,hrest⟩:=Dr.front hK (fun x hx=>by
      obtain⟨k,hk,hkx⟩:=List.mem_filterMap.1 hx
      have:=mem_tw hk
      unfold ncB at this
      rw[hkx]at this;simpa using this) hdr
     have hstep:=hloc.step E objs objs' a w (fun t _=>.refl _) (.inr (.inr ⟨rfl,rfl⟩)) hs Q
     refine wpOpIn_mono (K:=fun a' w'=>Sat g (putO E oq.dst v) objs' a' w') (fun a' w' hs'=>?_) (by unfold wpOpIn;rw[hoq];exact hstep)
     have hds:=draw_step (pre:=R) (post:=post) hls hc hR hp hi1 hoq hdeps
     have e:(R++post).filterMap (ops[·]?)=(R.takeWhile (ncB pf ops oq)).filterMap (ops[·]?)++(R.dropWhile (ncB pf ops oq)++post).filterMap (ops[·]?):=by rw[← List.filterMap_append,← List.append_assoc,← hAB]
     refine any_of_drF (fun j o ho=>⟨(hok j o ho).1,(hok j o ho).2.1⟩) hK hQ fuel _ (R++post) _ objs' a' w' hds.1 hds.2.1 hds.2.2.1 hds.2.2.2 (by simp at hf ⊢;omega) (fun h=>?_) (by rw[e];exact hrest) hs'
     rcases List.mem_append.1 h with h |h
     ·have:=hRq _ h;omega
     ·have:=hpost _ h;omega
    ·exact(hreachF q (by simp) ((hok i o ho).2.2 (hpost i hmem))).elim
end
end PSL
namespace PSL
open Go Go.RowKit
section
variable {g:G} {pf:Nat→Cls} {ops:Array Oper}

def ordGoF (q:Nat) (oq:Oper) (pf:Nat→Cls) (ops:Array Oper):List Oper→List Nat→List Oper→Bool
 |_,_,[]=>true
 |prev,acc,o::r =>
  (o.after.toList.all fun e=>!Region.binds .any e || Nat.blt e.on (len prev)) &&
  (prev.zipIdx.all fun x=>!conf pf ops x.1 o || (maskOf acc o).testBit x.2 || Nat.beq (len prev) q) &&
  (Nat.ble (len prev) q || (maskOf acc o).testBit q) &&
  (prev.zipIdx.all fun x=>!conf pf ops x.1 oq || !conf pf ops oq o || (maskOf acc o).testBit x.2 || Nat.ble q (len prev)) &&
  ordGoF q oq pf ops (prev++[o]) (acc++[maskOf acc o]) r

theorem ordGoF_spec {q:Nat}{oq:Oper}:∀ (rest prev:List Oper) (acc:List Nat),ops.toList=prev++rest→acc.length=prev.length→(∀j i m,acc[j]? = some m→m.testBit i=true→Reach ops i j)→ordGoF q oq pf ops prev acc rest=true →
  ∀ (j:Nat) (o:Oper),prev.length≤j→ops[j]? = some o→(∀e∈o.after.toList,Region.binds .any e=true→e.on<j)∧(∀ (i:Nat) (x:Oper),i<j→ops[i]? = some x→conf pf ops x o=true→Reach ops i j∨j=q)∧(q<j→Reach ops q j)∧(∀ (i:Nat) (x:Oper),i<j→j<q→ops[i]? = some x→conf pf ops x oq=true→conf pf ops oq o=true→Reach ops i j)
 |[],prev,acc,h,_,_,_,j,o,hj,ho=>by
  have:j<ops.size:=(Array.getElem?_eq_some_iff.1 ho).1
  have:ops.size=prev.length:=by rw[← Array.length_toList,h];simp
  omega
 |o'::r,prev,acc,h,hl,hr,hg,j,o,hj,ho=>by
  simp only[ordGoF,Bool.and_eq_true]at hg
  obtain⟨⟨⟨⟨h1,h2⟩,h4⟩,h5⟩,h3⟩:=hg
  have hcur:ops[prev.length]? = some o':=by rw[← Array.getElem?_toList,h];simp
  have hm:∀i,(maskOf acc o').testBit i=true→Reach ops i prev.length:=fun i hi=>by
   obtain⟨e,e1,e2,e3⟩:=maskOf_bit hi
   rcases e3 with e3 |⟨m,e3,e4⟩
   ·exact .one hcur e1 e2 e3
   ·exact .step hcur e1 e2 rfl (hr _ _ _ e3 e4)
  rcases Nat.eq_or_lt_of_le hj with hj |hj
  ·subst hj
   rw[hcur]at ho;cases ho
   have hmem:∀ (i:Nat) (x:Oper),i<prev.length→ops[i]? = some x→(x,i)∈prev.zipIdx:=fun i x hi hx=>by
    rw[List.mem_zipIdx_iff_getElem?]
    rw[← Array.getElem?_toList,h,List.getElem?_append_left hi]at hx
    exact hx
   refine⟨fun e he hbd=>?_,fun i x hi hx hc=>?_,fun hq=>?_,fun i x hi hq hx hc1 hc2=>?_⟩
   ·have:=List.all_eq_true.1 h1 e he
    rw[len_eq]at this
    simpa[Nat.blt_eq,hbd]using this
   ·have:=List.all_eq_true.1 h2 _ (hmem i x hi hx)
    simp only[hc,Bool.not_true,Bool.false_or,Bool.or_eq_true]at this
    rcases this with this |g2
    ·exact .inl (hm i this)
    ·rw[len_eq]at g2;exact .inr (natBeq g2)
   ·simp only [Bool.or_eq_true,len_eq,Nat.ble_eq] at h4
    rcases h4 with h4 |h4
    ·omega
    ·exact hm _ h4
   ·have:=List.all_eq_true.1 h5 _ (hmem i x hi hx)
    simp only[hc1,hc2,Bool.not_true,Bool.false_or,Bool.or_eq_true,len_eq,Nat.ble_eq]at this
    rcases this with this |this
    ·exact hm i this
    ·omega
  ·refine ordGoF_spec r (prev++[o']) (acc++[maskOf acc o']) (by rw [h]; simp) (by simp [hl]) (fun j i m hj hi=>?_) h3 j o (by simp; omega) ho
   rcases Nat.lt_or_ge j acc.length with hlt |hge
   ·rw[List.getElem?_append_left hlt]at hj;exact hr j i m hj hi
   ·rw [List.getElem?_append_right hge] at hj
    have:j - acc.length=0:=by
     rcases Nat.eq_zero_or_pos (j - acc.length) with h |h
     ·exact h
     ·rw[List.getElem?_eq_none (by simp;omega)]at hj;cases hj
    rw[this]at hj;simp at hj;subst hj
    have:j=prev.length:=by omega
    subst this
    exact hm i hi
end
end PSL
namespace PSL
open Go Go.RowKit
section
variable {g:G} {pf:Nat→Cls} {ops:Array Oper}

def fltL (m q:Nat)(oq:Oper)(l:List Oper):List Oper:=l.take m++oq::((l.drop m).take (q - m)++l.drop (q+1))

theorem wp_flt (hg:GOk g){q:Nat}{oq:Oper}(hoq:ops[q]? = some oq)(hok:ordGoF q oq pf ops [] [] ops.toList=true){K:Env→List Ob→Prop}(hK:KC K){Q:Exit→Act→World→Prop}(hQ:∀E objs a w,K E objs→Sat g E objs a w→Q .normal a w)
  {E:Env} {objs:List Ob} (hpl:((ops.toList.take q).all fun o=>plain2 o.op)=true) (hd:∀m,m≤q→(m=q∨∃y,ops[m]? = some y∧conf pf ops y oq=true)→Dr g pf ops (fltL m q oq ops.toList) E objs K) {a:Act} {w:World} (hs:Sat g E objs a w) (id:Nat):(Code.region id ops true).wpIn g.F g.dep g.P Q a w:=by
 refine wpIn_region_any hg.mixed ?_
 have hq:q<ops.size:=(Array.getElem?_eq_some_iff.1 hoq).1
 have hsz:ops.toList.length=ops.size:=by simp
 have hspec:=ordGoF_spec (pf:=pf) (ops:=ops) ops.toList [] [] rfl rfl (by simp) hok
 have f:∀a n,a+n≤ops.size→(List.range' a n).filterMap (ops[·]?)=(ops.toList.drop a).take n:=fun a n h=>by
  have:=fm_range ops.toList a n (by omega)
  simpa using this
 have hrange:List.range ops.size=List.range' 0 q++q::List.range' (q+1) (ops.size - (q+1)):=by
  obtain⟨m,hm⟩:∃m,ops.size=q+(1+m):=⟨ops.size - (q+1),by omega⟩
  have e1:ops.size - (q+1)=m:=by omega
  rw[e1,List.range_eq_range',hm,← List.range'_append,← List.range'_append]
  simp[List.range'_succ]
 refine any_of_flt hoq (fun j o ho=>⟨(hspec j o (Nat.zero_le _) ho).1,(hspec j o (Nat.zero_le _) ho).2.1,(hspec j o (Nat.zero_le _) ho).2.2.1⟩) (fun i j x y hij hjq hx hy h1 h2=>(hspec j y (Nat.zero_le _) hy).2.2.2 i x hij hjq hx h1 h2) hK hQ (List.range' (q+1) (ops.size - (q+1))) ops.size (Array.replicate ops.size false) (List.range' 0 q) a _ ?_ (by simp) ?_ ?_ ?_ ?_ ?_
 ·intro j hj o ho
  have hj:j<q:=by have:=List.mem_range'.1 hj;omega
  exact List.all_eq_true.1 hpl o (List.mem_iff_getElem?.2 ⟨j,by rw[List.getElem?_take_of_lt hj,Array.getElem?_toList];exact ho⟩)
 ·intro k o hk
  simp[Array.getD]at hk
 ·intro i
  rw[← hrange]
  simp only[List.mem_range,Array.getD,Array.size_replicate]
  constructor
  ·intro h;simp[h]
  ·intro h;exact h.1
 ·rw[← hrange];exact List.pairwise_lt_range
 ·rw[← hrange];simp
 ·intro A B hab hB
  obtain⟨m,hm,rfl,rfl⟩:=List.range'_eq_append_iff.1 hab
  rw[Nat.mul_one]at hB ⊢
  refine⟨E,objs,?_,hs.drew⟩
  have:=hd m hm (by
   rcases hB with h |⟨b,B',y,h1,h2,h3⟩
   ·left
    have:=congrArg List.length h
    simp at this;omega
   ·right
    have hb:b=0+m:=by
     have:(List.range' (0+m) (q - m)).head? = some b:=by rw[h1];rfl
     cases hqm:q - m with
     |zero=>rw[hqm]at this;simp at this
     |succ n=>rw[hqm,List.range'_succ]at this;simp at this;omega
    exact⟨y,by rw[← h2,hb];simp,h3⟩)
  unfold fltL at this
  rw[List.filterMap_append,f 0 m (by omega),f (0+m) (q - m) (by omega),f (q+1) _ (by omega),List.drop_zero]
  rw[List.take_of_length_le (i:=ops.size - (q+1)) (by simp)]
  simpa using this
end
end PSL
namespace PSL
open Go Go.RowKit
section
variable {g:G} {pf:Nat→Cls} {ops:Array Oper}

theorem R_float {Fin:Exit→Act→World→Prop}(hg:GOk g)(q:Nat)(oq:Oper){id:Nat}{k:List It}{E:Env}{objs:List Ob}(hoq:ops[q]? = some oq)(hx:ordGoF q oq pf ops [] [] ops.toList=true)(hpl:((ops.toList.take q).all fun o=>plain2 o.op)=true)(h:∀m,m≤q→(m=q∨∃y,ops[m]? = some y∧conf pf ops y oq=true)→R g pf Fin (.dr ops (fltL m q oq ops.toList)::k) E objs):R g pf Fin (.code (.region id ops true)::k) E objs:=by
 rintro⟨ho1,ho⟩
 intro a w hs
 simp only[KP]
 have hQ:∀E objs a w,RK g Fin k E objs→Sat g E objs a w→KP g Fin k .normal a w:=fun _ _ a w hr hs=>hr a w hs
 exact wp_flt hg hoq hx (RK_kc k) hQ hpl (fun m h1 h2=>by have:=h m h1 h2 ho;simpa only using this) hs id
end
end PSL

namespace PSL
open Go Go.RowKit
section
variable {pf:Nat→Cls} {ops:Array Oper}

theorem wpOpIn_and2 {F:Fence}{n:Nat}{P:Program}{Q:Exit→Act→World→Prop}{i:Nat}{o:Oper}(ho:ops[i]? = some o)(hp:plain2 o.op=true){K K':Act→World→Prop}{a:Act}{w:World}(h1:wpOpIn F n P ops Q i K a w)(h2:wpOpIn F n P ops Q i K' a w):wpOpIn F n P ops Q i (fun a w=>K a w∧K' a w) a w:=by
 unfold wpOpIn at *
 rw[ho]at h1 h2 ⊢
 simp only at h1 h2 ⊢
 split
 ·rename_i hw
  rw[if_pos hw]at h1 h2
  unfold Oper.wpIn at *
  refine⟨h1.1,?_⟩
  have h1:=h1.2
  have h2:=h2.2
  rcases plain2_sem hp F.round a.eval P w with ⟨v,w',e⟩ |⟨x,w',e⟩
  ·rw[e]at h1 h2 ⊢;exact⟨h1,h2⟩
  ·rw [e] at h1 h2 ⊢
   cases x<;>exact h1
 ·rename_i hw
  rw[if_neg hw]at h1 h2
  exact⟨h1.1,h1.2,h2.2⟩
variable {g:G}

theorem any_of_dr4 {p q:Nat}(hpq:p<q)(hok:∀ (j:Nat) (o:Oper),ops[j]? = some o→(∀e∈o.after.toList,Region.binds .any e=true→e.on<j)∧(∀ (i:Nat) (x:Oper),i<j→ops[i]? = some x→conf pf ops x o=true→Reach ops i j∨(i=p∧j=q))∧(p<j→j<q→Reach ops p j)∧(q<j→Reach ops p j∨Reach ops q j))
  {K:Env→List Ob→Prop} (hK:KC K) {Q:Exit→Act→World→Prop} (hQ:∀E objs a w,K E objs→Sat g E objs a w→Q .normal a w) {oa ob:Oper} (hoa:ops[p]? = some oa) (hob:ops[q]? = some ob) (mid post:List Nat) :
  ∀ (fuel:Nat) (listed:Array Bool) (pre:List Nat) (E E2:Env) (objs objs2:List Ob) (a:Act) (w:World),(∀ i∈pre,∀ o,ops[i]? = some o→plain2 o.op=true)→listed.size=ops.size→Cl ops listed→(∀ i,i∈pre++p::(mid++q::post)↔i<ops.size∧listed.getD i true=false)→(pre++p::(mid++q::post)).Pairwise (· < ·)→(pre++p::(mid++q::post)).length≤fuel →
   Dr g pf ops (pre.filterMap (ops[·]?)++oa::(mid.filterMap (ops[·]?)++ob::post.filterMap (ops[·]?))) E objs K→Sat g E objs a w→Dr g pf ops (pre.filterMap (ops[·]?)++ob::oa::(mid.filterMap (ops[·]?)++post.filterMap (ops[·]?))) E2 objs2 K→Sat g E2 objs2 a w→wpAnyIn g.F g.dep g.P .any ops Q fuel listed a w:=by
 have hokX:∀ (j:Nat) (o:Oper),ops[j]? = some o→(∀e∈o.after.toList,Region.binds .any e=true→e.on<j)∧∀ (i:Nat) (x:Oper),i<j→ops[i]? = some x→conf pf ops x o=true→Reach ops i j∨(i=p∧j=q):=fun j o ho=>⟨(hok j o ho).1,(hok j o ho).2.1⟩
 intro fuel
 induction fuel with
 |zero=>intro listed pre E E2 objs objs2 a w _ hls hc hR _ hf hd hs _ _;simp at hf
 |succ fuel ih =>
  intro listed pre E E2 objs objs2 a w hpl hls hc hR hp hf hd hs hd2 hs2
  obtain⟨pp1,pp2,pp3⟩:=List.pairwise_append.1 hp
  have hprep:∀k∈pre,k<p:=fun k hk=>pp3 k hk p (by simp)
  have pp4:=(List.pairwise_cons.1 pp2).2
  have hmidp:∀k∈mid,p<k:=fun k hk=>(List.pairwise_cons.1 pp2).1 k (by simp[hk])
  have hmidq:∀k∈mid,k<q:=fun k hk=>(List.pairwise_append.1 pp4).2.2 k hk q (by simp)
  have hpost:∀k∈post,q<k:=fun k hk=>(List.pairwise_cons.1 (List.pairwise_append.1 pp4).2.1).1 k hk
  have unl:∀k,k∈pre++p::(mid++q::post)→listed.getD k false=false:=fun k hk=>by
   obtain⟨h1,h2⟩:=(hR k).1 hk
   have hsz:k<listed.size:=by omega
   simp only[Array.getD,hsz,dif_pos]at h2 ⊢
   exact h2
  refine⟨fun hnil=>?_,fun i hi=>?_⟩
  ·exfalso
   obtain⟨k,R',hkR⟩:∃k R',pre++p::(mid++q::post)=k::R':=by
    cases pre with
    |nil=>exact⟨p,_,rfl⟩
    |cons k r=>exact⟨k,_,rfl⟩
   rw[hkR]at hR hp
   obtain⟨hk1,hk2⟩:=(hR k).1 (by simp)
   have ho:ops[k]? = some ops[k]:=Array.getElem?_eq_getElem hk1
   have:k∈Region.ready .any ops listed:=by
    refine mem_ready.2 ⟨hk1,hk2,ops[k],ho,fun e he hb=>?_⟩
    have hlt:=(hok k _ ho).1 e he hb
    have hnot:e.on ∉ (k::R'):=fun hm=>by
     rcases List.mem_cons.1 hm with hm |hm
     ·omega
     ·have:=(List.pairwise_cons.1 hp).1 _ hm;omega
    have hsz:e.on<listed.size:=by omega
    have h2:¬ (listed.getD e.on true=false):=fun h2=>hnot ((hR e.on).2 ⟨by omega,h2⟩)
    simp only[Array.getD,hsz,dif_pos]at h2 ⊢
    simpa using h2
   rw[hnil]at this;cases this
  ·obtain ⟨hi1,hi2,o,ho,hdeps⟩:=mem_ready.1 hi
   have hreachF:∀k,k∈pre++p::(mid++q::post)→Reach ops k i→False:=fun k hk hr=>by
    have hl:=reach_listed hc hr (fun o' ho' e he hb=>by rw[ho]at ho';cases ho';exact hdeps e he hb)
    rw[unl k hk]at hl;cases hl
   have hconf:∀k x,k∈pre++p::(mid++q::post)→k<i→ops[k]? = some x→¬ (k=p∧i=q)→conf pf ops x o=false:=fun k x hk hki hkx hne=>by
    cases hcf:conf pf ops x o
    ·rfl
    ·exfalso
     rcases (hok i o ho).2.1 k x hki hkx hcf with h |h
     ·exact hreachF k hk h
     ·exact hne h
   have hmem:=(hR i).2 ⟨hi1,hi2⟩
   rcases List.mem_append.1 hmem with hmem |hmem
   ·obtain ⟨preA,preB,rfl⟩:=List.append_of_mem hmem
    have e1:(preA++i::preB).filterMap (ops[·]?)=preA.filterMap (ops[·]?)++o::preB.filterMap (ops[·]?):=by
     rw[List.filterMap_append,List.filterMap_cons,ho]
    rw[e1]at hd hd2
    have hpreA:∀k∈preA,k<i:=fun k hk=>(List.pairwise_append.1 pp1).2.2 k hk i (by simp)
    have hcf:∀x∈preA.filterMap (ops[·]?),conf pf ops x o=false:=fun x hx=>by
     obtain⟨k,hk,hkx⟩:=List.mem_filterMap.1 hx
     exact hconf k x (by simp[hk]) (hpreA k hk) hkx (fun ⟨h1,h2⟩=>by have:=hprep i (by simp);omega)
    rw[List.append_assoc,List.cons_append]at hd hd2
    obtain⟨v,objs',hloc,hrest⟩:=Dr.front hK hcf hd
    obtain⟨v2,objs2',hloc2,hrest2⟩:=Dr.front hK hcf hd2
    have hstep:=hloc.step E objs objs' a w (fun t _=>.refl _) (.inr (.inr ⟨rfl,rfl⟩)) hs Q
    have hstep2:=hloc2.step E2 objs2 objs2' a w (fun t _=>.refl _) (.inr (.inr ⟨rfl,rfl⟩)) hs2 Q
    have hboth:=wpOpIn_and2 (F:=g.F) (n:=g.dep) (P:=g.P) (Q:=Q) ho (hpl i (by simp) o ho) (K:=fun a' w'=>Sat g (putO E o.dst v) objs' a' w') (K':=fun a' w'=>Sat g (putO E2 o.dst v2) objs2' a' w') (by unfold wpOpIn;rw[ho];exact hstep) (by unfold wpOpIn;rw[ho];exact hstep2)
    refine wpOpIn_mono (fun a' w' hs'=>?_) hboth
    have hds:=draw_step (pre:=preA) (post:=preB++p::(mid++q::post)) hls hc (by intro k;rw[← hR k];simp) (by simpa using hp) hi1 ho hdeps
    refine ih _ (preA++preB) _ _ objs' objs2' a' w' (fun j hj o' ho'=>hpl j (by simp only[List.mem_append,List.mem_cons]at hj ⊢;exact hj.imp id .inr) o' ho') hds.1 hds.2.1 (by intro k;rw[← hds.2.2.1 k];simp) (by simpa using hds.2.2.2) (by simp at hf ⊢;omega) (by rw[List.filterMap_append,List.append_assoc];exact hrest) hs'.1 (by rw[List.filterMap_append,List.append_assoc];exact hrest2) hs'.2
   ·rcases List.mem_cons.1 hmem with hip | hmem
    ·subst hip
     rw[hoa]at ho;cases ho
     have hd1:=hd
     obtain⟨v,objs',hloc,hrest⟩:=Dr.front hK (fun x hx=>by
      obtain⟨k,hk,hkx⟩:=List.mem_filterMap.1 hx
      exact hconf k x (by simp[hk]) (hprep k hk) hkx (fun ⟨_,h2⟩=>by omega)) hd1
     have hstep:=hloc.step E objs objs' a w (fun t _=>.refl _) (.inr (.inr ⟨rfl,rfl⟩)) hs Q
     refine wpOpIn_mono (K:=fun a' w'=>Sat g (putO E oa.dst v) objs' a' w') (fun a' w' hs'=>?_) (by unfold wpOpIn;rw[hoa];exact hstep)
     have hds:=draw_step (pre:=pre) (post:=mid++q::post) hls hc hR hp hi1 hoa hdeps
     refine any_of_drX hokX hK hQ fuel _ (pre++(mid++q::post)) _ objs' a' w' hds.1 hds.2.1 hds.2.2.1 hds.2.2.2 (by simp at hf ⊢;omega) (.inl fun h=>?_) (by rw[List.filterMap_append,List.filterMap_append,List.filterMap_cons,hob];exact hrest) hs'
     rcases List.mem_append.1 h with h |h
     ·have:=hprep _ h;omega
     ·rcases List.mem_append.1 h with h | h
      ·have:=hmidp _ h;omega
      ·rcases List.mem_cons.1 h with h | h
       ·omega
       ·have:=hpost _ h;omega
    ·rcases List.mem_append.1 hmem with hmem | hmem
     ·exact(hreachF p (by simp) ((hok i o ho).2.2.1 (hmidp i hmem) (hmidq i hmem))).elim
     rcases List.mem_cons.1 hmem with hiq |hmem
     ·subst hiq
      rw[hob]at ho;cases ho
      have hd1:=hd2
      obtain⟨v,objs',hloc,hrest⟩:=Dr.front hK (fun x hx=>by
       obtain⟨k,hk,hkx⟩:=List.mem_filterMap.1 hx
       exact hconf k x (by simp[hk]) (by have:=hprep k hk;omega) hkx (fun ⟨h1,_⟩=>by have:=hprep k hk;omega)) hd1
      have hstep:=hloc.step E2 objs2 objs' a w (fun t _=>.refl _) (.inr (.inr ⟨rfl,rfl⟩)) hs2 Q
      refine wpOpIn_mono (K:=fun a' w'=>Sat g (putO E2 ob.dst v) objs' a' w') (fun a' w' hs'=>?_) (by unfold wpOpIn;rw[hob];exact hstep)
      have hds:=draw_step (pre:=pre++p::mid) (post:=post) hls hc (by intro k;rw[← hR k];simp) (by simpa using hp) hi1 hob hdeps
      refine any_of_drX hokX hK hQ fuel _ (pre++p::(mid++post)) _ objs' a' w' hds.1 hds.2.1 (by intro k;rw[← hds.2.2.1 k];simp) (by simpa using hds.2.2.2) (by simp at hf ⊢;omega) (.inr fun h=>?_) (by rw[List.filterMap_append,List.filterMap_cons,hoa,List.filterMap_append];exact hrest) hs'
      rcases List.mem_append.1 h with h |h
      ·have:=hprep _ h;omega
      ·rcases List.mem_cons.1 h with h | h
       ·omega
       ·rcases List.mem_append.1 h with h | h
        ·have:=hmidq _ h;omega
        ·have:=hpost _ h;omega
     ·exfalso
      rcases (hok i o ho).2.2.2 (hpost i hmem) with h |h
      ·exact hreachF p (by simp) h
      ·exact hreachF q (by simp) h

theorem wp_draw4 (hg:GOk g){p q:Nat}(hok:ord3 p q pf ops=true){K:Env→List Ob→Prop}(hK:KC K){Q:Exit→Act→World→Prop}(hQ:∀E objs a w,K E objs→Sat g E objs a w→Q .normal a w)
  {E:Env} {objs:List Ob} (hpl:((ops.toList.take p).all fun o=>plain2 o.op)=true) (hd:Dr g pf ops ops.toList E objs K) (hd2:Dr g pf ops (moveL p q ops.toList) E objs K) {a:Act} {w:World} (hs:Sat g E objs a w) (id:Nat):(Code.region id ops true).wpIn g.F g.dep g.P Q a w:=by
 refine wpIn_region_any hg.mixed ?_
 simp only[ord3,Bool.and_eq_true,Nat.blt_eq,len_eq]at hok
 obtain⟨⟨h1,h2⟩,h3⟩:=hok
 have hsz:ops.toList.length=ops.size:=by simp
 have hoa:ops[p]? = some ops[p]:=Array.getElem?_eq_getElem (by omega)
 have hob:ops[q]? = some ops[q]:=Array.getElem?_eq_getElem (by omega)
 have hrange:List.range ops.size=List.range' 0 p++p::(List.range' (p+1) (q - (p+1))++q::List.range' (q+1) (ops.size - (q+1))):=by
  obtain⟨m,hm⟩:∃m,ops.size=p+(1+((q - (p+1))+(1+m))):=⟨ops.size - (q+1),by omega⟩
  have e1:ops.size - (q+1)=m:=by omega
  rw[e1,List.range_eq_range',hm,← List.range'_append,← List.range'_append,← List.range'_append,← List.range'_append]
  have e2:0+1 * p=p:=by omega
  have e3:p+1 * 1=p+1:=by omega
  have e4:p+1+1 * (q - (p+1))=q:=by omega
  have e5:q+1 * 1=q+1:=by omega
  rw[e2,e3,e4,e5]
  simp[List.range'_succ]
 have f:∀a n,a+n≤ops.size→(List.range' a n).filterMap (ops[·]?)=(ops.toList.drop a).take n:=fun a n h=>by
  have:=fm_range ops.toList a n (by omega)
  simpa using this
 have hpre:=f 0 p (by omega)
 have hmid:=f (p+1) (q - (p+1)) (by omega)
 have hpost:=f (q+1) (ops.size - (q+1)) (by omega)
 rw[List.drop_zero]at hpre
 have hpost':(List.range' (q+1) (ops.size - (q+1))).filterMap (ops[·]?)=ops.toList.drop (q+1):=by
  rw[hpost,List.take_of_length_le (by simp)]
 have ga:ops.toList=ops.toList.take p++ops[p]::((ops.toList.drop (p+1)).take (q - (p+1))++ops[q]::ops.toList.drop (q+1)):=by
  have h7:ops.toList=ops.toList.take p++ops.toList.drop p:=(List.take_append_drop _ _).symm
  have h8:ops.toList.drop p=ops[p]::ops.toList.drop (p+1):=by rw[List.drop_eq_getElem_cons (by omega)];simp
  have h9:ops.toList.drop (p+1)=(ops.toList.drop (p+1)).take (q - (p+1))++ops.toList.drop q:=by
   conv=>lhs;rw[← List.take_append_drop (q - (p+1)) (ops.toList.drop (p+1))]
   rw[List.drop_drop,show p+1+(q - (p+1))=q by omega]
  have h10:ops.toList.drop q=ops[q]::ops.toList.drop (q+1):=by rw[List.drop_eq_getElem_cons (by omega)];simp
  conv=>lhs;rw[h7,h8,h9,h10]
 have gb:moveL p q ops.toList=ops.toList.take p++ops[q]::ops[p]::((ops.toList.drop (p+1)).take (q - (p+1))++ops.toList.drop (q+1)):=by
  unfold moveL
  have h8:ops.toList.drop p=ops[p]::ops.toList.drop (p+1):=by rw[List.drop_eq_getElem_cons (by omega)];simp
  have h10:ops.toList.drop q=ops[q]::ops.toList.drop (q+1):=by rw[List.drop_eq_getElem_cons (by omega)];simp
  rw[h8,h10,show q - p=(q - (p+1))+1 by omega]
  simp
 rw[gb]at hd2
 rw[ga]at hd
 refine any_of_dr4 h1 (ops:=ops) (fun j o ho=>ordGo3_spec h1 (ops:=ops) ops.toList [] [] rfl rfl (by simp) h3 j o (Nat.zero_le _) ho) hK hQ hoa hob (List.range' (p+1) (q - (p+1))) (List.range' (q+1) (ops.size - (q+1))) ops.size (Array.replicate ops.size false) (List.range' 0 p) E E objs objs a _ ?_ (by simp) ?_ ?_ ?_ ?_ ?_ hs.drew ?_ hs.drew
 ·intro j hj o ho
  have hj:j<p:=by have:=List.mem_range'.1 hj;omega
  have:=List.all_eq_true.1 hpl o (List.mem_iff_getElem?.2 ⟨j,by rw[List.getElem?_take_of_lt hj,Array.getElem?_toList];exact ho⟩)
  exact this
 ·intro k o hk
  simp[Array.getD]at hk
 ·intro i
  rw[← hrange]
  simp only[List.mem_range,Array.getD,Array.size_replicate]
  constructor
  ·intro h;simp[h]
  ·intro h;exact h.1
 ·rw[← hrange];exact List.pairwise_lt_range
 ·rw[← hrange];simp
 ·rw[hpre,hmid,hpost'];exact hd
 ·rw[hpre,hmid,hpost'];exact hd2

theorem R_pair4 {Fin:Exit→Act→World→Prop}(hg:GOk g)(p q:Nat){id:Nat}{k:List It}{E:Env}{objs:List Ob}(hx:ord3 p q pf ops=true)(hpl:((ops.toList.take p).all fun o=>plain2 o.op)=true)(h1:R g pf Fin (.dr ops ops.toList::k) E objs)(h2:R g pf Fin (.dr ops (moveL p q ops.toList)::k) E objs):R g pf Fin (.code (.region id ops true)::k) E objs:=by
 rintro⟨ho1,ho⟩
 have h1:=h1 ho
 have h2:=h2 ho
 simp only at h1 h2
 intro a w hs
 simp only[KP]
 have hQ:∀E objs a w,RK g Fin k E objs→Sat g E objs a w→KP g Fin k .normal a w:=fun _ _ a w hr hs=>hr a w hs
 exact wp_draw4 hg hx (RK_kc k) hQ hpl h1 h2 hs id
end
end PSL

namespace PSL
open Go

structure Is where
 op:Int
 v:Int
 n:Int
 s:ByteArray
namespace Is
end Is
def e0:ByteArray:=⟨#[]⟩

structure Ky where
 kind:Int
 n:Int
 s:ByteArray

structure En where
 s:ByteArray
 args:Int
 at_:Int
 slots:Int
 key:Ky
namespace En
end En
end PSL
namespace PSL
open Go
end PSL

namespace Go.Proofs.YtcgkgofmldhokaaGreat
open Go PSL Go.Proofs

theorem contains_cons' {l:List Int}{x n:Int}:(x::l).contains n=(decide (x=n) || l.contains n):=by
 simp only[List.contains_cons];congr 1;rw[Bool.eq_iff_iff];simp;exact eq_comm

theorem with_ok (t:Tm):∀ (l:List Int),l.length+t.size<1000000000→PCtr Tryz.prog 75 [.d (.sl (irows l)),t.av] (.d (.sl (irows (Tm.withV l t)))):=by
 induction t using Tm.ind with
 |_ t ih =>
 intro l hsz
 have hl:=Tm.len_le_sizeL t.l
 have hs:=Tm.size_eq t
 refine PCtr.of_R (pf:=pfB) tyOk mixed Tryz.func75 rfl (by kernel_rfl) (by kernel_rfl) (by simp[Tryz.ntmps75]) fun w S hg=>?_
 refine R_k hg.ok rfl rfl ?_
 refine R_if rfl rfl (fun h=>?_) (fun h=>?_)<;>refine R_k hg.ok rfl rfl ?_
 ·have hk:t.k=1:=by simpa using h
  refine R_loop (fun k:Nat=>([(0,.d (.sl (irows l))),(3,.lo 0 0),(5,iV k)],[boxR t])) (fun k=>k≤l.length∧l.contains t.n=(l.drop k).contains t.n) (fun k=>l.length - k) 0 ⟨Nat.zero_le _,rfl⟩ ⟨.refl _,.refl _,.refl _,trivial⟩ rfl ?_
  rintro k ⟨hk0,hm⟩
  refine R_k hg.ok rfl rfl ?_
  refine R_if rfl rfl (fun h=>?_) (fun h=>?_)<;>refine R_k hg.ok rfl rfl ?_
  ·have hk1:k<l.length:=lt_dec h (by rw [irows_length])
   have e1:l[k]? = some l[k]:=List.getElem?_eq_getElem hk1
   rw[List.drop_eq_getElem_cons hk1,contains_cons']at hm
   refine R_index hg.ok rfl rfl rfl rfl rfl rfl (Int.natCast_nonneg k) (irows_get e1) rfl ?_
   refine R_k hg.ok rfl rfl ?_
   refine R_if rfl rfl (fun h=>?_) (fun h=>?_)<;>refine R_k hg.ok rfl rfl ?_
   ·refine R_ret hg 5 rfl rfl ?_
    have he:l[k]=t.n:=by simpa using h
    rw[Tm.withV_eq,if_pos hk,addV,if_pos (by rw[hm];simp[he])]
   ·have he:¬ l[k]=t.n:=by simpa using h
    refine R_next (k+1) ⟨hk1,by rw[hm];simp[he]⟩ (by omega) ⟨.refl _,.refl _,Ent.wrap (by omega) (by omega) (by omega),trivial⟩ rfl
  ·have hk1:l.length≤k:=ge_dec h (by rw [irows_length])
   rw[List.drop_eq_nil_of_le hk1]at hm
   refine R_appendF hg.ok (rows:=[]) rfl rfl (.inl rfl) rfl (.inl rfl) rfl rfl rfl (by simp) (by simp[irows];intros;subst_vars;rfl) (by simp[irows_length];omega) (by simp[irows_length];omega) ?_
   refine R_k hg.ok rfl rfl ?_
   refine R_appendO hg.ok (irows (l++[t.n])) rfl rfl rfl rfl rfl rfl rfl rfl rfl (by simp) (by simp[one1]) (by simp[irows,irow]) (by simp[irows_length];omega) (by simp[irows_length];omega) ?_
   refine R_k hg.ok rfl rfl ?_
   refine R_ret hg 5 rfl (sealA_ow rfl) ?_
   rw[Tm.withV_eq,if_pos hk,addV,if_neg (by rw[hm];simp)]
 ·have hk:¬ t.k=1:=by simpa using h
  refine R_loop (fun x:Nat × List Int=>([(0,.d (.sl (irows x.2))),(3,.lo 0 0),(6,iV x.1)],[boxR t])) (fun x=>x.1≤t.l.length∧Tm.withV l t=Tm.withVL x.2 (t.l.drop x.1)∧x.2.length+Tm.sizeL (t.l.drop x.1)≤l.length+Tm.sizeL t.l) (fun x=>t.l.length - x.1) (0,l) ⟨Nat.zero_le _,by rw[Tm.withV_eq,if_neg hk];rfl,Nat.le_refl _⟩ ⟨.refl _,.refl _,.refl _,trivial⟩ rfl ?_
  rintro⟨k,a⟩ ⟨hk0,hm,hal⟩
  simp only at hk0 hm hal
  refine R_k hg.ok rfl rfl ?_
  refine R_if rfl rfl (fun h=>?_) (fun h=>?_)<;>refine R_k hg.ok rfl rfl ?_
  ·have hk1:k<t.l.length:=lt_dec h (by rw [Tm.rows_length])
   have e1:t.l[k]? = some t.l[k]:=List.getElem?_eq_getElem hk1
   rw[List.drop_eq_getElem_cons hk1]at hm hal
   simp only[Tm.withVL]at hm
   simp only[Tm.sizeL]at hal
   refine R_index hg.ok rfl rfl rfl rfl rfl rfl (Int.natCast_nonneg k) (Tm.rows_get e1) rfl ?_
   refine R_k hg.ok rfl rfl ?_
   refine R_call hg.ok (ih _ (List.getElem_mem hk1) a (by omega)) rfl rfl rfl rfl rfl rfl ?_
   refine R_k hg.ok rfl rfl ?_
   have hwl:=Tm.withV_len t.l[k] a
   exact R_next (k+1,Tm.withV a t.l[k]) ⟨hk1,hm,by simp only;omega⟩ (by simp only;omega) ⟨.refl _,.refl _,Ent.wrap (by simp only;omega) (by simp only;omega) (by simp only;omega),trivial⟩ rfl
  ·have hk1:t.l.length≤k:=ge_dec h (by rw [Tm.rows_length])
   refine R_ret hg 5 rfl rfl ?_
   rw[hm,List.drop_eq_nil_of_le hk1];rfl

theorem refVars_ok (l:List Tm)(hsz:Tm.sizeL l<1000000000):PCtr Tryz.prog 39 [.d (.sl (Tm.rows l))] (.d (.sl (irows (Tm.withVL [] l)))):=by
 have hl:=Tm.len_le_sizeL l
 refine PCtr.of_R (pf:=pfB) tyOk mixed Tryz.func39 rfl (by kernel_rfl) (by kernel_rfl) (by simp[Tryz.ntmps39]) fun w S hg=>?_
 refine R_k hg.ok rfl rfl ?_
 refine R_loop (fun x:Nat × List Int=>([(0,.d (.sl (Tm.rows l))),(3,.d (.sl (irows x.2))),(4,iV x.1)],[])) (fun x=>x.1≤l.length∧Tm.withVL [] l=Tm.withVL x.2 (l.drop x.1)∧x.2.length+Tm.sizeL (l.drop x.1)≤Tm.sizeL l) (fun x=>l.length - x.1) (0,[]) ⟨Nat.zero_le _,rfl,by simp⟩ ⟨.refl _,.nil,.refl _,trivial⟩ rfl ?_
 rintro⟨k,a⟩ ⟨hk0,hm,hal⟩
 simp only at hk0 hm hal
 refine R_k hg.ok rfl rfl ?_
 refine R_if rfl rfl (fun h=>?_) (fun h=>?_)<;>refine R_k hg.ok rfl rfl ?_
 ·have hk1:k<l.length:=lt_dec h (by rw [Tm.rows_length])
  have e1:l[k]? = some l[k]:=List.getElem?_eq_getElem hk1
  rw[List.drop_eq_getElem_cons hk1]at hm hal
  simp only[Tm.withVL]at hm
  simp only[Tm.sizeL]at hal
  refine R_index hg.ok rfl rfl rfl rfl rfl rfl (Int.natCast_nonneg k) (Tm.rows_get e1) rfl ?_
  refine R_k hg.ok rfl rfl ?_
  refine R_call hg.ok (with_ok l[k] a (by omega)) rfl rfl rfl rfl rfl rfl ?_
  refine R_k hg.ok rfl rfl ?_
  have hwl:=Tm.withV_len l[k] a
  exact R_next (k+1,Tm.withV a l[k]) ⟨hk1,hm,by simp only;omega⟩ (by simp only;omega) ⟨.refl _,.refl _,Ent.wrap (by simp only;omega) (by simp only;omega) (by simp only;omega),trivial⟩ rfl
 ·have hk1:l.length≤k:=ge_dec h (by rw [Tm.rows_length])
  refine R_ret hg 5 rfl rfl ?_
  rw[hm,List.drop_eq_nil_of_le hk1];rfl

theorem refBuiltin_ok (s:ByteArray)(n:Int):PCtr Tryz.prog 106 [.d (.v (.string s)),.d (.v (.int .i64 n))] (bV (bltB (s,n))):=by
 rw[bltX_eq]
 unfold bltX
 refine PCtr.of_R (pf:=fun _=>.still) tyOk mixed Tryz.func106 rfl (by kernel_rfl) (by kernel_rfl) (by simp[Tryz.ntmps106]) fun w S hg=>?_
 refine R_k hg.ok rfl rfl ?_
 repeat' (refine R_if rfl rfl (fun _=>?_) (fun _=>?_)<;>refine R_k hg.ok rfl rfl ?_)
 all_goals (
  refine R_ret hg 5 rfl rfl ?_
  simp_all[bV])

theorem refControl_ok (s:ByteArray)(n:Int):PCtr Tryz.prog 107 [.d (.v (.string s)),.d (.v (.int .i64 n))] (bV (ctlB (s,n))):=by
 rw[ctlX_eq]
 unfold ctlX
 refine PCtr.of_R (pf:=fun _=>.still) tyOk mixed Tryz.func107 rfl (by kernel_rfl) (by kernel_rfl) (by simp[Tryz.ntmps107]) fun w S hg=>?_
 refine R_k hg.ok rfl rfl ?_
 repeat' (refine R_if rfl rfl (fun _=>?_) (fun _=>?_)<;>refine R_k hg.ok rfl rfl ?_)
 all_goals (
  refine R_ret hg 5 rfl rfl ?_
  simp_all[bV])

theorem refBuiltinT_ok (t:Tm):PCtr Tryz.prog 106 [.d (.v (.string t.s)),.d (.v (.int .i64 ((Tm.rows t.l).length:Int)))] (bV (bltB (sgOf t))):=by
 rw[Tm.rows_length];exact refBuiltin_ok t.s t.l.length

theorem refControlT_ok (t:Tm):PCtr Tryz.prog 107 [.d (.v (.string t.s)),.d (.v (.int .i64 ((Tm.rows t.l).length:Int)))] (bV (ctlB (sgOf t))):=by
 rw[Tm.rows_length];exact refControl_ok t.s t.l.length

theorem refOwn_ok (t:Tm):PCtr Tryz.prog 78 [t.av] (bV (ownB t)):=by
 refine PCtr.of_R (pf:=fun _=>.eff) tyOk mixed Tryz.func78 rfl (by kernel_rfl) (by kernel_rfl) (by simp[Tryz.ntmps78]) fun w S hg=>?_
 refine R_k hg.ok rfl rfl ?_
 refine R_if rfl rfl (fun h=>?_) (fun h=>?_)<;>refine R_k hg.ok rfl rfl ?_
 ·refine R_call hg.ok (refBuiltinT_ok t) rfl rfl rfl rfl rfl rfl ?_
  refine R_k hg.ok rfl rfl ?_
  refine R_if rfl rfl (fun h2=>?_) (fun h2=>?_)<;>refine R_k hg.ok rfl rfl ?_
  ·refine R_call hg.ok (refControlT_ok t) rfl rfl rfl rfl rfl rfl ?_
   refine R_k hg.ok rfl rfl ?_
   refine R_ret hg 5 rfl rfl ?_
   unfold ownB
   rw[h,h2];rfl
  ·refine R_ret hg 5 rfl rfl ?_
   unfold ownB
   rw[h,h2];rfl
 ·refine R_ret hg 5 rfl rfl ?_
  unfold ownB
  rw[h];rfl

theorem refVarsB_ok (t:Tm)(v:Int)(ht:SmT t):PCtr Tryz.prog 77 [t.av,iV v] (bV (varsB v t)):=by
 have hs:=ht.1
 have hv:=(refVars_ok [t] (by simp[Tm.sizeL];omega)).one
 have hr:=refRight_ok t (by omega) ht.2
 have hlen:(Tm.withVL [] [t]).length≤t.size:=by have:=Tm.withVL_len [t] [];simpa[Tm.sizeL]using this
 have hw:varsB v t=((Tm.withVL [] [t]).all (fun x=>decide (x<v))&&t.rightB):=by
  unfold varsB
  cases h:t.rightB with
  |false=>simp
  |true=>rw[varsT_with [t] (Tm.fairL_plain _ (fairL_of (by simpa using h)))]
 rw[hw]
 generalize Tm.withVL [] [t]=V at *
 refine PCtr.of_R (pf:=fun _=>.eff) tyOk mixed Tryz.func77 rfl (by kernel_rfl) (by kernel_rfl) (by simp[Tryz.ntmps77]) fun w S hg=>?_
 refine R_k hg.ok rfl rfl ?_
 refine R_call hg.ok (hv) rfl rfl rfl rfl rfl rfl ?_
 refine R_k hg.ok rfl rfl ?_
 refine R_loop (fun k:Nat=>([(1,iV v),(2,.lo 0 0),(5,.d (.sl (irows V))),(6,iV k)],[boxR t])) (fun k=>k≤V.length∧V.all (fun x=>decide (x<v))=(V.drop k).all fun x=>decide (x<v)) (fun k=>V.length - k) 0 ⟨Nat.zero_le _,rfl⟩ ⟨.refl _,.refl _,.refl _,.refl _,trivial⟩ rfl ?_
 rintro k ⟨hk,hm⟩
 refine R_k hg.ok rfl rfl ?_
 refine R_if rfl rfl (fun h=>?_) (fun h=>?_)<;>refine R_k hg.ok rfl rfl ?_
 ·have hk1:k<V.length:=lt_dec h (by rw [irows_length])
  have e1:V[k]? = some V[k]:=List.getElem?_eq_getElem hk1
  rw[List.drop_eq_getElem_cons hk1,List.all_cons]at hm
  generalize V[k]=x at e1 hm
  refine R_index hg.ok rfl rfl rfl rfl rfl rfl (Int.natCast_nonneg _) (irows_get e1) rfl ?_
  refine R_k hg.ok rfl rfl ?_
  refine R_if rfl rfl (fun h=>?_) (fun h=>?_)<;>refine R_k hg.ok rfl rfl ?_
  ·refine R_ret hg 5 rfl rfl ?_
   rw[hm,show decide (x<v)=false by simpa using h];rfl
  ·exact R_next (k+1) ⟨hk1,by rw[hm,show decide (x<v)=true by simpa using h,Bool.true_and]⟩ (by omega) ⟨.refl _,.refl _,.refl _,Ent.wrap (by omega) (by omega) (by omega),trivial⟩ rfl
 ·have hk1:V.length≤k:=ge_dec h (by rw [irows_length])
  refine R_call hg.ok (hr) rfl rfl rfl rfl rfl rfl ?_
  refine R_k hg.ok rfl rfl ?_
  refine R_ret hg 5 rfl rfl ?_
  rw[hm,List.drop_eq_nil_of_le hk1];rfl

theorem noneL_eq (a b c:List Gl):noneG a b c=(decide (a.length=0)&&decide (b.length=0)&&decide (c.length=0)):=by
 unfold noneG
 rw[Bool.eq_iff_iff]
 simp only[decide_eq_true_eq,Bool.and_eq_true]
 omega

theorem refFair_ok (g:Gl)(v:Int)(ht:SmT g.t):PCtr Tryz.prog 105 [g.av,iV v] (bV (fairB v g)):=by
 have hs:=refSame_ok g.t zeroT (by have:=ht.1;omega)
 rw[noth_zero]at hs
 have hf:fairB v g=if g.k=1 then noneG g.a g.b g.c&&ownB g.t&&varsB v g.t
  else if g.k=2 then noneG g.a g.b g.c&&(g.t.k==3)&&bltB (sgOf g.t)&&varsB v g.t
  else if g.k=3 then noneG g.a g.b g.c&&nothB g.t
  else nothB g.t&&((g.k==4) || (g.k==5)&&decide (g.b.length+g.c.length=0)):=by cases g;rw[fairB];rfl
 rw[hf]
 refine PCtr.of_R (pf:=fun _=>.eff) tyOk mixed Tryz.func105 rfl (by kernel_rfl) (by kernel_rfl) (by simp[Tryz.ntmps105]) fun w S hg=>?_
 refine R_k hg.ok rfl rfl ?_
 refine R_call hg.ok (hs) rfl rfl rfl rfl rfl rfl ?_
 refine R_k hg.ok rfl rfl ?_
 have z:∀l:List Gl,(((Gl.rows l).length:Int)==0)=decide (l.length=0):=fun l=>by
  rw[Gl.rows_length,Bool.eq_iff_iff];simp
 refine R_cut1 (fun _:Unit=>([(1,iV v),(2,.lo 0 0),(5,bV (nothB g.t)),(6,bV (noneG g.a g.b g.c))],[glBox g])) (fun _=>True) rfl ?_ ?_
 ·rw [noneL_eq,z]
  cases ha:decide (g.a.length=0) with
  |false =>
   refine R_if rfl rfl (fun h=>absurd h (by simp)) (fun _=>?_)<;>refine R_k hg.ok rfl rfl ?_
   exact R_to () trivial ⟨.refl _,.refl _,.refl _,(by first |exact .refl _ |exact .ff),trivial⟩ rfl
  |true =>
   refine R_if rfl rfl (fun _=>?_) (fun h=>absurd h (by simp))<;>refine R_k hg.ok rfl rfl ?_
   rw[z]
   cases hb:decide (g.b.length=0) with
   |false =>
    refine R_if rfl rfl (fun h=>absurd h (by simp)) (fun _=>?_)<;>refine R_k hg.ok rfl rfl ?_
    exact R_to () trivial ⟨.refl _,.refl _,.refl _,(by first |exact .refl _ |exact .ff),trivial⟩ rfl
   |true =>
    refine R_if rfl rfl (fun _=>?_) (fun h=>absurd h (by simp))<;>refine R_k hg.ok rfl rfl ?_
    rw[z]
    exact R_to () trivial ⟨.refl _,.refl _,.refl _,(by first |exact .refl _ |exact .ff),trivial⟩ rfl
 rintro _ _
 refine R_k hg.ok rfl rfl ?_
 by_cases c1:g.k=1
 ·rw [if_pos c1]
  refine R_if rfl rfl (fun _=>?_) (fun h=>absurd h (by simp[c1]))<;>refine R_k hg.ok rfl rfl ?_
  refine R_if rfl rfl (fun n1=>?_) (fun n1=>?_)<;>refine R_k hg.ok rfl rfl ?_
  ·refine R_call hg.ok (refOwn_ok g.t) rfl rfl rfl rfl rfl rfl ?_
   refine R_k hg.ok rfl rfl ?_
   refine R_if rfl rfl (fun n2=>?_) (fun n2=>?_)<;>refine R_k hg.ok rfl rfl ?_
   ·refine R_call hg.ok (refVarsB_ok g.t v ht) rfl rfl rfl rfl rfl rfl ?_
    refine R_k hg.ok rfl rfl ?_
    refine R_ret hg 5 rfl rfl ?_
    rw[n1,n2];rfl
   ·refine R_ret hg 5 rfl rfl ?_
    rw[n1,n2];rfl
  ·refine R_ret hg 5 rfl rfl ?_
   rw[n1];rfl
 rw[if_neg c1]
 refine R_if rfl rfl (fun h=>absurd h (by simp[c1])) (fun _=>?_)<;>refine R_k hg.ok rfl rfl ?_
 by_cases c2:g.k=2
 ·rw [if_pos c2]
  refine R_if rfl rfl (fun _=>?_) (fun h=>absurd h (by simp[c2]))<;>refine R_k hg.ok rfl rfl ?_
  refine R_if rfl rfl (fun n1=>?_) (fun n1=>?_)<;>refine R_k hg.ok rfl rfl ?_
  ·refine R_if rfl rfl (fun n2=>?_) (fun n2=>?_) <;> refine R_run hg.ok 1000 rfl rfl ?_
   ·refine R_call hg.ok (refBuiltinT_ok g.t) rfl rfl rfl rfl rfl rfl ?_
    refine R_k hg.ok rfl rfl ?_
    refine R_if rfl rfl (fun n3=>?_) (fun n3=>?_)<;>refine R_k hg.ok rfl rfl ?_
    ·refine R_call hg.ok (refVarsB_ok g.t v ht) rfl rfl rfl rfl rfl rfl ?_
     refine R_k hg.ok rfl rfl ?_
     refine R_ret hg 5 rfl rfl ?_
     rw[n1,n2,n3];rfl
    ·refine R_ret hg 5 rfl rfl ?_
     rw[n1,n2,n3];rfl
   ·refine R_ret hg 5 rfl rfl ?_
    rw[n1,n2];rfl
  ·refine R_ret hg 5 rfl rfl ?_
   rw[n1];rfl
 rw[if_neg c2]
 refine R_if rfl rfl (fun h=>absurd h (by simp[c2])) (fun _=>?_)<;>refine R_k hg.ok rfl rfl ?_
 by_cases c3:g.k=3
 ·rw [if_pos c3]
  refine R_if rfl rfl (fun _=>?_) (fun h=>absurd h (by simp[c3]))<;>refine R_k hg.ok rfl rfl ?_
  refine R_if rfl rfl (fun n1=>?_) (fun n1=>?_)<;>refine R_k hg.ok rfl rfl ?_
  ·refine R_ret hg 5 rfl rfl ?_
   rw[n1];rfl
  ·refine R_ret hg 5 rfl rfl ?_
   rw[n1];rfl
 rw[if_neg c3]
 refine R_if rfl rfl (fun h=>absurd h (by simp[c3])) (fun _=>?_)<;>refine R_k hg.ok rfl rfl ?_
 refine R_if rfl rfl (fun n1=>?_) (fun n1=>?_)<;>refine R_k hg.ok rfl rfl ?_
 rotate_left
 ·refine R_ret hg 5 rfl rfl ?_
  rw[n1];rfl
 rw[n1]
 refine R_if rfl rfl (fun n2=>?_) (fun n2=>?_)<;>refine R_k hg.ok rfl rfl ?_
 ·refine R_ret hg 5 rfl rfl ?_
  rw[n2];rfl
 rw[n2]
 refine R_if rfl rfl (fun n3=>?_) (fun n3=>?_)<;>refine R_k hg.ok rfl rfl ?_
 rotate_left
 ·refine R_ret hg 5 rfl rfl ?_
  rw[n3];rfl
 rw[n3,z]
 cases hb:decide (g.b.length=0) with
 |false =>
  refine R_if rfl rfl (fun h=>absurd h (by simp)) (fun _=>?_)<;>refine R_k hg.ok rfl rfl ?_
  refine R_ret hg 5 rfl rfl ?_
  rw[decide_eq_false (show ¬ g.b.length+g.c.length=0 by have:=of_decide_eq_false hb;omega)];rfl
 |true =>
  have hb:=of_decide_eq_true hb
  refine R_if rfl rfl (fun _=>?_) (fun h=>absurd h (by simp))<;>refine R_k hg.ok rfl rfl ?_
  rw[z]
  refine R_ret hg 5 rfl rfl ?_
  rw[hb,Nat.zero_add];rfl

theorem refCount_ok (v:Int)(l:List Gl):∀ (deep:Int) (cuts:Bool),allGL SmT l→Gl.sizeL l≤1000000→0≤deep→deep+Gl.sizeL l≤1000000000→PCtr Tryz.prog 76 [.d (.sl (Gl.rows l)),iV v,iV deep,bV cuts] (iV (cntL v l deep cuts)):=by
 refine Gl.indL (p:=fun l=>∀ (deep:Int) (cuts:Bool),allGL SmT l→Gl.sizeL l≤1000000→0≤deep→deep+Gl.sizeL l≤1000000000→PCtr Tryz.prog 76 [.d (.sl (Gl.rows l)),iV v,iV deep,bV cuts] (iV (cntL v l deep cuts))) (fun l hsub=>?_) l
 intro deep cuts hl hz h3 h4
 have hlen:=Gl.len_size l
 have hrl:=Gl.rows_length l
 refine PCtr.of_R (pf:=fun _=>.eff) tyOk mixed Tryz.func76 rfl (by kernel_rfl) (by kernel_rfl) (by simp[Tryz.ntmps76]) fun w S hg=>?_
 refine R_k hg.ok rfl rfl ?_
 by_cases hd:l.length≠0∧10<deep
 ·refine R_if rfl rfl (fun _=>?_) (fun h=>absurd (of_decide_eq_false h) (by omega)) <;> refine R_run hg.ok 1000 rfl rfl ?_
  refine R_if rfl rfl (fun _=>?_) (fun h=>absurd (of_decide_eq_false h) (by omega))<;>refine R_k hg.ok rfl rfl ?_
  refine R_ret hg 5 rfl rfl ?_
  unfold cntL;rw[if_pos hd];rfl
 have hcnt:cntL v l deep cuts=cntG v l deep cuts:=by unfold cntL;rw[if_neg hd]
 have hwd:IntKind.i64.wrap (deep+1)=deep+1:=w64 (by omega) (by omega)
 rw[hcnt]
 refine R_cut1 (fun _:Unit=>([(0,.d (.sl (Gl.rows l))),(1,iV v),(2,iV deep),(3,bV cuts),(9,iV 0),(21,bV false)],[])) (fun _=>True) rfl ?_ ?_
 ·by_cases h0:l.length=0
  ·refine R_if rfl rfl (fun h=>absurd (of_decide_eq_true h) (by omega)) (fun _=>?_) <;> refine R_run hg.ok 1000 rfl rfl ?_
   exact R_to () trivial ⟨.refl _,.refl _,.refl _,.refl _,.refl _,(by first |exact .refl _ |exact .ff),trivial⟩ rfl
  ·refine R_if rfl rfl (fun _=>?_) (fun h=>absurd (of_decide_eq_false h) (by omega)) <;> refine R_run hg.ok 1000 rfl rfl ?_
   rw[decide_eq_false (show ¬ deep > 10 by omega)]
   exact R_to () trivial ⟨.refl _,.refl _,.refl _,.refl _,.refl _,(by first |exact .refl _ |exact .ff),trivial⟩ rfl
 rintro _ _
 refine R_if rfl rfl (fun h=>absurd h (by simp)) (fun _=>?_)<;>refine R_k hg.ok rfl rfl ?_
 refine R_loop (fun x:Nat × Int=>([(0,.d (.sl (Gl.rows l))),(1,iV v),(2,iV deep),(3,bV cuts),(9,iV x.2),(10,iV x.1)],[])) (fun x=>x.1≤l.length∧cntG v l deep cuts=cmbG v (l.drop x.1) deep cuts x.2∧0≤x.2∧x.2+Gl.sizeL (l.drop x.1)≤Gl.sizeL l) (fun x=>l.length - x.1) (0,0) ⟨Nat.zero_le _,by
  show cntG v l deep cuts=cmbG v l deep cuts 0
  unfold cmbG
  have:=cnt_ge v l deep cuts
  rw[hcnt]at this
  split<;>omega,Int.le_refl _,by simp⟩ ⟨.refl _,.refl _,.refl _,.refl _,.refl _,.refl _,trivial⟩ rfl ?_
 rintro⟨k,m⟩ ⟨hk,hm,hm0,hms⟩
 refine R_k hg.ok rfl rfl ?_
 refine R_if rfl rfl (fun h=>?_) (fun h=>?_)<;>refine R_k hg.ok rfl rfl ?_
 ·have hk1:k<l.length:=lt_dec h (by rw [hrl])
  have e1:l[k]? = some l[k]:=List.getElem?_eq_getElem hk1
  have hmem:=List.getElem_mem hk1
  rw[List.drop_eq_getElem_cons hk1]at hm hms
  generalize l[k]=g at e1 hm hms hmem
  have hsz:=Gl.size_mem hmem
  have hge:=Gl.size_eq g
  have htp:=Gl.tmPos g.t
  obtain⟨sa,sb,sc⟩:=hsub g hmem
  obtain⟨st,ma,mb,mc⟩:=allGL_mem hl g hmem
  rw[cmbG_cons,cnt1_eq]at hm
  simp only[Gl.sizeL]at hms
  have la:=cnt_le v g.a (deep+1) false
  have lb:=cnt_le v g.b (deep+1) cuts
  have lc:=cnt_le v g.c (deep+1) cuts
  have ga:=cnt_ge v g.a (deep+1) false
  have gb:=cnt_ge v g.b (deep+1) cuts
  have gc:=cnt_ge v g.c (deep+1) cuts
  have ca:=sa (deep+1) false ma (by omega) (by omega) (by omega)
  have cb:=sb (deep+1) cuts mb (by omega) (by omega) (by omega)
  have cc:=sc (deep+1) cuts mc (by omega) (by omega) (by omega)
  refine R_index hg.ok rfl rfl rfl rfl rfl rfl (Int.natCast_nonneg _) (Gl.rows_get e1) rfl ?_
  refine R_k hg.ok rfl rfl ?_
  have hF:=refFair_ok g v st
  cases hf:fairB v g with
  |false =>
   rw[hf]at hF hm
   refine R_call hg.ok (hF) rfl rfl rfl rfl rfl rfl ?_
   refine R_k hg.ok rfl rfl ?_
   refine R_if rfl rfl (fun _=>?_) (fun h=>absurd h (by simp))<;>refine R_k hg.ok rfl rfl ?_
   refine R_ret hg 5 rfl rfl ?_
   rw[hm];rfl
  |true =>
   rw[hf]at hF hm
   refine R_call hg.ok (hF) rfl rfl rfl rfl rfl rfl ?_
   refine R_k hg.ok rfl rfl ?_
   refine R_if rfl rfl (fun h=>absurd h (by simp)) (fun _=>?_)<;>refine R_k hg.ok rfl rfl ?_
   cases h3k:(g.k==3) with
   |false =>
    rw[h3k]at hm
    refine R_if rfl rfl (fun h=>absurd h (by simp[h3k])) (fun _=>?_)<;>refine R_k hg.ok rfl rfl ?_
    simp only[Bool.not_true,Bool.false_or,Bool.false_and,Bool.and_false,Bool.not_false,Bool.and_self,Bool.false_eq_true,if_false]at hm
    rw[hwd]
    refine R_call hg.ok (ca) rfl rfl rfl rfl rfl rfl ?_
    refine R_k hg.ok rfl rfl ?_
    rw[hwd]
    refine R_call hg.ok (cb) rfl rfl rfl rfl rfl rfl ?_
    refine R_k hg.ok rfl rfl ?_
    rw[hwd]
    refine R_call hg.ok (cc) rfl rfl rfl rfl rfl rfl ?_
    refine R_k hg.ok rfl rfl ?_
    generalize cntL v g.a (deep+1) false=qa at *
    generalize cntL v g.b (deep+1) cuts=qb at *
    generalize cntL v g.c (deep+1) cuts=qc at *
    by_cases h1:qa<0
    ·rw [show (if qa<0∨qb<0∨qc<0 then (-1:Int) else 1+qa+qb+qc)=-1 from if_pos (.inl h1),if_pos (by decide)] at hm
     refine R_if rfl rfl (fun _=>?_) (fun h=>absurd (of_decide_eq_false h) (by omega))<;>refine R_k hg.ok rfl rfl ?_
     refine R_ret hg 5 rfl rfl ?_
     rw[hm];rfl
    refine R_if rfl rfl (fun h=>absurd (of_decide_eq_true h) (by omega)) (fun _=>?_)<;>refine R_k hg.ok rfl rfl ?_
    by_cases h2:qb<0
    ·rw [show (if qa<0∨qb<0∨qc<0 then (-1:Int) else 1+qa+qb+qc)=-1 from if_pos (.inr (.inl h2)),if_pos (by decide)] at hm
     refine R_if rfl rfl (fun _=>?_) (fun h=>absurd (of_decide_eq_false h) (by omega))<;>refine R_k hg.ok rfl rfl ?_
     refine R_ret hg 5 rfl rfl ?_
     rw[hm];rfl
    refine R_if rfl rfl (fun h=>absurd (of_decide_eq_true h) (by omega)) (fun _=>?_)<;>refine R_k hg.ok rfl rfl ?_
    by_cases h3:qc<0
    ·rw [show (if qa<0∨qb<0∨qc<0 then (-1:Int) else 1+qa+qb+qc)=-1 from if_pos (.inr (.inr h3)),if_pos (by decide)] at hm
     refine R_if rfl rfl (fun _=>?_) (fun h=>absurd (of_decide_eq_false h) (by omega))<;>refine R_k hg.ok rfl rfl ?_
     refine R_ret hg 5 rfl rfl ?_
     rw[hm];rfl
    refine R_if rfl rfl (fun h=>absurd (of_decide_eq_true h) (by omega)) (fun _=>?_)<;>refine R_k hg.ok rfl rfl ?_
    rw[show (if qa<0∨qb<0∨qc<0 then (-1:Int) else 1+qa+qb+qc)=1+qa+qb+qc from if_neg (by omega),if_neg (by omega),show m+(1+qa+qb+qc)=m+1+qa+qb+qc by omega]at hm
    rw[w64 (n:=m+1) (by omega) (by omega),w64 (n:=m+1+qa) (by omega) (by omega),w64 (n:=m+1+qa+qb) (by omega) (by omega),w64 (n:=m+1+qa+qb+qc) (by omega) (by omega)]
    refine R_dropO 0 [] (Nat.zero_le _) rfl rfl ?_
    exact R_next (k+1,m+1+qa+qb+qc) ⟨hk1,hm,by simp only;omega,by simp only;omega⟩ (by simp only;omega) ⟨.refl _,.refl _,.refl _,.refl _,.refl _,Ent.wrap (by simp only;omega) (by simp only;omega) (by simp only;omega),trivial⟩ rfl
   |true =>
    rw[h3k]at hm
    refine R_if rfl rfl (fun _=>?_) (fun h=>absurd h (by simp[h3k]))<;>refine R_k hg.ok rfl rfl ?_
    cases cuts with
    |false =>
     refine R_if rfl rfl (fun _=>?_) (fun h=>absurd h (by simp))<;>refine R_k hg.ok rfl rfl ?_
     refine R_ret hg 5 rfl rfl ?_
     rw[hm];rfl
    |true =>
     refine R_if rfl rfl (fun h=>absurd h (by simp)) (fun _=>?_)<;>refine R_k hg.ok rfl rfl ?_
     simp only[Bool.not_true,Bool.false_or,Bool.false_and,Bool.and_false,Bool.not_false,Bool.and_self,Bool.false_eq_true,if_false]at hm
     rw[hwd]
     refine R_call hg.ok (ca) rfl rfl rfl rfl rfl rfl ?_
     refine R_k hg.ok rfl rfl ?_
     rw[hwd]
     refine R_call hg.ok (cb) rfl rfl rfl rfl rfl rfl ?_
     refine R_k hg.ok rfl rfl ?_
     rw[hwd]
     refine R_call hg.ok (cc) rfl rfl rfl rfl rfl rfl ?_
     refine R_k hg.ok rfl rfl ?_
     generalize cntL v g.a (deep+1) false=qa at *
     generalize cntL v g.b (deep+1) true=qb at *
     generalize cntL v g.c (deep+1) true=qc at *
     by_cases h1:qa<0
     ·rw [show (if qa<0∨qb<0∨qc<0 then (-1:Int) else 1+qa+qb+qc)=-1 from if_pos (.inl h1),if_pos (by decide)] at hm
      refine R_if rfl rfl (fun _=>?_) (fun h=>absurd (of_decide_eq_false h) (by omega))<;>refine R_k hg.ok rfl rfl ?_
      refine R_ret hg 5 rfl rfl ?_
      rw[hm];rfl
     refine R_if rfl rfl (fun h=>absurd (of_decide_eq_true h) (by omega)) (fun _=>?_)<;>refine R_k hg.ok rfl rfl ?_
     by_cases h2:qb<0
     ·rw [show (if qa<0∨qb<0∨qc<0 then (-1:Int) else 1+qa+qb+qc)=-1 from if_pos (.inr (.inl h2)),if_pos (by decide)] at hm
      refine R_if rfl rfl (fun _=>?_) (fun h=>absurd (of_decide_eq_false h) (by omega))<;>refine R_k hg.ok rfl rfl ?_
      refine R_ret hg 5 rfl rfl ?_
      rw[hm];rfl
     refine R_if rfl rfl (fun h=>absurd (of_decide_eq_true h) (by omega)) (fun _=>?_)<;>refine R_k hg.ok rfl rfl ?_
     by_cases h3:qc<0
     ·rw [show (if qa<0∨qb<0∨qc<0 then (-1:Int) else 1+qa+qb+qc)=-1 from if_pos (.inr (.inr h3)),if_pos (by decide)] at hm
      refine R_if rfl rfl (fun _=>?_) (fun h=>absurd (of_decide_eq_false h) (by omega))<;>refine R_k hg.ok rfl rfl ?_
      refine R_ret hg 5 rfl rfl ?_
      rw[hm];rfl
     refine R_if rfl rfl (fun h=>absurd (of_decide_eq_true h) (by omega)) (fun _=>?_)<;>refine R_k hg.ok rfl rfl ?_
     rw[show (if qa<0∨qb<0∨qc<0 then (-1:Int) else 1+qa+qb+qc)=1+qa+qb+qc from if_neg (by omega),if_neg (by omega),show m+(1+qa+qb+qc)=m+1+qa+qb+qc by omega]at hm
     rw[w64 (n:=m+1) (by omega) (by omega),w64 (n:=m+1+qa) (by omega) (by omega),w64 (n:=m+1+qa+qb) (by omega) (by omega),w64 (n:=m+1+qa+qb+qc) (by omega) (by omega)]
     refine R_dropO 0 [] (Nat.zero_le _) rfl rfl ?_
     exact R_next (k+1,m+1+qa+qb+qc) ⟨hk1,hm,by simp only;omega,by simp only;omega⟩ (by simp only;omega) ⟨.refl _,.refl _,.refl _,.refl _,.refl _,Ent.wrap (by simp only;omega) (by simp only;omega) (by simp only;omega),trivial⟩ rfl
 ·have hk1:l.length≤k:=ge_dec h (by rw [hrl])
  refine R_ret hg 5 rfl rfl ?_
  have hm:cntG v l deep cuts=cmbG v (l.drop k) deep cuts m:=hm
  rw[List.drop_eq_nil_of_le hk1]at hm
  rw[hm,show cmbG v [] deep cuts m=m by simp[cmbG,cntG]]
  rfl

theorem refClause_ok (x:Cs)(hx:SmC x):PCtr Tryz.prog 40 [x.av] (bV (clsD x)):=by
 have hb:=hx.size
 have hc:=refCount_ok x.vars x.body 1 true hx.body (by omega) (by omega) (by omega)
 refine PCtr.of_R (pf:=fun _=>.eff) tyOk mixed Tryz.func40 rfl (by kernel_rfl) (by kernel_rfl) (by simp[Tryz.ntmps40]) fun w S hg=>?_
 refine R_k hg.ok rfl rfl ?_
 refine R_call hg.ok (hc) rfl rfl rfl rfl rfl rfl ?_
 refine R_k hg.ok rfl rfl ?_
 unfold clsD
 refine R_if rfl rfl (fun n1=>?_) (fun n1=>?_)<;>refine R_k hg.ok rfl rfl ?_
 rotate_left
 ·refine R_ret hg 5 rfl rfl ?_
  rw[show decide (0≤x.vars)=false from n1];rfl
 rw[show decide (0≤x.vars)=true from n1]
 refine R_if rfl rfl (fun n2=>?_) (fun n2=>?_)<;>refine R_k hg.ok rfl rfl ?_
 rotate_left
 ·refine R_ret hg 5 rfl rfl ?_
  rw[show decide (x.vars≤1000)=false from n2];rfl
 rw[show decide (x.vars≤1000)=true from n2]
 refine R_call hg.ok (refVarsB_ok x.head x.vars hx.head) rfl rfl rfl rfl rfl rfl ?_
 refine R_k hg.ok rfl rfl ?_
 refine R_if rfl rfl (fun n3=>?_) (fun n3=>?_)<;>refine R_k hg.ok rfl rfl ?_
 rotate_left
 ·refine R_ret hg 5 rfl rfl ?_
  rw[n3];rfl
 rw[n3]
 refine R_call hg.ok (refOwn_ok x.head) rfl rfl rfl rfl rfl rfl ?_
 refine R_k hg.ok rfl rfl ?_
 refine R_if rfl rfl (fun n4=>?_) (fun n4=>?_)<;>refine R_k hg.ok rfl rfl ?_
 rotate_left
 ·refine R_ret hg 5 rfl rfl ?_
  rw[n4];rfl
 rw[n4]
 refine R_if rfl rfl (fun n5=>?_) (fun n5=>?_)<;>refine R_k hg.ok rfl rfl ?_
 rotate_left
 ·refine R_ret hg 5 rfl rfl ?_
  rw[show decide (0≤cntL x.vars x.body 1 true)=false from n5];rfl
 rw[show decide (0≤cntL x.vars x.body 1 true)=true from n5]
 refine R_ret hg 5 rfl rfl ?_
 rfl

theorem sgOf_dec (a b:Tm):decide (sgOf a=sgOf b)=(strEq a.s b.s&&(((Tm.rows a.l).length:Int)==((Tm.rows b.l).length:Int))):=by
 rw[Tm.rows_length,Tm.rows_length,Bool.eq_iff_iff]
 simp only[decide_eq_true_eq,sgOf,Prod.mk.injEq,Bool.and_eq_true,beq_iff_eq,Tm.strEq_iff]

theorem hasH_drop {l:List Cs}{k:Nat}{c:Cs}(p:Sg)(h:l[k]? = some c):hasH (l.drop k) p=(decide (sgOf c.head=p) || hasH (l.drop (k+1)) p):=by
 obtain⟨hk,he⟩:=List.getElem?_eq_some_iff.1 h
 rw[List.drop_eq_getElem_cons hk,he];rfl

theorem there1_or (has:Sg→Bool)(g:Gl):there1 has g=(((g.k != 1) || has (sgOf g.t))&&thereL has g.a&&thereL has g.b&&thereL has g.c):=by
 rw[there1_eq]
 have:(!((g.k==1) && !has (sgOf g.t)))=((g.k != 1) || has (sgOf g.t)):=by
  show _=(!(g.k==1) || has (sgOf g.t))
  cases (g.k==1)<;>cases has (sgOf g.t)<;>rfl
 rw[this]

theorem refThere_ok (p:List Cs)(hp:p.length≤1000000)(l:List Gl):Gl.sizeL l≤1000000→PCtr Tryz.prog 41 [.d (.sl (Gl.rows l)),prV p] (bV (thereL (hasH p) l)):=by
 refine Gl.indL (p:=fun l=>Gl.sizeL l≤1000000→PCtr Tryz.prog 41 [.d (.sl (Gl.rows l)),prV p] (bV (thereL (hasH p) l))) (fun l hsub=>?_) l
 intro hl
 have hlen:=Gl.len_size l
 have hrl:=Gl.rows_length l
 have hrp:=Cs.rows_len p
 refine PCtr.of_R (pf:=fun _=>.eff) tyOk mixed Tryz.func41 rfl (by kernel_rfl) (by kernel_rfl) (by simp[Tryz.ntmps41]) fun w S hg=>?_
 refine R_k hg.ok rfl rfl ?_
 refine R_loop (fun k:Nat=>([(0,.d (.sl (Gl.rows l))),(3,.lo 0 0),(5,iV k)],[.box [.d (.sl (Cs.rows p))]])) (fun k=>k≤l.length∧thereL (hasH p) l=thereL (hasH p) (l.drop k)) (fun k=>l.length - k) 0 ⟨Nat.zero_le _,rfl⟩ ⟨.refl _,.refl _,.refl _,trivial⟩ rfl ?_
 rintro i ⟨hi,hm⟩
 refine R_k hg.ok rfl rfl ?_
 refine R_if rfl rfl (fun h=>?_) (fun h=>?_)<;>refine R_k hg.ok rfl rfl ?_
 rotate_left
 ·have hk1:l.length≤i:=ge_dec h (by rw [hrl])
  refine R_ret hg 5 rfl rfl ?_
  rw[hm,List.drop_eq_nil_of_le hk1];rfl
 have hk1:i<l.length:=lt_dec h (by rw[hrl])
 have e1:l[i]? = some l[i]:=List.getElem?_eq_getElem hk1
 have hmem:=List.getElem_mem hk1
 rw[List.drop_eq_getElem_cons hk1]at hm
 generalize l[i]=g at e1 hm hmem
 have hsz:=Gl.size_mem hmem
 have hge:=Gl.size_eq g
 obtain⟨sa,sb,sc⟩:=hsub g hmem
 simp only[thereL,there1_or]at hm
 refine R_index hg.ok rfl rfl rfl rfl rfl rfl (Int.natCast_nonneg _) (Gl.rows_get e1) rfl ?_
 refine R_k hg.ok rfl rfl ?_
 refine R_cut2 (fun _:Unit=>([(0,.d (.sl (Gl.rows l))),(3,.lo 0 0),(5,iV i),(6,bV ((g.k != 1) || hasH p (sgOf g.t)))],[.box [.d (.sl (Cs.rows p))]])) (fun _=>True) rfl ?_ ?_
 ·refine R_loop (fun x:Nat × Bool=>([(0,.d (.sl (Gl.rows l))),(3,.lo 0 0),(5,iV i),(6,bV x.2),(7,iV x.1)],[.box [.d (.sl (Cs.rows p))]])) (fun x=>x.1≤p.length∧((g.k != 1) || hasH p (sgOf g.t))=(x.2 || hasH (p.drop x.1) (sgOf g.t))) (fun x=>p.length - x.1) (0,g.k != 1) ⟨Nat.zero_le _,rfl⟩ ⟨.refl _,.refl _,.refl _,.refl _,.refl _,trivial⟩ rfl ?_
  rintro⟨k,f⟩ ⟨hk,hn⟩
  refine R_k hg.ok rfl rfl ?_
  refine R_if rfl rfl (fun h=>?_) (fun h=>?_)<;>refine R_k hg.ok rfl rfl ?_
  rotate_left
  ·have hk2:p.length≤k:=ge_dec h (by rw [hrp])
   have hn:((g.k != 1) || hasH p (sgOf g.t))=(f || hasH (p.drop k) (sgOf g.t)):=hn
   rw[List.drop_eq_nil_of_le hk2]at hn
   exact R_to () trivial ⟨.refl _,.refl _,.refl _,by rw[hn,show hasH [] (sgOf g.t)=false from rfl,Bool.or_false];exact .refl _,trivial⟩ rfl
  have hk2:k<p.length:=lt_dec h (by rw[hrp])
  have e2:p[k]? = some p[k]:=List.getElem?_eq_getElem hk2
  generalize p[k]=c at e2
  have hn:((g.k != 1) || hasH p (sgOf g.t))=(f || hasH (p.drop k) (sgOf g.t)):=hn
  rw[hasH_drop _ e2,sgOf_dec]at hn
  refine R_index hg.ok rfl rfl rfl rfl rfl rfl (Int.natCast_nonneg _) (Cs.rows_get e2) rfl ?_
  refine R_k hg.ok rfl rfl ?_
  cases f with
  |true =>
   refine R_if rfl rfl (fun _=>?_) (fun h=>absurd h (by simp))<;>refine R_k hg.ok rfl rfl ?_
   refine R_dropO 1 [.box [.d (.sl (Cs.rows p))]] (Nat.zero_le _) rfl rfl ?_
   exact R_next (k+1,true) ⟨hk2,hn⟩ (by simp only;omega) ⟨.refl _,.refl _,.refl _,(by first |exact .refl _ |exact .tt),Ent.wrap (by simp only;omega) (by simp only;omega) (by simp only;omega),trivial⟩ rfl
  |false =>
   refine R_if rfl rfl (fun h=>absurd h (by simp)) (fun _=>?_)<;>refine R_k hg.ok rfl rfl ?_
   refine R_index hg.ok rfl rfl rfl rfl rfl rfl (Int.natCast_nonneg _) (Gl.rows_get e1) rfl ?_
   refine R_k hg.ok rfl rfl ?_
   refine R_if rfl rfl (fun n1=>?_) (fun n1=>?_)<;>refine R_k hg.ok rfl rfl ?_
   ·refine R_index hg.ok rfl rfl rfl rfl rfl rfl (Int.natCast_nonneg _) (Gl.rows_get e1) rfl ?_
    refine R_k hg.ok rfl rfl ?_
    rw[n1,Bool.true_and,Bool.false_or]at hn
    refine R_dropO 1 [.box [.d (.sl (Cs.rows p))]] (Nat.zero_le _) rfl rfl ?_
    exact R_next (k+1,((Tm.rows c.head.l).length:Int)==((Tm.rows g.t.l).length:Int)) ⟨hk2,hn⟩ (by simp only;omega) ⟨.refl _,.refl _,.refl _,.refl _,Ent.wrap (by simp only;omega) (by simp only;omega) (by simp only;omega),trivial⟩ rfl
   ·rw [n1,Bool.false_and,Bool.false_or] at hn
    refine R_dropO 1 [.box [.d (.sl (Cs.rows p))]] (Nat.zero_le _) rfl rfl ?_
    exact R_next (k+1,false) ⟨hk2,hn⟩ (by simp only;omega) ⟨.refl _,.refl _,.refl _,(by first |exact .refl _ |exact .ff),Ent.wrap (by simp only;omega) (by simp only;omega) (by simp only;omega),trivial⟩ rfl
 rintro _ _
 refine R_k hg.ok rfl rfl ?_
 refine R_if rfl rfl (fun n0=>?_) (fun n0=>?_)<;>refine R_k hg.ok rfl rfl ?_
 ·refine R_ret hg 5 rfl rfl ?_
  rw[hm,show ((g.k != 1) || hasH p (sgOf g.t))=false from(Bool.not_eq_true' _).mp n0];rfl
 have n0:((g.k != 1) || hasH p (sgOf g.t))=true:=(Bool.not_eq_false' _).mp n0
 refine R_index hg.ok rfl rfl rfl rfl rfl rfl (Int.natCast_nonneg _) (Gl.rows_get e1) rfl ?_
 refine R_k hg.ok rfl rfl ?_
 refine R_call hg.ok (sa (by omega)) rfl rfl rfl rfl rfl rfl ?_
 refine R_k hg.ok rfl rfl ?_
 refine R_if rfl rfl (fun n1=>?_) (fun n1=>?_)<;>refine R_k hg.ok rfl rfl ?_
 ·refine R_ret hg 5 rfl rfl ?_
  rw[hm,n0,show thereL (hasH p) g.a=false by simpa using n1];rfl
 have n1:thereL (hasH p) g.a=true:=by simpa using n1
 refine R_index hg.ok rfl rfl rfl rfl rfl rfl (Int.natCast_nonneg _) (Gl.rows_get e1) rfl ?_
 refine R_k hg.ok rfl rfl ?_
 refine R_call hg.ok (sb (by omega)) rfl rfl rfl rfl rfl rfl ?_
 refine R_k hg.ok rfl rfl ?_
 refine R_if rfl rfl (fun n2=>?_) (fun n2=>?_)<;>refine R_k hg.ok rfl rfl ?_
 ·refine R_ret hg 5 rfl rfl ?_
  rw[hm,n0,n1,show thereL (hasH p) g.b=false by simpa using n2];rfl
 have n2:thereL (hasH p) g.b=true:=by simpa using n2
 refine R_index hg.ok rfl rfl rfl rfl rfl rfl (Int.natCast_nonneg _) (Gl.rows_get e1) rfl ?_
 refine R_k hg.ok rfl rfl ?_
 refine R_call hg.ok (sc (by omega)) rfl rfl rfl rfl rfl rfl ?_
 refine R_k hg.ok rfl rfl ?_
 refine R_if rfl rfl (fun n3=>?_) (fun n3=>?_)<;>refine R_k hg.ok rfl rfl ?_
 ·refine R_ret hg 5 rfl rfl ?_
  rw[hm,n0,n1,n2,show thereL (hasH p) g.c=false by simpa using n3];rfl
 have n3:thereL (hasH p) g.c=true:=by simpa using n3
 rw[n0,n1,n2,n3]at hm
 exact R_next (i+1) ⟨hk1,hm⟩ (by omega) ⟨.refl _,.refl _,Ent.wrap (by omega) (by omega) (by omega),trivial⟩ rfl

theorem refCheck_ok (l:List Cs)(hl:∀c∈l,SmC c)(hlen:l.length≤1000000):PCtr Tryz.prog 24 [prV l] (.tup [iV (checkR l).1,iV (checkR l).2]):=by
 have hrl:=Cs.rows_len l
 refine PCtr.of_R (pf:=fun _=>.eff) tyOk mixed Tryz.func24 rfl (by kernel_rfl) (by kernel_rfl) (by simp[Tryz.ntmps24]) fun w S hg=>?_
 refine R_k hg.ok rfl rfl ?_
 by_cases h2:200<l.length
 ·refine R_if rfl rfl (fun _=>?_) (fun h=>absurd (of_decide_eq_false h) (by omega)) <;> refine R_run hg.ok 1000 rfl rfl ?_
  refine R_ret hg 5 rfl rfl ?_
  unfold checkR;rw[if_pos h2];rfl
 refine R_if rfl rfl (fun h=>absurd (of_decide_eq_true h) (by omega)) (fun _=>?_)<;>refine R_k hg.ok rfl rfl ?_
 have hc0:checkR l=match firstN clsB l 0 with
  |some i=>((i:Int),1)
  |none=>match firstN (fun c=>thereL (hasH l) c.body) l 0 with
   |some i=>((i:Int),9)
   |none=>(0,0):=by unfold checkR;rw[if_neg h2];rfl
 refine R_cut2 (fun _:Unit=>([(1,.lo 0 0)],[.box [.d (.sl (Cs.rows l))]])) (fun _=>firstN clsB l 0=none) rfl ?_ ?_
 ·refine R_loop (fun k:Nat=>([(1,.lo 0 0),(4,iV k)],[.box [.d (.sl (Cs.rows l))]])) (fun k=>k≤l.length∧firstN clsB l 0=firstN clsB (l.drop k) k) (fun k=>l.length - k) 0 ⟨Nat.zero_le _,rfl⟩ ⟨.refl _,.refl _,trivial⟩ rfl ?_
  rintro k ⟨hk,hm⟩
  refine R_k hg.ok rfl rfl ?_
  refine R_if rfl rfl (fun h=>?_) (fun h=>?_)<;>refine R_k hg.ok rfl rfl ?_
  ·have hk1:k<l.length:=lt_dec h (by rw [hrl])
   have e1:l[k]? = some l[k]:=List.getElem?_eq_getElem hk1
   have hs:=hl _ (List.getElem_mem hk1)
   generalize l[k]=c at e1 hs
   rw[firstN_drop clsB e1]at hm
   have hcl:=refClause_ok c hs
   rw[← cls_same]at hcl
   refine R_index hg.ok rfl rfl rfl rfl rfl rfl (Int.natCast_nonneg _) (Cs.rows_get e1) rfl ?_
   refine R_k hg.ok rfl rfl ?_
   refine R_call hg.ok (hcl) rfl rfl rfl rfl rfl rfl ?_
   refine R_k hg.ok rfl rfl ?_
   refine R_if rfl rfl (fun h=>?_) (fun h=>?_)<;>refine R_k hg.ok rfl rfl ?_
   ·have h:clsB c=false:=by simpa using h
    rw[if_neg (by rw[h];simp)]at hm
    rw[hc0,hm]
    refine R_ret hg 5 rfl rfl ?_
    rfl
   ·have h:clsB c=true:=by simpa using h
    rw[if_pos h]at hm
    exact R_next (k+1) ⟨hk1,hm⟩ (by omega) ⟨.refl _,Ent.wrap (by omega) (by omega) (by omega),trivial⟩ rfl
  ·have hk1:l.length≤k:=ge_dec h (by rw [hrl])
   rw[List.drop_eq_nil_of_le hk1]at hm
   exact R_to () hm ⟨.refl _,trivial⟩ rfl
 rintro _ hn
 rw[hn]at hc0
 simp only at hc0
 refine R_k hg.ok rfl rfl ?_
 refine R_loop (fun k:Nat=>([(1,.lo 0 0),(5,iV k)],[.box [.d (.sl (Cs.rows l))]])) (fun k=>k≤l.length∧firstN (fun c=>thereL (hasH l) c.body) l 0=firstN (fun c=>thereL (hasH l) c.body) (l.drop k) k) (fun k=>l.length - k) 0 ⟨Nat.zero_le _,rfl⟩ ⟨.refl _,.refl _,trivial⟩ rfl ?_
 rintro k ⟨hk,hm⟩
 refine R_k hg.ok rfl rfl ?_
 refine R_if rfl rfl (fun h=>?_) (fun h=>?_)<;>refine R_k hg.ok rfl rfl ?_
 ·have hk1:k<l.length:=lt_dec h (by rw [hrl])
  have e1:l[k]? = some l[k]:=List.getElem?_eq_getElem hk1
  have hs:=hl _ (List.getElem_mem hk1)
  generalize l[k]=c at e1 hs
  rw[firstN_drop (fun c=>thereL (hasH l) c.body) e1]at hm
  refine R_index hg.ok rfl rfl rfl rfl rfl rfl (Int.natCast_nonneg _) (Cs.rows_get e1) rfl ?_
  refine R_k hg.ok rfl rfl ?_
  refine R_call hg.ok (refThere_ok l hlen c.body hs.size) rfl rfl rfl rfl rfl rfl ?_
  refine R_k hg.ok rfl rfl ?_
  refine R_if rfl rfl (fun h=>?_) (fun h=>?_)<;>refine R_k hg.ok rfl rfl ?_
  ·have h:thereL (hasH l) c.body=false:=by simpa using h
   rw[if_neg (by rw[h];simp)]at hm
   rw[hc0,hm]
   refine R_ret hg 5 rfl rfl ?_
   rfl
  ·have h:thereL (hasH l) c.body=true:=by simpa using h
   rw[if_pos h]at hm
   exact R_next (k+1) ⟨hk1,hm⟩ (by omega) ⟨.refl _,Ent.wrap (by omega) (by omega) (by omega),trivial⟩ rfl
 ·have hk1:l.length≤k:=ge_dec h (by rw [hrl])
  rw[List.drop_eq_nil_of_le hk1]at hm
  rw[hc0,hm]
  refine R_ret hg 5 rfl rfl ?_
  rfl

theorem refFewG_ok (l:List Gl):∀ (m d:Int),(∀g∈l,g.Ok)→l.length≤140737488355328→-1000≤d∧d≤1000→PCtr Tryz.prog 62 [.d (.sl (Gl.rows l)),iV m,iV d] (iV (fewGL l m d)):=by
 refine Gl.indL (p:=fun l=>∀ (m d:Int),(∀g∈l,g.Ok)→l.length≤140737488355328→-1000≤d∧d≤1000→PCtr Tryz.prog 62 [.d (.sl (Gl.rows l)),iV m,iV d] (iV (fewGL l m d))) (fun l hsub=>?_) l
 intro m d hok hlen hd0
 have hrl:=Gl.rows_length l
 refine PCtr.of_R (pf:=fun _=>.still) tyOk mixed Tryz.func62 rfl (by kernel_rfl) (by kernel_rfl) (by simp[Tryz.ntmps62]) fun w S hg=>?_
 refine R_k hg.ok rfl rfl ?_
 by_cases hd:d<1
 ·refine R_if rfl rfl (fun _=>?_) (fun h=>absurd (of_decide_eq_false h) (by omega)) <;> refine R_run hg.ok 1000 rfl rfl ?_
  refine R_ret hg 5 rfl rfl ?_
  unfold fewGL;rw[if_pos hd];rfl
 refine R_if rfl rfl (fun h=>absurd (of_decide_eq_true h) (by omega)) (fun _=>?_)<;>refine R_k hg.ok rfl rfl ?_
 have hfe:fewGL l m d=fewGo l m d:=by unfold fewGL;rw[if_neg hd]
 rw[hfe]
 have hwd:IntKind.i64.wrap (d - 1)=d - 1:=w64 (by omega) (by omega)
 refine R_loop (fun x:Nat × Int=>([(0,.d (.sl (Gl.rows l))),(1,iV x.2),(2,iV d),(7,iV x.1)],[])) (fun x=>x.1≤l.length∧fewGo l m d=fewGo (l.drop x.1) x.2 d) (fun x=>l.length - x.1) (0,m) ⟨Nat.zero_le _,rfl⟩ ⟨.refl _,.refl _,.refl _,.refl _,trivial⟩ rfl ?_
 rintro⟨k,q⟩ ⟨hk,hm⟩
 have hm:fewGo l m d=fewGo (l.drop k) q d:=hm
 have hk:k≤l.length:=hk
 refine R_k hg.ok rfl rfl ?_
 refine R_if rfl rfl (fun h=>?_) (fun h=>?_)<;>refine R_k hg.ok rfl rfl ?_
 rotate_left
 ·have hk1:l.length≤k:=ge_dec h (by rw [hrl])
  refine R_ret hg 5 rfl rfl ?_
  rw[hm,List.drop_eq_nil_of_le hk1];rfl
 have hk1:k<l.length:=lt_dec h (by rw[hrl])
 have e1:l[k]? = some l[k]:=List.getElem?_eq_getElem hk1
 have hmem:=List.getElem_mem hk1
 rw[List.drop_eq_getElem_cons hk1,fewGo]at hm
 generalize l[k]=g at e1 hm hmem
 obtain⟨sa,sb,sc⟩:=hsub g hmem
 have ho:=hok g hmem
 refine R_if rfl rfl (fun h2=>?_) (fun h2=>?_)<;>refine R_k hg.ok rfl rfl ?_
 ·rw [if_pos (of_decide_eq_true h2),fewG1_eq] at hm
  refine R_index hg.ok rfl rfl rfl rfl rfl rfl (Int.natCast_nonneg _) (Gl.rows_get e1) rfl ?_
  refine R_k hg.ok rfl rfl ?_
  refine R_call hg.ok (few_ok g.t ho.tm.1 q 200) rfl rfl rfl rfl rfl rfl ?_
  refine R_k hg.ok rfl rfl ?_
  refine R_index hg.ok rfl rfl rfl rfl rfl rfl (Int.natCast_nonneg _) (Gl.rows_get e1) rfl ?_
  refine R_k hg.ok rfl rfl ?_
  rw[hwd]
  refine R_call hg.ok (sa (g.t.few q 200) (d - 1) ho.ma ho.la (by omega)) rfl rfl rfl rfl rfl rfl ?_
  refine R_k hg.ok rfl rfl ?_
  refine R_index hg.ok rfl rfl rfl rfl rfl rfl (Int.natCast_nonneg _) (Gl.rows_get e1) rfl ?_
  refine R_k hg.ok rfl rfl ?_
  rw[hwd]
  refine R_call hg.ok (sb (fewGL g.a (g.t.few q 200) (d - 1)) (d - 1) ho.mb ho.lb (by omega)) rfl rfl rfl rfl rfl rfl ?_
  refine R_k hg.ok rfl rfl ?_
  refine R_index hg.ok rfl rfl rfl rfl rfl rfl (Int.natCast_nonneg _) (Gl.rows_get e1) rfl ?_
  refine R_k hg.ok rfl rfl ?_
  rw[hwd]
  refine R_call hg.ok (sc (fewGL g.b (fewGL g.a (g.t.few q 200) (d - 1)) (d - 1)) (d - 1) ho.mc ho.lc (by omega)) rfl rfl rfl rfl rfl rfl ?_
  refine R_k hg.ok rfl rfl ?_
  exact R_next (k+1,fewGL g.c (fewGL g.b (fewGL g.a (g.t.few q 200) (d - 1)) (d - 1)) (d - 1)) ⟨hk1,hm⟩ (by simp only;omega) ⟨.refl _,.refl _,.refl _,Ent.wrap (by simp only;omega) (by simp only;omega) (by simp only;omega),trivial⟩ rfl
 ·rw [if_neg (of_decide_eq_false h2)] at hm
  refine R_ret hg 5 rfl rfl ?_
  rw[hm];rfl

theorem refSomeP_ok (l:List Cs)(hok:∀c∈l,c.Ok)(hlen:l.length≤140737488355328):PCtr Tryz.prog 28 [prV l] (bV (somP l)):=by
 have hrl:=Cs.rows_len l
 refine PCtr.of_R (pf:=fun _=>.eff) tyOk mixed Tryz.func28 rfl (by kernel_rfl) (by kernel_rfl) (by simp[Tryz.ntmps28]) fun w S hg=>?_
 refine R_k hg.ok rfl rfl ?_
 refine R_cut2 (fun _:Unit=>([(1,.lo 0 0),(3,iV (somGo l 3000))],[.box [.d (.sl (Cs.rows l))]])) (fun _=>True) rfl ?_ ?_
 ·refine R_loop (fun x:Nat × Int=>([(1,.lo 0 0),(3,iV x.2),(4,iV x.1)],[.box [.d (.sl (Cs.rows l))]])) (fun x=>x.1≤l.length∧somGo l 3000=somGo (l.drop x.1) x.2) (fun x=>l.length - x.1) (0,3000) ⟨Nat.zero_le _,rfl⟩ ⟨.refl _,.refl _,.refl _,trivial⟩ rfl ?_
  rintro⟨k,q⟩ ⟨hk,hm⟩
  have hm:somGo l 3000=somGo (l.drop k) q:=hm
  have hk:k≤l.length:=hk
  refine R_k hg.ok rfl rfl ?_
  refine R_if rfl rfl (fun h=>?_) (fun h=>?_)<;>refine R_k hg.ok rfl rfl ?_
  rotate_left
  ·have hk1:l.length≤k:=ge_dec h (by rw [hrl])
   refine R_to () trivial ⟨.refl _,?_,trivial⟩ rfl
   rw[hm,List.drop_eq_nil_of_le hk1];exact .refl _
  have hk1:k<l.length:=lt_dec h (by rw[hrl])
  have e1:l[k]? = some l[k]:=List.getElem?_eq_getElem hk1
  have hmem:=List.getElem_mem hk1
  rw[List.drop_eq_getElem_cons hk1,somGo]at hm
  generalize l[k]=c at e1 hm hmem
  have ho:=hok c hmem
  refine R_if rfl rfl (fun h2=>?_) (fun h2=>?_)<;>refine R_k hg.ok rfl rfl ?_
  ·rw [if_pos (of_decide_eq_true h2)] at hm
   refine R_index hg.ok rfl rfl rfl rfl rfl rfl (Int.natCast_nonneg _) (Cs.rows_get e1) rfl ?_
   refine R_k hg.ok rfl rfl ?_
   refine R_call hg.ok (few_ok c.head ho.head.1 q 200) rfl rfl rfl rfl rfl rfl ?_
   refine R_k hg.ok rfl rfl ?_
   refine R_index hg.ok rfl rfl rfl rfl rfl rfl (Int.natCast_nonneg _) (Cs.rows_get e1) rfl ?_
   refine R_k hg.ok rfl rfl ?_
   refine R_call hg.ok (refFewG_ok c.body (c.head.few q 200) 30 ho.body ho.len (by omega)) rfl rfl rfl rfl rfl rfl ?_
   refine R_k hg.ok rfl rfl ?_
   exact R_next (k+1,fewGL c.body (c.head.few q 200) 30) ⟨hk1,hm⟩ (by simp only;omega) ⟨.refl _,.refl _,Ent.wrap (by simp only;omega) (by simp only;omega) (by simp only;omega),trivial⟩ rfl
  ·rw [if_neg (of_decide_eq_false h2)] at hm
   refine R_to () trivial ⟨.refl _,?_,trivial⟩ rfl
   rw[hm];exact .refl _
 rintro _ _
 refine R_k hg.ok rfl rfl ?_
 unfold somP
 refine R_if rfl rfl (fun h2=>?_) (fun h2=>?_)<;>refine R_k hg.ok rfl rfl ?_
 ·refine R_ret hg 5 rfl rfl ?_
  rw[show decide (somGo l 3000 ≥ 0)=true from h2,Bool.true_and]
  rw[show decide (((Cs.rows l).length:Int)≤210)=decide (l.length≤210) by rw[hrl];exact decide_eq_decide.2 (by omega)]
  rfl
 ·refine R_ret hg 5 rfl rfl ?_
  rw[show decide (somGo l 3000 ≥ 0)=false from h2];rfl
end Go.Proofs.YtcgkgofmldhokaaGreat

namespace PSL
open Go

def RInv (L:List Tk)(st:RSt):Prop:=st.names.length≤st.at_∧st.at_≤L.length
def TGood (L:List Tk)(T:TF):Prop:=∀deep p st t st',T deep p st=some (t,st')→RInv L st→RInv L st'
section
variable {S:Bs} {L:List Tk} {T:TF} {st:RSt}

theorem peek_lt (h:(peekR L st).kind≠0):st.e=0∧st.at_<L.length:=by
 unfold peekR at h
 by_cases he:st.e≠0
 ·rw[if_pos he]at h;exact absurd rfl h
 ·rw [if_neg he] at h
  refine⟨by simpa using he,?_⟩
  rcases Nat.lt_or_ge st.at_ L.length with h2 |h2
  ·exact h2
  ·rw[List.getElem?_eq_none h2]at h;exact absurd rfl h

theorem isMk_lt {s:Bs}(h:isMk (peekR L st) s=true):st.e=0∧st.at_<L.length:=by
 simp only[isMk,Bool.and_eq_true,decide_eq_true_eq]at h
 exact peek_lt (by rw[h.1];decide)
theorem RInv.nx (h:RInv L st)(hl:st.at_<L.length):RInv L (nxR st):=⟨by have:=h.1;simp only[nxR];omega,by simp only[nxR];omega⟩

theorem RInv.fail {n:Nat}{c:Int}(h:RInv L st):RInv L (failR L n st c):=by
 unfold failR;split
 ·exact h
 ·exact h

theorem RInv.must {n:Nat}{s:Bs}(h:RInv L st):RInv L (mustR L n st s):=by
 unfold mustR;split
 ·rename_i hm;exact h.nx (isMk_lt hm).2
 ·exact h.fail

theorem RInv.ins (h:RInv L st):RInv L (inS L st):=by
 unfold inS;split
 ·exact h
 ·exact h

theorem RInv.beg (h:RInv L st):RInv L (begS L st):=by
 unfold begS;split
 ·exact h
 ·exact h

theorem var_at (s:Bs):(varR st s).2.at_=st.at_∧(varR st s).2.names.length≤st.names.length+1∧(varR st s).2.lay=st.lay∧(varR st s).2.e=st.e∧(varR st s).2.bad=st.bad:=by
 unfold varR
 split<;>simp

theorem RInv.var {s:Bs}(h:RInv L st)(hl:st.at_<L.length):RInv L (varR (nxR st) s).2:=by
 obtain⟨h1,h2,_⟩:=var_at (st:=nxR st) s
 have:=h.1
 refine⟨?_,?_⟩
 ·rw[h1];simp only[nxR]at h2 ⊢;omega
 ·rw[h1];simp only[nxR];omega

theorem many_inv (hT:TGood L T):∀ (f deep:Nat) (st:RSt) (acc:List Tm) (l:List Tm) (st':RSt),manyR L T f deep st acc=some (l,st')→RInv L st→RInv L st'
 |0,_,_,_,_,_,h,_=>by cases h
 |f+1,deep,st,acc,l,st',h,hi=>by
  simp only[manyR]at h
  split at h
  ·rename_i hm
   obtain⟨x,hx,h⟩:=Option.bind_eq_some_iff.1 h
   exact many_inv hT f deep _ _ _ _ h (hT _ _ _ _ _ hx (hi.nx (isMk_lt hm).2))
  ·cases h;exact hi

theorem row_inv (hT:TGood L T){deep:Nat}{l:List Tm}{st':RSt}(h:rowR L T deep st=some (l,st'))(hi:RInv L st):RInv L st':=by
 obtain⟨x,hx,h⟩:=Option.bind_eq_some_iff.1 h
 exact many_inv hT _ _ _ _ _ _ h (hT _ _ _ _ _ hx hi)

theorem named_inv (hT:TGood L T){deep:Nat}{p:Int}{t:Tk}{x:Tm × Int × RSt}(h:namedR S L T deep p t st=some x)(hi:RInv L st)(hl:st.at_<L.length):RInv L x.2.2:=by
 have hn:=hi.nx hl
 unfold namedR at h
 split at h
 ·rename_i hm
  simp only[minR,Bool.and_eq_true,decide_eq_true_eq]at hm
  cases h
  exact hn.nx (peek_lt (by rw[hm.1.2];decide)).2
 ·split at h
  ·obtain ⟨y,hy,rfl⟩:=Option.map_eq_some_iff.1 h
   exact(row_inv hT hy hn.must).must
  ·split at h
   ·split at h
    ·split at h
     ·cases h;exact RInv.fail ⟨by simp only;have:=hn.beg.1;have h2:=hi.1;unfold begS at *;split<;>exact h2,hi.2⟩
     ·obtain ⟨y,hy,rfl⟩:=Option.map_eq_some_iff.1 h
      exact hT _ _ _ _ _ hy hn.beg
    ·cases h;exact hn.beg
   ·cases h;exact hn

theorem list_inv (hT:TGood L T){deep:Nat}{x:Tm × RSt}(h:listR S L T deep st=some x)(hi:RInv L st):RInv L x.2:=by
 obtain⟨y,hy,h⟩:=Option.bind_eq_some_iff.1 h
 have h1:=row_inv hT hy hi
 split at h
 ·rename_i hm
  obtain⟨z,hz,rfl⟩:=Option.map_eq_some_iff.1 h
  exact(hT _ _ _ _ _ hz (h1.nx (isMk_lt hm).2)).must
 ·cases h;exact h1.must

theorem opnd_inv (hT:TGood L T){sw:Bool}{deep:Nat}{p:Int}{x:Tm × Int × RSt}(h:opndR sw S L T deep p st=some x)(hi:RInv L st):RInv L x.2.2:=by
 unfold opndR at h
 split at h
 ·cases h;exact hi.fail
 split at h
 ·rename_i hk;cases h;exact hi.nx (peek_lt (by rw[hk];decide)).2
 split at h
 ·rename_i hk;cases h;exact hi.var (peek_lt (by rw[hk];decide)).2
 split at h
 ·rename_i hk
  obtain⟨y,hy,rfl⟩:=Option.map_eq_some_iff.1 h
  have:=named_inv hT hy hi (peek_lt (by rw[hk];decide)).2
  split<;>exact this
 split at h
 ·rename_i hm
  obtain⟨y,hy,rfl⟩:=Option.map_eq_some_iff.1 h
  exact(hT _ _ _ _ _ hy (hi.nx (isMk_lt hm).2)).must
 split at h
 ·rename_i hm
  obtain⟨y,hy,rfl⟩:=Option.map_eq_some_iff.1 h
  exact list_inv hT hy (hi.nx (isMk_lt hm).2)
 ·cases h;exact hi.fail

theorem ins_lt {L:List Tk}{st:RSt}{x:Int × Int × Int}(h:inT (peekR L st)=some x):st.e=0∧st.at_<L.length:=by
 unfold inT at h
 split at h
 ·cases h
 ·rename_i hc
  refine peek_lt fun h0=>hc ?_
  rw[h0];exact⟨by decide,.inl (by decide)⟩
theorem inS_at (L:List Tk)(st:RSt):(inS L st).at_=st.at_:=by unfold inS;split<;>rfl

theorem rest_inv (hT:TGood L T):∀ (f deep:Nat) (p:Int) (out:Tm) (now:Int) (st:RSt) (t:Tm) (st':RSt),restR L T f deep p out now st=some (t,st')→RInv L st→RInv L st'
 |0,_,_,_,_,_,_,_,h,_=>by cases h
 |f+1,deep,p,out,now,st,t,st',h,hi=>by
  simp only[restR]at h
  split at h
  ·cases h;exact hi
  split at h
  ·cases h;exact hi.ins
  ·rename_i q l r hin
   split at h
   ·cases h;exact hi.ins
   ·obtain ⟨x,hx,h⟩:=Option.bind_eq_some_iff.1 h
    exact rest_inv hT f deep p _ _ _ _ _ h (hT _ _ _ _ _ hx (hi.ins.nx (by rw[inS_at];exact(ins_lt hin).2)))
end

theorem term_inv (sw:Bool)(S:Bs)(L:List Tk):∀n,TGood L (termR sw S L n)
 |0=>fun _ _ _ _ _ h _=>by cases h
 |n+1=>fun deep p st t st' h hi=>by
  simp only[termR]at h
  obtain⟨x,hx,h⟩:=Option.bind_eq_some_iff.1 h
  exact rest_inv (term_inv sw S L n) _ _ _ _ _ _ _ _ h (opnd_inv (term_inv sw S L n) hx hi)
end PSL

namespace PSL
open Go
abbrev Clau:=Tm × List Bs

def clsR (right:Tm→Bool) (L:List Tk) (n:Nat) (T:TF):Nat→RSt→List Clau→Option (List Clau × Int × Int)
 |0,_,_=>none
 |f+1,st,out =>
  if st.at_<L.length then
   (T 0 1200 { st with names:=[] }).bind fun x =>
    let st2:=if (peekR L x.2).kind≠5 then failR L n x.2 2 else x.2
    let st3:=if st2.e=0∧right x.1=false then { st2 with e:=3,bad:=plcR L n st.at_ } else st2
    if st3.e≠0 then some ([],st3.bad,st3.e) else clsR right L n T f (nxR st3) (out++[(x.1,st3.names)])
  else some (out,0,0)

def clauR (right:Tm→Bool)(sw:Bool)(S:Bs):Option (List Clau × Int × Int) :=
 if (tokT S).2.2≠0 then some ([],(tokT S).2.1,(tokT S).2.2)
 else clsR right (tokT S).1 S.length (termR sw S (tokT S).1 ((tokT S).1.length+2)) ((tokT S).1.length+1) ⟨0,[],0,0,false⟩ []
end PSL

namespace PSL
open Go
section
variable {S:Bs} {L:List Tk} {T:TF} {st:RSt}
theorem begS_at:(begS L st).at_=st.at_:=by unfold begS;split<;>rfl
theorem nx_at:(nxR st).at_=st.at_+1:=rfl
end
end PSL

namespace PSL
open Go
section
variable {S:Bs} {L:List Tk} {T:TF} {st:RSt} {m:Nat}
theorem flE {n:Nat}{c:Int}(h:st.e≠0):failR L n st c=st:=by unfold failR;rw[if_neg h]
theorem flN {n:Nat}{c:Int}(hc:c≠0):(failR L n st c).e≠0:=by unfold failR;split;exact hc;assumption
theorem pkE (h:st.e≠0):peekR L st=zeroTk:=by unfold peekR;rw[if_pos h]
theorem mkE {s:Bs}(h:st.e≠0):isMk (peekR L st) s=false:=by rw[pkE h];rfl
end
end PSL

namespace PSL
open Go
section
variable {S:Bs} {L:List Tk} {T:TF} {st:RSt} {m:Nat}
end
end PSL

namespace PSL
open Go
section
variable {S:Bs} {L:List Tk} {T T':TF} {st:RSt}

theorem must_e {n:Nat}{s:Bs}(h:(mustR L n st s).e=0):st.e=0:=by
 by_cases he:st.e=0
 ·exact he
 ·unfold mustR at h
  rw[mkE he]at h
  simp only[Bool.false_eq_true,if_false]at h
  rw[flE he]at h
  exact h
end
end PSL

namespace PSL
open Go
section
variable {S:Bs} {L:List Tk} {T T':TF} {st:RSt}
end
end PSL

namespace PSL
open Go
end PSL

namespace PSL
open Go

def TSz (T:TF):Prop:=∀deep p st t st',T deep p st=some (t,st')→st'.e=0→st.e=0∧st.at_+t.size≤st'.at_
section
variable {S:Bs} {L:List Tk} {T:TF} {st:RSt}
theorem fail_sz {n:Nat}{c:Int}(hc:c≠0)(h:(failR L n st c).e=0):False:=flN hc h

theorem must_sz {n:Nat}{s:Bs}(h:(mustR L n st s).e=0):st.e=0∧(mustR L n st s).at_=st.at_+1:=by
 refine⟨must_e h,?_⟩
 unfold mustR at h ⊢
 split
 ·rfl
 ·rename_i hm;rw[if_neg hm]at h;exact(fail_sz (by decide) h).elim

theorem sizeL_snoc (l:List Tm)(t:Tm):Tm.sizeL (l++[t])=Tm.sizeL l+t.size:=by
 induction l with
 |nil=>simp[Tm.sizeL]
 |cons x l ih=>simp only[List.cons_append,Tm.sizeL,ih];omega

theorem many_sz (hT:TSz T):∀ (f deep:Nat) (st:RSt) (acc l:List Tm) (st':RSt),manyR L T f deep st acc=some (l,st')→st'.e=0→st.e=0∧acc.length≤l.length∧st.at_+Tm.sizeL l+l.length≤st'.at_+Tm.sizeL acc+acc.length
 |0,_,_,_,_,_,h,_=>by cases h
 |f+1,deep,st,acc,l,st',h,he=>by
  simp only[manyR]at h
  split at h
  ·rename_i hm
   obtain⟨⟨x,s⟩,hx,h⟩:=Option.bind_eq_some_iff.1 h
   obtain⟨h1,h2,h3⟩:=many_sz hT f deep _ _ _ _ h he
   obtain⟨h4,h5⟩:=hT _ _ _ _ _ hx h1
   rw[sizeL_snoc]at h3
   rw[nx_at]at h5
   simp only[List.length_append,List.length_singleton]at h2 h3
   exact⟨(isMk_lt hm).1,by omega,by omega⟩
  ·cases h;exact⟨he,Nat.le_refl _,by omega⟩

theorem row_sz (hT:TSz T){deep:Nat}{l:List Tm}{st':RSt}(h:rowR L T deep st=some (l,st'))(he:st'.e=0):st.e=0∧st.at_+Tm.sizeL l+l.length≤st'.at_+1:=by
 obtain⟨⟨x,s⟩,hx,h⟩:=Option.bind_eq_some_iff.1 h
 obtain⟨h1,h2,h3⟩:=many_sz hT _ deep _ _ _ _ h he
 obtain⟨h4,h5⟩:=hT _ _ _ _ _ hx h1
 simp only[Tm.sizeL,List.length_singleton]at h3
 exact⟨h4,by omega⟩
end
end PSL

namespace PSL
open Go
section
variable {S:Bs} {L:List Tk} {T:TF} {st:RSt}
theorem fnT_size (s:Bs)(l:List Tm):(fnT s l).size=1+Tm.sizeL l:=by simp[fnT,Tm.size]

theorem consT_size (l:List Tm)(t:Tm):(consT l t).size=Tm.sizeL l+l.length+t.size:=by
 induction l with
 |nil=>simp[consT,Tm.sizeL]
 |cons x l ih =>
  have:consT (x::l) t=fnT [46] [x,consT l t]:=rfl
  rw[this,fnT_size]
  simp only[Tm.sizeL,List.length_cons,ih];omega

theorem named_sz (hT:TSz T){deep:Nat}{p:Int}{t:Tk}{x:Tm × Int × RSt}(h:namedR S L T deep p t st=some x)(he:x.2.2.e=0):st.e=0∧st.at_+x.1.size≤x.2.2.at_:=by
 unfold namedR at h
 split at h
 ·cases h;exact⟨he,by simp[nmT,nxR,Tm.size,Tm.sizeL]⟩
 split at h
 ·obtain ⟨⟨l,s⟩,hy,rfl⟩:=Option.map_eq_some_iff.1 h
  simp only at he ⊢
  obtain⟨h1,h2⟩:=must_sz he
  obtain⟨h3,h4⟩:=row_sz hT hy h1
  obtain⟨h5,h6⟩:=must_sz h3
  rw[h6,nx_at]at h4
  rw[fnT_size,h2]
  exact⟨h5,by omega⟩
 split at h
 ·split at h
  ·split at h
   ·cases h;exact(fail_sz (by decide) he).elim
   ·obtain ⟨⟨y,s⟩,hy,rfl⟩:=Option.map_eq_some_iff.1 h
    simp only at he ⊢
    obtain⟨h1,h2⟩:=hT _ _ _ _ _ hy he
    rw[begS_at,nx_at]at h2
    rw[fnT_size]
    refine⟨?_,by simp only[Tm.sizeL];omega⟩
    unfold begS at h1;split at h1<;>exact h1
  ·cases h
   simp only at he ⊢
   rw[fnT_size,begS_at,nx_at]
   refine⟨?_,by simp only[Tm.sizeL];omega⟩
   unfold begS at he;split at he<;>exact he
 ·cases h;exact⟨he,by rw[fnT_size,nx_at];simp only[Tm.sizeL];omega⟩

theorem list_sz (hT:TSz T){deep:Nat}{x:Tm × RSt}(h:listR S L T deep st=some x)(he:x.2.e=0):st.e=0∧st.at_+x.1.size≤x.2.at_+1:=by
 obtain⟨⟨l,s⟩,hy,h⟩:=Option.bind_eq_some_iff.1 h
 simp only at h
 split at h
 ·obtain ⟨⟨z,s2⟩,hz,rfl⟩:=Option.map_eq_some_iff.1 h
  simp only at he ⊢
  obtain⟨h1,h2⟩:=must_sz he
  obtain⟨h3,h4⟩:=hT _ _ _ _ _ hz h1
  obtain⟨h5,h6⟩:=row_sz hT hy h3
  rw[nx_at]at h4
  rw[consT_size,h2]
  exact⟨h5,by omega⟩
 ·cases h
  simp only at he ⊢
  obtain⟨h1,h2⟩:=must_sz he
  obtain⟨h5,h6⟩:=row_sz hT hy h1
  rw[consT_size,h2,fnT_size]
  exact⟨h5,by simp only[Tm.sizeL];omega⟩
end
end PSL

namespace PSL
open Go
section
variable {S:Bs} {L:List Tk} {T:TF} {st:RSt}

theorem opnd_sz (hT:TSz T){sw:Bool}{deep:Nat}{p:Int}{x:Tm × Int × RSt}(h:opndR sw S L T deep p st=some x)(he:x.2.2.e=0):st.e=0∧st.at_+x.1.size≤x.2.2.at_:=by
 unfold opndR at h
 split at h
 ·cases h;exact(fail_sz (by decide) he).elim
 split at h
 ·cases h;exact⟨he,by simp[nmT,nxR,Tm.size,Tm.sizeL]⟩
 split at h
 ·cases h
  simp only at he ⊢
  obtain⟨h1,_,_,h4,_⟩:=var_at (st:=nxR st) (peekR L st).text
  rw[h4]at he
  exact⟨he,by rw[h1,nx_at];simp[Tm.vT,Tm.size,Tm.sizeL]⟩
 split at h
 ·obtain ⟨y,hy,rfl⟩:=Option.map_eq_some_iff.1 h
  split at he
  ·rename_i hc
   simp only[Bool.and_eq_true,decide_eq_true_eq]at hc
   exact absurd he hc.2
  ·rename_i hc
   rw[if_neg hc]
   exact named_sz hT hy he
 split at h
 ·obtain ⟨⟨y,s⟩,hy,rfl⟩:=Option.map_eq_some_iff.1 h
  simp only at he ⊢
  obtain⟨h1,h2⟩:=must_sz he
  obtain⟨h3,h4⟩:=hT _ _ _ _ _ hy h1
  rw[nx_at]at h4
  rw[h2]
  exact⟨h3,by omega⟩
 split at h
 ·obtain ⟨⟨y,s⟩,hy,rfl⟩:=Option.map_eq_some_iff.1 h
  simp only at he ⊢
  obtain⟨h3,h4⟩:=list_sz hT hy he
  rw[nx_at]at h4
  simp only at h4
  exact⟨h3,by omega⟩
 ·cases h;exact(fail_sz (by decide) he).elim

theorem rest_sz (hT:TSz T):∀ (f deep:Nat) (p:Int) (out:Tm) (now:Int) (st:RSt) (t:Tm) (st':RSt),restR L T f deep p out now st=some (t,st')→st'.e=0→st.e=0∧st.at_+t.size≤st'.at_+out.size
 |0,_,_,_,_,_,_,_,h,_=>by cases h
 |f+1,deep,p,out,now,st,t,st',h,he=>by
  have hi:(inS L st).e=st.e:=by unfold inS;split<;>rfl
  simp only[restR]at h
  split at h
  ·rename_i h0;cases h;exact absurd he h0
  rename_i h0
  have h0:st.e=0:=by simpa using h0
  split at h
  ·cases h;exact⟨h0,by rw[inS_at];omega⟩
  ·split at h
   ·cases h;exact⟨h0,by rw[inS_at];omega⟩
   ·obtain ⟨⟨x,s⟩,hx,h⟩:=Option.bind_eq_some_iff.1 h
    obtain⟨h1,h2⟩:=rest_sz hT f deep p _ _ _ _ _ h he
    obtain⟨h3,h4⟩:=hT _ _ _ _ _ hx h1
    rw[nx_at,inS_at]at h4
    rw[fnT_size]at h2
    simp only[Tm.sizeL]at h2
    exact⟨h0,by omega⟩
end

theorem term_sz (sw:Bool)(S:Bs)(L:List Tk):∀n,TSz (termR sw S L n)
 |0=>fun _ _ _ _ _ h _=>by cases h
 |n+1=>fun deep p st t st' h he=>by
  simp only[termR]at h
  obtain⟨x,hx,h⟩:=Option.bind_eq_some_iff.1 h
  obtain⟨h1,h2⟩:=rest_sz (term_sz sw S L n) _ _ _ _ _ _ _ _ h he
  obtain⟨h3,h4⟩:=opnd_sz (term_sz sw S L n) hx h1
  exact⟨h3,by omega⟩
end PSL

namespace PSL
open Go

def SB (B:Nat)(t:Tm):Prop:=∀d e,e∈Tm.els t d→e.2.s.size≤B

theorem mem_elsL:∀ {l:List Tm} {d:Int} {e:Int × Tm},e∈Tm.elsL l d→∃x∈l,e∈Tm.els x d
 |[],_,_,h=>by simp[Tm.elsL]at h
 |x::l,d,e,h=>by
  simp only[Tm.elsL,List.mem_append]at h
  rcases h with h |h
  ·exact⟨x,by simp,h⟩
  ·obtain ⟨y,hy,h⟩:=mem_elsL h
   exact⟨y,by simp[hy],h⟩

theorem SB.mk' {B:Nat}{t:Tm}(h:t.s.size≤B)(hl:∀x∈t.l,SB B x):SB B t:=fun d e he=>by
 rw[Tm.els_eq]at he
 rcases List.mem_cons.1 he with rfl |he
 ·exact h
 ·obtain ⟨x,hx,he⟩:=mem_elsL he
  exact hl x hx _ _ he
theorem SB.fn {B:Nat}{s:Bs}{l:List Tm}(h:s.length≤B)(hl:∀x∈l,SB B x):SB B (fnT s l):=.mk' (by show (Tx s).size≤B;rw[Tx_size];exact h) hl
def TSB (B:Nat)(T:TF):Prop:=∀deep p st t st',T deep p st=some (t,st')→SB B t
section
variable {S:Bs} {L:List Tk} {T:TF} {st:RSt} {B:Nat}

theorem many_sb (hT:TSB B T):∀ (f deep:Nat) (st:RSt) (acc l:List Tm) (st':RSt),manyR L T f deep st acc=some (l,st')→(∀x∈acc,SB B x)→∀x∈l,SB B x
 |0,_,_,_,_,_,h,_=>by cases h
 |f+1,deep,st,acc,l,st',h,ha=>by
  simp only[manyR]at h
  split at h
  ·obtain ⟨⟨x,s⟩,hx,h⟩:=Option.bind_eq_some_iff.1 h
   refine many_sb hT f deep _ _ _ _ h fun y hy=>?_
   rcases List.mem_append.1 hy with hy |hy
   ·exact ha y hy
   ·rw[List.mem_singleton.1 hy];exact hT _ _ _ _ _ hx
  ·cases h;exact ha

theorem row_sb (hT:TSB B T){deep:Nat}{l:List Tm}{st':RSt}(h:rowR L T deep st=some (l,st')):∀x∈l,SB B x:=by
 obtain⟨⟨x,s⟩,hx,h⟩:=Option.bind_eq_some_iff.1 h
 exact many_sb hT _ deep _ _ _ _ h fun y hy=>by rw[List.mem_singleton.1 hy];exact hT _ _ _ _ _ hx
theorem nm_sb (n:Int):SB B (nmT n):=.mk' (Nat.zero_le _) (by simp[nmT,Tm.l])
theorem zero_sb:SB B zeroT:=.mk' (Nat.zero_le _) (by simp[zeroT,Tm.l])

theorem consT_sb (hB:2≤B){l:List Tm}{t:Tm}(hl:∀x∈l,SB B x)(ht:SB B t):SB B (consT l t):=by
 induction l with
 |nil=>exact ht
 |cons x l ih =>
  exact .fn (by simp;omega) fun y hy=>by
   simp only[List.mem_cons,List.not_mem_nil,or_false]at hy
   rcases hy with rfl |rfl
   ·exact hl _ (by simp)
   ·exact ih fun z hz=>hl z (by simp[hz])

theorem named_sb (hT:TSB B T){deep:Nat}{p:Int}{t:Tk}(ht:t.text.length≤B){x:Tm × Int × RSt}(h:namedR S L T deep p t st=some x):SB B x.1:=by
 unfold namedR at h
 split at h
 ·cases h;exact nm_sb _
 split at h
 ·obtain ⟨⟨l,s⟩,hy,rfl⟩:=Option.map_eq_some_iff.1 h
  exact .fn ht (row_sb hT hy)
 split at h
 ·split at h
  ·split at h
   ·cases h;exact zero_sb
   ·obtain ⟨⟨y,s⟩,hy,rfl⟩:=Option.map_eq_some_iff.1 h
    exact .fn ht fun z hz=>by rw[List.mem_singleton.1 hz];exact hT _ _ _ _ _ hy
  ·cases h;exact .fn ht (by simp)
 ·cases h;exact .fn ht (by simp)
end
end PSL

namespace PSL
open Go
section
variable {S:Bs} {L:List Tk} {T:TF} {st:RSt} {B:Nat}

theorem peek_sb (hL:∀t∈L,t.text.length≤B):(peekR L st).text.length≤B:=by
 unfold peekR
 split
 ·exact Nat.zero_le _
 ·cases h:L[st.at_]? with
  |none=>exact Nat.zero_le _
  |some t=>exact hL t (List.mem_of_getElem? h)

theorem list_sb (hB:2≤B)(hT:TSB B T){deep:Nat}{x:Tm × RSt}(h:listR S L T deep st=some x):SB B x.1:=by
 obtain⟨⟨l,s⟩,hy,h⟩:=Option.bind_eq_some_iff.1 h
 simp only at h
 split at h
 ·obtain ⟨⟨z,s2⟩,hz,rfl⟩:=Option.map_eq_some_iff.1 h
  exact consT_sb hB (row_sb hT hy) (hT _ _ _ _ _ hz)
 ·cases h
  exact consT_sb hB (row_sb hT hy) (.fn (by simp;omega) (by simp))

theorem opnd_sb (hB:2≤B)(hL:∀t∈L,t.text.length≤B)(hT:TSB B T){sw:Bool}{deep:Nat}{p:Int}{x:Tm × Int × RSt}(h:opndR sw S L T deep p st=some x):SB B x.1:=by
 unfold opndR at h
 split at h
 ·cases h;exact zero_sb
 split at h
 ·cases h;exact nm_sb _
 split at h
 ·cases h;exact .mk' (Nat.zero_le _) (by simp[Tm.vT,Tm.l])
 split at h
 ·obtain ⟨y,hy,rfl⟩:=Option.map_eq_some_iff.1 h
  split
  ·exact zero_sb
  ·exact named_sb hT (peek_sb hL) hy
 split at h
 ·obtain ⟨⟨y,s⟩,hy,rfl⟩:=Option.map_eq_some_iff.1 h
  exact hT _ _ _ _ _ hy
 split at h
 ·obtain ⟨⟨y,s⟩,hy,rfl⟩:=Option.map_eq_some_iff.1 h
  exact list_sb hB hT hy
 ·cases h;exact zero_sb

theorem rest_sb (hL:∀t∈L,t.text.length≤B)(hT:TSB B T):∀ (f deep:Nat) (p:Int) (out:Tm) (now:Int) (st:RSt) (t:Tm) (st':RSt),restR L T f deep p out now st=some (t,st')→SB B out→SB B t
 |0,_,_,_,_,_,_,_,h,_=>by cases h
 |f+1,deep,p,out,now,st,t,st',h,ho=>by
  simp only[restR]at h
  split at h
  ·cases h;exact ho
  split at h
  ·cases h;exact ho
  ·split at h
   ·cases h;exact ho
   ·obtain ⟨⟨x,s⟩,hx,h⟩:=Option.bind_eq_some_iff.1 h
    refine rest_sb hL hT f deep p _ _ _ _ _ h (.fn (peek_sb hL) fun y hy=>?_)
    simp only[List.mem_cons,List.not_mem_nil,or_false]at hy
    rcases hy with rfl |rfl
    ·exact ho
    ·exact hT _ _ _ _ _ hx
end

theorem term_sb {B:Nat}(hB:2≤B)(sw:Bool)(S:Bs)(L:List Tk)(hL:∀t∈L,t.text.length≤B):∀n,TSB B (termR sw S L n)
 |0=>fun _ _ _ _ _ h=>by cases h
 |n+1=>fun deep p st t st' h=>by
  simp only[termR]at h
  obtain⟨x,hx,h⟩:=Option.bind_eq_some_iff.1 h
  exact rest_sb hL (term_sb hB sw S L hL n) _ _ _ _ _ _ _ _ h (opnd_sb hB hL (term_sb hB sw S L hL n) hx)
end PSL

namespace PSL
open Go

structure TkG (L:Bs) (t:Tk):Prop where
 lo:0≤t.n
 hi:t.n≤9223372036854775807
 len:t.text.length≤L.length+20
 var:t.kind=2→t.text≠[]

theorem TkG.name {L:Bs}{kind:Int}{text:Bs}{i to:Nat}{t:Tk}{j:Nat}(h:nameT L kind text i to=some (t,j)):TkG L t:=by
 obtain⟨_,rfl,l1,l2⟩:=nameT_to h
 exact⟨by simp,by simp,by simp only;omega,fun _ h=>by simp only at h;rw[h]at l1;simp at l1⟩
theorem cutB_le (L:Bs)(i j:Nat):(cutB L i j).length≤L.length:=by unfold cutB;simp only[List.length_take,List.length_drop];omega

theorem numT_le {D:Bs}{n:Nat}(h:numT D=some n):n≤9223372036854775807:=by
 unfold numT at h;split at h
 ·cases h
 ·rename_i hc;cases h;omega

theorem oneT_good {L:Bs}{i:Nat}{t:Tk}{j:Nat}(h:oneT L i=some (t,j)):TkG L t:=by
 unfold oneT at h
 split at h
 ·cases h
 split at h;· exact .name h
 split at h;· exact .name h
 split at h
 ·cases hn:numT (cutB L i (runB dgC L i)) with
  |none=>rw[hn]at h;cases h
  |some n =>
  rw[hn]at h
  cases h
  exact⟨by simp,by have:=numT_le hn;simp only;omega,by have:=cutB_le L i (runB dgC L i);simp only;omega,fun h=>by cases h⟩
 split at h
 ·split at h
  ·exact .name h
  ·cases h
 split at h;· exact .name h
 split at h;· exact .name h
 split at h
 ·cases h
  exact⟨by simp,by simp,by simp,fun h=>by cases h⟩
 split at h
 ·cases h
  exact⟨by simp,by simp,by simp,fun h=>by cases h⟩
 exact .name h

theorem toks_good:∀ (f:Nat) (L:Bs) (i:Nat) (l:List Tk),toks f L i=.ok l→∀t∈l,TkG L t
 |0,L,i,l,h=>by simp only[toks,Except.ok.injEq]at h;subst h;simp
 |f+1,L,i,l,h=>by
  simp only[toks]at h
  split at h
  ·split at h
   ·cases h
   ·rename_i t to ho
    split at h
    ·rename_i l' hl
     cases h
     intro u hu
     rcases List.mem_cons.1 hu with rfl |hu
     ·exact oneT_good ho
     ·exact toks_good f L to l' hl u hu
    ·cases h
  ·cases h;simp

theorem read_small {S:Bs}{L:List Tk}(hL:L.length≤9000)(hS:S.length≤9000)(hg:∀t∈L,TkG S t){sw:Bool}{n deep:Nat}{p:Int}{st st':RSt}{t:Tm}(hi:RInv L st)(h:termR sw S L n deep p st=some (t,st'))(he:st'.e=0):t.size≤9000∧∀d e,e∈t.els d→e.2.s.size≤9020:=by
 have h1:=(term_sz sw S L n _ _ _ _ _ h he).2
 have h2:=(term_inv sw S L n _ _ _ _ _ h hi).2
 have h3:=term_sb (B:=9020) (by omega) sw S L (fun t ht=>by have:=(hg t ht).len;omega) n
 exact⟨by omega,h3 _ _ _ _ _ h⟩
end PSL

namespace PSL
open Go

def TokRel (ex:Bool)(d:Int)(a b:Tk):Prop :=
 (b.kind=a.kind∧b.text=a.text∧b.n=a.n∧b.opn=a.opn∧(a.kind≠0→b.at_=a.at_+d))∨(ex=false∧a.kind=5∧b.kind=4∧b.text=[41])

structure Sim (ex:Bool) (m k δ:Nat) (d:Int) (S1:Bs) (L1:List Tk) (S2:Bs) (L2:List Tk):Prop where
 tok:∀i,(ex=true∨i≤m)→TokRel ex d ((L1[i]?).getD zeroTk) ((L2[i+k]?).getD zeroTk)
 plc:ex=true→∀i,plcR L2 S2.length (i+k)=plcR L1 S1.length i+d
 byte:∀i t,L1[i]? = some t→(ex=true∨i≤m)→t.kind=1→decide (S2[(t.at_+d).toNat]? = some 45)=decide (S1[t.at_.toNat]? = some 45)
 deep:δ=0∨(ex=false∧m+δ≤999)
 len:L1.length≤L2.length

structure StR (k:Nat) (d:Int) (a b:RSt):Prop where
 at_:b.at_=a.at_+k
 names:b.names=a.names
 e:b.e=a.e
 bad:a.e≠0→b.bad=a.bad+d
section
variable {ex:Bool} {m k δ:Nat} {d:Int} {S1 S2:Bs} {L1 L2:List Tk} {T1 T2:TF} {a b:RSt} {S:Bs} {L:List Tk} {T:TF}
variable (H:Sim ex m k δ d S1 L1 S2 L2) (r:StR k d a b)
include H r
end
end PSL

namespace PSL
open Go
section
variable {ex:Bool} {m k δ:Nat} {d:Int} {S1 S2:Bs} {L1 L2:List Tk} {T1 T2:TF} {a b:RSt} (H:Sim ex m k δ d S1 L1 S2 L2)
include H
end
end PSL

namespace PSL
open Go

def endR (right:Tm→Bool)(L:List Tk)(n:Nat)(from_:Nat)(x:Tm)(s:RSt):RSt :=
 let st2:=if (peekR L s).kind≠5 then failR L n s 2 else s
 if st2.e=0∧right x=false then { st2 with e:=3,bad:=plcR L n from_ } else st2
theorem cls_step (right:Tm→Bool)(L:List Tk)(n:Nat)(T:TF)(f:Nat)(st:RSt)(out:List Clau):clsR right L n T (f+1) st out=if st.at_<L.length then (T 0 1200 { st with names:=[] }).bind fun x=>if (endR right L n st.at_ x.1 x.2).e≠0 then some ([],(endR right L n st.at_ x.1 x.2).bad,(endR right L n st.at_ x.1 x.2).e) else clsR right L n T f (nxR (endR right L n st.at_ x.1 x.2)) (out++[(x.1,(endR right L n st.at_ x.1 x.2).names)]) else some (out,0,0):=rfl

theorem end_ok {right:Tm→Bool}{L:List Tk}{n:Nat}{i:Nat}{x:Tm}{s:RSt}(h:(endR right L n i x s).e=0):s.e=0∧(peekR L s).kind=5∧s.at_<L.length∧right x=true∧endR right L n i x s=s:=by
 unfold endR at h ⊢
 by_cases hk:(peekR L s).kind≠5
 ·simp only [if_pos hk] at h
  split at h
  ·cases h
  ·exact absurd h (flN (by decide))
 ·simp only [if_neg hk] at h ⊢
  have hk:=Decidable.not_not.1 hk
  have hl:=peek_lt (L:=L) (st:=s) (by rw[hk];decide)
  split at h
  ·cases h
  ·rename_i hr
   rw[if_neg hr]
   refine⟨hl.1,hk,hl.2,?_,rfl⟩
   cases hx:right x with
   |true=>rfl
   |false=>exact absurd ⟨hl.1,hx⟩ hr

theorem cls_facts {right:Tm→Bool}{L:List Tk}{n:Nat}{T:TF}{P:Clau→Prop}(hP:∀st t s,RInv L st→st.names=[]→T 0 1200 st=some (t,s)→s.e=0→right t=true→P (t,s.names))(hG:TGood L T)(hpl:∀t∈L,0≤t.at_∧t.at_≤n)(hB:∀st t s,T 0 1200 st=some (t,s)→0≤st.bad∧st.bad≤n→0≤s.bad∧s.bad≤n):∀ (f:Nat) (st:RSt) (out c:List Clau) (q e:Int),st.at_≤L.length→0≤st.bad∧st.bad≤n→clsR right L n T f st out=some (c,q,e)→(e≠0→c=[])∧(e=0→q=0∧∃l,c=out++l∧(∀x∈l,P x)∧(st.at_<L.length→l≠[]))∧0≤q∧q≤n
 |0,_,_,_,_,_,_,_,h=>by cases h
 |f+1,st,out,c,q,e,hat,hbad,h=>by
  rw[cls_step]at h
  by_cases hl:st.at_<L.length
  ·rw [if_pos hl] at h
   obtain⟨⟨x,s⟩,hx,h⟩:=Option.bind_eq_some_iff.1 h
   simp only at h
   have hpc:∀i,0≤plcR L n i∧plcR L n i≤n:=by
    intro i;unfold plcR
    split
    ·rename_i t ht;exact hpl t (List.mem_of_getElem? ht)
    ·exact⟨Int.natCast_nonneg _,Int.le_refl _⟩
   have hbs:=hB _ _ _ hx hbad
   by_cases he:(endR right L n st.at_ x s).e≠0
   ·rw [if_pos he] at h
    have hb:0≤(endR right L n st.at_ x s).bad∧(endR right L n st.at_ x s).bad≤n:=by
     have h2:0≤(if (peekR L s).kind≠5 then failR L n s 2 else s).bad∧(if (peekR L s).kind≠5 then failR L n s 2 else s).bad≤n:=by
      split
      ·unfold failR; split
       ·exact hpc _
       ·exact hbs
      ·exact hbs
     unfold endR
     simp only
     generalize (if (peekR L s).kind≠5 then failR L n s 2 else s)=u at h2
     split
     ·exact hpc _
     ·exact h2
    cases h
    exact⟨fun _=>rfl,fun h=>absurd h he,hb⟩
   ·rw [if_neg he] at h
    obtain⟨e1,e2,e3,e4,e5⟩:=end_ok (Decidable.not_not.1 he)
    rw[e5]at h
    obtain⟨h1,h2,h3⟩:=cls_facts hP hG hpl hB f (nxR s) _ _ _ _ (by rw[nx_at];omega) hbs h
    refine⟨h1,fun he=>?_,h3⟩
    obtain⟨g1,l,g2,g3,_⟩:=h2 he
    exact⟨g1,(x,s.names)::l,by rw[g2,List.append_assoc];rfl,fun y hy=>by
     rcases List.mem_cons.1 hy with rfl |hy
     ·exact hP _ _ _ (⟨Nat.zero_le _,hat⟩:RInv L { st with names:=[] }) rfl hx e1 e4
     ·exact g3 y hy,fun _=>by simp⟩
  ·rw [if_neg hl] at h
   cases h
   exact⟨fun h=>absurd rfl h,fun _=>⟨rfl,[],by simp,by simp,fun h=>absurd h hl⟩,Int.le_refl _,Int.natCast_nonneg _⟩
end PSL

namespace PSL
open Go
def TBd (B:Int→Prop)(T:TF):Prop:=∀deep p st t st',T deep p st=some (t,st')→B st.bad→B st'.bad
section
variable {B:Int→Prop} {S:Bs} {L:List Tk} {T:TF} {st:RSt}

theorem fail_bd (hB:∀i,B (plcR L S.length i)){c:Int}(h:B st.bad):B (failR L S.length st c).bad:=by
 unfold failR;split
 ·exact hB _
 ·exact h

theorem must_bd (hB:∀i,B (plcR L S.length i)){s:Bs}(h:B st.bad):B (mustR L S.length st s).bad:=by
 unfold mustR;split
 ·exact h
 ·exact fail_bd hB h
theorem beg_bd:(begS L st).bad=st.bad:=by unfold begS;split<;>rfl
theorem ins_bd:(inS L st).bad=st.bad:=by unfold inS;split<;>rfl

theorem many_bd (hT:TBd B T):∀ (f deep:Nat) (st:RSt) (acc:List Tm) (l:List Tm) (st':RSt),manyR L T f deep st acc=some (l,st')→B st.bad→B st'.bad
 |0,_,_,_,_,_,h,_=>by cases h
 |f+1,deep,st,acc,l,st',h,hb=>by
  simp only[manyR]at h
  split at h
  ·obtain ⟨x,hx,h⟩:=Option.bind_eq_some_iff.1 h
   exact many_bd hT f deep _ _ _ _ h (hT _ _ _ _ _ hx hb)
  ·cases h;exact hb

theorem row_bd (hT:TBd B T){deep:Nat}{l:List Tm}{st':RSt}(h:rowR L T deep st=some (l,st'))(hb:B st.bad):B st'.bad:=by
 obtain⟨x,hx,h⟩:=Option.bind_eq_some_iff.1 h
 exact many_bd hT _ _ _ _ _ _ h (hT _ _ _ _ _ hx hb)

theorem named_bd (hB:∀i,B (plcR L S.length i))(hT:TBd B T){deep:Nat}{p:Int}{t:Tk}{x:Tm × Int × RSt}(h:namedR S L T deep p t st=some x)(hb:B st.bad):B x.2.2.bad:=by
 unfold namedR at h
 split at h
 ·cases h;exact hb
 split at h
 ·obtain ⟨y,hy,rfl⟩:=Option.map_eq_some_iff.1 h
  exact must_bd hB (row_bd hT hy (must_bd hB hb))
 split at h
 ·split at h
  ·split at h
   ·cases h
    exact fail_bd hB (by simp only;rw[beg_bd];exact hb)
   ·obtain ⟨y,hy,rfl⟩:=Option.map_eq_some_iff.1 h
    exact hT _ _ _ _ _ hy (by rw[beg_bd];exact hb)
  ·cases h;simp only;rw[beg_bd];exact hb
 ·cases h;exact hb

theorem list_bd (hB:∀i,B (plcR L S.length i))(hT:TBd B T){deep:Nat}{x:Tm × RSt}(h:listR S L T deep st=some x)(hb:B st.bad):B x.2.bad:=by
 obtain⟨y,hy,h⟩:=Option.bind_eq_some_iff.1 h
 have h1:=row_bd hT hy hb
 split at h
 ·obtain ⟨z,hz,rfl⟩:=Option.map_eq_some_iff.1 h
  exact must_bd hB (hT _ _ _ _ _ hz h1)
 ·cases h;exact must_bd hB h1

theorem opnd_bd (hB:∀i,B (plcR L S.length i))(hT:TBd B T){sw:Bool}{deep:Nat}{p:Int}{x:Tm × Int × RSt}(h:opndR sw S L T deep p st=some x)(hb:B st.bad):B x.2.2.bad:=by
 unfold opndR at h
 split at h
 ·cases h;exact fail_bd hB hb
 split at h
 ·cases h;exact hb
 split at h
 ·cases h;simp only;rw[(var_at _).2.2.2.2];exact hb
 split at h
 ·obtain ⟨y,hy,rfl⟩:=Option.map_eq_some_iff.1 h
  have:=named_bd hB hT hy hb
  split<;>exact this
 split at h
 ·obtain ⟨y,hy,rfl⟩:=Option.map_eq_some_iff.1 h
  exact must_bd hB (hT _ _ _ _ _ hy hb)
 split at h
 ·obtain ⟨y,hy,rfl⟩:=Option.map_eq_some_iff.1 h
  exact list_bd hB hT hy hb
 ·cases h;exact fail_bd hB hb

theorem rest_bd (hT:TBd B T):∀ (f deep:Nat) (p:Int) (out:Tm) (now:Int) (st:RSt) (t:Tm) (st':RSt),restR L T f deep p out now st=some (t,st')→B st.bad→B st'.bad
 |0,_,_,_,_,_,_,_,h,_=>by cases h
 |f+1,deep,p,out,now,st,t,st',h,hb=>by
  simp only[restR]at h
  split at h
  ·cases h;exact hb
  split at h
  ·cases h;rw[ins_bd];exact hb
  ·split at h
   ·cases h;rw[ins_bd];exact hb
   ·obtain ⟨x,hx,h⟩:=Option.bind_eq_some_iff.1 h
    exact rest_bd hT f deep p _ _ _ _ _ h (hT _ _ _ _ _ hx (by show B (inS L st).bad;rw[ins_bd];exact hb))

theorem term_bd (hB:∀i,B (plcR L S.length i))(sw:Bool):∀n,TBd B (termR sw S L n)
 |0=>fun _ _ _ _ _ h=>by cases h
 |n+1=>fun deep p st t st' h hb=>by
  simp only[termR]at h
  obtain⟨x,hx,h⟩:=Option.bind_eq_some_iff.1 h
  exact rest_bd (term_bd hB sw n) _ _ _ _ _ _ _ _ h (opnd_bd hB (term_bd hB sw n) hx hb)
end

def extV:Nat→List Int→Option Nat
 |m,[]=>some m
 |m,v::r=>if 0≤v∧v<m then extV m r else if v=m then extV (m+1) r else none

theorem extV_app:∀ (a b:List Int) (m:Nat),extV m (a++b)=(extV m a).bind fun k=>extV k b
 |[],_,_=>rfl
 |v::r,b,m=>by
  simp only[List.cons_append,extV]
  split
  ·exact extV_app r b m
  ·split
   ·exact extV_app r b _
   ·rfl
theorem extV_app' {a b:List Int}{m k j:Nat}(h:extV m a=some k)(h2:extV k b=some j):extV m (a++b)=some j:=by rw[extV_app,h];exact h2
def TNum (T:TF):Prop:=∀deep p st t st',T deep p st=some (t,st')→st'.e=0→extV st.names.length (Tm.occ t)=some st'.names.length
section
variable {S:Bs} {L:List Tk} {T:TF} {st:RSt}
theorem fail_nm {n:Nat}{c:Int}:(failR L n st c).names=st.names:=by unfold failR;split<;>rfl

theorem must_nm {n:Nat}{s:Bs}:(mustR L n st s).names=st.names:=by
 unfold mustR;split
 ·rfl
 ·exact fail_nm
theorem beg_nm:(begS L st).names=st.names:=by unfold begS;split<;>rfl
theorem ins_nm:(inS L st).names=st.names:=by unfold inS;split<;>rfl

theorem occL_app:∀ (a b:List Tm),Tm.occL (a++b)=Tm.occL a++Tm.occL b
 |[],_=>rfl
 |x::a,b=>by simp only[List.cons_append,Tm.occL,occL_app a b,List.append_assoc]
theorem occ_fn (s:Bs)(l:List Tm):Tm.occ (fnT s l)=Tm.occL l:=by simp[fnT,Tm.occ]

theorem occ_cons (l:List Tm)(t:Tm):Tm.occ (consT l t)=Tm.occL l++Tm.occ t:=by
 induction l with
 |nil=>rfl
 |cons x l ih =>
  show Tm.occ (fnT [46] [x,consT l t])=_
  rw[occ_fn]
  simp only[Tm.occL,ih,List.append_nil,List.append_assoc]
theorem occ_nm (n:Int):Tm.occ (nmT n)=[]:=by simp[nmT,Tm.occ,Tm.occL]
theorem occ_one (x:Tm):Tm.occL [x]=Tm.occ x:=by simp[Tm.occL]

theorem many_num (hT:TNum T)(hZ:TSz T):∀ (f deep:Nat) (st:RSt) (acc:List Tm) (l:List Tm) (st':RSt) (m:Nat),manyR L T f deep st acc=some (l,st')→st'.e=0→extV m (Tm.occL acc)=some st.names.length→extV m (Tm.occL l)=some st'.names.length
 |0,_,_,_,_,_,_,h,_,_=>by cases h
 |f+1,deep,st,acc,l,st',m,h,he,hm=>by
  simp only[manyR]at h
  split at h
  ·obtain ⟨⟨x,s⟩,hx,h⟩:=Option.bind_eq_some_iff.1 h
   have hs:=(many_sz hZ f deep _ _ _ _ h he).1
   refine many_num hT hZ f deep _ _ _ _ m h he ?_
   rw[occL_app,occ_one]
   exact extV_app' hm (show extV st.names.length _=_ from hT _ _ (nxR st) _ _ hx hs)
  ·cases h;exact hm

theorem row_num (hT:TNum T)(hZ:TSz T){deep:Nat}{l:List Tm}{st':RSt}(h:rowR L T deep st=some (l,st'))(he:st'.e=0):extV st.names.length (Tm.occL l)=some st'.names.length:=by
 obtain⟨⟨x,s⟩,hx,h⟩:=Option.bind_eq_some_iff.1 h
 have hs:=(many_sz hZ _ deep _ _ _ _ h he).1
 exact many_num hT hZ _ _ _ _ _ _ _ h he (by rw[occ_one];exact hT _ _ _ _ _ hx hs)

theorem named_num (hT:TNum T)(hZ:TSz T){deep:Nat}{p:Int}{t:Tk}{x:Tm × Int × RSt}(h:namedR S L T deep p t st=some x)(he:x.2.2.e=0):extV st.names.length (Tm.occ x.1)=some x.2.2.names.length:=by
 unfold namedR at h
 split at h
 ·cases h;simp only;rw[occ_nm];rfl
 split at h
 ·obtain ⟨⟨l,s⟩,hy,rfl⟩:=Option.map_eq_some_iff.1 h
  have:=row_num hT hZ hy (must_e he)
  rw[must_nm]at this
  simp only
  rw[occ_fn,must_nm]
  exact this
 split at h
 ·split at h
  ·split at h
   ·cases h;exact absurd he (flN (by decide))
   ·obtain ⟨⟨u,s⟩,hy,rfl⟩:=Option.map_eq_some_iff.1 h
    have:=hT _ _ _ _ _ hy he
    rw[beg_nm]at this
    simp only
    rw[occ_fn,occ_one]
    exact this
  ·cases h;simp only;rw[occ_fn,beg_nm];rfl
 ·cases h;simp only;rw[occ_fn];rfl

theorem list_num (hT:TNum T)(hZ:TSz T){deep:Nat}{x:Tm × RSt}(h:listR S L T deep st=some x)(he:x.2.e=0):extV st.names.length (Tm.occ x.1)=some x.2.names.length:=by
 obtain⟨⟨l,s⟩,hy,h⟩:=Option.bind_eq_some_iff.1 h
 simp only at h
 split at h
 ·obtain ⟨⟨u,v⟩,hz,rfl⟩:=Option.map_eq_some_iff.1 h
  have e1:=must_e he
  have h2:=hT _ _ _ _ _ hz e1
  have e2:=(hZ _ _ _ _ _ hz e1).1
  have h1:=row_num hT hZ hy e2
  simp only
  rw[occ_cons,must_nm]
  exact extV_app' h1 h2
 ·cases h
  have h1:=row_num hT hZ hy (must_e he)
  simp only
  rw[occ_cons,must_nm,occ_fn]
  exact extV_app' h1 rfl

theorem idxV_lt:∀ {l:List Bs} {s:Bs} {i k:Nat},idxV l s i=some k→i≤k∧k<i+l.length
 |[],_,_,_,h=>by cases h
 |x::l,s,i,k,h=>by
  simp only[idxV]at h
  split at h
  ·cases h;simp
  ·have:=idxV_lt h;simp only[List.length_cons];omega

theorem var_num (s:Bs):extV st.names.length [(varR st s).1]=some (varR st s).2.names.length:=by
 unfold varR
 split
 ·rename_i i hi
  split at hi
  ·cases hi
  ·have:=idxV_lt hi
   simp only[extV]
   rw[if_pos (by omega)]
 ·simp only [extV]
  rw[if_neg (by omega)]
  simp
theorem occ_v (v:Int):Tm.occ (Tm.vT v)=[v]:=by simp[Tm.vT,Tm.occ]

theorem opnd_num (hT:TNum T)(hZ:TSz T){sw:Bool}{deep:Nat}{p:Int}{x:Tm × Int × RSt}(h:opndR sw S L T deep p st=some x)(he:x.2.2.e=0):extV st.names.length (Tm.occ x.1)=some x.2.2.names.length:=by
 unfold opndR at h
 split at h
 ·cases h;exact absurd he (flN (by decide))
 split at h
 ·cases h;simp only;rw[occ_nm];rfl
 split at h
 ·cases h; simp only; rw [occ_v]
  exact var_num (st:=nxR st) _
 split at h
 ·obtain ⟨y,hy,rfl⟩:=Option.map_eq_some_iff.1 h
  have e1:y.2.2.e=0:=by revert he;split<;>exact id
  have:=named_num hT hZ hy e1
  rw[if_neg (by simp[e1])]
  exact this
 split at h
 ·obtain ⟨⟨u,s⟩,hy,rfl⟩:=Option.map_eq_some_iff.1 h
  simp only
  rw[must_nm]
  exact hT _ _ (nxR st) _ _ hy (must_e he)
 split at h
 ·obtain ⟨⟨u,s⟩,hy,rfl⟩:=Option.map_eq_some_iff.1 h
  exact list_num hT hZ hy he
 ·cases h;exact absurd he (flN (by decide))

theorem rest_num (hT:TNum T)(hZ:TSz T):∀ (f deep:Nat) (p:Int) (out:Tm) (now:Int) (st:RSt) (t:Tm) (st':RSt) (m:Nat),restR L T f deep p out now st=some (t,st')→st'.e=0→extV m (Tm.occ out)=some st.names.length→extV m (Tm.occ t)=some st'.names.length
 |0,_,_,_,_,_,_,_,_,h,_,_=>by cases h
 |f+1,deep,p,out,now,st,t,st',m,h,he,hm=>by
  simp only[restR]at h
  split at h
  ·cases h;exact hm
  split at h
  ·cases h;rw[ins_nm];exact hm
  ·split at h
   ·cases h;rw[ins_nm];exact hm
   ·obtain ⟨⟨x,s⟩,hx,h⟩:=Option.bind_eq_some_iff.1 h
    have hs:=(rest_sz hZ _ _ _ _ _ _ _ _ h he).1
    refine rest_num hT hZ f deep p _ _ _ _ _ m h he ?_
    rw[occ_fn]
    have h2:=hT _ _ _ _ _ hx hs
    rw[show (nxR (inS L st)).names=st.names from ins_nm]at h2
    show extV m (Tm.occ out++(Tm.occ x++[]))=_
    rw[List.append_nil]
    exact extV_app' hm h2

theorem term_num (sw:Bool)(S:Bs)(L:List Tk):∀n,TNum (termR sw S L n)
 |0=>fun _ _ _ _ _ h=>by cases h
 |n+1=>fun deep p st t st' h he=>by
  simp only[termR]at h
  obtain⟨⟨x,q,s⟩,hx,h⟩:=Option.bind_eq_some_iff.1 h
  have hZ:=term_sz sw S L n
  have hs:=(rest_sz hZ _ _ _ _ _ _ _ _ h he).1
  exact rest_num (term_num sw S L n) hZ _ _ _ _ _ _ _ _ _ h he (opnd_num (term_num sw S L n) hZ hx hs)
end
end PSL

namespace PSL
open Go
def idn (m:Nat):List Int:=(List.range m).map Int.ofNat

theorem idn_mem {m:Nat}{v:Int}:v∈idn m↔0≤v∧v<m:=by
 unfold idn
 simp only[List.mem_map,List.mem_range]
 exact⟨fun ⟨a,h,e⟩=>by rw[← e];exact⟨Int.natCast_nonneg _,by show (a:Int)<m;omega⟩,fun h=>⟨v.toNat,by omega,by show ((v.toNat:Nat):Int)=v;omega⟩⟩
theorem idn_len (m:Nat):(idn m).length=m:=by simp[idn]
theorem idn_snoc (m:Nat):idn m++[(m:Int)]=idn (m+1):=by unfold idn;rw[List.range_succ,List.map_append];rfl

theorem idn_at (m:Nat){v:Int}(h:0≤v∧v<m):atI (idn m) v 0=v:=by
 have key:∀ (k s:Nat) (v:Int),(s:Int)≤v→v<((s+k:Nat):Int)→atI ((List.range' s k).map Int.ofNat) v s=v:=by
  intro k
  induction k with
  |zero=>intro s v h1 h2;omega
  |succ k ih =>
   intro s v h1 h2
   simp only[List.range'_succ,List.map_cons,atI]
   split
   ·rename_i e;exact e
   ·rename_i e
    have e:¬ (s:Int)=v:=e
    have:=ih (s+1) v (by omega) (by omega)
    rw[show ((s+1:Nat):Int)=(s:Int)+1 by omega]at this
    exact this
 have:=key m 0 v (by simpa using h.1) (by simpa using h.2)
 unfold idn
 rw[List.range_eq_range']
 exact this

theorem ext_once:∀ (l:List Int) (k m:Nat),extV k l=some m→l.foldl addV (idn k)=idn m∧k≤m∧∀v∈l,0≤v∧v<m
 |[],k,m,h=>by cases h;exact⟨rfl,Nat.le_refl _,by simp⟩
 |v::l,k,m,h=>by
  simp only[extV]at h
  simp only[List.foldl_cons]
  split at h
  ·rename_i hv
   obtain⟨h1,h2,h3⟩:=ext_once l k m h
   have:addV (idn k) v=idn k:=by unfold addV;rw[if_pos (by simpa using idn_mem.2 hv)]
   rw[this]
   exact⟨h1,h2,fun w hw=>by
    rcases List.mem_cons.1 hw with rfl |hw
    ·exact⟨hv.1,by omega⟩
    ·exact h3 w hw⟩
  ·rename_i hv
   split at h
   ·rename_i he
    obtain⟨h1,h2,h3⟩:=ext_once l (k+1) m h
    have:addV (idn k) v=idn (k+1):=by
     unfold addV
     rw[if_neg (by simpa using fun h=>hv (idn_mem.1 h)),he,idn_snoc]
    rw[this]
    exact⟨h1,by omega,fun w hw=>by
     rcases List.mem_cons.1 hw with rfl |hw
     ·exact⟨by omega,by omega⟩
     ·exact h3 w hw⟩
   ·cases h

theorem num_read {t:Tm}{m:Nat}(hr:t.rightB=true)(h:extV 0 (Tm.occ t)=some m):numberT [t]=([t],(m:Int),0):=by
 obtain⟨h1,_,h3⟩:=ext_once _ _ _ h
 have hf:Tm.fairRL [t]=true:=fairL_of (by simpa using hr)
 have hv:varsT [t]=idn m:=by
  rw[varsT_once hf]
  show (Tm.occL [t]).foldl addV []=_
  rw[show Tm.occL [t]=Tm.occ t by simp[Tm.occL]]
  exact h1
 unfold numberT
 rw[if_pos (by simp[rightT_eq,hr]),hv,idn_len]
 have:Tm.turnTL (placeG (idn m)) [t]=[t]:=by
  show [Tm.turnT (placeG (idn m)) t]=[t]
  have h2:=Tm.turn_congr (g:=placeG (idn m)) (g':=fun n=>n) t (right_fair hr) fun v hv=>by
   have:=idn_at m (h3 v hv)
   unfold placeG
   rw[this,if_neg (by have:=(h3 v hv).1;omega)]
  rw[h2,Tm.turn_self]
 rw[this]

theorem tok_ok {S:Bs}(h:(tokT S).2.2=0):S.length≤8000∧toks (S.length+1) S 0=.ok (tokT S).1∧tokT S=((tokT S).1,0,0):=by
 unfold tokT at h ⊢
 split at h
 ·cases h
 ·rename_i hl
  rw[if_neg hl]
  cases ht:toks (S.length+1) S 0 with
  |ok l=>exact⟨by omega,rfl,rfl⟩
  |error j=>rw[ht]at h;cases h

theorem tok_bad {S:Bs}(h:(tokT S).2.2≠0):(tokT S).1=[]∧0≤(tokT S).2.1∧(tokT S).2.1≤S.length:=by
 unfold tokT at h ⊢
 split at h
 ·rename_i hl
  rw[if_pos hl];exact⟨rfl,by simp,by simp⟩
 ·rename_i hl
  rw[if_neg hl]
  cases ht:toks (S.length+1) S 0 with
  |ok l=>rw[ht]at h;exact absurd rfl h
  |error j =>
   have:=toks_bad _ _ _ _ ht
   exact⟨rfl,by simp only;omega,by simp only;omega⟩

theorem toks_plc {S:Bs}{l:List Tk}(h:toks (S.length+1) S 0=.ok l):∀t∈l,0≤t.at_∧t.at_<S.length:=fun t ht=>by
 have:=((toks_place _ _ _ _ h).1 t ht).lo
 have:=((toks_place _ _ _ _ h).1 t ht).hi
 omega

theorem cls_count {right:Tm→Bool}{L:List Tk}{n:Nat}{T:TF}:∀ (f:Nat) (st:RSt) (out c:List Clau) (q e:Int),clsR right L n T f st out=some (c,q,e)→c.length≤out.length+f
 |0,_,_,_,_,_,h=>by cases h
 |f+1,st,out,c,q,e,h=>by
  rw[cls_step]at h
  split at h
  ·obtain ⟨⟨x,s⟩,hx,h⟩:=Option.bind_eq_some_iff.1 h
   simp only at h
   split at h
   ·cases h;simp
   ·have:=cls_count f _ _ _ _ _ h
    simp only[List.length_append,List.length_singleton]at this
    omega
  ·cases h;omega

theorem clau_count {right:Tm→Bool}{sw:Bool}{S:Bs}{c:List Clau}{q e:Int}(h:clauR right sw S=some (c,q,e)):c.length≤9000:=by
 unfold clauR at h
 by_cases he:(tokT S).2.2≠0
 ·rw[if_pos he]at h;cases h;simp
 ·rw [if_neg he] at h
  obtain⟨h8,ht,_⟩:=tok_ok (Decidable.not_not.1 he)
  have:=toks_len _ S 0 _ ht
  have:=cls_count _ _ _ _ _ _ h
  simp only[List.length_nil]at this
  omega

structure ClG (x:Clau):Prop where
 right:x.1.rightB=true
 num:numberT [x.1]=([x.1],(x.2.length:Int),0)
 few:x.2.length≤9000

theorem clau_facts {sw:Bool}{S:Bs}(hS:S.length≤9000){c:List Clau}{q e:Int}(h:clauR rightT sw S=some (c,q,e)):(e≠0→c=[])∧(e=0→q=0∧∀x∈c,ClG x)∧0≤q∧q≤S.length:=by
 unfold clauR at h
 by_cases he:(tokT S).2.2≠0
 ·rw [if_pos he] at h
  have hb:=tok_bad he
  cases h
  exact⟨fun _=>rfl,fun h=>absurd h he,hb.2⟩
 ·rw [if_neg he] at h
  obtain⟨h8,ht,_⟩:=tok_ok (Decidable.not_not.1 he)
  have hpl:=toks_plc ht
  have hlen:=toks_len _ S 0 _ ht
  obtain⟨h1,h2,h3⟩:=cls_facts (P:=ClG) (fun st t s hi hn hx he hr=>by
   have h1:=(term_inv sw S _ _ _ _ _ _ _ hx hi)
   have h2:=term_num sw S _ _ _ _ _ _ _ hx he
   rw[hn]at h2
   rw[rightT_eq]at hr
   exact⟨hr,num_read hr h2,by have:=h1.1;have:=h1.2;simp only;omega⟩) (term_inv sw S _ _) (n:=S.length) (fun t ht=>by have:=hpl t ht;omega)
   (fun st t s hx hb=>term_bd (B:=fun b=>0≤b∧b≤(S.length:Int)) (fun i=>by
    unfold plcR;split
    ·rename_i t ht';have:=hpl t (List.mem_of_getElem? ht');exact⟨this.1,by omega⟩
    ·exact⟨Int.natCast_nonneg _,Int.le_refl _⟩) sw _ _ _ _ _ _ hx hb) _ _ _ _ _ _ (Nat.zero_le _) ⟨Int.le_refl _,Int.natCast_nonneg _⟩ h
  exact⟨h1,fun he=>by
   obtain⟨g1,l,g2,g3,_⟩:=h2 he
   refine⟨g1,?_⟩
   rw[g2]
   simpa using g3,h3⟩
end PSL

namespace PSL
open Go
def argT (t:Tm)(i:Nat):Tm:=(t.l[i]?).getD zeroT
def failM (st:Int × Int)(c:Int):Int × Int:=if st.2=0 then (st.1,c) else st
def sgC:Sg:=(Tx [44],2)
def sgT:Sg:=(Tx [116,114,117,101],0)
def sgX:Sg:=(Tx [33],0)
def sgN:Sg:=(Tx [92,43],1)
def sgO:Sg:=(Tx [59],2)
def sgI:Sg:=(Tx [45,62],2)
def sgR:Sg:=(Tx [58,45],2)

def golF:Nat→Tm→Int × Int→Int→Bool→List Gl × (Int × Int)
 |0,_,st,_,_=>([],st)
 |n+1,t,st,deep,cuts =>
  if (if t.k=3 then st else failM st 5).2≠0 then ([],if t.k=3 then st else failM st 5)
  else if sgOf t=sgC then ((golF n (argT t 0) st deep cuts).1++(golF n (argT t 1) (golF n (argT t 0) st deep cuts).2 deep cuts).1,(golF n (argT t 1) (golF n (argT t 0) st deep cuts).2 deep cuts).2)
  else if sgOf t=sgT then ([],st)
  else if st.1 - 1<0∨10<deep then ([],failM (st.1 - 1,st.2) 3)
  else if sgOf t=sgX then ([.mk 3 zeroT [] [] []],if cuts then (st.1 - 1,st.2) else failM (st.1 - 1,st.2) 5)
  else if sgOf t=sgN then ([.mk 5 zeroT (golF n (argT t 0) (st.1 - 1,st.2) (deep+1) false).1 [] []],(golF n (argT t 0) (st.1 - 1,st.2) (deep+1) false).2)
  else if bltB (sgOf t) then ([.mk 2 t [] [] []],(st.1 - 1,st.2))
  else if ctlB (sgOf t) then ([],failM (st.1 - 1,st.2) 5)
  else ([.mk 1 t [] [] []],(st.1 - 1,st.2))

mutual
def noCh:Tm→Bool
 | .mk _ s _ l=>!strEq s (Tx [59]) && !strEq s (Tx [45,62])&&noChL l
def noChL:List Tm→Bool
 |[]=>true
 |t::r=>noCh t&&noChL r
end
theorem noCh_eq (t:Tm):noCh t=(!strEq t.s (Tx [59]) && !strEq t.s (Tx [45,62])&&noChL t.l):=by cases t;rw[noCh];rfl

theorem noChL_mem {l:List Tm}(h:noChL l=true):∀x∈l,noCh x=true:=by
 induction l with
 |nil=>intro x hx;cases hx
 |cons y r ih =>
  simp only[noChL,Bool.and_eq_true]at h
  intro x hx
  rcases List.mem_cons.1 hx with rfl |hx
  ·exact h.1
  ·exact ih h.2 x hx

theorem noCh_arg {t:Tm}(h:noCh t=true){i:Nat}(hi:i<t.l.length):noCh (argT t i)=true:=by
 rw[noCh_eq]at h
 simp only[Bool.and_eq_true]at h
 unfold argT
 rw[List.getElem?_eq_getElem hi]
 exact noChL_mem h.2 _ (List.getElem_mem hi)

theorem noCh_sg {t:Tm}(h:noCh t=true):sgOf t≠sgO∧sgOf t≠sgI:=by
 rw[noCh_eq]at h
 simp only[Bool.and_eq_true,Bool.not_eq_true']at h
 refine⟨fun e=>?_,fun e=>?_⟩
 ·have:t.s=Tx [59]:=congrArg Prod.fst e
  have h2:=h.1.1
  rw[Tm.strEq_iff.2 this]at h2;cases h2
 ·have:t.s=Tx [45,62]:=congrArg Prod.fst e
  have h2:=h.1.2
  rw[Tm.strEq_iff.2 this]at h2;cases h2

theorem size_arg {t:Tm}{i:Nat}(hi:i<t.l.length):(argT t i).size+1≤t.size:=by
 unfold argT
 rw[List.getElem?_eq_getElem hi]
 have key:∀ (l:List Tm) (i:Nat) (h:i<l.length),(l[i]).size≤Tm.sizeL l:=by
  intro l
  induction l with
  |nil=>intro i h;simp at h
  |cons x r ih =>
   intro i h
   simp only[Tm.sizeL]
   cases i with
   |zero=>simp
   |succ i =>
    have:=ih i (by simpa using h)
    simp only[List.getElem_cons_succ];omega
 have:=key t.l i hi
 cases t
 simp only[Tm.size,Tm.l,Option.getD_some]at *
 omega

theorem size_two {t:Tm}(h:t.l.length=2):(argT t 0).size+(argT t 1).size+1≤t.size:=by
 cases t with
 |mk k s n l =>
  simp only[Tm.l]at h
  match l,h with
  |[a,b],_=>simp[argT,Tm.l,Tm.size,Tm.sizeL];omega

theorem SmT.arg {t:Tm}(h:SmT t){i:Nat}(hi:i<t.l.length):SmT (argT t i):=by
 have:=size_arg hi
 refine⟨by have:=h.1;omega,fun x e he=>?_⟩
 unfold argT at he
 rw[List.getElem?_eq_getElem hi]at he
 refine h.2 (x - 1) e ?_
 rw[Tm.els_eq]
 exact List.mem_cons_of_mem _ (Tm.els_memL (List.getElem_mem hi) (by rw[Int.sub_add_cancel];exact he))

theorem sg_len {t:Tm}{s:ByteArray}{n:Nat}(h:sgOf t=(s,(n:Int))):t.l.length=n:=by
 have:((t.l.length:Nat):Int)=n:=congrArg Prod.snd h
 omega

theorem golF_succ (n:Nat)(t:Tm)(st:Int × Int)(deep:Int)(cuts:Bool):golF (n+1) t st deep cuts =
  if (if t.k=3 then st else failM st 5).2≠0 then ([],if t.k=3 then st else failM st 5)
  else if sgOf t=sgC then ((golF n (argT t 0) st deep cuts).1++(golF n (argT t 1) (golF n (argT t 0) st deep cuts).2 deep cuts).1,(golF n (argT t 1) (golF n (argT t 0) st deep cuts).2 deep cuts).2)
  else if sgOf t=sgT then ([],st)
  else if st.1 - 1<0∨10<deep then ([],failM (st.1 - 1,st.2) 3)
  else if sgOf t=sgX then ([.mk 3 zeroT [] [] []],if cuts then (st.1 - 1,st.2) else failM (st.1 - 1,st.2) 5)
  else if sgOf t=sgN then ([.mk 5 zeroT (golF n (argT t 0) (st.1 - 1,st.2) (deep+1) false).1 [] []],(golF n (argT t 0) (st.1 - 1,st.2) (deep+1) false).2)
  else if bltB (sgOf t) then ([.mk 2 t [] [] []],(st.1 - 1,st.2))
  else if ctlB (sgOf t) then ([],failM (st.1 - 1,st.2) 5)
  else ([.mk 1 t [] [] []],(st.1 - 1,st.2)):=rfl

theorem golF_ok:∀ (n:Nat) (t:Tm) (st:Int × Int) (deep:Int) (cuts:Bool),SmT t→allGL SmT (golF n t st deep cuts).1∧Gl.sizeL (golF n t st deep cuts).1+1≤2 * t.size∧st.1 - t.size≤(golF n t st deep cuts).2.1∧(golF n t st deep cuts).2.1≤st.1
 |0,t,st,deep,cuts,h=>by
  have:=Gl.tmPos t
  simp only[golF,allGL,Gl.sizeL]
  exact⟨trivial,by omega,by omega,Int.le_refl _⟩
 |n+1,t,st,deep,cuts,h=>by
  have hp:=Gl.tmPos t
  have hz:SmT zeroT:=⟨by decide,fun x e he=>by
   simp only[zeroT,Tm.els,Tm.elsL,List.mem_singleton]at he
   subst he;show (0:Nat)<1000000000;decide⟩
  have f1:∀ (st:Int × Int) (c:Int),(failM st c).1=st.1:=fun st c=>by unfold failM;split<;>rfl
  have f2:(if t.k=3 then st else failM st 5).1=st.1:=by split;rfl;exact f1 _ _
  have one:∀ (k:Int) (u:Tm) (a:List Gl),SmT u→allGL SmT a→allGL SmT [.mk k u a [] []]:=fun k u a h1 h2=>by
   simp only[allGL,allG];exact⟨⟨h1,h2,trivial,trivial⟩,trivial⟩
  have sz:∀ (k:Int) (u:Tm) (a:List Gl),Gl.sizeL [.mk k u a [] []]=u.size+Gl.sizeL a:=fun k u a=>by simp[Gl.sizeL,Gl.size]
  have zs:zeroT.size=1:=rfl
  have hE:∀ (st':Int × Int),st'.1=st.1∨st'.1=st.1 - 1→(allGL SmT (([]:List Gl),st').1∧Gl.sizeL (([]:List Gl),st').1+1≤2 * t.size∧st.1 - t.size≤(([]:List Gl),st').2.1∧(([]:List Gl),st').2.1≤st.1):=fun st' h=>by
   simp only[allGL,Gl.sizeL];exact⟨trivial,by omega,by omega,by omega⟩
  rw[golF_succ]
  by_cases c0:(if t.k=3 then st else failM st 5).2≠0
  ·rw[if_pos c0];exact hE _ (.inl f2)
  rw[if_neg c0]
  by_cases c1:sgOf t=sgC
  ·rw [if_pos c1]
   have hl:=sg_len (n:=2) c1
   have h2:=size_two hl
   obtain⟨a1,a2,a3,a4⟩:=golF_ok n (argT t 0) st deep cuts (h.arg (by omega))
   obtain⟨b1,b2,b3,b4⟩:=golF_ok n (argT t 1) (golF n (argT t 0) st deep cuts).2 deep cuts (h.arg (by omega))
   refine⟨?_,by rw[Gl.sizeL_app];omega,by simp only;omega,by simp only;omega⟩
   refine allGL_of fun g hg=>?_
   rcases List.mem_append.1 hg with hg |hg
   ·exact allGL_mem a1 g hg
   ·exact allGL_mem b1 g hg
  rw[if_neg c1]
  by_cases c2:sgOf t=sgT
  ·rw[if_pos c2];exact hE _ (.inl rfl)
  rw[if_neg c2]
  by_cases c3:st.1 - 1<0∨10<deep
  ·rw[if_pos c3];exact hE _ (.inr (f1 _ _))
  rw[if_neg c3]
  by_cases c4:sgOf t=sgX
  ·rw [if_pos c4]
   have h4:(if cuts then (st.1 - 1,st.2) else failM (st.1 - 1,st.2) 5).1=st.1 - 1:=by split;rfl;exact f1 _ _
   refine⟨one _ _ _ hz (by simp only[allGL]),by rw[sz,zs];simp only[Gl.sizeL];omega,by simp only;omega,by simp only;omega⟩
  rw[if_neg c4]
  by_cases c5:sgOf t=sgN
  ·rw [if_pos c5]
   have hl:=sg_len (n:=1) c5
   have h2:=size_arg (t:=t) (i:=0) (by omega)
   obtain⟨a1,a2,a3,a4⟩:=golF_ok n (argT t 0) (st.1 - 1,st.2) (deep+1) false (h.arg (by omega))
   simp only at a3 a4
   refine⟨one _ _ _ hz a1,by rw[sz,zs];omega,by simp only;omega,by simp only;omega⟩
  rw[if_neg c5]
  by_cases c6:bltB (sgOf t)=true
  ·rw [if_pos c6]
   exact⟨one _ _ _ h (by simp only[allGL]),by rw[sz];simp only[Gl.sizeL];omega,by simp only;omega,by simp only;omega⟩
  rw[if_neg c6]
  by_cases c7:ctlB (sgOf t)=true
  ·rw[if_pos c7];exact hE _ (.inr (f1 _ _))
  rw[if_neg c7]
  exact⟨one _ _ _ h (by simp only[allGL]),by rw[sz];simp only[Gl.sizeL];omega,by simp only;omega,by simp only;omega⟩

def goalsT (t:Tm):List Gl × Int :=
 if rightT t then (if (golF t.size t (20,0) 1 true).2.2≠0 then ([],(golF t.size t (20,0) 1 true).2.2) else ((golF t.size t (20,0) 1 true).1,0)) else ([],1)

def loadOne (x:Clau):Cs × Int :=
 if sgOf x.1=sgR then (⟨argT x.1 0,(goalsT (argT x.1 1)).1,x.2.length⟩,if ownB (argT x.1 0) then (goalsT (argT x.1 1)).2 else 5)
 else (⟨x.1,[],x.2.length⟩,if ownB x.1 then 0 else 5)

def loadL:List Clau→Nat→List Cs→List Cs × Int × Int
 |[],_,out=>if (checkR out).2≠0 then ([],(checkR out).1,(checkR out).2) else (out,0,0)
 |x::l,i,out=>if (loadOne x).2≠0 then ([],(i:Int),(loadOne x).2) else loadL l (i+1) (out++[(loadOne x).1])
end PSL
namespace PSL
open Go
end PSL

namespace PSL
open Go Go.RowKit

theorem HS.remap2 {S0:Nat→Prop}{φ φ':List Phy}{objs objs':List Ob}{w:World}(h:HS S0 φ objs w)(f:AV→AV)(hlen:φ'.length=objs'.length)(σ:Nat→Nat)(hσ:∀i j,i<φ'.length→j<φ'.length→σ i=σ j→i=j)(hph:∀ (i:Nat) (p:Phy) (b:Nat),φ'[i]? = some p→p.bl b→∃q,φ[σ i]? = some q∧q.bl b)
  (hobj:∀ (i:Nat) (ob':Ob),objs'[i]? = some ob'→ob'=.dead∨(∃ob,objs[i]? = some ob∧φ'[i]? = φ[i]? ∧ ob'=mapOb f ob)∨∃ph,φ'[i]? = some ph∧ObOk (SS S0 φ') w φ' ph ob') (hf:∀x v,RV (SS S0 φ) w φ x v→RV (SS S0 φ') w φ' (f x) v):HS S0 φ' objs' w:=by
 have hbl:∀b,bls φ' b→bls φ b:=by
  rintro b ⟨i,p,h1,h2⟩
  obtain⟨q,h3,h4⟩:=hph i p b h1 h2
  exact⟨σ i,q,h3,h4⟩
 have hkeep:Keep (SS S0 φ) w (SS S0 φ') w:=fun b hb _=>⟨⟨hb.1,fun hc=>hb.2 (hbl b hc)⟩,rfl⟩
 refine⟨hlen,fun i ph ob' h1 h2=>?_,fun i j p q b h1 h2 h3 h4=>?_,fun b hb=>h.lt b (hbl b hb),h.up⟩
 ·rcases hobj i ob' h2 with rfl | ⟨ob,h3,h4,rfl⟩ | ⟨ph',h3,h4⟩
  ·simp only[ObOk]
  ·rw [h1] at h4
   have hk:=h.ok i ph ob h4.symm h3
   cases ph<;>cases ob<;>simp only[ObOk,mapOb]at hk ⊢
   ·obtain ⟨cs,T,h5,h6⟩:=hk
    exact⟨cs,T,h5,h6.map' f hf⟩
   ·obtain ⟨ents,clk,h5,h6,h7⟩:=hk
    refine⟨ents,clk,h5,?_,?_⟩
    ·simpa[List.map_map,Function.comp_def]using h6
    ·have:=h7.map' f hf
     simpa[List.map_map,Function.comp_def]using this
   ·exact hk
   ·obtain ⟨cs,h5,h6⟩:=hk
    exact⟨cs,h5,h6.map' f hf⟩
   ·obtain ⟨h0,h0',h5,h6⟩:=hk
    refine⟨h0,h0',h5,?_⟩
    rcases h6 with h6 |⟨b,o,cap,cs,T,g1,g2,g3,g4,g5,g6,g7⟩
    ·exact .inl h6
    ·refine .inr ⟨b,o,cap,cs,T,g1,g2,g3,g4,g5,g6,fun i r j x hi hj=>?_⟩
     obtain⟨y,h9,h10⟩:=g7 i r j x hi hj
     exact⟨y,h9,h10.mono hkeep⟩
   ·exact hk
   ·exact⟨hk.1,hk.1 _ _ _ _ _ _ (Nat.le_refl _) (fun _ _=>rfl) hkeep hk.2⟩
   ·obtain ⟨h0,h0',h1,h2⟩:=hk
    refine⟨h0,h0',h1,fun i x r hi hr=>?_⟩
    obtain⟨cs,T,h3,h4,h5,h6,h7⟩:=h2 i x r hi hr
    refine⟨cs,T,h3,h4,h5,h6,fun j d hd=>?_⟩
    obtain⟨y,h8,h9⟩:=h7 j d hd
    exact⟨y,h8,h9.mono hkeep⟩
  ·rw[h1]at h3;cases h3;exact h4
 ·obtain ⟨p',k1,k1'⟩:=hph i p b h1 h3
  obtain⟨q',k2,k2'⟩:=hph j q b h2 h4
  exact hσ i j (List.getElem?_eq_some_iff.1 h1).1 (List.getElem?_eq_some_iff.1 h2).1 (h.dist _ _ p' q' b k1 k2 k1' k2')
section
variable {g:G} {pf:Nat→Cls} {ops:Array Oper} {Fin:Exit→Act→World→Prop}

def mvA (n i:Nat):AV→AV
 | .ow j t=>bif Nat.beq j i then .ow n t else trimA n (.ow j t)
 |x=>trimA n x

theorem R_moveO {k:List It}{E:Env}{objs:List Ob}(n i:Nat){sz s:Nat}{rows:List (List D)}(objs':List Ob)(hn:g.φ0.length≤n)(hni:n≤i)(ho:nth objs i=some (.arr sz s rows))(ht:topCode k=true)(hobj:(objs.take n).map (mapOb (trimA n))++[.arr sz s rows]=objs')
  (hr:R g pf Fin k (mapE (mvA n i) E) objs') (hdf:g.dfs=[]:=by rfl):R g pf Fin k E objs:=by
 subst hobj
 refine R_ghost ht (fun a w hs=>?_) hr
 obtain⟨φ,h1,h2,h3,h4,h5,h6⟩:=hs
 rw[nth_eq]at ho
 have hil:=(List.getElem?_eq_some_iff.1 ho).1
 have hph:φ[i]? = some (φ[i]'(by rw[h1.len];exact hil)):=List.getElem?_eq_getElem _
 generalize φ[i]'(by rw[h1.len];exact hil)=ph at hph
 have hk:=h1.ok i ph _ hph ho
 have hnl:(φ.take n).length=n:=by rw[List.length_take,h1.len];omega
 have hp:∀j,j<n→(φ.take n++[ph])[j]? = φ[j]? := fun j hj=>by rw[List.getElem?_append_left (by omega)];exact List.getElem?_take_of_lt hj
 have hpn:(φ.take n++[ph])[n]? = some ph:=by rw[List.getElem?_append_right (by omega),hnl,Nat.sub_self];rfl
 have hsrc:∀ (j:Nat) (p:Phy),(φ.take n++[ph])[j]? = some p→(j<n∧φ[j]? = some p)∨(j=n∧p=ph):=fun j p hj=>by
  rcases Nat.lt_or_ge j n with h |h
  ·exact .inl ⟨h,by rw[← hp j h];exact hj⟩
  ·have hjl:=(List.getElem?_eq_some_iff.1 hj).1
   rw[List.length_append,hnl,List.length_singleton]at hjl
   have:j=n:=by omega
   subst this
   rw[hpn]at hj;cases hj
   exact .inr ⟨rfl,rfl⟩
 have hbl:∀b,bls (φ.take n++[ph]) b→bls φ b:=by
  rintro b ⟨j,p,g1,g2⟩
  rcases hsrc j p g1 with ⟨_,h⟩ |⟨_,rfl⟩
  ·exact⟨j,p,h,g2⟩
  ·exact⟨i,p,hph,g2⟩
 have hkeep:Keep (SS g.S0 φ) w (SS g.S0 (φ.take n++[ph])) w:=fun b hb _=>⟨⟨hb.1,fun hc=>hb.2 (hbl b hc)⟩,rfl⟩
 have hk':ObOk (SS g.S0 (φ.take n++[ph])) w (φ.take n++[ph]) ph (.arr sz s rows):=by
  cases ph<;>simp only[ObOk]at hk ⊢
  obtain⟨h0,h0',h5,h6⟩:=hk
  refine⟨h0,h0',h5,?_⟩
  rcases h6 with h6 |⟨b,o,cap,cs,T,g1,g2,g3,g4,g5,g6,g7⟩
  ·exact .inl h6
  ·refine .inr ⟨b,o,cap,cs,T,g1,g2,g3,g4,g5,g6,fun i r j x hi hj=>?_⟩
   obtain⟨y,h9,h10⟩:=g7 i r j x hi hj
   exact⟨y,h9,h10.mono hkeep⟩
 have htr:∀x v,RV (SS g.S0 φ) w φ x v→RV (SS g.S0 (φ.take n++[ph])) w (φ.take n++[ph]) (trimA n x) v:=trimA_ok hkeep hp
 refine⟨φ.take n++[ph],h1.remap2 (trimA n) (by simp[h1.len]) (fun j=>if j<n then j else i) (fun a b ha hb he=>?_) (fun j p b hj hb=>?_) (fun j ob' hj=>?_) htr,fun b hb=>h2 b (hbl b hb),fun u=>?_,h4,Mks.phs hdf h5 hbl,h6.phs (fun j l I B h=>⟨B,?_⟩) (fun j p hj=>?_)⟩
 ·rw [List.length_append,hnl,List.length_singleton] at ha hb
  by_cases h:a<n<;>by_cases h':b<n<;>simp only[h,h',if_true,if_false]at he<;>omega
 ·rcases hsrc j p hj with ⟨h,h'⟩ | ⟨h,rfl⟩
  ·exact⟨p,by simp only[if_pos h];exact h',hb⟩
  ·exact⟨p,by simp only[h,Nat.lt_irrefl,if_false];exact hph,hb⟩
 ·have hol:((objs.take n).map (mapOb (trimA n))).length=n:=by rw [List.length_map,List.length_take]; omega
  rcases Nat.lt_or_ge j n with h |h
  ·rw [List.getElem?_append_left (by omega),List.getElem?_map,List.getElem?_take_of_lt h] at hj
   cases hoj:objs[j]? with
   |none=>rw[hoj]at hj;cases hj
   |some ob=>rw[hoj]at hj;exact .inr (.inl ⟨ob,rfl,hp j h,by simpa using hj.symm⟩)
  ·have hjl:=(List.getElem?_eq_some_iff.1 hj).1
   rw[List.length_append,hol,List.length_singleton]at hjl
   have:j=n:=by omega
   subst this
   rw[List.getElem?_append_right (by omega),hol,Nat.sub_self]at hj
   simp only[List.getElem?_cons_zero,Option.some.injEq]at hj
   subst hj
   exact .inr (.inr ⟨ph,hpn,hk'⟩)
 ·rcases lk_mapE (f:=mvA n i) E u with h | h
  ·rw [h]
   have hv:=h3 u
   generalize lk E u=x at hv
   cases x with
   |ow j t =>
    simp only[mvA]
    cases hb:Nat.beq j i with
    |false=>exact htr _ _ hv
    |true =>
     have:=natBeq hb
     subst this
     simp only[cond_true,RV]at hv ⊢
     obtain⟨q1,ph',q2,q3⟩:=hv
     rw[hph]at q2;cases q2
     exact⟨q1,ph,hpn,q3⟩
   |_=>exact htr _ _ hv
  ·rw[h];simp[RV]
 ·rcases hsrc j _ h with ⟨hjn,hj⟩ | ⟨_,hj⟩
  ·exact hj
  ·subst hj;simp only[ObOk]at hk
 ·obtain ⟨p',h7,h8⟩:=h6.le j p hj
  exact⟨p',by rw[hp j (Nat.lt_of_lt_of_le (List.getElem?_eq_some_iff.1 hj).1 hn)];exact h7,h8⟩
end
end PSL

namespace Go.Proofs.YtcgkgofmldhokaaGreat
open Go PSL Go.Proofs
def pfOwn:Nat→Cls:=fun f=>bif Nat.beq f 4800100000 then .turn 100 else bif Nat.beq f 4000000005 then .turn 0 else .eff
def mkO (st:Int × Int):List Ob:=[.box [iV st.1,iV st.2]]

theorem mkFail_ok (Y:YP)(st:Int × Int)(c:Int):SCtr Tryz.prog Y 119 [.lo 0 0,iV c] (mkO st) (.tup []) (mkO (failM st c)):=by
 obtain⟨left,e⟩:=st
 refine SCtr.of_R (pf:=fun _=>.eff) tyOk mixed Tryz.func119 rfl (by kernel_rfl) (by kernel_rfl) (by simp[Tryz.ntmps119]) (by simp[mkO]) fun w S φ hg=>?_
 refine R_k hg.ok rfl rfl ?_
 unfold failM
 by_cases he:e=0
 ·rw [if_pos he]
  refine R_if rfl rfl (fun _=>?_) (fun h=>absurd h (by simp[he]))<;>refine R_k hg.ok rfl rfl ?_
  exact R_endS hg 1 5 (Nat.le_refl _) rfl rfl rfl
 ·rw [if_neg he]
  refine R_if rfl rfl (fun h=>absurd h (by simp[he])) (fun _=>?_)<;>refine R_k hg.ok rfl rfl ?_
  exact R_endS hg 1 5 (Nat.le_refl _) rfl rfl rfl

theorem mkOne_ok (Y:YP)(st:Int × Int)(g:Gl):SCtr Tryz.prog Y 120 [.lo 0 0,g.av] (mkO st) (.ow 1 0) (mkO st++[.arr 8 0 (Gl.rows [g])]):=by
 refine SCtr.of_R (pf:=pfOwn) tyOk mixed Tryz.func120 rfl (by kernel_rfl) (by kernel_rfl) (by simp[Tryz.ntmps120]) (by simp[mkO]) fun w S φ hg=>?_
 refine R_k hg.ok rfl rfl ?_
 refine R_buildO hg.ok [Gl.row g] rfl rfl rfl rfl rfl rfl rfl rfl (by simp) (by simp) ?_
 refine R_k hg.ok rfl rfl ?_
 rw[Gl.rows_eq]
 refine R_moveO 1 2 (mkO st++[.arr 8 0 [Gl.row g]]) (by show φ.length≤1;exact Nat.le_of_eq hg.hs0.len) (by decide) rfl rfl rfl ?_
 exact R_retS hg 2 5 (by show (1:Nat)≤2;omega) rfl rfl rfl
end Go.Proofs.YtcgkgofmldhokaaGreat
