import Derived.Test.YtmjmngigbachdaaGreatDoorM3
set_option maxRecDepth 100000
set_option maxHeartbeats 4000000
namespace Go.Proofs.YtmjmngigbachdaaGreatDoor
open Go ax Go.Proofs
def cC (d:Nat)(B:an):List Ob:=[.box [.mp 1,.ow 2 (B.length+d)],.map (ct (uJ B)),.arr 1 (B.length+d) (cD (B.map (·.1)))]
theorem iZ (Y:YP)(d:Nat)(B:an)(hc:Tm.j9 B)(t:Tm):aU Tryz.prog Y 124 [.lo 0 0,t.av] (cC d B) (Tm.aG B t).av (cC d B):=by
 refine Qo Tryz.func124 λw S φ hg=>?_
 have hφ:φ.length=3:=hg.kh.len;have an1:∀(j:Nat) (c:Int×Tm),B[j]? = some c->t.k=1->c.1=t.n->B.length-j<=B.length+1:=λj c _ _ _=>by omega
 have jj:∀(o:List Ob),(cC d B).map (aR (bZ false 3 o 5))=cC d B:=λo=>by simp only[cC,bM,fm];rw[dS (λt=>rfl)];rfl
 refine ag ?_;refine a7 (λx:Nat×Tm=>([(0,.lo 0 0),(3,.lo 3 0),(4,.lo 4 0)],cC d B++[aO x.2,.box [.d (.v (.int .i64 0)),.d (.v (.string ByteArray.empty)),.d (.v (.int .i64 0)),.d (.v (.slice none 0 0))]])) (λx=>Tm.aG B t=Tm.eh B x.1 x.2/\∀(j:Nat) (c:Int×Tm),B[j]? = some c->x.2.k=1->c.1=x.2.n->B.length-j<=x.1) (λx=>x.1) (B.length+1,t) ⟨rfl,an1⟩ pI rfl ?_;rintro⟨f,u⟩ ⟨hm,hf⟩;simp only at hm hf;refine ag ?_;refine af (λh1=>?_) λh1=>?_
 have aI:u.k=1:=by simpa using h1
 cases hb:ba B u.n with
 |none=>
  refine ahj ?_;refine mM ?_
  have e:Tm.aG B t=u:=by
   rw[hm];cases f with
   |zero=>rfl
   |succ f=>simp only[Tm.eh];rw[if_pos aI,hb]
  rw[e];exact WO
 |some x=>
  obtain⟨j,hj⟩:=Tm.C8 hb;have BP:=(fu.1 hj).1;have h2:=hf j _ hj aI rfl;obtain⟨f,rfl⟩:∃g,f=g+1:=⟨f-1,by omega⟩;refine ahk ?_;refine gg ?_;refine bf 5 (cC d B++[aO x,.box [.d (.v (.int .i64 0)),.d (.v (.string ByteArray.empty)),.d (.v (.int .i64 0)),.d (.v (.slice none 0 0))]]) tn rfl ?_ ?_;simp only [cC,jo,yp];show _::aR _ (.map (ct (uJ B)))::_=_
  rw[dS (λt=>rfl)];rfl;refine bb (f,x) ⟨?_,λj' c FA hk hn=>?_⟩ gP pI rfl;rw[hm];simp only[Tm.eh];rw[if_pos aI,hb];have:=hc.chain j _ hj hk j' c FA hn;omega
 have aI:¬ u.k=1:=by simpa using h1
 have e:Tm.aG B t=u:=by
  rw[hm];cases f with
  |zero=>rfl
  |succ f=>simp only[Tm.eh];rw[if_neg aI]
 rw[e];exact WO
theorem ja (Y:YP)(d:Nat)(B:an)(v:Int)(t:Tm)(hv:ba B v=none)(hB:B.length<1000000):aU Tryz.prog Y 126 [.lo 0 0,iV v,t.av] (cC d B) (.cP []) (cC d (B++[(v,t)])):=by
 refine Qo Tryz.func126 λw S φ hg=>?_
 have hφ:φ.length=3:=hg.kh.len;refine ag ?_;refine tG hg.ok (uJ B) rfl rfl rfl rfl rfl rfl rfl (by rw[AF,hv];rfl) (ag ?_);refine cR hg.ok (cD (B.map (·.1)++[v])) rfl rfl rfl rfl rfl rfl rfl rfl rfl aD NK (Mq _ _) WY WY (ag ?_);refine mq hg 3 5 cZ rfl rfl ?_;have e1:ct (uJ B++[(v,t.av)])=ct (uJ (B++[(v,t)])):=by rw[aab]
 have e2:B.map (·.1)++[v]=(B++[(v,t)]).map (·.1):=by simp
 have e3:(B++[(v,t)]).length+d=B.length+d+1:=by simp;omega
 show [_,aR _ (.map (ct (uJ B++[(v,t.av)]))),_]=_
 rw[e1,dS (λt=>rfl),e2];unfold cC;rw[e3];rfl
def rU (d:Nat)(B:an)(v:Int)(M:List Int):List Ob:=cC d B++[.box [iV v],.box [.lo 0 0],.box [.mp 6],.map (ct (M.map λn=>(n,bV true))),.box [.b9 157 [] [.lo 3 0,.lo 4 0,.lo 5 0,.lo 7 0]]]
theorem Dv {f:AV->AV}(ht:∀t:Tm,f t.av=t.av)(hb:∀b,f (bV b)=bV b)(hi:∀n,f (iV n)=iV n)(h1:f (.mp 1)=.mp 1)(h2:∀s,f (.ow 2 s)=.ow 2 s)(h3:f (.lo 0 0)=.lo 0 0)(h4:f (.mp 6)=.mp 6)(h5:f (.b9 157 [] [.lo 3 0,.lo 4 0,.lo 5 0,.lo 7 0])=.b9 157 [] [.lo 3 0,.lo 4 0,.lo 5 0,.lo 7 0])(d:Nat)(B:an)(v:Int)(M:List Int):(rU d B v M).map (aR f)=rU d B v M:=by simp only[rU,cC,eR,bM,fm,jo,yp,dS ht,rh hb];simp[aR,h1,h2,h3,h4,h5,hi]
theorem PB (Y:YP)(d:Nat)(B:an)(hB:∀b∈B,b.2.size<400000000)(hBl:B.length<1000000)(v:Int):∀(u:Nat) (n:Nat) (t:Tm) (M:List Int),t.size<=n->t.size<400000000->(B.countP λb=>!M.contains b.1)<u->aU Tryz.prog Y 157 [t.av,.lo 3 0,.lo 4 0,.lo 5 0,.lo 7 0] (rU d B v M) (bV (Tm.rT (Tm.vQ B v u) t M).1) (rU d B v (Tm.rT (Tm.vQ B v u) t M).2):=by
 intro u;induction u with
 |zero=>intro n t M _ _ h;omega
 |succ u ihu=>
 intro n;induction n with
 |zero=>intro t M h _;have:=Tm.size_pos t;omega
 |succ n ihn=>
 intro t M hn ht hu;refine Qo Tryz.func157 λw S φ hg=>?_
 have hφ:φ.length=8:=hg.kh.len;have jj:∀(Q:List Int) (o:List Ob),(rU d B v Q).map (aR (bZ false 8 o 5))=rU d B v Q:=λQ o=>Dv cN cN cN rfl cN rfl rfl rfl d B v Q
 have abU:∀(n:Nat) (Z:List Int),(rU d B v Z).map (bG (rn [0,1,2,3,4,5,6,7] n))=rU d B v Z:=λn Z=>by
  have e:(bG (rn [0,1,2,3,4,5,6,7] n))=aR (dh (rn [0,1,2,3,4,5,6,7] n)):=by funext o;cases o<;>simp[bG,aR,gR]
  rw[e];exact Dv cN cN cN rfl cN rfl rfl rfl d B v Z
 have ret:∀{r:Bool} {Q:List Int},Tm.rT (Tm.vQ B v (u+1)) t M=(r,Q)->bV r=bV (Tm.rT (Tm.vQ B v (u+1)) t M).1/\rU d B v Q=rU d B v (Tm.rT (Tm.vQ B v (u+1)) t M).2:=λe=>by rw[e];exact⟨rfl,rfl⟩
 refine ag ?_;refine af (λh1=>?_) λh1=>?_
 have aI:t.k=1:=by simpa using h1
 refine af (λh2=>?_) λh2=>?_
 have h2:t.n=v:=by simpa using h2
 have e:=ret (r:=true) (Q:=M) (by rw[Tm.AZ aI];simp only[Tm.vQ];rw[if_pos h2]);rw[<-e.1,<-e.2];exact WL;have h2:¬ t.n=v:=by simpa using h2
 cases hb:ba B t.n with
 |none=>refine ahj ?_;refine mM ?_;have e:=ret (r:=false) (Q:=M) (by rw[Tm.AZ aI];simp only[Tm.vQ];rw[if_neg h2,hb]);rw[<-e.1,<-e.2];exact WL
 |some x=>
  refine ahk ?_;refine gg ?_;have tk:=Ds M t.n;cases hc:M.contains t.n with
  |true=>rw[hc,if_pos rfl]at tk;refine gN hg.ok (M.map λn=>(n,bV true)) rfl rfl rfl rfl rfl rfl rfl (zv:=.bool false) da (v:=bV true) (by rw[tk];rfl) (ag ?_);refine mM ?_;have e:=ret (r:=false) (Q:=M) (by rw[Tm.AZ aI];simp only[Tm.vQ];rw[if_neg h2,hb];simp only;rw[hc,if_pos rfl]);rw[<-e.1,<-e.2];exact WL
  |false=>
   rw[hc,if_neg aD]at tk;refine gN hg.ok (M.map λn=>(n,bV true)) rfl rfl rfl rfl rfl rfl rfl (zv:=.bool false) da (v:=.ff) (by rw[tk];rfl) (ag ?_);refine Gt hg.ok (bV true) (M.map λn=>(n,bV true)) ((M++[t.n]).map λn=>(n,bV true)) rfl rfl rfl rfl rfl rfl rfl tk .tt aD (ag ?_);have fC:=ihu x.size x (M++[t.n]) cZ (hB _ (Tm.du hb)) (by have:=Tm.Db hb hc;omega);have hq:Tm.rT (Tm.vQ B v (u+1)) t M=Tm.rT (Tm.vQ B v u) x (M++[t.n]):=by rw[Tm.AZ aI];simp only[Tm.vQ];rw[if_neg h2,hb];simp only;rw[hc,if_neg aD]
   rw[hq];generalize Tm.rT (Tm.vQ B v u) x (M++[t.n])=rq at fC;obtain⟨r,Q⟩:=rq;refine aj hg.ok hg.cm hg.wide hg.Y [0,1,2,3,4,5,6,7] (rU d B v Q++[aO t,aO x]) fC cN rfl rfl rfl rfl rfl Es rfl Es (ag ?_);exact aL hg 8 5 cZ rfl rfl (jj Q _)
 have aI:t.k≠1:=by simpa using h1
 have RF:Tm.rT (Tm.vQ B v (u+1)) t M=Tm.q8 (Tm.vQ B v (u+1)) t.l M:=Tm.adI aI;have hsz:Tm.aw t.l<=n:=by have:=Tm.size_eq t;omega
 have V2:=Tm.mA t.l;have EF:=Tm.size_eq t;refine a7 (λx:Nat×List Int=>([(4,.lo 7 0),(43,.d (.sl (Tm.aa t.l))),(44,iV t.l.length),(45,iV x.1)],rU d B v x.2++[aO t])) (λx=>x.1<=t.l.length/\Tm.rT (Tm.vQ B v (u+1)) t M=Tm.q8 (Tm.vQ B v (u+1)) (t.l.drop x.1) x.2/\(B.countP λb=>!x.2.contains b.1)<u+1) (λx=>t.l.length-x.1) (0,M) ⟨bU _,RF,hu⟩ ⟨.refl _,.refl _,bJ.int um,.refl _,trivial⟩ rfl ?_;rintro⟨k,Q⟩ ⟨hk,hm,hQ⟩;simp only at hk hm hQ;refine ag ?_;refine af (λh=>?_) λh=>?_
 have hkl:k<t.l.length:=bo h rfl;have e1:t.l[k]? = some t.l[k]:=dG hkl;have hms:=Tm.b8 (dy hkl);rw[List.drop_eq_getElem_cons hkl]at hm;generalize t.l[k]=x at e1 hms hm;simp only[Tm.q8]at hm;refine cJ (Tm.ay e1) ?_;have fC:=ihn x Q aq aq hQ;obtain⟨R0,aif⟩:=Tm.AX (Tm.AY B v (u+1)) x Q;have Ii:=Tm.count_le B Q R0;rw[<-aif]at Ii;generalize Tm.rT (Tm.vQ B v (u+1)) x Q=rq at fC hm Ii;obtain⟨r,Q'⟩:=rq;simp only at hm Ii;refine aj hg.ok hg.cm hg.wide hg.Y [0,1,2,3,4,5,6,7] (rU d B v Q'++[aO t,aO x]) fC cN rfl rfl rfl rfl rfl Es rfl Es (ag ?_);refine af (λh2=>?_) λh2=>?_
 have h2:r=true:=h2;subst h2;have e:=ret (r:=true) (Q:=Q') (by rw[hm,if_pos rfl]);rw[<-e.1,<-e.2];exact aL hg 8 5 cZ rfl rfl (jj Q' _);have h2:r=false:=h2;subst h2;refine bf 9 (rU d B v Q'++[aO t]) tn rfl ?_ ?_;show(rU d B v Q').map _++_=_
 rw[Dv cN cN cN rfl cN rfl rfl rfl d B v Q'];rfl;exact bb (k+1,Q') ⟨hkl,by rw[hm,if_neg aD],by simp only;omega⟩ gP ⟨.refl _,.refl _,.refl _,bJ.wrap gP gP gP,trivial⟩ rfl;have hkl:t.l.length<=k:=bw h rfl;rw[cX hkl]at hm;have e:=ret (r:=false) (Q:=Q) (by rw[hm];simp[Tm.q8]);rw[<-e.1,<-e.2];exact aL hg 8 5 cZ rfl rfl (jj Q _)
theorem gy (Y:YP)(d:Nat)(B:an)(hB:∀b∈B,b.2.size<400000000)(hBl:B.length<1000000)(v:Int)(t:Tm)(ht:t.size<400000000):aU Tryz.prog Y 125 [.lo 0 0,iV v,t.av] (cC d B) (bV (Tm.iv B v t)) (cC d B):=by
 refine Qo Tryz.func125 λw S φ hg=>?_
 have hφ:φ.length=3:=hg.kh.len;have jj:∀(o:List Ob),(cC d B).map (aR (bZ false 3 o 5))=cC d B:=λo=>by simp only[cC,bM,fm];rw[dS (λt=>rfl)];rfl
 have fC:=PB Y d B hB hBl v (B.length+1) t.size t [] cZ ht (by have:=Kf (p:=λb:Int×Tm=>!([]:List Int).contains b.1) (l:=B);omega)
 have abU:∀(n:Nat) (Z:List Int),(rU d B v Z).map (bG (rn [0,1,2,4,3,7,6,8] n))=cC d B++[.box [iV v],.box [.lo 0 0],.box [.mp 6],.map (ct (Z.map λn=>(n,bV true))),.box [.b9 157 [] [.lo 4 0,.lo 3 0,.lo 7 0,.lo 8 0]]]:=λn Z=>by
  have e:(bG (rn [0,1,2,4,3,7,6,8] n))=aR (dh (rn [0,1,2,4,3,7,6,8] n)):=by funext o;cases o<;>simp[bG,aR,gR]
  rw[e];simp only[rU,cC,eR,bM,fm,jo,yp,dS (f:=dh (rn [0,1,2,4,3,7,6,8] n)) cN,rh (f:=dh (rn [0,1,2,4,3,7,6,8] n)) cN];rfl
 have hw:Tm.iv B v t=(Tm.rT (Tm.vQ B v (B.length+1)) t []).1:=rfl;rw[hw];generalize Tm.rT (Tm.vQ B v (B.length+1)) t []=rq at fC;obtain⟨r,Q⟩:=rq;refine ag ?_;refine Eo ?_;refine aj hg.ok hg.cm hg.wide hg.Y [0,1,2,4,3,7,6,8] (cC d B++[.box [.lo 0 0],.box [iV v],aO t,.map (ct (Q.map λn=>(n,bV true))),.box [.mp 6],.box [.b9 157 [] [.lo 4 0,.lo 3 0,.lo 7 0,.lo 8 0]]]) fC cN rfl rfl rfl rfl rfl Es rfl Es (ag ?_);exact WO
def cn (d:Nat)(a b:Tm)(B:an)(s:Nat)(T:List (Tm×Tm))(cK:List (Int×Int)):List Ob:=cC d B++[aO a,aO b,.arr 8 s (gx T),.map (oD (si cK))]
theorem cp (d:Nat)(B:an)(n:Nat):(cC d B).map (bG (rn [0,1,2] n))=cC d B:=by
 have e:(bG (rn [0,1,2] n))=aR (dh (rn [0,1,2] n)):=by funext o;cases o<;>simp[bG,aR,gR]
 rw[e];simp only[cC,bM,fm];rw[dS (λt=>rfl)];rfl
theorem fS (d:Nat)(a b:Tm)(B:an)(s:Nat)(T:List (Tm×Tm))(cK:List (Int×Int))(l:List Ob):((cn d a b B s T cK++l).take 7).map (aR (dD 7))=cn d a b B s T cK:=by
 have e:(cn d a b B s T cK++l).take 7=cn d a b B s T cK:=by simp[cn,cC]
 rw[e];simp only[cn,cC,eR,bM,fm,jo,yp];rw[dS (f:=dD 7) (λt=>rfl),Du (f:=dD 7) rfl];rfl
theorem zf (d:Nat)(a b:Tm)(B:an)(s:Nat)(T:List (Tm×Tm))(cK:List (Int×Int))(u v:Tm)(c e:Int)(l:List Ob):((cn d a b B s T cK++[aO u,aO v,.box [iV c,iV e]]++l).take 10).map (aR (dD 10))=cn d a b B s T cK++[aO u,aO v,.box [iV c,iV e]]:=by
 have e':(cn d a b B s T cK++[aO u,aO v,.box [iV c,iV e]]++l).take 10=cn d a b B s T cK++[aO u,aO v,.box [iV c,iV e]]:=by simp[cn,cC]
 rw[e'];simp only[cn,cC,eR,bM,fm,jo,yp];rw[dS (f:=dD 10) (λt=>rfl),Du (f:=dD 10) rfl];rfl
theorem Mr (Y:YP)(d:Nat){S:List Int}{N:Nat}(hS:S.length<=900000)(hN:N<=3000)(hSN:N*(N+S.length*N)<=1000000000000)(B0 B':an)(ok:Bool)(a b:Tm)(n0:Nat)(h0:Tm.eP S N a n0 [(a,b)] B0 [] B' ok):aU Tryz.prog Y 98 [.lo 0 0,a.av,b.av] (cC d B0) (bV ok) (cC d B'):=by
 refine aU.ej (pf:=an0) gK mixed Tryz.func98 rfl da da (by simp[Tryz.ntmps98]) (by simp[cC]) λw S0 φ hg=>?_
 have hφ:φ.length=3:=hg.kh.len;have jj:∀(B:an) (o:List Ob),(cC d B).map (aR (bZ false 3 o 5))=cC d B:=λB o=>by simp only[cC,bM,fm];rw[dS (λt=>rfl)];rfl
 refine ag ?_;refine NC ?_;refine Lg hg.ok (gx [(a,b)]) rfl rfl rfl rfl rfl rfl rfl rfl (by simp[gx]) (by simp[gx]) (ag ?_);refine Eo ?_;refine a7 (λx:Nat×List (Tm×Tm)×an×List (Int×Int)×Nat=>([(0,.lo 0 0),(7,.ow 5 x.2.2.2.2),(8,.mp 6)],cn d a b x.2.2.1 x.2.2.2.2 x.2.1 x.2.2.2.1)) (λx=>Tm.eP S N a x.1 x.2.1 x.2.2.1 x.2.2.2.1 B' ok) (λx=>x.1) (n0,[(a,b)],B0,[],0) h0 pI rfl ?_;rintro⟨n,T,B,cK,s⟩ hU;simp only at hU;have Kk:∀{n:Nat} {T:List (Tm×Tm)} {B:an} {cK:List (Int×Int)},Tm.eP S N a n T B cK B' ok->T.length<=1000000000001:=λh=>by have h1:=h.len;omega
 have Vv:=Kk hU;have hBl:=hU.ug.Pq;refine ag ?_;refine u2 hg.ok rfl rfl rfl rfl rfl (n:=(T.length:Int)) (by rw[iY]) (ag ?_);rcases List.eq_nil_or_concat T with rfl|⟨R,p,rfl⟩
 refine gg ?_;obtain⟨e1,e2⟩:=hU.nil;rw[e1,e2];exact wk;obtain⟨x,y⟩:=p;rw[List.concat_eq_append]at hU Vv ⊢;obtain⟨n,rfl⟩:=hU.pos;refine mM ?_;have hRl:(R++[(x,y)]).length=R.length+1:=by simp
 have kZ:(gx (R++[(x,y)]))[((R.length:Nat):Int).toNat]? = some (H3 (x,y)):=Lr aD;refine ah0 hg.ok 14 da da ?_ ?_;refine ag ?_;refine abK ?_;rw[pX (n:=((R++[(x,y)]).length:Int)-1) aq aq,show((R++[(x,y)]).length:Int)-1=((R.length:Nat):Int) by omega];refine abJ ?_;refine tH hg.ok 0 rfl rfl rfl rfl rfl rfl eA eA rfl (ag ?_);refine abQ ?_;refine abK ?_;rw[pX (n:=((R++[(x,y)]).length:Int)-1) aq aq,show((R++[(x,y)]).length:Int)-1=((R.length:Nat):Int) by omega];refine abJ ?_;refine tH hg.ok 4 rfl rfl rfl rfl rfl rfl eA eA rfl (ag ?_);refine abQ ?_;refine z8 ?_;refine z8 ?_;refine afk ?_;rw[pX (n:=((R++[(x,y)]).length:Int)-1) aq aq,show((R++[(x,y)]).length:Int)-1=((R.length:Nat):Int) by omega];refine aeN ?_;refine NC ?_;cases hs:Tm.kS x y cK with
 |true=>have fk:=hs;simp only[Tm.kS,aV,decide_eq_true_eq]at fk;refine cQ hg.ok rfl rfl (by simp[fk.1.1]) rfl rfl ?_;refine cQ hg.ok rfl rfl (by simp[fk.1.2]) rfl rfl ?_;refine aeP ?_;refine bf 7 (cn d a b B (s+1) R cK) tn rfl ?_ ?_;exact QI;exact afh
 |false=>
  have eX:=hU.step hs;by_cases Ae:x.k=1/\y.k=1;refine cQ hg.ok rfl rfl (by simp [Ae.1]) rfl rfl ?_;refine cQ hg.ok rfl rfl (by simp[Ae.2]) rfl rfl ?_;have hmc:cK.contains (x.n,y.n)=false:=by have:=hs;simp only[Tm.kS,Ae.1,Ae.2,decide_true,iu]at this;exact this
  have hmU:si cK++[((x.n,y.n),AV.tt)]=si (Tm.lX x y cK):=by simp[Tm.lX,Ae.1,Ae.2,si]
  refine aeS ?_;refine aeW ?_;generalize Tm.lX x y cK=ic at eX ⊢;obtain⟨ex,ey,zx,zy,sd,fK⟩:=eX;have cx:=iZ Y d B hU.ug.chain x;have cy:=iZ Y d B hU.ug.chain y;have Xq:∀c∈B,c.2.size<400000000:=λc hc=>by have:=hU.ug.sb c hc;omega
  generalize Tm.aG B x=x' at *;generalize Tm.aG B y=y' at *;refine Nj ?_;refine jM hg.ok hg.cm hg.wide hg.Y [0,1,2] (cn d a b B (s+1) R ic++[aO x,aO y,.box [iV x.n,iV y.n]]) cx cN (λi hi=>by show i<φ.length;simp at hi;omega) rfl rfl rfl rfl rfl jl rfl jl (ag ?_);refine Nk ?_;refine jM hg.ok hg.cm hg.wide hg.Y [0,1,2] (cn d a b B (s+1) R ic++[aO x,aO y,.box [iV x.n,iV y.n]]) cy cN (λi hi=>by show i<φ.length;simp at hi;omega) rfl rfl rfl rfl rfl jl rfl jl (ag ?_);refine z8 ?_;refine z8 ?_;by_cases hc:x'.k=1/\y'.k=1/\x'.n=y'.n;refine Qy ?_;refine Qw ?_;refine Qx ?_;refine bf 7 (cn d a b B (s+1) R ic) tn rfl ?_ ?_;exact fS d a b B (s+1) R ic _;exact afi;obtain⟨Br,vg⟩:=fK hc;by_cases mE:x'.k=1;obtain ⟨eY,eZ⟩:=Br mE;have cw:=gy Y d B Xq aq x'.n y' aq;have cb:=ja Y d B x'.n y' (ex mE) aq;generalize Tm.iv B x'.n y'=wb at cw eY eZ;by_cases yf:y'.k=1
  ·refine JK ?_;refine JL ?_;refine eG hg.ok rfl rfl (by have:¬ x'.n=y'.n:=λe=>hc ⟨mE,yf,e⟩;simp[this]) rfl rfl ?_;refine JM ?_;refine Nk ?_;refine ag6 ?_;cases wb with
   |true=>refine mM ?_;obtain⟨e1,e2⟩:=eY rfl;rw[e1,e2];exact wk
   |false=>
   have hN:=eZ rfl;refine gg ?_;refine Nk ?_;refine ak2 ?_;refine bf 7 (cn d a b (B++[(x'.n,y')]) (s+1) R ic) tn rfl ?_ ?_;exact QJ;exact abN
  ·refine JK ?_;refine JO ?_;refine JM ?_;refine Nk ?_;refine ag6 ?_;cases wb with
   |true=>refine mM ?_;obtain⟨e1,e2⟩:=eY rfl;rw[e1,e2];exact wk
   |false=>
   have hN:=eZ rfl;refine gg ?_;refine Nk ?_;refine ak2 ?_;refine bf 7 (cn d a b (B++[(x'.n,y')]) (s+1) R ic) tn rfl ?_ ?_;exact QJ;exact abN
  refine QA ?_;refine QB ?_;obtain⟨vh,Bt⟩:=vg mE;by_cases yf:y'.k=1
  ·obtain ⟨eY,eZ⟩:=vh yf;have cw:=gy Y d B Xq aq y'.n x' aq;have cb:=ja Y d B y'.n x' (ey yf) aq;generalize Tm.iv B y'.n x'=wb at cw eY eZ;refine JL ?_;refine Nj ?_;refine ag6 ?_;cases wb with
   |true=>refine mM ?_;obtain⟨e1,e2⟩:=eY rfl;rw[e1,e2];exact wk
   |false=>
   have hN:=eZ rfl;refine gg ?_;refine Nj ?_;refine aj hg.ok hg.cm hg.wide hg.Y [0,1,2] (cn d a b (B++[(y'.n,x')]) (s+1) R ic++[aO x',aO y',.box [iV x.n,iV y.n]]) cb cN rfl rfl rfl rfl rfl jl rfl jl (ag ?_);refine bf 7 (cn d a b (B++[(y'.n,x')]) (s+1) R ic) tn rfl ?_ ?_;exact fS d a b (B++[(y'.n,x')]) (s+1) R ic _;exact afb
  obtain ⟨eY,eZ⟩:=Bt yf;refine JO ?_;refine af (λc1=>?_) λc1=>?_
  have c1:¬ x'.k=y'.k:=by simpa using c1
  obtain⟨e1,e2⟩:=eY QS;rw[e1,e2];exact wk;have c1:x'.k=y'.k:=by simpa using c1
  refine af (λc2=>?_) λc2=>?_
  have c2:¬ x'.n=y'.n:=by simpa using c2
  obtain⟨e1,e2⟩:=eY QT;rw[e1,e2];exact wk;have c2:x'.n=y'.n:=by simpa using c2
  refine af (λc3=>?_) λc3=>?_
  have c3:aX x'.s y'.s=false:=by simpa using c3
  obtain⟨e1,e2⟩:=eY QU;rw[e1,e2];exact wk;have c3:aX x'.s y'.s=true:=by simpa using c3
  refine af (λc4=>?_) λc4=>?_
  have c4:¬ x'.l.length=y'.l.length:=by simp [Tm.ao]at c4; omega
  obtain⟨e1,e2⟩:=eY QV;rw[e1,e2];exact wk;have g4:x'.l.length=y'.l.length:=by simp[Tm.ao]at c4;omega
  have hN:=eZ abZ;have hN2:=Kk hN;have Kl:(x'.l.zip y'.l).length=x'.l.length:=by rw[mA1];omega
  have hRz:(R++x'.l.zip y'.l).length=R.length+x'.l.length:=by rw[List.length_append,Kl]
  refine a7 (λk:Nat=>([(0,.lo 0 0),(7,.ow 5 (s+1+k)),(8,.mp 6),(10,.lo 8 0),(66,.d (.sl (Tm.aa x'.l))),(67,iV x'.l.length),(68,iV k)],cn d a b B (s+1+k) (R++(x'.l.zip y'.l).take k) ic++[aO x',aO y',.box [iV x.n,iV y.n]])) (λk=>k<=x'.l.length) (λk=>x'.l.length-k) 0 fO ⟨.refl _,.refl _,.refl _,.refl _,.refl _,bJ.int um,.refl _,trivial⟩ alu ?_;rintro k hk;refine ag ?_;refine af (λh=>?_) λh=>?_
  have aI:k<x'.l.length:=bo h rfl;have e1:x'.l[k]? = some x'.l[k]:=dG aI;have e2:y'.l[k]? = some (y'.l[k]' aq):=dG aq;have e3:(x'.l.zip y'.l)[k]? = some (x'.l[k],y'.l[k]' aq):=by rw[mA3];exact⟨e1,e2⟩
  generalize x'.l[k]=xk at e1 e3;generalize (y'.l[k]' aq)=yk at e2 e3;have Js:R++(x'.l.zip y'.l).take (k+1)=(R++(x'.l.zip y'.l).take k)++[(xk,yk)]:=by rw[Jt,e3,List.append_assoc];rfl
  have VY:(R++(x'.l.zip y'.l).take k).length=R.length+k:=by rw[List.length_append,zi];omega
  refine cJ (Tm.ay e1) ?_;refine cJ (Tm.ay e2) ?_;refine NC ?_;refine abD ?_;refine mL9 ?_;refine bf 10 (cn d a b B (s+1+(k+1)) (R++(x'.l.zip y'.l).take (k+1)) ic++[aO x',aO y',.box [iV x.n,iV y.n]]) tn rfl ?_ ?_;exact afz;exact Wj;have aI:x'.l.length<=k:=bw h rfl;rw[Fm (by omega:(x'.l.zip y'.l).length<=k)];refine bf 7 (cn d a b B (s+1+k) (R++x'.l.zip y'.l) ic) tn rfl ?_ ?_;exact fS d a b B (s+1+k) (R++x'.l.zip y'.l) ic _;exact ae8;have hmU:Tm.lX x y cK=cK:=by unfold Tm.lX;rw[if_neg];simp only[aV,decide_eq_true_eq];exact Ae
  rw[hmU]at eX;obtain⟨ic,rfl⟩:∃m,cK=m:=⟨cK,rfl⟩;by_cases wa:x.k=1;refine cQ hg.ok rfl rfl (by simp [wa]) rfl rfl ?_;refine eG hg.ok rfl rfl (by have:¬ y.k=1:=λh=>Ae ⟨wa,h⟩;simp[this]) rfl rfl ?_;exact mB2;refine eG hg.ok rfl rfl (by simp [wa]) rfl rfl ?_;exact mB2
 refine ag ?_;refine abK ?_;rw[pX (n:=((R++[(x,y)]).length:Int)-1) aq aq,show((R++[(x,y)]).length:Int)-1=((R.length:Nat):Int) by omega];refine abJ ?_;refine tH hg.ok 0 rfl rfl rfl rfl rfl rfl eA eA rfl (ag ?_);refine abQ ?_;refine abK ?_;rw[pX (n:=((R++[(x,y)]).length:Int)-1) aq aq,show((R++[(x,y)]).length:Int)-1=((R.length:Nat):Int) by omega];refine abJ ?_;refine tH hg.ok 4 rfl rfl rfl rfl rfl rfl eA eA rfl (ag ?_);refine abQ ?_;refine z8 ?_;refine z8 ?_;refine afk ?_;rw[pX (n:=((R++[(x,y)]).length:Int)-1) aq aq,show((R++[(x,y)]).length:Int)-1=((R.length:Nat):Int) by omega];refine aeN ?_;refine NC ?_;cases hs:Tm.kS x y cK with
 |true=>have fk:=hs;simp only[Tm.kS,aV,decide_eq_true_eq]at fk;refine cQ hg.ok rfl rfl (by simp[fk.1.1]) rfl rfl ?_;refine cQ hg.ok rfl rfl (by simp[fk.1.2]) rfl rfl ?_;refine aeP ?_;refine bf 7 (cn d a b B (s+1) R cK) tn rfl ?_ ?_;exact QI;exact afh
 |false=>
  have eX:=hU.step hs;by_cases Ae:x.k=1/\y.k=1;refine cQ hg.ok rfl rfl (by simp [Ae.1]) rfl rfl ?_;refine cQ hg.ok rfl rfl (by simp[Ae.2]) rfl rfl ?_;have hmc:cK.contains (x.n,y.n)=false:=by have:=hs;simp only[Tm.kS,Ae.1,Ae.2,decide_true,iu]at this;exact this
  have hmU:si cK++[((x.n,y.n),AV.tt)]=si (Tm.lX x y cK):=by simp[Tm.lX,Ae.1,Ae.2,si]
  refine aeS ?_;refine aeW ?_;generalize Tm.lX x y cK=ic at eX ⊢;obtain⟨ex,ey,zx,zy,sd,fK⟩:=eX;have cx:=iZ Y d B hU.ug.chain x;have cy:=iZ Y d B hU.ug.chain y;have Xq:∀c∈B,c.2.size<400000000:=λc hc=>by have:=hU.ug.sb c hc;omega
  generalize Tm.aG B x=x' at *;generalize Tm.aG B y=y' at *;refine Nk ?_;refine jM hg.ok hg.cm hg.wide hg.Y [0,1,2] (cn d a b B (s+1) R ic++[aO y,aO x,.box [iV x.n,iV y.n]]) cx cN (λi hi=>by show i<φ.length;simp at hi;omega) rfl rfl rfl rfl rfl jl rfl jl (ag ?_);refine Nj ?_;refine jM hg.ok hg.cm hg.wide hg.Y [0,1,2] (cn d a b B (s+1) R ic++[aO y,aO x,.box [iV x.n,iV y.n]]) cy cN (λi hi=>by show i<φ.length;simp at hi;omega) rfl rfl rfl rfl rfl jl rfl jl (ag ?_);refine z8 ?_;refine z8 ?_;by_cases hc:x'.k=1/\y'.k=1/\x'.n=y'.n;refine Qy ?_;refine Qw ?_;refine Qx ?_;refine bf 7 (cn d a b B (s+1) R ic) tn rfl ?_ ?_;exact fS d a b B (s+1) R ic _;exact afi;obtain⟨Br,vg⟩:=fK hc;by_cases mE:x'.k=1;obtain ⟨eY,eZ⟩:=Br mE;have cw:=gy Y d B Xq aq x'.n y' aq;have cb:=ja Y d B x'.n y' (ex mE) aq;generalize Tm.iv B x'.n y'=wb at cw eY eZ;by_cases yf:y'.k=1
  ·refine JK ?_;refine JL ?_;refine eG hg.ok rfl rfl (by have:¬ x'.n=y'.n:=λe=>hc ⟨mE,yf,e⟩;simp[this]) rfl rfl ?_;refine JM ?_;refine Nj ?_;refine ag7 ?_;cases wb with
   |true=>refine mM ?_;obtain⟨e1,e2⟩:=eY rfl;rw[e1,e2];exact wk
   |false=>
   have hN:=eZ rfl;refine gg ?_;refine Nj ?_;refine ak3 ?_;refine bf 7 (cn d a b (B++[(x'.n,y')]) (s+1) R ic) tn rfl ?_ ?_;exact QJ;exact abN
  ·refine JK ?_;refine JO ?_;refine JM ?_;refine Nj ?_;refine ag7 ?_;cases wb with
   |true=>refine mM ?_;obtain⟨e1,e2⟩:=eY rfl;rw[e1,e2];exact wk
   |false=>
   have hN:=eZ rfl;refine gg ?_;refine Nj ?_;refine ak3 ?_;refine bf 7 (cn d a b (B++[(x'.n,y')]) (s+1) R ic) tn rfl ?_ ?_;exact QJ;exact abN
  refine QA ?_;refine QB ?_;obtain⟨vh,Bt⟩:=vg mE;by_cases yf:y'.k=1
  ·obtain ⟨eY,eZ⟩:=vh yf;have cw:=gy Y d B Xq aq y'.n x' aq;have cb:=ja Y d B y'.n x' (ey yf) aq;generalize Tm.iv B y'.n x'=wb at cw eY eZ;refine JL ?_;refine Nk ?_;refine ag7 ?_;cases wb with
   |true=>refine mM ?_;obtain⟨e1,e2⟩:=eY rfl;rw[e1,e2];exact wk
   |false=>
   have hN:=eZ rfl;refine gg ?_;refine Nk ?_;refine aj hg.ok hg.cm hg.wide hg.Y [0,1,2] (cn d a b (B++[(y'.n,x')]) (s+1) R ic++[aO y',aO x',.box [iV x.n,iV y.n]]) cb cN rfl rfl rfl rfl rfl jl rfl jl (ag ?_);refine bf 7 (cn d a b (B++[(y'.n,x')]) (s+1) R ic) tn rfl ?_ ?_;exact fS d a b (B++[(y'.n,x')]) (s+1) R ic _;exact afb
  obtain ⟨eY,eZ⟩:=Bt yf;refine JO ?_;refine af (λc1=>?_) λc1=>?_
  have c1:¬ x'.k=y'.k:=by simpa using c1
  obtain⟨e1,e2⟩:=eY QS;rw[e1,e2];exact wk;have c1:x'.k=y'.k:=by simpa using c1
  refine af (λc2=>?_) λc2=>?_
  have c2:¬ x'.n=y'.n:=by simpa using c2
  obtain⟨e1,e2⟩:=eY QT;rw[e1,e2];exact wk;have c2:x'.n=y'.n:=by simpa using c2
  refine af (λc3=>?_) λc3=>?_
  have c3:aX x'.s y'.s=false:=by simpa using c3
  obtain⟨e1,e2⟩:=eY QU;rw[e1,e2];exact wk;have c3:aX x'.s y'.s=true:=by simpa using c3
  refine af (λc4=>?_) λc4=>?_
  have c4:¬ x'.l.length=y'.l.length:=by simp [Tm.ao]at c4; omega
  obtain⟨e1,e2⟩:=eY QV;rw[e1,e2];exact wk;have g4:x'.l.length=y'.l.length:=by simp[Tm.ao]at c4;omega
  have hN:=eZ abZ;have hN2:=Kk hN;have Kl:(x'.l.zip y'.l).length=x'.l.length:=by rw[mA1];omega
  have hRz:(R++x'.l.zip y'.l).length=R.length+x'.l.length:=by rw[List.length_append,Kl]
  refine a7 (λk:Nat=>([(0,.lo 0 0),(7,.ow 5 (s+1+k)),(8,.mp 6),(10,.lo 7 0),(66,.d (.sl (Tm.aa x'.l))),(67,iV x'.l.length),(68,iV k)],cn d a b B (s+1+k) (R++(x'.l.zip y'.l).take k) ic++[aO y',aO x',.box [iV x.n,iV y.n]])) (λk=>k<=x'.l.length) (λk=>x'.l.length-k) 0 fO ⟨.refl _,.refl _,.refl _,.refl _,.refl _,bJ.int um,.refl _,trivial⟩ alu ?_;rintro k hk;refine ag ?_;refine af (λh=>?_) λh=>?_
  have aI:k<x'.l.length:=bo h rfl;have e1:x'.l[k]? = some x'.l[k]:=dG aI;have e2:y'.l[k]? = some (y'.l[k]' aq):=dG aq;have e3:(x'.l.zip y'.l)[k]? = some (x'.l[k],y'.l[k]' aq):=by rw[mA3];exact⟨e1,e2⟩
  generalize x'.l[k]=xk at e1 e3;generalize (y'.l[k]' aq)=yk at e2 e3;have Js:R++(x'.l.zip y'.l).take (k+1)=(R++(x'.l.zip y'.l).take k)++[(xk,yk)]:=by rw[Jt,e3,List.append_assoc];rfl
  have VY:(R++(x'.l.zip y'.l).take k).length=R.length+k:=by rw[List.length_append,zi];omega
  refine cJ (Tm.ay e1) ?_;refine cJ (Tm.ay e2) ?_;refine NC ?_;refine abD ?_;refine mL9 ?_;refine bf 10 (cn d a b B (s+1+(k+1)) (R++(x'.l.zip y'.l).take (k+1)) ic++[aO y',aO x',.box [iV x.n,iV y.n]]) tn rfl ?_ ?_;exact afz;exact Wj;have aI:x'.l.length<=k:=bw h rfl;rw[Fm (by omega:(x'.l.zip y'.l).length<=k)];refine bf 7 (cn d a b B (s+1+k) (R++x'.l.zip y'.l) ic) tn rfl ?_ ?_;exact fS d a b B (s+1+k) (R++x'.l.zip y'.l) ic _;exact ae8;have hmU:Tm.lX x y cK=cK:=by unfold Tm.lX;rw[if_neg];simp only[aV,decide_eq_true_eq];exact Ae
  rw[hmU]at eX;obtain⟨ic,rfl⟩:∃m,cK=m:=⟨cK,rfl⟩;by_cases wa:x.k=1;refine cQ hg.ok rfl rfl (by simp [wa]) rfl rfl ?_;refine eG hg.ok rfl rfl (by have:¬ y.k=1:=λh=>Ae ⟨wa,h⟩;simp[this]) rfl rfl ?_;exact mB1;refine eG hg.ok rfl rfl (by simp [wa]) rfl rfl ?_;exact mB1
theorem Sy (A B:an):uJ (A++B)=uJ A++uJ B:=by simp[uJ]
theorem PC (l:List Int)(n:Nat):(cD l).take n=cD (l.take n):=by simp[cD,List.map_take]
theorem Dw (Y:YP)(d:Nat)(B X:an)(hn:((B++X).map (·.1)).Nodup)(hl:(B++X).length<=1000000):aU Tryz.prog Y 99 [.lo 0 0,iV B.length] (cC d (B++X)) (.cP []) (cC (X.length+d+1) B):=by
 refine aU.ej (pf:=λf=>bif Nat.beq f 4000000004 then .bT 1 else .jz) gK mixed Tryz.func99 rfl da da (by simp[Tryz.ntmps99]) (by simp[cC]) λw S φ hg=>?_
 have hφ:φ.length=3:=hg.kh.len;have J6:((B.length:Nat):Int).toNat=B.length:=zk _;have a8:((B++X).map (·.1)).length=B.length+X.length:=by simp
 have hXl:X.length<=1000000:=by rw[List.length_append]at hl;omega
 refine ag ?_;refine Zk hg.ok rfl rfl rfl rfl rfl rfl rfl rfl rfl NH (by rw[bN,a8];omega) ?_;rw[J6];refine ag ?_;refine aiT hg.ok rfl rfl rfl rfl rfl (n:=(X.length:Int)) (by rw[bN,a8];simp) (ag ?_);refine a7 (λk:Nat=>([(0,.lo 0 0),(1,iV B.length),(11,.vw 2 ((B++X).length+d) B.length),(12,iV X.length),(13,iV k)],[.box [.mp 1,.ow 2 ((B++X).length+d)],.map (ct (uJ (B++X.drop k))),.arr 1 ((B++X).length+d) (cD ((B++X).map (·.1)))])) (λk=>k<=X.length) (λk=>X.length-k) 0 fO abT rfl ?_;intro k hk;refine ag ?_;refine af (λh=>?_) λh=>?_
 have aI:k<X.length:=bo h rfl;have e1:X[k]? = some X[k]:=dG aI;have e2:=List.drop_eq_getElem_cons aI;generalize X[k]=c at e1 e2;have gY:(cD ((B++X).map (·.1)))[B.length+k]? = some [.v (.int .i64 c.1)]:=by refine iE ?_;rw[fP,nA aq,zm,e1];rfl
 refine Zl hg.ok (B.length+k) rfl rfl rfl rfl rfl rfl rfl rfl rfl (Fs k) (by rw[bN,a8,zk];omega) (by rw[zk]) (ag ?_);refine QF ?_;have dR:∀p∈uJ B,p.1≠c.1:=λp hp=>by obtain⟨b,hb,rfl⟩:=gm.1 hp;intro he;rw[eR,Bq]at hn;exact hn.2.2 b.1 (gm.2 ⟨b,hb,rfl⟩) c.1 (gm.2 ⟨c,sq e1,rfl⟩) he
 refine UC hg.ok (l:=uJ (B++X.drop k)) (n:=c.1) (v:=c.2.av) (uJ B) (uJ (X.drop (k+1))) (uJ (B++X.drop (k+1))) rfl rfl rfl rfl rfl rfl rfl (by rw[Sy,e2];rfl) dR (Sy _ _).symm (ag ?_);exact Wv;have aI:X.length<=k:=bw h rfl;rw[cX aI,yq];refine td hg.ok (cD (B.map (·.1))) rfl rfl rfl rfl rfl rfl rfl rfl rfl rfl NH (by rw[bN,a8];omega) (by rw[J6,PC,eR,List.take_left' aD]) (ag ?_);have hs:Nat.succ ((B++X).length+d)=B.length+(X.length+d+1):=by rw[List.length_append];omega
 rw[hs];refine mq hg 3 5 cZ rfl rfl ?_;show [_,aR _ (.map (ct (uJ B))),_]=_
 rw[dS (λt=>rfl)];rfl
theorem gu (d:Nat)(B:an)(o:List Ob):(cC d B).map (aR (bZ false 3 o 5))=cC d B:=by simp only[cC,bM,fm];rw[dS (λt=>rfl)];rfl
def Ms (ok:Bool)(d:Nat)(B X:an):List Ob:=if ok then cC d (B++X)else cC (X.length+d+1) B
theorem nq (Y:YP)(d:Nat){S:List Int}{N:Nat}(hS:S.length<=900000)(hN:N<=3000)(hSN:N*(N+S.length*N)<=1000000000000)(B X:an)(ok:Bool)(a b:Tm)(n0:Nat)(h0:Tm.eP S N a n0 [(a,b)] B [] (B++X) ok)(hn:((B++X).map (·.1)).Nodup)(hl:(B++X).length<=1000000)(ha:a.bB=true)(hb:b.bB=true)(na:∀e∈a.gX 1,e.2.s.size<1000000000)(nb:∀e∈b.gX 1,e.2.s.size<1000000000):aU Tryz.prog Y 76 [.lo 0 0,a.av,b.av] (cC d B) (.cP [bV ok,iV 0]) (Ms ok d B X):=by
 have sa:a.size<=3000:=(Tm.dM.1 ha).2.1;have sb:b.size<=3000:=(Tm.dM.1 hb).2.1;refine aU.ej (pf:=λ_=>.jz) gK mixed Tryz.func76 rfl da da (by simp[Tryz.ntmps76]) (by unfold Ms;cases ok<;>simp[cC]) λw S φ hg=>?_
 have hφ:φ.length=3:=hg.kh.len;refine ag ?_;refine JQ ?_;refine gg ?_;refine aA (fe a aq na) ?_;rw[cV,ha];refine gg ?_;refine aA (fe b aq nb) ?_;rw[cV,hb];refine gg ?_;refine afo ?_;refine aj hg.ok hg.cm hg.wide hg.Y [0,1,2] (cC d (B++X)++[aO a,aO b]) (Mr Y d hS hN hSN B (B++X) ok a b n0 h0) cN rfl rfl rfl rfl rfl jl rfl jl (ag ?_);cases ok with
 |true=>refine mM ?_;exact aL hg 3 5 cZ rfl rfl (gu d (B++X) _)
 |false=>refine gg ?_;refine aj hg.ok hg.cm hg.wide hg.Y [0,1,2] (cC (X.length+d+1) B++[aO a,aO b]) (Dw Y d B X hn hl) cN rfl rfl rfl rfl rfl jl rfl jl (ag ?_);exact afB
end Go.Proofs.YtmjmngigbachdaaGreatDoor

namespace ax
open Go
variable{W S:List Int}{Q B:an}{v:Int}{N:Nat}
namespace Tm
def jX (B:an):Nat->List Int->an->Option an
 |0,_,_=>none
 |_+1,[],Q=>some Q
 |n+1,v::R,Q=>match ba B v with
  |none=>jX B n R Q
  |some x=>if(Q.map (·.1)).contains v then jX B n R Q else jX B n (R++bP [x]) (Q++[(v,x)])
theorem tW(B:an):∀(u:Nat) (Q:an),(B.countP λb=>!(Q.map (·.1)).contains b.1)<=u->∀R,∃n Q',jX B n R Q=some Q'
 |u,Q,hu,[]=>⟨1,Q,rfl⟩
 |u,Q,hu,v::R=>by
  cases hx:ba B v with
  |none=>obtain⟨n,Q',h⟩:=tW B u Q hu R;exact⟨n+1,Q',by simp only[jX,hx];exact h⟩
  |some x=>
   cases hc:(Q.map (·.1)).contains v with
   |true=>obtain⟨n,Q',h⟩:=tW B u Q hu R;exact⟨n+1,Q',by simp only[jX,hx];simp_all⟩
   |false=>
    have fE:=Db hx hc;match u,hu with
    |0,hu=>omega
    |u+1,hu=>obtain⟨n,Q',h⟩:=tW B u (Q++[(v,x)]) jD (R++bP [x]);exact⟨n+1,Q',by simp only[jX,hx];simp_all⟩
termination_by u _ _ R=>(u,R.length)
structure oV (B:an) (W:List Int) (R:List Int) (Q:an):Prop where
 nodup:(Q.map (·.1)).Nodup
 look:∀b∈Q,ba B b.1=some b.2
 all:∀v,(v∈W\/∃b∈Q,v∈cF b.2)->ba B v=none\/v∈Q.map (·.1)\/v∈R
theorem oV.first(B:an)(W:List Int):oV B W W []:=⟨by simp,by simp,λv h=>by simp_all⟩
theorem oV.skip{W R:List Int}(h:oV B W (v::R) Q)(hv:ba B v=none\/v∈Q.map (·.1)):oV B W R Q:=⟨h.nodup,h.look,λu hu=>by
 rcases h.all u hu with h1|h1|h1
 exact .inl h1;exact .inr (.inl h1);grind⟩
theorem oV.more(hB:∀b∈B,b.2.bA=true){W R:List Int}{x:Tm}(h:oV B W (v::R) Q)(hx:ba B v=some x)(hv:v ∉ Q.map (·.1)):oV B W (R++bP [x]) (Q++[(v,x)]):=by
 have hf:cv [x]=true:=fz.2 λt ht=>by rw[eu]at ht;subst ht;exact hB _ (du hx)
 refine⟨?_,λb hb=>?_,λu hu=>?_⟩;rw [eR,Bq];refine⟨h.nodup,by simp,λa ha b hb=>?_⟩;grind;rcases cu.1 hb with hb| hb
 exact h.look b hb;simp_all;have key:(u∈W\/∃b∈Q,u∈cF b.2)\/u∈cF x:=by grind
 rcases key with hu|hu
 rcases h.all u hu with h1| h1| h1
 exact .inl h1;exact .inr (.inl (by rw[eR];exact cu.2 (.inl h1)));grind;refine .inr (.inr (cu.2 (.inr ((kj hf).2 ?_))));simpa[ep]using hu
theorem A1{B:an}(hB:∀b∈B,b.2.bA=true){W:List Int}:∀(n:Nat) (R:List Int) (Q Q':an),jX B n R Q=some Q'->oV B W R Q->oV B W [] Q'|0,_,_,_,h,_=>by simp[jX]at h|n+1,[],Q,Q',h,hI=>by simp only[jX,Option.some.injEq]at h;simp_all|n+1,v::R,Q,Q',h,hI=>by simp only[jX]at h;split at h;rename_i hx;exact A1 hB n _ _ _ h (hI.skip (.inl hx));rename_i x hx;split at h;rename_i hc;exact A1 hB n _ _ _ h (hI.skip (.inr Q4));rename_i hc;exact A1 hB n _ _ _ h (hI.more hB hx Q4)
theorem vV(h:v∈Q.map (·.1)):∃x,ba Q v=some x:=by
 cases hq:ba Q v with
 |some x=>simp_all
 |none=>obtain⟨b,hb,rfl⟩:=gm.1 h;exact absurd rfl (n8.1 hq b hb)
theorem yY(hB:UG S N [] B)(hI:oV B W [] Q):Sub Q Q.length/\Q.length<=B.length/\(∀b∈Q,b∈B)/\∀t,t.bA=true->(∀u∈cF t,u∈W)->bu Q Q.length t=bu B B.length t:=by
 obtain⟨σ,hσ⟩:=hB.V1;obtain⟨ρ,hρ⟩:=Md hσ hB.chain;have hQB:∀b∈Q,b∈B:=λb hb=>du (hI.look b hb)
 have GB:∀u x,ba Q u=some x->ba B u=some x:=λu x h=>hI.look (u,x) (du h)
 have hS:Sub Q Q.length:=Mb (ρ:=ρ) (λb hb=>(hB.mI b (hQB b hb)).1) λb hb u hu hq=>hρ b (hQB b hb) u hu λe=>by
  cases hx:ba Q u with
  |none=>exact hq hx
  |some x=>simp_all
 have hl:Q.length<=B.length:=by
  have:=zN (B:=B) hI.nodup λm hm=>by obtain⟨x,hx⟩:=vV hm;rw[GB _ _ hx];simp
  simp_all
 have key:∀M t,(∀u∈cF t,ba Q u=ba B u)->bu Q M t=bu B M t:=by
  have dK:∀b∈Q,∀u∈cF b.2,ba Q u=ba B u:=λb hb u hu=>by
   rcases hI.all u (.inr ⟨b,hb,hu⟩)with h1|h1|h1
   rw [h1];cases hx:ba Q u with
   |none=>rfl
   |some x=>simp_all
   obtain ⟨x,hx⟩:=vV h1;simp_all;cases h1
  intro M;induction M with
  |zero=>intro t _;rfl
  |succ M ih=>
   intro t ht;simp only[bu];refine nS t λu hu=>?_
   rw[ht u hu];cases hx:ba B u with
   |none=>rfl
   |some x=>
    have hq:ba Q u=some x:=by simp_all
    exact ih x λz hz=>dK (u,x) (du hq) z hz
 refine⟨hS,hl,hQB,λt hf ht=>?_⟩;rw[<-zA hS.fair Q.length t hf (hS.lev t) B.length hl];refine key _ t λu hu=>?_
 rcases hI.all u (.inl (ht u hu))with h1|h1|h1
 rw [h1];cases hx:ba Q u with
 |none=>rfl
 |some x=>simp_all
 obtain ⟨x,hx⟩:=vV h1;simp_all;cases h1
theorem Mt(hr:∀b∈B,b.2.bB=true)(hB:UG S N [] B)(hI:oV B W [] Q):jI Q=true:=by
 obtain⟨h1,_,h3,_⟩:=yY hB hI;refine U9 h1 hI.nodup λb hb=>?_
 have hb:=h3 b hb;obtain⟨_,h2,h3⟩:=hB.mI b hb;grind
theorem Mu(hr:∀b∈B,b.2.bB=true)(hB:UG S N [] B)(hI:oV B W [] Q){t:Tm}(ht:t.bB=true)(hW:∀u∈cF t,u∈W):qX Q Q.length t=EL (bu B B.length t):=by rw[Lq (Mt hr hB hI) ht,(yY hB hI).2.2.2 t (lA ht) hW]
end Tm
end ax

namespace Go.Proofs.YtmjmngigbachdaaGreatDoor
open Go ax Go.Proofs
theorem Mv (B:an)(hl:B.length<1000000000):br Tryz.prog 122 [.d (.sl (cW B))] (.d (.map (HR (zg (B.map (·.1)))))):=by
 refine v8 Tryz.func122 λw S hg=>?_
 refine Eo ?_;refine a7 (λx:Nat×List (Int×AV)=>([(3,.mp 0),(9,.d (.sl (cW B))),(10,iV B.length),(11,iV x.1)],[.map (ct x.2)])) (λx=>x.1<=B.length/\zg (B.map (·.1))=Cn ((B.map (·.1)).drop x.1) x.1 x.2/\∀p∈x.2,∃n,p.2=iV n) (λx=>B.length-x.1) (0,[]) ⟨bU _,rfl,by simp⟩ ⟨.refl _,.refl _,bJ.int (by rw[fF]),.refl _,trivial⟩ rfl ?_;rintro⟨k,A⟩ ⟨hk,hm,hA⟩;simp only at hk hm hA;refine ag ?_;refine iG (λh=>?_) λh=>?_
 rotate_left;have aI:B.length<=k:=bw h rfl;rw[cX (by simpa using aI),Cn]at hm;rw[hm];refine yI hg.cm 0 (HR A) fO (by rw[RQ hA];rfl) rfl (ag ?_);refine bz ?_;rfl;refine ag ?_;have aI:k<B.length:=bo h rfl;have e1:B[k]? = some B[k]:=dG aI;rw[List.drop_eq_getElem_cons (by simpa using aI),List.getElem_map,Cn]at hm;refine cJ (mV e1) ?_;cases hf:iT A B[k].1 with
 |some x=>rw[hf]at hm;refine gN hg.ok A rfl rfl rfl rfl rfl rfl rfl (zv:=.int .i64 0) da (v:=.cP [x,bV true]) (by rw[hf];rfl) ?_;obtain⟨n,rfl⟩:=R5 hA hf;refine ag ?_;refine gg ?_;refine bf 1 [.map (ct A)] fO rfl (by show [aR _ (.map (ct A))]=_;rw[Lo cN hA]) ?_;exact bb (k+1,A) ⟨aI,hm,hA⟩ gP ⟨.refl _,.refl _,.refl _,bJ.wrap gP gP gP,trivial⟩ rfl
 |none=>
  rw[hf]at hm;refine gN hg.ok A rfl rfl rfl rfl rfl rfl rfl (zv:=.int .i64 0) da (v:=.cP [iV 0,bV false]) (by rw[hf];rfl) (ag ?_);refine mM ?_;refine FY hg.ok A (A++[(B[k].1,iV k)]) rfl rfl rfl rfl rfl rfl rfl hf rfl rfl (ag ?_)
  have hA':∀p∈A++[(B[k].1,iV (k:Int))],∃n,p.2=iV n:=λp hp=>by
   rcases cu.1 hp with hp|hp
   exact hA p hp;simp at hp;exact⟨k,by rw[hp]⟩
  refine bf 1 [.map (ct (A++[(B[k].1,iV k)]))] fO rfl (by show [aR _ (.map (ct (A++[(B[k].1,iV k)])))]=_;rw[Lo cN hA']) ?_;exact bb (k+1,A++[(B[k].1,iV k)]) ⟨aI,hm,hA'⟩ gP ⟨.refl _,.refl _,.refl _,bJ.wrap gP gP gP,trivial⟩ rfl
def lG (B:an)(st:List Int):List Ob:=[.box [.ow 4 0],.box [.d (.sl (cW B))],.box [.d (.map (HR (zg (B.map (·.1)))))],.box [.b9 132 [] [.lo 0 0,.lo 1 0,.lo 2 0,.lo 3 0]],.arr 1 0 (cD st)]
theorem Dx {B:an}{f:AV->AV}(h2:f (.ow 4 0)=.ow 4 0)(h3:f (.d (.sl (cW B)))=.d (.sl (cW B)))(h4:f (.d (.map (HR (zg (B.map (·.1))))))=.d (.map (HR (zg (B.map (·.1))))))(h5:f (.b9 132 [] [.lo 0 0,.lo 1 0,.lo 2 0,.lo 3 0])=.b9 132 [] [.lo 0 0,.lo 1 0,.lo 2 0,.lo 3 0])(st:List Int):(lG B st).map (aR f)=lG B st:=by simp only[lG,aR,bM,fm,h2,h3,h4,h5]
theorem aad {st:List Int}{i:Nat}(h:i<st.length):st[i]? = some (st.getD i 0):=by rw[dG h,List.getD_eq_getElem?_getD,dG h];rfl
theorem Vw (Y:YP)(B:an)(hB:∀b∈B,b.2.size<400000000)(hBl:B.length<1000000):∀(f i:Nat) (st:List Int),i<B.length->st.length=B.length->kl st<f->aU Tryz.prog Y 132 [iV i,.lo 0 0,.lo 1 0,.lo 2 0,.lo 3 0] (lG B st) (bV (gp (gq B) f i st).1) (lG B (gp (gq B) f i st).2):=by
 intro f;induction f with
 |zero=>intro i st _ _ h;omega
 |succ f ih=>
 intro i st hi cY hz;have e1:B[i]? = some B[i]:=dG hi;have hsz:=hB _ (dy hi);refine Qo Tryz.func132 λw S φ hg=>?_
 have hφ:φ.length=5:=hg.kh.len;have ret:∀{r:Bool} {Q:List Int},gp (gq B) (f+1) i st=(r,Q)->bV r=bV (gp (gq B) (f+1) i st).1/\lG B Q=lG B (gp (gq B) (f+1) i st).2:=λe=>by rw[e];exact⟨rfl,rfl⟩
 have jj:∀(Q:List Int) (o:List Ob),(lG B Q).map (aR (bZ false 5 o 5))=lG B Q:=λQ o=>Dx rfl rfl rfl rfl Q
 have kZ:∀{Q:List Int},Q.length=B.length->(cD Q)[((i:Nat):Int).toNat]? = some [.v (.int .i64 (Q.getD i 0))]:=λh=>iE (aad aq)
 refine ag ?_;refine ahl ?_;refine AG hg.ok rfl rfl rfl rfl rfl rfl (kZ cY) rfl (ag ?_);refine af (λh0=>?_) λh0=>?_
 have h0:¬ st.getD i 0=0:=by simpa using h0
 refine ahl ?_;refine AG hg.ok rfl rfl rfl rfl rfl rfl (kZ cY) rfl (ag ?_);have e:=ret (r:=st.getD i 0==2) (Q:=st) (by simp only[gp,if_pos h0];congr 1);rw[<-e.1,<-e.2];exact aL hg 5 5 cZ rfl rfl (jj st _);have h0:st.getD i 0=0:=by simpa using h0
 have jP:gp (gq B) (f+1) i st=if(my (gp (gq B) f) (gq B i) (st.set i 1)).1 then(true,(my (gp (gq B) f) (gq B i) (st.set i 1)).2.set i 2)else(false,(my (gp (gq B) f) (gq B i) (st.set i 1)).2):=by simp only[gp];rw[if_neg (by simpa using h0)]
 have Js:=(p8 st i 1 aq).2 aq h0;refine ahl ?_;refine F0 hg.ok (cD (st.set i 1)) rfl rfl rfl rfl rfl (kZ cY) rfl rfl rfl eA Gg (ag ?_);refine cJ (mV e1) ?_;refine aA ((tK [B[i].2] J1).one) ?_;have Oa:(bP [B[i].2]).length<=Tm.aw [B[i].2]:=by have:=qi [B[i].2] [];simpa[wm,bP]using this
 simp only[Tm.aw]at Oa;rw[placesOf e1]at jP;generalize bP [B[i].2]=V at jP Oa ⊢
 refine a7 (λx:Nat×List Int=>([(0,iV i),(1,.lo 0 0),(3,.lo 2 0),(4,.lo 3 0),(30,.d (.sl (cD V))),(31,iV V.length),(32,iV x.1)],lG B x.2))
  (λx=>x.1<=V.length/\my (gp (gq B) f) (V.filterMap λv=>if eN B v<0 then none else some (eN B v).toNat) (st.set i 1)=my (gp (gq B) f) ((V.drop x.1).filterMap λv=>if eN B v<0 then none else some (eN B v).toNat) x.2/\x.2.length=B.length/\kl x.2<=kl (st.set i 1)) (λx=>V.length-x.1) (0,st.set i 1)
  ⟨bU _,rfl,by simp[cY],eT _⟩ ⟨.refl _,.refl _,.refl _,.refl _,.refl _,bJ.int Q0,.refl _,trivial⟩ rfl ?_
 rintro⟨k,Q⟩ ⟨hk,hm,hQ,hzQ⟩;simp only at hk hm hQ hzQ;refine ag ?_;refine af (λh=>?_) λh=>?_
 have aI:k<V.length:=bo h rfl;have e2:V[k]? = some V[k]:=dG aI;rw[List.drop_eq_getElem_cons aI,ur]at hm;refine cJ (iE e2) ?_;have hgi:=R3 (B.map (·.1)) V[k];by_cases hp:eN B V[k]<0;rw [show ux (B.map (·.1)) V[k] 0=eN B V[k]from rfl,if_pos hp]at hgi;rw[if_pos hp]at hm;refine aeH ?_;refine gg ?_;exact bb (k+1,Q) ⟨aI,hm,hQ,hzQ⟩ gP ⟨.refl _,.refl _,.refl _,.refl _,.refl _,.refl _,bJ.wrap gP gP gP,trivial⟩ rfl;rw [show ux (B.map (·.1)) V[k] 0=eN B V[k]from rfl,if_neg hp]at hgi;rw[if_neg hp]at hm
 obtain⟨j,hj,BP⟩:∃j:Nat,eN B V[k]=j/\j<B.length:=by
  rcases fN B V[k]with ⟨h1,_⟩|⟨j,t,h1,h2,_⟩
  exact absurd h1 hp;exact⟨j,h1,(fu.1 h2).1⟩
 rw[hj]at hgi hm;simp only[zk,my]at hm;refine aeL ?_;refine mM ?_;have fC:=ih j Q BP hQ aq;have eI:=p9 (gq B) f j Q;generalize hr:gp (gq B) f j Q=rq at fC hm eI;obtain⟨r,Q'⟩:=rq
 have abU:∀(n:Nat) (Z:List Int),(lG B Z).map (bG (rn [0,1,2,3,4] n))=lG B Z:=λn Z=>by
  have e:(bG (rn [0,1,2,3,4] n))=aR (dh (rn [0,1,2,3,4] n)):=by funext o;cases o<;>simp[bG,aR,gR]
  rw[e];exact Dx rfl rfl rfl rfl Z
 refine aj hg.ok hg.cm hg.wide hg.Y [0,1,2,3,4] (lG B Q') fC cN rfl rfl rfl rfl rfl Es rfl Es (ag ?_);refine af (λh=>?_) λh=>?_
 have TV:r=false:=by simpa using h
 subst TV;have e:=ret (r:=false) (Q:=Q') (by rw[jP,hm];simp);rw[<-e.1,<-e.2];exact aL hg 5 5 cZ rfl rfl (jj Q' _);have TV:r=true:=by simpa using h
 subst TV;refine bb (k+1,Q') ⟨aI,by rw[hm];simp,by rw[<-hQ];exact eI.1,by have:=eI.2;simp only at this ⊢;omega⟩ gP ⟨.refl _,.refl _,.refl _,.refl _,.refl _,.refl _,bJ.wrap gP gP gP,trivial⟩ rfl;have aI:V.length<=k:=bw h rfl;rw[cX aI]at hm;refine se hg.ok rfl rfl rfl rfl rfl rfl rfl rfl rfl (Fs i) (by rw[bN];simpa[hQ]using hi) (ag ?_);refine F0 hg.ok (cD (Q.set i 2)) rfl rfl rfl rfl rfl (kZ hQ) rfl rfl rfl eA Gg (ag ?_);have e:=ret (r:=true) (Q:=Q.set i 2) (by rw[jP,hm];rfl);rw[<-e.1,<-e.2];exact aL hg 5 5 cZ rfl rfl (jj (Q.set i 2) _)
structure PD (B:an):Prop where
 len:B.length<=125000
 size:∀b∈B,b.2.size<400000000
 name:∀b∈B,∀x e,e∈b.2.gX x->e.2.s.size<1000000000
theorem Mw {fR:Nat->List Nat}{n i:Nat}(h:i<n)(st:List Int):kP fR n ((List.range n).drop i) st=if(gp fR (n+1) i st).1 then kP fR n ((List.range n).drop (i+1)) (gp fR (n+1) i st).2 else false:=by rw[List.drop_eq_getElem_cons ln,List.getElem_range,kP]
theorem PE (n:Nat):List.replicate n [D.v (.int .i64 0)]=cD (List.replicate n 0):=by simp[cD,HO]
theorem IS (B:an)(hB:PD B):br Tryz.prog 120 [.d (.sl (cW B))] (bV (jI B)):=by
 have hl:=hB.len;refine ng Tryz.func120 λw S hg=>?_
 refine aA (Mv B aq) ?_;refine aiD hg.ok rfl rfl rfl rfl (n:=((zg (B.map (·.1))).length:Int)) (by rw[acN]) (ag ?_);refine af (λh=>?_) λh=>?_
 have h:=of_decide_eq_true h;refine bz ?_;rw[fF]at h;have:(zg (B.map (·.1))).length<B.length:=by omega
 simp only[jI];rw[decide_eq_true this];rfl;have h:=of_decide_eq_false h;rw[fF]at h;have hr1:jI B=(qd B&&kP (gq B) B.length (List.range B.length) (List.replicate B.length 0)):=by unfold jI;rw[decide_eq_false aq];simp
 refine a7 (λk:Nat=>([(1,.lo 0 0),(3,.lo 1 0),(16,.d (.sl (cW B))),(17,iV B.length),(18,iV k)],[.box [.d (.sl (cW B))],.box [.d (.map (HR (zg (B.map (·.1)))))]])) (λk=>k<=B.length/\qd B=qd (B.drop k)) (λk=>B.length-k) 0 ⟨bU _,rfl⟩ ⟨.refl _,.refl _,.refl _,bJ.int (by rw[fF]),.refl _,trivial⟩ rfl ?_;rintro k ⟨hk,hm⟩;refine ag ?_;refine af (λh=>?_) λh=>?_
 have aI:k<B.length:=bo h rfl;have e1:B[k]? = some B[k]:=dG aI;rw[List.drop_eq_getElem_cons aI]at hm;simp only[qd,pK]at hm;have bad:qd B=false->AV.d (.v (.bool false))=bV (jI B):=λh=>by rw[hr1,h];rfl
 refine cJ (mV e1) ?_;refine af (λh1=>?_) λh1=>?_
 have h1:=of_decide_eq_true h1;refine bz ?_;exact bad (by unfold qd;rw[hm,decide_eq_false (by omega:¬ 0<=B[k].1)];simp);have h1:=of_decide_eq_false h1;refine af (λh2=>?_) λh2=>?_
 have h2:=of_decide_eq_true h2;refine bz ?_;exact bad (by unfold qd;rw[hm,decide_eq_false (by omega:¬ B[k].1<1000000)];simp);have h2:=of_decide_eq_false h2;refine aA (fe B[k].2 (by have:=hB.size _ (dy aI);omega) (hB.name _ (dy aI) 1)) ?_;rw[cV];refine af (λh3=>?_) λh3=>?_
 refine bz ?_;exact bad (by unfold qd;rw[hm,show B[k].2.bB=false by simpa using h3];simp);refine bf 2 [.box [.d (.sl (cW B))],.box [.d (.map (HR (zg (B.map (·.1)))))]] fO rfl rfl ?_;refine bb (k+1) ⟨aI,?_⟩ aq JW rfl;unfold qd;rw[hm,show B[k].2.bB=true by simpa using h3,decide_eq_true (by omega:0<=B[k].1),decide_eq_true (by omega:B[k].1<1000000)];simp;have aI:B.length<=k:=bw h rfl;rw[cX aI]at hm;have RN:jI B=kP (gq B) B.length (List.range B.length) (List.replicate B.length 0):=by rw[hr1,hm];simp[qd]
 refine Ld hg.ok (cD (List.replicate B.length 0)) rfl rfl rfl rfl rfl rfl W9 W9 W9 (by rw[fF];exact PE B.length) (ag ?_)
 refine a7 (λx:Nat×List Int=>([(7,.lo 4 0),(42,iV B.length),(43,iV x.1)],[.box [.d (.sl (cW B))],.box [.d (.map (HR (zg (B.map (·.1)))))],.arr 1 0 (cD x.2),.box [.ow 2 0],.box [.b9 132 [] [.lo 3 0,.lo 0 0,.lo 1 0,.lo 4 0]]]))
  (λx=>x.1<=B.length/\jI B=kP (gq B) B.length ((List.range B.length).drop x.1) x.2/\x.2.length=B.length) (λx=>B.length-x.1) (0,List.replicate B.length 0) ⟨bU _,RN,by simp⟩ ⟨.refl _,bJ.int (by rw[fF]),.refl _,trivial⟩ rfl ?_
 rintro⟨k,st⟩ ⟨hk,hm,cY⟩;simp only at hk hm cY;refine ag ?_;refine af (λh=>?_) λh=>?_
 have aI:k<B.length:=bo h rfl;rw[Mw aI]at hm;have hz:kl st<B.length+1:=by have:kl st<=st.length:=Kf;omega
 have fC:=Vw ⟨[],λ_=>true⟩ B hB.size aq (B.length+1) k st aI cY hz;have eI:=p9 (gq B) (B.length+1) k st;generalize gp (gq B) (B.length+1) k st=rq at fC hm eI;obtain⟨r,Q⟩:=rq;refine aj hg.ok hg.cm ⟨rfl,rfl⟩ (λ_ _ _ _ h=>by cases h) [3,0,1,4,2] [.box [.d (.sl (cW B))],.box [.d (.map (HR (zg (B.map (·.1)))))],.arr 1 0 (cD Q),.box [.ow 2 0],.box [.b9 132 [] [.lo 3 0,.lo 0 0,.lo 1 0,.lo 4 0]]] fC cN rfl rfl rfl rfl rfl rfl rfl rfl (ag ?_);refine af (λh=>?_) λh=>?_
 refine bz ?_;have TV:r=false:=by simpa using h
 rw[hm,TV];rfl;have TV:r=true:=by simpa using h
 exact bb (k+1,Q) ⟨aI,by rw[hm,TV];rfl,by rw[<-cY];exact eI.1⟩ gP ⟨.refl _,.refl _,bJ.wrap gP gP gP,trivial⟩ rfl;have aI:B.length<=k:=bw h rfl;refine bz ?_;rw[hm,cX (by simpa using aI)];rfl
def mj (B:an)(left:Int):List Ob:=[.box [.d (.map (HR (zg (B.map (·.1)))))],.box [.d (.sl (cW B))],.box [iV left],.box [.b9 133 [] [.lo 0 0,.lo 1 0,.lo 2 0,.lo 3 0]]]
theorem yZ {B:an}{f:AV->AV}(h1:∀n,f (iV n)=iV n)(h3:f (.d (.sl (cW B)))=.d (.sl (cW B)))(h4:f (.d (.map (HR (zg (B.map (·.1))))))=.d (.map (HR (zg (B.map (·.1))))))(h5:f (.b9 133 [] [.lo 0 0,.lo 1 0,.lo 2 0,.lo 3 0])=.b9 133 [] [.lo 0 0,.lo 1 0,.lo 2 0,.lo 3 0])(left:Int):(mj B left).map (aR f)=mj B left:=by simp only[mj,aR,bM,fm,h1,h3,h4,h5]
def Vx:Ob:=.box [.d (.v (.int .i64 0)),.d (.v (.string ByteArray.empty)),.d (.v (.int .i64 0)),.d (.v (.slice none 0 0))]
theorem IT (F:Tm->Tm){l:List Tm}{k:Nat}{x:Tm}(h:l[k]? = some x):Tm.aa ((l.take k).map F)++[[.v (.int .i64 (F x).k),.v (.string (F x).s),.v (.int .i64 (F x).n),.sl (Tm.aa (F x).l)]]=Tm.aa ((l.take (k+1)).map F):=by rw[Jt,h];simp[Tm.eo,Tm.row]
theorem PF (Y:YP)(B:an)(M:Nat)(hS:Sub B M)(hBl:B.length<=125000):∀(N:Nat) (t:Tm) (left ak:Int),(bu B M t).size<=N->t.bA=true->0<=left->left<=3000->1<=ak->ak<=200 ->
  aU Tryz.prog Y 133 [t.av,iV ak,.lo 0 0,.lo 1 0,.lo 2 0,.lo 3 0] (mj B left) (.cP [(if(Tm.lB (bu B M t) left ak).1 then bu B M t else aJ).av,bV (Tm.lB (bu B M t) left ak).1]) (mj B (Tm.lB (bu B M t) left ak).2):=by
 intro N;induction N with
 |zero=>intro t _ _ h;have:=Tm.size_eq (bu B M t);omega
 |succ N ih=>
 intro t left ak hN hf RF Eh hd0 hd1;refine Qo Tryz.func133 λw S φ hg=>?_
 have hφ:φ.length=4:=hg.kh.len;have ret:∀{r:Bool} {q:Int},Tm.lB (bu B M t) left ak=(r,q)->AV.cP [(if r then bu B M t else aJ).av,bV r]=.cP [(if(Tm.lB (bu B M t) left ak).1 then bu B M t else aJ).av,bV (Tm.lB (bu B M t) left ak).1]/\mj B q=mj B (Tm.lB (bu B M t) left ak).2:=λe=>by rw[e];exact⟨rfl,rfl⟩
 have jj:∀(q:Int) (o:List Ob),(mj B q).map (aR (bZ false 4 o 5))=mj B q:=λq o=>yZ cN rfl rfl rfl q
 refine ag ?_;refine qV (λu:Tm=>([(1,iV ak),(2,.lo 0 0),(3,.lo 1 0),(4,.lo 2 0),(5,.lo 3 0),(6,.lo 4 0),(8,.lo 5 0)],mj B left++[aO u,Vx])) (λu=>u.bA=true/\bu B M t=bu B M u/\(u.k=1->ba B u.n=none)) rfl ?_ ?_;refine a7 (λx:Nat×Tm=>([(1,iV ak),(2,.lo 0 0),(3,.lo 1 0),(4,.lo 2 0),(5,.lo 3 0),(6,.lo 4 0),(8,.lo 5 0)],mj B left++[aO x.2,Vx])) (λx=>x.2.bA=true/\bu B M t=bu B M x.2/\Uk B x.1 x.2) (λx=>x.1) (M,t) ⟨hf,rfl,hS.lev t⟩ Ep rfl ?_;rintro⟨m,u⟩ ⟨hu,C5,hlu⟩;simp only at hu C5 hlu;refine ag ?_;refine af (λJ6=>?_) λJ6=>?_
 have hk:u.k=1:=by simpa using J6
 have hgi:=R3 (B.map (·.1)) u.n;rcases fN B u.n with ⟨h1,h2⟩|⟨j,x,h1,h2,h3⟩
 rw [show ux (B.map (·.1)) u.n 0=eN B u.n from rfl,if_pos h1]at hgi;refine aeH ?_;refine mM ?_;exact ox u ⟨hu,C5,λ_=>h2⟩ Ep rfl;rw [show ux (B.map (·.1)) u.n 0=eN B u.n from rfl,h1,if_neg aq]at hgi;refine aeL ?_;refine gg ?_;refine cJ (mV h2) ?_;obtain⟨q,rfl,hq⟩:=Cp hS.fair hlu (AP hk) h3;exact bb (q,x) ⟨hS.fair _ (sq h2),by rw[C5];exact hS.bound hu hk h3,hq⟩ gP Ep rfl;have hk:¬ u.k=1:=by simpa using J6
 exact ox u ⟨hu,C5,λh=>absurd h hk⟩ Ep rfl;rintro u ⟨hu,C5,hnu⟩;have agM:=hS.head hu hnu;have hc:=Tm.acT (bu B M t) left ak;have Vv:(bu B M t).l=u.l.map (bu B M):=by rw[C5,agM];rfl
 rw[Vv]at hc;refine ag ?_;rw[pX (n:=left-1) aq aq];refine af (λh1=>?_) λh1=>?_
 have h1:=of_decide_eq_true h1;have e:=ret (r:=false) (q:=left-1) (by rw[hc,if_pos (.inl h1)]);rw[<-e.1,<-e.2];exact WM;have h1:=of_decide_eq_false h1;refine af (λh2=>?_) λh2=>?_
 have h2:=of_decide_eq_true h2;have e:=ret (r:=false) (q:=left-1) (by rw[hc,if_pos (.inr h2)]);rw[<-e.1,<-e.2];exact WM;have h2:=of_decide_eq_false h2;rw[if_neg aq]at hc;have aqT:=Tm.size_eq (bu B M t);rw[Vv]at aqT;have V2:=Tm.bO (u.l.map (bu B M));rw[fQ]at V2;refine mx 6 3 4 rfl rfl rfl ?_
 refine a7 (λx:Nat×Int=>([(1,iV ak),(5,.lo 3 0),(8,.lo 5 0),(12,.lo 6 0),(46,.d (.sl (Tm.aa u.l))),(47,iV u.l.length),(48,iV x.1)],mj B x.2++[aO u,Vx,.box [.d (.v (.int .i64 u.k)),.d (.v (.string u.s)),.d (.v (.int .i64 u.n)),.ow 7 x.1],.arr 4 x.1 (Tm.aa ((u.l.take x.1).map (bu B M)))]))
  (λx=>x.1<=u.l.length/\Tm.qe (u.l.map (bu B M)) (left-1) (ak+1)=Tm.qe ((u.l.drop x.1).map (bu B M)) x.2 (ak+1)/\0<=x.2/\x.2+x.1<=left-1) (λx=>u.l.length-x.1) (0,left-1) ⟨bU _,rfl,by simp only;omega,by simp only;omega⟩ ⟨.refl _,.refl _,.refl _,.refl _,.refl _,bJ.int um,.refl _,trivial⟩ rfl ?_
 rintro⟨k,q⟩ ⟨hk,hm,hq0,hq1⟩;simp only at hk hm hq0 hq1;refine ag ?_;refine af (λh=>?_) λh=>?_
 have aI:k<u.l.length:=bo h rfl;have e1:u.l[k]? = some u.l[k]:=dG aI;rw[List.drop_eq_getElem_cons aI,bM,Tm.qe]at hm;have Wc:(bu B M u.l[k]).size<=Tm.aw (u.l.map (bu B M)):=Tm.b8 (List.mem_map_of_mem (dy aI));refine cJ (Tm.ay e1) ?_;have fC:=ih u.l[k] q (ak+1) aq (Sub.Cq hu (dy aI)) hq0 aq aq aq;have Rq:=Tm.H2 (bu B M u.l[k]) q (ak+1) hq0 aq;have apR:=Tm.size_eq (bu B M u.l[k]);generalize hrr:Tm.lB (bu B M u.l[k]) q (ak+1)=rq at fC hm Rq;obtain⟨r,q'⟩:=rq
 have abU:∀(n:Nat) (Z:Int),(mj B Z).map (bG (rn [0,1,2,3] n))=mj B Z:=λn Z=>by
  have e:(bG (rn [0,1,2,3] n))=aR (dh (rn [0,1,2,3] n)):=by funext o;cases o<;>simp[bG,aR,gR]
  rw[e];exact yZ cN rfl rfl rfl Z
 rw[pX (n:=ak+1) aq aq];refine aj hg.ok hg.cm hg.wide hg.Y [0,1,2,3] (mj B q'++[aO u,Vx,.box [.d (.v (.int .i64 u.k)),.d (.v (.string u.s)),.d (.v (.int .i64 u.n)),.ow 7 k],.arr 4 k (Tm.aa ((u.l.take k).map (bu B M))),aO u.l[k]]) fC cN rfl rfl rfl rfl rfl Es rfl Es ?_;cases r with
 |false=>refine ag ?_;refine mM ?_;have e:=ret (r:=false) (q:=q') (by rw[hc,hm];simp);rw[<-e.1,<-e.2];exact WM
 |true=>refine ag ?_;refine gg ?_;refine cR hg.ok (Tm.aa ((u.l.take (k+1)).map (bu B M))) rfl rfl rfl rfl rfl rfl rfl rfl rfl aD NK (IT (bu B M) e1) abY abY (ag ?_);refine bf 8 (mj B q'++[aO u,Vx,.box [.d (.v (.int .i64 u.k)),.d (.v (.string u.s)),.d (.v (.int .i64 u.n)),.ow 7 (k+1)],.arr 4 (k+1) (Tm.aa ((u.l.take (k+1)).map (bu B M)))]) tn rfl (by show(mj B q').map _++_=_;rw[yZ cN rfl rfl rfl];rfl) ?_;have hq':=Rq.2.1 rfl;have hle:=Rq.1.1 rfl;simp only at hq';exact bb (k+1,q') ⟨aI,by rw[hm];simp,by simp only;omega,by simp only;omega⟩ gP ⟨.refl _,.refl _,.refl _,.refl _,.refl _,.refl _,bJ.wrap gP gP gP,trivial⟩ rfl
 have aI:u.l.length<=k:=bw h rfl;rw[cX aI]at hm;have e:=ret (r:=true) (q:=q) (by rw[hc,hm];rfl);rw[<-e.1,<-e.2];rw[Fm aI];have hT:(if true=true then bu B M t else aJ)=.mk u.k u.s u.n (u.l.map (bu B M)):=by simp only[if_true];rw[C5,agM]
 rw[hT];refine aL hg 4 5 cZ rfl ?_ (jj q _);exact congrArg (λx=>AV.cP [x,bV true]) (nP (a':=.d (.v (.int .i64 u.k))) (b':=.d (.v (.string u.s))) (c':=.d (.v (.int .i64 u.n))) rfl rfl rfl rfl rfl)
theorem Vy (B:an)(M:Nat)(hS:Sub B M)(hBl:B.length<=125000)(t:Tm)(hf:t.bA=true):br Tryz.prog 121 [.d (.sl (cW B)),.d (.map (HR (zg (B.map (·.1))))),t.av] (.cP [(if(Tm.lB (bu B M t) 3000 1).1 then bu B M t else aJ).av,bV (Tm.lB (bu B M t) 3000 1).1]):=by
 refine v8 Tryz.func121 λw S hg=>?_
 have fC:=PF ⟨[],λ_=>true⟩ B M hS hBl _ t 3000 1 cZ hf aq aq aq aq;generalize Tm.lB (bu B M t) 3000 1=rq at fC ⊢;obtain⟨r,q⟩:=rq;refine aj hg.ok hg.cm ⟨rfl,rfl⟩ (λ_ _ _ _ h=>by cases h) [1,0,4,5] [.box [.d (.sl (cW B))],.box [.d (.map (HR (zg (B.map (·.1)))))],aO t,Vx,.box [iV q],.box [.b9 133 [] [.lo 1 0,.lo 0 0,.lo 4 0,.lo 5 0]]] fC cN rfl rfl rfl rfl rfl rfl rfl rfl (ag ?_);refine bz ?_;rfl
theorem Vz (B:an)(M:Nat)(hS:jI B=true->Sub B M)(hB:PD B)(t:Tm)(ht:t.size<1000000000)(hn:∀x e,e∈t.gX x->e.2.s.size<1000000000):br Tryz.prog 93 [.d (.sl (cW B)),t.av] (.cP [(qX B M t).1.av,iV (qX B M t).2]):=by
 have hl:=hB.len;refine ng Tryz.func93 λw S hg=>?_
 refine aA (IS B hB) ?_;refine af (λh1=>?_) λh1=>?_
 refine bz ?_;unfold qX;rw[show jI B=false by simpa using h1];rfl;have h1:jI B=true:=by simpa using h1
 refine aA (fe t ht (hn 1)) ?_;rw[cV];refine af (λh2=>?_) λh2=>?_
 refine bz ?_;unfold qX;rw[show t.bB=false by simpa using h2,Ki];rfl;have h2:t.bB=true:=by simpa using h2
 refine aA (Mv B aq) ?_;have fC:=Vy B M (hS h1) hl t (lA h2);have dA:=(Tm.H2 (bu B M t) 3000 1 aq aq).1;have hb:(Tm.lB (bu B M t) 3000 1).1=(decide ((bu B M t).size<=3000)&&decide ((bu B M t).depth<=100)):=by rw[o5,dA];simp;omega
 have ha:qX B M t=if(Tm.lB (bu B M t) 3000 1).1 then(bu B M t,0)else(aJ,3):=by unfold qX;rw[h1,h2,hb];rfl
 generalize (Tm.lB (bu B M t) 3000 1).1=r at fC ha;refine aA (fC) ?_;rw[ha];cases r with
 |true=>refine gg ?_;refine bz ?_;rfl
 |false=>refine mM ?_;refine bz ?_;rfl
def aju (V:List Int):List Ob:=[.map (ct (V.map λn=>(n,bV true))),.box [.mp 0],.box [.ow 3 V.length],.arr 1 V.length (cD V)]
theorem VA {f:AV->AV}(h:f .tt=bV true)(V:List Int):aR f (.map (ct (sj V)))=.map (ct (V.map λn=>(n,bV true))):=by simp[aR,ct,sj,h]
theorem aae (Y:YP)(l:List Tm)(hsz:Tm.aw l<1000000000):aU Tryz.prog Y 39 [.d (.sl (Tm.aa l))] [] (.ow 3 (bP l).length) (aju (bP l)):=by
 refine Qo Tryz.func39 λw S φ hg=>?_
 have hφ:φ.length=0:=hg.kh.len;refine ag ?_;refine Eo ?_;refine mx 2 0 1 rfl rfl rfl ?_;refine akU ?_;rintro⟨k,acc⟩ ⟨hk,hm,vJ⟩;simp only at hk hm vJ;have hl:=Tm.bO l;refine ag ?_;refine af (λh=>?_) λh=>?_
 have aI:k<l.length:=bo h rfl;have e1:l[k]? = some l[k]:=dG aI;rw[List.drop_eq_getElem_cons aI]at hm vJ;simp only[Tm.aw]at vJ;refine cJ (Tm.ay e1) ?_;refine aA (H6 l[k]) ?_;generalize l[k]=t at *;refine HK hg.ok hg.cm hg.wide rfl (t.gX 1) Tm.enc ⟨(t.gX 1).map Tm.enc,λ_=>true⟩ rfl (λn=>zc (qh acc t n)++[aO t]) (λ_ _=>[(3,.lo 1 0),(4,.lo 2 0),(8,.lo 5 0)]) (λn e=>zc (qh acc t n)++[aO t,aO e.2]) _ .ret rfl rfl rfl (Cy _ t aq λ_ _ h=>OE h) rfl (λ_ _=>rfl) rfl ?_ ?_ ?_ rfl rfl (λ_ h=>by cases h);intro n x hx _ L w R0 X φ0 _ yi;refine WI ?_;exact N8 pI rfl;intro n x hx _ L w R0 X φ0 Nl yi;have yg:=th hg.ok L w R0 X φ0 yi;have hn:=OF hx;have eX:qh acc t (n+1)=fT (qh acc t n) x:=by unfold qh;rw[Jt,hx,acb];rfl
 have a8:(qh acc t n).length<=acc.length+n:=by have:=lC ((t.gX 1).take n) acc;unfold qh;rw[zi]at this;omega
 rw[eX];generalize qh acc t n=a at *;refine rN ?_;refine iq rfl rfl (λh1=>?_) (λh1=>?_)<;>refine eW yg 1000 rfl rfl ?_
 have wa:x.2.k=1:=by simpa using h1
 by_cases hmem:a.contains x.2.n=true;refine aeT ?_;refine rN ?_;refine Tg ?_;exact afC;have Ff:a.contains x.2.n=false:=by simpa using hmem
 refine aeZ ?_;refine rN ?_;refine tG yg (sj a) rfl rfl rfl rfl rfl rfl rfl (by rw[so,Ff];rfl) ?_;rw[show ∀E:bq,ev E (.const (.bool true))=.tt from λ_=>rfl,Gq];refine rN ?_;refine aeR ?_;rw[CE];refine rN ?_;refine Tg ?_;refine yj rfl ?_;unfold fT jC;rw[if_pos wa,Ff];simp only[lq,if_false,zc,List.length_append,dx,mu];rfl;have wa:¬ x.2.k=1:=by simpa using h1
 refine Tg ?_;exact yj rfl (by unfold fT;rw[if_neg wa];rfl);intro _;rw[Cz cN];refine ag ?_;refine bf 4 _ tn rfl (Wn (dD 4) rfl _ _) ?_;have hA:qh acc t (0+t.size)=(t.gX 1).foldl fT acc:=by unfold qh;rw[Fm (by rw[Tm.lR];omega)]
 have Ek:=lC (t.gX 1) acc;rw[Tm.lR]at Ek;rw[hA];refine bb (k+1,(t.gX 1).foldl fT acc) ⟨aI,hm,by simp only;omega⟩ gP ⟨.refl _,.refl _,.refl _,.refl _,bJ.wrap gP gP gP,trivial⟩ rfl;have aI:l.length<=k:=bw h rfl;have e:bP l=acc:=by rw[hm,cX aI];rfl
 rw[e];refine aL hg 4 5 fO rfl rfl ?_;simp only[zc,bM,fm,List.take];rw[VA rfl];rfl
theorem u1 (Y:YP)(d:Nat)(B:an):aU Tryz.prog Y 49 [.lo 0 0] (cC d B) (iV B.length) (cC d B):=by
 refine Qo Tryz.func49 λw S φ hg=>?_
 have hφ:φ.length=3:=hg.kh.len;refine ag ?_;refine JQ ?_;refine gg ?_;refine afo ?_;exact WJ
theorem vW (Y:YP)(d:Nat)(B X:an)(hn:((B++X).map (·.1)).Nodup)(hl:(B++X).length<=1000000):aU Tryz.prog Y 77 [.lo 0 0,iV B.length] (cC d (B++X)) (iV 0) (cC (X.length+d+1) B):=by
 refine Qo Tryz.func77 λw S φ hg=>?_
 have hφ:φ.length=3:=hg.kh.len;refine ag ?_;refine JQ ?_;refine gg ?_;refine gg ?_;refine u2 hg.ok rfl rfl rfl rfl rfl (n:=((B++X).length:Int)) (by rw[bN,fQ]) (ag ?_);refine eG hg.ok rfl rfl (by rw[List.length_append];simp;omega) rfl rfl ?_;refine aj hg.ok hg.cm hg.wide hg.Y [0,1,2] (cC (X.length+d+1) B) (Dw Y d B X hn hl) cN rfl rfl rfl rfl rfl jl rfl jl (ag ?_);exact afB
def JU (d:Nat)(B:an)(t:Tm)(V R:List Int)(s:Nat)(Q:an):List Ob:=cC d B++[aO t,.arr 5 Q.length (cW Q),.map (ct ((Q.map (·.1)).map λn=>(n,bV true))),.map (ct (V.map λn=>(n,bV true))),.box [.mp 6],.box [.ow 9 V.length],.arr 1 s (cD R)]
def ajv:Nat->cI:=λf=>bif Nat.beq f 39 then .bT 0 else bif Nat.beq f 4000000004 then .bT 1 else .jz
theorem aaf {f:Nat->Nat}(M:List Int):bG f (.map (ct (M.map λn=>(n,bV true))))=.map (ct (M.map λn=>(n,bV true))):=by simp only[bG,ct,kn];congr 1
theorem GO (l:List Tm):(bP l).length<=Tm.aw l:=by
 have h:(wm [] l).length<=Tm.aw l:=by simpa using qi l []
 exact h
theorem Fg (d:Nat)(B:an)(t:Tm)(V R:List Int)(s:Nat)(Q:an)(n:Nat)(hn:n=10):(JU d B t V R s Q).map (aR (dD n))=JU d B t V R s Q:=by subst hn;simp only[JU,cC,eR,bM,fm,jo,yp];rw[dS (λt=>rfl),rh (λb=>rfl),rh (λb=>rfl)];rfl
theorem PG (Y:YP)(d:Nat)(B Q':an)(hB:∀b∈B,b.2.size<1000000)(t:Tm)(ht:t.size<1000000)(n0:Nat)(h0:Tm.jX B n0 (bP [t]) []=some Q')(hQ:∀Q:an,(Q.map (·.1)).Nodup->(∀b∈Q,ba B b.1=some b.2)->Q.length<=125000):aU Tryz.prog Y 94 [.lo 0 0,t.av] (cC d B) (.d (.sl (cW Q'))) (cC d B):=by
 refine aU.ej (pf:=ajv) gK mixed Tryz.func94 rfl da da (by simp[Tryz.ntmps94]) (by simp[cC]) λw S φ hg=>?_
 have hφ:φ.length=3:=hg.kh.len;refine eW hg.ok 6 rfl rfl ?_;refine KR 5 5 rfl rfl (ag ?_);refine Eo ?_;refine yM hg.ok hg.cm hg.wide hg.Y (JU d B t (bP [t]) (bP [t]) (bP [t]).length []) (aae Y [t] J1).one cN rfl rfl rfl rfl rfl ?_ ?_;show _++List.map _ (aju _)=_
 simp only[aju,bM,fm];rw[aaf];rfl;refine ag ?_;refine a7 (λx:Nat×List Int×an×Nat=>([(0,.lo 0 0),(5,.ow 4 x.2.2.1.length),(6,.mp 5),(7,.ow 9 x.2.2.2)],JU d B t (bP [t]) x.2.1 x.2.2.2 x.2.2.1)) (λx=>Tm.jX B x.1 x.2.1 x.2.2.1=some Q'/\(x.2.2.1.map (·.1)).Nodup/\(∀b∈x.2.2.1,ba B b.1=some b.2)/\x.2.1.length<=1000000*(x.2.2.1.length+1)) (λx=>x.1) (n0,bP [t],[],(bP [t]).length) ⟨h0,by simp,by simp,?_⟩ Bi rfl ?_;have:=GO [t];simp only[Tm.aw,mu]at this ⊢;omega;rintro⟨n,R,Q,s⟩ ⟨hn,rO,hlk,hRl⟩;simp only at hn rO hlk hRl;have hQl:=hQ Q rO hlk;refine ag ?_;refine u2 hg.ok rfl rfl rfl rfl rfl (n:=(R.length:Int)) Q0 (ag ?_);cases n with
 |zero=>simp[Tm.jX]at hn
 |succ n=>
 cases R with
 |nil=>simp only[Tm.jX,Option.some.injEq]at hn;subst hn;refine gg ?_;exact aL hg 3 5 cZ rfl (K9 rfl rfl) (gu d B _)
 |cons v R=>
 refine mM ?_;simp only[dx]at hRl;have gY:(cD (v::R))[(0:Int).toNat]? = some [.v (.int .i64 v)]:=rfl;refine se hg.ok rfl rfl rfl rfl rfl rfl rfl rfl rfl (kH 0) (by rw[bN];simp) (ag ?_);refine QF ?_;refine Zm hg.ok (cD R) rfl rfl rfl rfl rfl rfl rfl rfl rfl eA WY rfl (ag ?_);cases hb:ba B v with
 |none=>
  have Bf:Tm.jX B n R Q=some Q':=by simpa only[Tm.jX,hb]using hn
  refine ahj ?_;refine gg ?_;refine ae5 ?_;exact aeX
 |some x=>
  refine ahk ?_;refine mM ?_;have tk:=Ds (Q.map (·.1)) v;cases hc:(Q.map (·.1)).contains v with
  |true=>
   have Bf:Tm.jX B n R Q=some Q':=by simp only[Tm.jX,hb]at hn;rwa [if_pos hc]at hn
   rw[hc,if_pos rfl]at tk;refine gN hg.ok ((Q.map (·.1)).map λn=>(n,bV true)) rfl rfl rfl rfl rfl rfl rfl (zv:=.bool false) da (v:=bV true) (by rw[tk];rfl) (ag ?_);refine gg ?_;refine ae5 ?_;exact aeX
  |false=>
   have Bf:Tm.jX B n (R++bP [x]) (Q++[(v,x)])=some Q':=by simp only[Tm.jX,hb]at hn;rwa [if_neg (by rw[hc];simp)]at hn
   rw[hc,if_neg aD]at tk;have Nr:x.size<1000000:=hB _ (Tm.du hb);have hxl:=GO [x];simp only[Tm.aw,Fp]at hxl;refine gN hg.ok ((Q.map (·.1)).map λn=>(n,bV true)) rfl rfl rfl rfl rfl rfl rfl (zv:=.bool false) da (v:=.ff) (by rw[tk];rfl) (ag ?_);refine Gt hg.ok (bV true) ((Q.map (·.1)).map λn=>(n,bV true)) (((Q++[(v,x)]).map (·.1)).map λn=>(n,bV true)) rfl rfl rfl rfl rfl rfl rfl tk .tt aD (ag ?_);refine cR hg.ok (cW (Q++[(v,x)])) rfl rfl rfl rfl rfl rfl rfl rfl rfl aD NK (Vt _ _ _) (by rw[fF];simp;omega) (by rw[fF];simp;omega) (ag ?_);refine aA ((tK [x] J1).one) ?_;refine cR hg.ok (cD (R++bP [x])) rfl rfl rfl rfl rfl rfl rfl rfl rfl (by simp[cD,HO]) (by simp[cD,HO,pD]) (by simp[cD]) (by rw[bN,bN];simp;omega) (by rw[bN,bN];omega) (ag ?_);refine bf 10 (JU d B t (bP [t]) (R++bP [x]) (s+2) (Q++[(v,x)])) tn rfl ?_ ?_;rw [<-Fg d B t (bP [t]) (R++bP [x]) (s+2) (Q++[(v,x)]) 10 rfl];have e:(Q++[(v,x)]).length=Nat.succ Q.length:=by simp
   unfold JU;rw[e];rfl;refine bb (n,R++bP [x],Q++[(v,x)],s+2) ⟨Bf,?_,λb uL=>?_,by simp only[List.length_append,dx,mu];omega⟩ gP ⟨.refl _,?_,.refl _,.refl _,trivial⟩ rfl;rw [eR,Bq];refine⟨rO,by simp,λa ha b hb=>?_⟩;simp only[bM,fm,eu]at hb;intro e;rw[hb]at e;rw[e]at ha;have:(Q.map (·.1)).contains v=true:=ahD.2 ha;rw[hc]at this;cases this;rcases cu.1 uL with h| h
   exact hlk b h;rw[eu]at h;subst h;exact hb;have e:(Q++[(v,x)]).length=Nat.succ Q.length:=by simp
   simp only[e];exact .refl _
def an3:Nat->cI:=λf=>bif Nat.beq f 94 then .bT 3 else bif Nat.beq f 4000100003 then .look 4 else .jz
theorem xJ (Y:YP)(d:Nat){S:List Int}{N:Nat}(hS:S.length<=125000)(hN:N<=3000)(B:an)(hr:∀b∈B,b.2.bB=true)(hB:Tm.UG S N [] B)(t:Tm)(ht:t.bB=true)(nt:∀x,∀e∈t.gX x,e.2.s.size<1000000000):aU Tryz.prog Y 69 [.lo 0 0,t.av] (cC d B) (.cP [(EL (bu B B.length t)).1.av,iV (EL (bu B B.length t)).2]) (cC d B):=by
 have st:t.size<=3000:=(Tm.dM.1 ht).2.1;obtain⟨n0,Q,h0⟩:=Tm.tW B _ [] cZ (bP [t]);have hI:=Tm.A1 (λb hb=>(hB.mI b hb).1) _ _ _ _ h0 (Tm.oV.first B (bP [t]));obtain⟨q1,q2,q3,_⟩:=Tm.yY hB hI;have hBl:=hB.Pq;have HG:∀b∈B,b.2.size<1000000:=λb hb=>by have:=hB.sb b hb;omega
 have hft:Tm.cv [t]=true:=Tm.fz.2 λx hx=>by rw[eu]at hx;subst hx;exact lA ht
 have hap:=Tm.Mu hr hB hI ht λu hu=>(kj hft).2 (by simpa[Tm.ep]using hu)
 have sQ:PD Q:=⟨by omega,λb hb=>by have:=HG b (q3 b hb);omega,λb hb x e he=>vE (hB.mI b (q3 b hb)).1 x e he⟩;have hA:=Vz Q Q.length (λ_=>q1) sQ t aq λx e he=>nt x e he
 rw[hap]at hA
 have hN':=PG Y d B Q HG t aq n0 h0 λQ' g1 g2=>by
  have:=Tm.zN (B:=B) g1 λm hm=>by obtain⟨b,hb,rfl⟩:=gm.1 hm;rw[g2 b hb];simp
  rw[fQ]at this;omega
 generalize EL (bu B B.length t)=r at hA;obtain⟨x,e⟩:=r;simp only at hA ⊢;refine aU.ej (pf:=an3) gK mixed Tryz.func69 rfl da da (by simp[Tryz.ntmps69]) (by simp[cC]) λw S φ hg=>?_
 have hφ:φ.length=3:=hg.kh.len;refine ag ?_;refine JQ ?_;refine gg ?_;refine WC ?_;refine aA (fe t aq (nt 1)) ?_;rw[cV,ht];refine gg ?_;refine WC ?_;refine jM hg.ok hg.cm hg.wide hg.Y [0,1,2] (cC d B++[aO t,.box [.d (.v (.int .i64 0)),.d (.v (.string ByteArray.empty)),.d (.v (.int .i64 0)),.d (.v (.slice none 0 0))]]) hN' cN (λi hi=>by show i<φ.length;simp at hi;omega) rfl rfl rfl rfl rfl jl rfl jl (ag ?_);refine WC ?_;refine aA (hA) ?_;exact WJ
end Go.Proofs.YtmjmngigbachdaaGreatDoor

namespace ax
open Go
variable{m:Mo}
def IU (e:Ev):Prop:=e.k=1\/e.k=2
def aag (e:Ev):Prop:=e.k=3\/e.k=4\/e.k=5
structure Grow (m:Mo) (r:Mo×Bool):Prop where
 go:r.2=true->∃X,r.1.aF=m.aF++X/\∀e∈X,IU e
 stop:r.2=false->∃X e,r.1.aF=m.aF++(X++[e])/\(∀e∈X,IU e)/\aag e
theorem Grow.same{m':Mo}(h:m'.aF=m.aF):Grow m (m',true):=⟨λ_=>⟨[],by simp[h],by simp⟩,λh=>by cases h⟩
theorem Grow.last{m m':Mo}{e:Ev}(h:m'.aF=m.aF++[e])(he:aag e):Grow m (m',false):=⟨λh=>(by cases h),λ_=>⟨[],e,by simp[h],by simp,he⟩⟩
theorem Grow.of_eq{m m1:Mo}{r:Mo×Bool}(h:m1.aF=m.aF)(hr:Grow m1 r):Grow m r:=⟨λh1=>by rw[<-h];exact hr.go h1,λh1=>by rw[<-h];exact hr.stop h1⟩
theorem Grow.add{m m1:Mo}{e:Ev}{r:Mo×Bool}(h:m1.aF=m.aF++[e])(he:IU e)(hr:Grow m1 r):Grow m r:=by refine⟨λh1=>?_,λh1=>?_⟩;obtain ⟨X,h2,h3⟩:=hr.go h1;simp_all;obtain ⟨X,e2,h2,h3,h4⟩:=hr.stop h1;grind
theorem tX(m:Mo)(t:Tr):∀(l:List Cs) (i:Nat) (m':Mo),jw m t i l=some m'->m'.aF=m.aF/\m'.done=m.done
 |[],_,_,h=>by simp[jw]at h
 |c::r,i,m',h=>by
  rw[jw]at h;split at h;cases hu:sV m.B t.call (dw m.aB c.head)with
  |none=>rw[hu]at h;exact tX m t r _ _ h
  |some B'=>grind
  exact tX m t r _ _ h
theorem Dy(P:List Cs):∀(n:Nat) (m:Mo),Grow m (jA P n m)/\(jA P n m).1.done=m.done
 |0,m=>⟨.last rfl (.inr (.inl rfl)),rfl⟩
 |n+1,m=>by
  rw[jA];cases hl:m.ai.getLast? with
  |none=>exact⟨.last rfl (.inr (.inl rfl)),rfl⟩
  |some t=>
   simp only;split;exact⟨.same rfl,rfl⟩;cases hc:jw {m with ai:=m.ai.dropLast,B:=m.B.take t.mark,aB:=t.aB} t t.pC (P.drop t.pC)with
   |none=>obtain⟨h1,h2⟩:=Dy P n {m with ai:=m.ai.dropLast,B:=m.B.take t.mark,aB:=t.aB};exact⟨.of_eq (m1:={m with ai:=m.ai.dropLast,B:=m.B.take t.mark,aB:=t.aB}) rfl h1,h2⟩
   |some m'=>obtain⟨h1,h2⟩:=tX _ _ _ _ _ hc;exact⟨.same h1,h2⟩
theorem ml(P:List Cs)(m:Mo):Grow m (ew P m)/\(ew P m).1.done=m.done:=Dy P _ m
theorem PH(P:List Cs)(m:Mo)(t:Tm):Grow m (oU P m t)/\(oU P m t).1.done=m.done:=by
 unfold oU;split;exact⟨.last rfl (.inl rfl),rfl⟩;simp only;generalize eg t.s (t.l.map λx=>(eL m.B x).1) m.aB=a;split;exact⟨.last rfl (.inl rfl),rfl⟩;split;exact ml P m
 ·split;cases fY m.B a.al with
  |none=>exact⟨.same rfl,rfl⟩
  |some _=>exact ml P m
  cases fY m.B a.al with
  |none=>exact ml P m
  |some B'=>refine⟨⟨λ_=>?_,λh=>by cases h⟩,rfl⟩;by_cases ht:a.tx=[];simp_all;exact⟨[sU a.tx],by simp[ht],λe he=>by rw[eu.1 he];exact .inr rfl⟩
theorem IV(P:List Cs)(head:Tm)(m:Mo):Grow m (jx P head m)/\(jx P head m).1.done=m.done:=by unfold jx;split;exact⟨.last rfl (.inl rfl),rfl⟩;obtain ⟨h1,h2⟩:=ml P {m with aF:=m.aF++[oc (dP (head.l.map λx=>(eL m.B x).1)).1]};exact⟨.add (e:=oc (dP (head.l.map λx=>(eL m.B x).1)).1) rfl (.inl rfl) h1,h2⟩
theorem PI(P:List Cs)(head:Tm)(ab:Nat)(m:Mo):Grow m (fq P head ab m):=by
 unfold fq;cases m.now with
 |nil=>exact(IV P head m).1
 |cons x r=>
  simp only;split;exact .same rfl
  ·split;exact .of_eq (m1:={m with now:=r}) rfl (PH P _ _).1
   ·split;exact .same rfl
    ·split;exact .same rfl
     ·split
      ·split;exact .last rfl (.inr (.inr rfl))
       ·cases hc:jw {m with now:=r,done:=m.done+1} ⟨m.B.length,m.aB,dw x.sh x.g.t,0,r,false⟩ 0 P with|none=>exact .of_eq (m1:={m with now:=r,done:=m.done+1}) rfl (ml P _).1|some m'=>exact .same (tX _ _ _ _ _ hc).1
      exact .same rfl
theorem GP(P:List Cs)(head:Tm)(ab:Nat):∀(n:Nat) (m:Mo),Grow m (x9 P head ab n m)|0,m=>.same rfl|n+1,m=>by rw[x9];have h1:=PI P head ab m;split;rename_i hs;obtain⟨X,h2,h3⟩:=h1.go hs;have h4:=GP P head ab n (fq P head ab m).1;refine⟨λh=>?_,λh=>?_⟩;obtain ⟨Y,h5,h6⟩:=h4.go h;exact⟨X++Y,by rw[h5,h2];simp,λe he=>(cu.1 he).elim (h3 e) (h6 e)⟩;obtain ⟨Y,e,h5,h6,h7⟩:=h4.stop h;exact⟨X++Y,e,by rw[h5,h2];simp,λe he=>(cu.1 he).elim (h3 e) (h6 e),h7⟩;grind
end ax

namespace ax
open Go
mutual
def Dz:Gl->Nat| .mk k _ a b c=>(if k=0\/k=2 then 1 else 4)+gH a+gH b+gH c
def gH:List Gl->Nat|[]=>0|g::r=>Dz g+gH r
end
theorem j4 (g:Gl):Dz g=(if g.k=0\/g.k=2 then 1 else 4)+gH g.a+gH g.b+gH g.c:=by cases g;rw[Dz];rfl
theorem DA:∀(l m:List Gl),gH (l++m)=gH l+gH m|[],m=>by rw[gH];simp|g::r,m=>by rw[jo,gH,gH,DA r m];omega
theorem gF:Dz aN=1:=by rw[aN,Dz];simp[gH]
theorem wz:Dz dE=1:=by rw[dE,Dz];simp[gH]
theorem aah (l:List Gl)(sh to:Nat)(r:List Td):(bR l sh to r).map (·.g)=l++r.map (·.g):=by simp[bR,Function.comp_def]
end ax

namespace ax
open Go
structure Im where
 g:Gl
 sh:Nat
 id:Nat
structure Wo where
 left:Nat
 aF:List Ev
 ids:Nat
 over:Bool
inductive Dn (β:Type) where
 |bad (e:Int)
 |no
 |yes (b:β) (next:Nat) (tx:Bs)
structure Dt (β:Type) where
 uni:β->Tm->Tm->Option β
 pr:β->Nat->Tm->Dn β
 A2:β->List Tm->Option (List Tm)
def c9 (l:List Gl)(sh id:Nat)(r:List Im):List Im:=l.map (λg=>⟨g,sh,id⟩)++r
def sX:Option Nat->Nat->Option Nat|none,b=>some b|some a,b=>if b<a then some b else some a
def pt (n id:Nat):Option Nat:=if n=id then none else some n
def Wo.see (w:Wo)(e:Ev):Wo:={w with aF:=w.aF++[e]}
def Wo.stop (w:Wo)(e:Ev):Wo:={w with aF:=w.aF++[e],over:=true}
def Wo.next (w:Wo):Wo:={w with ids:=w.ids+1}
def Wo.said (w:Wo)(tx:Bs):Wo:=if tx=[]then w else w.see (sU tx)
inductive Jb where
 |run (l:List Im)
 |cls (cs:List Cs) (t:Tm) (id:Nat) (r:List Im)
inductive er {β:Type} (D:Dt β) (P:List Cs) (head:List Tm):Jb->β->Nat->Wo->Option Nat->Wo->Prop
 |mB {b f w} (h:D.A2 b head=none):er D P head (.run []) b f w none (w.stop (kU 3))
 |A2 {b f w l} (h:D.A2 b head=some l):er D P head (.run []) b f w none (w.see (oc l))
 |cut {x:Im} {r b f w n w'} (hk:x.g.k=0\/x.g.k=3) (h:er D P head (.run r) b f w n w'):er D P head (.run (x::r)) b f w (sX n x.id) w'
 |bad {x:Im} {r b f w e} (hk:x.g.k=2) (h:D.pr b f (dw x.sh x.g.t)=.bad e):er D P head (.run (x::r)) b f w none (w.stop (kU e))
 |no {x:Im} {r b f w} (hk:x.g.k=2) (h:D.pr b f (dw x.sh x.g.t)=.no):er D P head (.run (x::r)) b f w none w
 |yes {x:Im} {r b f w b' f' tx n w'} (hk:x.g.k=2) (hd:D.pr b f (dw x.sh x.g.t)=.yes b' f' tx) (h:er D P head (.run r) b' f' (w.said tx) n w'):er D P head (.run (x::r)) b f w n w'
 |stop {x:Im} {r b f w} (hk:x.g.k=1) (h:w.left=0):er D P head (.run (x::r)) b f w none (w.next.stop oY)
 |call {x:Im} {r b f w c n w'} (hk:x.g.k=1) (hl:w.left=c+1) (h:er D P head (.cls P (dw x.sh x.g.t) (w.ids+1) r) b f {w.next with left:=c} n w'):er D P head (.run (x::r)) b f w n w'
 |px {x:Im} {r b f w n w'} (hk:x.g.k=5) (h:er D P head (.run (c9 x.g.a x.sh (w.ids+1) [⟨aN,0,w.ids+1⟩,⟨dE,0,0⟩])) b f w.next n w') (hn:n.isSome=true\/w'.over=true):er D P head (.run (x::r)) b f w none w'
 |wI {x:Im} {r b f w w1 n w'} (hk:x.g.k=5) (h:er D P head (.run (c9 x.g.a x.sh (w.ids+1) [⟨aN,0,w.ids+1⟩,⟨dE,0,0⟩])) b f w.next none w1) (ho:w1.over=false) (h2:er D P head (.run r) b f w1 n w'):er D P head (.run (x::r)) b f w n w'
 |py {x:Im} {r b f w n w'} (hk:x.g.k=4) (h:er D P head (.run (c9 x.g.a x.sh (w.ids+1) (⟨aN,0,w.ids+1⟩::c9 x.g.b x.sh x.id r))) b f w.next n w') (ho:w'.over=true):er D P head (.run (x::r)) b f w none w'
 |uU {x:Im} {r b f w n w'} (hk:x.g.k=4) (h:er D P head (.run (c9 x.g.a x.sh (w.ids+1) (⟨aN,0,w.ids+1⟩::c9 x.g.b x.sh x.id r))) b f w.next (some n) w') (ho:w'.over=false):er D P head (.run (x::r)) b f w (pt n (w.ids+1)) w'
 |Ho {x:Im} {r b f w w1 n w'} (hk:x.g.k=4) (h:er D P head (.run (c9 x.g.a x.sh (w.ids+1) (⟨aN,0,w.ids+1⟩::c9 x.g.b x.sh x.id r))) b f w.next none w1) (ho:w1.over=false) (h2:er D P head (.run (c9 x.g.c x.sh x.id r)) b f w1 n w'):er D P head (.run (x::r)) b f w n w'
 |skip {x:Im} {r b f w n w'} (h0:x.g.k≠0) (h1:x.g.k≠1) (h2:x.g.k≠2) (h3:x.g.k≠3) (h4:x.g.k≠4) (h5:x.g.k≠5) (h:er D P head (.run r) b f w n w'):er D P head (.run (x::r)) b f w n w'
 |none {t id r b f w}:er D P head (.cls [] t id r) b f w none w
 |other {c:Cs} {cs t id r b f w n w'} (hh:¬ (c.head.s=t.s/\c.head.l.length=t.l.length)) (h:er D P head (.cls cs t id r) b f w n w'):er D P head (.cls (c::cs) t id r) b f w n w'
 |fail {c:Cs} {cs t id r b f w n w'} (hh:c.head.s=t.s/\c.head.l.length=t.l.length) (hu:D.uni b t (dw f c.head)=none) (h:er D P head (.cls cs t id r) b f w n w'):er D P head (.cls (c::cs) t id r) b f w n w'
 |over {c:Cs} {cs t id r b f w b' n w'} (hh:c.head.s=t.s/\c.head.l.length=t.l.length) (hu:D.uni b t (dw f c.head)=some b') (h:er D P head (.run (c9 c.body f id r)) b' (f+c.vars.toNat) w n w') (ho:w'.over=true):er D P head (.cls (c::cs) t id r) b f w none w'
 |aE {c:Cs} {cs t id r b f w b' n w'} (hh:c.head.s=t.s/\c.head.l.length=t.l.length) (hu:D.uni b t (dw f c.head)=some b') (h:er D P head (.run (c9 c.body f id r)) b' (f+c.vars.toNat) w (some n) w') (ho:w'.over=false):er D P head (.cls (c::cs) t id r) b f w (pt n id) w'
 |more {c:Cs} {cs t id r b f w b' w1 n w'} (hh:c.head.s=t.s/\c.head.l.length=t.l.length) (hu:D.uni b t (dw f c.head)=some b') (h:er D P head (.run (c9 c.body f id r)) b' (f+c.vars.toNat) w none w1) (ho:w1.over=false) (h2:er D P head (.cls cs t id r) b f w1 n w'):er D P head (.cls (c::cs) t id r) b f w n w'
theorem er.mono {β:Type}{D:Dt β}{P:List Cs}{head:List Tm}{j:Jb}{b:β}{f:Nat}{w:Wo}{n:Option Nat}{w':Wo}(h:er D P head j b f w n w'):w'.left<=w.left/\w.ids<=w'.ids:=by
 induction h with
 |mB=>exact⟨eT _,eT _⟩
 |A2=>exact⟨eT _,eT _⟩
 |cut _ _ ih=>exact ih
 |bad=>exact⟨eT _,eT _⟩
 |no=>omega
 |yes _ _ _ ih=>simp only[Wo.said,Wo.see]at ih;grind
 |stop=>exact⟨eT _,pM _⟩
 |call _ hl _ ih=>simp only[Wo.next]at ih;omega
 |px _ _ _ ih=>simp only[Wo.next]at ih;omega
 |wI _ _ _ _ ih wg=>simp only[Wo.next]at ih;omega
 |py _ _ _ ih=>simp only[Wo.next]at ih;omega
 |uU _ _ _ ih=>simp only[Wo.next]at ih;omega
 |Ho _ _ _ _ ih wg=>simp only[Wo.next]at ih;omega
 |skip _ _ _ _ _ _ _ ih=>exact ih
 |none=>omega
 |other _ _ ih=>exact ih
 |fail _ _ _ ih=>exact ih
 |over _ _ _ _ ih=>exact ih
 |aE _ _ _ _ ih=>exact ih
 |more _ _ _ _ _ ih wg=>omega
def mC (l:List Im):Nat:=gH (l.map (·.g))
theorem ajx (l:List Gl)(sh id:Nat)(r:List Im):(c9 l sh id r).map (·.g)=l++r.map (·.g):=by simp[c9,Function.comp_def]
theorem dF (l:List Gl)(sh id:Nat)(r:List Im):mC (c9 l sh id r)=gH l+mC r:=by unfold mC;rw[ajx,DA]
theorem bK (x:Im)(r:List Im):mC (x::r)=Dz x.g+mC r:=by simp only[mC,bM,gH]
theorem pJ:mC []=0:=by simp[mC,gH]
theorem er.total {β:Type}(D:Dt β)(P:List Cs)(head:List Tm):∀(c s:Nat) (l:List Im) (b:β) (f:Nat) (w:Wo),w.left<=c->mC l<=s->∃n w',er D P head (.run l) b f w n w':=by
 intro c;induction c with
 |zero=>
  intro s;induction s with
  |zero=>
   intro l b f w hc hs;cases l with
   |nil=>cases h:D.A2 b head with
    |none=>exact⟨_,_,.mB h⟩
    |some l=>exact⟨_,_,.A2 h⟩
   |cons x r=>rw[bK,j4]at hs;grind
  |succ s ih=>
   intro l b f w hc hs;cases l with
   |nil=>cases h:D.A2 b head with
    |none=>exact⟨_,_,.mB h⟩
    |some l=>exact⟨_,_,.A2 h⟩
   |cons x r=>
    have hz:=j4 x.g;rw[bK]at hs;have hr:mC r<=s:=by grind
    by_cases h0:x.g.k=0\/x.g.k=3;obtain ⟨n,w',h⟩:=ih r b f w hc hr;exact⟨_,_,.cut h0 h⟩;by_cases h2:x.g.k=2;cases h:D.pr b f (dw x.sh x.g.t)with
    |bad e=>exact⟨_,_,.bad h2 h⟩
    |no=>exact⟨_,_,.no h2 h⟩
    |yes b' f' tx=>exact alV
    rw[if_neg aq]at hz;by_cases h4:x.g.k=4;obtain ⟨n,w1,h⟩:=ih (c9 x.g.a x.sh (w.ids+1) (⟨aN,0,w.ids+1⟩::c9 x.g.b x.sh x.id r)) b f w.next hc als;cases ho:w1.over with
    |true=>exact⟨_,_,.py h4 h ho⟩
    |false=>
     cases n with
     |some n=>exact⟨_,_,.uU h4 h ho⟩
     |none=>have hm:=h.mono;simp only[Wo.next]at hm;exact alT
    by_cases h5:x.g.k=5;obtain ⟨n,w1,h⟩:=ih (c9 x.g.a x.sh (w.ids+1) [⟨aN,0,w.ids+1⟩,⟨dE,0,0⟩]) b f w.next hc ali;by_cases hn:n.isSome=true\/w1.over=true;exact⟨_,_,.px h5 h hn⟩;cases n with
    |some n=>simp at hn
    |none=>
     have ho:w1.over=false:=by simpa using hn
     have hm:=h.mono;simp only[Wo.next]at hm;exact al6
    by_cases h1:x.g.k=1;exact⟨_,_,.stop h1 aq⟩;obtain ⟨n,w',h⟩:=ih r b f w hc hr;exact⟨_,_,.skip aq h1 h2 aq h4 h5 h⟩
 |succ c ihc=>
  have aqV:∀(cs:List Cs) (t:Tm) (id:Nat) (r:List Im) (b:β) (f:Nat) (w:Wo),w.left<=c->∃n w',er D P head (.cls cs t id r) b f w n w':=by
   intro cs;induction cs with
   |nil=>intro t id r b f w _;exact⟨_,_,.none⟩
   |cons x cs ih=>
    intro t id r b f w hw;by_cases hh:x.head.s=t.s/\x.head.l.length=t.l.length;cases hu:D.uni b t (dw f x.head)with
    |none=>obtain⟨n,w',h⟩:=ih t id r b f w hw;exact⟨_,_,.fail hh hu h⟩
    |some b'=>
     obtain⟨n,w1,h⟩:=ihc _ (c9 x.body f id r) b' (f+x.vars.toNat) w hw cZ;cases ho:w1.over with
     |true=>exact⟨_,_,.over hh hu h ho⟩
     |false=>
      cases n with
      |some n=>exact⟨_,_,.aE hh hu h ho⟩
      |none=>have hm:=h.mono;obtain⟨n,w',h'⟩:=ih t id r b f w1 aq;exact⟨_,_,.more hh hu h ho h'⟩
    obtain ⟨n,w',h⟩:=ih t id r b f w hw;exact⟨_,_,.other hh h⟩
  intro s;induction s with
  |zero=>
   intro l b f w hc hs;cases l with
   |nil=>cases h:D.A2 b head with
    |none=>exact⟨_,_,.mB h⟩
    |some l=>exact⟨_,_,.A2 h⟩
   |cons x r=>rw[bK,j4]at hs;grind
  |succ s ih=>
   intro l b f w hc hs;cases l with
   |nil=>cases h:D.A2 b head with
    |none=>exact⟨_,_,.mB h⟩
    |some l=>exact⟨_,_,.A2 h⟩
   |cons x r=>
    have hz:=j4 x.g;rw[bK]at hs;have hr:mC r<=s:=by split at hz<;>omega
    by_cases h0:x.g.k=0\/x.g.k=3;obtain ⟨n,w',h⟩:=ih r b f w hc hr;exact⟨_,_,.cut h0 h⟩;by_cases h2:x.g.k=2;cases h:D.pr b f (dw x.sh x.g.t)with
    |bad e=>exact⟨_,_,.bad h2 h⟩
    |no=>exact⟨_,_,.no h2 h⟩
    |yes b' f' tx=>exact alV
    rw[if_neg aq]at hz;by_cases h4:x.g.k=4;obtain ⟨n,w1,h⟩:=ih (c9 x.g.a x.sh (w.ids+1) (⟨aN,0,w.ids+1⟩::c9 x.g.b x.sh x.id r)) b f w.next hc als;cases ho:w1.over with
    |true=>exact⟨_,_,.py h4 h ho⟩
    |false=>
     cases n with
     |some n=>exact⟨_,_,.uU h4 h ho⟩
     |none=>have hm:=h.mono;simp only[Wo.next]at hm;exact alT
    by_cases h5:x.g.k=5;obtain ⟨n,w1,h⟩:=ih (c9 x.g.a x.sh (w.ids+1) [⟨aN,0,w.ids+1⟩,⟨dE,0,0⟩]) b f w.next hc ali;by_cases hn:n.isSome=true\/w1.over=true;exact⟨_,_,.px h5 h hn⟩;cases n with
    |some n=>simp at hn
    |none=>
     have ho:w1.over=false:=by simpa using hn
     have hm:=h.mono;simp only[Wo.next]at hm;exact al6
    by_cases h1:x.g.k=1;by_cases hl:w.left=0;exact⟨_,_,.stop h1 hl⟩;obtain ⟨k,hk⟩:∃k,w.left=k+1:=⟨w.left-1,by omega⟩;obtain⟨n,w',h⟩:=aqV P (dw x.sh x.g.t) (w.ids+1) r b f {w.next with left:=k} ir;exact⟨_,_,.call h1 hk h⟩;obtain ⟨n,w',h⟩:=ih r b f w hc hr;exact⟨_,_,.skip aq h1 h2 aq h4 h5 h⟩
theorem er.pB {β:Type}{D:Dt β}{P:List Cs}{head:List Tm}{bs Dm K:Nat}(hP:∀c∈P,gH c.body<=bs)(hK:P.length*(Dm+1)<=K){j:Jb}{b:β}{f:Nat}{w:Wo}{n:Option Nat}{w':Wo}(h:er D P head j b f w n w') :
  match (generalizing:=false) j with
  | .run l=>mC l+w.left*bs<=Dm->w'.aF.length+w'.left*K<=w.aF.length+1+mC l+w.left*K/\∀(X:List Im) (y:Im) (Y:List Im),l=X++y::Y->(y.g.k=0\/y.g.k=3)->y.id<=w.ids->w'.over=false->(∀m,n=some m->y.id<m)->w'.aF.length+w'.left*K<=w.aF.length+mC X+w.left*K
  | .cls cs _ _ r=>(∀c∈cs,c∈P)->mC r+(w.left+1)*bs<=Dm->w'.aF.length+w'.left*K<=w.aF.length+cs.length*(Dm+1)+w.left*K:=by
 induction h with
 |mB=>intro _;refine⟨by simp only[Wo.stop,List.length_append,dx,mu];omega,λX y Y he=>?_⟩;simp at he
 |A2=>intro _;refine⟨by simp only[Wo.see,List.length_append,dx,mu];omega,λX y Y he=>?_⟩;simp at he
 |@cut x r b f w n w' hk h ih=>
  intro hD;have hc:=bK x r;have h1:=ih aq;refine⟨by omega,λX y Y he hy hi ho hn=>?_⟩;cases X with
  |nil=>
   simp only[yp,List.cons.injEq]at he;obtain⟨rfl,_⟩:=he;exfalso;cases n with
   |none=>have:=hn x.id rfl;omega
   |some a=>simp only[sX]at hn;grind
  |cons z X=>
   simp only[jo,List.cons.injEq]at he;obtain⟨rfl,he⟩:=he;have:=h1.2 X y Y he hy hi ho λm hm=>by subst hm;simp only[sX]at hn;grind
   rw[bK];omega
 |@bad x r b f w e hk h=>intro hD;refine⟨by simp only[Wo.stop,List.length_append,dx,mu];omega,λX y Y he hy hi ho hn=>?_⟩;simp[Wo.stop]at ho
 |@no x r b f w hk h=>grind
 |@yes x r b f w b' f' tx n w' hk hd h ih=>
  intro hD;have hc:=bK x r;have hg:=j4 x.g;rw[if_pos (.inr hk)]at hg;have hs:(w.said tx).aF.length<=w.aF.length+1/\(w.said tx).left=w.left/\(w.said tx).ids=w.ids:=by unfold Wo.said Wo.see;split<;>simp
  have h1:=ih jD;rw[hs.2.1]at h1;refine⟨by omega,λX y Y he hy hi ho hn=>?_⟩;cases X with
  |nil=>simp_all
  |cons z X=>simp only[jo,List.cons.injEq]at he;obtain⟨rfl,he⟩:=he;have:=h1.2 X y Y he hy aq ho hn;rw[bK];omega
 |@stop x r b f w hk h=>intro hD;refine⟨by simp only[Wo.stop,Wo.next,List.length_append,dx,mu];omega,λX y Y he hy hi ho hn=>?_⟩;simp[Wo.stop]at ho
 |@call x r b f w c n w' hk hl h ih=>
  intro hD;have hc:=bK x r;have h1:=ih (λ_ h=>h) (by simp only;rw[hl]at hD;omega);simp only[Wo.next]at h1;have hm:w.left*K=c*K+K:=by rw[hl,vf]
  grind
 |@px x r b f w n w' hk h hn ih=>
  intro hD;have hc:=bK x r;have hg:=j4 x.g;rw[if_neg aq]at hg;have hz:mC (c9 x.g.a x.sh (w.ids+1) [⟨aN,0,w.ids+1⟩,⟨dE,0,0⟩])=gH x.g.a+2:=by rw[dF,bK,bK,gF,wz,pJ]
  have h1:=ih WS;rw[hz]at h1;simp only[Wo.next]at h1;refine⟨by omega,λX y Y he hy hi ho hn=>?_⟩;cases X with
  |nil=>simp_all
  |cons z X=>simp only[jo,List.cons.injEq]at he;obtain⟨rfl,he⟩:=he;rw[bK];omega
 |@wI x r b f w w1 n w' hk h ov h2 ih wg=>
  intro hD;have hc:=bK x r;have hg:=j4 x.g;rw[if_neg aq]at hg;have hz:mC (c9 x.g.a x.sh (w.ids+1) [⟨aN,0,w.ids+1⟩,⟨dE,0,0⟩])=gH x.g.a+2:=by rw[dF,bK,bK,gF,wz,pJ]
  have h1:=(ih WS).2 (c9 x.g.a x.sh (w.ids+1) []) ⟨aN,0,w.ids+1⟩ [⟨dE,0,0⟩] (by simp[c9]) (.inl rfl) cZ ov aD;rw[dF,pJ]at h1;have hm:=h.mono;simp only[Wo.next]at h1 hm;have hmb:w1.left*bs<=w.left*bs:=Fo _ hm.1;have h3:=wg aq;refine⟨by omega,λX y Y he hy hi ho hn=>?_⟩;cases X with
  |nil=>simp_all
  |cons z X=>simp only[jo,List.cons.injEq]at he;obtain⟨rfl,he⟩:=he;have:=h3.2 X y Y he hy aq ho hn;rw[bK];omega
 |@py x r b f w n w' hk h ho ih=>
  intro hD;have hc:=bK x r;have hg:=j4 x.g;rw[if_neg aq]at hg;have hz:mC (c9 x.g.a x.sh (w.ids+1) (⟨aN,0,w.ids+1⟩::c9 x.g.b x.sh x.id r))=gH x.g.a+(1+(gH x.g.b+mC r)):=by rw[dF,bK,dF,gF]
  have h1:=ih WS;rw[hz]at h1;simp only[Wo.next]at h1;grind
 |@uU x r b f w n w' hk h ho ih=>
  intro hD;have hc:=bK x r;have hg:=j4 x.g;rw[if_neg aq]at hg;have hz:mC (c9 x.g.a x.sh (w.ids+1) (⟨aN,0,w.ids+1⟩::c9 x.g.b x.sh x.id r))=gH x.g.a+(1+(gH x.g.b+mC r)):=by rw[dF,bK,dF,gF]
  have h1:=ih WS;rw[hz]at h1;simp only[Wo.next]at h1;refine⟨by omega,λX y Y he hy hi uN hn=>?_⟩;cases X with
  |nil=>simp_all
  |cons z X=>
   simp only[jo,List.cons.injEq]at he;obtain⟨rfl,he⟩:=he;have:=h1.2 (c9 x.g.a x.sh (w.ids+1) (⟨aN,0,w.ids+1⟩::c9 x.g.b x.sh x.id X)) y Y (by rw[he];simp[c9]) hy aq ho λm hm=>by cases hm;simp only[pt]at hn;grind
   rw[dF,bK,dF,gF]at this;rw[bK];omega
 |@Ho x r b f w w1 n w' hk h ov h2 ih wg=>
  intro hD;have hc:=bK x r;have hg:=j4 x.g;rw[if_neg aq]at hg;have hz:mC (c9 x.g.a x.sh (w.ids+1) (⟨aN,0,w.ids+1⟩::c9 x.g.b x.sh x.id r))=gH x.g.a+(1+(gH x.g.b+mC r)):=by rw[dF,bK,dF,gF]
  have h1:=(ih WS).2 (c9 x.g.a x.sh (w.ids+1) []) ⟨aN,0,w.ids+1⟩ (c9 x.g.b x.sh x.id r) (by simp[c9]) (.inl rfl) cZ ov aD;rw[dF,pJ]at h1;have hm:=h.mono;simp only[Wo.next]at h1 hm;have hmb:w1.left*bs<=w.left*bs:=Fo _ hm.1;have VY:=dF x.g.c x.sh x.id r;have h3:=wg aq;refine⟨by omega,λX y Y he hy hi ho hn=>?_⟩;cases X with
  |nil=>simp_all
  |cons z X=>simp only[jo,List.cons.injEq]at he;obtain⟨rfl,he⟩:=he;have:=h3.2 (c9 x.g.c x.sh x.id X) y Y (by rw[he];simp[c9]) hy aq ho hn;rw[dF]at this;rw[bK];omega
 |@skip x r b f w n w' h0 h1 h2 h3 h4 h5 h ih=>
  intro hD;have hc:=bK x r;have h1:=ih aq;refine⟨by omega,λX y Y he hy hi ho hn=>?_⟩;cases X with
  |nil=>simp_all
  |cons z X=>simp only[jo,List.cons.injEq]at he;obtain⟨rfl,he⟩:=he;have:=h1.2 X y Y he hy hi ho hn;rw[bK];omega
 |none=>omega
 |other _ _ ih=>intro hc hD;have:=ih (λc h=>hc c (by simp[h])) hD;simp only[dx,vf];omega
 |fail _ _ _ ih=>intro hc hD;have:=ih (λc h=>hc c (by simp[h])) hD;simp only[dx,vf];omega
 |@over c cs t id r b f w b' n w' hh hu h ho ih=>intro hc hD;have h1:=hP c (hc c aD);have hz:=dF c.body f id r;rw[vf]at hD;have:=(ih aq).1;simp only[dx,vf];omega
 |@aE c cs t id r b f w b' n w' hh hu h ho ih=>intro hc hD;have h1:=hP c (hc c aD);have hz:=dF c.body f id r;rw[vf]at hD;have:=(ih aq).1;simp only[dx,vf];omega
 |@more c cs t id r b f w b' w1 n w' hh hu h ho h2 ih wg=>intro hc hD;have h1:=hP c (hc c aD);have hz:=dF c.body f id r;have hm:=h.mono;have hmb:(w1.left+1)*bs<=(w.left+1)*bs:=Fo _ aq;have h4:=wg (λc h=>hc c (by simp[h])) aq;rw[vf]at hD;have:=(ih aq).1;simp only[dx,vf];omega
theorem er.ids {β:Type}{D:Dt β}{P:List Cs}{head:List Tm}{j:Jb}{b:β}{f:Nat}{w:Wo}{n:Option Nat}{w':Wo}(h:er D P head j b f w n w') :
  match (generalizing:=false) j with
  | .run l=>∀m,n=some m->∃x∈l,x.id=m/\x.g.k≠2
  | .cls _ _ _ r=>∀m,n=some m->∃x∈r,x.id=m/\x.g.k≠2:=by
 have hb:∀{a i m:Nat},pt a i=some m->a=m/\m≠i:=λ{a i m} h=>by unfold pt at h;grind
 have him:∀{l:List Gl} {sh id m:Nat} {r:List Im},(∃x∈c9 l sh id r,x.id=m/\x.g.k≠2)->m=id\/∃x∈r,x.id=m/\x.g.k≠2:=λ{l sh id m r} h=>by
  obtain⟨x,hx,he⟩:=h;rcases cu.1 hx with hx|hx
  obtain⟨g,_,rfl⟩:=gm.1 hx;exact .inl he.1.symm;grind
 induction h with
 |mB=>simp_all
 |A2=>simp_all
 |@cut x r b f w n w' hk h ih=>
  intro m hm;cases n with
  |none=>simp only[sX,Option.some.injEq]at hm;grind
  |some a=>simp only[sX]at hm;grind
 |bad=>simp_all
 |no=>simp_all
 |yes _ _ _ ih=>simp_all
 |stop=>simp_all
 |call _ _ _ ih=>simp_all
 |px=>simp_all
 |wI _ _ _ _ _ ih=>simp_all
 |py=>simp_all
 |@uU x r b f w n w' hk h ho ih=>
  intro m hm;obtain⟨rfl,dR⟩:=hb hm;rcases him (ih n rfl)with he|⟨y,hy,he⟩
  omega;rcases cE.1 hy with rfl| hy
  simp_all;rcases him ⟨y,hy,he⟩with he| ⟨y,hy,he⟩
  exact⟨x,by simp,he.symm,by omega⟩;grind
 |@Ho x r b f w w1 n w' hk h ho h2 ih wg=>
  intro m hm;rcases him (wg m hm)with he|⟨y,hy,he⟩
  exact⟨x,by simp,he.symm,by omega⟩;grind
 |skip _ _ _ _ _ _ _ ih=>simp_all
 |none=>simp_all
 |other _ _ ih=>exact ih
 |fail _ _ _ ih=>exact ih
 |over=>simp_all
 |aE hh hu h ho ih=>
  intro m hm;obtain⟨rfl,dR⟩:=hb hm;rcases him (ih _ rfl)with he|h
  omega;exact h
 |more _ _ _ _ _ _ ih=>exact ih
end ax

namespace ax
open Go
variable{hh:Nat->Nat}{tl f' id f:Nat}{r l:List Im}{nw:List Td}
noncomputable def A3:Dt an where
 uni:=sV
 pr b f t :=
  if t.l.any (λx=>(eL b x).2≠0)then .bad 3
  else
   let a:=eg t.s (t.l.map λx=>(eL b x).1) f
   if a.e≠0 then .bad a.e
   else if a.h=false then .no
   else if a.ap then(match fY b a.al with|some _=>.no|none=>.yes b f [])
   else match fY b a.al with|none=>.no|some b'=>.yes b' a.nx.toNat a.tx
 A2 b l:=if l.any (λx=>(eL b x).2≠0)then none else some (dP (l.map λx=>(eL b x).1)).1
theorem xK(P:List Cs)(m:Mo)(t:Tm):oU P m t=match A3.pr m.B m.aB t with
  | .bad e=>({m with aF:=m.aF++[kU e]},false)
  | .no=>ew P m
  | .yes b f tx=>({m with B:=b,aB:=f,aF:=if tx=[]then m.aF else m.aF++[sU tx]},true):=by
 unfold oU A3;simp only;split;rfl;generalize eg t.s (t.l.map λx=>(eL m.B x).1) m.aB=a;split;rfl;split;rfl
 ·split;cases fY m.B a.al with
  |none=>simp
  |some _=>rfl
  grind
theorem DB(P:List Cs)(head:Tm)(m:Mo):jx P head m=match A3.A2 m.B head.l with
  |none=>({m with aF:=m.aF++[kU 3]},false)
  |some l=>ew P {m with aF:=m.aF++[oc l]}:=by
 unfold jx A3;grind
theorem tY{B B':an}{a b:Tm}(h:sV B a b=some B'):∃X,B'=B++X:=by
 unfold sV at h;split at h
 ·rename_i hx;cases h;obtain⟨n,hr⟩:=Classical.choose_spec hx
  have key:∀{sw:Bool} {n:Nat} {T:List (Tm×Tm)} {B B':an} {cK:List (Int×Int)} {ok:Bool},Tm.mY sw n T B cK B' ok->∃X,B'=B++X:=λ{sw n T B B' cK ok} h=>by
   induction h with
   |done=>simp_all
   |skip _ _ ih=>exact ih
   |same _ _ _ ih=>exact ih
   |cF=>simp_all
   |bind _ _ _ _ _ _ ih=>grind
   |kT=>simp_all
   |args _ _ _ _ _ ih=>exact ih
  exact key hr
 cases h
theorem ri:∀{l:List Tm} {B B':an},fY B l=some B'->∃X,B'=B++X
 |[],B,B',h=>by simp only[fY]at h;simp_all
 |[_],B,B',h=>by simp only[fY]at h;simp_all
 |a::b::r,B,B',h=>by
  rw[fY]at h;cases hu:sV B a b with
  |none=>simp_all
  |some C=>rw[hu]at h;obtain⟨X,rfl⟩:=tY hu;obtain⟨Y,rfl⟩:=ri h;simp_all
theorem VB{b b':an}{t:Tm}{tx:Bs}(h:A3.pr b f t=.yes b' f' tx):∃X,b'=b++X:=by
 unfold A3 at h;simp only at h;split at h;cases h;generalize eg t.s (t.l.map λx=>(eL b x).1) f=a at h;split at h;cases h;split at h;cases h
 ·split at h;cases hu:fY b a.al with
  |none=>simp_all
  |some _=>simp_all
  cases hu:fY b a.al with
  |none=>simp_all
  |some _=>rw[hu]at h;cases h;exact ri hu
theorem sZ(t:Tr){m1 m2:Mo}(hB:m1.B=m2.B)(hf:m1.aB=m2.aB)(ht:m1.ai=m2.ai)(hd:m1.done=m2.done)(hs:m1.aF=m2.aF):∀(l:List Cs) (i:Nat),jw m1 t i l=jw m2 t i l|[],_=>rfl|c::r,i=>by rw[jw,jw,hB,hf,ht,sZ t hB hf ht hd hs r (i+1),hd,hs]
structure EqB (r1 r2:Mo×Bool):Prop where
 b:r1.2=r2.2
 s:r1.1.aF=r2.1.aF
 m:r1.2=true->r1.1=r2.1
theorem GQ(P:List Cs):∀(n:Nat) {m1 m2:Mo},m1.ai=m2.ai->m1.aF=m2.aF->m1.done=m2.done->(∀t∈m1.ai,m1.B.take t.mark=m2.B.take t.mark)->EqB (jA P n m1) (jA P n m2)
 |0,m1,m2,_,hs,_,_=>⟨rfl,by rw[jA,jA,hs],λh=>by rw[jA]at h;cases h⟩
 |n+1,m1,m2,ht,hs,hd,hB=>by
  rw[jA,jA,<-ht];cases hl:m1.ai.getLast? with
  |none=>exact⟨rfl,by simp only[hs],λh=>by cases h⟩
  |some t=>
   have hm:t∈m1.ai:=List.mem_of_getLast? hl;simp only;rw[hB t hm,hs,hd];split;exact⟨rfl,rfl,λ_=>rfl⟩;rw [sZ t (m1:={m1 with ai:=m1.ai.dropLast,B:=m2.B.take t.mark,aB:=t.aB,aF:=m2.aF,done:=m2.done}) (m2:={m2 with ai:=m1.ai.dropLast,B:=m2.B.take t.mark,aB:=t.aB}) rfl rfl rfl rfl rfl];cases jw {m2 with ai:=m1.ai.dropLast,B:=m2.B.take t.mark,aB:=t.aB} t t.pC (P.drop t.pC)with
   |some m'=>exact⟨rfl,rfl,λ_=>rfl⟩
   |none=>exact GQ P n rfl rfl rfl λ_ _=>rfl
def ll (P:List Cs)(head:Tm)(ab:Nat)(m:Mo)(s:List Ev):Prop:=∃n m',x9 P head ab n m=(m',false)/\m'.aF=s
def mL (P:List Cs)(head:Tm)(ab:Nat)(m:Mo)(s:List Ev):Prop:=((ew P m).2=false/\(ew P m).1.aF=s)\/((ew P m).2=true/\ll P head ab (ew P m).1 s)
section
variable {P:List Cs} {head:Tm} {ab:Nat} {s:List Ev}
theorem mL.irr{m1 m2:Mo}(ht:m1.ai=m2.ai)(hs:m1.aF=m2.aF)(hd:m1.done=m2.done)(hB:∀t∈m1.ai,m1.B.take t.mark=m2.B.take t.mark)(h:mL P head ab m1 s):mL P head ab m2 s:=by
 have he:EqB (ew P m1) (ew P m2):=by unfold ew;rw[<-ht];exact GQ P _ ht hs hd hB
 rcases h with ⟨h1,h2⟩|⟨h1,h2⟩
 exact .inl ⟨by rw[<-he.b,h1],by rw[<-he.s,h2]⟩;exact .inr ⟨by rw[<-he.b,h1],by rw[<-he.m h1];exact h2⟩
theorem mL.to{T:List Tr}{B B':an}{nw nw':List Td}{d:Nat}{sn:List Ev}(hB:∀t∈T,B.take t.mark=B'.take t.mark)(h:mL P head ab ⟨B,f,T,nw,d,sn⟩ s):mL P head ab ⟨B',f',T,nw',d,sn⟩ s:=mL.irr (m1:=⟨B,f,T,nw,d,sn⟩) rfl rfl rfl hB h
theorem ll.step{m m':Mo}(h:fq P head ab m=(m',true))(h2:ll P head ab m' s):ll P head ab m s:=by obtain⟨n,m2,hr,hs⟩:=h2;exact⟨n+1,m2,by rw[x9,h];exact hr,hs⟩
theorem ll.stop{m m':Mo}(h:fq P head ab m=(m',false))(h2:m'.aF=s):ll P head ab m s:=⟨1,m',by rw[x9,h];rfl,h2⟩
theorem ll.back{m m':Mo}(h:fq P head ab m=ew P m')(h2:mL P head ab m' s):ll P head ab m s:=by
 rcases h2 with ⟨h1,h2⟩|⟨h1,h2⟩
 exact .stop (h.trans (Prod.ext rfl h1)) h2;exact .step (h.trans (Prod.ext rfl h1)) h2
theorem ll.fun{m:Mo}{s':List Ev}(h:ll P head ab m s)(h':ll P head ab m s'):s=s':=by
 obtain⟨n,m1,hr,rfl⟩:=h;obtain⟨n',m1',Ei,rfl⟩:=h'
 have key:∀(n n':Nat) (m:Mo),x9 P head ab n m=(m1,false)->x9 P head ab n' m=(m1',false)->m1=m1':=λn=>by
  induction n with
  |zero=>intro n' m h _;rw[x9]at h;cases h
  |succ n ih=>
   intro n' m h h';cases n' with
   |zero=>rw[x9]at h';cases h'
   |succ n'=>rw[x9]at h h';split at h;rename_i hs;rw[if_pos hs]at h';exact ih n' _ h h';rename_i hs;rw[if_neg hs]at h';rw[h]at h';cases h';rfl
 grind
end
def uV (hh:Nat->Nat)(x:Im):Td:=⟨x.g,x.sh,hh x.id⟩
def rV (hh:Nat->Nat) (T:List Tr):Option Nat->List Tr|none=>T|some n=>T.take (hh n)
structure iJ (hh:Nat->Nat) (l:List Im) (ids tl:Nat):Prop where
 le:∀x∈l,x.id<=ids
 ht:∀x∈l,hh x.id<=tl
 pw:l.Pairwise λx y=>y.id<=x.id/\hh y.id<=hh x.id
 z:hh 0=0
theorem iJ.tail{x:Im}{ids tl:Nat}(h:iJ hh (x::r) ids tl):iJ hh r ids tl:=⟨λy hy=>h.le y iS,λy hy=>h.ht y iS,(k8.1 h.pw).2,h.z⟩
theorem iJ.ids{ids an4 tl tl':Nat}(h:iJ hh l ids tl)(h1:ids<=an4)(h2:tl<=tl'):iJ hh l an4 tl':=⟨λy hy=>vd (h.le y hy) h1,λy hy=>vd (h.ht y hy) h2,h.pw,h.z⟩
def ij (hh:Nat->Nat)(id tl:Nat):Nat->Nat:=λn=>if n=id then tl else hh n
theorem iJ.new{ids tl tl' id:Nat}(h:iJ hh l ids tl)(hi:∀x∈l,x.id<id)(h0:0<id):iJ (ij hh id tl') l ids tl:=by
 have e:∀x∈l,ij hh id tl' x.id=hh x.id:=λx hx=>if_neg jD
 refine⟨h.le,λx hx=>by rw[e x hx];exact h.ht x hx,h.pw.imp_of_mem λhx hy hxy=>by simp_all,?_⟩;unfold ij;rw[if_neg aq];exact h.z
theorem iJ.VC{l:List Gl}{sh id:Nat}{ids tl:Nat}(h:iJ hh r ids tl)(hi:id<=ids)(ht:hh id<=tl)(hr:∀x∈r,x.id<=id/\hh x.id<=hh id):iJ hh (c9 l sh id r) ids tl:=by
 refine⟨λx hx=>?_,λx hx=>?_,?_,h.z⟩;rcases cu.1 hx with hx| hx
 obtain⟨g,_,rfl⟩:=gm.1 hx;exact hi;grind;rcases cu.1 hx with hx| hx
 obtain⟨g,_,rfl⟩:=gm.1 hx;exact ht;grind;refine mw.2 ⟨?_,h.pw,λx hx y hy=>?_⟩;rw [List.pairwise_map];exact List.pairwise_of_forall λ_ _=>⟨eT _,eT _⟩
 grind
theorem iJ.cons{x:Im}{ids tl:Nat}(h:iJ hh r ids tl)(hi:x.id<=ids)(ht:hh x.id<=tl)(hr:∀y∈r,y.id<=x.id/\hh y.id<=hh x.id):iJ hh (x::r) ids tl :=⟨λy hy=>(cE.1 hy).elim (λe=>e ▸ hi) (h.le y),λy hy=>(cE.1 hy).elim (λe=>e ▸ ht) (h.ht y),k8.2 ⟨hr,h.pw⟩,h.z⟩
theorem jy(hh:Nat->Nat)(l:List Gl)(sh id:Nat)(r:List Im):(c9 l sh id r).map (uV hh)=bR l sh (hh id) (r.map (uV hh)):=by simp[c9,bR,uV,Function.comp_def]
theorem tZ(h:∀x∈l,x.id<id):l.map (uV (ij hh id tl))=l.map (uV hh):=by
 refine Kb λx hx=>?_
 have:=h x hx;simp only[uV,ij];grind
theorem en(hh:Nat->Nat)(id tl:Nat):ij hh id tl id=tl:=if_pos rfl
theorem fx{id tl n:Nat}(h:n≠id):ij hh id tl n=hh n:=if_neg h
theorem aai(hh:Nat->Nat)(T:List Tr)(n:Option Nat):∀t∈rV hh T n,t∈T:=λt ht=>by
 cases n with
 |none=>exact ht
 |some n=>exact Q7 ht
theorem DC{T:List Tr}{t:Tr}{id n:Nat}(hn:n≠id->hh n<=T.length):rV (ij hh id T.length) (T++[t]) (some n)=rV hh T (pt n id):=by unfold pt;by_cases h:n=id;rw[if_pos h,h];simp[rV,en];rw [if_neg h];simp only[rV,fx h];grind
section
variable {P:List Cs} {head:Tm} {ab:Nat} {x:Td} {r:List Td} {B:an} {f d:Nat} {T:List Tr} {sn:List Ev}
theorem GR(hk:x.g.k=0\/x.g.k=3):fq P head ab ⟨B,f,T,x::r,d,sn⟩=(⟨B,f,T.take x.to,r,d,sn⟩,true):=by simp only[fq];rw[if_pos hk]
theorem rj(hk:x.g.k=2):fq P head ab ⟨B,f,T,x::r,d,sn⟩=oU P ⟨B,f,T,r,d,sn⟩ (dw x.sh x.g.t):=by simp only[fq];simp_all
theorem xL(hk:x.g.k=4):fq P head ab ⟨B,f,T,x::r,d,sn⟩=(⟨B,f,T++[⟨B.length,f,aJ,0,bR x.g.c x.sh x.to r,true⟩],bR x.g.a x.sh T.length (⟨aN,0,T.length⟩::bR x.g.b x.sh x.to r),d,sn⟩,true):=by simp only[fq];rw[if_neg aq,if_neg aq,if_pos hk];rfl
theorem y0(hk:x.g.k=5):fq P head ab ⟨B,f,T,x::r,d,sn⟩=(⟨B,f,T++[⟨B.length,f,aJ,0,r,true⟩],bR x.g.a x.sh T.length (⟨aN,0,T.length⟩::bR [dE] 0 0 []),d,sn⟩,true):=by simp only[fq];rw[if_neg aq,if_neg aq,if_neg aq,if_pos hk];rfl
theorem DD(hk:x.g.k=1)(hd:ab<=d):fq P head ab ⟨B,f,T,x::r,d,sn⟩=(⟨B,f,T,r,d,sn++[oY]⟩,false):=by simp only[fq];simp_all
theorem DE(hk:x.g.k=1)(hd:¬ ab<=d):fq P head ab ⟨B,f,T,x::r,d,sn⟩=match jw ⟨B,f,T,[],d+1,sn⟩ ⟨B.length,f,dw x.sh x.g.t,0,r,false⟩ 0 P with
  |some m'=>(m',true)
  |none=>ew P ⟨B,f,T,r,d+1,sn⟩:=by
 simp only[fq];rw[if_neg aq,if_neg aq,if_neg aq,if_neg aq,if_pos hk,if_neg hd];rw[sZ _ (m1:=⟨B,f,T,r,d+1,sn⟩) (m2:=⟨B,f,T,[],d+1,sn⟩) rfl rfl rfl rfl rfl];rfl
theorem DG(h0:x.g.k≠0)(h1:x.g.k≠1)(h2:x.g.k≠2)(h3:x.g.k≠3)(h4:x.g.k≠4)(h5:x.g.k≠5):fq P head ab ⟨B,f,T,x::r,d,sn⟩=(⟨B,f,T,r,d,sn⟩,true):=by simp only[fq];simp_all
theorem mZ{c:Tm}{k:Nat}:ew P ⟨B,f',T++[⟨B.length,f,c,k,r,true⟩],nw,d,sn⟩=(⟨B,f,T,r,d,sn⟩,true):=by unfold ew;simp only[List.length_append,dx,mu];rw[jA];simp
theorem PJ{X:an}{c:Tm}{k:Nat}:ew P ⟨B++X,f',T++[⟨B.length,f,c,k,r,false⟩],nw,d,sn⟩=match jw ⟨B,f,T,[],d,sn⟩ ⟨B.length,f,c,k,r,false⟩ k (P.drop k)with
  |some m'=>(m',true)
  |none=>ew P ⟨B,f,T,nw,d,sn⟩:=by
 unfold ew;simp only[List.length_append,dx,mu];rw[jA];simp only[List.getLast?_append,List.getLast?_singleton,Option.or_some,Option.some_or,List.dropLast_concat,List.take_left',lq,if_false];rw[sZ _ (m1:=⟨B,f,T,nw,d,sn⟩) (m2:=⟨B,f,T,[],d,sn⟩) rfl rfl rfl rfl rfl];rfl
end
theorem adX(w:Wo)(tx:Bs):w.said tx=⟨w.left,if tx=[]then w.aF else w.aF++[sU tx],w.ids,w.over⟩:=by unfold Wo.said Wo.see;split<;>rfl
theorem ctl{P:List Cs}{head:Tm}{ab:Nat}{j:Jb}{B:an}{w:Wo}{n:Option Nat}{w':Wo}(h:er A3 P head.l j B f w n w') :
  match (generalizing:=false) j with
  | .run l=>∀(T:List Tr) (hh:Nat->Nat) (s:List Ev),iJ hh l w.ids T.length->(∀t∈T,t.mark<=B.length)->w.left<=ab->w.over=false->(w'.over=true->w'.aF=s)->(w'.over=false->mL P head ab ⟨B,f,rV hh T n,[],ab-w'.left,w'.aF⟩ s)->ll P head ab ⟨B,f,T,l.map (uV hh),ab-w.left,w.aF⟩ s
  | .cls cs t id r=>∀(T:List Tr) (hh:Nat->Nat) (s:List Ev) (i k:Nat),P.drop i=cs->iJ hh r w.ids T.length->(∀x∈r,x.id<id)->0<id->id<=w.ids->(∀t∈T,t.mark<=B.length)->w.left<=ab->w.over=false->(w'.over=true->w'.aF=s)->(w'.over=false->mL P head ab ⟨B,f,rV hh T n,[],ab-w'.left,w'.aF⟩ s) ->
   match jw ⟨B,f,T,[],ab-w.left,w.aF⟩ ⟨B.length,f,t,k,r.map (uV hh),false⟩ i cs with
   |some m'=>ll P head ab m' s
   |none=>mL P head ab ⟨B,f,T,[],ab-w.left,w.aF⟩ s:=by
 have hmk:∀{T:List Tr} {B X:an},(∀t∈T,t.mark<=B.length)->∀t∈T,t.mark<=(B++X).length:=λh t ht=>by grind
 have htk:∀{hh:Nat->Nat} {T:List Tr} {B:an} (X:an) {n:Option Nat},(∀t∈T,t.mark<=B.length)->∀t∈rV hh T n,B.take t.mark=(B++X).take t.mark:=@λhh T B X n h t ht=>(List.take_append_of_le_length (h t (aai _ _ _ t ht))).symm
 induction h with
 |@mB b f w h=>intro T hh s hi hT hl ho hs hb;refine .stop (m':=⟨b,f,T,[],ab-w.left,w.aF++[kU 3]⟩) ?_ (hs rfl);exact(DB P head ⟨b,f,T,[],ab-w.left,w.aF⟩).trans (by rw[h])
 |@A2 b f w l h=>intro T hh s hi hT hl ho hs hb;refine .back (m':=⟨b,f,T,[],ab-w.left,w.aF++[oc l]⟩) ?_ (hb ho);exact(DB P head ⟨b,f,T,[],ab-w.left,w.aF⟩).trans (by rw[h])
 |@cut x r b f w n w' hk h ih=>
  intro T hh s hi hT hl ho hs hb;have hp:=(k8.1 hi.pw).1;have hx:=hi.ht x aD;refine .step (GR hk) (ih (T.take (hh x.id)) hh s ⟨hi.tail.le,λy hy=>?_,hi.tail.pw,hi.z⟩ (λt ht=>hT t (Q7 ht)) hl ho hs λhv=>?_);simp_all
  have e:rV hh (T.take (hh x.id)) n=rV hh T (sX n x.id):=by
   cases n with
   |none=>rfl
   |some a=>obtain⟨y,hy,rfl,_⟩:=h.ids a rfl;have:=hp y hy;simp only[sX];rw[if_neg aq];simp only[rV];rw[List.take_take,Hl this.2]
  simp_all
 |@bad x r b f w e hk h=>intro T hh s hi hT hl ho hs hb;refine .stop (m':=⟨b,f,T,r.map (uV hh),ab-w.left,w.aF++[kU e]⟩) ?_ (hs rfl);exact(rj hk).trans ((xK _ _ _).trans (by simp only[uV,h]))
 |@no x r b f w hk h=>intro T hh s hi hT hl ho hs hb;refine .back (m':=⟨b,f,T,r.map (uV hh),ab-w.left,w.aF⟩) ?_ (mL.to (λ_ _=>rfl) (hb ho));exact(rj hk).trans ((xK _ _ _).trans (by simp only[uV,h]))
 |@yes x r b f w b' f' tx n w' hk hd h ih=>intro T hh s hi hT hl ho hs hb;obtain⟨X,rfl⟩:=VB hd;generalize hw:w.said tx=w2 at h ih;rw[adX]at hw;subst hw;refine .step ((rj hk).trans ((xK _ _ _).trans (by simp only[uV,hd]))) (ih T hh s hi.tail (hmk hT) hl ho hs λhv=>mL.to (htk X hT) (hb hv))
 |@stop x r b f w hk h=>intro T hh s hi hT hl ho hs hb;exact .stop (DD hk aq) (hs rfl)
 |@call x r b f w c n w' hk hl h ih=>
  intro T hh s hi hT ky ho hs hb;have h1:=ih T hh s 0 0 rfl (hi.tail.ids (pM _) cZ) (λy hy=>zn (hi.tail.le y hy)) (Nat.succ_pos _) cZ hT jD ho hs hb;simp only[Wo.next]at h1;have cY:=DE (P:=P) (head:=head) (ab:=ab) (x:=uV hh x) (r:=r.map (uV hh)) (B:=b) (f:=f) (d:=ab-w.left) (T:=T) (sn:=w.aF) hk aq;rw[show ab-w.left+1=ab-c from by omega]at cY;simp only[uV]at cY;cases hc:jw ⟨b,f,T,[],ab-c,w.aF⟩ ⟨b.length,f,dw x.sh x.g.t,0,r.map (uV hh),false⟩ 0 P with
  |some m'=>rw[hc]at h1 cY;exact .step cY h1
  |none=>rw[hc]at h1 cY;exact .back cY (mL.to (λ_ _=>rfl) h1)
 |@px x r b f w n w' hk h hn ih=>
  intro T hh s hi hT hl ho hs hb;refine .step (y0 hk) ?_
  have hid:iJ (ij hh (w.ids+1) T.length) (c9 x.g.a x.sh (w.ids+1) [⟨aN,0,w.ids+1⟩,⟨dE,0,0⟩]) (w.ids+1) (T.length+1):=by
   refine iJ.VC (.cons (.cons ⟨by simp,by simp,.nil,?_⟩ fO ?_ aD) cZ ?_ ?_) cZ ?_ ?_;rw[fx aq];exact hi.z;simp only;rw[fx aq,hi.z];exact bU _;simp only;rw[en];omega;intro y hy;rw[eu.1 hy];simp only;rw[fx aq,hi.z];exact⟨bU _,bU _⟩;rw[en];omega;intro y hy;rcases cE.1 hy with rfl|hy
   exact⟨eT _,eT _⟩;rw [eu.1 hy];simp only;rw[fx aq,hi.z];exact⟨bU _,bU _⟩
  have h1:=ih (T++[⟨b.length,f,aJ,0,r.map (uV hh),true⟩]) (ij hh (w.ids+1) T.length) s WU (λt ht=>?_) hl ho hs λhv=>?_
  rw [jy]at h1;simp only[bM,fm,uV,en,fx (hh:=hh) (tl:=T.length) (show(0:Nat)≠w.ids+1 by omega),hi.z]at h1;exact h1;grind;rw [hv]at hn;cases n with
  |none=>simp at hn
  |some m=>
   have hm:m=w.ids+1:=by
    obtain⟨y,hy,he,mn⟩:=h.ids m rfl;rcases cu.1 hy with hy|hy
    grind;rcases cE.1 hy with rfl| hy
    exact he.symm;rw[eu.1 hy]at mn;exact absurd rfl mn
   rw[DC (λh=>absurd hm h),pt,if_pos hm];exact hb hv
 |@wI x r b f w w1 n w' hk h ov h2 ih wg=>
  intro T hh s hi hT hl ho hs hb;refine .step (y0 hk) ?_
  have hid:iJ (ij hh (w.ids+1) T.length) (c9 x.g.a x.sh (w.ids+1) [⟨aN,0,w.ids+1⟩,⟨dE,0,0⟩]) (w.ids+1) (T.length+1):=by
   refine iJ.VC (.cons (.cons ⟨by simp,by simp,.nil,?_⟩ fO ?_ aD) cZ ?_ ?_) cZ ?_ ?_;rw[fx aq];exact hi.z;simp only;rw[fx aq,hi.z];exact bU _;simp only;rw[en];omega;intro y hy;rw[eu.1 hy];simp only;rw[fx aq,hi.z];exact⟨bU _,bU _⟩;rw[en];omega;intro y hy;rcases cE.1 hy with rfl|hy
   exact⟨eT _,eT _⟩;rw [eu.1 hy];simp only;rw[fx aq,hi.z];exact⟨bU _,bU _⟩
  have hm:=h.mono;simp only[Wo.next]at hm;have h1:=ih (T++[⟨b.length,f,aJ,0,r.map (uV hh),true⟩]) (ij hh (w.ids+1) T.length) s WU (λt ht=>?_) hl ho (λh=>by simp_all) λ_=>?_
  rw [jy]at h1;simp only[bM,fm,uV,en,fx (hh:=hh) (tl:=T.length) (show(0:Nat)≠w.ids+1 by omega),hi.z]at h1;exact h1;grind;refine .inr ⟨by simp only [rV]; rw [mZ],?_⟩;simp only[rV];rw[mZ];exact wg T hh s (hi.tail.ids aq cZ) hT aq ov hs hb
 |@py x r b f w n w' hk h hov ih=>
  intro T hh s hi hT hl ho hs hb;refine .step (xL hk) ?_;have hx:=hi.le x aD;have hp:=(k8.1 hi.pw).1;have hr:iJ (ij hh (w.ids+1) T.length) r (w.ids+1) (T.length+1):=(hi.tail.ids (pM _) (pM _)).new (λy hy=>zn (hi.tail.le y hy)) (Nat.succ_pos _);have dR:∀y∈r,ij hh (w.ids+1) T.length y.id=hh y.id:=λy hy=>fx WZ
  have jn:ij hh (w.ids+1) T.length x.id=hh x.id:=fx aq;have hbI:iJ (ij hh (w.ids+1) T.length) (c9 x.g.b x.sh x.id r) (w.ids+1) (T.length+1):=hr.VC aq aht λy hy=>by rw[dR y hy,jn];exact hp y hy
  have ez:∀y∈c9 x.g.b x.sh x.id r,y.id<=w.ids/\ij hh (w.ids+1) T.length y.id<=T.length:=λy hy=>by
   rcases cu.1 hy with hy|hy
   obtain ⟨g,_,rfl⟩:=gm.1 hy;simp only;rw[jn];exact⟨hx,hi.ht x aD⟩;rw[dR y hy];exact⟨hi.tail.le y hy,hi.tail.ht y hy⟩
  have hid:iJ (ij hh (w.ids+1) T.length) (c9 x.g.a x.sh (w.ids+1) (⟨aN,0,w.ids+1⟩::c9 x.g.b x.sh x.id r)) (w.ids+1) (T.length+1):=by
   refine iJ.VC (.cons hbI cZ W0 λy hy=>?_) cZ Tu λy hy=>?_
   have:=ez y hy;simp only;rw[en];omega;rcases cE.1 hy with rfl| hy
   exact⟨eT _,eT _⟩;have:=ez y hy;rw[en];omega
  have h1:=ih (T++[⟨b.length,f,aJ,0,bR x.g.c x.sh (hh x.id) (r.map (uV hh)),true⟩]) (ij hh (w.ids+1) T.length) s WU (λt ht=>?_) hl ho hs λhv=>?_
  rw [jy,bM,jy,tZ λy hy=>zn (hi.tail.le y hy)]at h1;simp only[uV,en,jn]at h1;exact h1;rcases cu.1 ht with ht| ht
  exact hT t ht;rw[eu.1 ht];exact eT _;simp_all
 |@uU x r b f w n w' hk h hov ih=>
  intro T hh s hi hT hl ho hs hb;refine .step (xL hk) ?_;have hx:=hi.le x aD;have hp:=(k8.1 hi.pw).1;have hr:iJ (ij hh (w.ids+1) T.length) r (w.ids+1) (T.length+1):=(hi.tail.ids (pM _) (pM _)).new (λy hy=>zn (hi.tail.le y hy)) (Nat.succ_pos _);have dR:∀y∈r,ij hh (w.ids+1) T.length y.id=hh y.id:=λy hy=>fx WZ
  have jn:ij hh (w.ids+1) T.length x.id=hh x.id:=fx aq;have hbI:iJ (ij hh (w.ids+1) T.length) (c9 x.g.b x.sh x.id r) (w.ids+1) (T.length+1):=hr.VC aq aht λy hy=>by rw[dR y hy,jn];exact hp y hy
  have ez:∀y∈c9 x.g.b x.sh x.id r,y.id<=w.ids/\ij hh (w.ids+1) T.length y.id<=T.length/\hh y.id<=T.length:=λy hy=>by
   rcases cu.1 hy with hy|hy
   obtain ⟨g,_,rfl⟩:=gm.1 hy;simp only;rw[jn];exact⟨hx,hi.ht x aD,hi.ht x aD⟩;rw[dR y hy];exact⟨hi.tail.le y hy,hi.tail.ht y hy,hi.tail.ht y hy⟩
  have hid:iJ (ij hh (w.ids+1) T.length) (c9 x.g.a x.sh (w.ids+1) (⟨aN,0,w.ids+1⟩::c9 x.g.b x.sh x.id r)) (w.ids+1) (T.length+1):=by
   refine iJ.VC (.cons hbI cZ W0 λy hy=>?_) cZ Tu λy hy=>?_
   have:=ez y hy;simp only;rw[en];omega;rcases cE.1 hy with rfl| hy
   exact⟨eT _,eT _⟩;have:=ez y hy;rw[en];omega
  have h1:=ih (T++[⟨b.length,f,aJ,0,bR x.g.c x.sh (hh x.id) (r.map (uV hh)),true⟩]) (ij hh (w.ids+1) T.length) s WU (λt ht=>?_) hl ho hs λhv=>?_
  rw [jy,bM,jy,tZ λy hy=>zn (hi.tail.le y hy)]at h1;simp only[uV,en,jn]at h1;exact h1;rcases cu.1 ht with ht| ht
  exact hT t ht;rw[eu.1 ht];exact eT _;rw [DC λhm=>?_];exact hb hv;obtain ⟨y,hy,he,_⟩:=h.ids n rfl;rcases cu.1 hy with hy|hy
  obtain⟨g,_,rfl⟩:=gm.1 hy;exact absurd he.symm hm;grind
 |@Ho x r b f w w1 n w' hk h ov h2 ih wg=>
  intro T hh s hi hT hl ho hs hb;refine .step (xL hk) ?_;have hx:=hi.le x aD;have hp:=(k8.1 hi.pw).1;have hr:iJ (ij hh (w.ids+1) T.length) r (w.ids+1) (T.length+1):=(hi.tail.ids (pM _) (pM _)).new (λy hy=>zn (hi.tail.le y hy)) (Nat.succ_pos _);have dR:∀y∈r,ij hh (w.ids+1) T.length y.id=hh y.id:=λy hy=>fx WZ
  have jn:ij hh (w.ids+1) T.length x.id=hh x.id:=fx aq;have hbI:iJ (ij hh (w.ids+1) T.length) (c9 x.g.b x.sh x.id r) (w.ids+1) (T.length+1):=hr.VC aq aht λy hy=>by rw[dR y hy,jn];exact hp y hy
  have ez:∀y∈c9 x.g.b x.sh x.id r,y.id<=w.ids/\ij hh (w.ids+1) T.length y.id<=T.length:=λy hy=>by
   rcases cu.1 hy with hy|hy
   obtain ⟨g,_,rfl⟩:=gm.1 hy;simp only;rw[jn];exact⟨hx,hi.ht x aD⟩;rw[dR y hy];exact⟨hi.tail.le y hy,hi.tail.ht y hy⟩
  have hid:iJ (ij hh (w.ids+1) T.length) (c9 x.g.a x.sh (w.ids+1) (⟨aN,0,w.ids+1⟩::c9 x.g.b x.sh x.id r)) (w.ids+1) (T.length+1):=by
   refine iJ.VC (.cons hbI cZ W0 λy hy=>?_) cZ Tu λy hy=>?_
   have:=ez y hy;simp only;rw[en];omega;rcases cE.1 hy with rfl| hy
   exact⟨eT _,eT _⟩;have:=ez y hy;rw[en];omega
  have hm:=h.mono;simp only[Wo.next]at hm;have h1:=ih (T++[⟨b.length,f,aJ,0,bR x.g.c x.sh (hh x.id) (r.map (uV hh)),true⟩]) (ij hh (w.ids+1) T.length) s WU (λt ht=>?_) hl ho (λh=>by simp_all) λ_=>?_
  rw [jy,bM,jy,tZ λy hy=>zn (hi.tail.le y hy)]at h1;simp only[uV,en,jn]at h1;exact h1;grind;refine .inr ⟨by simp only [rV]; rw [mZ],?_⟩;simp only[rV];rw[mZ,<-jy];exact wg T hh s ((hi.tail.VC hx (hi.ht x aD) hp).ids aq cZ) hT aq ov hs hb
 |@skip x r b f w n w' h0 h1 h2 h3 h4 h5 h ih=>intro T hh s hi hT hl ho hs hb;exact .step (DG h0 h1 h2 h3 h4 h5) (ih T hh s hi.tail hT hl ho hs hb)
 |@none t id r b f w=>intro T hh s i k hd hi fE h0 hid hT hl ho hs hb;simp only[jw];exact hb ho
 |@other c cs t id r b f w n w' dR h ih=>intro T hh s i k hd hi fE h0 hid hT hl ho hs hb;rw[jw,if_neg dR];exact ih T hh s (i+1) k (by rw[<-List.drop_drop,hd];rfl) hi fE h0 hid hT hl ho hs hb
 |@fail c cs t id r b f w n w' dR hu h ih=>intro T hh s i k hd hi fE h0 hid hT hl ho hs hb;rw[jw,if_pos dR,show sV b t (dw f c.head)=none from hu];exact ih T hh s (i+1) k (by rw[<-List.drop_drop,hd];rfl) hi fE h0 hid hT hl ho hs hb
 |@over c cs t id r b f w b' n w' dR hu h hov ih=>
  intro T hh s i k hd hi fE h0 hid hT hl ho hs hb;rw[jw,if_pos dR,show sV b t (dw f c.head)=some b' from hu];simp only;obtain⟨X,rfl⟩:=tY hu
  have hII:iJ (ij hh id T.length) (c9 c.body f id r) w.ids (T.length+1):=by
   refine((hi.ids cZ (pM _)).new fE h0).VC hid Tu λy hy=>?_
   rw[en,fx (by have:=fE y hy;omega)];exact⟨Nat.le_of_lt (fE y hy),hi.ht y hy⟩
  have h1:=ih (T++[⟨b.length,f,t,i+1,r.map (uV hh),false⟩]) (ij hh id T.length) s (by simpa using hII) (λu hu=>?_) hl ho hs λhv=>?_
  rw[jy,en,tZ fE]at h1;exact h1;rcases cu.1 hu with hu| hu
  exact hmk hT u hu;rw[eu.1 hu];simp only[List.length_append];omega;simp_all
 |@aE c cs t id r b f w b' n w' dR hu h hov ih=>
  intro T hh s i k hd hi fE h0 hid hT hl ho hs hb;rw[jw,if_pos dR,show sV b t (dw f c.head)=some b' from hu];simp only;obtain⟨X,rfl⟩:=tY hu
  have hII:iJ (ij hh id T.length) (c9 c.body f id r) w.ids (T.length+1):=by
   refine((hi.ids cZ (pM _)).new fE h0).VC hid Tu λy hy=>?_
   rw[en,fx (by have:=fE y hy;omega)];exact⟨Nat.le_of_lt (fE y hy),hi.ht y hy⟩
  have h1:=ih (T++[⟨b.length,f,t,i+1,r.map (uV hh),false⟩]) (ij hh id T.length) s (by simpa using hII) (λu hu=>?_) hl ho hs λhv=>?_
  rw[jy,en,tZ fE]at h1;exact h1;rcases cu.1 hu with hu| hu
  exact hmk hT u hu;rw[eu.1 hu];simp only[List.length_append];omega;rw [DC λhm=>?_];exact mL.to (htk X hT) (hb hv);obtain ⟨y,hy,he,_⟩:=h.ids n rfl;rcases cu.1 hy with hy|hy
  grind;rw[<-he];exact hi.ht y hy
 |@more c cs t id r b f w b' w1 n w' dR hu h ov h2 ih wg=>
  intro T hh s i k hd hi fE h0 hid hT hl ho hs hb;rw[jw,if_pos dR,show sV b t (dw f c.head)=some b' from hu];simp only;obtain⟨X,rfl⟩:=tY hu
  have hII:iJ (ij hh id T.length) (c9 c.body f id r) w.ids (T.length+1):=by
   refine((hi.ids cZ (pM _)).new fE h0).VC hid Tu λy hy=>?_
   rw[en,fx (by have:=fE y hy;omega)];exact⟨Nat.le_of_lt (fE y hy),hi.ht y hy⟩
  have hm:=h.mono;have Fz:P.drop (i+1)=cs:=by rw[<-List.drop_drop,hd];rfl
  have h1:=ih (T++[⟨b.length,f,t,i+1,r.map (uV hh),false⟩]) (ij hh id T.length) s (by simpa using hII) (λu hu=>?_) hl ho (λh=>by simp_all) λ_=>?_
  rw[jy,en,tZ fE]at h1;exact h1;grind;have h3:=wg T hh s (i+1) (i+1) Fz (hi.ids hm.2 cZ) fE h0 aq hT aq ov hs hb;have hg:=PJ (P:=P) (B:=b) (f:=f) (T:=T) (r:=r.map (uV hh)) (d:=ab-w1.left) (sn:=w1.aF) (f':=f+c.vars.toNat) (X:=X) (c:=t) (k:=i+1) (nw:=[]);rw[Fz]at hg;simp only[rV];cases hc:jw ⟨b,f,T,[],ab-w1.left,w1.aF⟩ ⟨b.length,f,t,i+1,r.map (uV hh),false⟩ (i+1) cs with
  |some m'=>rw[hc]at h3 hg;exact .inr ⟨by rw[hg],by simp_all⟩
  |none=>rw[hc]at h3 hg;unfold mL at h3 ⊢;simp_all
def rJ (w:Wo):List Ev:=if w.over then w.aF else w.aF++[sT]
theorem DH{P:List Cs}{head:Tm}{ab:Nat}{q:List Gl}{vars:Nat}{n:Option Nat}{w':Wo}(h:er A3 P head.l (.run (c9 q 0 0 [])) [] vars ⟨ab,[],0,false⟩ n w'):ll P head ab ⟨[],vars,[],bR q 0 0 [],0,[]⟩ (rJ w'):=by
 have h1:=ctl (ab:=ab) h [] (λ_=>0) (rJ w') ?_ aD cZ rfl (λho=>by unfold rJ;rw[if_pos ho]) λho=>?_
 rw [jy]at h1;simpa using h1;exact iJ.VC ⟨by simp,by simp,.nil,rfl⟩ fO fO aD;have e:rV (λ_=>0) ([]:List Tr) n=[]:=by cases n <;> simp [rV]
 rw[e];refine .inl ⟨rfl,?_⟩;unfold rJ;rw[if_neg (by rw[ho];simp)];rfl
end ax

namespace ax
open Go Tm
variable{S:List Int}{B:an}
theorem xM{sw:Bool}{n:Nat}{T:List (Tm×Tm)}{B B1:an}{cK:List (Int×Int)}{ok1:Bool}(h:mY sw n T B cK B1 ok1):∀{n2:Nat} {B2:an} {ok2:Bool},mY sw n2 T B cK B2 ok2->B1=B2/\ok1=ok2:=by
 have nv:∀{x y u w:Tm},iA sw x y=(u,w)->u.k=1->x.k≠1->y.k≠1->False:=λhp hk hx hy=>by
  rcases qo hp with ⟨h,_⟩|⟨_,_,h⟩
  exact hx (h ▸ hk);exact hy h
 induction h with
 |done=>intro n2 B2 ok2 h2;cases h2;exact⟨rfl,rfl⟩
 |skip hs _ ih=>
  intro n2 B2 ok2 h2;cases h2 with
  |skip _ h=>exact ih h
  |same fk|cF fk|bind fk|kT fk|args fk=>rw[hs]at fk;cases fk
 |same hs hv _ ih=>
  intro n2 B2 ok2 h2;cases h2 with
  |skip fk=>rw[hs]at fk;cases fk
  |same _ _ h=>exact ih h
  |cF _ rY|bind _ rY=>exact absurd hv rY
  |kT _ hx|args _ hx=>exact absurd hv.1 hx
 |cF hs hv hp hk hw=>
  intro n2 B2 ok2 h2;cases h2 with
  |skip fk=>rw[hs]at fk;cases fk
  |same _ rY=>exact absurd rY hv
  |cF=>exact⟨rfl,rfl⟩
  |bind _ _ Ns _ hw'=>rw[hp]at Ns;cases Ns;rw[hw]at hw';cases hw'
  |kT _ hx hy|args _ hx hy=>exact(nv hp hk hx hy).elim
 |bind hs hv hp hk hw _ ih=>
  intro n2 B2 ok2 h2;cases h2 with
  |skip fk=>rw[hs]at fk;cases fk
  |same _ rY=>exact absurd rY hv
  |cF _ _ Ns _ hw'=>rw[hp]at Ns;cases Ns;rw[hw]at hw';cases hw'
  |bind _ _ Ns _ _ h=>rw[hp]at Ns;cases Ns;exact ih h
  |kT _ hx hy|args _ hx hy=>exact(nv hp hk hx hy).elim
 |kT hs hx hy hc=>
  intro n2 B2 ok2 h2;cases h2 with
  |skip fk=>rw[hs]at fk;cases fk
  |same _ rY=>exact absurd rY.1 hx
  |cF _ _ hp hk|bind _ _ hp hk=>exact(nv hp hk hx hy).elim
  |kT=>exact⟨rfl,rfl⟩
  |args _ _ _ FA=>rw[hc]at FA;cases FA
 |args hs hx hy hc _ ih=>
  intro n2 B2 ok2 h2;cases h2 with
  |skip fk=>rw[hs]at fk;cases fk
  |same _ rY=>exact absurd rY.1 hx
  |cF _ _ hp hk|bind _ _ hp hk=>exact(nv hp hk hx hy).elim
  |kT _ _ _ FA=>rw[hc]at FA;cases FA
  |args _ _ _ _ h=>exact ih h
theorem xN{B:an}(h:∀b∈B,GT b.2):∀(f:Nat) (t:Tm),GT t->GT (eh B f t)|0,t,ht=>ht|f+1,t,ht=>by simp only[eh];split;split;rename_i x hx;exact xN h f x (h _ (du hx));exact ht;exact ht
theorem adY{sw:Bool}{n:Nat}{T:List (Tm×Tm)}{B B':an}{cK:List (Int×Int)}{ok:Bool}(h:mY sw n T B cK B' ok):(∀p∈T,GT p.1/\GT p.2)->(∀b∈B,GT b.2)->∀b∈B',GT b.2:=by
 induction h with
 |done=>simp_all
 |skip _ _ ih=>exact λhT hB=>ih (λp hp=>hT p Bn) hB
 |same _ _ _ ih=>exact λhT hB=>ih (λp hp=>hT p Bn) hB
 |cF=>simp_all
 |bind hs hv hp hk hw _ ih=>
  intro hT hB;refine ih (λp hp=>hT p Bn) λb hb=>?_
  rcases cu.1 hb with hb|hb
  exact hB b hb;rw [eu.1 hb];have h0:=hT _ (Xj);rcases qo hp with ⟨_,h⟩|⟨_,h,_⟩
  rw[h];exact xN hB _ _ h0.2;rw[h];exact xN hB _ _ h0.1
 |kT=>simp_all
 |args hs hx hy hc _ ih=>
  intro hT hB;refine ih (λp hp=>?_) hB;have h0:=hT _ (Xj);rcases cu.1 hp with hp|hp
  have hz:=sS.1 hp;exact⟨(xN hB _ _ h0.1).kid (Kj hz).1,(xN hB _ _ h0.2).kid (Kj hz).2⟩;grind
structure eF (S:List Int) (B:an):Prop where
 ug:UG S 3000 [] B
 gt:∀b∈B,GT b.2
theorem eF.nil(S:List Int):eF S []:=⟨⟨.nil,by simp[C9],by simp,by simp[ajl],by simp[U4],⟨vT,by simp[oC]⟩,by simp,by simp⟩,by simp⟩
theorem eF.take{B X:an}(h:eF S (B++X)):eF S B:=by refine⟨⟨⟨?_,?_⟩,λb hb=>h.ug.mI b (by simp[hb]),by simp,by simp[ajl],λb hb=>h.ug.sb b (by simp[hb]),?_,λb hb=>h.ug.vb b (by simp[hb]),by simp⟩,λb hb=>h.gt b (by simp[hb])⟩;have:=h.ug.chain.nodup;grind;intro i b hb hk j c hc he;have h1:=(fu.1 hb).1;have h2:=(fu.1 hc).1;exact h.ug.chain.chain i b jD hk j c jD he;obtain ⟨σ,hσ⟩:=h.ug.V1;exact⟨σ,λb hb=>hσ b (by simp[hb])⟩
theorem eF.len(h:eF S B):B.length<=S.length:=h.ug.Pq
theorem IW{a b:Tm}(h:eF S B)(ga:GT a)(gb:GT b)(oa:∀u∈cF a,u∈S)(ob:∀u∈cF b,u∈S) :
  ∃n X ok,eP S 3000 a n [(a,b)] B [] (B++X) ok/\sV B a b=(if ok then some (B++X)else none)/\eF S (B++X):=by
 have hU:UG S 3000 [(a,b)] B:=⟨h.ug.chain,h.ug.mI,λp hp=>by rw[eu.1 hp];exact⟨ga.fair,gb.fair⟩,λp hp=>by rw[eu.1 hp];exact⟨ga.size,gb.size⟩,h.ug.sb,h.ug.V1,h.ug.vb,λp hp=>by simp_all⟩;obtain⟨n,B',ok,hr,hg,⟨X,rfl⟩,_,_⟩:=Pp false hU;refine⟨n,X,ok,.first ga.fair ga.size hr hU,?_,hg,adY hr (λp hp=>by simp_all) h.gt⟩;unfold sV;cases ok with
 |true=>have hx:∃B',ZV B a b B':=⟨_,n,hr⟩;rw[dif_pos hx];obtain⟨n2,h2⟩:=Classical.choose_spec hx;rw[if_pos rfl];exact congrArg some (xM h2 hr).1
 |false=>rw[dif_neg];rfl;rintro ⟨B',n2,h2⟩;have:=(xM h2 hr).2;cases this
theorem Mx{B B':an}{a b:Tm}(h:eF S B)(ga:GT a)(gb:GT b)(oa:∀u∈cF a,u∈S)(ob:∀u∈cF b,u∈S)(hu:sV B a b=some B'):eF S B'/\∃X,B'=B++X:=by obtain⟨n,X,ok,_,h2,h3⟩:=IW h ga gb oa ob;grind
theorem y1{S:List Int}:∀{l:List Tm} {B B':an},eF S B->(∀t∈l,GT t/\∀u∈cF t,u∈S)->fY B l=some B'->eF S B'
 |[],B,B',h,_,hu=>by rw[fY]at hu;cases hu;exact h;simp
 |[_],B,B',h,_,hu=>by rw[fY]at hu;cases hu;exact h;simp
 |a::b::r,B,B',h,hl,hu=>by rw[fY]at hu;split at hu;rename_i B1 h1;exact y1 (Mx h (hl a aD).1 (hl b aD).1 (hl a aD).2 (hl b aD).2 h1).1 (λt ht=>hl t Fl) hu;cases hu
theorem My{B:an}(hB:∀b∈B,GT b.2):∀(m:Nat) (t:Tm),t.Fit->t.bA=true->(bu B m t).Fit
 |0,t,h,_=>h
 |m+1,t,h,hr=>by
  rw[bu];refine adN t h λv hv=>?_
  split;rename_i x hx;have:=hB _ (du hx);exact My hB m x this.f this.fair;have:=Tm.lz t hr v hv;rw[vT,pq];refine⟨⟨?_,?_⟩,by simp⟩<;>unfold ji<;>omega
theorem Mz{S:List Int}{B:an}(hB:∀b∈B,∀u∈cF b.2,u∈S):∀(m:Nat) (t:Tm),(∀u∈cF t,u∈S)->∀u∈cF (bu B m t),u∈S|0,t,h=>h|m+1,t,h=>by rw[bu];intro u hu;obtain⟨v,hv,hu⟩:=xt _ _ hu;split at hu;rename_i x hx;exact Mz hB m x (λu hu=>hB _ (du hx) u hu) u hu;rw [vT,cF,if_pos rfl]at hu;simp_all
theorem Sz{t:Tm}(h:eF S B)(gt:GT t)(ot:∀u∈cF t,u∈S)(h0:(eL B t).2=0):GT (eL B t).1/\∀u∈cF (eL B t).1,u∈S:=by
 have hf:(bu B B.length t).bA=true:=by have hs:=h.ug.V1;obtain⟨σ,hs⟩:=hs;exact(IH hs h.ug.chain h.ug.mI).agr gt.fair
 unfold eL EL at h0 ⊢;split at h0;rename_i hc;rw[if_pos hc];simp only[aV,decide_eq_true_eq]at hc;exact⟨⟨Tm.dM.2 ⟨hf,hc.1,hc.2⟩,My h.gt _ _ gt.f gt.fair⟩,Mz (λb hb=>(h.ug.vb b hb).2) _ _ ot⟩;cases h0
theorem MA{t:Tm}(h0:(eL B t).2≠0):(eL B t).2=3:=by unfold eL EL at h0 ⊢;grind
end ax

namespace ax
open Go Tm
variable{l:List Tm}{s:ByteArray}{S:List Int}{nx:Int}
structure rK (S:List Int) (nx:Int) (a:Ak):Prop where
 al:∀t∈a.al,GT t/\∀u∈cF t,u∈S
 lo:nx<=a.nx
 hi:a.nx<=nx+8
 len:a.al.length<=4
section
variable {S:List Int} {nx:Int}
theorem rK.no(e:Int):rK S nx (eJ nx e):=⟨by simp[eJ],kH _,by simp[eJ];omega,by simp[eJ]⟩
theorem rK.is(b:Bool):rK S nx (mz nx b):=⟨by simp[mz],kH _,by simp[mz];omega,by simp[mz]⟩
theorem rK.ok{n:Int}(h1:nx<=n)(h2:n<=nx+8)(h:∀t∈l,t.Fit/\∀u∈cF t,u∈S)(a8:l.length<=4:=by simp):rK S nx (cf n l):=by unfold cf;split;rename_i hr;exact⟨λt ht=>⟨⟨by rw[<-cV];simp_all,(h t ht).1⟩,(h t ht).2⟩,h1,h2,a8⟩;exact⟨by simp,h1,h2,by simp⟩
theorem rK.same(h:∀t∈l,t.Fit/\∀u∈cF t,u∈S)(a8:l.length<=4:=by simp):rK S nx (cf nx l):=.ok (kH _) aq h a8
theorem PK{n:Int}(h:ji n):(gC n).Fit/\∀u∈cF (gC n),u∈S:=by unfold gC;refine⟨pq.2 ⟨⟨by unfold ji;omega,h⟩,by simp⟩,?_⟩;rw[q9];simp[k,l,ep]
theorem SA(h:∀t∈l,t.Fit/\∀u∈cF t,u∈S):(Tm.mk 3 s 0 l).Fit/\∀u∈cF (Tm.mk 3 s 0 l),u∈S:=by
 refine⟨pq.2 ⟨⟨by unfold ji;omega,by unfold ji;omega⟩,λx hx=>(h x hx).1⟩,?_⟩;rw[q9,if_neg (show(Tm.mk 3 s 0 l).k≠1 by simp[Tm.k])];simp only[Tm.l];intro u hu
 have key:∀l:List Tm,(∀t∈l,∀u∈cF t,u∈S)->∀u∈ep l,u∈S:=λl=>by
  induction l with
  |nil=>intro _ u hu;simp[ep]at hu
  |cons a l ih=>
   intro h u hu;simp only[ep,cu]at hu;rcases hu with hu|hu
   exact h a aD u hu;exact ih (λt ht=>h t Fl) u hu
 grind
theorem DI:(gT s).Fit/\∀u∈cF (gT s),u∈S:=SA aD
theorem SB(h:∀t∈l,t.Fit/\∀u∈cF t,u∈S):(dN l).Fit/\∀u∈cF (dN l),u∈S:=by
 unfold dN;induction l with
 |nil=>exact DI
 |cons a l ih=>
  rw[List.foldr_cons];refine SA λt ht=>?_
  simp only[cE,pL,or_false]at ht;rcases ht with rfl|rfl
  exact h _ aD;grind
theorem adZ:aJ.Fit/\∀u∈cF aJ,u∈S:=by unfold aJ;refine⟨pq.2 ⟨⟨by unfold ji;omega,by unfold ji;omega⟩,by simp⟩,?_⟩;rw[q9,if_neg (by simp[Tm.k])];simp[Tm.l,ep]
theorem PL{t x:Tm}(hk:t.k≠1)(h:t.Fit/\∀u∈cF t,u∈S)(hx:x∈t.l):x.Fit/\∀u∈cF x,u∈S:=by refine⟨((xF t).1 h.1).2 x hx,λu hu=>h.2 u ?_⟩;rw[q9,if_neg hk];exact xG hx hu
theorem IX{i:Nat}(h:∀t∈l,t.Fit/\∀u∈cF t,u∈S):((l[i]?).getD aJ).Fit/\∀u∈cF ((l[i]?).getD aJ),u∈S:=by
 cases hi:l[i]? with
 |none=>exact adZ
 |some x=>grind
theorem ajy(f:Nat):∀(t:Tm),(t.Fit/\∀u∈cF t,u∈S)->(∀x∈(rS f t).1,x.Fit/\∀u∈cF x,u∈S):=by
 induction f with
 |zero=>intro t _ x hx;simp[rS]at hx
 |succ f ih=>
  intro t h x hx;rw[rS]at hx;split at hx;rename_i hc;have hk:=λx hx=>PL (x:=x) (by rw[hc.1];omega) h hx
  grind;simp at hx
theorem agN:∀(m:Nat) (n:Int),0<=n->n+m<1000000->(∀i,n<=i->i<n+m->i∈S)->∀t∈dC n m,t.Fit/\∀u∈cF t,u∈S
 |0,n,_,_,_=>by simp[dC]
 |m+1,n,h0,h1,h=>by
  intro t ht;rw[dC]at ht;rcases cE.1 ht with rfl|ht
  refine ⟨pq.2 ⟨⟨by unfold ji; omega,by unfold ji; omega⟩,by simp⟩,λu hu=>?_⟩;rw[cF,if_pos rfl]at hu;grind;exact agN m (n+1) aq aq (λi h2 h3=>h i aq aq) t ht
end
theorem rK.ite{c:Prop}[Decidable c]{x y:Ak}(h1:c->rK S nx x)(h2:¬ c->rK S nx y):rK S nx (if c then x else y):=by grind
theorem aak(hl:∀t∈l,t.Fit/\∀u∈cF t,u∈S)(h0:0<=nx)(h1:nx<=999000)(hS:s=Tx [102,117,110,99,116,111,114]->∀i,nx<=i->i<nx+8->i∈S)(a8:∀t∈l,t.l.length<=8):rK S nx (eg s l nx):=by
 unfold eg;extract_lets a b c;have ha:a.Fit/\∀u∈cF a,u∈S:=IX hl;have hb:b.Fit/\∀u∈cF b,u∈S:=IX hl;have hc:c.Fit/\∀u∈cF c,u∈S:=IX hl
 have vJ:a.l.length<=8:=by
  show((l[0]?).getD aJ).l.length<=8
  cases hi:l[0]? with
  |none=>simp[aJ,Tm.l]
  |some x=>grind
 clear_value a b c;have two:∀x y:Tm,(x.Fit/\∀u∈cF x,u∈S)->(y.Fit/\∀u∈cF y,u∈S)->∀t∈[x,y],t.Fit/\∀u∈cF t,u∈S:=λx y hx hy t ht=>by grind
 have four:∀x y z v:Tm,(x.Fit/\∀u∈cF x,u∈S)->(y.Fit/\∀u∈cF y,u∈S)->(z.Fit/\∀u∈cF z,u∈S)->(v.Fit/\∀u∈cF v,u∈S)->∀t∈[x,y,z,v],t.Fit/\∀u∈cF t,u∈S:=λx y z v hx hy hz hv t ht=>by grind
 have nil:∀(h ap:Bool) (tx:Bs) (e:Int),rK S nx ⟨h,[],ap,tx,nx,e⟩:=λh ap tx e=>⟨by simp,kH _,by grind,by simp⟩
 have ord:∀is,rK S nx (jv nx a b is):=λis=>by unfold jv;split;exact .no _;exact .is _
 have ev:∀t:Tm,t.Fit->ji (bD t).1:=λt ht=>by unfold bD;split;exact tL ht;show ji 0;unfold ji;omega
 refine rK.ite (λ_=>?_) λ_=>?_
 exact .is _;refine rK.ite (λ_=>?_) λ_=>?_
 simp_all;refine rK.ite (λ_=>?_) λ_=>?_
 unfold AW; split;simp_all;exact .no _;refine rK.ite (λ_=>?_) λ_=>?_
 exact .is _;refine rK.ite (λ_=>?_) λ_=>?_
 exact .is _;refine rK.ite (λ_=>?_) λ_=>?_
 exact .is _;refine rK.ite (λ_=>?_) λ_=>?_
 exact .is _;refine rK.ite (λ_=>?_) λ_=>?_
 exact .same (two _ _ ha hb);refine rK.ite (λ_=>?_) λ_=>?_
 split;rename_i h;have h2:=(rK.same (nx:=nx) (two _ _ ha hb)).al;unfold cf at h h2;split at h;rename_i hr;rw[if_pos hr]at h2;exact⟨h2,kH _,by grind,by simp⟩;cases h;exact .no _;refine rK.ite (λ_=>?_) λ_=>?_
 exact .is _;refine rK.ite (λ_=>?_) λ_=>?_
 exact .is _;refine rK.ite (λ_=>?_) λ_=>?_
 exact ord _;refine rK.ite (λ_=>?_) λ_=>?_
 exact ord _;refine rK.ite (λ_=>?_) λ_=>?_
 exact ord _;refine rK.ite (λ_=>?_) λ_=>?_
 exact ord _;refine rK.ite (λ_=>?_) λ_=>?_
 unfold CZ; split;exact .no _;exact .same (two _ _ ha (PK (ev b hb.1)));refine rK.ite (λaqW=>?_) λ_=>?_
 unfold cG;have hI:∀n:Int,0<=n->n<=100->ji n:=λn _ _=>by unfold ji;omega
 split;exact .same (four _ _ _ _ hb ha hc (PK (hI 0 aq aq)));split;exact .same (four _ _ _ _ hb DI hc (PK (hI _ aq aq)));split;exact .no _;split;exact .no _;split;exact .no _;split;exact .same (two _ _ ha hb);split;exact .no _;refine .ok aq aq (two _ _ ha (SA (agN _ nx h0 aq λi h2 h3=>hS aqW i h2 aq)));refine rK.ite (λ_=>?_) λ_=>?_
 unfold mi;split;exact .no _;split;exact .no _;split;exact .is _;rename_i h1 _ _;exact .same (two _ _ (IX λx hx=>PL (λe=>h1 (.inr e)) hb hx) hc);refine rK.ite (λ_=>?_) λ_=>?_
 unfold jJ;split;exact .same (two _ _ hb (SB λt ht=>by simp_all));split;rename_i hk;refine .same (two _ _ hb (SB λt ht=>?_));rcases cE.1 ht with rfl|ht
 exact DI;exact PL (by rw[hk];omega) ha ht;split;exact .no _;split;exact .no _;have hr:=ajy b.size b hb;unfold ib;split;exact .no _;rename_i h m hm;rw[hm]at hr;split;exact .no _;split;exact .no _;split;exact .same (two _ _ ha (hr h aD));split;exact .no _;split;exact .no _;exact .same (two _ _ ha (SA λt ht=>hr t Fl));unfold So;split;exact .no _;split;exact .no _;exact .is _
theorem SC(hl:∀t∈l,t.Fit/\∀u∈cF t,u∈S)(h0:0<=nx)(h1:nx<=999000)(hS:∀i,nx<=i->i<nx+8->i∈S)(a8:∀t∈l,t.l.length<=8):rK S nx (eg s l nx):=aak hl h0 h1 (λ_=>hS) a8
end ax

namespace Go.Proofs.YtmjmngigbachdaaGreatDoor
open Go ax Go.Proofs
theorem _root_.ax.GT.iR {t:Tm}(h:GT t):∀x,∀e∈t.gX x,e.2.s.size<1000000000:=λd e he=>by have:=IJ h.fair d e he;omega
inductive Dn2 (S:List Int) (B0:an):an->Nat->List Tm->Bool->an->Nat->Prop
 |nil {B:an} {d:Nat} {l:List Tm} (hl:l.length<2):Dn2 S B0 B d l true B d
 |yes {B X:an} {d n:Nat} {a b:Tm} {r:List Tm} {ok:Bool} {B':an} {d':Nat} (h:Tm.eP S 3000 a n [(a,b)] B [] (B++X) true) (hs:eF S (B++X)) (hr:Dn2 S B0 (B++X) d r ok B' d'):Dn2 S B0 B d (a::b::r) ok B' d'
 |no {X0 X:an} {d n:Nat} {a b:Tm} {r:List Tm} (h:Tm.eP S 3000 a n [(a,b)] (B0++X0) [] ((B0++X0)++X) false) (hs:eF S ((B0++X0)++X)):Dn2 S B0 (B0++X0) d (a::b::r) false B0 (X0.length+(X.length+d+1)+1)
theorem aal {S:List Int}{B0:an}:∀(l:List Tm) (X0:an) (d:Nat),eF S (B0++X0)->(∀t∈l,GT t/\∀u∈Tm.cF t,u∈S)->∃ok B' d',Dn2 S B0 (B0++X0) d l ok B' d'/\fY (B0++X0) l=(if ok then some B' else none)/\(ok=false->B'=B0)
 |[],X0,d,h,_=>⟨true,_,d,.nil aD,by simp[fY],by simp⟩
 |[_],X0,d,h,_=>⟨true,_,d,.nil aD,by simp[fY],by simp⟩
 |a::b::r,X0,d,h,hl=>by
  obtain⟨n,X,ok,h1,h2,h3⟩:=IW h (hl a aD).1 (hl b aD).1 (hl a aD).2 (hl b aD).2;rw[fY,h2];cases ok with
  |true=>
   obtain⟨ok2,B2,d2,g1,g2,g3⟩:=aal r (X0++X) d (by rw[<-List.append_assoc];exact h3) λt ht=>hl t Fl
   rw[<-List.append_assoc]at g1 g2;exact⟨ok2,B2,d2,.yes h1 h3 g1,g2,g3⟩
  |false=>exact⟨false,B0,_,.no h1 h3,rfl,λ_=>rfl⟩
theorem aam (Y:YP){S:List Int}(hS:S.length<=111000){B0:an}{d0:Nat}(h0:eF S B0){l:List Tm}(gl:∀t∈l,GT t)(V2:l.length<=1000){ok:Bool}{B':an}{d':Nat}(h:Dn2 S B0 B0 d0 l ok B' d'):aU Tryz.prog Y 97 [.lo 0 0,.d (.sl (Tm.aa l))] (cC d0 B0) (bV ok) (cC d' B'):=by
 have mF:=Tm.ao l;refine Qo Tryz.func97 λw S1 φ hg=>?_
 have hφ:φ.length=3:=hg.kh.len;refine ag ?_;refine aj hg.ok hg.cm hg.wide hg.Y [0,1,2] (cC d0 B0) (u1 Y d0 B0) cN rfl rfl rfl rfl rfl jl rfl jl (ag ?_);refine a7 (λx:Nat×Nat×an=>([(0,.lo 0 0),(1,.d (.sl (Tm.aa l))),(5,iV B0.length),(6,iV (2*x.1:Nat))],cC x.2.1 (B0++x.2.2))) (λx=>2*x.1<=l.length/\Dn2 S B0 (B0++x.2.2) x.2.1 (l.drop (2*x.1)) ok B' d'/\eF S (B0++x.2.2)) (λx=>l.length-2*x.1) (0,d0,[]) ⟨bU _,by simpa using h,by simpa using h0⟩ Bi (by simp;rfl) ?_;rintro⟨k,d1,X1⟩ ⟨hk,hd,hs⟩;simp only at hk hd hs;refine ag ?_;have hw:∀i:Int,0<=i->i<=3000->IntKind.i64.wrap i=i:=λi h1 h2=>pX aq aq
 refine af (λh=>?_) λh=>?_
 have aI:2*k+1<l.length:=by have h:=of_decide_eq_true h;rw[mF]at h;have e:IntKind.i64.wrap (((2*k:Nat):Int)+1)=((2*k:Nat):Int)+1:=hw _ aq aq;rw[e]at h;omega
 obtain⟨a,ea⟩:∃a,l[2*k]? = some a:=⟨_,dG aq⟩;obtain⟨b,eb⟩:∃b,l[2*k+1]? = some b:=⟨_,dG aI⟩;have ga:=gl a (sq ea);have gb:=gl b (sq eb);have e2:l.drop (2*k)=a::b::l.drop (2*(k+1)):=by obtain⟨h1,h2⟩:=fu.1 ea;obtain⟨h3,h4⟩:=fu.1 eb;rw[List.drop_eq_getElem_cons h1,h2,List.drop_eq_getElem_cons h3,h4];rfl
 rw[e2]at hd;refine cJ (Tm.ay ea) ?_;refine hH 26 rfl (bJ.wrap (n:=((2*k+1:Nat):Int)) aq aq aq) ?_;refine cJ (Tm.ay eb) ?_;generalize hB:B0++X1=B at hd hs ⊢;cases hd with
 |nil hl=>simp only[dx]at hl;omega
 |@yes _ X _ n _ _ _ _ _ _ hu nB hr=>
  have a8:=nB.len;refine aj hg.ok hg.cm hg.wide hg.Y [0,1,2] (cC d1 (B++X)) (nq Y d1 aq aq aq B X true a b n hu nB.ug.chain.nodup aq ga.r gb.r (ga.iR 1) (gb.iR 1)) cN rfl rfl rfl rfl rfl jl rfl (by unfold Ms;rw[if_pos rfl,cp];rfl) (ag ?_);refine gg ?_;have ea:B0++(X1++X)=B++X:=by rw[<-List.append_assoc,hB]
  refine bb (k+1,d1,X1++X) ?_ ?_ ?_ ?_;exact⟨by show 2*(k+1)<=_;omega,by rw[ea];exact hr,by rw[ea];exact nB⟩;show l.length-2*(k+1)<l.length-2*k;omega
  exact⟨.refl _,.refl _,.refl _,bJ.wrap Tz Tz Tz,trivial⟩;show _=cC d1 (B0++(X1++X));rw[ea];rfl
 |@no X0 X _ n _ _ _ hu nB=>have a8:=nB.len;have asj:=hs.len;refine aj hg.ok hg.cm hg.wide hg.Y [0,1,2] (cC (X.length+d1+1) (B0++X0)) (nq Y d1 aq aq aq (B0++X0) X false a b n hu nB.ug.chain.nodup aq ga.r gb.r (ga.iR 1) (gb.iR 1)) cN rfl rfl rfl rfl rfl jl rfl (by unfold Ms;rw[if_neg aD,cp];rfl) (ag ?_);refine mM ?_;refine aj hg.ok hg.cm hg.wide hg.Y [0,1,2] (cC (X0.length+(X.length+d1+1)+1) B0) (vW Y (X.length+d1+1) B0 X0 hs.ug.chain.nodup aq) cN rfl rfl rfl rfl rfl jl rfl jl (ag ?_);exact aL hg 3 5 cZ rfl rfl (gu _ B0 _)
 have aI:l.length<=2*k+1:=by have h:=of_decide_eq_false h;rw[mF]at h;have e:IntKind.i64.wrap (((2*k:Nat):Int)+1)=((2*k:Nat):Int)+1:=hw _ aq aq;rw[e]at h;omega
 generalize hB:B0++X1=B at hd hs ⊢;generalize hr:l.drop (2*k)=r at hd;have an9:r.length<2:=by rw[<-hr,J7];omega
 cases hd with
 |nil=>exact aL hg 3 5 cZ rfl rfl (gu _ _ _)
 |yes=>simp only[dx]at an9;omega
 |no=>simp only[dx]at an9;omega
end Go.Proofs.YtmjmngigbachdaaGreatDoor

namespace Go.Proofs.YtmjmngigbachdaaGreatDoor
open Go ax Go.Proofs
variable{B:an}{l:List Tm}{S:List Int}{f:Nat}{t x:Tm}
def pz (B:an)(l:List Tm):Bool:=l.any λx=>(eL B x).2≠0
def bS (B:an)(l:List Tm):List Tm:=l.map λx=>(eL B x).1
def gj (B:an)(t:Tm)(f:Nat):Ak:=eg t.s (bS B t.l) f
def agP (r:Dn an)(nx:Nat):AV:=match r with| .bad e=>.cP [bV false,.d (.v (.string ByteArray.empty)),iV nx,iV e]| .no=>.cP [bV false,.d (.v (.string ByteArray.empty)),iV nx,iV 0]| .yes _ f tx=>.cP [bV true,.d (.v (.string (Tx tx))),iV f,iV 0]
def aan (r:Dn an)(B:an):an:=match r with| .yes b _ _=>b|_=>B
inductive xO (S:List Int) (B:an) (d:Nat) (t:Tm) (f:Nat):Nat->Prop
 |bad (h:pz B t.l=true):xO S B d t f d
 |ask (h:pz B t.l=false) (ha:(gj B t f).e≠0\/(gj B t f).h=false):xO S B d t f d
 |done (h:pz B t.l=false) (he:(gj B t f).e=0) (hh:(gj B t f).h=true) {ok:Bool} {X:an} {d1:Nat} (hd:Dn2 S B B d (gj B t f).al ok (B++X) d1) (hu:fY B (gj B t f).al=if ok then some (B++X)else none) (hb:ok=false->X=[]) (hs:eF S (B++X)) (hl:(gj B t f).al.length<=4) (hg:∀x∈(gj B t f).al,GT x) (hn:(f:Int)<=(gj B t f).nx):xO S B d t f (if(gj B t f).ap then X.length+d1+1 else d1)
noncomputable def uW (a:Ak) (B:an) (f:Nat):Dn an:=if a.ap then(match fY B a.al with|some _=>.no|none=>.yes B f [])else match fY B a.al with|none=>.no|some b'=>.yes b' a.nx.toNat a.tx
theorem SD(h:pz B t.l=true):A3.pr B f t=.bad 3:=by exact if_pos h
theorem aao(h:pz B t.l=false):A3.pr B f t=(if(gj B t f).e≠0 then .bad (gj B t f).e else if(gj B t f).h=false then .no else uW (gj B t f) B f):=by exact if_neg (show ¬ pz B t.l=true by rw[h];simp)
theorem ad0{s:ByteArray}{n:Nat}(h:ku (s,(n:Int))=true):n<=3:=by have:=Sw (P:=λ_ n=>n<=3) s n h (λ_ _=>by omega) eA;omega
theorem PM(hs:eF S B)(hl:∀t∈l,GT t/\∀u∈Tm.cF t,u∈S)(h:pz B l=false):∀t∈bS B l,GT t/\∀u∈Tm.cF t,u∈S:=by
 intro t ht;obtain⟨x,hx,rfl⟩:=gm.1 ht;have h0:(eL B x).2=0:=by unfold pz at h;rw[List.any_eq_false]at h;simpa using h x hx
 exact Sz hs (hl x hx).1 (hl x hx).2 h0
theorem aap(d:Nat)(hs:eF S B)(hl:∀x∈t.l,GT x/\∀u∈Tm.cF x,u∈S)(hf:f<=999000)(hS:∀i:Int,f<=i->i<f+8->i∈S):∃dd,xO S B d t f dd:=by
 cases h:pz B t.l with
 |true=>exact⟨_,.bad h⟩
 |false=>
  by_cases ha:(gj B t f).e≠0\/(gj B t f).h=false;exact⟨_,.ask h ha⟩;have hv:=PM hs hl h;have hA:rK S f (gj B t f):=SC (λt ht=>⟨(hv t ht).1.f,(hv t ht).2⟩) aq aq hS (λt ht=>(hv t ht).1.len);obtain⟨ok,B',d1,h1,h2,h3⟩:=aal (B0:=B) (gj B t f).al [] d (by rw[yq];exact hs) hA.al;rw[yq]at h1 h2
  have:eF S B'/\∃X,B'=B++X:=by
   cases ok with
   |true=>exact⟨y1 hs hA.al (by rw[h2];rfl),ri (by rw[h2];rfl)⟩
   |false=>exact⟨by rw[h3 rfl];exact hs,[],by rw[h3 rfl,yq]⟩
  obtain⟨nB,X,rfl⟩:=this;have he:(gj B t f).e=0:=Classical.byContradiction λe=>ha (.inl e)
  have hh:(gj B t f).h=true:=by cases hh:(gj B t f).h with|true=>rfl|false=>exact absurd (.inr hh) ha
  exact⟨_,.done h he hh h1 h2 (λh=>by have:=h3 h;simpa using this) nB hA.len (λx hx=>(hA.al x hx).1) hA.lo⟩
theorem GU{g:G}{pf:Nat->cI}{Fin:Exit->Act->World->Prop}(hu:JC g){k:List It}{E:bq}{objs:List Ob}(i:Nat)(E':bq)(objs':List Ob){sz s:Nat}{aa:List (List D)}(ho:dq objs i=some (.arr sz s aa))(ht:gM k=true)
  (hE:oJ (qP (kp i s aa) E) E') (hO:dj (objs.map (aR (kp i s aa))) i .dead=objs') (hr:R g pf Fin k E' objs') (jP:g.rZ=[]:=by rfl):R g pf Fin k E objs:=by
 subst hO;exact BS hu i ho ht (X5 E' hE hr) jP
theorem MB(f:AV->AV)(d:Nat)(B:an)(h1:f (.mp 1)=.mp 1)(h2:f (.ow 2 (B.length+d))=.ow 2 (B.length+d))(h3:∀t:Tm,f t.av=t.av):(cC d B).map (aR f)=cC d B:=by simp only[cC,bM,fm];rw[dS h3];simp only[aR,bM,fm,h1,h2]
theorem GV{k:Nat}(h:l[k]? = some x):bS B (l.take (k+1))=bS B (l.take k)++[(eL B x).1]:=by unfold bS;rw[Jt,h];simp
theorem GW{k:Nat}(h:l[k]? = some x):pz B (l.take (k+1))=(pz B (l.take k)||decide ((eL B x).2≠0)):=by unfold pz;rw[Jt,h];simp
theorem SE(h:x∈l)(h2:(eL B x).2≠0):pz B l=true:=Kd.2 ⟨x,h,by simpa using h2⟩
def akE (t:Tm)(a:Ak):List Ob:=[aO t,.dead,.box [bV a.h,.d (.sl (Tm.aa a.al)),bV a.ap,.d (.v (.string (Tx a.tx))),iV a.nx]]
theorem ad1(Y:YP)(hS:S.length<=111000){d:Nat}(hs:eF S B)(ht:GT t)(hk:t.k=3)(hb:ku (t.s,(t.l.length:Int))=true)(hl:∀x∈t.l,GT x/\∀u∈Tm.cF x,u∈S)(hf:f<=999000)(hSf:∀i:Int,f<=i->i<f+8->i∈S){dd:Nat}(hD:xO S B d t f dd):aU Tryz.prog Y 73 [t.av,.lo 0 0,iV f] (cC d B) (agP (A3.pr B f t) f) (cC dd (aan (A3.pr B f t) B)):=by
 have mF:=Tm.ao t.l;refine Qo Tryz.func73 λw S1 φ hg=>?_
 have hφ:φ.length=3:=hg.kh.len;have hr:=λb hb=>(hs.gt b hb).r
 refine ag ?_;refine aA (fe t ht.iI.1 (ht.iR 1)) ?_;rw[cV,ht.r];refine gg ?_;refine mN ?_;refine aA (zU t.s t.l hb) ?_;refine gg ?_;refine JQ ?_;refine gg ?_;refine To ?_;refine To ?_;refine wo ?_;refine KR 10 4 rfl rfl (ag ?_);refine a7 (λk:Nat=>([(1,.lo 0 0),(2,iV f),(3,.lo 3 0),(10,.ow 4 k),(50,.d (.sl (Tm.aa t.l))),(51,iV t.l.length),(52,iV k)],cC d B++[aO t,.arr 4 k (Tm.aa (bS B (t.l.take k)))])) (λk=>k<=t.l.length/\pz B (t.l.take k)=false) (λk=>t.l.length-k) 0 ⟨bU _,by simp[pz]⟩ ⟨.refl _,.refl _,.refl _,.refl _,.refl _,by rw[mF];exact .refl _,.refl _,trivial⟩ rfl ?_;rintro k ⟨hk,he⟩;have hl8:=ad0 hb;have Oa:(bS B (t.l.take k)).length=k:=by unfold bS;rw[fQ,zi];omega
 have hrk:(Tm.aa (bS B (t.l.take k))).length=k:=by rw[Tm.ao,Oa]
 refine ag ?_;refine iG (λh=>?_) λh=>?_
 ·refine ag ?_;have aI:k<t.l.length:=bo h rfl;have e1:t.l[k]? = some t.l[k]:=dG aI;have hmem:=dy aI;have hm:=hl _ hmem;generalize t.l[k]=x at e1 hm hmem;refine cJ (Tm.ay e1) ?_;refine aj hg.ok hg.cm hg.wide hg.Y [0,1,2] (cC d B++[aO t,.arr 4 k (Tm.aa (bS B (t.l.take k))),aO x]) (xJ Y d aq cZ B hr hs.ug x hm.1.r hm.1.iR) cN rfl rfl rfl rfl rfl jl rfl jl ?_;show R _ _ _ _ (bh _ _ (dh _ (.cP [(eL B x).1.av,iV (eL B x).2]))) _
  have e3:(eL B x).2≠0->(eL B x).2=3:=MA;have e4:=GV (B:=B) e1;have e5:=GW (B:=B) e1;have e6:=SE (B:=B) hmem;generalize eL B x=v at e3 e4 e5 e6;obtain⟨v,ve⟩:=v;simp only at e3 e4 e5 e6;refine ag ?_;refine af (λh2=>?_) λh2=>?_
  ·have h2:ve≠0:=by simpa using h2
   have eY:=e6 h2;cases hD with
   |bad _=>rw[SD eY];exact WJ
   |ask h=>rw[eY]at h;cases h
   |done h=>rw[eY]at h;cases h
  have h2:ve=0:=by simpa using h2
  refine cR hg.ok (Tm.aa (bS B (t.l.take (k+1)))) rfl rfl rfl rfl rfl rfl rfl rfl rfl (by simp[Tm.row]) QZ (by rw[e4,<-oS]) QY QY (ag ?_);refine bf 5 (cC d B++[aO t,.arr 4 (k+1) (Tm.aa (bS B (t.l.take (k+1))))]) (by show φ.length<=5;omega) rfl ?_ ?_;show List.map _ (cC d B)++_=_
  rw[MB _ d B rfl rfl λ_=>rfl];rfl;exact bb (k+1) ⟨aI,by rw[e5,he,h2];rfl⟩ aq alg rfl
 ·have aI:t.l.length<=k:=bw h rfl;rw[Fm aI]at he hrk Oa ⊢;refine GU hg.cm 4 [(1,.lo 0 0),(2,iV f),(3,.lo 3 0),(10,.d (.sl (Tm.aa (bS B t.l)))),(53,.ff)] (cC d B++[aO t,.dead]) rfl rfl ⟨.refl _,.refl _,.refl _,bJ.frz 4 _ _,.refl _,trivial⟩ ?_ ?_;show dj (List.map _ (cC d B++[aO t,_])) 4 Ob.dead=_
  rw[eR,MB _ d B rfl rfl λ_=>rfl];rfl;refine ag ?_;have a8:(bS B t.l).length=t.l.length:=by unfold bS;rw[fQ]
  have PN:br Tryz.prog 96 [.d (.v (.string t.s)),.d (.sl (Tm.aa (bS B t.l))),iV f] (kV (gj B t f) f):=ajr t.s (bS B t.l) f ⟨by omega,by omega⟩ (by rw[a8];exact hb) (λx hx=>(PM hs hl he x hx).1) aq;rw[aao (B:=B) (t:=t) (f:=f) he];by_cases he0:(gj B t f).e≠0
  ·rw [show kV (gj B t f) f=.cP [akZ,iV (gj B t f).e]from if_pos he0]at PN;rw[if_pos he0];refine aA (PN) ?_;refine cQ hg.ok rfl rfl (by simp[he0]) rfl rfl ?_;cases hD with
   |bad h=>rw[he]at h;cases h
   |ask h=>exact aL hg 3 5 cZ rfl rfl (gu d B _)
   |done h h2=>exact absurd h2 he0
  rw[if_neg he0];by_cases hh0:(gj B t f).h=false
  ·rw [show kV (gj B t f) f=.cP [Sx (eJ f 0),iV 0] by unfold kV; rw [if_neg he0,if_pos hh0]]at PN;rw[if_pos hh0];refine aA (PN) ?_;refine gg ?_;refine cQ hg.ok rfl rfl (by simp[eJ]) rfl rfl ?_;cases hD with
   |bad h=>rw[he]at h;cases h
   |ask h=>exact aL hg 3 5 cZ rfl rfl (gu d B _)
   |done h h2 h3=>rw[hh0]at h3;cases h3
  rw[if_neg hh0];rw[show kV (gj B t f) f=.cP [Sx (gj B t f),iV 0] by unfold kV;rw[if_neg he0,if_neg hh0]]at PN;cases hD with
  |bad h=>rw[he]at h;cases h
  |ask h h2=>exact(h2.elim he0 hh0).elim
  |@done h h2 h3 ok X d1 hd hu VZ nB vJ hgt jn=>
  generalize gj B t f=a at PN hd hu vJ hgt jn h3 ⊢;refine aA (PN) ?_;refine gg ?_;refine eG hg.ok rfl rfl (by simp[h3]) rfl rfl ?_;refine aj hg.ok hg.cm hg.wide hg.Y [0,1,2] (cC d B++akE t a) (u1 Y d B) cN rfl rfl rfl rfl rfl jl rfl jl (ag ?_);refine aj hg.ok hg.cm hg.wide hg.Y [0,1,2] (cC d1 (B++X)++akE t a) (aam Y hS hs hgt aq hd) cN rfl rfl rfl rfl rfl jl rfl jl (ag ?_);have hBX:=nB.len;by_cases hap:a.ap=true;rw [if_pos hap];refine cQ hg.ok rfl rfl (by simp[hap]) rfl rfl ?_;refine aj hg.ok hg.cm hg.wide hg.Y [0,1,2] (cC (X.length+d1+1) B++akE t a) (vW Y d1 B X nB.ug.chain.nodup aq) cN rfl rfl rfl rfl rfl jl rfl jl (ag ?_);cases ok with
  |true=>rw[show uW a B f=.no by unfold uW;rw[if_pos hap,hu];rfl];exact aL hg 3 5 cZ rfl rfl (gu _ B _)
  |false=>rw[show uW a B f=.yes B f [] by unfold uW;rw[if_pos hap,hu];rfl];exact aL hg 3 5 cZ rfl rfl (gu _ B _)
  rw [if_neg hap];refine eG hg.ok rfl rfl (by simp[hap]) rfl rfl ?_;cases ok with
  |false=>
   refine mM ?_;rw[show uW a B f=.no by unfold uW;rw[if_neg hap,hu];rfl];have e:=VZ rfl;subst e;have ec:=gu d1 (B++[]);rw[yq]at ec;refine aL hg 3 5 cZ rfl rfl ?_;show((cC d1 (B++[])).map _)=_
   rw[yq];exact ec _
  |true=>
   refine gg ?_;rw[show uW a B f=.yes (B++X) a.nx.toNat a.tx by unfold uW;rw[if_neg hap,hu];rfl];have e:((a.nx.toNat:Nat):Int)=a.nx:=by omega
   refine aL hg 3 5 cZ rfl ?_ (gu _ (B++X) _);show _=AV.cP [bV true,.d (.v (.string (Tx a.tx))),iV (a.nx.toNat:Nat),iV 0]
   rw[e];rfl
end Go.Proofs.YtmjmngigbachdaaGreatDoor

namespace ax
open Go Tm
def uD:List Int:=(List.range 111000).map λ(n:Nat)=>(n:Int)
theorem tp:uD.length=111000:=by unfold uD;simp_all
theorem A4 {i:Int}(h0:0<=i)(h1:i<111000):i∈uD:=by unfold uD;exact gm.2 ⟨i.toNat,Ka.2 aq,by omega⟩
mutual
def ka (p:Gl->Prop):Gl->Prop| .mk k t a b c=>p (.mk k t a b c)/\cL p a/\cL p b/\cL p c
def cL (p:Gl->Prop):List Gl->Prop|[]=>True|g::r=>ka p g/\cL p r
end
theorem ik {p:Gl->Prop}{g:Gl}:ka p g↔p g/\cL p g.a/\cL p g.b/\cL p g.c:=by cases g;rw[ka];rfl
theorem ua {p:Gl->Prop}{l:List Gl}:cL p l↔∀g∈l,ka p g:=by
 induction l with
 |nil=>simp[cL]
 |cons g r ih=>rw[cL,ih];simp
mutual
def nbG:Gl->Nat| .mk k _ a b c=>(if k=2\/k=5 then 1 else 0)+uE a+uE b+uE c
def uE:List Gl->Nat|[]=>0|g::r=>nbG g+uE r
end
theorem PO (g:Gl):nbG g=(if g.k=2\/g.k=5 then 1 else 0)+uE g.a+uE g.b+uE g.c:=by cases g;rw[nbG];rfl
theorem SF:∀(l m:List Gl),uE (l++m)=uE l+uE m|[],m=>by rw[uE];simp|g::r,m=>by rw[jo,uE,uE,SF r m];omega
theorem GX:nbG aN=0:=by rw[aN,nbG];simp[uE]
theorem ad2:nbG dE=1:=by rw[dE,nbG];simp[uE]
structure GlF (V:Nat) (g:Gl):Prop where
 t:g.k=1\/g.k=2->GT g.t/\g.t.k=3
 o:g.k=1\/g.k=2->∀u∈cF g.t,0<=u/\u<V
 b:g.k=2->ku (ef g.t)=true
 len:g.a.length<=20/\g.b.length<=20/\g.c.length<=20
theorem GY (V:Nat):ka (GlF V) aN:=by rw[aN,ka];refine⟨⟨λh=>?_,λh=>?_,λh=>?_,by decide⟩,by simp[cL],by simp[cL],by simp[cL]⟩<;>simp[Gl.k]at h
theorem ad4 (V:Nat):ka (GlF V) dE:=by rw[dE,ka];refine⟨⟨λ_=>⟨⟨by kernel_rfl,?_⟩,rfl⟩,λ_ u hu=>?_,λ_=>by kernel_rfl,by decide⟩,by simp[cL],by simp[cL],by simp[cL]⟩;exact(DI (S:=[])).1;have:=(DI (S:=[]) (s:=Tx [102,97,105,108])).2 u hu;cases this
def nc (l:List Td):Nat:=gH (l.map (·.g))
def zV (l:List Td):Nat:=uE (l.map (·.g))
theorem oh (l:List Gl)(sh to:Nat)(r:List Td):nc (bR l sh to r)=gH l+nc r:=by unfold nc;rw[aah,DA]
theorem rk (l:List Gl)(sh to:Nat)(r:List Td):zV (bR l sh to r)=uE l+zV r:=by unfold zV;rw[aah,SF]
theorem ub (x:Td)(r:List Td):nc (x::r)=Dz x.g+nc r:=by simp[nc,gH]
theorem xP (x:Td)(r:List Td):zV (x::r)=nbG x.g+zV r:=by simp[zV,uE]
structure TdG (F T:Nat) (x:Td):Prop where
 g:∃V,x.sh+V<=F/\ka (GlF V) x.g
 to:x.to<=T
structure qs (F T:Nat) (l:List Td):Prop where
 all:∀x∈l,TdG F T x
 pw:l.Pairwise λx y=>y.to<=x.to
theorem qs.mono {F F' T T':Nat}(hF:F<=F')(hT:T<=T'){l:List Td}(h:qs F T l):qs F' T' l:=⟨λx hx=>by obtain⟨⟨V,h1,h2⟩,h3⟩:=h.all x hx;exact⟨⟨V,by omega,h2⟩,by omega⟩,h.pw⟩
theorem qs.put {F T V sh to:Nat}{l:List Gl}{r:List Td}(hl:cL (GlF V) l)(hs:sh+V<=F)(ht:to<=T)(hr:qs F T r)(hto:∀y∈r,y.to<=to):qs F T (bR l sh to r):=by
 refine⟨λx hx=>?_,?_⟩;unfold bR at hx;rcases cu.1 hx with hx|hx
 obtain ⟨g,hg,rfl⟩:=gm.1 hx;exact⟨⟨V,hs,ua.1 hl g hg⟩,ht⟩;exact hr.all x hx
 ·unfold bR;rw[mw];refine⟨?_,hr.pw,λx hx y hy=>?_⟩;rw [List.pairwise_map];clear hl;induction l with
  |nil=>exact .nil
  |cons g l ih=>exact k8.2 ⟨λ_ _=>eT _,ih⟩
  grind
theorem qs.cons {F T:Nat}{x:Td}{r:List Td}(hx:TdG F T x)(hr:qs F T r)(hto:∀y∈r,y.to<=x.to):qs F T (x::r):=⟨λy hy=>by
 rcases cE.1 hy with rfl|hy
 exact hx;exact hr.all y hy,k8.2 ⟨hto,hr.pw⟩⟩
theorem qs.nil (F T:Nat):qs F T []:=⟨by simp,.nil⟩
structure Nv (n ab done i:Nat) (t:Tr):Prop where
 uC:qs t.aB i t.uC
 p1:t.aB+8*zV t.uC+(if t.other then 0 else 1160)+(ab-done)*1160<=110000
 p2:i+nc t.uC+(if t.other then 0 else 90)+(ab-done)*90<=1000000
 pC:t.pC<=n
 call:t.other=false->GT t.call/\∀u∈cF t.call,0<=u/\u<t.aB
theorem Nv.done {n ab d d' i:Nat}{t:Tr}(h:Nv n ab d i t)(hd:d<=d'):Nv n ab d' i t:=by have e1:(ab-d')*1160<=(ab-d)*1160:=Fo _ aq;have e2:(ab-d')*90<=(ab-d)*90:=Fo _ aq;have h1:=h.p1;have h2:=h.p2;refine⟨h.uC,?_,?_,h.pC,h.call⟩;generalize (if t.other=true then 0 else 1160)=c at h1 ⊢;exact vd (Nat.add_le_add_left e1 _) h1;omega
structure qt (n ab done bl:Nat) (T:List Tr):Prop where
 tr:∀(i:Nat) (t:Tr),T[i]? = some t->Nv n ab done i t/\t.mark<=bl
 srt:∀(i j:Nat) (ti tj:Tr),i<=j->T[i]? = some ti->T[j]? = some tj->ti.mark<=tj.mark
theorem qt.done {n ab d d' bl:Nat}{T:List Tr}(h:qt n ab d bl T)(hd:d<=d'):qt n ab d' bl T:=⟨λi t hi=>⟨(h.tr i t hi).1.done hd,(h.tr i t hi).2⟩,h.srt⟩
theorem qt.bl {n ab d bl bl':Nat}{T:List Tr}(h:qt n ab d bl T)(hb:bl<=bl'):qt n ab d bl' T:=⟨λi t hi=>⟨(h.tr i t hi).1,vd (h.tr i t hi).2 hb⟩,h.srt⟩
theorem qt.take {n ab d bl:Nat}{T:List Tr}(h:qt n ab d bl T)(k:Nat):qt n ab d bl (T.take k):=by
 have key:∀(i:Nat) (t:Tr),(T.take k)[i]? = some t->T[i]? = some t:=λi t hi=>by grind
 exact⟨λi t hi=>h.tr i t (key i t hi),λi j ti tj Up hi hj=>h.srt i j ti tj Up (key i ti hi) (key j tj hj)⟩
theorem qt.push {n ab d bl:Nat}{T:List Tr}{t:Tr}(h:qt n ab d t.mark T)(ht:Nv n ab d T.length t)(hb:t.mark<=bl):qt n ab d bl (T++[t]):=by
 have key:∀(i:Nat) (u:Tr),(T++[t])[i]? = some u->T[i]? = some u\/(i=T.length/\u=t):=λi u hi=>by grind
 refine⟨λi u hi=>?_,λi j ti tj Up hi hj=>?_⟩;rcases key i u hi with hi| ⟨rfl,rfl⟩
 exact⟨(h.tr i u hi).1,vd (h.tr i u hi).2 hb⟩;simp_all;rcases key i ti hi with a1| ⟨a1,a2⟩
 rcases key j tj hj with b1| ⟨b1,b2⟩
 exact h.srt i j ti tj Up a1 b1;rw[b2];exact(h.tr i ti a1).2;grind
structure ajz (c:Cs):Prop where
 head:GT c.head
 ho:∀u∈cF c.head,0<=u/\u<c.vars.toNat
 v:c.vars.toNat<=1000
 v0:0<=c.vars
 body:cL (GlF c.vars.toNat) c.body
 Pq:c.body.length<=20
 bnb:uE c.body<=20
 bsz:gH c.body<=80
structure rW (P:List Cs):Prop where
 len:P.length<=200
 cls:∀c∈P,ajz c
structure MI (n ab:Nat) (m:Mo):Prop where
 s0:eF uD m.B
 p1:m.aB+8*zV m.now+(ab-m.done)*1160<=110000
 p2:m.ai.length+nc m.now+(ab-m.done)*90<=1000000
 now:qs m.aB m.ai.length m.now
 tr:qt n ab m.done m.B.length m.ai
theorem DJ {t:Tm}(h:GT t){V f F:Nat}(ho:∀u∈cF t,0<=u/\u<V)(hs:f+V<=F)(hF:F<=110000):GT (dw f t)/\∀u∈cF (dw f t),0<=u/\u<F:=by unfold dw;refine⟨h.bT λv hv=>by have:=ho v hv;omega,λu hu=>?_⟩;rw[sI _ t h.fair]at hu;obtain⟨v,hv,hu⟩:=xt _ _ hu;rw[vT,cF,if_pos rfl]at hu;grind
end ax

namespace ax
open Go Tm
variable{m:Mo}{t:Tr}{n:Nat}
section
variable {P:List Cs} {ab:Nat}
theorem DK{t:Tm}{F:Nat}(hF:F<=110000)(h:∀u∈cF t,0<=u/\u<F):∀u∈cF t,u∈uD:=λu hu=>by have:=h u hu;exact A4 this.1 aq
theorem Nv.fr{n ab done i:Nat}(h:Nv n ab done i t):t.aB<=110000:=by have:=h.p1;omega
theorem A5{B:an}{c:Cs}{i d:Nat}(hs:eF uD B)(ht:Nv P.length ab d i t)(ho:t.other=false)(hc:ajz c):GT (dw t.aB c.head)/\(∀u∈cF (dw t.aB c.head),u∈uD)/\GT t.call/\∀u∈cF t.call,u∈uD:=by have h1:=ht.p1;rw[ho]at h1;simp only[lq,if_false]at h1;have hv:=hc.v;have eI:=DJ hc.head hc.ho (eT (t.aB+c.vars.toNat)) aq;have hca:=ht.call ho;exact⟨eI.1,DK aq eI.2,hca.1,DK ht.fr hca.2⟩
theorem A6(hP:rW P){m:Mo}{t:Tr}(hs:eF uD m.B)(hm:t.mark=m.B.length)(hf:m.aB=t.aB)(ht:Nv P.length ab m.done m.ai.length t)(ho:t.other=false)(hT:qt P.length ab m.done m.B.length m.ai):∀(l:List Cs) (i:Nat),P.drop i=l->∀m',jw m t i l=some m'->MI P.length ab m'
 |[],_,_,m',h=>by simp[jw]at h
 |c::r,i,hi,m',h=>by
  have hmem:c∈P:=Q9 (i:=i) (by rw[hi];simp);have hc:=hP.cls c hmem;have hr:P.drop (i+1)=r:=by rw[<-List.drop_drop,hi];rfl
  have fE:i+1<=P.length:=by
   rcases qE i P.length with h|h
   exact h;rw[cX h]at hi;cases hi
  rw[jw]at h;split at h;cases hu:sV m.B t.call (dw m.aB c.head)with
  |none=>rw[hu]at h;exact A6 hP hs hm hf ht ho hT r _ hr _ h
  |some B'=>
   rw[hu]at h;cases h;obtain⟨g1,g2,g3,g4⟩:=A5 hs ht ho hc;rw[hf]at hu;obtain⟨fk,X,hX⟩:=Mx hs g3 g1 g4 g2 hu;have h1:=ht.p1;have h2:=ht.p2;rw[ho]at h1 h2;simp only[lq,if_false]at h1 h2;have b1:=hc.v;have b2:=hc.bnb;have b3:=hc.bsz;generalize e1:(ab-m.done)*1160=k1 at h1;generalize e2:(ab-m.done)*90=k2 at h2;refine⟨fk,?_,?_,?_,?_⟩;show m.aB+c.vars.toNat+8*zV (bR c.body m.aB m.ai.length t.uC)+(ab-m.done)*1160<=110000
   rw[rk,e1];omega;show(m.ai++[_]).length+nc (bR c.body m.aB m.ai.length t.uC)+(ab-m.done)*90<=1000000
   rw[oh,e2,List.length_append];grind;show qs (m.aB+c.vars.toNat) (m.ai++[_]).length (bR c.body m.aB m.ai.length t.uC)
   rw[List.length_append];exact .put hc.body cZ aq (ht.uC.mono aq aq) λy hy=>(ht.uC.all y hy).to
   refine qt.push (t:={t with pC:=i+1}) ?_ ⟨ht.uC,?_,?_,fE,ht.call⟩ ?_;show qt P.length ab m.done t.mark m.ai
   rw[hm];exact hT;exact ht.p1;exact ht.p2;simp_all
  exact A6 hP hs hm hf ht ho hT r _ hr _ h
structure BI (n ab:Nat) (m:Mo):Prop where
 s0:eF uD m.B
 tr:qt n ab m.done m.B.length m.ai
theorem MI.b{n ab:Nat}(h:MI n ab m):BI n ab m:=⟨h.s0,h.tr⟩
theorem aar{S:List Int}{B:an}(h:eF S B)(k:Nat):eF S (B.take k):=by
 have:eF S (B.take k++B.drop k):=by simp_all
 exact this.take
structure ajA (n ab:Nat) (m:Mo) (t:Tr):Prop where
 b:BI n ab {m with ai:=m.ai.dropLast,B:=m.B.take t.mark,aB:=t.aB}
 tg:Nv n ab m.done m.ai.dropLast.length t
 mrk:t.mark=(m.B.take t.mark).length
theorem BI.pop{n ab:Nat}(h:BI n ab m)(hl:m.ai.getLast? = some t):ajA n ab m t:=by
 have dR:m.ai≠[]:=λe=>by simp_all
 have aiy:0<m.ai.length:=List.length_pos_iff.2 dR;rw[List.getLast?_eq_getElem?]at hl;obtain⟨h1,h2⟩:=h.tr.tr _ t hl;have hk:t.mark=(m.B.take t.mark).length:=by simp_all
 refine⟨⟨aar h.s0 _,⟨λi u hi=>?_,λi j ti tj Up hi hj=>?_⟩⟩,by grind,hk⟩;have EG:m.ai[i]? = some u/\i<m.ai.length-1:=by grind
 refine⟨(h.tr.tr i u EG.1).1,?_⟩;show u.mark<=(m.B.take t.mark).length
 rw[<-hk];exact h.tr.srt i _ u t aq EG.1 hl;have key:∀(i:Nat) (u:Tr),m.ai.dropLast[i]? = some u->m.ai[i]? = some u:=λi u hi=>by grind
 exact h.tr.srt i j ti tj Up (key _ _ hi) (key _ _ hj)
theorem ajA.other{n ab:Nat}(h:ajA n ab m t)(ho:t.other=true):MI n ab {m with ai:=m.ai.dropLast,B:=m.B.take t.mark,aB:=t.aB,now:=t.uC}:=by have h1:=h.tg.p1;have h2:=h.tg.p2;rw[ho]at h1 h2;simp only[if_true,Fp]at h1 h2;exact⟨h.b.s0,h1,h2,h.tg.uC,h.b.tr⟩
theorem MC(hP:rW P):∀(k:Nat) (m:Mo),BI P.length ab m->(jA P k m).2=true->MI P.length ab (jA P k m).1
 |0,m,_,h=>by rw[jA]at h;cases h
 |k+1,m,hb,h=>by
  rw[jA]at h ⊢;cases hl:m.ai.getLast? with
  |none=>simp_all
  |some t=>
   rw[hl]at h;have hp:=hb.pop hl;simp only at h ⊢;split;rename_i ho;exact hp.other ho;rename_i ho;have ho:t.other=false:=by simpa using ho
   cases hc:jw {m with ai:=m.ai.dropLast,B:=m.B.take t.mark,aB:=t.aB} t t.pC (P.drop t.pC)with
   |some m'=>exact A6 hP hp.b.s0 hp.mrk rfl hp.tg ho hp.b.tr _ _ rfl _ hc
   |none=>rw[if_neg (by rw[ho];simp),hc]at h;exact MC hP k _ hp.b h
theorem qu(hP:rW P)(hb:BI P.length ab m)(h:(ew P m).2=true):MI P.length ab (ew P m).1:=MC hP _ m hb h
theorem IY{t:Tm}(h:GT t)(hk:t.k=3){F:Nat}(ho:∀u∈cF t,0<=u/\u<F){x:Tm}(hx:x∈t.l):GT x/\∀u∈cF x,0<=u/\u<F:=⟨h.kid hx,λu hu=>ho u (by rw[q9,if_neg aq];exact xG hx hu)⟩
theorem aas(hP:rW P){t:Tm}(hb:BI P.length ab m)(h1:m.aB+8+8*zV m.now+(ab-m.done)*1160<=110000)(h2:m.ai.length+nc m.now+(ab-m.done)*90<=1000000)(hn:qs m.aB m.ai.length m.now)(gt:GT t)(hk:t.k=3)(ho:∀u∈cF t,0<=u/\u<m.aB)(h:(oU P m t).2=true):MI P.length ab (oU P m t).1:=by
 unfold oU at h ⊢;by_cases he:(t.l.any λx=>(eL m.B x).2≠0)=true;simp_all;rw[if_neg he]at h ⊢
 have hA:rK uD m.aB (eg t.s (t.l.map λx=>(eL m.B x).1) m.aB):=by
  have hv:∀y∈t.l.map λx=>(eL m.B x).1,GT y/\∀u∈cF y,u∈uD:=λy hy=>by obtain⟨x,hx,rfl⟩:=gm.1 hy;obtain⟨k1,k2⟩:=IY gt hk ho hx;refine Sz hb.s0 k1 (DK aq k2) ?_;simp_all
  have hl8:∀y∈t.l.map (λx=>(eL m.B x).1),y.l.length<=8:=λy hy=>by have h1:=(hv y hy).1.fair;rw[Tm.kO]at h1;simp only[aV]at h1;have h2:=h1.2;unfold Tm.l8 at h2;grind
  exact SC (λy hy=>⟨(hv y hy).1.f,(hv y hy).2⟩) aq aq (λi h3 h4=>A4 aq aq) hl8
 simp only at h ⊢;generalize eg t.s (t.l.map λx=>(eL m.B x).1) m.aB=a at hA h ⊢;by_cases h3:a.e≠0;simp_all;rw[if_neg h3]at h ⊢;by_cases h4:a.h=false;rw[if_pos h4]at h ⊢;exact qu hP hb h;rw[if_neg h4]at h ⊢;have stay:MI P.length ab m:=⟨hb.s0,by omega,h2,hn,hb.tr⟩;by_cases h5:a.ap=true;rw [if_pos h5]at h ⊢;cases hu:fY m.B a.al with
 |some B'=>rw[hu]at h;exact qu hP hb h
 |none=>exact stay
 rw[if_neg h5]at h ⊢;cases hu:fY m.B a.al with
 |none=>rw[hu]at h;exact qu hP hb h
 |some B'=>
  have fk:=y1 hb.s0 hA.al hu;obtain⟨X,hX⟩:=ri hu;have lo:=hA.lo;have hi:=hA.hi;refine⟨fk,?_,h2,hn.mono (by show m.aB<=a.nx.toNat;omega) cZ,hb.tr.bl ?_⟩;show a.nx.toNat+8*zV m.now+(ab-m.done)*1160<=110000
  omega;simp_all
theorem aat(hP:rW P){head:Tm}(hm:MI P.length ab m)(h:(fq P head ab m).2=true):MI P.length ab (fq P head ab m).1:=by
 unfold fq at h ⊢;cases Ap:m.now with
 |nil=>
  rw[Ap]at h;show MI P.length ab (jx P head m).1
  have h:(jx P head m).2=true:=h;unfold jx at h ⊢;by_cases he:(head.l.any λx=>decide ((eL m.B x).2≠0))=true;simp_all;rw [if_neg he]at h ⊢;exact qu hP (m:={m with aF:=_}) ⟨hm.s0,hm.tr⟩ h
 |cons x r=>
  rw[Ap]at h;simp only at h ⊢;have p1:=hm.p1;have p2:=hm.p2;have hn:=hm.now;rw[Ap]at p1 p2 hn;rw[xP,PO]at p1;rw[ub,j4]at p2;obtain⟨⟨V,hV,hg⟩,hto⟩:=hn.all x aD;have hpw:=k8.1 hn.pw;have hr:qs m.aB m.ai.length r:=⟨λy hy=>hn.all y iS,hpw.2⟩;have hgl:=ik.1 hg;have hF:=hgl.1;generalize e1:(ab-m.done)*1160=k1 at p1;generalize e2:(ab-m.done)*90=k2 at p2;by_cases c1:x.g.k=0\/x.g.k=3;rw [if_pos c1];refine⟨hm.s0,?_,?_,?_,hm.tr.take _⟩;show m.aB+8*zV r+(ab-m.done)*1160<=110000
  rw[e1];omega;show(m.ai.take x.to).length+nc r+(ab-m.done)*90<=1000000
  rw[e2,zi];omega;refine ⟨λy hy=>⟨(hr.all y hy).g,?_⟩,hr.pw⟩;show y.to<=(m.ai.take x.to).length
  rw[zi];have:=hpw.1 y hy;have:=(hr.all y hy).to;omega;rw[if_neg c1]at h ⊢;have k0:x.g.k≠0:=λe=>c1 (.inl e)
  by_cases c2:x.g.k=2;rw [if_pos c2]at h ⊢;obtain⟨gt,hk⟩:=hF.t (.inr c2);obtain⟨g1,g2⟩:=DJ gt (hF.o (.inr c2)) hV aq;rw[if_pos (.inl c2)]at p1;refine aas hP (m:={m with now:=r}) ⟨hm.s0,hm.tr⟩ ?_ ?_ hr g1 ?_ g2 h;show m.aB+8+8*zV r+(ab-m.done)*1160<=110000
  rw[e1];omega;show m.ai.length+nc r+(ab-m.done)*90<=1000000
  rw[e2];omega;unfold dw;rw[qp];exact hk;rw[if_neg c2]at h ⊢;by_cases c4:x.g.k=4;rw [if_pos c4];have hz:¬ (x.g.k=0\/x.g.k=2):=by omega
  rw[if_neg hz]at p2;have hlb:=hto;have Sf:qs m.aB (m.ai.length+1) (bR x.g.b x.sh x.to r):=.put hgl.2.2.1 hV aq (hr.mono cZ aq) hpw.1
  have aoa:∀y∈bR x.g.b x.sh x.to r,y.to<=m.ai.length:=λy hy=>by
   unfold bR at hy;rcases cu.1 hy with hy|hy
   obtain⟨g,_,rfl⟩:=gm.1 hy;exact hto;exact(hr.all y hy).to
  refine⟨hm.s0,?_,?_,?_,?_⟩;show m.aB+8*zV (bR x.g.a x.sh m.ai.length (⟨aN,0,m.ai.length⟩::bR x.g.b x.sh x.to r))+(ab-m.done)*1160<=110000
  rw[rk,xP,rk,GX,e1];omega;show(m.ai++[_]).length+nc (bR x.g.a x.sh m.ai.length (⟨aN,0,m.ai.length⟩::bR x.g.b x.sh x.to r))+(ab-m.done)*90<=1000000
  rw[oh,ub,oh,gF,e2,List.length_append];simp only[Bp];omega;show qs m.aB (m.ai++[_]).length (bR x.g.a x.sh m.ai.length (⟨aN,0,m.ai.length⟩::bR x.g.b x.sh x.to r))
  rw[List.length_append];refine .put hgl.2.1 hV aq (.cons ⟨⟨0,by simp,GY 0⟩,by simp⟩ Sf aoa) λy hy=>?_
  rcases cE.1 hy with rfl|hy
  exact eT _;exact aoa y hy;refine qt.push (t:=⟨m.B.length,m.aB,aJ,0,bR x.g.c x.sh x.to r,true⟩) hm.tr ⟨.put hgl.2.2.2 hV hto hr hpw.1,?_,?_,bU _,λh=>by cases h⟩ cZ;show m.aB+8*zV (bR x.g.c x.sh x.to r)+0+(ab-m.done)*1160<=110000
  rw[rk,e1];omega;show m.ai.length+nc (bR x.g.c x.sh x.to r)+0+(ab-m.done)*90<=1000000
  rw[oh,e2];omega;rw[if_neg c4]at h ⊢;by_cases c5:x.g.k=5;rw [if_pos c5];have hz:¬ (x.g.k=0\/x.g.k=2):=by omega
  rw[if_neg hz]at p2;rw[if_pos (.inr c5)]at p1;have hf:qs m.aB (m.ai.length+1) (bR [dE] 0 0 []):=.put (by rw[cL];exact⟨ad4 0,by rw[cL];trivial⟩) aq aq (.nil _ _) aD;have hnf:uE [dE]=1:=by rw[uE,ad2];simp[uE]
  have hgf:gH [dE]=1:=by rw[gH,wz];simp[gH]
  have qI:zV []=0:=by simp[zV,uE]
  have hg0:nc []=0:=by simp[nc,gH]
  have aob:∀y∈bR [dE] 0 0 [],y.to<=m.ai.length:=λy hy=>by unfold bR at hy;simp only[bM,fm,yq,eu]at hy;rw[hy];exact bU _
  refine⟨hm.s0,?_,?_,?_,?_⟩;show m.aB+8*zV (bR x.g.a x.sh m.ai.length (⟨aN,0,m.ai.length⟩::bR [dE] 0 0 []))+(ab-m.done)*1160<=110000
  rw[rk,xP,rk,GX,hnf,qI,e1];omega;show(m.ai++[_]).length+nc (bR x.g.a x.sh m.ai.length (⟨aN,0,m.ai.length⟩::bR [dE] 0 0 []))+(ab-m.done)*90<=1000000
  rw[oh,ub,oh,gF,hgf,hg0,e2,List.length_append];simp only[Bp];omega;show qs m.aB (m.ai++[_]).length (bR x.g.a x.sh m.ai.length (⟨aN,0,m.ai.length⟩::bR [dE] 0 0 []))
  rw[List.length_append];refine .put hgl.2.1 hV aq (.cons ⟨⟨0,by simp,GY 0⟩,by simp⟩ hf aob) λy hy=>?_
  rcases cE.1 hy with rfl|hy
  exact eT _;exact aob y hy;refine qt.push (t:=⟨m.B.length,m.aB,aJ,0,r,true⟩) hm.tr ⟨hr,?_,?_,bU _,λh=>by cases h⟩ cZ;show m.aB+8*zV r+0+(ab-m.done)*1160<=110000
  rw[e1];omega;show m.ai.length+nc r+0+(ab-m.done)*90<=1000000
  rw[e2];omega;rw[if_neg c5]at h ⊢;by_cases c6:x.g.k=1
  ·rw [if_pos c6]at h ⊢;by_cases c7:ab<=m.done;rw[if_pos c7]at h;cases h;rw[if_neg c7]at h ⊢;obtain⟨gt,hk⟩:=hF.t (.inl c6);obtain⟨g1,g2⟩:=DJ gt (hF.o (.inl c6)) hV aq
   have e3:(ab-m.done)*1160=(ab-(m.done+1))*1160+1160:=by
    have:ab-m.done=(ab-(m.done+1))+1:=by omega
    rw[this,Nat.add_mul]
   have e4:(ab-m.done)*90=(ab-(m.done+1))*90+90:=by
    have:ab-m.done=(ab-(m.done+1))+1:=by omega
    rw[this,Nat.add_mul]
   have ht:Nv P.length ab (m.done+1) m.ai.length ⟨m.B.length,m.aB,dw x.sh x.g.t,0,r,false⟩:=by
    refine⟨hr,?_,?_,bU _,λ_=>⟨g1,g2⟩⟩;show m.aB+8*zV r+1160+(ab-(m.done+1))*1160<=110000
    omega;show m.ai.length+nc r+90+(ab-(m.done+1))*90<=1000000
    omega
   have hT:qt P.length ab (m.done+1) m.B.length m.ai:=hm.tr.done aq;cases hc:jw {m with now:=r,done:=m.done+1} ⟨m.B.length,m.aB,dw x.sh x.g.t,0,r,false⟩ 0 P with
   |some m'=>exact A6 hP (m:={m with now:=r,done:=m.done+1}) hm.s0 rfl rfl ht rfl hT P 0 rfl m' hc
   |none=>rw[hc]at h;exact qu hP (m:={m with now:=r,done:=m.done+1}) ⟨hm.s0,hT⟩ h
  rw[if_neg c6];refine⟨hm.s0,?_,?_,hr,hm.tr⟩;show m.aB+8*zV r+(ab-m.done)*1160<=110000
  rw[e1];omega;grind
end
end ax

namespace Go.Proofs.YtmjmngigbachdaaGreatDoor
open Go ax Go.Proofs
def mcS (d:Nat)(B:an):List Ob:=[.box [.mp 2,.ow 3 (B.length+d)],.map (ct (uJ B)),.arr 1 (B.length+d) (cD (B.map (·.1)))]
def mcB (P:List Cs)(hd:Tm)(ab:Nat)(m:Mo)(v:Nat):Ob:=.box [.d (.sl (Cs.aa P)),.lo 1 0,.d (.v (.int .i64 hd.k)),.d (.v (.string hd.s)),.d (.v (.int .i64 hd.n)),.d (.sl (Tm.aa hd.l)),iV m.aB,.ow 4 v,.d (gE m.now),iV ab,iV m.done,.ow 5 m.aF.length]
def s4 (P:List Cs)(hd:Tm)(fr:Int)(v:Nat)(z:D)(ab:Nat)(dn:Int)(sl:Nat)(d:Nat)(B:an)(T:List Tr)(S:List Ev):List Ob:=.box [.d (.sl (Cs.aa P)),.lo 1 0,.d (.v (.int .i64 hd.k)),.d (.v (.string hd.s)),.d (.v (.int .i64 hd.n)),.d (.sl (Tm.aa hd.l)),iV fr,.ow 4 v,.d z,iV ab,iV dn,.ow 5 sl]::(mcS d B++[.arr 9 v (T.map Tr.row),.arr 4 sl (S.map Ev.row)])
def JI (P:List Cs)(hd:Tm)(ab:Nat)(m:Mo)(d v:Nat):List Ob:=mcB P hd ab m v::(mcS d m.B++[.arr 9 v (m.ai.map Tr.row),.arr 4 m.aF.length (m.aF.map Ev.row)])
def aY (g:Gl)(sh to:Int)(z:D):List D:=[.v (.int .i64 g.k),.v (.int .i64 g.t.k),.v (.string g.t.s),.v (.int .i64 g.t.n),.sl (Tm.aa g.t.l),.sl (Gl.aa g.a),.sl (Gl.aa g.b),.sl (Gl.aa g.c),.v (.int .i64 sh),.v (.int .i64 to),z]
theorem il (l:List Td):(∃g sh to z,gE l=.bL (aY g sh to z))\/gE l=.v (.pointer none):=by
 cases l with
 |nil=>exact .inr rfl
 |cons x r=>exact .inl ⟨x.g,x.sh,x.to,gE r,by rw[gE];cases x;rename_i g _ _;cases g;rfl⟩
theorem lH (l:List Gl)(sh to:Nat)(r:List Td)(hl:l.length<=1000000):br Tryz.prog 19 [.d (.sl (Gl.aa l)),iV sh,iV to,.d (gE r)] (.d (gE (bR l sh to r))):=by
 have mF:=Gl.ao l;refine v8 Tryz.func19 λw S hg=>?_
 refine a7 (λk:Nat=>([(0,.d (.sl (Gl.aa l))),(1,iV sh),(2,iV to),(3,.d (gE (bR (l.drop (l.length-k)) sh to r))),(9,iV ((l.length:Int)-1-k))],[])) (λk=>k<=l.length) (λk=>l.length-k) 0 fO ⟨.refl _,.refl _,.refl _,?_,?_,trivial⟩ rfl ?_;rw[TE,List.drop_length];exact .refl _;rw[mF];exact bJ.wrap aq aq aq;rintro k hk;show R _ _ _ _ [(0,.d (.sl (Gl.aa l))),(1,iV sh),(2,iV to),(3,.d (gE (bR (l.drop (l.length-k)) sh to r))),(9,iV ((l.length:Int)-1-k))] []
 rcases il (bR (l.drop (l.length-k)) sh to r)with ⟨g1,s1,o1,z1,hz⟩|hz
 rw [hz];refine ag ?_;refine af (λh=>?_) λh=>?_
 have h:(0:Int)<=(l.length:Int)-1-k:=by simpa using h
 have aI:k<l.length:=by omega
 have hi:((l.length:Int)-1-k).toNat=l.length-(k+1):=by omega
 have e1:l[l.length-(k+1)]? = some (l[l.length-(k+1)]' aq):=dG aq;have hd:l.drop (l.length-(k+1))=l[l.length-(k+1)]' aq::l.drop (l.length-k):=by rw[List.drop_eq_getElem_cons aq];congr 2;omega
 generalize l[l.length-(k+1)]' aq=x at e1 hd;refine dX hg.ok rfl rfl rfl rfl rfl rfl h (by rw[hi];exact Gl.ay e1) rfl ?_;refine wo ?_;refine tq hg.cm 0 (Gl.row x++[.v (.int .i64 sh),.v (.int .i64 to),.bL (aY g1 s1 o1 z1)]) fO rfl rfl (ag ?_);refine ze ?_;refine bb (k+1) aI aq ⟨.refl _,.refl _,.refl _,?_,bJ.wrap aq aq Tz,trivial⟩ rfl;rw[hd];show bJ _ (.d (.bL (Gl.row x++[.v (.int .i64 sh),.v (.int .i64 to),gE (bR (l.drop (l.length-k)) sh to r)])))
 rw[hz];exact .refl _;have h:¬ (0:Int)<=(l.length:Int)-1-k:=by simpa using h
 have h0:l.length-k=0:=by omega
 rw[h0,Xd]at hz;rw[hz];refine bz ?_;rfl;rw [hz];refine ag ?_;refine af (λh=>?_) λh=>?_
 have h:(0:Int)<=(l.length:Int)-1-k:=by simpa using h
 have aI:k<l.length:=by omega
 have hi:((l.length:Int)-1-k).toNat=l.length-(k+1):=by omega
 have e1:l[l.length-(k+1)]? = some (l[l.length-(k+1)]' aq):=dG aq;have hd:l.drop (l.length-(k+1))=l[l.length-(k+1)]' aq::l.drop (l.length-k):=by rw[List.drop_eq_getElem_cons aq];congr 2;omega
 generalize l[l.length-(k+1)]' aq=x at e1 hd;refine dX hg.ok rfl rfl rfl rfl rfl rfl h (by rw[hi];exact Gl.ay e1) rfl ?_;refine wo ?_;refine tq hg.cm 0 (Gl.row x++[.v (.int .i64 sh),.v (.int .i64 to),.v (.pointer none)]) fO rfl rfl (ag ?_);refine ze ?_;refine bb (k+1) aI aq ⟨.refl _,.refl _,.refl _,?_,bJ.wrap aq aq Tz,trivial⟩ rfl;rw[hd];show bJ _ (.d (.bL (Gl.row x++[.v (.int .i64 sh),.v (.int .i64 to),gE (bR (l.drop (l.length-k)) sh to r)])))
 rw[hz];exact .refl _;have h:¬ (0:Int)<=(l.length:Int)-1-k:=by simpa using h
 have h0:l.length-k=0:=by omega
 rw[h0,Xd]at hz;rw[hz];refine bz ?_;rfl
theorem MD (P:List Cs)(hd:Tm)(ab:Nat)(m:Mo)(d v:Nat)(o:List Ob):(JI P hd ab m d v).map (aR (bZ false 6 o 5))=JI P hd ab m d v:=by simp only[JI,mcS,bM,eR,fm];rw[dS (λt=>rfl)];unfold mcB;rcases il m.now with ⟨g1,s1,o1,z1,hz⟩|hz<;>rw[hz]<;>rfl
theorem ME (f:AV->AV)(P:List Cs)(hd:Tm)(fr:Int)(v:Nat)(z:D)(hz:(∃g sh to z',z=.bL (aY g sh to z'))\/z=.v (.pointer none))(ab:Nat)(dn:Int)(sl:Nat)(d:Nat)(B:an)(T:List Tr)(S:List Ev)(h1:∀z:D,((∃g sh to z',z=.bL (aY g sh to z'))\/z=.v (.pointer none))->f (.d z)=.d z)(h2:∀k n:Int,∀r:List (List D),f (.d (.v (.int .i64 n)))=.d (.v (.int .i64 n))/\f (.d (.sl r))=.d (.sl r))(h3:∀s:ByteArray,f (.d (.v (.string s)))=.d (.v (.string s)))(h4:f (.lo 1 0)=.lo 1 0/\f (.mp 2)=.mp 2/\∀s,f (.ow 3 s)=.ow 3 s/\f (.ow 4 s)=.ow 4 s/\f (.ow 5 s)=.ow 5 s)(h5:∀t:Tm,f t.av=t.av):(s4 P hd fr v z ab dn sl d B T S).map (aR f)=s4 P hd fr v z ab dn sl d B T S:=by
 simp only[s4,mcS,bM,eR,fm];rw[dS h5];have hi:=λn:Int=>(h2 0 n []).1
 have hs:=λr:List (List D)=>(h2 0 0 r).2
 simp only[aR,bM,fm,h1 _ hz,hi,hs,h3,h4.1,h4.2.1,(h4.2.2 _).1,(h4.2.2 _).2.1,(h4.2.2 _).2.2,iV]
theorem uc (f:AV->AV)(P:List Cs)(hd:Tm)(fr:Int)(v:Nat)(l:List Td)(ab:Nat)(dn:Int)(sl:Nat)(d:Nat)(B:an)(T:List Tr)(S:List Ev)(h1:∀z:D,((∃g sh to z',z=.bL (aY g sh to z'))\/z=.v (.pointer none))->f (.d z)=.d z)(h2:∀k n:Int,∀r:List (List D),f (.d (.v (.int .i64 n)))=.d (.v (.int .i64 n))/\f (.d (.sl r))=.d (.sl r))(h3:∀s:ByteArray,f (.d (.v (.string s)))=.d (.v (.string s)))(h4:f (.lo 1 0)=.lo 1 0/\f (.mp 2)=.mp 2/\∀s,f (.ow 3 s)=.ow 3 s/\f (.ow 4 s)=.ow 4 s/\f (.ow 5 s)=.ow 5 s)(h5:∀t:Tm,f t.av=t.av):(s4 P hd fr v (gE l) ab dn sl d B T S).map (aR f)=s4 P hd fr v (gE l) ab dn sl d B T S :=ME f P hd fr v _ (il l) ab dn sl d B T S h1 h2 h3 h4 h5
theorem iB (P:List Cs)(hd:Tm)(fr:Int)(v:Nat)(z:D)(hz:(∃g sh to z',z=.bL (aY g sh to z'))\/z=.v (.pointer none))(ab:Nat)(dn:Int)(sl:Nat)(d:Nat)(B:an)(T:List Tr)(S:List Ev)(o:List Ob):(s4 P hd fr v z ab dn sl d B T S).map (aR (bZ false 6 o 5))=s4 P hd fr v z ab dn sl d B T S :=ME _ P hd fr v z hz ab dn sl d B T S (λz h=>by rcases h with ⟨_,_,_,_,rfl⟩|rfl<;>rfl) (λ_ _ _=>⟨rfl,rfl⟩) cN ⟨rfl,rfl,λ_=>⟨rfl,rfl,rfl⟩⟩ λ_=>rfl
theorem wu (P:List Cs)(hd:Tm)(fr:Int)(v:Nat)(l:List Td)(ab:Nat)(dn:Int)(sl:Nat)(d:Nat)(B:an)(T:List Tr)(S:List Ev)(o:List Ob):(s4 P hd fr v (gE l) ab dn sl d B T S).map (aR (bZ false 6 o 5))=s4 P hd fr v (gE l) ab dn sl d B T S :=uc _ P hd fr v l ab dn sl d B T S (λz h=>by rcases h with ⟨_,_,_,_,rfl⟩|rfl<;>rfl) (λ_ _ _=>⟨rfl,rfl⟩) cN ⟨rfl,rfl,λ_=>⟨rfl,rfl,rfl⟩⟩ λ_=>rfl
theorem aau (P:List Cs)(hd:Tm)(fr:Int)(v:Nat)(l:List Td)(ab:Nat)(dn:Int)(sl:Nat)(d:Nat)(B:an)(T:List Tr)(S:List Ev):(s4 P hd fr v (gE l) ab dn sl d B T S).map (aR (dD 6))=s4 P hd fr v (gE l) ab dn sl d B T S :=uc _ P hd fr v l ab dn sl d B T S (λz h=>by rcases h with ⟨_,_,_,_,rfl⟩|rfl<;>rfl) (λ_ _ _=>⟨rfl,rfl⟩) cN ⟨rfl,rfl,λ_=>⟨rfl,rfl,rfl⟩⟩ λ_=>rfl
theorem aav (a:Addr)(x:Int)(w:World)(h:w.cell? a=some (.int .i64 x)):(callFunc 74 #[.pointer (some a)]).run Tryz.prog w=.ok (.value (.int .i64 x)) w :=run_call_load Tryz.func74 da da da .i64 da h
theorem Nz (Y:YP)(P:List Cs)(hd:Tm)(ab:Nat)(m:Mo)(d v:Nat):aU Tryz.prog Y 45 [.lo 0 10] (JI P hd ab m d v) (iV m.done) (JI P hd ab m d v):=by
 refine u0 Tryz.func45 λw S φ hg=>?_
 refine kD hg.ok Tryz.underlying66 rfl da rfl rfl rfl (ag ?_);refine YE hg.ok aav rfl rfl rfl rfl rfl rfl (ag ?_);exact aL hg 6 5 cZ rfl rfl (MD P hd ab m d v _)
theorem ad5 (a:Addr)(n:Nat)(hn:n<1000000000)(w:World)(h:w.cell? a=some (.int .i64 n))(hz:w.frozen? a=false):(callFunc 75 #[.pointer (some a),.int .i64 1]).run Tryz.prog w=.ok (.value (.int .i64 (n+1:Nat))) (w.setCell a (.int .i64 (n+1:Nat))) :=run_call_add Tryz.func75 da da da .i64 da h hz (by have e:IntKind.i64.wrap ((n:Int)+1)=((n+1:Nat):Int):=(jZ aq aq).trans (by push_cast;rfl);simp[go_sem,e])
theorem E8 (Y:YP)(P:List Cs)(hd:Tm)(ab:Nat)(m:Mo)(hm:m.done<1000000000)(d v:Nat):aU Tryz.prog Y 47 [.lo 0 10,iV 1] (JI P hd ab m d v) (iV (m.done+1:Nat)) (JI P hd ab {m with done:=m.done+1} d v):=by
 refine u0 Tryz.func47 λw S φ hg=>?_
 refine kD hg.ok Tryz.underlying66 rfl da rfl rfl rfl (ag ?_);refine HU hg.ok (ys:=#[.tmp 8]) [.int .i64 1] (λa w h hz=>ad5 a m.done hm w h hz) rfl rfl rfl rfl rfl rfl rfl (ag ?_);exact aL hg 6 5 cZ rfl rfl (MD P hd ab {m with done:=m.done+1} d v _)
def evA (e:Ev):AV:=.agg [.d (.v (.int .i64 e.k)),.d (.v (.string e.tx)),.d (.sl (Tm.aa e.ts)),.d (.v (.int .i64 e.c))]
theorem ad6 (l:List Ev)(e:Ev):l.map Ev.row++[[.v (.int .i64 e.k),.v (.string e.tx),.sl (Tm.aa e.ts),.v (.int .i64 e.c)]]=(l++[e]).map Ev.row:=by simp[Ev.row]
theorem SG (P:List Cs)(hd:Tm)(ab:Nat)(m:Mo)(d v:Nat)(e:Ev):JI P hd ab {m with aF:=m.aF++[e]} d v=s4 P hd m.aB v (gE m.now) ab m.done (Nat.succ m.aF.length) d m.B m.ai (m.aF++[e]):=by simp only[JI,mcB,s4,List.length_append,Bp]
theorem aaw (Y:YP)(P:List Cs)(hd:Tm)(ab:Nat)(m:Mo)(hm:m.aF.length<1000000000000)(d v:Nat)(e:Ev):aU Tryz.prog Y 46 [.lo 0 0,evA e] (JI P hd ab m d v) (bV (e.k==1||e.k==2)) (JI P hd ab {m with aF:=m.aF++[e]} d v):=by
 refine Qo Tryz.func46 λw S φ hg=>?_
 have hφ:φ.length=6:=hg.kh.len;refine ag ?_;refine cR hg.ok ((m.aF++[e]).map Ev.row) rfl rfl rfl rfl rfl rfl rfl rfl rfl aD NK (ad6 _ _) (by rw[fQ];simp;omega) (by rw[fQ];simp;omega) (ag ?_);refine af (λh1=>?_) λh1=>?_
 have h1:e.k=1:=by simpa using h1
 refine aL hg 6 5 cZ rfl ?_ ((wu P hd m.aB v m.now ab m.done (Nat.succ m.aF.length) d m.B m.ai (m.aF++[e]) _).trans (SG P hd ab m d v e).symm);rw[h1];rfl;refine aL hg 6 5 cZ rfl ?_ ((wu P hd m.aB v m.now ab m.done (Nat.succ m.aF.length) d m.B m.ai (m.aF++[e]) _).trans (SG P hd ab m d v e).symm);rw[h1];rfl
end Go.Proofs.YtmjmngigbachdaaGreatDoor

namespace ax
open Go Tm
theorem mm {t:Tm}(h:GT t){f V:Nat}(ho:∀u∈cF t,0<=u/\u<V)(hs:f+V<=110000):qW t f=(dw f t,0):=by
 have Ek:cv [t]=true:=fz.2 λx hx=>by rw[eu.1 hx];exact h.fair
 have hw:∀v∈cF t,IntKind.i64.wrap (v+(f:Int))=v+f:=λv hv=>by have:=ho v hv;exact jZ aq aq
 have dA:okF (bP [t]) f=true:=by
  unfold okF;rw[oy];left;simp only[aV,decide_eq_true_eq];refine⟨⟨by omega,by omega⟩,fB.2 λv hv=>?_⟩;have hv:=(kj Ek).1 hv;have hv:v∈cF t:=by simpa[ep]using hv
  unfold Ou;rw[hw v hv];have:=ho v hv;simp;omega
 rw[(Ov h.r dA).1];unfold dw;rw[sI _ t h.fair,sI _ t h.fair];congr 1;exact nS t λv hv=>by rw[hw v hv]
inductive xQ (B:an) (fr:Nat) (t:Tm):Nat->Nat->List Cs->Option (Nat×Cs×an)->Nat->Prop
 |nil {i d:Nat}:xQ B fr t i d [] none d
 |skip {i d:Nat} {c:Cs} {l:List Cs} {res:Option (Nat×Cs×an)} {d':Nat} (h:¬ (c.head.s=t.s/\c.head.l.length=t.l.length)) (r:xQ B fr t (i+1) d l res d'):xQ B fr t i d (c::l) res d'
 |fail {i d n:Nat} {X:an} {c:Cs} {l:List Cs} {res:Option (Nat×Cs×an)} {d':Nat} (h:c.head.s=t.s/\c.head.l.length=t.l.length) (hu:eP uD 3000 t n [(t,dw fr c.head)] B [] (B++X) false) (hs:eF uD (B++X)) (r:xQ B fr t (i+1) (X.length+d+1) l res d'):xQ B fr t i d (c::l) res d'
 |hit {i d n:Nat} {X:an} {c:Cs} {l:List Cs} (h:c.head.s=t.s/\c.head.l.length=t.l.length) (hu:eP uD 3000 t n [(t,dw fr c.head)] B [] (B++X) true) (hs:eF uD (B++X)):xQ B fr t i d (c::l) (some (i,c,B++X)) d
def NG (m:Mo)(t:Tr)(i:Nat)(c:Cs)(B':an):Mo:={m with B:=B',ai:=m.ai++[{t with pC:=i+1}],now:=bR c.body m.aB m.ai.length t.uC,aB:=m.aB+c.vars.toNat}
def aod (m:Mo)(t:Tr)(res:Option (Nat×Cs×an)):Option Mo:=res.map λr=>NG m t r.1 r.2.1 r.2.2
theorem A7 {P:List Cs}{ab done:Nat}(hP:rW P){m:Mo}{t:Tr}(hs:eF uD m.B)(hf:m.aB=t.aB){k:Nat}(ht:Nv P.length ab done k t)(ho:t.other=false):∀(l:List Cs) (i d:Nat),P.drop i=l->∃res d',xQ m.B m.aB t.call i d l res d'/\jw m t i l=aod m t res
 |[],i,d,_=>⟨none,d,.nil,by rw[jw];rfl⟩
 |c::r,i,d,hi=>by
  have hmem:c∈P:=Q9 (i:=i) (by rw[hi];simp);have hc:=hP.cls c hmem;have hr:P.drop (i+1)=r:=by rw[<-List.drop_drop,hi];rfl
  obtain⟨g1,g2,g3,g4⟩:=A5 hs ht ho hc;rw[<-hf]at g1 g2;rw[jw];by_cases hh:c.head.s=t.call.s/\c.head.l.length=t.call.l.length;rw [if_pos hh];obtain⟨n,X,ok,h1,h2,h3⟩:=IW hs g3 g1 g4 g2;rw[h2];cases ok with
  |true=>exact⟨_,_,.hit hh h1 h3,rfl⟩
  |false=>obtain⟨res,d',k1,k2⟩:=A7 hP hs hf ht ho r (i+1) (X.length+d+1) hr;exact⟨res,d',.fail hh h1 h3 k1,k2⟩
  rw [if_neg hh];obtain⟨res,d',k1,k2⟩:=A7 hP hs hf ht ho r (i+1) d hr;exact⟨res,d',.skip hh k1,k2⟩
end ax

namespace Go.Proofs.YtmjmngigbachdaaGreatDoor
open Go ax Go.Proofs
def ya (t:Tr)(z:D):List AV:=[iV t.mark,iV t.aB,.d (.v (.int .i64 t.call.k)),.d (.v (.string t.call.s)),.d (.v (.int .i64 t.call.n)),.d (.sl (Tm.aa t.call.l)),iV t.pC,.d z,bV t.other]
def uF (c:Cs):Ob:=.box [.d (.v (.int .i64 c.head.k)),.d (.v (.string c.head.s)),.d (.v (.int .i64 c.head.n)),.d (.sl (Tm.aa c.head.l)),.d (.sl (Gl.aa c.body)),.d (.v (.int .i64 c.vars))]
def dt (P:List Cs)(hd:Tm)(ab:Nat)(m:Mo)(d v:Nat):List Ob:=s4 P hd m.aB v (gE m.now) ab m.done m.aF.length d m.B m.ai m.aF
def o4 (P:List Cs) (hd:Tm) (ab:Nat) (m:Mo) (t:Tr) (d v:Nat):Option (Nat×Cs×an)->List Ob|none=>dt P hd ab m d v|some (i,c,B')=>s4 P hd ((m.aB+c.vars.toNat:Nat):Int) (Nat.succ v) (gE (bR c.body m.aB m.ai.length t.uC)) ab m.done m.aF.length d B' (m.ai++[{t with pC:=i+1}]) m.aF
def aoe:Nat->cI:=λf=>bif Nat.beq f 42 then .still else bif Nat.beq f 19 then .still else .jz
theorem ad7 (i j k:Nat)(d:Nat)(B:an)(n:Nat):(cC d B).map (bG (rn [i,j,k] n))=[.box [.mp j,.ow k (B.length+d)],.map (ct (uJ B)),.arr 1 (B.length+d) (cD (B.map (·.1)))]:=by
 have e:(bG (rn [i,j,k] n))=aR (dh (rn [i,j,k] n)):=by funext o;cases o<;>simp[bG,aR,gR]
 rw[e];simp only[cC,bM,fm];rw[dS (λt=>rfl)];rfl
theorem nu (d:Nat)(B:an)(n:Nat):(cC d B).map (bG (rn [1,2,3] n))=mcS d B:=ad7 1 2 3 d B n
theorem ud (l:List Tr)(t:Tr):l.map Tr.row++[[.v (.int .i64 t.mark),.v (.int .i64 t.aB),.v (.int .i64 t.call.k),.v (.string t.call.s),.v (.int .i64 t.call.n),.sl (Tm.aa t.call.l),.v (.int .i64 t.pC),gE t.uC,.v (.bool t.other)]]=(l++[t]).map Tr.row:=by simp[Tr.row]
theorem tf (P:List Cs)(hd:Tm)(ab:Nat)(m:Mo)(d v:Nat)(t:Tr)(z:D):(dt P hd ab m d v++[Ob.box (ya t z)]).map (aR (dD 7))=dt P hd ab m d v++[Ob.box (ya t z)]:=by
 rw[eR];have h:(dt P hd ab m d v).map (aR (dD 7))=dt P hd ab m d v:=uc _ P hd m.aB v m.now ab m.done m.aF.length d m.B m.ai m.aF (λ_ _=>rfl) (λ_ _ _=>⟨rfl,rfl⟩) cN ⟨rfl,rfl,λ_=>⟨rfl,rfl,rfl⟩⟩ λ_=>rfl
 rw[h];rfl
theorem vX (Y:YP){P:List Cs}(hP:rW P)(hd:Tm)(ab:Nat){m:Mo}(hs:eF uD m.B){t:Tr}(hf:m.aB=t.aB){done k0:Nat}(ht:Nv P.length ab done k0 t)(ho:t.other=false)(hT:m.ai.length<=1000000){res:Option (Nat×Cs×an)}{d d':Nat}(v:Nat)(g1:Gl)(s1 o1:Int)(z1:D)(hz:gE t.uC=.bL (aY g1 s1 o1 z1))(hD:xQ m.B m.aB t.call t.pC d (P.drop t.pC) res d') :
  aU Tryz.prog Y 48 [.lo 0 0,.agg (ya t (.bL (aY g1 s1 o1 z1)))] (dt P hd ab m d v) (bV res.isSome) (o4 P hd ab m t d' v res):=by
 have hPl:=hP.len;have hrP:(Cs.aa P).length=P.length:=by unfold Cs.aa;simp_all
 refine aU.ej (pf:=aoe) gK mixed Tryz.func48 rfl da da (by simp[Tryz.ntmps48]) (by cases res<;>simp[dt,s4,mcS,o4]) λw S φ hg=>?_
 have hφ:φ.length=6:=hg.kh.len;refine ag ?_;refine a7 (λx:Nat×Nat=>([(0,.lo 0 0),(3,.lo 6 0),(5,iV x.1)],dt P hd ab m x.2 v++[.box (ya t (.bL (aY g1 s1 o1 z1)))])) (λx=>x.1<=P.length/\xQ m.B m.aB t.call x.1 x.2 (P.drop x.1) res d') (λx=>P.length-x.1) (t.pC,d) ⟨ht.pC,hD⟩ pI rfl ?_;rintro⟨i,d1⟩ ⟨hi,hc⟩;simp only at hi hc;show R _ _ _ _ [(0,.lo 0 0),(3,.lo 6 0),(5,iV i)] (dt P hd ab m d1 v++[.box (ya t (.bL (aY g1 s1 o1 z1)))])
 refine ag ?_;refine af (λh=>?_) λh=>?_
 ·have ny:i<P.length:=bo h (by rw [hrP]);have e1:P[i]? = some P[i]:=dG ny;have hmem:=dy ny;have IZ:=hP.cls _ hmem;have e2:P.drop i=P[i]::P.drop (i+1):=List.drop_eq_getElem_cons ny;rw[e2]at hc;generalize P[i]=c at e1 IZ hc;have hrc:=Tm.ao c.head.l;have hrt:=Tm.ao t.call.l;refine cJ (Cs.ay e1) ?_;refine af (λh1=>?_) λh1=>?_
  have h1:¬ c.head.s=t.call.s:=λe=>by rw [Tm.bn.2 e]at h1; simp at h1
  cases hc with
  |skip _ hr=>refine aeE ?_;exact abG
  |fail hh=>simp_all
  |hit hh=>simp_all
  have h1:c.head.s=t.call.s:=Tm.bn.1 TA;refine af (λh2=>?_) λh2=>?_
  have h2:¬ c.head.l.length=t.call.l.length:=λe=>by simp_all
  cases hc with
  |skip _ hr=>refine aeE ?_;exact abG
  |fail hh=>omega
  |hit hh=>omega
  have h2:c.head.l.length=t.call.l.length:=by grind
  have hfr:=ht.fr;have yF:=ht.p1;rw[ho]at yF;simp only[lq,if_false]at yF;have hv:=IZ.v;have hv0:=IZ.v0;have eI:=mf c.head (m.aB:Int) IZ.head.iI.1 (IZ.head.iR 1);rw[mm IZ.head IZ.ho aq]at eI;obtain⟨q1,q2,q3,q4⟩:=A5 hs ht ho IZ;rw[<-hf]at q1 q2;generalize hu0:dw m.aB c.head=u at eI q1 q2;refine aA (eI) ?_;cases hc with
  |skip hh=>exact absurd ⟨h1,h2⟩ hh
  |@fail _ _ n X _ _ _ _ _ hu nB hr=>have a8:=nB.len;rw[tp]at a8;rw[hu0]at hu;refine aj hg.ok hg.cm hg.wide hg.Y [1,2,3] (dt P hd ab m (X.length+d1+1) v++[.box (ya t (.bL (aY g1 s1 o1 z1))),uF c,aO u]) (nq Y d1 Er aq Er m.B X false t.call u n hu nB.ug.chain.nodup aq q3.r q1.r (q3.iR 1) (q1.iR 1)) cN rfl rfl rfl rfl rfl Bk rfl (by unfold Ms;rw[if_neg aD,nu];rfl) (ag ?_);refine mM ?_;refine bf 7 (dt P hd ab m (X.length+d1+1) v++[Ob.box (ya t (.bL (aY g1 s1 o1 z1)))]) W7 rfl (tf P hd ab m (X.length+d1+1) v t (.bL (aY g1 s1 o1 z1))) ?_;exact aeM
  |@hit _ _ n X _ _ _ hu nB=>
   have a8:=nB.len;rw[tp]at a8;rw[hu0]at hu;refine aj hg.ok hg.cm hg.wide hg.Y [1,2,3] (s4 P hd m.aB v (gE m.now) ab m.done m.aF.length d' (m.B++X) m.ai m.aF++[.box (ya t (.bL (aY g1 s1 o1 z1))),uF c,aO u]) (nq Y d' Er aq Er m.B X true t.call u n hu nB.ug.chain.nodup aq q3.r q1.r (q3.iR 1) (q1.iR 1)) cN rfl rfl rfl rfl rfl Bk rfl (by unfold Ms;rw[if_pos rfl,nu];rfl) (ag ?_);refine gg ?_;have yc:(m.ai.map Tr.row).length=m.ai.length:=fQ _;have hwi:IntKind.i64.wrap ((i:Int)+1)=((i+1:Nat):Int):=(pX aq aq).trans (by push_cast;rfl);have hwf:IntKind.i64.wrap ((m.aB:Int)+c.vars)=((m.aB+c.vars.toNat:Nat):Int):=(pX aq aq).trans aq;have kq:=lH c.body m.aB m.ai.length t.uC (by have:=IZ.Pq;omega);rw[hz]at kq;refine El ?_;refine cR hg.ok ((m.ai++[{t with pC:=i+1}]).map Tr.row) rfl rfl rfl rfl rfl rfl rfl rfl rfl (by simp[aY]) Tv ?_ jD jD ?_;rw[<-ud,hz,hwi];refine ag ?_;have IC:=il (bR c.body m.aB m.ai.length t.uC);have jb:∀z,gE (bR c.body m.aB m.ai.length t.uC)=z->o4 P hd ab m t d' v (some (i,c,m.B++X))=s4 P hd (IntKind.i64.wrap ((m.aB:Int)+c.vars)) (Nat.succ v) z ab m.done m.aF.length d' (m.B++X) (m.ai++[{t with pC:=i+1}]) m.aF:=λz h=>by rw[hwf,<-h];rfl
   rcases IC with ⟨g2,s2,o2,z2,hp⟩|hp
   all_goals
    rw[hp]at kq;refine aA (kq) ?_;refine QK ?_;rw[jb _ hp]
   exact afl;exact afA
 have ny:P.length<=i:=by simp_all
 rw[cX ny]at hc;cases hc;exact ae2
theorem vY (Y:YP){P:List Cs}(hP:rW P)(hd:Tm)(ab:Nat){m:Mo}(hs:eF uD m.B){t:Tr}(hf:m.aB=t.aB){done k0:Nat}(ht:Nv P.length ab done k0 t)(ho:t.other=false)(hT:m.ai.length<=1000000){res:Option (Nat×Cs×an)}{d d':Nat}(v:Nat)(g1:Gl)(s1 o1:Int)(z1:D)(hz:gE t.uC=.v (.pointer none))(hD:xQ m.B m.aB t.call t.pC d (P.drop t.pC) res d') :
  aU Tryz.prog Y 48 [.lo 0 0,.agg (ya t (.v (.pointer none)))] (dt P hd ab m d v) (bV res.isSome) (o4 P hd ab m t d' v res):=by
 have hPl:=hP.len;have hrP:(Cs.aa P).length=P.length:=by unfold Cs.aa;simp_all
 refine aU.ej (pf:=aoe) gK mixed Tryz.func48 rfl da da (by simp[Tryz.ntmps48]) (by cases res<;>simp[dt,s4,mcS,o4]) λw S φ hg=>?_
 have hφ:φ.length=6:=hg.kh.len;refine ag ?_;refine a7 (λx:Nat×Nat=>([(0,.lo 0 0),(3,.lo 6 0),(5,iV x.1)],dt P hd ab m x.2 v++[.box (ya t (.v (.pointer none)))])) (λx=>x.1<=P.length/\xQ m.B m.aB t.call x.1 x.2 (P.drop x.1) res d') (λx=>P.length-x.1) (t.pC,d) ⟨ht.pC,hD⟩ pI rfl ?_;rintro⟨i,d1⟩ ⟨hi,hc⟩;simp only at hi hc;show R _ _ _ _ [(0,.lo 0 0),(3,.lo 6 0),(5,iV i)] (dt P hd ab m d1 v++[.box (ya t (.v (.pointer none)))])
 refine ag ?_;refine af (λh=>?_) λh=>?_
 ·have ny:i<P.length:=bo h (by rw [hrP]);have e1:P[i]? = some P[i]:=dG ny;have hmem:=dy ny;have IZ:=hP.cls _ hmem;have e2:P.drop i=P[i]::P.drop (i+1):=List.drop_eq_getElem_cons ny;rw[e2]at hc;generalize P[i]=c at e1 IZ hc;have hrc:=Tm.ao c.head.l;have hrt:=Tm.ao t.call.l;refine cJ (Cs.ay e1) ?_;refine af (λh1=>?_) λh1=>?_
  have h1:¬ c.head.s=t.call.s:=λe=>by rw [Tm.bn.2 e]at h1; simp at h1
  cases hc with
  |skip _ hr=>refine aeG ?_;exact abG
  |fail hh=>simp_all
  |hit hh=>simp_all
  have h1:c.head.s=t.call.s:=Tm.bn.1 TA;refine af (λh2=>?_) λh2=>?_
  have h2:¬ c.head.l.length=t.call.l.length:=λe=>by simp_all
  cases hc with
  |skip _ hr=>refine aeG ?_;exact abG
  |fail hh=>omega
  |hit hh=>omega
  have h2:c.head.l.length=t.call.l.length:=by grind
  have hfr:=ht.fr;have yF:=ht.p1;rw[ho]at yF;simp only[lq,if_false]at yF;have hv:=IZ.v;have hv0:=IZ.v0;have eI:=mf c.head (m.aB:Int) IZ.head.iI.1 (IZ.head.iR 1);rw[mm IZ.head IZ.ho aq]at eI;obtain⟨q1,q2,q3,q4⟩:=A5 hs ht ho IZ;rw[<-hf]at q1 q2;generalize hu0:dw m.aB c.head=u at eI q1 q2;refine aA (eI) ?_;cases hc with
  |skip hh=>exact absurd ⟨h1,h2⟩ hh
  |@fail _ _ n X _ _ _ _ _ hu nB hr=>have a8:=nB.len;rw[tp]at a8;rw[hu0]at hu;refine aj hg.ok hg.cm hg.wide hg.Y [1,2,3] (dt P hd ab m (X.length+d1+1) v++[.box (ya t (.v (.pointer none))),uF c,aO u]) (nq Y d1 Er aq Er m.B X false t.call u n hu nB.ug.chain.nodup aq q3.r q1.r (q3.iR 1) (q1.iR 1)) cN rfl rfl rfl rfl rfl Bk rfl (by unfold Ms;rw[if_neg aD,nu];rfl) (ag ?_);refine mM ?_;refine bf 7 (dt P hd ab m (X.length+d1+1) v++[Ob.box (ya t (.v (.pointer none)))]) W7 rfl (tf P hd ab m (X.length+d1+1) v t (.v (.pointer none))) ?_;exact aeM
  |@hit _ _ n X _ _ _ hu nB=>
   have a8:=nB.len;rw[tp]at a8;rw[hu0]at hu;refine aj hg.ok hg.cm hg.wide hg.Y [1,2,3] (s4 P hd m.aB v (gE m.now) ab m.done m.aF.length d' (m.B++X) m.ai m.aF++[.box (ya t (.v (.pointer none))),uF c,aO u]) (nq Y d' Er aq Er m.B X true t.call u n hu nB.ug.chain.nodup aq q3.r q1.r (q3.iR 1) (q1.iR 1)) cN rfl rfl rfl rfl rfl Bk rfl (by unfold Ms;rw[if_pos rfl,nu];rfl) (ag ?_);refine gg ?_;have yc:(m.ai.map Tr.row).length=m.ai.length:=fQ _;have hwi:IntKind.i64.wrap ((i:Int)+1)=((i+1:Nat):Int):=(pX aq aq).trans (by push_cast;rfl);have hwf:IntKind.i64.wrap ((m.aB:Int)+c.vars)=((m.aB+c.vars.toNat:Nat):Int):=(pX aq aq).trans aq;have kq:=lH c.body m.aB m.ai.length t.uC (by have:=IZ.Pq;omega);rw[hz]at kq;refine El ?_;refine cR hg.ok ((m.ai++[{t with pC:=i+1}]).map Tr.row) rfl rfl rfl rfl rfl rfl rfl rfl rfl (by simp[aY]) Tv ?_ jD jD ?_;rw[<-ud,hz,hwi];refine ag ?_;have IC:=il (bR c.body m.aB m.ai.length t.uC);have jb:∀z,gE (bR c.body m.aB m.ai.length t.uC)=z->o4 P hd ab m t d' v (some (i,c,m.B++X))=s4 P hd (IntKind.i64.wrap ((m.aB:Int)+c.vars)) (Nat.succ v) z ab m.done m.aF.length d' (m.B++X) (m.ai++[{t with pC:=i+1}]) m.aF:=λz h=>by rw[hwf,<-h];rfl
   rcases IC with ⟨g2,s2,o2,z2,hp⟩|hp
   all_goals
    rw[hp]at kq;refine aA (kq) ?_;refine QK ?_;rw[jb _ hp]
   exact afl;exact afA
 have ny:P.length<=i:=by simp_all
 rw[cX ny]at hc;cases hc;exact ae2
end Go.Proofs.YtmjmngigbachdaaGreatDoor

namespace ax
open Go Tm
def k7 (m:Mo)(t:Tr):Mo:={m with ai:=m.ai.dropLast,B:=m.B.take t.mark,aB:=t.aB}
def EY (m:Mo)(t:Tr)(d:Nat):Nat:=(m.B.drop t.mark).length+d+1
inductive s5 (P:List Cs):Mo->Nat->Nat->Bool->Mo->Nat->Nat->Prop
 |last {m:Mo} {d v:Nat} (h:m.ai=[]):s5 P m d v false {m with aF:=m.aF++[sT]} d v
 |other {m:Mo} {d v:Nat} {t:Tr} (hl:m.ai.getLast? = some t) (ho:t.other=true):s5 P m d v true {k7 m t with now:=t.uC} (EY m t d) (v+1)
 |hit {m:Mo} {d v d' i:Nat} {t:Tr} {c:Cs} {B':an} (hl:m.ai.getLast? = some t) (ho:t.other=false) (hc:xQ (k7 m t).B (k7 m t).aB t.call t.pC (EY m t d) (P.drop t.pC) (some (i,c,B')) d'):s5 P m d v true (NG (k7 m t) t i c B') d' (v+2)
 |VD {m m':Mo} {d v d' d'' v'':Nat} {t:Tr} {r:Bool} (hl:m.ai.getLast? = some t) (ho:t.other=false) (hc:xQ (k7 m t).B (k7 m t).aB t.call t.pC (EY m t d) (P.drop t.pC) none d') (hr:s5 P (k7 m t) d' (v+1) r m' d'' v''):s5 P m d v r m' d'' v''
theorem MF {P:List Cs}{ab:Nat}(hP:rW P):∀(k:Nat) (m:Mo) (d v:Nat),m.ai.length=k->BI P.length ab m->∃d' v',s5 P m d v (jA P k m).2 (jA P k m).1 d' v'
 |0,m,d,v,hk,_=>⟨d,v,by rw[jA];exact .last (kG.1 hk)⟩
 |k+1,m,d,v,hk,hb=>by
  have dR:m.ai≠[]:=λe=>by rw[e]at hk;cases hk
  cases hl:m.ai.getLast? with
  |none=>exact absurd (List.getLast?_eq_none_iff.1 hl) dR
  |some t=>
   have hp:=hb.pop hl;rw[jA,hl];simp only;by_cases ho:t.other=true;rw [if_pos ho];exact⟨_,_,.other hl ho⟩;rw [if_neg ho];have ho:t.other=false:=by simpa using ho
   obtain⟨res,d',h1,h2⟩:=A7 hP (m:=k7 m t) hp.b.s0 rfl hp.tg ho (P.drop t.pC) t.pC (EY m t d) rfl;have h2:jw {m with ai:=m.ai.dropLast,B:=m.B.take t.mark,aB:=t.aB} t t.pC (P.drop t.pC)=aod (k7 m t) t res:=h2;rw[h2];cases res with
   |some x=>obtain⟨i,c,B'⟩:=x;exact⟨_,_,.hit hl ho h1⟩
   |none=>obtain⟨d2,v2,h3⟩:=MF hP k (k7 m t) d' (v+1) (by show m.ai.dropLast.length=k;rw[Xp];omega) hp.b;exact⟨d2,v2,.VD hl ho h1 h3⟩
theorem I1 {P:List Cs}{ab:Nat}(hP:rW P){m:Mo}(d v:Nat)(hb:BI P.length ab m):∃d' v',s5 P m d v (ew P m).2 (ew P m).1 d' v':=MF hP _ m d v rfl hb
end ax

namespace Go.Proofs.YtmjmngigbachdaaGreatDoor
open Go ax Go.Proofs
theorem ad8 (n:Nat)(P:List Cs)(hd:Tm)(fr:Int)(v:Nat)(l:List Td)(ab:Nat)(dn:Int)(sl:Nat)(d:Nat)(B:an)(T:List Tr)(S:List Ev):(s4 P hd fr v (gE l) ab dn sl d B T S).map (bG (rn [0,1,2,3,4,5] n))=s4 P hd fr v (gE l) ab dn sl d B T S:=by
 have e:(bG (rn [0,1,2,3,4,5] n))=aR (dh (rn [0,1,2,3,4,5] n)):=by funext o;cases o<;>simp[bG,aR,gR]
 rw[e];exact uc _ P hd fr v l ab dn sl d B T S (λz h=>by rcases h with ⟨_,_,_,_,rfl⟩|rfl<;>rfl) (λ_ _ _=>⟨rfl,rfl⟩) cN ⟨rfl,rfl,λ_=>⟨rfl,rfl,rfl⟩⟩ λ_=>rfl
theorem dY (n:Nat)(P:List Cs)(hd:Tm)(ab:Nat)(m:Mo)(d v:Nat):(dt P hd ab m d v).map (bG (rn [0,1,2,3,4,5] n))=dt P hd ab m d v:=ad8 n P hd m.aB v m.now ab m.done m.aF.length d m.B m.ai m.aF
theorem WD (P:List Cs)(hd:Tm)(ab:Nat)(m:Mo)(d v:Nat):(dt P hd ab m d v).map (aR (dD 6))=dt P hd ab m d v:=aau P hd m.aB v m.now ab m.done m.aF.length d m.B m.ai m.aF
theorem kC (P:List Cs)(hd:Tm)(ab:Nat)(m:Mo)(d v:Nat)(o:List Ob):(dt P hd ab m d v).map (aR (bZ false 6 o 5))=dt P hd ab m d v:=wu P hd m.aB v m.now ab m.done m.aF.length d m.B m.ai m.aF o
theorem te (Y:YP)(P:List Cs)(hd:Tm)(ab:Nat)(m:Mo)(hm:m.aF.length<1000000000000)(d v:Nat)(e:Ev):aU Tryz.prog Y 46 [.lo 0 0,evA e] (dt P hd ab m d v) (bV (e.k==1||e.k==2)) (dt P hd ab {m with aF:=m.aF++[e]} d v):=aaw Y P hd ab m hm d v e
theorem DL (P:List Cs)(hd:Tm)(ab:Nat)(m:Mo)(t:Tr)(d v i:Nat)(c:Cs)(B':an):o4 P hd ab m t d v (some (i,c,B'))=dt P hd ab (NG m t i c B') d (v+1):=rfl
theorem ue (k c:Int)(s:ByteArray):bJ (.agg [.d (.v (.int .i64 k)),.d (.v (.string s)),.d (.v (.slice none 0 0)),.d (.v (.int .i64 c))]) (evA ⟨k,s,[],c⟩):=bJ.agg ⟨.refl _,.refl _,bJ.nil,.refl _,trivial⟩
def aq2:Nat->cI:=λf=>bif Nat.beq f 4000000004 then .bT 1 else .jz
theorem MG (Y:YP)(d:Nat){B:an}(k:Nat)(hk:k<=B.length)(hs:eF uD B):aU Tryz.prog Y 77 [.lo 0 0,iV k] (cC d B) (iV 0) (cC ((B.drop k).length+d+1) (B.take k)):=by have hl:=hs.len;rw[tp]at hl;have h:=vW Y d (B.take k) (B.drop k) (by rw[List.take_append_drop];exact hs.ug.chain.nodup) (by rw[List.take_append_drop];omega);rw[List.take_append_drop,show(B.take k).length=k by rw[zi];omega]at h;exact h
theorem I3 (Y:YP){P:List Cs}(hP:rW P)(hd:Tm)(ab:Nat){m0 m':Mo}(hb0:BI P.length ab m0)(hT0:m0.ai.length<=1000000)(hS0:m0.aF.length<1000000000000){d0 v0 d' v':Nat}{r:Bool}(hD0:s5 P m0 d0 v0 r m' d' v') :
  aU Tryz.prog Y 50 [.lo 0 0] (dt P hd ab m0 d0 v0) (bV r) (dt P hd ab m' d' v'):=by
 refine aU.ej (pf:=aq2) gK mixed Tryz.func50 rfl da da (by simp[Tryz.ntmps50]) (by simp[dt,s4,mcS]) λw S φ hg=>?_
 have hφ:φ.length=6:=hg.kh.len;refine ag ?_;refine a7 (λx:Mo×Nat×Nat=>([(0,.lo 0 0)],dt P hd ab x.1 x.2.1 x.2.2)) (λx=>BI P.length ab x.1/\x.1.ai.length<=1000000/\x.1.aF.length<1000000000000/\s5 P x.1 x.2.1 x.2.2 r m' d' v') (λx=>x.1.ai.length) (m0,d0,v0) ⟨hb0,hT0,hS0,hD0⟩ NI rfl ?_;rintro⟨m,d,v⟩ ⟨hb,hT,hS,hD⟩;simp only at hb hT hS hD;show R _ _ _ _ [(0,.lo 0 0)] (dt P hd ab m d v)
 have yc:(m.ai.map Tr.row).length=m.ai.length:=fQ _;refine ag ?_;refine El ?_;refine af (λh=>?_) λh=>?_
 have h0:0<m.ai.length:=by have:=of_decide_eq_true h; omega
 have dR:m.ai≠[]:=λe=>by rw[e]at h0;simp at h0
 obtain⟨t,hl⟩:∃t,m.ai.getLast? = some t:=by
  cases hl:m.ai.getLast? with
  |none=>exact absurd (List.getLast?_eq_none_iff.1 hl) dR
  |some t=>exact⟨t,rfl⟩
 have hp:=hb.pop hl;have gY:(m.ai.map Tr.row)[m.ai.length-1]? = some (Tr.row t):=by rw[fP,<-List.getLast?_eq_getElem?,hl];rfl
 have ny:((m.ai.length:Int)-1).toNat=m.ai.length-1:=by omega
 have Rg:IntKind.i64.wrap ((m.ai.length:Int)-1)=(m.ai.length:Int)-1:=pX aq aq;have hmk:t.mark<=m.B.length:=by have:=hp.mrk;rw[zi]at this;omega
 refine El ?_;refine hH 19 rfl (bJ.wrap (n:=((m.ai.length:Int)-1)) rfl aq aq) ?_;refine se hg.ok rfl rfl rfl rfl rfl rfl rfl rfl rfl aq (by rw[yc,ny];omega) (ag ?_);rw[ny];rcases il t.uC with ⟨g1,s1,o1,z1,hz⟩|hz
 ·have gY:(m.ai.map Tr.row)[m.ai.length-1]? = some [.v (.int .i64 t.mark),.v (.int .i64 t.aB),.v (.int .i64 t.call.k),.v (.string t.call.s),.v (.int .i64 t.call.n),.sl (Tm.aa t.call.l),.v (.int .i64 t.pC),.bL (aY g1 s1 o1 z1),.v (.bool t.other)]:=by rw [gY,Tr.row,hz]
  refine QF ?_;refine El ?_;refine afy ?_;refine aez ?_;refine aj hg.ok hg.cm hg.wide hg.Y [1,2,3] (s4 P hd m.aB (v+1) (gE m.now) ab m.done m.aF.length (EY m t d) (m.B.take t.mark) m.ai.dropLast m.aF++[Ob.box (ya t (.bL (aY g1 s1 o1 z1)))]) (MG Y d t.mark hmk hb.s0) cN rfl rfl rfl rfl rfl Bk rfl Bk (ag ?_);refine af (λho=>?_) λho=>?_
  cases hD with
  |last h=>exact absurd h dR
  |@other _ _ _ t2 ky uN=>
   obtain rfl:t=t2:=by rw[hl]at ky;exact Option.some.inj ky
   refine QK ?_;have e:dt P hd ab {k7 m t with now:=t.uC} (EY m t d) (v+1)=s4 P hd t.aB (v+1) (.bL (aY g1 s1 o1 z1)) ab m.done m.aF.length (EY m t d) (m.B.take t.mark) m.ai.dropLast m.aF:=by rw[<-hz];rfl
   rw[e];exact iB P hd t.aB (v+1) (.bL (aY g1 s1 o1 z1)) (.inl ⟨_,_,_,_,rfl⟩) ab m.done m.aF.length _ _ _ m.aF _
  |hit ky uN=>rw[hl]at ky;cases ky;rw[ho]at uN;cases uN
  |VD ky uN=>rw[hl]at ky;cases ky;rw[ho]at uN;cases uN
  have hTp:(k7 m t).ai.length<=1000000:=by show m.ai.dropLast.length<=_; rw [Xp]; omega
  cases hD with
  |last h=>exact absurd h dR
  |other ky uN=>rw[hl]at ky;cases ky;rw[ho]at uN;cases uN
  |@hit _ _ _ d2 i t2 c B2 ky uN hc=>
   obtain rfl:t=t2:=by rw[hl]at ky;exact Option.some.inj ky
   refine aj hg.ok hg.cm hg.wide hg.Y [0,1,2,3,4,5] (dt P hd ab (NG (k7 m t) t i c B2) d' (v+2)++[Ob.box (ya t (.bL (aY g1 s1 o1 z1)))]) (vX Y hP hd ab (m:=k7 m t) hp.b.s0 rfl hp.tg ho hTp (v+1) g1 s1 o1 z1 hz hc) cN rfl rfl rfl rfl rfl qC rfl (by rw[DL,dY];rfl) (ag ?_);refine mM ?_;exact afj
  |@VD _ _ _ _ d2 _ _ t2 _ ky uN hc hr=>
   obtain rfl:t=t2:=by rw[hl]at ky;exact Option.some.inj ky
   refine aj hg.ok hg.cm hg.wide hg.Y [0,1,2,3,4,5] (dt P hd ab (k7 m t) d2 (v+1)++[Ob.box (ya t (.bL (aY g1 s1 o1 z1)))]) (vX Y hP hd ab (m:=k7 m t) hp.b.s0 rfl hp.tg ho hTp (v+1) g1 s1 o1 z1 hz hc) cN rfl rfl rfl rfl rfl qC rfl alf (ag ?_);refine gg ?_;refine ae0 ?_;exact aeO
 ·have gY:(m.ai.map Tr.row)[m.ai.length-1]? = some [.v (.int .i64 t.mark),.v (.int .i64 t.aB),.v (.int .i64 t.call.k),.v (.string t.call.s),.v (.int .i64 t.call.n),.sl (Tm.aa t.call.l),.v (.int .i64 t.pC),.v (.pointer none),.v (.bool t.other)]:=by rw [gY,Tr.row,hz]
  refine QF ?_;refine El ?_;refine afy ?_;refine aez ?_;refine aj hg.ok hg.cm hg.wide hg.Y [1,2,3] (s4 P hd m.aB (v+1) (gE m.now) ab m.done m.aF.length (EY m t d) (m.B.take t.mark) m.ai.dropLast m.aF++[Ob.box (ya t (.v (.pointer none)))]) (MG Y d t.mark hmk hb.s0) cN rfl rfl rfl rfl rfl Bk rfl Bk (ag ?_);refine af (λho=>?_) λho=>?_
  cases hD with
  |last h=>exact absurd h dR
  |@other _ _ _ t2 ky uN=>
   obtain rfl:t=t2:=by rw[hl]at ky;exact Option.some.inj ky
   refine QK ?_;have e:dt P hd ab {k7 m t with now:=t.uC} (EY m t d) (v+1)=s4 P hd t.aB (v+1) (.v (.pointer none)) ab m.done m.aF.length (EY m t d) (m.B.take t.mark) m.ai.dropLast m.aF:=by rw[<-hz];rfl
   rw[e];exact iB P hd t.aB (v+1) (.v (.pointer none)) (.inr rfl) ab m.done m.aF.length _ _ _ m.aF _
  |hit ky uN=>rw[hl]at ky;cases ky;rw[ho]at uN;cases uN
  |VD ky uN=>rw[hl]at ky;cases ky;rw[ho]at uN;cases uN
  have hTp:(k7 m t).ai.length<=1000000:=by show m.ai.dropLast.length<=_; rw [Xp]; omega
  cases hD with
  |last h=>exact absurd h dR
  |other ky uN=>rw[hl]at ky;cases ky;rw[ho]at uN;cases uN
  |@hit _ _ _ d2 i t2 c B2 ky uN hc=>
   obtain rfl:t=t2:=by rw[hl]at ky;exact Option.some.inj ky
   refine aj hg.ok hg.cm hg.wide hg.Y [0,1,2,3,4,5] (dt P hd ab (NG (k7 m t) t i c B2) d' (v+2)++[Ob.box (ya t (.v (.pointer none)))]) (vY Y hP hd ab (m:=k7 m t) hp.b.s0 rfl hp.tg ho hTp (v+1) aN 0 0 (.v (.pointer none)) hz hc) cN rfl rfl rfl rfl rfl qC rfl (by rw[DL,dY];rfl) (ag ?_);refine mM ?_;exact afj
  |@VD _ _ _ _ d2 _ _ t2 _ ky uN hc hr=>
   obtain rfl:t=t2:=by rw[hl]at ky;exact Option.some.inj ky
   refine aj hg.ok hg.cm hg.wide hg.Y [0,1,2,3,4,5] (dt P hd ab (k7 m t) d2 (v+1)++[Ob.box (ya t (.v (.pointer none)))]) (vY Y hP hd ab (m:=k7 m t) hp.b.s0 rfl hp.tg ho hTp (v+1) aN 0 0 (.v (.pointer none)) hz hc) cN rfl rfl rfl rfl rfl qC rfl alf (ag ?_);refine gg ?_;refine ae0 ?_;exact aeO
 have h0:m.ai=[]:=kG.1 (by have:=of_decide_eq_false h; omega);refine hH 59 rfl (ue 4 0 ByteArray.empty) ?_;refine aj hg.ok hg.cm hg.wide hg.Y [0,1,2,3,4,5] (dt P hd ab {m with aF:=m.aF++[sT]} d v) (te Y P hd ab m hS d v sT) cN rfl rfl rfl rfl rfl qC rfl qC (ag ?_);cases hD with
 |last _=>exact aL hg 6 5 cZ rfl rfl (kC P hd ab {m with aF:=m.aF++[sT]} _ _ _)
 |other ky=>rw[h0]at ky;cases ky
 |hit ky=>rw[h0]at ky;cases ky
 |VD ky=>rw[h0]at ky;cases ky
end Go.Proofs.YtmjmngigbachdaaGreatDoor

namespace ax
open Go Go.RowKit
section
variable {g:G} {pf:Nat->cI} {ad:Array Oper} {Fin:Exit->Act->World->Prop}
theorem DM {α:Type}{l m:List α}:∀{is:List Nat},(∀i∈is,dq l i=dq m i)->fM l is=fM m is|[],_=>rfl|i::is,h=>by rw[fM,fM,h i aD,DM (is:=is) λj hj=>h j (by simp[hj])]
theorem zW {α:Type}:∀{is:List Nat} {new l:List α},fM l is=some new->db is new l=l
 |[],new,l,h=>by rw[fM]at h;cases h;rw[db,yq]
 |i::is,new,l,h=>by
  rw[fM]at h;cases hi:dq l i with
  |none=>simp_all
  |some x=>
   rw[hi]at h;cases hp:fM l is with
   |none=>simp_all
   |some r=>
    rw[hp]at h;cases h
    have e:dj l i x=l:=by
     rw[bx];rw[bE]at hi;exact TL λj=>by grind
    rw[db,e];exact zW hp
theorem GZ {n m:Nat}:∀{is:List Nat},isOk n is=true->(∀i∈is,i<m)->isOk m is=true
 |[],_,_=>rfl
 |i::is,h,hm=>by
  rw[isOk]at h ⊢;have h1:Nat.ble (Nat.succ i) m=true:=Xh (hm i aD);rw[h1];simp only[cond_true];cases hb:Nat.ble (Nat.succ i) n with
  |false=>simp_all
  |true=>
   rw[hb]at h;simp only[cond_true]at h;cases L5:HI i is with
   |true=>simp_all
   |false=>rw[L5]at h;simp only[cond_false]at h ⊢;exact GZ h λj hj=>hm j (by simp[hj])
theorem ad9 (hg:di g)(hu:JC g)(hF:g.F=Fence.wide/\g.dep=0)(hY:∀(i l:Nat) (I:Nat->(Nat->Prop)->(Nat->Prop)->World->Prop) (B:Nat->Prop),g.φ0[i]? = some (bI.ext l I B)->l5 g.P Fence.wide 0 g.Y l I g.S0)(is:List Nat){Y:YP}{f:Nat}{dW:List AV}{b7:List Ob}{r r':AV}(hc:aU g.P Y f dW b7 r b7)(vj:(∃(i l:Nat) (I:Nat->(Nat->Prop)->(Nat->Prop)->World->Prop) (B:Nat->Prop),g.φ0[i]? = some (bI.ext l I B))->Y=g.Y){dst:Option Nat}{x:Operand}{args:Array Operand}{ts:Array Nat}{ty:Nat}{pos:String}{after:Array Edge}{gd:Option (Nat×Bool)}
  {az:List Oper} {k:List It} {E:bq} {objs:List Ob} {fs cs:List AV} (fE:∀i∈is,i<g.φ0.length)
  (bt:aH ad.toList E gd=some true) (hd:aQ ⟨g.ty,g.N⟩ dst=true) (dK:bQ pf (.call {callee:=.value x,args:=args,argTypes:=ts})=.look 1) (hx:ev E x=.b9 f fs cs) (dA:isOk (len objs) is=true) (jS:∀n,fM objs is=some (b7.map (bG (rn is n))))
  (has:∀n,(fs++args.toList.map (ev E)++cs).map lO=iH (rn is n) dW) (nK:∀n,dh (rn is n) r=r')
  (hr:R g pf Fin (.dr ad az::k) (bh E dst r') objs) :
  R g pf Fin (.dr ad (⟨dst,.call {callee:=.value x,args:=args,argTypes:=ts},ty,pos,after,gd⟩::az)::k) E objs:=by
 refine cU ?_ hr;show aK g ad _ E objs (bQ pf (.call {callee:=.value x,args:=args,argTypes:=ts})) _ _
 rw[dK];refine⟨λ_=>rfl,(λb hb _=>by cases hb),λE₁ o₁ jF a w h1 h2 h3=>?_⟩
 have key:(∀i∈is,dq o₁ i=dq objs i)->(∀i∈is,i<o₁.length)->jF=o₁->XO g ad ⟨dst,.call {callee:=.value x,args:=args,argTypes:=ts},ty,pos,after,gd⟩ (λa' w'=>fi g (bh E₁ dst r') jF a' w') a w:=λhs Rx he=>by
  subst he;have yF:fM jF is=some (b7.map (bG (rn is (len jF)))):=by rw[DM hs];exact jS _
  have h:=nk (ad:=ad) (after:=after) (pos:=pos) (ty:=ty) (ts:=ts) (dst:=dst) hg hu hF hY is hc vj bt hd hx (GZ dA (by rw[bp];exact Rx)) yF (has _);rw[nK,zW yF]at h;exact h.step E₁ jF jF a w h1 (.inr (.inr ⟨rfl,rfl⟩)) h3
 have a8:∀i∈is,i<o₁.length:=λi hi=>by obtain⟨φ,k1,_,_,_,_,k6⟩:=h3;have:=fE i hi;have hl:=k1.len;obtain⟨p',Ns,_⟩:=k6.le i _ (dG this);have:=(fu.1 Ns).1;omega
 rcases h2 with ⟨h2,_⟩|⟨m,h2,hgr,he⟩|⟨he,Ad⟩
 cases h2;cases h2;refine key (λi hi=>?_) a8 he;rw[bE,bE];have no:∀(j:Nat) (y:Ob),¬ pF g.φ0.length 0 j y:=λj y h=>by have:=y.Hw g.φ0.length j;unfold pF at h;omega
 rcases hgr with hgr|hgr
 obtain ⟨y,hy⟩:∃y,o₁[i]? = some y:=⟨_,dG (a8 i hi)⟩;exact alY;have Rx:=(tF dA).2;rw[bp]at Rx;obtain⟨y,hy⟩:∃y,objs[i]? = some y:=⟨_,dG (Rx i hi)⟩;exact alY;simp_all
end
end ax
namespace ax
open Go Go.RowKit
section
variable {g:G} {pf:Nat->cI} {ad:Array Oper} {Fin:Exit->Act->World->Prop}
theorem WH (hg:di g){dst:Option Nat}{T:Nat}{x:Operand}{ty:Nat}{pos:String}{after:Array Edge}{gd:Option (Nat×Bool)}{az:List Oper}{k:List It}{E:bq}{objs:List Ob}
  {l:List AV} (ds:List D) (bt:aH ad.toList E gd=some true) (hd:aQ ⟨g.ty,g.N⟩ dst=true) (hc:gn (ev E x)=some l) (hl:l.map lO=ds.map AV.d)
  (hr:R g pf Fin (.dr ad az::k) (bh E dst (.d (.bL ds))) objs):R g pf Fin (.dr ad (⟨dst,.box T x,ty,pos,after,gd⟩::az)::k) E objs:=by
 refine cU (aK.eU hg (b:=0) (.refl _) bt hd aD λφ a w hρ hs=>?_) hr;simp only[Op.operands]at hρ;have aP:=hρ x aD;obtain⟨h1,h2⟩:=ig aP hc;have h1':aW (SS g.S0 φ) w φ (ds.map AV.d) (a.eval x).cells.toList:=by rw[<-hl];exact h1.qK lO bJ.lO
 have qH:SS g.S0 φ w.heap.size:=⟨hs.up _ cZ,λhc=>absurd (hs.lt _ hc) (ab6 _)⟩;refine⟨.value (.pointer (some ⟨w.heap.size,0,none⟩)),.pointer (some ⟨w.heap.size,0,none⟩),w.alloc (.cells (a.eval x).cells T),φ,?_,.inl rfl,?_,?_⟩;simp only [execOp,Instr.box,Sem.run_bind,Result.andThen_ok,newVar,newRow,run_newObj,Sem.run_pure];rfl;simp only [RV];have hk:dL (SS g.S0 φ) w (SS g.S0 φ) (w.alloc (.cells (a.eval x).cells T)):=nD _ w _;have get:∀(j:Nat) (y:D),ds[j]? = some y->∃v,(a.eval x).cells[j]? = some v/\Rd (SS g.S0 φ) (w.alloc (.cells (a.eval x).cells T)) y v:=λj y hj=>by obtain⟨v,h3,h4⟩:=h1'.get j (x:=.d y) (by rw[fP,hj];rfl);simp only[RV]at h4;exact⟨v,by simpa using h3,h4.mono hk⟩
 refine Rd.bL (λj=>((a.eval x).cells[j]?).getD undef) qH (heap_alloc_new w _) (λj y hj=>?_) (λj y hj=>?_);obtain ⟨v,h3,_⟩:=get j y hj;simp only[zj,h3,Option.getD_some];grind;exact⟨hs.alloc _,nD _ w _,.refl _,by simp_all,rfl,rfl,rfl,λb hb _=>fL hb,λ_ h=>.inl h,λ_ _ _ B h=>⟨B,h⟩⟩
end
end ax

namespace Go.Proofs.YtmjmngigbachdaaGreatDoor
open Go ax Go.Proofs
inductive aea (P:List Cs) (hd:Tm):Mo->Nat->Nat->Bool->Mo->Nat->Nat->Prop
 |bad {m:Mo} {d v:Nat} (h:pz m.B hd.l=true):aea P hd m d v false {m with aF:=m.aF++[kU 3]} d v
 |ok {m m':Mo} {d v d' v':Nat} {r:Bool} (h:pz m.B hd.l=false) (hb:s5 P {m with aF:=m.aF++[oc (dP (bS m.B hd.l)).1]} d v r m' d' v'):aea P hd m d v r m' d' v'
def aq3:Nat->cI:=λf=>bif Nat.beq f 69 then .look 1 else .jz
theorem VE (P:List Cs)(hd:Tm)(ab:Nat)(m:Mo)(d v k:Nat)(aa:List (List D)):(dt P hd ab m d v++[Ob.arr 4 k aa]).map (aR (dD 7))=dt P hd ab m d v++[Ob.arr 4 k aa]:=by
 rw[eR];have h:(dt P hd ab m d v).map (aR (dD 7))=dt P hd ab m d v:=uc _ P hd m.aB v m.now ab m.done m.aF.length d m.B m.ai m.aF (λ_ _=>rfl) (λ_ _ _=>⟨rfl,rfl⟩) cN ⟨rfl,rfl,λ_=>⟨rfl,rfl,rfl⟩⟩ λ_=>rfl
 rw[h];rfl
theorem aeb (P:List Cs)(hd:Tm)(ab:Nat)(m:Mo)(d v k:Nat)(aa:List (List D)):(dt P hd ab m d v).map (aR (kp 6 k aa))=dt P hd ab m d v :=uc _ P hd m.aB v m.now ab m.done m.aF.length d m.B m.ai m.aF (λz h=>by rcases h with ⟨_,_,_,_,rfl⟩|rfl<;>rfl) (λ_ _ _=>⟨rfl,rfl⟩) cN ⟨rfl,rfl,λ_=>⟨rfl,rfl,rfl⟩⟩ λ_=>rfl
theorem VF (Y:YP){P:List Cs}(hP:rW P){hd:Tm}(hh:∀x∈hd.l,GT x/\∀u∈Tm.cF x,u∈uD)(hl8:hd.l.length<=8)(ab:Nat){m m':Mo}(hb:BI P.length ab m)(hT:m.ai.length<=1000000)(hS:m.aF.length+1<1000000000000){d v d' v':Nat}{r:Bool}(hD:aea P hd m d v r m' d' v') :
  aU Tryz.prog Y 41 [.lo 0 0] (dt P hd ab m d v) (bV r) (dt P hd ab m' d' v'):=by
 have mF:=Tm.ao hd.l;have hr:=λb h=>(hb.s0.gt b h).r
 refine aU.ej (pf:=aq3) gK mixed Tryz.func41 rfl da da (by simp[Tryz.ntmps41]) (by simp[dt,s4,mcS]) λw S φ hg=>?_
 have hφ:φ.length=6:=hg.kh.len;refine eW hg.ok 6 rfl rfl ?_;refine KR 3 4 rfl rfl (ag ?_);refine a7 (λk:Nat=>([(0,.lo 0 0),(3,.ow 6 k),(12,.d (.sl (Tm.aa hd.l))),(13,iV hd.l.length),(14,iV k)],dt P hd ab m d v++[.arr 4 k (Tm.aa (bS m.B (hd.l.take k)))])) (λk=>k<=hd.l.length/\pz m.B (hd.l.take k)=false) (λk=>hd.l.length-k) 0 ⟨bU _,by simp[pz]⟩ ⟨.refl _,.refl _,.refl _,by rw[mF];exact .refl _,.refl _,trivial⟩ rfl ?_;rintro k ⟨hk,he⟩;have Oa:(bS m.B (hd.l.take k)).length=k:=by unfold bS;rw[fQ,zi];omega
 have hrk:(Tm.aa (bS m.B (hd.l.take k))).length=k:=by rw[Tm.ao,Oa]
 refine ag ?_;refine iG (λh=>?_) λh=>?_
 ·refine ag ?_;have aI:k<hd.l.length:=bo h rfl;have e1:hd.l[k]? = some hd.l[k]:=dG aI;have hmem:=dy aI;have hm:=hh _ hmem;generalize hd.l[k]=x at e1 hm hmem;refine cJ (Tm.ay e1) ?_;refine ad9 hg.ok hg.cm hg.wide hg.Y [1,2,3] (r':=.cP [(eL m.B x).1.av,iV (eL m.B x).2]) (xJ Y d Er cZ m.B hr hb.s0.ug x hm.1.r hm.1.iR) cN (λi hi=>by show i<φ.length;simp at hi;omega) rfl rfl rfl rfl rfl (λn=>by rw[nu];rfl) cN cN ?_;have e3:(eL m.B x).2≠0->(eL m.B x).2=3:=MA;have e4:=GV (B:=m.B) e1;have e5:=GW (B:=m.B) e1;have e6:=SE (B:=m.B) hmem;generalize eL m.B x=v1 at e3 e4 e5 e6;obtain⟨v1,ve⟩:=v1;simp only at e3 e4 e5 e6;refine ag ?_;refine af (λh2=>?_) λh2=>?_
  have h2:ve≠0:=by simpa using h2
  have eY:=e6 h2;refine hH 30 rfl (ue 3 3 ByteArray.empty) ?_;refine aj hg.ok hg.cm hg.wide hg.Y [0,1,2,3,4,5] (dt P hd ab {m with aF:=m.aF++[kU 3]} d v++[.arr 4 k (Tm.aa (bS m.B (hd.l.take k))),aO x,aO v1]) (te Y P hd ab m aq d v (kU 3)) cN rfl rfl rfl rfl rfl qC rfl qC (ag ?_);cases hD with
  |bad _=>exact aL hg 6 5 cZ rfl rfl (kC P hd ab {m with aF:=m.aF++[kU 3]} _ _ _)
  |ok h=>rw[eY]at h;cases h
  have h2:ve=0:=by simpa using h2
  refine cR hg.ok (Tm.aa (bS m.B (hd.l.take (k+1)))) rfl rfl rfl rfl rfl rfl rfl rfl rfl (by simp[Tm.row]) QZ (by rw[e4,<-oS]) QY QY (ag ?_);refine bf 7 (dt P hd ab m d v++[Ob.arr 4 (k+1) (Tm.aa (bS m.B (hd.l.take (k+1))))]) W7 rfl (VE P hd ab m d v _ _) ?_;exact bb (k+1) ⟨aI,by rw[e5,he,h2];rfl⟩ aq JW rfl
 have aI:hd.l.length<=k:=bw h rfl;rw[Fm aI]at he hrk Oa ⊢;refine GU hg.cm 6 [(0,.lo 0 0),(3,.d (.sl (Tm.aa (bS m.B hd.l)))),(15,.ff)] (dt P hd ab m d v++[Ob.dead]) rfl rfl ⟨.refl _,bJ.frz 6 _ _,.refl _,trivial⟩ ?_ ?_;show dj (List.map _ (dt P hd ab m d v++[_])) 6 Ob.dead=_
 rw[eR,aeb];rfl;refine ag ?_;have hG:=PM hb.s0 hh he
 have hsz:Tm.aw (bS m.B hd.l)<1000000000:=by
  have key:∀l:List Tm,(∀x∈l,x.size<=3000)->Tm.aw l<=3000*l.length:=λl=>by
   induction l with
   |nil=>intro _;simp[Tm.aw]
   |cons a l ih=>
    intro h;have:=ih λx hx=>h x oZ
    have:=h a aD;simp only[Tm.aw,dx];omega
  have:=key _ λx hx=>(hG x hx).1.size
  omega
 refine aA (uR (bS m.B hd.l) hsz (λx hx=>(hG x hx).1.iR 1)) ?_;refine aj hg.ok hg.cm hg.wide hg.Y [0,1,2,3,4,5] (dt P hd ab {m with aF:=m.aF++[oc (dP (bS m.B hd.l)).1]} d v++[Ob.dead]) (te Y P hd ab m aq d v (oc (dP (bS m.B hd.l)).1)) cN rfl rfl rfl rfl rfl qC rfl qC (ag ?_);cases hD with
 |bad h=>rw[he]at h;cases h
 |ok _ VZ=>refine aj hg.ok hg.cm hg.wide hg.Y [0,1,2,3,4,5] (dt P hd ab m' d' v'++[Ob.dead]) (I3 Y hP hd ab (m0:={m with aF:=m.aF++[oc (dP (bS m.B hd.l)).1]}) ⟨hb.s0,hb.tr⟩ hT (by show(m.aF++[_]).length<_;rw[List.length_append];exact hS) VZ) cN rfl rfl rfl rfl rfl qC rfl qC (ag ?_);exact He
end Go.Proofs.YtmjmngigbachdaaGreatDoor

namespace Go.Proofs.YtmjmngigbachdaaGreatDoor
open Go ax Go.Proofs
variable{t:Tm}
inductive DoD (P:List Cs) (t:Tm):Mo->Nat->Nat->Bool->Mo->Nat->Nat->Prop
 |bad {m:Mo} {d v dd:Nat} {e:Int} (hd:xO uD m.B d t m.aB dd) (h:A3.pr m.B m.aB t=.bad e) (he:e≠0):DoD P t m d v false {m with aF:=m.aF++[kU e]} dd v
 |no {m m':Mo} {d v dd d' v':Nat} {r:Bool} (hd:xO uD m.B d t m.aB dd) (h:A3.pr m.B m.aB t=.no) (hb:s5 P m dd v r m' d' v'):DoD P t m d v r m' d' v'
 |yes {m:Mo} {d v dd f':Nat} {B':an} {tx:Bs} (hd:xO uD m.B d t m.aB dd) (h:A3.pr m.B m.aB t=.yes B' f' tx):DoD P t m d v true {m with B:=B',aB:=f',aF:=if tx=[]then m.aF else m.aF++[sU tx]} dd v
theorem ajC{tx:Bs}:aX (Tx tx) ⟨#[]⟩=decide (tx=[]):=by rw[o5,Tm.bn,decide_eq_true_eq];unfold Tx;constructor;intro h;have:=congrArg (λb=>b.data.toList) h;simpa using this;intro h;subst h;rfl
theorem MH{B:an}{f:Nat}{e:Int}(h:A3.pr B f t=.bad e):e≠0:=by
 cases he:pz B t.l with
 |true=>rw[SD he]at h;cases h;omega
 |false=>
  rw[aao he]at h;split at h;rename_i dR;cases h;exact dR;split at h;cases h;unfold uW at h;split at h;split at h<;>cases h
  split at h<;>cases h
theorem ajD{P:List Cs}{ab:Nat}(hP:rW P){m:Mo}(d v:Nat)(hb:BI P.length ab m)(hl:∀x∈t.l,GT x/\∀u∈Tm.cF x,u∈uD)(hf:m.aB<=110000-8):∃d' v',DoD P t m d v (oU P m t).2 (oU P m t).1 d' v':=by
 obtain⟨dd,hd⟩:=aap (S:=uD) (B:=m.B) d (t:=t) (f:=m.aB) hb.s0 hl aq (λi h1 h2=>A4 aq aq);rw[xK];cases h:A3.pr m.B m.aB t with
 |bad e=>exact⟨_,_,.bad hd h (MH h)⟩
 |no=>obtain⟨d',v',hk⟩:=I1 hP dd v hb;exact⟨d',v',.no hd h hk⟩
 |yes B' f' tx=>exact⟨_,_,.yes hd h⟩
theorem aax(Y:YP){P:List Cs}(hP:rW P)(hd:Tm)(ab:Nat)(ht:GT t)(hk:t.k=3)(hJ:ku (t.s,(t.l.length:Int))=true)(hl:∀x∈t.l,GT x/\∀u∈Tm.cF x,u∈uD){m m':Mo}(hb:BI P.length ab m)(hf:m.aB<=110000-8)(hT:m.ai.length<=1000000)(hS:m.aF.length+1<1000000000000){d v d' v':Nat}{r:Bool}(hD:DoD P t m d v r m' d' v') :
  aU Tryz.prog Y 43 [.lo 0 0,t.av] (dt P hd ab m d v) (bV r) (dt P hd ab m' d' v'):=by
 refine Qo Tryz.func43 λw S φ hg=>?_
 have hφ:φ.length=6:=hg.kh.len;have Hg:∀dd,xO uD m.B d t m.aB dd->aU Tryz.prog Y 73 [t.av,.lo 0 0,iV m.aB] (cC d m.B) (agP (A3.pr m.B m.aB t) m.aB) (cC dd (aan (A3.pr m.B m.aB t) m.B)):=λdd h=>ad1 Y Er hb.s0 ht hk hJ hl aq (λi h1 h2=>A4 aq aq) h
 refine ag ?_;cases hD with
 |@bad _ _ _ e V7 h he=>have hc:=Hg _ V7;rw[h]at hc;refine aj hg.ok hg.cm hg.wide hg.Y [1,2,3] (dt P hd ab m d' v++[aO t]) hc cN rfl rfl rfl rfl rfl Bk rfl (by rw[show aan (Dn.bad e) m.B=m.B from rfl,nu];rfl) (ag ?_);refine cQ hg.ok rfl rfl (by simp[he]) rfl rfl ?_;refine hH 28 rfl (ue 3 e ByteArray.empty) ?_;refine aj hg.ok hg.cm hg.wide hg.Y [0,1,2,3,4,5] (dt P hd ab {m with aF:=m.aF++[kU e]} d' v++[aO t]) (te Y P hd ab m aq d' v (kU e)) cN rfl rfl rfl rfl rfl qC rfl qC (ag ?_);exact aL hg 6 5 cZ rfl rfl (kC P hd ab {m with aF:=m.aF++[kU e]} _ _ _)
 |@no _ _ _ dd _ _ _ V7 h VZ=>have hc:=Hg _ V7;rw[h]at hc;refine aj hg.ok hg.cm hg.wide hg.Y [1,2,3] (dt P hd ab m dd v++[aO t]) hc cN rfl rfl rfl rfl rfl Bk rfl (by rw[show aan Dn.no m.B=m.B from rfl,nu];rfl) (ag ?_);refine gg ?_;refine eG hg.ok rfl rfl (by rw[show aX ByteArray.empty ⟨#[]⟩=true from by kernel_rfl];simp) rfl rfl ?_;refine gg ?_;refine aj hg.ok hg.cm hg.wide hg.Y [0,1,2,3,4,5] (dt P hd ab m' d' v'++[aO t]) (I3 Y hP hd ab hb hT aq VZ) cN rfl rfl rfl rfl rfl qC rfl qC (ag ?_);exact He
 |@yes _ _ _ f' B' tx V7 h=>have hc:=Hg _ V7;rw[h]at hc;refine aj hg.ok hg.cm hg.wide hg.Y [1,2,3] (dt P hd ab {m with B:=B'} d' v++[aO t]) hc cN rfl rfl rfl rfl rfl Bk rfl (by rw[show aan (Dn.yes B' f' tx) m.B=B' from rfl,nu];rfl) (ag ?_);refine gg ?_;have hx:=ajC (tx:=tx);by_cases htx:tx=[];rw [decide_eq_true htx]at hx;rw[if_pos htx];refine eG hg.ok rfl rfl oZ rfl rfl ?_;refine r7 ?_;exact aL hg 6 5 cZ rfl rfl (kC P hd ab {m with B:=B',aB:=f'} d' v _);rw [decide_eq_false htx]at hx;rw[if_neg htx];refine cQ hg.ok rfl rfl oZ rfl rfl ?_;refine hH 34 rfl (ue 2 0 (Tx tx)) ?_;refine aj hg.ok hg.cm hg.wide hg.Y [0,1,2,3,4,5] (dt P hd ab {m with B:=B',aF:=m.aF++[sU tx]} d' v++[aO t]) (te Y P hd ab {m with B:=B'} (by show m.aF.length<_;omega) d' v (sU tx)) cN rfl rfl rfl rfl rfl qC rfl qC (ag ?_);refine r7 ?_;exact aL hg 6 5 cZ rfl rfl (kC P hd ab {m with B:=B',aB:=f',aF:=m.aF++[sU tx]} d' v _)
end Go.Proofs.YtmjmngigbachdaaGreatDoor

namespace Go.Proofs.YtmjmngigbachdaaGreatDoor
open Go ax Go.Proofs
variable{m:Mo}
def ao7:Nat->cI:=λf=>bif Nat.beq f 49 then .look 0 else bif Nat.beq f 4000100042 then .look 4 else .jz
def ie (P:List Cs)(hd:Tm)(ab:Nat)(m:Mo)(x:Td)(other cM:List Td)(d v:Nat):List Ob:=dt P hd ab (II m x other cM) d (v+1)
theorem Tq(mk fr:Int)(z:D):bJ (.fs [[.v (.int .i64 mk),.v (.int .i64 fr),.v (.int .i64 0),.v (.string ByteArray.empty),.v (.int .i64 0),.v (.slice none 0 0),.v (.int .i64 0),z,.v (.bool true)]]) (.d (.sl [[.v (.int .i64 mk),.v (.int .i64 fr),.v (.int .i64 0),.v (.string ByteArray.empty),.v (.int .i64 0),.sl [],.v (.int .i64 0),z,.v (.bool true)]])):=bJ.aa ⟨⟨.refl _,.refl _,.refl _,.refl _,.refl _,.nil,.refl _,.refl _,.refl _,trivial⟩,trivial⟩
theorem MJ(Y:YP)(P:List Cs)(hd:Tm)(ab:Nat)(hT:m.ai.length<=1000000)(d v:Nat)(x:Td)(AO:x.g.a.length<=1000000)(z0:D)(other cM:List Td)(gO gB:Gl)(sO oO sB oB:Int)(zO zB:D)(hO:gE other=.bL (aY gO sO oO zO))(hB:gE cM=.bL (aY gB sB oB zB)) :
  aU Tryz.prog Y 44 [.lo 0 0,.d (.bL (aY x.g x.sh x.to z0)),.d (.bL (aY gO sO oO zO)),.d (.bL (aY gB sB oB zB))] (dt P hd ab m d v) (.cP []) (ie P hd ab m x other cM d v):=by
 have yc:(m.ai.map Tr.row).length=m.ai.length:=fQ _;refine QN λw S φ hg=>?_
 have hφ:φ.length=6:=hg.kh.len;refine ag ?_;refine El ?_;refine JJ ?_;refine QO ?_;refine cR hg.ok ((m.ai++[(⟨m.B.length,m.aB,aJ,0,other,true⟩:Tr)]).map Tr.row) rfl rfl rfl rfl rfl rfl rfl rfl rfl aD Tv ?_ J2 J2 ?_;rw[<-ud,hO];rfl;refine ag ?_;refine QM ?_;refine oX ?_;refine oX ?_;refine oX ?_;refine oX ?_;refine oX ?_;refine afm ?_;have kq:=lH x.g.a x.sh m.ai.length (⟨aN,0,m.ai.length⟩::cM) AO;rw[show gE (⟨aN,0,m.ai.length⟩::cM)=.bL (aY aN 0 m.ai.length (.bL (aY gB sB oB zB)))from by rw[gE,hB];rfl]at kq;have IC:=il (bR x.g.a x.sh m.ai.length (⟨aN,0,m.ai.length⟩::cM));have jb:∀z,gE (bR x.g.a x.sh m.ai.length (⟨aN,0,m.ai.length⟩::cM))=z->ie P hd ab m x other cM d v=s4 P hd m.aB (Nat.succ v) z ab m.done m.aF.length d m.B (m.ai++[⟨m.B.length,m.aB,aJ,0,other,true⟩]) m.aF:=λz h=>by rw[<-h];rfl
 rcases IC with ⟨g2,s2,o2,z2,hp⟩|hp
 all_goals
  rw[hp]at kq;refine aA (kq) ?_;refine QL ?_;rw[jb _ hp]
 exact Qr;exact Qz
theorem MK(Y:YP)(P:List Cs)(hd:Tm)(ab:Nat)(hT:m.ai.length<=1000000)(d v:Nat)(x:Td)(AO:x.g.a.length<=1000000)(z0:D)(other cM:List Td)(gO gB:Gl)(sO oO sB oB:Int)(zO zB:D)(hO:gE other=.bL (aY gO sO oO zO))(hB:gE cM=.v (.pointer none)) :
  aU Tryz.prog Y 44 [.lo 0 0,.d (.bL (aY x.g x.sh x.to z0)),.d (.bL (aY gO sO oO zO)),.d (.v (.pointer none))] (dt P hd ab m d v) (.cP []) (ie P hd ab m x other cM d v):=by
 have yc:(m.ai.map Tr.row).length=m.ai.length:=fQ _;refine QN λw S φ hg=>?_
 have hφ:φ.length=6:=hg.kh.len;refine ag ?_;refine El ?_;refine JJ ?_;refine QO ?_;refine cR hg.ok ((m.ai++[(⟨m.B.length,m.aB,aJ,0,other,true⟩:Tr)]).map Tr.row) rfl rfl rfl rfl rfl rfl rfl rfl rfl aD Tv ?_ J2 J2 ?_;rw[<-ud,hO];rfl;refine ag ?_;refine QM ?_;refine oX ?_;refine oX ?_;refine oX ?_;refine oX ?_;refine oX ?_;refine afx ?_;have kq:=lH x.g.a x.sh m.ai.length (⟨aN,0,m.ai.length⟩::cM) AO;rw[show gE (⟨aN,0,m.ai.length⟩::cM)=.bL (aY aN 0 m.ai.length (.v (.pointer none)))from by rw[gE,hB];rfl]at kq;have IC:=il (bR x.g.a x.sh m.ai.length (⟨aN,0,m.ai.length⟩::cM));have jb:∀z,gE (bR x.g.a x.sh m.ai.length (⟨aN,0,m.ai.length⟩::cM))=z->ie P hd ab m x other cM d v=s4 P hd m.aB (Nat.succ v) z ab m.done m.aF.length d m.B (m.ai++[⟨m.B.length,m.aB,aJ,0,other,true⟩]) m.aF:=λz h=>by rw[<-h];rfl
 rcases IC with ⟨g2,s2,o2,z2,hp⟩|hp
 all_goals
  rw[hp]at kq;refine aA (kq) ?_;refine QL ?_;rw[jb _ hp]
 exact Qr;exact Qz
theorem ML(Y:YP)(P:List Cs)(hd:Tm)(ab:Nat)(hT:m.ai.length<=1000000)(d v:Nat)(x:Td)(AO:x.g.a.length<=1000000)(z0:D)(other cM:List Td)(gO gB:Gl)(sO oO sB oB:Int)(zO zB:D)(hO:gE other=.v (.pointer none))(hB:gE cM=.bL (aY gB sB oB zB)) :
  aU Tryz.prog Y 44 [.lo 0 0,.d (.bL (aY x.g x.sh x.to z0)),.d (.v (.pointer none)),.d (.bL (aY gB sB oB zB))] (dt P hd ab m d v) (.cP []) (ie P hd ab m x other cM d v):=by
 have yc:(m.ai.map Tr.row).length=m.ai.length:=fQ _;refine QN λw S φ hg=>?_
 have hφ:φ.length=6:=hg.kh.len;refine ag ?_;refine El ?_;refine JJ ?_;refine QO ?_;refine cR hg.ok ((m.ai++[(⟨m.B.length,m.aB,aJ,0,other,true⟩:Tr)]).map Tr.row) rfl rfl rfl rfl rfl rfl rfl rfl rfl aD Tv ?_ J2 J2 ?_;rw[<-ud,hO];rfl;refine ag ?_;refine QM ?_;refine oX ?_;refine oX ?_;refine oX ?_;refine oX ?_;refine oX ?_;refine afm ?_;have kq:=lH x.g.a x.sh m.ai.length (⟨aN,0,m.ai.length⟩::cM) AO;rw[show gE (⟨aN,0,m.ai.length⟩::cM)=.bL (aY aN 0 m.ai.length (.bL (aY gB sB oB zB)))from by rw[gE,hB];rfl]at kq;have IC:=il (bR x.g.a x.sh m.ai.length (⟨aN,0,m.ai.length⟩::cM));have jb:∀z,gE (bR x.g.a x.sh m.ai.length (⟨aN,0,m.ai.length⟩::cM))=z->ie P hd ab m x other cM d v=s4 P hd m.aB (Nat.succ v) z ab m.done m.aF.length d m.B (m.ai++[⟨m.B.length,m.aB,aJ,0,other,true⟩]) m.aF:=λz h=>by rw[<-h];rfl
 rcases IC with ⟨g2,s2,o2,z2,hp⟩|hp
 all_goals
  rw[hp]at kq;refine aA (kq) ?_;refine QL ?_;rw[jb _ hp]
 exact Qr;exact Qz
theorem MM(Y:YP)(P:List Cs)(hd:Tm)(ab:Nat)(hT:m.ai.length<=1000000)(d v:Nat)(x:Td)(AO:x.g.a.length<=1000000)(z0:D)(other cM:List Td)(gO gB:Gl)(sO oO sB oB:Int)(zO zB:D)(hO:gE other=.v (.pointer none))(hB:gE cM=.v (.pointer none)) :
  aU Tryz.prog Y 44 [.lo 0 0,.d (.bL (aY x.g x.sh x.to z0)),.d (.v (.pointer none)),.d (.v (.pointer none))] (dt P hd ab m d v) (.cP []) (ie P hd ab m x other cM d v):=by
 have yc:(m.ai.map Tr.row).length=m.ai.length:=fQ _;refine QN λw S φ hg=>?_
 have hφ:φ.length=6:=hg.kh.len;refine ag ?_;refine El ?_;refine JJ ?_;refine QO ?_;refine cR hg.ok ((m.ai++[(⟨m.B.length,m.aB,aJ,0,other,true⟩:Tr)]).map Tr.row) rfl rfl rfl rfl rfl rfl rfl rfl rfl aD Tv ?_ J2 J2 ?_;rw[<-ud,hO];rfl;refine ag ?_;refine QM ?_;refine oX ?_;refine oX ?_;refine oX ?_;refine oX ?_;refine oX ?_;refine afx ?_;have kq:=lH x.g.a x.sh m.ai.length (⟨aN,0,m.ai.length⟩::cM) AO;rw[show gE (⟨aN,0,m.ai.length⟩::cM)=.bL (aY aN 0 m.ai.length (.v (.pointer none)))from by rw[gE,hB];rfl]at kq;have IC:=il (bR x.g.a x.sh m.ai.length (⟨aN,0,m.ai.length⟩::cM));have jb:∀z,gE (bR x.g.a x.sh m.ai.length (⟨aN,0,m.ai.length⟩::cM))=z->ie P hd ab m x other cM d v=s4 P hd m.aB (Nat.succ v) z ab m.done m.aF.length d m.B (m.ai++[⟨m.B.length,m.aB,aJ,0,other,true⟩]) m.aF:=λz h=>by rw[<-h];rfl
 rcases IC with ⟨g2,s2,o2,z2,hp⟩|hp
 all_goals
  rw[hp]at kq;refine aA (kq) ?_;refine QL ?_;rw[jb _ hp]
 exact Qr;exact Qz
theorem uf(Y:YP)(P:List Cs)(hd:Tm)(ab:Nat)(hT:m.ai.length<=1000000)(d v:Nat)(x:Td)(AO:x.g.a.length<=1000000)(z0:D)(other cM:List Td):aU Tryz.prog Y 44 [.lo 0 0,.d (.bL (aY x.g x.sh x.to z0)),.d (gE other),.d (gE cM)] (dt P hd ab m d v) (.cP []) (ie P hd ab m x other cM d v):=by
 rcases il other with ⟨a1,a2,a3,a4,ha⟩|ha<;>rcases il cM with ⟨b1,b2,b3,b4,hb⟩|hb<;>rw[ha,hb]
 exact MJ Y P hd ab hT d v x AO z0 other cM a1 b1 a2 a3 b2 b3 a4 b4 ha hb;exact MK Y P hd ab hT d v x AO z0 other cM a1 a1 a2 a3 0 0 a4 a4 ha hb;exact ML Y P hd ab hT d v x AO z0 other cM b1 b1 0 0 b2 b3 b4 b4 ha hb;exact MM Y P hd ab hT d v x AO z0 other cM aN aN 0 0 0 0 z0 z0 ha hb
end Go.Proofs.YtmjmngigbachdaaGreatDoor

namespace ax
open Go Go.RowKit
section
variable {g:G} {pf:Nat->cI} {ad:Array Oper} {Fin:Exit->Act->World->Prop}
theorem Wk (hg:di g){dst:Option Nat}{T T':Nat}{x:Operand}{ty:Nat}{pos:String}{after:Array Edge}{gd:Option (Nat×Bool)}{az:List Oper}{k:List It}{E:bq}{objs:List Ob}{e:TypeId}{l:List D}
  (hu:g.P.underlying T=some (.pointer e)) (bt:aH ad.toList E gd=some true) (hd:aQ ⟨g.ty,g.N⟩ dst=true) (hx:ev E x=.d (.bL l))
  (hr:R g pf Fin (.dr ad az::k) (bh E dst (.d (.v (.bool false)))) objs):R g pf Fin (.dr ad (⟨dst,.binOp .eql T x (.const (.pointer none)) T',ty,pos,after,gd⟩::az)::k) E objs:=by
 refine cU (aK.up (aK.quiet hg bt hd aD λφ objs w' w hρ fk=>?_)) hr;simp only[Op.operands]at hρ;have aP:=hρ x aD;rw[hx]at aP;simp only[RV]at aP;generalize k9:w'.eval x=vx at aP;cases aP;rename_i b off _ _ _ _ _ _ _ _;refine aZ fk (vv:=.bool false) ?_ ym;have h1:∀d,(Op.equalIn (d+1) T (.pointer (some ⟨b,off,none⟩)) (.pointer none)).run g.P w=.ok false w:=λd=>by simp[Op.equalIn,run_underlying hu]
 have h2:(Op.equal T (.pointer (some ⟨b,off,none⟩)) (.pointer none)).run g.P w=.ok false w:=h1 9999;have h3:(eqGuard .eql T x (.const (.pointer none)) (.pointer (some ⟨b,off,none⟩)) (.pointer none)).run g.P w=.ok () w:=by simp[eqGuard]
 have h4:w'.eval (.const (.pointer none))=.pointer none:=rfl;simp only[execOp,Sem.run_bind,k9,h4,h3,Result.andThen_ok,binOp,h2,Sem.run_pure]
end
end ax
