import Derived.Test.YtmjmngigbachdaaGreatDoorPslA
import Derived.RangeFuncNested
namespace ax
open Go Go.RowKit
variable{objs:List Ob}{w:World}{S:Nat->Prop}{fn:Func}{E:bq}
def HF (ty:Nat->Option Ty) (E:bq) (objs:List Ob):ResultVar->Option AV
 | .tmp t=>some (lk E t)
 | .cell a t=>match ty t with
  |some τ=>match lk E a with
   | .lo i off=>match dq objs i with
    |some (.box l)=>kJ τ l off
    |_=>none
   |_=>none
  |none=>none
def T5 (ty:Nat->Option Ty) (E:bq) (objs:List Ob):List ResultVar->Option (List AV)
 |[]=>some []
 |x::r=>match HF ty E objs x with
  |some v=>match T5 ty E objs r with
   |some l=>some (v::l)
   |none=>none
  |none=>none
def oK (ty:Nat->Option Ty)(E:bq)(objs:List Ob)(l:List ResultVar):Option AV :=
 match T5 ty E objs l with
 |some [x]=>some x
 |some l=>some (.cP l)
 |none=>none
def uu (f:AV->Option AV):List AV->Option (List AV)
 |[]=>some []
 |x::r=>match f x with
  |some y=>match uu f r with
   |some l=>some (y::l)
   |none=>none
  |none=>none
def iP (objs:List Ob):Nat->AV->Option AV
 |0,_=>none
 |n+1,x=>match x with
  | .agg l=>match uu (iP objs n) l with|some l'=>some (.agg l')|none=>none
  | .cP l=>match uu (iP objs n) l with|some l'=>some (.cP l')|none=>none
  | .ow i s=>match dq objs i with
   |some (.arr _ s' aa)=>bif Nat.beq s s' then some (.d (.sl aa))else none
   |_=>none
  | .lo i off=>match dq objs i with
   |some (.box l)=>match uu (iP objs n) l with
    |some l'=>match yt l' with
     |some ds=>some (.d (.bL (ds.drop off)))
     |none=>none
    |none=>none
   |_=>none
  | .tt=>some (.d (.v (.bool true)))
  | .ff=>some (.d (.v (.bool false)))
  | .fs aa=>some (.d (.sl aa))
  | .d (.v (.slice none 0 0))=>some (.d (.sl []))
  | .d y=>some (.d y)
  | .b9 f a c=>match uu (iP objs n) a with
   |some a'=>match uu (iP objs n) c with
    |some c'=>some (.b9 f a' c')
    |none=>none
   |none=>none
  |_=>none
section
variable {P:Program} {ty:Nat->Option Ty} {S0:Nat->Prop} {φ:List bI} {objs:List Ob} {w:World} {E:bq} {a:Act}
def T6 (tmps:Array Value):ResultVar->Sem Value| .tmp t=>pure (tmps.getD t undef)| .cell c t=>do loadVar t (<-asAddr (tmps.getD c undef))
theorem N2(fn:Func)(tmps:Array Value):results fn tmps=(do let vs <-fn.results.mapM (T6 tmps);pure (if h:vs.size=1 then vs[0]else .tuple vs)):=by
 unfold results;have:(λx:ResultVar=>match x with| .tmp t=>pure (tmps.getD t undef)| .cell a t=>do loadVar t (<-asAddr (tmps.getD a undef)):ResultVar->Sem Value)=T6 tmps:=by funext x;cases x<;>rfl
 rw[<-this];rfl
theorem T7(gv:jE P ty)(hs:HS S0 φ objs w)(hv:lg (SS S0 φ) w φ E a){x:ResultVar}{v:AV}(h:HF ty E objs x=some v) :
  ∃vv,(T6 a.tmps x).run P w=.ok vv w/\RV (SS S0 φ) w φ v vv:=by
 cases x with
 |tmp t=>simp only[HF,Option.some.injEq]at h;subst h;exact⟨_,rfl,hv t⟩
 |cell c t=>
  simp only[HF]at h;split at h
  case h_2=>cases h
  case h_1 τ ht=>
  split at h
  case h_2=>cases h
  case h_1 i off hA=>
  split at h
  case h_2=>cases h
  case h_1 l hl=>
  have hx:=hv c;rw[hA]at hx;simp only[RV]at hx;obtain⟨b,hb,hx⟩:=hx;have ho:=cO hs hb hl;simp only[bj]at ho;obtain⟨cs,T',bg,lM⟩:=ho;obtain⟨vv,h1,h2⟩:=Hr (o:=0) (gv _ _ ht) bg (by simpa using lM) h;refine⟨vv,?_,h2⟩;simp only[T6,hx,asAddr,Sem.run_bind,Sem.run_pure,Result.andThen_ok];simpa using h1
theorem Ru(gv:jE P ty)(hs:HS S0 φ objs w)(hv:lg (SS S0 φ) w φ E a):∀{l:List ResultVar} {vs:List AV},T5 ty E objs l=some vs ->
  ∃vvs:List Value,(l.mapM (T6 a.tmps)).run P w=.ok vvs w/\aW (SS S0 φ) w φ vs vvs
 |[],vs,h=>by simp only[T5,Option.some.injEq]at h;subst h;exact⟨[],by simp,by simp[aW]⟩
 |x::l,vs,h=>by
  simp only[T5]at h;split at h
  case h_2=>cases h
  case h_1 v hx=>
  split at h
  case h_2=>cases h
  case h_1 l' hl=>
  cases h;obtain⟨vv,h1,h2⟩:=T7 gv hs hv hx;obtain⟨vvs,h3,h4⟩:=Ru gv hs hv hl;refine⟨vv::vvs,?_,by simp only[aW];exact⟨h2,h4⟩⟩;simp_all
theorem KL(gv:jE P ty)(hs:HS S0 φ objs w)(hv:lg (SS S0 φ) w φ E a){v:AV}(h:oK ty E objs fn.results.toList=some v) :
  ∃vv,(results fn a.tmps).run P w=.ok vv w/\RV (SS S0 φ) w φ v vv:=by
 unfold oK at h;cases hl:T5 ty E objs fn.results.toList with
 |none=>simp_all
 |some vs=>
  rw[hl]at h;obtain⟨vvs,h1,h2⟩:=Ru gv hs hv hl;have hm:(fn.results.mapM (T6 a.tmps)).run P w=.ok vvs.toArray w:=by rw[Array.mapM_eq_mapM_toList,Sem.run_map,h1];rfl
  have hr:(results fn a.tmps).run P w=.ok (if h:vvs.toArray.size=1 then vvs.toArray[0]else .tuple vvs.toArray) w:=by rw[N2,Sem.run_bind,hm,Result.andThen_ok,Sem.run_pure]
  have a8:=h2.length;refine⟨_,hr,?_⟩;match vs,vvs,h2,a8,h with
  |[x],[y],h2,_,h=>simp only[Option.some.injEq]at h;subst h;simp only[aW]at h2;simp_all
  |[],[],h2,_,h=>simp only[Option.some.injEq]at h;subst h;simp only[RV];simp_all
  |x::x'::l,y::y'::l',h2,_,h=>simp only[Option.some.injEq]at h;subst h;simp only[RV];simp_all
theorem yA:dL (SS S0 φ) w S0 w:=λ_ h _=>⟨h.1,rfl⟩
theorem tu{f:AV->Option AV}{S:Nat->Prop}{ψ:List bI}(hf:∀x v y,RV (SS S0 φ) w φ x v->f x=some y->RV S w ψ y v):∀{l l':List AV} {vs:List Value},aW (SS S0 φ) w φ l vs->uu f l=some l'->aW S w ψ l' vs
 |[],l',vs,h,hm=>by
  simp only[uu,Option.some.injEq]at hm;subst hm;cases vs with
  |nil=>simp[aW]
  |cons _ _=>simp[aW]at h
 |x::l,l',vs,h,hm=>by
  cases vs with
  |nil=>simp[aW]at h
  |cons v vs=>
   simp only[aW]at h;simp only[uu]at hm;split at hm
   case h_2=>cases hm
   case h_1 y hy=>
   split at hm
   case h_2=>cases hm
   case h_1 l1 hl=>
   cases hm;simp only[aW];exact⟨hf _ _ _ h.1 hy,tu hf h.2 hl⟩
theorem ah3(hJ:∀b,eH φ b->S0 b)(hs:HS S0 φ objs w){i s sz s':Nat}{aa:List (List D)}{v:Value}(hv:RV S w φ (.ow i s) v)(ho:dq objs i=some (.arr sz s' aa))(Rk:s=s') :
  Rd S0 w (.sl aa) v:=by
 simp only[RV]at hv;obtain⟨_,ph,fj,hx⟩:=hv;have hk:=cO hs fj ho;cases ph<;>simp only[bj]at hk
 rename_i Jy s2 v2 Hp;obtain⟨rfl,he,a8,hk⟩:=hk;obtain⟨_,hx⟩:=hx _ _ _ _ rfl;have hx:=hx aq;subst hx;rcases hk with ⟨a2,rfl,rfl,_⟩|⟨b,o,cap,cs,T,rfl,rfl,bg,hn,su,hle,uK⟩
 exact .nil _ _;have hb:eH φ b:=⟨i,_,fj,rfl⟩;refine Rd.sl (sz:=sz) (λi j=>(cs[o+i*sz+j]?).getD undef) (hJ b hb) bg hn su (λi r hi=>a8 r (sq hi)) (λi r j x hi hj=>?_) (λi r j x hi hj=>?_);grind;obtain ⟨y,h1,h2⟩:=uK i r j x hi hj;rw[h1];exact h2.mono yA
theorem BO(hJ:∀b,eH φ b->S0 b)(hs:HS S0 φ objs w):∀(n:Nat) {x y:AV} {v:Value},RV (SS S0 φ) w φ x v->iP objs n x=some y->RV S0 w [] y v:=by
 intro n;induction n with
 |zero=>intro x y v _ h;simp[iP]at h
 |succ n ih=>
  intro x y v hx h;simp only[iP]at h;split at h
  case h_1 l=>
   split at h
   case h_2=>cases h
   case h_1 l' hl=>
   cases h;simp only[RV]at hx ⊢;exact al4
  case h_2 l=>
   split at h
   case h_2=>cases h
   case h_1 l' hl=>
   cases h;simp only[RV]at hx ⊢;exact al4
  case h_3 i s=>
   split at h
   case h_2=>cases h
   case h_1 sz s' aa ho=>
   obtain⟨Rk,h⟩:=TQ h;cases h;simp only[RV];exact ah3 hJ hs hx ho (cB Rk)
  case h_4 i off=>
   split at h
   case h_2=>cases h
   case h_1 l ho=>
   split at h
   case h_2=>cases h
   case h_1 l' hl=>
   split at h
   case h_2=>cases h
   case h_1 ds kx=>
   cases h;simp only[RV]at hx;obtain⟨b,hb,rfl⟩:=hx;have hk:=cO hs hb ho;simp only[bj]at hk;obtain⟨cs,T,bg,lM⟩:=hk;have h1:=tu (S:=S0) (ψ:=[]) (λx v y h1 h2=>ih h1 h2) lM hl;have h2:=pP h1 kx;simp only[RV];refine Rd.bL (λj=>(cs[off+j]?).getD undef) (hJ b ⟨i,_,hb,rfl⟩) bg (λj x hj=>?_) (λj x hj=>?_);obtain ⟨u,h3,_⟩:=h2.get (off+j) (x:=.d x) (by rw [fP]; rw [Hk]at hj; rw [hj]; rfl);simp[h3];obtain ⟨u,h3,h4⟩:=h2.get (off+j) (x:=.d x) (by rw [fP]; rw [Hk]at hj; rw [hj]; rfl);rw[h3];simpa[RV]using h4
  case h_5=>cases h;simp only[RV]at hx ⊢;subst hx;exact .v _
  case h_6=>cases h;simp only[RV]at hx ⊢;subst hx;exact .v _
  case h_7=>cases h;simp only[RV]at hx ⊢;exact hx.1.mono yA
  case h_8=>cases h;simp only[RV]at hx ⊢;cases hx;exact .nil _ _
  case h_9=>cases h;simp only[RV]at hx ⊢;exact hx.mono yA
  case h_10 f m c=>
   split at h
   case h_2=>cases h
   case h_1 a' ha=>
   split at h
   case h_2=>cases h
   case h_1 c' hc=>
   cases h;simp only[RV]at hx ⊢;obtain⟨va,vc,h1,h2,h3⟩:=hx;exact⟨va,vc,h1,tu (λx v y h1 h2=>ih h1 h2) h2 ha,tu (λx v y h1 h2=>ih h1 h2) h3 hc⟩
  simp_all
end
section
variable {g:G} {pf:Nat->cI}
theorem HS.shut{S0:Nat->Prop}{φ:List bI}{D:Nat}{o o':Obj}(h:HS S0 φ objs w)(hD:w.heap[D]? = some o)(hc:¬ Re o)(hn:¬ eH φ D):HS S0 φ objs (w.putObj D o') where
 len:=h.len
 ok i ph ob h1 h2:=(h.ok i ph ob h1 h2).mono (λb hb ⟨o2,rC,V7⟩=>⟨hb,World.putObj_heap_other λe=>by simp_all⟩) (.refl _) aD λb hb=>World.putObj_heap_other λe=>hn ⟨i,ph,h1,e ▸ hb⟩
 jO:=h.jO
 lt b hb:=by simpa using h.lt b hb
 up b hb:=h.up b (by simpa using hb)
theorem yB{D:Nat}{o o':Obj}(hD:w.heap[D]? = some o)(hc:¬ Re o):dL S w S (w.putObj D o') :=λb hb ⟨o2,rC,V7⟩=>⟨hb,World.putObj_heap_other λe=>by simp_all⟩
def N3 (g:G)(E:bq)(objs:List Ob)(tmps:Array Value)(ds rX:List Deferred)(w:World):Prop :=∃φ,HS g.S0 φ objs w/\(∀b,eH φ b->g.w0.heap.size<=b\/g.X0 b)/\lg (SS g.S0 φ) w φ E {tmps:=tmps,defers:=[]}/\tmps.size=g.N/\EB g φ ds w/\Fr0 g φ w/\wL (SS g.S0 φ) w φ g.rZ rX
theorem fi.told{a:Act}(h:fi g E objs a w):∃ds rX,a.defers=ds++rX/\N3 g E objs a.tmps ds rX w:=by obtain⟨φ,h1,h2,h3,h4,⟨ds,rX,e,h5,h7⟩,h6⟩:=h;exact⟨ds,rX,e,φ,h1,h2,h3,h4,h5,h6,h7⟩
theorem N3.shut{E:bq}{objs:List Ob}{tmps:Array Value}{d:Deferred}{ds rX:List Deferred}{w:World}(h:N3 g E objs tmps (d::ds) rX w) :
  ∃D,d={target:=.collected D,args:=#[]}/\w.heap[D]? = some (.deferred (some []))/\N3 g E objs tmps ds rX (w.putObj D (.deferred none)):=by
 obtain⟨φ,h1,h2,h3,h4,h5,h6,h7⟩:=h;obtain⟨D,hd,hDw,hn,hD⟩:=h5.2.2 d aD;refine⟨D,hd,hD,φ,h1.shut hD (λh=>h) hn,h2,λt=>(h3 t).mono (yB hD (λh=>h)) (.refl _),h4,⟨λhm=>(by have:=h5.1 hm;cases this),(Bo.1 h5.2.1).2,λd' V6=>?_⟩,?_,h7.mono (yB hD (λh=>h)) (.refl _)⟩;obtain ⟨D',h7,h8,h9,mH⟩:=h5.2.2 d' (by simp [V6]);refine⟨D',h7,h8,h9,?_⟩;rw[World.putObj_heap_other λe=>?_];exact mH;subst e;exact(Bo.1 h5.2.1).1 ir;exact⟨by simpa using h6.size,h6.os,h6.tape,h6.out,λb hb hx=>(World.putObj_heap_other aq).trans (h6.fr b hb hx),h6.gen,h6.le⟩
theorem vk{E:bq}{objs:List Ob}{fn:Func}{R':Ending->World->Prop}(fin:∀rX tmps w,N3 g E objs tmps [] rX w->LeavesInM g.F g.dep g.P fn tmps R' rX .returning w) :
  ∀(ds rX:List Deferred) (tmps:Array Value) (w:World),N3 g E objs tmps ds rX w->LeavesInM g.F g.dep g.P fn tmps R' (ds++rX) .returning w
 |[],rX,tmps,w,h=>fin rX tmps w h
 |d::ds,rX,tmps,w,h=>by obtain⟨D,hd,hD,hs⟩:=h.shut;simp only[jo,LeavesInM];exact⟨by simp,.inl ⟨D,_,by rw[hd],run_takeDeferred hD,vk fin ds rX tmps _ hs⟩⟩
theorem FC(jP:g.rZ=[]){R':Ending->World->Prop}(fin:∀tmps w,fi g E objs {tmps:=tmps,defers:=[]} w->∃vv,(results fn tmps).run g.P w=.ok vv w/\R' (.returned vv) w)
  (a:Act) (w:World) (h:fi g E objs a w):LeavesInM g.F g.dep g.P fn a.tmps R' a.defers .returning w:=by
 obtain⟨ds,rX,e,hs⟩:=h.told;rw[e];refine vk (λrX tmps w h=>?_) ds rX a.tmps w hs;obtain⟨φ,h1,h2,h3,h4,h5,h6,h7⟩:=h;rw[jP]at h7;rw[h7.nil];simp only[LeavesInM,LeavesIn];exact fin tmps w ⟨φ,h1,h2,h3,h4,.none jP h5,h6⟩
def acy (g:G)(fn:Func)(r:AV):Exit->Act->World->Prop :=bodyPostM g.F g.dep g.P fn λe w'=>∃v,e=.returned v/\RV g.S0 w' [] r v/\Below g.w0.heap.size g.w0 w'
theorem qM{Fin:Exit->Act->World->Prop}:∀(k:List It) {a:Act} {w:World},Fin .ret a w->KP g Fin k .ret a w|[],_,_,h=>h| .code _::k,_,_,h=>qM k h| .jK _::k,_,_,h=>qM k h| .mark _::k,_,_,h=>qM k h| .dr _ _::k,_,_,h=>qM k h
def Rv (P:Program)(ty:Nat->Option Ty)(N:Nat)(w:World)(S:Nat->Prop):G :={P:=P,F:=Fence.wide,dep:=0,ty:=ty,N:=N,w0:=w,S0:=S,X0:=λ_=>False,φ0:=[],Y:=⟨[],λ_=>true⟩,XN:=true}
theorem ah4{P:Program}{ty:Nat->Option Ty}{N:Nat}(ha:gI P S w)(gv:jE P ty)(hm:P.follows .mixedOrders=true):di (Rv P ty N w S) :=⟨λ_=>trivial,ha.at0 λ_ _ h=>h,rfl,rfl,gv,hm⟩
structure FD (g:G):Prop where
 ok:di g
 rZ:g.rZ=[]
 x:∀b,¬ g.X0 b
 up:∀b,g.w0.heap.size<=b->g.S0 b
theorem ah5(hg:FD g){av r:AV}(n:Nat)(nK:oK g.ty E objs fn.results.toList=some av)(X7:iP objs n av=some r){a:Act}(hs:fi g E objs a w) :
  acy g fn r .ret a w/\acy g fn r .normal a w:=by
 suffices hl:LeavesInM g.F g.dep g.P fn a.tmps (λe w'=>∃v,e=.returned v/\RV g.S0 w' [] r v/\Below g.w0.heap.size g.w0 w') a.defers .returning w from⟨hl,hl⟩
 refine FC hg.rZ (E:=E) (objs:=objs) (λtmps w fk=>?_) a w hs;clear hs;have hs:=fk;obtain⟨φ,h1,h2,h3,h4,h5,h6⟩:=hs;obtain⟨vv,h7,h8⟩:=KL hg.ok.ty h1 h3 nK
 have hJ:∀b,eH φ b->g.S0 b:=λb hb=>by
  rcases h2 b hb with h|h
  exact hg.up b h;exact absurd h (hg.x b)
 have h9:=BO hJ h1 n h8 X7;have asW:Below g.w0.heap.size g.w0 w:=⟨h6.os,h6.tape,h6.out,h6.size,λb hb=>h6.fr b hb (hg.x b)⟩;simp_all
theorem wj(hg:FD g){k:List It}{av r r':AV}(n:Nat)(nK:oK g.ty E objs fn.results.toList=some av)(X7:iP objs n av=some r')(hr:r'=r):R g pf (acy g fn r) (.code .ret::k) E objs:=by subst hr;intro _ a w hs;exact wpIn_ret (qM k (ah5 hg n nK X7 hs).1)
def l3:List AV->Nat->bq|[],_=>[]|x::r,k=>(k,x)::l3 r (Nat.succ k)
theorem wJ:∀(l:List AV) (k t:Nat),lk (l3 l k) t=if t<k then .any else(l[t-k]?).getD .any|[],k,t=>by simp[l3,lk]|x::r,k,t=>by simp only[l3,lk];by_cases h:k=t;subst h;simp;rw [tA h,cond_false,wJ r (k+1) t];grind
theorem br.ej{P:Program}{ty:Nat->Option Ty}{f:Nat}{fn:Func}{c:Code}{args:List AV}{r:AV}(gv:jE P ty)(hm:P.follows .mixedOrders=true)(hf:P.funcs[f]? = some fn)(hb:fn.body=some c)
  (hn:(fn.name == "runtime.NumGoroutine")=false) (dA:fI pf c=true) (hN:args.length≤fn.ntmps)
  (h:∀(w:World) (S:Nat->Prop),FD (Rv P ty fn.ntmps w S)->R (Rv P ty fn.ntmps w S) pf (acy (Rv P ty fn.ntmps w S) fn r) [.code c] (l3 args 0) []):br P f args r:=by
 refine⟨jc hf hb hn,λS w bS ha T4 hv=>?_⟩;have hg:FD (Rv P ty fn.ntmps w S):=⟨ah4 ha gv hm,rfl,λ_ h=>h,T4⟩;have a8:=hv.length;refine callsIn_wide.1 (callsIn_of_wp_marks (F:=Fence.wide) (n:=0) hf hb trivial ?_)
 have hs:fi (Rv P ty fn.ntmps w S) (l3 args 0) [] {tmps:=bS.toArray++Array.replicate (fn.ntmps-bS.toArray.size) undef,defers:=[]} w:=by
  have JB:∀b,¬ eH [] b:=by rintro b ⟨i,p,h,_⟩;simp at h
  refine⟨[],⟨rfl,by simp,?_,λb hb=>absurd hb (JB b),T4⟩,λb hb=>absurd hb (JB b),λt=>?_,by simp[Rv];omega,.none rfl ⟨λ_=>rfl,.nil,by simp⟩,⟨eT _,rfl,rfl,rfl,λ_ _ _=>rfl,λi l I B h=>by simp at h,λi p h=>by simp[Rv]at h⟩⟩;intro i j p q b h;simp at h;rw [ah1,wJ];simp only[Xa,if_false,TE];cases ha:args[t]? with
  |none=>simp[RV]
  |some x=>exact mB8
 have hR:=RK.ej (pf:=pf) (k:=[.code c]) ⟨dA,trivial⟩ (h w S hg) aD _ _ hs;refine wpIn_mono hR ?_;intro e a' w' hk;cases e<;>exact hk
end
end ax
namespace ax
open Go Go.RowKit
variable{objs:List Ob}{gd:Option (Nat×Bool)}{k:List It}{aa:List (List D)}{E:bq}{after:Array Edge}{dst:Option Nat}{pos:String}{row:List D}{α:Type}{ty:Nat}
theorem N4{F:Fence}{n:Nat}{P:Program}{Q:Exit->Act->World->Prop}{a:Act}{w:World}{c:Code}(I:α->Act->World->Prop)(μ:α->Nat)(x0:α)(h₀:I x0 a w)
  (round:∀x a w,I x a w->c.wpIn F n P (Exit.then (λa' w'=>∃y,I y a' w'/\μ y<μ x) Q) a w):(Code.loop c).wpIn F n P Q a w:=by
 intro b k cs hro hb hr
 have key:∀j x a w,μ x=j->I x a w ->
   ∃e a' w',Q e a' w'/\ArrivesIn (Machine.fenced P F) P (lone (b.atR a (.code c :: .inLoop c::k)) cs w) b k cs e a' w':=by
  intro j;induction j using Nat.strongRecOn with
  |_ j ih=>
   intro x a w hn hI;obtain⟨e,a₁,w₁,hq,KM⟩:=round x a w hI b (.inLoop c::k) cs hro hb hr;cases e with
   |normal=>obtain⟨y,asX,fE⟩:=hq;obtain⟨e₂,a₂,w₂,asY,amw⟩:=ih (μ y) (hn ▸ fE) y a₁ w₁ rfl asX;exact⟨e₂,a₂,w₂,asY,.of_steps (StepsIn.trans KM (.one (fenced_calm hb hr rfl) stepR_inLoop)) amw⟩
   |exit id=>exact⟨_,a₁,w₁,hq,.pass (x:=.inLoop c) rfl (λ_ _=>.inl aD) KM⟩
   |goto l=>exact⟨_,a₁,w₁,hq,.pass (x:=.inLoop c) rfl (λ_ _=>.inl aD) KM⟩
   |ret=>exact⟨_,a₁,w₁,hq,.pass (x:=.inLoop c) rfl (λ_ _=>.inl aD) KM⟩
   |panic ch=>exact⟨_,a₁,w₁,hq,.pass (x:=.inLoop c) rfl (λ_ _=>.inl aD) KM⟩
   |outgrown=>exact⟨_,a₁,w₁,hq,.pass (x:=.inLoop c) rfl (λ_ _=>.inl aD) KM⟩
 obtain⟨e,a',w',hq,KM⟩:=key _ x0 a w rfl h₀;exact⟨e,a',w',hq,.of_steps (.one (fenced_calm hb hr rfl) stepR_loop) KM⟩
section
variable {g:G} {pf:Nat->cI} {ad:Array Oper} {Fin:Exit->Act->World->Prop}
theorem aK.up{o:Oper}{c:cI}{v:AV}(h:aK g ad o E objs .still v objs):aK g ad o E objs c v objs :=⟨λ_=>rfl,λ_ _ _=>.refl _,λE₁ o₁ jF a w h1 h2 h3=>h.step E₁ o₁ jF a w h1 (by grind) h3⟩
theorem cU{o:Oper}{r:List Oper}{objs objs':List Ob}{v:AV}(h:aK g ad o E objs (bQ pf o.op) v objs')(hr:R g pf Fin (.dr ad r::k) (bh E o.dst v) objs') :
  R g pf Fin (.dr ad (o::r)::k) E objs:=λho=>⟨v,objs',h,hr ho⟩
theorem Ny(hg:di g){f:Nat}{dW:List AV}{r:AV}(hc:br g.P f dW r){x:Operand}{args:Array Operand}{ts:Array Nat}
  {az:List Oper}    {fs cs:List AV}
  (bt:aH ad.toList E gd=some true) (hd:aQ ⟨g.ty,g.N⟩ dst=true) (hx:ev E x=.b9 f fs cs) (has:(fs++args.toList.map (ev E)++cs).map lO=dW) (hpa:lh dW=true) (hpr:mJ r=true)
  (hr:R g pf Fin (.dr ad az::k) (bh E dst r) objs) :
  R g pf Fin (.dr ad (⟨dst,.call {callee:=.value x,args:=args,argTypes:=ts},ty,pos,after,gd⟩::az)::k) E objs :=
 cU (aK.up (KK hg (cT bt) (dI hd) rfl hx has hpa hc hpr)) hr
theorem acz{S:Nat->Prop}{w:World}{v:Value}(h:Rd S w (.sl aa) v){i:Nat}(hi:aa[i]? = some row) :
  ∃b o cap,v=.slice (some ⟨b,o,none⟩) aa.length cap/\Rd S w (.bL row) (.pointer (some ⟨b,o+i*row.length,none⟩)):=by
 cases h with
 |nil a c=>simp at hi
 |@sl _ b o cap sz cs T fr g hS hb hl hc hsz hg hr=>refine⟨b,o,cap,rfl,?_⟩;have:=hsz i row hi;rw[this];exact .bL (λj=>g i j) hS hb (λj x hj=>hg i row j x hi hj) (λj x hj=>hr i row j x hi hj)
theorem FE(hg:di g){T:Nat}{x i:Operand}
   {n:Int}  {sz cq e:Nat} {z:List Value} {τ:Ty}
  (bt:aH ad.toList E gd=some true) (hd:aQ ⟨g.ty,g.N⟩ dst=true) (hx:lO (ev E x)=.d (.sl aa)) (hi:ev E i=.d (.v (.int .i64 n))) (hT:g.ty T=some ⟨sz,cq,z,.slice e⟩) (he:g.ty e=some τ)
  (h0:0<=n) (gY:aa[n.toNat]? = some row) (hsz:row.length=τ.size):aK g ad ⟨dst,.indexAddr T x i,ty,pos,after,gd⟩ E objs .still (.d (.bL row)) objs:=by
 refine .nJ hg (cT bt) (dI hd) aD cN (λ_ _ _=>.refl _) λφ o₁ jF a w E₁ uv hv ho hs=>?_
 have e:jF=o₁:=by grind
 subst e;have hρ:=ix (l:=Oper.looksAt ad ⟨dst,.indexAddr T x i,ty,pos,after,gd⟩) uv hv
 have hev:∀y∈([x,i]:List Operand),pQ (Oper.looksAt ad ⟨dst,.indexAddr T x i,ty,pos,after,gd⟩) E y=ev E y:=λy hy=>by
  cases y with
  |tmp t=>simp[pQ,ev,tB (ad:=ad) (o:=⟨dst,.indexAddr T x i,ty,pos,after,gd⟩) (t:=t) (by simpa[Op.operands]using hy)]
  |_=>rfl
 have aP:=bJ.lO _ _ _ _ _ (hρ x);rw[hev x aD,hx]at aP;have wQ:=hρ i;rw[hev i aD,hi]at wQ;simp only[RV]at aP wQ;generalize hvi:a.eval i=vi at wQ;cases wQ;obtain⟨b,o,cap,k9,uK⟩:=acz aP gY;have fE:n.toNat<aa.length:=(fu.1 gY).1;have Jz:=(hg.ty _ _ hT).sh;simp only[bH]at Jz;refine aZ hs (vv:=.pointer (some ⟨b,o+n.toNat*row.length,none⟩)) ?_ (by simp only[RV];exact uK);have fo:(Instr.indexAt T (a.eval x) (a.eval i)).run g.P w=.ok (.pointer (some ⟨b,o+n.toNat*row.length,none⟩)) w:=by simp only[Instr.indexAt,k9,hvi,asIntOf,underlying,Sem.run_bind,Sem.run_pure,run_program,Result.andThen_ok,Jz];rw[Sem.run_ite,if_pos ⟨h0,by omega⟩];simp only[Sem.run_bind,run_sizeOf (hg.ty _ _ he),Result.andThen_ok,Sem.run_pure,fU,hsz]
 simp only[execOp,Sem.run_bind,fo,Result.andThen_ok,Sem.run_pure]
theorem dX(hg:di g){T:Nat}{x i:Operand}{az:List Oper}
   {n:Int}  {sz cq e:Nat} {z:List Value} {τ:Ty}
  (bt:aH ad.toList E gd=some true) (hd:aQ ⟨g.ty,g.N⟩ dst=true) (hx:lO (ev E x)=.d (.sl aa)) (hi:ev E i=.d (.v (.int .i64 n))) (hT:g.ty T=some ⟨sz,cq,z,.slice e⟩) (he:g.ty e=some τ)
  (h0:0<=n) (gY:aa[n.toNat]? = some row) (hsz:row.length=τ.size)
  (hr:R g pf Fin (.dr ad az::k) (bh E dst (.d (.bL row))) objs):R g pf Fin (.dr ad (⟨dst,.indexAddr T x i,ty,pos,after,gd⟩::az)::k) E objs :=
 cU (aK.up (FE hg bt hd hx hi hT he h0 gY hsz)) hr
theorem a7(st:α->bq×List Ob)(inv:α->Prop)(μ:α->Nat)(x0:α){b:Code}
  (h0:inv x0) (hE:oJ E (st x0).1) (hO:objs=(st x0).2)
  (N5:∀x,inv x->R g pf Fin (.code b :: .mark (λE' objs'=>∃y,inv y/\μ y<μ x/\oJ E' (st y).1/\objs'=(st y).2)::k) (st x).1 (st x).2) :
  R g pf Fin (.code (.loop b)::k) E objs:=by
 rintro⟨ov,ho⟩ a w hs;simp only[fI]at ov;subst hO;simp only[KP];refine N4 (λx a w=>inv x/\fi g (st x).1 (st x).2 a w) μ x0 ⟨h0,hs.Ag hE.T3⟩ λx a w hx=>?_
 have h1:=RK.ej (pf:=pf) (k:=.code b :: .mark (λE' objs'=>∃y,inv y/\μ y<μ x/\oJ E' (st y).1/\objs'=(st y).2)::k) ⟨ov,ho⟩ (N5 x hx.1) aD a w hx.2;refine wpIn_mono h1 λe a' w' hk=>?_
 cases e<;>first
  |exact hk
  | (obtain ⟨E',objs',⟨y,h2,h3,h4,h5⟩,h6⟩:=hk
     subst h5;exact⟨y,⟨h2,h6.Ag h4.T3⟩,h3⟩)
theorem yC{M:bq->List Ob->Prop}(h:M E objs):R g pf Fin (.mark M::k) E objs:=λ_ _ _ hs=>⟨E,objs,h,hs⟩
theorem bb{st:α->bq×List Ob}{inv:α->Prop}{μ:α->Nat}{x:α}(y:α)(h1:inv y)(h2:μ y<μ x)(h3:oJ E (st y).1)(h4:objs=(st y).2) :
  R g pf Fin (.mark (λE' objs'=>∃y,inv y/\μ y<μ x/\oJ E' (st y).1/\objs'=(st y).2)::k) E objs:=yC ⟨y,h1,h2,h3,h4⟩
end
end ax
namespace ax
open Go Go.RowKit
variable{aa:List (List D)}{S:Nat->Prop}{w:World}{P:Program}{φ:List bI}{xa a:Option Addr}{sz xc n:Nat}{v x:Value}{p:bI}
theorem lP{i:Nat}{b:Nat}(h:eH (φ.set i p) b):(∃j q,j≠i/\φ[j]? = some q/\q.bl b)\/p.bl b:=by obtain⟨j,q,h1,h2⟩:=h;grind
theorem j8.swap{S0:Nat->Prop}{objs:List Ob}{w w':World}{i:Nat}{p p':bI}{pO:Ob}(h:HS S0 φ objs w)(hi:φ[i]? = some p)(hle:TO p p')(hsz:w.heap.size<=w'.heap.size)
  (hk:∀c,c<w.heap.size->¬ p.bl c->w'.heap[c]? = w.heap[c]?) (hJ:∀b,p'.bl b->p.bl b\/(w.heap.size<=b/\b<w'.heap.size)) (hos:w'.os=w.os) (KN:w'.tape=w.tape) (jb:w'.output=w.output)
  (dA:dL (SS S0 φ) w (SS S0 (φ.set i p')) w'->kc φ (φ.set i p')->bj (SS S0 (φ.set i p')) w' (φ.set i p') p' pO) (hx:∀l I B,p'=bI.ext l I B->∃B0,p=bI.ext l I B0:=by intro _ _ _ h;cases h):j8 S0 φ w (φ.set i p') (objs.set i pO) w':=by
 have fE:i<φ.length:=(fu.1 hi).1
 have bF:dL (SS S0 φ) w (SS S0 (φ.set i p')) w':=.of λb hb HG=>by
  have hpb:¬ p.bl b:=λe=>hb.2 ⟨i,p,hi,e⟩
  refine⟨⟨hb.1,λhc=>?_⟩,hk b HG hpb⟩;rcases lP hc with ⟨j,q,_,h1,h2⟩|h1
  exact hb.2 ⟨j,q,h1,h2⟩;rcases hJ b h1 with h2| h2
  exact hpb h2;omega
 have ah6:kc φ (φ.set i p'):=λj q hj=>by by_cases uw:i=j;subst uw;rw[hi]at hj;cases hj;exact⟨p',by simp[fE],hle⟩;exact⟨q,by rw[wB uw];exact hj,.inl rfl⟩
 refine⟨⟨by simp[h.len],?_,?_,?_,λb hb=>h.up b aq⟩,bF,ah6,hsz,hos,KN,jb,λb hb hn=>hk b hb λe=>hn ⟨i,p,hi,e⟩,?_,?_⟩;intro j ph ob h1 h2;by_cases uw:i=j;subst uw;have ky:i<objs.length:=by rw[<-h.len];exact fE
 simp[fE]at h1;simp[ky]at h2;subst h1;subst h2;exact dA bF ah6;rw [wB uw]at h1 h2;refine(h.ok j ph ob h1 h2).mono bF ah6 hsz λb hb=>hk b (h.lt b ⟨j,ph,h1,hb⟩) λe=>uw (h.jO i j p ph b hi h1 e hb)
 have key:∀(j:Nat) (q:bI) (b:Nat),(φ.set i p')[j]? = some q->q.bl b->(j=i/\q=p')\/(j≠i/\φ[j]? = some q):=λj q b h1 _=>by by_cases uw:i=j;subst uw;simp[fE]at h1;exact .inl ⟨rfl,h1.symm⟩;rw[wB uw]at h1;exact .inr ⟨λe=>uw e.symm,h1⟩
 intro j k q r b h1 h2 h3 h4;rcases key j q b h1 h3 with ⟨rfl,rfl⟩|⟨g1,g2⟩<;>rcases key k r b h2 h4 with ⟨g3,g4⟩|⟨g3,g4⟩
 exact g3.symm;rcases hJ b h3 with h5| h5
 exact h.jO _ _ _ _ _ hi g4 h5 h4;have:=h.lt b ⟨k,r,g4,h4⟩;omega;subst g3; subst g4;rcases hJ b h4 with h5|h5
 exact h.jO _ _ _ _ _ g2 hi h3 h5;have:=h.lt b ⟨j,q,g2,h3⟩;omega;exact h.jO _ _ _ _ _ g2 g4 h3 h4;intro b hb;rcases lP hb with ⟨j,q,_,h1,h2⟩|h1
 have:=h.lt b ⟨j,q,h1,h2⟩;omega;rcases hJ b h1 with h2| h2
 have:=h.lt b ⟨i,p,hi,h2⟩;omega;exact h2.2;intro b hb;rcases lP hb with ⟨j,q,_,h1,h2⟩|h1
 exact .inl ⟨j,q,h1,h2⟩;rcases hJ b h1 with h2| h2
 exact .inl ⟨i,p,hi,h2⟩;exact .inr h2.1;grind
theorem j8.add{S0:Nat->Prop}{objs:List Ob}{w w':World}{ob:Ob}(h:HS S0 φ objs w)(hsz:w.heap.size<=w'.heap.size)
  (hk:∀c,c<w.heap.size->w'.heap[c]? = w.heap[c]?) (hJ:∀b,p.bl b->w.heap.size<=b/\b<w'.heap.size) (hos:w'.os=w.os) (KN:w'.tape=w.tape) (jb:w'.output=w.output)
  (dA:dL (SS S0 φ) w (SS S0 (φ++[p])) w'->bj (SS S0 (φ++[p])) w' (φ++[p]) p ob) (hx:∀l I B,p≠bI.ext l I B:=by intro _ _ _ h;cases h):j8 S0 φ w (φ++[p]) (objs++[ob]) w':=by
 have bF:dL (SS S0 φ) w (SS S0 (φ++[p])) w':=.of λb hb HG=>⟨⟨hb.1,λhc=>by
  rcases tv.1 hc with hc|hc
  exact hb.2 hc;grind⟩,hk b HG⟩
 refine⟨⟨by simp[h.len],?_,Kq h.jO λb hb hc=>by have:=h.lt b hc;grind,λb hb=>?_,λb hb=>h.up b aq⟩,bF,.app _ _,hsz,hos,KN,jb,λb hb _=>hk b hb,λb hb=>?_,λ_ _ _ B h=>⟨B,Rf hx h⟩⟩;intro i ph pO h1 h2;rcases qE i φ.length with hi|hi
 rw [mv hi]at h1;rw[mv ab2]at h2;exact(h.ok i ph pO h1 h2).mono bF (.app _ _) hsz λb hb=>hk b (h.lt b ⟨i,ph,h1,hb⟩)
 rw [nA hi]at h1;rw[nA ab2]at h2;grind;rcases tv.1 hb with hb| hb
 have:=h.lt b hb;omega;simp_all;rcases tv.1 hb with hb| hb
 exact .inl hb;simp_all
structure EE (P:Program) (S:Nat->Prop) (w:World) (sz:Nat) (aa:List (List D)) (v:Value) (cells:List Value):Prop where
 sl:∃a c,v=.slice a aa.length c
 run:∀w',w'.heap=w.heap->(Builtin.firstCells sz aa.length v).run P w'=.ok cells.toArray w'
 len:cells.length=aa.length*sz
 rd:∀(i:Nat) (r:List D) (j:Nat) (x:D),aa[i]? = some r->r[j]? = some x->∃y,cells[i*sz+j]? = some y/\Rd S w x y
theorem FF{k n sz:Nat}(h:k<n*sz):k / sz<n/\k % sz<sz/\k / sz*sz+k % sz=k:=by
 have hz:0<sz:=by grind
 refine⟨(Nat.div_lt_iff_lt_mul hz).2 h,Nat.mod_lt _ hz,?_⟩;rw[Nat.mul_comm];exact Nat.div_add_mod k sz
theorem EE.afK{sz b o cap T:Nat}{cs:Array Value}{fr:Nat×Nat}(hb:w.heap[b]? = some (.cells cs T fr))(hsz:∀r∈aa,r.length=sz)
  (hg:∀(i:Nat) (r:List D) (j:Nat) (x:D),aa[i]? = some r->r[j]? = some x->∃y,cs[o+i*sz+j]? = some y/\Rd S w x y) :
  EE P S w sz aa (.slice (some ⟨b,o,none⟩) aa.length cap) ((List.range (aa.length*sz)).map λk=>(cs[o+k]?).getD undef):=by
 have FG:∀k,k<aa.length*sz->∃y,cs[o+k]? = some y:=λk hk=>by obtain⟨h1,h2,h3⟩:=FF hk;have hr:aa[k / sz]? = some (aa[k / sz]):=dG h1;have hl:=hsz _ (dy h1);obtain⟨y,hy,_⟩:=hg (k / sz) _ (k % sz) _ hr (dG (by rw[hl];exact h2));grind
 refine⟨⟨_,_,rfl⟩,λw' hw=>?_,by simp,λi r j x hi hj=>?_⟩;refine run_firstCells_some w' sz aa.length ⟨b,o,none⟩ _ _ _ aD λj v hj=>?_
 rw[fP]at hj;have fE:j<aa.length*sz:=by grind
 rw[Xg fE]at hj;obtain⟨y,hy⟩:=FG j fE;simp only[ss,hy,Option.getD_some,Option.some.injEq]at hj;subst hj;rw[fU];simp[World.cell?,hw,hb,hy];have mG:=(fu.1 hi).1;have mF:=hsz r (sq hi);have BP:=(fu.1 hj).1;have fE:i*sz+j<aa.length*sz:=by have:(i+1)*sz<=aa.length*sz:=Fo _ mG;rw[vf]at this;omega
 grind
theorem EE.empty{sz c:Nat}:EE P S w sz [] (.slice a 0 c) []:=by
 refine⟨⟨_,_,rfl⟩,λw' _=>?_,by simp,by simp⟩;cases a with
 |none=>exact run_firstCells_none w' sz _ _ _
 |some a=>exact run_firstCells_some w' sz 0 a 0 c [] aD aD
theorem EE.FH(h:Rd S w (.sl aa) v)(hsz:∀r∈aa,r.length=sz):∃cells,EE P S w sz aa v cells:=by
 cases h with
 |nil a c=>exact⟨[],.empty⟩
 |@sl _ b o cap Nn cs T fr g hS hb hl hc ah7 hg hr=>refine⟨_,EE.afK hb hsz λi r j x hi hj=>⟨g i j,?_,hr i r j x hi hj⟩⟩;grind
theorem EE.amy{sz s:Nat}{ob:Option Nat}{Nn s':Nat}(h:bj S w φ (.o8 sz s v ob) (.arr Nn s' aa)):∃cells,EE P S w sz aa v cells:=by
 simp only[bj]at h;obtain⟨_,_,hsz,h⟩:=h;rcases h with ⟨a,rfl,rfl,_⟩|⟨b,o,cap,cs,T,rfl,_,hb,_,_,_,uK⟩
 exact⟨[],.empty⟩;exact⟨_,EE.afK hb hsz λi r j x hi hj=>by simp_all⟩
theorem EE.one{cells:List Value}(h:EE P S w sz aa v cells)(hsz:∀r∈aa,r.length=sz)(h1:∀r∈aa,∀x∈r,pD (.d x)=true) :
  ∀c∈cells,c.oneCell'=true:=by
 intro c hc;obtain⟨k,hk⟩:=wD.1 hc;have fE:=(fu.1 hk).1;rw[h.len]at fE;obtain⟨g1,g2,g3⟩:=FF fE;have hl:=hsz _ (dy g1);have hx:(aa[k / sz])[k % sz]? = some (aa[k / sz][k % sz]' aq):=dG _;obtain⟨y,hy,uK⟩:=h.rd (k / sz) _ (k % sz) _ (dG g1) hx;rw[g3,hk]at hy;cases hy;exact(Bz (φ:=[]) (x:=.d _) (by simp only[RV];exact uK) (h1 _ (dy g1) _ (dy _))).1
section
variable {P:Program} {w:World} {T T' tr e e':Nat} {τ:Ty}
theorem HH(hT:P.underlying T=some (.slice e))(lf:P.underlying T'=some (.slice e'))(he:kK P e τ){b o n cap m:Nat}(hx:x=.slice xa m xc){cz:List Value}
  (hn:(Builtin.firstCells τ.size m x).run P w=.ok cz.toArray w) (X8:cz.length=m*τ.size) (h1:∀c∈cz,c.oneCell'=true) {cs:List Value} {Tb:Nat} (hb:w.heap[b]? = some (.cells cs.toArray Tb (0,0))) (lY:n+m<=cap) (hle:o+cap*τ.size<=cs.length) :
  ∃w',(Builtin.append_ #[T,T'] tr #[.slice (some ⟨b,o,none⟩) n cap,x]).run P w=.ok (.slice (some ⟨b,o,none⟩) (n+m) cap) w'/\NU w w' b Tb (dB cs (o+n*τ.size) cz):=by
 have hmul:(n+m)*τ.size<=cap*τ.size:=Fo _ lY;rw[Nat.add_mul]at hmul;obtain⟨w',h2,h3⟩:=nE (P:=P) cz 0 (o+n*τ.size) w cs hb h1 aq;obtain⟨i,z,ny,Np,hi3,hi4,_⟩:=he.info;refine⟨w',?_,by simpa using h3⟩;subst hx;simp[Builtin.append_,Builtin.lenOf,run_underlying hT,run_underlying lf,run_sizeOf he,lY,hn,fU,h2]
theorem mS(hT:P.underlying T=some (.slice e))(lf:P.underlying T'=some (.slice e'))(he:kK P e τ){n cap:Nat}(hx:x=.slice xa 0 xc)
  (hn:(Builtin.firstCells τ.size 0 x).run P w=.ok #[] w) (hc:n<=cap) :
  (Builtin.append_ #[T,T'] tr #[.slice a n cap,x]).run P w=.ok (.slice a n cap) w:=by
 subst hx;cases a<;>simp[Builtin.append_,run_underlying hT,run_underlying lf,run_sizeOf he,Builtin.lenOf,hn,hc,storeCells]
theorem qN(hT:P.underlying T=some (.slice e))(lf:P.underlying T'=some (.slice e'))(he:kK P e τ){n cap m:Nat}(hx:x=.slice xa m xc){sD cz:List Value}
  (ho:∀w',w'.heap=w.heap->(Builtin.firstCells τ.size n (.slice a n cap)).run P w'=.ok sD.toArray w') (hn:∀w',w'.heap=w.heap->(Builtin.firstCells τ.size m x).run P w'=.ok cz.toArray w')
  (hg:cap<n+m) (qO:(n+m)*τ.bytes<=140737488355328) (uk:n+m<=maxLen) :
  ∃(zs:List Value) (o9:Nat),n+m<=o9/\o9<=maxLen/\zs.length=(o9-(n+m))*τ.size /\
   (Builtin.append_ #[T,T'] tr #[.slice a n cap,x]).run P w=.ok (.slice (some ⟨w.heap.size,0,none⟩) (n+m) o9) (w.drew.alloc (.cells (sD++cz++zs).toArray e)):=by
 obtain⟨i,z,ny,Np,hi3,hi4,hi5⟩:=he.info;have hzs:z.cells.size=τ.size:=by have:=he.zl;grind
 refine⟨(Builtin.zeroCells z.cells (grownCap w (n+m) cap e-(n+m))).toList,grownCap w (n+m) cap e,grownCap_ge w _ _ _,grownCap_le_maxLen w _ _ _ uk,?_,?_⟩;rw[ab9,size_zeroCells,hzs];subst hx;have h1:¬ (n+m<=cap):=by omega
 have h2:¬ (9223372036854775807<((n:Int)+(m:Int))):=by simp only[maxLen]at uk;omega
 have h3:¬ (281474976710656<Builtin.nextslicecap (n+m) cap*i.bytes):=by have:=growslice_fits hg qO;rw[hi4];omega
 have Bf:=hn w.drew rfl;have we:=ho w.drew rfl;simp[Builtin.append_,run_underlying hT,run_underlying lf,run_sizeOf he,typeInfo,zeroValue,ny,Np,Builtin.lenOf,h1,h2,h3,Question.forced,Bf,we,newRow,grownCap];congr 2;simp_all
end
end ax
namespace ax
open Go Go.RowKit
variable{objs:List Ob}{E:bq}{o:Oper}{w:World}{v:AV}{sz:Nat}
section
variable {g:G} {pf:Nat->cI} {ad:Array Oper} {Fin:Exit->Act->World->Prop}
theorem ly{E E₁:bq}{S:Nat->Prop}{φ:List bI}{a:Act}(uv:∀t∈o.looksAt ad,bJ (lk E₁ t) (lk E t))(hv:lg S w φ E₁ a) :
  ∀y∈o.op.operands.toList,RV S w φ (ev E y) (a.eval y):=λy hy=>by
 have h:=ix (l:=o.looksAt ad) uv hv y;cases y with
 |tmp t=>simpa[pQ,ev,tB (ad:=ad) hy]using h
 |_=>exact h
theorem aK.effect(hg:di g){objs objs':List Ob}(bt:aH ad.toList E o.guard=some true)(hd:aQ ⟨g.ty,g.N⟩ o.dst=true)(HE:∀c,o.op≠.defer c)
  (jb:∀(φ:List bI) (a:Act) (w:World),(∀y∈o.op.operands.toList,RV (SS g.S0 φ) w φ (ev E y) (a.eval y))->HS g.S0 φ objs w->Out g.P (execOp a.eval o) g.S0 φ w v objs'):aK g ad o E objs .jz v objs':=by
 refine .nJ hg (cT bt) (dI hd) HE (λh=>absurd rfl (h _)) (λb h hb=>by cases h;omega) λφ o₁ jF a w E₁ uv hv ho hs=>?_
 rcases ho with ⟨h,_⟩|⟨_,h,_⟩|⟨rfl,rfl⟩
 cases h;cases h;exact jb φ a w (ly uv hv) hs
theorem aK.eU(hg:di g){objs objs':List Ob}{b:Nat}(hgr:Gr g.φ0.length b objs objs')(bt:aH ad.toList E o.guard=some true)(hd:aQ ⟨g.ty,g.N⟩ o.dst=true)(HE:∀c,o.op≠.defer c)
  (jb:∀(φ:List bI) (a:Act) (w:World),(∀y∈o.op.operands.toList,RV (SS g.S0 φ) w φ (ev E y) (a.eval y))->HS g.S0 φ objs w->Out g.P (execOp a.eval o) g.S0 φ w v objs'):aK g ad o E objs (.bT b) v objs':=by
 refine .nJ hg (cT bt) (dI hd) HE (λh=>absurd rfl (h _)) (λb' h _=>by simp_all) λφ o₁ jF a w E₁ uv hv ho hs=>?_
 rcases ho with ⟨h,_⟩|⟨_,h,_⟩|⟨rfl,rfl⟩
 cases h;cases h;exact jb φ a w (ly uv hv) hs
theorem aK.fW(hg:di g)(m:Nat)(bt:aH ad.toList E o.guard=some true)(hd:aQ ⟨g.ty,g.N⟩ o.dst=true)(HE:∀c,o.op≠.defer c)
  (jb:∀(φ:List bI) (a:Act) (w:World) (bW:List Ob),(Gr g.φ0.length m bW objs\/Gr g.φ0.length m objs bW)->(∀y∈o.op.operands.toList,RV (SS g.S0 φ) w φ (ev E y) (a.eval y))->HS g.S0 φ bW w->Out g.P (execOp a.eval o) g.S0 φ w v bW):aK g ad o E objs (.look (m+1)) v objs:=by
 refine .nJ hg (cT bt) (dI hd) HE cN (λ_ _ _=>.refl _) λφ o₁ jF a w E₁ uv hv ho hs=>?_
 rcases ho with ⟨h,_⟩|⟨m',h,hgr,rfl⟩|⟨rfl,rfl⟩
 cases h;cases h;exact jb φ a w jF hgr (ly uv hv) hs;exact jb φ a w jF (.inl (.refl _)) (ly uv hv) hs
theorem aK.quiet(hg:di g){c:cI}(bt:aH ad.toList E o.guard=some true)(hd:aQ ⟨g.ty,g.N⟩ o.dst=true)(HE:∀c,o.op≠.defer c)
  (jb:∀(φ:List bI) (objs:List Ob) (a:Act) (w:World),(∀y∈o.op.operands.toList,RV (SS g.S0 φ) w φ (ev E y) (a.eval y))->HS g.S0 φ objs w->Out g.P (execOp a.eval o) g.S0 φ w v objs):aK g ad o E objs c v objs:=by
 refine .nJ hg (cT bt) (dI hd) HE cN (λ_ _ _=>.refl _) λφ o₁ jF a w E₁ uv hv ho hs=>?_
 have e:jF=o₁:=by grind
 subst e;exact jb φ jF a w (ly uv hv) hs
theorem bX{T sz cq e:Nat}{z:List Value}(hg:di g)(h:g.ty T=some ⟨sz,cq,z,.slice e⟩):g.P.underlying T=some (.slice e):=by have:=(hg.ty _ _ h).sh;simpa only[bH]using this
theorem pb{o:Obj}:(w.drew.alloc o).heap[w.heap.size]? = some o:=heap_alloc_new w.drew o
theorem jR{o:Obj}{b:Nat}(h:b<w.heap.size):(w.drew.alloc o).heap[b]? = w.heap[b]? := fL (w:=w.drew) h
theorem FI{sD cz zs:List Value}{k:Nat}{y:Value}(h:(sD++cz)[k]? = some y):(sD++cz++zs)[k]? = some y:=by grind
theorem wR{S S':Nat->Prop}{w w':World}{P:Program}{aa cz:List (List D)}{v x:Value}{sD cells:List Value}(h1:EE P S w sz aa v sD)(h2:EE P S w sz cz x cells)(hk:dL S w S' w') :
  ∀(i:Nat) (r:List D) (j:Nat) (x:D),(aa++cz)[i]? = some r->r[j]? = some x->r.length=sz->∃y,(sD++cells)[i*sz+j]? = some y/\Rd S' w' x y:=by
 intro i r j x hi hj hl;have BP:=(fu.1 hj).1;rcases qE i aa.length with h|h
 rw [mv h]at hi;obtain⟨y,h3,h4⟩:=h1.rd i r j x hi hj;refine⟨y,?_,h4.mono hk⟩;grind;rw [nA h]at hi;obtain⟨y,h3,h4⟩:=h2.rd _ r j x hi hj;refine⟨y,?_,h4.mono hk⟩;have h5:aa.length*sz<=i*sz:=Fo _ h;rw[nA (by rw[h1.len];omega),h1.len,<-h3,Nat.sub_mul];congr 1;omega
theorem BQ{n0:Nat}{i sz s Nn s':Nat}{aa rows':List (List D)}(ho:dq objs i=some (.arr sz s aa)):Gr n0 1 objs (dj objs i (.arr Nn s' rows')):=λj x hj=>by rw[bE]at ho;rw[bx];by_cases e:j=i;subst e;rw[ho]at hj;cases hj;exact alO;grind
theorem JS(hg:di g){dst:Option Nat}{T T':Nat}{x y:Operand}{ty:Nat}{pos:String}{after:Array Edge}{gd:Option (Nat×Bool)}{az:List Oper}{k:List It}
  {i s sz q q' cq pA e e':Nat} {z z':List Value} {τ:Ty} {aa cz:List (List D)}
  (bt:aH ad.toList E gd=some true) (hd:aQ ⟨g.ty,g.N⟩ dst=true) (hx:ev E x=.ow i s) (ho:dq objs i=some (.arr sz s aa)) (hy:lO (ev E y)=.d (.sl cz))
  (hT:g.ty T=some ⟨q,cq,z,.slice e⟩) (lf:g.ty T'=some ⟨q',pA,z',.slice e'⟩) (he:g.ty e=some τ) (hsz:τ.size=sz) (a8:∀r∈cz,r.length=sz) (X9:∀r∈cz,∀x∈r,pD (.d x)=true)
  (qO:(aa.length+cz.length)*τ.bytes<=140737488355328) (uk:aa.length+cz.length<=140737488355328)
  (hr:R g pf Fin (.dr ad az::k) (bh E dst (.ow i (Nat.succ s))) (dj objs i (.arr sz (Nat.succ s) (aa++cz)))) :
  R g pf Fin (.dr ad (⟨dst,.call {callee:=.builtin .append,args:=#[x,y],argTypes:=#[T,T']},ty,pos,after,gd⟩::az)::k) E objs:=by
 refine cU (aK.eU hg (BQ ho) bt hd aD λφ a w hρ hs=>?_) hr;simp only[Op.operands,Call.operands]at hρ;have aP:=hρ x aD;rw[hx]at aP;have eC:=bJ.lO _ _ _ _ _ (hρ y aD);rw[hy]at eC;simp only[RV]at aP eC;obtain⟨_,ph,fj,aP⟩:=aP;have hk:=cO hs fj ho;cases ph<;>try (simp only[bj]at hk;done)
 rename_i Jy s2 v2 Hp;have Nq:=hk;simp only[bj]at Nq;obtain⟨rfl,rfl,mF,Nq⟩:=Nq;have hv:=(aP _ _ _ _ rfl).2 rfl;clear aP;rw[bx];obtain⟨sD,hF⟩:=EE.amy (P:=g.P) hk;subst hsz;obtain⟨cells,hN⟩:=EE.FH (P:=g.P) eC a8;have h1:=hN.one a8 X9;have hτ:=hg.ty _ _ he;obtain⟨xa,xc,Nr⟩:=hN.sl;have ez:∀r∈aa++cz,r.length=τ.size:=λr hr=>(cu.1 hr).elim (mF r) (a8 r)
 have KO:aa.length+cz.length<=maxLen:=by simp only[maxLen];omega
 have fE:i<φ.length:=(fu.1 fj).1
 have grow:∀(a0:Option Addr) (cap:Nat),v2=.slice a0 aa.length cap->cap<aa.length+cz.length->Out g.P (execOp a.eval ⟨dst,.call {callee:=.builtin .append,args:=#[x,y],argTypes:=#[T,T']},ty,pos,after,gd⟩) g.S0 φ w (.ow i (Nat.succ s)) (objs.set i (.arr τ.size (Nat.succ s) (aa++cz))):=by
  intro a0 cap yr su;subst yr;obtain⟨zs,o9,wc,Hs,Kl,fo⟩:=qN (tr:=ty) (bX hg hT) (bX hg lf) hτ Nr hF.run hN.run su qO KO;refine⟨.value (.slice (some ⟨w.heap.size,0,none⟩) (aa.length+cz.length) o9),.slice (some ⟨w.heap.size,0,none⟩) (aa.length+cz.length) o9,w.drew.alloc (.cells (sD++cells++zs).toArray e),φ.set i (.o8 τ.size (Nat.succ s) (.slice (some ⟨w.heap.size,0,none⟩) (aa.length+cz.length) o9) (some w.heap.size)),?_,.inl rfl,?_,?_⟩;simp only[execOp,resolve,invoke,builtin,Sem.run_bind,Sem.run_pure,Result.andThen_ok,sr,bM,fm,hv,fo];simp only [RV];simp_all;refine j8.swap hs fj (.inr (.inl ⟨_,_,_,_,_,_,_,_,rfl,rfl,NL _⟩)) ir (λc hc _=>jR hc) (λb hb=>?_) rfl rfl rfl λbF _=>?_
  simp only[bI.bl,Option.some.injEq]at hb;simp_all;simp only [bj];refine⟨trivial,trivial,ez,.inr ⟨_,0,o9,_,e,by simp_all,rfl,pb,by simp_all,Hs,?_,?_⟩⟩;simp only [List.length_append,hF.len,hN.len,Kl];rw[<-Nat.add_mul,<-Nat.add_mul];simp_all;intro i' r j x' hi hj;obtain⟨y',h3,h4⟩:=wR hF hN bF i' r j x' hi hj (ez r (sq hi));grind
 rcases Nq with ⟨a0,rfl,eE,rfl⟩|⟨b,o,cap,cs,Tb,rfl,rfl,bg,hn,su,hle,uK⟩
 by_cases hm:cz.length=0;have KQ:cz=[]:=kG.1 hm;subst KQ;subst eE;have sE:cells=[]:=kG.1 QW;subst sE;have fo:=mS (tr:=ty) (bX hg hT) (bX hg lf) hτ (a:=a0) (n:=0) (cap:=0) Nr (hN.run w rfl) cZ;refine⟨.value (.slice a0 0 0),.slice a0 0 0,w,φ.set i (.o8 τ.size (Nat.succ s) (.slice a0 0 0) none),?_,.inl rfl,?_,?_⟩;simp only[execOp,resolve,invoke,builtin,Sem.run_bind,Sem.run_pure,Result.andThen_ok,sr,bM,fm,hv,fo];simp only [RV];exact alU;refine j8.swap hs fj (.inr (.inl ⟨_,_,_,_,_,_,_,_,rfl,rfl,NL _⟩)) cZ (λ_ _ _=>rfl) (λb hb=>by simp [bI.bl]at hb) rfl rfl rfl λ_ _=>?_
 simp only[bj];exact⟨trivial,trivial,by simp,.inl ⟨_,rfl,rfl,trivial⟩⟩;grind;by_cases BR:aa.length+cz.length<=cap;obtain ⟨w',fo,cY⟩:=HH (tr:=ty) (bX hg hT) (bX hg lf) hτ Nr (hN.run w rfl) hN.len h1 bg BR hle;refine⟨.value (.slice (some ⟨b,o,none⟩) (aa.length+cz.length) cap),.slice (some ⟨b,o,none⟩) (aa.length+cz.length) cap,w',φ.set i (.o8 τ.size (Nat.succ s) (.slice (some ⟨b,o,none⟩) (aa.length+cz.length) cap) (some b)),?_,.inl rfl,?_,?_⟩;simp only[execOp,resolve,invoke,builtin,Sem.run_bind,Sem.run_pure,Result.andThen_ok,sr,bM,fm,hv,fo];simp only [RV];exact alU;refine j8.swap hs fj (.inr (.inl ⟨_,_,_,_,_,_,_,_,rfl,rfl,NL _⟩)) (by rw [cY.size]; exact eT _) (λc _ hc=>cY.other c λe=>hc Hj) (λb' hb=>.inl hb) cY.os cY.tape cY.out λbF _=>?_
 simp only[bj];refine⟨trivial,trivial,ez,.inr ⟨b,o,cap,_,Tb,by rw[List.length_append],rfl,cY.at_,by rw[List.length_append];exact BR,su,by rw[lN];exact hle,?_⟩⟩;have hmul:(aa.length+cz.length)*τ.size<=cap*τ.size:=Fo _ BR;rw[Nat.add_mul]at hmul
 have hsp:∀k,(dB cs (o+aa.length*τ.size) cells)[k]? = if k<o+aa.length*τ.size then cs[k]? else if k<o+aa.length*τ.size+cells.length then cells[k-(o+aa.length*τ.size)]? else cs[k]? := by
  intro k;have dK:=hN.len;have apF:∀m,m=o+aa.length*τ.size->dB cs m cells=cs.take m++cells++cs.drop (m+cells.length):=λm hm=>by have:=vl cells (cs.take m) ((cs.drop m).take cells.length) (cs.drop (m+cells.length)) Eu;rw[zi,Hl aq]at this;rw[List.append_assoc (cs.take m),<-List.drop_drop,List.take_append_drop,List.take_append_drop,List.drop_drop]at this;exact this
  rw[apF _ rfl];have Eh:(List.take (o+aa.length*τ.size) cs).length=o+aa.length*τ.size:=by simp;omega
  split;rw[List.append_assoc,mv aq,rP aq];split;rw[List.append_assoc,nA aq,Eh,mv aq];rw [nA J4,List.length_append,Eh,Hk];congr 1;omega
 intro i' r j x' hi hj;have as1:=ez r (sq hi);have BP:=(fu.1 hj).1;rcases qE i' aa.length with h|h
 rw [mv h]at hi;obtain⟨y',h3,h4⟩:=uK i' r j x' hi hj;refine⟨y',?_,h4.mono bF⟩;have h5:(i'+1)*τ.size<=aa.length*τ.size:=Fo _ h;rw[vf]at h5;rw[hsp,if_pos aq];exact h3;rw [nA h]at hi;obtain⟨y',h3,h4⟩:=hN.rd _ r j x' hi hj;refine⟨y',?_,h4.mono bF⟩;have h5:aa.length*τ.size<=i'*τ.size:=Fo _ h;have h6:=(fu.1 h3).1;rw[Nat.sub_mul]at h3 h6;rw[hsp,if_neg aq,if_pos aq,<-h3];congr 1;omega;simp_all
end
end ax
namespace ax
open Go Go.RowKit
variable{objs:List Ob}{k:List It}{E:bq}{w:World}
def gM:List It->Bool| .dr _ _::_=>false|_=>true
section
variable {g:G} {pf:Nat->cI} {ad:Array Oper} {Fin:Exit->Act->World->Prop}
theorem mT{E E':bq}{objs objs':List Ob}(ht:gM k=true)(h:∀a w,fi g E objs a w->fi g E' objs' a w)(hr:R g pf Fin k E' objs'):R g pf Fin k E objs:=by
 intro ho;have hr:=hr ho;cases k with
 |nil=>exact λa w hs=>hr a w (h a w hs)
 |cons x k=>
  cases x<;>first
   |exact λa w hs=>hr a w (h a w hs)
   |(simp[gM]at ht)
theorem j8.N6{S0:Nat->Prop}{φ:List bI}(hs:HS S0 φ objs w)(sz:Nat)(a:Option Addr) :
  j8 S0 φ w (φ++[.o8 sz 0 (.slice a 0 0) none]) (objs++[.arr sz 0 []]) w :=
 .add hs cZ (λ_ _=>rfl) (λb hb=>by simp[bI.bl]at hb) rfl rfl rfl λ_=>by simp only[bj];simp_all
theorem KR(t sz:Nat)(h:lk E t=.d (.v (.slice none 0 0)))(ht:gM k=true)(hr:R g pf Fin k (put E t (.ow (len objs) 0)) (objs++[.arr sz 0 []])):R g pf Fin k E objs:=by
 refine mT ht (λa w hs=>?_) hr;obtain⟨φ,h1,h2,h3,h4,h5,h6⟩:=hs;have cY:=j8.N6 h1 sz none;refine⟨_,cY.hs,λb hb=>?_,λu=>?_,h4,h5.Rc cY,h6.Kn cY.ext (h6.le.trans cY.le)⟩;rcases cY.own b hb with h| h
 exact h2 b h;left;have:=h6.size;omega;rw [yw];split;rename_i e; subst e;have hv:=h3 t;rw[h]at hv;simp only[RV]at hv ⊢;generalize a.tmps.getD t undef=v at hv;cases hv;refine⟨⟨_,_,_,rfl⟩,.o8 sz 0 (.slice none 0 0) none,by rw[bp,<-h1.len];simp,λsz s x ob h=>by grind⟩;exact(h3 u).mono cY.jj cY.le
theorem mx(i j sz:Nat){l:List AV}(ho:dq objs i=some (.box l))(h:dq l j=some (.d (.v (.slice none 0 0))))(ht:gM k=true)
  (hr:R g pf Fin k E (dj objs i (.box (dj l j (.ow (len objs) 0)))++[.arr sz 0 []])):R g pf Fin k E objs:=by
 refine mT ht (λa w hs=>?_) hr;obtain⟨φ,h1,h2,h3,h4,h5,h6⟩:=hs;have cY:=j8.N6 h1 sz none;rw[bE]at ho h;have mG:=(fu.1 ho).1;have fj:φ[i]? = some (φ[i]' ab3):=dG _;generalize φ[i]' jD=ph at fj;have hk:=cY.hs.ok i ph (.box l) jD jD;cases ph<;>try (simp only[bj]at hk;done)
 rename_i b;have Nq:=hk;simp only[bj]at Nq;obtain⟨cs,T,hb,lM⟩:=Nq
 have ah8:j8 g.S0 (φ++[bI.o8 sz 0 (.slice none 0 0) none]) w ((φ++[bI.o8 sz 0 (.slice none 0 0) none]).set i (.jK b)) ((objs++[Ob.arr sz 0 []]).set i (.box (dj l j (.ow (len objs) 0)))) w:=by
  refine j8.swap cY.hs jD (.inl rfl) cZ (λ_ _ _=>rfl) (λb hb=>.inl hb) rfl rfl rfl λbF hle=>?_
  simp only[bj];refine⟨cs,T,hb,?_⟩;rw[bx];obtain⟨v,hv1,yr⟩:=lM.get j h;have rC:cs=cs.set j v:=by apply TL;grind
  rw[rC];refine(lM.mono bF hle).set j ?_;simp only[RV]at yr ⊢;cases yr;refine⟨⟨_,_,_,rfl⟩,.o8 sz 0 (.slice none 0 0) none,?_,λsz s x ob h=>by grind⟩;rw[wB (by rw[bp];omega),bp,<-h1.len];simp
 have e1:(φ++[bI.o8 sz 0 (.slice none 0 0) none]).set i (.jK b)=φ++[bI.o8 sz 0 (.slice none 0 0) none]:=by apply TL;grind
 have e2:(objs++[Ob.arr sz 0 []]).set i (.box (dj l j (.ow (len objs) 0)))=dj objs i (.box (dj l j (.ow (len objs) 0)))++[.arr sz 0 []]:=by rw[List.set_append,if_pos mG];rw[bx objs i]
 have V0:=ah8.hs;rw[e1,e2]at V0;exact alL
def aR (f:AV->AV):Ob->Ob| .box l=>.box (l.map f)| .arr sz s aa=>.arr sz s aa| .map es=>.map (es.map λx=>(x.1,f x.2))| .Ju pre=>.Ju pre| .Jv hs aa=>.Jv hs aa| .Jw s pos=>.Jw s pos| .dead=>.dead| .gZ T l=>.gZ T (l.map f)| .qG e s bs=>.qG e s bs| .uj es=>.uj (es.map λx=>(x.1,f x.2))
theorem aW.map'{S S':Nat->Prop}{w w':World}{φ φ':List bI}(f:AV->AV)(hf:∀x v,RV S w φ x v->RV S' w' φ' (f x) v):∀{l:List AV} {vs:List Value},aW S w φ l vs->aW S' w' φ' (l.map f) vs|[],[],_=>by simp[aW]|[],_::_,h=>by simp[aW]at h|_::_,[],h=>by simp[aW]at h|a::l,v::vs,h=>by simp only[aW,bM]at h ⊢;exact⟨hf _ _ h.1,aW.map' f hf h.2⟩
theorem HS.KS{S0:Nat->Prop}{φ φ':List bI}{objs objs':List Ob}(h:HS S0 φ objs w)(f:AV->AV)(a8:φ'.length=objs'.length)(fj:∀(i:Nat) (p:bI) (b:Nat),φ'[i]? = some p->p.bl b->∃q,φ[i]? = some q/\q.bl b)
  (Ya:∀(i:Nat) (pO:Ob),objs'[i]? = some pO->pO=.dead\/(∃ob,objs[i]? = some ob/\φ'[i]? = φ[i]? /\ pO=aR f ob)\/∃ph,φ'[i]? = some ph/\bj (SS S0 φ') w φ' ph pO) (hf:∀x v,RV (SS S0 φ) w φ x v->RV (SS S0 φ') w φ' (f x) v):HS S0 φ' objs' w:=by
 have hJ:∀b,eH φ' b->eH φ b:=by rintro b ⟨i,p,h1,h2⟩;obtain⟨q,h3,h4⟩:=fj i p b h1 h2;exact⟨i,q,h3,h4⟩
 have bF:dL (SS S0 φ) w (SS S0 φ') w:=λb hb _=>⟨⟨hb.1,λhc=>hb.2 (hJ b hc)⟩,rfl⟩
 refine⟨a8,λi ph pO h1 h2=>?_,λi j p q b h1 h2 h3 h4=>?_,λb hb=>h.lt b (hJ b hb),h.up⟩;rcases Ya i pO h2 with rfl| ⟨ob,h3,h4,rfl⟩| ⟨ph',h3,h4⟩
 simp only[bj];rw [h1]at h4;have hk:=h.ok i ph ob h4.symm h3;cases ph<;>cases ob<;>simp only[bj,aR]at hk ⊢
 obtain ⟨cs,T,h5,h6⟩:=hk;exact⟨cs,T,h5,h6.map' f hf⟩;obtain ⟨ents,jr,h5,h6,h7⟩:=hk;exact alP;exact hk;obtain ⟨cs,h5,h6⟩:=hk;exact⟨cs,h5,h6.map' f hf⟩;obtain ⟨ents,jr,Eg,h0,h5,h6,h7⟩:=hk;exact alM;obtain ⟨h0,No,h5,h6⟩:=hk;exact ahE;exact hk;exact al8;obtain ⟨h0,No,h1,h2⟩:=hk;exact alJ;simp_all;obtain ⟨p',k1,k1'⟩:=fj i p b h1 h3;obtain⟨q',k2,k2'⟩:=fj j q b h2 h4;exact h.jO i j p' q' b k1 k2 k1' k2'
mutual
def pT (n:Nat):AV->Bool| .lo i _=>Nat.ble (Nat.succ i) n| .el i _ _ _=>Nat.ble (Nat.succ i) n| .vw i _ _=>Nat.ble (Nat.succ i) n| .ow i _=>Nat.ble (Nat.succ i) n| .mp i=>Nat.ble (Nat.succ i) n| .agg l=>vo n l| .cP l=>vo n l| .b9 _ a c=>bif vo n a then vo n c else false| .yl i=>Nat.ble (Nat.succ i) n|_=>true
def vo (n:Nat):List AV->Bool|[]=>true|x::l=>bif pT n x then vo n l else false
end
theorem Yb{c x:Bool}(h:(bif c then x else false)=true):c=true/\x=true:=by cases c<;>simp at h;exact⟨rfl,h⟩
mutual
theorem RV.ids{S S':Nat->Prop}{w:World}{φ φ':List bI}{n:Nat}(hk:dL S w S' w)(hp:∀i,i<n->φ'[i]? = φ[i]?):∀{x:AV} {v:Value},pT n x=true->RV S w φ x v->RV S' w φ' x v
 | .any,_,_,_=>by simp[RV]
 | .tt,_,_,h=>by simpa[RV]using h
 | .ff,_,_,h=>by simpa[RV]using h
 | .d x,v,_,h=>by simp only[RV]at h ⊢;exact h.mono hk
 | .fs aa,v,_,h=>by simp only[RV]at h ⊢;exact⟨h.1.mono hk,h.2⟩
 | .agg l,v,hn,h=>by simp only[RV]at h ⊢;simp only[pT]at hn;obtain⟨cs,h1,h2⟩:=h;exact⟨cs,h1,aW.ids hk hp hn h2⟩
 | .lo i off,v,hn,h=>by simp only[RV]at h ⊢;simp only[pT]at hn;rw[hp i (ko hn)];exact h
 | .el i t r j,v,hn,h=>by simp only[RV]at h ⊢;simp only[pT]at hn;rw[hp i (ko hn)];exact h
 | .vw i t r,v,hn,h=>by simp only[RV]at h ⊢;simp only[pT]at hn;rw[hp i (ko hn)];exact h
 | .ow i t,v,hn,h=>by simp only[RV]at h ⊢;simp only[pT]at hn;rw[hp i (ko hn)];exact h
 | .mp i,v,hn,h=>by simp only[RV]at h ⊢;simp only[pT]at hn;rw[hp i (ko hn)];exact h
 | .yl i,v,hn,h=>by simp only[RV]at h ⊢;simp only[pT]at hn;rw[hp i (ko hn)];exact h
 | .cP l,v,hn,h=>by simp only[RV]at h ⊢;simp only[pT]at hn;obtain⟨cs,h1,h2⟩:=h;exact⟨cs,h1,aW.ids hk hp hn h2⟩
 | .b9 f a c,v,hn,h=>by simp only[RV]at h ⊢;simp only[pT]at hn;obtain⟨hn1,V8⟩:=Yb hn;obtain⟨va,vc,h1,h2,h3⟩:=h;exact⟨va,vc,h1,aW.ids hk hp hn1 h2,aW.ids hk hp V8 h3⟩
theorem aW.ids{S S':Nat->Prop}{w:World}{φ φ':List bI}{n:Nat}(hk:dL S w S' w)(hp:∀i,i<n->φ'[i]? = φ[i]?):∀{l:List AV} {vs:List Value},vo n l=true->aW S w φ l vs->aW S' w φ' l vs|[],[],_,_=>by simp[aW]|[],_::_,_,h=>by simp[aW]at h|_::_,[],_,h=>by simp[aW]at h|a::l,v::vs,hn,h=>by simp only[aW]at h ⊢;simp only[vo]at hn;obtain⟨hn1,V8⟩:=Yb hn;exact⟨RV.ids hk hp hn1 h.1,aW.ids hk hp V8 h.2⟩
end
def dD (n:Nat)(x:AV):AV:=bif pT n x then x else .any
theorem wS{S S':Nat->Prop}{φ φ':List bI}{n:Nat}(hk:dL S w S' w)(hp:∀i,i<n->φ'[i]? = φ[i]?)(x:AV)(v:Value)(h:RV S w φ x v):RV S' w φ' (dD n x) v:=by unfold dD;cases hx:pT n x;simp[RV];exact RV.ids hk hp hx h
def qP (f:AV->AV):bq->bq|[]=>[]|(t,v)::r=>(t,f v)::qP f r
theorem tE{f:AV->AV}:∀(E:bq) (t:Nat),lk (qP f E) t=f (lk E t)\/(lk (qP f E) t=.any)|[],t=>.inr (by simp[qP,lk])|(k,v)::r,t=>by simp only[qP,lk];cases Nat.beq k t;exact tE r t;simp_all
theorem u5(n:Nat)(hn:g.φ0.length<=n)(ht:gM k=true)(hr:R g pf Fin k (qP (dD n) E) ((objs.take n).map (aR (dD n))))(jP:g.rZ=[]:=by rfl):R g pf Fin k E objs:=by
 refine mT ht (λa w hs=>?_) hr;obtain⟨φ,h1,h2,h3,h4,h5,h6⟩:=hs;have hp:∀i,i<n->(φ.take n)[i]? = φ[i]? := λi hi=>rP hi
 have hJ:∀b,eH (φ.take n) b->eH φ b:=by
  rintro b ⟨i,p,g1,g2⟩;have hi:i<n:=by grind
  exact⟨i,p,by simp_all,g2⟩
 have bF:dL (SS g.S0 φ) w (SS g.S0 (φ.take n)) w:=λb hb _=>⟨⟨hb.1,λhc=>hb.2 (hJ b hc)⟩,rfl⟩
 refine⟨φ.take n,h1.KS (dD n) (by simp[h1.len]) (λi p b hi hb=>⟨p,?_,hb⟩) (λi pO hi=>.inr (.inl ?_)) (wS bF hp),λb hb=>h2 b (hJ b hb),λu=>?_,h4,JA.Kn jP h5 hJ,h6.Kn (λi l I B h=>⟨B,by
  grind⟩) (λi p hi=>by
  obtain⟨p',h7,h8⟩:=h6.le i p hi;grind)⟩
 grind;grind;rcases tE (f:=dD n) E u with h| h
 rw[h];exact wS bF hp _ _ (h3 u);rw[h];simp[RV]
mutual
def kp (i s:Nat) (aa:List (List D)):AV->AV| .ow j t=>bif Nat.beq j i then(bif Nat.beq t s then .d (.sl aa)else .any)else .ow j t| .el j t r o=>bif Nat.beq j i then .any else .el j t r o| .vw j t r=>bif Nat.beq j i then .any else .vw j t r| .lo j o=>bif Nat.beq j i then .any else .lo j o| .mp j=>bif Nat.beq j i then .any else .mp j| .yl j=>bif Nat.beq j i then .any else .yl j| .agg l=>.agg (KT i s aa l)| .cP l=>.cP (KT i s aa l)| .b9 f a c=>.b9 f (KT i s aa a) (KT i s aa c)| .any=>.any| .tt=>.tt| .ff=>.ff| .d x=>.d x| .fs r=>.fs r
def KT (i s:Nat) (aa:List (List D)):List AV->List AV|[]=>[]|x::l=>kp i s aa x::KT i s aa l
end
mutual
theorem Rw{S S':Nat->Prop}{w:World}{φ φ':List bI}{i s:Nat}{aa:List (List D)}(hk:dL S w S' w)(hp:∀j,j≠i->φ'[j]? = φ[j]?)(ho:∀v,RV S w φ (.ow i s) v->Rd S' w (.sl aa) v) :
  ∀(x:AV) (v:Value),RV S w φ x v->RV S' w φ' (kp i s aa x) v
 | .any,_,_=>by simp[RV,kp]
 | .tt,_,h=>by simpa[RV,kp]using h
 | .ff,_,h=>by simpa[RV,kp]using h
 | .d x,v,h=>by simp only[RV,kp]at h ⊢;exact h.mono hk
 | .fs aa,v,h=>by simp only[RV,kp]at h ⊢;exact⟨h.1.mono hk,h.2⟩
 | .agg l,v,h=>by simp only[RV,kp]at h ⊢;obtain⟨cs,h1,h2⟩:=h;exact⟨cs,h1,wT hk hp ho l cs h2⟩
 | .lo j off,v,h=>by
  simp only[kp];cases hj:Nat.beq j i;have:j≠i:=λe=>by subst e; simp at hj
  simp only[RV,cond_false]at h ⊢;simp_all;simp[RV]
 | .el j t r o,v,h=>by
  simp only[kp];cases hj:Nat.beq j i;have:j≠i:=λe=>by subst e; simp at hj
  simp only[RV,cond_false]at h ⊢;simp_all;simp[RV]
 | .vw j t r,v,h=>by
  simp only[kp];cases hj:Nat.beq j i;have:j≠i:=λe=>by subst e; simp at hj
  simp only[RV,cond_false]at h ⊢;simp_all;simp[RV]
 | .mp j,v,h=>by
  simp only[kp];cases hj:Nat.beq j i;have:j≠i:=λe=>by subst e; simp at hj
  simp only[RV,cond_false]at h ⊢;simp_all;simp[RV]
 | .yl j,v,h=>by
  simp only[kp];cases hj:Nat.beq j i;have:j≠i:=λe=>by subst e; simp at hj
  simp only[RV,cond_false]at h ⊢;simp_all;simp[RV]
 | .ow j t,v,h=>by
  simp only[kp];cases hj:Nat.beq j i;have:j≠i:=λe=>by subst e; simp at hj
  simp only[cond_false];simp only[RV]at h ⊢;simp_all;have:=cB hj; subst this;simp only[cond_true];cases ht:Nat.beq t s;simp[RV];have:=cB ht; subst this;simp only[cond_true];have:=ho v h;simpa only[RV]using this
 | .cP l,v,h=>by simp only[RV,kp]at h ⊢;obtain⟨cs,h1,h2⟩:=h;exact⟨cs,h1,wT hk hp ho l cs h2⟩
 | .b9 f a c,v,h=>by simp only[RV,kp]at h ⊢;obtain⟨va,vc,h1,h2,h3⟩:=h;exact⟨va,vc,h1,wT hk hp ho a va h2,wT hk hp ho c vc h3⟩
theorem wT{S S':Nat->Prop}{w:World}{φ φ':List bI}{i s:Nat}{aa:List (List D)}(hk:dL S w S' w)(hp:∀j,j≠i->φ'[j]? = φ[j]?)(ho:∀v,RV S w φ (.ow i s) v->Rd S' w (.sl aa) v) :
  ∀(l:List AV) (vs:List Value),aW S w φ l vs->aW S' w φ' (KT i s aa l) vs
 |[],[],_=>by simp[aW,KT]
 |[],_::_,h=>by simp[aW]at h
 |_::_,[],h=>by simp[aW]at h
 |a::l,v::vs,h=>by simp only[aW,KT]at h ⊢;exact⟨Rw hk hp ho a v h.1,wT hk hp ho l vs h.2⟩
end
structure JC (g:G):Prop where
 up:∀b,g.w0.heap.size<=b->g.S0 b
 x:∀b,g.X0 b->g.S0 b
theorem FD.cm(h:FD g):JC g:=⟨h.up,λb hb=>absurd hb (h.x b)⟩
theorem BS(hu:JC g)(i:Nat){sz s:Nat}{aa:List (List D)}(ho:dq objs i=some (.arr sz s aa))(ht:gM k=true)
  (hr:R g pf Fin k (qP (kp i s aa) E) (dj (objs.map (aR (kp i s aa))) i .dead)) (jP:g.rZ=[]:=by rfl):R g pf Fin k E objs:=by
 refine mT ht (λa w hs=>?_) hr;obtain⟨φ,h1,h2,h3,h4,h5,h6⟩:=hs;rw[bE]at ho;have mG:=(fu.1 ho).1;have acA:i<φ.length:=by rw[h1.len];exact mG
 have KU:∀b,eH φ b->g.S0 b:=λb hb=>(h2 b hb).elim (hu.up b) (hu.x b)
 have hJ:∀b,eH (φ.set i .no) b->eH φ b:=λb hb=>by
  rcases lP hb with ⟨j,q,_,g1,g2⟩|g1
  exact⟨j,q,g1,g2⟩;simp[bI.bl]at g1
 have hp:∀j,j≠i->(φ.set i .no)[j]? = φ[j]? := λj hj=>wB (λe=>hj e.symm)
 have bF:dL (SS g.S0 φ) w (SS g.S0 (φ.set i .no)) w:=λb hb _=>⟨⟨hb.1,λhc=>hb.2 (hJ b hc)⟩,rfl⟩
 have fj:φ[i]? = some φ[i]:=dG acA
 have uK:∀v,RV (SS g.S0 φ) w φ (.ow i s) v->Rd (SS g.S0 (φ.set i .no)) w (.sl aa) v:=λv hv=>by
  simp only[RV]at hv;obtain⟨_,ph,fj,hx⟩:=hv;have hk:=h1.ok i ph _ fj ho;cases ph<;>try (simp only[bj]at hk;done)
  rename_i Jy s2 v2 Hp;simp only[bj]at hk;obtain⟨rfl,rfl,a8,hk⟩:=hk;have hx:=(hx _ _ _ _ rfl).2 rfl;subst hx;rcases hk with ⟨a2,rfl,rfl,_⟩|⟨b,o,cap,cs,T,rfl,rfl,bg,hn,su,hle,uK⟩
  exact .nil _ _;have hb:eH φ b:=⟨i,_,fj,rfl⟩
  have JB:¬ eH (φ.set i .no) b:=λhc=>by
   rcases lP hc with ⟨j,q,hj,g1,g2⟩|g1
   exact hj (h1.jO _ _ _ _ _ g1 fj g2 rfl);simp[bI.bl]at g1
  refine Rd.sl (sz:=sz) (λi j=>(cs[o+i*sz+j]?).getD undef) ⟨KU b hb,JB⟩ bg hn su (λi r hi=>a8 r (sq hi)) (λi r j x hi hj=>?_) (λi r j x hi hj=>?_);grind;obtain ⟨y,h1,h2⟩:=uK i r j x hi hj;rw[h1];exact h2.mono bF
 have hf:=Rw (aa:=aa) bF hp uK
 refine⟨φ.set i .no,h1.KS (kp i s aa) W5 (λj p b hj hb=>?_) (λj pO hj=>?_) hf,λb hb=>h2 b (hJ b hb),λu=>?_,h4,JA.Kn jP h5 hJ,h6.Kn (λj l I B h=>⟨B,by
  grind⟩) (λj p hj=>by
  obtain⟨p',h7,h8⟩:=h6.le j p hj;by_cases uw:j=i
  ·subst uw;refine⟨.no,u7 acA,?_⟩;have hk:=h1.ok j _ _ h7 ho;cases p'<;>try (simp only[bj]at hk;done)
   exact h8.trans (.inr (.inr (.inl ⟨_,_,_,_,rfl,rfl⟩)))
  simp_all)⟩
 by_cases uw:j=i;subst uw;rw[u7 acA]at hj;cases hj;exact hb.elim;simp_all;rw [bx]at hj;grind;rcases tE (f:=kp i s aa) E u with h| h
 rw[h];exact hf _ _ (h3 u);rw[h];simp[RV]
end
end ax
namespace ax
open Go Go.RowKit
variable{aa:List (List D)}{gd:Option (Nat×Bool)}{after:Array Edge}{objs:List Ob}{dst:Option Nat}{az:List Oper}{pos:String}{k:List It}{x:Operand}{ty T s:Nat}{E:bq}{τ:Ty}
section
variable {g:G} {pf:Nat->cI} {ad:Array Oper} {Fin:Exit->Act->World->Prop}
theorem TN{φ:List bI}{w:World}{S0:Nat->Prop}(hs:HS S0 φ objs w){i s sz:Nat}{v:Value}(hv:RV (SS S0 φ) w φ (.ow i s) v)(ho:dq objs i=some (.arr sz s aa)) :
  (∀ r∈aa,r.length=sz)/\(aa=[]\/∃(b o cap:Nat) (cs:List Value) (T:Nat),v=.slice (some ⟨b,o,none⟩) aa.length cap/\φ[i]? = some (.o8 sz s v (some b))/\w.heap[b]? = some (.cells cs.toArray T (0,0)) /\
     aa.length<=cap/\cap<=maxLen/\o+cap*sz<=cs.length /\
     ∀(i:Nat) (r:List D) (j:Nat) (x:D),aa[i]? = some r->r[j]? = some x->∃y,cs[o+i*sz+j]? = some y/\Rd (SS S0 φ) w x y):=by
 simp only[RV]at hv;obtain⟨_,ph,fj,hx⟩:=hv;have hk:=cO hs fj ho;cases ph<;>try (simp only[bj]at hk;done)
 simp only[bj]at hk;obtain⟨rfl,rfl,a8,hk⟩:=hk;have hx:=(hx _ _ _ _ rfl).2 rfl;subst hx;refine⟨a8,?_⟩;rcases hk with ⟨a2,rfl,rfl,_⟩|⟨b,o,cap,cs,T,h1,rfl,h2⟩
 exact .inl rfl;exact .inr ⟨b,o,cap,cs,T,h1,fj,h2⟩
theorem se(hg:di g){x i:Operand}
  {id s sz q cq e:Nat} {z:List Value}   {n:Int}
  (bt:aH ad.toList E gd=some true) (hd:aQ ⟨g.ty,g.N⟩ dst=true) (dK:Fx pf=.load) (hx:ev E x=.ow id s) (ho:dq objs id=some (.arr sz s aa)) (hi:ev E i=.d (.v (.int .i64 n))) (hT:g.ty T=some ⟨q,cq,z,.slice e⟩) (he:g.ty e=some τ) (hsz:τ.size=sz)
  (h0:0<=n) (fE:n.toNat<aa.length)
  (hr:R g pf Fin (.dr ad az::k) (bh E dst (.el id s n.toNat 0)) objs):R g pf Fin (.dr ad (⟨dst,.indexAddr T x i,ty,pos,after,gd⟩::az)::k) E objs:=by
 refine cU ?_ hr;simp only[bQ,dK];refine aK.fW hg 0 bt hd aD λφ a w bW hgr hρ hs=>?_
 simp only[Op.operands]at hρ;have aP:=hρ x aD;rw[hx]at aP;have wQ:=hρ i aD;rw[hi]at wQ;simp only[RV]at wQ;generalize hvi:a.eval i=vi at wQ;cases wQ;have ho:dq bW id=some (.arr sz s aa):=by have h:=aP;simp only[RV]at h;obtain⟨_,ph,fj,_⟩:=h;rw[bE]at ho ⊢;exact Gr.same hgr ho u6 Bl
 exact mB9
theorem u2(hg:di g)
  {id s sz q cq e:Nat} {z:List Value}  {n:Int}
  (bt:aH ad.toList E gd=some true) (hd:aQ ⟨g.ty,g.N⟩ dst=true) (hx:ev E x=.ow id s) (ho:dq objs id=some (.arr sz s aa)) (hT:g.ty T=some ⟨q,cq,z,.slice e⟩) (hn:(aa.length:Int)=n)
  (hr:R g pf Fin (.dr ad az::k) (bh E dst (iV n)) objs) (dK:nF pf #[x]=.load:=by rfl):R g pf Fin (.dr ad (⟨dst,.call {callee:=.builtin .len,args:=#[x],argTypes:=#[T]},ty,pos,after,gd⟩::az)::k) E objs:=by
 subst hn;refine cU ?_ hr;simp only[bQ,dK];refine aK.fW hg 0 bt hd aD λφ a w bW hgr hρ hs=>?_
 simp only[Op.operands,Call.operands]at hρ;have aP:=hρ x aD;rw[hx]at aP;simp only[RV]at aP;obtain⟨_,ph,fj,aP⟩:=aP;have ho:dq bW id=some (.arr sz s aa):=by rw[bE]at ho ⊢;exact Gr.same hgr ho u6 Bl
 have hk:=cO hs fj ho;cases ph<;>try (simp only[bj]at hk;done)
 simp only[bj]at hk;exact alC
theorem AG(hg:di g)
  {id s sz r j:Nat}   {row:List D} {v:AV}
  (bt:aH ad.toList E gd=some true) (hd:aQ ⟨g.ty,g.N⟩ dst=true) (dK:kL pf x=.load) (hx:ev E x=.el id s r j) (ho:dq objs id=some (.arr sz s aa)) (hT:g.ty T=some τ) (gY:aa[r]? = some row) (hp:kJ τ (row.map .d) j=some v)
  (hr:R g pf Fin (.dr ad az::k) (bh E dst v) objs):R g pf Fin (.dr ad (⟨dst,.load T x,ty,pos,after,gd⟩::az)::k) E objs:=by
 refine cU ?_ hr;simp only[bQ,dK];refine aK.fW hg 0 bt hd aD λφ a w bW hgr hρ hs=>?_
 simp only[Op.operands]at hρ;have aP:=hρ x aD;rw[hx]at aP;simp only[RV]at aP;obtain⟨_,ph,fj,aP⟩:=aP;have ho:dq bW id=some (.arr sz s aa):=by rw[bE]at ho ⊢;exact Gr.same hgr ho u6 Bl
 have hk:=cO hs fj ho;cases ph<;>try (simp only[bj]at hk;done)
 rename_i Jy s2 v2 Hp;simp only[bj]at hk;exact mB4
def qQ:List D->Nat->List D->List D|l,_,[]=>l|l,off,x::r=>qQ (dj l off x) (Nat.succ off) r
theorem nL:∀(new l:List D) (off:Nat),(qQ l off new).length=l.length|[],_,_=>rfl|x::r,l,off=>by simp[qQ,bx,nL r]
theorem zq:∀(new l:List D) (off:Nat),off+new.length<=l.length->∀k,(qQ l off new)[k]? = if off<=k/\k<off+new.length then new[k-off]? else l[k]?|[],l,off,_,k=>by rw[if_neg ir];rfl|x::r,l,off,h,k=>by simp only[dx]at h;rw[qQ,bx,zq r _ _ W4 k];grind
theorem vp:∀(new l:List Value) (off:Nat),off+new.length<=l.length->∀k,(dB l off new)[k]? = if off<=k/\k<off+new.length then new[k-off]? else l[k]?|[],l,off,_,k=>by rw[if_neg ir];rfl|x::r,l,off,h,k=>by simp only[dx]at h;rw[dB,vp r _ _ W4 k];grind
theorem Yc(hg:di g){d x:Operand}
  {id s sz r j:Nat}   {row:List D} {l:List AV} {ds:List D}
  (bt:aH ad.toList E gd=some true) (hd:aQ ⟨g.ty,g.N⟩ dst=true) (hx:ev E d=.el id s r j) (ho:dq objs id=some (.arr sz s aa)) (hT:g.ty T=some τ) (gY:aa[r]? = some row) (hc:gn (ev E x)=some l) (kx:yt l=some ds) (hl:ds.length=τ.size) (lY:j+τ.size<=sz)
  (hr:R g pf Fin (.dr ad az::k) (bh E dst .any) (dj objs id (.arr sz s (aa.set r (qQ row j ds))))) (dK:js pf d=.jz:=by rfl):R g pf Fin (.dr ad (⟨dst,.store T d x,ty,pos,after,gd⟩::az)::k) E objs:=by
 refine cU ?_ hr;simp only[bQ,dK];refine aK.effect hg bt hd aD λφ a w hρ hs=>?_
 simp only[Op.operands]at hρ;have aP:=hρ d aD;rw[hx]at aP;have eC:=hρ x aD;simp only[RV]at aP;obtain⟨_,ph,fj,aP⟩:=aP;have hk:=cO hs fj ho;cases ph<;>try (simp only[bj]at hk;done)
 rename_i Jy s2 v2 Hp;simp only[bj]at hk;obtain⟨rfl,rfl,a8,hk⟩:=hk;obtain⟨b,o,n,cap,h1,h2⟩:=(aP _ _ _ _ rfl).2 rfl;rcases hk with ⟨a2,_,rfl,_⟩|⟨b',o',apo,cs,T',h3,rfl,bg,hn,su,hle,uK⟩
 simp at gY;rw[h1]at h3;simp only[Value.slice.injEq,Option.some.injEq,Addr.mk.injEq]at h3;obtain⟨⟨rfl,rfl,_⟩,hnn,vj⟩:=h3;subst vj;have mF:=a8 row (sq gY);have alw:=(fu.1 gY).1;have hτ:=hg.ty _ _ hT;have arF:o+r*sz+sz<=cs.length:=by have:(r+1)*sz<=cap*sz:=Fo _ aq;grind
 obtain⟨wc,Hs⟩:=ig eC hc;have hcd:=pP wc kx;have dK:=hcd.length;simp only[fQ]at dK;obtain⟨w',fo,cY⟩:=mP (P:=g.P) hτ (o+r*sz+j) bg rfl Hs aq aq;refine⟨.skip,undef,w',φ.set id (.o8 sz s v2 (some b)),?_,.inr ⟨rfl,rfl⟩,by simp[RV],?_⟩;simp only[execOp,Instr.storeAt,Instr.sureAddr,h2,Sem.run_bind,Sem.run_pure,Result.andThen_ok,fo];rw[bx];refine j8.swap hs fj (.inl rfl) (by rw[cY.size];omega) (λc _ hc=>cY.other c λe=>hc (by rw[e];rfl)) (λb' hb=>.inl hb) cY.os cY.tape cY.out λbF _=>?_
 simp only[bj];refine⟨trivial,trivial,λr' Ei=>?_,.inr ⟨b,o,cap,dB cs (o+r*sz+j) (a.eval x).cells.toList,T',?_,rfl,cY.at_,?_,?_,?_,?_⟩⟩;rcases List.mem_or_eq_of_mem_set Ei with h| h
 exact a8 r' h;rw[h,nL];exact mF;simp_all;simp_all;exact su;rw[lN];exact hle;intro i' r' j' x' hi hj
 have as2:r'.length=sz:=by
  rcases List.mem_or_eq_of_mem_set (sq hi)with h|h
  exact a8 r' h;rw[h,nL];exact mF
 have as3:=(fu.1 hj).1;rw[vp _ _ _ aq];by_cases hir:r=i';subst hir;rw[u7 alw]at hi;cases hi;rw[zq _ _ _ aq]at hj;by_cases hjj:j<=j'/\j'<j+ds.length;rw [if_pos hjj]at hj;obtain⟨u,hu1,TU⟩:=hcd.get (j'-j) (x:=.d x') (by rw[fP,hj];rfl);simp only[RV]at TU;refine⟨u,?_,TU.mono bF⟩;grind;rw [if_neg hjj]at hj;obtain⟨y,h4,h5⟩:=uK r row j' x' gY hj;exact⟨y,by grind,h5.mono bF⟩;rw [wB hir]at hi;obtain⟨y,h4,h5⟩:=uK i' r' j' x' hi hj;refine⟨y,?_,h5.mono bF⟩;rw[if_neg ?_];exact h4;rintro⟨h6,h7⟩;rcases qE i' r with h|h
 have:(i'+1)*sz<=r*sz:=Fo _ h;grind;have:(r+1)*sz<=i'*sz:=Fo _ aq;grind
end
end ax
namespace ax
open Go Go.RowKit
variable{gd:Option (Nat×Bool)}{after:Array Edge}{objs:List Ob}{dst:Option Nat}{az:List Oper}{pos:String}{k:List It}{z:List Value}{E:bq}{x:Operand}{ty T q:Nat}{n:Int}
mutual
def nM:AV->Bool| .any=>true| .tt=>true| .ff=>true| .d (.v _)=>true| .agg l=>KV l| .cP l=>KV l|_=>false
def KV:List AV->Bool|[]=>true|x::l=>bif nM x then KV l else false
end
mutual
theorem RV.T8{S S':Nat->Prop}{w w':World}{φ φ':List bI}:∀{x:AV} {v:Value},nM x=true->RV S w φ x v->RV S' w' φ' x v
 | .any,_,_,_=>by simp[RV]
 | .tt,_,_,h=>by simpa[RV]using h
 | .ff,_,_,h=>by simpa[RV]using h
 | .d (.v x),v,_,h=>by simp only[RV]at h ⊢;cases h;exact .v _
 | .d (.sl _),_,h,_=>by simp[nM]at h
 | .d (.bL _),_,h,_=>by simp[nM]at h
 | .fs _,_,h,_=>by simp[nM]at h
 | .lo _ _,_,h,_=>by simp[nM]at h
 | .el _ _ _ _,_,h,_=>by simp[nM]at h
 | .vw _ _ _,_,h,_=>by simp[nM]at h
 | .ow _ _,_,h,_=>by simp[nM]at h
 | .mp _,_,h,_=>by simp[nM]at h
 | .yl _,_,h,_=>by simp[nM]at h
 | .b9 _ _ _,_,h,_=>by simp[nM]at h
 | .agg l,v,hn,h=>by simp only[RV]at h ⊢;simp only[nM]at hn;obtain⟨cs,h1,h2⟩:=h;exact⟨cs,h1,aW.T8 hn h2⟩
 | .cP l,v,hn,h=>by simp only[RV]at h ⊢;simp only[nM]at hn;obtain⟨cs,h1,h2⟩:=h;exact⟨cs,h1,aW.T8 hn h2⟩
theorem aW.T8{S S':Nat->Prop}{w w':World}{φ φ':List bI}:∀{l:List AV} {vs:List Value},KV l=true->aW S w φ l vs->aW S' w' φ' l vs|[],[],_,_=>by simp[aW]|[],_::_,_,h=>by simp[aW]at h|_::_,[],_,h=>by simp[aW]at h|a::l,v::vs,hn,h=>by simp only[aW]at h ⊢;simp only[KV]at hn;obtain⟨hn1,V8⟩:=Yb hn;exact⟨RV.T8 hn1 h.1,aW.T8 V8 h.2⟩
end
def oL:cI->Bool| .still=>true| .look m=>Nat.blt 0 m| .bT _=>false
section
variable {g:G} {pf:Nat->cI} {ad:Array Oper} {Fin:Exit->Act->World->Prop}
theorem aK.aF{o:Oper}{v:AV}{c:cI}(hc:oL c=false)(h:aK g ad o E objs (.look 0) v objs):aK g ad o E objs c v objs :=
 ⟨λ_=>rfl,λ_ _ _=>.refl _,λE₁ o₁ jF a w h1 h2 h3=>h.step E₁ o₁ jF a w h1 (by
  rcases h2 with ⟨h2,_⟩|⟨m,h2,_⟩|h2
  subst h2;simp[oL]at hc;subst h2;have:Nat.blt 0 (m+1)=true:=by rw[Nat.blt_eq];omega
  simp only[oL]at hc;rw[this]at hc;cases hc;simp_all) h3⟩
theorem abM(hg:di g)(hu:JC g){f:Nat}{dW:List AV}{r:AV}(hc:br g.P f dW r){args:Array Operand}{ts:Array Nat}
      {fs cs as':List AV}
  (bt:aH ad.toList E gd=some true) (hd:aQ ⟨g.ty,g.N⟩ dst=true) (dK:oL (bQ pf (.call {callee:=.value x,args:=args,argTypes:=ts}))=false) (hx:ev E x=.b9 f fs cs) (has:uu (iP objs 5) (fs++args.toList.map (ev E)++cs)=some as') (apI:as'.map lO=dW) (hpr:nM r=true)
  (hr:R g pf Fin (.dr ad az::k) (bh E dst r) objs) :
  R g pf Fin (.dr ad (⟨dst,.call {callee:=.value x,args:=args,argTypes:=ts},ty,pos,after,gd⟩::az)::k) E objs:=by
 refine cU (aK.aF dK ?_) hr;refine⟨λ_=>rfl,λ_ _ _=>.refl _,λE₁ o₁ jF a w he ho hs Q=>?_⟩;rcases ho with ⟨h,_⟩|⟨_,h,_⟩|⟨ov,uN⟩
 cases h;cases h;subst ov;subst uN;obtain⟨φ,h1,h2,h3,h4,h5,h6⟩:=hs;rw[nj (cT bt) he h3];simp only[if_true];refine⟨pS hg _ w a,?_⟩;have hρ:=ly (o:=⟨dst,.call {callee:=.value x,args:=args,argTypes:=ts},ty,pos,after,gd⟩) he h3;simp only[Op.operands,Call.operands]at hρ;have aP:=hρ x aD;rw[hx]at aP;simp only[RV]at aP;obtain⟨va,vc,aP,X6,rC⟩:=aP;have mK:aW (SS g.S0 φ) w φ (args.toList.map (ev E)) (args.toList.map a.eval):=aW.map _ _ _ λy hy=>hρ y iS
 have hJ:∀b,eH φ b->g.S0 b:=λb hb=>(h2 b hb).elim (hu.up b) (hu.x b)
 have ez:=tu (S:=g.S0) (ψ:=[]) (λx v y h1' V3=>BO hJ h1 5 h1' V3) ((X6.append mK).append rC) has;have ez:=ez.qK lO bJ.lO;rw[apI]at ez;rw[Oper.semAt_eq _ _ _ aD,yz rfl aP hc.call];refine⟨λh=>by rw[hg.depth]at h;simp at h,?_⟩;have fC:=hc.run g.S0 w _ ((hg.Fv h2 h6).up λ_ h=>h.1) h1.up ez;refine(qL hg fC).mono ?_;rintro e w' ⟨v,rfl,hv,hb⟩;have cY:j8 g.S0 φ w φ _ w':=⟨h1.later hb.size (λb uL=>hb.block b uL),.of λb uL hl=>⟨uL,hb.block b hl⟩,.refl _,hb.size,hb.os,hb.tape,hb.output,λb uL _=>hb.block b uL,λ_ h=>.inl h,λ_ _ _ B h=>⟨B,h⟩⟩;exact fi.Rc h2 h3 h4 h5 h6 cY (dI hd) λ_=>hv.T8 hpr
theorem pG(hg:di g){x i:Operand}
  {q cq:Nat}  {s:ByteArray}  {b:UInt8}
  (bt:aH ad.toList E gd=some true) (hd:aQ ⟨g.ty,g.N⟩ dst=true) (hx:ev E x=.d (.v (.string s))) (hi:ev E i=.d (.v (.int .i64 n))) (hT:g.ty T=some ⟨q,cq,z,.str⟩)
  (h0:0<=n) (hb:s[n.toNat]? = some b)
  (hr:R g pf Fin (.dr ad az::k) (bh E dst (.d (.v (.int .u8 b.toNat)))) objs):R g pf Fin (.dr ad (⟨dst,.index T x i,ty,pos,after,gd⟩::az)::k) E objs:=by
 refine cU (aK.up (aK.quiet hg bt hd aD λφ objs a w hρ hs=>?_)) hr;simp only[Op.operands]at hρ;have aP:=hρ x aD;rw[hx]at aP;have wQ:=hρ i aD;rw[hi]at wQ;simp only[RV]at aP wQ;generalize hvi:a.eval i=vi at wQ;generalize k9:a.eval x=vx at aP;cases wQ;cases aP;have hu:=(hg.ty _ _ hT).sh;simp only[bH]at hu;refine aZ hs (vv:=.int .u8 b.toNat) ?_ ym;simp[execOp,Instr.index,hvi,k9,asIntOf,underlying,hu,h0,hb]
theorem FJ{P:Program}{w:World}{y:Nat}{c:BoundsCode}(h0:0<=n)(h1:n<=y):(Instr.sliceBound (.int .i64 n) y c).run P w=.ok n.toNat w:=by simp only[Instr.sliceBound,asIntOf,Sem.run_bind,Sem.run_pure,Result.andThen_ok];simp_all
def rR (E:bq)(o:Option Operand)(d:Int):Option Int :=
 match o with
 |none=>some d
 |some x=>match ev E x with
  | .d (.v (.int .i64 n))=>some n
  |_=>none
theorem nN{P:Program}{w:World}{a:Act}{sl:Bool}{len cap:Nat}{lo hi:Option Operand}{l h:Int}(hl:rR E lo 0=some l)(hh:rR E hi len=some h)
  (Rx:∀x,lo=some x->∀n,ev E x=.d (.v (.int .i64 n))->a.eval x=.int .i64 n) (hhi:∀x,hi=some x->∀n,ev E x=.d (.v (.int .i64 n))->a.eval x=.int .i64 n) (h0:0<=l) (h1:l<=h) (h2:h<=cap) :
  (Instr.sliceBounds sl len cap (lo.map a.eval) (hi.map a.eval) none).run P w=.ok (l.toNat,h.toNat,cap) w:=by
 have e1:∀d,(match (hi.map a.eval)with|some v=>Instr.sliceBound v cap d|none=>pure len:Sem Nat).run P w=.ok h.toNat w:=by
  intro d;cases hi with
  |none=>simp only[rR,Option.some.injEq]at hh;subst hh;simp
  |some x=>simp only[rR]at hh;split at hh;rename_i n he; cases hh;simp only[ss,hhi x rfl _ he];exact FJ aq h2;cases hh
 have e2:∀d,(match (lo.map a.eval)with|some v=>Instr.sliceBound v h.toNat d|none=>pure 0:Sem Nat).run P w=.ok l.toNat w:=by
  intro d;cases lo with
  |none=>simp only[rR,Option.some.injEq]at hl;subst hl;simp
  |some x=>simp only[rR]at hl;split at hl;rename_i n he; cases hl;simp only[ss,Rx x rfl _ he];exact FJ h0 aq;cases hl
 have e1':=e1 (if sl then .sliceAcap else .sliceAlen);have e2':=e2 .sliceB;unfold Instr.sliceBounds;cases hi<;>cases lo<;>simp_all<;>simp_all
theorem Yd(hg:di g){lo hi:Option Operand}
  {q cq:Nat}  {s:ByteArray} {l h:Int}
  (bt:aH ad.toList E gd=some true) (hd:aQ ⟨g.ty,g.N⟩ dst=true) (hx:ev E x=.d (.v (.string s))) (hl:rR E lo 0=some l) (hh:rR E hi s.size=some h) (hT:g.ty T=some ⟨q,cq,z,.str⟩)
  (h0:0<=l) (h1:l<=h) (h2:h<=s.size)
  (hr:R g pf Fin (.dr ad az::k) (bh E dst (.d (.v (.string (s.extract l.toNat h.toNat))))) objs):R g pf Fin (.dr ad (⟨dst,.slice T x lo hi none,ty,pos,after,gd⟩::az)::k) E objs:=by
 refine cU (aK.up (aK.quiet hg bt hd aD λφ objs a w hρ hs=>?_)) hr;simp only[Op.operands]at hρ;have aP:=hρ x aD;rw[hx]at aP;simp only[RV]at aP;generalize k9:a.eval x=vx at aP;cases aP;have hu:=(hg.ty _ _ hT).sh;simp only[bH]at hu;refine aZ hs (vv:=.string (s.extract l.toNat h.toNat)) ?_ ym
 have hb:=nN (P:=g.P) (w:=w) (sl:=false) (a:=a) hl hh (λy hy n he=>by
  have:=hρ y iS;rw[he]at this;simp only[RV]at this;generalize a.eval y=u at this;cases this;rfl) (λy hy n he=>by
  have:=hρ y iS;rw[he]at this;simp only[RV]at this;generalize a.eval y=u at this;cases this;rfl) h0 h1 h2
 simp[execOp,Instr.sliceAt,Instr.slice,k9,underlying,hu,hb]
theorem Ye(hg:di g){lo hi:Option Operand}
  {q cq e:Nat}  {τ:Ty} {aa:List (List D)} {l h:Int}
  (bt:aH ad.toList E gd=some true) (hd:aQ ⟨g.ty,g.N⟩ dst=true) (hx:lO (ev E x)=.d (.sl aa)) (hl:rR E lo 0=some l) (hh:rR E hi aa.length=some h) (hT:g.ty T=some ⟨q,cq,z,.slice e⟩) (he:g.ty e=some τ) (hsz:∀r∈aa,r.length=τ.size)
  (h0:0<=l) (h1:l<=h) (h2:h<=aa.length)
  (hr:R g pf Fin (.dr ad az::k) (bh E dst (.d (.sl ((aa.drop l.toNat).take (h.toNat-l.toNat))))) objs):R g pf Fin (.dr ad (⟨dst,.slice T x lo hi none,ty,pos,after,gd⟩::az)::k) E objs:=by
 refine cU (aK.up (aK.quiet hg bt hd aD λφ objs a w hρ hs=>?_)) hr;simp only[Op.operands]at hρ;have aP:=bJ.lO _ _ _ _ _ (hρ x aD);rw[hx]at aP;simp only[RV]at aP;generalize k9:a.eval x=vx at aP
 have a8:∃p cap,vx=.slice p aa.length cap/\(aa.length<=cap\/aa=[]):=by
  cases aP with
  |nil p c=>simp_all
  |sl _ _ _ hl=>grind
 obtain⟨p,cap,rfl,su⟩:=a8;have amA:(h:Int)<=cap:=by grind
 have hb:=nN (P:=g.P) (w:=w) (sl:=true) (a:=a) (len:=aa.length) (cap:=cap) hl hh (λy hy n he=>by
  have:=hρ y iS;rw[he]at this;simp only[RV]at this;generalize a.eval y=u at this;cases this;rfl) (λy hy n he=>by
  have:=hρ y iS;rw[he]at this;simp only[RV]at this;generalize a.eval y=u at this;cases this;rfl) h0 h1 amA
 have hτ:=hg.ty _ _ he;refine aZ hs (vv:=.slice (if cap=l.toNat then p else p.map (·.add (l.toNat*τ.size))) (h.toNat-l.toNat) (cap-l.toNat)) ?_ ?_;simp[execOp,Instr.sliceAt,Instr.slice,k9,underlying,bX hg hT,hb,run_sizeOf hτ]
 ·simp only [RV];by_cases hz:h.toNat-l.toNat=0;rw[hz,List.take_zero];exact .nil _ _;have V2:l.toNat<aa.length:=by omega
  cases aP with
  |nil p c=>simp at V2
  |@sl _ b o cap sz cs T' fr g' hS VZ hlc hc ah7 yg Ei=>
  have dR:cap≠l.toNat:=by omega
  rw[if_neg dR];simp only[ss,fU];have EF:sz=τ.size:=by rw[<-ah7 0 aa[0] (dG aq),hsz _ (dy _)]
  subst EF;have afM:((aa.drop l.toNat).take (h.toNat-l.toNat)).length=h.toNat-l.toNat:=by simp;omega
  have key:∀(i:Nat) (r:List D),((aa.drop l.toNat).take (h.toNat-l.toNat))[i]? = some r->aa[l.toNat+i]? = some r:=λi r hi=>by have mG:=(fu.1 hi).1;rw[afM]at mG;rw[rP mG,Hk]at hi;exact hi
  have acB:=Rd.sl (S:=SS g.S0 φ) (w:=w) (aa:=(aa.drop l.toNat).take (h.toNat-l.toNat)) (b:=b) (o:=o+l.toNat*τ.size) (cap:=cap-l.toNat) (sz:=τ.size) (λi j=>g' (l.toNat+i) j) hS VZ (by rw[afM];omega) aq (λi r hi=>ah7 _ _ (key i r hi)) (λi r j x hi hj=>by rw[show o+l.toNat*τ.size+i*τ.size+j=o+(l.toNat+i)*τ.size+j by rw[Nat.add_mul];omega];exact yg _ _ _ _ (key i r hi) hj) (λi r j x hi hj=>Ei _ _ _ _ (key i r hi) hj);simp_all
theorem nh(hg:di g){T T':Nat}{x y:Operand}
  {q q' cq pA e e':Nat} {z z':List Value} {τ:Ty} {aa cz:List (List D)}
  (bt:aH ad.toList E gd=some true) (hd:aQ ⟨g.ty,g.N⟩ dst=true) (hx:ev E x=.fs aa\/(ev E x=.d (.v (.slice none 0 0))/\aa=[])) (hy:lO (ev E y)=.d (.sl cz)) (dR:aa=[]\/cz≠[])
  (hT:g.ty T=some ⟨q,cq,z,.slice e⟩) (lf:g.ty T'=some ⟨q',pA,z',.slice e'⟩) (he:g.ty e=some τ) (hlr:∀r∈aa,r.length=τ.size) (a8:∀r∈cz,r.length=τ.size)
  (qO:(aa.length+cz.length)*τ.bytes<=140737488355328) (uk:aa.length+cz.length<=140737488355328)
  (hr:R g pf Fin (.dr ad az::k) (bh E dst (.ow (len objs) 0)) (objs++[.arr τ.size 0 (aa++cz)])) :
  R g pf Fin (.dr ad (⟨dst,.call {callee:=.builtin .append,args:=#[x,y],argTypes:=#[T,T']},ty,pos,after,gd⟩::az)::k) E objs:=by
 refine cU (aK.eU hg (.add _ _) bt hd aD λφ a w hρ hs=>?_) hr;simp only[Op.operands,Call.operands]at hρ;have aP:=hρ x aD;have eC:=bJ.lO _ _ _ _ _ (hρ y aD);rw[hy]at eC;simp only[RV]at eC
 have V9:Rd (SS g.S0 φ) w (.sl aa) (a.eval x)/\∃a0,a.eval x=.slice a0 aa.length aa.length:=by
  rcases hx with hx|⟨hx,rfl⟩
  rw[hx]at aP;simpa only[RV]using aP;rw [hx]at aP; simp only [RV]at aP;generalize a.eval x=u at aP;cases aP;exact⟨.nil _ _,_,rfl⟩
 obtain⟨V9,a0,hv⟩:=V9;obtain⟨sD,hF⟩:=EE.FH (P:=g.P) V9 hlr;obtain⟨cells,hN⟩:=EE.FH (P:=g.P) eC a8;have hτ:=hg.ty _ _ he;obtain⟨xa,xc,Nr⟩:=hN.sl;have ez:∀r∈aa++cz,r.length=τ.size:=λr hr=>(cu.1 hr).elim (hlr r) (a8 r)
 have KO:aa.length+cz.length<=maxLen:=by simp only[maxLen];omega
 have hw:∀v',RV (SS g.S0 (φ++[bI.o8 τ.size 0 (.slice v' (aa.length+cz.length) 0) none])) w φ .any (.slice v' 0 0):=λ_=>by simp[RV]
 by_cases hm:cz.length=0;have KQ:cz=[]:=kG.1 hm;subst KQ;have eE:aa=[]:=dR.resolve_right (λh=>h rfl);subst eE;have sE:cells=[]:=kG.1 QW;subst sE;have fo:=mS (tr:=ty) (bX hg hT) (bX hg lf) hτ (a:=a0) (n:=0) (cap:=0) Nr (hN.run w rfl) cZ;have cY:=j8.N6 hs τ.size a0;refine⟨.value (.slice a0 0 0),.slice a0 0 0,w,_,?_,.inl rfl,?_,cY⟩;simp only [mu]at hv;simp only[execOp,resolve,invoke,builtin,Sem.run_bind,Sem.run_pure,Result.andThen_ok,sr,bM,fm,hv,fo];simp only [RV];exact⟨⟨_,_,_,rfl⟩,.o8 τ.size 0 (.slice a0 0 0) none,by rw[bp,<-hs.len];simp,λsz s x ob h=>by grind⟩;rw [hv]at hF;obtain⟨zs,o9,wc,Hs,Kl,fo⟩:=qN (tr:=ty) (bX hg hT) (bX hg lf) hτ Nr hF.run hN.run aq qO KO;refine⟨.value (.slice (some ⟨w.heap.size,0,none⟩) (aa.length+cz.length) o9),.slice (some ⟨w.heap.size,0,none⟩) (aa.length+cz.length) o9,w.drew.alloc (.cells (sD++cells++zs).toArray e),φ++[.o8 τ.size 0 (.slice (some ⟨w.heap.size,0,none⟩) (aa.length+cz.length) o9) (some w.heap.size)],?_,.inl rfl,?_,?_⟩;simp only[execOp,resolve,invoke,builtin,Sem.run_bind,Sem.run_pure,Result.andThen_ok,sr,bM,fm,hv,fo];simp only [RV];exact⟨⟨_,_,_,rfl⟩,.o8 τ.size 0 (.slice (some ⟨w.heap.size,0,none⟩) (aa.length+cz.length) o9) (some w.heap.size),by rw[bp,<-hs.len];simp,λsz s x ob h=>by grind⟩;refine j8.add hs ir (λc hc=>jR hc) (λb hb=>?_) rfl rfl rfl λbF=>?_
 simp only[bI.bl,Option.some.injEq]at hb;simp_all;simp only [bj];refine⟨trivial,trivial,ez,.inr ⟨_,0,o9,_,e,by simp_all,rfl,pb,by simp_all,Hs,?_,?_⟩⟩;simp only [List.length_append,hF.len,hN.len,Kl];rw[<-Nat.add_mul,<-Nat.add_mul];simp_all;intro i' r j x' hi hj;obtain⟨y',h3,h4⟩:=wR hF hN bF i' r j x' hi hj (ez r (sq hi));exact⟨y',by simpa using FI h3,h4⟩
end
theorem jZ(h1:-9223372036854775808<=n)(h2:n<9223372036854775808):IntKind.i64.wrap n=n:=by
 have e:IntKind.i64.wrap n=if n % 18446744073709551616 ≥ 9223372036854775808 then n % 18446744073709551616-18446744073709551616 else n % 18446744073709551616:=by simp[IntKind.wrap,IntKind.signed,IntKind.bits]
 omega
theorem bJ.int{m n:Int}(h:m=n):bJ (.d (.v (.int .i64 m))) (iV n):=by subst h;exact .refl _
theorem bJ.wrap{m n:Int}(h:m=n)(h1:-9223372036854775808<=n)(h2:n<9223372036854775808):bJ (.d (.v (.int .i64 (IntKind.i64.wrap m)))) (iV n):=by subst h;rw[jZ h1 h2];exact .refl _
end ax
namespace ax
open Go Go.RowKit
inductive TT where
 |aC
 |node (k:Nat) (l:TT) (v:Ty) (r:TT)
def TT.get:TT->Nat->Option Ty| .aC,_=>none| .node k l v r,t=>bif Nat.beq t k then some v else bif Nat.ble t k then l.get t else r.get t
def zeq:Value->Value->Bool| .int k a,.int k' b=>kEq k k'&&a==b| .bool a,.bool b=>a==b| .string a,.string b=>a.size==0&&b.size==0| .slice none 0 0,.slice none 0 0=>true| .pointer none,.pointer none=>true| .nilFunc,.nilFunc=>true| .nilIface,.nilIface=>true| .map none,.map none=>true|_,_=>false
theorem Ry {a:ByteArray}(h:(a.size==0)=true):a=ByteArray.empty:=by simpa using h
theorem aia:∀{a b:Value},zeq a b=true->a=b/\b.oneCell'=true
 | .int k a,.int k' b,h=>by simp only[zeq,aV,beq_iff_eq]at h;rw[BA h.1,h.2];exact⟨rfl,rfl⟩
 | .bool a,.bool b,h=>by simp[zeq]at h;subst h;exact⟨rfl,rfl⟩
 | .string a,.string b,h=>by simp only[zeq,aV]at h;rw[Ry h.1,Ry h.2];exact⟨rfl,rfl⟩
 |a,b,h=>by
  unfold zeq at h;split at h;simp only[aV,beq_iff_eq]at h;rw[BA h.1,h.2];exact⟨rfl,rfl⟩;simp at h;subst h;exact⟨rfl,rfl⟩;simp only [aV]at h;rw[Ry h.1,Ry h.2];exact⟨rfl,rfl⟩
  all_goals first
   |exact⟨rfl,rfl⟩
   |cases h
def T9:List Value->List Value->Bool|[],[]=>true|a::l,b::m=>zeq a b&&T9 l m|_,_=>false
theorem Rz:∀{l m:List Value},T9 l m=true->l=m/\∀v∈m,v.oneCell'=true|[],[],_=>⟨rfl,by simp⟩|[],_::_,h=>by simp[T9]at h|_::_,[],h=>by simp[T9]at h|a::l,b::m,h=>by simp only[T9,aV]at h;obtain⟨h1,h2⟩:=aia h.1;obtain⟨h3,h4⟩:=Rz h.2;simp_all
def FK:List Field->List (Nat×Nat)->Bool|[],[]=>true|f::l,(o,t)::m=>f.offset==o&&f.type==t&&FK l m|_,_=>false
theorem KW:∀{l:List Field} {m:List (Nat×Nat)},FK l m=true->l.map (λf=>(f.offset,f.type))=m|[],[],_=>rfl|[],_::_,h=>by simp[FK]at h|_::_,[],h=>by simp[FK]at h|f::l,(o,t)::m,h=>by simp only[FK,aV,beq_iff_eq]at h;simp only[bM,KW h.2,h.1.1,h.1.2]
def Yf (P:Program) (t:Nat):Sh->Bool
 | .one=>match P.underlying t with
  |some (.struct _)=>false
  |some (.array _ _)=>false
  |some _=>true
  |none=>false
 | .int k=>match P.underlying t with|some (.int k')=>kEq k' k|_=>false
 | .bool=>match P.underlying t with|some .bool=>true|_=>false
 | .str=>match P.underlying t with|some .string=>true|_=>false
 | .struct jN=>match P.underlying t with
  |some (.struct fs)=>FK fs.toList jN&&fs.toList.all λf=>match P.info? f.type with|some i=>!(i.size==0)|none=>false
  |_=>false
 | .array n e=>match P.underlying t with|some (.array n' e')=>n'==n&&e'==e|_=>false
 | .slice e=>match P.underlying t with|some (.slice e')=>e'==e|_=>false
 | .map k e=>match P.underlying t with|some (.map k' e')=>k'==k&&e'==e|_=>false
theorem Yg {P:Program}{t:Nat}{s:Sh}(h:Yf P t s=true):bH P t s:=by
 unfold Yf at h;cases s<;>simp only[bH]at h ⊢
 split at h;cases h;cases h;rename_i d hs ha hu;exact⟨d,hu,λfs e=>hs fs e,λn e' e=>ha n e' e⟩;cases h;split at h;rename_i k' hu;rw[hu,BA h];cases h;split at h;rename_i hu;exact hu;cases h;split at h;rename_i hu;exact hu;cases h;split at h;rename_i fs hu;simp only[aV,fB]at h;refine⟨fs,hu,KW h.1,λf hf=>?_⟩;have:=h.2 f hf;split at this;rename_i i hi;exact⟨i,hi,by simpa using this⟩;cases this;cases h;split at h;rename_i n' e' hu;simp at h;rw[hu,h.1,h.2];cases h;split at h;rename_i e' hu;simp at h;rw[hu,h];cases h;grind
def Yh (P:Program)(t:Nat)(τ:Ty):Bool :=
 match P.info? t with
 |some i=>match i.zero with
  |some z=>i.size==τ.size&&i.bytes==τ.bytes&&T9 z.cells.toList τ.zero&&len τ.zero==τ.size&&(τ.agg||τ.size==1)&&Yf P t τ.sh
  |none=>false
 |none=>false
theorem Yi {P:Program}{t:Nat}{τ:Ty}(h:Yh P t τ=true):kK P t τ:=by
 unfold Yh at h;split at h
 case h_2=>cases h
 case h_1 i hi=>
 split at h
 case h_2=>cases h
 case h_1 z hz=>
 simp only[aV,beq_iff_eq,oy]at h;obtain⟨⟨⟨⟨⟨h1,h2⟩,h3⟩,h4⟩,h5⟩,h6⟩:=h;obtain⟨h7,h8⟩:=Rz h3;refine⟨⟨i,z,hi,hz,h1,h2,h7⟩,by rw[<-bp];exact h4,Yg h6,λha=>?_,h8⟩;simp_all
def TT.AK (P:Program):TT->Bool| .aC=>true| .node k l v r=>Yh P k v&&l.AK P&&r.AK P
theorem TT.ok {P:Program}:∀{T:TT},T.AK P=true->jE P T.get| .aC,_,t,τ,h=>by simp[TT.get]at h| .node k l v r,hc,t,τ,h=>by simp only[TT.AK,aV]at hc;simp only[TT.get]at h;cases hb:Nat.beq t k;rw [hb]at h; simp only [cond_false]at h;cases hl:Nat.ble t k;rw[hl]at h;exact TT.ok hc.2 t τ h;rw[hl]at h;exact TT.ok hc.1.2 t τ h;rw [hb]at h; simp only [cond_true,Option.some.injEq]at h;subst h;have:=cB hb;subst this;exact Yi hc.1.1
end ax
