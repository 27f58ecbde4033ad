import Derived.Test.YtaagocopollacaaGreatDoorPslA
import Derived.RangeFuncNested
namespace aw
open Go Go.RowKit

variable{objs:List Ob}{w:World}{S:Nat→Prop}{fn:Func}{E:bk}
def GD (ty:Nat→Option Ty) (E:bk) (objs:List Ob):ResultVar→Option AV
 | .tmp t=>some (lk E t)
 | .cell a t=>match ty t with
  |some τ=>match lk E a with
   | .lo i off=>match dk objs i with
    |some (.box l)=>ky τ l off
    |_=>none
   |_=>none
  |none=>none

def SM (ty:Nat→Option Ty) (E:bk) (objs:List Ob):List ResultVar→Option (List AV)
 |[]=>some []
 |x::r=>match GD ty E objs x with
  |some v=>match SM ty E objs r with
   |some l=>some (v::l)
   |none=>none
  |none=>none

def n9 (ty:Nat→Option Ty)(E:bk)(objs:List Ob)(l:List ResultVar):Option AV :=
 match SM ty E objs l with
 |some [x]=>some x
 |some l=>some (.cH l)
 |none=>none

def tR (f:AV→Option AV):List AV→Option (List AV)
 |[]=>some []
 |x::r=>match f x with
  |some y=>match tR f r with
   |some l=>some (y::l)
   |none=>none
  |none=>none

def iB (objs:List Ob):Nat→AV→Option AV
 |0,_=>none
 |n+1,x=>match x with
  | .agg l=>match tR (iB objs n) l with |some l'=>some (.agg l') |none=>none
  | .cH l=>match tR (iB objs n) l with |some l'=>some (.cH l') |none=>none
  | .ow i s=>match dk objs i with
   |some (.arr _ s' aa)=>bif Nat.beq s s' then some (.d (.sl aa)) else none
   |_=>none
  | .lo i off=>match dk objs i with
   |some (.box l)=>match tR (iB objs n) l with
    |some l'=>match xP l' with
     |some ds=>some (.d (.bG (ds.drop off)))
     |none=>none
    |none=>none
   |_=>none
  | .tt=>some (.d (.v (.bool true)))
  | .ff=>some (.d (.v (.bool false)))
  | .fs aa=>some (.d (.sl aa))
  | .d (.v (.slice none 0 0))=>some (.d (.sl []))
  | .d y=>some (.d y)
  | .bU f a c=>match tR (iB objs n) a with
   |some a'=>match tR (iB objs n) c with
    |some c'=>some (.bU f a' c')
    |none=>none
   |none=>none
  |_=>none
section
variable {P:Program} {ty:Nat→Option Ty} {S0:Nat→Prop} {φ:List bB} {objs:List Ob} {w:World} {E:bk} {a:Act}

def SN (tmps:Array Value):ResultVar→Sem Value
 | .tmp t=>pure (tmps.getD t undef)
 | .cell c t=>do loadVar t (← asAddr (tmps.getD c undef))

theorem MW(fn:Func)(tmps:Array Value):results fn tmps=(do let vs ← fn.results.mapM (SN tmps);pure (if h:vs.size=1 then vs[0] else .tuple vs)):=by
 unfold results
 have:(fun x:ResultVar=>match x with | .tmp t=>pure (tmps.getD t undef) | .cell a t=>do loadVar t (← asAddr (tmps.getD a undef)):ResultVar→Sem Value)=SN tmps:=by
  funext x;cases x<;>rfl
 rw[← this];rfl

theorem SO(fY:jk P ty)(hs:HS S0 φ objs w)(hv:kY (SS S0 φ) w φ E a){x:ResultVar}{v:AV}(h:GD ty E objs x=some v) :
  ∃vv,(SN a.tmps x).run P w=.ok vv w∧RV (SS S0 φ) w φ v vv:=by
 cases x with
 |tmp t=>simp only[GD,Option.some.injEq]at h;subst h;exact⟨_,rfl,hv t⟩
 |cell c t =>
  simp only[GD]at h;split at h
  case h_2=>cases h
  case h_1 τ ht =>
  split at h
  case h_2=>cases h
  case h_1 i off hA =>
  split at h
  case h_2=>cases h
  case h_1 l hl =>
  have hx:=hv c;rw[hA]at hx;simp only[RV]at hx;obtain⟨b,hb,hx⟩:=hx;have ho:=cG hs hb hl;simp only[bd]at ho;obtain⟨cs,T',bc,lz⟩:=ho;obtain⟨vv,h1,h2⟩:=Gn (o:=0) (fY _ _ ht) bc (by simpa using lz) h;refine⟨vv,?_,h2⟩;simp only[SN,hx,asAddr,Sem.run_bind,Sem.run_pure,Result.andThen_ok];simpa using h1

theorem Qm(fY:jk P ty)(hs:HS S0 φ objs w)(hv:kY (SS S0 φ) w φ E a):∀ {l:List ResultVar} {vs:List AV},SM ty E objs l=some vs →
  ∃vvs:List Value,(l.mapM (SN a.tmps)).run P w=.ok vvs w∧aW (SS S0 φ) w φ vs vvs
 |[],vs,h=>by simp only[SM,Option.some.injEq]at h;subst h;exact⟨[],by simp,by simp[aW]⟩
 |x::l,vs,h=>by
  simp only[SM]at h;split at h
  case h_2=>cases h
  case h_1 v hx =>
  split at h
  case h_2=>cases h
  case h_1 l' hl =>
  cases h;obtain⟨vv,h1,h2⟩:=SO fY hs hv hx;obtain⟨vvs,h3,h4⟩:=Qm fY hs hv hl;refine⟨vv::vvs,?_,by simp only[aW];exact⟨h2,h4⟩⟩
  simp_all

theorem JG(fY:jk P ty)(hs:HS S0 φ objs w)(hv:kY (SS S0 φ) w φ E a){v:AV}(h:n9 ty E objs fn.results.toList=some v) :
  ∃vv,(results fn a.tmps).run P w=.ok vv w∧RV (SS S0 φ) w φ v vv:=by
 unfold n9 at h;cases hl:SM ty E objs fn.results.toList with
 |none=>simp_all
 |some vs =>
  rw[hl]at h;obtain⟨vvs,h1,h2⟩:=Qm fY hs hv hl
  have hm:(fn.results.mapM (SN a.tmps)).run P w=.ok vvs.toArray w:=by
   rw[Array.mapM_eq_mapM_toList,Sem.run_map,h1];rfl
  have hr:(results fn a.tmps).run P w=.ok (if h:vvs.toArray.size=1 then vvs.toArray[0] else .tuple vvs.toArray) w:=by
   rw[MW,Sem.run_bind,hm,Result.andThen_ok,Sem.run_pure]
  have aZ:=h2.length;refine⟨_,hr,?_⟩
  match vs,vvs,h2,aZ,h with
  |[x],[y],h2,_,h =>
   simp only[Option.some.injEq]at h;subst h;simp only[aW]at h2
   simp_all
  |[],[],h2,_,h=>simp only[Option.some.injEq]at h;subst h;simp only[RV];simp_all
  |x::x'::l,y::y'::l',h2,_,h =>
   simp only[Option.some.injEq]at h;subst h;simp only[RV]
   simp_all
theorem xX:dE (SS S0 φ) w S0 w:=fun _ h _=>⟨h.1,rfl⟩

theorem sT{f:AV→Option AV}{S:Nat→Prop}{ψ:List bB}(hf:∀x v y,RV (SS S0 φ) w φ x v→f x=some y→RV S w ψ y v):∀ {l l':List AV} {vs:List Value},aW (SS S0 φ) w φ l vs→tR f l=some l'→aW S w ψ l' vs
 |[],l',vs,h,hm=>by
  simp only[tR,Option.some.injEq]at hm;subst hm;cases vs with
  |nil=>simp[aW]
  |cons _ _=>simp[aW]at h
 |x::l,l',vs,h,hm=>by
  cases vs with
  |nil=>simp[aW]at h
  |cons v vs =>
   simp only[aW]at h;simp only[tR]at hm;split at hm
   case h_2=>cases hm
   case h_1 y hy =>
   split at hm
   case h_2=>cases hm
   case h_1 l1 hl =>
   cases hm;simp only[aW];exact⟨hf _ _ _ h.1 hy,sT hf h.2 hl⟩

theorem agS(gQ:∀b,eD φ b→S0 b)(hs:HS S0 φ objs w){i s sz s':Nat}{aa:List (List D)}{v:Value}(hv:RV S w φ (.ow i s) v)(ho:dk objs i=some (.arr sz s' aa))(Qb:s=s') :
  Rd S0 w (.sl aa) v:=by
 simp only[RV]at hv;obtain⟨_,ph,eQ,hx⟩:=hv;have hk:=cG hs eQ ho;cases ph<;>simp only[bd]at hk
 rename_i Ip s2 v2 Gk;obtain⟨rfl,he,aZ,hk⟩:=hk;obtain⟨_,hx⟩:=hx _ _ _ _ rfl;have hx:=hx an;subst hx;rcases hk with ⟨a2,rfl,rfl,_⟩ |⟨b,o,cap,cs,T,rfl,rfl,bc,hn,rF,hle,vR⟩
 ·exact .nil _ _
 ·have hb:eD φ b:=⟨i,_,eQ,rfl⟩;refine Rd.sl (sz:=sz) (fun i j=>(cs[o+i * sz+j]?).getD undef) (gQ b hb) bc hn rF (fun i r hi=>aZ r (gZ hi)) (fun i r j x hi hj=>?_) (fun i r j x hi hj=>?_)
  ·grind
  ·obtain ⟨y,h1,h2⟩:=vR i r j x hi hj;rw[h1];exact h2.mono xX

theorem Ba(gQ:∀b,eD φ b→S0 b)(hs:HS S0 φ objs w):∀ (n:Nat) {x y:AV} {v:Value},RV (SS S0 φ) w φ x v→iB objs n x=some y→RV S0 w [] y v:=by
 intro n;induction n with
 |zero=>intro x y v _ h;simp[iB]at h
 |succ n ih =>
  intro x y v hx h;simp only[iB]at h;split at h
  case h_1 l =>
   split at h
   case h_2=>cases h
   case h_1 l' hl =>
   cases h;simp only[RV]at hx ⊢;exact akJ
  case h_2 l =>
   split at h
   case h_2=>cases h
   case h_1 l' hl =>
   cases h;simp only[RV]at hx ⊢;exact akJ
  case h_3 i s =>
   split at h
   case h_2=>cases h
   case h_1 sz s' aa ho =>
   obtain⟨Qb,h⟩:=SB h;cases h;simp only[RV];exact agS gQ hs hx ho (cp Qb)
  case h_4 i off =>
   split at h
   case h_2=>cases h
   case h_1 l ho =>
   split at h
   case h_2=>cases h
   case h_1 l' hl =>
   split at h
   case h_2=>cases h
   case h_1 ds kq =>
   cases h;simp only[RV]at hx;obtain⟨b,hb,rfl⟩:=hx;have hk:=cG hs hb ho;simp only[bd]at hk;obtain⟨cs,T,bc,lz⟩:=hk;have h1:=sT (S:=S0) (ψ:=[]) (fun x v y h1 h2=>ih h1 h2) lz hl;have h2:=pd h1 kq;simp only[RV];refine Rd.bG (fun j=>(cs[off+j]?).getD undef) (gQ b ⟨i,_,hb,rfl⟩) bc (fun j x hj=>?_) (fun j x hj=>?_)
   ·obtain ⟨u,h3,_⟩:=h2.get (off+j) (x:=.d x) (by rw [eU]; rw [AL] at hj; rw [hj]; rfl);simp[h3]
   ·obtain ⟨u,h3,h4⟩:=h2.get (off+j) (x:=.d x) (by rw [eU]; rw [AL] at hj; rw [hj]; rfl);rw[h3];simpa[RV]using h4
  case h_5=>cases h;simp only[RV]at hx ⊢;subst hx;exact .v _
  case h_6=>cases h;simp only[RV]at hx ⊢;subst hx;exact .v _
  case h_7=>cases h;simp only[RV]at hx ⊢;exact hx.1.mono xX
  case h_8=>cases h;simp only[RV]at hx ⊢;cases hx;exact .nil _ _
  case h_9=>cases h;simp only[RV]at hx ⊢;exact hx.mono xX
  case h_10 f m c =>
   split at h
   case h_2=>cases h
   case h_1 a' ha =>
   split at h
   case h_2=>cases h
   case h_1 c' hc =>
   cases h;simp only[RV]at hx ⊢;obtain⟨va,vc,h1,h2,h3⟩:=hx;exact⟨va,vc,h1,sT (fun x v y h1 h2=>ih h1 h2) h2 ha,sT (fun x v y h1 h2=>ih h1 h2) h3 hc⟩
  simp_all
end
section
variable {g:G} {pf:Nat→cC}

theorem HS.shut{S0:Nat→Prop}{φ:List bB}{D:Nat}{o o':Obj}(h:HS S0 φ objs w)(hD:w.heap[D]? = some o)(hc:¬ P5 o)(hn:¬ eD φ D):HS S0 φ objs (w.putObj D o') where
 len:=h.len
 ok i ph ob h1 h2:=(h.ok i ph ob h1 h2).mono (fun b hb ⟨o2,qg,Vh⟩=>⟨hb,World.putObj_heap_other fun e=>by simp_all⟩) (.refl _) aC fun b hb=>World.putObj_heap_other fun e=>hn ⟨i,ph,h1,e ▸ hb⟩
 jA:=h.jA
 lt b hb:=by simpa using h.lt b hb
 up b hb:=h.up b (by simpa using hb)

theorem xY{D:Nat}{o o':Obj}(hD:w.heap[D]? = some o)(hc:¬ P5 o):dE S w S (w.putObj D o') :=
 fun b hb ⟨o2,qg,Vh⟩=>⟨hb,World.putObj_heap_other fun e=>by simp_all⟩

def MX (g:G)(E:bk)(objs:List Ob)(tmps:Array Value)(ds rl:List Deferred)(w:World):Prop :=
 ∃φ,HS g.S0 φ objs w∧(∀b,eD φ b→g.w0.heap.size≤b∨g.X0 b)∧kY (SS g.S0 φ) w φ E { tmps:=tmps,defers:=[] }∧tmps.size=g.N∧DK g φ ds w∧Fr0 g φ w∧vW (SS g.S0 φ) w φ g.rr rl

theorem fe.told{a:Act}(h:fe g E objs a w):∃ds rl,a.defers=ds++rl∧MX g E objs a.tmps ds rl w:=by
 obtain⟨φ,h1,h2,h3,h4,⟨ds,rl,e,h5,h7⟩,h6⟩:=h;exact⟨ds,rl,e,φ,h1,h2,h3,h4,h5,h6,h7⟩

theorem MX.shut{E:bk}{objs:List Ob}{tmps:Array Value}{d:Deferred}{ds rl:List Deferred}{w:World}(h:MX g E objs tmps (d::ds) rl w) :
  ∃D,d={ target:=.collected D,args:=#[] }∧w.heap[D]? = some (.deferred (some []))∧MX g E objs tmps ds rl (w.putObj D (.deferred none)):=by
 obtain⟨φ,h1,h2,h3,h4,h5,h6,h7⟩:=h;obtain⟨D,hd,hDw,hn,hD⟩:=h5.2.2 d aC;refine⟨D,hd,hD,φ,h1.shut hD (fun h=>h) hn,h2,fun t=>(h3 t).mono (xY hD (fun h=>h)) (.refl _),h4,⟨fun hm=>(by have:=h5.1 hm;cases this),(xL.1 h5.2.1).2,fun d' Qi=>?_⟩,?_,h7.mono (xY hD (fun h=>h)) (.refl _)⟩
 ·obtain ⟨D',h7,h8,h9,mm⟩:=h5.2.2 d' (by simp [Qi]);refine⟨D',h7,h8,h9,?_⟩;rw[World.putObj_heap_other fun e=>?_]
  ·exact mm
  ·subst e;exact(xL.1 h5.2.1).1 k8
 ·exact⟨by simpa using h6.size,h6.os,h6.tape,h6.out,fun b hb hx=>(World.putObj_heap_other an).trans (h6.fr b hb hx),h6.gen,h6.le⟩

theorem uI{E:bk}{objs:List Ob}{fn:Func}{R':Ending→World→Prop}(fin:∀rl tmps w,MX g E objs tmps [] rl w→LeavesInM g.F g.dep g.P fn tmps R' rl .returning w) :
  ∀ (ds rl:List Deferred) (tmps:Array Value) (w:World),MX g E objs tmps ds rl w→LeavesInM g.F g.dep g.P fn tmps R' (ds++rl) .returning w
 |[],rl,tmps,w,h=>fin rl tmps w h
 |d::ds,rl,tmps,w,h=>by
  obtain⟨D,hd,hD,hs⟩:=h.shut;simp only[jj,LeavesInM];exact⟨by simp,.inl ⟨D,_,by rw[hd],run_takeDeferred hD,uI fin ds rl tmps _ hs⟩⟩

theorem EA(jB:g.rr=[]){R':Ending→World→Prop}(fin:∀tmps w,fe g E objs { tmps:=tmps,defers:=[] } w→∃vv,(results fn tmps).run g.P w=.ok vv w∧R' (.returned vv) w)
  (a:Act) (w:World) (h:fe g E objs a w):LeavesInM g.F g.dep g.P fn a.tmps R' a.defers .returning w:=by
 obtain⟨ds,rl,e,hs⟩:=h.told;rw[e];refine uI (fun rl tmps w h=>?_) ds rl a.tmps w hs;obtain⟨φ,h1,h2,h3,h4,h5,h6,h7⟩:=h;rw[jB]at h7;rw[h7.nil];simp only[LeavesInM,LeavesIn];exact fin tmps w ⟨φ,h1,h2,h3,h4,.none jB h5,h6⟩

def abu (g:G)(fn:Func)(r:AV):Exit→Act→World→Prop :=
 bodyPostM g.F g.dep g.P fn fun e w'=>∃v,e=.returned v∧RV g.S0 w' [] r v∧Below g.w0.heap.size g.w0 w'

theorem qk{Fin:Exit→Act→World→Prop}:∀ (k:List It) {a:Act} {w:World},Fin .ret a w→KP g Fin k .ret a w
 |[],_,_,h=>h
 | .code _::k,_,_,h=>qk k h
 | .js _::k,_,_,h=>qk k h
 | .mark _::k,_,_,h=>qk k h
 | .dr _ _::k,_,_,h=>qk k h

def Qn (P:Program)(ty:Nat→Option Ty)(N:Nat)(w:World)(S:Nat→Prop):G :=
 { P:=P,F:=Fence.wide,dep:=0,ty:=ty,N:=N,w0:=w,S0:=S,X0:=fun _=>False,φ0:=[],Y:=⟨[],fun _=>true⟩,WH:=true }

theorem agT{P:Program}{ty:Nat→Option Ty}{N:Nat}(ha:gx P S w)(fY:jk P ty)(hm:P.follows .mixedOrders=true):c9 (Qn P ty N w S) :=
 ⟨fun _=>trivial,ha.at0 fun _ _ h=>h,rfl,rfl,fY,hm⟩

structure EB (g:G):Prop where
 ok:c9 g
 rr:g.rr=[]
 x:∀b,¬ g.X0 b
 up:∀b,g.w0.heap.size≤b→g.S0 b

theorem agU(hg:EB g){av r:AV}(n:Nat)(mZ:n9 g.ty E objs fn.results.toList=some av)(WY:iB objs n av=some r){a:Act}(hs:fe g E objs a w) :
  abu g fn r .ret a w∧abu g fn r .normal a w:=by
 suffices hl:LeavesInM g.F g.dep g.P fn a.tmps (fun e w'=>∃v,e=.returned v∧RV g.S0 w' [] r v∧Below g.w0.heap.size g.w0 w') a.defers .returning w from⟨hl,hl⟩
 refine EA hg.rr (E:=E) (objs:=objs) (fun tmps w fh=>?_) a w hs;clear hs;have hs:=fh;obtain⟨φ,h1,h2,h3,h4,h5,h6⟩:=hs;obtain⟨vv,h7,h8⟩:=JG hg.ok.ty h1 h3 mZ
 have gQ:∀b,eD φ b→g.S0 b:=fun b hb=>by
  rcases h2 b hb with h |h
  ·exact hg.up b h
  ·exact absurd h (hg.x b)
 have h9:=Ba gQ h1 n h8 WY;have arC:Below g.w0.heap.size g.w0 w:=⟨h6.os,h6.tape,h6.out,h6.size,fun b hb=>h6.fr b hb (hg.x b)⟩
 simp_all

theorem Ay(hg:EB g){k:List It}{av r r':AV}(n:Nat)(mZ:n9 g.ty E objs fn.results.toList=some av)(WY:iB objs n av=some r')(hr:r'=r):R g pf (abu g fn r) (.code .ret::k) E objs:=by
 subst hr;intro _ a w hs;exact wpIn_ret (qk k (agU hg n mZ WY hs).1)

def lP:List AV→Nat→bk
 |[],_=>[]
 |x::r,k=>(k,x)::lP r (Nat.succ k)

theorem vU:∀ (l:List AV) (k t:Nat),lk (lP l k) t=if t<k then .any else (l[t - k]?).getD .any
 |[],k,t=>by simp[lP,lk]
 |x::r,k,t=>by
  simp only[lP,lk];by_cases h:k=t
  ·subst h;simp
  ·rw [sX h,cond_false,vU r (k+1) t]
   grind

theorem bD.ej{P:Program}{ty:Nat→Option Ty}{f:Nat}{fn:Func}{c:Code}{args:List AV}{r:AV}(fY:jk P ty)(hm:P.follows .mixedOrders=true)(hf:P.funcs[f]? = some fn)(hb:fn.body=some c)
  (hn:(fn.name == "runtime.NumGoroutine")=false) (dw:fB pf c=true) (hN:args.length≤fn.ntmps)
  (h:∀ (w:World) (S:Nat→Prop),EB (Qn P ty fn.ntmps w S)→R (Qn P ty fn.ntmps w S) pf (abu (Qn P ty fn.ntmps w S) fn r) [.code c] (lP args 0) []):bD P f args r:=by
 refine⟨iJ hf hb hn,fun S w bL ha SL hv=>?_⟩;have hg:EB (Qn P ty fn.ntmps w S):=⟨agT ha fY hm,rfl,fun _ h=>h,SL⟩;have aZ:=hv.length;refine callsIn_wide.1 (callsIn_of_wp_marks (F:=Fence.wide) (n:=0) hf hb trivial ?_)
 have hs:fe (Qn P ty fn.ntmps w S) (lP args 0) [] { tmps:=bL.toArray++Array.replicate (fn.ntmps - bL.toArray.size) undef,defers:=[] } w:=by
  have Ir:∀b,¬ eD [] b:=by rintro b ⟨i,p,h,_⟩;simp at h
  refine⟨[],⟨rfl,by simp,?_,fun b hb=>absurd hb (Ir b),SL⟩,fun b hb=>absurd hb (Ir b),fun t=>?_,by simp[Qn];omega,.none rfl ⟨fun _=>rfl,.nil,by simp⟩,⟨ef _,rfl,rfl,rfl,fun _ _ _=>rfl,fun i l I B h=>by simp at h,fun i p h=>by simp[Qn]at h⟩⟩
  ·intro i j p q b h;simp at h
  ·rw [agQ,vU];simp only[aa2,if_false,So];cases ha:args[t]? with
   |none=>simp[RV]
   |some x =>
    exact mB8
 have hR:=RK.ej (pf:=pf) (k:=[.code c]) ⟨dw,trivial⟩ (h w S hg) aC _ _ hs;refine wpIn_mono hR ?_;intro e a' w' hk;cases e<;>exact hk
end
end aw
namespace aw
open Go Go.RowKit

variable{objs:List Ob}{gd:Option (Nat × Bool)}{k:List It}{aa:List (List D)}{E:bk}{after:Array Edge}{dst:Option Nat}{pos:String}{row:List D}{α:Type}{ty:Nat}
theorem MY{F:Fence}{n:Nat}{P:Program}{Q:Exit→Act→World→Prop}{a:Act}{w:World}{c:Code}(I:α→Act→World→Prop)(μ:α→Nat)(x0:α)(h₀:I x0 a w)
  (round:∀x a w,I x a w→c.wpIn F n P (Exit.then (fun a' w'=>∃y,I y a' w'∧μ y<μ x) Q) a w):(Code.loop c).wpIn F n P Q a w:=by
 intro b k cs hro hb hr
 have key:∀ j x a w,μ x=j→I x a w →
   ∃e a' w',Q e a' w'∧ArrivesIn (Machine.fenced P F) P (lone (b.atR a (.code c :: .inLoop c::k)) cs w) b k cs e a' w':=by
  intro j;induction j using Nat.strongRecOn with
  |_ j ih =>
   intro x a w hn hI;obtain⟨e,a₁,w₁,hq,JH⟩:=round x a w hI b (.inLoop c::k) cs hro hb hr;cases e with
   |normal =>
    obtain⟨y,arD,fu⟩:=hq;obtain⟨e₂,a₂,w₂,arE,ala⟩:=ih (μ y) (hn ▸ fu) y a₁ w₁ rfl arD;exact⟨e₂,a₂,w₂,arE,.of_steps (StepsIn.trans JH (.one (fenced_calm hb hr rfl) stepR_inLoop)) ala⟩
   |exit id=>exact⟨_,a₁,w₁,hq,.pass (x:=.inLoop c) rfl (fun _ _=>.inl aC) JH⟩
   |goto l=>exact⟨_,a₁,w₁,hq,.pass (x:=.inLoop c) rfl (fun _ _=>.inl aC) JH⟩
   |ret=>exact⟨_,a₁,w₁,hq,.pass (x:=.inLoop c) rfl (fun _ _=>.inl aC) JH⟩
   |panic ch=>exact⟨_,a₁,w₁,hq,.pass (x:=.inLoop c) rfl (fun _ _=>.inl aC) JH⟩
   |outgrown=>exact⟨_,a₁,w₁,hq,.pass (x:=.inLoop c) rfl (fun _ _=>.inl aC) JH⟩
 obtain⟨e,a',w',hq,JH⟩:=key _ x0 a w rfl h₀;exact⟨e,a',w',hq,.of_steps (.one (fenced_calm hb hr rfl) stepR_loop) JH⟩
section
variable {g:G} {pf:Nat→cC} {ad:Array Oper} {Fin:Exit→Act→World→Prop}

theorem aI.up{o:Oper}{c:cC}{v:AV}(h:aI g ad o E objs .still v objs):aI g ad o E objs c v objs :=
 ⟨fun _=>rfl,fun _ _ _=>.refl _,fun E₁ o₁ jl a w h1 h2 h3=>h.step E₁ o₁ jl a w h1 (by
  grind) h3⟩

theorem cL{o:Oper}{r:List Oper}{objs objs':List Ob}{v:AV}(h:aI g ad o E objs (bI pf o.op) v objs')(hr:R g pf Fin (.dr ad r::k) (bf E o.dst v) objs') :
  R g pf Fin (.dr ad (o::r)::k) E objs:=fun ho=>⟨v,objs',h,hr ho⟩

theorem Mn(hg:c9 g){f:Nat}{dM:List AV}{r:AV}(hc:bD g.P f dM r){x:Operand}{args:Array Operand}{ts:Array Nat}
  {ax:List Oper}    {fs cs:List AV}
  (bm:aG ad.toList E gd=some true) (hd:aO ⟨g.ty,g.N⟩ dst=true) (hx:ev E x=.bU f fs cs) (has:(fs++args.toList.map (ev E)++cs).map lB=dM) (hpa:kZ dM=true) (hpr:mq r=true)
  (hr:R g pf Fin (.dr ad ax::k) (bf E dst r) objs) :
  R g pf Fin (.dr ad (⟨dst,.call { callee:=.value x,args:=args,argTypes:=ts },ty,pos,after,gd⟩::ax)::k) E objs :=
 cL (aI.up (JF hg (cK bm) (dD hd) rfl hx has hpa hc hpr)) hr

theorem abv{S:Nat→Prop}{w:World}{v:Value}(h:Rd S w (.sl aa) v){i:Nat}(hi:aa[i]? = some row) :
  ∃b o cap,v=.slice (some ⟨b,o,none⟩) aa.length cap∧Rd S w (.bG row) (.pointer (some ⟨b,o+i * row.length,none⟩)):=by
 cases h with
 |nil a c=>simp at hi
 |@sl _ b o cap sz cs T fr g hS hb hl hc hsz hg hr =>
  refine⟨b,o,cap,rfl,?_⟩;have:=hsz i row hi;rw[this];exact .bG (fun j=>g i j) hS hb (fun j x hj=>hg i row j x hi hj) (fun j x hj=>hr i row j x hi hj)

theorem EC(hg:c9 g){T:Nat}{x i:Operand}
   {n:Int}  {sz cj e:Nat} {z:List Value} {τ:Ty}
  (bm:aG ad.toList E gd=some true) (hd:aO ⟨g.ty,g.N⟩ dst=true) (hx:lB (ev E x)=.d (.sl aa)) (hi:ev E i=.d (.v (.int .i64 n))) (hT:g.ty T=some ⟨sz,cj,z,.slice e⟩) (he:g.ty e=some τ)
  (h0:0≤n) (gL:aa[n.toNat]? = some row) (hsz:row.length=τ.size):aI g ad ⟨dst,.indexAddr T x i,ty,pos,after,gd⟩ E objs .still (.d (.bG row)) objs:=by
 refine .mY hg (cK bm) (dD hd) aC cF (fun _ _ _=>.refl _) fun φ o₁ jl a w E₁ tS hv ho hs=>?_
 have e:jl=o₁:=by
  grind
 subst e;have hρ:=ia (l:=Oper.looksAt ad ⟨dst,.indexAddr T x i,ty,pos,after,gd⟩) tS hv
 have hev:∀y∈([x,i]:List Operand),pg (Oper.looksAt ad ⟨dst,.indexAddr T x i,ty,pos,after,gd⟩) E y=ev E y:=fun y hy=>by
  cases y with
  |tmp t=>simp[pg,ev,sZ (ad:=ad) (o:=⟨dst,.indexAddr T x i,ty,pos,after,gd⟩) (t:=t) (by simpa[Op.operands]using hy)]
  |_=>rfl
 have aN:=bM.lB _ _ _ _ _ (hρ x);rw[hev x aC,hx]at aN;have v8:=hρ i;rw[hev i aC,hi]at v8;simp only[RV]at aN v8;generalize hvi:a.eval i=vi at v8;cases v8;obtain⟨b,o,cap,kU,vR⟩:=abv aN gL;have fu:n.toNat<aa.length:=(bC.1 gL).1;have Gt:=(hg.ty _ _ hT).sh;simp only[bA]at Gt;refine aY hs (vv:=.pointer (some ⟨b,o+n.toNat * row.length,none⟩)) ?_ (by simp only[RV];exact vR)
 have fm:(Instr.indexAt T (a.eval x) (a.eval i)).run g.P w=.ok (.pointer (some ⟨b,o+n.toNat * row.length,none⟩)) w:=by
  simp only[Instr.indexAt,kU,hvi,asIntOf,underlying,Sem.run_bind,Sem.run_pure,run_program,Result.andThen_ok,Gt];rw[Sem.run_ite,if_pos ⟨h0,by omega⟩];simp only[Sem.run_bind,run_sizeOf (hg.ty _ _ he),Result.andThen_ok,Sem.run_pure,fK,hsz]
 simp only[execOp,Sem.run_bind,fm,Result.andThen_ok,Sem.run_pure]

theorem dN(hg:c9 g){T:Nat}{x i:Operand}{ax:List Oper}
   {n:Int}  {sz cj e:Nat} {z:List Value} {τ:Ty}
  (bm:aG ad.toList E gd=some true) (hd:aO ⟨g.ty,g.N⟩ dst=true) (hx:lB (ev E x)=.d (.sl aa)) (hi:ev E i=.d (.v (.int .i64 n))) (hT:g.ty T=some ⟨sz,cj,z,.slice e⟩) (he:g.ty e=some τ)
  (h0:0≤n) (gL:aa[n.toNat]? = some row) (hsz:row.length=τ.size)
  (hr:R g pf Fin (.dr ad ax::k) (bf E dst (.d (.bG row))) objs):R g pf Fin (.dr ad (⟨dst,.indexAddr T x i,ty,pos,after,gd⟩::ax)::k) E objs :=
 cL (aI.up (EC hg bm hd hx hi hT he h0 gL hsz)) hr

theorem bh(st:α→bk × List Ob)(inv:α→Prop)(μ:α→Nat)(x0:α){b:Code}
  (h0:inv x0) (hE:n8 E (st x0).1) (hO:objs=(st x0).2)
  (MZ:∀x,inv x→R g pf Fin (.code b :: .mark (fun E' objs'=>∃y,inv y∧μ y<μ x∧n8 E' (st y).1∧objs'=(st y).2)::k) (st x).1 (st x).2) :
  R g pf Fin (.code (.loop b)::k) E objs:=by
 rintro⟨nQ,ho⟩ a w hs;simp only[fB]at nQ;subst hO;simp only[KP];refine MY (fun x a w=>inv x∧fe g (st x).1 (st x).2 a w) μ x0 ⟨h0,hs.zH hE.SK⟩ fun x a w hx=>?_
 have h1:=RK.ej (pf:=pf) (k:=.code b :: .mark (fun E' objs'=>∃y,inv y∧μ y<μ x∧n8 E' (st y).1∧objs'=(st y).2)::k) ⟨nQ,ho⟩ (MZ x hx.1) aC a w hx.2;refine wpIn_mono h1 fun e a' w' hk=>?_
 cases e<;>first
  |exact hk
  | (obtain ⟨E',objs',⟨y,h2,h3,h4,h5⟩,h6⟩:=hk
     subst h5;exact⟨y,⟨h2,h6.zH h4.SK⟩,h3⟩)
theorem xZ{M:bk→List Ob→Prop}(h:M E objs):R g pf Fin (.mark M::k) E objs:=fun _ _ _ hs=>⟨E,objs,h,hs⟩

theorem bp{st:α→bk × List Ob}{inv:α→Prop}{μ:α→Nat}{x:α}(y:α)(h1:inv y)(h2:μ y<μ x)(h3:n8 E (st y).1)(h4:objs=(st y).2) :
  R g pf Fin (.mark (fun E' objs'=>∃y,inv y∧μ y<μ x∧n8 E' (st y).1∧objs'=(st y).2)::k) E objs:=xZ ⟨y,h1,h2,h3,h4⟩
end
end aw
namespace aw
open Go Go.RowKit

variable{aa:List (List D)}{S:Nat→Prop}{w:World}{P:Program}{φ:List bB}{xa a:Option Addr}{sz xc n:Nat}{v x:Value}{p:bB}
theorem lC{i:Nat}{b:Nat}(h:eD (φ.set i p) b):(∃j q,j≠i∧φ[j]? = some q∧q.bl b)∨p.bl b:=by
 obtain⟨j,q,h1,h2⟩:=h
 grind

theorem jJ.swap{S0:Nat→Prop}{objs:List Ob}{w w':World}{i:Nat}{p p':bB}{oT:Ob}(h:HS S0 φ objs w)(hi:φ[i]? = some p)(hle:SA p p')(hsz:w.heap.size≤w'.heap.size)
  (hk:∀c,c<w.heap.size→¬ p.bl c→w'.heap[c]? = w.heap[c]?) (gQ:∀b,p'.bl b→p.bl b∨(w.heap.size≤b∧b<w'.heap.size)) (hos:w'.os=w.os) (JI:w'.tape=w.tape) (iI:w'.output=w.output)
  (dw:dE (SS S0 φ) w (SS S0 (φ.set i p')) w'→jZ φ (φ.set i p')→bd (SS S0 (φ.set i p')) w' (φ.set i p') p' oT) (hx:∀l I B,p'=bB.ext l I B→∃B0,p=bB.ext l I B0:=by intro _ _ _ h;cases h):jJ S0 φ w (φ.set i p') (objs.set i oT) w':=by
 have fu:i<φ.length:=(bC.1 hi).1
 have bx:dE (SS S0 φ) w (SS S0 (φ.set i p')) w':=.of fun b hb GF=>by
  have hpb:¬ p.bl b:=fun e=>hb.2 ⟨i,p,hi,e⟩
  refine⟨⟨hb.1,fun hc=>?_⟩,hk b GF hpb⟩;rcases lC hc with ⟨j,q,_,h1,h2⟩ |h1
  ·exact hb.2 ⟨j,q,h1,h2⟩
  ·rcases gQ b h1 with h2 | h2
   ·exact hpb h2
   ·omega
 have agV:jZ φ (φ.set i p'):=fun j q hj=>by
  by_cases nc:i=j
  ·subst nc;rw[hi]at hj;cases hj;exact⟨p',by simp[fu],hle⟩
  ·exact⟨q,by rw[q6 nc];exact hj,.inl rfl⟩
 refine⟨⟨by simp[h.len],?_,?_,?_,fun b hb=>h.up b an⟩,bx,agV,hsz,hos,JI,iI,fun b hb hn=>hk b hb fun e=>hn ⟨i,p,hi,e⟩,?_,?_⟩
 ·intro j ph ob h1 h2;by_cases nc:i=j
  ·subst nc;have j3:i<objs.length:=by rw[← h.len];exact fu
   simp[fu]at h1;simp[j3]at h2;subst h1;subst h2;exact dw bx agV
  ·rw [q6 nc] at h1 h2;refine(h.ok j ph ob h1 h2).mono bx agV hsz fun b hb=>hk b (h.lt b ⟨j,ph,h1,hb⟩) fun e=>nc (h.jA i j p ph b hi h1 e hb)
 ·have key:∀ (j:Nat) (q:bB) (b:Nat),(φ.set i p')[j]? = some q→q.bl b→(j=i∧q=p')∨(j≠i∧φ[j]? = some q):=fun j q b h1 _=>by
   by_cases nc:i=j
   ·subst nc;simp[fu]at h1;exact .inl ⟨rfl,h1.symm⟩
   ·rw[q6 nc]at h1;exact .inr ⟨fun e=>nc e.symm,h1⟩
  intro j k q r b h1 h2 h3 h4;rcases key j q b h1 h3 with ⟨rfl,rfl⟩ |⟨g1,g2⟩<;>rcases key k r b h2 h4 with ⟨g3,g4⟩ |⟨g3,g4⟩
  ·exact g3.symm
  ·rcases gQ b h3 with h5 | h5
   ·exact h.jA _ _ _ _ _ hi g4 h5 h4
   ·have:=h.lt b ⟨k,r,g4,h4⟩;omega
  ·subst g3; subst g4;rcases gQ b h4 with h5 |h5
   ·exact h.jA _ _ _ _ _ g2 hi h3 h5
   ·have:=h.lt b ⟨j,q,g2,h3⟩;omega
  ·exact h.jA _ _ _ _ _ g2 g4 h3 h4
 ·intro b hb;rcases lC hb with ⟨j,q,_,h1,h2⟩ |h1
  ·have:=h.lt b ⟨j,q,h1,h2⟩;omega
  ·rcases gQ b h1 with h2 | h2
   ·have:=h.lt b ⟨i,p,hi,h2⟩;omega
   ·exact h2.2
 ·intro b hb;rcases lC hb with ⟨j,q,_,h1,h2⟩ |h1
  ·exact .inl ⟨j,q,h1,h2⟩
  ·rcases gQ b h1 with h2 | h2
   ·exact .inl ⟨i,p,hi,h2⟩
   ·exact .inr h2.1
 grind

theorem jJ.add{S0:Nat→Prop}{objs:List Ob}{w w':World}{ob:Ob}(h:HS S0 φ objs w)(hsz:w.heap.size≤w'.heap.size)
  (hk:∀c,c<w.heap.size→w'.heap[c]? = w.heap[c]?) (gQ:∀b,p.bl b→w.heap.size≤b∧b<w'.heap.size) (hos:w'.os=w.os) (JI:w'.tape=w.tape) (iI:w'.output=w.output)
  (dw:dE (SS S0 φ) w (SS S0 (φ++[p])) w'→bd (SS S0 (φ++[p])) w' (φ++[p]) p ob) (hx:∀l I B,p≠bB.ext l I B:=by intro _ _ _ h;cases h):jJ S0 φ w (φ++[p]) (objs++[ob]) w':=by
 have bx:dE (SS S0 φ) w (SS S0 (φ++[p])) w':=.of fun b hb GF=>⟨⟨hb.1,fun hc=>by
  rcases sU.1 hc with hc |hc
  ·exact hb.2 hc
  grind⟩,hk b GF⟩
 refine⟨⟨by simp[h.len],?_,Jn h.jA fun b hb hc=>by have:=h.lt b hc;grind,fun b hb=>?_,fun b hb=>h.up b an⟩,bx,.app _ _,hsz,hos,JI,iI,fun b hb _=>hk b hb,fun b hb=>?_,fun _ _ _ B h=>⟨B,P6 hx h⟩⟩
 ·intro i ph oT h1 h2;rcases oy i φ.length with hi |hi
  ·rw [jx hi] at h1;rw[jx aaU]at h2;exact(h.ok i ph oT h1 h2).mono bx (.app _ _) hsz fun b hb=>hk b (h.lt b ⟨i,ph,h1,hb⟩)
  ·rw [kR hi] at h1;rw[kR aaU]at h2
   grind
 ·rcases sU.1 hb with hb | hb
  ·have:=h.lt b hb;omega
  simp_all
 ·rcases sU.1 hb with hb | hb
  ·exact .inl hb
  simp_all

structure DN (P:Program) (S:Nat→Prop) (w:World) (sz:Nat) (aa:List (List D)) (v:Value) (cells:List Value):Prop where
 sl:∃a c,v=.slice a aa.length c
 run:∀w',w'.heap=w.heap→(Builtin.firstCells sz aa.length v).run P w'=.ok cells.toArray w'
 len:cells.length=aa.length * sz
 rd:∀ (i:Nat) (r:List D) (j:Nat) (x:D),aa[i]? = some r→r[j]? = some x→∃y,cells[i * sz+j]? = some y∧Rd S w x y

theorem ED{k n sz:Nat}(h:k<n * sz):k / sz<n∧k % sz<sz∧k / sz * sz+k % sz=k:=by
 have hz:0<sz:=by
  grind
 refine⟨(Nat.div_lt_iff_lt_mul hz).2 h,Nat.mod_lt _ hz,?_⟩;rw[Nat.mul_comm];exact Nat.div_add_mod k sz

theorem DN.aer{sz b o cap T:Nat}{cs:Array Value}{fr:Nat × Nat}(hb:w.heap[b]? = some (.cells cs T fr))(hsz:∀r∈aa,r.length=sz)
  (hg:∀ (i:Nat) (r:List D) (j:Nat) (x:D),aa[i]? = some r→r[j]? = some x→∃y,cs[o+i * sz+j]? = some y∧Rd S w x y) :
  DN P S w sz aa (.slice (some ⟨b,o,none⟩) aa.length cap) ((List.range (aa.length * sz)).map fun k=>(cs[o+k]?).getD undef):=by
 have EE:∀k,k<aa.length * sz→∃y,cs[o+k]? = some y:=fun k hk=>by
  obtain⟨h1,h2,h3⟩:=ED hk;have hr:aa[k / sz]? = some (aa[k / sz]):=dY h1;have hl:=hsz _ (eg h1);obtain⟨y,hy,_⟩:=hg (k / sz) _ (k % sz) _ hr (dY (by rw[hl];exact h2))
  grind
 refine⟨⟨_,_,rfl⟩,fun w' hw=>?_,by simp,fun i r j x hi hj=>?_⟩
 ·refine run_firstCells_some w' sz aa.length ⟨b,o,none⟩ _ _ _ aC fun j v hj=>?_
  rw[eU]at hj
  have fu:j<aa.length * sz:=by
   grind
  rw[V9 fu]at hj;obtain⟨y,hy⟩:=EE j fu;simp only[rD,hy,Option.getD_some,Option.some.injEq]at hj;subst hj;rw[fK];simp[World.cell?,hw,hb,hy]
 ·have l7:=(bC.1 hi).1;have kQ:=hsz r (gZ hi);have Bb:=(bC.1 hj).1
  have fu:i * sz+j<aa.length * sz:=by
   have:(i+1) * sz≤aa.length * sz:=o7 _ l7;rw[uF]at this;omega
  grind

theorem DN.empty{sz c:Nat}:DN P S w sz [] (.slice a 0 c) []:=by
 refine⟨⟨_,_,rfl⟩,fun w' _=>?_,by simp,by simp⟩;cases a with
 |none=>exact run_firstCells_none w' sz _ _ _
 |some a=>exact run_firstCells_some w' sz 0 a 0 c [] aC aC

theorem DN.EF(h:Rd S w (.sl aa) v)(hsz:∀r∈aa,r.length=sz):∃cells,DN P S w sz aa v cells:=by
 cases h with
 |nil a c=>exact⟨[],.empty⟩
 |@sl _ b o cap Jj cs T fr g hS hb hl hc agW hg hr =>
  refine⟨_,DN.aer hb hsz fun i r j x hi hj=>⟨g i j,?_,hr i r j x hi hj⟩⟩
  grind

theorem DN.alc{sz s:Nat}{ob:Option Nat}{Jj s':Nat}(h:bd S w φ (.nZ sz s v ob) (.arr Jj s' aa)):∃cells,DN P S w sz aa v cells:=by
 simp only[bd]at h;obtain⟨_,_,hsz,h⟩:=h;rcases h with ⟨a,rfl,rfl,_⟩ |⟨b,o,cap,cs,T,rfl,_,hb,_,_,_,vR⟩
 ·exact⟨[],.empty⟩
 ·exact⟨_,DN.aer hb hsz fun i r j x hi hj=>by simp_all⟩

theorem DN.one{cells:List Value}(h:DN P S w sz aa v cells)(hsz:∀r∈aa,r.length=sz)(h1:∀r∈aa,∀x∈r,p7 (.d x)=true) :
  ∀c∈cells,c.oneCell'=true:=by
 intro c hc;obtain⟨k,hk⟩:=uE.1 hc;have fu:=(bC.1 hk).1;rw[h.len]at fu;obtain⟨g1,g2,g3⟩:=ED fu;have hl:=hsz _ (eg g1);have hx:(aa[k / sz])[k % sz]? = some (aa[k / sz][k % sz]' an):=dY _;obtain⟨y,hy,vR⟩:=h.rd (k / sz) _ (k % sz) _ (dY g1) hx;rw[g3,hk]at hy;cases hy;exact(AW (φ:=[]) (x:=.d _) (by simp only[RV];exact vR) (h1 _ (eg g1) _ (eg _))).1
section
variable {P:Program} {w:World} {T T' tr e e':Nat} {τ:Ty}

theorem GG(hT:P.underlying T=some (.slice e))(kX:P.underlying T'=some (.slice e'))(he:kz P e τ){b o n cap m:Nat}(hx:x=.slice xa m xc){cu:List Value}
  (hn:(Builtin.firstCells τ.size m x).run P w=.ok cu.toArray w) (SP:cu.length=m * τ.size) (h1:∀c∈cu,c.oneCell'=true) {cs:List Value} {Tb:Nat} (hb:w.heap[b]? = some (.cells cs.toArray Tb (0,0))) (lN:n+m≤cap) (hle:o+cap * τ.size≤cs.length) :
  ∃w',(Builtin.append_ #[T,T'] tr #[.slice (some ⟨b,o,none⟩) n cap,x]).run P w=.ok (.slice (some ⟨b,o,none⟩) (n+m) cap) w'∧MM w w' b Tb (dx cs (o+n * τ.size) cu):=by
 have hmul:(n+m) * τ.size≤cap * τ.size:=o7 _ lN;rw[Nat.add_mul]at hmul;obtain⟨w',h2,h3⟩:=mV (P:=P) cu 0 (o+n * τ.size) w cs hb h1 an;obtain⟨i,z,mJ,Mf,hi3,hi4,_⟩:=he.info;refine⟨w',?_,by simpa using h3⟩;subst hx;simp[Builtin.append_,Builtin.lenOf,run_underlying hT,run_underlying kX,run_sizeOf he,lN,hn,fK,h2]

theorem mB(hT:P.underlying T=some (.slice e))(kX:P.underlying T'=some (.slice e'))(he:kz P e τ){n cap:Nat}(hx:x=.slice xa 0 xc)
  (hn:(Builtin.firstCells τ.size 0 x).run P w=.ok #[] w) (hc:n≤cap) :
  (Builtin.append_ #[T,T'] tr #[.slice a n cap,x]).run P w=.ok (.slice a n cap) w:=by
 subst hx;cases a<;>simp[Builtin.append_,run_underlying hT,run_underlying kX,run_sizeOf he,Builtin.lenOf,hn,hc,storeCells]

theorem ql(hT:P.underlying T=some (.slice e))(kX:P.underlying T'=some (.slice e'))(he:kz P e τ){n cap m:Nat}(hx:x=.slice xa m xc){rK cu:List Value}
  (ho:∀w',w'.heap=w.heap→(Builtin.firstCells τ.size n (.slice a n cap)).run P w'=.ok rK.toArray w') (hn:∀w',w'.heap=w.heap→(Builtin.firstCells τ.size m x).run P w'=.ok cu.toArray w')
  (hg:cap<n+m) (qm:(n+m) * τ.bytes≤140737488355328) (tJ:n+m≤maxLen) :
  ∃ (zs:List Value) (oD:Nat),n+m≤oD∧oD≤maxLen∧zs.length=(oD - (n+m)) * τ.size ∧
   (Builtin.append_ #[T,T'] tr #[.slice a n cap,x]).run P w=.ok (.slice (some ⟨w.heap.size,0,none⟩) (n+m) oD) (w.drew.alloc (.cells (rK++cu++zs).toArray e)):=by
 obtain⟨i,z,mJ,Mf,hi3,hi4,hi5⟩:=he.info;have hzs:z.cells.size=τ.size:=by have:=he.zl;grind
 refine⟨(Builtin.zeroCells z.cells (grownCap w (n+m) cap e - (n+m))).toList,grownCap w (n+m) cap e,grownCap_ge w _ _ _,grownCap_le_maxLen w _ _ _ tJ,?_,?_⟩
 ·rw[Array.length_toList,size_zeroCells,hzs]
 ·subst hx;have h1:¬ (n+m≤cap):=by omega
  have h2:¬ (9223372036854775807<((n:Int)+(m:Int))):=by simp only[maxLen]at tJ;omega
  have h3:¬ (281474976710656<Builtin.nextslicecap (n+m) cap * i.bytes):=by
   have:=growslice_fits hg qm;rw[hi4];omega
  have AD:=hn w.drew rfl;have vp:=ho w.drew rfl;simp[Builtin.append_,run_underlying hT,run_underlying kX,run_sizeOf he,typeInfo,zeroValue,mJ,Mf,Builtin.lenOf,h1,h2,h3,Question.forced,AD,vp,newRow,grownCap];congr 2
  simp_all
end
end aw
namespace aw
open Go Go.RowKit
variable{objs:List Ob}{E:bk}{o:Oper}{w:World}{v:AV}{sz:Nat}
section
variable {g:G} {pf:Nat→cC} {ad:Array Oper} {Fin:Exit→Act→World→Prop}

theorem lf{E E₁:bk}{S:Nat→Prop}{φ:List bB}{a:Act}(tS:∀t∈o.looksAt ad,bM (lk E₁ t) (lk E t))(hv:kY S w φ E₁ a) :
  ∀y∈o.op.operands.toList,RV S w φ (ev E y) (a.eval y):=fun y hy=>by
 have h:=ia (l:=o.looksAt ad) tS hv y;cases y with
 |tmp t=>simpa[pg,ev,sZ (ad:=ad) hy]using h
 |_=>exact h

theorem aI.effect(hg:c9 g){objs objs':List Ob}(bm:aG ad.toList E o.guard=some true)(hd:aO ⟨g.ty,g.N⟩ o.dst=true)(GC:∀c,o.op≠.defer c)
  (iI:∀ (φ:List bB) (a:Act) (w:World),(∀y∈o.op.operands.toList,RV (SS g.S0 φ) w φ (ev E y) (a.eval y))→HS g.S0 φ objs w→Out g.P (execOp a.eval o) g.S0 φ w v objs'):aI g ad o E objs .ji v objs':=by
 refine .mY hg (cK bm) (dD hd) GC (fun h=>absurd rfl (h _)) (fun b h hb=>by cases h;omega) fun φ o₁ jl a w E₁ tS hv ho hs=>?_
 rcases ho with ⟨h,_⟩ |⟨_,h,_⟩ |⟨rfl,rfl⟩
 ·cases h
 ·cases h
 ·exact iI φ a w (lf tS hv) hs

theorem aI.eT(hg:c9 g){objs objs':List Ob}{b:Nat}(hgr:Gr g.φ0.length b objs objs')(bm:aG ad.toList E o.guard=some true)(hd:aO ⟨g.ty,g.N⟩ o.dst=true)(GC:∀c,o.op≠.defer c)
  (iI:∀ (φ:List bB) (a:Act) (w:World),(∀y∈o.op.operands.toList,RV (SS g.S0 φ) w φ (ev E y) (a.eval y))→HS g.S0 φ objs w→Out g.P (execOp a.eval o) g.S0 φ w v objs'):aI g ad o E objs (.bO b) v objs':=by
 refine .mY hg (cK bm) (dD hd) GC (fun h=>absurd rfl (h _)) (fun b' h _=>by simp_all) fun φ o₁ jl a w E₁ tS hv ho hs=>?_
 rcases ho with ⟨h,_⟩ |⟨_,h,_⟩ |⟨rfl,rfl⟩
 ·cases h
 ·cases h
 ·exact iI φ a w (lf tS hv) hs

theorem aI.fM(hg:c9 g)(m:Nat)(bm:aG ad.toList E o.guard=some true)(hd:aO ⟨g.ty,g.N⟩ o.dst=true)(GC:∀c,o.op≠.defer c)
  (iI:∀ (φ:List bB) (a:Act) (w:World) (bP:List Ob),(Gr g.φ0.length m bP objs∨Gr g.φ0.length m objs bP)→(∀y∈o.op.operands.toList,RV (SS g.S0 φ) w φ (ev E y) (a.eval y))→HS g.S0 φ bP w→Out g.P (execOp a.eval o) g.S0 φ w v bP):aI g ad o E objs (.look (m+1)) v objs:=by
 refine .mY hg (cK bm) (dD hd) GC cF (fun _ _ _=>.refl _) fun φ o₁ jl a w E₁ tS hv ho hs=>?_
 rcases ho with ⟨h,_⟩ |⟨m',h,hgr,rfl⟩ |⟨rfl,rfl⟩
 ·cases h
 ·cases h;exact iI φ a w jl hgr (lf tS hv) hs
 ·exact iI φ a w jl (.inl (.refl _)) (lf tS hv) hs

theorem aI.quiet(hg:c9 g){c:cC}(bm:aG ad.toList E o.guard=some true)(hd:aO ⟨g.ty,g.N⟩ o.dst=true)(GC:∀c,o.op≠.defer c)
  (iI:∀ (φ:List bB) (objs:List Ob) (a:Act) (w:World),(∀y∈o.op.operands.toList,RV (SS g.S0 φ) w φ (ev E y) (a.eval y))→HS g.S0 φ objs w→Out g.P (execOp a.eval o) g.S0 φ w v objs):aI g ad o E objs c v objs:=by
 refine .mY hg (cK bm) (dD hd) GC cF (fun _ _ _=>.refl _) fun φ o₁ jl a w E₁ tS hv ho hs=>?_
 have e:jl=o₁:=by
  grind
 subst e;exact iI φ jl a w (lf tS hv) hs

theorem bN{T sz cj e:Nat}{z:List Value}(hg:c9 g)(h:g.ty T=some ⟨sz,cj,z,.slice e⟩):g.P.underlying T=some (.slice e):=by
 have:=(hg.ty _ _ h).sh;simpa only[bA]using this
theorem oE{o:Obj}:(w.drew.alloc o).heap[w.heap.size]? = some o:=heap_alloc_new w.drew o
theorem jD{o:Obj}{b:Nat}(h:b<w.heap.size):(w.drew.alloc o).heap[b]? = w.heap[b]? := fD (w:=w.drew) h

theorem EG{rK cu zs:List Value}{k:Nat}{y:Value}(h:(rK++cu)[k]? = some y):(rK++cu++zs)[k]? = some y:=by
 grind

theorem wa{S S':Nat→Prop}{w w':World}{P:Program}{aa cu:List (List D)}{v x:Value}{rK cells:List Value}(h1:DN P S w sz aa v rK)(h2:DN P S w sz cu x cells)(hk:dE S w S' w') :
  ∀ (i:Nat) (r:List D) (j:Nat) (x:D),(aa++cu)[i]? = some r→r[j]? = some x→r.length=sz→∃y,(rK++cells)[i * sz+j]? = some y∧Rd S' w' x y:=by
 intro i r j x hi hj hl;have Bb:=(bC.1 hj).1;rcases oy i aa.length with h |h
 ·rw [jx h] at hi;obtain⟨y,h3,h4⟩:=h1.rd i r j x hi hj;refine⟨y,?_,h4.mono hk⟩
  grind
 ·rw [kR h] at hi;obtain⟨y,h3,h4⟩:=h2.rd _ r j x hi hj;refine⟨y,?_,h4.mono hk⟩;have h5:aa.length * sz≤i * sz:=o7 _ h;rw[kR (by rw[h1.len];omega),h1.len,← h3,Nat.sub_mul];congr 1;omega

theorem Bc{n0:Nat}{i sz s Jj s':Nat}{aa rows':List (List D)}(ho:dk objs i=some (.arr sz s aa)):Gr n0 1 objs (da objs i (.arr Jj s' rows')):=fun j x hj=>by
 rw[bu]at ho;rw[bq];by_cases e:j=i
 ·subst e;rw[ho]at hj;cases hj;exact akq
 grind

theorem IQ(hg:c9 g){dst:Option Nat}{T T':Nat}{x y:Operand}{ty:Nat}{pos:String}{after:Array Edge}{gd:Option (Nat × Bool)}{ax:List Oper}{k:List It}
  {i s sz q q' cj oU e e':Nat} {z z':List Value} {τ:Ty} {aa cu:List (List D)}
  (bm:aG ad.toList E gd=some true) (hd:aO ⟨g.ty,g.N⟩ dst=true) (hx:ev E x=.ow i s) (ho:dk objs i=some (.arr sz s aa)) (hy:lB (ev E y)=.d (.sl cu))
  (hT:g.ty T=some ⟨q,cj,z,.slice e⟩) (kX:g.ty T'=some ⟨q',oU,z',.slice e'⟩) (he:g.ty e=some τ) (hsz:τ.size=sz) (aZ:∀r∈cu,r.length=sz) (WZ:∀r∈cu,∀x∈r,p7 (.d x)=true)
  (qm:(aa.length+cu.length) * τ.bytes≤140737488355328) (tJ:aa.length+cu.length≤140737488355328)
  (hr:R g pf Fin (.dr ad ax::k) (bf E dst (.ow i (Nat.succ s))) (da objs i (.arr sz (Nat.succ s) (aa++cu)))) :
  R g pf Fin (.dr ad (⟨dst,.call { callee:=.builtin .append,args:=#[x,y],argTypes:=#[T,T'] },ty,pos,after,gd⟩::ax)::k) E objs:=by
 refine cL (aI.eT hg (Bc ho) bm hd aC fun φ a w hρ hs=>?_) hr;simp only[Op.operands,Call.operands]at hρ;have aN:=hρ x aC;rw[hx]at aN;have ew:=bM.lB _ _ _ _ _ (hρ y aC);rw[hy]at ew;simp only[RV]at aN ew;obtain⟨_,ph,eQ,aN⟩:=aN;have hk:=cG hs eQ ho;cases ph<;>try (simp only[bd]at hk;done)
 rename_i Ip s2 v2 Gk;have Mg:=hk;simp only[bd]at Mg;obtain⟨rfl,rfl,kQ,Mg⟩:=Mg;have hv:=(aN _ _ _ _ rfl).2 rfl;clear aN;rw[bq];obtain⟨rK,hF⟩:=DN.alc (P:=g.P) hk;subst hsz;obtain⟨cells,hN⟩:=DN.EF (P:=g.P) ew aZ;have h1:=hN.one aZ WZ;have hτ:=hg.ty _ _ he;obtain⟨xa,xc,Mh⟩:=hN.sl;have eK:∀r∈aa++cu,r.length=τ.size:=fun r hr=>(bW.1 hr).elim (kQ r) (aZ r)
 have JJ:aa.length+cu.length≤maxLen:=by simp only[maxLen];omega
 have fu:i<φ.length:=(bC.1 eQ).1
 have grow:∀ (a0:Option Addr) (cap:Nat),v2=.slice a0 aa.length cap→cap<aa.length+cu.length→Out g.P (execOp a.eval ⟨dst,.call { callee:=.builtin .append,args:=#[x,y],argTypes:=#[T,T'] },ty,pos,after,gd⟩) g.S0 φ w (.ow i (Nat.succ s)) (objs.set i (.arr τ.size (Nat.succ s) (aa++cu))):=by
  intro a0 cap xO rF;subst xO;obtain⟨zs,oD,vo,Gp,Jh,fm⟩:=ql (tr:=ty) (bN hg hT) (bN hg kX) hτ Mh hF.run hN.run rF qm JJ;refine⟨.value (.slice (some ⟨w.heap.size,0,none⟩) (aa.length+cu.length) oD),.slice (some ⟨w.heap.size,0,none⟩) (aa.length+cu.length) oD,w.drew.alloc (.cells (rK++cells++zs).toArray e),φ.set i (.nZ τ.size (Nat.succ s) (.slice (some ⟨w.heap.size,0,none⟩) (aa.length+cu.length) oD) (some w.heap.size)),?_,.inl rfl,?_,?_⟩
  ·simp only[execOp,resolve,invoke,builtin,Sem.run_bind,Sem.run_pure,Result.andThen_ok,rC,List.map_cons,fj,hv,fm]
  ·simp only [RV]
   simp_all
  ·refine jJ.swap hs eQ (.inr (.inl ⟨_,_,_,_,_,_,_,_,rfl,rfl,I8 _⟩)) k8 (fun c hc _=>jD hc) (fun b hb=>?_) rfl rfl rfl fun bx _=>?_
   ·simp only[bB.bl,Option.some.injEq]at hb;simp_all
   ·simp only [bd];refine⟨trivial,trivial,eK,.inr ⟨_,0,oD,_,e,by simp_all,rfl,oE,by simp_all,Gp,?_,?_⟩⟩
    ·simp only [List.length_append,hF.len,hN.len,Jh];rw[← Nat.add_mul,← Nat.add_mul]
     simp_all
    ·intro i' r j x' hi hj;obtain⟨y',h3,h4⟩:=wa hF hN bx i' r j x' hi hj (eK r (gZ hi))
     grind
 rcases Mg with ⟨a0,rfl,eA,rfl⟩ |⟨b,o,cap,cs,Tb,rfl,rfl,bc,hn,rF,hle,vR⟩
 ·by_cases hm:cu.length=0
  ·have JK:cu=[]:=jy.1 hm;subst JK;subst eA;have rL:cells=[]:=jy.1 PL;subst rL;have fm:=mB (tr:=ty) (bN hg hT) (bN hg kX) hτ (a:=a0) (n:=0) (cap:=0) Mh (hN.run w rfl) cP;refine⟨.value (.slice a0 0 0),.slice a0 0 0,w,φ.set i (.nZ τ.size (Nat.succ s) (.slice a0 0 0) none),?_,.inl rfl,?_,?_⟩
   ·simp only[execOp,resolve,invoke,builtin,Sem.run_bind,Sem.run_pure,Result.andThen_ok,rC,List.map_cons,fj,hv,fm]
   ·simp only [RV];exact abf
   ·refine jJ.swap hs eQ (.inr (.inl ⟨_,_,_,_,_,_,_,_,rfl,rfl,I8 _⟩)) cP (fun _ _ _=>rfl) (fun b hb=>by simp [bB.bl] at hb) rfl rfl rfl fun _ _=>?_
    simp only[bd];exact⟨trivial,trivial,by simp,.inl ⟨_,rfl,rfl,trivial⟩⟩
  grind
 ·by_cases Bd:aa.length+cu.length≤cap
  ·obtain ⟨w',fm,cS⟩:=GG (tr:=ty) (bN hg hT) (bN hg kX) hτ Mh (hN.run w rfl) hN.len h1 bc Bd hle;refine⟨.value (.slice (some ⟨b,o,none⟩) (aa.length+cu.length) cap),.slice (some ⟨b,o,none⟩) (aa.length+cu.length) cap,w',φ.set i (.nZ τ.size (Nat.succ s) (.slice (some ⟨b,o,none⟩) (aa.length+cu.length) cap) (some b)),?_,.inl rfl,?_,?_⟩
   ·simp only[execOp,resolve,invoke,builtin,Sem.run_bind,Sem.run_pure,Result.andThen_ok,rC,List.map_cons,fj,hv,fm]
   ·simp only [RV];exact abf
   ·refine jJ.swap hs eQ (.inr (.inl ⟨_,_,_,_,_,_,_,_,rfl,rfl,I8 _⟩)) (by rw [cS.size]; exact ef _) (fun c _ hc=>cS.other c fun e=>hc Gc) (fun b' hb=>.inl hb) cS.os cS.tape cS.out fun bx _=>?_
    simp only[bd];refine⟨trivial,trivial,eK,.inr ⟨b,o,cap,_,Tb,by rw[List.length_append],rfl,cS.at_,by rw[List.length_append];exact Bd,rF,by rw[lA];exact hle,?_⟩⟩;have hmul:(aa.length+cu.length) * τ.size≤cap * τ.size:=o7 _ Bd;rw[Nat.add_mul]at hmul
    have hsp:∀k,(dx cs (o+aa.length * τ.size) cells)[k]? = if k<o+aa.length * τ.size then cs[k]? else if k<o+aa.length * τ.size+cells.length then cells[k - (o+aa.length * τ.size)]? else cs[k]? := by
     intro k;have dV:=hN.len
     have aom:∀m,m=o+aa.length * τ.size→dx cs m cells=cs.take m++cells++cs.drop (m+cells.length):=fun m hm=>by
      have:=uJ cells (cs.take m) ((cs.drop m).take cells.length) (cs.drop (m+cells.length)) zw;rw[zz,Ge an]at this;rw[List.append_assoc (cs.take m),← List.drop_drop,List.take_append_drop,List.take_append_drop,List.drop_drop]at this;exact this
     rw[aom _ rfl];have Du:(List.take (o+aa.length * τ.size) cs).length=o+aa.length * τ.size:=by simp;omega
     split
     ·rw[List.append_assoc,jx an,qb an]
     ·split
      ·rw[List.append_assoc,kR an,Du,jx an]
      ·rw [kR I1,List.length_append,Du,AL];congr 1;omega
    intro i' r j x' hi hj;have arG:=eK r (gZ hi);have Bb:=(bC.1 hj).1;rcases oy i' aa.length with h |h
    ·rw [jx h] at hi;obtain⟨y',h3,h4⟩:=vR i' r j x' hi hj;refine⟨y',?_,h4.mono bx⟩;have h5:(i'+1) * τ.size≤aa.length * τ.size:=o7 _ h;rw[uF]at h5;rw[hsp,if_pos an];exact h3
    ·rw [kR h] at hi;obtain⟨y',h3,h4⟩:=hN.rd _ r j x' hi hj;refine⟨y',?_,h4.mono bx⟩;have h5:aa.length * τ.size≤i' * τ.size:=o7 _ h;have h6:=(bC.1 h3).1;rw[Nat.sub_mul]at h3 h6;rw[hsp,if_neg an,if_pos an,← h3];congr 1;omega
  simp_all
end
end aw
namespace aw
open Go Go.RowKit

variable{objs:List Ob}{k:List It}{E:bk}{w:World}
def gz:List It→Bool
 | .dr _ _::_=>false
 |_=>true
section
variable {g:G} {pf:Nat→cC} {ad:Array Oper} {Fin:Exit→Act→World→Prop}

theorem mC{E E':bk}{objs objs':List Ob}(ht:gz k=true)(h:∀a w,fe g E objs a w→fe g E' objs' a w)(hr:R g pf Fin k E' objs'):R g pf Fin k E objs:=by
 intro ho;have hr:=hr ho;cases k with
 |nil=>exact fun a w hs=>hr a w (h a w hs)
 |cons x k =>
  cases x<;>first
   |exact fun a w hs=>hr a w (h a w hs)
   |(simp[gz]at ht)

theorem jJ.M0{S0:Nat→Prop}{φ:List bB}(hs:HS S0 φ objs w)(sz:Nat)(a:Option Addr) :
  jJ S0 φ w (φ++[.nZ sz 0 (.slice a 0 0) none]) (objs++[.arr sz 0 []]) w :=
 .add hs cP (fun _ _=>rfl) (fun b hb=>by simp[bB.bl]at hb) rfl rfl rfl fun _=>by simp only[bd];simp_all

theorem JL(t sz:Nat)(h:lk E t=.d (.v (.slice none 0 0)))(ht:gz k=true)(hr:R g pf Fin k (put E t (.ow (len objs) 0)) (objs++[.arr sz 0 []])):R g pf Fin k E objs:=by
 refine mC ht (fun a w hs=>?_) hr;obtain⟨φ,h1,h2,h3,h4,h5,h6⟩:=hs;have cS:=jJ.M0 h1 sz none;refine⟨_,cS.hs,fun b hb=>?_,fun u=>?_,h4,h5.P4 cS,h6.Jk cS.ext (h6.le.trans cS.le)⟩
 ·rcases cS.own b hb with h | h
  ·exact h2 b h
  ·left;have:=h6.size;omega
 ·rw [xS];split
  ·rename_i e; subst e;have hv:=h3 t;rw[h]at hv;simp only[RV]at hv ⊢;generalize a.tmps.getD t undef=v at hv;cases hv;refine⟨⟨_,_,_,rfl⟩,.nZ sz 0 (.slice none 0 0) none,by rw[bj,← h1.len];simp,fun sz s x ob h=>by grind⟩
  ·exact(h3 u).mono cS.iS cS.le

theorem l9(i j sz:Nat){l:List AV}(ho:dk objs i=some (.box l))(h:dk l j=some (.d (.v (.slice none 0 0))))(ht:gz k=true)
  (hr:R g pf Fin k E (da objs i (.box (da l j (.ow (len objs) 0)))++[.arr sz 0 []])):R g pf Fin k E objs:=by
 refine mC ht (fun a w hs=>?_) hr;obtain⟨φ,h1,h2,h3,h4,h5,h6⟩:=hs;have cS:=jJ.M0 h1 sz none;rw[bu]at ho h;have l7:=(bC.1 ho).1;have eQ:φ[i]? = some (φ[i]' aaV):=dY _;generalize φ[i]' q5=ph at eQ;have hk:=cS.hs.ok i ph (.box l) q5 q5;cases ph<;>try (simp only[bd]at hk;done)
 rename_i b;have Mg:=hk;simp only[bd]at Mg;obtain⟨cs,T,hb,lz⟩:=Mg
 have agX:jJ g.S0 (φ++[bB.nZ sz 0 (.slice none 0 0) none]) w ((φ++[bB.nZ sz 0 (.slice none 0 0) none]).set i (.js b)) ((objs++[Ob.arr sz 0 []]).set i (.box (da l j (.ow (len objs) 0)))) w:=by
  refine jJ.swap cS.hs q5 (.inl rfl) cP (fun _ _ _=>rfl) (fun b hb=>.inl hb) rfl rfl rfl fun bx hle=>?_
  simp only[bd];refine⟨cs,T,hb,?_⟩;rw[bq];obtain⟨v,Sz,xO⟩:=lz.get j h
  have qg:cs=cs.set j v:=by
   apply Sv
   grind
  rw[qg];refine(lz.mono bx hle).set j ?_;simp only[RV]at xO ⊢;cases xO;refine⟨⟨_,_,_,rfl⟩,.nZ sz 0 (.slice none 0 0) none,?_,fun sz s x ob h=>by grind⟩;rw[q6 (by rw[bj];omega),bj,← h1.len];simp
 have e1:(φ++[bB.nZ sz 0 (.slice none 0 0) none]).set i (.js b)=φ++[bB.nZ sz 0 (.slice none 0 0) none]:=by
  apply Sv
  grind
 have e2:(objs++[Ob.arr sz 0 []]).set i (.box (da l j (.ow (len objs) 0)))=da objs i (.box (da l j (.ow (len objs) 0)))++[.arr sz 0 []]:=by
  rw[List.set_append,if_pos l7];rw[bq objs i]
 have Vb:=agX.hs;rw[e1,e2]at Vb;exact akn

def aQ (f:AV→AV):Ob→Ob
 | .box l=>.box (l.map f)
 | .arr sz s aa=>.arr sz s aa
 | .map es=>.map (es.map fun x=>(x.1,f x.2))
 | .Ii pre=>.Ii pre
 | .Ij hs aa=>.Ij hs aa
 | .Ik s pos=>.Ik s pos
 | .dead=>.dead
 | .gM T l=>.gM T (l.map f)
 | .qe e s bs=>.qe e s bs
 | .tI es=>.tI (es.map fun x=>(x.1,f x.2))

theorem aW.map'{S S':Nat→Prop}{w w':World}{φ φ':List bB}(f:AV→AV)(hf:∀x v,RV S w φ x v→RV S' w' φ' (f x) v):∀ {l:List AV} {vs:List Value},aW S w φ l vs→aW S' w' φ' (l.map f) vs
 |[],[],_=>by simp[aW]
 |[],_::_,h=>by simp[aW]at h
 |_::_,[],h=>by simp[aW]at h
 |a::l,v::vs,h=>by simp only[aW,List.map_cons]at h ⊢;exact⟨hf _ _ h.1,aW.map' f hf h.2⟩

theorem HS.JM{S0:Nat→Prop}{φ φ':List bB}{objs objs':List Ob}(h:HS S0 φ objs w)(f:AV→AV)(aZ:φ'.length=objs'.length)(eQ:∀ (i:Nat) (p:bB) (b:Nat),φ'[i]? = some p→p.bl b→∃q,φ[i]? = some q∧q.bl b)
  (W0:∀ (i:Nat) (oT:Ob),objs'[i]? = some oT→oT=.dead∨(∃ob,objs[i]? = some ob∧φ'[i]? = φ[i]? ∧ oT=aQ f ob)∨∃ph,φ'[i]? = some ph∧bd (SS S0 φ') w φ' ph oT) (hf:∀x v,RV (SS S0 φ) w φ x v→RV (SS S0 φ') w φ' (f x) v):HS S0 φ' objs' w:=by
 have gQ:∀b,eD φ' b→eD φ b:=by
  rintro b ⟨i,p,h1,h2⟩;obtain⟨q,h3,h4⟩:=eQ i p b h1 h2;exact⟨i,q,h3,h4⟩
 have bx:dE (SS S0 φ) w (SS S0 φ') w:=fun b hb _=>⟨⟨hb.1,fun hc=>hb.2 (gQ b hc)⟩,rfl⟩
 refine⟨aZ,fun i ph oT h1 h2=>?_,fun i j p q b h1 h2 h3 h4=>?_,fun b hb=>h.lt b (gQ b hb),h.up⟩
 ·rcases W0 i oT h2 with rfl | ⟨ob,h3,h4,rfl⟩ | ⟨ph',h3,h4⟩
  ·simp only[bd]
  ·rw [h1] at h4;have hk:=h.ok i ph ob h4.symm h3;cases ph<;>cases ob<;>simp only[bd,aQ]at hk ⊢
   ·obtain ⟨cs,T,h5,h6⟩:=hk;exact⟨cs,T,h5,h6.map' f hf⟩
   ·obtain ⟨ents,iY,h5,h6,h7⟩:=hk;exact akr
   ·exact hk
   ·obtain ⟨cs,h5,h6⟩:=hk;exact⟨cs,h5,h6.map' f hf⟩
   ·obtain ⟨ents,iY,Ds,h0,h5,h6,h7⟩:=hk;exact ako
   ·obtain ⟨h0,Me,h5,h6⟩:=hk;exact agt
   ·exact hk
   ·exact akM
   ·obtain ⟨h0,Me,h1,h2⟩:=hk;exact akl
  simp_all
 ·obtain ⟨p',k1,k1'⟩:=eQ i p b h1 h3;obtain⟨q',k2,k2'⟩:=eQ j q b h2 h4;exact h.jA i j p' q' b k1 k2 k1' k2'

mutual
def pn (n:Nat):AV→Bool
 | .lo i _=>Nat.ble (Nat.succ i) n
 | .el i _ _ _=>Nat.ble (Nat.succ i) n
 | .vw i _ _=>Nat.ble (Nat.succ i) n
 | .ow i _=>Nat.ble (Nat.succ i) n
 | .mp i=>Nat.ble (Nat.succ i) n
 | .agg l=>uM n l
 | .cH l=>uM n l
 | .bU _ a c=>bif uM n a then uM n c else false
 | .yl i=>Nat.ble (Nat.succ i) n
 |_=>true
def uM (n:Nat):List AV→Bool
 |[]=>true
 |x::l=>bif pn n x then uM n l else false
end
theorem W4{c x:Bool}(h:(bif c then x else false)=true):c=true∧x=true:=by cases c<;>simp at h;exact⟨rfl,h⟩

mutual
theorem RV.ids{S S':Nat→Prop}{w:World}{φ φ':List bB}{n:Nat}(hk:dE S w S' w)(hp:∀i,i<n→φ'[i]? = φ[i]?):∀ {x:AV} {v:Value},pn n x=true→RV S w φ x v→RV S' w φ' x v
 | .any,_,_,_=>by simp[RV]
 | .tt,_,_,h=>by simpa[RV]using h
 | .ff,_,_,h=>by simpa[RV]using h
 | .d x,v,_,h=>by simp only[RV]at h ⊢;exact h.mono hk
 | .fs aa,v,_,h=>by simp only[RV]at h ⊢;exact⟨h.1.mono hk,h.2⟩
 | .agg l,v,hn,h=>by
  simp only[RV]at h ⊢;simp only[pn]at hn;obtain⟨cs,h1,h2⟩:=h;exact⟨cs,h1,aW.ids hk hp hn h2⟩
 | .lo i off,v,hn,h=>by simp only[RV]at h ⊢;simp only[pn]at hn;rw[hp i (ke hn)];exact h
 | .el i t r j,v,hn,h=>by simp only[RV]at h ⊢;simp only[pn]at hn;rw[hp i (ke hn)];exact h
 | .vw i t r,v,hn,h=>by simp only[RV]at h ⊢;simp only[pn]at hn;rw[hp i (ke hn)];exact h
 | .ow i t,v,hn,h=>by simp only[RV]at h ⊢;simp only[pn]at hn;rw[hp i (ke hn)];exact h
 | .mp i,v,hn,h=>by simp only[RV]at h ⊢;simp only[pn]at hn;rw[hp i (ke hn)];exact h
 | .yl i,v,hn,h=>by simp only[RV]at h ⊢;simp only[pn]at hn;rw[hp i (ke hn)];exact h
 | .cH l,v,hn,h=>by
  simp only[RV]at h ⊢;simp only[pn]at hn;obtain⟨cs,h1,h2⟩:=h;exact⟨cs,h1,aW.ids hk hp hn h2⟩
 | .bU f a c,v,hn,h=>by
  simp only[RV]at h ⊢;simp only[pn]at hn;obtain⟨hn1,SQ⟩:=W4 hn;obtain⟨va,vc,h1,h2,h3⟩:=h;exact⟨va,vc,h1,aW.ids hk hp hn1 h2,aW.ids hk hp SQ h3⟩
theorem aW.ids{S S':Nat→Prop}{w:World}{φ φ':List bB}{n:Nat}(hk:dE S w S' w)(hp:∀i,i<n→φ'[i]? = φ[i]?):∀ {l:List AV} {vs:List Value},uM n l=true→aW S w φ l vs→aW S' w φ' l vs
 |[],[],_,_=>by simp[aW]
 |[],_::_,_,h=>by simp[aW]at h
 |_::_,[],_,h=>by simp[aW]at h
 |a::l,v::vs,hn,h=>by
  simp only[aW]at h ⊢;simp only[uM]at hn;obtain⟨hn1,SQ⟩:=W4 hn;exact⟨RV.ids hk hp hn1 h.1,aW.ids hk hp SQ h.2⟩
end
def dA (n:Nat)(x:AV):AV:=bif pn n x then x else .any

theorem wc{S S':Nat→Prop}{φ φ':List bB}{n:Nat}(hk:dE S w S' w)(hp:∀i,i<n→φ'[i]? = φ[i]?)(x:AV)(v:Value)(h:RV S w φ x v):RV S' w φ' (dA n x) v:=by
 unfold dA;cases hx:pn n x
 ·simp[RV]
 ·exact RV.ids hk hp hx h

def qn (f:AV→AV):bk→bk
 |[]=>[]
 |(t,v)::r=>(t,f v)::qn f r

theorem s5{f:AV→AV}:∀ (E:bk) (t:Nat),lk (qn f E) t=f (lk E t)∨(lk (qn f E) t=.any)
 |[],t=>.inr (by simp[qn,lk])
 |(k,v)::r,t=>by
  simp only[qn,lk];cases Nat.beq k t
  ·exact s5 r t
  simp_all

theorem uB(n:Nat)(hn:g.φ0.length≤n)(ht:gz k=true)(hr:R g pf Fin k (qn (dA n) E) ((objs.take n).map (aQ (dA n))))(jB:g.rr=[]:=by rfl):R g pf Fin k E objs:=by
 refine mC ht (fun a w hs=>?_) hr;obtain⟨φ,h1,h2,h3,h4,h5,h6⟩:=hs;have hp:∀i,i<n→(φ.take n)[i]? = φ[i]? := fun i hi=>qb hi
 have gQ:∀b,eD (φ.take n) b→eD φ b:=by
  rintro b ⟨i,p,g1,g2⟩
  have hi:i<n:=by
   grind
  exact⟨i,p,by simp_all,g2⟩
 have bx:dE (SS g.S0 φ) w (SS g.S0 (φ.take n)) w:=fun b hb _=>⟨⟨hb.1,fun hc=>hb.2 (gQ b hc)⟩,rfl⟩
 refine⟨φ.take n,h1.JM (dA n) (by simp[h1.len]) (fun i p b hi hb=>⟨p,?_,hb⟩) (fun i oT hi=>.inr (.inl ?_)) (wc bx hp),fun b hb=>h2 b (gQ b hb),fun u=>?_,h4,Iq.Jk jB h5 gQ,h6.Jk (fun i l I B h=>⟨B,by
  grind⟩) (fun i p hi=>by
  obtain⟨p',h7,h8⟩:=h6.le i p hi
  grind)⟩
 ·grind
 ·grind
 ·rcases s5 (f:=dA n) E u with h | h
  ·rw[h];exact wc bx hp _ _ (h3 u)
  ·rw[h];simp[RV]

mutual
def kg (i s:Nat) (aa:List (List D)):AV→AV
 | .ow j t=>bif Nat.beq j i then (bif Nat.beq t s then .d (.sl aa) else .any) else .ow j t
 | .el j t r o=>bif Nat.beq j i then .any else .el j t r o
 | .vw j t r=>bif Nat.beq j i then .any else .vw j t r
 | .lo j o=>bif Nat.beq j i then .any else .lo j o
 | .mp j=>bif Nat.beq j i then .any else .mp j
 | .yl j=>bif Nat.beq j i then .any else .yl j
 | .agg l=>.agg (JN i s aa l)
 | .cH l=>.cH (JN i s aa l)
 | .bU f a c=>.bU f (JN i s aa a) (JN i s aa c)
 | .any=>.any
 | .tt=>.tt
 | .ff=>.ff
 | .d x=>.d x
 | .fs r=>.fs r
def JN (i s:Nat) (aa:List (List D)):List AV→List AV
 |[]=>[]
 |x::l=>kg i s aa x::JN i s aa l
end

mutual
theorem Qo{S S':Nat→Prop}{w:World}{φ φ':List bB}{i s:Nat}{aa:List (List D)}(hk:dE S w S' w)(hp:∀j,j≠i→φ'[j]? = φ[j]?)(ho:∀v,RV S w φ (.ow i s) v→Rd S' w (.sl aa) v) :
  ∀ (x:AV) (v:Value),RV S w φ x v→RV S' w φ' (kg i s aa x) v
 | .any,_,_=>by simp[RV,kg]
 | .tt,_,h=>by simpa[RV,kg]using h
 | .ff,_,h=>by simpa[RV,kg]using h
 | .d x,v,h=>by simp only[RV,kg]at h ⊢;exact h.mono hk
 | .fs aa,v,h=>by simp only[RV,kg]at h ⊢;exact⟨h.1.mono hk,h.2⟩
 | .agg l,v,h=>by
  simp only[RV,kg]at h ⊢;obtain⟨cs,h1,h2⟩:=h;exact⟨cs,h1,we hk hp ho l cs h2⟩
 | .lo j off,v,h=>by
  simp only[kg];cases hj:Nat.beq j i
  ·have:j≠i:=fun e=>by subst e; simp at hj
   simp only[RV,cond_false]at h ⊢;simp_all
  ·simp[RV]
 | .el j t r o,v,h=>by
  simp only[kg];cases hj:Nat.beq j i
  ·have:j≠i:=fun e=>by subst e; simp at hj
   simp only[RV,cond_false]at h ⊢;simp_all
  ·simp[RV]
 | .vw j t r,v,h=>by
  simp only[kg];cases hj:Nat.beq j i
  ·have:j≠i:=fun e=>by subst e; simp at hj
   simp only[RV,cond_false]at h ⊢;simp_all
  ·simp[RV]
 | .mp j,v,h=>by
  simp only[kg];cases hj:Nat.beq j i
  ·have:j≠i:=fun e=>by subst e; simp at hj
   simp only[RV,cond_false]at h ⊢;simp_all
  ·simp[RV]
 | .yl j,v,h=>by
  simp only[kg];cases hj:Nat.beq j i
  ·have:j≠i:=fun e=>by subst e; simp at hj
   simp only[RV,cond_false]at h ⊢;simp_all
  ·simp[RV]
 | .ow j t,v,h=>by
  simp only[kg];cases hj:Nat.beq j i
  ·have:j≠i:=fun e=>by subst e; simp at hj
   simp only[cond_false];simp only[RV]at h ⊢;simp_all
  ·have:=cp hj; subst this;simp only[cond_true];cases ht:Nat.beq t s
   ·simp[RV]
   ·have:=cp ht; subst this;simp only[cond_true];have:=ho v h;simpa only[RV]using this
 | .cH l,v,h=>by
  simp only[RV,kg]at h ⊢;obtain⟨cs,h1,h2⟩:=h;exact⟨cs,h1,we hk hp ho l cs h2⟩
 | .bU f a c,v,h=>by
  simp only[RV,kg]at h ⊢;obtain⟨va,vc,h1,h2,h3⟩:=h;exact⟨va,vc,h1,we hk hp ho a va h2,we hk hp ho c vc h3⟩
theorem we{S S':Nat→Prop}{w:World}{φ φ':List bB}{i s:Nat}{aa:List (List D)}(hk:dE S w S' w)(hp:∀j,j≠i→φ'[j]? = φ[j]?)(ho:∀v,RV S w φ (.ow i s) v→Rd S' w (.sl aa) v) :
  ∀ (l:List AV) (vs:List Value),aW S w φ l vs→aW S' w φ' (JN i s aa l) vs
 |[],[],_=>by simp[aW,JN]
 |[],_::_,h=>by simp[aW]at h
 |_::_,[],h=>by simp[aW]at h
 |a::l,v::vs,h=>by
  simp only[aW,JN]at h ⊢;exact⟨Qo hk hp ho a v h.1,we hk hp ho l vs h.2⟩
end

structure Iu (g:G):Prop where
 up:∀b,g.w0.heap.size≤b→g.S0 b
 x:∀b,g.X0 b→g.S0 b
theorem EB.cm(h:EB g):Iu g:=⟨h.up,fun b hb=>absurd hb (h.x b)⟩

theorem Be(hu:Iu g)(i:Nat){sz s:Nat}{aa:List (List D)}(ho:dk objs i=some (.arr sz s aa))(ht:gz k=true)
  (hr:R g pf Fin k (qn (kg i s aa) E) (da (objs.map (aQ (kg i s aa))) i .dead)) (jB:g.rr=[]:=by rfl):R g pf Fin k E objs:=by
 refine mC ht (fun a w hs=>?_) hr;obtain⟨φ,h1,h2,h3,h4,h5,h6⟩:=hs;rw[bu]at ho;have l7:=(bC.1 ho).1;have aaq:i<φ.length:=by rw[h1.len];exact l7
 have JO:∀b,eD φ b→g.S0 b:=fun b hb=>(h2 b hb).elim (hu.up b) (hu.x b)
 have gQ:∀b,eD (φ.set i .no) b→eD φ b:=fun b hb=>by
  rcases lC hb with ⟨j,q,_,g1,g2⟩ |g1
  ·exact⟨j,q,g1,g2⟩
  ·simp[bB.bl]at g1
 have hp:∀j,j≠i→(φ.set i .no)[j]? = φ[j]? := fun j hj=>q6 (fun e=>hj e.symm)
 have bx:dE (SS g.S0 φ) w (SS g.S0 (φ.set i .no)) w:=fun b hb _=>⟨⟨hb.1,fun hc=>hb.2 (gQ b hc)⟩,rfl⟩
 have eQ:φ[i]? = some φ[i]:=dY aaq
 have vR:∀v,RV (SS g.S0 φ) w φ (.ow i s) v→Rd (SS g.S0 (φ.set i .no)) w (.sl aa) v:=fun v hv=>by
  simp only[RV]at hv;obtain⟨_,ph,eQ,hx⟩:=hv;have hk:=h1.ok i ph _ eQ ho;cases ph<;>try (simp only[bd]at hk;done)
  rename_i Ip s2 v2 Gk;simp only[bd]at hk;obtain⟨rfl,rfl,aZ,hk⟩:=hk;have hx:=(hx _ _ _ _ rfl).2 rfl;subst hx;rcases hk with ⟨a2,rfl,rfl,_⟩ |⟨b,o,cap,cs,T,rfl,rfl,bc,hn,rF,hle,vR⟩
  ·exact .nil _ _
  ·have hb:eD φ b:=⟨i,_,eQ,rfl⟩
   have Ir:¬ eD (φ.set i .no) b:=fun hc=>by
    rcases lC hc with ⟨j,q,hj,g1,g2⟩ |g1
    ·exact hj (h1.jA _ _ _ _ _ g1 eQ g2 rfl)
    ·simp[bB.bl]at g1
   refine Rd.sl (sz:=sz) (fun i j=>(cs[o+i * sz+j]?).getD undef) ⟨JO b hb,Ir⟩ bc hn rF (fun i r hi=>aZ r (gZ hi)) (fun i r j x hi hj=>?_) (fun i r j x hi hj=>?_)
   ·grind
   ·obtain ⟨y,h1,h2⟩:=vR i r j x hi hj;rw[h1];exact h2.mono bx
 have hf:=Qo (aa:=aa) bx hp vR
 refine⟨φ.set i .no,h1.JM (kg i s aa) V1 (fun j p b hj hb=>?_) (fun j oT hj=>?_) hf,fun b hb=>h2 b (gQ b hb),fun u=>?_,h4,Iq.Jk jB h5 gQ,h6.Jk (fun j l I B h=>⟨B,by
  grind⟩) (fun j p hj=>by
  obtain⟨p',h7,h8⟩:=h6.le j p hj;by_cases nc:j=i
  ·subst nc;refine⟨.no,qc aaq,?_⟩;have hk:=h1.ok j _ _ h7 ho;cases p'<;>try (simp only[bd]at hk;done)
   exact h8.trans (.inr (.inr (.inl ⟨_,_,_,_,rfl,rfl⟩)))
  simp_all)⟩
 ·by_cases nc:j=i
  ·subst nc;rw[qc aaq]at hj;cases hj;exact hb.elim
  simp_all
 ·rw [bq] at hj
  grind
 ·rcases s5 (f:=kg i s aa) E u with h | h
  ·rw[h];exact hf _ _ (h3 u)
  ·rw[h];simp[RV]
end
end aw
namespace aw
open Go Go.RowKit
variable{aa:List (List D)}{gd:Option (Nat × Bool)}{after:Array Edge}{objs:List Ob}{dst:Option Nat}{ax:List Oper}{pos:String}{k:List It}{x:Operand}{ty T s:Nat}{E:bk}{τ:Ty}
section
variable {g:G} {pf:Nat→cC} {ad:Array Oper} {Fin:Exit→Act→World→Prop}

theorem Sy{φ:List bB}{w:World}{S0:Nat→Prop}(hs:HS S0 φ objs w){i s sz:Nat}{v:Value}(hv:RV (SS S0 φ) w φ (.ow i s) v)(ho:dk objs i=some (.arr sz s aa)) :
  (∀ r∈aa,r.length=sz)∧(aa=[]∨∃ (b o cap:Nat) (cs:List Value) (T:Nat),v=.slice (some ⟨b,o,none⟩) aa.length cap∧φ[i]? = some (.nZ sz s v (some b))∧w.heap[b]? = some (.cells cs.toArray T (0,0)) ∧
     aa.length≤cap∧cap≤maxLen∧o+cap * sz≤cs.length ∧
     ∀ (i:Nat) (r:List D) (j:Nat) (x:D),aa[i]? = some r→r[j]? = some x→∃y,cs[o+i * sz+j]? = some y∧Rd (SS S0 φ) w x y):=by
 simp only[RV]at hv;obtain⟨_,ph,eQ,hx⟩:=hv;have hk:=cG hs eQ ho;cases ph<;>try (simp only[bd]at hk;done)
 simp only[bd]at hk;obtain⟨rfl,rfl,aZ,hk⟩:=hk;have hx:=(hx _ _ _ _ rfl).2 rfl;subst hx;refine⟨aZ,?_⟩;rcases hk with ⟨a2,rfl,rfl,_⟩ |⟨b,o,cap,cs,T,h1,rfl,h2⟩
 ·exact .inl rfl
 ·exact .inr ⟨b,o,cap,cs,T,h1,eQ,h2⟩

theorem ry(hg:c9 g){x i:Operand}
  {id s sz q cj e:Nat} {z:List Value}   {n:Int}
  (bm:aG ad.toList E gd=some true) (hd:aO ⟨g.ty,g.N⟩ dst=true) (dV:Ew pf=.load) (hx:ev E x=.ow id s) (ho:dk objs id=some (.arr sz s aa)) (hi:ev E i=.d (.v (.int .i64 n))) (hT:g.ty T=some ⟨q,cj,z,.slice e⟩) (he:g.ty e=some τ) (hsz:τ.size=sz)
  (h0:0≤n) (fu:n.toNat<aa.length)
  (hr:R g pf Fin (.dr ad ax::k) (bf E dst (.el id s n.toNat 0)) objs):R g pf Fin (.dr ad (⟨dst,.indexAddr T x i,ty,pos,after,gd⟩::ax)::k) E objs:=by
 refine cL ?_ hr;simp only[bI,dV];refine aI.fM hg 0 bm hd aC fun φ a w bP hgr hρ hs=>?_
 simp only[Op.operands]at hρ;have aN:=hρ x aC;rw[hx]at aN;have v8:=hρ i aC;rw[hi]at v8;simp only[RV]at v8;generalize hvi:a.eval i=vi at v8;cases v8
 have ho:dk bP id=some (.arr sz s aa):=by
  have h:=aN;simp only[RV]at h;obtain⟨_,ph,eQ,_⟩:=h;rw[bu]at ho ⊢;exact Gr.same hgr ho AF AH
 exact mB9

theorem uy(hg:c9 g)
  {id s sz q cj e:Nat} {z:List Value}  {n:Int}
  (bm:aG ad.toList E gd=some true) (hd:aO ⟨g.ty,g.N⟩ dst=true) (hx:ev E x=.ow id s) (ho:dk objs id=some (.arr sz s aa)) (hT:g.ty T=some ⟨q,cj,z,.slice e⟩) (hn:(aa.length:Int)=n)
  (hr:R g pf Fin (.dr ad ax::k) (bf E dst (iV n)) objs) (dV:mW pf #[x]=.load:=by rfl):R g pf Fin (.dr ad (⟨dst,.call { callee:=.builtin .len,args:=#[x],argTypes:=#[T] },ty,pos,after,gd⟩::ax)::k) E objs:=by
 subst hn;refine cL ?_ hr;simp only[bI,dV];refine aI.fM hg 0 bm hd aC fun φ a w bP hgr hρ hs=>?_
 simp only[Op.operands,Call.operands]at hρ;have aN:=hρ x aC;rw[hx]at aN;simp only[RV]at aN;obtain⟨_,ph,eQ,aN⟩:=aN
 have ho:dk bP id=some (.arr sz s aa):=by
  rw[bu]at ho ⊢;exact Gr.same hgr ho AF AH
 have hk:=cG hs eQ ho;cases ph<;>try (simp only[bd]at hk;done)
 simp only[bd]at hk;exact akf

theorem zT(hg:c9 g)
  {id s sz r j:Nat}   {row:List D} {v:AV}
  (bm:aG ad.toList E gd=some true) (hd:aO ⟨g.ty,g.N⟩ dst=true) (dV:kA pf x=.load) (hx:ev E x=.el id s r j) (ho:dk objs id=some (.arr sz s aa)) (hT:g.ty T=some τ) (gL:aa[r]? = some row) (hp:ky τ (row.map .d) j=some v)
  (hr:R g pf Fin (.dr ad ax::k) (bf E dst v) objs):R g pf Fin (.dr ad (⟨dst,.load T x,ty,pos,after,gd⟩::ax)::k) E objs:=by
 refine cL ?_ hr;simp only[bI,dV];refine aI.fM hg 0 bm hd aC fun φ a w bP hgr hρ hs=>?_
 simp only[Op.operands]at hρ;have aN:=hρ x aC;rw[hx]at aN;simp only[RV]at aN;obtain⟨_,ph,eQ,aN⟩:=aN
 have ho:dk bP id=some (.arr sz s aa):=by
  rw[bu]at ho ⊢;exact Gr.same hgr ho AF AH
 have hk:=cG hs eQ ho;cases ph<;>try (simp only[bd]at hk;done)
 rename_i Ip s2 v2 Gk;simp only[bd]at hk;exact mB5

def qo:List D→Nat→List D→List D
 |l,_,[]=>l
 |l,off,x::r=>qo (da l off x) (Nat.succ off) r

theorem nf:∀ (new l:List D) (off:Nat),(qo l off new).length=l.length
 |[],_,_=>rfl
 |x::r,l,off=>by simp[qo,bq,nf r]

theorem yS:∀ (new l:List D) (off:Nat),off+new.length≤l.length→∀k,(qo l off new)[k]? = if off≤k∧k<off+new.length then new[k - off]? else l[k]?
 |[],l,off,_,k=>by rw[if_neg k8];rfl
 |x::r,l,off,h,k=>by
  simp only[dv]at h;rw[qo,bq,yS r _ _ V0 k]
  grind

theorem uN:∀ (new l:List Value) (off:Nat),off+new.length≤l.length→∀k,(dx l off new)[k]? = if off≤k∧k<off+new.length then new[k - off]? else l[k]?
 |[],l,off,_,k=>by rw[if_neg k8];rfl
 |x::r,l,off,h,k=>by
  simp only[dv]at h;rw[dx,uN r _ _ V0 k]
  grind

theorem W5(hg:c9 g){d x:Operand}
  {id s sz r j:Nat}   {row:List D} {l:List AV} {ds:List D}
  (bm:aG ad.toList E gd=some true) (hd:aO ⟨g.ty,g.N⟩ dst=true) (hx:ev E d=.el id s r j) (ho:dk objs id=some (.arr sz s aa)) (hT:g.ty T=some τ) (gL:aa[r]? = some row) (hc:fU (ev E x)=some l) (kq:xP l=some ds) (hl:ds.length=τ.size) (lN:j+τ.size≤sz)
  (hr:R g pf Fin (.dr ad ax::k) (bf E dst .any) (da objs id (.arr sz s (aa.set r (qo row j ds))))) (dV:iZ pf d=.ji:=by rfl):R g pf Fin (.dr ad (⟨dst,.store T d x,ty,pos,after,gd⟩::ax)::k) E objs:=by
 refine cL ?_ hr;simp only[bI,dV];refine aI.effect hg bm hd aC fun φ a w hρ hs=>?_
 simp only[Op.operands]at hρ;have aN:=hρ d aC;rw[hx]at aN;have ew:=hρ x aC;simp only[RV]at aN;obtain⟨_,ph,eQ,aN⟩:=aN;have hk:=cG hs eQ ho;cases ph<;>try (simp only[bd]at hk;done)
 rename_i Ip s2 v2 Gk;simp only[bd]at hk;obtain⟨rfl,rfl,aZ,hk⟩:=hk;obtain⟨b,o,n,cap,h1,h2⟩:=(aN _ _ _ _ rfl).2 rfl;rcases hk with ⟨a2,_,rfl,_⟩ |⟨b',o',an8,cs,T',h3,rfl,bc,hn,rF,hle,vR⟩
 ·simp at gL
 rw[h1]at h3;simp only[Value.slice.injEq,Option.some.injEq,Addr.mk.injEq]at h3;obtain⟨⟨rfl,rfl,_⟩,hnn,uH⟩:=h3;subst uH;have kQ:=aZ row (gZ gL);have aka:=(bC.1 gL).1;have hτ:=hg.ty _ _ hT
 have aqe:o+r * sz+sz≤cs.length:=by
  have:(r+1) * sz≤cap * sz:=o7 _ an
  grind
 obtain⟨vo,Gp⟩:=gU ew hc;have hcd:=pd vo kq;have dV:=hcd.length;simp only[eS]at dV;obtain⟨w',fm,cS⟩:=my (P:=g.P) hτ (o+r * sz+j) bc rfl Gp an an;refine⟨.skip,undef,w',φ.set id (.nZ sz s v2 (some b)),?_,.inr ⟨rfl,rfl⟩,by simp[RV],?_⟩
 ·simp only[execOp,Instr.storeAt,Instr.sureAddr,h2,Sem.run_bind,Sem.run_pure,Result.andThen_ok,fm]
 rw[bq];refine jJ.swap hs eQ (.inl rfl) (by rw[cS.size];omega) (fun c _ hc=>cS.other c fun e=>hc (by rw[e];rfl)) (fun b' hb=>.inl hb) cS.os cS.tape cS.out fun bx _=>?_
 simp only[bd];refine⟨trivial,trivial,fun r' Dv=>?_,.inr ⟨b,o,cap,dx cs (o+r * sz+j) (a.eval x).cells.toList,T',?_,rfl,cS.at_,?_,?_,?_,?_⟩⟩
 ·rcases List.mem_or_eq_of_mem_set Dv with h | h
  ·exact aZ r' h
  ·rw[h,nf];exact kQ
 ·simp_all
 ·simp_all
 ·exact rF
 ·rw[lA];exact hle
 ·intro i' r' j' x' hi hj
  have arH:r'.length=sz:=by
   rcases List.mem_or_eq_of_mem_set (gZ hi) with h |h
   ·exact aZ r' h
   ·rw[h,nf];exact kQ
  have arI:=(bC.1 hj).1;rw[uN _ _ _ an];by_cases hir:r=i'
  ·subst hir;rw[qc aka]at hi;cases hi;rw[yS _ _ _ an]at hj;by_cases hjj:j≤j'∧j'<j+ds.length
   ·rw [if_pos hjj] at hj;obtain⟨u,hu1,SD⟩:=hcd.get (j' - j) (x:=.d x') (by rw[eU,hj];rfl);simp only[RV]at SD;refine⟨u,?_,SD.mono bx⟩
    grind
   ·rw [if_neg hjj] at hj;obtain⟨y,h4,h5⟩:=vR r row j' x' gL hj;exact⟨y,by grind,h5.mono bx⟩
  ·rw [q6 hir] at hi;obtain⟨y,h4,h5⟩:=vR i' r' j' x' hi hj;refine⟨y,?_,h5.mono bx⟩;rw[if_neg ?_];exact h4;rintro⟨h6,h7⟩;rcases oy i' r with h |h
   ·have:(i'+1) * sz≤r * sz:=o7 _ h
    grind
   ·have:(r+1) * sz≤i' * sz:=o7 _ an
    grind
end
end aw
namespace aw
open Go Go.RowKit

variable{gd:Option (Nat × Bool)}{after:Array Edge}{objs:List Ob}{dst:Option Nat}{ax:List Oper}{pos:String}{k:List It}{z:List Value}{E:bk}{x:Operand}{ty T q:Nat}{n:Int}
mutual
def ng:AV→Bool
 | .any=>true
 | .tt=>true
 | .ff=>true
 | .d (.v _)=>true
 | .agg l=>JP l
 | .cH l=>JP l
 |_=>false
def JP:List AV→Bool
 |[]=>true
 |x::l=>bif ng x then JP l else false
end

mutual
theorem RV.SR{S S':Nat→Prop}{w w':World}{φ φ':List bB}:∀ {x:AV} {v:Value},ng x=true→RV S w φ x v→RV S' w' φ' x v
 | .any,_,_,_=>by simp[RV]
 | .tt,_,_,h=>by simpa[RV]using h
 | .ff,_,_,h=>by simpa[RV]using h
 | .d (.v x),v,_,h=>by simp only[RV]at h ⊢;cases h;exact .v _
 | .d (.sl _),_,h,_=>by simp[ng]at h
 | .d (.bG _),_,h,_=>by simp[ng]at h
 | .fs _,_,h,_=>by simp[ng]at h
 | .lo _ _,_,h,_=>by simp[ng]at h
 | .el _ _ _ _,_,h,_=>by simp[ng]at h
 | .vw _ _ _,_,h,_=>by simp[ng]at h
 | .ow _ _,_,h,_=>by simp[ng]at h
 | .mp _,_,h,_=>by simp[ng]at h
 | .yl _,_,h,_=>by simp[ng]at h
 | .bU _ _ _,_,h,_=>by simp[ng]at h
 | .agg l,v,hn,h=>by
  simp only[RV]at h ⊢;simp only[ng]at hn;obtain⟨cs,h1,h2⟩:=h;exact⟨cs,h1,aW.SR hn h2⟩
 | .cH l,v,hn,h=>by
  simp only[RV]at h ⊢;simp only[ng]at hn;obtain⟨cs,h1,h2⟩:=h;exact⟨cs,h1,aW.SR hn h2⟩
theorem aW.SR{S S':Nat→Prop}{w w':World}{φ φ':List bB}:∀ {l:List AV} {vs:List Value},JP l=true→aW S w φ l vs→aW S' w' φ' l vs
 |[],[],_,_=>by simp[aW]
 |[],_::_,_,h=>by simp[aW]at h
 |_::_,[],_,h=>by simp[aW]at h
 |a::l,v::vs,hn,h=>by
  simp only[aW]at h ⊢;simp only[JP]at hn;obtain⟨hn1,SQ⟩:=W4 hn;exact⟨RV.SR hn1 h.1,aW.SR SQ h.2⟩
end

def oc:cC→Bool
 | .still=>true
 | .look m=>Nat.blt 0 m
 | .bO _=>false
section
variable {g:G} {pf:Nat→cC} {ad:Array Oper} {Fin:Exit→Act→World→Prop}

theorem aI.aD{o:Oper}{v:AV}{c:cC}(hc:oc c=false)(h:aI g ad o E objs (.look 0) v objs):aI g ad o E objs c v objs :=
 ⟨fun _=>rfl,fun _ _ _=>.refl _,fun E₁ o₁ jl a w h1 h2 h3=>h.step E₁ o₁ jl a w h1 (by
  rcases h2 with ⟨h2,_⟩ |⟨m,h2,_⟩ |h2
  ·subst h2;simp[oc]at hc
  ·subst h2;have:Nat.blt 0 (m+1)=true:=by rw[Nat.blt_eq];omega
   simp only[oc]at hc;rw[this]at hc;cases hc
  simp_all) h3⟩

theorem aaF(hg:c9 g)(hu:Iu g){f:Nat}{dM:List AV}{r:AV}(hc:bD g.P f dM r){args:Array Operand}{ts:Array Nat}
      {fs cs as':List AV}
  (bm:aG ad.toList E gd=some true) (hd:aO ⟨g.ty,g.N⟩ dst=true) (dV:oc (bI pf (.call { callee:=.value x,args:=args,argTypes:=ts }))=false) (hx:ev E x=.bU f fs cs) (has:tR (iB objs 5) (fs++args.toList.map (ev E)++cs)=some as') (aop:as'.map lB=dM) (hpr:ng r=true)
  (hr:R g pf Fin (.dr ad ax::k) (bf E dst r) objs) :
  R g pf Fin (.dr ad (⟨dst,.call { callee:=.value x,args:=args,argTypes:=ts },ty,pos,after,gd⟩::ax)::k) E objs:=by
 refine cL (aI.aD dV ?_) hr;refine⟨fun _=>rfl,fun _ _ _=>.refl _,fun E₁ o₁ jl a w he ho hs Q=>?_⟩;rcases ho with ⟨h,_⟩ |⟨_,h,_⟩ |⟨nQ,rM⟩
 ·cases h
 ·cases h
 subst nQ;subst rM;obtain⟨φ,h1,h2,h3,h4,h5,h6⟩:=hs;rw[mL (cK bm) he h3];simp only[if_true];refine⟨pk hg _ w a,?_⟩;have hρ:=lf (o:=⟨dst,.call { callee:=.value x,args:=args,argTypes:=ts },ty,pos,after,gd⟩) he h3;simp only[Op.operands,Call.operands]at hρ;have aN:=hρ x aC;rw[hx]at aN;simp only[RV]at aN;obtain⟨va,vc,aN,WX,qg⟩:=aN;have mr:aW (SS g.S0 φ) w φ (args.toList.map (ev E)) (args.toList.map a.eval):=aW.map _ _ _ fun y hy=>hρ y kb
 have gQ:∀b,eD φ b→g.S0 b:=fun b hb=>(h2 b hb).elim (hu.up b) (hu.x b)
 have eK:=sT (S:=g.S0) (ψ:=[]) (fun x v y h1' MO=>Ba gQ h1 5 h1' MO) ((WX.append mr).append qg) has;have eK:=eK.qi lB bM.lB;rw[aop]at eK;rw[Oper.semAt_eq _ _ _ aC,xW rfl aN hc.call];refine⟨fun h=>by rw[hg.depth]at h;simp at h,?_⟩;have fx:=hc.run g.S0 w _ ((hg.Eu h2 h6).up fun _ h=>h.1) h1.up eK;refine(qj hg fx).mono ?_;rintro e w' ⟨v,rfl,hv,hb⟩;have cS:jJ g.S0 φ w φ _ w':=⟨h1.later hb.size (fun b uc=>hb.block b uc),.of fun b uc hl=>⟨uc,hb.block b hl⟩,.refl _,hb.size,hb.os,hb.tape,hb.output,fun b uc _=>hb.block b uc,fun _ h=>.inl h,fun _ _ _ B h=>⟨B,h⟩⟩;exact fe.P4 h2 h3 h4 h5 h6 cS (dD hd) fun _=>hv.SR hpr

theorem nh(hg:c9 g){x i:Operand}
  {q cj:Nat}  {s:ByteArray}  {b:UInt8}
  (bm:aG ad.toList E gd=some true) (hd:aO ⟨g.ty,g.N⟩ dst=true) (hx:ev E x=.d (.v (.string s))) (hi:ev E i=.d (.v (.int .i64 n))) (hT:g.ty T=some ⟨q,cj,z,.str⟩)
  (h0:0≤n) (hb:s[n.toNat]? = some b)
  (hr:R g pf Fin (.dr ad ax::k) (bf E dst (.d (.v (.int .u8 b.toNat)))) objs):R g pf Fin (.dr ad (⟨dst,.index T x i,ty,pos,after,gd⟩::ax)::k) E objs:=by
 refine cL (aI.up (aI.quiet hg bm hd aC fun φ objs a w hρ hs=>?_)) hr;simp only[Op.operands]at hρ;have aN:=hρ x aC;rw[hx]at aN;have v8:=hρ i aC;rw[hi]at v8;simp only[RV]at aN v8;generalize hvi:a.eval i=vi at v8;generalize kU:a.eval x=vx at aN;cases v8;cases aN;have hu:=(hg.ty _ _ hT).sh;simp only[bA]at hu;refine aY hs (vv:=.int .u8 b.toNat) ?_ xH;simp[execOp,Instr.index,hvi,kU,asIntOf,underlying,hu,h0,hb]

theorem EH{P:Program}{w:World}{y:Nat}{c:BoundsCode}(h0:0≤n)(h1:n≤y):(Instr.sliceBound (.int .i64 n) y c).run P w=.ok n.toNat w:=by
 simp only[Instr.sliceBound,asIntOf,Sem.run_bind,Sem.run_pure,Result.andThen_ok]
 simp_all

def q8 (E:bk)(o:Option Operand)(d:Int):Option Int :=
 match o with
 |none=>some d
 |some x=>match ev E x with
  | .d (.v (.int .i64 n))=>some n
  |_=>none

theorem ni{P:Program}{w:World}{a:Act}{sl:Bool}{len cap:Nat}{lo hi:Option Operand}{l h:Int}(hl:q8 E lo 0=some l)(hh:q8 E hi len=some h)
  (Qp:∀x,lo=some x→∀n,ev E x=.d (.v (.int .i64 n))→a.eval x=.int .i64 n) (hhi:∀x,hi=some x→∀n,ev E x=.d (.v (.int .i64 n))→a.eval x=.int .i64 n) (h0:0≤l) (h1:l≤h) (h2:h≤cap) :
  (Instr.sliceBounds sl len cap (lo.map a.eval) (hi.map a.eval) none).run P w=.ok (l.toNat,h.toNat,cap) w:=by
 have e1:∀d,(match (hi.map a.eval) with |some v=>Instr.sliceBound v cap d |none=>pure len:Sem Nat).run P w=.ok h.toNat w:=by
  intro d;cases hi with
  |none=>simp only[q8,Option.some.injEq]at hh;subst hh;simp
  |some x =>
   simp only[q8]at hh;split at hh
   ·rename_i n he; cases hh;simp only[rD,hhi x rfl _ he];exact EH an h2
   ·cases hh
 have e2:∀d,(match (lo.map a.eval) with |some v=>Instr.sliceBound v h.toNat d |none=>pure 0:Sem Nat).run P w=.ok l.toNat w:=by
  intro d;cases lo with
  |none=>simp only[q8,Option.some.injEq]at hl;subst hl;simp
  |some x =>
   simp only[q8]at hl;split at hl
   ·rename_i n he; cases hl;simp only[rD,Qp x rfl _ he];exact EH h0 an
   ·cases hl
 have e1':=e1 (if sl then .sliceAcap else .sliceAlen);have e2':=e2 .sliceB;unfold Instr.sliceBounds;cases hi<;>cases lo<;>simp_all<;>simp_all

theorem W6(hg:c9 g){lo hi:Option Operand}
  {q cj:Nat}  {s:ByteArray} {l h:Int}
  (bm:aG ad.toList E gd=some true) (hd:aO ⟨g.ty,g.N⟩ dst=true) (hx:ev E x=.d (.v (.string s))) (hl:q8 E lo 0=some l) (hh:q8 E hi s.size=some h) (hT:g.ty T=some ⟨q,cj,z,.str⟩)
  (h0:0≤l) (h1:l≤h) (h2:h≤s.size)
  (hr:R g pf Fin (.dr ad ax::k) (bf E dst (.d (.v (.string (s.extract l.toNat h.toNat))))) objs):R g pf Fin (.dr ad (⟨dst,.slice T x lo hi none,ty,pos,after,gd⟩::ax)::k) E objs:=by
 refine cL (aI.up (aI.quiet hg bm hd aC fun φ objs a w hρ hs=>?_)) hr;simp only[Op.operands]at hρ;have aN:=hρ x aC;rw[hx]at aN;simp only[RV]at aN;generalize kU:a.eval x=vx at aN;cases aN;have hu:=(hg.ty _ _ hT).sh;simp only[bA]at hu;refine aY hs (vv:=.string (s.extract l.toNat h.toNat)) ?_ xH
 have hb:=ni (P:=g.P) (w:=w) (sl:=false) (a:=a) hl hh (fun y hy n he=>by
  have:=hρ y kb;rw[he]at this;simp only[RV]at this;generalize a.eval y=u at this;cases this;rfl) (fun y hy n he=>by
  have:=hρ y kb;rw[he]at this;simp only[RV]at this;generalize a.eval y=u at this;cases this;rfl) h0 h1 h2
 simp[execOp,Instr.sliceAt,Instr.slice,kU,underlying,hu,hb]

theorem W7(hg:c9 g){lo hi:Option Operand}
  {q cj e:Nat}  {τ:Ty} {aa:List (List D)} {l h:Int}
  (bm:aG ad.toList E gd=some true) (hd:aO ⟨g.ty,g.N⟩ dst=true) (hx:lB (ev E x)=.d (.sl aa)) (hl:q8 E lo 0=some l) (hh:q8 E hi aa.length=some h) (hT:g.ty T=some ⟨q,cj,z,.slice e⟩) (he:g.ty e=some τ) (hsz:∀r∈aa,r.length=τ.size)
  (h0:0≤l) (h1:l≤h) (h2:h≤aa.length)
  (hr:R g pf Fin (.dr ad ax::k) (bf E dst (.d (.sl ((aa.drop l.toNat).take (h.toNat - l.toNat))))) objs):R g pf Fin (.dr ad (⟨dst,.slice T x lo hi none,ty,pos,after,gd⟩::ax)::k) E objs:=by
 refine cL (aI.up (aI.quiet hg bm hd aC fun φ objs a w hρ hs=>?_)) hr;simp only[Op.operands]at hρ;have aN:=bM.lB _ _ _ _ _ (hρ x aC);rw[hx]at aN;simp only[RV]at aN;generalize kU:a.eval x=vx at aN
 have aZ:∃p cap,vx=.slice p aa.length cap∧(aa.length≤cap∨aa=[]):=by
  cases aN with
  |nil p c=>simp_all
  |sl _ _ _ hl=>grind
 obtain⟨p,cap,rfl,rF⟩:=aZ
 have ale:(h:Int)≤cap:=by
  grind
 have hb:=ni (P:=g.P) (w:=w) (sl:=true) (a:=a) (len:=aa.length) (cap:=cap) hl hh (fun y hy n he=>by
  have:=hρ y kb;rw[he]at this;simp only[RV]at this;generalize a.eval y=u at this;cases this;rfl) (fun y hy n he=>by
  have:=hρ y kb;rw[he]at this;simp only[RV]at this;generalize a.eval y=u at this;cases this;rfl) h0 h1 ale
 have hτ:=hg.ty _ _ he;refine aY hs (vv:=.slice (if cap=l.toNat then p else p.map (·.add (l.toNat * τ.size))) (h.toNat - l.toNat) (cap - l.toNat)) ?_ ?_
 ·simp[execOp,Instr.sliceAt,Instr.slice,kU,underlying,bN hg hT,hb,run_sizeOf hτ]
 ·simp only [RV];by_cases hz:h.toNat - l.toNat=0
  ·rw[hz,List.take_zero];exact .nil _ _
  have Vd:l.toNat<aa.length:=by omega
  cases aN with
  |nil p c=>simp at Vd
  |@sl _ b o cap sz cs T' fr g' hS U9 hlc hc agW xD Dv =>
  have eo:cap≠l.toNat:=by omega
  rw[if_neg eo];simp only[rD,fK];have DP:sz=τ.size:=by rw[← agW 0 aa[0] (dY an),hsz _ (eg _)]
  subst DP;have aet:((aa.drop l.toNat).take (h.toNat - l.toNat)).length=h.toNat - l.toNat:=by simp;omega
  have key:∀ (i:Nat) (r:List D),((aa.drop l.toNat).take (h.toNat - l.toNat))[i]? = some r→aa[l.toNat+i]? = some r:=fun i r hi=>by
   have l7:=(bC.1 hi).1;rw[aet]at l7;rw[qb l7,AL]at hi;exact hi
  have abw:=Rd.sl (S:=SS g.S0 φ) (w:=w) (aa:=(aa.drop l.toNat).take (h.toNat - l.toNat)) (b:=b) (o:=o+l.toNat * τ.size) (cap:=cap - l.toNat) (sz:=τ.size) (fun i j=>g' (l.toNat+i) j) hS U9 (by rw[aet];omega) an (fun i r hi=>agW _ _ (key i r hi)) (fun i r j x hi hj=>by
   rw[show o+l.toNat * τ.size+i * τ.size+j=o+(l.toNat+i) * τ.size+j by rw[Nat.add_mul];omega];exact xD _ _ _ _ (key i r hi) hj) (fun i r j x hi hj=>Dv _ _ _ _ (key i r hi) hj)
  simp_all

theorem sI(hg:c9 g){T T':Nat}{x y:Operand}
  {q q' cj oU e e':Nat} {z z':List Value} {τ:Ty} {aa cu:List (List D)}
  (bm:aG ad.toList E gd=some true) (hd:aO ⟨g.ty,g.N⟩ dst=true) (hx:ev E x=.fs aa∨(ev E x=.d (.v (.slice none 0 0))∧aa=[])) (hy:lB (ev E y)=.d (.sl cu)) (eo:aa=[]∨cu≠[])
  (hT:g.ty T=some ⟨q,cj,z,.slice e⟩) (kX:g.ty T'=some ⟨q',oU,z',.slice e'⟩) (he:g.ty e=some τ) (hlr:∀r∈aa,r.length=τ.size) (aZ:∀r∈cu,r.length=τ.size)
  (qm:(aa.length+cu.length) * τ.bytes≤140737488355328) (tJ:aa.length+cu.length≤140737488355328)
  (hr:R g pf Fin (.dr ad ax::k) (bf E dst (.ow (len objs) 0)) (objs++[.arr τ.size 0 (aa++cu)])) :
  R g pf Fin (.dr ad (⟨dst,.call { callee:=.builtin .append,args:=#[x,y],argTypes:=#[T,T'] },ty,pos,after,gd⟩::ax)::k) E objs:=by
 refine cL (aI.eT hg (.add _ _) bm hd aC fun φ a w hρ hs=>?_) hr;simp only[Op.operands,Call.operands]at hρ;have aN:=hρ x aC;have ew:=bM.lB _ _ _ _ _ (hρ y aC);rw[hy]at ew;simp only[RV]at ew
 have Vi:Rd (SS g.S0 φ) w (.sl aa) (a.eval x)∧∃a0,a.eval x=.slice a0 aa.length aa.length:=by
  rcases hx with hx |⟨hx,rfl⟩
  ·rw[hx]at aN;simpa only[RV]using aN
  ·rw [hx] at aN; simp only [RV] at aN;generalize a.eval x=u at aN;cases aN;exact⟨.nil _ _,_,rfl⟩
 obtain⟨Vi,a0,hv⟩:=Vi;obtain⟨rK,hF⟩:=DN.EF (P:=g.P) Vi hlr;obtain⟨cells,hN⟩:=DN.EF (P:=g.P) ew aZ;have hτ:=hg.ty _ _ he;obtain⟨xa,xc,Mh⟩:=hN.sl;have eK:∀r∈aa++cu,r.length=τ.size:=fun r hr=>(bW.1 hr).elim (hlr r) (aZ r)
 have JJ:aa.length+cu.length≤maxLen:=by simp only[maxLen];omega
 have hw:∀v',RV (SS g.S0 (φ++[bB.nZ τ.size 0 (.slice v' (aa.length+cu.length) 0) none])) w φ .any (.slice v' 0 0):=fun _=>by simp[RV]
 by_cases hm:cu.length=0
 ·have JK:cu=[]:=jy.1 hm;subst JK;have eA:aa=[]:=eo.resolve_right (fun h=>h rfl);subst eA;have rL:cells=[]:=jy.1 PL;subst rL;have fm:=mB (tr:=ty) (bN hg hT) (bN hg kX) hτ (a:=a0) (n:=0) (cap:=0) Mh (hN.run w rfl) cP;have cS:=jJ.M0 hs τ.size a0;refine⟨.value (.slice a0 0 0),.slice a0 0 0,w,_,?_,.inl rfl,?_,cS⟩
  ·simp only [lM] at hv;simp only[execOp,resolve,invoke,builtin,Sem.run_bind,Sem.run_pure,Result.andThen_ok,rC,List.map_cons,fj,hv,fm]
  ·simp only [RV];exact⟨⟨_,_,_,rfl⟩,.nZ τ.size 0 (.slice a0 0 0) none,by rw[bj,← hs.len];simp,fun sz s x ob h=>by grind⟩
 ·rw [hv] at hF;obtain⟨zs,oD,vo,Gp,Jh,fm⟩:=ql (tr:=ty) (bN hg hT) (bN hg kX) hτ Mh hF.run hN.run an qm JJ;refine⟨.value (.slice (some ⟨w.heap.size,0,none⟩) (aa.length+cu.length) oD),.slice (some ⟨w.heap.size,0,none⟩) (aa.length+cu.length) oD,w.drew.alloc (.cells (rK++cells++zs).toArray e),φ++[.nZ τ.size 0 (.slice (some ⟨w.heap.size,0,none⟩) (aa.length+cu.length) oD) (some w.heap.size)],?_,.inl rfl,?_,?_⟩
  ·simp only[execOp,resolve,invoke,builtin,Sem.run_bind,Sem.run_pure,Result.andThen_ok,rC,List.map_cons,fj,hv,fm]
  ·simp only [RV];exact⟨⟨_,_,_,rfl⟩,.nZ τ.size 0 (.slice (some ⟨w.heap.size,0,none⟩) (aa.length+cu.length) oD) (some w.heap.size),by rw[bj,← hs.len];simp,fun sz s x ob h=>by grind⟩
  ·refine jJ.add hs k8 (fun c hc=>jD hc) (fun b hb=>?_) rfl rfl rfl fun bx=>?_
   ·simp only[bB.bl,Option.some.injEq]at hb;simp_all
   ·simp only [bd];refine⟨trivial,trivial,eK,.inr ⟨_,0,oD,_,e,by simp_all,rfl,oE,by simp_all,Gp,?_,?_⟩⟩
    ·simp only [List.length_append,hF.len,hN.len,Jh];rw[← Nat.add_mul,← Nat.add_mul]
     simp_all
    ·intro i' r j x' hi hj;obtain⟨y',h3,h4⟩:=wa hF hN bx i' r j x' hi hj (eK r (gZ hi));exact⟨y',by simpa using EG h3,h4⟩
end

theorem jL(h1:-9223372036854775808≤n)(h2:n<9223372036854775808):IntKind.i64.wrap n=n:=by
 have e:IntKind.i64.wrap n=if n % 18446744073709551616 ≥ 9223372036854775808 then n % 18446744073709551616 - 18446744073709551616 else n % 18446744073709551616:=by
  simp[IntKind.wrap,IntKind.signed,IntKind.bits]
 omega
theorem bM.int{m n:Int}(h:m=n):bM (.d (.v (.int .i64 m))) (iV n):=by subst h;exact .refl _

theorem bM.wrap{m n:Int}(h:m=n)(h1:-9223372036854775808≤n)(h2:n<9223372036854775808):bM (.d (.v (.int .i64 (IntKind.i64.wrap m)))) (iV n):=by
 subst h;rw[jL h1 h2];exact .refl _
end aw
namespace aw
open Go Go.RowKit

inductive TT where
 |aA
 |node (k:Nat) (l:TT) (v:Ty) (r:TT)

def TT.get:TT→Nat→Option Ty
 | .aA,_=>none
 | .node k l v r,t=>bif Nat.beq t k then some v else bif Nat.ble t k then l.get t else r.get t

def zeq:Value→Value→Bool
 | .int k a,.int k' b=>kEq k k'&&a==b
 | .bool a,.bool b=>a==b
 | .string a,.string b=>a.size==0&&b.size==0
 | .slice none 0 0,.slice none 0 0=>true
 | .pointer none,.pointer none=>true
 | .nilFunc,.nilFunc=>true
 | .nilIface,.nilIface=>true
 | .map none,.map none=>true
 |_,_=>false
theorem Qq {a:ByteArray}(h:(a.size==0)=true):a=ByteArray.empty:=by simpa using h

theorem agZ:∀ {a b:Value},zeq a b=true→a=b∧b.oneCell'=true
 | .int k a,.int k' b,h=>by
  simp only[zeq,aV,beq_iff_eq]at h;rw[AX h.1,h.2];exact⟨rfl,rfl⟩
 | .bool a,.bool b,h=>by simp[zeq]at h;subst h;exact⟨rfl,rfl⟩
 | .string a,.string b,h=>by
  simp only[zeq,aV]at h;rw[Qq h.1,Qq h.2];exact⟨rfl,rfl⟩
 |a,b,h=>by
  unfold zeq at h;split at h
  ·simp only[aV,beq_iff_eq]at h;rw[AX h.1,h.2];exact⟨rfl,rfl⟩
  ·simp at h;subst h;exact⟨rfl,rfl⟩
  ·simp only [aV] at h;rw[Qq h.1,Qq h.2];exact⟨rfl,rfl⟩
  all_goals first
   |exact⟨rfl,rfl⟩
   |cases h

def SU:List Value→List Value→Bool
 |[],[]=>true
 |a::l,b::m=>zeq a b&&SU l m
 |_,_=>false

theorem Qr:∀ {l m:List Value},SU l m=true→l=m∧∀v∈m,v.oneCell'=true
 |[],[],_=>⟨rfl,by simp⟩
 |[],_::_,h=>by simp[SU]at h
 |_::_,[],h=>by simp[SU]at h
 |a::l,b::m,h=>by
  simp only[SU,aV]at h;obtain⟨h1,h2⟩:=agZ h.1;obtain⟨h3,h4⟩:=Qr h.2
  simp_all

def EI:List Field→List (Nat × Nat)→Bool
 |[],[]=>true
 |f::l,(o,t)::m=>f.offset==o&&f.type==t&&EI l m
 |_,_=>false

theorem JQ:∀ {l:List Field} {m:List (Nat × Nat)},EI l m=true→l.map (fun f=>(f.offset,f.type))=m
 |[],[],_=>rfl
 |[],_::_,h=>by simp[EI]at h
 |_::_,[],h=>by simp[EI]at h
 |f::l,(o,t)::m,h=>by
  simp only[EI,aV,beq_iff_eq]at h;simp only[List.map_cons,JQ h.2,h.1.1,h.1.2]

def W8 (P:Program) (t:Nat):Sh→Bool
 | .one=>match P.underlying t with
  |some (.struct _)=>false
  |some (.array _ _)=>false
  |some _=>true
  |none=>false
 | .int k=>match P.underlying t with |some (.int k')=>kEq k' k |_=>false
 | .bool=>match P.underlying t with |some .bool=>true |_=>false
 | .str=>match P.underlying t with |some .string=>true |_=>false
 | .struct jz=>match P.underlying t with
  |some (.struct fs)=>EI fs.toList jz&&fs.toList.all fun f=>match P.info? f.type with |some i=>!(i.size==0) |none=>false
  |_=>false
 | .array n e=>match P.underlying t with |some (.array n' e')=>n'==n&&e'==e |_=>false
 | .slice e=>match P.underlying t with |some (.slice e')=>e'==e |_=>false
 | .map k e=>match P.underlying t with |some (.map k' e')=>k'==k&&e'==e |_=>false

theorem W9 {P:Program}{t:Nat}{s:Sh}(h:W8 P t s=true):bA P t s:=by
 unfold W8 at h;cases s<;>simp only[bA]at h ⊢
 ·split at h
  ·cases h
  ·cases h
  ·rename_i d hs ha hu;exact⟨d,hu,fun fs e=>hs fs e,fun n e' e=>ha n e' e⟩
  ·cases h
 ·split at h
  ·rename_i k' hu;rw[hu,AX h]
  ·cases h
 ·split at h
  ·rename_i hu;exact hu
  ·cases h
 ·split at h
  ·rename_i hu;exact hu
  ·cases h
 ·split at h
  ·rename_i fs hu;simp only[aV,fk]at h;refine⟨fs,hu,JQ h.1,fun f hf=>?_⟩;have:=h.2 f hf;split at this
   ·rename_i i hi;exact⟨i,hi,by simpa using this⟩
   ·cases this
  ·cases h
 ·split at h
  ·rename_i n' e' hu;simp at h;rw[hu,h.1,h.2]
  ·cases h
 ·split at h
  ·rename_i e' hu;simp at h;rw[hu,h]
  ·cases h
 grind

def Xa (P:Program)(t:Nat)(τ:Ty):Bool :=
 match P.info? t with
 |some i=>match i.zero with
  |some z=>i.size==τ.size&&i.bytes==τ.bytes&&SU z.cells.toList τ.zero&&len τ.zero==τ.size&&(τ.agg || τ.size==1)&&W8 P t τ.sh
  |none=>false
 |none=>false

theorem Xb {P:Program}{t:Nat}{τ:Ty}(h:Xa P t τ=true):kz P t τ:=by
 unfold Xa at h;split at h
 case h_2=>cases h
 case h_1 i hi =>
 split at h
 case h_2=>cases h
 case h_1 z hz =>
 simp only[aV,beq_iff_eq,mS]at h;obtain⟨⟨⟨⟨⟨h1,h2⟩,h3⟩,h4⟩,h5⟩,h6⟩:=h;obtain⟨h7,h8⟩:=Qr h3;refine⟨⟨i,z,hi,hz,h1,h2,h7⟩,by rw[← bj];exact h4,W9 h6,fun ha=>?_,h8⟩
 simp_all

def TT.zX (P:Program):TT→Bool
 | .aA=>true
 | .node k l v r=>Xa P k v&&l.zX P&&r.zX P

theorem TT.ok {P:Program}:∀ {T:TT},T.zX P=true→jk P T.get
 | .aA,_,t,τ,h=>by simp[TT.get]at h
 | .node k l v r,hc,t,τ,h=>by
  simp only[TT.zX,aV]at hc;simp only[TT.get]at h;cases hb:Nat.beq t k
  ·rw [hb] at h; simp only [cond_false] at h;cases hl:Nat.ble t k
   ·rw[hl]at h;exact TT.ok hc.2 t τ h
   ·rw[hl]at h;exact TT.ok hc.1.2 t τ h
  ·rw [hb] at h; simp only [cond_true,Option.some.injEq] at h;subst h;have:=cp hb;subst this;exact Xb hc.1.1
end aw
