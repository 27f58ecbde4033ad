import Derived.Test.YtcgkgofmldhokaaGreatPslA
import Derived.RangeFuncNested
namespace PSL
open Go Go.RowKit

def resOne (ty:Nat→Option Ty) (E:Env) (objs:List Ob):ResultVar→Option AV
 | .tmp t=>some (lk E t)
 | .cell a t=>match ty t with
  |some τ=>match lk E a with
   | .lo i off=>match nth objs i with
    |some (.box l)=>packA τ l off
    |_=>none
   |_=>none
  |none=>none

def resL (ty:Nat→Option Ty) (E:Env) (objs:List Ob):List ResultVar→Option (List AV)
 |[]=>some []
 |x::r=>match resOne ty E objs x with
  |some v=>match resL ty E objs r with
   |some l=>some (v::l)
   |none=>none
  |none=>none

def resAV (ty:Nat→Option Ty)(E:Env)(objs:List Ob)(l:List ResultVar):Option AV :=
 match resL ty E objs l with
 |some [x]=>some x
 |some l=>some (.tup l)
 |none=>none

def mapO (f:AV→Option AV):List AV→Option (List AV)
 |[]=>some []
 |x::r=>match f x with
  |some y=>match mapO f r with
   |some l=>some (y::l)
   |none=>none
  |none=>none

def sealA (objs:List Ob):Nat→AV→Option AV
 |0,_=>none
 |n+1,x=>match x with
  | .agg l=>match mapO (sealA objs n) l with |some l'=>some (.agg l') |none=>none
  | .tup l=>match mapO (sealA objs n) l with |some l'=>some (.tup l') |none=>none
  | .ow i s=>match nth objs i with
   |some (.arr _ s' rows)=>bif Nat.beq s s' then some (.d (.sl rows)) else none
   |_=>none
  | .lo i off=>match nth objs i with
   |some (.box l)=>match mapO (sealA objs n) l with
    |some l'=>match toDs l' with
     |some ds=>some (.d (.ptr (ds.drop off)))
     |none=>none
    |none=>none
   |_=>none
  | .tt=>some (.d (.v (.bool true)))
  | .ff=>some (.d (.v (.bool false)))
  | .fs rows=>some (.d (.sl rows))
  | .d (.v (.slice none 0 0))=>some (.d (.sl []))
  | .d y=>some (.d y)
  | .clo f a c=>match mapO (sealA objs n) a with
   |some a'=>match mapO (sealA objs n) c with
    |some c'=>some (.clo f a' c')
    |none=>none
   |none=>none
  |_=>none
section
variable {P:Program} {ty:Nat→Option Ty} {S0:Nat→Prop} {φ:List Phy} {objs:List Ob} {w:World} {E:Env} {a:Act}

def resF (tmps:Array Value):ResultVar→Sem Value
 | .tmp t=>pure (tmps.getD t undef)
 | .cell c t=>do loadVar t (← asAddr (tmps.getD c undef))

theorem results_eq (fn:Func)(tmps:Array Value):results fn tmps=(do let vs ← fn.results.mapM (resF tmps);pure (if h:vs.size=1 then vs[0] else .tuple vs)):=by
 unfold results
 have:(fun x:ResultVar=>match x with | .tmp t=>pure (tmps.getD t undef) | .cell a t=>do loadVar t (← asAddr (tmps.getD a undef)):ResultVar→Sem Value)=resF tmps:=by
  funext x;cases x<;>rfl
 rw[← this]
 rfl

theorem resOne_ok (hty:TyOk P ty)(hs:HS S0 φ objs w)(hv:EnvOk (SS S0 φ) w φ E a){x:ResultVar}{v:AV}(h:resOne ty E objs x=some v) :
  ∃vv,(resF a.tmps x).run P w=.ok vv w∧RV (SS S0 φ) w φ v vv:=by
 cases x with
 |tmp t=>simp only[resOne,Option.some.injEq]at h;subst h;exact⟨_,rfl,hv t⟩
 |cell c t =>
  simp only[resOne]at h
  split at h
  case h_2=>cases h
  case h_1 τ ht =>
  split at h
  case h_2=>cases h
  case h_1 i off hA =>
  split at h
  case h_2=>cases h
  case h_1 l hl =>
  have hx:=hv c
  rw[hA]at hx;simp only[RV]at hx
  obtain⟨b,hb,hx⟩:=hx
  have ho:=obj_at hs hb hl
  simp only[ObOk]at ho
  obtain⟨cs,T',hheap,hrv⟩:=ho
  obtain⟨vv,h1,h2⟩:=load_at (o:=0) (hty _ _ ht) hheap (by simpa using hrv) h
  refine⟨vv,?_,h2⟩
  simp only[resF,hx,asAddr,Sem.run_bind,Sem.run_pure,Result.andThen_ok]
  simpa using h1

theorem resL_ok (hty:TyOk P ty)(hs:HS S0 φ objs w)(hv:EnvOk (SS S0 φ) w φ E a):∀ {l:List ResultVar} {vs:List AV},resL ty E objs l=some vs →
  ∃vvs:List Value,(l.mapM (resF a.tmps)).run P w=.ok vvs w∧RVs (SS S0 φ) w φ vs vvs
 |[],vs,h=>by simp only[resL,Option.some.injEq]at h;subst h;exact⟨[],by simp,by simp[RVs]⟩
 |x::l,vs,h=>by
  simp only[resL]at h
  split at h
  case h_2=>cases h
  case h_1 v hx =>
  split at h
  case h_2=>cases h
  case h_1 l' hl =>
  cases h
  obtain⟨vv,h1,h2⟩:=resOne_ok hty hs hv hx
  obtain⟨vvs,h3,h4⟩:=resL_ok hty hs hv hl
  refine⟨vv::vvs,?_,by simp only[RVs];exact⟨h2,h4⟩⟩
  rw[List.mapM_cons,Sem.run_bind,h1,Result.andThen_ok,Sem.run_bind,h3,Result.andThen_ok,Sem.run_pure]

theorem resAV_ok (hty:TyOk P ty)(hs:HS S0 φ objs w)(hv:EnvOk (SS S0 φ) w φ E a){fn:Func}{v:AV}(h:resAV ty E objs fn.results.toList=some v) :
  ∃vv,(results fn a.tmps).run P w=.ok vv w∧RV (SS S0 φ) w φ v vv:=by
 unfold resAV at h
 cases hl:resL ty E objs fn.results.toList with
 |none=>rw[hl]at h;cases h
 |some vs =>
  rw[hl]at h
  obtain⟨vvs,h1,h2⟩:=resL_ok hty hs hv hl
  have hm:(fn.results.mapM (resF a.tmps)).run P w=.ok vvs.toArray w:=by
   rw[Array.mapM_eq_mapM_toList,Sem.run_map,h1];rfl
  have hr:(results fn a.tmps).run P w=.ok (if h:vvs.toArray.size=1 then vvs.toArray[0] else .tuple vvs.toArray) w:=by
   rw[results_eq,Sem.run_bind,hm,Result.andThen_ok,Sem.run_pure]
  have hlen:=h2.length
  refine⟨_,hr,?_⟩
  match vs,vvs,h2,hlen,h with
  |[x],[y],h2,_,h =>
   simp only[Option.some.injEq]at h;subst h
   simp only[RVs]at h2
   simpa using h2.1
  |[],[],h2,_,h=>simp only[Option.some.injEq]at h;subst h;simp only[RV];exact⟨[],rfl,h2⟩
  |x::x'::l,y::y'::l',h2,_,h =>
   simp only[Option.some.injEq]at h;subst h
   simp only[RV]
   exact⟨y::y'::l',by simp,h2⟩
theorem keep_seal:Keep (SS S0 φ) w S0 w:=fun _ h _=>⟨h.1,rfl⟩

theorem mapO_ok {f:AV→Option AV}{S:Nat→Prop}{ψ:List Phy}(hf:∀x v y,RV (SS S0 φ) w φ x v→f x=some y→RV S w ψ y v):∀ {l l':List AV} {vs:List Value},RVs (SS S0 φ) w φ l vs→mapO f l=some l'→RVs S w ψ l' vs
 |[],l',vs,h,hm=>by
  simp only[mapO,Option.some.injEq]at hm;subst hm
  cases vs with
  |nil=>simp[RVs]
  |cons _ _=>simp[RVs]at h
 |x::l,l',vs,h,hm=>by
  cases vs with
  |nil=>simp[RVs]at h
  |cons v vs =>
   simp only[RVs]at h
   simp only[mapO]at hm
   split at hm
   case h_2=>cases hm
   case h_1 y hy =>
   split at hm
   case h_2=>cases hm
   case h_1 l1 hl =>
   cases hm
   simp only[RVs]
   exact⟨hf _ _ _ h.1 hy,mapO_ok hf h.2 hl⟩

theorem arr_rd {S:Nat→Prop}(hbl:∀b,bls φ b→S0 b)(hs:HS S0 φ objs w){i s sz s':Nat}{rows:List (List D)}{v:Value}(hv:RV S w φ (.ow i s) v)(ho:nth objs i=some (.arr sz s' rows))(hss:s=s') :
  Rd S0 w (.sl rows) v:=by
 simp only[RV]at hv
 obtain⟨_,ph,hph,hx⟩:=hv
 have hk:=obj_at hs hph ho
 cases ph<;>simp only[ObOk]at hk
 rename_i sz2 s2 v2 ob2
 obtain⟨rfl,he,hlen,hk⟩:=hk
 obtain⟨_,hx⟩:=hx _ _ _ _ rfl
 have hx:=hx (by omega)
 subst hx
 rcases hk with ⟨a2,rfl,rfl,_⟩ |⟨b,o,cap,cs,T,rfl,rfl,hheap,hn,hcap,hle,hrd⟩
 ·exact .nil _ _
 ·have hb:bls φ b:=⟨i,_,hph,rfl⟩
  refine Rd.sl (sz:=sz) (fun i j=>(cs[o+i * sz+j]?).getD undef) (hbl b hb) hheap hn hcap (fun i r hi=>hlen r (List.mem_of_getElem? hi)) (fun i r j x hi hj=>?_) (fun i r j x hi hj=>?_)
  ·obtain ⟨y,h1,_⟩:=hrd i r j x hi hj
   simp[h1]
  ·obtain ⟨y,h1,h2⟩:=hrd i r j x hi hj
   rw[h1];exact h2.mono keep_seal

theorem sealA_ok (hbl:∀b,bls φ b→S0 b)(hs:HS S0 φ objs w):∀ (n:Nat) {x y:AV} {v:Value},RV (SS S0 φ) w φ x v→sealA objs n x=some y→RV S0 w [] y v:=by
 intro n
 induction n with
 |zero=>intro x y v _ h;simp[sealA]at h
 |succ n ih =>
  intro x y v hx h
  simp only[sealA]at h
  split at h
  case h_1 l =>
   split at h
   case h_2=>cases h
   case h_1 l' hl =>
   cases h
   simp only[RV]at hx ⊢
   obtain⟨cs,h1,h2⟩:=hx
   exact⟨cs,h1,mapO_ok (fun x v y h1 h2=>ih h1 h2) h2 hl⟩
  case h_2 l =>
   split at h
   case h_2=>cases h
   case h_1 l' hl =>
   cases h
   simp only[RV]at hx ⊢
   obtain⟨cs,h1,h2⟩:=hx
   exact⟨cs,h1,mapO_ok (fun x v y h1 h2=>ih h1 h2) h2 hl⟩
  case h_3 i s =>
   split at h
   case h_2=>cases h
   case h_1 sz s' rows ho =>
   obtain⟨hss,h⟩:=bifS h
   cases h
   simp only[RV]
   exact arr_rd hbl hs hx ho (natBeq hss)
  case h_4 i off =>
   split at h
   case h_2=>cases h
   case h_1 l ho =>
   split at h
   case h_2=>cases h
   case h_1 l' hl =>
   split at h
   case h_2=>cases h
   case h_1 ds hds =>
   cases h
   simp only[RV]at hx
   obtain⟨b,hb,rfl⟩:=hx
   have hk:=obj_at hs hb ho
   simp only[ObOk]at hk
   obtain⟨cs,T,hheap,hrv⟩:=hk
   have h1:=mapO_ok (S:=S0) (ψ:=[]) (fun x v y h1 h2=>ih h1 h2) hrv hl
   have h2:=toDs_rvs h1 hds
   simp only[RV]
   refine Rd.ptr (fun j=>(cs[off+j]?).getD undef) (hbl b ⟨i,_,hb,rfl⟩) hheap (fun j x hj=>?_) (fun j x hj=>?_)
   ·obtain ⟨u,h3,_⟩:=h2.get (off+j) (x:=.d x) (by rw [List.getElem?_map]; rw [List.getElem?_drop] at hj; rw [hj]; rfl)
    simp[h3]
   ·obtain ⟨u,h3,h4⟩:=h2.get (off+j) (x:=.d x) (by rw [List.getElem?_map]; rw [List.getElem?_drop] at hj; rw [hj]; rfl)
    rw[h3];simpa[RV]using h4
  case h_5=>cases h;simp only[RV]at hx ⊢;subst hx;exact .v _
  case h_6=>cases h;simp only[RV]at hx ⊢;subst hx;exact .v _
  case h_7=>cases h;simp only[RV]at hx ⊢;exact hx.1.mono keep_seal
  case h_8=>cases h;simp only[RV]at hx ⊢;cases hx;exact .nil _ _
  case h_9=>cases h;simp only[RV]at hx ⊢;exact hx.mono keep_seal
  case h_10 f m c =>
   split at h
   case h_2=>cases h
   case h_1 a' ha =>
   split at h
   case h_2=>cases h
   case h_1 c' hc =>
   cases h
   simp only[RV]at hx ⊢
   obtain⟨va,vc,h1,h2,h3⟩:=hx
   exact⟨va,vc,h1,mapO_ok (fun x v y h1 h2=>ih h1 h2) h2 ha,mapO_ok (fun x v y h1 h2=>ih h1 h2) h3 hc⟩
  case h_11=>cases h
end
section
variable {g:G} {pf:Nat→Cls}

theorem HS.shut {S0:Nat→Prop}{φ:List Phy}{objs:List Ob}{w:World}{D:Nat}{o o':Obj}(h:HS S0 φ objs w)(hD:w.heap[D]? = some o)(hc:¬ dataO o)(hn:¬ bls φ D):HS S0 φ objs (w.putObj D o') where
 len:=h.len
 ok i ph ob h1 h2:=(h.ok i ph ob h1 h2).mono (fun b hb ⟨o2,hcs,hdd⟩=>⟨hb,World.putObj_heap_other fun e=>by subst e;rw[hD]at hcs;cases hcs;exact hc hdd⟩) (.refl _) (by simp) fun b hb=>World.putObj_heap_other fun e=>hn ⟨i,ph,h1,e ▸ hb⟩
 dist:=h.dist
 lt b hb:=by simpa using h.lt b hb
 up b hb:=h.up b (by simpa using hb)

theorem keep_shut {S:Nat→Prop}{w:World}{D:Nat}{o o':Obj}(hD:w.heap[D]? = some o)(hc:¬ dataO o):Keep S w S (w.putObj D o') :=
 fun b hb ⟨o2,hcs,hdd⟩=>⟨hb,World.putObj_heap_other fun e=>by subst e;rw[hD]at hcs;cases hcs;exact hc hdd⟩

def SatD (g:G)(E:Env)(objs:List Ob)(tmps:Array Value)(ds ds2:List Deferred)(w:World):Prop :=
 ∃φ,HS g.S0 φ objs w∧(∀b,bls φ b→g.w0.heap.size≤b∨g.X0 b)∧EnvOk (SS g.S0 φ) w φ E { tmps:=tmps,defers:=[] }∧tmps.size=g.N∧MksA g φ ds w∧Fr0 g φ w∧DfOk (SS g.S0 φ) w φ g.dfs ds2

theorem Sat.told {E:Env}{objs:List Ob}{a:Act}{w:World}(h:Sat g E objs a w):∃ds ds2,a.defers=ds++ds2∧SatD g E objs a.tmps ds ds2 w:=by
 obtain⟨φ,h1,h2,h3,h4,⟨ds,ds2,e,h5,h7⟩,h6⟩:=h
 exact⟨ds,ds2,e,φ,h1,h2,h3,h4,h5,h6,h7⟩

theorem SatD.shut {E:Env}{objs:List Ob}{tmps:Array Value}{d:Deferred}{ds ds2:List Deferred}{w:World}(h:SatD g E objs tmps (d::ds) ds2 w) :
  ∃D,d={ target:=.collected D,args:=#[] }∧w.heap[D]? = some (.deferred (some []))∧SatD g E objs tmps ds ds2 (w.putObj D (.deferred none)):=by
 obtain⟨φ,h1,h2,h3,h4,h5,h6,h7⟩:=h
 obtain⟨D,hd,hDw,hn,hD⟩:=h5.2.2 d (by simp)
 refine⟨D,hd,hD,φ,h1.shut hD (fun h=>h) hn,h2,fun t=>(h3 t).mono (keep_shut hD (fun h=>h)) (.refl _),h4,⟨fun hm=>(by have:=h5.1 hm;cases this),(List.nodup_cons.1 h5.2.1).2,fun d' hd'=>?_⟩,?_,h7.mono (keep_shut hD (fun h=>h)) (.refl _)⟩
 ·obtain ⟨D',h7,h8,h9,h10⟩:=h5.2.2 d' (by simp [hd'])
  refine⟨D',h7,h8,h9,?_⟩
  rw[World.putObj_heap_other fun e=>?_]
  ·exact h10
  ·subst e
   exact(List.nodup_cons.1 h5.2.1).1 (by rw[hd,← h7];exact hd')
 ·exact⟨by simpa using h6.size,h6.os,h6.tape,h6.out,fun b hb hx=>(World.putObj_heap_other (by omega)).trans (h6.fr b hb hx),h6.gen,h6.le⟩

theorem leaves_all {E:Env}{objs:List Ob}{fn:Func}{R':Ending→World→Prop}(fin:∀ds2 tmps w,SatD g E objs tmps [] ds2 w→LeavesInM g.F g.dep g.P fn tmps R' ds2 .returning w) :
  ∀ (ds ds2:List Deferred) (tmps:Array Value) (w:World),SatD g E objs tmps ds ds2 w→LeavesInM g.F g.dep g.P fn tmps R' (ds++ds2) .returning w
 |[],ds2,tmps,w,h=>fin ds2 tmps w h
 |d::ds,ds2,tmps,w,h=>by
  obtain⟨D,hd,hD,hs⟩:=h.shut
  simp only[List.cons_append,LeavesInM]
  exact⟨by simp,.inl ⟨D,_,by rw[hd],run_takeDeferred hD,leaves_all fin ds ds2 tmps _ hs⟩⟩

theorem leaves_ok (hdf:g.dfs=[]){E:Env}{objs:List Ob}{fn:Func}{R':Ending→World→Prop}(fin:∀tmps w,Sat g E objs { tmps:=tmps,defers:=[] } w→∃vv,(results fn tmps).run g.P w=.ok vv w∧R' (.returned vv) w)
  (a:Act) (w:World) (h:Sat g E objs a w):LeavesInM g.F g.dep g.P fn a.tmps R' a.defers .returning w:=by
 obtain⟨ds,ds2,e,hs⟩:=h.told
 rw[e]
 refine leaves_all (fun ds2 tmps w h=>?_) ds ds2 a.tmps w hs
 obtain⟨φ,h1,h2,h3,h4,h5,h6,h7⟩:=h
 rw[hdf]at h7
 rw[h7.nil]
 simp only[LeavesInM,LeavesIn]
 exact fin tmps w ⟨φ,h1,h2,h3,h4,.none hdf h5,h6⟩

def FinR (g:G)(fn:Func)(r:AV):Exit→Act→World→Prop :=
 bodyPostM g.F g.dep g.P fn fun e w'=>∃v,e=.returned v∧RV g.S0 w' [] r v∧Below g.w0.heap.size g.w0 w'

theorem KP_ret {Fin:Exit→Act→World→Prop}:∀ (k:List It) {a:Act} {w:World},Fin .ret a w→KP g Fin k .ret a w
 |[],_,_,h=>h
 | .code _::k,_,_,h=>KP_ret k h
 | .blk _::k,_,_,h=>KP_ret k h
 | .mark _::k,_,_,h=>KP_ret k h
 | .dr _ _::k,_,_,h=>KP_ret k h

def gOf (P:Program)(ty:Nat→Option Ty)(N:Nat)(w:World)(S:Nat→Prop):G :=
 { P:=P,F:=Fence.wide,dep:=0,ty:=ty,N:=N,w0:=w,S0:=S,X0:=fun _=>False,φ0:=[],Y:=⟨[],fun _=>true⟩,mks:=true }

theorem gOf_ok {P:Program}{ty:Nat→Option Ty}{N:Nat}{w:World}{S:Nat→Prop}(ha:AmbOk P S w)(hty:TyOk P ty)(hm:P.follows .mixedOrders=true):GOk (gOf P ty N w S) :=
 ⟨fun _=>trivial,ha.at0 fun _ _ h=>h,rfl,rfl,hty,hm⟩

structure GPure (g:G):Prop where
 ok:GOk g
 dfs:g.dfs=[]
 x:∀b,¬ g.X0 b
 up:∀b,g.w0.heap.size≤b→g.S0 b

theorem fin_ok (hg:GPure g){fn:Func}{E:Env}{objs:List Ob}{av r:AV}(n:Nat)(hres:resAV g.ty E objs fn.results.toList=some av)(hseal:sealA objs n av=some r){a:Act}{w:World}(hs:Sat g E objs a w) :
  FinR g fn r .ret a w∧FinR g fn r .normal a w:=by
 suffices hl:LeavesInM g.F g.dep g.P fn a.tmps (fun e w'=>∃v,e=.returned v∧RV g.S0 w' [] r v∧Below g.w0.heap.size g.w0 w') a.defers .returning w from⟨hl,hl⟩
 refine leaves_ok hg.dfs (E:=E) (objs:=objs) (fun tmps w hs'=>?_) a w hs
 clear hs
 have hs:=hs'
 obtain⟨φ,h1,h2,h3,h4,h5,h6⟩:=hs
 obtain⟨vv,h7,h8⟩:=resAV_ok hg.ok.ty h1 h3 hres
 have hbl:∀b,bls φ b→g.S0 b:=fun b hb=>by
  rcases h2 b hb with h |h
  ·exact hg.up b h
  ·exact absurd h (hg.x b)
 have h9:=sealA_ok hbl h1 n h8 hseal
 have hbel:Below g.w0.heap.size g.w0 w:=⟨h6.os,h6.tape,h6.out,h6.size,fun b hb=>h6.fr b hb (hg.x b)⟩
 exact⟨vv,h7,vv,rfl,h9,hbel⟩

theorem R_ret (hg:GPure g){fn:Func}{k:List It}{E:Env}{objs:List Ob}{av r r':AV}(n:Nat)(hres:resAV g.ty E objs fn.results.toList=some av)(hseal:sealA objs n av=some r')(hr:r'=r):R g pf (FinR g fn r) (.code .ret::k) E objs:=by
 subst hr
 intro _ a w hs
 exact wpIn_ret (KP_ret k (fin_ok hg n hres hseal hs).1)

def envOf:List AV→Nat→Env
 |[],_=>[]
 |x::r,k=>(k,x)::envOf r (Nat.succ k)

theorem lk_envOf:∀ (l:List AV) (k t:Nat),lk (envOf l k) t=if t<k then .any else (l[t - k]?).getD .any
 |[],k,t=>by simp[envOf,lk]
 |x::r,k,t=>by
  simp only[envOf,lk]
  by_cases h:k=t
  ·subst h;simp
  ·rw [natBeqF h,cond_false,lk_envOf r (k+1) t]
   by_cases h2:t<k
   ·rw[if_pos (by omega),if_pos h2]
   ·rw[if_neg (by omega),if_neg h2,show t - k=(t - (k+1))+1 by omega,List.getElem?_cons_succ]

theorem PCtr.of_R {P:Program}{ty:Nat→Option Ty}{f:Nat}{fn:Func}{c:Code}{args:List AV}{r:AV}(hty:TyOk P ty)(hm:P.follows .mixedOrders=true)(hf:P.funcs[f]? = some fn)(hb:fn.body=some c)
  (hn:(fn.name == "runtime.NumGoroutine")=false) (hok:codeOk pf c=true) (hN:args.length≤fn.ntmps)
  (h:∀ (w:World) (S:Nat→Prop),GPure (gOf P ty fn.ntmps w S)→R (gOf P ty fn.ntmps w S) pf (FinR (gOf P ty fn.ntmps w S) fn r) [.code c] (envOf args 0) []):PCtr P f args r:=by
 refine⟨callable_of hf hb hn,fun S w vals ha hup hv=>?_⟩
 have hg:GPure (gOf P ty fn.ntmps w S):=⟨gOf_ok ha hty hm,rfl,fun _ h=>h,hup⟩
 have hlen:=hv.length
 refine callsIn_wide.1 (callsIn_of_wp_marks (F:=Fence.wide) (n:=0) hf hb trivial ?_)
 have hs:Sat (gOf P ty fn.ntmps w S) (envOf args 0) [] { tmps:=vals.toArray++Array.replicate (fn.ntmps - vals.toArray.size) undef,defers:=[] } w:=by
  have hnb:∀b,¬ bls [] b:=by rintro b ⟨i,p,h,_⟩;simp at h
  refine⟨[],⟨rfl,by simp,?_,fun b hb=>absurd hb (hnb b),hup⟩,fun b hb=>absurd hb (hnb b),fun t=>?_,by simp[gOf];omega,.none rfl ⟨fun _=>rfl,.nil,by simp⟩,⟨Nat.le_refl _,rfl,rfl,rfl,fun _ _ _=>rfl,fun i l I B h=>by simp at h,fun i p h=>by simp[gOf]at h⟩⟩
  ·intro i j p q b h;simp at h
  ·rw [SS_nil,lk_envOf]
   simp only[Nat.not_lt_zero,if_false,Nat.sub_zero]
   cases ha:args[t]? with
   |none=>simp[RV]
   |some x =>
    obtain⟨v,h1,h2⟩:=hv.get t ha
    have htl:=(List.getElem?_eq_some_iff.1 h1).1
    simp only[Option.getD_some]
    rw[Array.getD_eq_getD_getElem?,Array.getElem?_append_left (by simpa using htl)]
    simp only[List.getElem?_toArray,h1,Option.getD_some]
    exact h2
 have hR:=RK.of_R (pf:=pf) (k:=[.code c]) ⟨hok,trivial⟩ (h w S hg) (by simp) _ _ hs
 refine wpIn_mono hR ?_
 intro e a' w' hk
 cases e<;>exact hk
end
end PSL
namespace PSL
open Go Go.RowKit

theorem wpIn_loopG {F:Fence}{n:Nat}{P:Program}{Q:Exit→Act→World→Prop}{a:Act}{w:World}{α:Type}{c:Code}(I:α→Act→World→Prop)(μ:α→Nat)(x0:α)(h₀:I x0 a w)
  (round:∀x a w,I x a w→c.wpIn F n P (Exit.then (fun a' w'=>∃y,I y a' w'∧μ y<μ x) Q) a w):(Code.loop c).wpIn F n P Q a w:=by
 intro b k cs hro hb hr
 have key:∀ j x a w,μ x=j→I x a w →
   ∃e a' w',Q e a' w'∧ArrivesIn (Machine.fenced P F) P (lone (b.atR a (.code c :: .inLoop c::k)) cs w) b k cs e a' w':=by
  intro j
  induction j using Nat.strongRecOn with
  |_ j ih =>
   intro x a w hn hI
   obtain⟨e,a₁,w₁,hq,harr⟩:=round x a w hI b (.inLoop c::k) cs hro hb hr
   cases e with
   |normal =>
    obtain⟨y,hI₁,hlt⟩:=hq
    obtain⟨e₂,a₂,w₂,hq₂,harr₂⟩:=ih (μ y) (hn ▸ hlt) y a₁ w₁ rfl hI₁
    exact⟨e₂,a₂,w₂,hq₂,.of_steps (StepsIn.trans harr (.one (fenced_calm hb hr rfl) stepR_inLoop)) harr₂⟩
   |exit id=>exact⟨_,a₁,w₁,hq,.pass (x:=.inLoop c) rfl (fun _ _=>.inl (by simp)) harr⟩
   |goto l=>exact⟨_,a₁,w₁,hq,.pass (x:=.inLoop c) rfl (fun _ _=>.inl (by simp)) harr⟩
   |ret=>exact⟨_,a₁,w₁,hq,.pass (x:=.inLoop c) rfl (fun _ _=>.inl (by simp)) harr⟩
   |panic ch=>exact⟨_,a₁,w₁,hq,.pass (x:=.inLoop c) rfl (fun _ _=>.inl (by simp)) harr⟩
   |outgrown=>exact⟨_,a₁,w₁,hq,.pass (x:=.inLoop c) rfl (fun _ _=>.inl (by simp)) harr⟩
 obtain⟨e,a',w',hq,harr⟩:=key _ x0 a w rfl h₀
 exact⟨e,a',w',hq,.of_steps (.one (fenced_calm hb hr rfl) stepR_loop) harr⟩
section
variable {g:G} {pf:Nat→Cls} {ops:Array Oper} {Fin:Exit→Act→World→Prop}

theorem LocOp.up {o:Oper}{E:Env}{objs:List Ob}{c:Cls}{v:AV}(h:LocOp g ops o E objs .still v objs):LocOp g ops o E objs c v objs :=
 ⟨fun _=>rfl,fun _ _ _=>.refl _,fun E₁ o₁ o₁' a w h1 h2 h3=>h.step E₁ o₁ o₁' a w h1 (by
  rcases h2 with ⟨_,h⟩ |⟨_,_,_,h⟩ |⟨h,h'⟩
  ·exact .inl ⟨rfl,h⟩
  ·exact .inl ⟨rfl,h⟩
  ·exact .inl ⟨rfl,by rw[h,h']⟩) h3⟩

theorem R_op {o:Oper}{r:List Oper}{k:List It}{E:Env}{objs objs':List Ob}{v:AV}(h:LocOp g ops o E objs (clsOf pf o.op) v objs')(hr:R g pf Fin (.dr ops r::k) (putO E o.dst v) objs') :
  R g pf Fin (.dr ops (o::r)::k) E objs:=fun ho=>⟨v,objs',h,hr ho⟩

theorem R_call (hg:GOk g){f:Nat}{axs:List AV}{r:AV}(hc:PCtr g.P f axs r){dst:Option Nat}{x:Operand}{args:Array Operand}{ts:Array Nat}{ty:Nat}{pos:String}{after:Array Edge}{gd:Option (Nat × Bool)}
  {rest:List Oper} {k:List It} {E:Env} {objs:List Ob} {fs cs:List AV}
  (hgd:guardA ops.toList E gd=some true) (hd:dstOk ⟨g.ty,g.N⟩ dst=true) (hx:ev E x=.clo f fs cs) (has:(fs++args.toList.map (ev E)++cs).map nrm=axs) (hpa:pureL axs=true) (hpr:pureA r=true)
  (hr:R g pf Fin (.dr ops rest::k) (putO E dst r) objs) :
  R g pf Fin (.dr ops (⟨dst,.call { callee:=.value x,args:=args,argTypes:=ts },ty,pos,after,gd⟩::rest)::k) E objs :=
 R_op (LocOp.up (loc_call hg (guardA_ok hgd) (dstOk_ok hd) rfl hx has hpa hc hpr)) hr

theorem row_ptr {S:Nat→Prop}{w:World}{rows:List (List D)}{v:Value}(h:Rd S w (.sl rows) v){i:Nat}{row:List D}(hi:rows[i]? = some row) :
  ∃b o cap,v=.slice (some ⟨b,o,none⟩) rows.length cap∧Rd S w (.ptr row) (.pointer (some ⟨b,o+i * row.length,none⟩)):=by
 cases h with
 |nil a c=>simp at hi
 |@sl _ b o cap sz cs T fr g hS hb hl hc hsz hg hr =>
  refine⟨b,o,cap,rfl,?_⟩
  have:=hsz i row hi
  rw[this]
  exact .ptr (fun j=>g i j) hS hb (fun j x hj=>hg i row j x hi hj) (fun j x hj=>hr i row j x hi hj)

theorem R_index (hg:GOk g){dst:Option Nat}{T:Nat}{x i:Operand}{ty:Nat}{pos:String}{after:Array Edge}{gd:Option (Nat × Bool)}{rest:List Oper}{k:List It}{E:Env}{objs:List Ob}
  {rows:List (List D)} {n:Int} {row:List D} {sz by_ e:Nat} {z:List Value} {τ:Ty}
  (hgd:guardA ops.toList E gd=some true) (hd:dstOk ⟨g.ty,g.N⟩ dst=true) (hx:nrm (ev E x)=.d (.sl rows)) (hi:ev E i=.d (.v (.int .i64 n))) (hT:g.ty T=some ⟨sz,by_,z,.slice e⟩) (he:g.ty e=some τ)
  (h0:0≤n) (hrow:rows[n.toNat]? = some row) (hsz:row.length=τ.size)
  (hr:R g pf Fin (.dr ops rest::k) (putO E dst (.d (.ptr row))) objs):R g pf Fin (.dr ops (⟨dst,.indexAddr T x i,ty,pos,after,gd⟩::rest)::k) E objs:=by
 refine R_op (LocOp.up ?_) hr
 refine .of_out hg (guardA_ok hgd) (dstOk_ok hd) (by simp) (fun _=>rfl) (fun _ _ _=>.refl _) fun φ o₁ o₁' a w E₁ hent hv ho hs=>?_
 have e:o₁'=o₁:=by
  rcases ho with ⟨_,h⟩ |⟨_,_,_,h⟩ |⟨h,h'⟩
  ·exact h
  ·exact h
  ·rw[h,h']
 subst e
 have hρ:=rv_restr (l:=Oper.looksAt ops ⟨dst,.indexAddr T x i,ty,pos,after,gd⟩) hent hv
 have hev:∀y∈([x,i]:List Operand),restr (Oper.looksAt ops ⟨dst,.indexAddr T x i,ty,pos,after,gd⟩) E y=ev E y:=fun y hy=>by
  cases y with
  |tmp t=>simp[restr,ev,mem_looks (ops:=ops) (o:=⟨dst,.indexAddr T x i,ty,pos,after,gd⟩) (t:=t) (by simpa[Op.operands]using hy)]
  |_=>rfl
 have hxv:=Ent.nrm _ _ _ _ _ (hρ x)
 rw[hev x (by simp),hx]at hxv
 have hiv:=hρ i
 rw[hev i (by simp),hi]at hiv
 simp only[RV]at hxv hiv
 generalize hvi:a.eval i=vi at hiv
 cases hiv
 obtain⟨b,o,cap,hvx,hrd⟩:=row_ptr hxv hrow
 have hlt:n.toNat<rows.length:=(List.getElem?_eq_some_iff.1 hrow).1
 have hsl:=(hg.ty _ _ hT).sh
 simp only[ShFact]at hsl
 refine out_val hs (vv:=.pointer (some ⟨b,o+n.toNat * row.length,none⟩)) ?_ (by simp only[RV];exact hrd)
 have hrun:(Instr.indexAt T (a.eval x) (a.eval i)).run g.P w=.ok (.pointer (some ⟨b,o+n.toNat * row.length,none⟩)) w:=by
  simp only[Instr.indexAt,hvx,hvi,asIntOf,underlying,Sem.run_bind,Sem.run_pure,run_program,Result.andThen_ok,hsl]
  rw[Sem.run_ite,if_pos ⟨h0,by omega⟩]
  simp only[Sem.run_bind,run_sizeOf (hg.ty _ _ he),Result.andThen_ok,Sem.run_pure,add_none,hsz]
 simp only[execOp,Sem.run_bind,hrun,Result.andThen_ok,Sem.run_pure]

theorem R_loop {α:Type}(st:α→Env × List Ob)(inv:α→Prop)(μ:α→Nat)(x0:α){b:Code}{k:List It}{E:Env}{objs:List Ob}
  (h0:inv x0) (hE:EnvIn E (st x0).1) (hO:objs=(st x0).2)
  (hround:∀x,inv x→R g pf Fin (.code b :: .mark (fun E' objs'=>∃y,inv y∧μ y<μ x∧EnvIn E' (st y).1∧objs'=(st y).2)::k) (st x).1 (st x).2) :
  R g pf Fin (.code (.loop b)::k) E objs:=by
 rintro⟨ho1,ho⟩ a w hs
 simp only[codeOk]at ho1
 subst hO
 simp only[KP]
 refine wpIn_loopG (fun x a w=>inv x∧Sat g (st x).1 (st x).2 a w) μ x0 ⟨h0,hs.ent hE.eent⟩ fun x a w hx=>?_
 have h1:=RK.of_R (pf:=pf) (k:=.code b :: .mark (fun E' objs'=>∃y,inv y∧μ y<μ x∧EnvIn E' (st y).1∧objs'=(st y).2)::k) ⟨ho1,ho⟩ (hround x hx.1) (by simp) a w hx.2
 refine wpIn_mono h1 fun e a' w' hk=>?_
 cases e<;>first
  |exact hk
  | (obtain ⟨E',objs',⟨y,h2,h3,h4,h5⟩,h6⟩:=hk
     subst h5
     exact⟨y,⟨h2,h6.ent h4.eent⟩,h3⟩)
theorem R_mark {M:Env→List Ob→Prop}{k:List It}{E:Env}{objs:List Ob}(h:M E objs):R g pf Fin (.mark M::k) E objs:=fun _ _ _ hs=>⟨E,objs,h,hs⟩

theorem R_next {α:Type}{st:α→Env × List Ob}{inv:α→Prop}{μ:α→Nat}{x:α}{k:List It}{E:Env}{objs:List Ob}(y:α)(h1:inv y)(h2:μ y<μ x)(h3:EnvIn E (st y).1)(h4:objs=(st y).2) :
  R g pf Fin (.mark (fun E' objs'=>∃y,inv y∧μ y<μ x∧EnvIn E' (st y).1∧objs'=(st y).2)::k) E objs:=R_mark ⟨y,h1,h2,h3,h4⟩
end
end PSL
namespace PSL
open Go Go.RowKit

theorem bls_set {φ:List Phy}{i:Nat}{p:Phy}{b:Nat}(h:bls (φ.set i p) b):(∃j q,j≠i∧φ[j]? = some q∧q.bl b)∨p.bl b:=by
 obtain⟨j,q,h1,h2⟩:=h
 by_cases hj:i=j
 ·subst hj
  rw[List.getElem?_set]at h1
  simp only[if_true]at h1
  split at h1
  ·cases h1;exact .inr h2
  ·cases h1
 ·rw[List.getElem?_set_ne hj]at h1;exact .inl ⟨j,q,fun e=>hj e.symm,h1,h2⟩

theorem Stp.swap {S0:Nat→Prop}{φ:List Phy}{objs:List Ob}{w w':World}{i:Nat}{p p':Phy}{ob':Ob}(h:HS S0 φ objs w)(hi:φ[i]? = some p)(hle:PhLe p p')(hsz:w.heap.size≤w'.heap.size)
  (hk:∀c,c<w.heap.size→¬ p.bl c→w'.heap[c]? = w.heap[c]?) (hbl:∀b,p'.bl b→p.bl b∨(w.heap.size≤b∧b<w'.heap.size)) (hos:w'.os=w.os) (htape:w'.tape=w.tape) (hout:w'.output=w.output)
  (hok:Keep (SS S0 φ) w (SS S0 (φ.set i p')) w'→PhsLe φ (φ.set i p')→ObOk (SS S0 (φ.set i p')) w' (φ.set i p') p' ob') (hx:∀l I B,p'=Phy.ext l I B→∃B0,p=Phy.ext l I B0:=by intro _ _ _ h;cases h):Stp S0 φ w (φ.set i p') (objs.set i ob') w':=by
 have hlt:i<φ.length:=(List.getElem?_eq_some_iff.1 hi).1
 have hkeep:Keep (SS S0 φ) w (SS S0 (φ.set i p')) w':=.of fun b hb hbs=>by
  have hpb:¬ p.bl b:=fun e=>hb.2 ⟨i,p,hi,e⟩
  refine⟨⟨hb.1,fun hc=>?_⟩,hk b hbs hpb⟩
  rcases bls_set hc with ⟨j,q,_,h1,h2⟩ |h1
  ·exact hb.2 ⟨j,q,h1,h2⟩
  ·rcases hbl b h1 with h2 | h2
   ·exact hpb h2
   ·omega
 have hle':PhsLe φ (φ.set i p'):=fun j q hj=>by
  by_cases hji:i=j
  ·subst hji
   rw[hi]at hj;cases hj
   exact⟨p',by simp[hlt],hle⟩
  ·exact⟨q,by rw[List.getElem?_set_ne hji];exact hj,.inl rfl⟩
 refine⟨⟨by simp[h.len],?_,?_,?_,fun b hb=>h.up b (by omega)⟩,hkeep,hle',hsz,hos,htape,hout,fun b hb hn=>hk b hb fun e=>hn ⟨i,p,hi,e⟩,?_,?_⟩
 ·intro j ph ob h1 h2
  by_cases hji:i=j
  ·subst hji
   have hl2:i<objs.length:=by rw[← h.len];exact hlt
   simp[hlt]at h1;simp[hl2]at h2
   subst h1;subst h2
   exact hok hkeep hle'
  ·rw [List.getElem?_set_ne hji] at h1 h2
   refine(h.ok j ph ob h1 h2).mono hkeep hle' hsz fun b hb=>hk b (h.lt b ⟨j,ph,h1,hb⟩) fun e=>hji (h.dist i j p ph b hi h1 e hb)
 ·have key:∀ (j:Nat) (q:Phy) (b:Nat),(φ.set i p')[j]? = some q→q.bl b→(j=i∧q=p')∨(j≠i∧φ[j]? = some q):=fun j q b h1 _=>by
   by_cases hji:i=j
   ·subst hji;simp[hlt]at h1;exact .inl ⟨rfl,h1.symm⟩
   ·rw[List.getElem?_set_ne hji]at h1;exact .inr ⟨fun e=>hji e.symm,h1⟩
  intro j k q r b h1 h2 h3 h4
  rcases key j q b h1 h3 with ⟨rfl,rfl⟩ |⟨g1,g2⟩<;>rcases key k r b h2 h4 with ⟨g3,g4⟩ |⟨g3,g4⟩
  ·exact g3.symm
  ·rcases hbl b h3 with h5 | h5
   ·exact h.dist _ _ _ _ _ hi g4 h5 h4
   ·have:=h.lt b ⟨k,r,g4,h4⟩;omega
  ·subst g3; subst g4
   rcases hbl b h4 with h5 |h5
   ·exact h.dist _ _ _ _ _ g2 hi h3 h5
   ·have:=h.lt b ⟨j,q,g2,h3⟩;omega
  ·exact h.dist _ _ _ _ _ g2 g4 h3 h4
 ·intro b hb
  rcases bls_set hb with ⟨j,q,_,h1,h2⟩ |h1
  ·have:=h.lt b ⟨j,q,h1,h2⟩;omega
  ·rcases hbl b h1 with h2 | h2
   ·have:=h.lt b ⟨i,p,hi,h2⟩;omega
   ·exact h2.2
 ·intro b hb
  rcases bls_set hb with ⟨j,q,_,h1,h2⟩ |h1
  ·exact .inl ⟨j,q,h1,h2⟩
  ·rcases hbl b h1 with h2 | h2
   ·exact .inl ⟨i,p,hi,h2⟩
   ·exact .inr h2.1
 ·intro j l I B hj
  by_cases hji:i=j
  ·subst hji
   rw[List.getElem?_set_self hlt]at hj
   simp only[Option.some.injEq]at hj
   obtain⟨B0,h0⟩:=hx l I B hj
   exact⟨B0,by rw[hi,h0]⟩
  ·rw[List.getElem?_set_ne hji]at hj;exact⟨B,hj⟩

theorem Stp.add {S0:Nat→Prop}{φ:List Phy}{objs:List Ob}{w w':World}{p:Phy}{ob:Ob}(h:HS S0 φ objs w)(hsz:w.heap.size≤w'.heap.size)
  (hk:∀c,c<w.heap.size→w'.heap[c]? = w.heap[c]?) (hbl:∀b,p.bl b→w.heap.size≤b∧b<w'.heap.size) (hos:w'.os=w.os) (htape:w'.tape=w.tape) (hout:w'.output=w.output)
  (hok:Keep (SS S0 φ) w (SS S0 (φ++[p])) w'→ObOk (SS S0 (φ++[p])) w' (φ++[p]) p ob) (hx:∀l I B,p≠Phy.ext l I B:=by intro _ _ _ h;cases h):Stp S0 φ w (φ++[p]) (objs++[ob]) w':=by
 have hkeep:Keep (SS S0 φ) w (SS S0 (φ++[p])) w':=.of fun b hb hbs=>⟨⟨hb.1,fun hc=>by
  rcases bls_app.1 hc with hc |hc
  ·exact hb.2 hc
  ·have:=hbl b hc;omega⟩,hk b hbs⟩
 refine⟨⟨by simp[h.len],?_,dist_app h.dist fun b hb hc=>by have:=h.lt b hc;have:=hbl b hb;omega,fun b hb=>?_,fun b hb=>h.up b (by omega)⟩,hkeep,.app _ _,hsz,hos,htape,hout,fun b hb _=>hk b hb,fun b hb=>?_,fun _ _ _ B h=>⟨B,ext_app hx h⟩⟩
 ·intro i ph ob' h1 h2
  rcases Nat.lt_or_ge i φ.length with hi |hi
  ·rw [List.getElem?_append_left hi] at h1
   rw[List.getElem?_append_left (by rw[← h.len];exact hi)]at h2
   exact(h.ok i ph ob' h1 h2).mono hkeep (.app _ _) hsz fun b hb=>hk b (h.lt b ⟨i,ph,h1,hb⟩)
  ·rw [List.getElem?_append_right hi] at h1
   rw[List.getElem?_append_right (by rw[← h.len];exact hi)]at h2
   have:i - φ.length=0:=by
    rcases Nat.eq_zero_or_pos (i - φ.length) with h |h
    ·exact h
    ·rw[List.getElem?_eq_none (by simp;omega)]at h1;cases h1
   rw[this]at h1;rw[← h.len,this]at h2;simp at h1 h2;subst h1;subst h2
   exact hok hkeep
 ·rcases bls_app.1 hb with hb | hb
  ·have:=h.lt b hb;omega
  ·exact(hbl b hb).2
 ·rcases bls_app.1 hb with hb | hb
  ·exact .inl hb
  ·exact .inr (hbl b hb).1

structure Fst (P:Program) (S:Nat→Prop) (w:World) (sz:Nat) (rows:List (List D)) (v:Value) (cells:List Value):Prop where
 sl:∃a c,v=.slice a rows.length c
 run:∀w',w'.heap=w.heap→(Builtin.firstCells sz rows.length v).run P w'=.ok cells.toArray w'
 len:cells.length=rows.length * sz
 rd:∀ (i:Nat) (r:List D) (j:Nat) (x:D),rows[i]? = some r→r[j]? = some x→∃y,cells[i * sz+j]? = some y∧Rd S w x y

theorem divMod_of {k n sz:Nat}(h:k<n * sz):k / sz<n∧k % sz<sz∧k / sz * sz+k % sz=k:=by
 have hz:0<sz:=by
  rcases Nat.eq_zero_or_pos sz with h0 |h0
  ·subst h0;simp at h
  ·exact h0
 refine⟨(Nat.div_lt_iff_lt_mul hz).2 h,Nat.mod_lt _ hz,?_⟩
 rw[Nat.mul_comm];exact Nat.div_add_mod k sz

theorem Fst.of_at {P:Program}{S:Nat→Prop}{w:World}{sz b o cap T:Nat}{cs:Array Value}{fr:Nat × Nat}{rows:List (List D)}(hb:w.heap[b]? = some (.cells cs T fr))(hsz:∀r∈rows,r.length=sz)
  (hg:∀ (i:Nat) (r:List D) (j:Nat) (x:D),rows[i]? = some r→r[j]? = some x→∃y,cs[o+i * sz+j]? = some y∧Rd S w x y) :
  Fst P S w sz rows (.slice (some ⟨b,o,none⟩) rows.length cap) ((List.range (rows.length * sz)).map fun k=>(cs[o+k]?).getD undef):=by
 have hcell:∀k,k<rows.length * sz→∃y,cs[o+k]? = some y:=fun k hk=>by
  obtain⟨h1,h2,h3⟩:=divMod_of hk
  have hr:rows[k / sz]? = some (rows[k / sz]):=List.getElem?_eq_getElem h1
  have hl:=hsz _ (List.getElem_mem h1)
  obtain⟨y,hy,_⟩:=hg (k / sz) _ (k % sz) _ hr (List.getElem?_eq_getElem (by rw[hl];exact h2))
  exact⟨y,by rw[show o+k=o+k / sz * sz+k % sz by omega];exact hy⟩
 refine⟨⟨_,_,rfl⟩,fun w' hw=>?_,by simp,fun i r j x hi hj=>?_⟩
 ·refine run_firstCells_some w' sz rows.length ⟨b,o,none⟩ _ _ _ (by simp) fun j v hj=>?_
  rw[List.getElem?_map]at hj
  have hlt:j<rows.length * sz:=by
   by_cases h:j<rows.length * sz
   ·exact h
   ·rw[List.getElem?_eq_none (by simpa using h)]at hj;cases hj
  rw[List.getElem?_range hlt]at hj
  obtain⟨y,hy⟩:=hcell j hlt
  simp only[Option.map_some,hy,Option.getD_some,Option.some.injEq]at hj
  subst hj
  rw[add_none]
  simp[World.cell?,hw,hb,hy]
 ·have hil:=(List.getElem?_eq_some_iff.1 hi).1
  have hrl:=hsz r (List.mem_of_getElem? hi)
  have hjl:=(List.getElem?_eq_some_iff.1 hj).1
  have hlt:i * sz+j<rows.length * sz:=by
   have:(i+1) * sz≤rows.length * sz:=Nat.mul_le_mul_right _ hil
   rw[Nat.succ_mul]at this;omega
  obtain⟨y,hy,hrd⟩:=hg i r j x hi hj
  refine⟨y,?_,hrd⟩
  rw[List.getElem?_map,List.getElem?_range hlt]
  simp[← Nat.add_assoc,hy]

theorem Fst.empty {P:Program}{S:Nat→Prop}{w:World}{sz c:Nat}{a:Option Addr}:Fst P S w sz [] (.slice a 0 c) []:=by
 refine⟨⟨_,_,rfl⟩,fun w' _=>?_,by simp,by simp⟩
 cases a with
 |none=>exact run_firstCells_none w' sz _ _ _
 |some a=>exact run_firstCells_some w' sz 0 a 0 c [] (by simp) (by simp)

theorem Fst.of_rd {P:Program}{S:Nat→Prop}{w:World}{sz:Nat}{rows:List (List D)}{v:Value}(h:Rd S w (.sl rows) v)(hsz:∀r∈rows,r.length=sz):∃cells,Fst P S w sz rows v cells:=by
 cases h with
 |nil a c=>exact⟨[],.empty⟩
 |@sl _ b o cap sz' cs T fr g hS hb hl hc hsz' hg hr =>
  refine⟨_,Fst.of_at hb hsz fun i r j x hi hj=>⟨g i j,?_,hr i r j x hi hj⟩⟩
  have:sz'=sz:=by rw[← hsz' i r hi,hsz r (List.mem_of_getElem? hi)]
  rw[← this];exact hg i r j x hi hj

theorem Fst.of_ob {P:Program}{S:Nat→Prop}{φ:List Phy}{w:World}{sz s:Nat}{rows:List (List D)}{v:Value}{ob:Option Nat}{sz' s':Nat}(h:ObOk S w φ (.sli sz s v ob) (.arr sz' s' rows)):∃cells,Fst P S w sz rows v cells:=by
 simp only[ObOk]at h
 obtain⟨_,_,hsz,h⟩:=h
 rcases h with ⟨a,rfl,rfl,_⟩ |⟨b,o,cap,cs,T,rfl,_,hb,_,_,_,hrd⟩
 ·exact⟨[],.empty⟩
 ·exact⟨_,Fst.of_at hb hsz fun i r j x hi hj=>by obtain⟨y,h1,h2⟩:=hrd i r j x hi hj;exact⟨y,by simpa using h1,h2⟩⟩

theorem Fst.one {P:Program}{S:Nat→Prop}{w:World}{sz:Nat}{rows:List (List D)}{v:Value}{cells:List Value}(h:Fst P S w sz rows v cells)(hsz:∀r∈rows,r.length=sz)(h1:∀r∈rows,∀x∈r,one1 (.d x)=true) :
  ∀c∈cells,c.oneCell'=true:=by
 intro c hc
 obtain⟨k,hk⟩:=List.mem_iff_getElem?.1 hc
 have hlt:=(List.getElem?_eq_some_iff.1 hk).1
 rw[h.len]at hlt
 obtain⟨g1,g2,g3⟩:=divMod_of hlt
 have hl:=hsz _ (List.getElem_mem g1)
 have hx:(rows[k / sz])[k % sz]? = some (rows[k / sz][k % sz]'(by rw[hl];exact g2)):=List.getElem?_eq_getElem _
 obtain⟨y,hy,hrd⟩:=h.rd (k / sz) _ (k % sz) _ (List.getElem?_eq_getElem g1) hx
 rw[g3,hk]at hy;cases hy
 exact(one1_val (φ:=[]) (x:=.d _) (by simp only[RV];exact hrd) (h1 _ (List.getElem_mem g1) _ (List.getElem_mem _))).1
section
variable {P:Program} {w:World} {T T' tr e e':Nat} {τ:Ty}

theorem run_app_room (hT:P.underlying T=some (.slice e))(hT':P.underlying T'=some (.slice e'))(he:TyFact P e τ){b o n cap m:Nat}{x:Value}{xa:Option Addr}{xc:Nat}(hx:x=.slice xa m xc){news:List Value}
  (hn:(Builtin.firstCells τ.size m x).run P w=.ok news.toArray w) (hnl:news.length=m * τ.size) (h1:∀c∈news,c.oneCell'=true) {cs:List Value} {Tb:Nat} (hb:w.heap[b]? = some (.cells cs.toArray Tb (0,0))) (hfit:n+m≤cap) (hle:o+cap * τ.size≤cs.length) :
  ∃w',(Builtin.append_ #[T,T'] tr #[.slice (some ⟨b,o,none⟩) n cap,x]).run P w=.ok (.slice (some ⟨b,o,none⟩) (n+m) cap) w'∧Stored w w' b Tb (splice cs (o+n * τ.size) news):=by
 have hmul:(n+m) * τ.size≤cap * τ.size:=Nat.mul_le_mul_right _ hfit
 rw[Nat.add_mul]at hmul
 obtain⟨w',h2,h3⟩:=run_storeCells (P:=P) news 0 (o+n * τ.size) w cs hb h1 (by omega)
 obtain⟨i,z,hi1,hi2,hi3,hi4,_⟩:=he.info
 refine⟨w',?_,by simpa using h3⟩
 subst hx
 simp[Builtin.append_,Builtin.lenOf,run_underlying hT,run_underlying hT',run_sizeOf he,hfit,hn,add_none,h2]

theorem run_app_none (hT:P.underlying T=some (.slice e))(hT':P.underlying T'=some (.slice e'))(he:TyFact P e τ){a:Option Addr}{n cap:Nat}{x:Value}{xa:Option Addr}{xc:Nat}(hx:x=.slice xa 0 xc)
  (hn:(Builtin.firstCells τ.size 0 x).run P w=.ok #[] w) (hc:n≤cap) :
  (Builtin.append_ #[T,T'] tr #[.slice a n cap,x]).run P w=.ok (.slice a n cap) w:=by
 subst hx
 cases a<;>simp[Builtin.append_,run_underlying hT,run_underlying hT',run_sizeOf he,Builtin.lenOf,hn,hc,storeCells]

theorem run_app_grow (hT:P.underlying T=some (.slice e))(hT':P.underlying T'=some (.slice e'))(he:TyFact P e τ){a:Option Addr}{n cap m:Nat}{x:Value}{xa:Option Addr}{xc:Nat}(hx:x=.slice xa m xc){olds news:List Value}
  (ho:∀w',w'.heap=w.heap→(Builtin.firstCells τ.size n (.slice a n cap)).run P w'=.ok olds.toArray w') (hn:∀w',w'.heap=w.heap→(Builtin.firstCells τ.size m x).run P w'=.ok news.toArray w')
  (hg:cap<n+m) (hbytes:(n+m) * τ.bytes≤140737488355328) (hmax:n+m≤maxLen) :
  ∃ (zs:List Value) (cap':Nat),n+m≤cap'∧cap'≤maxLen∧zs.length=(cap' - (n+m)) * τ.size ∧
   (Builtin.append_ #[T,T'] tr #[.slice a n cap,x]).run P w=.ok (.slice (some ⟨w.heap.size,0,none⟩) (n+m) cap') (w.drew.alloc (.cells (olds++news++zs).toArray e)):=by
 obtain⟨i,z,hi1,hi2,hi3,hi4,hi5⟩:=he.info
 have hzs:z.cells.size=τ.size:=by have:=he.zl;rw[← hi5]at this;simpa using this
 refine⟨(Builtin.zeroCells z.cells (grownCap w (n+m) cap e - (n+m))).toList,grownCap w (n+m) cap e,grownCap_ge w _ _ _,grownCap_le_maxLen w _ _ _ hmax,?_,?_⟩
 ·rw[Array.length_toList,size_zeroCells,hzs]
 ·subst hx
  have h1:¬ (n+m≤cap):=by omega
  have h2:¬ (9223372036854775807<((n:Int)+(m:Int))):=by simp only[maxLen]at hmax;omega
  have h3:¬ (281474976710656<Builtin.nextslicecap (n+m) cap * i.bytes):=by
   have:=growslice_fits hg hbytes
   rw[hi4];omega
  have hn':=hn w.drew rfl
  have ho':=ho w.drew rfl
  simp[Builtin.append_,run_underlying hT,run_underlying hT',run_sizeOf he,typeInfo,zeroValue,hi1,hi2,Builtin.lenOf,h1,h2,h3,Question.forced,hn',ho',newRow,grownCap]
  congr 2
  apply Array.ext'
  simp
end
end PSL
namespace PSL
open Go Go.RowKit
section
variable {g:G} {pf:Nat→Cls} {ops:Array Oper} {Fin:Exit→Act→World→Prop}

theorem rv_ops {o:Oper}{E E₁:Env}{S:Nat→Prop}{w:World}{φ:List Phy}{a:Act}(hent:∀t∈o.looksAt ops,Ent (lk E₁ t) (lk E t))(hv:EnvOk S w φ E₁ a) :
  ∀y∈o.op.operands.toList,RV S w φ (ev E y) (a.eval y):=fun y hy=>by
 have h:=rv_restr (l:=o.looksAt ops) hent hv y
 cases y with
 |tmp t=>simpa[restr,ev,mem_looks (ops:=ops) hy]using h
 |_=>exact h

theorem LocOp.effect (hg:GOk g){o:Oper}{E:Env}{objs objs':List Ob}{v:AV}(hgd:guardA ops.toList E o.guard=some true)(hd:dstOk ⟨g.ty,g.N⟩ o.dst=true)(hdef:∀c,o.op≠.defer c)
  (hout:∀ (φ:List Phy) (a:Act) (w:World),(∀y∈o.op.operands.toList,RV (SS g.S0 φ) w φ (ev E y) (a.eval y))→HS g.S0 φ objs w→Out g.P (execOp a.eval o) g.S0 φ w v objs'):LocOp g ops o E objs .eff v objs':=by
 refine .of_out hg (guardA_ok hgd) (dstOk_ok hd) hdef (fun h=>absurd rfl (h _)) (fun b h hb=>by cases h;omega) fun φ o₁ o₁' a w E₁ hent hv ho hs=>?_
 rcases ho with ⟨h,_⟩ |⟨_,h,_⟩ |⟨rfl,rfl⟩
 ·cases h
 ·cases h
 ·exact hout φ a w (rv_ops hent hv) hs

theorem LocOp.turning (hg:GOk g){o:Oper}{E:Env}{objs objs':List Ob}{v:AV}{b:Nat}(hgr:Gr g.φ0.length b objs objs')(hgd:guardA ops.toList E o.guard=some true)(hd:dstOk ⟨g.ty,g.N⟩ o.dst=true)(hdef:∀c,o.op≠.defer c)
  (hout:∀ (φ:List Phy) (a:Act) (w:World),(∀y∈o.op.operands.toList,RV (SS g.S0 φ) w φ (ev E y) (a.eval y))→HS g.S0 φ objs w→Out g.P (execOp a.eval o) g.S0 φ w v objs'):LocOp g ops o E objs (.turn b) v objs':=by
 refine .of_out hg (guardA_ok hgd) (dstOk_ok hd) hdef (fun h=>absurd rfl (h _)) (fun b' h _=>by cases h;exact hgr) fun φ o₁ o₁' a w E₁ hent hv ho hs=>?_
 rcases ho with ⟨h,_⟩ |⟨_,h,_⟩ |⟨rfl,rfl⟩
 ·cases h
 ·cases h
 ·exact hout φ a w (rv_ops hent hv) hs

theorem LocOp.lookingM (hg:GOk g){o:Oper}{E:Env}{objs:List Ob}{v:AV}(m:Nat)(hgd:guardA ops.toList E o.guard=some true)(hd:dstOk ⟨g.ty,g.N⟩ o.dst=true)(hdef:∀c,o.op≠.defer c)
  (hout:∀ (φ:List Phy) (a:Act) (w:World) (objs₁:List Ob),(Gr g.φ0.length m objs₁ objs∨Gr g.φ0.length m objs objs₁)→(∀y∈o.op.operands.toList,RV (SS g.S0 φ) w φ (ev E y) (a.eval y))→HS g.S0 φ objs₁ w→Out g.P (execOp a.eval o) g.S0 φ w v objs₁):LocOp g ops o E objs (.look (m+1)) v objs:=by
 refine .of_out hg (guardA_ok hgd) (dstOk_ok hd) hdef (fun _=>rfl) (fun _ _ _=>.refl _) fun φ o₁ o₁' a w E₁ hent hv ho hs=>?_
 rcases ho with ⟨h,_⟩ |⟨m',h,hgr,rfl⟩ |⟨rfl,rfl⟩
 ·cases h
 ·cases h;exact hout φ a w o₁' hgr (rv_ops hent hv) hs
 ·exact hout φ a w o₁' (.inl (.refl _)) (rv_ops hent hv) hs

theorem LocOp.quiet (hg:GOk g){o:Oper}{E:Env}{objs:List Ob}{v:AV}{c:Cls}(hgd:guardA ops.toList E o.guard=some true)(hd:dstOk ⟨g.ty,g.N⟩ o.dst=true)(hdef:∀c,o.op≠.defer c)
  (hout:∀ (φ:List Phy) (objs:List Ob) (a:Act) (w:World),(∀y∈o.op.operands.toList,RV (SS g.S0 φ) w φ (ev E y) (a.eval y))→HS g.S0 φ objs w→Out g.P (execOp a.eval o) g.S0 φ w v objs):LocOp g ops o E objs c v objs:=by
 refine .of_out hg (guardA_ok hgd) (dstOk_ok hd) hdef (fun _=>rfl) (fun _ _ _=>.refl _) fun φ o₁ o₁' a w E₁ hent hv ho hs=>?_
 have e:o₁'=o₁:=by
  rcases ho with ⟨_,h⟩ |⟨_,_,_,h⟩ |⟨h,h'⟩
  ·exact h
  ·exact h
  ·rw[h,h']
 subst e
 exact hout φ o₁' a w (rv_ops hent hv) hs

theorem und_slice {T sz by_ e:Nat}{z:List Value}(hg:GOk g)(h:g.ty T=some ⟨sz,by_,z,.slice e⟩):g.P.underlying T=some (.slice e):=by
 have:=(hg.ty _ _ h).sh
 simpa only[ShFact]using this
theorem heap_drew_new {w:World}{o:Obj}:(w.drew.alloc o).heap[w.heap.size]? = some o:=heap_alloc_new w.drew o
theorem heap_drew_old {w:World}{o:Obj}{b:Nat}(h:b<w.heap.size):(w.drew.alloc o).heap[b]? = w.heap[b]? := heap_alloc_lt (w:=w.drew) h

theorem take_rows {olds news zs:List Value}{k:Nat}{y:Value}(h:(olds++news)[k]? = some y):(olds++news++zs)[k]? = some y:=by
 rw[List.getElem?_append_left (List.getElem?_eq_some_iff.1 h).1];exact h

theorem rows_app {S S':Nat→Prop}{w w':World}{P:Program}{sz:Nat}{rows news:List (List D)}{v x:Value}{olds cells:List Value}(h1:Fst P S w sz rows v olds)(h2:Fst P S w sz news x cells)(hk:Keep S w S' w') :
  ∀ (i:Nat) (r:List D) (j:Nat) (x:D),(rows++news)[i]? = some r→r[j]? = some x→r.length=sz→∃y,(olds++cells)[i * sz+j]? = some y∧Rd S' w' x y:=by
 intro i r j x hi hj hl
 have hjl:=(List.getElem?_eq_some_iff.1 hj).1
 rcases Nat.lt_or_ge i rows.length with h |h
 ·rw [List.getElem?_append_left h] at hi
  obtain⟨y,h3,h4⟩:=h1.rd i r j x hi hj
  refine⟨y,?_,h4.mono hk⟩
  rw[List.getElem?_append_left (List.getElem?_eq_some_iff.1 h3).1];exact h3
 ·rw [List.getElem?_append_right h] at hi
  obtain⟨y,h3,h4⟩:=h2.rd _ r j x hi hj
  refine⟨y,?_,h4.mono hk⟩
  have h5:rows.length * sz≤i * sz:=Nat.mul_le_mul_right _ h
  rw[List.getElem?_append_right (by rw[h1.len];omega),h1.len,← h3,Nat.sub_mul]
  congr 1;omega

theorem grow_set {n0:Nat}{objs:List Ob}{i sz s sz' s':Nat}{rows rows':List (List D)}(ho:nth objs i=some (.arr sz s rows)):Gr n0 1 objs (setN objs i (.arr sz' s' rows')):=fun j x hj=>by
 rw[nth_eq]at ho
 rw[setN_eq]
 by_cases e:j=i
 ·subst e
  rw[ho]at hj;cases hj
  exact⟨_,List.getElem?_set_self (List.getElem?_eq_some_iff.1 ho).1,.inr ⟨.inl ⟨by omega,Nat.le_refl _⟩,.inl ⟨by omega,Nat.le_refl _⟩⟩⟩
 ·exact⟨x,by rw[List.getElem?_set_ne (fun h=>e h.symm)];exact hj,.inl rfl⟩

theorem R_append (hg:GOk g){dst:Option Nat}{T T':Nat}{x y:Operand}{ty:Nat}{pos:String}{after:Array Edge}{gd:Option (Nat × Bool)}{rest:List Oper}{k:List It}{E:Env}{objs:List Ob}
  {i s sz q q' by_ by' e e':Nat} {z z':List Value} {τ:Ty} {rows news:List (List D)}
  (hgd:guardA ops.toList E gd=some true) (hd:dstOk ⟨g.ty,g.N⟩ dst=true) (hx:ev E x=.ow i s) (ho:nth objs i=some (.arr sz s rows)) (hy:nrm (ev E y)=.d (.sl news))
  (hT:g.ty T=some ⟨q,by_,z,.slice e⟩) (hT':g.ty T'=some ⟨q',by',z',.slice e'⟩) (he:g.ty e=some τ) (hsz:τ.size=sz) (hlen:∀r∈news,r.length=sz) (hone:∀r∈news,∀x∈r,one1 (.d x)=true)
  (hbytes:(rows.length+news.length) * τ.bytes≤140737488355328) (hmax:rows.length+news.length≤140737488355328)
  (hr:R g pf Fin (.dr ops rest::k) (putO E dst (.ow i (Nat.succ s))) (setN objs i (.arr sz (Nat.succ s) (rows++news)))) :
  R g pf Fin (.dr ops (⟨dst,.call { callee:=.builtin .append,args:=#[x,y],argTypes:=#[T,T'] },ty,pos,after,gd⟩::rest)::k) E objs:=by
 refine R_op (LocOp.turning hg (grow_set ho) hgd hd (by simp) fun φ a w hρ hs=>?_) hr
 simp only[Op.operands,Call.operands]at hρ
 have hxv:=hρ x (by simp)
 rw[hx]at hxv
 have hyv:=Ent.nrm _ _ _ _ _ (hρ y (by simp))
 rw[hy]at hyv
 simp only[RV]at hxv hyv
 obtain⟨_,ph,hph,hxv⟩:=hxv
 have hk:=obj_at hs hph ho
 cases ph<;>try (simp only[ObOk]at hk;done)
 rename_i sz2 s2 v2 ob2
 have hk':=hk
 simp only[ObOk]at hk'
 obtain⟨rfl,rfl,hrl,hk'⟩:=hk'
 have hv:=(hxv _ _ _ _ rfl).2 rfl
 clear hxv
 rw[setN_eq]
 obtain⟨olds,hF⟩:=Fst.of_ob (P:=g.P) hk
 subst hsz
 obtain⟨cells,hN⟩:=Fst.of_rd (P:=g.P) hyv hlen
 have h1:=hN.one hlen hone
 have hτ:=hg.ty _ _ he
 obtain⟨xa,xc,hxs⟩:=hN.sl
 have hall:∀r∈rows++news,r.length=τ.size:=fun r hr=>(List.mem_append.1 hr).elim (hrl r) (hlen r)
 have hmax':rows.length+news.length≤maxLen:=by simp only[maxLen];omega
 have hlt:i<φ.length:=(List.getElem?_eq_some_iff.1 hph).1
 -- the grown slice
 have grow:∀ (a0:Option Addr) (cap:Nat),v2=.slice a0 rows.length cap→cap<rows.length+news.length→Out g.P (execOp a.eval ⟨dst,.call { callee:=.builtin .append,args:=#[x,y],argTypes:=#[T,T'] },ty,pos,after,gd⟩) g.S0 φ w (.ow i (Nat.succ s)) (objs.set i (.arr τ.size (Nat.succ s) (rows++news))):=by
  intro a0 cap hv2 hcap
  subst hv2
  obtain⟨zs,cap',hc1,hc2,hzl,hrun⟩:=run_app_grow (tr:=ty) (und_slice hg hT) (und_slice hg hT') hτ hxs hF.run hN.run hcap hbytes hmax'
  refine⟨.value (.slice (some ⟨w.heap.size,0,none⟩) (rows.length+news.length) cap'),.slice (some ⟨w.heap.size,0,none⟩) (rows.length+news.length) cap',w.drew.alloc (.cells (olds++cells++zs).toArray e),φ.set i (.sli τ.size (Nat.succ s) (.slice (some ⟨w.heap.size,0,none⟩) (rows.length+news.length) cap') (some w.heap.size)),?_,.inl rfl,?_,?_⟩
  ·simp only[execOp,resolve,invoke,builtin,Sem.run_bind,Sem.run_pure,Result.andThen_ok,List.map_toArray,List.map_cons,List.map_nil,hv,hrun]
  ·simp only [RV]
   exact⟨⟨_,_,_,rfl⟩,_,List.getElem?_set_self hlt,fun sz s x ob h=>by cases h;exact⟨Nat.le_refl _,fun _=>rfl⟩⟩
  ·refine Stp.swap hs hph (.inr (.inl ⟨_,_,_,_,_,_,_,_,rfl,rfl,Nat.lt_succ_self _⟩)) (by show w.heap.size≤(w.heap.push _).size; simp) (fun c hc _=>heap_drew_old hc) (fun b hb=>?_) rfl rfl rfl fun hkeep _=>?_
   ·simp only[Phy.bl,Option.some.injEq]at hb;subst hb;exact .inr ⟨Nat.le_refl _,by show w.heap.size<(w.heap.push _).size;simp⟩
   ·simp only [ObOk]
    refine⟨trivial,trivial,hall,.inr ⟨_,0,cap',_,e,by rw[List.length_append],rfl,heap_drew_new,by rw[List.length_append];exact hc1,hc2,?_,?_⟩⟩
    ·simp only [List.length_append,hF.len,hN.len,hzl]
     rw[← Nat.add_mul,← Nat.add_mul]
     have:rows.length+news.length+(cap' - (rows.length+news.length))=cap':=by omega
     rw[this];omega
    ·intro i' r j x' hi hj
     obtain⟨y',h3,h4⟩:=rows_app hF hN hkeep i' r j x' hi hj (hall r (List.mem_of_getElem? hi))
     exact⟨y',by simpa using take_rows h3,h4⟩
 rcases hk' with ⟨a0,rfl,hrows,rfl⟩ |⟨b,o,cap,cs,Tb,rfl,rfl,hheap,hn,hcap,hle,hrd⟩
 ·by_cases hm:news.length=0
  ·have hnews:news=[]:=List.length_eq_zero_iff.1 hm
   subst hnews
   subst hrows
   have hcells:cells=[]:=List.length_eq_zero_iff.1 (by simpa using hN.len)
   subst hcells
   have hrun:=run_app_none (tr:=ty) (und_slice hg hT) (und_slice hg hT') hτ (a:=a0) (n:=0) (cap:=0) hxs (hN.run w rfl) (Nat.le_refl _)
   refine⟨.value (.slice a0 0 0),.slice a0 0 0,w,φ.set i (.sli τ.size (Nat.succ s) (.slice a0 0 0) none),?_,.inl rfl,?_,?_⟩
   ·simp only[execOp,resolve,invoke,builtin,Sem.run_bind,Sem.run_pure,Result.andThen_ok,List.map_toArray,List.map_cons,List.map_nil,hv,hrun]
   ·simp only [RV]
    exact⟨⟨_,_,_,rfl⟩,_,List.getElem?_set_self hlt,fun sz s x ob h=>by cases h;exact⟨Nat.le_refl _,fun _=>rfl⟩⟩
   ·refine Stp.swap hs hph (.inr (.inl ⟨_,_,_,_,_,_,_,_,rfl,rfl,Nat.lt_succ_self _⟩)) (Nat.le_refl _) (fun _ _ _=>rfl) (fun b hb=>by simp [Phy.bl] at hb) rfl rfl rfl fun _ _=>?_
    simp only[ObOk]
    exact⟨trivial,trivial,by simp,.inl ⟨_,rfl,rfl,trivial⟩⟩
  ·subst hrows
   exact grow a0 0 rfl (by simp;omega)
 ·by_cases hroom:rows.length+news.length≤cap
  ·obtain ⟨w',hrun,hst⟩:=run_app_room (tr:=ty) (und_slice hg hT) (und_slice hg hT') hτ hxs (hN.run w rfl) hN.len h1 hheap hroom hle
   refine⟨.value (.slice (some ⟨b,o,none⟩) (rows.length+news.length) cap),.slice (some ⟨b,o,none⟩) (rows.length+news.length) cap,w',φ.set i (.sli τ.size (Nat.succ s) (.slice (some ⟨b,o,none⟩) (rows.length+news.length) cap) (some b)),?_,.inl rfl,?_,?_⟩
   ·simp only[execOp,resolve,invoke,builtin,Sem.run_bind,Sem.run_pure,Result.andThen_ok,List.map_toArray,List.map_cons,List.map_nil,hv,hrun]
   ·simp only [RV]
    exact⟨⟨_,_,_,rfl⟩,_,List.getElem?_set_self hlt,fun sz s x ob h=>by cases h;exact⟨Nat.le_refl _,fun _=>rfl⟩⟩
   ·refine Stp.swap hs hph (.inr (.inl ⟨_,_,_,_,_,_,_,_,rfl,rfl,Nat.lt_succ_self _⟩)) (by rw [hst.size]; exact Nat.le_refl _) (fun c _ hc=>hst.other c fun e=>hc (by rw [e]; rfl)) (fun b' hb=>.inl hb) hst.os hst.tape hst.out fun hkeep _=>?_
    simp only[ObOk]
    refine⟨trivial,trivial,hall,.inr ⟨b,o,cap,_,Tb,by rw[List.length_append],rfl,hst.at_,by rw[List.length_append];exact hroom,hcap,by rw[splice_length];exact hle,?_⟩⟩
    have hmul:(rows.length+news.length) * τ.size≤cap * τ.size:=Nat.mul_le_mul_right _ hroom
    rw[Nat.add_mul]at hmul
    have hsp:∀k,(splice cs (o+rows.length * τ.size) cells)[k]? = if k<o+rows.length * τ.size then cs[k]? else if k<o+rows.length * τ.size+cells.length then cells[k - (o+rows.length * τ.size)]? else cs[k]? := by
     intro k
     have hcl:=hN.len
     have hcat:∀m,m=o+rows.length * τ.size→splice cs m cells=cs.take m++cells++cs.drop (m+cells.length):=fun m hm=>by
      have:=splice_mid cells (cs.take m) ((cs.drop m).take cells.length) (cs.drop (m+cells.length)) (by simp;omega)
      rw[List.length_take,Nat.min_eq_left (by omega)]at this
      rw[List.append_assoc (cs.take m),← List.drop_drop,List.take_append_drop,List.take_append_drop,List.drop_drop]at this
      exact this
     rw[hcat _ rfl]
     have hl1:(List.take (o+rows.length * τ.size) cs).length=o+rows.length * τ.size:=by simp;omega
     split
     ·rw[List.append_assoc,List.getElem?_append_left (by omega),List.getElem?_take_of_lt (by omega)]
     ·split
      ·rw[List.append_assoc,List.getElem?_append_right (by omega),hl1,List.getElem?_append_left (by omega)]
      ·rw [List.getElem?_append_right (by simp; omega),List.length_append,hl1,List.getElem?_drop]
       congr 1;omega
    intro i' r j x' hi hj
    have hrl':=hall r (List.mem_of_getElem? hi)
    have hjl:=(List.getElem?_eq_some_iff.1 hj).1
    rcases Nat.lt_or_ge i' rows.length with h |h
    ·rw [List.getElem?_append_left h] at hi
     obtain⟨y',h3,h4⟩:=hrd i' r j x' hi hj
     refine⟨y',?_,h4.mono hkeep⟩
     have h5:(i'+1) * τ.size≤rows.length * τ.size:=Nat.mul_le_mul_right _ h
     rw[Nat.succ_mul]at h5
     rw[hsp,if_pos (by omega)];exact h3
    ·rw [List.getElem?_append_right h] at hi
     obtain⟨y',h3,h4⟩:=hN.rd _ r j x' hi hj
     refine⟨y',?_,h4.mono hkeep⟩
     have h5:rows.length * τ.size≤i' * τ.size:=Nat.mul_le_mul_right _ h
     have h6:=(List.getElem?_eq_some_iff.1 h3).1
     rw[Nat.sub_mul]at h3 h6
     rw[hsp,if_neg (by omega),if_pos (by omega),← h3]
     congr 1;omega
  ·exact grow _ cap rfl (by omega)
end
end PSL
namespace PSL
open Go Go.RowKit

def topCode:List It→Bool
 | .dr _ _::_=>false
 |_=>true
section
variable {g:G} {pf:Nat→Cls} {ops:Array Oper} {Fin:Exit→Act→World→Prop}

theorem R_ghost {k:List It}{E E':Env}{objs objs':List Ob}(ht:topCode k=true)(h:∀a w,Sat g E objs a w→Sat g E' objs' a w)(hr:R g pf Fin k E' objs'):R g pf Fin k E objs:=by
 intro ho
 have hr:=hr ho
 cases k with
 |nil=>exact fun a w hs=>hr a w (h a w hs)
 |cons x k =>
  cases x<;>first
   |exact fun a w hs=>hr a w (h a w hs)
   |(simp[topCode]at ht)

theorem Stp.nilObj {S0:Nat→Prop}{φ:List Phy}{objs:List Ob}{w:World}(hs:HS S0 φ objs w)(sz:Nat)(a:Option Addr) :
  Stp S0 φ w (φ++[.sli sz 0 (.slice a 0 0) none]) (objs++[.arr sz 0 []]) w :=
 .add hs (Nat.le_refl _) (fun _ _=>rfl) (fun b hb=>by simp[Phy.bl]at hb) rfl rfl rfl fun _=>by simp only[ObOk];exact⟨trivial,trivial,by simp,.inl ⟨a,rfl,trivial,trivial⟩⟩

theorem R_own {k:List It}{E:Env}{objs:List Ob}(t sz:Nat)(h:lk E t=.d (.v (.slice none 0 0)))(ht:topCode k=true)(hr:R g pf Fin k (put E t (.ow (len objs) 0)) (objs++[.arr sz 0 []])):R g pf Fin k E objs:=by
 refine R_ghost ht (fun a w hs=>?_) hr
 obtain⟨φ,h1,h2,h3,h4,h5,h6⟩:=hs
 have hst:=Stp.nilObj h1 sz none
 refine⟨_,hst.hs,fun b hb=>?_,fun u=>?_,h4,h5.stp hst,h6.phs hst.ext (h6.le.trans hst.le)⟩
 ·rcases hst.own b hb with h | h
  ·exact h2 b h
  ·left;have:=h6.size;omega
 ·rw [lk_put]
  split
  ·rename_i e; subst e
   have hv:=h3 t
   rw[h]at hv
   simp only[RV]at hv ⊢
   generalize a.tmps.getD t undef=v at hv
   cases hv
   refine⟨⟨_,_,_,rfl⟩,.sli sz 0 (.slice none 0 0) none,by rw[len_eq,← h1.len];simp,fun sz s x ob h=>by cases h;exact⟨Nat.le_refl _,fun _=>rfl⟩⟩
  ·exact(h3 u).mono hst.keep hst.le

theorem R_ownB {k:List It}{E:Env}{objs:List Ob}(i j sz:Nat){l:List AV}(ho:nth objs i=some (.box l))(h:nth l j=some (.d (.v (.slice none 0 0))))(ht:topCode k=true)
  (hr:R g pf Fin k E (setN objs i (.box (setN l j (.ow (len objs) 0)))++[.arr sz 0 []])):R g pf Fin k E objs:=by
 refine R_ghost ht (fun a w hs=>?_) hr
 obtain⟨φ,h1,h2,h3,h4,h5,h6⟩:=hs
 have hst:=Stp.nilObj h1 sz none
 rw[nth_eq]at ho h
 have hil:=(List.getElem?_eq_some_iff.1 ho).1
 have hph:φ[i]? = some (φ[i]'(by rw[h1.len];exact hil)):=List.getElem?_eq_getElem _
 generalize φ[i]'(by rw[h1.len];exact hil)=ph at hph
 have hk:=hst.hs.ok i ph (.box l) (by rw[List.getElem?_append_left (by rw[h1.len];exact hil)];exact hph) (by rw[List.getElem?_append_left hil];exact ho)
 cases ph<;>try (simp only[ObOk]at hk;done)
 rename_i b
 have hk':=hk
 simp only[ObOk]at hk'
 obtain⟨cs,T,hb,hrv⟩:=hk'
 have hst2:Stp g.S0 (φ++[Phy.sli sz 0 (.slice none 0 0) none]) w ((φ++[Phy.sli sz 0 (.slice none 0 0) none]).set i (.blk b)) ((objs++[Ob.arr sz 0 []]).set i (.box (setN l j (.ow (len objs) 0)))) w:=by
  refine Stp.swap hst.hs (by rw[List.getElem?_append_left (by rw[h1.len];exact hil)];exact hph) (.inl rfl) (Nat.le_refl _) (fun _ _ _=>rfl) (fun b hb=>.inl hb) rfl rfl rfl fun hkeep hle=>?_
  simp only[ObOk]
  refine⟨cs,T,hb,?_⟩
  rw[setN_eq]
  obtain⟨v,hv1,hv2⟩:=hrv.get j h
  have hcs:cs=cs.set j v:=by
   apply List.ext_getElem?
   intro n
   rw[List.getElem?_set]
   split
   ·rename_i e;subst e;rw[hv1];simp[(List.getElem?_eq_some_iff.1 hv1).1]
   ·rfl
  rw[hcs]
  refine(hrv.mono hkeep hle).set j ?_
  simp only[RV]at hv2 ⊢
  cases hv2
  refine⟨⟨_,_,_,rfl⟩,.sli sz 0 (.slice none 0 0) none,?_,fun sz s x ob h=>by cases h;exact⟨Nat.le_refl _,fun _=>rfl⟩⟩
  rw[List.getElem?_set_ne (by rw[len_eq];omega),len_eq,← h1.len];simp
 have e1:(φ++[Phy.sli sz 0 (.slice none 0 0) none]).set i (.blk b)=φ++[Phy.sli sz 0 (.slice none 0 0) none]:=by
  apply List.ext_getElem?
  intro n
  rw[List.getElem?_set]
  split
  ·rename_i e; subst e
   rw[List.getElem?_append_left (by rw[h1.len];exact hil),hph];simp;rw[h1.len];omega
  ·rfl
 have e2:(objs++[Ob.arr sz 0 []]).set i (.box (setN l j (.ow (len objs) 0)))=setN objs i (.box (setN l j (.ow (len objs) 0)))++[.arr sz 0 []]:=by
  rw[List.set_append,if_pos hil];rw[setN_eq objs i]
 have hhs:=hst2.hs
 rw[e1,e2]at hhs
 refine⟨_,hhs,fun b hb=>?_,fun u=>(h3 u).mono hst.keep hst.le,h4,h5.stp hst,h6.phs hst.ext (h6.le.trans hst.le)⟩
 rcases hst.own b hb with h |h
 ·exact h2 b h
 ·left;have:=h6.size;omega

def mapOb (f:AV→AV):Ob→Ob
 | .box l=>.box (l.map f)
 | .arr sz s rows=>.arr sz s rows
 | .map es=>.map (es.map fun x=>(x.1,f x.2))
 | .yld pre=>.yld pre
 | .mat hs rows=>.mat hs rows
 | .itr s pos=>.itr s pos
 | .dead=>.dead
 | .tbox T l=>.tbox T (l.map f)
 | .byt e s bs=>.byt e s bs

theorem RVs.map' {S S':Nat→Prop}{w w':World}{φ φ':List Phy}(f:AV→AV)(hf:∀x v,RV S w φ x v→RV S' w' φ' (f x) v):∀ {l:List AV} {vs:List Value},RVs S w φ l vs→RVs S' w' φ' (l.map f) vs
 |[],[],_=>by simp[RVs]
 |[],_::_,h=>by simp[RVs]at h
 |_::_,[],h=>by simp[RVs]at h
 |a::l,v::vs,h=>by simp only[RVs,List.map_cons]at h ⊢;exact⟨hf _ _ h.1,RVs.map' f hf h.2⟩

theorem HS.remap {S0:Nat→Prop}{φ φ':List Phy}{objs objs':List Ob}{w:World}(h:HS S0 φ objs w)(f:AV→AV)(hlen:φ'.length=objs'.length)(hph:∀ (i:Nat) (p:Phy) (b:Nat),φ'[i]? = some p→p.bl b→∃q,φ[i]? = some q∧q.bl b)
  (hobj:∀ (i:Nat) (ob':Ob),objs'[i]? = some ob'→ob'=.dead∨(∃ob,objs[i]? = some ob∧φ'[i]? = φ[i]? ∧ ob'=mapOb f ob)∨∃ph,φ'[i]? = some ph∧ObOk (SS S0 φ') w φ' ph ob') (hf:∀x v,RV (SS S0 φ) w φ x v→RV (SS S0 φ') w φ' (f x) v):HS S0 φ' objs' w:=by
 have hbl:∀b,bls φ' b→bls φ b:=by
  rintro b ⟨i,p,h1,h2⟩
  obtain⟨q,h3,h4⟩:=hph i p b h1 h2
  exact⟨i,q,h3,h4⟩
 have hkeep:Keep (SS S0 φ) w (SS S0 φ') w:=fun b hb _=>⟨⟨hb.1,fun hc=>hb.2 (hbl b hc)⟩,rfl⟩
 refine⟨hlen,fun i ph ob' h1 h2=>?_,fun i j p q b h1 h2 h3 h4=>?_,fun b hb=>h.lt b (hbl b hb),h.up⟩
 ·rcases hobj i ob' h2 with rfl | ⟨ob,h3,h4,rfl⟩ | ⟨ph',h3,h4⟩
  ·simp only[ObOk]
  ·rw [h1] at h4
   have hk:=h.ok i ph ob h4.symm h3
   cases ph<;>cases ob<;>simp only[ObOk,mapOb]at hk ⊢
   ·obtain ⟨cs,T,h5,h6⟩:=hk
    exact⟨cs,T,h5,h6.map' f hf⟩
   ·obtain ⟨ents,clk,h5,h6,h7⟩:=hk
    refine⟨ents,clk,h5,?_,?_⟩
    ·simpa[List.map_map,Function.comp_def]using h6
    ·have:=h7.map' f hf
     simpa[List.map_map,Function.comp_def]using this
   ·exact hk
   ·obtain ⟨cs,h5,h6⟩:=hk
    exact⟨cs,h5,h6.map' f hf⟩
   ·obtain ⟨h0,h0',h5,h6⟩:=hk
    refine⟨h0,h0',h5,?_⟩
    rcases h6 with h6 |⟨b,o,cap,cs,T,g1,g2,g3,g4,g5,g6,g7⟩
    ·exact .inl h6
    ·refine .inr ⟨b,o,cap,cs,T,g1,g2,g3,g4,g5,g6,fun i r j x hi hj=>?_⟩
     obtain⟨y,h9,h10⟩:=g7 i r j x hi hj
     exact⟨y,h9,h10.mono hkeep⟩
   ·exact hk
   ·exact⟨hk.1,hk.1 _ _ _ _ _ _ (Nat.le_refl _) (fun _ _=>rfl) hkeep hk.2⟩
   ·obtain ⟨h0,h0',h1,h2⟩:=hk
    refine⟨h0,h0',h1,fun i x r hi hr=>?_⟩
    obtain⟨cs,T,h3,h4,h5,h6,h7⟩:=h2 i x r hi hr
    refine⟨cs,T,h3,h4,h5,h6,fun j d hd=>?_⟩
    obtain⟨y,h8,h9⟩:=h7 j d hd
    exact⟨y,h8,h9.mono hkeep⟩
  ·rw[h1]at h3;cases h3;exact h4
 ·obtain ⟨p',k1,k1'⟩:=hph i p b h1 h3
  obtain⟨q',k2,k2'⟩:=hph j q b h2 h4
  exact h.dist i j p' q' b k1 k2 k1' k2'

mutual
def idsLt (n:Nat):AV→Bool
 | .lo i _=>Nat.ble (Nat.succ i) n
 | .el i _ _ _=>Nat.ble (Nat.succ i) n
 | .vw i _ _=>Nat.ble (Nat.succ i) n
 | .ow i _=>Nat.ble (Nat.succ i) n
 | .mp i=>Nat.ble (Nat.succ i) n
 | .agg l=>idsLtL n l
 | .tup l=>idsLtL n l
 | .clo _ a c=>bif idsLtL n a then idsLtL n c else false
 | .yl i=>Nat.ble (Nat.succ i) n
 |_=>true
def idsLtL (n:Nat):List AV→Bool
 |[]=>true
 |x::l=>bif idsLt n x then idsLtL n l else false
end
theorem bifT {c x:Bool}(h:(bif c then x else false)=true):c=true∧x=true:=by cases c<;>simp at h;exact⟨rfl,h⟩

mutual
theorem RV.ids {S S':Nat→Prop}{w:World}{φ φ':List Phy}{n:Nat}(hk:Keep S w S' w)(hp:∀i,i<n→φ'[i]? = φ[i]?):∀ {x:AV} {v:Value},idsLt n x=true→RV S w φ x v→RV S' w φ' x v
 | .any,_,_,_=>by simp[RV]
 | .tt,_,_,h=>by simpa[RV]using h
 | .ff,_,_,h=>by simpa[RV]using h
 | .d x,v,_,h=>by simp only[RV]at h ⊢;exact h.mono hk
 | .fs rows,v,_,h=>by simp only[RV]at h ⊢;exact⟨h.1.mono hk,h.2⟩
 | .agg l,v,hn,h=>by
  simp only[RV]at h ⊢;simp only[idsLt]at hn
  obtain⟨cs,h1,h2⟩:=h
  exact⟨cs,h1,RVs.ids hk hp hn h2⟩
 | .lo i off,v,hn,h=>by simp only[RV]at h ⊢;simp only[idsLt]at hn;rw[hp i (Nat.le_of_ble_eq_true hn)];exact h
 | .el i t r j,v,hn,h=>by simp only[RV]at h ⊢;simp only[idsLt]at hn;rw[hp i (Nat.le_of_ble_eq_true hn)];exact h
 | .vw i t r,v,hn,h=>by simp only[RV]at h ⊢;simp only[idsLt]at hn;rw[hp i (Nat.le_of_ble_eq_true hn)];exact h
 | .ow i t,v,hn,h=>by simp only[RV]at h ⊢;simp only[idsLt]at hn;rw[hp i (Nat.le_of_ble_eq_true hn)];exact h
 | .mp i,v,hn,h=>by simp only[RV]at h ⊢;simp only[idsLt]at hn;rw[hp i (Nat.le_of_ble_eq_true hn)];exact h
 | .yl i,v,hn,h=>by simp only[RV]at h ⊢;simp only[idsLt]at hn;rw[hp i (Nat.le_of_ble_eq_true hn)];exact h
 | .tup l,v,hn,h=>by
  simp only[RV]at h ⊢;simp only[idsLt]at hn
  obtain⟨cs,h1,h2⟩:=h
  exact⟨cs,h1,RVs.ids hk hp hn h2⟩
 | .clo f a c,v,hn,h=>by
  simp only[RV]at h ⊢;simp only[idsLt]at hn
  obtain⟨hn1,hn2⟩:=bifT hn
  obtain⟨va,vc,h1,h2,h3⟩:=h
  exact⟨va,vc,h1,RVs.ids hk hp hn1 h2,RVs.ids hk hp hn2 h3⟩
theorem RVs.ids {S S':Nat→Prop}{w:World}{φ φ':List Phy}{n:Nat}(hk:Keep S w S' w)(hp:∀i,i<n→φ'[i]? = φ[i]?):∀ {l:List AV} {vs:List Value},idsLtL n l=true→RVs S w φ l vs→RVs S' w φ' l vs
 |[],[],_,_=>by simp[RVs]
 |[],_::_,_,h=>by simp[RVs]at h
 |_::_,[],_,h=>by simp[RVs]at h
 |a::l,v::vs,hn,h=>by
  simp only[RVs]at h ⊢;simp only[idsLtL]at hn
  obtain⟨hn1,hn2⟩:=bifT hn
  exact⟨RV.ids hk hp hn1 h.1,RVs.ids hk hp hn2 h.2⟩
end
def trimA (n:Nat)(x:AV):AV:=bif idsLt n x then x else .any

theorem trimA_ok {S S':Nat→Prop}{w:World}{φ φ':List Phy}{n:Nat}(hk:Keep S w S' w)(hp:∀i,i<n→φ'[i]? = φ[i]?)(x:AV)(v:Value)(h:RV S w φ x v):RV S' w φ' (trimA n x) v:=by
 unfold trimA
 cases hx:idsLt n x
 ·simp[RV]
 ·exact RV.ids hk hp hx h

def mapE (f:AV→AV):Env→Env
 |[]=>[]
 |(t,v)::r=>(t,f v)::mapE f r

theorem lk_mapE {f:AV→AV}:∀ (E:Env) (t:Nat),lk (mapE f E) t=f (lk E t)∨(lk (mapE f E) t=.any)
 |[],t=>.inr (by simp[mapE,lk])
 |(k,v)::r,t=>by
  simp only[mapE,lk]
  cases Nat.beq k t
  ·exact lk_mapE r t
  ·exact .inl rfl

theorem R_drop {k:List It}{E:Env}{objs:List Ob}(n:Nat)(hn:g.φ0.length≤n)(ht:topCode k=true)(hr:R g pf Fin k (mapE (trimA n) E) ((objs.take n).map (mapOb (trimA n))))(hdf:g.dfs=[]:=by rfl):R g pf Fin k E objs:=by
 refine R_ghost ht (fun a w hs=>?_) hr
 obtain⟨φ,h1,h2,h3,h4,h5,h6⟩:=hs
 have hp:∀i,i<n→(φ.take n)[i]? = φ[i]? := fun i hi=>List.getElem?_take_of_lt hi
 have hbl:∀b,bls (φ.take n) b→bls φ b:=by
  rintro b ⟨i,p,g1,g2⟩
  have hi:i<n:=by
   have:=(List.getElem?_eq_some_iff.1 g1).1
   simp at this;omega
  exact⟨i,p,by rw[← hp i hi];exact g1,g2⟩
 have hkeep:Keep (SS g.S0 φ) w (SS g.S0 (φ.take n)) w:=fun b hb _=>⟨⟨hb.1,fun hc=>hb.2 (hbl b hc)⟩,rfl⟩
 refine⟨φ.take n,h1.remap (trimA n) (by simp[h1.len]) (fun i p b hi hb=>⟨p,?_,hb⟩) (fun i ob' hi=>.inr (.inl ?_)) (trimA_ok hkeep hp),fun b hb=>h2 b (hbl b hb),fun u=>?_,h4,Mks.phs hdf h5 hbl,h6.phs (fun i l I B h=>⟨B,by
  have:=(List.getElem?_eq_some_iff.1 h).1
  simp only[List.length_take]at this;rw[← hp i (by omega)];exact h⟩) (fun i p hi=>by
  obtain⟨p',h7,h8⟩:=h6.le i p hi
  exact⟨p',by rw[hp i (Nat.lt_of_lt_of_le (List.getElem?_eq_some_iff.1 hi).1 hn)];exact h7,h8⟩)⟩
 ·have hin:i<n:=by
   have:=(List.getElem?_eq_some_iff.1 hi).1
   simp at this;omega
  rw[← hp i hin];exact hi
 ·have hin:i<n:=by
   have:=(List.getElem?_eq_some_iff.1 hi).1
   simp at this;omega
  rw[List.getElem?_map,List.getElem?_take_of_lt hin]at hi
  cases ho:objs[i]? with
  |none=>rw[ho]at hi;cases hi
  |some ob=>rw[ho]at hi;exact⟨ob,rfl,hp i hin,by simpa using hi.symm⟩
 ·rcases lk_mapE (f:=trimA n) E u with h | h
  ·rw[h];exact trimA_ok hkeep hp _ _ (h3 u)
  ·rw[h];simp[RV]

mutual
def frzA (i s:Nat) (rows:List (List D)):AV→AV
 | .ow j t=>bif Nat.beq j i then (bif Nat.beq t s then .d (.sl rows) else .any) else .ow j t
 | .el j t r o=>bif Nat.beq j i then .any else .el j t r o
 | .vw j t r=>bif Nat.beq j i then .any else .vw j t r
 | .lo j o=>bif Nat.beq j i then .any else .lo j o
 | .mp j=>bif Nat.beq j i then .any else .mp j
 | .yl j=>bif Nat.beq j i then .any else .yl j
 | .agg l=>.agg (frzL i s rows l)
 | .tup l=>.tup (frzL i s rows l)
 | .clo f a c=>.clo f (frzL i s rows a) (frzL i s rows c)
 | .any=>.any
 | .tt=>.tt
 | .ff=>.ff
 | .d x=>.d x
 | .fs r=>.fs r
def frzL (i s:Nat) (rows:List (List D)):List AV→List AV
 |[]=>[]
 |x::l=>frzA i s rows x::frzL i s rows l
end

mutual
theorem frzA_ok {S S':Nat→Prop}{w:World}{φ φ':List Phy}{i s:Nat}{rows:List (List D)}(hk:Keep S w S' w)(hp:∀j,j≠i→φ'[j]? = φ[j]?)(ho:∀v,RV S w φ (.ow i s) v→Rd S' w (.sl rows) v) :
  ∀ (x:AV) (v:Value),RV S w φ x v→RV S' w φ' (frzA i s rows x) v
 | .any,_,_=>by simp[RV,frzA]
 | .tt,_,h=>by simpa[RV,frzA]using h
 | .ff,_,h=>by simpa[RV,frzA]using h
 | .d x,v,h=>by simp only[RV,frzA]at h ⊢;exact h.mono hk
 | .fs rows,v,h=>by simp only[RV,frzA]at h ⊢;exact⟨h.1.mono hk,h.2⟩
 | .agg l,v,h=>by
  simp only[RV,frzA]at h ⊢
  obtain⟨cs,h1,h2⟩:=h
  exact⟨cs,h1,frzL_ok hk hp ho l cs h2⟩
 | .lo j off,v,h=>by
  simp only[frzA]
  cases hj:Nat.beq j i
  ·have:j≠i:=fun e=>by subst e; simp at hj
   simp only[RV,cond_false]at h ⊢;rw[hp j this];exact h
  ·simp[RV]
 | .el j t r o,v,h=>by
  simp only[frzA]
  cases hj:Nat.beq j i
  ·have:j≠i:=fun e=>by subst e; simp at hj
   simp only[RV,cond_false]at h ⊢;rw[hp j this];exact h
  ·simp[RV]
 | .vw j t r,v,h=>by
  simp only[frzA]
  cases hj:Nat.beq j i
  ·have:j≠i:=fun e=>by subst e; simp at hj
   simp only[RV,cond_false]at h ⊢;rw[hp j this];exact h
  ·simp[RV]
 | .mp j,v,h=>by
  simp only[frzA]
  cases hj:Nat.beq j i
  ·have:j≠i:=fun e=>by subst e; simp at hj
   simp only[RV,cond_false]at h ⊢;rw[hp j this];exact h
  ·simp[RV]
 | .yl j,v,h=>by
  simp only[frzA]
  cases hj:Nat.beq j i
  ·have:j≠i:=fun e=>by subst e; simp at hj
   simp only[RV,cond_false]at h ⊢;rw[hp j this];exact h
  ·simp[RV]
 | .ow j t,v,h=>by
  simp only[frzA]
  cases hj:Nat.beq j i
  ·have:j≠i:=fun e=>by subst e; simp at hj
   simp only[cond_false]
   simp only[RV]at h ⊢;rw[hp j this];exact h
  ·have:=natBeq hj; subst this
   simp only[cond_true]
   cases ht:Nat.beq t s
   ·simp[RV]
   ·have:=natBeq ht; subst this
    simp only[cond_true]
    have:=ho v h
    simpa only[RV]using this
 | .tup l,v,h=>by
  simp only[RV,frzA]at h ⊢
  obtain⟨cs,h1,h2⟩:=h
  exact⟨cs,h1,frzL_ok hk hp ho l cs h2⟩
 | .clo f a c,v,h=>by
  simp only[RV,frzA]at h ⊢
  obtain⟨va,vc,h1,h2,h3⟩:=h
  exact⟨va,vc,h1,frzL_ok hk hp ho a va h2,frzL_ok hk hp ho c vc h3⟩
theorem frzL_ok {S S':Nat→Prop}{w:World}{φ φ':List Phy}{i s:Nat}{rows:List (List D)}(hk:Keep S w S' w)(hp:∀j,j≠i→φ'[j]? = φ[j]?)(ho:∀v,RV S w φ (.ow i s) v→Rd S' w (.sl rows) v) :
  ∀ (l:List AV) (vs:List Value),RVs S w φ l vs→RVs S' w φ' (frzL i s rows l) vs
 |[],[],_=>by simp[RVs,frzL]
 |[],_::_,h=>by simp[RVs]at h
 |_::_,[],h=>by simp[RVs]at h
 |a::l,v::vs,h=>by
  simp only[RVs,frzL]at h ⊢
  exact⟨frzA_ok hk hp ho a v h.1,frzL_ok hk hp ho l vs h.2⟩
end

structure GUp (g:G):Prop where
 up:∀b,g.w0.heap.size≤b→g.S0 b
 x:∀b,g.X0 b→g.S0 b
theorem GPure.gup (h:GPure g):GUp g:=⟨h.up,fun b hb=>absurd hb (h.x b)⟩

theorem R_freeze (hu:GUp g){k:List It}{E:Env}{objs:List Ob}(i:Nat){sz s:Nat}{rows:List (List D)}(ho:nth objs i=some (.arr sz s rows))(ht:topCode k=true)
  (hr:R g pf Fin k (mapE (frzA i s rows) E) (setN (objs.map (mapOb (frzA i s rows))) i .dead)) (hdf:g.dfs=[]:=by rfl):R g pf Fin k E objs:=by
 refine R_ghost ht (fun a w hs=>?_) hr
 obtain⟨φ,h1,h2,h3,h4,h5,h6⟩:=hs
 rw[nth_eq]at ho
 have hil:=(List.getElem?_eq_some_iff.1 ho).1
 have hiφ:i<φ.length:=by rw[h1.len];exact hil
 have hbl0:∀b,bls φ b→g.S0 b:=fun b hb=>(h2 b hb).elim (hu.up b) (hu.x b)
 have hbl:∀b,bls (φ.set i .no) b→bls φ b:=fun b hb=>by
  rcases bls_set hb with ⟨j,q,_,g1,g2⟩ |g1
  ·exact⟨j,q,g1,g2⟩
  ·simp[Phy.bl]at g1
 have hp:∀j,j≠i→(φ.set i .no)[j]? = φ[j]? := fun j hj=>List.getElem?_set_ne (fun e=>hj e.symm)
 have hkeep:Keep (SS g.S0 φ) w (SS g.S0 (φ.set i .no)) w:=fun b hb _=>⟨⟨hb.1,fun hc=>hb.2 (hbl b hc)⟩,rfl⟩
 have hph:φ[i]? = some φ[i]:=List.getElem?_eq_getElem hiφ
 -- the object's block is free of objects from now on
 have hrd:∀v,RV (SS g.S0 φ) w φ (.ow i s) v→Rd (SS g.S0 (φ.set i .no)) w (.sl rows) v:=fun v hv=>by
  simp only[RV]at hv
  obtain⟨_,ph,hph,hx⟩:=hv
  have hk:=h1.ok i ph _ hph ho
  cases ph<;>try (simp only[ObOk]at hk;done)
  rename_i sz2 s2 v2 ob2
  simp only[ObOk]at hk
  obtain⟨rfl,rfl,hlen,hk⟩:=hk
  have hx:=(hx _ _ _ _ rfl).2 rfl
  subst hx
  rcases hk with ⟨a2,rfl,rfl,_⟩ |⟨b,o,cap,cs,T,rfl,rfl,hheap,hn,hcap,hle,hrd⟩
  ·exact .nil _ _
  ·have hb:bls φ b:=⟨i,_,hph,rfl⟩
   have hnb:¬ bls (φ.set i .no) b:=fun hc=>by
    rcases bls_set hc with ⟨j,q,hj,g1,g2⟩ |g1
    ·exact hj (h1.dist _ _ _ _ _ g1 hph g2 rfl)
    ·simp[Phy.bl]at g1
   refine Rd.sl (sz:=sz) (fun i j=>(cs[o+i * sz+j]?).getD undef) ⟨hbl0 b hb,hnb⟩ hheap hn hcap (fun i r hi=>hlen r (List.mem_of_getElem? hi)) (fun i r j x hi hj=>?_) (fun i r j x hi hj=>?_)
   ·obtain ⟨y,h1,_⟩:=hrd i r j x hi hj
    simp[h1]
   ·obtain ⟨y,h1,h2⟩:=hrd i r j x hi hj
    rw[h1];exact h2.mono hkeep
 have hf:=frzA_ok (rows:=rows) hkeep hp hrd
 refine⟨φ.set i .no,h1.remap (frzA i s rows) (by rw[setN_eq];simp[h1.len]) (fun j p b hj hb=>?_) (fun j ob' hj=>?_) hf,fun b hb=>h2 b (hbl b hb),fun u=>?_,h4,Mks.phs hdf h5 hbl,h6.phs (fun j l I B h=>⟨B,by
  by_cases hji:j=i
  ·subst hji;rw[List.getElem?_set_self hiφ]at h;cases h
  ·rw[hp j hji]at h;exact h⟩) (fun j p hj=>by
  obtain⟨p',h7,h8⟩:=h6.le j p hj
  by_cases hji:j=i
  ·subst hji
   refine⟨.no,List.getElem?_set_self hiφ,?_⟩
   have hk:=h1.ok j _ _ h7 ho
   cases p'<;>try (simp only[ObOk]at hk;done)
   exact h8.trans (.inr (.inr (.inl ⟨_,_,_,_,rfl,rfl⟩)))
  ·exact⟨p',by rw[hp j hji];exact h7,h8⟩)⟩
 ·by_cases hji:j=i
  ·subst hji;rw[List.getElem?_set_self hiφ]at hj;cases hj;exact hb.elim
  ·rw[hp j hji]at hj;exact⟨p,hj,hb⟩
 ·rw [setN_eq] at hj
  by_cases hji:j=i
  ·subst hji;rw[List.getElem?_set_self (by simpa using hil)]at hj;cases hj;exact .inl rfl
  ·rw [List.getElem?_set_ne (fun e=>hji e.symm),List.getElem?_map] at hj
   cases ho:objs[j]? with
   |none=>rw[ho]at hj;cases hj
   |some ob=>rw[ho]at hj;exact .inr (.inl ⟨ob,rfl,hp j hji,by simpa using hj.symm⟩)
 ·rcases lk_mapE (f:=frzA i s rows) E u with h | h
  ·rw[h];exact hf _ _ (h3 u)
  ·rw[h];simp[RV]
end
end PSL
namespace PSL
open Go Go.RowKit
section
variable {g:G} {pf:Nat→Cls} {ops:Array Oper} {Fin:Exit→Act→World→Prop}

theorem own_slice {objs:List Ob}{φ:List Phy}{w:World}{S0:Nat→Prop}(hs:HS S0 φ objs w){i s sz:Nat}{rows:List (List D)}{v:Value}(hv:RV (SS S0 φ) w φ (.ow i s) v)(ho:nth objs i=some (.arr sz s rows)) :
  (∀ r∈rows,r.length=sz)∧(rows=[]∨∃ (b o cap:Nat) (cs:List Value) (T:Nat),v=.slice (some ⟨b,o,none⟩) rows.length cap∧φ[i]? = some (.sli sz s v (some b))∧w.heap[b]? = some (.cells cs.toArray T (0,0)) ∧
     rows.length≤cap∧cap≤maxLen∧o+cap * sz≤cs.length ∧
     ∀ (i:Nat) (r:List D) (j:Nat) (x:D),rows[i]? = some r→r[j]? = some x→∃y,cs[o+i * sz+j]? = some y∧Rd (SS S0 φ) w x y):=by
 simp only[RV]at hv
 obtain⟨_,ph,hph,hx⟩:=hv
 have hk:=obj_at hs hph ho
 cases ph<;>try (simp only[ObOk]at hk;done)
 simp only[ObOk]at hk
 obtain⟨rfl,rfl,hlen,hk⟩:=hk
 have hx:=(hx _ _ _ _ rfl).2 rfl
 subst hx
 refine⟨hlen,?_⟩
 rcases hk with ⟨a2,rfl,rfl,_⟩ |⟨b,o,cap,cs,T,h1,rfl,h2⟩
 ·exact .inl rfl
 ·exact .inr ⟨b,o,cap,cs,T,h1,hph,h2⟩

theorem R_indexO (hg:GOk g){dst:Option Nat}{T:Nat}{x i:Operand}{ty:Nat}{pos:String}{after:Array Edge}{gd:Option (Nat × Bool)}{rest:List Oper}{k:List It}{E:Env}{objs:List Ob}
  {id s sz q by_ e:Nat} {z:List Value} {τ:Ty} {rows:List (List D)} {n:Int}
  (hgd:guardA ops.toList E gd=some true) (hd:dstOk ⟨g.ty,g.N⟩ dst=true) (hcl:ixCls pf=.load) (hx:ev E x=.ow id s) (ho:nth objs id=some (.arr sz s rows)) (hi:ev E i=.d (.v (.int .i64 n))) (hT:g.ty T=some ⟨q,by_,z,.slice e⟩) (he:g.ty e=some τ) (hsz:τ.size=sz)
  (h0:0≤n) (hlt:n.toNat<rows.length)
  (hr:R g pf Fin (.dr ops rest::k) (putO E dst (.el id s n.toNat 0)) objs):R g pf Fin (.dr ops (⟨dst,.indexAddr T x i,ty,pos,after,gd⟩::rest)::k) E objs:=by
 refine R_op ?_ hr
 simp only[clsOf,hcl]
 refine LocOp.lookingM hg 0 hgd hd (by simp) fun φ a w objs₁ hgr hρ hs=>?_
 simp only[Op.operands]at hρ
 have hxv:=hρ x (by simp)
 rw[hx]at hxv
 have hiv:=hρ i (by simp)
 rw[hi]at hiv
 simp only[RV]at hiv
 generalize hvi:a.eval i=vi at hiv
 cases hiv
 have ho:nth objs₁ id=some (.arr sz s rows):=by
  have h:=hxv
  simp only[RV]at h
  obtain⟨_,ph,hph,_⟩:=h
  rw[nth_eq]at ho ⊢
  exact Gr.same hgr ho (by rw[← hs.len];exact(List.getElem?_eq_some_iff.1 hph).1) (by simp[Ob.lvl])
 obtain⟨_,h1⟩:=own_slice hs hxv ho
 rcases h1 with h1 |⟨b,o,cap,cs,T',h1,h2,h3,_⟩
 ·subst h1;simp at hlt
 refine out_val hs (vv:=.pointer (some ⟨b,o+n.toNat * sz,none⟩)) ?_ ?_
 ·have hrun:(Instr.indexAt T (a.eval x) (a.eval i)).run g.P w=.ok (.pointer (some ⟨b,o+n.toNat * sz,none⟩)) w:=by
   simp only[Instr.indexAt,h1,hvi,asIntOf,underlying,Sem.run_bind,Sem.run_pure,run_program,Result.andThen_ok,und_slice hg hT]
   rw[Sem.run_ite,if_pos ⟨h0,by omega⟩]
   simp only[Sem.run_bind,run_sizeOf (hg.ty _ _ he),Result.andThen_ok,Sem.run_pure,add_none,hsz]
  simp only[execOp,Sem.run_bind,hrun,Result.andThen_ok,Sem.run_pure]
 ·simp only [RV]
  refine⟨⟨_,_,rfl⟩,_,h2,fun sz' s' x' ob' h=>?_⟩
  cases h
  exact⟨Nat.le_refl _,fun _=>⟨b,o,_,_,h1,rfl⟩⟩

theorem R_lenO (hg:GOk g){dst:Option Nat}{T:Nat}{x:Operand}{ty:Nat}{pos:String}{after:Array Edge}{gd:Option (Nat × Bool)}{rest:List Oper}{k:List It}{E:Env}{objs:List Ob}
  {id s sz q by_ e:Nat} {z:List Value} {rows:List (List D)} {n:Int}
  (hgd:guardA ops.toList E gd=some true) (hd:dstOk ⟨g.ty,g.N⟩ dst=true) (hx:ev E x=.ow id s) (ho:nth objs id=some (.arr sz s rows)) (hT:g.ty T=some ⟨q,by_,z,.slice e⟩) (hn:(rows.length:Int)=n)
  (hr:R g pf Fin (.dr ops rest::k) (putO E dst (iV n)) objs) (hcl:lenCls pf #[x]=.load:=by rfl):R g pf Fin (.dr ops (⟨dst,.call { callee:=.builtin .len,args:=#[x],argTypes:=#[T] },ty,pos,after,gd⟩::rest)::k) E objs:=by
 subst hn
 refine R_op ?_ hr
 simp only[clsOf,hcl]
 refine LocOp.lookingM hg 0 hgd hd (by simp) fun φ a w objs₁ hgr hρ hs=>?_
 simp only[Op.operands,Call.operands]at hρ
 have hxv:=hρ x (by simp)
 rw[hx]at hxv
 simp only[RV]at hxv
 obtain⟨_,ph,hph,hxv⟩:=hxv
 have ho:nth objs₁ id=some (.arr sz s rows):=by
  rw[nth_eq]at ho ⊢
  exact Gr.same hgr ho (by rw[← hs.len];exact(List.getElem?_eq_some_iff.1 hph).1) (by simp[Ob.lvl])
 have hk:=obj_at hs hph ho
 cases ph<;>try (simp only[ObOk]at hk;done)
 simp only[ObOk]at hk
 obtain⟨rfl,rfl,hlen,hk⟩:=hk
 have hv:=(hxv _ _ _ _ rfl).2 rfl
 have hs2:∃ (p:Option Addr) (c:Nat),a.eval x=.slice p rows.length c:=by
  rcases hk with ⟨a2,h1,rfl,_⟩ |⟨b,o,cap,cs,T',h1,_⟩
  ·exact⟨_,_,hv.trans h1⟩
  ·exact⟨_,_,hv.trans h1⟩
 obtain⟨p,c,hs2⟩:=hs2
 refine out_val hs (vv:=.int .i64 rows.length) ?_ (by simp only[RV,iV];exact .v _)
 have hu:=und_slice hg hT
 simp only[execOp,resolve,Sem.run_bind,Sem.run_pure,Result.andThen_ok,invoke,builtin,List.map_toArray,List.map_cons,List.map_nil,hs2]
 simp[run_lenArr hu (.inr ⟨⟨_,rfl⟩,_,_,_,rfl,rfl⟩)]

theorem R_loadE (hg:GOk g){dst:Option Nat}{T:Nat}{x:Operand}{ty:Nat}{pos:String}{after:Array Edge}{gd:Option (Nat × Bool)}{rest:List Oper}{k:List It}{E:Env}{objs:List Ob}
  {id s sz r j:Nat} {τ:Ty} {rows:List (List D)} {row:List D} {v:AV}
  (hgd:guardA ops.toList E gd=some true) (hd:dstOk ⟨g.ty,g.N⟩ dst=true) (hcl:ldClsAt pf x=.load) (hx:ev E x=.el id s r j) (ho:nth objs id=some (.arr sz s rows)) (hT:g.ty T=some τ) (hrow:rows[r]? = some row) (hp:packA τ (row.map .d) j=some v)
  (hr:R g pf Fin (.dr ops rest::k) (putO E dst v) objs):R g pf Fin (.dr ops (⟨dst,.load T x,ty,pos,after,gd⟩::rest)::k) E objs:=by
 refine R_op ?_ hr
 simp only[clsOf,hcl]
 refine LocOp.lookingM hg 0 hgd hd (by simp) fun φ a w objs₁ hgr hρ hs=>?_
 simp only[Op.operands]at hρ
 have hxv:=hρ x (by simp)
 rw[hx]at hxv
 simp only[RV]at hxv
 obtain⟨_,ph,hph,hxv⟩:=hxv
 have ho:nth objs₁ id=some (.arr sz s rows):=by
  rw[nth_eq]at ho ⊢
  exact Gr.same hgr ho (by rw[← hs.len];exact(List.getElem?_eq_some_iff.1 hph).1) (by simp[Ob.lvl])
 have hk:=obj_at hs hph ho
 cases ph<;>try (simp only[ObOk]at hk;done)
 rename_i sz2 s2 v2 ob2
 simp only[ObOk]at hk
 obtain⟨rfl,rfl,hlen,hk⟩:=hk
 obtain⟨b,o,n,cap,h1,h2⟩:=(hxv _ _ _ _ rfl).2 rfl
 rcases hk with ⟨a2,_,rfl,_⟩ |⟨b',o',cap2,cs,T',h3,rfl,hheap,hn,hcap,hle,hrd⟩
 ·simp at hrow
 rw[h1]at h3
 simp only[Value.slice.injEq,Option.some.injEq,Addr.mk.injEq]at h3
 obtain⟨⟨rfl,rfl,_⟩,hnn,hcc⟩:=h3
 subst hcc
 have hrl:=hlen row (List.mem_of_getElem? hrow)
 have hrlt:=(List.getElem?_eq_some_iff.1 hrow).1
 have hτ:=hg.ty _ _ hT
 have hfit:o+r * sz+sz≤cs.length:=by
  have:(r+1) * sz≤cap * sz:=Nat.mul_le_mul_right _ (by omega)
  rw[Nat.succ_mul]at this;omega
 have hrv:RVs (SS g.S0 φ) w φ (row.map .d) ((cs.drop (o+r * sz)).take sz):=by
  refine RVs.of_get (by simp;omega) fun m u v hu hv=>?_
  rw[List.getElem?_map]at hu
  cases hm:row[m]? with
  |none=>rw[hm]at hu;cases hu
  |some y =>
   rw[hm]at hu;simp at hu;subst hu
   have hml:=(List.getElem?_eq_some_iff.1 hm).1
   obtain⟨y',h4,h5⟩:=hrd r row m y hrow hm
   rw[List.getElem?_take_of_lt (by omega),List.getElem?_drop,h4]at hv
   cases hv
   simp only[RV];exact h5
 obtain⟨h4,h5⟩:=pack_ok hτ hrv hp
 rcases h4 with ⟨h0,ha⟩ |h4
 ·exact ok_load hs rfl h2 (run_loadVar0 hτ ha h0 _ _) h5
 ·simp only [List.length_take,List.length_drop] at h4
  rcases Nat.eq_zero_or_pos τ.size with hz |hz
  ·have ha:τ.agg=true:=by
    cases ha:τ.agg
    ·have:=hτ.one ha;omega
    ·rfl
   exact ok_load hs rfl h2 (run_loadVar0 hτ ha hz _ _) h5
  ·have h6:(List.drop j (List.take sz (List.drop (o+r * sz) cs))).take τ.size=(cs.drop (o+r * sz+j)).take τ.size:=by
    rw[List.drop_take,List.take_take,List.drop_drop,Nat.min_eq_left (by omega)]
   rw[h6]at h5
   exact ok_load hs rfl h2 (run_loadVar hτ hheap (o+r * sz+j) (by omega)) h5

def spliceD:List D→Nat→List D→List D
 |l,_,[]=>l
 |l,off,x::r=>spliceD (setN l off x) (Nat.succ off) r

theorem spliceD_length:∀ (new l:List D) (off:Nat),(spliceD l off new).length=l.length
 |[],_,_=>rfl
 |x::r,l,off=>by simp[spliceD,setN_eq,spliceD_length r]

theorem spliceD_get:∀ (new l:List D) (off:Nat),off+new.length≤l.length→∀k,(spliceD l off new)[k]? = if off≤k∧k<off+new.length then new[k - off]? else l[k]?
 |[],l,off,_,k=>by rw[if_neg (by simp only[List.length_nil];omega)];rfl
 |x::r,l,off,h,k=>by
  simp only[List.length_cons]at h
  rw[spliceD,setN_eq,spliceD_get r _ _ (by rw[List.length_set];omega) k]
  simp only[List.length_cons,Nat.succ_eq_add_one]
  by_cases h1:k=off
  ·subst h1
   rw[if_neg (by omega),if_pos (by omega),List.getElem?_set_self (by omega),Nat.sub_self,List.getElem?_cons_zero]
  ·by_cases h2:off≤k∧k<off+(r.length+1)
   ·rw[if_pos (by omega),if_pos h2,show k - off=(k - (off+1))+1 by omega,List.getElem?_cons_succ]
   ·rw[if_neg (by omega),if_neg h2,List.getElem?_set_ne (fun e=>h1 e.symm)]

theorem splice_get:∀ (new l:List Value) (off:Nat),off+new.length≤l.length→∀k,(splice l off new)[k]? = if off≤k∧k<off+new.length then new[k - off]? else l[k]?
 |[],l,off,_,k=>by rw[if_neg (by simp only[List.length_nil];omega)];rfl
 |x::r,l,off,h,k=>by
  simp only[List.length_cons]at h
  rw[splice,splice_get r _ _ (by rw[List.length_set];omega) k]
  simp only[List.length_cons]
  by_cases h1:k=off
  ·subst h1
   rw[if_neg (by omega),if_pos (by omega),List.getElem?_set_self (by omega),Nat.sub_self,List.getElem?_cons_zero]
  ·by_cases h2:off≤k∧k<off+(r.length+1)
   ·rw[if_pos (by omega),if_pos h2,show k - off=(k - (off+1))+1 by omega,List.getElem?_cons_succ]
   ·rw[if_neg (by omega),if_neg h2,List.getElem?_set_ne (fun e=>h1 e.symm)]

theorem R_storeE (hg:GOk g){dst:Option Nat}{T:Nat}{d x:Operand}{ty:Nat}{pos:String}{after:Array Edge}{gd:Option (Nat × Bool)}{rest:List Oper}{k:List It}{E:Env}{objs:List Ob}
  {id s sz r j:Nat} {τ:Ty} {rows:List (List D)} {row:List D} {l:List AV} {ds:List D}
  (hgd:guardA ops.toList E gd=some true) (hd:dstOk ⟨g.ty,g.N⟩ dst=true) (hx:ev E d=.el id s r j) (ho:nth objs id=some (.arr sz s rows)) (hT:g.ty T=some τ) (hrow:rows[r]? = some row) (hc:cellsO (ev E x)=some l) (hds:toDs l=some ds) (hl:ds.length=τ.size) (hfit:j+τ.size≤sz)
  (hr:R g pf Fin (.dr ops rest::k) (putO E dst .any) (setN objs id (.arr sz s (rows.set r (spliceD row j ds))))) (hcl:stClsAt pf d=.eff:=by rfl):R g pf Fin (.dr ops (⟨dst,.store T d x,ty,pos,after,gd⟩::rest)::k) E objs:=by
 refine R_op ?_ hr
 simp only[clsOf,hcl]
 refine LocOp.effect hg hgd hd (by simp) fun φ a w hρ hs=>?_
 simp only[Op.operands]at hρ
 have hxv:=hρ d (by simp)
 rw[hx]at hxv
 have hyv:=hρ x (by simp)
 simp only[RV]at hxv
 obtain⟨_,ph,hph,hxv⟩:=hxv
 have hk:=obj_at hs hph ho
 cases ph<;>try (simp only[ObOk]at hk;done)
 rename_i sz2 s2 v2 ob2
 simp only[ObOk]at hk
 obtain⟨rfl,rfl,hlen,hk⟩:=hk
 obtain⟨b,o,n,cap,h1,h2⟩:=(hxv _ _ _ _ rfl).2 rfl
 rcases hk with ⟨a2,_,rfl,_⟩ |⟨b',o',cap2,cs,T',h3,rfl,hheap,hn,hcap,hle,hrd⟩
 ·simp at hrow
 rw[h1]at h3
 simp only[Value.slice.injEq,Option.some.injEq,Addr.mk.injEq]at h3
 obtain⟨⟨rfl,rfl,_⟩,hnn,hcc⟩:=h3
 subst hcc
 have hrl:=hlen row (List.mem_of_getElem? hrow)
 have hrlt:=(List.getElem?_eq_some_iff.1 hrow).1
 have hτ:=hg.ty _ _ hT
 have hfit2:o+r * sz+sz≤cs.length:=by
  have:(r+1) * sz≤cap * sz:=Nat.mul_le_mul_right _ (by omega)
  rw[Nat.succ_mul]at this;omega
 obtain⟨hc1,hc2⟩:=cellsO_val hyv hc
 have hcd:=toDs_rvs hc1 hds
 have hcl:=hcd.length
 simp only[List.length_map]at hcl
 obtain⟨w',hrun,hst⟩:=run_storeVar (P:=g.P) hτ (o+r * sz+j) hheap rfl hc2 (by omega) (by omega)
 refine⟨.skip,undef,w',φ.set id (.sli sz s v2 (some b)),?_,.inr ⟨rfl,rfl⟩,by simp[RV],?_⟩
 ·simp only[execOp,Instr.storeAt,Instr.sureAddr,h2,Sem.run_bind,Sem.run_pure,Result.andThen_ok,hrun]
 rw[setN_eq]
 refine Stp.swap hs hph (.inl rfl) (by rw[hst.size];exact Nat.le_refl _) (fun c _ hc=>hst.other c fun e=>hc (by rw[e];rfl)) (fun b' hb=>.inl hb) hst.os hst.tape hst.out fun hkeep _=>?_
 simp only[ObOk]
 refine⟨trivial,trivial,fun r' hr'=>?_,.inr ⟨b,o,cap,splice cs (o+r * sz+j) (a.eval x).cells.toList,T',?_,rfl,hst.at_,?_,?_,?_,?_⟩⟩
 ·rcases List.mem_or_eq_of_mem_set hr' with h | h
  ·exact hlen r' h
  ·rw[h,spliceD_length];exact hrl
 ·rw[h1,hnn,List.length_set]
 ·rw[List.length_set];exact hn
 ·exact hcap
 ·rw[splice_length];exact hle
 ·intro i' r' j' x' hi hj
  have hr'l:r'.length=sz:=by
   rcases List.mem_or_eq_of_mem_set (List.mem_of_getElem? hi) with h |h
   ·exact hlen r' h
   ·rw[h,spliceD_length];exact hrl
  have hj'l:=(List.getElem?_eq_some_iff.1 hj).1
  rw[splice_get _ _ _ (by omega)]
  by_cases hir:r=i'
  ·subst hir
   rw[List.getElem?_set_self hrlt]at hi
   cases hi
   rw[spliceD_get _ _ _ (by omega)]at hj
   by_cases hjj:j≤j'∧j'<j+ds.length
   ·rw [if_pos hjj] at hj
    obtain⟨u,hu1,hu2⟩:=hcd.get (j' - j) (x:=.d x') (by rw[List.getElem?_map,hj];rfl)
    simp only[RV]at hu2
    refine⟨u,?_,hu2.mono hkeep⟩
    rw[if_pos (by omega),← hu1]
    congr 1;omega
   ·rw [if_neg hjj] at hj
    obtain⟨y,h4,h5⟩:=hrd r row j' x' hrow hj
    exact⟨y,by rw[if_neg (by omega)];exact h4,h5.mono hkeep⟩
  ·rw [List.getElem?_set_ne hir] at hi
   obtain⟨y,h4,h5⟩:=hrd i' r' j' x' hi hj
   refine⟨y,?_,h5.mono hkeep⟩
   rw[if_neg ?_];exact h4
   rintro⟨h6,h7⟩
   rcases Nat.lt_or_ge i' r with h |h
   ·have:(i'+1) * sz≤r * sz:=Nat.mul_le_mul_right _ h
    rw[Nat.succ_mul]at this;omega
   ·have:(r+1) * sz≤i' * sz:=Nat.mul_le_mul_right _ (by omega)
    rw[Nat.succ_mul]at this;omega
end
end PSL
namespace PSL
open Go Go.RowKit

mutual
def scalA:AV→Bool
 | .any=>true
 | .tt=>true
 | .ff=>true
 | .d (.v _)=>true
 | .agg l=>scalL l
 | .tup l=>scalL l
 |_=>false
def scalL:List AV→Bool
 |[]=>true
 |x::l=>bif scalA x then scalL l else false
end

mutual
theorem RV.scal {S S':Nat→Prop}{w w':World}{φ φ':List Phy}:∀ {x:AV} {v:Value},scalA x=true→RV S w φ x v→RV S' w' φ' x v
 | .any,_,_,_=>by simp[RV]
 | .tt,_,_,h=>by simpa[RV]using h
 | .ff,_,_,h=>by simpa[RV]using h
 | .d (.v x),v,_,h=>by simp only[RV]at h ⊢;cases h;exact .v _
 | .d (.sl _),_,h,_=>by simp[scalA]at h
 | .d (.ptr _),_,h,_=>by simp[scalA]at h
 | .fs _,_,h,_=>by simp[scalA]at h
 | .lo _ _,_,h,_=>by simp[scalA]at h
 | .el _ _ _ _,_,h,_=>by simp[scalA]at h
 | .vw _ _ _,_,h,_=>by simp[scalA]at h
 | .ow _ _,_,h,_=>by simp[scalA]at h
 | .mp _,_,h,_=>by simp[scalA]at h
 | .yl _,_,h,_=>by simp[scalA]at h
 | .clo _ _ _,_,h,_=>by simp[scalA]at h
 | .agg l,v,hn,h=>by
  simp only[RV]at h ⊢;simp only[scalA]at hn
  obtain⟨cs,h1,h2⟩:=h
  exact⟨cs,h1,RVs.scal hn h2⟩
 | .tup l,v,hn,h=>by
  simp only[RV]at h ⊢;simp only[scalA]at hn
  obtain⟨cs,h1,h2⟩:=h
  exact⟨cs,h1,RVs.scal hn h2⟩
theorem RVs.scal {S S':Nat→Prop}{w w':World}{φ φ':List Phy}:∀ {l:List AV} {vs:List Value},scalL l=true→RVs S w φ l vs→RVs S' w' φ' l vs
 |[],[],_,_=>by simp[RVs]
 |[],_::_,_,h=>by simp[RVs]at h
 |_::_,[],_,h=>by simp[RVs]at h
 |a::l,v::vs,hn,h=>by
  simp only[RVs]at h ⊢;simp only[scalL]at hn
  obtain⟨hn1,hn2⟩:=bifT hn
  exact⟨RV.scal hn1 h.1,RVs.scal hn2 h.2⟩
end

def isStill:Cls→Bool
 | .still=>true
 | .look m=>Nat.blt 0 m
 | .turn _=>false
section
variable {g:G} {pf:Nat→Cls} {ops:Array Oper} {Fin:Exit→Act→World→Prop}

theorem LocOp.seen {o:Oper}{E:Env}{objs:List Ob}{v:AV}{c:Cls}(hc:isStill c=false)(h:LocOp g ops o E objs (.look 0) v objs):LocOp g ops o E objs c v objs :=
 ⟨fun _=>rfl,fun _ _ _=>.refl _,fun E₁ o₁ o₁' a w h1 h2 h3=>h.step E₁ o₁ o₁' a w h1 (by
  rcases h2 with ⟨h2,_⟩ |⟨m,h2,_⟩ |h2
  ·subst h2;simp[isStill]at hc
  ·subst h2
   have:Nat.blt 0 (m+1)=true:=by rw[Nat.blt_eq];omega
   simp only[isStill]at hc
   rw[this]at hc;cases hc
  ·exact .inr (.inr h2)) h3⟩

theorem R_callO (hg:GOk g)(hu:GUp g){f:Nat}{axs:List AV}{r:AV}(hc:PCtr g.P f axs r){dst:Option Nat}{x:Operand}{args:Array Operand}{ts:Array Nat}{ty:Nat}{pos:String}{after:Array Edge}{gd:Option (Nat × Bool)}
  {rest:List Oper} {k:List It} {E:Env} {objs:List Ob} {fs cs as':List AV}
  (hgd:guardA ops.toList E gd=some true) (hd:dstOk ⟨g.ty,g.N⟩ dst=true) (hcl:isStill (clsOf pf (.call { callee:=.value x,args:=args,argTypes:=ts }))=false) (hx:ev E x=.clo f fs cs) (has:mapO (sealA objs 5) (fs++args.toList.map (ev E)++cs)=some as') (has':as'.map nrm=axs) (hpr:scalA r=true)
  (hr:R g pf Fin (.dr ops rest::k) (putO E dst r) objs) :
  R g pf Fin (.dr ops (⟨dst,.call { callee:=.value x,args:=args,argTypes:=ts },ty,pos,after,gd⟩::rest)::k) E objs:=by
 refine R_op (LocOp.seen hcl ?_) hr
 refine⟨fun _=>rfl,fun _ _ _=>.refl _,fun E₁ o₁ o₁' a w he ho hs Q=>?_⟩
 rcases ho with ⟨h,_⟩ |⟨_,h,_⟩ |⟨ho1,ho2⟩
 ·cases h
 ·cases h
 subst ho1;subst ho2
 obtain⟨φ,h1,h2,h3,h4,h5,h6⟩:=hs
 rw[wanted_of (guardA_ok hgd) he h3]
 simp only[if_true]
 refine⟨about_ok hg _ w a,?_⟩
 have hρ:=rv_ops (o:=⟨dst,.call { callee:=.value x,args:=args,argTypes:=ts },ty,pos,after,gd⟩) he h3
 simp only[Op.operands,Call.operands]at hρ
 have hxv:=hρ x (by simp)
 rw[hx]at hxv
 simp only[RV]at hxv
 obtain⟨va,vc,hxv,hfs,hcs⟩:=hxv
 have hargs:RVs (SS g.S0 φ) w φ (args.toList.map (ev E)) (args.toList.map a.eval):=RVs.map _ _ _ fun y hy=>hρ y (by simp[hy])
 have hbl:∀b,bls φ b→g.S0 b:=fun b hb=>(h2 b hb).elim (hu.up b) (hu.x b)
 have hall:=mapO_ok (S:=g.S0) (ψ:=[]) (fun x v y h1' h2'=>sealA_ok hbl h1 5 h1' h2') ((hfs.append hargs).append hcs) has
 have hall:=hall.mapEnt nrm Ent.nrm
 rw[has']at hall
 rw[Oper.semAt_eq _ _ _ (by simp),run_callv rfl hxv hc.call]
 refine⟨fun h=>by rw[hg.depth]at h;simp at h,?_⟩
 have hcall:=hc.run g.S0 w _ ((hg.ambAt h2 h6).up fun _ h=>h.1) h1.up hall
 refine(callsIn_free hg hcall).mono ?_
 rintro e w' ⟨v,rfl,hv,hb⟩
 have hst:Stp g.S0 φ w φ _ w':=⟨h1.later hb.size (fun b hb'=>hb.block b hb'),.of fun b hb' hl=>⟨hb',hb.block b hl⟩,.refl _,hb.size,hb.os,hb.tape,hb.output,fun b hb' _=>hb.block b hb',fun _ h=>.inl h,fun _ _ _ B h=>⟨B,h⟩⟩
 exact Sat.stp h2 h3 h4 h5 h6 hst (dstOk_ok hd) fun _=>hv.scal hpr

theorem R_indexS (hg:GOk g){dst:Option Nat}{T:Nat}{x i:Operand}{ty:Nat}{pos:String}{after:Array Edge}{gd:Option (Nat × Bool)}{rest:List Oper}{k:List It}{E:Env}{objs:List Ob}
  {q by_:Nat} {z:List Value} {s:ByteArray} {n:Int} {b:UInt8}
  (hgd:guardA ops.toList E gd=some true) (hd:dstOk ⟨g.ty,g.N⟩ dst=true) (hx:ev E x=.d (.v (.string s))) (hi:ev E i=.d (.v (.int .i64 n))) (hT:g.ty T=some ⟨q,by_,z,.str⟩)
  (h0:0≤n) (hb:s[n.toNat]? = some b)
  (hr:R g pf Fin (.dr ops rest::k) (putO E dst (.d (.v (.int .u8 b.toNat)))) objs):R g pf Fin (.dr ops (⟨dst,.index T x i,ty,pos,after,gd⟩::rest)::k) E objs:=by
 refine R_op (LocOp.up (LocOp.quiet hg hgd hd (by simp) fun φ objs a w hρ hs=>?_)) hr
 simp only[Op.operands]at hρ
 have hxv:=hρ x (by simp)
 rw[hx]at hxv
 have hiv:=hρ i (by simp)
 rw[hi]at hiv
 simp only[RV]at hxv hiv
 generalize hvi:a.eval i=vi at hiv
 generalize hvx:a.eval x=vx at hxv
 cases hiv;cases hxv
 have hu:=(hg.ty _ _ hT).sh
 simp only[ShFact]at hu
 refine out_val hs (vv:=.int .u8 b.toNat) ?_ (by simp only[RV];exact .v _)
 simp[execOp,Instr.index,hvi,hvx,asIntOf,underlying,hu,h0,hb]

theorem run_bound {P:Program}{w:World}{n:Int}{y:Nat}{c:BoundsCode}(h0:0≤n)(h1:n≤y):(Instr.sliceBound (.int .i64 n) y c).run P w=.ok n.toNat w:=by
 simp only[Instr.sliceBound,asIntOf,Sem.run_bind,Sem.run_pure,Result.andThen_ok]
 rw[Sem.run_ite,if_pos ⟨h0,h1⟩,Sem.run_pure]

def bndA (E:Env)(o:Option Operand)(d:Int):Option Int :=
 match o with
 |none=>some d
 |some x=>match ev E x with
  | .d (.v (.int .i64 n))=>some n
  |_=>none

theorem run_bounds {P:Program}{w:World}{E:Env}{a:Act}{sl:Bool}{len cap:Nat}{lo hi:Option Operand}{l h:Int}(hl:bndA E lo 0=some l)(hh:bndA E hi len=some h)
  (hlo:∀x,lo=some x→∀n,ev E x=.d (.v (.int .i64 n))→a.eval x=.int .i64 n) (hhi:∀x,hi=some x→∀n,ev E x=.d (.v (.int .i64 n))→a.eval x=.int .i64 n) (h0:0≤l) (h1:l≤h) (h2:h≤cap) :
  (Instr.sliceBounds sl len cap (lo.map a.eval) (hi.map a.eval) none).run P w=.ok (l.toNat,h.toNat,cap) w:=by
 have e1:∀d,(match (hi.map a.eval) with |some v=>Instr.sliceBound v cap d |none=>pure len:Sem Nat).run P w=.ok h.toNat w:=by
  intro d
  cases hi with
  |none=>simp only[bndA,Option.some.injEq]at hh;subst hh;simp
  |some x =>
   simp only[bndA]at hh
   split at hh
   ·rename_i n he; cases hh
    simp only[Option.map_some,hhi x rfl _ he];exact run_bound (by omega) h2
   ·cases hh
 have e2:∀d,(match (lo.map a.eval) with |some v=>Instr.sliceBound v h.toNat d |none=>pure 0:Sem Nat).run P w=.ok l.toNat w:=by
  intro d
  cases lo with
  |none=>simp only[bndA,Option.some.injEq]at hl;subst hl;simp
  |some x =>
   simp only[bndA]at hl
   split at hl
   ·rename_i n he; cases hl
    simp only[Option.map_some,hlo x rfl _ he];exact run_bound h0 (by omega)
   ·cases hl
 have e1':=e1 (if sl then .sliceAcap else .sliceAlen)
 have e2':=e2 .sliceB
 unfold Instr.sliceBounds
 cases hi<;>cases lo<;>simp only[Option.map_none,Option.map_some,Sem.run_bind,Sem.run_pure,Result.andThen_ok,Option.isSome_none,Bool.false_eq_true,if_false]at e1' e2' ⊢<;>simp_all

theorem R_sliceS (hg:GOk g){dst:Option Nat}{T:Nat}{x:Operand}{lo hi:Option Operand}{ty:Nat}{pos:String}{after:Array Edge}{gd:Option (Nat × Bool)}{rest:List Oper}{k:List It}{E:Env}{objs:List Ob}
  {q by_:Nat} {z:List Value} {s:ByteArray} {l h:Int}
  (hgd:guardA ops.toList E gd=some true) (hd:dstOk ⟨g.ty,g.N⟩ dst=true) (hx:ev E x=.d (.v (.string s))) (hl:bndA E lo 0=some l) (hh:bndA E hi s.size=some h) (hT:g.ty T=some ⟨q,by_,z,.str⟩)
  (h0:0≤l) (h1:l≤h) (h2:h≤s.size)
  (hr:R g pf Fin (.dr ops rest::k) (putO E dst (.d (.v (.string (s.extract l.toNat h.toNat))))) objs):R g pf Fin (.dr ops (⟨dst,.slice T x lo hi none,ty,pos,after,gd⟩::rest)::k) E objs:=by
 refine R_op (LocOp.up (LocOp.quiet hg hgd hd (by simp) fun φ objs a w hρ hs=>?_)) hr
 simp only[Op.operands]at hρ
 have hxv:=hρ x (by simp)
 rw[hx]at hxv
 simp only[RV]at hxv
 generalize hvx:a.eval x=vx at hxv
 cases hxv
 have hu:=(hg.ty _ _ hT).sh
 simp only[ShFact]at hu
 refine out_val hs (vv:=.string (s.extract l.toNat h.toNat)) ?_ (by simp only[RV];exact .v _)
 have hb:=run_bounds (P:=g.P) (w:=w) (sl:=false) (a:=a) hl hh (fun y hy n he=>by
  have:=hρ y (by simp[hy]);rw[he]at this;simp only[RV]at this;generalize a.eval y=u at this;cases this;rfl) (fun y hy n he=>by
  have:=hρ y (by simp[hy]);rw[he]at this;simp only[RV]at this;generalize a.eval y=u at this;cases this;rfl) h0 h1 h2
 simp[execOp,Instr.sliceAt,Instr.slice,hvx,underlying,hu,hb]

theorem R_appendF (hg:GOk g){dst:Option Nat}{T T':Nat}{x y:Operand}{ty:Nat}{pos:String}{after:Array Edge}{gd:Option (Nat × Bool)}{rest:List Oper}{k:List It}{E:Env}{objs:List Ob}
  {q q' by_ by' e e':Nat} {z z':List Value} {τ:Ty} {rows news:List (List D)}
  (hgd:guardA ops.toList E gd=some true) (hd:dstOk ⟨g.ty,g.N⟩ dst=true) (hx:ev E x=.fs rows∨(ev E x=.d (.v (.slice none 0 0))∧rows=[])) (hy:nrm (ev E y)=.d (.sl news)) (hne:rows=[]∨news≠[])
  (hT:g.ty T=some ⟨q,by_,z,.slice e⟩) (hT':g.ty T'=some ⟨q',by',z',.slice e'⟩) (he:g.ty e=some τ) (hlr:∀r∈rows,r.length=τ.size) (hlen:∀r∈news,r.length=τ.size)
  (hbytes:(rows.length+news.length) * τ.bytes≤140737488355328) (hmax:rows.length+news.length≤140737488355328)
  (hr:R g pf Fin (.dr ops rest::k) (putO E dst (.ow (len objs) 0)) (objs++[.arr τ.size 0 (rows++news)])) :
  R g pf Fin (.dr ops (⟨dst,.call { callee:=.builtin .append,args:=#[x,y],argTypes:=#[T,T'] },ty,pos,after,gd⟩::rest)::k) E objs:=by
 refine R_op (LocOp.turning hg (.add _ _) hgd hd (by simp) fun φ a w hρ hs=>?_) hr
 simp only[Op.operands,Call.operands]at hρ
 have hxv:=hρ x (by simp)
 have hyv:=Ent.nrm _ _ _ _ _ (hρ y (by simp))
 rw[hy]at hyv
 simp only[RV]at hyv
 have hxr:Rd (SS g.S0 φ) w (.sl rows) (a.eval x)∧∃a0,a.eval x=.slice a0 rows.length rows.length:=by
  rcases hx with hx |⟨hx,rfl⟩
  ·rw[hx]at hxv;simpa only[RV]using hxv
  ·rw [hx] at hxv; simp only [RV] at hxv
   generalize a.eval x=u at hxv
   cases hxv;exact⟨.nil _ _,_,rfl⟩
 obtain⟨hxr,a0,hv⟩:=hxr
 obtain⟨olds,hF⟩:=Fst.of_rd (P:=g.P) hxr hlr
 obtain⟨cells,hN⟩:=Fst.of_rd (P:=g.P) hyv hlen
 have hτ:=hg.ty _ _ he
 obtain⟨xa,xc,hxs⟩:=hN.sl
 have hall:∀r∈rows++news,r.length=τ.size:=fun r hr=>(List.mem_append.1 hr).elim (hlr r) (hlen r)
 have hmax':rows.length+news.length≤maxLen:=by simp only[maxLen];omega
 have hw:∀v',RV (SS g.S0 (φ++[Phy.sli τ.size 0 (.slice v' (rows.length+news.length) 0) none])) w φ .any (.slice v' 0 0):=fun _=>by simp[RV]
 by_cases hm:news.length=0
 ·have hnews:news=[]:=List.length_eq_zero_iff.1 hm
  subst hnews
  have hrows:rows=[]:=hne.resolve_right (fun h=>h rfl)
  subst hrows
  have hcells:cells=[]:=List.length_eq_zero_iff.1 (by simpa using hN.len)
  subst hcells
  have hrun:=run_app_none (tr:=ty) (und_slice hg hT) (und_slice hg hT') hτ (a:=a0) (n:=0) (cap:=0) hxs (hN.run w rfl) (Nat.le_refl _)
  have hst:=Stp.nilObj hs τ.size a0
  refine⟨.value (.slice a0 0 0),.slice a0 0 0,w,_,?_,.inl rfl,?_,hst⟩
  ·simp only [List.length_nil] at hv
   simp only[execOp,resolve,invoke,builtin,Sem.run_bind,Sem.run_pure,Result.andThen_ok,List.map_toArray,List.map_cons,List.map_nil,hv,hrun]
  ·simp only [RV]
   exact⟨⟨_,_,_,rfl⟩,.sli τ.size 0 (.slice a0 0 0) none,by rw[len_eq,← hs.len];simp,fun sz s x ob h=>by cases h;exact⟨Nat.le_refl _,fun _=>rfl⟩⟩
 ·rw [hv] at hF
  obtain⟨zs,cap',hc1,hc2,hzl,hrun⟩:=run_app_grow (tr:=ty) (und_slice hg hT) (und_slice hg hT') hτ hxs hF.run hN.run (by omega) hbytes hmax'
  refine⟨.value (.slice (some ⟨w.heap.size,0,none⟩) (rows.length+news.length) cap'),.slice (some ⟨w.heap.size,0,none⟩) (rows.length+news.length) cap',w.drew.alloc (.cells (olds++cells++zs).toArray e),φ++[.sli τ.size 0 (.slice (some ⟨w.heap.size,0,none⟩) (rows.length+news.length) cap') (some w.heap.size)],?_,.inl rfl,?_,?_⟩
  ·simp only[execOp,resolve,invoke,builtin,Sem.run_bind,Sem.run_pure,Result.andThen_ok,List.map_toArray,List.map_cons,List.map_nil,hv,hrun]
  ·simp only [RV]
   exact⟨⟨_,_,_,rfl⟩,.sli τ.size 0 (.slice (some ⟨w.heap.size,0,none⟩) (rows.length+news.length) cap') (some w.heap.size),by rw[len_eq,← hs.len];simp,fun sz s x ob h=>by cases h;exact⟨Nat.le_refl _,fun _=>rfl⟩⟩
  ·refine Stp.add hs (by show w.heap.size≤(w.heap.push _).size; simp) (fun c hc=>heap_drew_old hc) (fun b hb=>?_) rfl rfl rfl fun hkeep=>?_
   ·simp only[Phy.bl,Option.some.injEq]at hb;subst hb;exact⟨Nat.le_refl _,by show w.heap.size<(w.heap.push _).size;simp⟩
   ·simp only [ObOk]
    refine⟨trivial,trivial,hall,.inr ⟨_,0,cap',_,e,by rw[List.length_append],rfl,heap_drew_new,by rw[List.length_append];exact hc1,hc2,?_,?_⟩⟩
    ·simp only [List.length_append,hF.len,hN.len,hzl]
     rw[← Nat.add_mul,← Nat.add_mul]
     have:rows.length+news.length+(cap' - (rows.length+news.length))=cap':=by omega
     rw[this];omega
    ·intro i' r j x' hi hj
     obtain⟨y',h3,h4⟩:=rows_app hF hN hkeep i' r j x' hi hj (hall r (List.mem_of_getElem? hi))
     exact⟨y',by simpa using take_rows h3,h4⟩
end

theorem wrap_id {n:Int}(h1:-9223372036854775808≤n)(h2:n<9223372036854775808):IntKind.i64.wrap n=n:=by
 have e:IntKind.i64.wrap n=if n % 18446744073709551616 ≥ 9223372036854775808 then n % 18446744073709551616 - 18446744073709551616 else n % 18446744073709551616:=by
  simp[IntKind.wrap,IntKind.signed,IntKind.bits]
 rw[e]
 split<;>omega
theorem Ent.int {m n:Int}(h:m=n):Ent (.d (.v (.int .i64 m))) (iV n):=by subst h;exact .refl _

theorem Ent.wrap {m n:Int}(h:m=n)(h1:-9223372036854775808≤n)(h2:n<9223372036854775808):Ent (.d (.v (.int .i64 (IntKind.i64.wrap m)))) (iV n):=by
 subst h;rw[wrap_id h1 h2];exact .refl _
end PSL
namespace PSL
open Go Go.RowKit

inductive TT where
 |leaf
 |node (k:Nat) (l:TT) (v:Ty) (r:TT)

def TT.get:TT→Nat→Option Ty
 | .leaf,_=>none
 | .node k l v r,t=>bif Nat.beq t k then some v else bif Nat.ble t k then l.get t else r.get t

def zeq:Value→Value→Bool
 | .int k a,.int k' b=>kEq k k'&&a==b
 | .bool a,.bool b=>a==b
 | .string a,.string b=>a.size==0&&b.size==0
 | .slice none 0 0,.slice none 0 0=>true
 | .pointer none,.pointer none=>true
 | .nilFunc,.nilFunc=>true
 | .nilIface,.nilIface=>true
 | .map none,.map none=>true
 |_,_=>false
theorem size0 {a:ByteArray}(h:(a.size==0)=true):a=ByteArray.empty:=by simpa using h

theorem zeq_ok:∀ {a b:Value},zeq a b=true→a=b∧b.oneCell'=true
 | .int k a,.int k' b,h=>by
  simp only[zeq,Bool.and_eq_true,beq_iff_eq]at h
  rw[kEq_eq h.1,h.2];exact⟨rfl,rfl⟩
 | .bool a,.bool b,h=>by simp[zeq]at h;subst h;exact⟨rfl,rfl⟩
 | .string a,.string b,h=>by
  simp only[zeq,Bool.and_eq_true]at h
  rw[size0 h.1,size0 h.2];exact⟨rfl,rfl⟩
 |a,b,h=>by
  unfold zeq at h
  split at h
  ·simp only[Bool.and_eq_true,beq_iff_eq]at h;rw[kEq_eq h.1,h.2];exact⟨rfl,rfl⟩
  ·simp at h;subst h;exact⟨rfl,rfl⟩
  ·simp only [Bool.and_eq_true] at h
   rw[size0 h.1,size0 h.2];exact⟨rfl,rfl⟩
  all_goals first
   |exact⟨rfl,rfl⟩
   |cases h

def zeqL:List Value→List Value→Bool
 |[],[]=>true
 |a::l,b::m=>zeq a b&&zeqL l m
 |_,_=>false

theorem zeqL_ok:∀ {l m:List Value},zeqL l m=true→l=m∧∀v∈m,v.oneCell'=true
 |[],[],_=>⟨rfl,by simp⟩
 |[],_::_,h=>by simp[zeqL]at h
 |_::_,[],h=>by simp[zeqL]at h
 |a::l,b::m,h=>by
  simp only[zeqL,Bool.and_eq_true]at h
  obtain⟨h1,h2⟩:=zeq_ok h.1
  obtain⟨h3,h4⟩:=zeqL_ok h.2
  exact⟨by rw[h1,h3],fun v hv=>(List.mem_cons.1 hv).elim (fun e=>by rw[e];exact h2) (h4 v)⟩

def fldEq:List Field→List (Nat × Nat)→Bool
 |[],[]=>true
 |f::l,(o,t)::m=>f.offset==o&&f.type==t&&fldEq l m
 |_,_=>false

theorem fldEq_ok:∀ {l:List Field} {m:List (Nat × Nat)},fldEq l m=true→l.map (fun f=>(f.offset,f.type))=m
 |[],[],_=>rfl
 |[],_::_,h=>by simp[fldEq]at h
 |_::_,[],h=>by simp[fldEq]at h
 |f::l,(o,t)::m,h=>by
  simp only[fldEq,Bool.and_eq_true,beq_iff_eq]at h
  simp only[List.map_cons,fldEq_ok h.2,h.1.1,h.1.2]

def shChk (P:Program) (t:Nat):Sh→Bool
 | .one=>match P.underlying t with
  |some (.struct _)=>false
  |some (.array _ _)=>false
  |some _=>true
  |none=>false
 | .int k=>match P.underlying t with |some (.int k')=>kEq k' k |_=>false
 | .bool=>match P.underlying t with |some .bool=>true |_=>false
 | .str=>match P.underlying t with |some .string=>true |_=>false
 | .struct flds=>match P.underlying t with
  |some (.struct fs)=>fldEq fs.toList flds&&fs.toList.all fun f=>match P.info? f.type with |some i=>!(i.size==0) |none=>false
  |_=>false
 | .array n e=>match P.underlying t with |some (.array n' e')=>n'==n&&e'==e |_=>false
 | .slice e=>match P.underlying t with |some (.slice e')=>e'==e |_=>false
 | .map k e=>match P.underlying t with |some (.map k' e')=>k'==k&&e'==e |_=>false

theorem shChk_ok {P:Program}{t:Nat}{s:Sh}(h:shChk P t s=true):ShFact P t s:=by
 unfold shChk at h
 cases s<;>simp only[ShFact]at h ⊢
 ·split at h
  ·cases h
  ·cases h
  ·rename_i d hs ha hu
   exact⟨d,hu,fun fs e=>hs fs e,fun n e' e=>ha n e' e⟩
  ·cases h
 ·split at h
  ·rename_i k' hu;rw[hu,kEq_eq h]
  ·cases h
 ·split at h
  ·rename_i hu;exact hu
  ·cases h
 ·split at h
  ·rename_i hu;exact hu
  ·cases h
 ·split at h
  ·rename_i fs hu
   simp only[Bool.and_eq_true,List.all_eq_true]at h
   refine⟨fs,hu,fldEq_ok h.1,fun f hf=>?_⟩
   have:=h.2 f hf
   split at this
   ·rename_i i hi;exact⟨i,hi,by simpa using this⟩
   ·cases this
  ·cases h
 ·split at h
  ·rename_i n' e' hu;simp at h;rw[hu,h.1,h.2]
  ·cases h
 ·split at h
  ·rename_i e' hu;simp at h;rw[hu,h]
  ·cases h
 ·split at h
  ·rename_i k' e' hu;simp at h;rw[hu,h.1,h.2]
  ·cases h

def tyChk (P:Program)(t:Nat)(τ:Ty):Bool :=
 match P.info? t with
 |some i=>match i.zero with
  |some z=>i.size==τ.size&&i.bytes==τ.bytes&&zeqL z.cells.toList τ.zero&&len τ.zero==τ.size&&(τ.agg || τ.size==1)&&shChk P t τ.sh
  |none=>false
 |none=>false

theorem tyChk_ok {P:Program}{t:Nat}{τ:Ty}(h:tyChk P t τ=true):TyFact P t τ:=by
 unfold tyChk at h
 split at h
 case h_2=>cases h
 case h_1 i hi =>
 split at h
 case h_2=>cases h
 case h_1 z hz =>
 simp only[Bool.and_eq_true,beq_iff_eq,Bool.or_eq_true]at h
 obtain⟨⟨⟨⟨⟨h1,h2⟩,h3⟩,h4⟩,h5⟩,h6⟩:=h
 obtain⟨h7,h8⟩:=zeqL_ok h3
 refine⟨⟨i,z,hi,hz,h1,h2,h7⟩,by rw[← len_eq];exact h4,shChk_ok h6,fun ha=>?_,h8⟩
 rcases h5 with h5 |h5
 ·rw[ha]at h5;cases h5
 ·exact h5

def TT.chk (P:Program):TT→Bool
 | .leaf=>true
 | .node k l v r=>tyChk P k v&&l.chk P&&r.chk P

theorem TT.ok {P:Program}:∀ {T:TT},T.chk P=true→TyOk P T.get
 | .leaf,_,t,τ,h=>by simp[TT.get]at h
 | .node k l v r,hc,t,τ,h=>by
  simp only[TT.chk,Bool.and_eq_true]at hc
  simp only[TT.get]at h
  cases hb:Nat.beq t k
  ·rw [hb] at h; simp only [cond_false] at h
   cases hl:Nat.ble t k
   ·rw[hl]at h;exact TT.ok hc.2 t τ h
   ·rw[hl]at h;exact TT.ok hc.1.2 t τ h
  ·rw [hb] at h; simp only [cond_true,Option.some.injEq] at h
   subst h
   have:=natBeq hb;subst this
   exact tyChk_ok hc.1.1
end PSL
