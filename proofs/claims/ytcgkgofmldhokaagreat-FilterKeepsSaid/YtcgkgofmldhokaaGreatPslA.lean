import Derived.OrdersIn
import Derived.Below
import Derived.KernelRfl
import GoSem.ClaimData
import Derived.Laws.AppendOwn
namespace PSL
open Go

inductive D where
 |v (x:Value)
 |sl (rows:List (List D))
 |ptr (cells:List D)
 |map (es:List (Value × D))

inductive AV where
 |any
 |tt
 |ff
 |d (x:D)
 |fs (rows:List (List D))
 |agg (l:List AV)
 |lo (i off:Nat)
 |el (i s r j:Nat)
 |vw (i s r:Nat)
 |ow (i s:Nat)
 |mp (i:Nat)
 |tup (l:List AV)
 |clo (f:Nat) (first caps:List AV)
 |yl (i:Nat)

inductive Ob where
 |box (l:List AV)
 |arr (sz s:Nat) (rows:List (List D))
 |map (es:List (Value × AV))
 |yld (n:Nat)
 |mat (hs:List (Nat × Nat × Nat)) (rows:List (List D))
 |itr (s:ByteArray) (pos:Nat)
 |dead
 |tbox (T:Nat) (l:List AV)
 |byt (e s:Nat) (bs:List UInt8)

structure YP where
 ys:List (List AV)
 go:Nat→Bool

inductive Sh where
 |one
 |int (k:IntKind)
 |bool
 |str
 |struct (flds:List (Nat × Nat))
 |array (n e:Nat)
 |slice (e:Nat)
 |map (k e:Nat)

structure Ty where
 size:Nat
 bytes:Nat
 zero:List Value
 sh:Sh
def Ty.agg (t:Ty):Bool:=match t.sh with | .struct _=>true | .array _ _=>true |_=>false
abbrev Env:=List (Nat × AV)

def lk:Env→Nat→AV
 |[],_=>.any
 |(k,v)::r,t=>bif Nat.beq k t then v else lk r t

def rm:Env→Nat→Env
 |[],_=>[]
 |(k,v)::r,t=>bif Nat.beq k t then rm r t else (k,v)::rm r t
def put (E:Env)(t:Nat)(v:AV):Env:=(t,v)::rm E t

def nth {α:Type}:List α→Nat→Option α
 |[],_=>none
 |x::r,i=>bif Nat.beq i 0 then some x else nth r (Nat.pred i)

def setN {α:Type}:List α→Nat→α→List α
 |[],_,_=>[]
 |x::r,i,y=>bif Nat.beq i 0 then y::r else x::setN r (Nat.pred i) y

def len {α:Type}:List α→Nat
 |[]=>0
 |_::r=>Nat.succ (len r)

def cstV:Value→AV
 | .bool true=>.tt
 | .bool false=>.ff
 | .agg cs=>.agg (cs.toList.map fun x=>.d (.v x))
 |v=>.d (.v v)

def ev (E:Env):Operand→AV
 | .tmp t=>lk E t
 | .const v=>cstV v
 | .func f=>.clo f [] []
 | .global _=>.any
def iV (n:Int):AV:=.d (.v (.int .i64 n))
def bV (b:Bool):AV:=.d (.v (.bool b))

def one1:AV→Bool
 | .any=>false
 | .agg _=>false
 | .tup _=>false
 | .d (.v (.agg _))=>false
 | .d (.v (.tuple _))=>false
 |_=>true

def all1:List AV→Bool
 |[]=>true
 |x::r=>bif one1 x then all1 r else false

def cellsO:AV→Option (List AV)
 | .agg l=>bif all1 l then some l else none
 |x=>bif one1 x then some [x] else none

def toDs:List AV→Option (List D)
 |[]=>some []
 | .d x::r=>match toDs r with |some l=>some (x::l) |none=>none
 | .tt::r=>match toDs r with |some l=>some (.v (.bool true)::l) |none=>none
 | .ff::r=>match toDs r with |some l=>some (.v (.bool false)::l) |none=>none
 | .fs rows::r=>match toDs r with |some l=>some (.sl rows::l) |none=>none
 |_=>none

def packA (t:Ty)(l:List AV)(off:Nat):Option AV :=
 match t.agg with
 | true=>let x:=(l.drop off).take t.size
      bif Nat.beq (len x) t.size then some (.agg x) else none
 |false=>nth l off

def spliceA:List AV→Nat→List AV→List AV
 |l,_,[]=>l
 |l,off,x::r=>spliceA (setN l off x) (Nat.succ off) r

def rowsOf:List (Nat × AV)→Nat→Nat→Option (List (List D))
 |[],_,_=>some []
 | (i,x)::r,k,sz=>bif Nat.beq i k then
   match cellsO x with
   |none=>none
   |some l=>match toDs l with
   |some row=>bif Nat.beq (len row) sz then (match rowsOf r (Nat.succ k) sz with |some l=>some (row::l) |none=>none) else none
   |none=>none
  else none

def buildA (ty:Nat→Option Ty) (flds:List (Nat × Nat)):List (Nat × AV)→List AV→Option (List AV)
 |[],cs=>some cs
 |(i,x)::r,cs =>
  match nth flds i with
  |some (off,t)=>match ty t with
   |some τ=>match cellsO x with
    |some l=>bif Nat.beq (len l) τ.size then (bif Nat.ble (Nat.add off τ.size) (len cs) then buildA ty flds r (spliceA cs off l) else none) else none
    |none=>none
   |none=>none
  |none=>none

def lenA (sh:Sh) (objs:List Ob):AV→Option Int
 | .d (.sl rows)=>match sh with | .slice _=>some rows.length |_=>none
 | .d (.v (.slice none 0 0))=>match sh with | .slice _=>some 0 |_=>none
 | .d (.v (.string s))=>match sh with | .str=>some s.size |_=>none
 | .fs rows=>match sh with | .slice _=>some rows.length |_=>none
 | .ow i s=>match sh with
  | .slice _=>match nth objs i with
   |some (.arr _ s' rows)=>bif Nat.beq s s' then some rows.length else none
   |_=>none
  |_=>none
 | .mp i=>match sh with
  | .map _ _=>match nth objs i with
   |some (.map es)=>some es.length
   |_=>none
  |_=>none
 |_=>none

def lenN (sh:Sh)(objs:List Ob)(v:AV):Option Int :=
 match v with
 | .ow _ _=>none
 |v=>lenA sh objs v

theorem lenN_A {sh:Sh}{objs:List Ob}{v:AV}{n:Int}(h:lenN sh objs v=some n):lenA sh objs v=some n:=by
 cases v<;>first |(simp[lenN]at h;done) |exact h

def kEq:IntKind→IntKind→Bool
 | .i64,.i64=>true
 | .u8,.u8=>true
 | .i32,.i32=>true
 | .u64,.u64=>true
 | .u16,.u16=>true
 | .u32,.u32=>true
 | .i8,.i8=>true
 | .i16,.i16=>true
 |_,_=>false
def strEq (a b:ByteArray):Bool:=a.toList==b.toList

def boA:AV→Option Bool
 | .tt=>some true
 | .ff=>some false
 | .d (.v (.bool b))=>some b
 |_=>none

def binI (k:IntKind) (a b:Int):BinOp→Option AV
 | .eql=>some (bV (a==b))
 | .neq=>some (bV (a != b))
 | .lss=>some (bV (decide (a<b)))
 | .leq=>some (bV (decide (a≤b)))
 | .gtr=>some (bV (decide (a > b)))
 | .geq=>some (bV (decide (a ≥ b)))
 | .add=>some (.d (.v (.int k (k.wrap (a+b)))))
 | .sub=>some (.d (.v (.int k (k.wrap (a - b)))))
 | .mul=>some (.d (.v (.int k (k.wrap (a * b)))))
 |_=>none

def binS (a b:ByteArray):BinOp→Option AV
 | .eql=>some (bV (strEq a b))
 | .neq=>some (bV (!strEq a b))
 | .lss=>some (bV (Op.bytesLess a.toList b.toList))
 | .leq=>some (bV (Op.bytesLess a.toList b.toList || strEq a b))
 | .gtr=>some (bV (!(Op.bytesLess a.toList b.toList || strEq a b)))
 | .geq=>some (bV (!Op.bytesLess a.toList b.toList))
 |_=>none

def binB (a b:Bool):BinOp→Option AV
 | .eql=>some (bV (a==b))
 | .neq=>some (bV (!(a==b)))
 |_=>none

def isB (ty:Nat→Option Ty)(T:Nat):Bool :=
 match ty T with
 |some ⟨_,_,_,.bool⟩=>true
 |_=>false

def binA (tb:Bool)(op:BinOp)(x y:AV):Option AV :=
 match x,y with
 | .d (.v (.int k a)),.d (.v (.int k' b))=>bif kEq k k' then binI k a b op else none
 | .d (.v (.string a)),.d (.v (.string b))=>binS a b op
 |a,b=>match boA a,boA b with
  |some x,some y=>bif tb then binB x y op else none
  |_,_=>none

def pickA:AV→AV→AV→Option AV
 | .tt,a,_=>some a
 | .ff,_,b=>some b
 |_,_,_=>none

def stepS (ty:Nat→Option Ty) (ρ:Operand→AV):Op→Option AV
 | .move x=>some (ρ x)
 | .assign x=>some (ρ x)
 | .pick c a b=>pickA (ρ c) (ρ a) (ρ b)
 | .fieldAddr T x f=>match ty T with
  |some ⟨_,_,_,.struct flds⟩=>match nth flds f with
   |some (off,_)=>match ρ x with
    | .lo i o=>some (.lo i (o+off))
    | .el i s r j=>some (.el i s r (j+off))
    | .d (.ptr l)=>some (.d (.ptr (l.drop off)))
    |_=>none
   |none=>none
  |_=>none
 | .field T x f=>match ty T with
  |some ⟨_,_,_,.struct flds⟩=>match nth flds f with
   |some (off,t)=>match ty t,ρ x with
    |some τ,.agg l=>packA τ l off
    |_,_=>none
   |none=>none
  |_=>none
 | .binOp op T x y _=>binA (isB ty T) op (ρ x) (ρ y)
 | .unOp op _ x=>match op,ρ x with
  | .not,.tt=>some .ff
  | .not,.ff=>some .tt
  | .not,.d (.v (.bool b))=>some (bV (!b))
  | .neg,.d (.v (.int k n))=>some (.d (.v (.int k (k.wrap (0 - n)))))
  |_,_=>none
 | .nilCheck x=>match ρ x with
  | .lo i o=>some (.lo i o)
  | .el i s r j=>some (.el i s r j)
  | .d (.ptr l)=>some (.d (.ptr l))
  | .clo f a c=>some (.clo f a c)
  |_=>none
 | .convert S D x=>match ty S with
  |some _=>match ty D,ρ x with
   |some ⟨_,_,_,.int k⟩,.d (.v (.int _ n))=>some (.d (.v (.int k (k.wrap n))))
   |some ⟨_,_,_,.str⟩,.d (.v (.string s))=>some (.d (.v (.string s)))
   |_,_=>none
  |none=>none
 | .makeFunc (.func f) first caps=>some (.clo f (first.toList.map ρ) (caps.toList.map ρ))
 | .extract x k=>match ρ x with
  | .tup l=>nth l k
  |_=>none
 | .buildSlice T n parts=>match ty T with
  |some ⟨_,_,_,.slice e⟩=>match ty e with
   |some τ=>match rowsOf (parts.toList.map fun p=>(p.1,ρ p.2)) 0 τ.size with
    |some rows=>bif Nat.beq (len rows) n then (bif Nat.ble (Nat.mul n τ.size) 100000 then (bif Nat.ble n 100000 then some (.fs rows) else none) else none) else none
    |none=>none
   |none=>none
  |_=>none
 | .build T parts=>match ty T with
  |some ⟨_,_,z,.struct flds⟩=>match buildA ty flds (parts.toList.map fun p=>(p.1,ρ p.2)) (z.map fun x=>.d (.v x)) with
   |some cs=>some (.agg cs)
   |none=>none
  |_=>none
 |_=>none

def stepL (ty:Nat→Option Ty) (ρ:Operand→AV) (objs:List Ob):Op→Option AV
 | .load T a=>match ty T with
  |some τ=>match ρ a with
   | .lo i off=>match nth objs i with
    |some (.box l)=>packA τ l off
    |_=>none
   | .d (.ptr l)=>packA τ (l.map .d) 0
   |_=>none
  |none=>none
 | .call { callee:=.builtin .len,args,argTypes }=>match args.toList,argTypes.toList with
  |[x],[t]=>match ty t with
   |some τ=>match lenN τ.sh objs (ρ x) with |some n=>some (iV n) |none=>none
   |none=>none
  |_,_=>none
 |_=>none

def stepE (ty:Nat→Option Ty) (ρ:Operand→AV) (objs:List Ob):Op→Option (AV × List Ob)
 | .alloc T=>match ty T with
  |some τ=>some (.lo (len objs) 0,objs++[.box (τ.zero.map fun x=>.d (.v x))])
  |none=>none
 | .box T x=>match ty T with
  |some τ=>match cellsO (ρ x) with
   |some l=>bif Nat.beq (len l) τ.size then some (.lo (len objs) 0,objs++[.box l]) else none
   |none=>none
  |none=>none
 | .store T a x=>match ty T with
  |some τ=>match cellsO (ρ x) with
   |some new=>bif Nat.beq (len new) τ.size then (match ρ a with
    | .lo i off=>match nth objs i with
     |some (.box l)=>bif Nat.ble (Nat.add off τ.size) (len l) then some (.any,setN objs i (.box (spliceA l off new))) else none
     |_=>none
    |_=>none) else none
   |none=>none
  |none=>none
 |_=>none

def stepOp (ty:Nat→Option Ty)(ρ:Operand→AV)(objs:List Ob)(o:Op):Option (AV × List Ob) :=
 match stepS ty ρ o with
 |some v=>some (v,objs)
 |none=>match stepL ty ρ objs o with
  |some v=>some (v,objs)
  |none=>stepE ty ρ objs o

def nfL {α β:Type}(l:List α)(f:α→(α→β)→β)(k:List α→β):β :=
 match l with
 |[]=>k []
 |x::r=>f x fun x'=>nfL r f fun r'=>k (x'::r')

def nfV {β:Type}(v:AV)(k:AV→β):β :=
 match v with
 | .any=>k .any
 | .tt=>k .tt
 | .ff=>k .ff
 | .d (.v (.int q n))=>k (.d (.v (.int q n)))
 | .d (.v (.bool b))=>k (.d (.v (.bool b)))
 | .d (.v x)=>k (.d (.v x))
 | .d (.sl rows)=>k (.d (.sl rows))
 | .d (.ptr l)=>nfL l (fun x f=>f x) fun l'=>k (.d (.ptr l'))
 | .d (.map es)=>k (.d (.map es))
 | .fs rows=>nfL rows (fun r f=>nfL r (fun x g=>g x) f) fun rows'=>k (.fs rows')
 | .agg l=>nfL l (fun x f=>f x) fun l'=>k (.agg l')
 | .lo i o=>k (.lo i o)
 | .el i s r j=>k (.el i s r j)
 | .vw i s r=>k (.vw i s r)
 | .ow i s=>k (.ow i s)
 | .mp i=>k (.mp i)
 | .tup l=>nfL l (fun x f=>f x) fun l'=>k (.tup l')
 | .clo g a c=>nfL a (fun x f=>f x) fun a'=>nfL c (fun x f=>f x) fun c'=>k (.clo g a' c')
 | .yl i=>k (.yl i)

def nfO {β:Type}(o:Ob)(k:Ob→β):β :=
 match o with
 | .box l=>nfL l (fun x f=>f x) fun l'=>k (.box l')
 | .arr sz s rows=>k (.arr sz s rows)
 | .map es=>k (.map es)
 | .yld pre=>k (.yld pre)
 | .mat hs rows=>k (.mat hs rows)
 | .itr s pos=>k (.itr s pos)
 | .dead=>k .dead
 | .tbox T l=>nfL l (fun x f=>f x) fun l'=>k (.tbox T l')
 | .byt e s bs=>k (.byt e s bs)
def nfE {β:Type}(E:Env)(k:Env→β):β:=nfL E (fun x f=>f x) k

def guardA (ops:List Oper) (E:Env):Option (Nat × Bool)→Option Bool
 |none=>some true
 |some (j,want)=>match nth ops j with
  |some o=>match o.dst with
   |some d=>match lk E d with
    | .tt=>some want
    | .ff=>some (!want)
    | .tup []=>some false
    |_=>none
   |none=>none
  |none=>none

structure Ctx where
 ty:Nat→Option Ty
 N:Nat

def dstOk (c:Ctx):Option Nat→Bool
 |none=>true
 |some d=>Nat.ble (Nat.succ d) c.N

def putO (E:Env):Option Nat→AV→Env
 |none,_=>E
 |some d,v=>put E d v

def held (l4:Nat→Bool):Op→Bool
 | .load _ (.tmp t)=>l4 t
 | .store _ (.tmp t) _=>l4 (Nat.add 100000 t)
 | .call { callee:=.builtin .len,args,.. }=>match args.toList with
  |[.tmp t]=>l4 (Nat.add 200000 t)
  |_=>false
 | .buildSlice .. => l4 800000000
 |_=>false

def runOps (c:Ctx) (l4:Nat→Bool) (all:List Oper):List Oper→Env→List Ob→List Oper × Env × List Ob
 |[],E,objs=>([],E,objs)
 |o::r,E,objs =>
  match guardA all E o.guard with
  | some true=>bif held l4 o.op then (o::r,E,objs) else
   match stepOp c.ty (ev E) objs o.op with
   | some (v,objs')=>bif dstOk c o.dst then
     nfV v fun v'=>nfL objs' nfO fun objs''=>nfE (putO E o.dst v') fun E'=>runOps c l4 all r E' objs''
    else (o::r,E,objs)
   |none=>(o::r,E,objs)
  |some false=>bif dstOk c o.dst then nfE (putO E o.dst (.tup [])) fun E'=>runOps c l4 all r E' objs else (o::r,E,objs)
  |none=>(o::r,E,objs)

inductive It where
 |code (c:Code)
 |blk (id:Nat)
 |mark (M:Env→List Ob→Prop)
 |dr (ops:Array Oper) (rest:List Oper)

inductive Cfg where
 |mk (k:List It) (E:Env) (objs:List Ob)
 |bad

def exitK (id:Nat):List It→Option (List It)
 | .blk j::k=>bif Nat.beq j id then some k else exitK id k
 | .code _::k=>exitK id k
 | .mark _::k=>exitK id k
 |_=>none

def runC (c:Ctx) (l4:Nat→Bool):Nat→List It→Env→List Ob→Cfg
 |0,k,E,objs=>.mk k E objs
 |n+1,.dr ops rest::k,E,objs =>
  match runOps c l4 ops.toList rest E objs with
  |([],E',objs')=>runC c l4 n k E' objs'
  |(r,E',objs')=>.mk (.dr ops r::k) E' objs'
 |n+1,.code (.seq a b)::k,E,objs=>runC c l4 n (.code a :: .code b::k) E objs
 |n+1,.code .skip::k,E,objs=>runC c l4 n k E objs
 |n+1,.code (.block id b)::k,E,objs=>runC c l4 n (.code b :: .blk id::k) E objs
 |n+1,.blk _::k,E,objs=>runC c l4 n k E objs
 |n+1,.code (.exit id)::k,E,objs=>match exitK id k with
  |some k'=>runC c l4 n k' E objs
  |none=>.mk (.code (.exit id)::k) E objs
 |n+1,.code (.cond x a b)::k,E,objs=>match ev E x with
  | .tt=>runC c l4 n (.code a::k) E objs
  | .ff=>runC c l4 n (.code b::k) E objs
  |_=>.mk (.code (.cond x a b)::k) E objs
 |n+1,.code (.region id ops dr)::k,E,objs=>bif l4 (Nat.add 900000000 id) then .mk (.code (.region id ops dr)::k) E objs else runC c l4 n (.dr ops ops.toList::k) E objs
 |_+1,k,E,objs=>.mk k E objs
end PSL
namespace PSL
open Go

inductive Rd (S:Nat→Prop) (w:World):D→Value→Prop
 |v (x:Value):Rd S w (.v x) x
 |nil (a:Option Addr) (c:Nat):Rd S w (.sl []) (.slice a 0 c)
 | sl {rows:List (List D)} {b o cap sz:Nat} {cs:Array Value} {T:Nat} {fr:Nat × Nat} (g:Nat→Nat→Value)
   (hS:S b) (hb:w.heap[b]? = some (.cells cs T fr)) (hl:rows.length≤cap) (hc:cap≤maxLen)
   (hsz:∀ (i:Nat) (r:List D),rows[i]? = some r→r.length=sz)
   (hg:∀ (i:Nat) (r:List D) (j:Nat) (x:D),rows[i]? = some r→r[j]? = some x→cs[o+i * sz+j]? = some (g i j))
   (hr:∀ (i:Nat) (r:List D) (j:Nat) (x:D),rows[i]? = some r→r[j]? = some x→Rd S w x (g i j)) :
   Rd S w (.sl rows) (.slice (some ⟨b,o,none⟩) rows.length cap)
 | ptr {l:List D} {b o:Nat} {cs:Array Value} {T:Nat} {fr:Nat × Nat} (g:Nat→Value)
   (hS:S b) (hb:w.heap[b]? = some (.cells cs T fr))
   (hg:∀ (j:Nat) (x:D),l[j]? = some x→cs[o+j]? = some (g j))
   (hr:∀ (j:Nat) (x:D),l[j]? = some x→Rd S w x (g j)) :
   Rd S w (.ptr l) (.pointer (some ⟨b,o,none⟩))
 | map {es:List (Value × D)} {b clk:Nat} {ents:Array MapEntry} (g:Nat→Value)
   (hS:S b) (hb:w.heap[b]? = some (.map ents clk)) (hk:es.map (·.1)=ents.toList.map (·.key))
   (hg:∀ (i:Nat) (x:Value × D),es[i]? = some x→(ents[i]?).map (·.val)=some (g i))
   (hr:∀ (i:Nat) (x:Value × D),es[i]? = some x→Rd S w x.2 (g i)) :
   Rd S w (.map es) (.map (some b))

def dataO:Obj→Prop
 | .cells _ _ _=>True
 | .map _ _=>True
 |_=>False

def Keep (S:Nat→Prop)(w:World)(S':Nat→Prop)(w':World):Prop :=
 ∀b,S b→(∃o,w.heap[b]? = some o∧dataO o)→S' b∧w'.heap[b]? = w.heap[b]?

theorem Keep.of {S S':Nat→Prop}{w w':World}(h:∀b,S b→b<w.heap.size→S' b∧w'.heap[b]? = w.heap[b]?):Keep S w S' w' :=
 fun b hb ⟨_,hc,_⟩=>h b hb (Array.getElem?_eq_some_iff.1 hc).1
theorem Keep.refl (S:Nat→Prop)(w:World):Keep S w S w:=fun _ h _=>⟨h,rfl⟩

theorem lt_of_some {w:World}{b:Nat}{o:Obj}(h:w.heap[b]? = some o):b<w.heap.size :=
 (Array.getElem?_eq_some_iff.1 h).1

theorem Rd.mono {S S':Nat→Prop}{w w':World}(hk:Keep S w S' w'){x:D}{v:Value}(h:Rd S w x v):Rd S' w' x v:=by
 induction h with
 |v x=>exact .v x
 |nil a c=>exact .nil a c
 |sl g hS hb hl hc hsz hg _ ih =>
  obtain⟨h1,h2⟩:=hk _ hS ⟨_,hb,trivial⟩
  exact .sl g h1 (h2.trans hb) hl hc hsz hg ih
 |ptr g hS hb hg _ ih =>
  obtain⟨h1,h2⟩:=hk _ hS ⟨_,hb,trivial⟩
  exact .ptr g h1 (h2.trans hb) hg ih
 |map g hS hb hkk hg _ ih =>
  obtain⟨h1,h2⟩:=hk _ hS ⟨_,hb,trivial⟩
  exact .map g h1 (h2.trans hb) hkk hg ih

inductive Phy where
 |blk (b:Nat)
 |sli (sz s:Nat) (v:Value) (ob:Option Nat)
 |ext (l:Nat) (I:Nat→(Nat→Prop)→(Nat→Prop)→World→Prop) (B:Nat→Prop)
 |mat (bs:List Nat)
 |no

def Phy.bl:Phy→Nat→Prop
 | .blk b,c=>b=c
 | .sli _ _ _ ob,c=>ob=some c
 | .ext _ _ B,c=>B c
 | .mat bs,c=>c∈bs
 | .no,_=>False

mutual
def RV (S:Nat→Prop) (w:World) (φ:List Phy):AV→Value→Prop
 | .any,_=>True
 | .tt,v=>v=.bool true
 | .ff,v=>v=.bool false
 | .d x,v=>Rd S w x v
 | .fs rows,v=>Rd S w (.sl rows) v∧∃a,v=.slice a rows.length rows.length
 | .agg l,v=>∃cs:List Value,v=.agg cs.toArray∧RVs S w φ l cs
 | .lo i off,v=>∃b,φ[i]? = some (.blk b)∧v=.pointer (some ⟨b,off,none⟩)
 | .el i t r j,v=>(∃ b o,v=.pointer (some ⟨b,o,none⟩))∧∃ ph,φ[i]? = some ph∧∀ sz s x ob,ph=.sli sz s x ob→t≤s ∧
   (t=s→∃b o n cap,x=.slice (some ⟨b,o,none⟩) n cap∧v=.pointer (some ⟨b,o+r * sz+j,none⟩))
 | .vw i t r,v=>(∃ p n c,v=.slice p n c)∧∃ ph,φ[i]? = some ph∧∀ sz s x ob,ph=.sli sz s x ob→t≤s ∧
   (t=s→∃a n cap p c,x=.slice a n cap∧v=.slice p (n - r) c∧(r<n→∃b o,a=some ⟨b,o,none⟩∧p=some ⟨b,o+r * sz,none⟩))
 | .ow i t,v=>(∃p n c,v=.slice p n c)∧∃ph,φ[i]? = some ph∧∀sz s x ob,ph=.sli sz s x ob→t≤s∧(t=s→v=x)
 | .mp i,v=>∃b,φ[i]? = some (.blk b)∧v=.map (some b)
 | .tup l,v=>∃vs:List Value,v=.tuple vs.toArray∧RVs S w φ l vs
 | .clo f a c,v=>∃va vc:List Value,v=.func (.func f) va.toArray vc.toArray∧RVs S w φ a va∧RVs S w φ c vc
 | .yl i,v=>∃l I B,φ[i]? = some (.ext l I B)∧v=.func (.yield l) #[] #[]
def RVs (S:Nat→Prop) (w:World) (φ:List Phy):List AV→List Value→Prop
 |[],[]=>True
 |a::l,v::vs=>RV S w φ a v∧RVs S w φ l vs
 |_,_=>False
end

def PhLe (p p':Phy):Prop :=
 p'=p∨(∃sz s x ob sz' s' x' ob',p=.sli sz s x ob∧p'=.sli sz' s' x' ob'∧s<s')∨(∃sz s x ob,p=.sli sz s x ob∧p'=.no)∨(∃l I B B',p=.ext l I B∧p'=.ext l I B')∨(∃bs bs',p=.mat bs∧p'=.mat bs')
def PhsLe (φ φ':List Phy):Prop:=∀ (i:Nat) (p:Phy),φ[i]? = some p→∃p',φ'[i]? = some p'∧PhLe p p'

theorem PhLe.trans {p q r:Phy}(h:PhLe p q)(k:PhLe q r):PhLe p r:=by
 rcases h with rfl |⟨sz,s,x,ob,sz',s',x',ob',rfl,rfl,h⟩ |⟨sz,s,x,ob,rfl,rfl⟩ |⟨l,I,B,B',rfl,rfl⟩ |⟨bs,bs',rfl,rfl⟩
 ·exact k
 ·rcases k with rfl | ⟨sz2,s2,x2,ob2,sz3,s3,x3,ob3,e1,rfl,h2⟩ | ⟨sz2,s2,x2,ob2,e1,rfl⟩ | ⟨l,I,B,B',e1,_⟩ | ⟨bs,bs',e1,_⟩
  ·exact .inr (.inl ⟨_,_,_,_,_,_,_,_,rfl,rfl,h⟩)
  ·cases e1;exact .inr (.inl ⟨_,_,_,_,_,_,_,_,rfl,rfl,Nat.lt_trans h h2⟩)
  ·exact .inr (.inr (.inl ⟨_,_,_,_,rfl,rfl⟩))
  ·cases e1
  ·cases e1
 ·rcases k with rfl | ⟨sz2,s2,x2,ob2,sz3,s3,x3,ob3,e1,_,_⟩ | ⟨sz2,s2,x2,ob2,e1,_⟩ | ⟨l,I,B,B',e1,_⟩ | ⟨bs,bs',e1,_⟩
  ·exact .inr (.inr (.inl ⟨_,_,_,_,rfl,rfl⟩))
  ·cases e1
  ·cases e1
  ·cases e1
  ·cases e1
 ·rcases k with rfl | ⟨sz2,s2,x2,ob2,sz3,s3,x3,ob3,e1,_,_⟩ | ⟨sz2,s2,x2,ob2,e1,_⟩ | ⟨l2,I2,B2,B3,e1,rfl⟩ | ⟨bs,bs',e1,_⟩
  ·exact .inr (.inr (.inr (.inl ⟨_,_,_,_,rfl,rfl⟩)))
  ·cases e1
  ·cases e1
  ·cases e1;exact .inr (.inr (.inr (.inl ⟨_,_,_,_,rfl,rfl⟩)))
  ·cases e1
 ·rcases k with rfl | ⟨sz2,s2,x2,ob2,sz3,s3,x3,ob3,e1,_,_⟩ | ⟨sz2,s2,x2,ob2,e1,_⟩ | ⟨l2,I2,B2,B3,e1,rfl⟩ | ⟨bs2,bs3,e1,rfl⟩
  ·exact .inr (.inr (.inr (.inr ⟨_,_,rfl,rfl⟩)))
  ·cases e1
  ·cases e1
  ·cases e1
  ·exact .inr (.inr (.inr (.inr ⟨_,_,rfl,rfl⟩)))

theorem PhsLe.trans {φ ψ χ:List Phy}(h:PhsLe φ ψ)(k:PhsLe ψ χ):PhsLe φ χ:=fun i p hi =>
 let ⟨_,h1,h2⟩:=h i p hi
 let ⟨r,h3,h4⟩:=k i _ h1
 ⟨r,h3,h2.trans h4⟩
theorem PhsLe.refl (φ:List Phy):PhsLe φ φ:=fun _ p h=>⟨p,h,.inl rfl⟩

theorem PhsLe.app (φ ψ:List Phy):PhsLe φ (φ++ψ):=fun i p h=>⟨p,by
 have:i<φ.length:=(List.getElem?_eq_some_iff.1 h).1
 rw[List.getElem?_append_left this];exact h,.inl rfl⟩
section
variable {S S':Nat→Prop} {w w':World} {φ φ':List Phy}

mutual
theorem RV.mono (hk:Keep S w S' w')(hp:PhsLe φ φ'):∀ {x:AV} {v:Value},RV S w φ x v→RV S' w' φ' x v
 | .any,_,_=>by simp[RV]
 | .tt,_,h=>by simpa[RV]using h
 | .ff,_,h=>by simpa[RV]using h
 | .d x,v,h=>by simp only[RV]at h ⊢;exact h.mono hk
 | .fs rows,v,h=>by simp only[RV]at h ⊢;exact⟨h.1.mono hk,h.2⟩
 | .agg l,v,h=>by
  simp only[RV]at h ⊢
  obtain⟨cs,h1,h2⟩:=h
  exact⟨cs,h1,RVs.mono hk hp h2⟩
 | .lo i off,v,h=>by
  simp only[RV]at h ⊢
  obtain⟨b,h1,h2⟩:=h
  obtain⟨p',h3,h4⟩:=hp _ _ h1
  rcases h4 with rfl |⟨sz,s,x,ob,sz',s',x',ob',h5,_⟩ |⟨sz,s,x,ob,h5,_⟩ |⟨l0,I0,B0,B0',h5,_⟩ |⟨bs0,bs0',h5,_⟩
  ·exact⟨b,h3,h2⟩
  ·cases h5
  ·cases h5
  ·cases h5
  ·cases h5
 | .el i t r j,v,h=>by
  simp only[RV]at h ⊢
  obtain⟨h0,ph,h1,h2⟩:=h
  obtain⟨p',h3,h4⟩:=hp _ _ h1
  refine⟨h0,p',h3,fun sz' s' x' ob' he=>?_⟩
  rcases h4 with rfl |⟨sz,s,x,ob,sz1,s1,x1,ob1,h5,h6,h7⟩ |⟨sz,s,x,ob,_,h6⟩ |⟨l0,I0,B0,B0',_,h6⟩ |⟨bs0,bs0',_,h6⟩
  ·exact h2 _ _ _ _ he
  ·subst he;cases h6;obtain⟨h8,h9⟩:=h2 _ _ _ _ h5;exact⟨by omega,fun e=>by omega⟩
  ·subst he;cases h6
  ·subst he;cases h6
  ·subst he;cases h6
 | .vw i t r,v,h=>by
  simp only[RV]at h ⊢
  obtain⟨h0,ph,h1,h2⟩:=h
  obtain⟨p',h3,h4⟩:=hp _ _ h1
  refine⟨h0,p',h3,fun sz' s' x' ob' he=>?_⟩
  rcases h4 with rfl |⟨sz,s,x,ob,sz1,s1,x1,ob1,h5,h6,h7⟩ |⟨sz,s,x,ob,_,h6⟩ |⟨l0,I0,B0,B0',_,h6⟩ |⟨bs0,bs0',_,h6⟩
  ·exact h2 _ _ _ _ he
  ·subst he;cases h6;obtain⟨h8,h9⟩:=h2 _ _ _ _ h5;exact⟨by omega,fun e=>by omega⟩
  ·subst he;cases h6
  ·subst he;cases h6
  ·subst he;cases h6
 | .ow i t,v,h=>by
  simp only[RV]at h ⊢
  obtain⟨h0,ph,h1,h2⟩:=h
  obtain⟨p',h3,h4⟩:=hp _ _ h1
  refine⟨h0,p',h3,fun sz' s' x' ob' he=>?_⟩
  rcases h4 with rfl |⟨sz,s,x,ob,sz1,s1,x1,ob1,h5,h6,h7⟩ |⟨sz,s,x,ob,_,h6⟩ |⟨l0,I0,B0,B0',_,h6⟩ |⟨bs0,bs0',_,h6⟩
  ·exact h2 _ _ _ _ he
  ·subst he;cases h6;obtain⟨h8,h9⟩:=h2 _ _ _ _ h5;exact⟨by omega,fun e=>by omega⟩
  ·subst he;cases h6
  ·subst he;cases h6
  ·subst he;cases h6
 | .mp i,v,h=>by
  simp only[RV]at h ⊢
  obtain⟨b,h1,h2⟩:=h
  obtain⟨p',h3,h4⟩:=hp _ _ h1
  rcases h4 with rfl |⟨sz,s,x,ob,sz',s',x',ob',h5,_⟩ |⟨sz,s,x,ob,h5,_⟩ |⟨l0,I0,B0,B0',h5,_⟩ |⟨bs0,bs0',h5,_⟩
  ·exact⟨b,h3,h2⟩
  ·cases h5
  ·cases h5
  ·cases h5
  ·cases h5
 | .tup l,v,h=>by
  simp only[RV]at h ⊢
  obtain⟨cs,h1,h2⟩:=h
  exact⟨cs,h1,RVs.mono hk hp h2⟩
 | .clo f a c,v,h=>by
  simp only[RV]at h ⊢
  obtain⟨va,vc,h1,h2,h3⟩:=h
  exact⟨va,vc,h1,RVs.mono hk hp h2,RVs.mono hk hp h3⟩
 | .yl i,v,h=>by
  simp only[RV]at h ⊢
  obtain⟨l,I,B,h1,h2⟩:=h
  obtain⟨p',h3,h4⟩:=hp _ _ h1
  rcases h4 with rfl |⟨sz,s,x,ob,sz',s',x',ob',h5,_⟩ |⟨sz,s,x,ob,h5,_⟩ |⟨l0,I0,B0,B0',h5,h6⟩ |⟨bs0,bs0',h5,_⟩
  ·exact⟨l,I,B,h3,h2⟩
  ·cases h5
  ·cases h5
  ·cases h5;subst h6;exact⟨_,_,_,h3,h2⟩
  ·cases h5
theorem RVs.mono (hk:Keep S w S' w')(hp:PhsLe φ φ'):∀ {l:List AV} {vs:List Value},RVs S w φ l vs→RVs S' w' φ' l vs
 |[],[],_=>by simp[RVs]
 |[],_::_,h=>by simp[RVs]at h
 |_::_,[],h=>by simp[RVs]at h
 |a::l,v::vs,h=>by
  simp only[RVs]at h ⊢
  exact⟨RV.mono hk hp h.1,RVs.mono hk hp h.2⟩
end
end
section
variable {S:Nat→Prop} {w:World} {φ:List Phy}

theorem RVs.length:∀ {l:List AV} {vs:List Value},RVs S w φ l vs→l.length=vs.length
 |[],[],_=>rfl
 |[],_::_,h=>by simp[RVs]at h
 |_::_,[],h=>by simp[RVs]at h
 |_::_,_::_,h=>by simp only[RVs]at h;simp[h.2.length]

theorem RVs.get:∀ {l:List AV} {vs:List Value} (i:Nat) {x:AV},RVs S w φ l vs→l[i]? = some x→∃v,vs[i]? = some v∧RV S w φ x v
 |[],[],_,_,_,h=>by simp at h
 |[],_::_,_,_,h,_=>by simp[RVs]at h
 |_::_,[],_,_,h,_=>by simp[RVs]at h
 |a::l,v::vs,0,x,h,hx=>by
  simp only[RVs]at h;simp at hx;subst hx;exact⟨v,rfl,h.1⟩
 |a::l,v::vs,i+1,x,h,hx=>by
  simp only[RVs]at h;simp at hx;simpa using h.2.get i hx

theorem RVs.append:∀ {l l':List AV} {vs vs':List Value},RVs S w φ l vs→RVs S w φ l' vs'→RVs S w φ (l++l') (vs++vs')
 |[],_,[],_,_,h=>by simpa using h
 |[],_,_::_,_,h,_=>by simp[RVs]at h
 |_::_,_,[],_,h,_=>by simp[RVs]at h
 |a::l,_,v::vs,_,h,h'=>by
  simp only[RVs,List.cons_append]at h ⊢;exact⟨h.1,h.2.append h'⟩

theorem RVs.drop:∀ {l:List AV} {vs:List Value} (n:Nat),RVs S w φ l vs→RVs S w φ (l.drop n) (vs.drop n)
 |l,vs,0,h=>by simpa using h
 |[],[],n+1,_=>by simp[RVs]
 |[],_::_,_,h=>by simp[RVs]at h
 |_::_,[],_,h=>by simp[RVs]at h
 |_::l,_::vs,n+1,h=>by simp only[RVs]at h;simpa using h.2.drop n

theorem RVs.take:∀ {l:List AV} {vs:List Value} (n:Nat),RVs S w φ l vs→RVs S w φ (l.take n) (vs.take n)
 |l,vs,0,_=>by simp[RVs]
 |[],[],n+1,_=>by simp[RVs]
 |[],_::_,_,h=>by simp[RVs]at h
 |_::_,[],_,h=>by simp[RVs]at h
 |_::l,_::vs,n+1,h=>by simp only[RVs]at h;simp only[List.take_succ_cons,RVs];exact⟨h.1,h.2.take n⟩

theorem RVs.of_get:∀ {l:List AV} {vs:List Value},l.length=vs.length→(∀ (i:Nat) (x:AV) (v:Value),l[i]? = some x→vs[i]? = some v→RV S w φ x v)→RVs S w φ l vs
 |[],[],_,_=>by simp[RVs]
 |[],_::_,h,_=>by simp at h
 |_::_,[],h,_=>by simp at h
 |a::l,v::vs,h,hg=>by
  simp only[RVs]
  refine⟨hg 0 a v rfl rfl,RVs.of_get (by simpa using h) fun i x v hx hv=>hg (i+1) x v (by simpa using hx) (by simpa using hv)⟩

theorem RVs.map {α:Type}(f:α→AV)(g:α→Value):∀ (l:List α),(∀x∈l,RV S w φ (f x) (g x))→RVs S w φ (l.map f) (l.map g)
 |[],_=>by simp[RVs]
 |x::l,h=>by
  simp only[List.map_cons,RVs];exact⟨h x (by simp),RVs.map f g l fun y hy=>h y (by simp[hy])⟩
end
end PSL
namespace PSL
open Go Go.RowKit

def EntsOk (S:Nat→Prop)(w:World)(φ:List Phy)(es:List (Value × AV))(ents:List MapEntry):Prop :=
 es.map (·.1)=ents.map (·.key)∧RVs S w φ (es.map (·.2)) (ents.map (·.val))

def Stab (I:Nat→(Nat→Prop)→(Nat→Prop)→World→Prop):Prop :=
 ∀n B R R' w w',w.heap.size≤w'.heap.size→(∀b,B b→w'.heap[b]? = w.heap[b]?)→Keep R w R' w'→I n B R w→I n B R' w'

def ObOk (S:Nat→Prop) (w:World) (φ:List Phy):Phy→Ob→Prop
 | .blk b,.box l=>∃ (cs:List Value) (T:Nat),w.heap[b]? = some (.cells cs.toArray T (0,0))∧RVs S w φ l cs
 | .blk b,.map es=>∃ (ents:Array MapEntry) (clk:Nat),w.heap[b]? = some (.map ents clk)∧EntsOk S w φ es ents.toList
 | .sli sz s v ob,.arr sz' s' rows=>sz'=sz∧s'=s∧(∀ r∈rows,r.length=sz) ∧
   ((∃ a,v=.slice a 0 0∧rows=[]∧ob=none) ∨
     (∃ (b o cap:Nat) (cs:List Value) (T:Nat),v=.slice (some ⟨b,o,none⟩) rows.length cap∧ob=some b∧w.heap[b]? = some (.cells cs.toArray T (0,0)) ∧
     rows.length≤cap∧cap≤maxLen∧o+cap * sz≤cs.length ∧
     ∀ (i:Nat) (r:List D) (j:Nat) (x:D),rows[i]? = some r→r[j]? = some x→∃y,cs[o+i * sz+j]? = some y∧Rd S w x y))
 | .blk b,.tbox T l=>∃cs:List Value,w.heap[b]? = some (.cells cs.toArray T (0,0))∧RVs S w φ l cs
 | .sli sz s v ob,.byt e s' bs=>sz=1∧s'=s∧ob=v.ownBlock∧w.ownsRow 0 e 1 v bs.length (bs.map fun x=>Value.int .u8 x.toNat)
 | .blk b,.itr s pos=>w.heap[b]? = some (.stringIter s pos)
 | .ext _ I B,.yld n=>Stab I∧I n B S w
 | .mat bs,.mat hs rows=>bs=hs.map (·.1)∧bs.Nodup∧rows.length=hs.length∧∀ (i:Nat) (x:Nat × Nat × Nat) (r:List D),hs[i]? = some x→rows[i]? = some r →
   ∃ (cs:List Value) (T:Nat),w.heap[x.1]? = some (.cells cs.toArray T (0,0))∧r.length≤x.2.2∧x.2.2≤maxLen∧x.2.1+r.length≤cs.length∧∀ (j:Nat) (d:D),r[j]? = some d→∃y,cs[x.2.1+j]? = some y∧Rd S w d y
 |_,.dead=>True
 |_,_=>False

theorem ownsRow_same {w w':World}{e sz n:Nat}{v:Value}{xs:List Value}(h:w.ownsRow 0 e sz v n xs)(hb:∀b,v.ownBlock=some b→w'.heap[b]? = w.heap[b]?):w'.ownsRow 0 e sz v n xs:=by
 refine⟨h.1,?_⟩
 rcases h.2 with hn |⟨g,cap,cur,rfl,hbb,hgg,rest⟩
 ·exact .inl hn
 ·exact .inr ⟨g,cap,cur,rfl,hbb,(hb g rfl).trans hgg,rest⟩

theorem ObOk.mono {S S':Nat→Prop}{w w':World}{φ φ':List Phy}(hk:Keep S w S' w')(hp:PhsLe φ φ'){ph:Phy}{ob:Ob}(hsz:w.heap.size≤w'.heap.size)
  (hb:∀b,ph.bl b→w'.heap[b]? = w.heap[b]?) (h:ObOk S w φ ph ob):ObOk S' w' φ' ph ob:=by
 cases ph<;>cases ob<;>simp only[ObOk]at h ⊢
 ·obtain ⟨cs,T,h1,h2⟩:=h
  exact⟨cs,T,(hb _ rfl).trans h1,h2.mono hk hp⟩
 ·obtain ⟨cs,T,h1,h2,h3⟩:=h
  exact⟨cs,T,(hb _ rfl).trans h1,h2,h3.mono hk hp⟩
 ·exact(hb _ rfl).trans h
 ·obtain ⟨cs,h1,h2⟩:=h
  exact⟨cs,(hb _ rfl).trans h1,h2.mono hk hp⟩
 ·obtain ⟨h0,h0',h1,h2⟩:=h
  refine⟨h0,h0',h1,?_⟩
  rcases h2 with h2 |⟨b,o,cap,cs,T,h2,h3,h4,h5,h6,h7,h8⟩
  ·exact .inl h2
  ·refine .inr ⟨b,o,cap,cs,T,h2,h3,(hb _ h3).trans h4,h5,h6,h7,fun i r j x hi hj=>?_⟩
   obtain⟨y,h9,h10⟩:=h8 i r j x hi hj
   exact⟨y,h9,h10.mono hk⟩
 ·obtain ⟨h1,h2,h3,h4⟩:=h
  exact⟨h1,h2,h3,ownsRow_same h4 fun b hbb=>hb _ (by rw[h3];exact hbb)⟩
 ·exact⟨h.1,h.1 _ _ _ _ _ _ hsz (fun b hB=>hb b hB) hk h.2⟩
 ·obtain ⟨h0,h0',h1,h2⟩:=h
  refine⟨h0,h0',h1,fun i x r hi hr=>?_⟩
  obtain⟨cs,T,h3,h4,h5,h6,h7⟩:=h2 i x r hi hr
  refine⟨cs,T,(hb _ (show x.1∈_ from h0 ▸ List.mem_map.2 ⟨x,List.mem_of_getElem? hi,rfl⟩)).trans h3,h4,h5,h6,fun j d hd=>?_⟩
  obtain⟨y,h8,h9⟩:=h7 j d hd
  exact⟨y,h8,h9.mono hk⟩
def bls (φ:List Phy)(b:Nat):Prop:=∃ (i:Nat) (ph:Phy),φ[i]? = some ph∧ph.bl b
def Dist (φ:List Phy):Prop:=∀ (i j:Nat) (p q:Phy) (b:Nat),φ[i]? = some p→φ[j]? = some q→p.bl b→q.bl b→i=j
def SS (S0:Nat→Prop)(φ:List Phy)(b:Nat):Prop:=S0 b∧¬ bls φ b

structure HS (S0:Nat→Prop) (φ:List Phy) (objs:List Ob) (w:World):Prop where
 len:φ.length=objs.length
 ok:∀ (i:Nat) (ph:Phy) (ob:Ob),φ[i]? = some ph→objs[i]? = some ob→ObOk (SS S0 φ) w φ ph ob
 dist:Dist φ
 lt:∀b,bls φ b→b<w.heap.size
 up:∀b,w.heap.size≤b→S0 b

theorem bls_app {φ:List Phy}{p:Phy}{b:Nat}:bls (φ++[p]) b↔bls φ b∨p.bl b:=by
 constructor
 ·rintro ⟨i,q,h1,h2⟩
  rcases Nat.lt_or_ge i φ.length with hi |hi
  ·rw[List.getElem?_append_left hi]at h1;exact .inl ⟨i,q,h1,h2⟩
  ·rw [List.getElem?_append_right hi] at h1
   have:i - φ.length=0:=by
    rcases Nat.eq_zero_or_pos (i - φ.length) with h |h
    ·exact h
    ·rw[List.getElem?_eq_none (by simp;omega)]at h1;cases h1
   rw[this]at h1;simp at h1;subst h1;exact .inr h2
 ·rintro (⟨i,q,h1,h2⟩ | h)
  ·exact⟨i,q,by rw[List.getElem?_append_left (List.getElem?_eq_some_iff.1 h1).1];exact h1,h2⟩
  ·exact⟨φ.length,p,by simp,h⟩
theorem heap_alloc_lt {w:World}{o:Obj}{b:Nat}(h:b<w.heap.size):(w.alloc o).heap[b]? = w.heap[b]? := Below.heap_alloc w o b h
theorem heap_alloc_new (w:World)(o:Obj):(w.alloc o).heap[w.heap.size]? = some o:=by show (w.heap.push o)[w.heap.size]? = some o;simp
theorem keep_alloc (S:Nat→Prop)(w:World)(o:Obj):Keep S w S (w.alloc o):=.of fun _ h hb=>⟨h,heap_alloc_lt hb⟩

theorem HS.alloc {S0:Nat→Prop}{φ:List Phy}{objs:List Ob}{w:World}(h:HS S0 φ objs w)(o:Obj):HS S0 φ objs (w.alloc o) where
 len:=h.len
 ok i ph ob h1 h2:=(h.ok i ph ob h1 h2).mono (keep_alloc _ _ _) (.refl _) (by simp) fun b hb=>heap_alloc_lt (h.lt b ⟨i,ph,h1,hb⟩)
 dist:=h.dist
 lt b hb:=by have:=h.lt b hb;simp;omega
 up b hb:=h.up b (by simp at hb;omega)

theorem HS.later {S0:Nat→Prop}{φ:List Phy}{objs:List Ob}{w w':World}(h:HS S0 φ objs w)(hs:w.heap.size≤w'.heap.size)
  (hk:∀b,b<w.heap.size→w'.heap[b]? = w.heap[b]?):HS S0 φ objs w' where
 len:=h.len
 ok i ph ob h1 h2:=(h.ok i ph ob h1 h2).mono (.of fun b hb hl=>⟨hb,hk b hl⟩) (.refl _) hs fun b hb=>hk b (h.lt b ⟨i,ph,h1,hb⟩)
 dist:=h.dist
 lt b hb:=by have:=h.lt b hb;omega
 up b hb:=h.up b (by omega)

theorem keep_new {S0:Nat→Prop}{φ:List Phy}{w:World}{p:Phy}{o:Obj}(hp:∀b,p.bl b→b=w.heap.size) :
  Keep (SS S0 φ) w (SS S0 (φ++[p])) (w.alloc o):=.of fun b h hb=>⟨⟨h.1,fun hc=>by
   rcases bls_app.1 hc with hc |hc
   ·exact h.2 hc
   ·have:=hp b hc;omega⟩,heap_alloc_lt hb⟩

theorem dist_app {φ:List Phy}{p:Phy}(h:Dist φ)(hp:∀b,p.bl b→¬ bls φ b):Dist (φ++[p]):=by
 have key:∀ (i:Nat) (q:Phy),(φ++[p])[i]? = some q→(φ[i]? = some q)∨(i=φ.length∧q=p):=by
  intro i q h1
  rcases Nat.lt_or_ge i φ.length with hi |hi
  ·rw[List.getElem?_append_left hi]at h1;exact .inl h1
  ·rw [List.getElem?_append_right hi] at h1
   have:i - φ.length=0:=by
    rcases Nat.eq_zero_or_pos (i - φ.length) with h |h
    ·exact h
    ·rw[List.getElem?_eq_none (by simp;omega)]at h1;cases h1
   rw[this]at h1;simp at h1;exact .inr ⟨by omega,h1.symm⟩
 intro i j q r b h1 h2 h3 h4
 rcases key i q h1 with g1 |⟨g1,g1'⟩<;>rcases key j r h2 with g2 |⟨g2,g2'⟩
 ·exact h i j q r b g1 g2 h3 h4
 ·subst g2';exact absurd ⟨i,q,g1,h3⟩ (hp b h4)
 ·subst g1';exact absurd ⟨j,r,g2,h4⟩ (hp b h3)
 ·omega

theorem HS.new {S0:Nat→Prop}{φ:List Phy}{objs:List Ob}{w:World}(h:HS S0 φ objs w){p:Phy}{ob:Ob}{o:Obj}
  (hp:∀b,p.bl b→b=w.heap.size)
  (hok:ObOk (SS S0 (φ++[p])) (w.alloc o) (φ++[p]) p ob):HS S0 (φ++[p]) (objs++[ob]) (w.alloc o) where
 len:=by simp[h.len]
 ok i ph ob' h1 h2:=by
  rcases Nat.lt_or_ge i φ.length with hi |hi
  ·rw [List.getElem?_append_left hi] at h1
   rw[List.getElem?_append_left (by rw[← h.len];exact hi)]at h2
   exact(h.ok i ph ob' h1 h2).mono (keep_new hp) (.app _ _) (by simp) fun b hb=>heap_alloc_lt (h.lt b ⟨i,ph,h1,hb⟩)
  ·rw [List.getElem?_append_right hi] at h1
   rw[List.getElem?_append_right (by rw[← h.len];exact hi)]at h2
   have:i - φ.length=0:=by
    rcases Nat.eq_zero_or_pos (i - φ.length) with h |h
    ·exact h
    ·rw[List.getElem?_eq_none (by simp;omega)]at h1;cases h1
   rw[this]at h1;rw[← h.len,this]at h2;simp at h1 h2;subst h1;subst h2
   exact hok
 dist:=dist_app h.dist fun b hb hc=>by have:=h.lt b hc;have:=hp b hb;omega
 lt b hb:=by
  rcases bls_app.1 hb with hb |hb
  ·have:=h.lt b hb;simp;omega
  ·have:=hp b hb;simp;omega
 up b hb:=h.up b (by simp at hb;omega)

theorem nth_eq {α:Type}:∀ (l:List α) (i:Nat),nth l i=l[i]?
 |[],_=>by simp[nth]
 |x::l,0=>by simp[nth]
 |x::l,i+1=>by simp only[nth,Nat.beq,cond_false,Nat.pred,nth_eq l i,List.getElem?_cons_succ]

theorem setN_eq {α:Type}:∀ (l:List α) (i:Nat) (y:α),setN l i y=l.set i y
 |[],_,_=>by simp[setN]
 |x::l,0,y=>by simp[setN]
 |x::l,i+1,y=>by simp only[setN,Nat.beq,cond_false,Nat.pred,setN_eq l i y,List.set_cons_succ]

theorem len_eq {α:Type}:∀ (l:List α),len l=l.length
 |[]=>rfl
 |_::l=>by simp[len,len_eq l]

theorem HS.turn {S0:Nat→Prop}{φ:List Phy}{objs:List Ob}{w w':World}(h:HS S0 φ objs w){i b:Nat}{p:Phy}{ob:Ob}
  (hi:φ[i]? = some p) (hb:p.bl b) (hs:w'.heap.size=w.heap.size) (hk:∀c,c≠b→w'.heap[c]? = w.heap[c]?)
  (hok:ObOk (SS S0 φ) w' φ p ob):HS S0 φ (objs.set i ob) w' where
 len:=by simp[h.len]
 ok j ph ob' h1 h2:=by
  by_cases hj:i=j
  ·subst hj
   have hl:i<objs.length:=by rw[← h.len];exact(List.getElem?_eq_some_iff.1 hi).1
   rw[hi]at h1;cases h1
   simp[hl]at h2;subst h2;exact hok
  ·rw [List.getElem?_set_ne hj] at h2
   refine(h.ok j ph ob' h1 h2).mono (fun c hc _=>⟨hc,hk c fun e=>hc.2 ⟨i,p,hi,by rw[e];exact hb⟩⟩) (.refl _) (by rw[hs];exact Nat.le_refl _) fun c hc=>hk c fun e=>?_
   exact hj (h.dist i j p ph b hi h1 hb (e ▸ hc))
 dist:=h.dist
 lt c hc:=by rw[hs];exact h.lt c hc
 up c hc:=h.up c (by omega)

theorem keep_turn {S0:Nat→Prop}{φ:List Phy}{w w':World}{i b:Nat}{p:Phy}
  (hi:φ[i]? = some p) (hb:p.bl b) (hk:∀c,c≠b→w'.heap[c]? = w.heap[c]?):Keep (SS S0 φ) w (SS S0 φ) w' :=
 fun c hc _=>⟨hc,hk c fun e=>hc.2 ⟨i,p,hi,by rw[e];exact hb⟩⟩
end PSL
namespace PSL
open Go Go.RowKit

def ShFact (P:Program) (t:Nat):Sh→Prop
 | .one=>∃d,P.underlying t=some d∧(∀fs,d≠.struct fs)∧(∀n e,d≠.array n e)
 | .int k=>P.underlying t=some (.int k)
 | .bool=>P.underlying t=some .bool
 | .str=>P.underlying t=some .string
 | .struct flds=>∃ fs:Array Field,P.underlying t=some (.struct fs)∧fs.toList.map (fun f=>(f.offset,f.type))=flds ∧
   ∀f∈fs.toList,∃i,P.info? f.type=some i∧i.size≠0
 | .array n e=>P.underlying t=some (.array n e)
 | .slice e=>P.underlying t=some (.slice e)
 | .map k e=>P.underlying t=some (.map k e)

structure TyFact (P:Program) (t:Nat) (τ:Ty):Prop where
 info:∃i z,P.info? t=some i∧i.zero=some z∧i.size=τ.size∧i.bytes=τ.bytes∧z.cells.toList=τ.zero
 zl:τ.zero.length=τ.size
 sh:ShFact P t τ.sh
 one:τ.agg=false→τ.size=1
 z1:∀v∈τ.zero,v.oneCell'=true
def TyOk (P:Program)(ty:Nat→Option Ty):Prop:=∀t τ,ty t=some τ→TyFact P t τ
section
variable {P:Program} {t:Nat} {τ:Ty} (h:TyFact P t τ) (w:World)
include h

theorem TyFact.und:∃d,P.underlying t=some d∧(τ.agg=true↔(∃fs,d=.struct fs)∨(∃n e,d=.array n e)):=by
 have hs:=h.sh
 unfold Ty.agg
 cases hh:τ.sh<;>rw[hh]at hs<;>simp only[ShFact]at hs
 ·obtain ⟨d,h1,h2,h3⟩:=hs
  exact⟨d,h1,by simp;exact⟨h2,h3⟩⟩
 all_goals first
  |exact⟨_,hs,by simp⟩
  |(obtain⟨fs,h1,_⟩:=hs;exact⟨_,h1,by simp⟩)

theorem run_isAgg:(isAgg t).run P w=.ok τ.agg w:=by
 obtain⟨d,h1,h2⟩:=h.und
 simp only[isAgg,underlying]
 simp[h1]
 cases d<;>simp at h2 ⊢<;>simp[h2]

theorem run_sizeOf:(Go.sizeOf t).run P w=.ok τ.size w:=by
 obtain⟨i,z,h1,_,h3,_⟩:=h.info
 simp[Go.sizeOf,typeInfo,h1,h3]

theorem run_zeroValue:∃z,(zeroValue t).run P w=.ok z w∧z.cells.toList=τ.zero:=by
 obtain⟨i,z,h1,h2,h3,_,h5⟩:=h.info
 exact⟨z,by simp[zeroValue,typeInfo,h1,h2],h5⟩
end
section
variable {P:Program} {w:World} {b T:Nat} {cs:List Value}

theorem cell_of {fr:Nat × Nat}(hb:w.heap[b]? = some (.cells cs.toArray T fr))(o:Nat):w.cell? ⟨b,o,none⟩=cs[o]? := by
 simp[World.cell?,hb]

theorem add_none (b o n:Nat):(⟨b,o,none⟩:Addr).add n=⟨b,o+n,none⟩:=by
 unfold Addr.add;split
 ·subst_vars;rfl
 ·rfl

theorem run_loadCellsFrom {fr:Nat × Nat}(hb:w.heap[b]? = some (.cells cs.toArray T fr))(o:Nat):∀ (n i:Nat) (acc:Array Value),o+i+n≤cs.length →
  (loadCellsFrom ⟨b,o,none⟩ i n acc).run P w=.ok (acc++((cs.drop (o+i)).take n).toArray) w
 |0,i,acc,_=>by simp[loadCellsFrom]
 |n+1,i,acc,h=>by
  have hlt:o+i<cs.length:=by omega
  have hc:w.cell? ⟨b,o+i,none⟩=some cs[o+i]:=by rw[cell_of hb];exact List.getElem?_eq_getElem hlt
  simp only[loadCellsFrom,add_none,Sem.run_bind,run_load,hc,Result.andThen_ok]
  rw[run_loadCellsFrom hb o n (i+1) _ (by omega)]
  have:(cs.drop (o+i)).take (n+1)=cs[o+i]::(cs.drop (o+(i+1))).take n:=by
   rw[List.drop_eq_getElem_cons hlt,List.take_succ_cons,Nat.add_assoc]
  rw[this]
  simp

theorem run_loadCells {fr:Nat × Nat}(hb:w.heap[b]? = some (.cells cs.toArray T fr))(o n:Nat)(h:o+n≤cs.length) :
  (loadCells ⟨b,o,none⟩ n).run P w=.ok ((cs.drop o).take n).toArray w:=by
 rw[loadCells,run_loadCellsFrom hb o n 0 #[] (by omega)];simp

def pack (τ:Ty)(l:List Value):Value:=if τ.agg then .agg l.toArray else l.headD undef

theorem run_loadVar {t:Nat}{τ:Ty}(hτ:TyFact P t τ){fr:Nat × Nat}(hb:w.heap[b]? = some (.cells cs.toArray T fr))(o:Nat)(h:o+τ.size≤cs.length) :
  (loadVar t ⟨b,o,none⟩).run P w=.ok (pack τ ((cs.drop o).take τ.size)) w:=by
 unfold loadVar pack
 rw[Sem.run_bind,run_isAgg hτ]
 simp only[Result.andThen_ok]
 cases ha:τ.agg
 ·have h1:=hτ.one ha
  have hc:w.cell? ⟨b,o,none⟩=some (cs[o]'(by omega)):=by rw[cell_of hb];exact List.getElem?_eq_getElem (by omega)
  simp only[Bool.false_eq_true,if_false,run_load,hc,h1]
  rw[List.drop_eq_getElem_cons (by omega:o<cs.length)]
  rfl
 ·simp only[if_true,Sem.run_bind,run_sizeOf hτ,Result.andThen_ok,run_loadCells hb o τ.size h,Sem.run_pure]

def splice:List Value→Nat→List Value→List Value
 |l,_,[]=>l
 |l,off,x::r=>splice (l.set off x) (off+1) r

theorem splice_length:∀ (new l:List Value) (off:Nat),(splice l off new).length=l.length
 |[],_,_=>rfl
 |x::r,l,off=>by simp[splice,splice_length r]

theorem setCell_heap {fr:Nat × Nat}(hb:w.heap[b]? = some (.cells cs.toArray T fr))(o:Nat)(v:Value) :
  (w.setCell ⟨b,o,none⟩ v).heap[b]? = some (.cells (cs.set o v).toArray T fr):=by
 simp[World.setCell,Array.getElem?_modify,hb,Array.setIfInBounds]
 intro h;rw[List.set_eq_of_length_le h]

structure Stored (w w':World) (b T:Nat) (cs:List Value):Prop where
 at_:w'.heap[b]? = some (.cells cs.toArray T (0,0))
 size:w'.heap.size=w.heap.size
 os:w'.os=w.os
 tape:w'.tape=w.tape
 out:w'.output=w.output
 other:∀c,c≠b→w'.heap[c]? = w.heap[c]?

theorem run_storeCells:∀ (vs:List Value) (i o:Nat) (w:World) (cs:List Value),w.heap[b]? = some (.cells cs.toArray T (0,0))→(∀v∈vs,v.oneCell'=true)→o+i+vs.length≤cs.length →
  ∃w',(storeCells ⟨b,o,none⟩ vs i).run P w=.ok () w'∧Stored w w' b T (splice cs (o+i) vs)
 |[],i,o,w,cs,hb,_,h=>⟨w,by simp[storeCells],by simpa[splice]using hb,rfl,rfl,rfl,rfl,fun _ _=>rfl⟩
 |v::vs,i,o,w,cs,hb,hv,h=>by
  simp only[List.length_cons]at h
  have hc:w.cell? ⟨b,o+i,none⟩=some (cs[o+i]'(by omega)):=by rw[cell_of hb];exact List.getElem?_eq_getElem (by omega)
  have hf:w.frozen? ⟨b,o+i,none⟩=false:=by simp[World.frozen?,hb]
  obtain⟨w',h1,h2⟩:=run_storeCells vs (i+1) o (w.setCell ⟨b,o+i,none⟩ v) (cs.set (o+i) v) (setCell_heap hb _ _) (fun x hx=>hv x (by simp[hx])) (by simp;omega)
  refine⟨w',?_,?_⟩
  ·simp only [storeCells,add_none,Sem.run_bind,run_store P w _ _ _ (hv v (by simp)),hc,hf,Bool.false_eq_true,if_false,Result.andThen_ok]
   exact h1
  ·have hsp:splice (cs.set (o+i) v) (o+(i+1)) vs=splice cs (o+i) (v::vs):=by
    rw[splice,Nat.add_assoc]
   rw[hsp]at h2
   exact⟨h2.at_,by rw[h2.size];simp,h2.os,h2.tape,h2.out,fun c hc=>(h2.other c hc).trans (Below.heap_setCell _ _ _ _ hc)⟩

theorem run_storeVar {t:Nat}{τ:Ty}(hτ:TyFact P t τ)(o:Nat)(hb:w.heap[b]? = some (.cells cs.toArray T (0,0))){v:Value}{vs:List Value}
  (hv:v.cells.toList=vs) (h1:∀x∈vs,x.oneCell'=true) (hl:vs.length=τ.size) (h:o+τ.size≤cs.length) :
  ∃w',(storeVar t ⟨b,o,none⟩ v).run P w=.ok () w'∧Stored w w' b T (splice cs o vs):=by
 subst hv
 obtain⟨w',h2,h3⟩:=run_storeCells (P:=P) v.cells.toList 0 o w cs hb h1 (by omega)
 refine⟨w',?_,by simpa using h3⟩
 have hsz:v.cells.size=τ.size:=by simpa using hl
 simp only[storeVar,Sem.run_bind,run_sizeOf hτ,Result.andThen_ok,hsz,ne_eq,not_true_eq_false,if_false]
 exact h2
end
end PSL
namespace PSL
open Go Go.RowKit

theorem bifS {α:Type}{c:Bool}{x y:α}(h:(bif c then some x else none)=some y):c=true∧x=y:=by
 cases c
 ·simp at h
 ·exact⟨rfl,by simpa using h⟩

theorem bifO {α:Type}{c:Bool}{x:Option α}{y:α}(h:(bif c then x else none)=some y):c=true∧x=some y:=by
 cases c
 ·simp at h
 ·exact⟨rfl,by simpa using h⟩
theorem natBeq {a b:Nat}(h:Nat.beq a b=true):a=b:=Nat.eq_of_beq_eq_true h

structure Stp (S0:Nat→Prop) (φ:List Phy) (w:World) (φ':List Phy) (objs':List Ob) (w':World):Prop where
 hs:HS S0 φ' objs' w'
 keep:Keep (SS S0 φ) w (SS S0 φ') w'
 le:PhsLe φ φ'
 size:w.heap.size≤w'.heap.size
 os:w'.os=w.os
 tape:w'.tape=w.tape
 out:w'.output=w.output
 fr:∀b,b<w.heap.size→¬ bls φ b→w'.heap[b]? = w.heap[b]?
 own:∀b,bls φ' b→bls φ b∨w.heap.size≤b
 ext:∀ (i l:Nat) (I:Nat→(Nat→Prop)→(Nat→Prop)→World→Prop) (B:Nat→Prop),φ'[i]? = some (.ext l I B)→∃B0,φ[i]? = some (.ext l I B0)

theorem Stp.refl {S0:Nat→Prop}{φ:List Phy}{objs:List Ob}{w:World}(h:HS S0 φ objs w):Stp S0 φ w φ objs w :=
 ⟨h,.refl _ _,.refl _,Nat.le_refl _,rfl,rfl,rfl,fun _ _ _=>rfl,fun _ h=>.inl h,fun _ _ _ B h=>⟨B,h⟩⟩

theorem Stp.alloc {S0:Nat→Prop}{φ:List Phy}{objs:List Ob}{w:World}(h:HS S0 φ objs w)(o:Obj):Stp S0 φ w φ objs (w.alloc o) :=
 ⟨h.alloc o,keep_alloc _ _ _,.refl _,by simp,rfl,rfl,rfl,fun _ hb _=>heap_alloc_lt hb,fun _ h=>.inl h,fun _ _ _ B h=>⟨B,h⟩⟩

theorem ext_app {φ:List Phy}{p:Phy}(hx:∀l I B,p≠Phy.ext l I B){i l:Nat}{I:Nat→(Nat→Prop)→(Nat→Prop)→World→Prop}{B:Nat→Prop}(h:(φ++[p])[i]? = some (.ext l I B)):φ[i]? = some (.ext l I B):=by
 rcases Nat.lt_or_ge i φ.length with hi |hi
 ·rw[List.getElem?_append_left hi]at h;exact h
 ·rw [List.getElem?_append_right hi] at h
  have:i - φ.length=0:=by
   rcases Nat.eq_zero_or_pos (i - φ.length) with h0 |h0
   ·exact h0
   ·rw[List.getElem?_eq_none (by simp;omega)]at h;cases h
  rw[this]at h;simp at h;exact absurd h (hx _ _ _)

theorem Stp.new {S0:Nat→Prop}{φ:List Phy}{objs:List Ob}{w:World}(h:HS S0 φ objs w){p:Phy}{ob:Ob}{o:Obj}
  (hp:∀b,p.bl b→b=w.heap.size) (hok:ObOk (SS S0 (φ++[p])) (w.alloc o) (φ++[p]) p ob) (hx:∀l I B,p≠Phy.ext l I B:=by intro _ _ _ h;cases h) :
  Stp S0 φ w (φ++[p]) (objs++[ob]) (w.alloc o) :=
 ⟨h.new hp hok,keep_new hp,.app _ _,by simp,rfl,rfl,rfl,fun _ hb _=>heap_alloc_lt hb,fun b hb=>by
  rcases bls_app.1 hb with hb |hb
  ·exact .inl hb
  ·exact .inr (by rw[hp b hb];exact Nat.le_refl _),fun _ _ _ B h=>⟨B,ext_app hx h⟩⟩

def Out (P:Program)(s:Sem Next)(S0:Nat→Prop)(φ:List Phy)(w:World)(v:AV)(objs':List Ob):Prop :=
 ∃ (n:Next) (vv:Value) (w':World) (φ':List Phy),s.run P w=.ok n w'∧(n=.value vv∨(n=.skip∧vv=undef))∧RV (SS S0 φ') w' φ' v vv∧Stp S0 φ w φ' objs' w'
section
variable {P:Program} {ty:Nat→Option Ty} (hty:TyOk P ty) {S0:Nat→Prop} {φ:List Phy} {objs:List Ob} {w:World} (hs:HS S0 φ objs w)

theorem one1_val {S:Nat→Prop}{x:AV}{v:Value}(h:RV S w φ x v)(h1:one1 x=true):v.oneCell'=true∧v.cells=#[v]:=by
 have key:∀v:Value,v.oneCell'=true→v.cells=#[v]:=by intro v hv;cases v<;>simp[Value.oneCell',Value.cells]at *
 suffices hv:v.oneCell'=true from⟨hv,key v hv⟩
 cases x<;>simp only[RV]at h<;>simp only[one1]at h1
 case any=>cases h1
 case tt=>subst h;rfl
 case ff=>subst h;rfl
 case d x =>
  cases h with
  |v=>cases v<;>simp_all[Value.oneCell']
  |nil=>rfl
  |sl=>rfl
  |ptr=>rfl
  |map=>rfl
 case fs rows=>obtain⟨_,a,rfl⟩:=h;rfl
 case agg l=>cases h1
 case lo i off=>obtain⟨b,_,rfl⟩:=h;rfl
 case el i s r j=>obtain⟨⟨b,o,rfl⟩,_⟩:=h;rfl
 case ow i s=>obtain⟨⟨p,n,c,rfl⟩,_⟩:=h;rfl
 case vw i s r=>obtain⟨⟨p,n,c,rfl⟩,_⟩:=h;rfl
 case mp i=>obtain⟨b,_,rfl⟩:=h;rfl
 case tup l=>cases h1
 case clo f a c=>obtain⟨va,vc,rfl,_⟩:=h;rfl
 case yl i=>obtain⟨l,I,B,_,rfl⟩:=h;rfl

theorem all1_val {S:Nat→Prop}:∀ {l:List AV} {vs:List Value},RVs S w φ l vs→all1 l=true→∀v∈vs,v.oneCell'=true
 |[],[],_,_=>by simp
 |[],_::_,h,_=>by simp[RVs]at h
 |_::_,[],h,_=>by simp[RVs]at h
 |a::l,v::vs,h,h1=>by
  simp only[RVs]at h
  simp only[all1]at h1
  cases ha:one1 a
  ·simp[ha]at h1
  ·simp only [ha,cond_true] at h1
   intro x hx
   rcases List.mem_cons.1 hx with rfl |hx
   ·exact(one1_val h.1 ha).1
   ·exact all1_val h.2 h1 x hx

theorem cellsO_val {S:Nat→Prop}{x:AV}{v:Value}{l:List AV}(h:RV S w φ x v)(hc:cellsO x=some l) :
  RVs S w φ l v.cells.toList∧∀c∈v.cells.toList,c.oneCell'=true:=by
 have key:one1 x=true→l=[x]→RVs S w φ l v.cells.toList∧∀c∈v.cells.toList,c.oneCell'=true:=by
  intro h1 he
  obtain⟨h2,h3⟩:=one1_val h h1
  rw[h3,he]
  simp only[RVs]
  exact⟨⟨h,trivial⟩,by simpa using h2⟩
 cases x
 case agg m =>
  simp only[cellsO]at hc
  cases ha:all1 m
  ·simp[ha]at hc
  ·simp only [ha,cond_true,Option.some.injEq] at hc
   subst hc
   simp only[RV]at h
   obtain⟨cs,rfl,h2⟩:=h
   exact⟨by simpa[Value.cells]using h2,by simpa[Value.cells]using all1_val h2 ha⟩
 all_goals
  simp only[cellsO]at hc
  obtain⟨h1,h2⟩:=bifS hc
  exact key h1 h2.symm

theorem RVs.set {S:Nat→Prop}:∀ {l:List AV} {vs:List Value} (i:Nat) {x:AV} {v:Value},RVs S w φ l vs→RV S w φ x v→RVs S w φ (l.set i x) (vs.set i v)
 |[],[],_,_,_,_,_=>by simp[RVs]
 |[],_::_,_,_,_,h,_=>by simp[RVs]at h
 |_::_,[],_,_,_,h,_=>by simp[RVs]at h
 |_::_,_::_,0,_,_,h,hx=>by simp only[RVs]at h;simp only[List.set_cons_zero,RVs];exact⟨hx,h.2⟩
 |_::_,_::_,i+1,_,_,h,hx=>by simp only[RVs]at h;simp only[List.set_cons_succ,RVs];exact⟨h.1,h.2.set i hx⟩

theorem RVs.splice {S:Nat→Prop}:∀ {new:List AV} {ns:List Value} {l:List AV} {vs:List Value} (off:Nat),RVs S w φ l vs→RVs S w φ new ns→RVs S w φ (spliceA l off new) (splice vs off ns)
 |[],[],_,_,_,h,_=>by simpa[spliceA,PSL.splice]using h
 |[],_::_,_,_,_,_,h=>by simp[RVs]at h
 |_::_,[],_,_,_,_,h=>by simp[RVs]at h
 |_::_,_::_,_,_,off,h,h'=>by
  simp only[RVs]at h'
  simp only[spliceA,PSL.splice,setN_eq]
  exact RVs.splice (off+1) (h.set off h'.1) h'.2

include hs in

theorem out_val {s:Sem Next}{v:AV}{vv:Value}(hr:s.run P w=.ok (.value vv) w)(hv:RV (SS S0 φ) w φ v vv):Out P s S0 φ w v objs :=
 ⟨_,vv,w,φ,hr,.inl rfl,hv,.refl hs⟩

theorem obj_at (hs:HS S0 φ objs w){i:Nat}{ph:Phy}(hi:φ[i]? = some ph){ob:Ob}(ho:nth objs i=some ob):ObOk (SS S0 φ) w φ ph ob :=
 hs.ok i ph ob hi (by rw[← nth_eq];exact ho)

theorem pack_ok {S:Nat→Prop}{t:Nat}{τ:Ty}(hτ:TyFact P t τ){l:List AV}{cs:List Value}(h:RVs S w φ l cs){off:Nat}{v:AV}(hp:packA τ l off=some v) :
  (τ.size=0∧τ.agg=true∨off+τ.size≤cs.length)∧RV S w φ v (pack τ ((cs.drop off).take τ.size)):=by
 have hl:=h.length
 unfold packA at hp
 cases ha:τ.agg
 ·simp only [ha] at hp
  rw[nth_eq]at hp
  have h1:=hτ.one ha
  obtain⟨x,h2,h3⟩:=h.get off hp
  have hlt:off<cs.length:=(List.getElem?_eq_some_iff.1 h2).1
  refine⟨.inr (by omega),?_⟩
  simp only[pack,ha,h1,Bool.false_eq_true,if_false]
  rw[List.drop_eq_getElem_cons hlt]
  rw[List.getElem?_eq_getElem hlt]at h2
  simp only[Option.some.injEq]at h2
  rw[h2];exact h3
 ·simp only [ha] at hp
  obtain⟨h1,h2⟩:=bifS hp
  have h1:=natBeq h1
  rw[len_eq]at h1
  subst h2
  constructor
  ·rcases Nat.eq_zero_or_pos τ.size with h0 | h0
   ·exact .inl ⟨h0,rfl⟩
   ·simp at h1;exact .inr (by omega)
  ·simp only [pack,ha,if_true,RV]
   exact⟨_,rfl,(h.drop off).take τ.size⟩

theorem run_loadVar0 {t:Nat}{τ:Ty}(hτ:TyFact P t τ)(ha:τ.agg=true)(h0:τ.size=0)(a:Addr)(l:List Value) :
  (loadVar t a).run P w=.ok (pack τ (l.take τ.size)) w:=by
 simp only[loadVar,Sem.run_bind,run_isAgg hτ,Result.andThen_ok,ha,if_true,run_sizeOf hτ,h0]
 simp[loadCells,loadCellsFrom,pack,ha]

theorem load_at {S:Nat→Prop}{t:Nat}{τ:Ty}(hτ:TyFact P t τ){b o T:Nat}{cs:List Value}{fr:Nat × Nat}(hb:w.heap[b]? = some (.cells cs.toArray T fr)){l:List AV}(h:RVs S w φ l (cs.drop o)){off:Nat}{v:AV}
  (hp:packA τ l off=some v):∃vv,(loadVar t ⟨b,o+off,none⟩).run P w=.ok vv w∧RV S w φ v vv:=by
 obtain⟨h1,h2⟩:=pack_ok hτ h hp
 rw[List.drop_drop]at h2
 rcases h1 with ⟨h0,ha⟩ |h1
 ·exact⟨_,run_loadVar0 hτ ha h0 _ _,h2⟩
 ·by_cases ho:o+off+τ.size≤cs.length
  ·exact⟨_,run_loadVar hτ hb (o+off) ho,h2⟩
  ·have:τ.size=0:=by simp at h1; omega
   cases ha:τ.agg
   ·have:=hτ.one ha;omega
   ·exact⟨_,run_loadVar0 hτ ha this _ _,h2⟩
section ops
variable {o:Oper} {a:Act} {ρA:Operand→AV} (hρ:∀x,RV (SS S0 φ) w φ (ρA x) (a.eval x))
include hty hs hρ

omit hρ in

theorem ok_alloc {T:Nat}(hop:o.op=.alloc T){τ:Ty}(ht:ty T=some τ) :
  Out P (execOp a.eval o) S0 φ w (.lo (len objs) 0) (objs++[.box (τ.zero.map fun x=>.d (.v x))]):=by
 obtain⟨z,h1,h2⟩:=run_zeroValue (hty _ _ ht) w
 have hnew:∀b,(Phy.blk w.heap.size).bl b→b=w.heap.size:=by intro b hb;simpa[Phy.bl]using hb.symm
 refine⟨.value (.pointer (some ⟨w.heap.size,0,none⟩)),_,w.alloc (.cells z.cells T),φ++[.blk w.heap.size],?_,.inl rfl,?_,.new hs hnew ?_⟩
 ·simp only [execOp,hop,Instr.alloc,Sem.run_bind,h1,Result.andThen_ok,newVar,newRow,run_newObj,Sem.run_pure]
  rfl
 ·simp only [RV]
  exact⟨w.heap.size,by rw[len_eq,← hs.len];simp,rfl⟩
 ·simp only [ObOk]
  refine⟨z.cells.toList,T,heap_alloc_new _ _,?_⟩
  rw[h2]
  have:=RVs.map (S:=SS S0 (φ++[Phy.blk w.heap.size])) (w:=w.alloc (.cells z.cells T)) (φ:=φ++[Phy.blk w.heap.size]) (fun x=>AV.d (.v x)) id τ.zero (fun x _=>by simp only[RV];exact .v x)
  simpa using this

omit hty in

theorem ok_box {T:Nat}{x:Operand}(hop:o.op=.box T x){l:List AV}(hc:cellsO (ρA x)=some l) :
  Out P (execOp a.eval o) S0 φ w (.lo (len objs) 0) (objs++[.box l]):=by
 obtain⟨h1,h2⟩:=cellsO_val (hρ x) hc
 have hnew:∀b,(Phy.blk w.heap.size).bl b→b=w.heap.size:=by intro b hb;simpa[Phy.bl]using hb.symm
 refine⟨.value (.pointer (some ⟨w.heap.size,0,none⟩)),_,w.alloc (.cells (a.eval x).cells T),φ++[.blk w.heap.size],?_,.inl rfl,?_,.new hs hnew ?_⟩
 ·simp only [execOp,hop,Instr.box,Sem.run_bind,Result.andThen_ok,newVar,newRow,run_newObj,Sem.run_pure]
  rfl
 ·simp only [RV]
  exact⟨w.heap.size,by rw[len_eq,← hs.len];simp,rfl⟩
 ·simp only [ObOk]
  exact⟨(a.eval x).cells.toList,T,heap_alloc_new _ _,h1.mono (keep_new hnew) (.app _ _)⟩

omit hty hρ in

theorem ok_load {T:Nat}{x:Operand}(hop:o.op=.load T x){b off:Nat}(hx:a.eval x=.pointer (some ⟨b,off,none⟩)){v:AV}{vv:Value}
  (hr:(loadVar T ⟨b,off,none⟩).run P w=.ok vv w) (hv:RV (SS S0 φ) w φ v vv):Out P (execOp a.eval o) S0 φ w v objs:=by
 refine out_val hs (vv:=vv) ?_ hv
 simp only[execOp,hop,Instr.loadAt,Instr.sureAddr,hx,Sem.run_bind,Sem.run_pure,Result.andThen_ok,hr]

theorem ok_loadS {T:Nat}{x:Operand}(hop:o.op=.load T x){v:AV}(h:stepL ty ρA objs (.load T x)=some v) :
  Out P (execOp a.eval o) S0 φ w v objs:=by
 simp only[stepL]at h
 split at h
 case h_2=>cases h
 case h_1 τ ht =>
 have hτ:=hty _ _ ht
 have hx:=hρ x
 split at h
 case h_1 i off hA =>
  rw[hA]at hx
  split at h
  case h_2=>cases h
  case h_1 l hl =>
  have hw1:=h
  simp only[RV]at hx
  obtain⟨b,hb,hx⟩:=hx
  have ho:=obj_at hs hb hl
  simp only[ObOk]at ho
  obtain⟨cs,T',hheap,hrv⟩:=ho
  obtain⟨vv,h1,h2⟩:=load_at (o:=0) hτ hheap (by simpa using hrv) hw1
  exact ok_load hs hop hx (by simpa using h1) h2
 case h_2 l hA =>
  rw[hA]at hx
  have hw1:=h
  simp only[RV]at hx
  generalize hvx:a.eval x=vx at hx
  cases hx with
  |@ptr _ b o2 cs T' fr g hS hb hg hr =>
   have hl:∀ (j:Nat) (y:D),l[j]? = some y→j<cs.size - o2∧cs.toList[o2+j]? = some (g j):=by
    intro j y hj
    have h1:=hg j y hj
    have h2:=(Array.getElem?_eq_some_iff.1 h1).1
    exact⟨by omega,by rw[Array.getElem?_toList];exact h1⟩
   have hlen:l.length≤cs.toList.length - o2:=by
    rcases Nat.eq_zero_or_pos l.length with h0 |h0
    ·omega
    ·have:=hl (l.length - 1) (l[l.length - 1]'(by omega)) (List.getElem?_eq_getElem (by omega))
     simp;omega
   have hrv:RVs (SS S0 φ) w φ (l.map .d) ((cs.toList.drop o2).take l.length):=by
    refine RVs.of_get (by simp at hlen ⊢;omega) fun i x v hx hv=>?_
    rw[List.getElem?_map]at hx
    cases hi:l[i]? with
    |none=>rw[hi]at hx;cases hx
    |some y =>
     rw[hi]at hx;simp at hx;subst hx
     have hil:=(List.getElem?_eq_some_iff.1 hi).1
     rw[List.getElem?_take_of_lt hil,List.getElem?_drop,(hl i y hi).2]at hv
     cases hv
     simp only[RV];exact hr i y hi
   obtain⟨h1,h2⟩:=pack_ok hτ hrv hw1
   rcases h1 with ⟨h0,ha⟩ |h1
   ·exact ok_load hs hop hvx (run_loadVar0 hτ ha h0 _ _) h2
   ·have h1':τ.size≤l.length:=by simp at h1; omega
    have hsz:o2+τ.size≤cs.toList.length∨τ.size=0:=by omega
    rcases hsz with hsz |hsz
    ·have h3:=run_loadVar hτ (P:=P) (cs:=cs.toList) (by simpa using hb) o2 hsz
     refine ok_load hs hop hvx h3 ?_
     simp only[List.drop_zero]at h2
     rw[List.take_take,Nat.min_eq_left h1']at h2
     exact h2
    ·have ha:τ.agg=true:=by
      cases ha:τ.agg
      ·have:=hτ.one ha;omega
      ·rfl
     exact ok_load hs hop hvx (run_loadVar0 hτ ha hsz _ _) h2
 case h_3=>cases h
end ops
end
end PSL
namespace PSL
open Go Go.RowKit
section
variable {P:Program} {ty:Nat→Option Ty} {S0:Nat→Prop} {φ:List Phy} {objs:List Ob} {w:World} {o:Oper} {a:Act} {ρA:Operand→AV}

theorem ok_move {x:Operand}(hs:HS S0 φ objs w)(hρ:∀x,RV (SS S0 φ) w φ (ρA x) (a.eval x))(hop:o.op=.move x∨o.op=.assign x):Out P (execOp a.eval o) S0 φ w (ρA x) objs:=by
 refine out_val hs (vv:=a.eval x) ?_ (hρ x)
 rcases hop with hop |hop<;>simp only[execOp,hop,Sem.run_pure]

theorem ok_pick {c x y:Operand}(hs:HS S0 φ objs w)(hρ:∀x,RV (SS S0 φ) w φ (ρA x) (a.eval x))(hop:o.op=.pick c x y){v:AV}(h:pickA (ρA c) (ρA x) (ρA y)=some v):Out P (execOp a.eval o) S0 φ w v objs:=by
 have hc:=hρ c
 unfold pickA at h
 split at h
 ·rename_i x' _ hA
  cases h
  rw[hA]at hc;simp only[RV]at hc
  refine out_val hs (vv:=a.eval x) ?_ (hρ x)
  simp[execOp,hop,hc,asBool]
 ·rename_i x' _ hA
  cases h
  rw[hA]at hc;simp only[RV]at hc
  refine out_val hs (vv:=a.eval y) ?_ (hρ y)
  simp[execOp,hop,hc,asBool]
 ·cases h

theorem ok_store {T:Nat}{d x:Operand}(hty:TyOk P ty)(hs:HS S0 φ objs w)(hρ:∀x,RV (SS S0 φ) w φ (ρA x) (a.eval x))(hop:o.op=.store T d x){v:AV}{objs':List Ob}(h:stepE ty ρA objs (.store T d x)=some (v,objs')) :
  Out P (execOp a.eval o) S0 φ w v objs':=by
 simp only[stepE]at h
 split at h
 case h_2=>cases h
 case h_1 τ ht =>
 have hτ:=hty _ _ ht
 split at h
 case h_2=>cases h
 case h_1 new hnew =>
 obtain⟨hlen,h⟩:=bifO h
 have hlen:=natBeq hlen
 rw[len_eq]at hlen
 have hx:=hρ d
 split at h
 case h_2=>cases h
 case h_1 i off hA =>
 rw[hA]at hx
 split at h
 case h_2=>cases h
 case h_1 l hl =>
 obtain⟨hle,h⟩:=bifS h
 cases h
 have hle:=Nat.le_of_ble_eq_true hle
 rw[len_eq]at hle
 simp only[RV]at hx
 obtain⟨b,hb,hx⟩:=hx
 have ho:=obj_at hs hb hl
 simp only[ObOk]at ho
 obtain⟨cs,T',hheap,hrv⟩:=ho
 obtain⟨hc1,hc2⟩:=cellsO_val (hρ x) hnew
 have hcl:=hc1.length
 have hll:=hrv.length
 obtain⟨w',hr,hst⟩:=run_storeVar (P:=P) hτ off hheap rfl hc2 (by omega) (by simp only[Nat.add_eq]at hle;omega)
 have hbl:(Phy.blk b).bl b:=rfl
 have hk:=keep_turn (S0:=S0) hb hbl hst.other
 refine⟨.skip,undef,w',φ,?_,.inr ⟨rfl,rfl⟩,by simp[RV],?_⟩
 ·simp only[execOp,hop,Instr.storeAt,Instr.sureAddr,hx,Sem.run_bind,Sem.run_pure,Result.andThen_ok,hr]
 ·refine ⟨?_,hk,.refl _,by rw [hst.size]; exact Nat.le_refl _,hst.os,hst.tape,hst.out,fun c hc hn=>hst.other c fun e=>hn ⟨i,_,hb,by rw [e]; rfl⟩,fun _ h=>.inl h,fun _ _ _ B h=>⟨B,h⟩⟩
  rw[setN_eq]
  refine hs.turn hb hbl hst.size hst.other ?_
  simp only[ObOk]
  exact⟨_,T',hst.at_,(hrv.mono hk (.refl _)).splice off (hc1.mono hk (.refl _))⟩

theorem fld_of {t:Nat}{flds:List (Nat × Nat)}(h:ShFact P t (.struct flds)){k off ft:Nat}(hk:nth flds k=some (off,ft)) :
  ∃ (fs:Array Field) (f:Field),P.underlying t=some (.struct fs)∧fs[k]? = some f∧f.offset=off∧f.type=ft∧∃i,P.info? ft=some i∧i.size≠0:=by
 simp only[ShFact]at h
 obtain⟨fs,h1,h2,h3⟩:=h
 rw[nth_eq,← h2,List.getElem?_map]at hk
 cases hf:fs.toList[k]? with
 |none=>rw[hf]at hk;cases hk
 |some f =>
  rw[hf]at hk
  simp only[Option.map_some,Option.some.injEq,Prod.mk.injEq]at hk
  obtain⟨rfl,rfl⟩:=hk
  exact⟨fs,f,h1,by rw[← Array.getElem?_toList];exact hf,rfl,rfl,h3 f (List.mem_of_getElem? hf)⟩

theorem run_fieldAt {t k:Nat}{fs:Array Field}{f:Field}(h1:P.underlying t=some (.struct fs))(h2:fs[k]? = some f)(h3:∃i,P.info? f.type=some i∧i.size≠0)(b off:Nat) :
  (Instr.fieldAt t (.pointer (some ⟨b,off,none⟩)) k).run P w=.ok (.pointer (some ⟨b,off+f.offset,none⟩)) w:=by
 obtain⟨i,h4,h5⟩:=h3
 simp[Instr.fieldAt,underlying,h1,h2,Instr.sureAddr,fieldPlace,Go.sizeOf,typeInfo,h4,h5,add_none]

theorem ok_fieldAddr {T k:Nat}{x:Operand}(hty:TyOk P ty)(hs:HS S0 φ objs w)(hρ:∀x,RV (SS S0 φ) w φ (ρA x) (a.eval x))(hop:o.op=.fieldAddr T x k){v:AV}(h:stepS ty ρA (.fieldAddr T x k)=some v) :
  Out P (execOp a.eval o) S0 φ w v objs:=by
 simp only[stepS]at h
 split at h
 case h_2=>cases h
 case h_1 sz by_ z flds ht =>
 have hτ:=hty _ _ ht
 split at h
 case h_2=>cases h
 case h_1 off ft hk =>
 obtain⟨fs,f,h1,h2,rfl,rfl,h3⟩:=fld_of hτ.sh hk
 have hx:=hρ x
 split at h
 case h_1 i o2 hA =>
  cases h
  rw[hA]at hx;simp only[RV]at hx
  obtain⟨b,hb,hx⟩:=hx
  refine out_val hs (vv:=.pointer (some ⟨b,o2+f.offset,none⟩)) ?_ (by simp only[RV];exact⟨b,hb,rfl⟩)
  simp only[execOp,hop,hx,Sem.run_bind,run_fieldAt h1 h2 h3,Result.andThen_ok,Sem.run_pure]
 case h_2 i s r2 j2 hA =>
  cases h
  rw[hA]at hx;simp only[RV]at hx
  obtain⟨⟨b,o3,hp⟩,ph,hph,hx⟩:=hx
  refine out_val hs (vv:=.pointer (some ⟨b,o3+f.offset,none⟩)) ?_ ?_
  ·simp only[execOp,hop,hp,Sem.run_bind,run_fieldAt h1 h2 h3,Result.andThen_ok,Sem.run_pure]
  ·simp only [RV]
   refine⟨⟨b,_,rfl⟩,ph,hph,fun sz' s' x' ob' he=>?_⟩
   obtain⟨h4,h5⟩:=hx sz' s' x' ob' he
   refine⟨h4,fun e=>?_⟩
   obtain⟨b',o',n',cap',h6,h7⟩:=h5 e
   rw[hp]at h7
   simp only[Value.pointer.injEq,Option.some.injEq,Addr.mk.injEq,and_true]at h7
   obtain⟨rfl,rfl⟩:=h7
   exact⟨b,o',n',cap',h6,by rw[Nat.add_assoc]⟩
 case h_3 l hA =>
  cases h
  rw[hA]at hx;simp only[RV]at hx
  generalize hvx:a.eval x=vx at hx
  cases hx with
  |@ptr _ b o2 cs T' fr g hS hb hg hr =>
   refine out_val hs (vv:=.pointer (some ⟨b,o2+f.offset,none⟩)) ?_ ?_
   ·simp only[execOp,hop,hvx,Sem.run_bind,run_fieldAt h1 h2 h3,Result.andThen_ok,Sem.run_pure]
   ·simp only [RV]
    refine .ptr (fun j=>g (f.offset+j)) hS hb (fun j y hy=>?_) (fun j y hy=>hr _ y (by simpa using hy))
    rw[Nat.add_assoc];exact hg _ y (by simpa using hy)
 case h_4=>cases h

theorem run_part {t:Nat}{τ:Ty}(hτ:TyFact P t τ){cs:List Value}{off:Nat}(h:τ.size=0∧τ.agg=true∨off+τ.size≤cs.length) :
  (part t cs.toArray off).run P w=.ok (pack τ ((cs.drop off).take τ.size)) w:=by
 unfold part pack
 rw[Sem.run_bind,run_isAgg hτ]
 simp only[Result.andThen_ok]
 cases ha:τ.agg
 ·have h1:=hτ.one ha
  have hlt:off<cs.length:=by
   rcases h with ⟨_,h⟩ |h
   ·rw[ha]at h;cases h
   ·omega
  simp only[Bool.false_eq_true,if_false,List.getElem?_toArray,List.getElem?_eq_getElem hlt,Sem.run_pure,h1]
  rw[List.drop_eq_getElem_cons hlt]
  rfl
 ·simp only [if_true,Sem.run_bind,run_sizeOf hτ,Result.andThen_ok,Sem.run_pure]
  congr 2
  simp[List.extract_eq_take_drop]

theorem ok_field {T k:Nat}{x:Operand}(hty:TyOk P ty)(hs:HS S0 φ objs w)(hρ:∀x,RV (SS S0 φ) w φ (ρA x) (a.eval x))(hop:o.op=.field T x k){v:AV}(h:stepS ty ρA (.field T x k)=some v) :
  Out P (execOp a.eval o) S0 φ w v objs:=by
 simp only[stepS]at h
 split at h
 case h_2=>cases h
 case h_1 sz by_ z flds ht =>
 have hτ:=hty _ _ ht
 split at h
 case h_2=>cases h
 case h_1 off ft hk =>
 obtain⟨fs,f,h1,h2,rfl,rfl,h3⟩:=fld_of hτ.sh hk
 have hx:=hρ x
 split at h
 case h_2=>cases h
 case h_1 τ l hft hA =>
 have hp:=h
 rw[hA]at hx;simp only[RV]at hx
 obtain⟨cs,hx,hrv⟩:=hx
 have hτ2:=hty _ _ hft
 obtain⟨h4,h5⟩:=pack_ok hτ2 hrv hp
 refine out_val hs (vv:=pack τ ((cs.drop f.offset).take τ.size)) ?_ h5
 simp only[execOp,hop,hx,Instr.field,underlying,Sem.run_bind,run_program,Result.andThen_ok,h1,Sem.run_pure,h2,asAgg,run_part hτ2 h4]

theorem boA_val {x:AV}{v:Value}{S:Nat→Prop}{b:Bool}(h:RV S w φ x v)(hb:boA x=some b):v=.bool b:=by
 unfold boA at hb
 split at hb
 ·cases hb;simpa[RV]using h
 ·cases hb;simpa[RV]using h
 ·cases hb;simp only[RV]at h;cases h;rfl
 ·cases hb
theorem kEq_eq {k k':IntKind}(h:kEq k k'=true):k=k':=by cases k<;>cases k'<;>simp[kEq]at h<;>rfl

def plainV:Value→Bool
 | .int _ _ | .string _ | .bool _=>true
 |_=>false

theorem run_eqGuard {op:BinOp}{T:Nat}{x y:Operand}{u v:Value}(hu:plainV u=true):(eqGuard op T x y u v).run P w=.ok () w:=by
 unfold eqGuard
 cases u<;>simp[plainV]at hu<;>cases v<;>simp<;>split<;>simp

theorem run_equalIn_bool (d:Nat){T:Nat}(hu:P.underlying T=some .bool)(b c:Bool):(Op.equalIn (d+1) T (.bool b) (.bool c)).run P w=.ok (b==c) w:=by
 simp[Op.equalIn,underlying,hu]
theorem run_equal_bool {T:Nat}(hu:P.underlying T=some .bool)(b c:Bool):(Op.equal T (.bool b) (.bool c)).run P w=.ok (b==c) w:=run_equalIn_bool 9999 hu b c

theorem ok_bin {op:BinOp}{T T':Nat}{x y:Operand}(hty:TyOk P ty)(hs:HS S0 φ objs w)(hρ:∀x,RV (SS S0 φ) w φ (ρA x) (a.eval x))(hop:o.op=.binOp op T x y T'){v:AV}(h:binA (isB ty T) op (ρA x) (ρA y)=some v) :
  Out P (execOp a.eval o) S0 φ w v objs:=by
 have hx:=hρ x
 have hy:=hρ y
 have fin:∀ {vv:Value},plainV (a.eval x)=true→(binOp op T (a.eval x) (a.eval y)).run P w=.ok vv w→RV (SS S0 φ) w φ v vv→Out P (execOp a.eval o) S0 φ w v objs:=by
  intro vv h1 h2 h3
  refine out_val hs (vv:=vv) ?_ h3
  simp only[execOp,hop,Sem.run_bind,run_eqGuard h1,Result.andThen_ok,h2,Sem.run_pure]
 unfold binA at h
 split at h
 case h_1 k m k' m' hA hB =>
  rw[hA]at hx;rw[hB]at hy
  simp only[RV]at hx hy
  obtain⟨hk,h'⟩:=bifO h
  clear h
  have hk:=kEq_eq hk
  subst hk
  generalize hvx:a.eval x=vx at hx fin
  generalize hvy:a.eval y=vy at hy fin
  cases hx;cases hy
  cases op <;> simp only [binI,Option.some.injEq,reduceCtorEq] at h' <;>
   (subst h';refine fin rfl ?_ (by simp only[RV,bV];exact .v _);simp[binOp,Op.intCmp,Op.intArith])
 case h_2 m m' hA hB =>
  rw[hA]at hx;rw[hB]at hy
  simp only[RV]at hx hy
  generalize hvx:a.eval x=vx at hx fin
  generalize hvy:a.eval y=vy at hy fin
  cases hx;cases hy
  cases op <;> simp only [binS,Option.some.injEq,reduceCtorEq] at h <;>
   (subst h;refine fin rfl ?_ (by simp only[RV,bV];exact .v _);simp[binOp,Op.stringOp,strEq])
 case h_3 =>
  split at h
  case h_2=>cases h
  case h_1 b1 b2 h1 h2 =>
  have e1:=boA_val hx h1
  have e2:=boA_val hy h2
  obtain⟨htb,h'⟩:=bifO h
  clear h
  have hu:P.underlying T=some .bool:=by
   unfold isB at htb
   split at htb
   ·rename_i hT;exact(hty _ _ hT).sh
   ·cases htb
  cases op <;> simp only [binB,Option.some.injEq,reduceCtorEq] at h' <;>
   (subst h';refine fin (by rw[e1];rfl) ?_ (by simp only[RV,bV];exact .v _);rw[e1,e2];simp only[binOp,Sem.run_bind,run_equal_bool hu,Result.andThen_ok,Sem.run_pure])

theorem ok_un {op:UnOp}{T:Nat}{x:Operand}(hs:HS S0 φ objs w)(hρ:∀x,RV (SS S0 φ) w φ (ρA x) (a.eval x))(hop:o.op=.unOp op T x){v:AV}(h:stepS ty ρA (.unOp op T x)=some v) :
  Out P (execOp a.eval o) S0 φ w v objs:=by
 simp only[stepS]at h
 have hx:=hρ x
 split at h
 case h_1 hA =>
  cases h;rw[hA]at hx;simp only[RV]at hx
  exact out_val hs (vv:=.bool false) (by simp[execOp,hop,hx,Op.unary]) (by simp[RV])
 case h_2 hA =>
  cases h;rw[hA]at hx;simp only[RV]at hx
  exact out_val hs (vv:=.bool true) (by simp[execOp,hop,hx,Op.unary]) (by simp[RV])
 case h_3 b hA =>
  cases h;rw[hA]at hx;simp only[RV]at hx
  generalize hvx:a.eval x=vx at hx
  cases hx
  exact out_val hs (vv:=.bool !b) (by simp[execOp,hop,hvx,Op.unary]) (by simp only[RV,bV];exact .v _)
 case h_4 k n hA =>
  cases h;rw[hA]at hx;simp only[RV]at hx
  generalize hvx:a.eval x=vx at hx
  cases hx
  exact out_val hs (vv:=.int k (k.wrap (0 - n))) (by simp[execOp,hop,hvx,Op.unary,Op.intArith]) (by simp only[RV];exact .v _)
 case h_5=>cases h

theorem rvs_ops (hρ:∀x,RV (SS S0 φ) w φ (ρA x) (a.eval x))(l:List Operand):RVs (SS S0 φ) w φ (l.map ρA) (l.map a.eval) :=
 RVs.map _ _ l fun x _=>hρ x

theorem ok_makeFunc {f:Nat}{x y:Array Operand}(hs:HS S0 φ objs w)(hρ:∀x,RV (SS S0 φ) w φ (ρA x) (a.eval x))(hop:o.op=.makeFunc (.func f) x y) :
  Out P (execOp a.eval o) S0 φ w (.clo f (x.toList.map ρA) (y.toList.map ρA)) objs:=by
 refine out_val hs (vv:=.func (.func f) (x.map a.eval) (y.map a.eval)) (by simp[execOp,hop,Instr.makeFunc]) ?_
 simp only[RV]
 exact⟨x.toList.map a.eval,y.toList.map a.eval,by simp[← Array.toList_map],rvs_ops hρ _,rvs_ops hρ _⟩

theorem ok_extract {x:Operand}{k:Nat}(hs:HS S0 φ objs w)(hρ:∀x,RV (SS S0 φ) w φ (ρA x) (a.eval x))(hop:o.op=.extract x k){l:List AV}{v:AV}(hA:ρA x=.tup l)(hv:nth l k=some v) :
  Out P (execOp a.eval o) S0 φ w v objs:=by
 have hx:=hρ x
 rw[hA]at hx;simp only[RV]at hx
 obtain⟨vs,hx,hrv⟩:=hx
 rw[nth_eq]at hv
 obtain⟨vv,h1,h2⟩:=hrv.get k hv
 refine out_val hs (vv:=vv) ?_ h2
 simp[execOp,hop,hx,Instr.extract,h1]

theorem run_lenArr {t:Nat}{d:TypeDesc}{v:Value}{n:Int}{T:Nat}(hu:P.underlying t=some d)
  (h:(d=.string∧∃s:ByteArray,v=.string s∧n=s.size)∨((∃e,d=.slice e)∧∃ (p:Option Addr) (m c:Nat),v=.slice p m c∧n=m)) :
  (Builtin.len_ #[t] T #[v]).run P w=.ok (.int .i64 n) w:=by
 rcases h with ⟨rfl,s,rfl,rfl⟩ |⟨⟨e,rfl⟩,p,m,c,rfl,rfl⟩<;>simp[Builtin.len_,underlying,hu,goInt]

theorem ok_len {x:Operand}{t:Nat}{args:Array Operand}{ts:Array Nat}(hty:TyOk P ty)(hs:HS S0 φ objs w)(hρ:∀x,RV (SS S0 φ) w φ (ρA x) (a.eval x))
  (hop:o.op=.call { callee:=.builtin .len,args:=args,argTypes:=ts }) (h1:args.toList=[x]) (h2:ts.toList=[t]) {τ:Ty} (ht:ty t=some τ) {n:Int}
  (hn:lenA τ.sh objs (ρA x)=some n):Out P (execOp a.eval o) S0 φ w (iV n) objs:=by
 have hx:=hρ x
 have hsh:=(hty _ _ ht).sh
 have ha:args=#[x]:=by apply Array.toList_inj.1;simpa using h1
 have hts:ts=#[t]:=by apply Array.toList_inj.1;simpa using h2
 have fin:∀ {d:TypeDesc},P.underlying t=some d→((d=.string∧∃ s:ByteArray,a.eval x=.string s∧n=s.size)∨((∃ e,d=.slice e)∧∃ (p:Option Addr) (m c:Nat),a.eval x=.slice p m c∧n=m)) →
   Out P (execOp a.eval o) S0 φ w (iV n) objs:=by
  intro d hu hd
  refine out_val hs (vv:=.int .i64 n) ?_ (by simp only[RV,iV];exact .v _)
  simp only[execOp,hop,resolve,ha,hts,Sem.run_bind,Sem.run_pure,Result.andThen_ok,invoke,builtin,List.map_toArray,List.map_cons,List.map_nil]
  simp[run_lenArr hu hd]
 unfold lenA at hn
 split at hn
 case h_1 rows hA =>
  rw[hA]at hx;simp only[RV]at hx
  split at hn
  ·rename_i e he; rw [he] at hsh
   refine fin hsh (.inr ⟨⟨_,rfl⟩,?_⟩)
   generalize a.eval x=vx at hx
   cases hx with
   |nil=>exact⟨_,_,_,rfl,by simpa using hn.symm⟩
   |sl=>exact⟨_,_,_,rfl,by simpa using hn.symm⟩
  ·cases hn
 case h_2 hA =>
  rw[hA]at hx;simp only[RV]at hx
  split at hn
  ·rename_i e he; rw [he] at hsh
   refine fin hsh (.inr ⟨⟨_,rfl⟩,?_⟩)
   generalize a.eval x=vx at hx
   cases hx
   exact⟨_,_,_,rfl,by simpa using hn.symm⟩
  ·cases hn
 case h_3 s hA =>
  rw[hA]at hx;simp only[RV]at hx
  split at hn
  ·rename_i he; rw [he] at hsh
   refine fin hsh (.inl ⟨rfl,?_⟩)
   generalize a.eval x=vx at hx
   cases hx
   exact⟨_,rfl,by simpa using hn.symm⟩
  ·cases hn
 case h_4 rows hA =>
  rw[hA]at hx;simp only[RV]at hx
  split at hn
  ·rename_i e he; rw [he] at hsh
   obtain⟨_,p,hp⟩:=hx
   exact fin hsh (.inr ⟨⟨_,rfl⟩,p,_,_,hp,by simpa using hn.symm⟩)
  ·cases hn
 case h_5 i s hA =>
  rw[hA]at hx;simp only[RV]at hx
  split at hn
  ·rename_i e he; rw [he] at hsh
   split at hn
   ·rename_i sz s' rws hl
    obtain⟨hss,hn⟩:=bifS hn
    have hss:=natBeq hss
    obtain⟨_,ph,hph,hx⟩:=hx
    have ho:=obj_at hs hph hl
    cases ph<;>simp only[ObOk]at ho
    obtain⟨_,he',hlen,ho⟩:=ho
    obtain⟨_,hx⟩:=hx _ _ _ _ rfl
    have hx:=hx (by omega)
    refine fin hsh (.inr ⟨⟨_,rfl⟩,?_⟩)
    rcases ho with ⟨a2,hv3,hn0,_⟩ |⟨b3,o3,cap,cs,T',hv3,_⟩
    ·exact⟨_,_,_,hx.trans hv3,by rw[← hn,hn0];rfl⟩
    ·exact⟨_,_,_,hx.trans hv3,hn.symm⟩
   ·cases hn
  ·cases hn
 case h_6 i hA =>
  rw[hA]at hx;simp only[RV]at hx
  split at hn
  ·rename_i k e he; rw [he] at hsh
   simp only[ShFact]at hsh
   split at hn
   ·rename_i es hl
    obtain⟨b,hb,hx⟩:=hx
    have ho:=obj_at hs hb hl
    simp only[ObOk]at ho
    obtain⟨ents,clk,hheap,hes,_⟩:=ho
    have hsz:es.length=ents.size:=by have:=congrArg List.length hes;simpa using this
    refine out_val hs (vv:=.int .i64 n) ?_ (by simp only[RV,iV];exact .v _)
    simp only[execOp,hop,resolve,ha,hts,Sem.run_bind,Sem.run_pure,Result.andThen_ok,invoke,builtin,List.map_toArray,List.map_cons,List.map_nil]
    have:(Builtin.len_ #[t] o.type #[a.eval x]).run P w=.ok (.int .i64 n) w:=by
     simp only[Option.some.injEq]at hn
     rw[hx,← hn,hsz]
     simp[Builtin.len_,underlying,hsh,goInt,getObj,Sem.run,hheap]
    simp[this]
   ·cases hn
  ·cases hn
 case h_7=>cases hn
end
end PSL
namespace PSL
open Go Go.RowKit

theorem foldl_set (v:List Value):∀ (cs:List Value) (off k:Nat),
  ((v.zipIdx k).foldl (fun cs (c:Value × Nat)=>cs.setIfInBounds (off+c.2) c.1) cs.toArray)=(splice cs (off+k) v).toArray:=by
 induction v with
 |nil=>intro cs off k;simp[splice]
 |cons x r ih =>
  intro cs off k
  simp only[List.zipIdx_cons,List.foldl_cons,splice]
  have:(cs.toArray.setIfInBounds (off+k) x)=(cs.set (off+k) x).toArray:=by simp
  rw[this,ih,Nat.add_assoc]

theorem fill_cons {place:Nat→Option (Nat × Nat)}{i off size:Nat}{v:Value}{rest:List (Nat × Value)}{cs:List Value}
  (hp:place i=some (off,size)) (hv:v.cells.size=size) (hle:off+size≤cs.length) :
  Instr.fill place cs.toArray ((i,v)::rest)=Instr.fill place (splice cs off v.cells.toList).toArray rest:=by
 have h2:(v.cells.zipIdx.foldl (fun cs (c,j)=>cs.setIfInBounds (off+j) c) cs.toArray)=(splice cs off v.cells.toList).toArray:=by
  rw[← Array.foldl_toList,Array.toList_zipIdx]
  exact foldl_set v.cells.toList cs off 0
 simp only[Instr.fill,hp]
 rw[if_neg (by simp;omega),h2]

theorem splice_mid:∀ (new l r t:List Value),r.length=new.length→splice (l++r++t) l.length new=l++new++t
 |[],l,[],t,_=>by simp[splice]
 |[],l,_::_,_,h=>by simp at h
 |_::_,l,[],_,h=>by simp at h
 |x::new,l,y::r,t,h=>by
  simp only[splice]
  have:(l++y::r++t).set l.length x=(l++[x])++r++t:=by simp
  rw[this]
  have h2:=splice_mid new (l++[x]) r t (by simpa using h)
  simp only[List.length_append,List.length_cons,List.length_nil,Nat.zero_add]at h2
  rw[h2];simp
section
variable {P:Program} {ty:Nat→Option Ty} {S0:Nat→Prop} {φ:List Phy} {objs:List Ob} {w:World} {o:Oper} {a:Act} {ρA:Operand→AV}

theorem toDs_rvs {S:Nat→Prop}:∀ {l:List AV} {vs:List Value} {ds:List D},RVs S w φ l vs→toDs l=some ds→RVs S w φ (ds.map .d) vs
 |[],[],ds,_,h=>by simp[toDs]at h;subst h;simp[RVs]
 |[],_::_,_,h,_=>by simp[RVs]at h
 |_::_,[],_,h,_=>by simp[RVs]at h
 |x::l,v::vs,ds,h,hd=>by
  simp only[RVs]at h
  unfold toDs at hd
  split at hd
  all_goals first
   |(rename_i heq;cases heq;done)
   | (rename_i heq; cases heq
      split at hd
      ·rename_i l' hl'
       cases hd
       simp only[List.map_cons,RVs]
       refine⟨?_,toDs_rvs h.2 hl'⟩
       have h1:=h.1
       simp only[RV]at h1 ⊢
       first
        |exact h1
        |exact h1.1
        |(subst h1;exact .v _)
      ·cases hd)
   |cases hd

theorem rows_fill {e:Nat}{τ:Ty}(_he:TyFact P e τ):∀ (parts:List (Nat × AV)) (vals:List (Nat × Value)) (k:Nat) (rows:List (List D)) (pre rest:List Value),
  parts.map (·.1)=vals.map (·.1)→RVs (SS S0 φ) w φ (parts.map (·.2)) (vals.map (·.2))→rowsOf parts k τ.size=some rows→pre.length=k * τ.size→rest.length=vals.length * τ.size →
  ∃ cells:List Value,Instr.fill (fun i=>some (i * τ.size,τ.size)) (pre++rest).toArray vals=some (pre++cells).toArray∧cells.length=rows.length * τ.size∧rows.length=parts.length ∧
   (∀ (i:Nat) (r:List D),rows[i]? = some r→r.length=τ.size∧∀ (j:Nat) (x:D),r[j]? = some x→∃v,cells[i * τ.size+j]? = some v∧Rd (SS S0 φ) w x v)
 |[],[],k,rows,pre,rest,_,_,hr,_,hrest=>by
  simp[rowsOf]at hr;subst hr
  have:rest=[]:=List.length_eq_zero_iff.1 (by simpa using hrest)
  subst this
  exact⟨[],by simp[Instr.fill],by simp,rfl,by simp⟩
 |[],_::_,_,_,_,_,h,_,_,_,_=>by simp at h
 |_::_,[],_,_,_,_,h,_,_,_,_=>by simp at h
 |(i,x)::parts,(i',v)::vals,k,rows,pre,rest,hm,hrv,hr,hpre,hrest=>by
  simp only[List.map_cons,List.cons.injEq]at hm
  obtain⟨rfl,hm⟩:=hm
  simp only[List.map_cons,RVs]at hrv
  simp only[rowsOf]at hr
  obtain⟨hik,hr⟩:=bifO hr
  have hik:=natBeq hik
  subst hik
  split at hr
  case h_1=>cases hr
  case h_2 l hl =>
  split at hr
  case h_2=>cases hr
  case h_1 row hrow =>
  obtain⟨hlen,hr⟩:=bifO hr
  have hlen:=natBeq hlen
  rw[len_eq]at hlen
  split at hr
  case h_2=>cases hr
  case h_1 rows' hrows =>
  cases hr
  obtain⟨hc1,_⟩:=cellsO_val hrv.1 hl
  have hcd:=toDs_rvs hc1 hrow
  have hcl:=hcd.length
  simp only[List.length_map]at hcl
  simp only[List.length_cons]at hrest
  have hsz:v.cells.toList.length=τ.size:=by omega
  have hrl:τ.size≤rest.length:=by rw[hrest,Nat.succ_mul];omega
  obtain ⟨cells,h1,h2,h2',h3⟩:=rows_fill _he parts vals (i+1) rows' (pre++v.cells.toList) (rest.drop τ.size) hm hrv.2 hrows
   (by simp only[List.length_append,hpre,hsz,Nat.succ_mul]) (by rw[List.length_drop,hrest,Nat.succ_mul];omega)
  refine⟨v.cells.toList++cells,?_,?_,by simp[h2'],?_⟩
  ·rw [fill_cons rfl (by simpa using hsz) (by simp only [List.length_append]; omega)]
   have:splice (pre++rest) (i * τ.size) v.cells.toList=pre++v.cells.toList++rest.drop τ.size:=by
    have:=splice_mid v.cells.toList pre (rest.take τ.size) (rest.drop τ.size) (by simp;simp at hsz;omega)
    rw[List.append_assoc,List.take_append_drop]at this
    rw[← hpre];exact this
   rw[this,h1,List.append_assoc]
  ·simp only[List.length_append,h2,List.length_cons,hsz,Nat.succ_mul];omega
  ·intro j r hj
   cases j with
   |zero =>
    simp at hj;subst hj
    refine⟨hlen,fun m y hy=>?_⟩
    have hyl:=(List.getElem?_eq_some_iff.1 hy).1
    obtain⟨u,hu1,hu2⟩:=hcd.get m (x:=.d y) (by rw[List.getElem?_map,hy];rfl)
    simp only[RV]at hu2
    refine⟨u,?_,hu2⟩
    rw[Nat.zero_mul,Nat.zero_add,List.getElem?_append_left (by omega)];exact hu1
   |succ j =>
    simp at hj
    obtain⟨h4,h5⟩:=h3 j r hj
    refine⟨h4,fun m y hy=>?_⟩
    obtain⟨u,hu1,hu2⟩:=h5 m y hy
    refine⟨u,?_,hu2⟩
    rw[Nat.succ_mul,List.getElem?_append_right (by omega),hsz]
    rw[show j * τ.size+τ.size+m - τ.size=j * τ.size+m by omega];exact hu1

theorem ok_buildSlice {T n:Nat}{parts:Array (Nat × Operand)}(hty:TyOk P ty)(hs:HS S0 φ objs w)(hρ:∀x,RV (SS S0 φ) w φ (ρA x) (a.eval x))(hop:o.op=.buildSlice T n parts)
  {v:AV} (h:stepS ty ρA (.buildSlice T n parts)=some v):Out P (execOp a.eval o) S0 φ w v objs:=by
 simp only[stepS]at h
 split at h
 case h_2=>cases h
 case h_1 sz by_ z e hT =>
 have hsl:=(hty _ _ hT).sh
 simp only[ShFact]at hsl
 split at h
 case h_2=>cases h
 case h_1 τ he =>
 have hτ:=hty _ _ he
 split at h
 case h_2=>cases h
 case h_1 rows hrows =>
 obtain⟨hn,h⟩:=bifO h
 obtain⟨hb,h⟩:=bifO h
 obtain⟨hb2,h⟩:=bifS h
 cases h
 have hb2:=Nat.le_of_ble_eq_true hb2
 have hn:=natBeq hn
 rw[len_eq]at hn
 have hb:=Nat.le_of_ble_eq_true hb
 simp only[Nat.mul_eq]at hb
 have hlp:rows.length=parts.size:=by
  have key:∀ (l:List (Nat × AV)) (k:Nat) (rs:List (List D)),rowsOf l k τ.size=some rs→rs.length=l.length:=by
   intro l
   induction l with
   |nil=>intro k rs h;simp[rowsOf]at h;subst h;rfl
   |cons x l ih =>
    intro k rs h
    obtain⟨i,x⟩:=x
    simp only[rowsOf]at h
    obtain⟨_,h⟩:=bifO h
    split at h
    ·cases h
    split at h
    ·obtain ⟨_,h⟩:=bifO h
     split at h
     ·rename_i hl;cases h;simp[ih _ _ hl]
     ·cases h
    ·cases h
  simpa using key _ _ _ hrows
 obtain⟨zv,hz1,hz2⟩:=run_zeroValue hτ w
 have hzl:=hτ.zl
 have hzs:zv.cells.size=τ.size:=by rw[← hz2]at hzl;simpa using hzl
 generalize hrest:(if n * τ.size=0 then ([]:List Value) else ((List.range (n * τ.size)).map fun i=>zv.cells[i % zv.cells.size]!))=rest
 have hrl:rest.length=n * τ.size:=by
  rw[← hrest]
  split
  ·rename_i h0;rw[h0];rfl
  ·simp only[List.length_map,List.length_range]
 obtain ⟨cells,h1,h2,h2',h3⟩:=rows_fill (S0:=S0) (φ:=φ) (w:=w) hτ (parts.toList.map fun p=>(p.1,ρA p.2)) (parts.toList.map fun p=>(p.1,a.eval p.2)) 0 rows [] rest
  (by simp[List.map_map,Function.comp_def]) (by simp only[List.map_map];exact RVs.map _ _ _ fun p _=>hρ p.2) hrows (by simp) (by rw[hrl,← hn,hlp];simp)
 simp only[List.nil_append]at h1
 have hpm:(parts.map fun (i,x)=>(i,a.eval x)).toList=parts.toList.map fun p=>(p.1,a.eval p.2):=by simp[Array.toList_map]
 have hrun:(Instr.buildSlice T n (parts.map fun (i,x)=>(i,a.eval x))).run P w=.ok (.slice (some ⟨w.heap.size,0,none⟩) n n) (w.alloc (.cells cells.toArray e)):=by
  have h0:¬ (n * τ.size > 2 ^ 24):=by omega
  simp only[Instr.buildSlice,underlying,Sem.run_bind,run_program,Result.andThen_ok,hsl,Sem.run_pure,run_sizeOf hτ]
  rw[Sem.run_ite]
  rw[if_neg h0]
  by_cases hz0:n * τ.size=0
  ·rw [Sem.run_ite,if_pos hz0]
   have hr0:rest=[]:=List.length_eq_zero_iff.1 (by omega)
   rw[hr0]at h1
   simp only[Sem.run_pure,Result.andThen_ok,hz0,hpm,newRow,Sem.run_bind]
   simp only[show (Array.map (fun x=>(#[]:Array Value)[x % (#[]:Array Value).size]!) (Array.range 0))=([]:List Value).toArray from by simp,h1,Sem.run_bind,run_newObj,Result.andThen_ok,Sem.run_pure]
   rfl
  ·rw [Sem.run_ite,if_neg hz0]
   have:(Array.range (n * τ.size)).map (fun x=>zv.cells[x % zv.cells.size]!)=rest.toArray:=by
    rw[← hrest,if_neg hz0];apply Array.toList_inj.1;simp[Array.toList_range]
   simp only[Sem.run_bind,hz1,Sem.run_pure,Result.andThen_ok,this,hpm,h1,newRow,run_newObj]
   rfl
 refine⟨.value (.slice (some ⟨w.heap.size,0,none⟩) n n),_,_,φ,?_,.inl rfl,?_,.alloc hs (.cells cells.toArray e)⟩
 ·simp only[execOp,hop,Sem.run_bind,hrun,Result.andThen_ok,Sem.run_pure]
 ·simp only [RV]
  refine⟨?_,⟨some ⟨w.heap.size,0,none⟩,by rw[hn]⟩⟩
  have hnew:SS S0 φ w.heap.size:=⟨hs.up _ (Nat.le_refl _),fun hc=>absurd (hs.lt _ hc) (Nat.lt_irrefl _)⟩
  rw[← hn]
  refine Rd.sl (sz:=τ.size) (fun i j=>(cells[i * τ.size+j]?).getD undef) hnew (heap_alloc_new _ _) (Nat.le_refl _) ?_ (fun i r hi=>(h3 i r hi).1) (fun i r j x hi hj=>?_) (fun i r j x hi hj=>?_)
  ·rw[hn];unfold maxLen;omega
  ·obtain ⟨u,hu1,_⟩:=(h3 i r hi).2 j x hj
   simp[hu1]
  ·obtain ⟨u,hu1,hu2⟩:=(h3 i r hi).2 j x hj
   rw[hu1];exact hu2.mono (keep_alloc _ _ _)

theorem run_mapM {α β:Type}(f:α→Sem β)(g:α→β):∀ (l:List α),(∀x∈l,(f x).run P w=.ok (g x) w)→(l.mapM f).run P w=.ok (l.map g) w
 |[],_=>by simp
 |x::l,h=>by
  simp only[List.mapM_cons,Sem.run_bind,h x (by simp),Result.andThen_ok,run_mapM f g l fun y hy=>h y (by simp[hy]),Sem.run_pure,List.map_cons]

theorem run_mapMA {α β:Type}(f:α→Sem β)(g:α→β)(l:Array α)(h:∀x∈l.toList,(f x).run P w=.ok (g x) w):(l.mapM f).run P w=.ok (l.map g) w:=by
 rw[Array.mapM_eq_mapM_toList,Sem.run_map,run_mapM f g l.toList h]
 simp only[Result.andThen_ok]
 congr 1
 apply Array.toList_inj.1
 simp only[Array.toList_map]

theorem build_fill (hty:TyOk P ty){place:Nat→Option (Nat × Nat)}{flds:List (Nat × Nat)}
  (hpl:∀ (k off ft:Nat) (τ:Ty),nth flds k=some (off,ft)→ty ft=some τ→place k=some (off,τ.size)) :
  ∀ (parts:List (Nat × AV)) (vals:List (Nat × Value)) (cs cs':List AV) (vs:List Value),
  parts.map (·.1)=vals.map (·.1)→RVs (SS S0 φ) w φ (parts.map (·.2)) (vals.map (·.2))→buildA ty flds parts cs=some cs'→RVs (SS S0 φ) w φ cs vs →
  ∃vs':List Value,Instr.fill place vs.toArray vals=some vs'.toArray∧RVs (SS S0 φ) w φ cs' vs'
 |[],[],cs,cs',vs,_,_,hb,hrv=>by
  simp[buildA]at hb;subst hb
  exact⟨vs,by simp[Instr.fill],hrv⟩
 |[],_::_,_,_,_,h,_,_,_=>by simp at h
 |_::_,[],_,_,_,h,_,_,_=>by simp at h
 |(i,x)::parts,(i',v)::vals,cs,cs',vs,hm,hrv,hb,hcs=>by
  simp only[List.map_cons,List.cons.injEq]at hm
  obtain⟨rfl,hm⟩:=hm
  simp only[List.map_cons,RVs]at hrv
  simp only[buildA]at hb
  split at hb
  case h_2=>cases hb
  case h_1 off ft hk =>
  split at hb
  case h_2=>cases hb
  case h_1 τ hft =>
  split at hb
  case h_2=>cases hb
  case h_1 l hl =>
  obtain⟨h1,hb⟩:=bifO hb
  obtain⟨h2,hb⟩:=bifO hb
  have h1:=natBeq h1
  have h2:=Nat.le_of_ble_eq_true h2
  rw[len_eq]at h1 h2
  simp only[Nat.add_eq]at h2
  obtain⟨hc1,_⟩:=cellsO_val hrv.1 hl
  have e1:=hc1.length
  have e2:=hcs.length
  obtain⟨vs',h3,h4⟩:=build_fill hty hpl parts vals _ cs' (splice vs off v.cells.toList) hm hrv.2 hb (hcs.splice off hc1)
  refine⟨vs',?_,h4⟩
  rw[fill_cons (hpl _ _ _ _ hk hft) (by simp at e1;omega) (by omega)]
  exact h3

theorem ok_build {T:Nat}{parts:Array (Nat × Operand)}(hty:TyOk P ty)(hs:HS S0 φ objs w)(hρ:∀x,RV (SS S0 φ) w φ (ρA x) (a.eval x))(hop:o.op=.build T parts)
  {v:AV} (h:stepS ty ρA (.build T parts)=some v):Out P (execOp a.eval o) S0 φ w v objs:=by
 simp only[stepS]at h
 split at h
 case h_2=>cases h
 case h_1 sz by_ z flds hT =>
 have hτ:=hty _ _ hT
 split at h
 case h_2=>cases h
 case h_1 cs hcs =>
 cases h
 have hsh:=hτ.sh
 simp only[ShFact]at hsh
 obtain⟨fs,hu,hf1,hf2⟩:=hsh
 obtain⟨zv,hz1,hz2⟩:=run_zeroValue hτ w
 let g:Field→Nat × Nat:=fun f=>(f.offset,((P.info? f.type).map (·.size)).getD 0)
 have hg:(fs.mapM fun f=>do pure (f.offset,← Go.sizeOf f.type):Sem (Array (Nat × Nat))).run P w=.ok (fs.map g) w:=by
  refine run_mapMA _ g fs fun f hf=>?_
  obtain⟨i,hi,_⟩:=hf2 f hf
  simp[Go.sizeOf,typeInfo,hi,g]
 have hpl:∀ (k off ft:Nat) (τ:Ty),nth flds k=some (off,ft)→ty ft=some τ→(fs.map g)[k]? = some (off,τ.size):=by
  intro k off ft τ hk hft
  rw[nth_eq,← hf1,List.getElem?_map]at hk
  cases hfk:fs.toList[k]? with
  |none=>rw[hfk]at hk;cases hk
  |some f =>
   rw[hfk]at hk
   simp only[Option.map_some,Option.some.injEq,Prod.mk.injEq]at hk
   obtain⟨rfl,rfl⟩:=hk
   obtain⟨i,z',hi,_,hisz,_⟩:=(hty _ _ hft).info
   have hfk':fs[k]? = some f:=by rw[← Array.getElem?_toList];exact hfk
   rw[Array.getElem?_map,hfk']
   simp[g,hi,hisz]
 have hz:RVs (SS S0 φ) w φ (z.map fun x=>AV.d (.v x)) z:=by
  have:=RVs.map (S:=SS S0 φ) (w:=w) (φ:=φ) (fun x=>AV.d (.v x)) id z (fun x _=>by simp only[RV];exact .v x)
  simpa using this
 obtain ⟨vs',h1,h2⟩:=build_fill (S0:=S0) (φ:=φ) (w:=w) hty hpl (parts.toList.map fun p=>(p.1,ρA p.2)) (parts.toList.map fun p=>(p.1,a.eval p.2)) _ cs z
  (by simp[List.map_map,Function.comp_def]) (by simp only[List.map_map];exact RVs.map _ _ _ fun p _=>hρ p.2) hcs hz
 refine out_val hs (vv:=.agg vs'.toArray) ?_ (by simp only[RV];exact⟨vs',rfl,h2⟩)
 have hpm:(parts.map fun (i,x)=>(i,a.eval x)).toList=parts.toList.map fun p=>(p.1,a.eval p.2):=by simp[Array.toList_map]
 have hzc:zv.cells=z.toArray:=by apply Array.toList_inj.1;simpa using hz2
 have hrun:(Instr.build T (parts.map fun (i,x)=>(i,a.eval x))).run P w=.ok (.agg vs'.toArray) w:=by
  simp only[Instr.build,Sem.run_bind,hz1,Result.andThen_ok,underlying,run_program,hu,Sem.run_pure,hg,hpm,hzc,h1]
 simp only[execOp,hop,Sem.run_bind,hrun,Result.andThen_ok,Sem.run_pure]

theorem ok_nilCheck {x:Operand}(hs:HS S0 φ objs w)(hρ:∀x,RV (SS S0 φ) w φ (ρA x) (a.eval x))(hop:o.op=.nilCheck x){v:AV}(h:stepS ty ρA (.nilCheck x)=some v) :
  Out P (execOp a.eval o) S0 φ w v objs:=by
 simp only[stepS]at h
 have hx:=hρ x
 split at h
 case h_1 i off hA =>
  cases h;rw[hA]at hx;have hx':=hx;simp only[RV]at hx'
  obtain⟨b,_,he⟩:=hx'
  exact out_val hs (vv:=.pointer (some ⟨b,off,none⟩)) (by simp[execOp,hop,he]) (by rw[← he];exact hx)
 case h_2 i s r j hA =>
  cases h;rw[hA]at hx;have hx':=hx;simp only[RV]at hx'
  obtain⟨⟨b,o',he⟩,_⟩:=hx'
  exact out_val hs (vv:=.pointer (some ⟨b,o',none⟩)) (by simp[execOp,hop,he]) (by rw[← he];exact hx)
 case h_3 l hA =>
  cases h;rw[hA]at hx;have hx':=hx;simp only[RV]at hx'
  generalize he:a.eval x=vx at hx'
  cases hx' with
  |@ptr _ b o' cs T fr g hS hb hg hr =>
  exact out_val hs (vv:=.pointer (some ⟨b,o',none⟩)) (by simp[execOp,hop,he]) (by rw[← he];exact hx)
 case h_4 f m c hA =>
  cases h;rw[hA]at hx;have hx':=hx;simp only[RV]at hx'
  obtain⟨va,vc,he,_⟩:=hx'
  exact out_val hs (vv:=.func (.func f) va.toArray vc.toArray) (by simp[execOp,hop,he]) (by rw[← he];exact hx)
 case h_5=>cases h

theorem ok_convert {S D:Nat}{x:Operand}(hty:TyOk P ty)(hs:HS S0 φ objs w)(hρ:∀x,RV (SS S0 φ) w φ (ρA x) (a.eval x))(hop:o.op=.convert S D x){v:AV}(h:stepS ty ρA (.convert S D x)=some v) :
  Out P (execOp a.eval o) S0 φ w v objs:=by
 simp only[stepS]at h
 have hx:=hρ x
 split at h
 case h_2=>cases h
 case h_1 τS hS =>
 obtain⟨d,hu,_⟩:=(hty _ _ hS).und
 split at h
 case h_1 sz by_ z k k' n hD hA =>
  cases h;rw[hA]at hx;simp only[RV]at hx
  generalize he:a.eval x=vx at hx
  cases hx
  have hd:=(hty _ _ hD).sh
  simp only[ShFact]at hd
  exact out_val hs (vv:=.int k (k.wrap n)) (by simp[execOp,hop,he,convert,run_underlying hu,run_underlying hd,Conv.intToInt]) (by simp only[RV];exact .v _)
 case h_2 sz by_ z s hD hA =>
  cases h;rw[hA]at hx;simp only[RV]at hx
  generalize he:a.eval x=vx at hx
  cases hx
  have hd:=(hty _ _ hD).sh
  simp only[ShFact]at hd
  exact out_val hs (vv:=.string s) (by simp[execOp,hop,he,convert,run_underlying hu,run_underlying hd]) (by simp only[RV];exact .v _)
 case h_3=>cases h

theorem stepS_ok (hty:TyOk P ty)(hs:HS S0 φ objs w)(hρ:∀x,RV (SS S0 φ) w φ (ρA x) (a.eval x)){v:AV}(h:stepS ty ρA o.op=some v) :
  Out P (execOp a.eval o) S0 φ w v objs:=by
 cases hop:o.op<;>rw[hop]at h<;>try (simp only[stepS,reduceCtorEq]at h;done)
 case move x=>simp only[stepS,Option.some.injEq]at h;subst h;exact ok_move hs hρ (.inl hop)
 case assign x=>simp only[stepS,Option.some.injEq]at h;subst h;exact ok_move hs hρ (.inr hop)
 case pick c x y=>simp only[stepS]at h;exact ok_pick hs hρ hop h
 case build T ps=>exact ok_build hty hs hρ hop h
 case buildSlice T n ps=>exact ok_buildSlice hty hs hρ hop h
 case binOp op T x y T'=>simp only[stepS]at h;exact ok_bin hty hs hρ hop h
 case unOp op T x=>exact ok_un hs hρ hop h
 case makeFunc fn x y =>
  cases fn<;>simp only[stepS,Option.some.injEq,reduceCtorEq]at h
  subst h
  exact ok_makeFunc hs hρ hop
 case fieldAddr T x k=>exact ok_fieldAddr hty hs hρ hop h
 case field T x k=>exact ok_field hty hs hρ hop h
 case nilCheck x=>exact ok_nilCheck hs hρ hop h
 case convert S D x=>exact ok_convert hty hs hρ hop h
 case extract x k =>
  simp only[stepS]at h
  split at h
  ·rename_i l hl;exact ok_extract hs hρ hop hl h
  ·cases h

theorem stepL_ok (hty:TyOk P ty)(hs:HS S0 φ objs w)(hρ:∀x,RV (SS S0 φ) w φ (ρA x) (a.eval x)){v:AV}(h:stepL ty ρA objs o.op=some v) :
  Out P (execOp a.eval o) S0 φ w v objs:=by
 cases hop:o.op<;>rw[hop]at h<;>try (simp only[stepL,reduceCtorEq]at h;done)
 case load T x=>exact ok_loadS hty hs hρ hop h
 case call c =>
  obtain⟨cal,args,ts⟩:=c
  cases cal<;>try (simp only[stepL,reduceCtorEq]at h;done)
  rename_i b
  cases b<;>try (simp only[stepL,reduceCtorEq]at h;done)
  simp only[stepL]at h
  split at h
  ·rename_i x t h1 h2
   split at h
   ·rename_i τ ht
    split at h
    ·rename_i n hn
     simp only[Option.some.injEq]at h;subst h
     exact ok_len hty hs hρ hop h1 h2 ht (lenN_A hn)
    ·cases h
   ·cases h
  ·cases h

theorem stepE_ok (hty:TyOk P ty)(hs:HS S0 φ objs w)(hρ:∀x,RV (SS S0 φ) w φ (ρA x) (a.eval x)){v:AV}{objs':List Ob}(h:stepE ty ρA objs o.op=some (v,objs')) :
  Out P (execOp a.eval o) S0 φ w v objs':=by
 cases hop:o.op<;>rw[hop]at h<;>try (simp only[stepE,reduceCtorEq]at h;done)
 case alloc T =>
  simp only[stepE]at h
  split at h
  ·rename_i τ ht
   simp only[Option.some.injEq,Prod.mk.injEq]at h;obtain⟨rfl,rfl⟩:=h;exact ok_alloc hty hs hop ht
  ·cases h
 case box T x =>
  simp only[stepE]at h
  split at h
  ·split at h
   ·rename_i l hl
    obtain⟨_,h⟩:=bifS h
    simp only[Prod.mk.injEq]at h;obtain⟨rfl,rfl⟩:=h;exact ok_box hs hρ hop hl
   ·cases h
  ·cases h
 case store T d x=>exact ok_store hty hs hρ hop h

theorem stepOp_ok (hty:TyOk P ty)(hs:HS S0 φ objs w)(hρ:∀x,RV (SS S0 φ) w φ (ρA x) (a.eval x)){v:AV}{objs':List Ob}(h:stepOp ty ρA objs o.op=some (v,objs')) :
  Out P (execOp a.eval o) S0 φ w v objs':=by
 unfold stepOp at h
 split at h
 ·rename_i v' hv'
  simp only[Option.some.injEq,Prod.mk.injEq]at h;obtain⟨rfl,rfl⟩:=h;exact stepS_ok hty hs hρ hv'
 ·split at h
  ·rename_i v' hv'
   simp only[Option.some.injEq,Prod.mk.injEq]at h;obtain⟨rfl,rfl⟩:=h;exact stepL_ok hty hs hρ hv'
  ·exact stepE_ok hty hs hρ h
end
end PSL
namespace PSL
open Go Go.RowKit

structure G where
 P:Program
 F:Fence
 dep:Nat
 ty:Nat→Option Ty
 N:Nat
 w0:World
 S0:Nat→Prop
 X0:Nat→Prop
 φ0:List Phy
 Y:YP
 mks:Bool
 dfs:List (Nat × List AV × List AV):=[]

def AmbO (x:String)(o:Obj):Prop :=
 (x = "internal/strconv.uint64pow10" → ∃e k,o=.cells (((List.range 20).map fun i=>((10 ^ i:Nat):Int)).map fun z=>Value.int .u64 z).toArray e k) ∧
 (x = "internal/bytealg.MaxLen" → ∃ (m:Int),∃e k,o=.cells #[.int .i64 m] e k)

def AmbOk (P:Program)(S:Nat→Prop)(w:World):Prop :=
 ∀x,x = "internal/strconv.uint64pow10" ∨ x = "internal/bytealg.MaxLen" → ∀i,P.globalNamed x=some i→S i∧∃o,w.heap[i]? = some o∧dataO o∧AmbO x o

theorem AmbOk.keep {P:Program}{S S':Nat→Prop}{w w':World}(h:AmbOk P S w)(hk:Keep S w S' w'):AmbOk P S' w':=fun x hx i hi=>by
 obtain⟨h1,o,h2,h3,h4⟩:=h x hx i hi
 obtain⟨h5,h6⟩:=hk i h1 ⟨o,h2,h3⟩
 exact⟨h5,o,h6.trans h2,h3,h4⟩

theorem AmbOk.none {P:Program}(h1:P.globalNamed "internal/strconv.uint64pow10" = none)(h2:P.globalNamed "internal/bytealg.MaxLen" = none)(S:Nat→Prop)(w:World):AmbOk P S w:=fun x hx i hi=>by
 rcases hx with rfl |rfl
 ·rw[h1]at hi;cases hi
 ·rw[h2]at hi;cases hi

structure GOk (g:G):Prop where
 fn:∀f,g.F.fn f
 amb:AmbOk g.P (fun b=>g.S0 b∧¬ g.X0 b∧b<g.w0.heap.size) g.w0
 depth:g.F.depth=none
 alive:g.F.alive=false
 ty:TyOk g.P g.ty
 mixed:g.P.follows .mixedOrders=true

structure Fr0 (g:G) (φ:List Phy) (w:World):Prop where
 size:g.w0.heap.size≤w.heap.size
 os:w.os=g.w0.os
 tape:w.tape=g.w0.tape
 out:w.output=g.w0.output
 fr:∀b,b<g.w0.heap.size→¬ g.X0 b→w.heap[b]? = g.w0.heap[b]?
 gen:∀ (i l:Nat) (I:Nat→(Nat→Prop)→(Nat→Prop)→World→Prop) (B:Nat→Prop),φ[i]? = some (.ext l I B)→∃B0,g.φ0[i]? = some (.ext l I B0)
 le:PhsLe g.φ0 φ

theorem GOk.ambAt {g:G}(hg:GOk g){φ:List Phy}{w:World}(h2:∀b,bls φ b→g.w0.heap.size≤b∨g.X0 b)(h6:Fr0 g φ w):AmbOk g.P (SS g.S0 φ) w :=
 hg.amb.keep fun b hb _=>⟨⟨hb.1,fun hc=>(h2 b hc).elim (fun h=>by have:=hb.2.2;omega) hb.2.1⟩,h6.fr b hb.2.2 hb.2.1⟩
theorem AmbOk.up {P:Program}{S S':Nat→Prop}{w:World}(h:AmbOk P S w)(hs:∀b,S b→S' b):AmbOk P S' w:=h.keep fun b hb _=>⟨hs b hb,rfl⟩
theorem AmbOk.at0 {P:Program}{S X:Nat→Prop}{w:World}(h:AmbOk P S w)(hx:∀b,S b→¬ X b):AmbOk P (fun b=>S b∧¬ X b∧b<w.heap.size) w:=h.keep fun b hb ⟨_,ho,_⟩=>⟨⟨hb,hx b hb,lt_of_some ho⟩,rfl⟩

theorem Fr0.phs {g:G}{φ φ':List Phy}{w:World}(h:Fr0 g φ w)(he:∀ (i l:Nat) (I:Nat→(Nat→Prop)→(Nat→Prop)→World→Prop) (B:Nat→Prop),φ'[i]? = some (Phy.ext l I B)→∃ (B0:Nat→Prop),φ[i]? = some (Phy.ext l I B0))(hl:PhsLe g.φ0 φ'):Fr0 g φ' w :=
 ⟨h.size,h.os,h.tape,h.out,h.fr,fun i l I B hi=>let ⟨_,h0⟩:=he i l I B hi;h.gen _ _ _ _ h0,hl⟩
def EnvOk (S:Nat→Prop)(w:World)(φ:List Phy)(E:Env)(a:Act):Prop:=∀t,RV S w φ (lk E t) (a.tmps.getD t undef)

def MksA (g:G)(φ:List Phy)(ds:List Deferred)(w:World):Prop :=
 (g.mks=false→ds=[])∧ds.Nodup∧∀d∈ds,∃D,d={ target:=.collected D,args:=#[] }∧g.w0.heap.size≤D∧¬ bls φ D∧w.heap[D]? = some (.deferred (some []))

def DfOk (S:Nat→Prop) (w:World) (φ:List Phy):List (Nat × List AV × List AV)→List Deferred→Prop
 |[],[]=>True
 |(f,fs,cs)::l,d::ds=>(∃va vc:List Value,d={ target:=.fn (.func f) vc.toArray,args:=va.toArray }∧RVs S w φ fs va∧RVs S w φ cs vc)∧DfOk S w φ l ds
 |_,_=>False

def Mks (g:G)(φ:List Phy)(ds:List Deferred)(w:World):Prop:=∃ds1 ds2,ds=ds1++ds2∧MksA g φ ds1 w∧DfOk (SS g.S0 φ) w φ g.dfs ds2

theorem DfOk.mono {S S':Nat→Prop}{w w':World}{φ φ':List Phy}(hk:Keep S w S' w')(hl:PhsLe φ φ'):∀ {l:List (Nat × List AV × List AV)} {ds:List Deferred},DfOk S w φ l ds→DfOk S' w' φ' l ds
 |[],[],_=>trivial
 |[],_::_,h=>by simp[DfOk]at h
 |_::_,[],h=>by simp[DfOk]at h
 |(f,fs,cs)::l,d::ds,h=>by
  obtain⟨⟨va,vc,h1,h2,h3⟩,h4⟩:=h
  exact⟨⟨va,vc,h1,h2.mono hk hl,h3.mono hk hl⟩,h4.mono hk hl⟩

theorem DfOk.nil {S:Nat→Prop}{w:World}{φ:List Phy}{ds:List Deferred}(h:DfOk S w φ [] ds):ds=[]:=by
 cases ds with
 |nil=>rfl
 |cons d ds=>simp[DfOk]at h
theorem Mks.none {g:G}{φ:List Phy}{ds:List Deferred}{w:World}(hdf:g.dfs=[])(h:MksA g φ ds w):Mks g φ ds w:=⟨ds,[],by simp,h,by rw[hdf];trivial⟩

theorem Mks.only {g:G}{φ:List Phy}{ds:List Deferred}{w:World}(hdf:g.dfs=[])(h:Mks g φ ds w):MksA g φ ds w:=by
 obtain⟨ds1,ds2,e,h1,h2⟩:=h
 rw[hdf]at h2
 rw[e,h2.nil,List.append_nil];exact h1

def Sat (g:G)(E:Env)(objs:List Ob)(a:Act)(w:World):Prop :=
 ∃φ,HS g.S0 φ objs w∧(∀b,bls φ b→g.w0.heap.size≤b∨g.X0 b)∧EnvOk (SS g.S0 φ) w φ E a∧a.tmps.size=g.N∧Mks g φ a.defers w∧Fr0 g φ w
def Ent (x y:AV):Prop:=∀S w φ v,RV S w φ x v→RV S w φ y v
theorem Ent.refl (x:AV):Ent x x:=fun _ _ _ _ h=>h
theorem Ent.trans {x y z:AV}(h:Ent x y)(k:Ent y z):Ent x z:=fun S w φ v hv=>k S w φ v (h S w φ v hv)
theorem Ent.any (x:AV):Ent x .any:=fun _ _ _ _ _=>by simp[RV]
def EEnt (E E':Env):Prop:=∀t,Ent (lk E t) (lk E' t)

theorem Sat.ent {g:G}{E E':Env}{objs:List Ob}{a:Act}{w:World}(h:EEnt E E')(hs:Sat g E objs a w):Sat g E' objs a w:=by
 obtain⟨φ,h1,h2,h3,h4⟩:=hs
 exact⟨φ,h1,h2,fun t=>h t _ _ _ _ (h3 t),h4⟩

theorem natBeqF {a b:Nat}(h:a≠b):Nat.beq a b=false:=by
 cases hb:Nat.beq a b
 ·rfl
 ·exact absurd (natBeq hb) h

theorem lk_rm (E:Env)(t u:Nat):lk (rm E t) u=if t=u then .any else lk E u:=by
 induction E with
 |nil=>simp[rm,lk]
 |cons x r ih =>
  obtain⟨k,v⟩:=x
  simp only[rm,lk]
  cases hk:Nat.beq k t
  ·simp only [cond_false,lk]
   cases hu:Nat.beq k u
   ·simp only[cond_false,ih]
   ·have:=natBeq hu; subst this
    have:t≠k:=fun e=>by subst e;simp at hk
    simp[this]
  ·have:=natBeq hk; subst this
   simp only[cond_true,ih]
   by_cases hku:k=u
   ·subst hku;simp
   ·have:Nat.beq k u=false:=natBeqF hku
    simp[hku,this]

theorem lk_put (E:Env)(t u:Nat)(v:AV):lk (put E t v) u=if t=u then v else lk E u:=by
 simp only[put,lk]
 by_cases h:t=u
 ·subst h;simp
 ·have:Nat.beq t u=false:=natBeqF h
  simp[this,lk_rm,h]

theorem lk_putO (E:Env)(d:Option Nat)(u:Nat)(v:AV):lk (putO E d v) u=if d=some u then v else lk E u:=by
 cases d with
 |none=>simp[putO]
 |some t=>simp[putO,lk_put]

theorem EEnt.putO {E E':Env}(h:EEnt E E')(d:Option Nat){v v':AV}(hv:Ent v v'):EEnt (putO E d v) (putO E' d v'):=fun t=>by
 rw[lk_putO,lk_putO];split
 ·exact hv
 ·exact h t

inductive Cls where
 |still |look (m:Nat) |turn (b:Nat)
 deriving DecidableEq

@[match_pattern] abbrev Cls.load:Cls:=.look 1
@[match_pattern] abbrev Cls.loadB:Cls:=.look 3
@[match_pattern] abbrev Cls.grow:Cls:=.turn 1
@[match_pattern] abbrev Cls.eff:Cls:=.turn 9

def ldCls (pf:Nat→Cls):Cls :=
 match pf 4000000007 with
 | .look 3=>.look 3
 |_=>.look 1

def ixCls (pf:Nat→Cls):Cls :=
 match pf 4000000006 with
 | .turn 200=>.still
 | .turn 201=>.look 10001
 |_=>ldCls pf

def slCls (pf:Nat→Cls):Cls :=
 match pf 4000000004 with
 | .turn 1=>.turn 1
 |_=>ldCls pf

def bsCls (pf:Nat→Cls):Cls :=
 match pf 4000000005 with
 | .turn 0=>.turn 0
 |_=>.still

def isL4 (pf:Nat→Cls)(t:Nat):Bool :=
 match pf (Nat.add 4000100000 t) with
 | .look m=>Nat.blt 3 m
 | .turn n=>Nat.ble 100 n
 |_=>false

def ldClsAt (pf:Nat→Cls):Operand→Cls
 | .tmp t=>match pf (Nat.add 4000100000 t) with
  | .look m=>bif Nat.blt 3 m then (bif Nat.beq m 200 then .still else .look m) else ldCls pf
  | .turn n=>bif Nat.ble 100 n then .look 0 else ldCls pf
  |_=>ldCls pf
 |_=>ldCls pf

def stClsAt (pf:Nat→Cls):Operand→Cls
 | .tmp t=>match pf (Nat.add 4000100000 (Nat.add 100000 t)) with
  | .turn n=>bif Nat.ble 100 n then .turn n else .eff
  |_=>.eff
 |_=>.eff

def lenCls (pf:Nat→Cls)(args:Array Operand):Cls :=
 match args.toList with
 |[.tmp t]=>match pf (Nat.add 4000100000 (Nat.add 200000 t)) with
  | .look m=>bif Nat.blt 3 m then .look m else .load
  |_=>.load
 |_=>.load

def cvCls (pf:Nat→Cls):Cls :=
 match pf 4000000008 with
 | .turn 3=>.turn 3
 |_=>.eff

def cnvCls (pf:Nat→Cls):Cls :=
 match pf 4000000010 with
 | .turn 90=>.eff
 |_=>.still

def Ob.lvl (n0 i:Nat):Ob→Nat
 | .arr _ _ _=>1
 | .mat _ _=>1
 | .byt _ _ _=>1
 | .map _=>2
 |_=>if i<n0 then 3 else 10

def Ob.isBox:Ob→Bool
 | .box _=>true
 |_=>false
def mayO (n0 k i:Nat)(x:Ob):Prop:=(k<100∧x.lvl n0 i≤k)∨k=100+i∨(k=10000∧x.isBox=true)

theorem Ob.lvl_le (n0 i:Nat)(x:Ob):1≤x.lvl n0 i∧x.lvl n0 i≤10:=by
 unfold Ob.lvl
 split
 ·omega
 ·omega
 ·omega
 ·omega
 ·split<;>omega

def Gr (n0 k:Nat)(objs objs':List Ob):Prop:=∀ (i:Nat) (x:Ob),objs[i]? = some x→∃y,objs'[i]? = some y∧(y=x∨(mayO n0 k i x∧mayO n0 k i y))

def okT (b m:Nat):Bool:=Nat.blt 0 m&&(Nat.beq b 0 || (Nat.blt b m&&Nat.blt b 9&&Nat.blt m 100) || (Nat.ble 100 b&&Nat.beq m (Nat.succ b)))

theorem okT_spec {b m:Nat}(h:okT b m=true):0<m∧b≠9∧(b=0∨(b<m∧m<100)∨m=b+1):=by
 simp only[okT,Bool.and_eq_true,Bool.or_eq_true,Nat.blt_eq,Nat.ble_eq,Nat.beq_eq]at h
 refine⟨h.1,?_,?_⟩<;>omega
theorem Gr.refl {n0 k:Nat}(o:List Ob):Gr n0 k o o:=fun _ x h=>⟨x,h,.inl rfl⟩

theorem Gr.mono {n0 b m:Nat}{a c:List Ob}(h:Gr n0 b a c)(hk:okT b (m+1)=true):Gr n0 m a c:=fun i x hx=>by
 obtain⟨y,h1,h2⟩:=h i x hx
 obtain⟨_,_,h3⟩:=okT_spec hk
 refine⟨y,h1,h2.imp id fun ⟨p,q⟩=>?_⟩
 have hx:=x.lvl_le n0 i
 have hy:=y.lvl_le n0 i
 have key:∀z:Ob,1≤z.lvl n0 i→mayO n0 b i z→mayO n0 m i z:=fun z hz h=>by
  unfold mayO at h ⊢
  rcases h3 with h3 |h3 |h3
  ·rcases h with h |h |h<;>omega
  ·rcases h with h | h | h
   ·exact .inl (by omega)
   ·omega
   ·omega
  ·have e:b=m:=by omega
   rw[← e];exact h
 exact⟨key x hx.1 p,key y hy.1 q⟩

theorem Gr.trans {n0 k:Nat}{a b c:List Ob}(h:Gr n0 k a b)(h':Gr n0 k b c):Gr n0 k a c:=fun i x hx=>by
 obtain⟨y,h1,h2⟩:=h i x hx
 obtain⟨z,h3,h4⟩:=h' i y h1
 refine⟨z,h3,?_⟩
 rcases h2 with rfl |⟨h2,h2'⟩
 ·exact h4
 ·rcases h4 with rfl | ⟨_,h4⟩
  ·exact .inr ⟨h2,h2'⟩
  ·exact .inr ⟨h2,h4⟩

theorem Gr.cmp {n0 k:Nat}{a b c:List Ob}(h:Gr n0 k a c)(h':Gr n0 k b c):Gr n0 k a b∨Gr n0 k b a:=by
 have key:∀ {a b:List Ob},Gr n0 k a c→Gr n0 k b c→a.length≤b.length→Gr n0 k a b:=fun {a b} h h' hl i x hx=>by
  have hi:=(List.getElem?_eq_some_iff.1 hx).1
  obtain⟨z,h1,h2⟩:=h i x hx
  obtain⟨z',h3,h4⟩:=h' i b[i] (List.getElem?_eq_getElem (by omega))
  rw[h1]at h3;cases h3
  refine⟨b[i],List.getElem?_eq_getElem (by omega),?_⟩
  rcases h2 with rfl |⟨h2,h2'⟩
  ·rcases h4 with h4 | ⟨h4,h4'⟩
   ·exact .inl h4.symm
   ·exact .inr ⟨h4',h4⟩
  ·rcases h4 with h4 | ⟨h4,h4'⟩
   ·rw[← h4];exact .inr ⟨h2,h2'⟩
   ·exact .inr ⟨h2,h4⟩
 rcases Nat.le_total a.length b.length with hl |hl
 ·exact .inl (key h h' hl)
 ·exact .inr (key h' h hl)
theorem Gr.add {n0 k:Nat}(a b:List Ob):Gr n0 k a (a++b):=fun i x hx=>⟨x,by rw[List.getElem?_append_left (List.getElem?_eq_some_iff.1 hx).1];exact hx,.inl rfl⟩

theorem Gr.same' {n0 k i:Nat}{a b:List Ob}{x:Ob}(h:Gr n0 k a b∨Gr n0 k b a)(hx:b[i]? = some x)(hi:i<a.length)(hl:¬ mayO n0 k i x):a[i]? = some x:=by
 rcases h with h |h
 ·obtain ⟨y,h1,h2⟩:=h i a[i] (List.getElem?_eq_getElem hi)
  rw[hx]at h1;cases h1
  rcases h2 with h2 |⟨_,h2⟩
  ·rw[List.getElem?_eq_getElem hi,← h2]
  ·exact absurd h2 hl
 ·obtain ⟨y,h1,h2⟩:=h i x hx
  rcases h2 with h2 |⟨h2,_⟩
  ·rw[h1,h2]
  ·exact absurd h2 hl

theorem Gr.same {n0 k i:Nat}{a b:List Ob}{x:Ob}(h:Gr n0 k a b∨Gr n0 k b a)(hx:b[i]? = some x)(hi:i<a.length)(hl:k<x.lvl n0 i):a[i]? = some x :=
 Gr.same' h hx hi (by have:=x.lvl_le n0 i;unfold mayO;rintro(h |h |⟨h,_⟩)<;>omega)

def clsOf (pf:Nat→Cls)(o:Op):Cls :=
 match o with
 | .load _ a=>ldClsAt pf a
 | .lookup .. => .look 2
 | .call { callee:=.builtin .len,args,.. }=>lenCls pf args
 | .call { callee:=.builtin .unsafeSliceData,.. }=>.load
 | .call { callee:=.value (.func f),.. }=>pf f
 | .call { callee:=.builtin .append,.. }=>.grow
 | .call { callee:=.value (.tmp _),.. }=>cvCls pf
 | .call _=>.eff
 | .alloc .. => .turn 0
 | .box .. => .turn 0
 | .store _ a _=>stClsAt pf a
 | .makeMap .. => .turn 0
 | .makeSlice .. => .turn 0
 | .mapUpdate .. => .turn 2
 | .insert .. => .turn 2
 | .slice .. => slCls pf
 | .buildSlice .. => bsCls pf
 | .indexAddr .. => ixCls pf
 | .index .. => ldCls pf
 | .convert .. => cnvCls pf
 | .defer .. => .eff
 | .range .. => .eff
 | .next .. => .eff
 |_=>.still

def StepO (g:G)(ops:Array Oper)(o:Oper)(K:Act→World→Prop)(a:Act)(w:World):Prop :=
 ∀Q:Exit→Act→World→Prop,if Region.wanted o (yielded ops a.tmps) then o.wpIn g.F g.dep g.P a w K Q else (∀f,o.about g.P w a.eval=some f→g.F.fn f)∧K (a.put o.dst undef) w

structure LocOp (g:G) (ops:Array Oper) (o:Oper) (E:Env) (objs:List Ob) (c:Cls) (v:AV) (objs':List Ob):Prop where
 same:(∀b,c≠.turn b)→objs'=objs
 grow:∀b,c=.turn b→b≠9→Gr g.φ0.length b objs objs'
 step:∀ (E₁:Env) (objs₁ objs₁':List Ob) (a:Act) (w:World),(∀ t∈o.looksAt ops,Ent (lk E₁ t) (lk E t)) →
  ((c=.still∧objs₁'=objs₁)∨(∃m,c=.look (m+1)∧(Gr g.φ0.length m objs₁ objs∨Gr g.φ0.length m objs objs₁)∧objs₁'=objs₁)∨(objs₁=objs∧objs₁'=objs'))→Sat g E₁ objs₁ a w→StepO g ops o (fun a' w'=>Sat g (putO E₁ o.dst v) objs₁' a' w') a w

structure LocF (g:G) (ops:Array Oper) (o:Oper) (E:Env) (objs:List Ob) (c:Cls) (v:AV) (objs':List Ob):Prop where
 same:(∀b,c≠.turn b)→objs'=objs
 grow:∀b,c=.turn b→b≠9→Gr g.φ0.length b objs objs'
 step:∀ (E₁:Env) (objs₁ objs₁':List Ob) (a:Act) (w:World),(∀ t∈o.looksAt ops,Ent (lk E₁ t) (lk E t)) →
  ((c=.still∧objs₁'=objs₁)∨(∃m,c=.look (m+1)∧Gr g.φ0.length m objs₁ objs∧objs₁'=objs₁)∨(objs₁=objs∧objs₁'=objs'))→Sat g E₁ objs₁ a w→StepO g ops o (fun a' w'=>Sat g (putO E₁ o.dst v) objs₁' a' w') a w

theorem LocOp.front {g:G}{ops:Array Oper}{o:Oper}{E:Env}{objs objs':List Ob}{c:Cls}{v:AV}(h:LocOp g ops o E objs c v objs'):LocF g ops o E objs c v objs' :=
 ⟨h.same,h.grow,fun E₁ o₁ o₁' a w h1 h2 h3=>h.step E₁ o₁ o₁' a w h1 (h2.imp id (Or.imp (fun ⟨m,x,y,z⟩=>⟨m,x,.inl y,z⟩) id)) h3⟩

def Dr (g:G) (pf:Nat→Cls) (ops:Array Oper):List Oper→Env→List Ob→(Env→List Ob→Prop)→Prop
 |[],E,objs,K=>K E objs
 |o::r,E,objs,K=>∃v objs',LocOp g ops o E objs (clsOf pf o.op) v objs'∧Dr g pf ops r (putO E o.dst v) objs' K
def KC (K:Env→List Ob→Prop):Prop:=∀E E' objs,EEnt E E'→K E' objs→K E objs

def conf (pf:Nat→Cls)(ops:Array Oper)(x y:Oper):Bool :=
 (match x.dst with
   |some d=>(y.looksAt ops).contains d || y.dst==some d
   |none=>false) ||
 (match y.dst with
   |some d=>(x.looksAt ops).contains d
   |none=>false) ||
 (match clsOf pf x.op,clsOf pf y.op with
   | .still,_=>false
   |_,.still=>false
   | .look _,.look _=>false
   | .look m,.turn b=>!(okT b m)
   | .turn b,.look m=>!(okT b m)
   |_,_=>true)
variable {g:G} {pf:Nat→Cls} {ops:Array Oper}

theorem LocOp.ent {o:Oper}{E E':Env}{objs objs':List Ob}{c:Cls}{v:AV}(h:LocOp g ops o E' objs c v objs')(he:EEnt E E'):LocOp g ops o E objs c v objs' :=
 ⟨h.same,h.grow,fun E₁ o₁ o₁' a w h1 h2 h3=>h.step E₁ o₁ o₁' a w (fun t ht=>(h1 t ht).trans (he t)) h2 h3⟩

theorem LocOp.looks {o:Oper}{E E':Env}{objs objs':List Ob}{c:Cls}{v:AV}(h:LocOp g ops o E' objs c v objs')(he:∀t∈o.looksAt ops,lk E t=lk E' t):LocOp g ops o E objs c v objs' :=
 ⟨h.same,h.grow,fun E₁ o₁ o₁' a w h1 h2 h3=>h.step E₁ o₁ o₁' a w (fun t ht=>by rw[← he t ht];exact h1 t ht) h2 h3⟩

theorem LocF.looks {o:Oper}{E E':Env}{objs objs':List Ob}{c:Cls}{v:AV}(h:LocF g ops o E' objs c v objs')(he:∀t∈o.looksAt ops,lk E t=lk E' t):LocF g ops o E objs c v objs' :=
 ⟨h.same,h.grow,fun E₁ o₁ o₁' a w h1 h2 h3=>h.step E₁ o₁ o₁' a w (fun t ht=>by rw[← he t ht];exact h1 t ht) h2 h3⟩

theorem LocOp.still {o:Oper}{E:Env}{objs objs':List Ob}{v:AV}(h:LocOp g ops o E objs .still v objs')(objs2:List Ob):LocOp g ops o E objs2 .still v objs2 :=
 ⟨fun _=>rfl,(fun _ h=>by cases h),fun E₁ o₁ o₁' a w h1 h2 h3=>by
  have h5:o₁'=o₁:=by
   rcases h2 with h2 |⟨_,h2,_⟩ |⟨h2,h4⟩
   ·exact h2.2
   ·cases h2
   ·rw[h4,h2]
  exact h.step E₁ o₁ o₁' a w h1 (.inl ⟨rfl,h5⟩) h3⟩

theorem LocF.still {o:Oper}{E:Env}{objs objs':List Ob}{v:AV}(h:LocF g ops o E objs .still v objs')(objs2:List Ob):LocF g ops o E objs2 .still v objs2 :=
 ⟨fun _=>rfl,(fun _ h=>by cases h),fun E₁ o₁ o₁' a w h1 h2 h3=>by
  have h5:o₁'=o₁:=by
   rcases h2 with h2 |⟨_,h2,_⟩ |⟨h2,h4⟩
   ·exact h2.2
   ·cases h2
   ·rw[h4,h2]
  exact h.step E₁ o₁ o₁' a w h1 (.inl ⟨rfl,h5⟩) h3⟩

theorem LocF.down {o:Oper}{E:Env}{objs objs2 objs':List Ob}{v:AV}{m:Nat}(h:LocF g ops o E objs (.look (m+1)) v objs')(hg:Gr g.φ0.length m objs2 objs):LocF g ops o E objs2 (.look (m+1)) v objs2 :=
 ⟨fun _=>rfl,(fun _ h=>by cases h),fun E₁ o₁ o₁' a w h1 h2 h3=>by
  have h5:Gr g.φ0.length m o₁ objs2∧o₁'=o₁:=by
   rcases h2 with ⟨h2,_⟩ |⟨m',h2,h4⟩ |⟨h2,h4⟩
   ·cases h2
   ·cases h2;exact h4
   ·subst h2;exact⟨.refl _,h4⟩
  exact h.step E₁ o₁ o₁' a w h1 (.inr (.inl ⟨m,rfl,h5.1.trans hg,h5.2⟩)) h3⟩

theorem LocOp.later {o:Oper}{E:Env}{objs objs2 objs':List Ob}{v:AV}{m:Nat}(h:LocOp g ops o E objs (.look (m+1)) v objs')(hg:Gr g.φ0.length m objs objs2):LocOp g ops o E objs2 (.look (m+1)) v objs2 :=
 ⟨fun _=>rfl,(fun _ h=>by cases h),fun E₁ o₁ o₁' a w h1 h2 h3=>by
  have h5:(Gr g.φ0.length m o₁ objs∨Gr g.φ0.length m objs o₁)∧o₁'=o₁:=by
   rcases h2 with ⟨h2,_⟩ |⟨m',h2,h2' |h2',h4⟩ |⟨h2,h4⟩
   ·cases h2
   ·cases h2;exact⟨h2'.cmp hg,h4⟩
   ·cases h2;exact⟨.inr (hg.trans h2'),h4⟩
   ·subst h2;exact⟨.inr hg,h4⟩
  exact h.step E₁ o₁ o₁' a w h1 (.inr (.inl ⟨m,rfl,h5.1,h5.2⟩)) h3⟩

theorem Dr.ent {K:Env→List Ob→Prop}(hK:KC K):∀ {l:List Oper} {E E':Env} {objs:List Ob},EEnt E E'→Dr g pf ops l E' objs K→Dr g pf ops l E objs K
 |[],_,_,_,he,h=>hK _ _ _ he h
 |_::_,_,_,_,he,h=>by
  obtain⟨v,objs',h1,h2⟩:=h
  exact⟨v,objs',h1.ent he,Dr.ent hK (he.putO _ (.refl _)) h2⟩

theorem conf_spec {x y:Oper}(h:conf pf ops x y=false) :
  (∀d,x.dst=some d→d ∉ y.looksAt ops∧y.dst≠some d)∧(∀d,y.dst=some d→d ∉ x.looksAt ops) ∧
  (clsOf pf y.op=.still∨clsOf pf x.op=.still∨(∃m m',clsOf pf y.op=.look m∧clsOf pf x.op=.look m')∨(∃m b,clsOf pf y.op=.look (m+1)∧clsOf pf x.op=.turn b∧okT b (m+1)=true)∨(∃m b,clsOf pf y.op=.turn b∧clsOf pf x.op=.look (m+1)∧okT b (m+1)=true)):=by
 simp only[conf,Bool.or_eq_false_iff]at h
 obtain⟨⟨h1,h2⟩,h3⟩:=h
 refine⟨fun d hd=>?_,fun d hd=>?_,?_⟩
 ·simp only [hd,Bool.or_eq_false_iff] at h1
  exact⟨by simpa using h1.1,by simpa using h1.2⟩
 ·simp only[hd]at h2;simpa using h2
 ·cases hy:clsOf pf y.op with
  |still=>exact .inl rfl
  |look m =>
   cases hx:clsOf pf x.op with
   |still=>exact .inr (.inl rfl)
   |look m'=>exact .inr (.inr (.inl ⟨_,_,rfl,rfl⟩))
   |turn b =>
    rw[hx,hy]at h3
    simp only[Bool.not_eq_false']at h3
    obtain⟨m',rfl⟩:∃m',m=m'+1:=⟨m - 1,by have:=(okT_spec h3).1;omega⟩
    exact .inr (.inr (.inr (.inl ⟨m',b,rfl,rfl,h3⟩)))
  |turn b =>
   cases hx:clsOf pf x.op with
   |still=>exact .inr (.inl rfl)
   |look m =>
    rw[hx,hy]at h3
    simp only[Bool.not_eq_false']at h3
    obtain⟨m',rfl⟩:∃m',m=m'+1:=⟨m - 1,by have:=(okT_spec h3).1;omega⟩
    exact .inr (.inr (.inr (.inr ⟨m',b,rfl,rfl,h3⟩)))
   |turn b'=>rw[hx,hy]at h3;simp at h3

theorem Dr.front {K:Env→List Ob→Prop}(hK:KC K){y:Oper}{post:List Oper}:∀ {pre:List Oper} {E:Env} {objs:List Ob},(∀x∈pre,conf pf ops x y=false) →
  Dr g pf ops (pre++y::post) E objs K→∃v objs',LocF g ops y E objs (clsOf pf y.op) v objs'∧Dr g pf ops (pre++post) (putO E y.dst v) objs' K
 |[],_,_,_,⟨v,o1,h1,h2⟩=>⟨v,o1,h1.front,h2⟩
 |x::pre,E,objs,hc,⟨vx,o1,hx,h2⟩=>by
  obtain⟨vy,o2,hy,hr⟩:=Dr.front hK (fun z hz=>hc z (by simp[hz])) h2
  obtain⟨c1,c2,c3⟩:=conf_spec (hc x (by simp))
  have ey:∀t∈y.looksAt ops,lk E t=lk (putO E x.dst vx) t:=fun t ht=>by
   rw[lk_putO];rw[if_neg];intro e;exact(c1 t e).1 ht
  have ex:∀t∈x.looksAt ops,lk (putO E y.dst vy) t=lk E t:=fun t ht=>by
   rw[lk_putO];rw[if_neg];intro e;exact c2 t e ht
  have eenv:EEnt (putO (putO E y.dst vy) x.dst vx) (putO (putO E x.dst vx) y.dst vy):=fun t=>by
   rw[lk_putO,lk_putO,lk_putO,lk_putO]
   by_cases h1:x.dst=some t<;>by_cases h2:y.dst=some t
   ·exact absurd h2 (c1 t h1).2
   ·simp[h1,h2,Ent.refl]
   ·simp[h1,h2,Ent.refl]
   ·simp[h1,h2,Ent.refl]
  rcases c3 with c |c |⟨m,m',c,c'⟩ |⟨m,b,c,c',hbm⟩ |⟨m,b,c,c',hbm⟩
  ·rw [c] at hy
   have e2:o2=o1:=hy.same (by simp)
   subst e2
   refine⟨vy,objs,?_,vx,o2,hx.looks ex,Dr.ent hK eenv hr⟩
   rw[c];exact(hy.still objs).looks ey
  ·rw [c] at hx
   have e1:o1=objs:=hx.same (by simp)
   subst e1
   refine⟨vy,o2,hy.looks ey,vx,o2,?_,Dr.ent hK eenv hr⟩
   rw[c];exact(hx.still o2).looks ex
  ·have e1:o1=objs:=hx.same (by rw [c']; simp)
   have e2:o2=o1:=hy.same (by rw[c];simp)
   subst e1;subst e2
   exact⟨vy,o2,hy.looks ey,vx,o2,hx.looks ex,Dr.ent hK eenv hr⟩
  ·have hgr:Gr g.φ0.length m objs o1:=(hx.grow b c' (okT_spec hbm).2.1).mono hbm
   rw[c]at hy
   have e2:o2=o1:=hy.same (by simp)
   subst e2
   refine⟨vy,objs,?_,vx,o2,hx.looks ex,Dr.ent hK eenv hr⟩
   rw[c];exact(hy.down hgr).looks ey
  ·rw [c'] at hx
   have e1:o1=objs:=hx.same (by simp)
   subst e1
   refine⟨vy,o2,hy.looks ey,vx,o2,?_,Dr.ent hK eenv hr⟩
   rw[c'];exact(hx.later ((hy.grow b c (okT_spec hbm).2.1).mono hbm)).looks ex
end PSL
namespace PSL
open Go Go.RowKit

def maskOf (acc:List Nat)(o:Oper):Nat :=
 o.after.toList.foldl (fun s e=>bif Region.binds .any e then s ||| 2 ^ e.on ||| (nth acc e.on).getD 0 else s) 0

def ordGo (pf:Nat→Cls) (ops:Array Oper):List Oper→List Nat→List Oper→Bool
 |_,_,[]=>true
 |prev,acc,o::r =>
  (o.after.toList.all fun e=>!Region.binds .any e || Nat.blt e.on (len prev)) &&
  (prev.zipIdx.all fun x=>!conf pf ops x.1 o || (maskOf acc o).testBit x.2) &&
  ordGo pf ops (prev++[o]) (acc++[maskOf acc o]) r
def ordOk (pf:Nat→Cls)(ops:Array Oper):Bool:=ordGo pf ops [] [] ops.toList

inductive Reach (ops:Array Oper):Nat→Nat→Prop
 |one {i j:Nat} {o:Oper} {e:Edge} (h:ops[j]? = some o) (he:e∈o.after.toList) (hb:Region.binds .any e=true) (hi:e.on=i):Reach ops i j
 |step {i j k:Nat} {o:Oper} {e:Edge} (h:ops[j]? = some o) (he:e∈o.after.toList) (hb:Region.binds .any e=true) (hk:e.on=k) (hr:Reach ops i k):Reach ops i j

theorem maskOf_bit {acc:List Nat}{o:Oper}{i:Nat}(h:(maskOf acc o).testBit i=true) :
  ∃e∈o.after.toList,Region.binds .any e=true∧(e.on=i∨∃m,acc[e.on]? = some m∧m.testBit i=true):=by
 have key:∀ (l:List Edge) (s:Nat),(l.foldl (fun s e=>bif Region.binds .any e then s ||| 2 ^ e.on ||| (nth acc e.on).getD 0 else s) s).testBit i=true →
   s.testBit i=true∨∃e∈l,Region.binds .any e=true∧(e.on=i∨∃m,acc[e.on]? = some m∧m.testBit i=true):=by
  intro l
  induction l with
  |nil=>intro s h;exact .inl h
  |cons e l ih =>
   intro s h
   simp only[List.foldl_cons]at h
   rcases ih _ h with h |⟨e',h1,h2⟩
   ·cases hb:Region.binds .any e
    ·rw[hb]at h;exact .inl h
    ·rw [hb] at h
     simp only[cond_true,Nat.testBit_or,Bool.or_eq_true]at h
     rcases h with (h |h) |h
     ·exact .inl h
     ·rw [Nat.testBit_two_pow] at h
      exact .inr ⟨e,by simp,hb,.inl (by simpa using h)⟩
     ·rw [nth_eq] at h
      cases hm:acc[e.on]? with
      |none=>rw[hm]at h;simp at h
      |some m=>rw[hm]at h;exact .inr ⟨e,by simp,hb,.inr ⟨m,hm,by simpa using h⟩⟩
   ·exact .inr ⟨e',by simp[h1],h2⟩
 rcases key o.after.toList 0 h with h |h
 ·simp at h
 ·exact h
section
variable {pf:Nat→Cls} {ops:Array Oper}

theorem ordGo_spec:∀ (rest prev:List Oper) (acc:List Nat),ops.toList=prev++rest→acc.length=prev.length→(∀j i m,acc[j]? = some m→m.testBit i=true→Reach ops i j)→ordGo pf ops prev acc rest=true →
  ∀ (j:Nat) (o:Oper),prev.length≤j→ops[j]? = some o→(∀e∈o.after.toList,Region.binds .any e=true→e.on<j)∧∀ (i:Nat) (x:Oper),i<j→ops[i]? = some x→conf pf ops x o=true→Reach ops i j
 |[],prev,acc,h,_,_,_,j,o,hj,ho=>by
  have:j<ops.size:=(Array.getElem?_eq_some_iff.1 ho).1
  have:ops.size=prev.length:=by rw[← Array.length_toList,h];simp
  omega
 |o'::r,prev,acc,h,hl,hr,hg,j,o,hj,ho=>by
  simp only[ordGo,Bool.and_eq_true]at hg
  obtain⟨⟨h1,h2⟩,h3⟩:=hg
  have hcur:ops[prev.length]? = some o':=by rw[← Array.getElem?_toList,h];simp
  have hm:∀i,(maskOf acc o').testBit i=true→Reach ops i prev.length:=fun i hi=>by
   obtain⟨e,e1,e2,e3⟩:=maskOf_bit hi
   rcases e3 with e3 |⟨m,e3,e4⟩
   ·exact .one hcur e1 e2 e3
   ·exact .step hcur e1 e2 rfl (hr _ _ _ e3 e4)
  rcases Nat.eq_or_lt_of_le hj with hj |hj
  ·subst hj
   rw[hcur]at ho;cases ho
   refine⟨fun e he hbd=>?_,fun i x hi hx hc=>?_⟩
   ·have:=List.all_eq_true.1 h1 e he
    rw[len_eq]at this
    simpa[Nat.blt_eq,hbd]using this
   ·have hmem:(x,i)∈prev.zipIdx:=by
     rw[List.mem_zipIdx_iff_getElem?]
     rw[← Array.getElem?_toList,h,List.getElem?_append_left hi]at hx
     exact hx
    have:=List.all_eq_true.1 h2 _ hmem
    simp only[hc,Bool.not_true,Bool.false_or]at this
    exact hm i this
  ·refine ordGo_spec r (prev++[o']) (acc++[maskOf acc o']) (by rw [h]; simp) (by simp [hl]) (fun j i m hj hi=>?_) h3 j o (by simp; omega) ho
   rcases Nat.lt_or_ge j acc.length with hlt |hge
   ·rw[List.getElem?_append_left hlt]at hj;exact hr j i m hj hi
   ·rw [List.getElem?_append_right hge] at hj
    have:j - acc.length=0:=by
     rcases Nat.eq_zero_or_pos (j - acc.length) with h |h
     ·exact h
     ·rw[List.getElem?_eq_none (by simp;omega)]at hj;cases hj
    rw[this]at hj;simp at hj;subst hj
    have:j=prev.length:=by omega
    subst this
    exact hm i hi

theorem ordOk_spec (h:ordOk pf ops=true)(j:Nat)(o:Oper)(ho:ops[j]? = some o) :
  (∀e∈o.after.toList,Region.binds .any e=true→e.on<j)∧∀ (i:Nat) (x:Oper),i<j→ops[i]? = some x→conf pf ops x o=true→Reach ops i j :=
 ordGo_spec ops.toList [] [] rfl rfl (by simp) h j o (Nat.zero_le _) ho

def Cl (ops:Array Oper)(listed:Array Bool):Prop :=
 ∀ (k:Nat) (o:Oper),listed.getD k false=true→ops[k]? = some o→∀e∈o.after.toList,Region.binds .any e=true→listed.getD e.on false=true

theorem reach_listed {listed:Array Bool}(hc:Cl ops listed){i j:Nat}(h:Reach ops i j) :
  (∀ (o:Oper),ops[j]? = some o→∀e∈o.after.toList,Region.binds .any e=true→listed.getD e.on false=true)→listed.getD i false=true:=by
 induction h with
 |one h he hb hi=>intro hj;rw[← hi];exact hj _ h _ he hb
 |step h he hb hk hr ih =>
  intro hj
  refine ih fun o ho e' he' hb'=>?_
  exact hc _ o (by rw[← hk];exact hj _ h _ he hb) ho e' he' hb'

theorem mem_ready {listed:Array Bool}{i:Nat}:i∈Region.ready .any ops listed↔i<ops.size∧listed.getD i true=false∧∃o,ops[i]? = some o∧∀e∈o.after.toList,Region.binds .any e=true→listed.getD e.on false=true:=by
 unfold Region.ready
 simp only[List.mem_filter,List.mem_range,Bool.and_eq_true,Bool.not_eq_eq_eq_not,Bool.not_true]
 constructor
 ·rintro ⟨h1,h2,h3⟩
  refine⟨h1,h2,ops[i],Array.getElem?_eq_getElem h1,fun e he hb=>?_⟩
  rw[Array.getElem?_eq_getElem h1]at h3
  simp only[Option.map_some,Option.getD_some]at h3
  have:=Array.all_eq_true_iff_forall_mem.1 h3 e (by simpa using he)
  simpa[hb]using this
 ·rintro ⟨h1,h2,o,h3,h4⟩
  refine⟨h1,h2,?_⟩
  rw[h3]
  simp only[Option.map_some,Option.getD_some]
  rw[Array.all_eq_true_iff_forall_mem]
  intro e he
  cases hb:Region.binds .any e
  ·simp
  ·simp[h4 e (by simpa using he) hb]
variable {g:G}

theorem any_of_drX {p q:Nat}(hok:∀ (j:Nat) (o:Oper),ops[j]? = some o→(∀e∈o.after.toList,Region.binds .any e=true→e.on<j)∧∀ (i:Nat) (x:Oper),i<j→ops[i]? = some x→conf pf ops x o=true→Reach ops i j∨(i=p∧j=q)){K:Env→List Ob→Prop}(hK:KC K){Q:Exit→Act→World→Prop}(hQ:∀E objs a w,K E objs→Sat g E objs a w→Q .normal a w) :
  ∀ (fuel:Nat) (listed:Array Bool) (R:List Nat) (E:Env) (objs:List Ob) (a:Act) (w:World),listed.size=ops.size→Cl ops listed→(∀ i,i∈R↔i<ops.size∧listed.getD i true=false)→R.Pairwise (· < ·)→R.length≤fuel→(p ∉ R∨q ∉ R) →
   Dr g pf ops (R.filterMap (ops[·]?)) E objs K→Sat g E objs a w→wpAnyIn g.F g.dep g.P .any ops Q fuel listed a w:=by
 intro fuel
 induction fuel with
 |zero =>
  intro listed R E objs a w hls hc hR _ hf hpq hd hs
  have:R=[]:=List.length_eq_zero_iff.1 (by omega)
  subst this
  refine⟨?_,hQ E objs a w hd hs⟩
  apply List.eq_nil_iff_forall_not_mem.2
  intro i hi
  obtain⟨h1,h2,_⟩:=mem_ready.1 hi
  exact absurd ((hR i).2 ⟨h1,h2⟩) (by simp)
 |succ fuel ih =>
  intro listed R E objs a w hls hc hR hp hf hpq hd hs
  refine⟨fun hnil=>?_,fun i hi=>?_⟩
  ·cases R with
   |nil=>exact hQ E objs a w hd hs
   |cons k R' =>
    exfalso
    obtain⟨hk1,hk2⟩:=(hR k).1 (by simp)
    have ho:ops[k]? = some ops[k]:=Array.getElem?_eq_getElem hk1
    have:k∈Region.ready .any ops listed:=by
     refine mem_ready.2 ⟨hk1,hk2,ops[k],ho,fun e he hb=>?_⟩
     have hlt:=(hok k _ ho).1 e he hb
     have hnot:e.on ∉ (k::R'):=fun hm=>by
      rcases List.mem_cons.1 hm with hm |hm
      ·omega
      ·have:=(List.pairwise_cons.1 hp).1 _ hm;omega
     have hsz:e.on<listed.size:=by omega
     have h2:¬ (listed.getD e.on true=false):=fun h2=>hnot ((hR e.on).2 ⟨by omega,h2⟩)
     simp only[Array.getD,hsz,dif_pos]at h2 ⊢
     simpa using h2
    rw[hnil]at this;cases this
  ·obtain ⟨hi1,hi2,o,ho,hdeps⟩:=mem_ready.1 hi
   obtain⟨pre,post,rfl⟩:=List.append_of_mem ((hR i).2 ⟨hi1,hi2⟩)
   have hpre:∀k∈pre,k<i:=fun k hk=>(List.pairwise_append.1 hp).2.2 k hk i (by simp)
   have hd':Dr g pf ops (pre.filterMap (ops[·]?)++o::post.filterMap (ops[·]?)) E objs K:=by
    have:(pre++i::post).filterMap (ops[·]?)=pre.filterMap (ops[·]?)++o::post.filterMap (ops[·]?):=by
     rw[List.filterMap_append,List.filterMap_cons,ho]
    rw[← this];exact hd
   obtain⟨v,objs',hloc,hrest⟩:=Dr.front hK (fun x hx=>by
    obtain⟨k,hk,hkx⟩:=List.mem_filterMap.1 hx
    cases hcf:conf pf ops x o
    ·rfl
    ·exfalso
     have hreach:Reach ops k i:=by
      rcases (hok i o ho).2 k x (hpre k hk) hkx hcf with h |⟨h1,h2⟩
      ·exact h
      ·exfalso
       rcases hpq with hpq |hpq
       ·exact hpq (by rw[← h1];simp[hk])
       ·exact hpq (by rw[← h2];simp)
     have hl:=reach_listed hc hreach (fun o' ho' e he hb=>by rw[ho]at ho';cases ho';exact hdeps e he hb)
     obtain⟨_,hk2⟩:=(hR k).1 (by simp[hk])
     have hsz:k<listed.size:=by have:=hpre k hk;omega
     simp only[Array.getD,hsz,dif_pos]at hl hk2
     rw[hl]at hk2;cases hk2) hd'
   have hstep:=hloc.step E objs objs' a w (fun t _=>.refl _) (.inr (.inr ⟨rfl,rfl⟩)) hs Q
   refine wpOpIn_mono (K:=fun a' w'=>Sat g (putO E o.dst v) objs' a' w') (fun a' w' hs'=>?_) (by unfold wpOpIn;rw[ho];exact hstep)
   have hget:∀ (k:Nat) (d:Bool),(listed.setIfInBounds i true).getD k d=if k=i then true else listed.getD k d:=by
    intro k d
    simp only[Array.getD_eq_getD_getElem?,Array.getElem?_setIfInBounds]
    by_cases hki:k=i
    ·subst hki
     simp[hls,hi1]
    ·rw[if_neg (fun e=>hki e.symm),if_neg hki]
   refine ih _ (pre++post) _ objs' a' w' (by simp[hls]) ?_ ?_ ?_ ?_ ?_ ?_ hs'
   ·intro k o' hk hko e he hb
    rw[hget]at hk ⊢
    by_cases hki:k=i
    ·subst hki
     rw[ho]at hko;cases hko
     have:=hdeps e he hb
     split
     ·rfl
     ·exact this
    ·rw [if_neg hki] at hk
     have:=hc k o' hk hko e he hb
     split
     ·rfl
     ·exact this
   ·intro k
    rw[hget]
    have hk:=hR k
    have hnd:i ∉ pre++post:=by
     intro hm
     rcases List.mem_append.1 hm with hm |hm
     ·have:=hpre i hm;omega
     ·have:=(List.pairwise_cons.1 (List.pairwise_append.1 hp).2.1).1 i hm;omega
    by_cases hki:k=i
    ·subst hki
     simp only[if_true]
     exact⟨fun h=>absurd h hnd,fun h=>by simp at h⟩
    ·simp only [hki,if_false]
     rw[← hk]
     simp[hki]
   ·obtain ⟨p1,p2,p3⟩:=List.pairwise_append.1 hp
    exact List.pairwise_append.2 ⟨p1,(List.pairwise_cons.1 p2).2,fun x hx y hy=>p3 x hx y (by simp[hy])⟩
   ·simp at hf ⊢;omega
   ·exact hpq.imp (fun h hm=>h (by simp only[List.mem_append,List.mem_cons]at hm ⊢;exact hm.imp id .inr)) (fun h hm=>h (by simp only[List.mem_append,List.mem_cons]at hm ⊢;exact hm.imp id .inr))
   ·rw[List.filterMap_append];exact hrest

theorem any_of_dr (hok:ordOk pf ops=true){K:Env→List Ob→Prop}(hK:KC K){Q:Exit→Act→World→Prop}(hQ:∀E objs a w,K E objs→Sat g E objs a w→Q .normal a w)
  (fuel:Nat) (listed:Array Bool) (R:List Nat) (E:Env) (objs:List Ob) (a:Act) (w:World) (h1:listed.size=ops.size) (h2:Cl ops listed) (h3:∀ i,i∈R↔i<ops.size∧listed.getD i true=false) (h4:R.Pairwise (· < ·)) (h5:R.length≤fuel)
   (h6:Dr g pf ops (R.filterMap (ops[·]?)) E objs K) (h7:Sat g E objs a w):wpAnyIn g.F g.dep g.P .any ops Q fuel listed a w :=
 any_of_drX (p:=ops.size) (q:=0) (fun j o ho=>⟨(ordOk_spec hok j o ho).1,fun i x hi hx hc=>.inl ((ordOk_spec hok j o ho).2 i x hi hx hc)⟩) hK hQ fuel listed R E objs a w h1 h2 h3 h4 h5 (.inl fun h=>by have:=((h3 _).1 h).1;omega) h6 h7

theorem Sat.drew {E:Env}{objs:List Ob}{a:Act}{w:World}(h:Sat g E objs a w):Sat g E objs a { w with drawn:=w.drawn+1 }:=by
 obtain⟨φ,h1,h2,h3,h4,h5,h6⟩:=h
 have hk:Keep (SS g.S0 φ) w (SS g.S0 φ) { w with drawn:=w.drawn+1 }:=fun b hb _=>⟨hb,rfl⟩
 exact⟨φ,h1.later (Nat.le_refl _) (fun _ _=>rfl),h2,fun t=>(h3 t).mono hk (.refl _),h4,(let ⟨ds1,ds2,e,h,h'⟩:=h5;⟨ds1,ds2,e,h,h'.mono hk (.refl _)⟩),⟨h6.size,h6.os,h6.tape,h6.out,h6.fr,h6.gen,h6.le⟩⟩

theorem draw_step {listed:Array Bool}{pre post:List Nat}{i:Nat}{o:Oper}(hls:listed.size=ops.size)(hc:Cl ops listed)(hR:∀k,k∈pre++i::post↔k<ops.size∧listed.getD k true=false)
  (hp:(pre++i::post).Pairwise (· < ·)) (hi1:i<ops.size) (ho:ops[i]? = some o) (hdeps:∀e∈o.after.toList,Region.binds .any e=true→listed.getD e.on false=true) :
  (listed.setIfInBounds i true).size=ops.size∧Cl ops (listed.setIfInBounds i true)∧(∀k,k∈pre++post↔k<ops.size∧(listed.setIfInBounds i true).getD k true=false)∧(pre++post).Pairwise (· < ·):=by
 have hpre:∀k∈pre,k<i:=fun k hk=>(List.pairwise_append.1 hp).2.2 k hk i (by simp)
 have hget:∀ (k:Nat) (d:Bool),(listed.setIfInBounds i true).getD k d=if k=i then true else listed.getD k d:=by
  intro k d
  simp only[Array.getD_eq_getD_getElem?,Array.getElem?_setIfInBounds]
  by_cases hki:k=i
  ·subst hki
   simp[hls,hi1]
  ·rw[if_neg (fun e=>hki e.symm),if_neg hki]
 refine⟨by simp[hls],?_,?_,?_⟩
 ·intro k o' hk hko e he hb
  rw[hget]at hk ⊢
  by_cases hki:k=i
  ·subst hki
   rw[ho]at hko;cases hko
   have:=hdeps e he hb
   split
   ·rfl
   ·exact this
  ·rw [if_neg hki] at hk
   have:=hc k o' hk hko e he hb
   split
   ·rfl
   ·exact this
 ·intro k
  rw[hget]
  have hk:=hR k
  have hnd:i ∉ pre++post:=by
   intro hm
   rcases List.mem_append.1 hm with hm |hm
   ·have:=hpre i hm;omega
   ·have:=(List.pairwise_cons.1 (List.pairwise_append.1 hp).2.1).1 i hm;omega
  by_cases hki:k=i
  ·subst hki
   simp only[if_true]
   exact⟨fun h=>absurd h hnd,fun h=>by simp at h⟩
  ·simp only [hki,if_false]
   rw[← hk]
   simp[hki]
 ·obtain ⟨p1,p2,p3⟩:=List.pairwise_append.1 hp
  exact List.pairwise_append.2 ⟨p1,(List.pairwise_cons.1 p2).2,fun x hx y hy=>p3 x hx y (by simp[hy])⟩

def plainOp:Op→Bool
 | .move _=>true
 | .assign _=>true
 | .binOp .. => true
 | .load .. => true
 | .fieldAddr .. => true
 | .indexAddr .. => true
 | .index .. => true
 | .extract .. => true
 | .nilCheck (.tmp _)=>true
 | .call { callee:=.builtin .len,.. }=>true
 |_=>false

theorem plain_sem {o:Oper}(h:plainOp o.op=true)(ro:Option Nat)(ρ:Operand→Value)(P:Program)(w:World):(∃v w',(o.semAt ro ρ).run P w=.ok (.value v) w')∨(∃x w',(o.semAt ro ρ).run P w=.halt x w'):=by
 have key:∀s:Sem Value,(∃v w',(do pure (Next.value (← s)):Sem Next).run P w=.ok (.value v) w')∨(∃x w',(do pure (Next.value (← s)):Sem Next).run P w=.halt x w'):=fun s=>by
  rw[Sem.run_bind]
  cases s.run P w with
  |ok v w'=>exact .inl ⟨v,w',rfl⟩
  |halt x w'=>exact .inr ⟨x,w',rfl⟩
 have e:o.semAt ro ρ=execOp ρ o:=Oper.semAt_eq ro ρ o (fun c hc=>by rw[hc]at h;cases h)
 rw[e]
 unfold execOp
 cases ho:o.op<;>rw[ho]at h
 case call c =>
  obtain⟨cal,args,ts⟩:=c
  cases cal
  case builtin b =>
   cases b<;>first
    |(cases h;done)
    | (simp only [resolve,Sem.run_bind,Sem.run_pure,Result.andThen_ok,invoke,builtin]
       have:=key (Builtin.len_ ts o.type (args.map ρ))
       simp only[Sem.run_bind]at this
       exact this)
  all_goals cases h
 case nilCheck x =>
  have hp:(∃v w',(runtimePanic .nilDeref:Sem Next).run P w=.ok (.value v) w')∨(∃x w',(runtimePanic .nilDeref:Sem Next).run P w=.halt x w'):=.inr ⟨_,_,rfl⟩
  have bind:∀ {α:Type} (s:Sem α) (k:α→Sem Next) (w:World),(∀a w',(∃v w2,(k a).run P w'=.ok (.value v) w2)∨(∃x w2,(k a).run P w'=.halt x w2))→(∃v w',(s >>= k).run P w=.ok (.value v) w')∨(∃x w',(s >>= k).run P w=.halt x w'):=fun s k w h=>by
   rw[Sem.run_bind]
   cases s.run P w with
   |halt x w'=>exact .inr ⟨x,w',rfl⟩
   |ok a w'=>exact h a w'
  simp only
  split
  ·exact hp
  ·exact hp
  ·exact hp
  ·split
   ·exact hp
   ·refine bind _ _ _ fun a w'=>?_
    refine bind _ _ _ fun b w'=>?_
    split
    ·exact bind _ _ _ fun c w'=>.inl ⟨_,_,rfl⟩
    ·exact .inl ⟨_,_,rfl⟩
   ·exact .inl ⟨_,_,rfl⟩
  ·exact .inl ⟨_,_,rfl⟩
 all_goals first
  |(cases h;done)
  |exact key _
  |exact .inl ⟨_,_,rfl⟩

theorem wpOpIn_and {F:Fence}{n:Nat}{P:Program}{Q:Exit→Act→World→Prop}{i:Nat}{o:Oper}(ho:ops[i]? = some o)(hp:plainOp o.op=true){K K':Act→World→Prop}{a:Act}{w:World}(h1:wpOpIn F n P ops Q i K a w)(h2:wpOpIn F n P ops Q i K' a w):wpOpIn F n P ops Q i (fun a w=>K a w∧K' a w) a w:=by
 unfold wpOpIn at *
 rw[ho]at h1 h2 ⊢
 simp only at h1 h2 ⊢
 split
 ·rename_i hw
  rw[if_pos hw]at h1 h2
  unfold Oper.wpIn at *
  refine⟨h1.1,?_⟩
  have h1:=h1.2
  have h2:=h2.2
  rcases plain_sem hp F.round a.eval P w with ⟨v,w',e⟩ |⟨x,w',e⟩
  ·rw[e]at h1 h2 ⊢;exact⟨h1,h2⟩
  ·rw [e] at h1 h2 ⊢
   cases x<;>exact h1
 ·rename_i hw
  rw[if_neg hw]at h1 h2
  exact⟨h1.1,h1.2,h2.2⟩

theorem range_filterMap {α:Type}:∀ (l:List α),(List.range l.length).filterMap (l[·]?)=l
 |[]=>by simp
 |x::l=>by
  rw[List.length_cons,List.range_succ_eq_map,List.filterMap_cons]
  simp only[List.getElem?_cons_zero,List.filterMap_map]
  have:((fun i=>(x::l)[i]?) ∘ Nat.succ)=fun i=>l[i]? := by funext i;simp
  rw[this,range_filterMap l]

theorem wp_draw (hg:GOk g)(hok:ordOk pf ops=true){K:Env→List Ob→Prop}(hK:KC K){Q:Exit→Act→World→Prop}(hQ:∀E objs a w,K E objs→Sat g E objs a w→Q .normal a w)
  {E:Env} {objs:List Ob} (hd:Dr g pf ops ops.toList E objs K) {a:Act} {w:World} (hs:Sat g E objs a w) (id:Nat):(Code.region id ops true).wpIn g.F g.dep g.P Q a w:=by
 refine wpIn_region_any hg.mixed ?_
 refine any_of_dr hok hK hQ ops.size (Array.replicate ops.size false) (List.range ops.size) E objs a _ (by simp) ?_ ?_ (List.pairwise_lt_range) (by simp) ?_ hs.drew
 ·intro k o hk
  simp[Array.getD]at hk
 ·intro i
  simp only[List.mem_range,Array.getD,Array.size_replicate]
  constructor
  ·intro h;simp[h]
  ·intro h;exact h.1
 ·have:(List.range ops.size).filterMap (ops[·]?)=ops.toList:=by
   have:=range_filterMap ops.toList
   simpa using this
  rw[this];exact hd

theorem wp_ops {K:Env→List Ob→Prop}{Q:Exit→Act→World→Prop}(hQ:∀E objs a w,K E objs→Sat g E objs a w→Q .normal a w) :
  ∀ (l:List Oper) (k:Nat) (E:Env) (objs:List Ob) (a:Act) (w:World),(∀ j,l[j]? = ops[k+j]?)→Dr g pf ops l E objs K→Sat g E objs a w →
   wpOpsIn g.F g.dep g.P ops Q (List.range' k l.length) a w
 |[],k,E,objs,a,w,_,hd,hs=>by simpa[wpOpsIn]using hQ E objs a w hd hs
 |o::l,k,E,objs,a,w,hl,hd,hs=>by
  obtain⟨v,objs',h1,h2⟩:=hd
  have h0:ops[k]? = some o:=by simpa using (hl 0).symm
  have hstep:=h1.step E objs objs' a w (fun t _=>.refl _) (.inr (.inr ⟨rfl,rfl⟩)) hs Q
  rw[List.length_cons,List.range'_succ,wpOpsIn_cons]
  refine wpOpIn_mono (K:=fun a' w'=>Sat g (putO E o.dst v) objs' a' w') (fun a' w' hs'=>?_) (by unfold wpOpIn;rw[h0];exact hstep)
  exact wp_ops hQ l (k+1) _ objs' a' w' (fun j=>by have:=hl (j+1);simpa[Nat.add_assoc,Nat.add_comm 1 j]using this) h2 hs'

theorem wp_reg {K:Env→List Ob→Prop}{Q:Exit→Act→World→Prop}(hQ:∀E objs a w,K E objs→Sat g E objs a w→Q .normal a w)
  {E:Env} {objs:List Ob} (hd:Dr g pf ops ops.toList E objs K) {a:Act} {w:World} (hs:Sat g E objs a w) (id:Nat):(Code.region id ops false).wpIn g.F g.dep g.P Q a w:=by
 refine wpIn_region ?_
 have:=wp_ops hQ ops.toList 0 E objs a w (fun j=>by simp) hd hs
 rw[List.range_eq_range']
 simpa using this
end
end PSL
namespace PSL
open Go Go.RowKit

def restr (l:List Nat) (E:Env):Operand→AV
 | .tmp t=>if t∈l then lk E t else .any
 |x=>ev E x
theorem map_cong {α β:Type}{f g:α→β}{l:List α}(h:∀x∈l,f x=g x):l.map f=l.map g:=List.map_congr_left h

theorem stepS_congr {ty:Nat→Option Ty}{ρ ρ':Operand→AV}{op:Op}(h:∀x∈op.operands.toList,ρ x=ρ' x):stepS ty ρ op=stepS ty ρ' op:=by
 cases op<;>simp only[Op.operands]at h<;>try (simp only[stepS];done)
 case move x=>simp only[stepS,h x (by simp)]
 case assign x=>simp only[stepS,h x (by simp)]
 case pick c a b=>simp only[stepS,h c (by simp),h a (by simp),h b (by simp)]
 case fieldAddr T x k=>simp only[stepS,h x (by simp)]
 case field T x k=>simp only[stepS,h x (by simp)]
 case binOp op T x y T'=>simp only[stepS,h x (by simp),h y (by simp)]
 case unOp op T x=>simp only[stepS,h x (by simp)]
 case extract x k=>simp only[stepS,h x (by simp)]
 case nilCheck x=>simp only[stepS,h x (by simp)]
 case convert S D x=>simp only[stepS,h x (by simp)]
 case makeFunc f x y =>
  cases f<;>simp only[stepS]
  rw[map_cong (l:=x.toList) (f:=ρ) (g:=ρ') (fun z hz=>h z (by simp at hz;simp[hz])),map_cong (l:=y.toList) (f:=ρ) (g:=ρ') (fun z hz=>h z (by simp at hz;simp[hz]))]
 case build T ps =>
  have:ps.toList.map (fun p=>(p.1,ρ p.2))=ps.toList.map (fun p=>(p.1,ρ' p.2)):=map_cong fun p hp=>by rw[h p.2 (by simp at hp ⊢;exact⟨p.1,hp⟩)]
  simp only[stepS,this]
 case buildSlice T n ps =>
  have:ps.toList.map (fun p=>(p.1,ρ p.2))=ps.toList.map (fun p=>(p.1,ρ' p.2)):=map_cong fun p hp=>by rw[h p.2 (by simp at hp ⊢;exact⟨p.1,hp⟩)]
  simp only[stepS,this]

theorem stepL_congr {ty:Nat→Option Ty}{ρ ρ':Operand→AV}{objs:List Ob}{op:Op}(h:∀x∈op.operands.toList,ρ x=ρ' x):stepL ty ρ objs op=stepL ty ρ' objs op:=by
 cases op<;>try (simp only[stepL];done)
 case load T x=>simp only[Op.operands]at h;simp only[stepL,h x (by simp)]
 case call c =>
  simp only[Op.operands,Call.operands]at h
  obtain⟨cal,args,ts⟩:=c
  cases cal<;>try (simp only[stepL];done)
  rename_i b
  cases b<;>try (simp only[stepL];done)
  simp only[stepL]
  split
  ·rename_i x t h1 h2
   have:args=#[x]:=by apply Array.toList_inj.1;simpa using h1
   subst this
   rw[h x (by simp)]
  ·rfl

theorem stepE_congr {ty:Nat→Option Ty}{ρ ρ':Operand→AV}{objs:List Ob}{op:Op}(h:∀x∈op.operands.toList,ρ x=ρ' x):stepE ty ρ objs op=stepE ty ρ' objs op:=by
 cases op<;>try (simp only[stepE];done)
 case box T x=>simp only[Op.operands]at h;simp only[stepE,h x (by simp)]
 case store T d x=>simp only[Op.operands]at h;simp only[stepE,h d (by simp),h x (by simp)]

theorem stepOp_congr {ty:Nat→Option Ty}{ρ ρ':Operand→AV}{objs:List Ob}{op:Op}(h:∀x∈op.operands.toList,ρ x=ρ' x):stepOp ty ρ objs op=stepOp ty ρ' objs op:=by
 unfold stepOp
 rw[stepS_congr h,stepL_congr h,stepE_congr h]
theorem ldCls_or (pf:Nat→Cls):ldCls pf=.load∨ldCls pf=.loadB:=by unfold ldCls;split<;>simp

theorem ldClsAt_held {pf:Nat→Cls}{T:Nat}{a:Operand}(h:held (isL4 pf) (.load T a)=false):ldClsAt pf a=ldCls pf:=by
 cases a<;>try rfl
 rename_i t
 simp only[held,isL4]at h
 simp only[ldClsAt]
 split<;>rename_i h2
 ·rw[h2]at h;simp only at h;rw[h];rfl
 ·rw[h2]at h;simp only at h;rw[h];rfl
 ·rfl

theorem stClsAt_held {pf:Nat→Cls}{T:Nat}{a x:Operand}(h:held (isL4 pf) (.store T a x)=false):stClsAt pf a=.eff:=by
 cases a<;>try rfl
 rename_i t
 simp only[held,isL4]at h
 simp only[stClsAt]
 split<;>rename_i h2
 ·rw[h2]at h;simp only at h;rw[h];rfl
 ·rfl

theorem lenCls_held {pf:Nat→Cls}{args:Array Operand}{ts:Array Nat}(h:held (isL4 pf) (.call { callee:=.builtin .len,args:=args,argTypes:=ts })=false):lenCls pf args=.load:=by
 simp only[held,isL4]at h
 simp only[lenCls]
 split
 ·rename_i t ht
  rw[ht]at h
  simp only at h
  split<;>rename_i h2
  ·rw[h2]at h;simp only at h;rw[h];rfl
  ·rfl
 ·rfl

theorem stClsAt_or (pf:Nat→Cls)(a:Operand):∃b,stClsAt pf a=.turn b:=by
 cases a<;>try exact⟨9,rfl⟩
 rename_i t
 simp only[stClsAt]
 split
 ·rename_i n _
  cases Nat.ble 100 n
  ·exact⟨9,rfl⟩
  ·exact⟨n,rfl⟩
 ·exact⟨9,rfl⟩

theorem lenCls_or (pf:Nat→Cls)(args:Array Operand):∃m,lenCls pf args=.look (m+1):=by
 simp only[lenCls]
 split
 ·split
  ·rename_i m _
   cases hm:Nat.blt 3 m
   ·exact⟨0,rfl⟩
   ·rw [Nat.blt_eq] at hm
    exact⟨m - 1,by simp only[cond_true,Cls.look.injEq];omega⟩
  ·exact⟨0,rfl⟩
 ·exact⟨0,rfl⟩

theorem stepE_eff {pf:Nat→Cls}{ty:Nat→Option Ty}{ρ:Operand→AV}{objs:List Ob}{op:Op}(hc:∀b,clsOf pf op≠.turn b):stepE ty ρ objs op=none:=by
 cases op<;>first
  |(simp only[stepE];done)
  |(exact absurd rfl (hc _))
  |(rename_i T a x;obtain⟨b,h⟩:=stClsAt_or pf a;exact absurd h (hc b))

theorem stepL_still {pf:Nat→Cls}{ty:Nat→Option Ty}{ρ:Operand→AV}{objs:List Ob}{op:Op}(hhe:held (isL4 pf) op=false)(hc:clsOf pf op=.still):stepL ty ρ objs op=none:=by
 cases op<;>try (simp only[stepL];done)
 case load T x=>simp only[clsOf,ldClsAt_held hhe]at hc;rcases ldCls_or pf with h |h<;>(rw[h]at hc;cases hc)
 case call c =>
  obtain⟨cal,args,ts⟩:=c
  cases cal<;>try (simp only[stepL];done)
  rename_i b
  cases b<;>first
   |(simp only[stepL];done)
   |(simp only[clsOf]at hc;obtain⟨m,h⟩:=lenCls_or pf args;rw[h]at hc;cases hc)

theorem stepOp_same {pf:Nat→Cls}{ty:Nat→Option Ty}{ρ:Operand→AV}{objs objs':List Ob}{op:Op}{v:AV}(h:stepOp ty ρ objs op=some (v,objs'))(hc:∀b,clsOf pf op≠.turn b):objs'=objs:=by
 unfold stepOp at h
 rw[stepE_eff hc]at h
 split at h
 ·simp only[Option.some.injEq,Prod.mk.injEq]at h;exact h.2.symm
 ·split at h
  ·simp only[Option.some.injEq,Prod.mk.injEq]at h;exact h.2.symm
  ·cases h

theorem stepOp_still {pf:Nat→Cls}{ty:Nat→Option Ty}{ρ:Operand→AV}{objs objs':List Ob}{op:Op}{v:AV}(h:stepOp ty ρ objs op=some (v,objs'))(hhe:held (isL4 pf) op=false)(hc:clsOf pf op=.still)(objs2:List Ob) :
  stepOp ty ρ objs2 op=some (v,objs2):=by
 have hc':∀b,clsOf pf op≠.turn b:=by rw[hc];simp
 unfold stepOp at h ⊢
 rw[stepE_eff hc',stepL_still hhe hc]at h
 rw[stepE_eff hc',stepL_still hhe hc]
 split at h
 ·rename_i v' hv'
  simp only[Option.some.injEq,Prod.mk.injEq]at h
  rw[h.1]
 ·cases h

theorem stepOp_grow {pf:Nat→Cls}{ty:Nat→Option Ty}{ρ:Operand→AV}{objs objs':List Ob}{op:Op}{v:AV}{n0:Nat}(h:stepOp ty ρ objs op=some (v,objs'))(hhe:held (isL4 pf) op=false)(b:Nat)(hc:clsOf pf op=.turn b)(hb:b≠9):Gr n0 b objs objs':=by
 have hld:∀b,ldCls pf≠.turn b:=by rcases ldCls_or pf with h |h<;>rw[h]<;>simp
 unfold stepOp at h
 split at h
 ·simp only[Option.some.injEq,Prod.mk.injEq]at h;rw[← h.2];exact .refl _
 ·split at h
  ·simp only[Option.some.injEq,Prod.mk.injEq]at h;rw[← h.2];exact .refl _
  ·unfold stepE at h
   split at h
   ·split at h
    ·simp only[Option.some.injEq,Prod.mk.injEq]at h;rw[← h.2];exact .add _ _
    ·cases h
   ·split at h
    ·split at h
     ·rename_i l _
      have key:∀ (c:Bool),(bif c then some (AV.lo (len objs) 0,objs++[Ob.box l]) else none)=some (v,objs')→Gr n0 b objs objs':=by
       intro c hb
       cases c
       ·cases hb
       ·simp only[cond_true,Option.some.injEq,Prod.mk.injEq]at hb;rw[← hb.2];exact .add _ _
      exact key _ h
     ·cases h
    ·cases h
   ·simp only[clsOf,stClsAt_held hhe,Cls.turn.injEq]at hc;omega
   ·cases h

theorem stepOp_look {pf:Nat→Cls}{ty:Nat→Option Ty}{ρ:Operand→AV}{objs objs' objs₁:List Ob}{op:Op}{v:AV}{n0 m:Nat}(h:stepOp ty ρ objs op=some (v,objs'))(hhe:held (isL4 pf) op=false)(hc:clsOf pf op=.look (m+1))(hcmp:Gr n0 m objs₁ objs∨Gr n0 m objs objs₁)
  (hlt:∀x∈op.operands.toList,(∀i off,ρ x=.lo i off→i<objs₁.length)∧(∀i,ρ x=.mp i→i<objs₁.length)):stepOp ty ρ objs₁ op=some (v,objs₁):=by
 have hc1:∀b,clsOf pf op≠.turn b:=by rw[hc];simp
 unfold stepOp at h ⊢
 rw[stepE_eff hc1]at h
 rw[stepE_eff hc1]
 split at h
 ·rename_i v' hv'
  simp only[Option.some.injEq,Prod.mk.injEq]at h
  rw[h.1]
 ·rename_i hS
  split at h
  case h_2=>cases h
  rename_i v' hv'
  simp only[Option.some.injEq,Prod.mk.injEq]at h
  have hL:stepL ty ρ objs₁ op=some v':=by
   cases op<;>try (simp[stepL]at hv';done)
   case load T a =>
    simp only[stepL]at hv' ⊢
    have hm:m≤2:=by
     simp only[clsOf,ldClsAt_held hhe]at hc
     rcases ldCls_or pf with h |h<;>rw[h]at hc<;>simp only[Cls.look.injEq]at hc<;>omega
    cases ht:ty T with
    |none=>rw[ht]at hv';cases hv'
    |some τ =>
     rw[ht]at hv'
     simp only at hv' ⊢
     cases ha:ρ a with
     |lo i off =>
      rw[ha]at hv'
      simp only at hv' ⊢
      have hi:=(hlt a (by simp[Op.operands])).1 i off ha
      rw[nth_eq]at hv' ⊢
      split at hv'
      ·rename_i l hl
       rw[Gr.same hcmp hl hi (by simp only[Ob.lvl];split<;>omega)];exact hv'
      ·cases hv'
     |d x=>rw[ha]at hv';cases x<;>first |exact hv' |cases hv'
     |_=>rw[ha]at hv';cases hv'
   case call c =>
    obtain⟨cal,args,ts⟩:=c
    cases cal<;>try (simp[stepL]at hv';done)
    rename_i b
    cases b<;>try (simp[stepL]at hv';done)
    have hm:m=0:=by simpa[clsOf,lenCls_held hhe]using hc.symm
    subst hm
    simp only[stepL]at hv' ⊢
    split at hv'
    ·rename_i x t h1 h2
     have hx:=hlt x (by simp[Op.operands,Call.operands,h1])
     split at hv'
     ·rename_i τ ht
      have hl:∀n,lenN τ.sh objs (ρ x)=some n→lenN τ.sh objs₁ (ρ x)=some n:=fun n hn=>by
       cases hA:ρ x with
       |mp i =>
        rw[hA]at hn
        simp only[lenN,lenA]at hn ⊢
        have hi:=hx.2 i hA
        rw[nth_eq]at hn ⊢
        split at hn
        ·rename_i es he
         split at hn
         ·rename_i es he
          rw[Gr.same hcmp he hi (by simp[Ob.lvl])];exact hn
         ·cases hn
        ·cases hn
       |d y =>
        rw[hA]at hn
        have e:lenA τ.sh objs₁ (.d y)=lenA τ.sh objs (.d y):=by
         cases y with
         |v x=>cases x<;>first |rfl |(rename_i a b c;cases a<;>first |rfl |(cases b<;>first |rfl |(cases c<;>rfl)))
         |_=>rfl
        exact e.trans hn
       |fs y=>rw[hA]at hn;exact hn
       |_=>rw[hA]at hn;simp[lenN,lenA]at hn
      split at hv'
      ·rename_i n hn
       rw[hl n hn];exact hv'
      ·cases hv'
     ·cases hv'
    ·cases hv'
  rw[hL,h.1]
end PSL
namespace PSL
open Go Go.RowKit
section
variable {g:G} {pf:Nat→Cls} {ops:Array Oper}

theorem mem_looks {o:Oper}{t:Nat}(h:.tmp t∈o.op.operands.toList):t∈o.looksAt ops :=
 List.mem_append_left _ (List.mem_filterMap.2 ⟨.tmp t,h,rfl⟩)

def GdOk (ops:Array Oper)(E:Env)(o:Oper)(b:Bool):Prop :=
 match o.guard with
 |none=>b=true
 |some (j,want)=>∃og d,ops[j]? = some og∧og.dst=some d∧((lk E d=.tt∧b=want)∨(lk E d=.ff∧b = !want)∨(lk E d=.tup []∧b=false))

theorem guardA_ok {E:Env}{o:Oper}{b:Bool}(h:guardA ops.toList E o.guard=some b):GdOk ops E o b:=by
 unfold GdOk
 generalize o.guard=gd at h ⊢
 rcases gd with _ |⟨j,want⟩
 ·simp only[guardA]at h;cases h;rfl
 ·simp only [guardA] at h
  simp only
  split at h
  case h_2=>cases h
  case h_1 og hog =>
  rw[nth_eq,Array.getElem?_toList]at hog
  split at h
  case h_2=>cases h
  case h_1 d hd =>
  split at h
  ·rename_i he;cases h;exact⟨og,d,hog,hd,.inl ⟨he,rfl⟩⟩
  ·rename_i he;cases h;exact⟨og,d,hog,hd,.inr (.inl ⟨he,rfl⟩)⟩
  ·rename_i he;cases h;exact⟨og,d,hog,hd,.inr (.inr ⟨he,rfl⟩)⟩
  ·cases h

theorem yielded_of {a:Act}{j d:Nat}{og:Oper}{b:Bool}(h1:ops[j]? = some og)(h2:og.dst=some d)(h3:a.tmps.getD d undef=.bool b) :
  yielded ops a.tmps j=some b:=by
 unfold yielded
 simp only[h1,Option.bind_some,h2]
 rw[Array.getD_eq_getD_getElem?]at h3
 cases hd:a.tmps[d]? with
 |none=>rw[hd]at h3;cases h3
 |some v=>rw[hd]at h3;simp at h3;subst h3;rfl

theorem yielded_none {a:Act}{j d:Nat}{og:Oper}(h1:ops[j]? = some og)(h2:og.dst=some d)(h3:a.tmps.getD d undef=undef) :
  yielded ops a.tmps j=none:=by
 unfold yielded
 simp only[h1,Option.bind_some,h2]
 rw[Array.getD_eq_getD_getElem?]at h3
 cases hd:a.tmps[d]? with
 |none=>rfl
 |some v=>rw[hd]at h3;simp[undef]at h3;subst h3;rfl

theorem rv_undef {S:Nat→Prop}{w:World}{φ:List Phy}{v:Value}:RV S w φ (.tup []) v↔v=undef:=by
 simp only[RV]
 constructor
 ·rintro ⟨vs,h1,h2⟩
  cases vs with
  |nil=>exact h1
  |cons _ _=>simp[RVs]at h2
 ·rintro rfl;exact⟨[],rfl,by simp[RVs]⟩

theorem wanted_of {S:Nat→Prop}{w:World}{φ:List Phy}{E E₁:Env}{o:Oper}{b:Bool}{a:Act}(hg:GdOk ops E o b)(he:∀t∈o.looksAt ops,Ent (lk E₁ t) (lk E t))
  (hv:EnvOk S w φ E₁ a):Region.wanted o (yielded ops a.tmps)=b:=by
 unfold GdOk at hg
 unfold Region.wanted
 split at hg
 ·rename_i h;rw[h];exact hg.symm
 ·rename_i j want h
  rw[h]
  obtain⟨og,d,h1,h2,h3⟩:=hg
  have hd:d∈o.looksAt ops:=List.mem_append_right _ (by rw[h];simp[h1,h2])
  have hx:=he d hd _ _ _ _ (hv d)
  rcases h3 with ⟨h3,h4⟩ |⟨h3,h4⟩ |⟨h3,h4⟩
  ·rw [h3] at hx; simp only [RV] at hx
   simp only[yielded_of h1 h2 hx,h4]
   cases want<;>rfl
  ·rw [h3] at hx; simp only [RV] at hx
   simp only[yielded_of h1 h2 hx,h4]
   cases want<;>rfl
  ·rw [h3] at hx; rw [rv_undef] at hx
   simp only[yielded_none h1 h2 hx,h4]
   cases want<;>rfl

theorem rv_restr {S:Nat→Prop}{w:World}{φ:List Phy}{E E₁:Env}{l:List Nat}{a:Act}(he:∀t∈l,Ent (lk E₁ t) (lk E t))(hv:EnvOk S w φ E₁ a)(x:Operand) :
  RV S w φ (restr l E x) (a.eval x):=by
 cases x with
 |tmp t =>
  simp only[restr,Act.eval]
  split
  ·exact he t ‹_› _ _ _ _ (hv t)
  ·simp[RV]
 |const v =>
  simp only[restr,ev,Act.eval]
  unfold cstV
  split
  ·simp[RV]
  ·simp[RV]
  ·rename_i cs
   simp only[RV]
   refine⟨cs.toList,by simp,?_⟩
   have:=RVs.map (S:=S) (w:=w) (φ:=φ) (fun x=>AV.d (.v x)) id cs.toList (fun x _=>by simp only[RV];exact .v x)
   simpa using this
  ·simp only[RV];exact .v _
 |global n=>simp[restr,ev,RV]
 |func f=>simp only[restr,ev,Act.eval,RV];exact⟨[],[],rfl,by simp[RVs],by simp[RVs]⟩

theorem put_env {S:Nat→Prop}{w:World}{φ:List Phy}{E:Env}{a:Act}{d:Option Nat}{v:AV}{vv:Value}{N:Nat}(hv:EnvOk S w φ E a)(hsz:a.tmps.size=N)
  (hd:∀t,d=some t→t<N) (hx:d≠none→RV S w φ v vv):EnvOk S w φ (putO E d v) (a.put d vv):=fun t=>by
 rw[lk_putO]
 cases d with
 |none=>simpa[Act.put]using hv t
 |some u =>
  have hu:=hd u rfl
  simp only[Act.put,Array.getD_eq_getD_getElem?,Array.getElem?_setIfInBounds]
  by_cases h:u=t
  ·subst h
   simp only[if_true,hsz,hu]
   exact hx (by simp)
  ·simp only [Option.some.injEq,h,if_false]
   have:=hv t
   rwa [Array.getD_eq_getD_getElem?]at this
theorem put_size (a:Act)(d:Option Nat)(v:Value):(a.put d v).tmps.size=a.tmps.size:=by cases d<;>simp[Act.put]
theorem put_defers (a:Act)(d:Option Nat)(v:Value):(a.put d v).defers=a.defers:=by cases d<;>rfl

theorem MksA.stp {φ φ':List Phy}{ds:List Deferred}{w w':World}{objs':List Ob}(h:MksA g φ ds w)(hst:Stp g.S0 φ w φ' objs' w'):MksA g φ' ds w' :=
 ⟨h.1,h.2.1,fun d hd=>by
  obtain⟨D,h1,h2,h3,h4⟩:=h.2.2 d hd
  have hl:D<w.heap.size:=(Array.getElem?_eq_some_iff.1 h4).1
  refine⟨D,h1,h2,fun hb=>?_,(hst.fr D hl h3).trans h4⟩
  rcases hst.own D hb with h |h
  ·exact h3 h
  ·omega⟩

theorem MksA.phs {φ φ':List Phy}{ds:List Deferred}{w:World}(h:MksA g φ ds w)(hb:∀b,bls φ' b→bls φ b):MksA g φ' ds w :=
 ⟨h.1,h.2.1,fun d hd=>by obtain⟨D,h1,h2,h3,h4⟩:=h.2.2 d hd;exact⟨D,h1,h2,fun hc=>h3 (hb D hc),h4⟩⟩

theorem Mks.stp {φ φ':List Phy}{ds:List Deferred}{w w':World}{objs':List Ob}(h:Mks g φ ds w)(hst:Stp g.S0 φ w φ' objs' w'):Mks g φ' ds w' :=
 let ⟨ds1,ds2,e,h,h'⟩:=h;⟨ds1,ds2,e,h.stp hst,h'.mono hst.keep hst.le⟩

theorem Mks.phs {φ φ':List Phy}{ds:List Deferred}{w:World}(hdf:g.dfs=[])(h:Mks g φ ds w)(hb:∀b,bls φ' b→bls φ b):Mks g φ' ds w :=
 .none hdf ((h.only hdf).phs hb)

theorem Sat.stp {E:Env}{objs':List Ob}{a:Act}{w w':World}{φ φ':List Phy}{d:Option Nat}{v:AV}{vv:Value}
  (h2:∀b,bls φ b→g.w0.heap.size≤b∨g.X0 b) (h3:EnvOk (SS g.S0 φ) w φ E a) (h4:a.tmps.size=g.N) (h5:Mks g φ a.defers w) (h6:Fr0 g φ w)
  (hst:Stp g.S0 φ w φ' objs' w') (hd:∀t,d=some t→t<g.N) (hx:d≠none→RV (SS g.S0 φ') w' φ' v vv):Sat g (putO E d v) objs' (a.put d vv) w':=by
 refine⟨φ',hst.hs,fun b hb=>?_,put_env (fun t=>(h3 t).mono hst.keep hst.le) h4 hd hx,by rw[put_size];exact h4,by rw[put_defers];exact h5.stp hst,?_⟩
 ·rcases hst.own b hb with hb | hb
  ·exact h2 b hb
  ·have:=h6.size;left;omega
 ·refine ⟨Nat.le_trans h6.size hst.size,hst.os.trans h6.os,hst.tape.trans h6.tape,hst.out.trans h6.out,fun b hb hX=>?_,fun i l I B hi=>(let ⟨_,h0⟩:=hst.ext i l I B hi; h6.gen _ _ _ _ h0),h6.le.trans hst.le⟩
  have hn:¬ bls φ b:=fun hbl=>by
   rcases h2 b hbl with h |h
   ·omega
   ·exact hX h
  rw[hst.fr b (Nat.lt_of_lt_of_le hb h6.size) hn]
  exact h6.fr b hb hX
theorem about_ok (hg:GOk g)(o:Oper)(w:World)(a:Act):∀f,o.about g.P w a.eval=some f→g.F.fn f:=fun f _=>hg.fn f

theorem LocOp.of_out (hg:GOk g){o:Oper}{E:Env}{objs objs':List Ob}{c:Cls}{v:AV}(hgd:GdOk ops E o true)(hd:∀t,o.dst=some t→t<g.N)(hdef:∀c,o.op≠.defer c)
  (hsame:(∀b,c≠.turn b)→objs'=objs) (hgrow:∀b,c=.turn b→b≠9→Gr g.φ0.length b objs objs')
  (hout:∀ (φ:List Phy) (objs₁ objs₁':List Ob) (a:Act) (w:World) (E₁:Env),(∀ t∈o.looksAt ops,Ent (lk E₁ t) (lk E t))→EnvOk (SS g.S0 φ) w φ E₁ a→((c=.still∧objs₁'=objs₁)∨(∃ m,c=.look (m+1)∧(Gr g.φ0.length m objs₁ objs∨Gr g.φ0.length m objs objs₁)∧objs₁'=objs₁)∨(objs₁=objs∧objs₁'=objs'))→HS g.S0 φ objs₁ w →
   Out g.P (execOp a.eval o) g.S0 φ w v objs₁'):LocOp g ops o E objs c v objs':=by
 refine⟨hsame,hgrow,fun E₁ o₁ o₁' a w he ho hs Q=>?_⟩
 obtain⟨φ,h1,h2,h3,h4,h5,h6⟩:=hs
 rw[wanted_of hgd he h3]
 simp only[if_true]
 obtain⟨n,vv,w',φ',hr,hn,hrv,hst⟩:=hout φ o₁ o₁' a w E₁ he h3 ho h1
 refine⟨about_ok hg o w a,?_⟩
 rw[Oper.semAt_eq _ _ _ hdef,hr]
 rcases hn with rfl |⟨rfl,rfl⟩
 ·exact Sat.stp h2 h3 h4 h5 h6 hst hd fun _=>hrv
 ·exact Sat.stp h2 h3 h4 h5 h6 hst hd fun _=>hrv

theorem LocOp.skip (hg:GOk g){o:Oper}{E:Env}{objs:List Ob}{c:Cls}(hgd:GdOk ops E o false)(hd:∀t,o.dst=some t→t<g.N):LocOp g ops o E objs c (.tup []) objs:=by
 refine⟨fun _=>rfl,fun _ _ _=>.refl _,fun E₁ o₁ o₁' a w he ho hs Q=>?_⟩
 have e:o₁'=o₁:=by
  rcases ho with ⟨_,h⟩ |⟨_,_,_,h⟩ |⟨h,h'⟩
  ·exact h
  ·exact h
  ·rw[h,h']
 subst e
 obtain⟨φ,h1,h2,h3,h4,h5,h6⟩:=hs
 rw[wanted_of hgd he h3]
 simp only[Bool.false_eq_true,if_false]
 exact⟨about_ok hg o w a,Sat.stp h2 h3 h4 h5 h6 (.refl h1) hd fun _=>rv_undef.2 rfl⟩

theorem stepOp_nodefer {ty:Nat→Option Ty}{ρ:Operand→AV}{objs:List Ob}{o:Op}{x:AV × List Ob}(h:stepOp ty ρ objs o=some x):∀c,o≠.defer c:=by
 rintro c rfl
 simp[stepOp,stepS,stepL,stepE]at h

theorem LocOp.step' (hg:GOk g){o:Oper}{E:Env}{objs objs':List Ob}{v:AV}(hhe:held (isL4 pf) o.op=false)(hgd:GdOk ops E o true)(hd:∀t,o.dst=some t→t<g.N)(h:stepOp g.ty (ev E) objs o.op=some (v,objs')) :
  LocOp g ops o E objs (clsOf pf o.op) v objs':=by
 refine .of_out hg hgd hd (stepOp_nodefer h) (stepOp_same h) (stepOp_grow h hhe) fun φ o₁ o₁' a w E₁ he hv ho hs=>?_
 have hρ:=rv_restr (l:=o.looksAt ops) he hv
 have hcong:stepOp g.ty (restr (o.looksAt ops) E) objs o.op=stepOp g.ty (ev E) objs o.op:=stepOp_congr fun x hx=>by
  cases x with
  |tmp t=>simp[restr,ev,mem_looks hx]
  |_=>rfl
 rw[← hcong]at h
 rcases ho with ⟨hc,rfl⟩ |⟨m,hc,hcmp,rfl⟩ |⟨rfl,rfl⟩
 ·exact stepOp_ok hg.ty hs hρ (stepOp_still h hhe hc _)
 ·refine stepOp_ok hg.ty hs hρ (stepOp_look h hhe hc hcmp fun x _=>⟨fun i off hx=>?_,fun i hx=>?_⟩)
  ·have:=hρ x
   rw[hx]at this
   simp only[RV]at this
   obtain⟨b,hb,_⟩:=this
   rw[← hs.len];exact(List.getElem?_eq_some_iff.1 hb).1
  ·have:=hρ x
   rw[hx]at this
   simp only[RV]at this
   obtain⟨b,hb,_⟩:=this
   rw[← hs.len];exact(List.getElem?_eq_some_iff.1 hb).1
 ·exact stepOp_ok hg.ty hs hρ h

theorem nfL_id {α β:Type}(f:α→(α→β)→β)(hf:∀x k,f x k=k x):∀ (l:List α) (k:List α→β),nfL l f k=k l
 |[],_=>rfl
 |x::r,k=>by simp only[nfL,hf,nfL_id f hf r]

theorem nfV_id {β:Type}(v:AV)(k:AV→β):nfV v k=k v:=by
 unfold nfV
 split<;>first
  |rfl
  |(rw[nfL_id];exact fun x k=>rfl)
  |(rw[nfL_id];intro x k;rw[nfL_id];exact fun _ _=>rfl)
  |(rw[nfL_id _ (fun x k=>rfl)];rw[nfL_id _ (fun x k=>rfl)])

theorem nfO_id {β:Type}(o:Ob)(k:Ob→β):nfO o k=k o:=by
 cases o<;>simp only[nfO]
 all_goals (rw[nfL_id];exact fun x k=>rfl)
theorem nfE_id {β:Type}(E:Env)(k:Env→β):nfE E k=k E:=nfL_id _ (fun _ _=>rfl) E k

theorem dstOk_ok {N:Nat}{ty:Nat→Option Ty}{d:Option Nat}(h:dstOk ⟨ty,N⟩ d=true):∀t,d=some t→t<N:=by
 intro t ht
 subst ht
 exact Nat.le_of_ble_eq_true h

theorem runOps_ok (hg:GOk g){K:Env→List Ob→Prop}:∀ (l l':List Oper) (E E':Env) (objs objs':List Ob),runOps ⟨g.ty,g.N⟩ (isL4 pf) ops.toList l E objs=(l',E',objs')→Dr g pf ops l' E' objs' K→Dr g pf ops l E objs K
 |[],l',E,E',objs,objs',h,hd=>by
  simp only[runOps,Prod.mk.injEq]at h
  obtain⟨rfl,rfl,rfl⟩:=h;exact hd
 |o::r,l',E,E',objs,objs',h,hd=>by
  have stuck:(o::r,E,objs)=(l',E',objs')→Dr g pf ops (o::r) E objs K:=fun h=>by
   simp only[Prod.mk.injEq]at h;obtain⟨rfl,rfl,rfl⟩:=h;exact hd
  unfold runOps at h
  split at h
  ·rename_i hgd
   cases hhe:held (isL4 pf) o.op
   case true=>rw[hhe]at h;exact stuck h
   rw[hhe]at h
   simp only[cond_false]at h
   split at h
   ·rename_i v objs1 hst
    cases hdo:dstOk ⟨g.ty,g.N⟩ o.dst
    ·rw[hdo]at h;exact stuck h
    ·rw [hdo] at h
     simp only[cond_true,nfV_id,nfL_id _ (fun x k=>nfO_id x k),nfE_id]at h
     exact⟨v,objs1,.step' hg hhe (guardA_ok hgd) (dstOk_ok hdo) hst,runOps_ok hg r l' _ E' objs1 objs' h hd⟩
   ·exact stuck h
  ·rename_i hgd
   cases hdo:dstOk ⟨g.ty,g.N⟩ o.dst
   ·rw[hdo]at h;exact stuck h
   ·rw [hdo] at h
    simp only[cond_true,nfE_id]at h
    exact⟨.tup [],objs,.skip hg (guardA_ok hgd) (dstOk_ok hdo),runOps_ok hg r l' _ E' objs objs' h hd⟩
  ·exact stuck h
end
end PSL
namespace PSL
open Go Go.RowKit

theorem ev_rv {S:Nat→Prop}{w:World}{φ:List Phy}{E:Env}{a:Act}(hv:EnvOk S w φ E a)(x:Operand):RV S w φ (ev E x) (a.eval x):=by
 cases x with
 |tmp t=>exact hv t
 |const v=>exact rv_restr (l:=[]) (E:=E) (E₁:=E) (by simp) hv (.const v)
 |global n=>simp[ev,RV]
 |func f=>exact rv_restr (l:=[]) (E:=E) (E₁:=E) (by simp) hv (.func f)

def codeOk (pf:Nat→Cls):Code→Bool
 | .region id ops dr=>!dr || isL4 pf (Nat.add 900000000 id) || ordOk pf ops
 | .seq a b=>codeOk pf a&&codeOk pf b
 | .cond _ a b=>codeOk pf a&&codeOk pf b
 | .block _ b=>codeOk pf b
 | .loop b=>codeOk pf b
 | .rangeFunc _ _ a b=>codeOk pf a&&codeOk pf b
 | .scope b=>codeOk pf b
 |_=>true

def ItsOk (pf:Nat→Cls):List It→Prop
 |[]=>True
 | .code c::k=>codeOk pf c=true∧ItsOk pf k
 |_::k=>ItsOk pf k

def KP (g:G) (Fin:Exit→Act→World→Prop):List It→Exit→Act→World→Prop
 |[]=>Fin
 | .code c::k=>fun e a w=>match e with
  | .normal=>c.wpIn g.F g.dep g.P (KP g Fin k) a w
  |e=>KP g Fin k e a w
 | .blk id::k=>fun e a w=>match e with
  | .exit j=>if j=id then KP g Fin k .normal a w else KP g Fin k (.exit j) a w
  |e=>KP g Fin k e a w
 | .mark M::k=>fun e a w=>match e with
  | .normal=>∃E objs,M E objs∧Sat g E objs a w
  |e=>KP g Fin k e a w
 | .dr _ _::k=>KP g Fin k
def RK (g:G)(Fin:Exit→Act→World→Prop)(k:List It)(E:Env)(objs:List Ob):Prop:=∀a w,Sat g E objs a w→KP g Fin k .normal a w

def R (g:G)(pf:Nat→Cls)(Fin:Exit→Act→World→Prop)(k:List It)(E:Env)(objs:List Ob):Prop :=
 ItsOk pf k→match k with
  | .dr ops rest::k'=>Dr g pf ops rest E objs (fun E' objs'=>RK g Fin k' E' objs')
  |k=>RK g Fin k E objs
section
variable {g:G} {pf:Nat→Cls} {Fin:Exit→Act→World→Prop}
theorem RK_kc (k:List It):KC (fun E objs=>RK g Fin k E objs):=fun _ _ _ he h a w hs=>h a w (hs.ent he)

theorem R.ent {k:List It}{E E':Env}{objs:List Ob}(he:EEnt E E')(h:R g pf Fin k E' objs):R g pf Fin k E objs:=fun ho=>by
 have h:=h ho
 cases k with
 |nil=>exact RK_kc [] _ _ _ he h
 |cons x k =>
  cases x<;>first
   |exact RK_kc _ _ _ _ he h
   |exact Dr.ent (RK_kc k) he h

theorem RK.of_R {k:List It}{E:Env}{objs:List Ob}(ho:ItsOk pf k)(h:R g pf Fin k E objs)(hk:∀ops rest k',k≠.dr ops rest::k'):RK g Fin k E objs:=by
 have h:=h ho
 cases k with
 |nil=>exact h
 |cons x k =>
  cases x<;>first
   |exact h
   |exact absurd rfl (hk _ _ _)

theorem exitK_ok {id:Nat}:∀ {k k':List It} {a:Act} {w:World},exitK id k=some k'→KP g Fin k' .normal a w→KP g Fin k (.exit id) a w
 |[],_,_,_,h,_=>by simp[exitK]at h
 | .code _::k,k',a,w,h,hk=>by simp only[exitK]at h;simp only[KP];exact exitK_ok h hk
 | .mark _::k,k',a,w,h,hk=>by simp only[exitK]at h;simp only[KP];exact exitK_ok h hk
 | .dr _ _::k,k',a,w,h,hk=>by simp[exitK]at h
 | .blk j::k,k',a,w,h,hk=>by
  simp only[exitK]at h
  simp only[KP]
  cases hj:Nat.beq j id
  ·rw [hj] at h
   have:id≠j:=fun e=>by subst e;simp at hj
   rw[if_neg this];exact exitK_ok h hk
  ·rw [hj] at h
   have:=natBeq hj
   subst this
   simp only[cond_true,Option.some.injEq]at h
   subst h
   rw[if_pos rfl];exact hk

theorem exitK_its {id:Nat}:∀ {k k':List It},exitK id k=some k'→ItsOk pf k→ItsOk pf k'
 |[],_,h,_=>by simp[exitK]at h
 | .code _::k,k',h,hk=>by simp only[exitK]at h;exact exitK_its h hk.2
 | .mark _::k,k',h,hk=>by simp only[exitK]at h;exact exitK_its (k:=k) h hk
 | .dr _ _::k,k',h,hk=>by simp[exitK]at h
 | .blk j::k,k',h,hk=>by
  simp only[exitK]at h
  cases hj:Nat.beq j id
  ·rw[hj]at h;exact exitK_its (k:=k) h hk
  ·rw[hj]at h;simp only[cond_true,Option.some.injEq]at h;subst h;exact hk

theorem KP_seq (_c d:Code)(k:List It)(e:Exit)(a:Act)(w:World)(h:KP g Fin (.code d::k) e a w):Exit.then (d.wpIn g.F g.dep g.P (KP g Fin k)) (KP g Fin k) e a w:=by
 cases e<;>exact h

theorem KP_blk (id:Nat)(k:List It)(e:Exit)(a:Act)(w:World)(h:KP g Fin (.blk id::k) e a w):Exit.inBlock id (KP g Fin k) e a w:=by
 cases e<;>simp only[KP,Exit.inBlock]at h ⊢<;>exact h

theorem Dr.monoK {ops:Array Oper}{K K':Env→List Ob→Prop}(h:∀E objs,K E objs→K' E objs):∀ {l:List Oper} {E:Env} {objs:List Ob},Dr g pf ops l E objs K→Dr g pf ops l E objs K'
 |[],_,_,hd=>h _ _ hd
 |_::_,_,_,⟨v,o1,h1,h2⟩=>⟨v,o1,h1,Dr.monoK h h2⟩

theorem R_region (hg:GOk g){id:Nat}{ops:Array Oper}{dr:Bool}{k:List It}{E:Env}{objs:List Ob}(hh:isL4 pf (Nat.add 900000000 id)=false)(h:R g pf Fin (.dr ops ops.toList::k) E objs):R g pf Fin (.code (.region id ops dr)::k) E objs:=by
 rintro⟨ho1,ho⟩
 have h:=h ho
 simp only at h
 intro a w hs
 simp only[KP]
 have hQ:∀E objs a w,RK g Fin k E objs→Sat g E objs a w→KP g Fin k .normal a w:=fun _ _ a w hr hs=>hr a w hs
 cases dr with
 |true =>
  simp only[codeOk,Bool.not_true,Bool.false_or,hh]at ho1
  exact wp_draw hg ho1 (RK_kc k) hQ h hs id
 |false=>exact wp_reg hQ h hs id

def noDr:List It→Bool
 |[]=>true
 | .dr _ _::_=>false
 |_::k=>noDr k

theorem noDr_head {k:List It}(h:noDr k=true):∀ops rest k',k≠.dr ops rest::k':=by
 rintro ops rest k' rfl
 simp[noDr]at h

theorem exitK_noDr {id:Nat}:∀ {k k':List It},exitK id k=some k'→noDr k=true→noDr k'=true
 |[],_,h,_=>by simp[exitK]at h
 | .code _::k,k',h,hk=>by simp only[exitK]at h;exact exitK_noDr (k:=k) h hk
 | .mark _::k,k',h,hk=>by simp only[exitK]at h;exact exitK_noDr (k:=k) h hk
 | .dr _ _::k,k',h,hk=>by simp[exitK]at h
 | .blk j::k,k',h,hk=>by
  simp only[exitK]at h
  cases hj:Nat.beq j id
  ·rw[hj]at h;exact exitK_noDr (k:=k) h hk
  ·rw[hj]at h;simp only[cond_true,Option.some.injEq]at h;subst h;exact hk

def topOk:List It→Bool
 | .dr _ _::k=>noDr k
 |k=>noDr k

theorem topOk_of {k:List It}(h:noDr k=true):topOk k=true:=by
 cases k with
 |nil=>rfl
 |cons x k=>cases x<;>first
  |exact h
  |(simp[noDr]at h)

theorem runC_ok (hg:GOk g):∀ (n:Nat) (k k':List It) (E E':Env) (objs objs':List Ob),topOk k=true→runC ⟨g.ty,g.N⟩ (isL4 pf) n k E objs=.mk k' E' objs'→R g pf Fin k' E' objs'→R g pf Fin k E objs:=by
 intro n
 induction n with
 |zero =>
  intro k k' E E' objs objs' _ h hr
  simp only[runC,Cfg.mk.injEq]at h
  obtain⟨rfl,rfl,rfl⟩:=h;exact hr
 |succ n ih =>
  intro k k' E E' objs objs' ht h hr
  have stay:Cfg.mk k E objs=.mk k' E' objs'→R g pf Fin k E objs:=fun h=>by
   simp only[Cfg.mk.injEq]at h;obtain⟨rfl,rfl,rfl⟩:=h;exact hr
  cases k with
  |nil=>simp only[runC]at h;exact stay h
  |cons x k =>
   cases x with
   |mark M=>simp only[runC]at h;exact stay h
   |blk id =>
    simp only[runC]at h
    have ht':noDr k=true:=ht
    have h1:=ih k k' E E' objs objs' (topOk_of ht') h hr
    intro ho a w hs
    exact RK.of_R (pf:=pf) (k:=k) ho h1 (noDr_head ht') a w hs
   |dr ops rest =>
    have ht':noDr k=true:=ht
    simp only[runC]at h
    split at h
    ·rename_i E1 objs1 hro
     have h1:=ih k k' E1 E' objs1 objs' (topOk_of ht') h hr
     intro ho
     exact runOps_ok hg rest [] E E1 objs objs1 hro (RK.of_R (pf:=pf) (k:=k) ho h1 (noDr_head ht'))
    ·rename_i r E1 objs1 _ hro
     simp only[Cfg.mk.injEq]at h
     obtain⟨rfl,rfl,rfl⟩:=h
     intro ho
     exact runOps_ok hg rest r E E1 objs objs1 hro (hr ho)
   |code c =>
    have ht':noDr k=true:=ht
    cases c with
    |seq c d =>
     simp only[runC]at h
     have h1:=ih (.code c :: .code d::k) k' E E' objs objs' ht' h hr
     rintro⟨ho1,ho⟩ a w hs
     simp only[codeOk,Bool.and_eq_true]at ho1
     have h2:=RK.of_R (pf:=pf) (k:=.code c :: .code d::k) ⟨ho1.1,ho1.2,ho⟩ h1 (by simp) a w hs
     exact wpIn_seq (wpIn_mono h2 (KP_seq c d k))
    |skip =>
     simp only[runC]at h
     have h1:=ih k k' E E' objs objs' (topOk_of ht') h hr
     rintro⟨_,ho⟩ a w hs
     exact wpIn_skip (RK.of_R (pf:=pf) (k:=k) ho h1 (noDr_head ht') a w hs)
    |block id b =>
     simp only[runC]at h
     have h1:=ih (.code b :: .blk id::k) k' E E' objs objs' ht' h hr
     rintro⟨ho1,ho⟩ a w hs
     have h2:=RK.of_R (pf:=pf) (k:=.code b :: .blk id::k) ⟨ho1,ho⟩ h1 (by simp) a w hs
     exact wpIn_block (wpIn_mono h2 (KP_blk id k))
    |exit id =>
     simp only[runC]at h
     split at h
     ·rename_i k1 hk1
      have hn:=exitK_noDr hk1 ht'
      have h1:=ih k1 k' E E' objs objs' (topOk_of hn) h hr
      rintro⟨_,ho⟩ a w hs
      exact wpIn_exit (exitK_ok hk1 (RK.of_R (pf:=pf) (k:=k1) (exitK_its hk1 ho) h1 (noDr_head hn) a w hs))
     ·exact stay h
    |cond x c d =>
     simp only[runC]at h
     have hev:∀ {b:Bool} {a:Act} {w:World},ev E x=(if b then .tt else .ff)→Sat g E objs a w→a.eval x=.bool b:=by
      intro b a w he ⟨φ,_,_,h3,_⟩
      have:=ev_rv h3 x
      rw[he]at this
      cases b<;>simpa[RV]using this
     split at h
     ·rename_i he
      have h1:=ih (.code c::k) k' E E' objs objs' ht' h hr
      rintro⟨ho1,ho⟩ a w hs
      simp only[codeOk,Bool.and_eq_true]at ho1
      exact wpIn_cond_true (hev (b:=true) he hs) (RK.of_R (pf:=pf) (k:=.code c::k) ⟨ho1.1,ho⟩ h1 (by simp) a w hs)
     ·rename_i he
      have h1:=ih (.code d::k) k' E E' objs objs' ht' h hr
      rintro⟨ho1,ho⟩ a w hs
      simp only[codeOk,Bool.and_eq_true]at ho1
      exact wpIn_cond_false (hev (b:=false) he hs) (RK.of_R (pf:=pf) (k:=.code d::k) ⟨ho1.2,ho⟩ h1 (by simp) a w hs)
     ·exact stay h
    |region id ops dr =>
     simp only[runC]at h
     cases hh:isL4 pf (Nat.add 900000000 id) with
     |true=>rw[hh]at h;exact stay h
     |false =>
      rw[hh]at h
      exact R_region hg hh (ih (.dr ops ops.toList::k) k' E E' objs objs' ht' h hr)
    |_=>simp only[runC]at h;exact stay h

theorem R_run (hg:GOk g)(n:Nat){k k':List It}{E E':Env}{objs objs':List Ob}(ht:topOk k=true)(h:runC ⟨g.ty,g.N⟩ (isL4 pf) n k E objs=.mk k' E' objs')(hr:R g pf Fin k' E' objs'):R g pf Fin k E objs :=
 runC_ok hg n k k' E E' objs objs' ht h hr

theorem R_k (hg:GOk g) {k k':List It} {E E':Env} {objs objs':List Ob} (ht:topOk k=true) (h:runC ⟨g.ty,g.N⟩ (isL4 pf) 1000 k E objs=.mk k' E' objs') (hr:R g pf Fin k' E' objs') : R g pf Fin k E objs:=R_run hg 1000 ht h hr

theorem lk_of_put (E:Env)(t:Nat)(v:AV)(u:Nat)(h:Ent (lk E t) v):Ent (lk E u) (lk (put E t v) u):=by
 rw[lk_put]
 split
 ·rename_i e;subst e;exact h
 ·exact .refl _

theorem ent_tt {b:Bool}(h:b=true):Ent (bV b) .tt:=fun S w φ v hv=>by
 simp only[bV,RV]at hv ⊢;subst h;cases hv;rfl

theorem ent_ff {b:Bool}(h:b=false):Ent (bV b) .ff:=fun S w φ v hv=>by
 simp only[bV,RV]at hv ⊢;subst h;cases hv;rfl

theorem R_split {k:List It}{E:Env}{objs:List Ob}(t:Nat){b:Bool}(h:lk E t=.d (.v (.bool b)))(h1:b=true→R g pf Fin k (put E t .tt) objs)(h2:b=false→R g pf Fin k (put E t .ff) objs):R g pf Fin k E objs:=by
 cases hb:b
 ·exact(h2 hb).ent fun u=>lk_of_put E t _ u (by rw[h];exact ent_ff hb)
 ·exact(h1 hb).ent fun u=>lk_of_put E t _ u (by rw[h];exact ent_tt hb)

def gslot:List It→Option Nat
 | .dr ops (o::_)::_=>match o.guard with
  |some (j,_)=>match nth ops.toList j with
   |some og=>og.dst
   |none=>none
  |none=>none
 | .code (.cond (.tmp t) _ _)::_=>some t
 |_=>none

theorem R_if {k:List It}{E:Env}{objs:List Ob}{t:Nat}{b:Bool}(_ht:gslot k=some t)(h:lk E t=.d (.v (.bool b)))(h1:b=true→R g pf Fin k (put E t .tt) objs)(h2:b=false→R g pf Fin k (put E t .ff) objs):R g pf Fin k E objs :=
 R_split t h h1 h2

theorem R_see {k:List It}{E:Env}{objs:List Ob}(t:Nat){v v':AV}(h:lk E t=v)(he:Ent v v')(h1:R g pf Fin k (put E t v') objs):R g pf Fin k E objs :=
 h1.ent fun u=>lk_of_put E t _ u (by rw[h];exact he)

def EnvIn (E:Env):Env→Prop
 |[]=>True
 |(t,v)::r=>Ent (lk E t) v∧EnvIn E r

theorem EnvIn.eent {E:Env}:∀ {E':Env},EnvIn E E'→EEnt E E'
 |[],_,u=>by simp only[lk];exact .any _
 |(t,v)::r,h,u=>by
  simp only[lk]
  cases hb:Nat.beq t u
  ·exact h.2.eent u
  ·have:=natBeq hb;subst this;exact h.1
theorem R_weak {k:List It}{E:Env}{objs:List Ob}(E':Env)(he:EnvIn E E')(h:R g pf Fin k E' objs):R g pf Fin k E objs:=h.ent he.eent
end
end PSL
namespace PSL
open Go Go.RowKit

def Callable (P:Program)(f:Nat):Prop:=∀args w,(callFunc f args).run P w=.ok (.enter f args) w

theorem callable_of {P:Program}{f:Nat}{fn:Func}{c:Code}(hf:P.funcs[f]? = some fn)(hb:fn.body=some c)(hn:(fn.name == "runtime.NumGoroutine")=false):Callable P f:=by
 intro args w
 simp only[callFunc,Sem.run_bind,run_program,Result.andThen_ok,hf,hn,hb]
 rfl

structure PCtr (P:Program) (f:Nat) (args:List AV) (r:AV):Prop where
 call:Callable P f
 run:∀ (S:Nat→Prop) (w:World) (vals:List Value),AmbOk P S w→(∀ b,w.heap.size≤b→S b)→RVs S w [] args vals →
  Calls P f vals.toArray w fun e w'=>∃v,e=.returned v∧RV S w' [] r v∧Below w.heap.size w w'

mutual
def pureA:AV→Bool
 | .any=>true
 | .tt=>true
 | .ff=>true
 | .d _=>true
 | .fs _=>true
 | .agg l=>pureL l
 | .lo _ _=>false
 | .el _ _ _ _=>false
 | .vw _ _ _=>false
 | .ow _ _=>false
 | .mp _=>false
 | .tup l=>pureL l
 | .clo _ a c=>pureL a&&pureL c
 | .yl _=>false
def pureL:List AV→Bool
 |[]=>true
 |x::l=>pureA x&&pureL l
end

mutual
theorem RV.pure {S S':Nat→Prop}{w w':World}{φ φ':List Phy}(hk:Keep S w S' w'):∀ {x:AV} {v:Value},pureA x=true→RV S w φ x v→RV S' w' φ' x v
 | .any,_,_,_=>by simp[RV]
 | .tt,_,_,h=>by simpa[RV]using h
 | .ff,_,_,h=>by simpa[RV]using h
 | .d x,v,_,h=>by simp only[RV]at h ⊢;exact h.mono hk
 | .fs rows,v,_,h=>by simp only[RV]at h ⊢;exact⟨h.1.mono hk,h.2⟩
 | .agg l,v,hp,h=>by
  simp only[RV]at h ⊢;simp only[pureA]at hp
  obtain⟨cs,h1,h2⟩:=h
  exact⟨cs,h1,RVs.pure hk hp h2⟩
 | .lo _ _,_,hp,_=>by simp[pureA]at hp
 | .yl _,_,hp,_=>by simp[pureA]at hp
 | .el _ _ _ _,_,hp,_=>by simp[pureA]at hp
 | .vw _ _ _,_,hp,_=>by simp[pureA]at hp
 | .ow _ _,_,hp,_=>by simp[pureA]at hp
 | .mp _,_,hp,_=>by simp[pureA]at hp
 | .tup l,v,hp,h=>by
  simp only[RV]at h ⊢;simp only[pureA]at hp
  obtain⟨cs,h1,h2⟩:=h
  exact⟨cs,h1,RVs.pure hk hp h2⟩
 | .clo f a c,v,hp,h=>by
  simp only[RV]at h ⊢;simp only[pureA,Bool.and_eq_true]at hp
  obtain⟨va,vc,h1,h2,h3⟩:=h
  exact⟨va,vc,h1,RVs.pure hk hp.1 h2,RVs.pure hk hp.2 h3⟩
theorem RVs.pure {S S':Nat→Prop}{w w':World}{φ φ':List Phy}(hk:Keep S w S' w'):∀ {l:List AV} {vs:List Value},pureL l=true→RVs S w φ l vs→RVs S' w' φ' l vs
 |[],[],_,_=>by simp[RVs]
 |[],_::_,_,h=>by simp[RVs]at h
 |_::_,[],_,h=>by simp[RVs]at h
 |a::l,v::vs,hp,h=>by
  simp only[RVs]at h ⊢;simp only[pureL,Bool.and_eq_true]at hp
  exact⟨RV.pure hk hp.1 h.1,RVs.pure hk hp.2 h.2⟩
end

def nrm:AV→AV
 | .tt=>.d (.v (.bool true))
 | .ff=>.d (.v (.bool false))
 | .fs rows=>.d (.sl rows)
 | .d (.v (.slice none 0 0))=>.d (.sl [])
 | .agg l=>.agg (l.map fun x=>match x with
  | .fs rows=>.d (.sl rows)
  | .tt=>.d (.v (.bool true))
  | .ff=>.d (.v (.bool false))
  | .d (.v (.slice none 0 0))=>.d (.sl [])
  |x=>x)
 |x=>x

theorem RVs.mapEnt {S:Nat→Prop}{w:World}{φ:List Phy}(f:AV→AV)(hf:∀x,Ent x (f x)):∀ {l:List AV} {vs:List Value},RVs S w φ l vs→RVs S w φ (l.map f) vs
 |[],[],_=>by simp[RVs]
 |[],_::_,h=>by simp[RVs]at h
 |_::_,[],h=>by simp[RVs]at h
 |a::l,v::vs,h=>by simp only[RVs,List.map_cons]at h ⊢;exact⟨hf a _ _ _ _ h.1,h.2.mapEnt f hf⟩

theorem Ent.nil:Ent (.d (.v (.slice none 0 0))) (.d (.sl [])):=fun S w φ v h=>by
 simp only[RV]at h ⊢;cases h;exact .nil _ _
theorem Ent.fs (rows:List (List D)):Ent (.fs rows) (.d (.sl rows)):=fun S w φ v h=>by simp only[RV]at h ⊢;exact h.1
theorem Ent.tt:Ent .tt (.d (.v (.bool true))):=fun S w φ v h=>by simp only[RV]at h ⊢;subst h;exact .v _
theorem Ent.ff:Ent .ff (.d (.v (.bool false))):=fun S w φ v h=>by simp only[RV]at h ⊢;subst h;exact .v _

theorem Ent.nrm (x:AV):Ent x (nrm x):=by
 unfold PSL.nrm
 split
 ·exact .tt
 ·exact .ff
 ·exact .fs _
 ·exact .nil
 ·intro S w φ v h
  simp only[RV]at h ⊢
  obtain⟨cs,h1,h2⟩:=h
  refine⟨cs,h1,h2.mapEnt _ fun x=>?_⟩
  split
  ·exact .fs _
  ·exact .tt
  ·exact .ff
  ·exact .nil
  ·exact .refl _
 ·exact .refl _
section
variable {g:G} {pf:Nat→Cls} {ops:Array Oper}

theorem SS_nil (S:Nat→Prop):SS S []=S:=by
 funext b
 simp[SS,bls]

theorem run_callv {P:Program}{w:World}{o:Oper}{a:Act}{x:Operand}{args:Array Operand}{ts:Array Nat}{f:Nat}{va vc:List Value}(hop:o.op=.call { callee:=.value x,args:=args,argTypes:=ts })
  (hx:a.eval x=.func (.func f) va.toArray vc.toArray) (hc:Callable P f) :
  (execOp a.eval o).run P w=.ok (.enter f (va++args.toList.map a.eval++vc).toArray) w:=by
 have h1:(resolve a.eval { callee:=.value x,args:=args,argTypes:=ts } o.type).run P w=.ok { target:=.fn (.func f) vc.toArray,args:=va.toArray++args.map a.eval } w:=by
  simp[resolve,hx,Deferred.ofValue]
 simp only[execOp,hop,Sem.run_bind,h1,Result.andThen_ok,invoke]
 rw[show va.toArray++Array.map a.eval args++vc.toArray=(va++args.toList.map a.eval++vc).toArray from by apply Array.toList_inj.1;simp]
 exact hc _ _

theorem fenced_all (hg:GOk g)(m:Machine):m.fenced g.P g.F:=fun x _ =>
 ⟨(fun h=>by rw[hg.alive]at h;cases h),.inl (hg.fn _),(fun f _=>hg.fn f),(fun d hd=>by rw[hg.depth]at hd;cases hd)⟩

theorem callsIn_free (hg:GOk g){n f:Nat}{args:Array Value}{w:World}{R:Ending→World→Prop}(h:Calls g.P f args w R):CallsIn g.F n g.P f args w R :=
 ⟨hg.fn f,fun cs _=>let ⟨e,w',fr,r,s,x⟩:=h cs;⟨e,w',fr,r,by
  cases e with
  |returned v=>exact(StepsIn.of_steps s).mono fun m _=>fenced_all hg m
  |panicked ch=>exact(StepsIn.of_steps s).mono fun m _=>fenced_all hg m
  |outgrown=>exact s,x⟩⟩

theorem loc_call (hg:GOk g){o:Oper}{E:Env}{objs:List Ob}{x:Operand}{args:Array Operand}{ts:Array Nat}{f:Nat}{fs cs axs:List AV}{r:AV}(hgd:GdOk ops E o true)(hd:∀t,o.dst=some t→t<g.N)
  (hop:o.op=.call { callee:=.value x,args:=args,argTypes:=ts }) (hx:ev E x=.clo f fs cs) (has:(fs++args.toList.map (ev E)++cs).map nrm=axs) (hpa:pureL axs=true) (hc:PCtr g.P f axs r) (hpr:pureA r=true) :
  LocOp g ops o E objs .still r objs:=by
 refine⟨fun _=>rfl,fun _ _ _=>.refl _,fun E₁ o₁ o₁' a w he ho hs Q=>?_⟩
 have e:o₁'=o₁:=by
  rcases ho with ⟨_,h⟩ |⟨_,_,_,h⟩ |⟨h,h'⟩
  ·exact h
  ·exact h
  ·rw[h,h']
 subst e
 obtain⟨φ,h1,h2,h3,h4,h5,h6⟩:=hs
 rw[wanted_of hgd he h3]
 simp only[if_true]
 refine⟨about_ok hg o w a,?_⟩
 have hρ:=rv_restr (l:=o.looksAt ops) he h3
 have hev:∀y∈o.op.operands.toList,restr (o.looksAt ops) E y=ev E y:=fun y hy=>by
  cases y with
  |tmp t=>simp[restr,ev,mem_looks hy]
  |_=>rfl
 have hopd:o.op.operands.toList=x::args.toList:=by rw[hop];simp[Op.operands,Call.operands]
 have hxv:=hρ x
 rw[hev x (by rw[hopd];simp),hx]at hxv
 simp only[RV]at hxv
 obtain⟨va,vc,hxv,hfs,hcs⟩:=hxv
 have hargs:RVs (SS g.S0 φ) w φ (args.toList.map (ev E)) (args.toList.map a.eval):=by
  refine RVs.map _ _ _ fun y hy=>?_
  rw[← hev y (by rw[hopd];simp[hy])]
  exact hρ y
 have hall:=((hfs.append hargs).append hcs).mapEnt nrm Ent.nrm
 rw[has]at hall
 rw[Oper.semAt_eq _ _ _ (by rw[hop];simp),run_callv hop hxv hc.call]
 refine⟨fun h=>by rw[hg.depth]at h;simp at h,?_⟩
 have hup:∀b,w.heap.size≤b→SS g.S0 φ b:=fun b hb=>⟨h1.up b hb,fun hc=>by have:=h1.lt b hc;omega⟩
 have hcall:=hc.run (SS g.S0 φ) w _ (hg.ambAt h2 h6) hup (hall.pure (Keep.refl _ _) hpa)
 refine(callsIn_free hg hcall).mono ?_
 rintro e w' ⟨v,rfl,hv,hb⟩
 have hst:Stp g.S0 φ w φ o₁' w':=⟨h1.later hb.size (fun b hb'=>hb.block b hb'),.of fun b hb' hl=>⟨hb',hb.block b hl⟩,.refl _,hb.size,hb.os,hb.tape,hb.output,fun b hb' _=>hb.block b hb',fun _ h=>.inl h,fun _ _ _ B h=>⟨B,h⟩⟩
 exact Sat.stp h2 h3 h4 h5 h6 hst hd fun _=>hv.pure (Keep.refl _ _) hpr
end
end PSL
