import Derived.Test.YtcgkgofmldhokaaGreatM2
import Derived.Test.YtcgkgofmldhokaaGreatSTy
import Derived.Laws.StructEq
namespace PSL
open Go

structure Is where
 op:Int
 v:Int
 n:Int
 s:ByteArray
namespace Is
def row (x:Is):List D:=[.v (.int .i64 x.op),.v (.int .i64 x.v),.v (.int .i64 x.n),.v (.string x.s)]
def rows (l:List Is):List (List D):=l.map row
def av (x:Is):AV:=.agg [.d (.v (.int .i64 x.op)),.d (.v (.int .i64 x.v)),.d (.v (.int .i64 x.n)),.d (.v (.string x.s))]
theorem rows_len (l:List Is):(rows l).length=l.length:=by simp [rows]
theorem rows_get {l:List Is} {i:Nat} {x:Is} (h:l[i]? = some x):(rows l)[i]? = some (row x):=by simp [rows,h]
theorem rows_app (a b:List Is):rows (a++b)=rows a++rows b:=by simp [rows]
theorem rows_snoc (a:List Is) (x:Is):rows a++[row x]=rows (a++[x]):=by simp [rows]
end Is
def e0:ByteArray:=⟨#[]⟩

mutual
def headG:Tm→List Int→List Is × List Int
 | .mk k s n l,met=>if k=1 then ([⟨if met.contains n then 2 else 1,n,0,e0⟩],addV met n) else if k=2 then ([⟨3,0,n,e0⟩],met) else (⟨4,0,l.length,s⟩::(headGL l met).1,(headGL l met).2)
def headGL:List Tm→List Int→List Is × List Int
 | [],met=>([],met)
 | t::r,met=>((headG t met).1++(headGL r (headG t met).2).1,(headGL r (headG t met).2).2)
end

theorem headG_eq (t:Tm) (met:List Int):headG t met=if t.k=1 then ([⟨if met.contains t.n then 2 else 1,t.n,0,e0⟩],addV met t.n) else if t.k=2 then ([⟨3,0,t.n,e0⟩],met) else (⟨4,0,t.l.length,t.s⟩::(headGL t.l met).1,(headGL t.l met).2):=by
 cases t; rw [headG]; rfl

theorem headGL_snoc (l:List Tm) (x:Tm) (met:List Int):headGL (l++[x]) met=((headGL l met).1++(headG x (headGL l met).2).1,(headG x (headGL l met).2).2):=by
 induction l generalizing met with
 | nil=>simp [headGL]
 | cons y r ih=>simp only [List.cons_append,headGL,ih]; simp

theorem headGL_take {l:List Tm} {i:Nat} {x:Tm} (h:l[i]? = some x) (met:List Int):headGL (l.take (i+1)) met=((headGL (l.take i) met).1++(headG x (headGL (l.take i) met).2).1,(headG x (headGL (l.take i) met).2).2):=by
 rw [List.take_add_one,h]; exact headGL_snoc _ _ _
theorem headGL_t1 {l:List Tm} {i:Nat} {x:Tm} (h:l[i]? = some x) (met:List Int):(headGL (l.take (i+1)) met).1=(headGL (l.take i) met).1++(headG x (headGL (l.take i) met).2).1:=by rw [headGL_take h]
theorem headGL_t2 {l:List Tm} {i:Nat} {x:Tm} (h:l[i]? = some x) (met:List Int):(headGL (l.take (i+1)) met).2=(headG x (headGL (l.take i) met).2).2:=by rw [headGL_take h]

theorem tm_sizeL_at {l:List Tm} {i:Nat} {x:Tm} (h:l[i]? = some x):Tm.sizeL (l.take i)+x.size≤Tm.sizeL l:=by
 induction l generalizing i with
 | nil=>simp at h
 | cons y r ih =>
  cases i with
  | zero=>simp at h; subst h; simp only [List.take_zero,Tm.sizeL]; omega
  | succ i =>
   have:=ih (i:=i) (by simpa using h)
   simp only [List.take_succ_cons,Tm.sizeL]; omega
def instG (t:Tm):Is:=if t.k=1 then ⟨6,t.n,0,e0⟩ else if t.k=2 then ⟨7,0,t.n,e0⟩ else ⟨8,0,t.l.length,t.s⟩

mutual
def putG:Tm→List Is
 | .mk k s n l=>putGL l++[instG (.mk k s n l)]
def putGL:List Tm→List Is
 | []=>[]
 | t::r=>putG t++putGL r
end
theorem putG_eq (t:Tm):putG t=putGL t.l++[instG t]:=by cases t; rw [putG]; rfl

theorem putGL_snoc (l:List Tm) (x:Tm):putGL (l++[x])=putGL l++putG x:=by
 induction l with
 | nil=>simp [putGL]
 | cons y r ih=>simp only [List.cons_append,putGL,ih,List.append_assoc]

theorem putGL_take {l:List Tm} {i:Nat} {x:Tm} (h:l[i]? = some x):putGL (l.take (i+1))=putGL (l.take i)++putG x:=by
 rw [List.take_add_one,h]; exact putGL_snoc _ _

mutual
theorem putG_len:∀ t:Tm,(putG t).length=t.size
 | .mk k s n l=>by rw [putG,Tm.size]; simp only [List.length_append,List.length_singleton]; rw [putGL_len l]; omega
theorem putGL_len:∀ l:List Tm,(putGL l).length=Tm.sizeL l
 | []=>rfl
 | t::r=>by rw [putGL,Tm.sizeL,List.length_append,putG_len t,putGL_len r]
end

mutual
theorem headG_len:∀ (t:Tm) (met:List Int),(headG t met).1.length≤t.size∧(headG t met).2.length≤met.length+t.size
 | .mk k s n l,met=>by
  have hl:=headGL_len l met
  have ha:(addV met n).length≤met.length+1:=by unfold addV; split <;> simp
  rw [headG,Tm.size]
  split
  ·exact ⟨by simp only [List.length_singleton]; omega,by simp only; omega⟩
  ·split
   ·exact ⟨by simp only [List.length_singleton]; omega,by simp only; omega⟩
   ·exact ⟨by simp only [List.length_cons]; omega,by simp only; omega⟩
theorem headGL_len:∀ (l:List Tm) (met:List Int),(headGL l met).1.length≤Tm.sizeL l∧(headGL l met).2.length≤met.length+Tm.sizeL l
 | [],met=>⟨Nat.le_refl _,Nat.le_refl _⟩
 | t::r,met=>by
  have h1:=headG_len t met
  have h2:=headGL_len r (headG t met).2
  rw [headGL,Tm.sizeL]
  exact ⟨by simp only [List.length_append]; omega,by simp only; omega⟩
end
def asksG (op:Int) (t:Tm):List Is:=putGL t.l++[⟨op,0,t.l.length,t.s⟩]

def notCode (at_:Nat) (v:Int) (A:List Is):List Is :=
 [⟨13,v,0,e0⟩,⟨14,0,((at_+2+A.length+2:Nat):Int),e0⟩]++A++[⟨15,v,0,e0⟩,⟨17,0,0,e0⟩]

def ifCode (at_:Nat) (v:Int) (A B C:List Is):List Is :=
 [⟨13,v,0,e0⟩,⟨14,0,((at_+2+A.length+1+B.length+1:Nat):Int),e0⟩]++A++[⟨15,v,0,e0⟩]++B++[⟨16,0,((at_+2+A.length+1+B.length+1+C.length:Nat):Int),e0⟩]++C

mutual
def testsG:Gl→Int
 | .mk k _ a b c=>testsGL a+testsGL b+testsGL c+(if k ≥ 4 then 1 else 0)
def testsGL:List Gl→Int
 | []=>0
 | g::r=>testsG g+testsGL r
end
theorem testsG_eq (g:Gl):testsG g=testsGL g.a+testsGL g.b+testsGL g.c+(if g.k ≥ 4 then 1 else 0):=by cases g; rw [testsG]; rfl

mutual
def golD:Gl→Nat→Int→List Is
 | .mk k t a b c,at_,v =>
  if k=1∨k=2 then asksG (8+k) t else if k=3 then [⟨11,0,0,e0⟩]
  else
   let A:=golDL a (at_+2) (v+1)
   if k=5 then notCode at_ v A
   else
    let B:=golDL b (at_+2+A.length+1) (v+1+testsGL a)
    ifCode at_ v A B (golDL c (at_+2+A.length+1+B.length+1) (v+1+testsGL a+testsGL b))
def golDL:List Gl→Nat→Int→List Is
 | [],_,_=>[]
 | g::r,at_,v=>golD g at_ v++golDL r (at_+(golD g at_ v).length) (v+testsG g)
end

theorem golD_eq (g:Gl) (at_:Nat) (v:Int):golD g at_ v=if g.k=1∨g.k=2 then asksG (8+g.k) g.t else if g.k=3 then [⟨11,0,0,e0⟩]
  else if g.k=5 then notCode at_ v (golDL g.a (at_+2) (v+1))
   else ifCode at_ v (golDL g.a (at_+2) (v+1)) (golDL g.b (at_+2+(golDL g.a (at_+2) (v+1)).length+1) (v+1+testsGL g.a)) (golDL g.c (at_+2+(golDL g.a (at_+2) (v+1)).length+1+(golDL g.b (at_+2+(golDL g.a (at_+2) (v+1)).length+1) (v+1+testsGL g.a)).length+1) (v+1+testsGL g.a+testsGL g.b)):=by
 cases g; rw [golD]; rfl

theorem testsGL_app (l m:List Gl):testsGL (l++m)=testsGL l+testsGL m:=by
 induction l with
 | nil=>simp [testsGL]
 | cons x r ih=>simp only [List.cons_append,testsGL,ih]; omega

theorem golDL_app (l m:List Gl) (at_:Nat) (v:Int):golDL (l++m) at_ v=golDL l at_ v++golDL m (at_+(golDL l at_ v).length) (v+testsGL l):=by
 induction l generalizing at_ v with
 | nil=>simp [golDL,testsGL]
 | cons x r ih=>simp only [List.cons_append,golDL,ih,testsGL,List.append_assoc,List.length_append]; congr 3 <;> omega

theorem golDL_take {l:List Gl} {i:Nat} {g:Gl} (h:l[i]? = some g) (at_:Nat) (v:Int):golDL (l.take (i+1)) at_ v=golDL (l.take i) at_ v++golD g (at_+(golDL (l.take i) at_ v).length) (v+testsGL (l.take i)):=by
 rw [List.take_add_one,h,golDL_app]; simp [golDL]

theorem testsGL_take {l:List Gl} {i:Nat} {g:Gl} (h:l[i]? = some g):testsGL (l.take (i+1))=testsGL (l.take i)+testsG g:=by
 rw [List.take_add_one,h,testsGL_app]; simp [testsGL]

mutual
def fiveG:Gl→Prop
 | .mk k _ a b c=>(k=1∨k=2∨k=3∨k=4∨k=5)∧(k<4→a=[]∧b=[]∧c=[])∧(k=5→b=[]∧c=[])∧fiveL a∧fiveL b∧fiveL c
def fiveL:List Gl→Prop
 | []=>True
 | g::r=>fiveG g∧fiveL r
end

theorem fiveG_eq (g:Gl):fiveG g↔(g.k=1∨g.k=2∨g.k=3∨g.k=4∨g.k=5)∧(g.k<4→g.a=[]∧g.b=[]∧g.c=[])∧(g.k=5→g.b=[]∧g.c=[])∧fiveL g.a∧fiveL g.b∧fiveL g.c:=by
 cases g; rw [fiveG]; rfl

theorem fiveL_mem {l:List Gl} (h:fiveL l) {g:Gl} (hg:g∈l):fiveG g:=by
 induction l with
 | nil=>cases hg
 | cons x r ih =>
  rw [fiveL] at h
  rcases List.mem_cons.1 hg with rfl | hg
  ·exact h.1
  ·exact ih h.2 hg

theorem noneG_nil {a b c:List Gl} (h:noneG a b c=true):a=[]∧b=[]∧c=[]:=by
 unfold noneG at h
 have h:=of_decide_eq_true h
 exact ⟨List.eq_nil_of_length_eq_zero (by omega),List.eq_nil_of_length_eq_zero (by omega),List.eq_nil_of_length_eq_zero (by omega)⟩

mutual
theorem chk_five (v:Int):∀ (g:Gl) (left deep:Int) (cuts:Bool),(chk1 v g left deep cuts).1=true→fiveG g
 | .mk k t a b c,left,deep,cuts,h=>by
  rw [chk1] at h
  rw [fiveG]
  by_cases h1:k=1
  ·rw [if_pos h1] at h
   simp only [Bool.and_eq_true] at h
   obtain ⟨rfl,rfl,rfl⟩:=noneG_nil h.1.1
   exact ⟨.inl h1,fun _=>⟨rfl,rfl,rfl⟩,fun _=>⟨rfl,rfl⟩,trivial,trivial,trivial⟩
  rw [if_neg h1] at h
  by_cases h2:k=2
  ·rw [if_pos h2] at h
   simp only [Bool.and_eq_true] at h
   obtain ⟨rfl,rfl,rfl⟩:=noneG_nil h.1.1.1
   exact ⟨.inr (.inl h2),fun _=>⟨rfl,rfl,rfl⟩,fun _=>⟨rfl,rfl⟩,trivial,trivial,trivial⟩
  rw [if_neg h2] at h
  by_cases h3:k=3
  ·rw [if_pos h3] at h
   simp only [Bool.and_eq_true] at h
   obtain ⟨rfl,rfl,rfl⟩:=noneG_nil h.1.1
   exact ⟨.inr (.inr (.inl h3)),fun _=>⟨rfl,rfl,rfl⟩,fun _=>⟨rfl,rfl⟩,trivial,trivial,trivial⟩
  rw [if_neg h3] at h
  by_cases h4:k=4
  ·rw [if_pos h4] at h
   split at h
   case isFalse=>cases h
   split at h
   case isFalse=>cases h
   split at h
   case isFalse=>cases h
   rename_i x1 x2 x3
   exact ⟨.inr (.inr (.inr (.inl h4))),fun h=>by omega,fun h=>by omega,chkL_five v _ _ _ _ x2,chkL_five v _ _ _ _ x3,chkL_five v _ _ _ _ h⟩
  rw [if_neg h4] at h
  by_cases h5:k=5
  ·rw [if_pos h5] at h
   split at h
   case isFalse=>cases h
   rename_i x1
   simp only [Bool.and_eq_true,decide_eq_true_eq] at x1
   have hb:b=[]:=List.eq_nil_of_length_eq_zero (by omega)
   have hc:c=[]:=List.eq_nil_of_length_eq_zero (by omega)
   subst hb hc
   exact ⟨.inr (.inr (.inr (.inr h5))),fun h=>by omega,fun _=>⟨rfl,rfl⟩,chkL_five v _ _ _ _ h,trivial,trivial⟩
  rw [if_neg h5] at h
  cases h
theorem chkL_five (v:Int):∀ (l:List Gl) (left deep:Int) (cuts:Bool),(chkL v l left deep cuts).1=true→fiveL l
 | [],_,_,_,_=>by rw [fiveL]; trivial
 | g::r,left,deep,cuts,h=>by
  rw [chkL] at h
  split at h
  ·cases h
  rename_i x
  rw [fiveL]
  simp only [Bool.or_eq_true,not_or,Bool.not_eq_true',Bool.not_eq_false] at x
  exact ⟨chk_five v g _ _ _ (by simpa using x.1.1),chkL_five v r _ _ _ h⟩
end

theorem cls_five {x:Cs} (h:clsB x=true):fiveL x.body:=by
 unfold clsB at h
 simp only [Bool.and_eq_true] at h
 exact chkL_five _ _ _ _ _ h.2

theorem cls_vars {x:Cs} (h:clsB x=true):0≤x.vars∧x.vars≤1000:=by
 unfold clsB at h
 simp only [Bool.and_eq_true,decide_eq_true_eq] at h
 exact ⟨h.1.1.1.1,h.1.1.1.2⟩

def freshG (met:List Int) (n:Nat):List Is:=((List.range n).filter fun v:Nat=>!met.contains (v:Int)).map fun v:Nat=>⟨5,(v:Int),0,e0⟩

theorem freshG_succ (met:List Int) (n:Nat):freshG met (n+1)=if met.contains (n:Int) then freshG met n else freshG met n++[⟨5,(n:Int),0,e0⟩]:=by
 unfold freshG
 have e:List.filter (fun v:Nat=>!met.contains (v:Int)) [n]=if met.contains (n:Int) then [] else [n]:=by
  rw [List.filter_cons,List.filter_nil]
  generalize met.contains (n:Int)=b
  cases b <;> rfl
 rw [List.range_succ,List.filter_append,List.map_append,e]
 generalize met.contains (n:Int)=b
 cases b
 ·rfl
 ·exact List.append_nil _

theorem freshG_len (met:List Int) (n:Nat):(freshG met n).length≤n:=by
 unfold freshG
 rw [List.length_map]
 exact Nat.le_trans (List.length_filter_le _ _) (by simp)

def clsH (c:Cs):List Is:=(headGL c.head.l []).1++freshG (headGL c.head.l []).2 c.vars.toNat
def clsC (c:Cs) (at_:Nat):List Is:=clsH c++golDL c.body (at_+(clsH c).length) c.vars++[⟨12,0,0,e0⟩]

structure Ky where
 kind:Int
 n:Int
 s:ByteArray
def key0:Ky:=⟨0,0,e0⟩
def keyT (t:Tm):Ky:=if t.k=2 then ⟨2,t.n,e0⟩ else if t.k=3 then ⟨3,t.l.length,t.s⟩ else key0

def keyG (l:List Tm):Ky:=match l with
 | []=>key0
 | t::_=>keyT t

structure En where
 s:ByteArray
 args:Int
 at_:Int
 slots:Int
 key:Ky
namespace En
def row (x:En):List D:=[.v (.string x.s),.v (.int .i64 x.args),.v (.int .i64 x.at_),.v (.int .i64 x.slots),.v (.int .i64 x.key.kind),.v (.int .i64 x.key.n),.v (.string x.key.s)]
def rows (l:List En):List (List D):=l.map row
theorem rows_len (l:List En):(rows l).length=l.length:=by simp [rows]
theorem rows_get {l:List En} {i:Nat} {x:En} (h:l[i]? = some x):(rows l)[i]? = some (row x):=by simp [rows,h]
theorem rows_snoc (a:List En) (x:En):rows a++[row x]=rows (a++[x]):=by simp [rows]
end En
def entG (c:Cs) (at_:Nat):En:=⟨c.head.s,c.head.l.length,at_,c.vars+testsGL c.body,keyG c.head.l⟩

def codeL:List Cs→List Is→List Is
 | [],out=>out
 | c::r,out=>codeL r (out++clsC c out.length)

def entL:List Cs→Nat→List En
 | [],_=>[]
 | c::r,at_=>entG c at_::entL r (at_+(clsC c at_).length)
def qryH (q:Cs):List Is:=freshG [] q.vars.toNat
def qryE (q:Cs) (at_:Nat):List Is:=qryH q++golDL q.body (at_+(qryH q).length) q.vars++putGL q.head.l++[⟨18,0,q.head.l.length,e0⟩]

structure Cd where
 ins:List Is
 ents:List En
 at_:Int
 slots:Int
def Cd.av (x:Cd):AV:=.agg [.d (.sl (Is.rows x.ins)),.d (.sl (En.rows x.ents)),.d (.v (.int .i64 x.at_)),.d (.v (.int .i64 x.slots))]
def compG (l:List Cs) (q:Cs):Cd:=⟨codeL l []++qryE q (codeL l []).length,entL l 0,(codeL l []).length,q.vars+testsGL q.body⟩
end PSL
namespace PSL
open Go
theorem putGL_t {l:List Tm} {i:Nat} {x:Tm} (h:l[i]? = some x) (c:List Is):c++putGL (l.take i)++putG x=c++putGL (l.take (i+1)):=by rw [putGL_take h,List.append_assoc]

mutual
theorem golD_len:∀ (g:Gl) (at_:Nat) (v:Int),(golD g at_ v).length≤4 * g.size
 | .mk k t a b c,at_,v=>by
  have h0:=Gl.tmPos t
  have ha:=golDL_len a
  have hb:=golDL_len b
  have hc:=golDL_len c
  have hp:=putGL_len t.l
  have ht:=Tm.size_eq t
  rw [golD,Gl.size]
  dsimp only
  have h1:=ha (at_+2) (v+1)
  generalize golDL a (at_+2) (v+1)=A at *
  have h2:=hb (at_+2+A.length+1) (v+1+testsGL a)
  generalize golDL b (at_+2+A.length+1) (v+1+testsGL a)=B at *
  have h3:=hc (at_+2+A.length+1+B.length+1) (v+1+testsGL a+testsGL b)
  generalize golDL c (at_+2+A.length+1+B.length+1) (v+1+testsGL a+testsGL b)=C at *
  by_cases k1:k=1∨k=2
  ·rw [if_pos k1]; unfold asksG; rw [List.length_append,List.length_singleton]; omega
  rw [if_neg k1]
  by_cases k3:k=3
  ·rw [if_pos k3,List.length_singleton]; omega
  rw [if_neg k3]
  by_cases k5:k=5
  ·rw [if_pos k5]; unfold notCode; simp only [List.length_append,List.length_cons,List.length_nil]; omega
  ·rw [if_neg k5]; unfold ifCode; simp only [List.length_append,List.length_cons,List.length_nil]; omega
theorem golDL_len:∀ (l:List Gl) (at_:Nat) (v:Int),(golDL l at_ v).length≤4 * Gl.sizeL l
 | [],_,_=>by rw [golDL]; exact Nat.zero_le _
 | g::r,at_,v=>by
  have h1:=golD_len g at_ v
  have h2:=golDL_len r (at_+(golD g at_ v).length) (v+testsG g)
  rw [golDL,Gl.sizeL,List.length_append]; omega
end

mutual
theorem testsG_b:∀ g:Gl,0≤testsG g∧testsG g≤g.size
 | .mk k t a b c=>by
  have h0:=Gl.tmPos t
  have ha:=testsGL_b a
  have hb:=testsGL_b b
  have hc:=testsGL_b c
  rw [testsG,Gl.size]
  split <;> omega
theorem testsGL_b:∀ l:List Gl,0≤testsGL l∧testsGL l≤Gl.sizeL l
 | []=>by rw [testsGL,Gl.sizeL]; omega
 | g::r=>by
  have h1:=testsG_b g
  have h2:=testsGL_b r
  rw [testsGL,Gl.sizeL]; omega
end

theorem gl_sizeL_at {l:List Gl} {i:Nat} {x:Gl} (h:l[i]? = some x):Gl.sizeL (l.take i)+x.size≤Gl.sizeL l:=by
 induction l generalizing i with
 | nil=>simp at h
 | cons y r ih =>
  cases i with
  | zero=>simp at h; subst h; simp only [List.take_zero,Gl.sizeL]; omega
  | succ i =>
   have:=ih (i:=i) (by simpa using h)
   simp only [List.take_succ_cons,Gl.sizeL]; omega
theorem set_at (p q:List Is) (x y:Is) {i:Nat} (h:i=p.length):(p++x::q).set i y=p++y::q:=by subst h; simp
theorem is_rows_set (c:List Is) (i:Nat) (x:Is):(Is.rows c).set i (Is.row x)=Is.rows (c.set i x):=by unfold Is.rows; rw [List.map_set]

theorem if_steps (c A B C:List Is) (v N M:Int) (at_:Nat) (h:at_=c.length) (hN:N=((at_+2+A.length+1+B.length+1:Nat):Int)) (hM:M=((at_+2+A.length+1+B.length+1+C.length:Nat):Int)) :
  (((c++[(⟨13,v,0,e0⟩:Is),⟨14,0,0,e0⟩]++A++[(⟨15,v,0,e0⟩:Is)]++B++[(⟨16,0,0,e0⟩:Is)]).set (at_+1) ⟨14,0,N,e0⟩++C).set (at_+2+A.length+1+B.length) ⟨16,0,M,e0⟩)=c++ifCode at_ v A B C:=by
 subst hN hM h
 have e1:c++[(⟨13,v,0,e0⟩:Is),⟨14,0,0,e0⟩]++A++[(⟨15,v,0,e0⟩:Is)]++B++[(⟨16,0,0,e0⟩:Is)]=(c++[(⟨13,v,0,e0⟩:Is)])++⟨14,0,0,e0⟩::(A++[(⟨15,v,0,e0⟩:Is)]++B++[(⟨16,0,0,e0⟩:Is)]):=by simp
 rw [e1,set_at _ _ _ _ (by simp)]
 have e2:∀ y:Is,(c++[(⟨13,v,0,e0⟩:Is)])++y::(A++[(⟨15,v,0,e0⟩:Is)]++B++[(⟨16,0,0,e0⟩:Is)])++C=(c++[(⟨13,v,0,e0⟩:Is)]++[y]++A++[(⟨15,v,0,e0⟩:Is)]++B)++⟨16,0,0,e0⟩::C:=fun y=>by simp
 rw [e2,set_at _ _ _ _ (by simp; omega)]
 simp [ifCode]

theorem not_steps (c A:List Is) (v N:Int) (at_:Nat) (h:at_=c.length) (hN:N=((at_+2+A.length+2:Nat):Int)) :
  (c++[(⟨13,v,0,e0⟩:Is),⟨14,0,0,e0⟩]++A++[(⟨15,v,0,e0⟩:Is)]++[(⟨17,0,0,e0⟩:Is)]).set (at_+1) ⟨14,0,N,e0⟩=c++notCode at_ v A:=by
 subst hN h
 have e1:c++[(⟨13,v,0,e0⟩:Is),⟨14,0,0,e0⟩]++A++[(⟨15,v,0,e0⟩:Is)]++[(⟨17,0,0,e0⟩:Is)]=(c++[(⟨13,v,0,e0⟩:Is)])++⟨14,0,0,e0⟩::(A++[(⟨15,v,0,e0⟩:Is)]++[(⟨17,0,0,e0⟩:Is)]):=by simp
 rw [e1,set_at _ _ _ _ (by simp)]
 simp [notCode]
end PSL

namespace PSL
open Go Go.RowKit Go.MapKept

def setIA:List (Int × AV)→Int→AV→List (Int × AV)
 | [],n,v=>[(n,v)]
 | p::r,n,v=>if p.1=n then (n,v)::r else p::setIA r n v

theorem findA_setI {k':IntKind} {n:Int} {v:AV}:∀ {l:List (Int × AV)} {i:Nat},(findA (.int k') (.int .i64 n) (imap l) i=some none∧setIA l n v=l++[(n,v)])∨(∃ j x,findA (.int k') (.int .i64 n) (imap l) i=some (some (i+j,x))∧l[j]? = some (n,x)∧setIA l n v=l.set j (n,v))
 | [],i=>.inl ⟨rfl,rfl⟩
 | p::l,i=>by
  by_cases h:p.1=n
  ·have h1:(n==p.1)=true:=by simp [h]
   refine .inr ⟨0,p.2,?_,by subst h; rfl,by simp [setIA,h]⟩
   simp only [imap,List.map_cons,findA,Instr.sameNow,if_true,h1,Nat.add_zero]
  ·have h1:(n==p.1)=false:=by simp; exact fun e=>h e.symm
   rcases findA_setI (k':=k') (n:=n) (v:=v) (l:=l) (i:=i+1) with ⟨h2,h3⟩ | ⟨j,x,h2,h3,h4⟩
   ·refine .inl ⟨?_,by simp [setIA,h,h3]⟩
    simp only [imap,List.map_cons,findA,Instr.sameNow,if_true,h1]
    exact h2
   ·refine .inr ⟨j+1,x,?_,by simpa using h3,by simp [setIA,h,h4]⟩
    simp only [imap,List.map_cons,findA,Instr.sameNow,if_true,h1]
    rw [show i+(j+1)=i+1+j by omega]
    exact h2

theorem stay_int {P:Program} {w:World} (n:Int):(Instr.keyThatStays (.int .i64 n) (.int .i64 n)).run P w=.ok (.int .i64 n) w:=by
 have:Instr.sameBits 10000 (.int .i64 n) (.int .i64 n)=true:=by simp [Instr.sameBits]
 simp [Instr.keyThatStays,this]
section
variable {g:G} {pf:Nat→Cls} {ops:Array Oper} {Fin:Exit→Act→World→Prop}

theorem R_setI (hg:GOk g) {dst:Option Nat} {T:Nat} {x y v:Operand} {ty:Nat} {pos:String} {after:Array Edge} {gd:Option (Nat × Bool)} {rest:List Oper} {k:List It} {E:Env} {objs:List Ob}
  {i q by_ q' by' kt et:Nat} {z z':List Value} {n:Int} {v':AV} (l l':List (Int × AV))
  (hgd:guardA ops.toList E gd=some true) (hd:dstOk ⟨g.ty,g.N⟩ dst=true) (hx:ev E x=.mp i) (ho:nth objs i=some (.map (imap l))) (hy:ev E y=.d (.v (.int .i64 n))) (hT:g.ty T=some ⟨q,by_,z,.map kt et⟩)
  (hkt:g.ty kt=some ⟨q',by',z',.int .i64⟩) (hv:Ent (ev E v) v') (hl:setIA l n v'=l')
  (hr:R g pf Fin (.dr ops rest::k) (putO E dst .any) (setN objs i (.map (imap l')))):R g pf Fin (.dr ops (⟨dst,.mapUpdate T x y v,ty,pos,after,gd⟩::rest)::k) E objs:=by
 subst hl
 have hu:=(hg.ty _ _ hkt).sh
 simp only [ShFact] at hu
 refine R_op (LocOp.turning hg (grow_map ho) hgd hd (by simp) fun φ a' w hρ hs=>?_) hr
 simp only [Op.operands] at hρ
 have hxv:=hρ x (by simp)
 rw [hx] at hxv
 have hyv:=hρ y (by simp)
 rw [hy] at hyv
 have hvv:=hv _ _ _ _ (hρ v (by simp))
 simp only [RV] at hxv hyv
 obtain ⟨b',hb,hxv⟩:=hxv
 generalize hvy:a'.eval y=vy at hyv
 cases hyv
 have hko:=obj_at hs hb ho
 simp only [ObOk] at hko
 obtain ⟨ents,clk,hheap,hents⟩:=hko
 have hT':g.P.underlying T=some (.map kt et):=by have:=(hg.ty _ _ hT).sh; simpa only [ShFact] using this
 rw [setN_eq]
 rcases findA_setI (k':=.i64) (n:=n) (v:=v') (l:=l) (i:=0) with ⟨h1,h2⟩ | ⟨j,x0,h1,h2,h3⟩
 ·have hfind:=findA_ok hents h1
  simp only at hfind
  rw [h2]
  have hset:=heap_set (o':=.map (ents.push { key:=.int .i64 n,val:=a'.eval v,born:=clk }) (clk+1)) hheap
  refine ⟨.skip,undef,{ w with heap:=w.heap.setIfInBounds b' (.map (ents.push { key:=.int .i64 n,val:=a'.eval v,born:=clk }) (clk+1)) },φ.set i (.blk b'),?_,.inr ⟨rfl,rfl⟩,by simp [RV],?_⟩
  ·simp [execOp,Instr.mapUpdate,run_underlying hT',hxv,run_getObj_map hheap,hvy,run_checkKey hu (show IsKey (.int .i64) (.int .i64 n) by simp [IsKey]),run_findKey hu hfind,run_setObj_map _ hheap]
  ·refine Stp.swap hs hb (.inl rfl) (by simp) (fun c _ hc=>hset.2 c fun e=>hc (by rw [e]; rfl)) (fun b' hb=>.inl hb) rfl rfl rfl fun hkeep hle=>?_
   simp only [ObOk]
   refine ⟨_,_,hset.1,?_,?_⟩
   ·have:=hents.1
    simp only [imap,List.map_append,List.map_map,List.map_cons,List.map_nil,Array.toList_push] at this ⊢
    rw [this]
   ·have:=(hents.2.mono hkeep hle).append (l':=[v']) (vs':=[a'.eval v]) (by simp only [RVs,and_true]; exact hvv.mono hkeep hle)
    simpa [imap] using this
 ·have hfind:=findA_ok hents h1
  simp only at hfind
  obtain ⟨vv,f1,f2,_,_,f,f3,f4⟩:=hfind
  rw [Nat.zero_add] at f1
  rw [Nat.zero_add,Nat.sub_zero] at f3
  rw [h3]
  have hkey:f.key=.int .i64 n:=by
   have hk:=hents.1
   have e1:((imap l).map (·.1))[j]? = some (.int .i64 n):=by simp [imap,h2]
   rw [hk] at e1
   have e2:(ents.toList.map (·.key))[j]? = some f.key:=by rw [List.getElem?_map,f3]; rfl
   exact Option.some.inj (e2.symm.trans e1)
  obtain ⟨f',hf'⟩:∃ f':MapEntry→MapEntry,f'=fun e=>{ e with key:=.int .i64 n,val:=a'.eval v }:=⟨_,rfl⟩
  have hset:=heap_set (o':=.map (ents.modify j f') clk) hheap
  have f3':ents[j]? = some f:=by simpa using f3
  refine ⟨.skip,undef,{ w with heap:=w.heap.setIfInBounds b' (.map (ents.modify j f') clk) },φ.set i (.blk b'),?_,.inr ⟨rfl,rfl⟩,by simp [RV],?_⟩
  ·simp [execOp,Instr.mapUpdate,run_underlying hT',hxv,run_getObj_map hheap,hvy,run_checkKey hu (show IsKey (.int .i64) (.int .i64 n) by simp [IsKey]),run_findKey hu f1,f3',hkey,stay_int,run_setObj_map _ hheap,hf']
  ·refine Stp.swap hs hb (.inl rfl) (by simp) (fun c _ hc=>hset.2 c fun e=>hc (by rw [e]; rfl)) (fun b' hb=>.inl hb) rfl rfl rfl fun hkeep hle=>?_
   simp only [ObOk]
   have hml:(ents.modify j f').toList=ents.toList.set j (f' f):=by
    rw [Array.toList_modify,list_modify_set f' _ _ f f3]
   refine ⟨_,_,hset.1,?_,?_⟩
   ·have:=hents.1
    rw [hml]
    simp only [imap,List.map_map,List.map_set] at this ⊢
    rw [this,hf']
   ·have:=rvs_set j (hents.2.mono hkeep hle) (hvv.mono hkeep hle)
    rw [hml]
    simp only [imap,List.map_map,List.map_set] at this ⊢
    rw [show (f' f).val=a'.eval v by rw [hf']]
    exact this
end

def setB (l:List Int):List (Int × AV):=l.map fun n=>(n,bV true)

theorem setB_add (l:List Int) (n:Int):setIA (setB l) n (bV true)=setB (addV l n):=by
 induction l with
 | nil=>rfl
 | cons x r ih =>
  unfold setB addV at *
  simp only [List.map_cons,setIA]
  by_cases h:x=n
  ·subst h; simp
  ·rw [if_neg h,ih]
   have:¬ n=x:=fun e=>h e.symm
   by_cases hc:r.contains n=true
   ·simp only [hc,if_true,List.contains_cons,Bool.or_true,List.map_cons]
   ·have hx:(n==x)=false:=by simp [this]
    simp only [hc,List.contains_cons,hx,Bool.false_or,Bool.false_eq_true,if_false,List.map_append,List.map_cons,List.map_nil,List.cons_append]

theorem getI_setB {n:Int}:∀ {l:List Int},getI (setB l) n=if l.contains n then some (bV true) else none
 | []=>rfl
 | x::l=>by
  have:=getI_setB (n:=n) (l:=l)
  simp only [setB,List.map_cons,getI] at this ⊢
  by_cases h:x=n
  ·simp [h]
  ·rw [if_neg h,this]
   have:¬ n=x:=fun e=>h e.symm
   simp [this]

theorem look_setB (l:List Int) (n:Int):lookI' false (cstV (.bool false)) (getI (setB l) n)=if l.contains n then bV true else .ff:=by
 rw [getI_setB]; split <;> rfl

theorem mapOb_setB {f:AV→AV} (h:f (bV true)=bV true) (l:List Int):mapOb f (.map (imap (setB l)))=.map (imap (setB l)):=by
 simp [mapOb,imap,setB,Function.comp_def,h]

theorem renOb_setB {f:Nat→Nat} (l:List Int):renOb f (.map (imap (setB l)))=.map (imap (setB l)):=by
 simp [renOb,imap,setB,Function.comp_def,renA,bV]
end PSL

namespace PSL
open Go

theorem valN_acc:∀ (D:Bs) (n:Nat),valN n D=n * 10 ^ D.length+valN 0 D
 | [],n=>by simp [valN]
 | c::D,n=>by
  show valN (10 * n+(c.toNat - 48)) D=n * 10 ^ (D.length+1)+valN (10 * 0+(c.toNat - 48)) D
  rw [valN_acc D,valN_acc D (10 * 0+(c.toNat - 48)),Nat.pow_succ]
  have:(10 * n+(c.toNat - 48)) * 10 ^ D.length=n * (10 ^ D.length * 10)+(c.toNat - 48) * 10 ^ D.length:=by
   rw [Nat.add_mul]; congr 1
   rw [Nat.mul_comm 10 n,Nat.mul_assoc,Nat.mul_comm 10]
  rw [this,show 10 * 0+(c.toNat - 48)=c.toNat - 48 by omega]; omega
theorem valN_snoc (D:Bs) (c:UInt8) (n:Nat):valN n (D++[c])=10 * valN n D+(c.toNat - 48):=by simp [valN,List.foldl_append]

theorem valN_mono (D E:Bs):valN 0 D≤valN 0 (D++E):=by
 have e:valN 0 (D++E)=valN (valN 0 D) E:=by simp [valN,List.foldl_append]
 rw [e,valN_acc E (valN 0 D)]
 have:1≤10 ^ E.length:=Nat.one_le_pow _ _ (by omega)
 have:valN 0 D * 1≤valN 0 D * 10 ^ E.length:=Nat.mul_le_mul_left _ this
 omega
end PSL
namespace PSL
open Go
def nlC (c:UInt8):Bool:=!decide (c.toNat=10)

theorem skip_line:∀ (r:Bs),skipL true r=(r.takeWhile nlC).length+skipL false (r.dropWhile nlC)
 | []=>by simp [skipL]
 | c::r=>by
  by_cases h:c.toNat=10
  ·have hn:nlC c=false:=by simp [nlC,h]
   have hb:blkC c=true:=by simp [blkC,h]
   rw [List.takeWhile_cons_of_neg (by rw [hn]; simp),List.dropWhile_cons_of_neg (by rw [hn]; simp)]
   simp [skipL,h,hb]
  ·have hn:nlC c=true:=by simp [nlC,h]
   rw [List.takeWhile_cons_of_pos hn,List.dropWhile_cons_of_pos hn]
   simp only [skipL,List.length_cons]
   rw [decide_eq_false h,Bool.not_false,skip_line r]; omega

theorem drop_run (p:UInt8→Bool) (l:Bs):l.drop (l.takeWhile p).length=l.dropWhile p:=by
 induction l with
 | nil=>rfl
 | cons c l ih =>
  by_cases h:p c=true
  ·rw [List.takeWhile_cons_of_pos h,List.dropWhile_cons_of_pos h]; simpa using ih
  ·rw [List.takeWhile_cons_of_neg h,List.dropWhile_cons_of_neg h]; rfl
theorem pass_end {L:Bs} {i:Nat} (h:L.length≤i):passN L i=i:=by unfold passN; rw [List.drop_eq_nil_of_le h]; simp [skipL]

theorem pass_blank {L:Bs} {i:Nat} {c:UInt8} (h:L[i]? = some c) (hb:blkC c=true):passN L i=passN L (i+1):=by
 have hi:=(List.getElem?_eq_some_iff.1 h).1
 have he:=(List.getElem?_eq_some_iff.1 h).2
 have hne:¬ c.toNat=37:=by simp [blkC] at hb; omega
 unfold passN
 rw [List.drop_eq_getElem_cons hi,he]
 simp only [skipL]
 rw [if_neg hne,if_pos hb]; omega

theorem pass_line {L:Bs} {i:Nat} {c:UInt8} (h:L[i]? = some c) (hc:c.toNat=37):passN L i=passN L (runB nlC L i)∧i<runB nlC L i:=by
 have hi:=(List.getElem?_eq_some_iff.1 h).1
 have he:=(List.getElem?_eq_some_iff.1 h).2
 have hn:nlC c=true:=by simp [nlC,hc]
 have hr:=runB_step h hn
 have hl:=(runB_le (p:=nlC) (L:=L) (i:=i+1) (by omega)).1
 refine ⟨?_,by omega⟩
 have hd:L.drop (runB nlC L (i+1))=(L.drop (i+1)).dropWhile nlC:=by rw [← drop_run nlC (L.drop (i+1)),List.drop_drop]; rfl
 unfold passN
 rw [hr,hd,List.drop_eq_getElem_cons hi,he]
 simp only [skipL]
 rw [if_pos hc,skip_line]
 unfold runB
 omega

theorem pass_stop {L:Bs} {i:Nat} {c:UInt8} (h:L[i]? = some c) (hb:blkC c=false) (hc:¬ c.toNat=37):passN L i=i:=by
 have hi:=(List.getElem?_eq_some_iff.1 h).1
 have he:=(List.getElem?_eq_some_iff.1 h).2
 unfold passN
 rw [List.drop_eq_getElem_cons hi,he]
 simp only [skipL]
 rw [if_neg hc,if_neg (by rw [hb]; simp)]; rfl

theorem pass_le {L:Bs} {i:Nat} (h:i≤L.length):i≤passN L i∧passN L i≤L.length:=by
 have:=skipL_le false (L.drop i)
 rw [List.length_drop] at this
 unfold passN; omega
end PSL
namespace PSL
open Go

theorem oneT_at {L:Bs} {i:Nat} {t:Tk} {j:Nat} (h:oneT L i=some (t,j)):t.at_=i:=by
 have nm:∀ {kind:Int} {text:Bs} {to:Nat},nameT L kind text i to=some (t,j)→t.at_=i:=fun h=>by
  obtain ⟨_,rfl,_⟩:=nameT_to h; rfl
 unfold oneT at h
 split at h
 ·cases h
 split at h
 ·exact nm h
 split at h
 ·exact nm h
 split at h
 ·cases hn:numT (cutB L i (runB dgC L i)) with
  | none=>rw [hn] at h; cases h
  | some n=>rw [hn] at h; cases h; rfl
 split at h
 ·split at h
  ·exact nm h
  ·cases h
 split at h
 ·exact nm h
 split at h
 ·exact nm h
 split at h
 ·cases h; rfl
 split at h
 ·cases h; rfl
 ·exact nm h

theorem toks_len:∀ (f:Nat) (L:Bs) (i:Nat) (l:List Tk),toks f L i=.ok l→l.length≤L.length - i
 | 0,L,i,l,h=>by simp only [toks,Except.ok.injEq] at h; subst h; simp
 | f+1,L,i,l,h=>by
  simp only [toks] at h
  have hle:i≤passN L i:=by unfold passN; omega
  split at h
  ·rename_i hlt
   cases hone:oneT L (passN L i) with
   | none=>rw [hone] at h; cases h
   | some x =>
    obtain ⟨u,to⟩:=x
    rw [hone] at h
    have hto:=oneT_to hone
    simp only at h
    cases hr:toks f L to with
    | error j=>rw [hr] at h; cases h
    | ok r =>
     rw [hr] at h
     simp only [Except.ok.injEq] at h
     subst h
     have:=toks_len f L to r hr
     simp only [List.length_cons]; omega
  ·simp only [Except.ok.injEq] at h; subst h; simp
end PSL

namespace PSL
open Go

theorem tw_app {p:UInt8→Bool} {c:UInt8} (hc:p c=false) (r:Bs):∀ l:Bs,(l++c::r).takeWhile p=l.takeWhile p
 | []=>by rw [List.nil_append,List.takeWhile_cons_of_neg (by rw [hc]; simp)]; rfl
 | x::l=>by
  rw [List.cons_append]
  by_cases h:p x=true
  ·rw [List.takeWhile_cons_of_pos h,List.takeWhile_cons_of_pos h,tw_app hc r l]
  ·rw [List.takeWhile_cons_of_neg h,List.takeWhile_cons_of_neg h]
end PSL
namespace PSL
open Go

theorem toks_bad:∀ (f:Nat) (L:Bs) (i j:Nat),toks f L i=.error j→j<L.length
 | 0,L,i,j,h=>by simp [toks] at h
 | f+1,L,i,j,h=>by
  simp only [toks] at h
  by_cases hp:passN L i<L.length
  ·rw [if_pos hp] at h
   cases hone:oneT L (passN L i) with
   | none=>rw [hone] at h; simp only [Except.error.injEq] at h; omega
   | some x =>
    obtain ⟨t,to⟩:=x
    rw [hone] at h
    simp only at h
    cases hr:toks f L to with
    | error k=>rw [hr] at h; simp only [Except.error.injEq] at h; rw [← h]; exact toks_bad f L to k hr
    | ok r=>rw [hr] at h; cases h
  ·rw [if_neg hp] at h; cases h
end PSL

namespace PSL
open Go

theorem tw_self {p:UInt8→Bool}:∀ {l:Bs},l.all p=true→l.takeWhile p=l
 | [],_=>rfl
 | x::l,h=>by
  simp only [List.all_cons,Bool.and_eq_true] at h
  rw [List.takeWhile_cons_of_pos h.1,tw_self h.2]

theorem tw_all (p:UInt8→Bool):∀ l:Bs,(l.takeWhile p).all p=true
 | []=>rfl
 | x::l=>by
  by_cases h:p x=true
  ·rw [List.takeWhile_cons_of_pos h,List.all_cons,h,tw_all p l]; rfl
  ·rw [List.takeWhile_cons_of_neg h]; rfl

theorem tw_take (p:UInt8→Bool):∀ l:Bs,l.take (l.takeWhile p).length=l.takeWhile p
 | []=>by simp
 | x::l=>by
  by_cases h:p x=true
  ·rw [List.takeWhile_cons_of_pos h,List.length_cons,List.take_succ_cons,tw_take p l]
  ·rw [List.takeWhile_cons_of_neg h]; rfl

theorem cut_run (p:UInt8→Bool) (L:Bs) (i:Nat):cutB L i (runB p L i)=(L.drop i).takeWhile p:=by
 unfold cutB runB; rw [Nat.add_sub_cancel_left,tw_take]

theorem run_alone {p:UInt8→Bool} (h32:p 32=false) {x:Bs} (hx:x.all p=true):runB p (x++[32]) 0=x.length:=by
 unfold runB; rw [List.drop_zero,tw_app h32,tw_self hx]; omega
theorem cut_alone (x r:Bs):cutB (x++r) 0 x.length=x:=by unfold cutB; simp

theorem name_alone {kind:Int} {x:Bs} (h1:1≤x.length) (h2:x.length≤20):nameT (x++[32]) kind x 0 x.length=some (⟨kind,x,0,0,false⟩,x.length):=by
 unfold nameT
 rw [if_pos ⟨h1,h2⟩]
 have:opnB (x++[32]) x.length=false:=by unfold opnB; simp
 rw [this]; rfl
def goodC (c:UInt8):Bool:=lowC c || grtC c || dgC c || mrkC c || sgnC c || decide (c.toNat=33) || decide (c.toNat=59) || decide (c.toNat=39)

theorem good_nb {c:UInt8} (h:goodC c=true):blkC c=false∧c.toNat≠37:=by
 have:=byte_all (p:=fun c=>!goodC c || (!blkC c && !decide (c.toNat=37))) (by decide +kernel) c
 simp only [h,Bool.not_true,Bool.false_or,Bool.and_eq_true,Bool.not_eq_true',decide_eq_false_iff_not] at this
 exact this

theorem tok_alone {x:Bs} {c:UInt8} {r:Bs} {u:Tk} (hx:x=c::r) (hg:goodC c=true) (hl:x.length≤3000) (h:oneT (x++[32]) 0=some (u,x.length)):tokT (x++[32])=([u],0,0):=by
 obtain ⟨hb,h37⟩:=good_nb hg
 have hl2:(x++[32]).length=x.length+1:=by simp
 have h0:(x++[32])[0]? = some c:=by rw [hx]; rfl
 have p0:passN (x++[32]) 0=0:=pass_stop h0 hb h37
 have p1:passN (x++[32]) x.length=x.length+1:=by
  unfold passN; simp [skipL,blkC]
 have ht:toks ((x++[32]).length+1) (x++[32]) 0=.ok [u]:=by
  rw [hl2]
  simp only [toks]
  rw [p0,hl2,if_pos (by omega),h]
  simp only
  rw [p1,if_neg (by omega)]
 unfold tokT
 rw [if_neg (by omega),ht]

theorem one_alone {L:Bs} {i:Nat} {t:Tk} {to:Nat} {c:UInt8} (h:oneT L i=some (t,to)) (hc:L[i]? = some c) (h39:c.toNat≠39) :
  t.text=cutB L i to∧i+t.text.length=to∧goodC c=true∧(t.kind=5∨t.text=[46]∨oneT (t.text++[32]) 0=some (⟨t.kind,t.text,t.n,0,false⟩,t.text.length)):=by
 have hto:=oneT_to h
 have hi:=(List.getElem?_eq_some_iff.1 hc).1
 have he:=(List.getElem?_eq_some_iff.1 hc).2
 have hd:L.drop i=c::L.drop (i+1):=by rw [List.drop_eq_getElem_cons hi,he]
 have rl:=fun (p:UInt8→Bool)=>(runB_le (p:=p) (L:=L) (i:=i) (by omega))
 have head:∀ p:UInt8→Bool,p c=true→cutB L i (runB p L i)=c::(L.drop (i+1)).takeWhile p:=fun p hp=>by
  rw [cut_run,hd,List.takeWhile_cons_of_pos hp]
 have first:∀ {x r:Bs},x=c::r→(x++[32])[0]? = some c:=fun h=>by rw [h]; rfl
 have clen:∀ p:UInt8→Bool,i+(cutB L i (runB p L i)).length=runB p L i:=fun p=>by
  rw [cutB_len (rl p).1 (rl p).2]; have:=(rl p).1; omega
 unfold oneT at h
 rw [hc] at h
 simp only at h
 by_cases g1:lowC c=true
 ·rw [if_pos g1] at h
  obtain ⟨rfl,rfl,l1,l2⟩:=nameT_to h
  have hf:folC c=true:=by simp [folC,g1]
  refine ⟨rfl,clen folC,by simp [goodC,g1],.inr (.inr ?_)⟩
  simp only
  have hh:=head folC hf
  have hall:(cutB L i (runB folC L i)).all folC=true:=by rw [cut_run]; exact tw_all _ _
  generalize cutB L i (runB folC L i)=x at *
  unfold oneT
  rw [first hh]
  simp only
  rw [if_pos g1,run_alone (by decide) hall,cut_alone,name_alone l1 l2]
 rw [if_neg g1] at h
 by_cases g2:grtC c=true
 ·rw [if_pos g2] at h
  obtain ⟨rfl,rfl,l1,l2⟩:=nameT_to h
  have hf:folC c=true:=by simp [folC,g2]
  refine ⟨rfl,clen folC,by simp [goodC,g2],.inr (.inr ?_)⟩
  simp only
  have hh:=head folC hf
  have hall:(cutB L i (runB folC L i)).all folC=true:=by rw [cut_run]; exact tw_all _ _
  generalize cutB L i (runB folC L i)=x at *
  unfold oneT
  rw [first hh]
  simp only
  rw [if_neg g1,if_pos g2,run_alone (by decide) hall,cut_alone,name_alone l1 l2]
 rw [if_neg g2] at h
 by_cases g3:dgC c=true
 ·rw [if_pos g3] at h
  cases hn:numT (cutB L i (runB dgC L i)) with
  | none=>rw [hn] at h; cases h
  | some n =>
   rw [hn] at h
   cases h
   refine ⟨rfl,clen dgC,by simp [goodC,g3],.inr (.inr ?_)⟩
   simp only
   have hh:=head dgC g3
   have hall:(cutB L i (runB dgC L i)).all dgC=true:=by rw [cut_run]; exact tw_all _ _
   generalize cutB L i (runB dgC L i)=x at *
   unfold oneT
   rw [first hh]
   simp only
   rw [if_neg g1,if_neg g2,if_pos g3,run_alone (by decide) hall,cut_alone,hn]
   rfl
 rw [if_neg g3,if_neg h39] at h
 by_cases g5:c.toNat=91∧(L[i+1]?.map UInt8.toNat)=some 93
 ·rw [if_pos g5] at h
  obtain ⟨rfl,rfl,l1,l2⟩:=nameT_to h
  have e91:c=91:=UInt8.toNat_inj.1 g5.1
  obtain ⟨d,hdd,hd93⟩:∃ d,L[i+1]? = some d∧d.toNat=93:=by
   have:=g5.2
   cases hx:L[i+1]? with
   | none=>rw [hx] at this; simp at this
   | some d=>rw [hx] at this; exact ⟨d,rfl,by simpa using this⟩
  have e93:d=93:=UInt8.toNat_inj.1 hd93
  have hi1:=(List.getElem?_eq_some_iff.1 hdd).1
  have he1:=(List.getElem?_eq_some_iff.1 hdd).2
  have hd1:L.drop (i+1)=d::L.drop (i+1+1):=by rw [List.drop_eq_getElem_cons hi1,he1]
  refine ⟨?_,rfl,by rw [e91]; decide,.inr (.inr (by simp only; decide +kernel))⟩
  simp only
  unfold cutB
  rw [hd,hd1,e91,e93,Nat.add_sub_cancel_left]; rfl
 rw [if_neg g5] at h
 have hc1:cutB L i (i+1)=[c]:=by unfold cutB; rw [hd,Nat.add_sub_cancel_left]; rfl
 by_cases g6:c.toNat=33∨c.toNat=59
 ·rw [if_pos g6] at h
  obtain ⟨rfl,rfl,l1,l2⟩:=nameT_to h
  refine ⟨hc1.symm,rfl,by simp [goodC]; omega,.inr (.inr ?_)⟩
  rcases g6 with g | g
  ·have e:c=33:=UInt8.toNat_inj.1 g
   subst e; simp only; decide +kernel
  ·have e:c=59:=UInt8.toNat_inj.1 g
   subst e; simp only; decide +kernel
 rw [if_neg g6] at h
 by_cases g7:mrkC c=true
 ·rw [if_pos g7] at h
  cases h
  refine ⟨hc1.symm,rfl,by simp [goodC,g7],.inr (.inr ?_)⟩
  have:=byte_all (p:=fun c=>!mrkC c || decide (oneT ([c]++[32]) 0=some (⟨4,[c],0,0,false⟩,1))) (by decide +kernel) c
  rw [g7] at this
  simpa using this
 rw [if_neg g7] at h
 by_cases g8:runB sgnC L i=i+1∧c.toNat=46∧endAft L (i+1)=true
 ·rw [if_pos g8] at h
  cases h
  have e46:c=46:=UInt8.toNat_inj.1 g8.2.1
  exact ⟨by rw [hc1,e46],rfl,by rw [e46]; decide,.inl rfl⟩
 rw [if_neg g8] at h
 obtain ⟨rfl,rfl,l1,l2⟩:=nameT_to h
 have hs:sgnC c=true:=by
  cases hs:sgnC c with
  | true=>rfl
  | false =>
   rw [cut_run,hd,List.takeWhile_cons_of_neg (by rw [hs]; simp)] at l1
   simp at l1
 have n91:c.toNat≠91:=by
  have:=byte_all (p:=fun c=>!sgnC c || !decide (c.toNat=91)) (by decide +kernel) c
  rw [hs] at this; simpa using this
 refine ⟨rfl,clen sgnC,by simp [goodC,hs],?_⟩
 simp only
 have hh:=head sgnC hs
 have hall:(cutB L i (runB sgnC L i)).all sgnC=true:=by rw [cut_run]; exact tw_all _ _
 generalize cutB L i (runB sgnC L i)=x at *
 by_cases hdot:x=[46]
 ·exact .inr (.inl hdot)
 refine .inr (.inr ?_)
 unfold oneT
 rw [first hh]
 simp only
 rw [if_neg g1,if_neg g2,if_neg g3,if_neg h39,if_neg (fun g=>n91 g.1),if_neg g6,if_neg g7,run_alone (by decide) hall,if_neg,cut_alone,name_alone l1 l2]
 rintro ⟨k1,k2,_⟩
 have e46:c=46:=UInt8.toNat_inj.1 k2
 apply hdot
 rw [hh,e46] at k1 ⊢
 simp only [List.length_cons] at k1
 rw [List.length_eq_zero_iff.1 (show ((L.drop (i+1)).takeWhile sgnC).length=0 by omega)]

theorem one_opn {L:Bs} {i:Nat} {t:Tk} {to:Nat} (h:oneT L i=some (t,to)):t.opn=true→t.kind≤2:=by
 intro ho
 have nm:∀ {kind:Int} {text:Bs} {e:Nat},kind≤2→nameT L kind text i e=some (t,to)→t.kind≤2:=fun hk h=>by
  obtain ⟨_,rfl,_⟩:=nameT_to h; exact hk
 unfold oneT at h
 split at h
 ·cases h
 split at h
 ·exact nm (by decide) h
 split at h
 ·exact nm (by decide) h
 split at h
 ·rename_i c _ _ _ _
  cases hn:numT (cutB L i (runB dgC L i)) with
  | none=>rw [hn] at h; cases h
  | some n=>rw [hn] at h; cases h; cases ho
 split at h
 ·split at h
  ·exact nm (by decide) h
  ·cases h
 split at h
 ·exact nm (by decide) h
 split at h
 ·exact nm (by decide) h
 split at h
 ·cases h; cases ho
 split at h
 ·cases h; cases ho
 ·exact nm (by decide) h

structure PlaceT (L:Bs) (lo:Nat) (t:Tk):Prop where
 lo:(lo:Int)≤t.at_
 hi:t.at_<L.length
 opn:t.opn=true→t.kind≤2
 cut:∀ c,L[t.at_.toNat]? = some c→c.toNat≠39→t.kind≠5→t.at_.toNat+t.text.length≤L.length∧cutB L t.at_.toNat (t.at_.toNat+t.text.length)=t.text∧(t.text≠[46]→L.length≤3000→tokT (t.text++[32])=([⟨t.kind,t.text,t.n,0,false⟩],0,0))

theorem toks_place:∀ (f:Nat) (L:Bs) (i:Nat) (l:List Tk),toks f L i=.ok l→(∀ t∈l,PlaceT L i t)∧∀ k t u,l[k]? = some t→l[k+1]? = some u→t.at_<u.at_
 | 0,L,i,l,h=>by simp only [toks,Except.ok.injEq] at h; subst h; exact ⟨by simp,by simp⟩
 | f+1,L,i,l,h=>by
  simp only [toks] at h
  by_cases hp:passN L i<L.length
  ·rw [if_pos hp] at h
   have hle:i≤passN L i:=by unfold passN; omega
   cases hone:oneT L (passN L i) with
   | none=>rw [hone] at h; cases h
   | some x =>
    obtain ⟨t,to⟩:=x
    rw [hone] at h
    have hto:=oneT_to hone
    have hat:=oneT_at hone
    simp only at h
    cases hr:toks f L to with
    | error j=>rw [hr] at h; cases h
    | ok r =>
     rw [hr] at h
     simp only [Except.ok.injEq] at h
     subst h
     obtain ⟨h1,h2⟩:=toks_place f L to r hr
     refine ⟨fun u hu=>?_,fun k u v hu hv=>?_⟩
     ·rcases List.mem_cons.1 hu with e | e
      ·subst e
       refine ⟨by omega,by omega,one_opn hone,fun c hc h39 h5=>?_⟩
       rw [hat,Int.toNat_natCast] at hc ⊢
       obtain ⟨g1,g2,g3,g4⟩:=one_alone hone hc h39
       refine ⟨by omega,by rw [g2,← g1],fun hd h3=>?_⟩
       rcases g4 with g4 | g4 | g4
       ·exact absurd g4 h5
       ·exact absurd g4 hd
       ·have hi:=(List.getElem?_eq_some_iff.1 hc).1
        have he:=(List.getElem?_eq_some_iff.1 hc).2
        have hx:∃ r,u.text=c::r:=by
         rw [g1]; unfold cutB
         rw [List.drop_eq_getElem_cons hi,he]
         obtain ⟨n,hn⟩:∃ n,to - passN L i=n+1:=⟨to - passN L i - 1,by omega⟩
         rw [hn]; exact ⟨_,rfl⟩
        obtain ⟨r',hx⟩:=hx
        exact tok_alone hx g3 (by omega) g4
      ·have hq:=h1 u e
       exact ⟨by have:=hq.lo; omega,hq.hi,hq.opn,hq.cut⟩
     ·cases k with
      | zero =>
       simp only [List.getElem?_cons_zero,Option.some.injEq,Nat.zero_add,List.getElem?_cons_succ] at hu hv
       subst hu
       have:=(h1 v (List.mem_iff_getElem?.2 ⟨0,hv⟩)).lo
       omega
      | succ k =>
       simp only [List.getElem?_cons_succ] at hu hv
       exact h2 k u v hu hv
  ·rw [if_neg hp] at h
   simp only [Except.ok.injEq] at h; subst h; exact ⟨by simp,by simp⟩
end PSL

namespace PSL
open Go

structure RSt where
 at_:Nat
 names:List Bs
 bad:Int
 e:Int
 lay:Bool
 deriving DecidableEq
def zeroTk:Tk:=⟨0,[],0,0,false⟩
def plcR (L:List Tk) (n:Nat) (i:Nat):Int:=match L[i]? with | some t=>t.at_ | none=>n
def failR (L:List Tk) (n:Nat) (st:RSt) (c:Int):RSt:=if st.e=0 then { st with e:=c,bad:=plcR L n st.at_ } else st
def peekR (L:List Tk) (st:RSt):Tk:=if st.e≠0 then zeroTk else (L[st.at_]?).getD zeroTk
def nxR (st:RSt):RSt:={ st with at_:=st.at_+1 }
def isMk (t:Tk) (s:Bs):Bool:=decide (t.kind=4)&&(t.text==s)
def mustR (L:List Tk) (n:Nat) (st:RSt) (s:Bs):RSt:=if isMk (peekR L st) s then nxR st else failR L n st 2
def op700:List Bs:=[[61],[92,61],[61,61],[92,61,61],[64,60],[64,62],[64,61,60],[64,62,61],[105,115],[61,58,61],[61,92,61],[60],[62],[61,60],[62,61]]
def op500:List Bs:=[[43],[45]]
def op400:List Bs:=[[42],[47,47],[109,111,100]]
def opTab:List (Bs × Int × Int × Int):=[([58,45],1200,1199,1199),([59],1100,1099,1100),([45,62],1050,1049,1050),([44],1000,999,1000)]++op700.map (fun s=>(s,700,699,699))++op500.map (fun s=>(s,500,500,499))++op400.map (fun s=>(s,400,400,399))
def infT (s:Bs):Option (Int × Int × Int):=opTab.lookup s
def preT (s:Bs):Int:=if s=[92,43] then 900 else if s=[45] then 200 else 0
def inT (t:Tk):Option (Int × Int × Int):=if t.kind≠1∧(t.kind≠4∨t.text≠[44]) then none else infT t.text

def idxV:List Bs→Bs→Nat→Option Nat
 | [],_,_=>none
 | x::r,s,i=>if x=s then some i else idxV r s (i+1)

def varR (st:RSt) (s:Bs):Int × RSt:=match (if s=[95] then none else idxV st.names s 0) with
 | some i=>(i,st)
 | none=>(st.names.length,{ st with names:=st.names++[if s=[95] then [] else s] })

def mkR (st:RSt):RSt:={ st with lay:=true }
def inS (L:List Tk) (st:RSt):RSt:=if (peekR L st).kind≠1∧((peekR L st).kind≠4∨(peekR L st).text≠[44]) then st else mkR st
def begS (L:List Tk) (st:RSt):RSt:=if (peekR L st).kind=1 then mkR st else st

def begR (L:List Tk) (st:RSt):Bool :=
 let t:=peekR L st
 decide (t.kind=3) || decide (t.kind=2) || (decide (t.kind=4)&&(t.text==[40] || t.text==[91])) || (decide (t.kind=1)&&(infT t.text).isNone)
def fnT (s:Bs) (l:List Tm):Tm:=.mk 3 (Tx s) 0 l
def nmT (n:Int):Tm:=.mk 2 ByteArray.empty n []
abbrev TF:=Nat→Int→RSt→Option (Tm × RSt)

def manyR (L:List Tk) (T:TF):Nat→Nat→RSt→List Tm→Option (List Tm × RSt)
 | 0,_,_,_=>none
 | f+1,deep,st,acc=>if isMk (peekR L st) [44] then (T deep 999 (nxR st)).bind fun x=>manyR L T f deep x.2 (acc++[x.1]) else some (acc,st)
def rowR (L:List Tk) (T:TF) (deep:Nat) (st:RSt):Option (List Tm × RSt):=(T deep 999 st).bind fun x=>manyR L T (L.length+2) deep x.2 [x.1]
def minR (S:Bs) (t next:Tk):Bool:=(t.text==[45])&&decide (S[t.at_.toNat]? = some 45)&&decide (next.kind=3)&&decide (next.at_=t.at_+1)

def namedR (S:Bs) (L:List Tk) (T:TF) (deep:Nat) (p:Int) (t:Tk) (st:RSt):Option (Tm × Int × RSt) :=
 if minR S t (peekR L (nxR st)) then some (nmT (-(peekR L (nxR st)).n),0,nxR (nxR st))
 else if t.opn then (rowR L T deep (mustR L S.length (nxR st) [40])).map fun x=>(fnT t.text x.1,0,mustR L S.length x.2 [41])
 else if 0<preT t.text then (
  if begR L (nxR st) then (if preT t.text > p then some (zeroT,0,failR L S.length { begS L (nxR st) with at_:=st.at_ } 2) else (T deep (preT t.text) (begS L (nxR st))).map fun x=>(fnT t.text [x.1],preT t.text,x.2))
  else some (fnT t.text [],0,begS L (nxR st)))
 else some (fnT t.text [],0,nxR st)
def consT (l:List Tm) (t:Tm):Tm:=l.foldr (fun x t=>fnT [46] [x,t]) t

def listR (S:Bs) (L:List Tk) (T:TF) (deep:Nat) (st:RSt):Option (Tm × RSt) :=
 (rowR L T deep st).bind fun x =>
  if isMk (peekR L x.2) [124] then (T deep 999 (nxR x.2)).map fun y=>(consT x.1 y.1,mustR L S.length y.2 [93])
  else some (consT x.1 (fnT [91,93] []),mustR L S.length x.2 [93])

def opndR (sw:Bool) (S:Bs) (L:List Tk) (T:TF) (deep:Nat) (p:Int) (st:RSt):Option (Tm × Int × RSt) :=
 if 1000≤deep then some (zeroT,0,failR L S.length st 3)
 else if (peekR L st).kind=3 then some (nmT (peekR L st).n,0,nxR st)
 else if (peekR L st).kind=2 then some (Tm.vT (varR (nxR st) (peekR L st).text).1,0,(varR (nxR st) (peekR L st).text).2)
 else if (peekR L st).kind=1 then (namedR S L T (deep+1) p (peekR L st) st).map fun x=>if sw&&decide (x.2.2.e≠0) then (zeroT,0,x.2.2) else x
 else if isMk (peekR L st) [40] then (T (deep+1) 1200 (nxR st)).map fun x=>(x.1,0,mustR L S.length x.2 [41])
 else if isMk (peekR L st) [91] then (listR S L T (deep+1) (nxR st)).map fun x=>(x.1,0,x.2)
 else some (zeroT,0,failR L S.length st 2)

def restR (L:List Tk) (T:TF):Nat→Nat→Int→Tm→Int→RSt→Option (Tm × RSt)
 | 0,_,_,_,_,_=>none
 | f+1,deep,p,out,now,st =>
  if st.e≠0 then some (out,st)
  else match inT (peekR L st) with
   | none=>some (out,inS L st)
   | some (q,l,r)=>if q > p∨now > l then some (out,inS L st) else (T deep r (nxR (inS L st))).bind fun x=>restR L T f deep p (fnT (peekR L st).text [out,x.1]) q x.2

def termR (sw:Bool) (S:Bs) (L:List Tk):Nat→TF
 | 0,_,_,_=>none
 | n+1,deep,p,st=>(opndR sw S L (termR sw S L n) deep p st).bind fun x=>restR L (termR sw S L n) (L.length+2) deep p x.1 x.2.1 x.2.2
end PSL

namespace Go.Proofs.YtcgkgofmldhokaaGreat
open Go PSL Go.Proofs
def u8A (c:UInt8):AV:=.d (.v (.int .u8 c.toNat))
def txA (L:Bs):AV:=.d (.v (.string (Tx L)))
theorem bvEq {a b:Bool} (h:a=true↔b=true):bV a=bV b:=by rw [Bool.eq_iff_iff.2 h]
theorem bvT {b:Bool} (h:b=true):AV.d (.v (.bool true))=bV b:=by rw [h]; rfl
theorem bvF {b:Bool} (h:b=false):AV.d (.v (.bool false))=bV b:=by rw [h]; rfl

set_option maxRecDepth 100000 in
theorem low_ok (c:UInt8):PCtr Tryz.prog 136 [u8A c] (bV (lowC c)):=by
 refine PCtr.of_R (pf:=fun _=>.still) tyOk mixed Tryz.func136 rfl (by kernel_rfl) (by kernel_rfl) (by simp [Tryz.ntmps136]) fun w S hg=>?_
 refine R_run hg.ok 1000 rfl rfl ?_
 refine R_if rfl rfl (fun h=>?_) (fun h=>?_) <;> refine R_run hg.ok 1000 rfl rfl ?_
 ·have h:=of_decide_eq_true h
  refine R_ret hg 5 rfl rfl ?_
  exact bvEq (by simp [lowC]; omega)
 ·have h:=of_decide_eq_false h
  refine R_ret hg 5 rfl rfl ?_
  exact bvF (by simp [lowC]; omega)

set_option maxRecDepth 100000 in
theorem digit_ok (c:UInt8):PCtr Tryz.prog 140 [u8A c] (bV (dgC c)):=by
 refine PCtr.of_R (pf:=fun _=>.still) tyOk mixed Tryz.func140 rfl (by kernel_rfl) (by kernel_rfl) (by simp [Tryz.ntmps140]) fun w S hg=>?_
 refine R_run hg.ok 1000 rfl rfl ?_
 refine R_if rfl rfl (fun h=>?_) (fun h=>?_) <;> refine R_run hg.ok 1000 rfl rfl ?_
 ·have h:=of_decide_eq_true h
  refine R_ret hg 5 rfl rfl ?_
  exact bvEq (by simp [dgC]; omega)
 ·have h:=of_decide_eq_false h
  refine R_ret hg 5 rfl rfl ?_
  exact bvF (by simp [dgC]; omega)

set_option maxRecDepth 100000 in
theorem great_ok (c:UInt8):PCtr Tryz.prog 137 [u8A c] (bV (grtC c)):=by
 refine PCtr.of_R (pf:=fun _=>.still) tyOk mixed Tryz.func137 rfl (by kernel_rfl) (by kernel_rfl) (by simp [Tryz.ntmps137]) fun w S hg=>?_
 refine R_run hg.ok 1000 rfl rfl ?_
 refine R_if rfl rfl (fun h=>?_) (fun h=>?_) <;> refine R_run hg.ok 1000 rfl rfl ?_
 ·have h:=of_decide_eq_true h
  refine R_if rfl rfl (fun h2=>?_) (fun h2=>?_) <;> refine R_run hg.ok 1000 rfl rfl ?_
  ·have h2:=of_decide_eq_true h2
   refine R_ret hg 5 rfl rfl ?_
   exact bvT (by simp [grtC]; omega)
  ·have h2:=of_decide_eq_false h2
   refine R_ret hg 5 rfl rfl ?_
   exact bvEq (by simp [grtC]; omega)
 ·have h:=of_decide_eq_false h
  refine R_ret hg 5 rfl rfl ?_
  exact bvEq (by simp [grtC]; omega)

set_option maxRecDepth 100000 in
theorem blank_ok (c:UInt8):PCtr Tryz.prog 133 [u8A c] (bV (blkC c)):=by
 refine PCtr.of_R (pf:=fun _=>.still) tyOk mixed Tryz.func133 rfl (by kernel_rfl) (by kernel_rfl) (by simp [Tryz.ntmps133]) fun w S hg=>?_
 refine R_run hg.ok 1000 rfl rfl ?_
 refine R_if rfl rfl (fun h=>?_) (fun h=>?_) <;> refine R_run hg.ok 1000 rfl rfl ?_
 ·refine R_ret hg 5 rfl rfl ?_
  exact bvT (by simp at h; simp [blkC]; omega)
 refine R_if rfl rfl (fun h2=>?_) (fun h2=>?_) <;> refine R_run hg.ok 1000 rfl rfl ?_
 ·refine R_ret hg 5 rfl rfl ?_
  exact bvT (by simp at h2; simp [blkC]; omega)
 ·refine R_ret hg 5 rfl rfl ?_
  exact bvEq (by simp at h h2; simp [blkC]; omega)

set_option maxRecDepth 100000 in
theorem follows_ok (c:UInt8):PCtr Tryz.prog 138 [u8A c] (bV (folC c)):=by
 refine PCtr.of_R (pf:=fun _=>.still) tyOk mixed Tryz.func138 rfl (by kernel_rfl) (by kernel_rfl) (by simp [Tryz.ntmps138]) fun w S hg=>?_
 refine R_run hg.ok 1000 rfl rfl ?_
 refine R_call hg.ok (digit_ok c) rfl rfl rfl rfl rfl rfl ?_
 refine R_run hg.ok 1000 rfl rfl ?_
 refine R_if rfl rfl (fun h=>?_) (fun h=>?_) <;> refine R_run hg.ok 1000 rfl rfl ?_
 ·refine R_ret hg 5 rfl rfl ?_
  exact bvT (by simp [folC,h])
 refine R_call hg.ok (low_ok c) rfl rfl rfl rfl rfl rfl ?_
 refine R_run hg.ok 1000 rfl rfl ?_
 refine R_if rfl rfl (fun h2=>?_) (fun h2=>?_) <;> refine R_run hg.ok 1000 rfl rfl ?_
 ·refine R_ret hg 5 rfl rfl ?_
  exact bvT (by simp [folC,h2])
 refine R_call hg.ok (great_ok c) rfl rfl rfl rfl rfl rfl ?_
 refine R_run hg.ok 1000 rfl rfl ?_
 refine R_ret hg 5 rfl rfl ?_
 exact bvEq (by simp [folC,h,h2])

theorem w8 (c:UInt8):IntKind.u8.wrap (c.toNat:Int)=c.toNat:=by
 have:=c.toNat_lt
 simp [IntKind.wrap,IntKind.signed,IntKind.bits]; omega

theorem decode_ascii {L:Bs} {i:Nat} {c:UInt8} (h:L[i]? = some c) (hc:c.toNat<128):Utf8.decode (Tx L) i=(c.toNat,1):=by
 have hl:=(List.getElem?_eq_some_iff.1 h).1
 have e:(Tx L).get! (i+0)=c:=by
  show (Tx L).data[i]! = c
  have:=(List.getElem?_eq_some_iff.1 h).2
  simp [Tx,hl,this]
 unfold Utf8.decode
 simp only [e]
 rw [if_pos (by omega)]

set_option maxRecDepth 100000 in
theorem among_ok (R:Bs) (hR:R.all (fun c=>decide (c.toNat<128))=true) (c:UInt8):PCtr Tryz.prog 143 [txA R,u8A c] (bV (R.contains c)):=by
 refine PCtr.of_R (pf:=fun _=>.eff) tyOk mixed Tryz.func143 rfl (by kernel_rfl) (by kernel_rfl) (by simp [Tryz.ntmps143]) fun w S hg=>?_
 refine R_run hg.ok 1000 rfl rfl ?_
 refine R_rangeS hg.ok rfl rfl rfl rfl ?_
 refine R_run hg.ok 1000 rfl rfl ?_
 refine R_loop (fun k:Nat=>([(1,u8A c),(8,.lo 0 0)],[.itr (Tx R) k])) (fun k=>k≤R.length∧R.contains c=(R.drop k).contains c) (fun k=>R.length - k) 0 ⟨Nat.zero_le _,by simp⟩ ⟨.refl _,.refl _,trivial⟩ rfl ?_
 rintro k ⟨hk,hm⟩
 refine R_run hg.ok 1000 rfl rfl ?_
 by_cases hk1:k<R.length
 ·have e1:R[k]? = some R[k]:=List.getElem?_eq_getElem hk1
  have ha:R[k].toNat<128:=by simpa using List.all_eq_true.1 hR _ (List.getElem_mem hk1)
  rw [List.drop_eq_getElem_cons hk1,List.contains_cons] at hm
  refine R_nextS hg.ok rfl rfl rfl rfl (by rw [Tx_size]; exact hk1) (decode_ascii e1 ha) ?_
  refine R_run hg.ok 1000 rfl rfl ?_
  rw [w8 R[k]]
  refine R_if rfl rfl (fun h=>?_) (fun h=>?_) <;> refine R_run hg.ok 1000 rfl rfl ?_
  ·refine R_ret hg 5 rfl rfl ?_
   refine bvT ?_
   have h:R[k]=c:=UInt8.toNat_inj.1 (by simp at h; omega)
   rw [hm,h]; simp
  ·refine R_next (k+1) ⟨hk1,?_⟩ (by omega) ⟨.refl _,.refl _,trivial⟩ rfl
   have h:¬ R[k]=c:=fun e=>by rw [e] at h; simp at h
   rw [hm,show (c==R[k])=false by simp; exact fun e=>h e.symm,Bool.false_or]
 ·refine R_nextE hg.ok rfl rfl rfl rfl (by rw [Tx_size]; omega) ?_
  refine R_run hg.ok 1000 rfl rfl ?_
  refine R_ret hg 5 rfl rfl ?_
  rw [hm,List.drop_eq_nil_of_le (by omega)]; rfl

set_option maxRecDepth 100000 in
theorem sign1_ok (c:UInt8):PCtr Tryz.prog 144 [u8A c] (bV (sgnC c)):=by
 have h:=among_ok sgnL (by decide) c
 refine PCtr.of_R (pf:=fun _=>.still) tyOk mixed Tryz.func144 rfl (by kernel_rfl) (by kernel_rfl) (by simp [Tryz.ntmps144]) fun w S hg=>?_
 refine R_run hg.ok 1000 rfl rfl ?_
 refine R_call hg.ok (h) rfl rfl rfl rfl rfl rfl ?_
 refine R_run hg.ok 1000 rfl rfl ?_
 refine R_ret hg 5 rfl rfl ?_
 rfl

set_option maxRecDepth 100000 in
theorem line_ok (c:UInt8):PCtr Tryz.prog 135 [u8A c] (bV (!decide (c.toNat=10))):=by
 refine PCtr.of_R (pf:=fun _=>.still) tyOk mixed Tryz.func135 rfl (by kernel_rfl) (by kernel_rfl) (by simp [Tryz.ntmps135]) fun w S hg=>?_
 refine R_run hg.ok 1000 rfl rfl ?_
 refine R_ret hg 5 rfl rfl ?_
 exact bvEq (by simp; omega)
def cutO (L:Bs) (i:Nat):List Ob:=[.box [txA L,iV i]]

set_option maxRecDepth 100000 in
theorem run_walk (Y:YP) (f:Nat) (p:UInt8→Bool) (hp:∀ c,PCtr Tryz.prog f [u8A c] (bV (p c))) (L:Bs) (j i:Nat) (hi:i≤L.length) (hL:L.length≤9000):SCtr Tryz.prog Y 134 [.lo 0 0,iV i,.clo f [] []] (cutO L j) (iV (runB p L i)) (cutO L j):=by
 refine SCtr.of_R (pf:=fun _=>.eff) tyOk mixed Tryz.func134 rfl (by kernel_rfl) (by kernel_rfl) (by simp [Tryz.ntmps134]) (by simp [cutO]) fun w S φ hg=>?_
 have hφ:φ.length=1:=hg.hs0.len
 refine R_run hg.ok 1000 rfl rfl ?_
 refine R_loop (fun k:Nat=>([(0,.lo 0 0),(1,iV k),(2,.clo f [] [])],cutO L j)) (fun k=>k≤L.length∧runB p L i=runB p L k) (fun k=>L.length - k) i ⟨hi,rfl⟩ ⟨.refl _,.refl _,.refl _,trivial⟩ rfl ?_
 rintro k ⟨hk,hm⟩
 refine R_run hg.ok 1000 rfl rfl ?_
 refine R_if rfl rfl (fun h=>?_) (fun h=>?_) <;> refine R_run hg.ok 1000 rfl rfl ?_
 ·have hk1:k<L.length:=lt_dec h (by rw [Tx_size])
  have e1:L[k]? = some L[k]:=List.getElem?_eq_getElem hk1
  refine R_indexS hg.ok rfl rfl rfl rfl rfl (Int.natCast_nonneg k) (b:=L[k]) (by rw [Tx_get]; exact e1) ?_
  refine R_run hg.ok 1000 rfl rfl ?_
  refine R_call hg.ok (hp L[k]) rfl rfl rfl rfl rfl rfl ?_
  refine R_run hg.ok 1000 rfl rfl ?_
  refine R_if rfl rfl (fun h2=>?_) (fun h2=>?_) <;> refine R_run hg.ok 1000 rfl rfl ?_
  ·exact R_next (k+1) ⟨hk1,by rw [hm,runB_step e1 h2]⟩ (by omega) ⟨.refl _,Ent.wrap (by omega) (by omega) (by omega),.refl _,trivial⟩ rfl
  ·rw [hm,runB_stop e1 h2]
   exact R_retS hg 1 5 (Nat.le_refl _) rfl rfl rfl
 ·have hk1:L.length≤k:=ge_dec h (by rw [Tx_size])
  rw [hm,runB_end hk1]
  exact R_retS hg 1 5 (Nat.le_refl _) rfl rfl rfl

set_option maxRecDepth 100000 in
theorem pass_walk (Y:YP) (L:Bs) (i:Nat) (hi:i≤L.length) (hL:L.length≤9000):SCtr Tryz.prog Y 115 [.lo 0 0] (cutO L i) (.tup []) (cutO L (passN L i)):=by
 refine SCtr.of_R (pf:=fun _=>.eff) tyOk mixed Tryz.func115 rfl (by kernel_rfl) (by kernel_rfl) (by simp [Tryz.ntmps115]) (by simp [cutO]) fun w S φ hg=>?_
 have hφ:φ.length=1:=hg.hs0.len
 refine R_run hg.ok 1000 rfl rfl ?_
 refine R_loop (fun k:Nat=>([(0,.lo 0 0)],cutO L k)) (fun k=>k≤L.length∧passN L i=passN L k) (fun k=>L.length - k) i ⟨hi,rfl⟩ ⟨.refl _,trivial⟩ rfl ?_
 rintro k ⟨hk,hm⟩
 refine R_run hg.ok 1000 rfl rfl ?_
 refine R_if rfl rfl (fun h=>?_) (fun h=>?_) <;> refine R_run hg.ok 1000 rfl rfl ?_
 ·have hk1:k<L.length:=lt_dec h (by rw [Tx_size])
  have e1:L[k]? = some L[k]:=List.getElem?_eq_getElem hk1
  refine R_indexS hg.ok rfl rfl rfl rfl rfl (Int.natCast_nonneg k) (b:=L[k]) (by rw [Tx_get]; exact e1) ?_
  refine R_run hg.ok 1000 rfl rfl ?_
  refine R_call hg.ok (blank_ok L[k]) rfl rfl rfl rfl rfl rfl ?_
  refine R_run hg.ok 1000 rfl rfl ?_
  refine R_if rfl rfl (fun h2=>?_) (fun h2=>?_) <;> refine R_run hg.ok 1000 rfl rfl ?_
  ·rw [w64 (n:=(k:Int)+1) (by omega) (by omega)]
   exact R_next (k+1) ⟨hk1,by rw [hm,pass_blank e1 h2]⟩ (by omega) ⟨.refl _,trivial⟩ rfl
  ·refine R_indexS hg.ok rfl rfl rfl rfl rfl (Int.natCast_nonneg k) (b:=L[k]) (by rw [Tx_get]; exact e1) ?_
   refine R_run hg.ok 1000 rfl rfl ?_
   refine R_if rfl rfl (fun h3=>?_) (fun h3=>?_) <;> refine R_run hg.ok 1000 rfl rfl ?_
   ·have h3:L[k].toNat=37:=by simp at h3; omega
    obtain ⟨g1,g2⟩:=pass_line e1 h3
    have g3:=(runB_le (p:=nlC) (L:=L) (i:=k) (by omega)).2
    have hcall:=run_walk Y 135 nlC line_ok L k k hk hL
    refine R_callSO hg.ok hg.gup hg.wide hg.Y [0] (cutO L k) hcall (fun _=>rfl) rfl rfl rfl rfl rfl rfl rfl rfl ?_
    refine R_run hg.ok 1000 rfl rfl ?_
    exact R_next (runB nlC L k) ⟨g3,by rw [hm,g1]⟩ (by omega) ⟨.refl _,trivial⟩ rfl
   ·have h3:¬ L[k].toNat=37:=by simp at h3; omega
    rw [hm,pass_stop e1 h2 h3]
    exact R_retS hg 1 5 (Nat.le_refl _) rfl rfl rfl
 ·have hk1:L.length≤k:=ge_dec h (by rw [Tx_size])
  rw [hm,pass_end hk1]
  exact R_endS hg 1 5 (Nat.le_refl _) rfl rfl rfl
def tkD (t:Tk):List D:=[.v (.int .i64 t.kind),.v (.string (Tx t.text)),.v (.int .i64 t.n),.v (.int .i64 t.at_),.v (.bool t.opn)]
def tkA (t:Tk):AV:=.agg [.d (.v (.int .i64 t.kind)),.d (.v (.string (Tx t.text))),.d (.v (.int .i64 t.n)),.d (.v (.int .i64 t.at_)),.d (.v (.bool t.opn))]
def namB (text:Bs):Bool:=decide (1≤text.length)&&decide (text.length≤20)
def pfNamed:Nat→Cls:=fun f=>bif Nat.beq f 4000200008 then .turn 101 else bif Nat.beq f 4000300035 then .look 102 else bif Nat.beq f 4000300039 then .look 102 else .eff

set_option maxRecDepth 100000 in
theorem named_walk (Y:YP) (L:Bs) (i:Nat) (kind:Int) (text:Bs) (to:Nat) (hto:to≤L.length) (hL:L.length≤9000) (hi:i≤9000):SCtr Tryz.prog Y 139 [.lo 0 0,iV kind,txA text,iV to] (cutO L i) (.tup [tkA ⟨kind,text,0,i,opnB L to⟩,iV to,bV (namB text)]) (cutO L i):=by
 refine SCtr.of_R (pf:=pfNamed) tyOk mixed Tryz.func139 rfl (by kernel_rfl) (by kernel_rfl) (by simp [Tryz.ntmps139]) (by simp [cutO]) fun w S φ hg=>?_
 have hφ:φ.length=1:=hg.hs0.len
 refine R_run hg.ok 1000 rfl rfl ?_
 refine R_if rfl rfl (fun h=>?_) (fun h=>?_) <;> refine R_run hg.ok 1000 rfl rfl ?_
 ·have hk1:to<L.length:=lt_dec h (by rw [Tx_size])
  have e1:L[to]? = some L[to]:=List.getElem?_eq_getElem hk1
  have ho:(((L[to].toNat:Int))==40)=opnB L to:=by
   rw [opnB,e1,Bool.eq_iff_iff,beq_iff_eq,decide_eq_true_eq]; omega
  refine R_indexS hg.ok rfl rfl rfl rfl rfl (Int.natCast_nonneg to) (b:=L[to]) (by rw [Tx_get]; exact e1) ?_
  refine R_run hg.ok 1000 rfl rfl ?_
  rw [ho]
  refine R_lenStr hg.ok rfl rfl rfl rfl (n:=(text.length:Int)) (by rw [Tx_size]) ?_
  refine R_run hg.ok 1000 rfl rfl ?_
  refine R_if rfl rfl (fun h2=>?_) (fun h2=>?_) <;> refine R_run hg.ok 1000 rfl rfl ?_
  ·refine R_lenStr hg.ok rfl rfl rfl rfl (n:=(text.length:Int)) (by rw [Tx_size]) ?_
   refine R_run hg.ok 1000 rfl rfl ?_
   refine R_storeJ hg.ok rfl rfl rfl rfl rfl rfl rfl rfl rfl ?_
   refine R_run hg.ok 1000 rfl rfl ?_
   rw [show decide ((text.length:Int)≤20)=namB text by rw [namB,decide_eq_true (by have:=of_decide_eq_true h2; omega:1≤text.length),Bool.true_and,Bool.eq_iff_iff,decide_eq_true_eq,decide_eq_true_eq]; omega]
   exact R_retS hg 1 5 (Nat.le_refl _) rfl rfl rfl
  ·refine R_storeJ hg.ok rfl rfl rfl rfl rfl rfl rfl rfl rfl ?_
   refine R_run hg.ok 1000 rfl rfl ?_
   rw [show namB text=false by rw [namB,decide_eq_false (by have:=of_decide_eq_false h2; omega:¬ 1≤text.length),Bool.false_and]]
   exact R_retS hg 1 5 (Nat.le_refl _) rfl rfl rfl
 ·have hk1:L.length≤to:=ge_dec h (by rw [Tx_size])
  have ho:opnB L to=false:=by rw [opnB,List.getElem?_eq_none hk1]
  rw [ho]
  refine R_lenStr hg.ok rfl rfl rfl rfl (n:=(text.length:Int)) (by rw [Tx_size]) ?_
  refine R_run hg.ok 1000 rfl rfl ?_
  refine R_if rfl rfl (fun h2=>?_) (fun h2=>?_) <;> refine R_run hg.ok 1000 rfl rfl ?_
  ·refine R_lenStr hg.ok rfl rfl rfl rfl (n:=(text.length:Int)) (by rw [Tx_size]) ?_
   refine R_run hg.ok 1000 rfl rfl ?_
   refine R_storeJ hg.ok rfl rfl rfl rfl rfl rfl rfl rfl rfl ?_
   refine R_run hg.ok 1000 rfl rfl ?_
   rw [show decide ((text.length:Int)≤20)=namB text by rw [namB,decide_eq_true (by have:=of_decide_eq_true h2; omega:1≤text.length),Bool.true_and,Bool.eq_iff_iff,decide_eq_true_eq,decide_eq_true_eq]; omega]
   exact R_retS hg 1 5 (Nat.le_refl _) rfl rfl rfl
  ·refine R_storeJ hg.ok rfl rfl rfl rfl rfl rfl rfl rfl rfl ?_
   refine R_run hg.ok 1000 rfl rfl ?_
   rw [show namB text=false by rw [namB,decide_eq_false (by have:=of_decide_eq_false h2; omega:¬ 1≤text.length),Bool.false_and]]
   exact R_retS hg 1 5 (Nat.le_refl _) rfl rfl rfl
end Go.Proofs.YtcgkgofmldhokaaGreat

namespace Go.Proofs.YtcgkgofmldhokaaGreat
open Go PSL Go.Proofs

def quoR (L:Bs) (i:Nat):Bs × Nat × Bool:=match quo (L.drop (i+1)) with
 | some (t,k)=>(t,i+1+k,true)
 | none=>([],0,false)
theorem byRows_snoc (l:Bs) (c:UInt8):byRows l++[[.v (.int .u8 c.toNat)]]=byRows (l++[c]):=by simp [byRows]
theorem byRows_len (l:Bs):(byRows l).length=l.length:=by simp [byRows]

set_option maxRecDepth 100000 in
theorem quoted_walk (Y:YP) (L:Bs) (i:Nat) (hi:i<L.length) (hL:L.length≤9000):SCtr Tryz.prog Y 142 [.lo 0 0] (cutO L i) (.tup [txA (quoR L i).1,iV (quoR L i).2.1,bV (quoR L i).2.2]) (cutO L i):=by
 refine SCtr.of_R (pf:=fun _=>.eff) tyOk mixed Tryz.func142 rfl (by kernel_rfl) (by kernel_rfl) (by simp [Tryz.ntmps142]) (by simp [cutO]) fun w S φ hg=>?_
 have hφ:φ.length=1:=hg.hs0.len
 have bad:quo (L.drop (i+1))=none→AV.tup [.d (.v (.string ByteArray.empty)),iV 0,.d (.v (.bool false))]=.tup [txA (quoR L i).1,iV (quoR L i).2.1,bV (quoR L i).2.2]:=fun h=>by
  unfold quoR; rw [h]; rfl
 refine R_run hg.ok 1000 rfl rfl ?_
 rw [w64 (n:=(i:Int)+1) (by omega) (by omega),show (i:Int)+1=((i+1:Nat):Int) by omega]
 refine R_own 5 1 rfl rfl ?_
 refine R_loop (fun x:Nat × Bs=>([(0,.lo 0 0),(5,.ow 1 x.2.length),(6,iV x.1)],cutO L i++[.arr 1 x.2.length (byRows x.2)])) (fun x=>i+1≤x.1∧x.1≤L.length∧x.2.length≤x.1∧quo (L.drop (i+1))=(quo (L.drop x.1)).map fun y=>(x.2++y.1,y.2+(x.1 - (i+1)))) (fun x=>L.length - x.1) (i+1,[]) ⟨Nat.le_refl _,hi,Nat.zero_le _,by simp⟩ ⟨.refl _,.refl _,.refl _,trivial⟩ rfl ?_
 rintro ⟨k,out⟩ ⟨hk0,hk,ho,hm⟩
 simp only at hk0 hk ho hm
 refine R_run hg.ok 1000 rfl rfl ?_
 refine R_if rfl rfl (fun h=>?_) (fun h=>?_) <;> refine R_run hg.ok 1000 rfl rfl ?_
 ·have hk1:k<L.length:=lt_dec h (by rw [Tx_size])
  have e1:L[k]? = some L[k]:=List.getElem?_eq_getElem hk1
  rw [List.drop_eq_getElem_cons hk1] at hm
  refine R_indexS hg.ok rfl rfl rfl rfl rfl (Int.natCast_nonneg k) (b:=L[k]) (by rw [Tx_get]; exact e1) ?_
  generalize L[k]=x at hm e1
  refine R_run hg.ok 1000 rfl rfl ?_
  refine R_if rfl rfl (fun g1=>?_) (fun g1=>?_) <;> refine R_run hg.ok 1000 rfl rfl ?_
  ·have g1:¬ x.toNat=39:=by simp at g1; omega
   refine R_if rfl rfl (fun g2=>?_) (fun g2=>?_) <;> refine R_run hg.ok 1000 rfl rfl ?_
   ·have g2:=of_decide_eq_true g2
    rw [← bad (by rw [hm,quo_bad (.inl (by omega))]; rfl)]
    exact R_retS hg 1 5 (Nat.le_refl _) rfl rfl rfl
   have g2:=of_decide_eq_false g2
   refine R_if rfl rfl (fun g3=>?_) (fun g3=>?_) <;> refine R_run hg.ok 1000 rfl rfl ?_
   ·have g3:=of_decide_eq_true g3
    rw [← bad (by rw [hm,quo_bad (.inr (by omega))]; rfl)]
    exact R_retS hg 1 5 (Nat.le_refl _) rfl rfl rfl
   have g3:=of_decide_eq_false g3
   refine R_if rfl rfl (fun _=>?_) (fun h=>absurd h (by simp; omega)) <;> refine R_run hg.ok 1000 rfl rfl ?_
   refine R_appendO hg.ok (byRows (out++[x])) rfl rfl rfl rfl rfl rfl rfl rfl rfl (by simp) (by simp [one1]) (byRows_snoc out x) (by rw [byRows_len]; simp; omega) (by rw [byRows_len]; simp; omega) ?_
   refine R_run hg.ok 1000 rfl rfl ?_
   refine R_next (k+1,out++[x]) ⟨by simp only; omega,hk1,by simp; omega,?_⟩ (by simp only; omega) ⟨.refl _,by simp only [List.length_append,List.length_singleton]; exact .refl _,Ent.wrap (by simp only; omega) (by simp only; omega) (by simp only; omega),trivial⟩ (by simp only [List.length_append,List.length_singleton]; rfl)
   simp only
   rw [hm,quo_any (by omega) g1,Option.map_map]
   congr 1
   funext y
   simp; omega
  ·have g1:x.toNat=39:=by simp at g1; omega
   refine R_if rfl rfl (fun h=>absurd h (by simp; omega)) (fun _=>?_) <;> refine R_run hg.ok 1000 rfl rfl ?_
   rw [w64 (n:=(k:Int)+1) (by omega) (by omega),show (k:Int)+1=((k+1:Nat):Int) by omega]
   have last:(∀ d,(L.drop (k+1))[0]? = some d→d.toNat≠39)→quoR L i=(out,k+1,true):=fun h=>by
    unfold quoR
    rw [hm,quo_one g1 h]
    simp; omega
   refine R_if rfl rfl (fun g2=>?_) (fun g2=>?_)
   ·refine R_run hg.ok 1000 rfl rfl ?_
    have hk2:k+1<L.length:=lt_dec g2 (by rw [Tx_size])
    have e2:L[k+1]? = some L[k+1]:=List.getElem?_eq_getElem hk2
    rw [w64 (n:=(k:Int)+1) (by omega) (by omega),show (k:Int)+1=((k+1:Nat):Int) by omega]
    refine R_indexS hg.ok rfl rfl rfl rfl rfl (Int.natCast_nonneg (k+1)) (b:=L[k+1]) (by rw [Tx_get]; exact e2) ?_
    refine R_run hg.ok 1000 rfl rfl ?_
    refine R_if rfl rfl (fun g3=>?_) (fun g3=>?_)
    ·refine R_run hg.ok 1000 rfl rfl ?_
     have g3:L[k+1].toNat=39:=by simp at g3; omega
     have g4:L[k+1]=39:=UInt8.toNat_inj.1 g3
     rw [List.drop_eq_getElem_cons hk2,quo_two g1 g3] at hm
     refine R_appendO hg.ok (byRows (out++[39])) rfl rfl rfl rfl rfl rfl rfl rfl rfl (by simp) (by simp [one1]) (byRows_snoc out 39) (by rw [byRows_len]; simp; omega) (by rw [byRows_len]; simp; omega) ?_
     refine R_run hg.ok 1000 rfl rfl ?_
     rw [w64 (n:=(k:Int)+1) (by omega) (by omega)]
     refine R_next (k+2,out++[39]) ⟨by simp only; omega,hk2,by simp; omega,?_⟩ (by simp only; omega) ⟨.refl _,by simp only [List.length_append,List.length_singleton]; exact .refl _,Ent.wrap (by simp only; omega) (by simp only; omega) (by simp only; omega),trivial⟩ (by simp only [List.length_append,List.length_singleton]; rfl)
     simp only
     rw [hm,Option.map_map]
     congr 1
     funext y
     simp; omega
    ·have g3:¬ L[k+1].toNat=39:=by simp at g3; omega
     refine R_run hg.ok 1 rfl rfl ?_
     refine R_freezeO hg.gup 1 [(0,.lo 0 0),(5,.d (.sl (byRows out))),(6,iV k)] [.box [txA L,iV i],.dead] rfl rfl ⟨.refl _,Ent.frz 1 out.length (byRows out),.refl _,trivial⟩ ⟨⟨.refl _,.refl _,trivial⟩,by simp [ObIn],trivial⟩ ?_
     refine R_run hg.ok 1000 rfl rfl ?_
     refine R_convD hg.ok out rfl rfl rfl rfl rfl rfl ?_
     refine R_run hg.ok 1000 rfl rfl ?_
     rw [w64 (n:=(k:Int)+1) (by omega) (by omega),show (k:Int)+1=((k+1:Nat):Int) by omega,last (fun d hd=>by rw [List.getElem?_drop] at hd; simp only [Nat.add_zero] at hd; rw [e2] at hd; cases hd; exact g3)]
     exact R_retS hg 1 5 (Nat.le_refl _) rfl rfl rfl
   ·refine R_run hg.ok 2 rfl rfl ?_
    have hk2:L.length≤k+1:=ge_dec g2 (by rw [Tx_size])
    refine R_freezeO hg.gup 1 [(0,.lo 0 0),(5,.d (.sl (byRows out))),(6,iV k)] [.box [txA L,iV i],.dead] rfl rfl ⟨.refl _,Ent.frz 1 out.length (byRows out),.refl _,trivial⟩ ⟨⟨.refl _,.refl _,trivial⟩,by simp [ObIn],trivial⟩ ?_
    refine R_run hg.ok 1000 rfl rfl ?_
    refine R_convD hg.ok out rfl rfl rfl rfl rfl rfl ?_
    refine R_run hg.ok 1000 rfl rfl ?_
    rw [w64 (n:=(k:Int)+1) (by omega) (by omega),show (k:Int)+1=((k+1:Nat):Int) by omega,last (fun d hd=>by rw [List.drop_eq_nil_of_le hk2] at hd; simp at hd)]
    exact R_retS hg 1 5 (Nat.le_refl _) rfl rfl rfl
 ·have hk1:L.length≤k:=ge_dec h (by rw [Tx_size])
  rw [List.drop_eq_nil_of_le hk1] at hm
  rw [← bad (by rw [hm]; rfl)]
  exact R_retS hg 1 5 (Nat.le_refl _) rfl rfl rfl

def numP (D:Bs):Nat × Bool:=match numT D with
 | some n=>(n,true)
 | none=>(0,false)

theorem w8sub {c:UInt8} (h:dgC c=true):IntKind.u8.wrap ((c.toNat:Int) - 48)=((c.toNat - 48:Nat):Int):=by
 have h1:=c.toNat_lt
 simp only [dgC,Bool.and_eq_true,decide_eq_true_eq] at h
 simp [IntKind.wrap,IntKind.signed,IntKind.bits]; omega

set_option maxRecDepth 100000 in
theorem number_ok (D:Bs) (hd:D.all dgC=true) (hl:D.length≤9000):PCtr Tryz.prog 141 [txA D] (.tup [iV (numP D).1,bV (numP D).2]):=by
 have bad:numT D=none→AV.tup [iV 0,.d (.v (.bool false))]=.tup [iV (numP D).1,bV (numP D).2]:=fun h=>by unfold numP; rw [h]; rfl
 have ok:∀ n:Nat,numT D=some n→AV.tup [iV n,.d (.v (.bool true))]=.tup [iV (numP D).1,bV (numP D).2]:=fun n h=>by unfold numP; rw [h]; rfl
 refine PCtr.of_R (pf:=fun _=>.still) tyOk mixed Tryz.func141 rfl (by kernel_rfl) (by kernel_rfl) (by simp [Tryz.ntmps141]) fun w S hg=>?_
 refine R_run hg.ok 1000 rfl rfl ?_
 by_cases h0:1<D.length∧(D[0]?.map UInt8.toNat)=some 48
 ·have hb:=bad (by unfold numT; rw [if_pos (.inl h0)])
  have e0:D[0]? = some D[0]:=List.getElem?_eq_getElem (by omega)
  have h48:D[0].toNat=48:=by have:=h0.2; rw [e0] at this; simpa using this
  refine R_if rfl rfl (fun _=>?_) (fun h=>absurd h (by simp [Tx_size]; omega)) <;> refine R_run hg.ok 1000 rfl rfl ?_
  refine R_indexS hg.ok rfl rfl rfl rfl rfl (by decide) (b:=D[0]) (by rw [Tx_get]; exact e0) ?_
  refine R_run hg.ok 1000 rfl rfl ?_
  refine R_if rfl rfl (fun _=>?_) (fun h=>absurd h (by simp; omega)) <;> refine R_run hg.ok 1000 rfl rfl ?_
  refine R_ret hg 5 rfl rfl ?_
  exact hb
 refine R_if rfl rfl (fun h1=>?_) (fun h1=>?_) <;> refine R_run hg.ok 1000 rfl rfl ?_
 all_goals
  try
   have h1:1<D.length:=by have:=of_decide_eq_true h1; rw [Tx_size] at this; omega
   have e0:D[0]? = some D[0]:=List.getElem?_eq_getElem (by omega)
   have h48:¬ D[0].toNat=48:=fun e=>h0 ⟨h1,by rw [e0]; simp [e]⟩
   refine R_indexS hg.ok rfl rfl rfl rfl rfl (by decide) (b:=D[0]) (by rw [Tx_get]; exact e0) ?_
   refine R_run hg.ok 1000 rfl rfl ?_
   refine R_if rfl rfl (fun h=>absurd h (by simp; omega)) (fun _=>?_) <;> refine R_run hg.ok 1000 rfl rfl ?_
 all_goals
  refine R_loop (fun x:Nat × Nat=>([(0,txA D),(4,iV x.2),(16,iV D.length),(17,iV x.1)],[])) (fun x=>x.1≤D.length∧x.2=valN 0 (D.take x.1)∧x.2≤9223372036854775807) (fun x=>D.length - x.1) (0,0) ⟨Nat.zero_le _,rfl,by simp⟩ ⟨.refl _,.refl _,Ent.int (by rw [Tx_size]),.refl _,trivial⟩ rfl ?_
  rintro ⟨k,n⟩ ⟨hk,hn,hb⟩
  simp only at hk hn hb
  refine R_run hg.ok 1000 rfl rfl ?_
  refine R_if rfl rfl (fun h=>?_) (fun h=>?_) <;> refine R_run hg.ok 1000 rfl rfl ?_
  ·have hk1:k<D.length:=lt_dec h rfl
   have e1:D[k]? = some D[k]:=List.getElem?_eq_getElem hk1
   have hdk:dgC D[k]=true:=List.all_eq_true.1 hd _ (List.getElem_mem hk1)
   have htk:D.take (k+1)=D.take k++[D[k]]:=by rw [List.take_add_one,e1]; rfl
   have hv:valN 0 (D.take (k+1))=10 * n+(D[k].toNat - 48):=by rw [htk,valN_snoc,hn]
   have hmono:valN 0 (D.take (k+1))≤valN 0 D:=by
    have:=valN_mono (D.take (k+1)) (D.drop (k+1))
    rwa [List.take_append_drop] at this
   have hd9:D[k].toNat - 48≤9:=by simp only [dgC,Bool.and_eq_true,decide_eq_true_eq] at hdk; omega
   refine R_indexS hg.ok rfl rfl rfl rfl rfl (Int.natCast_nonneg k) (b:=D[k]) (by rw [Tx_get]; exact e1) ?_
   refine R_run hg.ok 1000 rfl rfl ?_
   rw [w8sub hdk]
   generalize D[k].toNat - 48=d at hv hd9
   rw [w64 (n:=((d:Nat):Int)) (by omega) (by omega),w64 (n:=9223372036854775807 - (d:Int)) (by omega) (by omega)]
   refine R_quo hg.ok rfl rfl rfl rfl (by decide) ?_
   refine R_run hg.ok 1000 rfl rfl ?_
   rw [Int.tdiv_eq_ediv_of_nonneg (by omega),w64 (n:=(9223372036854775807 - (d:Int)) / 10) (by omega) (by omega)]
   refine R_if rfl rfl (fun h2=>?_) (fun h2=>?_) <;> refine R_run hg.ok 1000 rfl rfl ?_
   ·have h2:=of_decide_eq_true h2
    refine R_ret hg 5 rfl rfl ?_
    refine bad ?_
    unfold numT
    rw [if_pos (.inr (by omega))]
   ·have h2:=of_decide_eq_false h2
    rw [w64 (n:=10 * (n:Int)) (by omega) (by omega),w64 (n:=10 * (n:Int)+(d:Int)) (by omega) (by omega),show 10 * (n:Int)+(d:Int)=((10 * n+d:Nat):Int) by omega]
    exact R_next (k+1,10 * n+d) ⟨hk1,hv.symm,by simp only; omega⟩ (by simp only; omega) ⟨.refl _,.refl _,.refl _,Ent.wrap (by simp only; omega) (by simp only; omega) (by simp only; omega),trivial⟩ rfl
  ·have hk1:D.length≤k:=ge_dec h rfl
   rw [List.take_of_length_le hk1] at hn
   refine R_ret hg 5 rfl rfl ?_
   refine ok n ?_
   unfold numT
   rw [if_neg (by rw [← hn]; rintro (g | g); exact h0 g; omega),hn]
end Go.Proofs.YtcgkgofmldhokaaGreat

namespace Go.Proofs.YtcgkgofmldhokaaGreat
open Go PSL Go.Proofs
def namR (L:Bs) (kind:Int) (text:Bs) (i to:Nat):Tk × Nat × Bool:=(⟨kind,text,0,i,opnB L to⟩,to,namB text)

def nextR (L:Bs) (i:Nat) (c:UInt8):Tk × Nat × Bool :=
 if lowC c then namR L 1 (cutB L i (runB folC L i)) i (runB folC L i)
 else if grtC c then namR L 2 (cutB L i (runB folC L i)) i (runB folC L i)
 else if dgC c then (⟨3,cutB L i (runB dgC L i),(numP (cutB L i (runB dgC L i))).1,i,false⟩,runB dgC L i,(numP (cutB L i (runB dgC L i))).2)
 else if c.toNat=39 then ((namR L 1 (quoR L i).1 i (quoR L i).2.1).1,(quoR L i).2.1,(quoR L i).2.2&&namB (quoR L i).1)
 else if c.toNat=91∧(L[i+1]?.map UInt8.toNat)=some 93 then namR L 1 [91,93] i (i+2)
 else if c.toNat=33∨c.toNat=59 then namR L 1 [c] i (i+1)
 else if mrkC c then (⟨4,[c],0,i,false⟩,i+1,true)
 else if runB sgnC L i=i+1∧c.toNat=46∧endAft L (i+1) then (⟨5,[46],0,i,false⟩,i+1,true)
 else namR L 1 (cutB L i (runB sgnC L i)) i (runB sgnC L i)
def zTk:Ob:=.box [.d (.v (.int .i64 0)),.d (.v (.string ByteArray.empty)),.d (.v (.int .i64 0)),.d (.v (.int .i64 0)),.d (.v (.bool false))]
def pfNext:Nat→Cls:=fun f=>bif Nat.beq f 4000200002 then .turn 101 else bif Nat.beq f 4000100192 then .look 102 else .eff

theorem take_run (p:UInt8→Bool):∀ l:Bs,l.take (l.takeWhile p).length=l.takeWhile p∧(l.takeWhile p).all p=true
 | []=>by simp
 | c::l=>by
  by_cases h:p c=true
  ·obtain ⟨h1,h2⟩:=take_run p l
   rw [List.takeWhile_cons_of_pos h,List.length_cons,List.take_succ_cons,h1,List.all_cons,h,h2]
   exact ⟨rfl,rfl⟩
  ·rw [List.takeWhile_cons_of_neg h]; exact ⟨rfl,rfl⟩

theorem run_all {p:UInt8→Bool} {L:Bs} {i:Nat}:(cutB L i (runB p L i)).all p=true:=by
 unfold cutB runB
 rw [Nat.add_sub_cancel_left,(take_run p (L.drop i)).1]
 exact (take_run p (L.drop i)).2

theorem enc_ascii {c:UInt8} (h:c.toNat<128):Utf8.encode (c.toNat:Int)=Tx [c]:=by
 unfold Utf8.encode
 have hv:Utf8.valid (c.toNat:Int)=true:=by simp [Utf8.valid]; omega
 simp only [hv,if_true,Int.toNat_natCast]
 rw [if_pos (by omega)]
 simp [Tx]

set_option maxHeartbeats 1600000 in
set_option maxHeartbeats 1600000 in
set_option maxRecDepth 100000 in
theorem next_walk (Y:YP) (L:Bs) (i:Nat) (c:UInt8) (hc:L[i]? = some c) (hL:L.length≤9000):SCtr Tryz.prog Y 116 [.lo 0 0] (cutO L i) (.tup [tkA (nextR L i c).1,iV (nextR L i c).2.1,bV (nextR L i c).2.2]) (cutO L i):=by
 refine SCtr.of_R (pf:=pfNext) tyOk mixed Tryz.func116 rfl (by kernel_rfl) (by kernel_rfl) (by simp [Tryz.ntmps116]) (by simp [cutO]) fun w S φ hg=>?_
 have hφ:φ.length=1:=hg.hs0.len
 have hi:=(List.getElem?_eq_some_iff.1 hc).1
 have fin:∀ {t:Tk} {to:Nat} {b:Bool},nextR L i c=(t,to,b)→AV.tup [tkA t,iV to,bV b]=.tup [tkA (nextR L i c).1,iV (nextR L i c).2.1,bV (nextR L i c).2.2]:=fun h=>by rw [h]
 have hrun:=fun (p:UInt8→Bool)=>runB_le (p:=p) (L:=L) (i:=i) (by omega)
 refine R_run hg.ok 1000 rfl rfl ?_
 refine R_indexS hg.ok rfl rfl rfl rfl rfl (Int.natCast_nonneg i) (b:=c) (by rw [Tx_get]; exact hc) ?_
 refine R_run hg.ok 1000 rfl rfl ?_
 refine R_call hg.ok (low_ok c) rfl rfl rfl rfl rfl rfl ?_
 refine R_run hg.ok 1000 rfl rfl ?_
 refine R_if rfl rfl (fun h1=>?_) (fun h1=>?_) <;> refine R_run hg.ok 1000 rfl rfl ?_
 ·have hr:=hrun folC
  have hcall:=run_walk Y 138 folC follows_ok L i i (by omega) hL
  generalize hto:runB folC L i=to at hr hcall
  refine R_callSO hg.ok hg.gup hg.wide hg.Y [0] (cutO L i++[zTk]) hcall (fun _=>rfl) rfl rfl rfl rfl rfl rfl rfl rfl ?_
  refine R_run hg.ok 1000 rfl rfl ?_
  refine R_call hg.ok (low_ok c) rfl rfl rfl rfl rfl rfl ?_
  refine R_run hg.ok 1000 rfl rfl ?_
  refine R_if rfl rfl (fun _=>?_) (fun h=>absurd h (by simp [h1])) <;> refine R_run hg.ok 1000 rfl rfl ?_
  refine R_sliceS hg.ok rfl rfl rfl (l:=(i:Int)) (h:=(to:Int)) rfl rfl rfl (Int.natCast_nonneg i) (by omega) (by rw [Tx_size]; omega) ?_
  rw [Tx_cut,show (L.drop ((i:Int)).toNat).take (((to:Int)).toNat - ((i:Int)).toNat)=cutB L i to from rfl]
  refine R_run hg.ok 1000 rfl rfl ?_
  refine R_callSO hg.ok hg.gup hg.wide hg.Y [0] (cutO L i++[zTk]) (named_walk Y L i 1 (cutB L i to) to (by omega) hL (by omega)) (fun _=>rfl) rfl rfl rfl rfl rfl rfl rfl rfl ?_
  refine R_run hg.ok 1000 rfl rfl ?_
  refine R_storeJ hg.ok rfl rfl rfl rfl rfl rfl rfl rfl rfl ?_
  refine R_run hg.ok 1000 rfl rfl ?_
  rw [← fin (t:=⟨1,(cutB L i to),0,i,opnB L to⟩) (to:=to) (b:=namB (cutB L i to)) (by unfold nextR; rw [if_pos h1,hto]; rfl)]
  exact R_retS hg 1 5 (Nat.le_refl _) rfl rfl rfl
 refine R_call hg.ok (great_ok c) rfl rfl rfl rfl rfl rfl ?_
 refine R_run hg.ok 1000 rfl rfl ?_
 refine R_if rfl rfl (fun h2=>?_) (fun h2=>?_) <;> refine R_run hg.ok 1000 rfl rfl ?_
 ·have hr:=hrun folC
  have hcall:=run_walk Y 138 folC follows_ok L i i (by omega) hL
  generalize hto:runB folC L i=to at hr hcall
  refine R_callSO hg.ok hg.gup hg.wide hg.Y [0] (cutO L i++[zTk]) hcall (fun _=>rfl) rfl rfl rfl rfl rfl rfl rfl rfl ?_
  refine R_run hg.ok 1000 rfl rfl ?_
  refine R_call hg.ok (low_ok c) rfl rfl rfl rfl rfl rfl ?_
  refine R_run hg.ok 1000 rfl rfl ?_
  refine R_if rfl rfl (fun h=>absurd h (by simp [h1])) (fun _=>?_) <;> refine R_run hg.ok 1000 rfl rfl ?_
  refine R_sliceS hg.ok rfl rfl rfl (l:=(i:Int)) (h:=(to:Int)) rfl rfl rfl (Int.natCast_nonneg i) (by omega) (by rw [Tx_size]; omega) ?_
  rw [Tx_cut,show (L.drop ((i:Int)).toNat).take (((to:Int)).toNat - ((i:Int)).toNat)=cutB L i to from rfl]
  refine R_run hg.ok 1000 rfl rfl ?_
  refine R_callSO hg.ok hg.gup hg.wide hg.Y [0] (cutO L i++[zTk]) (named_walk Y L i 2 (cutB L i to) to (by omega) hL (by omega)) (fun _=>rfl) rfl rfl rfl rfl rfl rfl rfl rfl ?_
  refine R_run hg.ok 1000 rfl rfl ?_
  refine R_storeJ hg.ok rfl rfl rfl rfl rfl rfl rfl rfl rfl ?_
  refine R_run hg.ok 1000 rfl rfl ?_
  rw [← fin (t:=⟨2,(cutB L i to),0,i,opnB L to⟩) (to:=to) (b:=namB (cutB L i to)) (by unfold nextR; rw [if_neg (by rw [h1]; simp),if_pos h2,hto]; rfl)]
  exact R_retS hg 1 5 (Nat.le_refl _) rfl rfl rfl
 have n1:¬ lowC c=true:=by rw [h1]; simp
 have n2:¬ grtC c=true:=by rw [h2]; simp
 refine R_call hg.ok (digit_ok c) rfl rfl rfl rfl rfl rfl ?_
 refine R_run hg.ok 1000 rfl rfl ?_
 refine R_if rfl rfl (fun h3=>?_) (fun h3=>?_) <;> refine R_run hg.ok 1000 rfl rfl ?_
 ·have hr:=hrun dgC
  have hcall:=run_walk Y 140 dgC digit_ok L i i (by omega) hL
  generalize hto:runB dgC L i=to at hr hcall
  refine R_callSO hg.ok hg.gup hg.wide hg.Y [0] (cutO L i++[zTk]) hcall (fun _=>rfl) rfl rfl rfl rfl rfl rfl rfl rfl ?_
  refine R_run hg.ok 1000 rfl rfl ?_
  have hall:=run_all (p:=dgC) (L:=L) (i:=i)
  rw [hto] at hall
  have hcl:=cutB_len (L:=L) hr.1 hr.2
  refine R_sliceS hg.ok rfl rfl rfl (l:=(i:Int)) (h:=(to:Int)) rfl rfl rfl (Int.natCast_nonneg i) (by omega) (by rw [Tx_size]; omega) ?_
  rw [Tx_cut,show (L.drop ((i:Int)).toNat).take (((to:Int)).toNat - ((i:Int)).toNat)=cutB L i to from rfl]
  refine R_run hg.ok 1000 rfl rfl ?_
  refine R_call hg.ok (number_ok (cutB L i to) hall (by omega)) rfl rfl rfl rfl rfl rfl ?_
  refine R_run hg.ok 1000 rfl rfl ?_
  refine R_sliceS hg.ok rfl rfl rfl (l:=(i:Int)) (h:=(to:Int)) rfl rfl rfl (Int.natCast_nonneg i) (by omega) (by rw [Tx_size]; omega) ?_
  rw [Tx_cut,show (L.drop ((i:Int)).toNat).take (((to:Int)).toNat - ((i:Int)).toNat)=cutB L i to from rfl]
  refine R_run hg.ok 1000 rfl rfl ?_
  refine R_storeJ hg.ok rfl rfl rfl rfl rfl rfl rfl rfl rfl ?_
  refine R_run hg.ok 1000 rfl rfl ?_
  rw [← fin (t:=⟨3,cutB L i to,(numP (cutB L i to)).1,i,false⟩) (to:=to) (b:=(numP (cutB L i to)).2) (by unfold nextR; rw [if_neg n1,if_neg n2,if_pos h3,hto])]
  exact R_retS hg 1 5 (Nat.le_refl _) rfl rfl rfl
 have n3:¬ dgC c=true:=by rw [h3]; simp
 refine R_if rfl rfl (fun h4=>?_) (fun h4=>?_) <;> refine R_run hg.ok 1000 rfl rfl ?_
 ·have h4:c.toNat=39:=by simp at h4; omega
  have hq:=quoted_walk Y L i hi hL
  have hqle:(quoR L i).2.1≤L.length:=by
   unfold quoR
   cases hqq:quo (L.drop (i+1)) with
   | none=>simp
   | some x=>have:=quo_len _ _ (Nat.le_refl _) x.1 x.2 hqq; rw [List.length_drop] at this; simp only; omega
  have hn:nextR L i c=(⟨1,(quoR L i).1,0,i,opnB L (quoR L i).2.1⟩,(quoR L i).2.1,(quoR L i).2.2&&namB (quoR L i).1):=by
   unfold nextR; rw [if_neg n1,if_neg n2,if_neg n3,if_pos h4]; rfl
  generalize quoR L i=q at hq hqle hn
  obtain ⟨text,to,ok⟩:=q
  simp only at hqle hn
  refine R_callSO hg.ok hg.gup hg.wide hg.Y [0] (cutO L i++[zTk]) hq (fun _=>rfl) rfl rfl rfl rfl rfl rfl rfl rfl ?_
  refine R_run hg.ok 1000 rfl rfl ?_
  refine R_callSO hg.ok hg.gup hg.wide hg.Y [0] (cutO L i++[zTk]) (named_walk Y L i 1 text to hqle hL (by omega)) (fun _=>rfl) rfl rfl rfl rfl rfl rfl rfl rfl ?_
  refine R_run hg.ok 1000 rfl rfl ?_
  refine R_if rfl rfl (fun h5=>?_) (fun h5=>?_) <;> refine R_run hg.ok 1000 rfl rfl ?_
  ·have h5:ok=true:=h5
   refine R_storeJ hg.ok rfl rfl rfl rfl rfl rfl rfl rfl rfl ?_
   refine R_run hg.ok 1000 rfl rfl ?_
   rw [← fin (t:=⟨1,text,0,i,opnB L to⟩) (to:=to) (b:=namB text) (by rw [hn,h5]; simp)]
   exact R_retS hg 1 5 (Nat.le_refl _) rfl rfl rfl
  ·have h5:ok=false:=h5
   refine R_storeJ hg.ok rfl rfl rfl rfl rfl rfl rfl rfl rfl ?_
   refine R_run hg.ok 1000 rfl rfl ?_
   rw [← fin (t:=⟨1,text,0,i,opnB L to⟩) (to:=to) (b:=false) (by rw [hn,h5]; simp)]
   exact R_retS hg 1 5 (Nat.le_refl _) rfl rfl rfl
 have n4:¬ c.toNat=39:=by simp at h4; omega
 by_cases h5:c.toNat=91∧(L[i+1]?.map UInt8.toNat)=some 93
 ·obtain ⟨d,hd,hd93⟩:∃ d,L[i+1]? = some d∧d.toNat=93:=by
   have:=h5.2
   cases hx:L[i+1]? with
   | none=>rw [hx] at this; simp at this
   | some d=>rw [hx] at this; exact ⟨d,rfl,by simpa using this⟩
  have hi1:=(List.getElem?_eq_some_iff.1 hd).1
  refine R_if rfl rfl (fun _=>?_) (fun h=>absurd h (by simp; omega)) <;> refine R_run hg.ok 1000 rfl rfl ?_
  rw [w64 (n:=(i:Int)+1) (by omega) (by omega),show (i:Int)+1=((i+1:Nat):Int) by omega]
  refine R_if rfl rfl (fun _=>?_) (fun h=>absurd h (by simp [Tx_size]; omega)) <;> refine R_run hg.ok 1000 rfl rfl ?_
  rw [w64 (n:=(i:Int)+1) (by omega) (by omega),show (i:Int)+1=((i+1:Nat):Int) by omega]
  refine R_indexS hg.ok rfl rfl rfl rfl rfl (Int.natCast_nonneg (i+1)) (b:=d) (by rw [Tx_get]; exact hd) ?_
  refine R_run hg.ok 1000 rfl rfl ?_
  refine R_if rfl rfl (fun _=>?_) (fun h=>absurd h (by simp; omega)) <;> refine R_run hg.ok 1000 rfl rfl ?_
  rw [w64 (n:=(i:Int)+2) (by omega) (by omega),show (i:Int)+2=((i+2:Nat):Int) by omega]
  refine R_callSO hg.ok hg.gup hg.wide hg.Y [0] (cutO L i++[zTk]) (named_walk Y L i 1 [91,93] (i+2) (by omega) hL (by omega)) (fun _=>rfl) rfl rfl rfl rfl rfl rfl rfl rfl ?_
  refine R_run hg.ok 1000 rfl rfl ?_
  refine R_storeJ hg.ok rfl rfl rfl rfl rfl rfl rfl rfl rfl ?_
  refine R_run hg.ok 1000 rfl rfl ?_
  rw [← fin (t:=⟨1,[91,93],0,i,opnB L (i+2)⟩) (to:=i+2) (b:=namB [91,93]) (by unfold nextR; rw [if_neg n1,if_neg n2,if_neg n3,if_neg n4,if_pos h5]; rfl)]
  exact R_retS hg 1 5 (Nat.le_refl _) rfl rfl rfl
 have n5:=h5
 refine R_if rfl rfl (fun h6=>?_) (fun h6=>?_) <;> refine R_run hg.ok 1000 rfl rfl ?_
 ·have h6:c.toNat=91:=by simp at h6; omega
  have tail:mrkC c=true:=by have e:c=91:=UInt8.toNat_inj.1 h6; rw [e]; decide
  rw [w64 (n:=(i:Int)+1) (by omega) (by omega),show (i:Int)+1=((i+1:Nat):Int) by omega]
  refine R_if rfl rfl (fun h7=>?_) (fun h7=>?_) <;> refine R_run hg.ok 1000 rfl rfl ?_
  ·have hi1:i+1<L.length:=lt_dec h7 (by rw [Tx_size])
   rw [w64 (n:=(i:Int)+1) (by omega) (by omega),show (i:Int)+1=((i+1:Nat):Int) by omega]
   refine R_indexS hg.ok rfl rfl rfl rfl rfl (Int.natCast_nonneg (i+1)) (b:=L[i+1]) (by rw [Tx_get]; exact List.getElem?_eq_getElem hi1) ?_
   refine R_run hg.ok 1000 rfl rfl ?_
   refine R_if rfl rfl (fun h=>absurd h (by have h9:¬ L[i+1].toNat=93:=fun g=>n5 ⟨h6,by rw [List.getElem?_eq_getElem hi1]; simpa using g⟩; simp; omega)) (fun _=>?_) <;> refine R_run hg.ok 1000 rfl rfl ?_
   refine R_if rfl rfl (fun h=>absurd h (by simp; omega)) (fun _=>?_) <;> refine R_run hg.ok 1000 rfl rfl ?_
   refine R_if rfl rfl (fun h=>absurd h (by simp; omega)) (fun _=>?_) <;> refine R_run hg.ok 1000 rfl rfl ?_
   refine R_call hg.ok (among_ok mrkL (by decide) c) rfl rfl rfl rfl rfl rfl ?_
   refine R_run hg.ok 1000 rfl rfl ?_
   refine R_if rfl rfl (fun _=>?_) (fun h=>absurd h (by rw [show mrkL.contains c=true from tail]; simp)) <;> refine R_run hg.ok 1000 rfl rfl ?_
   refine R_convB hg.ok (Tx [c]) rfl rfl rfl rfl rfl (enc_ascii (by omega)) ?_
   refine R_run hg.ok 1000 rfl rfl ?_
   refine R_loadJ hg.ok 101 (by simp [mayO,len]) rfl rfl rfl rfl rfl rfl rfl ?_
   refine R_run hg.ok 1000 rfl rfl ?_
   rw [w64 (n:=(i:Int)+1) (by omega) (by omega),show (i:Int)+1=((i+1:Nat):Int) by omega]
   refine R_storeJ hg.ok rfl rfl rfl rfl rfl rfl rfl rfl rfl ?_
   refine R_run hg.ok 1000 rfl rfl ?_
   rw [← fin (t:=⟨4,[c],0,i,false⟩) (to:=i+1) (b:=true) (by unfold nextR; rw [if_neg n1,if_neg n2,if_neg n3,if_neg n4,if_neg n5,if_neg (by omega),if_pos tail])]
   exact R_retS hg 1 5 (Nat.le_refl _) rfl rfl rfl
  ·have:=h7
   refine R_if rfl rfl (fun h=>absurd h (by simp; omega)) (fun _=>?_) <;> refine R_run hg.ok 1000 rfl rfl ?_
   refine R_if rfl rfl (fun h=>absurd h (by simp; omega)) (fun _=>?_) <;> refine R_run hg.ok 1000 rfl rfl ?_
   refine R_call hg.ok (among_ok mrkL (by decide) c) rfl rfl rfl rfl rfl rfl ?_
   refine R_run hg.ok 1000 rfl rfl ?_
   refine R_if rfl rfl (fun _=>?_) (fun h=>absurd h (by rw [show mrkL.contains c=true from tail]; simp)) <;> refine R_run hg.ok 1000 rfl rfl ?_
   refine R_convB hg.ok (Tx [c]) rfl rfl rfl rfl rfl (enc_ascii (by omega)) ?_
   refine R_run hg.ok 1000 rfl rfl ?_
   refine R_loadJ hg.ok 101 (by simp [mayO,len]) rfl rfl rfl rfl rfl rfl rfl ?_
   refine R_run hg.ok 1000 rfl rfl ?_
   rw [w64 (n:=(i:Int)+1) (by omega) (by omega),show (i:Int)+1=((i+1:Nat):Int) by omega]
   refine R_storeJ hg.ok rfl rfl rfl rfl rfl rfl rfl rfl rfl ?_
   refine R_run hg.ok 1000 rfl rfl ?_
   rw [← fin (t:=⟨4,[c],0,i,false⟩) (to:=i+1) (b:=true) (by unfold nextR; rw [if_neg n1,if_neg n2,if_neg n3,if_neg n4,if_neg n5,if_neg (by omega),if_pos tail])]
   exact R_retS hg 1 5 (Nat.le_refl _) rfl rfl rfl
 refine R_if rfl rfl (fun h8=>?_) (fun h8=>?_) <;> refine R_run hg.ok 1000 rfl rfl ?_
 ·have h8:c.toNat=33:=by simp at h8; omega
  refine R_convB hg.ok (Tx [c]) rfl rfl rfl rfl rfl (enc_ascii (by omega)) ?_
  refine R_run hg.ok 1000 rfl rfl ?_
  rw [w64 (n:=(i:Int)+1) (by omega) (by omega),show (i:Int)+1=((i+1:Nat):Int) by omega]
  refine R_callSO hg.ok hg.gup hg.wide hg.Y [0] (cutO L i++[zTk]) (named_walk Y L i 1 [c] (i+1) (by omega) hL (by omega)) (fun _=>rfl) rfl rfl rfl rfl rfl rfl rfl rfl ?_
  refine R_run hg.ok 1000 rfl rfl ?_
  refine R_storeJ hg.ok rfl rfl rfl rfl rfl rfl rfl rfl rfl ?_
  refine R_run hg.ok 1000 rfl rfl ?_
  rw [← fin (t:=⟨1,[c],0,i,opnB L (i+1)⟩) (to:=i+1) (b:=namB [c]) (by unfold nextR; rw [if_neg n1,if_neg n2,if_neg n3,if_neg n4,if_neg n5,if_pos (.inl h8)]; rfl)]
  exact R_retS hg 1 5 (Nat.le_refl _) rfl rfl rfl
 refine R_if rfl rfl (fun h9=>?_) (fun h9=>?_) <;> refine R_run hg.ok 1000 rfl rfl ?_
 ·have h9:c.toNat=59:=by simp at h9; omega
  refine R_convB hg.ok (Tx [c]) rfl rfl rfl rfl rfl (enc_ascii (by omega)) ?_
  refine R_run hg.ok 1000 rfl rfl ?_
  rw [w64 (n:=(i:Int)+1) (by omega) (by omega),show (i:Int)+1=((i+1:Nat):Int) by omega]
  refine R_callSO hg.ok hg.gup hg.wide hg.Y [0] (cutO L i++[zTk]) (named_walk Y L i 1 [c] (i+1) (by omega) hL (by omega)) (fun _=>rfl) rfl rfl rfl rfl rfl rfl rfl rfl ?_
  refine R_run hg.ok 1000 rfl rfl ?_
  refine R_storeJ hg.ok rfl rfl rfl rfl rfl rfl rfl rfl rfl ?_
  refine R_run hg.ok 1000 rfl rfl ?_
  rw [← fin (t:=⟨1,[c],0,i,opnB L (i+1)⟩) (to:=i+1) (b:=namB [c]) (by unfold nextR; rw [if_neg n1,if_neg n2,if_neg n3,if_neg n4,if_neg n5,if_pos (.inr h9)]; rfl)]
  exact R_retS hg 1 5 (Nat.le_refl _) rfl rfl rfl
 have n6:¬ (c.toNat=33∨c.toNat=59):=by simp at h8 h9; omega
 by_cases tail:mrkC c=true
 ·have h128:c.toNat<128:=by
   have:=byte_all (p:=fun c=>!mrkC c || decide (c.toNat<128)) (by decide +kernel) c
   simpa [tail] using this
  refine R_call hg.ok (among_ok mrkL (by decide) c) rfl rfl rfl rfl rfl rfl ?_
  refine R_run hg.ok 1000 rfl rfl ?_
  refine R_if rfl rfl (fun _=>?_) (fun h=>absurd h (by rw [show mrkL.contains c=true from tail]; simp)) <;> refine R_run hg.ok 1000 rfl rfl ?_
  refine R_convB hg.ok (Tx [c]) rfl rfl rfl rfl rfl (enc_ascii (h128)) ?_
  refine R_run hg.ok 1000 rfl rfl ?_
  refine R_loadJ hg.ok 101 (by simp [mayO,len]) rfl rfl rfl rfl rfl rfl rfl ?_
  refine R_run hg.ok 1000 rfl rfl ?_
  rw [w64 (n:=(i:Int)+1) (by omega) (by omega),show (i:Int)+1=((i+1:Nat):Int) by omega]
  refine R_storeJ hg.ok rfl rfl rfl rfl rfl rfl rfl rfl rfl ?_
  refine R_run hg.ok 1000 rfl rfl ?_
  rw [← fin (t:=⟨4,[c],0,i,false⟩) (to:=i+1) (b:=true) (by unfold nextR; rw [if_neg n1,if_neg n2,if_neg n3,if_neg n4,if_neg n5,if_neg (by omega),if_pos tail])]
  exact R_retS hg 1 5 (Nat.le_refl _) rfl rfl rfl
 have n7:=tail
 refine R_call hg.ok (among_ok mrkL (by decide) c) rfl rfl rfl rfl rfl rfl ?_
 refine R_run hg.ok 1000 rfl rfl ?_
 refine R_if rfl rfl (fun h=>absurd h (by rw [show mrkL.contains c=false from by simpa [mrkC] using n7]; simp)) (fun _=>?_) <;> refine R_run hg.ok 1000 rfl rfl ?_
 have hr:=hrun sgnC
 have hcall:=run_walk Y 144 sgnC sign1_ok L i i (by omega) hL
 generalize hto:runB sgnC L i=to at hr hcall
 refine R_callSO hg.ok hg.gup hg.wide hg.Y [0] (cutO L i++[zTk]) hcall (fun _=>rfl) rfl rfl rfl rfl rfl rfl rfl rfl ?_
 refine R_run hg.ok 1000 rfl rfl ?_
 refine R_sliceS hg.ok rfl rfl rfl (l:=(i:Int)) (h:=(to:Int)) rfl rfl rfl (Int.natCast_nonneg i) (by omega) (by rw [Tx_size]; omega) ?_
 rw [Tx_cut,show (L.drop ((i:Int)).toNat).take (((to:Int)).toNat - ((i:Int)).toNat)=cutB L i to from rfl]
 refine R_run hg.ok 1000 rfl rfl ?_
 have hlen:=cutB_len (L:=L) hr.1 hr.2
 have hcut:(cutB L i to==[46])=true↔to=i+1∧c.toNat=46:=by
  rw [beq_iff_eq]
  have hd:L.drop i=c::L.drop (i+1):=by rw [List.drop_eq_getElem_cons hi,(List.getElem?_eq_some_iff.1 hc).2]
  constructor
  ·intro h
   rw [h] at hlen
   have e:to=i+1:=by simp only [List.length_singleton] at hlen; omega
   rw [e,cutB,hd,Nat.add_sub_cancel_left] at h
   simp only [List.take_succ_cons,List.take_zero,List.cons.injEq,and_true] at h
   exact ⟨e,by rw [h]; rfl⟩
  ·rintro ⟨e,h⟩
   have h:c=46:=UInt8.toNat_inj.1 h
   rw [e,cutB,hd,Nat.add_sub_cancel_left,h]; rfl
 have hdot:strEq (Tx (cutB L i to)) ⟨#[46]⟩=(cutB L i to==[46]):=Tx_eq _ _
 by_cases hE:to=i+1∧c.toNat=46
 ·have hb:=hcut.2 hE
  refine R_if rfl rfl (fun _=>?_) (fun h=>absurd h (by rw [hdot.trans hb]; simp)) <;> refine R_run hg.ok 1000 rfl rfl ?_
  obtain ⟨rfl,h46⟩:=hE
  have hE:i+1=i+1∧c.toNat=46:=⟨rfl,h46⟩
  refine R_if rfl rfl (fun h10=>?_) (fun h10=>?_) <;> refine R_run hg.ok 1000 rfl rfl ?_
  ·have h10:L.length=i+1:=by simp [Tx_size] at h10; omega
   have ea:endAft L (i+1)=true:=by unfold endAft; rw [List.getElem?_eq_none (by omega)]
   refine R_storeJ hg.ok rfl rfl rfl rfl rfl rfl rfl rfl rfl ?_
   refine R_run hg.ok 1000 rfl rfl ?_
   rw [← fin (t:=⟨5,[46],0,i,false⟩) (to:=i+1) (b:=true) (by unfold nextR; rw [if_neg n1,if_neg n2,if_neg n3,if_neg n4,if_neg n5,if_neg n6,if_neg n7,if_pos ⟨by rw [hto],hE.2,ea⟩])]
   exact R_retS hg 1 5 (Nat.le_refl _) rfl rfl rfl
  ·have h10:i+1<L.length:=by simp [Tx_size] at h10; omega
   have e1:L[i+1]? = some L[i+1]:=List.getElem?_eq_getElem h10
   have ea:endAft L (i+1)=(blkC L[i+1] || decide (L[i+1].toNat=37)):=by unfold endAft; rw [e1]
   generalize L[i+1]=d at e1 ea
   refine R_indexS hg.ok rfl rfl rfl rfl rfl (Int.natCast_nonneg (i+1)) (b:=d) (by rw [Tx_get]; exact e1) ?_
   refine R_run hg.ok 1000 rfl rfl ?_
   refine R_call hg.ok (blank_ok d) rfl rfl rfl rfl rfl rfl ?_
   refine R_run hg.ok 1000 rfl rfl ?_
   refine R_if rfl rfl (fun h11=>?_) (fun h11=>?_) <;> refine R_run hg.ok 1000 rfl rfl ?_
   ·refine R_storeJ hg.ok rfl rfl rfl rfl rfl rfl rfl rfl rfl ?_
    refine R_run hg.ok 1000 rfl rfl ?_
    rw [← fin (t:=⟨5,[46],0,i,false⟩) (to:=i+1) (b:=true) (by unfold nextR; rw [if_neg n1,if_neg n2,if_neg n3,if_neg n4,if_neg n5,if_neg n6,if_neg n7,if_pos ⟨by rw [hto],hE.2,by rw [ea,h11]; simp⟩])]
    exact R_retS hg 1 5 (Nat.le_refl _) rfl rfl rfl
   ·refine R_indexS hg.ok rfl rfl rfl rfl rfl (Int.natCast_nonneg (i+1)) (b:=d) (by rw [Tx_get]; exact e1) ?_
    refine R_run hg.ok 1000 rfl rfl ?_
    refine R_if rfl rfl (fun h12=>?_) (fun h12=>?_) <;> refine R_run hg.ok 1000 rfl rfl ?_
    ·have h12:d.toNat=37:=by simp at h12; omega
     refine R_storeJ hg.ok rfl rfl rfl rfl rfl rfl rfl rfl rfl ?_
     refine R_run hg.ok 1000 rfl rfl ?_
     rw [← fin (t:=⟨5,[46],0,i,false⟩) (to:=i+1) (b:=true) (by unfold nextR; rw [if_neg n1,if_neg n2,if_neg n3,if_neg n4,if_neg n5,if_neg n6,if_neg n7,if_pos ⟨by rw [hto],hE.2,by rw [ea,h12]; simp⟩])]
     exact R_retS hg 1 5 (Nat.le_refl _) rfl rfl rfl
    ·have h12:¬ d.toNat=37:=by simp at h12; omega
     have hno:endAft L (i+1)=false:=by rw [ea,h11]; simp [h12]
     refine R_sliceS hg.ok rfl rfl rfl (l:=(i:Int)) (h:=((i+1:Nat):Int)) rfl rfl rfl (Int.natCast_nonneg i) (by omega) (by rw [Tx_size]; omega) ?_
     rw [Tx_cut,show (L.drop ((i:Int)).toNat).take ((((i+1:Nat):Int)).toNat - ((i:Int)).toNat)=cutB L i (i+1) from rfl]
     refine R_run hg.ok 1000 rfl rfl ?_
     refine R_callSO hg.ok hg.gup hg.wide hg.Y [0] (cutO L i++[zTk]) (named_walk Y L i 1 (cutB L i (i+1)) (i+1) (by omega) hL (by omega)) (fun _=>rfl) rfl rfl rfl rfl rfl rfl rfl rfl ?_
     refine R_run hg.ok 1000 rfl rfl ?_
     refine R_storeJ hg.ok rfl rfl rfl rfl rfl rfl rfl rfl rfl ?_
     refine R_run hg.ok 1000 rfl rfl ?_
     rw [← fin (t:=⟨1,cutB L i (i+1),0,i,opnB L (i+1)⟩) (to:=i+1) (b:=namB (cutB L i (i+1))) (by unfold nextR; rw [if_neg n1,if_neg n2,if_neg n3,if_neg n4,if_neg n5,if_neg n6,if_neg n7,if_neg (by rw [hto]; rintro ⟨_,_,h⟩; rw [hno] at h; cases h),hto]; rfl)]
     exact R_retS hg 1 5 (Nat.le_refl _) rfl rfl rfl
 ·have hb:(cutB L i to==[46])=false:=by
   rw [Bool.eq_false_iff]; exact fun h=>hE (hcut.1 h)
  refine R_if rfl rfl (fun h=>absurd h (by rw [hdot.trans hb]; simp)) (fun _=>?_) <;> refine R_run hg.ok 1000 rfl rfl ?_
  refine R_sliceS hg.ok rfl rfl rfl (l:=(i:Int)) (h:=(to:Int)) rfl rfl rfl (Int.natCast_nonneg i) (by omega) (by rw [Tx_size]; omega) ?_
  rw [Tx_cut,show (L.drop ((i:Int)).toNat).take (((to:Int)).toNat - ((i:Int)).toNat)=cutB L i to from rfl]
  refine R_run hg.ok 1000 rfl rfl ?_
  refine R_callSO hg.ok hg.gup hg.wide hg.Y [0] (cutO L i++[zTk]) (named_walk Y L i 1 (cutB L i to) to (by omega) hL (by omega)) (fun _=>rfl) rfl rfl rfl rfl rfl rfl rfl rfl ?_
  refine R_run hg.ok 1000 rfl rfl ?_
  refine R_storeJ hg.ok rfl rfl rfl rfl rfl rfl rfl rfl rfl ?_
  refine R_run hg.ok 1000 rfl rfl ?_
  rw [← fin (t:=⟨1,cutB L i to,0,i,opnB L to⟩) (to:=to) (b:=namB (cutB L i to)) (by unfold nextR; rw [if_neg n1,if_neg n2,if_neg n3,if_neg n4,if_neg n5,if_neg n6,if_neg n7,if_neg (by rw [hto]; rintro ⟨h,h2,_⟩; exact hE ⟨h,h2⟩),hto]; rfl)]
  exact R_retS hg 1 5 (Nat.le_refl _) rfl rfl rfl
end Go.Proofs.YtcgkgofmldhokaaGreat

namespace Go.Proofs.YtcgkgofmldhokaaGreat
open Go PSL Go.Proofs

theorem one_next {L:Bs} {i:Nat} {c:UInt8} (hc:L[i]? = some c):oneT L i=if (nextR L i c).2.2=true then some ((nextR L i c).1,(nextR L i c).2.1) else none:=by
 have nm:∀ (kind:Int) (text:Bs) (to:Nat),nameT L kind text i to=if (namR L kind text i to).2.2=true then some ((namR L kind text i to).1,(namR L kind text i to).2.1) else none:=fun kind text to=>by simp [nameT,namR,namB]
 unfold oneT nextR
 rw [hc]
 simp only
 split
 ·exact nm _ _ _
 split
 ·exact nm _ _ _
 split
 ·unfold numP
  cases numT (cutB L i (runB dgC L i)) with
  | none=>rfl
  | some n=>rfl
 split
 ·unfold quoR
  cases quo (L.drop (i+1)) with
  | none=>rfl
  | some x=>obtain ⟨t,k⟩:=x; simp [nameT,namR,namB]
 split
 ·exact nm _ _ _
 split
 ·exact nm _ _ _
 split
 ·rfl
 split
 ·rfl
 ·exact nm _ _ _

def preE (out:List Tk):Except Nat (List Tk)→Except Nat (List Tk)
 | .ok l=>.ok (out++l)
 | .error j=>.error j

def toksP (f:Nat) (L:Bs) (i:Nat):Except Nat (List Tk):=if i<L.length then (match oneT L i with
   | none=>.error i
   | some (t,to)=>match toks f L to with
    | .ok l=>.ok (t::l)
    | .error j=>.error j) else .ok []
theorem toks_P (f:Nat) (L:Bs) (i:Nat):toks (f+1) L i=toksP f L (passN L i):=rfl

theorem preE_snoc (out:List Tk) (t:Tk) (e:Except Nat (List Tk)):preE (out++[t]) e=preE out (match e with
    | .ok l=>.ok (t::l)
    | .error j=>.error j):=by
 cases e with
 | ok l=>simp [preE]
 | error j=>rfl
def tkRows (l:List Tk):List (List D):=l.map tkD
theorem tkRows_len (l:List Tk):(tkRows l).length=l.length:=by simp [tkRows]
def tokR (L:Bs):AV:=.tup [.d (.sl (tkRows (tokT L).1)),iV (tokT L).2.1,iV (tokT L).2.2]

theorem tokR_ok {L:Bs} {l:List Tk} (hL:¬ 8000<L.length) (h:toks (L.length+1) L 0=.ok l):tokR L=.tup [.d (.sl (tkRows l)),iV 0,iV 0]:=by
 unfold tokR tokT; rw [if_neg hL,h]

theorem tokR_bad {L:Bs} {j:Nat} (hL:¬ 8000<L.length) (h:toks (L.length+1) L 0=.error j):tokR L=.tup [.d (.sl []),iV j,iV 2]:=by
 unfold tokR tokT; rw [if_neg hL,h]; rfl

set_option maxRecDepth 100000 in
theorem tokens_ok (L:Bs) (hL:L.length≤9000):PCtr Tryz.prog 93 [txA L] (tokR L):=by
 refine PCtr.of_R (pf:=fun _=>.eff) tyOk mixed Tryz.func93 rfl (by kernel_rfl) (by kernel_rfl) (by simp [Tryz.ntmps93]) fun w S hg=>?_
 refine R_run hg.ok 1000 rfl rfl ?_
 refine R_if rfl rfl (fun h=>?_) (fun h=>?_)
 ·refine R_run hg.ok 1000 rfl rfl ?_
  have h:8000<L.length:=by have:=of_decide_eq_true h; rw [Tx_size] at this; omega
  refine R_ret hg 5 rfl rfl ?_
  unfold tokR tokT
  rw [if_pos h]; rfl
 have hbig:¬ 8000<L.length:=by have:=of_decide_eq_false h; rw [Tx_size] at this; omega
 have hpass:=fun i=>pass_walk ⟨[],fun _=>true⟩ L i
 first
 | (refine R_run hg.ok 5 rfl rfl ?_; refine R_own 6 5 rfl rfl ?_)
 | (refine R_run hg.ok 6 rfl rfl ?_; refine R_own 6 5 rfl rfl ?_)
 | (refine R_run hg.ok 7 rfl rfl ?_; refine R_own 6 5 rfl rfl ?_)
 | (refine R_run hg.ok 8 rfl rfl ?_; refine R_own 6 5 rfl rfl ?_)
 | (refine R_run hg.ok 9 rfl rfl ?_; refine R_own 6 5 rfl rfl ?_)
 | (refine R_run hg.ok 10 rfl rfl ?_; refine R_own 6 5 rfl rfl ?_)
 | (refine R_run hg.ok 11 rfl rfl ?_; refine R_own 6 5 rfl rfl ?_)
 | (refine R_run hg.ok 12 rfl rfl ?_; refine R_own 6 5 rfl rfl ?_)
 | (refine R_run hg.ok 13 rfl rfl ?_; refine R_own 6 5 rfl rfl ?_)
 refine R_run hg.ok 1000 rfl rfl ?_
 refine R_callSO hg.ok hg.gup ⟨rfl,rfl⟩ (fun _ _ _ _ h=>by cases h) [0] (cutO L (passN L 0)++[.arr 5 0 []]) (hpass 0 (by omega) hL) (fun _=>rfl) rfl rfl rfl rfl rfl rfl rfl rfl ?_
 refine R_run hg.ok 1000 rfl rfl ?_
 have h0:toks (L.length+1) L 0=preE [] (toksP L.length L (passN L 0)):=by
  rw [toks_P]; cases toksP L.length L (passN L 0) <;> rfl
 refine R_loop (fun x:Nat × Nat × List Tk=>([(0,txA L),(5,.lo 0 0),(6,.ow 1 x.2.2.length)],cutO L x.2.1++[.arr 5 x.2.2.length (tkRows x.2.2)])) (fun x=>x.2.1≤L.length∧L.length - x.2.1≤x.1∧x.2.2.length≤x.2.1∧toks (L.length+1) L 0=preE x.2.2 (toksP x.1 L x.2.1)) (fun x=>L.length - x.2.1) (L.length,passN L 0,[]) ⟨(pass_le (by omega)).2,by simp only; omega,Nat.zero_le _,h0⟩ ⟨.refl _,.refl _,.refl _,trivial⟩ rfl ?_
 rintro ⟨f,i,out⟩ ⟨hi,hf,ho,hm⟩
 simp only at hi hf ho hm
 refine R_run hg.ok 1000 rfl rfl ?_
 refine R_if rfl rfl (fun h1=>?_) (fun h1=>?_) <;> refine R_run hg.ok 1000 rfl rfl ?_
 ·have h1:i<L.length:=lt_dec h1 (by rw [Tx_size])
  have hc:L[i]? = some L[i]:=List.getElem?_eq_getElem h1
  have hone:=one_next hc
  have hn:=next_walk ⟨[],fun _=>true⟩ L i L[i] hc hL
  have hP:toksP f L i=match oneT L i with
   | none=>.error i
   | some (t,to)=>match toks f L to with
    | .ok l=>.ok (t::l)
    | .error j=>.error j:=by unfold toksP; rw [if_pos h1]
  generalize nextR L i L[i]=q at hone hn
  obtain ⟨t,to,ok⟩:=q
  simp only at hone
  refine R_callSO hg.ok hg.gup ⟨rfl,rfl⟩ (fun _ _ _ _ h=>by cases h) [0] (cutO L i++[.arr 5 out.length (tkRows out)]) hn (fun _=>rfl) rfl rfl rfl rfl rfl rfl rfl rfl ?_
  refine R_run hg.ok 1000 rfl rfl ?_
  refine R_if rfl rfl (fun h2=>?_) (fun h2=>?_) <;> refine R_run hg.ok 1000 rfl rfl ?_
  ·have h2:ok=false:=by simpa using h2
   rw [h2,if_neg (by simp)] at hone
   rw [hone] at hP
   refine R_ret hg 5 rfl rfl ?_
   rw [tokR_bad hbig (j:=i) (by rw [hm,hP]; rfl)]
   rfl
  ·have h2:ok=true:=by simpa using h2
   rw [h2,if_pos rfl] at hone
   rw [hone] at hP
   have hto:=oneT_to hone
   simp only at hP
   have hf1:f=(f - 1)+1:=by omega
   rw [hf1,toks_P] at hP
   have hps:=pass_le (L:=L) (i:=to) hto.2
   refine R_appendO hg.ok (tkRows (out++[t])) rfl rfl rfl rfl rfl rfl rfl rfl rfl (by simp) (by simp [one1]) (by simp [tkRows,tkD]) (by rw [tkRows_len]; simp; omega) (by rw [tkRows_len]; simp; omega) ?_
   refine R_run hg.ok 1000 rfl rfl ?_
   refine R_callSO hg.ok hg.gup ⟨rfl,rfl⟩ (fun _ _ _ _ h=>by cases h) [0] (cutO L (passN L to)++[.arr 5 (out.length+1) (tkRows (out++[t])),.box [.d (.v (.int .i64 t.kind)),.d (.v (.string (Tx t.text))),.d (.v (.int .i64 t.n)),.d (.v (.int .i64 t.at_)),.d (.v (.bool t.opn))]]) (hpass to hto.2 hL) (fun _=>rfl) rfl rfl rfl rfl rfl rfl rfl rfl ?_
   refine R_run hg.ok 1000 rfl rfl ?_
   refine R_dropO 2 (cutO L (passN L to)++[.arr 5 (out.length+1) (tkRows (out++[t]))]) (Nat.zero_le _) rfl rfl ?_
   refine R_next (f - 1,passN L to,out++[t]) ⟨hps.2,by simp only; omega,by simp; omega,?_⟩ (by simp only; omega) ⟨.refl _,.refl _,by simp only [List.length_append,List.length_singleton]; exact .refl _,trivial⟩ (by simp only [List.length_append,List.length_singleton])
   simp only
   rw [hm,preE_snoc,← hP,← hf1]
 ·have h1:L.length≤i:=ge_dec h1 (by rw [Tx_size])
  refine R_ret hg 5 rfl (sealA_tup (mapO_cons (sealA_ow rfl) rfl)) ?_
  rw [tokR_ok hbig (l:=out) (by rw [hm]; unfold toksP; rw [if_neg (by omega)]; simp [preE])]
  rfl
end Go.Proofs.YtcgkgofmldhokaaGreat

namespace Go.Proofs.YtcgkgofmldhokaaGreat
open Go PSL Go.Proofs
def strRows (l:List Bs):List (List D):=l.map fun s=>[.v (.string (Tx s))]
theorem strRows_len (l:List Bs):(strRows l).length=l.length:=by simp [strRows]
theorem strRows_get {l:List Bs} {i:Nat} {s:Bs} (h:l[i]? = some s):(strRows l)[i]? = some [.v (.string (Tx s))]:=by simp [strRows,h]
theorem strRows_snoc (l:List Bs) (s:Bs):strRows l++[[.v (.string (Tx s))]]=strRows (l++[s]):=by simp [strRows]

def opV (x:Int × Int × Int):Value:=.agg #[.int .i64 x.1,.int .i64 x.2.1,.int .i64 x.2.2]
def tabD:List (Value × D):=opTab.map fun p=>(.string (Tx p.1),.v (opV p.2))
def tblV (mk:Bool):AV:=if mk then .d (.map tabD) else .d (.v (.map none))

def robj (S:Bs) (L:List Tk) (st:RSt) (deep:Int) (dn lk:Int) (mk:Bool):List Ob :=
 [.box [.d (.v (.string (Tx S))),.d (.sl (tkRows L)),iV st.at_,.ow 1 st.names.length,iV deep,iV st.bad,iV st.e,.d (.v (.int .u32 dn)),.d (.v (.int .i32 lk)),.d (.v (.int .u32 0)),tblV mk],.arr 1 st.names.length (strRows st.names)]

theorem robj_map {f:AV→AV} (S:Bs) (L:List Tk) (st:RSt) (deep dn lk:Int) (mk:Bool) (h1:∀ x,f (.d x)=.d x) (h2:f (.ow 1 st.names.length)=.ow 1 st.names.length):(robj S L st deep dn lk mk).map (mapOb f)=robj S L st deep dn lk mk:=by
 have h3:f (tblV mk)=tblV mk:=by unfold tblV; split <;> exact h1 _
 simp only [robj,List.map_cons,List.map_nil,mapOb,h2,h3,iV,h1]

theorem sealF_d (n0 n:Nat) (o:List Ob) (x:D):sealT false n0 o (n+1) (.d x)=.d x:=by
 unfold sealT
 split <;> first | rfl | (rename_i h; cases h; rfl) | (rename_i h; cases h)

theorem robj_keep (S:Bs) (L:List Tk) (st:RSt) (deep dn lk:Int) (mk:Bool) (n0:Nat) (o:List Ob) (hn:2≤n0):(robj S L st deep dn lk mk).map (mapOb (sealT false n0 o 5))=robj S L st deep dn lk mk :=
 robj_map S L st deep dn lk mk (fun x=>sealF_d n0 4 o x) (by
  show (bif Nat.ble (Nat.succ 1) n0 then _ else _)=_
  rw [show Nat.ble (Nat.succ 1) n0=true from Nat.ble_eq_true_of_le hn]; rfl)

theorem robj_ren (S:Bs) (L:List Tk) (st:RSt) (deep dn lk:Int) (mk:Bool) (i j n:Nat) (l:List Nat):(robj S L st deep dn lk mk).map (renOb (rn (i::j::l) n))=[.box [.d (.v (.string (Tx S))),.d (.sl (tkRows L)),iV st.at_,.ow j st.names.length,iV deep,iV st.bad,iV st.e,.d (.v (.int .u32 dn)),.d (.v (.int .i32 lk)),.d (.v (.int .u32 0)),tblV mk],.arr 1 st.names.length (strRows st.names)]:=by
 have h3:renA (rn (i::j::l) n) (tblV mk)=tblV mk:=by unfold tblV; split <;> rfl
 simp only [robj,List.map_cons,List.map_nil,renOb,renL,h3]; rfl

theorem atLoad (a:Addr) (x:Int) (w:World) (h:w.cell? a=some (.int .u32 x)):(callFunc 160 #[.pointer (some a)]).run Tryz.prog w=.ok (.value (.int .u32 x)) w :=
 run_call_load Tryz.func160 (by kernel_rfl) (by kernel_rfl) (by kernel_rfl) .u32 (by kernel_rfl) h
theorem raceOff (w:World):(callFunc 168 #[]).run Tryz.prog w=.ok (.value (.tuple #[])) w:=run_call_mark0 Tryz.func168 (by kernel_rfl) (by kernel_rfl) (by kernel_rfl) .disable (by kernel_rfl) w
theorem raceOn (w:World):(callFunc 170 #[]).run Tryz.prog w=.ok (.value (.tuple #[])) w:=run_call_mark0 Tryz.func170 (by kernel_rfl) (by kernel_rfl) (by kernel_rfl) .enable (by kernel_rfl) w
theorem raceAcq (a:Addr) (w:World):(callFunc 171 #[.pointer (some a)]).run Tryz.prog w=.ok (.value (.tuple #[])) w:=run_call_marked Tryz.func171 (by kernel_rfl) (by kernel_rfl) (by kernel_rfl) .acquire (by kernel_rfl) a w
theorem raceRel (a:Addr) (w:World):(callFunc 173 #[.pointer (some a)]).run Tryz.prog w=.ok (.value (.tuple #[])) w:=run_call_marked Tryz.func173 (by kernel_rfl) (by kernel_rfl) (by kernel_rfl) .releaseMerge (by kernel_rfl) a w

theorem atCas (a:Addr) (x y:Int) (w:World) (h:w.cell? a=some (.int .i32 x)) (hz:w.frozen? a=false):(callFunc 169 #[.pointer (some a),.int .i32 x,.int .i32 y]).run Tryz.prog w=.ok (.value (.bool true)) (w.setCell a (.int .i32 y)) :=
 run_call_cas_hit Tryz.func169 (by kernel_rfl) (by kernel_rfl) (by kernel_rfl) .i32 (by kernel_rfl) h hz

theorem atStore (a:Addr) (u:Value) (y:Int) (w:World) (h:w.cell? a=some u) (hz:w.frozen? a=false):(callFunc 166 #[.pointer (some a),.int .u32 y]).run Tryz.prog w=.ok (.value (.tuple #[])) (w.setCell a (.int .u32 y)) :=
 run_call_store Tryz.func166 (by kernel_rfl) (by kernel_rfl) (by kernel_rfl) (by kernel_rfl) h hz

theorem atAdd (a:Addr) (w:World) (h:w.cell? a=some (.int .i32 1)) (hz:w.frozen? a=false):(callFunc 174 #[.pointer (some a),.int .i32 (-1)]).run Tryz.prog w=.ok (.value (.int .i32 0)) (w.setCell a (.int .i32 0)) :=
 run_call_add Tryz.func174 (by kernel_rfl) (by kernel_rfl) (by kernel_rfl) .i32 (by kernel_rfl) h hz (by simp [go_sem]; rfl)
end Go.Proofs.YtcgkgofmldhokaaGreat

namespace Go.Proofs.YtcgkgofmldhokaaGreat
open Go PSL Go.Proofs

theorem signEq (d:Nat) (p q:Sg) (w:World):(Op.equalIn (d+1+1) 135 (skV p) (skV q)).run Tryz.prog w=.ok (decide (p=q)) w:=by
 obtain ⟨s,n⟩:=p
 obtain ⟨s',n'⟩:=q
 unfold skV
 rw [run_equalIn_agg w (d+1) 135 _ _ (by rw [Program.fieldsOf,Tryz.underlying135]) Tryz.stoodInHeld135]
 rw [Program.fieldsOf,Tryz.underlying135]
 simp [Op.eqFields,part,run_equalIn_int _ _ _ _ _ _ _ Tryz.underlying3,run_equalIn_string _ _ _ _ _ Tryz.underlying9]
 by_cases h1:s=s'
 ·subst h1
  by_cases h2:n=n' <;> simp [h2]
 ·have h2:¬ s.toList=s'.toList:=fun e=>h1 (Tm.strEq_iff.1 (by simp [strEq,e]))
  simp [h1,h2]

theorem signCk (d:Nat) (b:Bool) (p:Sg) (w:World):(Instr.checkKey b (d+1+1) 135 (skV p)).run Tryz.prog w=.ok () w:=by
 simp [Instr.checkKey,skV,part,run_underlying Tryz.underlying135,run_underlying Tryz.underlying3,run_underlying Tryz.underlying9]
theorem signKey:SKey Tryz.prog 135:=⟨⟨_,Tryz.underlying135⟩,fun p q w=>signEq 9998 p q w,fun b p w=>signCk 9998 b p w⟩

theorem signCmp:SCmp Tryz.prog 135:=by
 constructor
 ·intro x y p q w
  have h:=signEq 9998 p q w
  unfold skV at h ⊢
  simp only [Sem.run_bind]
  rw [run_eqGuard_agg _ _ _ _ _ _ _ Tryz.eqGuardType135]
  simp only [Result.andThen_ok]
  rw [run_eql_struct,h]
  rfl
 ·intro x y p q w
  have h:=signEq 9998 p q w
  unfold skV at h ⊢
  simp only [Sem.run_bind]
  rw [run_eqGuard_agg _ _ _ _ _ _ _ Tryz.eqGuardType135]
  simp only [Result.andThen_ok]
  rw [run_neq_struct,h]
  rfl

theorem progTwo_ok:PCtr Tryz.prog 124 [] (.d (.sl (strRows twoL))):=by
 refine PCtr.of_R (pf:=fun _=>.still) tyOk mixed Tryz.func124 rfl (by kernel_rfl) (by kernel_rfl) (by simp [Tryz.ntmps124]) fun w S hg=>?_
 refine R_run hg.ok 1000 rfl rfl ?_
 refine R_ret hg 5 rfl rfl ?_
 rfl

theorem anyS_drop {l:List (Bs × Int)} {p:Sg} {k:Nat} {x:Bs × Int} (h:l[k]? = some x):anyS (l.drop k) p=(decide ((Tx x.1,x.2)=p) || anyS (l.drop (k+1)) p):=by
 obtain ⟨hk,he⟩:=List.getElem?_eq_some_iff.1 h
 rw [List.drop_eq_getElem_cons hk,he]; rfl
def sgRows (l:List (Bs × Int)):List (List D):=l.map fun x=>[.v (.string (Tx x.1)),.v (.int .i64 x.2)]
theorem sgRows_get {l:List (Bs × Int)} {i:Nat} {x:Bs × Int} (h:l[i]? = some x):(sgRows l)[i]? = some [.v (.string (Tx x.1)),.v (.int .i64 x.2)]:=by simp [sgRows,h]

set_option maxRecDepth 100000 in
theorem builtin_ok (p:Sg):PCtr Tryz.prog 99 [.d (.v (.string p.1)),.d (.v (.int .i64 p.2))] (bV (bltB p)):=by
 refine PCtr.of_R (pf:=fun _=>.eff) tyOk mixed Tryz.func99 rfl (by kernel_rfl) (by kernel_rfl) (by simp [Tryz.ntmps99]) fun w S hg=>?_
 refine R_run hg.ok 1000 rfl rfl ?_
 refine R_call hg.ok (progTwo_ok) rfl rfl rfl rfl rfl rfl ?_
 refine R_run hg.ok 1000 rfl rfl ?_
 refine R_cut2 (fun _:Unit=>([(0,.d (.v (.string p.1))),(1,.d (.v (.int .i64 p.2)))],[])) (fun _=>bltB p=anyS oneL p) rfl ?_ ?_
 ·refine R_loop (fun k:Nat=>([(0,.d (.v (.string p.1))),(1,.d (.v (.int .i64 p.2))),(9,.d (.sl (strRows twoL))),(10,iV 16),(11,iV k)],[])) (fun k=>k≤16∧bltB p=(anyS ((twoL.map fun s=>(s,2)).drop k) p || anyS oneL p)) (fun k=>16 - k) 0 ⟨Nat.zero_le _,rfl⟩ ⟨.refl _,.refl _,.refl _,.refl _,.refl _,trivial⟩ rfl ?_
  rintro k ⟨hk,hm⟩
  refine R_run hg.ok 1000 rfl rfl ?_
  refine R_if rfl rfl (fun h=>?_) (fun h=>?_) <;> refine R_run hg.ok 1000 rfl rfl ?_
  ·have hk1:k<twoL.length:=lt_dec h rfl
   have e1:twoL[k]? = some twoL[k]:=List.getElem?_eq_getElem hk1
   generalize twoL[k]=s at e1
   have hk2:k<16:=hk1
   have e2:(twoL.map fun s=>(s,(2:Int)))[k]? = some (s,2):=by rw [List.getElem?_map,e1]; rfl
   rw [anyS_drop e2] at hm
   refine R_index hg.ok rfl rfl rfl rfl rfl rfl (Int.natCast_nonneg _) (strRows_get e1) rfl ?_
   refine R_run hg.ok 1000 rfl rfl ?_
   refine R_eqK hg.ok (Tx s,2) p signCmp rfl rfl rfl rfl ?_
   refine R_run hg.ok 1000 rfl rfl ?_
   refine R_if rfl rfl (fun h=>?_) (fun h=>?_) <;> refine R_run hg.ok 1000 rfl rfl ?_
   ·refine R_ret hg 5 rfl rfl ?_
    rw [hm,h]; rfl
   ·exact R_next (k+1) ⟨hk1,by rw [hm,h,Bool.false_or]⟩ (by omega) ⟨.refl _,.refl _,.refl _,.refl _,Ent.wrap (by omega) (by omega) (by omega),trivial⟩ rfl
  ·have hk1:16≤k:=ge_dec h rfl
   refine R_to () ?_ ⟨.refl _,.refl _,trivial⟩ rfl
   rw [hm,List.drop_eq_nil_of_le (by simpa [twoL] using hk1)]; rfl
 rintro _ hb
 refine R_run hg.ok 1000 rfl rfl ?_
 refine R_loop (fun k:Nat=>([(0,.d (.v (.string p.1))),(1,.d (.v (.int .i64 p.2))),(31,.d (.sl (sgRows oneL))),(32,iV 9),(33,iV k)],[])) (fun k=>k≤9∧bltB p=anyS ((oneL).drop k) p) (fun k=>9 - k) 0 ⟨Nat.zero_le _,hb⟩ ⟨.refl _,.refl _,.fs _,.refl _,.refl _,trivial⟩ rfl ?_
 rintro k ⟨hk,hm⟩
 refine R_run hg.ok 1000 rfl rfl ?_
 refine R_if rfl rfl (fun h=>?_) (fun h=>?_) <;> refine R_run hg.ok 1000 rfl rfl ?_
 ·have hk1:k<(oneL).length:=lt_dec h rfl
  have e1:(oneL)[k]? = some (oneL)[k]:=List.getElem?_eq_getElem hk1
  generalize (oneL)[k]=x at e1
  have hk2:k<9:=hk1
  rw [anyS_drop e1] at hm
  refine R_index hg.ok rfl rfl rfl rfl rfl rfl (Int.natCast_nonneg _) (sgRows_get e1) rfl ?_
  refine R_run hg.ok 1000 rfl rfl ?_
  refine R_eqK hg.ok (Tx x.1,x.2) p signCmp rfl rfl rfl rfl ?_
  refine R_run hg.ok 1000 rfl rfl ?_
  refine R_if rfl rfl (fun h=>?_) (fun h=>?_) <;> refine R_run hg.ok 1000 rfl rfl ?_
  ·refine R_ret hg 5 rfl rfl ?_
   rw [hm,h]; rfl
  ·refine R_dropO 0 [] (Nat.zero_le _) rfl rfl ?_
   exact R_next (k+1) ⟨hk1,by rw [hm,h,Bool.false_or]⟩ (by omega) ⟨.refl _,.refl _,.refl _,.refl _,Ent.wrap (by omega) (by omega) (by omega),trivial⟩ rfl
 ·have hk1:(oneL).length≤k:=ge_dec h rfl
  refine R_ret hg 5 rfl rfl ?_
  rw [hm,List.drop_eq_nil_of_le hk1]; rfl

set_option maxRecDepth 100000 in
theorem control_ok (p:Sg):PCtr Tryz.prog 100 [.d (.v (.string p.1)),.d (.v (.int .i64 p.2))] (bV (ctlB p)):=by
 refine PCtr.of_R (pf:=fun _=>.eff) tyOk mixed Tryz.func100 rfl (by kernel_rfl) (by kernel_rfl) (by simp [Tryz.ntmps100]) fun w S hg=>?_
 refine R_run hg.ok 1000 rfl rfl ?_
 refine R_loop (fun k:Nat=>([(0,.d (.v (.string p.1))),(1,.d (.v (.int .i64 p.2))),(16,.d (.sl (sgRows (ctlL p.2)))),(17,iV 8),(18,iV k)],[])) (fun k=>k≤8∧ctlB p=anyS ((ctlL p.2).drop k) p) (fun k=>8 - k) 0 ⟨Nat.zero_le _,rfl⟩ ⟨.refl _,.refl _,.fs _,.refl _,.refl _,trivial⟩ rfl ?_
 rintro k ⟨hk,hm⟩
 refine R_run hg.ok 1000 rfl rfl ?_
 refine R_if rfl rfl (fun h=>?_) (fun h=>?_) <;> refine R_run hg.ok 1000 rfl rfl ?_
 ·have hk1:k<(ctlL p.2).length:=lt_dec h rfl
  have e1:(ctlL p.2)[k]? = some (ctlL p.2)[k]:=List.getElem?_eq_getElem hk1
  generalize (ctlL p.2)[k]=x at e1
  have hk2:k<8:=hk1
  rw [anyS_drop e1] at hm
  refine R_index hg.ok rfl rfl rfl rfl rfl rfl (Int.natCast_nonneg _) (sgRows_get e1) rfl ?_
  refine R_run hg.ok 1000 rfl rfl ?_
  refine R_eqK hg.ok (Tx x.1,x.2) p signCmp rfl rfl rfl rfl ?_
  refine R_run hg.ok 1000 rfl rfl ?_
  refine R_if rfl rfl (fun h=>?_) (fun h=>?_) <;> refine R_run hg.ok 1000 rfl rfl ?_
  ·refine R_ret hg 5 rfl rfl ?_
   rw [hm,h]; rfl
  ·refine R_dropO 0 [] (Nat.zero_le _) rfl rfl ?_
   exact R_next (k+1) ⟨hk1,by rw [hm,h,Bool.false_or]⟩ (by omega) ⟨.refl _,.refl _,.refl _,.refl _,Ent.wrap (by omega) (by omega) (by omega),trivial⟩ rfl
 ·have hk1:(ctlL p.2).length≤k:=ge_dec h rfl
  refine R_ret hg 5 rfl rfl ?_
  rw [hm,List.drop_eq_nil_of_le hk1]; rfl

theorem signOf_ok (t:Tm):PCtr Tryz.prog 64 [t.av] (sgA (sgOf t)):=by
 refine PCtr.of_R (pf:=fun _=>.eff) tyOk mixed Tryz.func64 rfl (by kernel_rfl) (by kernel_rfl) (by simp [Tryz.ntmps64]) fun w S hg=>?_
 refine R_run hg.ok 1000 rfl rfl ?_
 refine R_ret hg 5 rfl rfl ?_
 unfold sgA sgOf
 rw [Tm.rows_length]

theorem builtinT_ok (t:Tm):PCtr Tryz.prog 99 [.d (.v (.string t.s)),.d (.v (.int .i64 ((Tm.rows t.l).length:Int)))] (bV (bltB (sgOf t))):=by
 rw [Tm.rows_length]; exact builtin_ok (sgOf t)

theorem controlT_ok (t:Tm):PCtr Tryz.prog 100 [.d (.v (.string t.s)),.d (.v (.int .i64 ((Tm.rows t.l).length:Int)))] (bV (ctlB (sgOf t))):=by
 rw [Tm.rows_length]; exact control_ok (sgOf t)

set_option maxRecDepth 100000 in
theorem own_ok11 (t:Tm):PCtr Tryz.prog 66 [t.av] (bV (ownB t)):=by
 refine PCtr.of_R (pf:=fun _=>.eff) tyOk mixed Tryz.func66 rfl (by kernel_rfl) (by kernel_rfl) (by simp [Tryz.ntmps66]) fun w S hg=>?_
 refine R_run hg.ok 1000 rfl rfl ?_
 refine R_if rfl rfl (fun h=>?_) (fun h=>?_) <;> refine R_run hg.ok 1000 rfl rfl ?_
 ·refine R_call hg.ok (builtinT_ok t) rfl rfl rfl rfl rfl rfl ?_
  refine R_run hg.ok 1000 rfl rfl ?_
  refine R_if rfl rfl (fun h2=>?_) (fun h2=>?_) <;> refine R_run hg.ok 1000 rfl rfl ?_
  ·refine R_call hg.ok (controlT_ok t) rfl rfl rfl rfl rfl rfl ?_
   refine R_run hg.ok 1000 rfl rfl ?_
   refine R_ret hg 5 rfl rfl ?_
   unfold ownB
   rw [h,h2]; rfl
  ·refine R_ret hg 5 rfl rfl ?_
   unfold ownB
   rw [h,h2]; rfl
 ·refine R_ret hg 5 rfl rfl ?_
  unfold ownB
  rw [h]; rfl

theorem nothing_ok (t:Tm):PCtr Tryz.prog 128 [t.av] (bV (nothB t)):=by
 refine PCtr.of_R (pf:=fun _=>.eff) tyOk mixed Tryz.func128 rfl (by kernel_rfl) (by kernel_rfl) (by simp [Tryz.ntmps128]) fun w S hg=>?_
 refine R_run hg.ok 1000 rfl rfl ?_
 refine R_if rfl rfl (fun h1=>?_) (fun h1=>?_) <;> refine R_run hg.ok 1000 rfl rfl ?_
 ·refine R_if rfl rfl (fun h2=>?_) (fun h2=>?_) <;> refine R_run hg.ok 1000 rfl rfl ?_
  ·refine R_if rfl rfl (fun h3=>?_) (fun h3=>?_) <;> refine R_run hg.ok 1000 rfl rfl ?_
   ·refine R_ret hg 5 rfl rfl ?_
    unfold nothB
    rw [h1,h2,h3,Tm.rows_length]
    cases t.l <;> rfl
   ·refine R_ret hg 5 rfl rfl ?_
    unfold nothB
    rw [h1,h2,h3]; rfl
  ·refine R_ret hg 5 rfl rfl ?_
   unfold nothB
   rw [h1,h2]; rfl
 ·refine R_ret hg 5 rfl rfl ?_
  unfold nothB
  rw [h1]; rfl
end Go.Proofs.YtcgkgofmldhokaaGreat

namespace Go.Proofs.YtcgkgofmldhokaaGreat
open Go PSL Go.Proofs
def wobjs (n:Nat):List Ob:=[.yld n,.box [.yl 0],.box [.clo 152 [] [.lo 1 0,.lo 2 0]]]

set_option maxRecDepth 100000 in
theorem walk_ok (Y:YP) (t:Tm):∀ (d:Int) (n:Nat),0≤d→d+t.size<4611686018427387904→(∀ (i:Nat) (e:Int × Tm),(t.els d)[i]? = some e→Y.ys[n+i]? = some (Tm.enc e))→(n=0∨Y.go n=true) →
  SCtr Tryz.prog Y 152 [t.av,iV d,.lo 1 0,.lo 2 0] (wobjs n) (bV (adv Y t.size n).2) (wobjs (adv Y t.size n).1):=by
 induction t using Tm.ind with
 | _ t ih =>
 intro d n hd0 hd hy hgo
 refine SCtr.of_R (pf:=fun _=>.eff) tyOk mixed Tryz.func152 rfl (by kernel_rfl) (by kernel_rfl) (by simp [Tryz.ntmps152]) (by simp [wobjs]) fun w S φ hg=>?_
 refine R_run hg.ok 1000 rfl rfl ?_
 refine R_yield hg rfl rfl rfl rfl rfl rfl rfl (avs:=[iV d,t.av]) ?_ hgo ?_
 ·exact hy 0 (d,t) (by rw [Tm.els_eq]; rfl)
 refine R_run hg.ok 1000 rfl rfl ?_
 have hsz:=Tm.size_eq t
 have hlen:=Tm.len_le_sizeL t.l
 refine R_if rfl rfl (fun h1=>?_) (fun h1=>?_)
 ·refine R_run hg.ok 1000 rfl rfl ?_
  have h1:(!Y.go (n+1))=true:=h1
  have h2:Y.go (n+1)=false:=by simpa using h1
  have h3:adv Y t.size n=(n+1,false):=by rw [hsz,Nat.add_comm]; simp [adv,h2]
  refine R_retS hg 3 5 (Nat.le_refl _) rfl ?_ ?_
  ·rw [h3]; rfl
  ·rw [h3]; rfl
 have h1:(!Y.go (n+1))=false:=h1
 have h2:Y.go (n+1)=true:=by simpa using h1
 refine R_run hg.ok 1000 rfl rfl ?_
 refine R_loop (fun k:Nat=>([(1,iV d),(2,.lo 1 0),(3,.lo 2 0),(4,.lo 3 0),(15,.d (.sl (Tm.rows t.l))),(16,iV (t.l.length:Int)),(17,iV k)],wobjs (n+(1+Tm.sizeL (t.l.take k)))++[.box [.d (.v (.int .i64 t.k)),.d (.v (.string t.s)),.d (.v (.int .i64 t.n)),.d (.sl (Tm.rows t.l))]]))
  (fun k=>k≤t.l.length∧adv Y (1+Tm.sizeL (t.l.take k)) n=(n+(1+Tm.sizeL (t.l.take k)),true)) (fun k=>t.l.length - k) 0 ?_ ?_ ?_ ?_
 ·refine ⟨Nat.zero_le _,?_⟩
  simp [Tm.sizeL,adv,h2]
 ·exact ⟨.refl _,.refl _,.refl _,.refl _,.refl _,Ent.int (by rw [Tm.rows_length]),.refl _,trivial⟩
 ·rfl
 intro k hk
 refine R_run hg.ok 1000 rfl rfl ?_
 refine R_if rfl rfl (fun h1=>?_) (fun h1=>?_)
 ·have hk1:k<t.l.length:=by have:=of_decide_eq_true h1; omega
  have e1:t.l[k]? = some t.l[k]:=List.getElem?_eq_getElem hk1
  have hszk:=Tm.sizeL_take_succ e1
  have hmem:=Tm.size_mem (List.getElem_mem hk1)
  refine R_run hg.ok 1000 rfl rfl ?_
  refine R_index hg.ok rfl rfl rfl rfl rfl rfl (Int.natCast_nonneg k) (Tm.rows_get e1) rfl ?_
  refine R_run hg.ok 1000 rfl rfl ?_
  refine R_see 24 rfl (Ent.wrap rfl (by omega) (by omega)) ?_
  refine R_callS hg.ok hg.gup hg.wide hg.Y [0,1,2] (ih _ (List.getElem_mem hk1) (d+1) (n+(1+Tm.sizeL (t.l.take k))) (by omega) (by omega) ?_ ?_) (fun _=>rfl) rfl rfl rfl rfl rfl rfl rfl ?_
  ·intro i e he
   have hlt:=(List.getElem?_eq_some_iff.1 he).1
   have:=hy (1+Tm.sizeL (t.l.take k)+i) e (by
    rw [Tm.els_eq,show 1+Tm.sizeL (t.l.take k)+i=Tm.sizeL (t.l.take k)+i+1 by omega,List.getElem?_cons_succ]
    have hsplit:t.l=t.l.take k++(t.l[k]::t.l.drop (k+1)):=by rw [← List.drop_eq_getElem_cons hk1,List.take_append_drop]
    rw [hsplit,Tm.elsL_append,List.getElem?_append_right (by rw [Tm.elsL_len]; rw [← hsplit]; omega),Tm.elsL_len,← hsplit]
    simp only [Tm.elsL]
    rw [List.getElem?_append_left (by omega),show Tm.sizeL (List.take k t.l)+i - Tm.sizeL (List.take k t.l)=i by omega]
    exact he)
   rw [show n+(1+Tm.sizeL (t.l.take k))+i=n+(1+Tm.sizeL (t.l.take k)+i) by omega]; exact this
  ·right
   exact (adv_true (by rw [hk.2])).2 (by omega)
  refine R_run hg.ok 1000 rfl rfl ?_
  have hle:Tm.sizeL t.l=Tm.sizeL (t.l.take k)+(t.l[k].size+Tm.sizeL (t.l.drop (k+1))):=by
   conv=>lhs; rw [← List.take_append_drop k t.l,List.drop_eq_getElem_cons hk1]
   rw [Tm.sizeL_append,Tm.sizeL]
  refine R_if rfl rfl (fun h3=>?_) (fun h3=>?_)
  ·have h3:(!(adv Y t.l[k].size (n+(1+Tm.sizeL (t.l.take k)))).2)=true:=h3
   have h4:(adv Y t.l[k].size (n+(1+Tm.sizeL (t.l.take k)))).2=false:=by simpa using h3
   refine R_run hg.ok 1000 rfl rfl ?_
   have h5:adv Y t.size n=adv Y t.l[k].size (n+(1+Tm.sizeL (t.l.take k))):=by
    rw [hsz,hle,← Nat.add_assoc,adv_add_true hk.2,adv_add,if_neg (by rw [h4]; simp)]
   refine R_retS hg 3 5 (Nat.le_refl _) rfl ?_ ?_
   ·rw [h5,h4]; rfl
   ·rw [h5]; rfl
  have h3:(!(adv Y t.l[k].size (n+(1+Tm.sizeL (t.l.take k)))).2)=false:=h3
  have h4:(adv Y t.l[k].size (n+(1+Tm.sizeL (t.l.take k)))).2=true:=by simpa using h3
  have h6:=adv_eq h4
  refine R_run hg.ok 1000 rfl rfl ?_
  refine R_drop 4 (by rw [hg.hs0.len]; simp [wobjs]) rfl ?_
  have h7:n+(1+Tm.sizeL (t.l.take (k+1)))=n+(1+Tm.sizeL (t.l.take k))+t.l[k].size:=by rw [hszk]; omega
  refine R_next (k+1) ⟨hk1,?_⟩ (by omega) ⟨.refl _,.refl _,.refl _,.refl _,.refl _,.refl _,Ent.wrap (by omega) (by omega) (by omega),trivial⟩ ?_
  ·rw [hszk,← Nat.add_assoc 1,adv_add_true hk.2,h6]; simp only [Nat.add_assoc]
  ·rw [h6]; show _=wobjs (n+(1+Tm.sizeL (t.l.take (k+1))))++_; rw [h7]; rfl
 ·refine R_run hg.ok 1000 rfl rfl ?_
  have h3:¬ ((k:Int)<(t.l.length:Int)):=of_decide_eq_false h1
  have hkl:k=t.l.length:=by omega
  have h4:adv Y t.size n=(n+(1+Tm.sizeL (t.l.take k)),true):=by
   have:=hk.2
   rw [hkl,List.take_length] at this ⊢
   rw [hsz]; exact this
  refine R_retS hg 3 5 (Nat.le_refl _) rfl ?_ ?_
  ·rw [h4]; rfl
  ·rw [h4]; rfl

set_option maxRecDepth 100000 in
theorem all_ok (Y:YP) (t:Tm) (n:Nat) (hd:t.size<1000000000) (hy:∀ (i:Nat) (e:Int × Tm),(t.els 1)[i]? = some e→Y.ys[n+i]? = some (Tm.enc e)) (hgo:n=0∨Y.go n=true) :
  SCtr Tryz.prog Y 126 [t.av,.yl 0] [.yld n] (bV (adv Y t.size n).2) [.yld (adv Y t.size n).1]:=by
 refine SCtr.of_R (pf:=fun _=>.eff) tyOk mixed Tryz.func126 rfl (by kernel_rfl) (by kernel_rfl) (by simp [Tryz.ntmps126]) (by simp) fun w S φ hg=>?_
 refine R_run hg.ok 1000 rfl rfl ?_
 refine R_callS hg.ok hg.gup hg.wide hg.Y [0,2,3] (walk_ok Y t 1 n (by omega) (by omega) hy hgo) (fun _=>rfl) rfl rfl rfl rfl rfl rfl rfl ?_
 refine R_run hg.ok 1000 rfl rfl ?_
 refine R_retS hg 1 5 (Nat.le_refl _) rfl ?_ ?_
 ·rfl
 ·rfl

set_option maxRecDepth 100000 in
theorem each1_ok (Y:YP) (t:Tm) (hd:t.size<1000000000) (hy:∀ (i:Nat) (e:Int × Tm),(t.els 1)[i]? = some e→Y.ys[i]? = some (Tm.enc e)) :
  SCtr Tryz.prog Y 125 [.yl 0,.d (.ptr (Tm.row t))] [.yld 0] (.tup []) [.yld (adv Y t.size 0).1]:=by
 refine SCtr.of_R (pf:=fun _=>.eff) tyOk mixed Tryz.func125 rfl (by kernel_rfl) (by kernel_rfl) (by simp [Tryz.ntmps125]) (by simp) fun w S φ hg=>?_
 refine R_run hg.ok 1000 rfl rfl ?_
 refine R_callS hg.ok hg.gup hg.wide hg.Y [0] (all_ok Y t 0 hd (by simpa using hy) (.inl rfl)) (fun _=>rfl) rfl rfl rfl rfl rfl rfl rfl ?_
 refine R_run hg.ok 1000 rfl rfl ?_
 refine R_endS hg 1 5 (Nat.le_refl _) rfl ?_ ?_
 ·rfl
 ·rfl

set_option maxRecDepth 100000 in
theorem each_ok (t:Tm):PCtr Tryz.prog 101 [t.av] (.clo 125 [] [.d (.ptr (Tm.row t))]):=by
 refine PCtr.of_R (pf:=fun _=>.still) tyOk mixed Tryz.func101 rfl (by kernel_rfl) (by kernel_rfl) (by simp [Tryz.ntmps101]) fun w S hg=>?_
 refine R_run hg.ok 1000 rfl rfl ?_
 refine R_ret hg 5 rfl rfl ?_
 rfl
end Go.Proofs.YtcgkgofmldhokaaGreat

namespace Go.Proofs.YtcgkgofmldhokaaGreat
open Go PSL Go.Proofs
def boxT (t:Tm):Ob:=.box [.d (.v (.int .i64 t.k)),.d (.v (.string t.s)),.d (.v (.int .i64 t.n)),.d (.sl (Tm.rows t.l))]

theorem adv_allT {Y:YP} (h:∀ n,Y.go n=true):∀ (k n:Nat),adv Y k n=(n+k,true)
 | 0,n=>rfl
 | k+1,n=>by simp only [adv,h,if_true]; rw [adv_allT h k]; congr 1; omega
theorem els_ys {t:Tm} {i:Nat} {e:Int × Tm} (h:(t.els 1)[i]? = some e):((t.els 1).map Tm.enc)[i]? = some (Tm.enc e):=by rw [List.getElem?_map,h]; rfl
theorem els_lt {t:Tm} {i:Nat} {e:Int × Tm} (h:(t.els 1)[i]? = some e):i<t.size:=by rw [← Tm.els_len t 1]; exact (List.getElem?_eq_some_iff.1 h).1
end Go.Proofs.YtcgkgofmldhokaaGreat

namespace Go.Proofs.YtcgkgofmldhokaaGreat
open Go PSL Go.Proofs

set_option maxRecDepth 100000 in
theorem named_ok (s:ByteArray) (hs:s.size<1000000000):PCtr Tryz.prog 127 [.d (.v (.string s))] (bV (namedB s)):=by
 refine PCtr.of_R (pf:=fun _=>.still) tyOk mixed Tryz.func127 rfl (by kernel_rfl) (by kernel_rfl) (by simp [Tryz.ntmps127]) fun w S hg=>?_
 refine R_run hg.ok 1000 rfl rfl ?_
 refine R_loop (fun k:Nat=>([(0,.d (.v (.string s))),(5,iV s.size),(6,iV k)],[])) (fun k=>k≤s.size∧∀ i (hi:i<s.size),i<k→byteOk s[i]=true) (fun k=>s.size - k) 0 ?_ ?_ rfl ?_
 ·exact ⟨Nat.zero_le _,fun i _ h=>absurd h (Nat.not_lt_zero _)⟩
 ·exact ⟨.refl _,.refl _,.refl _,trivial⟩
 intro k hk
 refine R_run hg.ok 1000 rfl rfl ?_
 refine R_if rfl rfl (fun h1=>?_) (fun h1=>?_)
 ·have hk1:k<s.size:=by have:=of_decide_eq_true h1; omega
  refine R_run hg.ok 1000 rfl rfl ?_
  refine R_indexS hg.ok rfl rfl rfl rfl rfl (Int.natCast_nonneg k) (byte_at hk1) ?_
  refine R_run hg.ok 1000 rfl rfl ?_
  refine R_if rfl rfl (fun h2=>?_) (fun h2=>?_)
  ·refine R_run hg.ok 1000 rfl rfl ?_
   refine R_ret hg 5 rfl rfl ?_
   have:byteOk s[k]=false:=by unfold byteOk; rw [h2]; rfl
   simp only [namedB,not_all_bytes hk1 this]; rfl
  refine R_run hg.ok 1000 rfl rfl ?_
  refine R_indexS hg.ok rfl rfl rfl rfl rfl (Int.natCast_nonneg k) (byte_at hk1) ?_
  refine R_run hg.ok 1000 rfl rfl ?_
  refine R_if rfl rfl (fun h3=>?_) (fun h3=>?_)
  ·refine R_run hg.ok 1000 rfl rfl ?_
   refine R_ret hg 5 rfl rfl ?_
   have:byteOk s[k]=false:=by unfold byteOk; rw [h3]; simp
   simp only [namedB,not_all_bytes hk1 this]; rfl
  refine R_run hg.ok 1000 rfl rfl ?_
  refine R_next (k+1) ⟨hk1,fun i hi hik=>?_⟩ (by omega) ⟨.refl _,.refl _,Ent.wrap (by omega) (by omega) (by omega),trivial⟩ rfl
  rcases Nat.lt_or_ge i k with h | h
  ·exact hk.2 i hi h
  ·have:i=k:=by omega
   subst this
   unfold byteOk; rw [h2,h3]; rfl
 ·have h4:¬ ((k:Int)<(s.size:Int)):=of_decide_eq_false h1
  have hall:s.data.toList.all byteOk=true:=all_bytes fun i hi=>hk.2 i hi (by omega)
  refine R_run hg.ok 1000 rfl rfl ?_
  refine R_if rfl rfl (fun h2=>?_) (fun h2=>?_)
  ·refine R_run hg.ok 1000 rfl rfl ?_
   refine R_ret hg 5 rfl rfl ?_
   simp only [namedB,hall,h2,Bool.true_and]; rfl
  ·refine R_run hg.ok 1000 rfl rfl ?_
   refine R_ret hg 5 rfl rfl ?_
   simp only [namedB,hall,h2,Bool.true_and]; rfl
end Go.Proofs.YtcgkgofmldhokaaGreat

namespace Go.Proofs.YtcgkgofmldhokaaGreat
open Go PSL Go.Proofs

set_option maxRecDepth 100000 in
theorem own_ok (t:Tm) (hs:t.s.size<1000000000):PCtr Tryz.prog 102 [t.av] (bV t.ownT):=by
 refine PCtr.of_R (pf:=fun _=>.still) tyOk mixed Tryz.func102 rfl (by kernel_rfl) (by kernel_rfl) (by simp [Tryz.ntmps102]) fun w S hg=>?_
 refine R_run hg.ok 1000 rfl rfl ?_
 iterate 12
  all_goals try first
   | (refine R_if rfl rfl (fun _=>?_) (fun _=>?_) <;> refine R_run hg.ok 1000 rfl rfl ?_)
   | (refine R_call hg.ok (named_ok t.s hs) rfl rfl rfl rfl rfl rfl ?_; refine R_run hg.ok 1000 rfl rfl ?_)
 all_goals refine R_ret hg 5 rfl rfl ?_
 all_goals (simp only [Tm.rows_length,beq_iff_eq,beq_eq_false_iff_ne,ne_eq,decide_eq_true_eq,decide_eq_false_iff_not] at *)
 all_goals (simp_all [Tm.ownT,bV])
 all_goals (intros; omega)

set_option maxRecDepth 100000 in
theorem right_ok (t:Tm) (hd:t.size<1000000000) (hs:∀ e∈t.els 1,e.2.s.size<1000000000):PCtr Tryz.prog 69 [t.av] (bV (rightT t)):=by
 refine PCtr.of_R (pf:=fun _=>.still) tyOk mixed Tryz.func69 rfl (by kernel_rfl) (by kernel_rfl) (by simp [Tryz.ntmps69]) fun w S hg=>?_
 refine R_run hg.ok 1000 rfl rfl ?_
 refine R_call hg.ok (each_ok t) rfl rfl rfl rfl rfl rfl ?_
 refine R_run hg.ok 1000 rfl rfl ?_
 refine R_range hg.ok hg.gup ⟨rfl,rfl⟩ rfl (t.els 1) Tm.enc ⟨(t.els 1).map Tm.enc,goR t⟩ rfl (fun n=>[boxT t,.box [.d (.v (.bool false))],.box [iV n]]) (fun _ e=>[(2,.lo 1 0),(3,.lo 2 0),(4,iV e.1),(5,.lo 3 0)]) (fun n e=>[boxT t,.box [.d (.v (.bool false))],.box [iV n],boxT e.2]) _ .ret rfl rfl rfl (each1_ok _ t hd fun _ _ h=>els_ys h) rfl (fun _ _=>rfl) rfl ?_ ?_ ?_ rfl rfl ?_
 ·intro n x hx _ l w R0 X φ0 _ hamb
  refine R_run (gRound_ok hg.ok _ _ _ _ _ hamb) 1000 rfl rfl ?_
  exact R_finA ⟨.refl _,.refl _,.refl _,.refl _,trivial⟩ rfl
 ·intro n x hx _ l w R0 X φ0 hφ0 hamb
  have hn:=els_lt hx
  have hg':=gRound_ok hg.ok l w R0 X φ0 hamb
  have hgo:goR t (n+1)=stepR x (n+1):=by simp only [goR,hx]
  have hw:IntKind.i64.wrap ((n:Int)+1)=((n+1:Nat):Int):=wrap_id (by omega) (by omega)
  refine R_run hg' 1000 rfl rfl ?_
  refine R_if rfl rfl (fun h1=>?_) (fun h1=>?_)
  ·refine R_run hg' 1000 rfl rfl ?_
   refine R_drop 3 (by rw [show (gRound _ l w R0 X φ0).φ0=φ0 from rfl,hφ0]; exact Nat.le_refl _) rfl ?_
   refine R_obs [boxT t,.box [.d (.v (.bool false))],.box [iV ((n+1:Nat):Int)]] ⟨ObIn.refl _,⟨Ent.ff,trivial⟩,⟨Ent.int hw,trivial⟩,trivial⟩ rfl ?_
   exact R_retB (by rw [show (YP.go ⟨_,goR t⟩ (n+1))=goR t (n+1) from rfl,hgo]; simp only [stepR,h1,Bool.true_or,Bool.not_true]) rfl rfl
  refine R_run hg' 1000 rfl rfl ?_
  refine R_if rfl rfl (fun h2=>?_) (fun h2=>?_)
  ·refine R_run hg' 1000 rfl rfl ?_
   refine R_drop 3 (by rw [show (gRound _ l w R0 X φ0).φ0=φ0 from rfl,hφ0]; exact Nat.le_refl _) rfl ?_
   refine R_obs [boxT t,.box [.d (.v (.bool false))],.box [iV ((n+1:Nat):Int)]] ⟨ObIn.refl _,⟨Ent.ff,trivial⟩,⟨Ent.int hw,trivial⟩,trivial⟩ rfl ?_
   rw [hw] at h2
   exact R_retB (by rw [show (YP.go ⟨_,goR t⟩ (n+1))=goR t (n+1) from rfl,hgo]; simp only [stepR,h2,Bool.or_true,Bool.true_or,Bool.not_true]) rfl rfl
  refine R_run hg' 1000 rfl rfl ?_
  refine R_call hg' (own_ok x.2 (hs x (List.mem_of_getElem? hx))) rfl rfl rfl rfl rfl rfl ?_
  refine R_run hg' 1000 rfl rfl ?_
  rw [hw] at h2
  refine R_if rfl rfl (fun h3=>?_) (fun h3=>?_)
  ·refine R_run hg' 1000 rfl rfl ?_
   refine R_drop 3 (by rw [show (gRound _ l w R0 X φ0).φ0=φ0 from rfl,hφ0]; exact Nat.le_refl _) rfl ?_
   refine R_obs [boxT t,.box [.d (.v (.bool false))],.box [iV ((n+1:Nat):Int)]] ⟨ObIn.refl _,⟨Ent.ff,trivial⟩,⟨Ent.int hw,trivial⟩,trivial⟩ rfl ?_
   exact R_retB (by rw [show (YP.go ⟨_,goR t⟩ (n+1))=goR t (n+1) from rfl,hgo]; simp only [stepR,h3,Bool.or_true,Bool.not_true]) rfl rfl
  ·refine R_run hg' 1000 rfl rfl ?_
   refine R_drop 3 (by rw [show (gRound _ l w R0 X φ0).φ0=φ0 from rfl,hφ0]; exact Nat.le_refl _) rfl ?_
   refine R_obs [boxT t,.box [.d (.v (.bool false))],.box [iV ((n+1:Nat):Int)]] ⟨ObIn.refl _,⟨.refl _,trivial⟩,⟨Ent.int hw,trivial⟩,trivial⟩ rfl ?_
   exact R_finB (by rw [show (YP.go ⟨_,goR t⟩ (n+1))=goR t (n+1) from rfl,hgo]; simp only [stepR,h1,h2,h3,Bool.or_false,Bool.not_false]) rfl
 ·intro hgo
  refine R_run hg.ok 1000 rfl rfl ?_
  refine R_ret hg 5 rfl rfl ?_
  cases h:rightT t
  ·obtain ⟨h1,h2⟩:=adv_false h
   exact absurd hgo (by rintro (h3 | h3); exact h2 h3; rw [h1] at h3; cases h3)
  ·rfl
 ·intro h0 hgo
  refine R_ret hg 5 rfl rfl ?_
  cases h:rightT t
  ·rfl
  ·have h1:=adv_true h
   rw [h1.1] at h0 hgo
   rw [h1.2 (by omega)] at hgo; cases hgo
end Go.Proofs.YtcgkgofmldhokaaGreat

namespace Go.Proofs.YtcgkgofmldhokaaGreat
open Go PSL Go.Proofs
end Go.Proofs.YtcgkgofmldhokaaGreat

namespace Go.Proofs.YtcgkgofmldhokaaGreat
open Go PSL Go.Proofs
def boxR (t:Tm):Ob:=.box [.d (.v (.int .i64 t.k)),.d (.v (.string t.s)),.d (.v (.int .i64 t.n)),.d (.sl (Tm.rows t.l))]
end Go.Proofs.YtcgkgofmldhokaaGreat

namespace Go.Proofs.YtcgkgofmldhokaaGreat
open Go PSL Go.Proofs

set_option maxRecDepth 100000 in
theorem refSize_ok (t:Tm):t.size<1000000000→PCtr Tryz.prog 48 [t.av] (iV t.size):=by
 induction t using Tm.ind with
 | _ t ih =>
 intro hsz
 refine PCtr.of_R (pf:=fun _=>.still) tyOk mixed Tryz.func48 rfl (by kernel_rfl) (by kernel_rfl) (by simp [Tryz.ntmps48]) fun w S hg=>?_
 refine R_run hg.ok 1000 rfl rfl ?_
 refine R_loop (fun x:Nat × Nat=>([(1,.lo 0 0),(3,iV x.2),(4,iV x.1)],[boxR t])) (fun x=>x.1≤t.l.length∧t.size=x.2+Tm.sizeL (t.l.drop x.1)) (fun x=>t.l.length - x.1) (0,1) ⟨Nat.zero_le _,Tm.size_eq t⟩ ⟨.refl _,.refl _,.refl _,trivial⟩ rfl ?_
 rintro ⟨k,m⟩ ⟨hk,hm⟩
 simp only at hk hm
 have hl:=Tm.len_le_sizeL t.l
 have hs:=Tm.size_eq t
 refine R_run hg.ok 1000 rfl rfl ?_
 refine R_if rfl rfl (fun h=>?_) (fun h=>?_) <;> refine R_run hg.ok 1000 rfl rfl ?_
 ·have hk1:k<t.l.length:=lt_dec h (by rw [Tm.rows_length])
  have e1:t.l[k]? = some t.l[k]:=List.getElem?_eq_getElem hk1
  rw [List.drop_eq_getElem_cons hk1,Tm.sizeL] at hm
  refine R_index hg.ok rfl rfl rfl rfl rfl rfl (Int.natCast_nonneg k) (Tm.rows_get e1) rfl ?_
  refine R_run hg.ok 1000 rfl rfl ?_
  refine R_call hg.ok (ih _ (List.getElem_mem hk1) (by omega)) rfl rfl rfl rfl rfl rfl ?_
  refine R_run hg.ok 1000 rfl rfl ?_
  exact R_next (k+1,m+t.l[k].size) ⟨hk1,by simp only; omega⟩ (by simp only; omega) ⟨.refl _,Ent.wrap (by omega) (by omega) (by omega),Ent.wrap (by omega) (by omega) (by omega),trivial⟩ rfl
 ·have hk1:t.l.length≤k:=ge_dec h (by rw [Tm.rows_length])
  refine R_ret hg 5 rfl rfl ?_
  rw [List.drop_eq_nil_of_le hk1,Tm.sizeL] at hm
  simp only [hm,Nat.add_zero]; rfl

set_option maxRecDepth 100000 in
theorem refDeep_ok (t:Tm):t.size<1000000000→PCtr Tryz.prog 49 [t.av] (iV t.depth):=by
 induction t using Tm.ind with
 | _ t ih =>
 intro hsz
 refine PCtr.of_R (pf:=fun _=>.still) tyOk mixed Tryz.func49 rfl (by kernel_rfl) (by kernel_rfl) (by simp [Tryz.ntmps49]) fun w S hg=>?_
 refine R_run hg.ok 1000 rfl rfl ?_
 refine R_loop (fun x:Nat × Nat=>([(1,.lo 0 0),(3,iV x.2),(4,iV x.1)],[boxR t])) (fun x=>x.1≤t.l.length∧Tm.depthL t.l=max x.2 (Tm.depthL (t.l.drop x.1))) (fun x=>t.l.length - x.1) (0,0) ⟨Nat.zero_le _,by simp⟩ ⟨.refl _,.refl _,.refl _,trivial⟩ rfl ?_
 rintro ⟨k,m⟩ ⟨hk,hm⟩
 simp only at hk hm
 have hl:=Tm.len_le_sizeL t.l
 have hs:=Tm.size_eq t
 have hd:=Tm.depth_eq t
 have hds:=Tm.depth_le_size t
 refine R_run hg.ok 1000 rfl rfl ?_
 refine R_if rfl rfl (fun h=>?_) (fun h=>?_) <;> refine R_run hg.ok 1000 rfl rfl ?_
 ·have hk1:k<t.l.length:=lt_dec h (by rw [Tm.rows_length])
  have e1:t.l[k]? = some t.l[k]:=List.getElem?_eq_getElem hk1
  have hsm:=Tm.size_mem (List.getElem_mem hk1)
  rw [List.drop_eq_getElem_cons hk1,Tm.depthL] at hm
  refine R_index hg.ok rfl rfl rfl rfl rfl rfl (Int.natCast_nonneg k) (Tm.rows_get e1) rfl ?_
  refine R_run hg.ok 1000 rfl rfl ?_
  refine R_call hg.ok (ih _ (List.getElem_mem hk1) (by omega)) rfl rfl rfl rfl rfl rfl ?_
  refine R_run hg.ok 1000 rfl rfl ?_
  refine R_if rfl rfl (fun h=>?_) (fun h=>?_) <;> refine R_run hg.ok 1000 rfl rfl ?_
  ·have h:=of_decide_eq_true h
   exact R_next (k+1,t.l[k].depth) ⟨hk1,by simp only; omega⟩ (by simp only; omega) ⟨.refl _,.refl _,Ent.wrap (by omega) (by omega) (by omega),trivial⟩ rfl
  ·have h:=of_decide_eq_false h
   exact R_next (k+1,m) ⟨hk1,by simp only; omega⟩ (by simp only; omega) ⟨.refl _,.refl _,Ent.wrap (by omega) (by omega) (by omega),trivial⟩ rfl
 ·have hk1:t.l.length≤k:=ge_dec h (by rw [Tm.rows_length])
  refine R_ret hg 5 rfl rfl ?_
  rw [List.drop_eq_nil_of_le hk1,Tm.depthL] at hm
  rw [w64 (by omega) (by omega),hd,hm]; simp [iV]

set_option maxRecDepth 100000 in
theorem fair_ok (t:Tm):t.size<1000000000→(∀ x e,e∈t.els x→e.2.s.size<1000000000)→PCtr Tryz.prog 47 [t.av] (bV t.fairR):=by
 induction t using Tm.ind with
 | _ t ih =>
 intro hsz hns
 have hn0:t.s.size<1000000000:=hns 0 (0,t) (by rw [Tm.els_eq]; simp)
 have hl:=Tm.len_le_sizeL t.l
 have hs:=Tm.size_eq t
 refine PCtr.of_R (pf:=fun _=>.still) tyOk mixed Tryz.func47 rfl (by kernel_rfl) (by kernel_rfl) (by simp [Tryz.ntmps47]) fun w S hg=>?_
 refine R_run hg.ok 1000 rfl rfl ?_
 refine R_loop (fun k:Nat=>([(1,.lo 0 0),(3,iV k)],[boxR t])) (fun k=>k≤t.s.size∧∀ i (hi:i<t.s.size),i<k→byteOk t.s[i]=true) (fun k=>t.s.size - k) 0 ⟨Nat.zero_le _,fun i _ h=>absurd h (Nat.not_lt_zero _)⟩ ⟨.refl _,.refl _,trivial⟩ rfl ?_
 intro k hk
 refine R_run hg.ok 1000 rfl rfl ?_
 refine R_if rfl rfl (fun h=>?_) (fun h=>?_) <;> refine R_run hg.ok 1000 rfl rfl ?_
 ·have hk1:=lt_dec (n:=t.s.size) h rfl
  refine R_indexS hg.ok rfl rfl rfl rfl rfl (Int.natCast_nonneg k) (byte_at hk1) ?_
  refine R_run hg.ok 1000 rfl rfl ?_
  have bad:byteOk t.s[k]=false→t.fairR=false:=fun h=>by rw [Tm.fairR_eq,not_all_bytes hk1 h]; rfl
  refine R_if rfl rfl (fun h2=>?_) (fun h2=>?_) <;> refine R_run hg.ok 1000 rfl rfl ?_
  ·refine R_ret hg 5 rfl rfl ?_
   rw [bad (by unfold byteOk; rw [h2]; rfl)]; rfl
  refine R_indexS hg.ok rfl rfl rfl rfl rfl (Int.natCast_nonneg k) (byte_at hk1) ?_
  refine R_run hg.ok 1000 rfl rfl ?_
  refine R_if rfl rfl (fun h3=>?_) (fun h3=>?_) <;> refine R_run hg.ok 1000 rfl rfl ?_
  ·refine R_ret hg 5 rfl rfl ?_
   rw [bad (by unfold byteOk; rw [h3]; simp)]; rfl
  refine R_next (k+1) ⟨hk1,fun i hi hik=>?_⟩ (by omega) ⟨.refl _,Ent.wrap (by omega) (by omega) (by omega),trivial⟩ rfl
  rcases Nat.lt_or_ge i k with h | h
  ·exact hk.2 i hi h
  ·have:i=k:=by omega
   subst this
   unfold byteOk; rw [h2,h3]; rfl
 have hk1:=ge_dec (n:=t.s.size) h rfl
 have hall:t.s.data.toList.all byteOk=true:=all_bytes fun i hi=>hk.2 i hi (by omega)
 refine R_loop (fun k:Nat=>([(1,.lo 0 0),(4,iV k)],[boxR t])) (fun k=>k≤t.l.length∧Tm.fairRL t.l=Tm.fairRL (t.l.drop k)) (fun k=>t.l.length - k) 0 ⟨Nat.zero_le _,rfl⟩ ⟨.refl _,.refl _,trivial⟩ rfl ?_
 rintro k ⟨hk,hm⟩
 refine R_run hg.ok 1000 rfl rfl ?_
 refine R_if rfl rfl (fun h=>?_) (fun h=>?_) <;> refine R_run hg.ok 1000 rfl rfl ?_
 ·have hk1:k<t.l.length:=lt_dec h (by rw [Tm.rows_length])
  have e1:t.l[k]? = some t.l[k]:=List.getElem?_eq_getElem hk1
  have hsm:=Tm.size_mem (List.getElem_mem hk1)
  rw [List.drop_eq_getElem_cons hk1,Tm.fairRL] at hm
  refine R_index hg.ok rfl rfl rfl rfl rfl rfl (Int.natCast_nonneg k) (Tm.rows_get e1) rfl ?_
  refine R_run hg.ok 1000 rfl rfl ?_
  refine R_call hg.ok (ih _ (List.getElem_mem hk1) (by omega) (fun x e he=>hns (x - 1) e (by rw [Tm.els_eq]; exact List.mem_cons_of_mem _ (Tm.els_memL (List.getElem_mem hk1) (by rw [Int.sub_add_cancel]; exact he))))) rfl rfl rfl rfl rfl rfl ?_
  refine R_run hg.ok 1000 rfl rfl ?_
  refine R_if rfl rfl (fun h=>?_) (fun h=>?_) <;> refine R_run hg.ok 1000 rfl rfl ?_
  ·refine R_ret hg 5 rfl rfl ?_
   rw [Tm.fairR_eq,hm]; simp_all [bV]
  ·refine R_next (k+1) ⟨hk1,?_⟩ (by omega) ⟨.refl _,Ent.wrap (by omega) (by omega) (by omega),trivial⟩ rfl
   rw [hm]; simp_all
 have hk1:t.l.length≤k:=ge_dec h (by rw [Tm.rows_length])
 rw [List.drop_eq_nil_of_le hk1,Tm.fairRL] at hm
 iterate 12
  all_goals try (refine R_if rfl rfl (fun _=>?_) (fun _=>?_) <;> refine R_run hg.ok 1000 rfl rfl ?_)
 all_goals refine R_ret hg 5 rfl rfl ?_
 all_goals (rw [Tm.fairR_eq,hall,hm]; unfold Tm.kindR)
 all_goals (simp only [Tm.rows_length,beq_iff_eq,beq_eq_false_iff_ne,ne_eq,decide_eq_true_eq,decide_eq_false_iff_not] at *)
 all_goals (simp_all [bV])
 all_goals (intros; omega)

set_option maxRecDepth 100000 in
theorem refRight_ok (t:Tm) (hsz:t.size<1000000000) (hns:∀ x e,e∈t.els x→e.2.s.size<1000000000):PCtr Tryz.prog 18 [t.av] (bV t.rightB):=by
 refine PCtr.of_R (pf:=fun _=>.still) tyOk mixed Tryz.func18 rfl (by kernel_rfl) (by kernel_rfl) (by simp [Tryz.ntmps18]) fun w S hg=>?_
 refine R_run hg.ok 1000 rfl rfl ?_
 refine R_call hg.ok (fair_ok t hsz hns) rfl rfl rfl rfl rfl rfl ?_
 refine R_run hg.ok 1000 rfl rfl ?_
 refine R_if rfl rfl (fun _=>?_) (fun _=>?_) <;> refine R_run hg.ok 1000 rfl rfl ?_
 ·refine R_call hg.ok (refSize_ok t hsz) rfl rfl rfl rfl rfl rfl ?_
  refine R_run hg.ok 1000 rfl rfl ?_
  refine R_if rfl rfl (fun _=>?_) (fun _=>?_) <;> refine R_run hg.ok 1000 rfl rfl ?_
  ·refine R_call hg.ok (refDeep_ok t hsz) rfl rfl rfl rfl rfl rfl ?_
   refine R_run hg.ok 1000 rfl rfl ?_
   refine R_ret hg 5 rfl rfl ?_
   simp only [decide_eq_true_eq] at *
   unfold Tm.rightB
   show bV _=bV _
   congr 1
   rw [Bool.eq_iff_iff]
   simp_all
   omega
  ·refine R_ret hg 5 rfl rfl ?_
   simp only [decide_eq_false_iff_not] at *
   unfold Tm.rightB
   simp_all [bV]
   intros; omega
 ·refine R_ret hg 5 rfl rfl ?_
  unfold Tm.rightB
  simp_all [bV]

set_option maxRecDepth 100000 in
theorem few_ok (t:Tm):t.Ok→∀ m d:Int,PCtr Tryz.prog 19 [t.av,iV m,iV d] (iV (t.few m d)):=by
 induction t using Tm.ind with
 | _ t ih =>
 intro hok m d
 refine PCtr.of_R (pf:=fun _=>.still) tyOk mixed Tryz.func19 rfl (by kernel_rfl) (by kernel_rfl) (by simp [Tryz.ntmps19]) fun w S hg=>?_
 refine R_run hg.ok 1000 rfl rfl ?_
 iterate 3
  refine R_if rfl rfl (fun _=>?_) (fun _=>?_) <;> refine R_run hg.ok 1000 rfl rfl ?_
  ·refine R_ret hg 5 rfl rfl ?_
   rw [Tm.few_eq,if_pos (by simp_all [Tm.fewStep])]; rfl
 have hfs:Tm.fewStep t.s m d=false:=by simp_all [Tm.fewStep]
 have hlen:=hok.len
 refine R_loop (fun x:Nat × Int=>([(1,iV x.2),(2,iV d),(3,.lo 0 0),(7,iV x.1)],[boxR t])) (fun x=>x.1≤t.l.length∧t.few m d=Tm.fewL (t.l.drop x.1) x.2 (IntKind.i64.wrap (d - 1))) (fun x=>t.l.length - x.1) (0,IntKind.i64.wrap (m - 1)) ⟨Nat.zero_le _,by rw [Tm.few_eq,hfs]; rfl⟩ ⟨.refl _,.refl _,.refl _,.refl _,trivial⟩ rfl ?_
 rintro ⟨k,q⟩ ⟨hk,hm⟩
 simp only at hk hm
 refine R_run hg.ok 1000 rfl rfl ?_
 refine R_if rfl rfl (fun h=>?_) (fun h=>?_) <;> refine R_run hg.ok 1000 rfl rfl ?_
 ·have hk1:k<t.l.length:=lt_dec h (by rw [Tm.rows_length])
  have e1:t.l[k]? = some t.l[k]:=List.getElem?_eq_getElem hk1
  rw [List.drop_eq_getElem_cons hk1,Tm.fewL] at hm
  refine R_if rfl rfl (fun h2=>?_) (fun h2=>?_) <;> refine R_run hg.ok 1000 rfl rfl ?_
  ·rw [if_pos (of_decide_eq_true h2)] at hm
   refine R_index hg.ok rfl rfl rfl rfl rfl rfl (Int.natCast_nonneg k) (Tm.rows_get e1) rfl ?_
   refine R_run hg.ok 1000 rfl rfl ?_
   refine R_call hg.ok (ih _ (List.getElem_mem hk1) (hok.sub (List.getElem_mem hk1)) _ _) rfl rfl rfl rfl rfl rfl ?_
   refine R_run hg.ok 1000 rfl rfl ?_
   exact R_next (k+1,t.l[k].few q (IntKind.i64.wrap (d - 1))) ⟨hk1,hm⟩ (by simp only; omega) ⟨.refl _,.refl _,.refl _,Ent.wrap (by simp only; omega) (by simp only; omega) (by simp only; omega),trivial⟩ rfl
  ·rw [if_neg (of_decide_eq_false h2)] at hm
   refine R_ret hg 5 rfl rfl ?_
   rw [hm]; rfl
 ·have hk1:t.l.length≤k:=ge_dec h (by rw [Tm.rows_length])
  refine R_ret hg 5 rfl rfl ?_
  rw [List.drop_eq_nil_of_le hk1,Tm.fewL] at hm
  rw [hm]; rfl
end Go.Proofs.YtcgkgofmldhokaaGreat

namespace Go.Proofs.YtcgkgofmldhokaaGreat
open Go PSL Go.Proofs
def vobjs (acc:List Int):List Ob:=[.map (imap (setI acc)),.box [.mp 0],.box [.ow 3 acc.length],.arr 1 acc.length (irows acc)]
def accN (acc:List Int) (t:Tm) (n:Nat):List Int:=((t.els 1).take n).foldl stepV acc
theorem vdrop (f:AV→AV) (h:f .tt=.tt) (a:List Int) (r:List Ob):mapOb f (.map (imap (setI a)))::r=.map (imap (setI a))::r:=by rw [mapOb_set h]
theorem setI_snoc (a:List Int) (n:Int):setI a++[(n,.tt)]=setI (a++[n]):=by simp [setI]
theorem irows_snoc (a:List Int) (n:Int):irows a++[[.v (.int .i64 n)]]=irows (a++[n]):=by simp [irows,irow]
theorem addV_len (l:List Int) (x:Int):(addV l x).length≤l.length+1:=by unfold addV; split <;> simp

theorem foldl_lenV:∀ (l:List (Int × Tm)) (a:List Int),(l.foldl stepV a).length≤a.length+l.length
 | [],a=>by simp
 | e::l,a=>by
  have:=foldl_lenV l (stepV a e)
  have h2:(stepV a e).length≤a.length+1:=by unfold stepV; split; exact addV_len _ _; omega
  simp only [List.foldl_cons,List.length_cons]; omega
def varsF (a:List Int) (l:List Tm):List Int:=l.foldl (fun a t=>(t.els 1).foldl stepV a) a

theorem varsF_len:∀ (l:List Tm) (a:List Int),(varsF a l).length≤a.length+Tm.sizeL l
 | [],a=>by simp [varsF]
 | t::r,a=>by
  have:=varsF_len r ((t.els 1).foldl stepV a)
  have h:=foldl_lenV (t.els 1) a
  rw [Tm.els_len] at h
  simp only [varsF,List.foldl_cons,Tm.sizeL] at this ⊢; omega

set_option maxRecDepth 100000 in
theorem vars_ok (l:List Tm) (hsz:Tm.sizeL l<1000000000):PCtr Tryz.prog 70 [.d (.sl (Tm.rows l))] (.d (.sl (irows (varsT l)))):=by
 refine PCtr.of_R (pf:=fun _=>.eff) tyOk mixed Tryz.func70 rfl (by kernel_rfl) (by kernel_rfl) (by simp [Tryz.ntmps70]) fun w S hg=>?_
 refine R_run hg.ok 1000 rfl rfl ?_
 refine R_makeMap hg.ok rfl rfl ?_
 refine R_run hg.ok 1000 rfl rfl ?_
 refine R_ownB 2 0 1 rfl rfl rfl ?_
 refine R_loop (fun x:Nat × List Int=>([(3,.lo 1 0),(4,.lo 2 0),(10,.d (.sl (Tm.rows l))),(11,iV l.length),(12,iV x.1)],vobjs x.2)) (fun x=>x.1≤l.length∧varsT l=varsF x.2 (l.drop x.1)∧x.2.length+Tm.sizeL (l.drop x.1)≤Tm.sizeL l) (fun x=>l.length - x.1) (0,[]) ⟨Nat.zero_le _,rfl,by simp⟩ ⟨.refl _,.refl _,.refl _,Ent.int (by rw [Tm.rows_length]),.refl _,trivial⟩ rfl ?_
 rintro ⟨k,acc⟩ ⟨hk,hm,hal⟩
 simp only at hk hm hal
 have hl:=Tm.len_le_sizeL l
 refine R_run hg.ok 1000 rfl rfl ?_
 refine R_if rfl rfl (fun h=>?_) (fun h=>?_) <;> refine R_run hg.ok 1000 rfl rfl ?_
 ·have hk1:k<l.length:=lt_dec h rfl
  have e1:l[k]? = some l[k]:=List.getElem?_eq_getElem hk1
  rw [List.drop_eq_getElem_cons hk1] at hm hal
  simp only [Tm.sizeL] at hal
  refine R_index hg.ok rfl rfl rfl rfl rfl rfl (Int.natCast_nonneg k) (Tm.rows_get e1) rfl ?_
  refine R_run hg.ok 1000 rfl rfl ?_
  refine R_call hg.ok (each_ok l[k]) rfl rfl rfl rfl rfl rfl ?_
  refine R_run hg.ok 1000 rfl rfl ?_
  generalize l[k]=t at *
  refine R_range hg.ok hg.gup ⟨rfl,rfl⟩ rfl (t.els 1) Tm.enc ⟨(t.els 1).map Tm.enc,fun _=>true⟩ rfl (fun n=>vobjs (accN acc t n)++[boxR t]) (fun _ _=>[(3,.lo 1 0),(4,.lo 2 0),(8,.lo 5 0)]) (fun n e=>vobjs (accN acc t n)++[boxR t,boxR e.2]) _ .ret rfl rfl rfl (each1_ok _ t (by omega) fun _ _ h=>els_ys h) rfl (fun _ _=>rfl) rfl ?_ ?_ ?_ rfl rfl (fun _ h=>by cases h)
  ·intro n x hx _ L w R0 X φ0 _ hamb
   refine R_run (gRound_ok hg.ok _ _ _ _ _ hamb) 1000 rfl rfl ?_
   exact R_finA ⟨.refl _,.refl _,.refl _,trivial⟩ rfl
  ·intro n x hx _ L w R0 X φ0 hφ0 hamb
   have hg':=gRound_ok hg.ok L w R0 X φ0 hamb
   have hn:=els_lt hx
   have hstep:accN acc t (n+1)=stepV (accN acc t n) x:=by unfold accN; rw [List.take_add_one,hx,List.foldl_append]; rfl
   have hlen:(accN acc t n).length≤acc.length+n:=by
    have:=foldl_lenV ((t.els 1).take n) acc
    unfold accN; rw [List.length_take] at this; omega
   rw [hstep]
   generalize accN acc t n=a at *
   refine R_run hg' 1000 rfl rfl ?_
   refine R_if rfl rfl (fun h1=>?_) (fun h1=>?_) <;> refine R_run hg' 1000 rfl rfl ?_
   ·have hx1:x.2.k=1:=by simpa using h1
    by_cases hmem:a.contains x.2.n=true
    ·refine R_lookupI hg' (setI a) rfl rfl rfl rfl rfl rfl rfl (zv:=.bool false) (by kernel_rfl) (v:=.tt) (by rw [getI_set,if_pos hmem]; rfl) ?_
     refine R_run hg' 1000 rfl rfl ?_
     refine R_dropO 5 _ (by rw [show (gRound _ L w R0 X φ0).φ0=φ0 from rfl,hφ0]; exact Nat.le_refl _) rfl (vdrop (trimA 5) rfl _ _) ?_
     exact R_finB rfl (by unfold stepV addV; rw [if_pos hx1,if_pos hmem]; rfl)
    ·have hmem':a.contains x.2.n=false:=by simpa using hmem
     refine R_lookupI hg' (setI a) rfl rfl rfl rfl rfl rfl rfl (zv:=.bool false) (by kernel_rfl) (v:=.ff) (by rw [getI_set,hmem']; rfl) ?_
     refine R_run hg' 1000 rfl rfl ?_
     refine R_mapAddI hg' (setI a) rfl rfl rfl rfl rfl rfl rfl (by rw [getI_set,hmem']; rfl) ?_
     rw [show ∀ E:Env,ev E (.const (.bool true))=.tt from fun _=>rfl,setI_snoc]
     refine R_run hg' 1000 rfl rfl ?_
     refine R_append hg' rfl rfl rfl rfl rfl rfl rfl rfl rfl (by simp) (by simp [one1]) (by simp [irows_length]; omega) (by simp [irows_length]; omega) ?_
     rw [irows_snoc]
     refine R_run hg' 1000 rfl rfl ?_
     refine R_dropO 5 _ (by rw [show (gRound _ L w R0 X φ0).φ0=φ0 from rfl,hφ0]; exact Nat.le_refl _) rfl (vdrop (trimA 5) rfl _ _) ?_
     refine R_finB rfl ?_
     unfold stepV addV; rw [if_pos hx1,hmem']
     simp only [Bool.false_eq_true,if_false,vobjs,List.length_append,List.length_cons,List.length_nil]; rfl
   ·have hx1:¬ x.2.k=1:=by simpa using h1
    refine R_dropO 5 _ (by rw [show (gRound _ L w R0 X φ0).φ0=φ0 from rfl,hφ0]; exact Nat.le_refl _) rfl (vdrop (trimA 5) rfl _ _) ?_
    exact R_finB rfl (by unfold stepV; rw [if_neg hx1]; rfl)
  ·intro _
   rw [adv_allT (fun _=>rfl)]
   refine R_run hg.ok 1000 rfl rfl ?_
   refine R_dropO 4 _ (Nat.zero_le _) rfl (vdrop (trimA 4) rfl _ _) ?_
   have hA:accN acc t (0+t.size)=(t.els 1).foldl stepV acc:=by unfold accN; rw [List.take_of_length_le (by rw [Tm.els_len]; omega)]
   have hfl:=foldl_lenV (t.els 1) acc
   rw [Tm.els_len] at hfl
   rw [hA]
   refine R_next (k+1,(t.els 1).foldl stepV acc) ⟨hk1,hm,by simp only; omega⟩ (by simp only; omega) ⟨.refl _,.refl _,.refl _,.refl _,Ent.wrap (by simp only; omega) (by simp only; omega) (by simp only; omega),trivial⟩ rfl
 ·have hk1:l.length≤k:=ge_dec h rfl
  refine R_ret hg 5 rfl (sealA_ow rfl) ?_
  rw [hm,List.drop_eq_nil_of_le hk1]; rfl
end Go.Proofs.YtcgkgofmldhokaaGreat

namespace Go.Proofs.YtcgkgofmldhokaaGreat
open Go PSL Go.Proofs
end Go.Proofs.YtcgkgofmldhokaaGreat

namespace Go.Proofs.YtcgkgofmldhokaaGreat
open Go PSL Go.Proofs

theorem varsT_one_len (t:Tm):(varsT [t]).length≤t.size:=by
 have:=varsF_len [t] []
 simpa [varsF,varsT,Tm.sizeL] using this
end Go.Proofs.YtcgkgofmldhokaaGreat

namespace Go.Proofs.YtcgkgofmldhokaaGreat
open Go PSL Go.Proofs
def ckO (v left:Int):List Ob:=[.box [iV v,iV left]]

set_option maxRecDepth 100000 in
theorem ckTerm_ok (Y:YP) (v left:Int) (t:Tm) (ht:SmT t):SCtr Tryz.prog Y 103 [.lo 0 0,t.av] (ckO v left) (bV (chkT v t)) (ckO v left):=by
 refine SCtr.of_R (pf:=fun _=>.eff) tyOk mixed Tryz.func103 rfl (by kernel_rfl) (by kernel_rfl) (by simp [Tryz.ntmps103]) (by simp) fun w S φ hg=>?_
 refine R_run hg.ok 1000 rfl rfl ?_
 refine R_call hg.ok (right_ok t (by have:=ht.1; omega) (ht.2 1)) rfl rfl rfl rfl rfl rfl ?_
 refine R_run hg.ok 1000 rfl rfl ?_
 refine R_if rfl rfl (fun h=>?_) (fun h=>?_) <;> refine R_run hg.ok 1000 rfl rfl ?_
 ·have h:rightT t=false:=by simpa using h
  rw [show chkT v t=false by unfold chkT; rw [h]; rfl]
  exact R_retS hg 1 5 (Nat.le_refl _) rfl rfl rfl
 have h:rightT t=true:=by simpa using h
 have hv:=(vars_ok [t] (by have:=ht.1; simp [Tm.sizeL]; omega)).one
 have hlen:(varsT [t]).length≤t.size:=varsT_one_len t
 have hc:chkT v t=(varsT [t]).all fun x=>decide (x<v):=by unfold chkT; rw [h]; rfl
 generalize varsT [t]=V at *
 have hs:=ht.1
 refine R_call hg.ok (hv) rfl rfl rfl rfl rfl rfl ?_
 refine R_run hg.ok 1000 rfl rfl ?_
 refine R_loop (fun k:Nat=>([(0,.lo 0 0),(12,.d (.sl (irows V))),(13,iV V.length),(14,iV k)],ckO v left++[boxR t])) (fun k=>k≤V.length∧chkT v t=(V.drop k).all fun x=>decide (x<v)) (fun k=>V.length - k) 0 ⟨Nat.zero_le _,hc⟩ ⟨.refl _,.refl _,by rw [irows_length]; exact .refl _,.refl _,trivial⟩ rfl ?_
 rintro k ⟨hk,hm⟩
 refine R_run hg.ok 1000 rfl rfl ?_
 refine R_if rfl rfl (fun h=>?_) (fun h=>?_) <;> refine R_run hg.ok 1000 rfl rfl ?_
 ·have hk1:k<V.length:=lt_dec h rfl
  have e1:V[k]? = some V[k]:=List.getElem?_eq_getElem hk1
  rw [List.drop_eq_getElem_cons hk1,List.all_cons] at hm
  generalize V[k]=x at e1 hm
  refine R_index hg.ok rfl rfl rfl rfl rfl rfl (Int.natCast_nonneg _) (irows_get e1) rfl ?_
  refine R_run hg.ok 1000 rfl rfl ?_
  refine R_if rfl rfl (fun h=>?_) (fun h=>?_) <;> refine R_run hg.ok 1000 rfl rfl ?_
  ·rw [hm,show decide (x<v)=false by simpa using h]
   exact R_retS hg 1 5 (Nat.le_refl _) rfl rfl rfl
  ·exact R_next (k+1) ⟨hk1,by rw [hm,show decide (x<v)=true by simpa using h,Bool.true_and]⟩ (by omega) ⟨.refl _,.refl _,.refl _,Ent.wrap (by omega) (by omega) (by omega),trivial⟩ rfl
 ·have hk1:V.length≤k:=ge_dec h rfl
  rw [hm,List.drop_eq_nil_of_le hk1]
  exact R_retS hg 1 5 (Nat.le_refl _) rfl rfl rfl
end Go.Proofs.YtcgkgofmldhokaaGreat

namespace Go.Proofs.YtcgkgofmldhokaaGreat
open Go PSL Go.Proofs
def glBox (g:Gl):Ob:=.box [.d (.v (.int .i64 g.k)),.d (.v (.int .i64 g.t.k)),.d (.v (.string g.t.s)),.d (.v (.int .i64 g.t.n)),.d (.sl (Tm.rows g.t.l)),.d (.sl (Gl.rows g.a)),.d (.sl (Gl.rows g.b)),.d (.sl (Gl.rows g.c))]

def CkG (Y:YP) (v:Int) (l:List Gl):Prop:=∀ (left deep:Int) (cuts:Bool),allGL SmT l→(Gl.sizeL l:Int) - 1000000000≤left→left≤1000→0≤deep→deep+Gl.sizeL l≤1000000000 →
 SCtr Tryz.prog Y 104 [.lo 0 0,.d (.sl (Gl.rows l)),iV deep,bV cuts] (ckO v left) (bV (chkL v l left deep cuts).1) (ckO v (chkL v l left deep cuts).2)

theorem none_eq (a b c:List Gl):(((a.length:Int)+b.length+c.length)==0)=noneG a b c:=by
 unfold noneG
 rw [Bool.eq_iff_iff]
 simp only [beq_iff_eq,decide_eq_true_eq]
 omega

set_option maxHeartbeats 4000000 in
set_option maxRecDepth 100000 in
theorem ckGoals_ok (Y:YP) (v:Int) (l:List Gl):CkG Y v l:=by
 refine Gl.indL (p:=CkG Y v) (fun l hsub=>?_) l
 intro left deep cuts hl h1 h2 h3 h4
 have hlen:=Gl.len_size l
 refine SCtr.of_R (pf:=fun _=>.eff) tyOk mixed Tryz.func104 rfl (by kernel_rfl) (by kernel_rfl) (by simp [Tryz.ntmps104]) (by simp [ckO]) fun w S φ hg=>?_
 refine R_run hg.ok 1000 rfl rfl ?_
 refine R_loop (fun x:Nat × Int=>([(0,.lo 0 0),(2,iV deep),(3,bV cuts),(13,.d (.sl (Gl.rows l))),(14,iV l.length),(15,iV x.1)],ckO v x.2)) (fun x=>x.1≤l.length∧chkL v l left deep cuts=chkL v (l.drop x.1) x.2 deep cuts∧(Gl.sizeL (l.drop x.1):Int) - 1000000000≤x.2∧x.2≤1000) (fun x=>l.length - x.1) (0,left) ⟨Nat.zero_le _,rfl,h1,h2⟩ ⟨.refl _,.refl _,.refl _,.refl _,by rw [Gl.rows_length]; exact .refl _,.refl _,trivial⟩ rfl ?_
 rintro ⟨k,left'⟩ ⟨hk,hm,hb1,hb2⟩
 refine R_run hg.ok 1000 rfl rfl ?_
 refine R_if rfl rfl (fun h=>?_) (fun h=>?_) <;> refine R_run hg.ok 1000 rfl rfl ?_
 ·have hk1:k<l.length:=lt_dec h rfl
  have e1:l[k]? = some l[k]:=List.getElem?_eq_getElem hk1
  have hmem:=List.getElem_mem hk1
  rw [List.drop_eq_getElem_cons hk1] at hm hb1
  generalize l[k]=g at e1 hm hmem hb1
  have hsz:=Gl.size_mem hmem
  obtain ⟨sa,sb,sc⟩:=hsub g hmem
  obtain ⟨st,ma,mb,mc⟩:=allGL_mem hl g hmem
  simp only [Gl.sizeL] at hb1
  have hge:=Gl.size_eq g
  have hla:=Gl.len_size g.a
  have hlb:=Gl.len_size g.b
  have hlc:=Gl.len_size g.c
  have htp:=Gl.tmPos g.t
  have hw:IntKind.i64.wrap (left' - 1)=left' - 1:=w64 (by omega) (by omega)
  refine R_index hg.ok rfl rfl rfl rfl rfl rfl (Int.natCast_nonneg _) (Gl.rows_get e1) rfl ?_
  refine R_run hg.ok 1000 rfl rfl ?_
  rw [hw,Gl.rows_length g.a,Gl.rows_length g.b,Gl.rows_length g.c,w64 (n:=(g.a.length:Int)+g.b.length) (by omega) (by omega),w64 (n:=(g.a.length:Int)+g.b.length+g.c.length) (by omega) (by omega),none_eq]
  refine R_cut1 (fun x:Bool × Int=>([(0,.lo 0 0),(2,iV deep),(3,bV cuts),(12,bV x.1),(13,.d (.sl (Gl.rows l))),(14,iV l.length),(15,iV k)],ckO v x.2++[glBox g])) (fun x=>x=chk1 v g (left' - 1) deep cuts) rfl ?_ ?_
  ·by_cases c1:g.k=1
   ·have hx:chk1 v g (left' - 1) deep cuts=(noneG g.a g.b g.c&&chkT v g.t&&ownB g.t,left' - 1):=by rw [chk1_eq,if_pos c1]
    refine R_if rfl rfl (fun _=>?_) (fun h=>absurd h (by simp [c1])) <;> refine R_run hg.ok 1000 rfl rfl ?_
    refine R_if rfl rfl (fun n1=>?_) (fun n1=>?_) <;> refine R_run hg.ok 1000 rfl rfl ?_
    ·refine R_callSO hg.ok hg.gup hg.wide hg.Y [0] (ckO v (left' - 1)++[glBox g]) (ckTerm_ok Y v (left' - 1) g.t st) (fun _=>rfl) rfl rfl rfl rfl rfl rfl rfl rfl ?_
     refine R_run hg.ok 1000 rfl rfl ?_
     refine R_if rfl rfl (fun n2=>?_) (fun n2=>?_) <;> refine R_run hg.ok 1000 rfl rfl ?_
     ·refine R_call hg.ok (own_ok11 g.t) rfl rfl rfl rfl rfl rfl ?_
      refine R_run hg.ok 1000 rfl rfl ?_
      exact R_to (ownB g.t,left' - 1) (by rw [hx,n1,n2]; rfl) ⟨.refl _,.refl _,.refl _,.refl _,.refl _,.refl _,.refl _,trivial⟩ rfl
     ·exact R_to (false,left' - 1) (by rw [hx,n1,n2]; rfl) ⟨.refl _,.refl _,.refl _,(by first | exact .refl _ | exact .ff),.refl _,.refl _,.refl _,trivial⟩ rfl
    ·exact R_to (false,left' - 1) (by rw [hx,n1]; rfl) ⟨.refl _,.refl _,.refl _,(by first | exact .refl _ | exact .ff),.refl _,.refl _,.refl _,trivial⟩ rfl
   refine R_if rfl rfl (fun h=>absurd h (by simp [c1])) (fun _=>?_) <;> refine R_run hg.ok 1000 rfl rfl ?_
   by_cases c2:g.k=2
   ·have hx:chk1 v g (left' - 1) deep cuts=(noneG g.a g.b g.c&&chkT v g.t&&(g.t.k==3)&&bltB (sgOf g.t),left' - 1):=by rw [chk1_eq,if_neg c1,if_pos c2]
    refine R_if rfl rfl (fun _=>?_) (fun h=>absurd h (by simp [c2])) <;> refine R_run hg.ok 1000 rfl rfl ?_
    refine R_if rfl rfl (fun n1=>?_) (fun n1=>?_) <;> refine R_run hg.ok 1000 rfl rfl ?_
    ·refine R_callSO hg.ok hg.gup hg.wide hg.Y [0] (ckO v (left' - 1)++[glBox g]) (ckTerm_ok Y v (left' - 1) g.t st) (fun _=>rfl) rfl rfl rfl rfl rfl rfl rfl rfl ?_
     refine R_run hg.ok 1000 rfl rfl ?_
     refine R_if rfl rfl (fun n2=>?_) (fun n2=>?_) <;> refine R_run hg.ok 1000 rfl rfl ?_
     ·refine R_if rfl rfl (fun n3=>?_) (fun n3=>?_) <;> refine R_run hg.ok 1000 rfl rfl ?_
      ·refine R_call hg.ok (builtinT_ok g.t) rfl rfl rfl rfl rfl rfl ?_
       refine R_run hg.ok 1000 rfl rfl ?_
       exact R_to (bltB (sgOf g.t),left' - 1) (by rw [hx,n1,n2,n3]; rfl) ⟨.refl _,.refl _,.refl _,.refl _,.refl _,.refl _,.refl _,trivial⟩ rfl
      ·exact R_to (false,left' - 1) (by rw [hx,n1,n2,n3]; rfl) ⟨.refl _,.refl _,.refl _,(by first | exact .refl _ | exact .ff),.refl _,.refl _,.refl _,trivial⟩ rfl
     ·exact R_to (false,left' - 1) (by rw [hx,n1,n2]; rfl) ⟨.refl _,.refl _,.refl _,(by first | exact .refl _ | exact .ff),.refl _,.refl _,.refl _,trivial⟩ rfl
    ·exact R_to (false,left' - 1) (by rw [hx,n1]; rfl) ⟨.refl _,.refl _,.refl _,(by first | exact .refl _ | exact .ff),.refl _,.refl _,.refl _,trivial⟩ rfl
   refine R_if rfl rfl (fun h=>absurd h (by simp [c2])) (fun _=>?_) <;> refine R_run hg.ok 1000 rfl rfl ?_
   by_cases c3:g.k=3
   ·have hx:chk1 v g (left' - 1) deep cuts=(noneG g.a g.b g.c&&nothB g.t&&cuts,left' - 1):=by rw [chk1_eq,if_neg c1,if_neg c2,if_pos c3]
    refine R_if rfl rfl (fun _=>?_) (fun h=>absurd h (by simp [c3])) <;> refine R_run hg.ok 1000 rfl rfl ?_
    refine R_if rfl rfl (fun n1=>?_) (fun n1=>?_) <;> refine R_run hg.ok 1000 rfl rfl ?_
    ·refine R_call hg.ok (nothing_ok g.t) rfl rfl rfl rfl rfl rfl ?_
     refine R_run hg.ok 1000 rfl rfl ?_
     refine R_if rfl rfl (fun n2=>?_) (fun n2=>?_) <;> refine R_run hg.ok 1000 rfl rfl ?_
     ·exact R_to (cuts,left' - 1) (by rw [hx,n1,n2]; rfl) ⟨.refl _,.refl _,.refl _,.refl _,.refl _,.refl _,.refl _,trivial⟩ rfl
     ·exact R_to (false,left' - 1) (by rw [hx,n1,n2]; rfl) ⟨.refl _,.refl _,.refl _,(by first | exact .refl _ | exact .ff),.refl _,.refl _,.refl _,trivial⟩ rfl
    ·exact R_to (false,left' - 1) (by rw [hx,n1]; rfl) ⟨.refl _,.refl _,.refl _,(by first | exact .refl _ | exact .ff),.refl _,.refl _,.refl _,trivial⟩ rfl
   refine R_if rfl rfl (fun h=>absurd h (by simp [c3])) (fun _=>?_) <;> refine R_run hg.ok 1000 rfl rfl ?_
   have la:=chk_low v g.a (left' - 1) (deep+1) false
   have la2:=(bothL v g.a (left' - 1) (deep+1) false).2.2
   have lb:=chk_low v g.b (chkL v g.a (left' - 1) (deep+1) false).2 (deep+1) cuts
   have lb2:=(bothL v g.b (chkL v g.a (left' - 1) (deep+1) false).2 (deep+1) cuts).2.2
   have hwd:IntKind.i64.wrap (deep+1)=deep+1:=w64 (by omega) (by omega)
   have CA:=sa (left' - 1) (deep+1) false ma (by omega) (by omega) (by omega) (by omega)
   by_cases c4:g.k=4
   ·have CB:=sb (chkL v g.a (left' - 1) (deep+1) false).2 (deep+1) cuts mb (by omega) (by omega) (by omega) (by omega)
    have CC:=sc (chkL v g.b (chkL v g.a (left' - 1) (deep+1) false).2 (deep+1) cuts).2 (deep+1) cuts mc (by omega) (by omega) (by omega) (by omega)
    have hx:=chk1_eq v g (left' - 1) deep cuts
    rw [if_neg c1,if_neg c2,if_neg c3,if_pos c4] at hx
    refine R_if rfl rfl (fun _=>?_) (fun h=>absurd h (by simp [c4])) <;> refine R_run hg.ok 1000 rfl rfl ?_
    refine R_call hg.ok (nothing_ok g.t) rfl rfl rfl rfl rfl rfl ?_
    refine R_run hg.ok 1000 rfl rfl ?_
    refine R_if rfl rfl (fun n1=>?_) (fun n1=>?_) <;> refine R_run hg.ok 1000 rfl rfl ?_
    ·rw [if_pos n1] at hx
     rw [hwd]
     refine R_callSO hg.ok hg.gup hg.wide hg.Y [0] (ckO v (chkL v g.a (left' - 1) (deep+1) false).2++[glBox g]) (CA) (fun _=>rfl) rfl rfl rfl rfl rfl rfl rfl rfl ?_
     refine R_run hg.ok 1000 rfl rfl ?_
     refine R_if rfl rfl (fun n2=>?_) (fun n2=>?_) <;> refine R_run hg.ok 1000 rfl rfl ?_
     ·rw [if_pos n2] at hx
      rw [hwd]
      refine R_callSO hg.ok hg.gup hg.wide hg.Y [0] (ckO v (chkL v g.b (chkL v g.a (left' - 1) (deep+1) false).2 (deep+1) cuts).2++[glBox g]) (CB) (fun _=>rfl) rfl rfl rfl rfl rfl rfl rfl rfl ?_
      refine R_run hg.ok 1000 rfl rfl ?_
      refine R_if rfl rfl (fun n3=>?_) (fun n3=>?_) <;> refine R_run hg.ok 1000 rfl rfl ?_
      ·rw [if_pos n3] at hx
       rw [hwd]
       refine R_callSO hg.ok hg.gup hg.wide hg.Y [0] (ckO v (chkL v g.c (chkL v g.b (chkL v g.a (left' - 1) (deep+1) false).2 (deep+1) cuts).2 (deep+1) cuts).2++[glBox g]) (CC) (fun _=>rfl) rfl rfl rfl rfl rfl rfl rfl rfl ?_
       refine R_run hg.ok 1000 rfl rfl ?_
       exact R_to (chkL v g.c (chkL v g.b (chkL v g.a (left' - 1) (deep+1) false).2 (deep+1) cuts).2 (deep+1) cuts) hx.symm ⟨.refl _,.refl _,.refl _,.refl _,.refl _,.refl _,.refl _,trivial⟩ rfl
      ·rw [if_neg (by rw [n3]; simp)] at hx
       exact R_to (false,(chkL v g.b (chkL v g.a (left' - 1) (deep+1) false).2 (deep+1) cuts).2) hx.symm ⟨.refl _,.refl _,.refl _,(by first | exact .refl _ | exact .ff),.refl _,.refl _,.refl _,trivial⟩ rfl
     ·rw [if_neg (by rw [n2]; simp)] at hx
      exact R_to (false,(chkL v g.a (left' - 1) (deep+1) false).2) hx.symm ⟨.refl _,.refl _,.refl _,(by first | exact .refl _ | exact .ff),.refl _,.refl _,.refl _,trivial⟩ rfl
    ·rw [if_neg (by rw [n1]; simp)] at hx
     exact R_to (false,left' - 1) hx.symm ⟨.refl _,.refl _,.refl _,(by first | exact .refl _ | exact .ff),.refl _,.refl _,.refl _,trivial⟩ rfl
   refine R_if rfl rfl (fun h=>absurd h (by simp [c4])) (fun _=>?_) <;> refine R_run hg.ok 1000 rfl rfl ?_
   by_cases c5:g.k=5
   ·have hx:=chk1_eq v g (left' - 1) deep cuts
    rw [if_neg c1,if_neg c2,if_neg c3,if_neg c4,if_pos c5] at hx
    refine R_if rfl rfl (fun _=>?_) (fun h=>absurd h (by simp [c5])) <;> refine R_run hg.ok 1000 rfl rfl ?_
    refine R_call hg.ok (nothing_ok g.t) rfl rfl rfl rfl rfl rfl ?_
    refine R_run hg.ok 1000 rfl rfl ?_
    refine R_if rfl rfl (fun n1=>?_) (fun n1=>?_) <;> refine R_run hg.ok 1000 rfl rfl ?_
    ·rw [Gl.rows_length g.b,Gl.rows_length g.c,w64 (n:=(g.b.length:Int)+g.c.length) (by omega) (by omega)]
     refine R_if rfl rfl (fun n2=>?_) (fun n2=>?_) <;> refine R_run hg.ok 1000 rfl rfl ?_
     ·rw [n1,decide_eq_true (show g.b.length+g.c.length=0 by simp at n2; omega)] at hx
      simp only [Bool.and_self,if_true] at hx
      rw [hwd]
      refine R_callSO hg.ok hg.gup hg.wide hg.Y [0] (ckO v (chkL v g.a (left' - 1) (deep+1) false).2++[glBox g]) (CA) (fun _=>rfl) rfl rfl rfl rfl rfl rfl rfl rfl ?_
      refine R_run hg.ok 1000 rfl rfl ?_
      exact R_to (chkL v g.a (left' - 1) (deep+1) false) hx.symm ⟨.refl _,.refl _,.refl _,.refl _,.refl _,.refl _,.refl _,trivial⟩ rfl
     ·rw [n1,decide_eq_false (show ¬ g.b.length+g.c.length=0 by simp at n2; omega)] at hx
      exact R_to (false,left' - 1) hx.symm ⟨.refl _,.refl _,.refl _,(by first | exact .refl _ | exact .ff),.refl _,.refl _,.refl _,trivial⟩ rfl
    ·rw [n1] at hx
     exact R_to (false,left' - 1) hx.symm ⟨.refl _,.refl _,.refl _,(by first | exact .refl _ | exact .ff),.refl _,.refl _,.refl _,trivial⟩ rfl
   refine R_if rfl rfl (fun h=>absurd h (by simp [c5])) (fun _=>?_) <;> refine R_run hg.ok 1000 rfl rfl ?_
   have hx:=chk1_eq v g (left' - 1) deep cuts
   rw [if_neg c1,if_neg c2,if_neg c3,if_neg c4,if_neg c5] at hx
   exact R_to (false,left' - 1) hx.symm ⟨.refl _,.refl _,.refl _,(by first | exact .refl _ | exact .ff),.refl _,.refl _,.refl _,trivial⟩ rfl
  ·rintro ⟨fair,left2⟩ hx
   have hlw:=chk1_low v g (left' - 1) deep cuts
   simp only [chkL] at hm
   rw [← hx] at hm hlw
   simp only at hm hlw
   refine R_run hg.ok 1000 rfl rfl ?_
   refine R_if rfl rfl (fun n1=>?_) (fun n1=>?_) <;> refine R_run hg.ok 1000 rfl rfl ?_
   ·have n1:fair=false:=by simpa using n1
    subst n1
    rw [if_pos (by simp)] at hm
    rw [hm]
    exact R_retS hg 1 5 (Nat.le_refl _) rfl rfl rfl
   ·have n1:fair=true:=by simpa using n1
    subst n1
    refine R_if rfl rfl (fun n2=>?_) (fun n2=>?_) <;> refine R_run hg.ok 1000 rfl rfl ?_
    ·rw [if_pos (by rw [n2]; simp)] at hm
     rw [hm]
     exact R_retS hg 1 5 (Nat.le_refl _) rfl rfl rfl
    ·refine R_if rfl rfl (fun n3=>?_) (fun n3=>?_) <;> refine R_run hg.ok 1000 rfl rfl ?_
     ·rw [if_pos (by rw [show decide (10<deep)=true from n3]; simp)] at hm
      rw [hm]
      exact R_retS hg 1 5 (Nat.le_refl _) rfl rfl rfl
     ·rw [if_neg (by rw [n2,show decide (10<deep)=false from n3]; simp)] at hm
      refine R_dropO 1 (ckO v left2) (by show φ.length≤1; exact Nat.le_of_eq hg.hs0.len) rfl rfl ?_
      exact R_next (k+1,left2) ⟨hk1,hm,by show (Gl.sizeL (l.drop (k+1)):Int) - 1000000000≤left2; omega,by show left2≤1000; omega⟩ (by simp only; omega) ⟨.refl _,.refl _,.refl _,.refl _,.refl _,Ent.wrap (by simp only; omega) (by simp only; omega) (by simp only; omega),trivial⟩ rfl
 ·have hk1:l.length≤k:=ge_dec h rfl
  rw [hm,List.drop_eq_nil_of_le hk1]
  simp only [chkL]
  exact R_retS hg 1 5 (Nat.le_refl _) rfl rfl rfl
end Go.Proofs.YtcgkgofmldhokaaGreat

namespace Go.Proofs.YtcgkgofmldhokaaGreat
open Go PSL Go.Proofs
def csBox (x:Cs):Ob:=.box [.d (.v (.int .i64 x.head.k)),.d (.v (.string x.head.s)),.d (.v (.int .i64 x.head.n)),.d (.sl (Tm.rows x.head.l)),.d (.sl (Gl.rows x.body)),.d (.v (.int .i64 x.vars))]

set_option maxRecDepth 100000 in
theorem clause_ok11 (x:Cs) (hx:SmC x):PCtr Tryz.prog 71 [x.av] (bV (clsB x)):=by
 have hb:=hx.size
 refine PCtr.of_R (pf:=fun _=>.eff) tyOk mixed Tryz.func71 rfl (by kernel_rfl) (by kernel_rfl) (by simp [Tryz.ntmps71]) fun w S hg=>?_
 refine R_run hg.ok 1000 rfl rfl ?_
 refine R_if rfl rfl (fun n1=>?_) (fun n1=>?_) <;> refine R_run hg.ok 1000 rfl rfl ?_
 rotate_left
 ·refine R_ret hg 5 rfl rfl ?_
  unfold clsB
  rw [show decide (0≤x.vars)=false from n1]; rfl
 refine R_if rfl rfl (fun n2=>?_) (fun n2=>?_) <;> refine R_run hg.ok 1000 rfl rfl ?_
 rotate_left
 ·refine R_ret hg 5 rfl rfl ?_
  unfold clsB
  rw [show decide (0≤x.vars)=true from n1,show decide (x.vars≤1000)=false from n2]; rfl
 refine R_callSO hg.ok hg.gup ⟨rfl,rfl⟩ (fun _ _ _ _ h=>by cases h) [1] ([csBox x]++ckO x.vars 20) (ckTerm_ok ⟨[],fun _=>true⟩ x.vars 20 x.head hx.head) (fun _=>rfl) rfl rfl rfl rfl rfl rfl rfl rfl ?_
 refine R_run hg.ok 1000 rfl rfl ?_
 refine R_if rfl rfl (fun n3=>?_) (fun n3=>?_) <;> refine R_run hg.ok 1000 rfl rfl ?_
 rotate_left
 ·refine R_ret hg 5 rfl rfl ?_
  unfold clsB
  rw [show decide (0≤x.vars)=true from n1,show decide (x.vars≤1000)=true from n2,n3]; rfl
 refine R_call hg.ok (own_ok11 x.head) rfl rfl rfl rfl rfl rfl ?_
 refine R_run hg.ok 1000 rfl rfl ?_
 refine R_if rfl rfl (fun n4=>?_) (fun n4=>?_) <;> refine R_run hg.ok 1000 rfl rfl ?_
 rotate_left
 ·refine R_ret hg 5 rfl rfl ?_
  unfold clsB
  rw [show decide (0≤x.vars)=true from n1,show decide (x.vars≤1000)=true from n2,n3,n4]; rfl
 refine R_callSO hg.ok hg.gup ⟨rfl,rfl⟩ (fun _ _ _ _ h=>by cases h) [1] ([csBox x]++ckO x.vars (chkL x.vars x.body 20 1 true).2) (ckGoals_ok ⟨[],fun _=>true⟩ x.vars x.body 20 1 true hx.body (by omega) (by omega) (by omega) (by omega)) (fun _=>rfl) rfl rfl rfl rfl rfl rfl rfl rfl ?_
 refine R_run hg.ok 1000 rfl rfl ?_
 refine R_ret hg 5 rfl rfl ?_
 unfold clsB
 rw [show decide (0≤x.vars)=true from n1,show decide (x.vars≤1000)=true from n2,n3,n4]; rfl

set_option maxRecDepth 100000 in
theorem heads_ok (l:List Cs) (hl:l.length≤1000000):PCtr Tryz.prog 87 [prV l] (.d (.map (dsM (hdS l)))):=by
 refine PCtr.of_R (pf:=fun _=>.eff) tyOk mixed Tryz.func87 rfl (by kernel_rfl) (by kernel_rfl) (by simp [Tryz.ntmps87]) fun w S hg=>?_
 refine R_run hg.ok 1000 rfl rfl ?_
 refine R_makeMap hg.ok rfl rfl ?_
 refine R_run hg.ok 1000 rfl rfl ?_
 refine R_loop (fun x:Nat × List Sg=>([(3,.mp 1),(8,.d (.sl (Cs.rows l))),(9,iV l.length),(10,iV x.1)],[.box [.d (.sl (Cs.rows l))],.map (kmap (mkM x.2))])) (fun x=>x.1≤l.length∧hdS l=(l.drop x.1).foldl (fun ks c=>addS ks (sgOf c.head)) x.2) (fun x=>l.length - x.1) (0,[]) ⟨Nat.zero_le _,rfl⟩ ⟨.refl _,.refl _,by rw [Cs.rows_len]; exact .refl _,.refl _,trivial⟩ rfl ?_
 rintro ⟨k,ks⟩ ⟨hk,hm⟩
 refine R_run hg.ok 1000 rfl rfl ?_
 refine R_if rfl rfl (fun h=>?_) (fun h=>?_)
 ·refine R_run hg.ok 1000 rfl rfl ?_
  have hk1:k<l.length:=lt_dec h rfl
  have e1:l[k]? = some l[k]:=List.getElem?_eq_getElem hk1
  rw [List.drop_eq_getElem_cons hk1,List.foldl_cons] at hm
  generalize l[k]=c at e1 hm
  refine R_index hg.ok rfl rfl rfl rfl rfl rfl (Int.natCast_nonneg _) (Cs.rows_get e1) rfl ?_
  refine R_run hg.ok 1000 rfl rfl ?_
  refine R_call hg.ok (signOf_ok c.head) rfl rfl rfl rfl rfl rfl ?_
  refine R_run hg.ok 1000 rfl rfl ?_
  refine R_setK hg.ok (sgOf c.head) (mkM ks) (mkM (addS ks (sgOf c.head))) signKey rfl rfl rfl rfl rfl rfl (v':=bV true) (by first | exact .refl _ | exact .tt) (setK_mk _ _) ?_
  refine R_run hg.ok 1000 rfl rfl ?_
  refine R_dropO 2 [.box [.d (.sl (Cs.rows l))],.map (kmap (mkM (addS ks (sgOf c.head))))] (Nat.zero_le _) rfl (congrArg (fun x=>[Ob.box [AV.d (.sl (Cs.rows l))],x]) (mapOb_mk rfl _)) ?_
  exact R_next (k+1,addS ks (sgOf c.head)) ⟨hk1,hm⟩ (by simp only; omega) ⟨.refl _,.refl _,.refl _,Ent.wrap (by simp only; omega) (by simp only; omega) (by simp only; omega),trivial⟩ rfl
 ·have hk1:l.length≤k:=ge_dec h rfl
  rw [List.drop_eq_nil_of_le hk1] at hm
  simp only [List.foldl_nil] at hm
  rw [hm]
  refine R_freezeM hg.gup 1 (dsM ks) (Nat.zero_le _) (by rw [dsM_eq]; rfl) rfl ?_
  refine R_run hg.ok 1000 rfl rfl ?_
  refine R_ret hg 5 rfl rfl ?_
  rfl
end Go.Proofs.YtcgkgofmldhokaaGreat

namespace Go.Proofs.YtcgkgofmldhokaaGreat
open Go PSL Go.Proofs

set_option maxRecDepth 100000 in
theorem there_ok11 (ks:List Sg) (l:List Gl):Gl.sizeL l≤1000000→PCtr Tryz.prog 88 [.d (.sl (Gl.rows l)),.d (.map (dsM ks))] (bV (thereL (hasS ks) l)):=by
 refine Gl.indL (p:=fun l=>Gl.sizeL l≤1000000→PCtr Tryz.prog 88 [.d (.sl (Gl.rows l)),.d (.map (dsM ks))] (bV (thereL (hasS ks) l))) (fun l hsub=>?_) l
 intro hl
 have hlen:=Gl.len_size l
 refine PCtr.of_R (pf:=fun _=>.eff) tyOk mixed Tryz.func88 rfl (by kernel_rfl) (by kernel_rfl) (by simp [Tryz.ntmps88]) fun w S hg=>?_
 refine R_run hg.ok 1000 rfl rfl ?_
 refine R_loop (fun k:Nat=>([(1,.d (.map (dsM ks))),(7,.d (.sl (Gl.rows l))),(8,iV l.length),(9,iV k)],[])) (fun k=>k≤l.length∧thereL (hasS ks) l=thereL (hasS ks) (l.drop k)) (fun k=>l.length - k) 0 ⟨Nat.zero_le _,rfl⟩ ⟨.refl _,.refl _,by rw [Gl.rows_length]; exact .refl _,.refl _,trivial⟩ rfl ?_
 rintro k ⟨hk,hm⟩
 refine R_run hg.ok 1000 rfl rfl ?_
 refine R_if rfl rfl (fun h=>?_) (fun h=>?_) <;> refine R_run hg.ok 1000 rfl rfl ?_
 ·have hk1:k<l.length:=lt_dec h rfl
  have e1:l[k]? = some l[k]:=List.getElem?_eq_getElem hk1
  have hmem:=List.getElem_mem hk1
  rw [List.drop_eq_getElem_cons hk1] at hm
  generalize l[k]=g at e1 hm hmem
  have hsz:=Gl.size_mem hmem
  have hge:=Gl.size_eq g
  obtain ⟨sa,sb,sc⟩:=hsub g hmem
  simp only [thereL,there1_eq] at hm
  refine R_index hg.ok rfl rfl rfl rfl rfl rfl (Int.natCast_nonneg _) (Gl.rows_get e1) rfl ?_
  refine R_run hg.ok 1000 rfl rfl ?_
  by_cases hg1:((g.k==1) && !hasS ks (sgOf g.t))=true
  ·rw [hg1] at hm
   simp only [Bool.and_eq_true,Bool.not_eq_true'] at hg1
   refine R_if rfl rfl (fun _=>?_) (fun h=>absurd h (by simp [hg1.1])) <;> refine R_run hg.ok 1000 rfl rfl ?_
   refine R_call hg.ok (signOf_ok g.t) rfl rfl rfl rfl rfl rfl ?_
   refine R_run hg.ok 1000 rfl rfl ?_
   refine R_lookupKD hg.ok (sgOf g.t) (mkM ks) (dsM_eq ks) signKey rfl rfl rfl rfl rfl rfl (v:=.ff) (by rw [getK_mk,hg1.2]; rfl) ?_
   refine R_run hg.ok 1000 rfl rfl ?_
   refine R_ret hg 5 rfl rfl ?_
   rw [hm]; rfl
  ·have hg1':((g.k==1) && !hasS ks (sgOf g.t))=false:=Bool.eq_false_iff.2 hg1
   rw [hg1'] at hm
   cases hk1':(g.k==1) with
   | false =>
    refine R_if rfl rfl (fun h=>absurd h (by simp [hk1'])) (fun _=>?_) <;> refine R_run hg.ok 1000 rfl rfl ?_
    refine R_call hg.ok (sa (by omega)) rfl rfl rfl rfl rfl rfl ?_
    refine R_run hg.ok 1000 rfl rfl ?_
    refine R_if rfl rfl (fun n1=>?_) (fun n1=>?_) <;> refine R_run hg.ok 1000 rfl rfl ?_
    ·refine R_ret hg 5 rfl rfl ?_
     rw [hm,show thereL (hasS ks) g.a=false by simpa using n1]; rfl
    have n1:thereL (hasS ks) g.a=true:=by simpa using n1
    refine R_call hg.ok (sb (by omega)) rfl rfl rfl rfl rfl rfl ?_
    refine R_run hg.ok 1000 rfl rfl ?_
    refine R_if rfl rfl (fun n2=>?_) (fun n2=>?_) <;> refine R_run hg.ok 1000 rfl rfl ?_
    ·refine R_ret hg 5 rfl rfl ?_
     rw [hm,n1,show thereL (hasS ks) g.b=false by simpa using n2]; rfl
    have n2:thereL (hasS ks) g.b=true:=by simpa using n2
    refine R_call hg.ok (sc (by omega)) rfl rfl rfl rfl rfl rfl ?_
    refine R_run hg.ok 1000 rfl rfl ?_
    refine R_if rfl rfl (fun n3=>?_) (fun n3=>?_) <;> refine R_run hg.ok 1000 rfl rfl ?_
    ·refine R_ret hg 5 rfl rfl ?_
     rw [hm,n1,n2,show thereL (hasS ks) g.c=false by simpa using n3]; rfl
    have n3:thereL (hasS ks) g.c=true:=by simpa using n3
    rw [n1,n2,n3] at hm
    refine R_dropO 0 [] (Nat.zero_le _) rfl rfl ?_
    exact R_next (k+1) ⟨hk1,hm⟩ (by omega) ⟨.refl _,.refl _,.refl _,Ent.wrap (by omega) (by omega) (by omega),trivial⟩ rfl
   | true =>
    have hh:hasS ks (sgOf g.t)=true:=by rw [hk1'] at hg1'; simpa using hg1'
    refine R_if rfl rfl (fun _=>?_) (fun h=>absurd h (by simp [hk1'])) <;> refine R_run hg.ok 1000 rfl rfl ?_
    refine R_call hg.ok (signOf_ok g.t) rfl rfl rfl rfl rfl rfl ?_
    refine R_run hg.ok 1000 rfl rfl ?_
    refine R_lookupKD hg.ok (sgOf g.t) (mkM ks) (dsM_eq ks) signKey rfl rfl rfl rfl rfl rfl (v:=bV true) (by rw [getK_mk,hh]; rfl) ?_
    refine R_run hg.ok 1000 rfl rfl ?_
    refine R_if rfl rfl (fun h=>absurd h (by simp)) (fun _=>?_) <;> refine R_run hg.ok 1000 rfl rfl ?_
    refine R_call hg.ok (sa (by omega)) rfl rfl rfl rfl rfl rfl ?_
    refine R_run hg.ok 1000 rfl rfl ?_
    refine R_if rfl rfl (fun n1=>?_) (fun n1=>?_) <;> refine R_run hg.ok 1000 rfl rfl ?_
    ·refine R_ret hg 5 rfl rfl ?_
     rw [hm,show thereL (hasS ks) g.a=false by simpa using n1]; rfl
    have n1:thereL (hasS ks) g.a=true:=by simpa using n1
    refine R_call hg.ok (sb (by omega)) rfl rfl rfl rfl rfl rfl ?_
    refine R_run hg.ok 1000 rfl rfl ?_
    refine R_if rfl rfl (fun n2=>?_) (fun n2=>?_) <;> refine R_run hg.ok 1000 rfl rfl ?_
    ·refine R_ret hg 5 rfl rfl ?_
     rw [hm,n1,show thereL (hasS ks) g.b=false by simpa using n2]; rfl
    have n2:thereL (hasS ks) g.b=true:=by simpa using n2
    refine R_call hg.ok (sc (by omega)) rfl rfl rfl rfl rfl rfl ?_
    refine R_run hg.ok 1000 rfl rfl ?_
    refine R_if rfl rfl (fun n3=>?_) (fun n3=>?_) <;> refine R_run hg.ok 1000 rfl rfl ?_
    ·refine R_ret hg 5 rfl rfl ?_
     rw [hm,n1,n2,show thereL (hasS ks) g.c=false by simpa using n3]; rfl
    have n3:thereL (hasS ks) g.c=true:=by simpa using n3
    rw [n1,n2,n3] at hm
    refine R_dropO 0 [] (Nat.zero_le _) rfl rfl ?_
    exact R_next (k+1) ⟨hk1,hm⟩ (by omega) ⟨.refl _,.refl _,.refl _,Ent.wrap (by omega) (by omega) (by omega),trivial⟩ rfl
 ·have hk1:l.length≤k:=ge_dec h rfl
  refine R_ret hg 5 rfl rfl ?_
  rw [hm,List.drop_eq_nil_of_le hk1]; rfl
theorem thereH_eq (l:List Cs):hasS (hdS l)=hasH l:=funext (hdS_mem l)

theorem theres_ok (g:List Gl) (l:List Cs) (hg:Gl.sizeL g≤1000000) (hl:l.length≤1000000):PCtr Tryz.prog 68 [.d (.sl (Gl.rows g)),prV l] (bV (thereL (hasH l) g)):=by
 have h:=there_ok11 (hdS l) g hg
 rw [thereH_eq] at h
 refine PCtr.of_R (pf:=fun _=>.eff) tyOk mixed Tryz.func68 rfl (by kernel_rfl) (by kernel_rfl) (by simp [Tryz.ntmps68]) fun w S hg=>?_
 refine R_run hg.ok 1000 rfl rfl ?_
 refine R_call hg.ok (heads_ok l hl) rfl rfl rfl rfl rfl rfl ?_
 refine R_run hg.ok 1000 rfl rfl ?_
 refine R_call hg.ok (h) rfl rfl rfl rfl rfl rfl ?_
 refine R_run hg.ok 1000 rfl rfl ?_
 refine R_ret hg 5 rfl rfl ?_
 rfl

theorem firstN_drop {α:Type} (p:α→Bool) {l:List α} {k:Nat} {x:α} (h:l[k]? = some x):firstN p (l.drop k) k=if p x then firstN p (l.drop (k+1)) (k+1) else some k:=by
 obtain ⟨hk,he⟩:=List.getElem?_eq_some_iff.1 h
 rw [List.drop_eq_getElem_cons hk,he]; rfl

set_option maxRecDepth 100000 in
theorem check_ok (l:List Cs) (hl:∀ c∈l,SmC c):PCtr Tryz.prog 56 [prV l] (.tup [iV (checkR l).1,iV (checkR l).2]):=by
 refine PCtr.of_R (pf:=fun _=>.eff) tyOk mixed Tryz.func56 rfl (by kernel_rfl) (by kernel_rfl) (by simp [Tryz.ntmps56]) fun w S hg=>?_
 refine R_run hg.ok 1000 rfl rfl ?_
 by_cases h2:200<l.length
 ·refine R_if rfl rfl (fun _=>?_) (fun h=>absurd h (by simp [Cs.rows_len]; omega)) <;> refine R_run hg.ok 1000 rfl rfl ?_
  refine R_ret hg 5 rfl rfl ?_
  unfold checkR; rw [if_pos h2]; rfl
 refine R_if rfl rfl (fun h=>absurd h (by simp [Cs.rows_len]; omega)) (fun _=>?_) <;> refine R_run hg.ok 1000 rfl rfl ?_
 have hc0:checkR l=match firstN clsB l 0 with
  | some i=>((i:Int),1)
  | none=>match firstN (fun c=>thereL (hasH l) c.body) l 0 with
   | some i=>((i:Int),9)
   | none=>(0,0):=by unfold checkR; rw [if_neg h2]; rfl
 refine R_cut2 (fun _:Unit=>([(1,.lo 0 0)],[.box [.d (.sl (Cs.rows l))]])) (fun _=>firstN clsB l 0=none) rfl ?_ ?_
 ·refine R_loop (fun k:Nat=>([(1,.lo 0 0),(14,.d (.sl (Cs.rows l))),(15,iV l.length),(16,iV k)],[.box [.d (.sl (Cs.rows l))]])) (fun k=>k≤l.length∧firstN clsB l 0=firstN clsB (l.drop k) k) (fun k=>l.length - k) 0 ⟨Nat.zero_le _,rfl⟩ ⟨.refl _,.refl _,by rw [Cs.rows_len]; exact .refl _,.refl _,trivial⟩ rfl ?_
  rintro k ⟨hk,hm⟩
  refine R_run hg.ok 1000 rfl rfl ?_
  refine R_if rfl rfl (fun h=>?_) (fun h=>?_) <;> refine R_run hg.ok 1000 rfl rfl ?_
  ·have hk1:k<l.length:=lt_dec h rfl
   have e1:l[k]? = some l[k]:=List.getElem?_eq_getElem hk1
   have hs:=hl _ (List.getElem_mem hk1)
   generalize l[k]=c at e1 hs
   rw [firstN_drop clsB e1] at hm
   refine R_index hg.ok rfl rfl rfl rfl rfl rfl (Int.natCast_nonneg _) (Cs.rows_get e1) rfl ?_
   refine R_run hg.ok 1000 rfl rfl ?_
   refine R_call hg.ok (clause_ok11 c hs) rfl rfl rfl rfl rfl rfl ?_
   refine R_run hg.ok 1000 rfl rfl ?_
   refine R_if rfl rfl (fun h=>?_) (fun h=>?_) <;> refine R_run hg.ok 1000 rfl rfl ?_
   ·have h:clsB c=false:=by simpa using h
    rw [if_neg (by rw [h]; simp)] at hm
    rw [hc0,hm]
    refine R_ret hg 5 rfl rfl ?_
    rfl
   ·have h:clsB c=true:=by simpa using h
    rw [if_pos h] at hm
    refine R_dropO 1 [.box [.d (.sl (Cs.rows l))]] (Nat.zero_le _) rfl rfl ?_
    exact R_next (k+1) ⟨hk1,hm⟩ (by omega) ⟨.refl _,.refl _,.refl _,Ent.wrap (by omega) (by omega) (by omega),trivial⟩ rfl
  ·have hk1:l.length≤k:=ge_dec h rfl
   rw [List.drop_eq_nil_of_le hk1] at hm
   exact R_to () hm ⟨.refl _,trivial⟩ rfl
 rintro _ hn
 rw [hn] at hc0
 simp only at hc0
 refine R_run hg.ok 1000 rfl rfl ?_
 refine R_call hg.ok (heads_ok l (by omega)) rfl rfl rfl rfl rfl rfl ?_
 refine R_run hg.ok 1000 rfl rfl ?_
 refine R_loop (fun k:Nat=>([(6,.d (.map (dsM (hdS l)))),(29,.d (.sl (Cs.rows l))),(30,iV l.length),(31,iV k)],[.box [.d (.sl (Cs.rows l))]])) (fun k=>k≤l.length∧firstN (fun c=>thereL (hasH l) c.body) l 0=firstN (fun c=>thereL (hasH l) c.body) (l.drop k) k) (fun k=>l.length - k) 0 ⟨Nat.zero_le _,rfl⟩ ⟨.refl _,.refl _,by rw [Cs.rows_len]; exact .refl _,.refl _,trivial⟩ rfl ?_
 rintro k ⟨hk,hm⟩
 refine R_run hg.ok 1000 rfl rfl ?_
 refine R_if rfl rfl (fun h=>?_) (fun h=>?_) <;> refine R_run hg.ok 1000 rfl rfl ?_
 ·have hk1:k<l.length:=lt_dec h rfl
  have e1:l[k]? = some l[k]:=List.getElem?_eq_getElem hk1
  have hs:=hl _ (List.getElem_mem hk1)
  generalize l[k]=c at e1 hs
  rw [firstN_drop (fun c=>thereL (hasH l) c.body) e1] at hm
  have ht:=there_ok11 (hdS l) c.body hs.size
  rw [thereH_eq] at ht
  refine R_index hg.ok rfl rfl rfl rfl rfl rfl (Int.natCast_nonneg _) (Cs.rows_get e1) rfl ?_
  refine R_run hg.ok 1000 rfl rfl ?_
  refine R_call hg.ok (ht) rfl rfl rfl rfl rfl rfl ?_
  refine R_run hg.ok 1000 rfl rfl ?_
  refine R_if rfl rfl (fun h=>?_) (fun h=>?_) <;> refine R_run hg.ok 1000 rfl rfl ?_
  ·have h:thereL (hasH l) c.body=false:=by simpa using h
   rw [if_neg (by rw [h]; simp)] at hm
   rw [hc0,hm]
   refine R_ret hg 5 rfl rfl ?_
   rfl
  ·have h:thereL (hasH l) c.body=true:=by simpa using h
   rw [if_pos h] at hm
   refine R_dropO 1 [.box [.d (.sl (Cs.rows l))]] (Nat.zero_le _) rfl rfl ?_
   exact R_next (k+1) ⟨hk1,hm⟩ (by omega) ⟨.refl _,.refl _,.refl _,Ent.wrap (by omega) (by omega) (by omega),trivial⟩ rfl
 ·have hk1:l.length≤k:=ge_dec h rfl
  rw [List.drop_eq_nil_of_le hk1] at hm
  rw [hc0,hm]
  refine R_ret hg 5 rfl rfl ?_
  rfl
end Go.Proofs.YtcgkgofmldhokaaGreat

namespace Go.Proofs.YtcgkgofmldhokaaGreat
open Go PSL Go.Proofs

def cdO (met:List Int) (slot:Int) (at_:Int) (c:List Is) (e:List En):List Ob:=[.box [.lo 1 0,.mp 2,iV slot],.box [.ow 3 c.length,.ow 4 e.length,iV at_,iV 0],.map (imap (setB met)),.arr 4 c.length (Is.rows c),.arr 7 e.length (En.rows e)]

theorem cdO_map {f:AV→AV} (hb:f (bV true)=bV true) (hi:∀ n,f (iV n)=iV n) (h1:f (.lo 1 0)=.lo 1 0) (h2:f (.mp 2)=.mp 2) (h3:∀ s,f (.ow 3 s)=.ow 3 s) (h4:∀ s,f (.ow 4 s)=.ow 4 s) (met:List Int) (slot at_:Int) (c:List Is) (e:List En):(cdO met slot at_ c e).map (mapOb f)=cdO met slot at_ c e:=by
 simp only [cdO,List.map_cons,List.map_nil,mapOb_setB hb]
 simp [mapOb,hi,h1,h2,h3,h4]

theorem cdO_seal (o:List Ob) (met:List Int) (slot at_:Int) (c:List Is) (e:List En):(cdO met slot at_ c e).map (mapOb (sealT false 5 o 5))=cdO met slot at_ c e :=
 cdO_map rfl (fun _=>rfl) rfl rfl (fun _=>rfl) (fun _=>rfl) _ _ _ _ _

theorem cdO_trim {n:Nat} (h:5≤n) (met:List Int) (slot at_:Int) (c:List Is) (e:List En):(cdO met slot at_ c e).map (mapOb (trimA n))=cdO met slot at_ c e:=by
 obtain ⟨m,rfl⟩:∃ m,n=m+5:=⟨n - 5,by omega⟩
 exact cdO_map rfl (fun _=>rfl) rfl rfl (fun _=>rfl) (fun _=>rfl) _ _ _ _ _

theorem cdO_ren (f:Nat→Nat) (h1:f 1=1) (h2:f 2=2) (h3:f 3=3) (h4:f 4=4) (met:List Int) (slot at_:Int) (c:List Is) (e:List En):(cdO met slot at_ c e).map (renOb f)=cdO met slot at_ c e:=by
 simp only [cdO,List.map_cons,List.map_nil,renOb_setB]
 simp [renOb,renA,renL,h1,h2,h3,h4,iV]

set_option maxRecDepth 100000 in
theorem cdAdd_ok (Y:YP) (met:List Int) (slot at_:Int) (c:List Is) (e:List En) (x:Is) (hc:c.length≤100000000):SCtr Tryz.prog Y 36 [.lo 0 0,x.av] (cdO met slot at_ c e) (iV c.length) (cdO met slot at_ (c++[x]) e):=by
 refine SCtr.of_R (pf:=pfB) tyOk mixed Tryz.func36 rfl (by kernel_rfl) (by kernel_rfl) (by simp [Tryz.ntmps36]) (by simp [cdO]) fun w S φ hg=>?_
 have hφ:φ.length=5:=hg.hs0.len
 have hl:(c++[x]).length=Nat.succ c.length:=by simp
 refine R_run hg.ok 1000 rfl rfl ?_
 refine R_appendO hg.ok (Is.rows (c++[x])) rfl rfl rfl rfl rfl rfl rfl rfl rfl (by simp) (by simp [one1]) (Is.rows_snoc c x) (by rw [Is.rows_len]; simp; omega) (by rw [Is.rows_len]; simp; omega) ?_
 rw [← hl]
 refine R_run hg.ok 1000 rfl rfl ?_
 refine R_lenO hg.ok rfl rfl rfl rfl rfl (n:=((c.length+1:Nat):Int)) (by rw [Is.rows_len]; simp) ?_
 refine R_run hg.ok 1000 rfl rfl ?_
 rw [w64 (n:=((c.length+1:Nat):Int) - 1) (by omega) (by omega),show ((c.length+1:Nat):Int) - 1=(c.length:Int) by omega]
 exact R_retS hg 5 5 (by show (5:Nat)≤5; omega) rfl rfl (cdO_seal _ _ _ _ (c++[x]) _)
def HeadC (Y:YP) (t:Tm):Prop:=∀ (met:List Int) (slot at_:Int) (c:List Is) (e:List En),c.length+t.size≤100000000→SCtr Tryz.prog Y 33 [.lo 0 0,t.av] (cdO met slot at_ c e) (.tup []) (cdO (headG t met).2 slot at_ (c++(headG t met).1) e)
def pfAll:Nat→Cls:=fun f=>.eff

set_option maxRecDepth 100000 in
theorem cdAllH_ok (Y:YP) (l:List Tm) (ih:∀ x∈l,HeadC Y x) (met:List Int) (slot at_:Int) (c:List Is) (e:List En) (hc:c.length+Tm.sizeL l≤100000000):SCtr Tryz.prog Y 32 [.lo 0 0,.d (.sl (Tm.rows l)),.clo 33 [.lo 0 0] []] (cdO met slot at_ c e) (.tup []) (cdO (headGL l met).2 slot at_ (c++(headGL l met).1) e):=by
 refine SCtr.of_R (pf:=pfAll) tyOk mixed Tryz.func32 rfl (by kernel_rfl) (by kernel_rfl) (by simp [Tryz.ntmps32]) (by simp [cdO]) fun w S φ hg=>?_
 have hφ:φ.length=5:=hg.hs0.len
 have hl:=Tm.len_le_sizeL l
 have hrl:=Tm.rows_length l
 refine R_run hg.ok 1000 rfl rfl ?_
 refine R_loop (fun k:Nat=>([(2,.clo 33 [.lo 0 0] []),(8,.d (.sl (Tm.rows l))),(9,iV l.length),(10,iV k)],cdO (headGL (l.take k) met).2 slot at_ (c++(headGL (l.take k) met).1) e)) (fun k=>k≤l.length) (fun k=>l.length - k) 0 (Nat.zero_le _) ⟨.refl _,.refl _,by rw [hrl]; exact .refl _,.refl _,trivial⟩ (by simp only [List.take_zero,headGL,List.append_nil]; rfl) ?_
 rintro k hk
 refine R_run hg.ok 1000 rfl rfl ?_
 refine R_if rfl rfl (fun h=>?_) (fun h=>?_) <;> refine R_run hg.ok 1000 rfl rfl ?_
 ·have hk1:k<l.length:=lt_dec h rfl
  have e1:l[k]? = some l[k]:=List.getElem?_eq_getElem hk1
  have hm:=List.getElem_mem hk1
  have hsz:=tm_sizeL_at e1
  have hsl:=headGL_len (l.take k) met
  have hx:=ih _ hm (headGL (l.take k) met).2 slot at_ (c++(headGL (l.take k) met).1) e (by rw [List.length_append]; omega)
  rw [List.append_assoc,← headGL_t1 e1 met,← headGL_t2 e1 met] at hx
  generalize l[k]=x at e1 hx
  refine R_index hg.ok rfl rfl rfl rfl rfl rfl (Int.natCast_nonneg _) (Tm.rows_get e1) rfl ?_
  refine R_run hg.ok 1000 rfl rfl ?_
  refine R_callSO hg.ok hg.gup hg.wide hg.Y [0,1,2,3,4] (cdO (headGL (l.take (k+1)) met).2 slot at_ (c++(headGL (l.take (k+1)) met).1) e++[boxR x]) (hx) (fun _=>rfl) rfl rfl rfl rfl rfl (by rw [cdO_ren _ rfl rfl rfl rfl]; rfl) rfl (by rw [cdO_ren _ rfl rfl rfl rfl]; rfl) ?_
  refine R_run hg.ok 1000 rfl rfl ?_
  refine R_dropO 5 (cdO (headGL (l.take (k+1)) met).2 slot at_ (c++(headGL (l.take (k+1)) met).1) e) (by show φ.length≤_; omega) rfl (cdO_trim (Nat.le_refl _) _ _ _ _ _) ?_
  exact R_next (k+1) hk1 (by omega) ⟨.refl _,.refl _,.refl _,Ent.wrap (by omega) (by omega) (by omega),trivial⟩ rfl
 ·have hk1:l.length≤k:=ge_dec h rfl
  rw [List.take_of_length_le hk1]
  exact R_endS hg 5 5 (by show (5:Nat)≤5; omega) rfl rfl (cdO_seal _ _ _ _ _ _)
end Go.Proofs.YtcgkgofmldhokaaGreat

namespace Go.Proofs.YtcgkgofmldhokaaGreat
open Go PSL Go.Proofs

set_option maxRecDepth 100000 in
theorem cdHead_ok (Y:YP) (t:Tm):HeadC Y t:=by
 induction t using Tm.ind with
 | _ t ih =>
 intro met slot at_ c e hc
 have hs:=Tm.size_eq t
 have hl:=Tm.len_le_sizeL t.l
 refine SCtr.of_R (pf:=pfBE) tyOk mixed Tryz.func33 rfl (by kernel_rfl) (by kernel_rfl) (by simp [Tryz.ntmps33]) (by simp [cdO]) fun w S φ hg=>?_
 have hφ:φ.length=5:=hg.hs0.len
 rw [headG_eq]
 refine R_run hg.ok 1000 rfl rfl ?_
 by_cases h1:t.k=1
 ·rw [if_pos h1]
  refine R_if rfl rfl (fun _=>?_) (fun h=>absurd h (by simp [h1])) <;> refine R_run hg.ok 1000 rfl rfl ?_
  cases hm:met.contains t.n with
  | true =>
   refine R_lookupI hg.ok (setB met) rfl rfl rfl rfl rfl rfl rfl (zv:=.bool false) (by kernel_rfl) (v:=bV true) (by rw [look_setB,hm]; rfl) ?_
   refine R_run hg.ok 1000 rfl rfl ?_
   refine R_if rfl rfl (fun _=>?_) (fun h=>absurd h (by simp)) <;> refine R_run hg.ok 1000 rfl rfl ?_
   refine R_setI hg.ok (setB met) (setB (addV met t.n)) rfl rfl rfl rfl rfl rfl rfl (by first | exact .tt | exact .refl _) (setB_add met t.n) ?_
   refine R_run hg.ok 1000 rfl rfl ?_
   refine R_callSO hg.ok hg.gup hg.wide hg.Y [0,1,2,3,4] (cdO (addV met t.n) slot at_ (c++[⟨2,t.n,0,e0⟩]) e++[boxR t]) (cdAdd_ok Y (addV met t.n) slot at_ c e ⟨2,t.n,0,e0⟩ (by omega)) (fun _=>rfl) rfl rfl rfl rfl rfl (by rw [cdO_ren _ rfl rfl rfl rfl]; rfl) rfl (by rw [cdO_ren _ rfl rfl rfl rfl]; rfl) ?_
   refine R_run hg.ok 1000 rfl rfl ?_
   exact R_endS hg 5 5 (by show (5:Nat)≤5; omega) rfl rfl (cdO_seal _ _ _ _ _ _)
  | false =>
   refine R_lookupI hg.ok (setB met) rfl rfl rfl rfl rfl rfl rfl (zv:=.bool false) (by kernel_rfl) (v:=.ff) (by rw [look_setB,hm]; rfl) ?_
   refine R_run hg.ok 1000 rfl rfl ?_
   refine R_setI hg.ok (setB met) (setB (addV met t.n)) rfl rfl rfl rfl rfl rfl rfl (by first | exact .tt | exact .refl _) (setB_add met t.n) ?_
   refine R_run hg.ok 1000 rfl rfl ?_
   refine R_callSO hg.ok hg.gup hg.wide hg.Y [0,1,2,3,4] (cdO (addV met t.n) slot at_ (c++[⟨1,t.n,0,e0⟩]) e++[boxR t]) (cdAdd_ok Y (addV met t.n) slot at_ c e ⟨1,t.n,0,e0⟩ (by omega)) (fun _=>rfl) rfl rfl rfl rfl rfl (by rw [cdO_ren _ rfl rfl rfl rfl]; rfl) rfl (by rw [cdO_ren _ rfl rfl rfl rfl]; rfl) ?_
   refine R_run hg.ok 1000 rfl rfl ?_
   exact R_endS hg 5 5 (by show (5:Nat)≤5; omega) rfl rfl (cdO_seal _ _ _ _ _ _)
 rw [if_neg h1]
 refine R_if rfl rfl (fun h=>absurd h (by simp [h1])) (fun _=>?_) <;> refine R_run hg.ok 1000 rfl rfl ?_
 by_cases h2:t.k=2
 ·rw [if_pos h2]
  refine R_if rfl rfl (fun _=>?_) (fun h=>absurd h (by simp [h2])) <;> refine R_run hg.ok 1000 rfl rfl ?_
  refine R_callSO hg.ok hg.gup hg.wide hg.Y [0,1,2,3,4] (cdO met slot at_ (c++[⟨3,0,t.n,e0⟩]) e++[boxR t]) (cdAdd_ok Y met slot at_ c e ⟨3,0,t.n,e0⟩ (by omega)) (fun _=>rfl) rfl rfl rfl rfl rfl (by rw [cdO_ren _ rfl rfl rfl rfl]; rfl) rfl (by rw [cdO_ren _ rfl rfl rfl rfl]; rfl) ?_
  refine R_run hg.ok 1000 rfl rfl ?_
  exact R_endS hg 5 5 (by show (5:Nat)≤5; omega) rfl rfl (cdO_seal _ _ _ _ _ _)
 rw [if_neg h2]
 refine R_if rfl rfl (fun h=>absurd h (by simp [h2])) (fun _=>?_) <;> refine R_run hg.ok 1000 rfl rfl ?_
 rw [Tm.rows_length]
 refine R_callSO hg.ok hg.gup hg.wide hg.Y [0,1,2,3,4] (cdO met slot at_ (c++[⟨4,0,t.l.length,t.s⟩]) e++[boxR t]) (cdAdd_ok Y met slot at_ c e ⟨4,0,t.l.length,t.s⟩ (by omega)) (fun _=>rfl) rfl rfl rfl rfl rfl (by rw [cdO_ren _ rfl rfl rfl rfl]; rfl) rfl (by rw [cdO_ren _ rfl rfl rfl rfl]; rfl) ?_
 refine R_run hg.ok 1000 rfl rfl ?_
 have ha:=cdAllH_ok Y t.l ih met slot at_ (c++[⟨4,0,t.l.length,t.s⟩]) e (by rw [List.length_append,List.length_singleton]; omega)
 rw [List.append_assoc,List.singleton_append] at ha
 refine R_callSO hg.ok hg.gup hg.wide hg.Y [0,1,2,3,4] (cdO (headGL t.l met).2 slot at_ (c++⟨4,0,t.l.length,t.s⟩::(headGL t.l met).1) e++[boxR t]) (ha) (fun _=>rfl) rfl rfl rfl rfl rfl (by rw [cdO_ren _ rfl rfl rfl rfl]; rfl) rfl (by rw [cdO_ren _ rfl rfl rfl rfl]; rfl) ?_
 refine R_run hg.ok 1000 rfl rfl ?_
 exact R_endS hg 5 5 (by show (5:Nat)≤5; omega) rfl rfl (cdO_seal _ _ _ _ _ _)
end Go.Proofs.YtcgkgofmldhokaaGreat

namespace Go.Proofs.YtcgkgofmldhokaaGreat
open Go PSL Go.Proofs
def PutC (Y:YP) (t:Tm):Prop:=∀ (met:List Int) (slot at_:Int) (c:List Is) (e:List En),c.length+t.size≤100000000→SCtr Tryz.prog Y 38 [.lo 0 0,t.av] (cdO met slot at_ c e) (.tup []) (cdO met slot at_ (c++putG t) e)

set_option maxRecDepth 100000 in
theorem cdAllP_ok (Y:YP) (l:List Tm) (ih:∀ x∈l,PutC Y x) (met:List Int) (slot at_:Int) (c:List Is) (e:List En) (hc:c.length+Tm.sizeL l≤100000000):SCtr Tryz.prog Y 32 [.lo 0 0,.d (.sl (Tm.rows l)),.clo 38 [.lo 0 0] []] (cdO met slot at_ c e) (.tup []) (cdO met slot at_ (c++putGL l) e):=by
 refine SCtr.of_R (pf:=pfAll) tyOk mixed Tryz.func32 rfl (by kernel_rfl) (by kernel_rfl) (by simp [Tryz.ntmps32]) (by simp [cdO]) fun w S φ hg=>?_
 have hφ:φ.length=5:=hg.hs0.len
 have hl:=Tm.len_le_sizeL l
 have hrl:=Tm.rows_length l
 refine R_run hg.ok 1000 rfl rfl ?_
 refine R_loop (fun k:Nat=>([(2,.clo 38 [.lo 0 0] []),(8,.d (.sl (Tm.rows l))),(9,iV l.length),(10,iV k)],cdO met slot at_ (c++putGL (l.take k)) e)) (fun k=>k≤l.length) (fun k=>l.length - k) 0 (Nat.zero_le _) ⟨.refl _,.refl _,by rw [hrl]; exact .refl _,.refl _,trivial⟩ (by simp only [List.take_zero,putGL,List.append_nil]; rfl) ?_
 rintro k hk
 refine R_run hg.ok 1000 rfl rfl ?_
 refine R_if rfl rfl (fun h=>?_) (fun h=>?_) <;> refine R_run hg.ok 1000 rfl rfl ?_
 ·have hk1:k<l.length:=lt_dec h rfl
  have e1:l[k]? = some l[k]:=List.getElem?_eq_getElem hk1
  have hm:=List.getElem_mem hk1
  have hsz:=tm_sizeL_at e1
  have hsl:=putGL_len (l.take k)
  have hx:=ih _ hm met slot at_ (c++putGL (l.take k)) e (by rw [List.length_append]; omega)
  rw [putGL_t e1] at hx
  generalize l[k]=x at e1 hx
  refine R_index hg.ok rfl rfl rfl rfl rfl rfl (Int.natCast_nonneg _) (Tm.rows_get e1) rfl ?_
  refine R_run hg.ok 1000 rfl rfl ?_
  refine R_callSO hg.ok hg.gup hg.wide hg.Y [0,1,2,3,4] (cdO met slot at_ (c++putGL (l.take (k+1))) e++[boxR x]) (hx) (fun _=>rfl) rfl rfl rfl rfl rfl (by rw [cdO_ren _ rfl rfl rfl rfl]; rfl) rfl (by rw [cdO_ren _ rfl rfl rfl rfl]; rfl) ?_
  refine R_run hg.ok 1000 rfl rfl ?_
  refine R_dropO 5 (cdO met slot at_ (c++putGL (l.take (k+1))) e) (by show φ.length≤_; omega) rfl (cdO_trim (Nat.le_refl _) _ _ _ _ _) ?_
  exact R_next (k+1) hk1 (by omega) ⟨.refl _,.refl _,.refl _,Ent.wrap (by omega) (by omega) (by omega),trivial⟩ rfl
 ·have hk1:l.length≤k:=ge_dec h rfl
  rw [List.take_of_length_le hk1]
  exact R_endS hg 5 5 (by show (5:Nat)≤5; omega) rfl rfl (cdO_seal _ _ _ _ _ _)

set_option maxRecDepth 100000 in
theorem cdPut_ok (Y:YP) (t:Tm):PutC Y t:=by
 induction t using Tm.ind with
 | _ t ih =>
 intro met slot at_ c e hc
 have hs:=Tm.size_eq t
 have hl:=Tm.len_le_sizeL t.l
 have hpl:=putGL_len t.l
 refine SCtr.of_R (pf:=pfBE) tyOk mixed Tryz.func38 rfl (by kernel_rfl) (by kernel_rfl) (by simp [Tryz.ntmps38]) (by simp [cdO]) fun w S φ hg=>?_
 have hφ:φ.length=5:=hg.hs0.len
 rw [putG_eq,← List.append_assoc]
 unfold instG
 refine R_run hg.ok 1000 rfl rfl ?_
 refine R_callSO hg.ok hg.gup hg.wide hg.Y [0,1,2,3,4] (cdO met slot at_ (c++putGL t.l) e++[boxR t]) (cdAllP_ok Y t.l ih met slot at_ c e (by omega)) (fun _=>rfl) rfl rfl rfl rfl rfl (by rw [cdO_ren _ rfl rfl rfl rfl]; rfl) rfl (by rw [cdO_ren _ rfl rfl rfl rfl]; rfl) ?_
 refine R_run hg.ok 1000 rfl rfl ?_
 by_cases h1:t.k=1
 ·rw [if_pos h1]
  refine R_if rfl rfl (fun _=>?_) (fun h=>absurd h (by simp [h1])) <;> refine R_run hg.ok 1000 rfl rfl ?_
  refine R_callSO hg.ok hg.gup hg.wide hg.Y [0,1,2,3,4] (cdO met slot at_ (c++putGL t.l++[⟨6,t.n,0,e0⟩]) e++[boxR t]) (cdAdd_ok Y met slot at_ (c++putGL t.l) e ⟨6,t.n,0,e0⟩ (by rw [List.length_append]; omega)) (fun _=>rfl) rfl rfl rfl rfl rfl (by rw [cdO_ren _ rfl rfl rfl rfl]; rfl) rfl (by rw [cdO_ren _ rfl rfl rfl rfl]; rfl) ?_
  refine R_run hg.ok 1000 rfl rfl ?_
  exact R_endS hg 5 5 (by show (5:Nat)≤5; omega) rfl rfl (cdO_seal _ _ _ _ _ _)
 rw [if_neg h1]
 refine R_if rfl rfl (fun h=>absurd h (by simp [h1])) (fun _=>?_) <;> refine R_run hg.ok 1000 rfl rfl ?_
 by_cases h2:t.k=2
 ·rw [if_pos h2]
  refine R_if rfl rfl (fun _=>?_) (fun h=>absurd h (by simp [h2])) <;> refine R_run hg.ok 1000 rfl rfl ?_
  refine R_callSO hg.ok hg.gup hg.wide hg.Y [0,1,2,3,4] (cdO met slot at_ (c++putGL t.l++[⟨7,0,t.n,e0⟩]) e++[boxR t]) (cdAdd_ok Y met slot at_ (c++putGL t.l) e ⟨7,0,t.n,e0⟩ (by rw [List.length_append]; omega)) (fun _=>rfl) rfl rfl rfl rfl rfl (by rw [cdO_ren _ rfl rfl rfl rfl]; rfl) rfl (by rw [cdO_ren _ rfl rfl rfl rfl]; rfl) ?_
  refine R_run hg.ok 1000 rfl rfl ?_
  exact R_endS hg 5 5 (by show (5:Nat)≤5; omega) rfl rfl (cdO_seal _ _ _ _ _ _)
 rw [if_neg h2]
 refine R_if rfl rfl (fun h=>absurd h (by simp [h2])) (fun _=>?_) <;> refine R_run hg.ok 1000 rfl rfl ?_
 rw [Tm.rows_length]
 refine R_callSO hg.ok hg.gup hg.wide hg.Y [0,1,2,3,4] (cdO met slot at_ (c++putGL t.l++[⟨8,0,t.l.length,t.s⟩]) e++[boxR t]) (cdAdd_ok Y met slot at_ (c++putGL t.l) e ⟨8,0,t.l.length,t.s⟩ (by rw [List.length_append]; omega)) (fun _=>rfl) rfl rfl rfl rfl rfl (by rw [cdO_ren _ rfl rfl rfl rfl]; rfl) rfl (by rw [cdO_ren _ rfl rfl rfl rfl]; rfl) ?_
 refine R_run hg.ok 1000 rfl rfl ?_
 exact R_endS hg 5 5 (by show (5:Nat)≤5; omega) rfl rfl (cdO_seal _ _ _ _ _ _)

set_option maxRecDepth 100000 in
theorem cdFresh_ok (Y:YP) (n:Nat) (hn:n≤1000) (met:List Int) (slot at_:Int) (c:List Is) (e:List En) (hc:c.length+n≤100000000):SCtr Tryz.prog Y 34 [.lo 0 0,iV n] (cdO met slot at_ c e) (.tup []) (cdO met slot at_ (c++freshG met n) e):=by
 refine SCtr.of_R (pf:=pfBE) tyOk mixed Tryz.func34 rfl (by kernel_rfl) (by kernel_rfl) (by simp [Tryz.ntmps34]) (by simp [cdO]) fun w S φ hg=>?_
 have hφ:φ.length=5:=hg.hs0.len
 refine R_run hg.ok 1000 rfl rfl ?_
 refine R_loop (fun k:Nat=>([(0,.lo 0 0),(5,iV n),(6,iV k)],cdO met slot at_ (c++freshG met k) e)) (fun k=>k≤n) (fun k=>n - k) 0 (Nat.zero_le _) ⟨.refl _,.refl _,.refl _,trivial⟩ (by simp only [freshG,List.range_zero,List.filter_nil,List.map_nil,List.append_nil]; rfl) ?_
 rintro k hk
 have hfl:=freshG_len met k
 refine R_run hg.ok 1000 rfl rfl ?_
 refine R_if rfl rfl (fun h=>?_) (fun h=>?_) <;> refine R_run hg.ok 1000 rfl rfl ?_
 ·have hk1:k<n:=lt_dec h rfl
  cases hm:met.contains (k:Int) with
  | true =>
   have hf:freshG met (k+1)=freshG met k:=by rw [freshG_succ,if_pos hm]
   refine R_lookupI hg.ok (setB met) rfl rfl rfl rfl rfl rfl rfl (zv:=.bool false) (by kernel_rfl) (v:=bV true) (by rw [look_setB,hm]; rfl) ?_
   refine R_run hg.ok 1000 rfl rfl ?_
   refine R_if rfl rfl (fun h=>absurd h (by simp)) (fun _=>?_) <;> refine R_run hg.ok 1000 rfl rfl ?_
   exact R_next (k+1) hk1 (by omega) ⟨.refl _,.refl _,Ent.wrap (by omega) (by omega) (by omega),trivial⟩ (by simp only [hf]; rfl)
  | false =>
   have hf:freshG met (k+1)=freshG met k++[⟨5,(k:Int),0,e0⟩]:=by rw [freshG_succ,if_neg (by rw [hm]; simp)]
   refine R_lookupI hg.ok (setB met) rfl rfl rfl rfl rfl rfl rfl (zv:=.bool false) (by kernel_rfl) (v:=.ff) (by rw [look_setB,hm]; rfl) ?_
   refine R_run hg.ok 1000 rfl rfl ?_
   refine R_callSO hg.ok hg.gup hg.wide hg.Y [0,1,2,3,4] (cdO met slot at_ (c++freshG met k++[⟨5,(k:Int),0,e0⟩]) e) (cdAdd_ok Y met slot at_ (c++freshG met k) e ⟨5,(k:Int),0,e0⟩ (by rw [List.length_append]; omega)) (fun _=>rfl) rfl rfl rfl rfl rfl (by rw [cdO_ren _ rfl rfl rfl rfl]; rfl) rfl (by rw [cdO_ren _ rfl rfl rfl rfl]; rfl) ?_
   refine R_run hg.ok 1000 rfl rfl ?_
   exact R_next (k+1) hk1 (by omega) ⟨.refl _,.refl _,Ent.wrap (by omega) (by omega) (by omega),trivial⟩ (by simp only [hf,List.append_assoc]; rfl)
 ·have hk1:n≤k:=ge_dec h rfl
  rw [show k=n by omega]
  exact R_endS hg 5 5 (by show (5:Nat)≤5; omega) rfl rfl (cdO_seal _ _ _ _ _ _)

set_option maxRecDepth 100000 in
theorem cdAsks_ok (Y:YP) (op:Int) (t:Tm) (met:List Int) (slot at_:Int) (c:List Is) (e:List En) (hc:c.length+t.size≤100000000):SCtr Tryz.prog Y 72 [.lo 0 0,iV op,t.av] (cdO met slot at_ c e) (.tup []) (cdO met slot at_ (c++asksG op t) e):=by
 have hs:=Tm.size_eq t
 have hpl:=putGL_len t.l
 unfold asksG
 rw [← List.append_assoc]
 refine SCtr.of_R (pf:=pfBE) tyOk mixed Tryz.func72 rfl (by kernel_rfl) (by kernel_rfl) (by simp [Tryz.ntmps72]) (by simp [cdO]) fun w S φ hg=>?_
 have hφ:φ.length=5:=hg.hs0.len
 refine R_run hg.ok 1000 rfl rfl ?_
 refine R_callSO hg.ok hg.gup hg.wide hg.Y [0,1,2,3,4] (cdO met slot at_ (c++putGL t.l) e++[boxR t]) (cdAllP_ok Y t.l (fun x _=>cdPut_ok Y x) met slot at_ c e (by omega)) (fun _=>rfl) rfl rfl rfl rfl rfl (by rw [cdO_ren _ rfl rfl rfl rfl]; rfl) rfl (by rw [cdO_ren _ rfl rfl rfl rfl]; rfl) ?_
 refine R_run hg.ok 1000 rfl rfl ?_
 rw [Tm.rows_length]
 refine R_callSO hg.ok hg.gup hg.wide hg.Y [0,1,2,3,4] (cdO met slot at_ (c++putGL t.l++[⟨op,0,t.l.length,t.s⟩]) e++[boxR t]) (cdAdd_ok Y met slot at_ (c++putGL t.l) e ⟨op,0,t.l.length,t.s⟩ (by rw [List.length_append]; omega)) (fun _=>rfl) rfl rfl rfl rfl rfl (by rw [cdO_ren _ rfl rfl rfl rfl]; rfl) rfl (by rw [cdO_ren _ rfl rfl rfl rfl]; rfl) ?_
 refine R_run hg.ok 1000 rfl rfl ?_
 exact R_endS hg 5 5 (by show (5:Nat)≤5; omega) rfl rfl (cdO_seal _ _ _ _ _ _)

set_option maxRecDepth 100000 in
theorem cdBegin_ok (Y:YP) (met:List Int) (slot at_:Int) (c:List Is) (e:List En) (h0:0≤slot) (h1:slot≤100000000) (hc:c.length+2≤100000000):SCtr Tryz.prog Y 73 [.lo 0 0] (cdO met slot at_ c e) (.tup [iV slot,iV ((c.length+1:Nat):Int)]) (cdO met (slot+1) at_ (c++[⟨13,slot,0,e0⟩,⟨14,0,0,e0⟩]) e):=by
 refine SCtr.of_R (pf:=pfBE) tyOk mixed Tryz.func73 rfl (by kernel_rfl) (by kernel_rfl) (by simp [Tryz.ntmps73]) (by simp [cdO]) fun w S φ hg=>?_
 have hφ:φ.length=5:=hg.hs0.len
 have hl:(c++[(⟨13,slot,0,e0⟩:Is)]).length=c.length+1:=by simp
 have e2:c++[(⟨13,slot,0,e0⟩:Is),⟨14,0,0,e0⟩]=c++[⟨13,slot,0,e0⟩]++[⟨14,0,0,e0⟩]:=by simp
 refine R_run hg.ok 1000 rfl rfl ?_
 rw [w64 (n:=slot+1) (by omega) (by omega)]
 refine R_callSO hg.ok hg.gup hg.wide hg.Y [0,1,2,3,4] (cdO met (slot+1) at_ (c++[⟨13,slot,0,e0⟩]) e) (cdAdd_ok Y met (slot+1) at_ c e ⟨13,slot,0,e0⟩ (by omega)) (fun _=>rfl) rfl rfl rfl rfl rfl (by rw [cdO_ren _ rfl rfl rfl rfl]; rfl) rfl (by rw [cdO_ren _ rfl rfl rfl rfl]; rfl) ?_
 refine R_run hg.ok 1000 rfl rfl ?_
 refine R_callSO hg.ok hg.gup hg.wide hg.Y [0,1,2,3,4] (cdO met (slot+1) at_ (c++[⟨13,slot,0,e0⟩]++[⟨14,0,0,e0⟩]) e) (cdAdd_ok Y met (slot+1) at_ (c++[⟨13,slot,0,e0⟩]) e ⟨14,0,0,e0⟩ (by rw [hl]; omega)) (fun _=>rfl) rfl rfl rfl rfl rfl (by rw [cdO_ren _ rfl rfl rfl rfl]; rfl) rfl (by rw [cdO_ren _ rfl rfl rfl rfl]; rfl) ?_
 refine R_run hg.ok 1000 rfl rfl ?_
 rw [hl,e2]
 exact R_retS hg 5 5 (by show (5:Nat)≤5; omega) rfl rfl (cdO_seal _ _ _ _ _ _)

set_option maxRecDepth 100000 in
theorem cdHere_ok (Y:YP) (met:List Int) (slot at_:Int) (c:List Is) (e:List En) (i:Nat) (x:Is) (hx:c[i]? = some x) (hc:c.length≤100000000):SCtr Tryz.prog Y 74 [.lo 0 0,iV (i:Int)] (cdO met slot at_ c e) (.tup []) (cdO met slot at_ (c.set i ⟨x.op,x.v,c.length,x.s⟩) e):=by
 refine SCtr.of_R (pf:=fun _=>.eff) tyOk mixed Tryz.func74 rfl (by kernel_rfl) (by kernel_rfl) (by simp [Tryz.ntmps74]) (by simp [cdO]) fun w S φ hg=>?_
 have hφ:φ.length=5:=hg.hs0.len
 have hi:i<c.length:=(List.getElem?_eq_some_iff.1 hx).1
 have hr:(Is.rows c).set i (spliceD (Is.row x) (0+2) [.v (.int .i64 c.length)])=Is.rows (c.set i ⟨x.op,x.v,c.length,x.s⟩):=by rw [← is_rows_set]; rfl
 generalize (⟨x.op,x.v,c.length,x.s⟩:Is)=y at hr ⊢
 have hsl:(c.set i y).length=c.length:=List.length_set
 refine R_run hg.ok 1000 rfl rfl ?_
 refine R_lenO hg.ok rfl rfl rfl rfl rfl (n:=(c.length:Int)) (by rw [Is.rows_len]) ?_
 refine R_run hg.ok 1000 rfl rfl ?_
 refine R_indexO hg.ok rfl rfl rfl rfl rfl rfl rfl rfl rfl (Int.natCast_nonneg i) (by rw [Is.rows_len]; omega) ?_
 refine R_run hg.ok 1000 rfl rfl ?_
 refine R_storeEO hg.ok (Is.rows (c.set i y)) rfl rfl rfl rfl rfl (Is.rows_get hx) rfl rfl rfl (by decide) hr ?_
 clear hr hc hi
 rw [← hsl]
 refine R_run hg.ok 1000 rfl rfl ?_
 exact R_endS hg 5 5 (by show (5:Nat)≤5; omega) rfl rfl (cdO_seal _ _ _ _ (c.set i y) _)
end Go.Proofs.YtcgkgofmldhokaaGreat

namespace Go.Proofs.YtcgkgofmldhokaaGreat
open Go PSL Go.Proofs
def GolC (Y:YP) (l:List Gl):Prop:=∀ (met:List Int) (slot at_:Int) (c:List Is) (e:List En),fiveL l→c.length+4 * Gl.sizeL l≤100000000→0≤slot→slot+Gl.sizeL l≤100000000→SCtr Tryz.prog Y 35 [.lo 0 0,.d (.sl (Gl.rows l))] (cdO met slot at_ c e) (.tup []) (cdO met (slot+testsGL l) at_ (c++golDL l c.length slot) e)
def gbx (g:Gl):Ob:=.box [.d (.v (.int .i64 g.k)),.d (.v (.int .i64 g.t.k)),.d (.v (.string g.t.s)),.d (.v (.int .i64 g.t.n)),.d (.sl (Tm.rows g.t.l)),.d (.sl (Gl.rows g.a)),.d (.sl (Gl.rows g.b)),.d (.sl (Gl.rows g.c))]

set_option maxHeartbeats 4000000 in
set_option maxRecDepth 100000 in
theorem cdGoals_ok (Y:YP) (l:List Gl):GolC Y l:=by
 induction l using Gl.indL with
 | _ l ih =>
 intro met slot at_ c e hf hc h0 h1
 have hll:=Gl.len_size l
 have hrl:=Gl.rows_length l
 refine SCtr.of_R (pf:=pfBE) tyOk mixed Tryz.func35 rfl (by kernel_rfl) (by kernel_rfl) (by simp [Tryz.ntmps35]) (by simp [cdO]) fun w S φ hg=>?_
 have hφ:φ.length=5:=hg.hs0.len
 refine R_run hg.ok 1000 rfl rfl ?_
 refine R_loop (fun k:Nat=>([(0,.lo 0 0),(11,.d (.sl (Gl.rows l))),(12,iV l.length),(13,iV k)],cdO met (slot+testsGL (l.take k)) at_ (c++golDL (l.take k) c.length slot) e)) (fun k=>k≤l.length) (fun k=>l.length - k) 0 (Nat.zero_le _) ⟨.refl _,.refl _,by rw [hrl]; exact .refl _,.refl _,trivial⟩ (by simp only [List.take_zero,golDL,testsGL,List.append_nil,Int.add_zero]; rfl) ?_
 rintro k hk
 refine R_run hg.ok 1000 rfl rfl ?_
 refine R_if rfl rfl (fun h=>?_) (fun h=>?_) <;> refine R_run hg.ok 1000 rfl rfl ?_
 case refine_2 =>
  have hk1:l.length≤k:=ge_dec h rfl
  rw [List.take_of_length_le hk1]
  exact R_endS hg 5 5 (by show (5:Nat)≤5; omega) rfl rfl (cdO_seal _ _ _ _ _ _)
 have hk1:k<l.length:=lt_dec h rfl
 have e1:l[k]? = some l[k]:=List.getElem?_eq_getElem hk1
 have hm:=List.getElem_mem hk1
 have hsz:=gl_sizeL_at e1
 have hgl:=golDL_len (l.take k) c.length slot
 have htb:=testsGL_b (l.take k)
 obtain ⟨sa,sb,sc⟩:=ih _ hm
 have hfg:=fiveL_mem hf hm
 have hq1:=golDL_take e1 c.length slot
 have hq2:=testsGL_take e1
 have hcl:(c++golDL (l.take k) c.length slot).length=c.length+(golDL (l.take k) c.length slot).length:=List.length_append
 rw [← hcl] at hq1
 have hq3:c++golDL (l.take (k+1)) c.length slot=(c++golDL (l.take k) c.length slot)++golD l[k] (c++golDL (l.take k) c.length slot).length (slot+testsGL (l.take k)):=by rw [hq1,List.append_assoc]
 have hq4:slot+testsGL (l.take (k+1))=slot+testsGL (l.take k)+testsG l[k]:=by rw [hq2]; omega
 have hnext:∀ (E:Env) (objs:List Ob),EnvIn [(0,.lo 0 0),(11,.d (.sl (Gl.rows l))),(12,iV l.length),(13,iV (IntKind.i64.wrap ((k:Int)+1)))] E→objs=cdO met (slot+testsGL (l.take (k+1))) at_ (c++golDL (l.take (k+1)) c.length slot) e→True:=fun _ _ _ _=>trivial
 have hcb:(c++golDL (l.take k) c.length slot).length+4 * l[k].size≤100000000:=by rw [hcl]; omega
 have hvb:0≤slot+testsGL (l.take k):=by omega
 have hvc:slot+testsGL (l.take k)+l[k].size≤100000000:=by omega
 clear hq1 hq2 hgl htb hcl hsz hnext
 rw [fiveG_eq] at hfg
 have hge:=Gl.size_eq l[k]
 have hgt:=Gl.tmPos l[k].t
 generalize l[k]=g at *
 generalize c++golDL (l.take k) c.length slot=c1 at *
 generalize slot+testsGL (l.take k)=v1 at *
 refine R_index hg.ok rfl rfl rfl rfl rfl rfl (Int.natCast_nonneg _) (Gl.rows_get e1) rfl ?_
 refine R_run hg.ok 1000 rfl rfl ?_
 by_cases k1:g.k=1
 ·refine R_if rfl rfl (fun _=>?_) (fun h=>absurd h (by simp [k1])) <;> refine R_run hg.ok 1000 rfl rfl ?_
  have hgd:golD g c1.length v1=asksG 9 g.t:=by rw [golD_eq,if_pos (.inl k1),k1]; rfl
  have hgt2:testsG g=0:=by obtain ⟨a1,a2,a3⟩:=hfg.2.1 (by omega); rw [testsG_eq,a1,a2,a3,if_neg (by omega)]; simp [testsGL]
  rw [hgd] at hq3
  rw [hgt2,Int.add_zero] at hq4
  refine R_callSO hg.ok hg.gup hg.wide hg.Y [0,1,2,3,4] (cdO met v1 at_ (c1++asksG 9 g.t) e++[gbx g]) (cdAsks_ok Y 9 g.t met v1 at_ c1 e (by omega)) (fun _=>rfl) rfl rfl rfl rfl rfl (by rw [cdO_ren _ rfl rfl rfl rfl]; rfl) rfl (by rw [cdO_ren _ rfl rfl rfl rfl]; rfl) ?_
  refine R_run hg.ok 1000 rfl rfl ?_
  refine R_dropO 5 (cdO met v1 at_ (c1++asksG 9 g.t) e) (by show φ.length≤_; omega) rfl (cdO_trim (Nat.le_refl _) _ _ _ _ _) ?_
  exact R_next (k+1) hk1 (by omega) ⟨.refl _,.refl _,.refl _,Ent.wrap (by omega) (by omega) (by omega),trivial⟩ (by rw [hq3,hq4])
 refine R_if rfl rfl (fun h=>absurd h (by simp [k1])) (fun _=>?_) <;> refine R_run hg.ok 1000 rfl rfl ?_
 by_cases k2:g.k=2
 ·refine R_if rfl rfl (fun _=>?_) (fun h=>absurd h (by simp [k2])) <;> refine R_run hg.ok 1000 rfl rfl ?_
  have hgd:golD g c1.length v1=asksG 10 g.t:=by rw [golD_eq,if_pos (.inr k2),k2]; rfl
  have hgt2:testsG g=0:=by obtain ⟨a1,a2,a3⟩:=hfg.2.1 (by omega); rw [testsG_eq,a1,a2,a3,if_neg (by omega)]; simp [testsGL]
  rw [hgd] at hq3
  rw [hgt2,Int.add_zero] at hq4
  refine R_callSO hg.ok hg.gup hg.wide hg.Y [0,1,2,3,4] (cdO met v1 at_ (c1++asksG 10 g.t) e++[gbx g]) (cdAsks_ok Y 10 g.t met v1 at_ c1 e (by omega)) (fun _=>rfl) rfl rfl rfl rfl rfl (by rw [cdO_ren _ rfl rfl rfl rfl]; rfl) rfl (by rw [cdO_ren _ rfl rfl rfl rfl]; rfl) ?_
  refine R_run hg.ok 1000 rfl rfl ?_
  refine R_dropO 5 (cdO met v1 at_ (c1++asksG 10 g.t) e) (by show φ.length≤_; omega) rfl (cdO_trim (Nat.le_refl _) _ _ _ _ _) ?_
  exact R_next (k+1) hk1 (by omega) ⟨.refl _,.refl _,.refl _,Ent.wrap (by omega) (by omega) (by omega),trivial⟩ (by rw [hq3,hq4])
 refine R_if rfl rfl (fun h=>absurd h (by simp [k2])) (fun _=>?_) <;> refine R_run hg.ok 1000 rfl rfl ?_
 by_cases k3:g.k=3
 ·refine R_if rfl rfl (fun _=>?_) (fun h=>absurd h (by simp [k3])) <;> refine R_run hg.ok 1000 rfl rfl ?_
  have hgd:golD g c1.length v1=[⟨11,0,0,e0⟩]:=by rw [golD_eq,if_neg (by omega),if_pos k3]
  have hgt2:testsG g=0:=by obtain ⟨a1,a2,a3⟩:=hfg.2.1 (by omega); rw [testsG_eq,a1,a2,a3,if_neg (by omega)]; simp [testsGL]
  rw [hgd] at hq3
  rw [hgt2,Int.add_zero] at hq4
  refine R_callSO hg.ok hg.gup hg.wide hg.Y [0,1,2,3,4] (cdO met v1 at_ (c1++[⟨11,0,0,e0⟩]) e++[gbx g]) (cdAdd_ok Y met v1 at_ c1 e ⟨11,0,0,e0⟩ (by omega)) (fun _=>rfl) rfl rfl rfl rfl rfl (by rw [cdO_ren _ rfl rfl rfl rfl]; rfl) rfl (by rw [cdO_ren _ rfl rfl rfl rfl]; rfl) ?_
  refine R_run hg.ok 1000 rfl rfl ?_
  refine R_dropO 5 (cdO met v1 at_ (c1++[(⟨11,0,0,e0⟩:Is)]) e) (by show φ.length≤_; omega) rfl (cdO_trim (Nat.le_refl _) met v1 at_ (c1++[(⟨11,0,0,e0⟩:Is)]) e) ?_
  exact R_next (k+1) hk1 (by omega) ⟨.refl _,.refl _,.refl _,Ent.wrap (by omega) (by omega) (by omega),trivial⟩ (by rw [hq3,hq4])
 refine R_if rfl rfl (fun h=>absurd h (by simp [k3])) (fun _=>?_) <;> refine R_run hg.ok 1000 rfl rfl ?_
 have hA:=golDL_len g.a (c1.length+2) (v1+1)
 have hta:=testsGL_b g.a
 by_cases k4:g.k=4
 ·refine R_if rfl rfl (fun _=>?_) (fun h=>absurd h (by simp [k4])) <;> refine R_run hg.ok 1000 rfl rfl ?_
  have hgd:=golD_eq g c1.length v1
  rw [if_neg (by omega),if_neg k3,if_neg (by omega)] at hgd
  have hgt2:testsG g=testsGL g.a+testsGL g.b+testsGL g.c+1:=by rw [testsG_eq,if_pos (by omega)]
  have htb:=testsGL_b g.b
  have htc:=testsGL_b g.c
  obtain ⟨A,hAe⟩:∃ A,A=golDL g.a (c1.length+2) (v1+1):=⟨_,rfl⟩
  rw [← hAe] at hA hgd
  have hB:=golDL_len g.b (c1.length+2+A.length+1) (v1+1+testsGL g.a)
  obtain ⟨B,hBe⟩:∃ B,B=golDL g.b (c1.length+2+A.length+1) (v1+1+testsGL g.a):=⟨_,rfl⟩
  rw [← hBe] at hB hgd
  have hC:=golDL_len g.c (c1.length+2+A.length+1+B.length+1) (v1+1+testsGL g.a+testsGL g.b)
  obtain ⟨C,hCe⟩:∃ C,C=golDL g.c (c1.length+2+A.length+1+B.length+1) (v1+1+testsGL g.a+testsGL g.b):=⟨_,rfl⟩
  rw [← hCe] at hC hgd
  obtain ⟨c2,hc2⟩:∃ c2,c2=c1++[(⟨13,v1,0,e0⟩:Is),⟨14,0,0,e0⟩]:=⟨_,rfl⟩
  have l2:c2.length=c1.length+2:=by rw [hc2]; simp
  have pA:=sa met (v1+1) at_ c2 e hfg.2.2.2.1 (by omega) (by omega) (by omega)
  rw [l2,← hAe] at pA
  obtain ⟨c3,hc3⟩:∃ c3,c3=c2++A++[(⟨15,v1,0,e0⟩:Is)]:=⟨_,rfl⟩
  have l3:c3.length=c1.length+2+A.length+1:=by rw [hc3]; simp [l2]; omega
  have pB:=sb met (v1+1+testsGL g.a) at_ c3 e hfg.2.2.2.2.1 (by omega) (by omega) (by omega)
  rw [l3,← hBe] at pB
  obtain ⟨c4,hc4⟩:∃ c4,c4=c3++B++[(⟨16,0,0,e0⟩:Is)]:=⟨_,rfl⟩
  have l4:c4.length=c1.length+2+A.length+1+B.length+1:=by rw [hc4]; simp [l3]; omega
  have x4:c4[c1.length+1]? = some ⟨14,0,0,e0⟩:=by rw [hc4,hc3,hc2]; simp [List.append_assoc]
  obtain ⟨c5,hc5⟩:∃ c5,c5=c4.set (c1.length+1) ⟨14,0,c4.length,e0⟩:=⟨_,rfl⟩
  have l5:c5.length=c1.length+2+A.length+1+B.length+1:=by rw [hc5,List.length_set]; exact l4
  have pC:=sc met (v1+1+testsGL g.a+testsGL g.b) at_ c5 e hfg.2.2.2.2.2 (by omega) (by omega) (by omega)
  rw [l5,← hCe] at pC
  have x6:(c5++C)[c1.length+2+A.length+1+B.length]? = some ⟨16,0,0,e0⟩:=by
   rw [List.getElem?_append_left (by omega),hc5,List.getElem?_set_ne (by omega),hc4,List.getElem?_append_right (by simp [l3]),List.length_append,l3,Nat.sub_self]; rfl
  have hfin:(c5++C).set (c1.length+2+A.length+1+B.length) ⟨16,0,(c5++C).length,e0⟩=c++golDL (l.take (k+1)) c.length slot:=by
   rw [hq3,hgd,← if_steps c1 A B C v1 c4.length (c5++C).length c1.length rfl (by rw [l4]) (by rw [List.length_append,l5]),hc5,hc4,hc3,hc2]
  refine R_callSO hg.ok hg.gup hg.wide hg.Y [0,1,2,3,4] (cdO met (v1+1) at_ c2 e++[gbx g]) ((hc2 ▸ cdBegin_ok Y met v1 at_ c1 e hvb (by omega) (by omega))) (fun _=>rfl) rfl rfl rfl rfl rfl (by rw [cdO_ren _ rfl rfl rfl rfl]; rfl) rfl (by rw [cdO_ren _ rfl rfl rfl rfl]; rfl) ?_
  refine R_run hg.ok 1000 rfl rfl ?_
  refine R_callSO hg.ok hg.gup hg.wide hg.Y [0,1,2,3,4] (cdO met (v1+1+testsGL g.a) at_ (c2++A) e++[gbx g]) (pA) (fun _=>rfl) rfl rfl rfl rfl rfl (by rw [cdO_ren _ rfl rfl rfl rfl]; rfl) rfl (by rw [cdO_ren _ rfl rfl rfl rfl]; rfl) ?_
  refine R_run hg.ok 1000 rfl rfl ?_
  have pD:=cdAdd_ok Y met (v1+1+testsGL g.a) at_ (c2++A) e ⟨15,v1,0,e0⟩ (by rw [List.length_append]; omega)
  rw [← hc3] at pD
  refine R_callSO hg.ok hg.gup hg.wide hg.Y [0,1,2,3,4] (cdO met (v1+1+testsGL g.a) at_ c3 e++[gbx g]) (pD) (fun _=>rfl) rfl rfl rfl rfl rfl (by rw [cdO_ren _ rfl rfl rfl rfl]; rfl) rfl (by rw [cdO_ren _ rfl rfl rfl rfl]; rfl) ?_
  refine R_run hg.ok 1000 rfl rfl ?_
  refine R_callSO hg.ok hg.gup hg.wide hg.Y [0,1,2,3,4] (cdO met (v1+1+testsGL g.a+testsGL g.b) at_ (c3++B) e++[gbx g]) (pB) (fun _=>rfl) rfl rfl rfl rfl rfl (by rw [cdO_ren _ rfl rfl rfl rfl]; rfl) rfl (by rw [cdO_ren _ rfl rfl rfl rfl]; rfl) ?_
  refine R_run hg.ok 1000 rfl rfl ?_
  have pE:=cdAdd_ok Y met (v1+1+testsGL g.a+testsGL g.b) at_ (c3++B) e ⟨16,0,0,e0⟩ (by rw [List.length_append]; omega)
  rw [← hc4,List.length_append,l3] at pE
  refine R_callSO hg.ok hg.gup hg.wide hg.Y [0,1,2,3,4] (cdO met (v1+1+testsGL g.a+testsGL g.b) at_ c4 e++[gbx g]) (pE) (fun _=>rfl) rfl rfl rfl rfl rfl (by rw [cdO_ren _ rfl rfl rfl rfl]; rfl) rfl (by rw [cdO_ren _ rfl rfl rfl rfl]; rfl) ?_
  refine R_run hg.ok 1000 rfl rfl ?_
  have pF:=cdHere_ok Y met (v1+1+testsGL g.a+testsGL g.b) at_ c4 e _ _ x4 (by omega)
  rw [← hc5] at pF
  refine R_callSO hg.ok hg.gup hg.wide hg.Y [0,1,2,3,4] (cdO met (v1+1+testsGL g.a+testsGL g.b) at_ c5 e++[gbx g]) (pF) (fun _=>rfl) rfl rfl rfl rfl rfl (by rw [cdO_ren _ rfl rfl rfl rfl]; rfl) rfl (by rw [cdO_ren _ rfl rfl rfl rfl]; rfl) ?_
  refine R_run hg.ok 1000 rfl rfl ?_
  refine R_callSO hg.ok hg.gup hg.wide hg.Y [0,1,2,3,4] (cdO met (v1+1+testsGL g.a+testsGL g.b+testsGL g.c) at_ (c5++C) e++[gbx g]) (pC) (fun _=>rfl) rfl rfl rfl rfl rfl (by rw [cdO_ren _ rfl rfl rfl rfl]; rfl) rfl (by rw [cdO_ren _ rfl rfl rfl rfl]; rfl) ?_
  refine R_run hg.ok 1000 rfl rfl ?_
  have pG:=cdHere_ok Y met (v1+1+testsGL g.a+testsGL g.b+testsGL g.c) at_ (c5++C) e _ _ x6 (by rw [List.length_append]; omega)
  rw [hfin] at pG
  refine R_callSO hg.ok hg.gup hg.wide hg.Y [0,1,2,3,4] (cdO met (v1+1+testsGL g.a+testsGL g.b+testsGL g.c) at_ (c++golDL (l.take (k+1)) c.length slot) e++[gbx g]) (pG) (fun _=>rfl) rfl rfl rfl rfl rfl (by rw [cdO_ren _ rfl rfl rfl rfl]; rfl) rfl (by rw [cdO_ren _ rfl rfl rfl rfl]; rfl) ?_
  refine R_run hg.ok 1000 rfl rfl ?_
  rw [show v1+1+testsGL g.a+testsGL g.b+testsGL g.c=slot+testsGL (l.take (k+1)) by omega]
  refine R_dropO 5 (cdO met (slot+testsGL (l.take (k+1))) at_ (c++golDL (l.take (k+1)) c.length slot) e) (by show φ.length≤_; omega) rfl (cdO_trim (Nat.le_refl _) _ _ _ _ _) ?_
  exact R_next (k+1) hk1 (by omega) ⟨.refl _,.refl _,.refl _,Ent.wrap (by omega) (by omega) (by omega),trivial⟩ rfl
 refine R_if rfl rfl (fun h=>absurd h (by simp [k4])) (fun _=>?_) <;> refine R_run hg.ok 1000 rfl rfl ?_
 have k5:g.k=5:=by omega
 refine R_if rfl rfl (fun _=>?_) (fun h=>absurd h (by simp [k5])) <;> refine R_run hg.ok 1000 rfl rfl ?_
 obtain ⟨b0,c0⟩:=hfg.2.2.1 k5
 have hgd:golD g c1.length v1=notCode c1.length v1 (golDL g.a (c1.length+2) (v1+1)):=by rw [golD_eq,if_neg (by omega),if_neg k3,if_pos k5]
 have hgt2:testsG g=testsGL g.a+1:=by rw [testsG_eq,if_pos (by omega),b0,c0]; simp [testsGL]
 obtain ⟨A,hAe⟩:∃ A,A=golDL g.a (c1.length+2) (v1+1):=⟨_,rfl⟩
 rw [← hAe] at hA hgd
 obtain ⟨c2,hc2⟩:∃ c2,c2=c1++[(⟨13,v1,0,e0⟩:Is),⟨14,0,0,e0⟩]:=⟨_,rfl⟩
 have l2:c2.length=c1.length+2:=by rw [hc2]; simp
 have pA:=sa met (v1+1) at_ c2 e hfg.2.2.2.1 (by omega) (by omega) (by omega)
 rw [l2,← hAe] at pA
 obtain ⟨c3,hc3⟩:∃ c3,c3=c2++A++[(⟨15,v1,0,e0⟩:Is)]++[(⟨17,0,0,e0⟩:Is)]:=⟨_,rfl⟩
 have l3:c3.length=c1.length+2+A.length+2:=by rw [hc3]; simp [l2]; omega
 have x4:c3[c1.length+1]? = some ⟨14,0,0,e0⟩:=by rw [hc3,hc2]; simp [List.append_assoc]
 have hfin:c3.set (c1.length+1) ⟨14,0,c3.length,e0⟩=c++golDL (l.take (k+1)) c.length slot:=by
  rw [hq3,hgd,← not_steps c1 A v1 c3.length c1.length rfl (by rw [l3]),hc3,hc2]
 refine R_callSO hg.ok hg.gup hg.wide hg.Y [0,1,2,3,4] (cdO met (v1+1) at_ c2 e++[gbx g]) ((hc2 ▸ cdBegin_ok Y met v1 at_ c1 e hvb (by omega) (by omega))) (fun _=>rfl) rfl rfl rfl rfl rfl (by rw [cdO_ren _ rfl rfl rfl rfl]; rfl) rfl (by rw [cdO_ren _ rfl rfl rfl rfl]; rfl) ?_
 refine R_run hg.ok 1000 rfl rfl ?_
 refine R_callSO hg.ok hg.gup hg.wide hg.Y [0,1,2,3,4] (cdO met (v1+1+testsGL g.a) at_ (c2++A) e++[gbx g]) (pA) (fun _=>rfl) rfl rfl rfl rfl rfl (by rw [cdO_ren _ rfl rfl rfl rfl]; rfl) rfl (by rw [cdO_ren _ rfl rfl rfl rfl]; rfl) ?_
 refine R_run hg.ok 1000 rfl rfl ?_
 refine R_callSO hg.ok hg.gup hg.wide hg.Y [0,1,2,3,4] (cdO met (v1+1+testsGL g.a) at_ (c2++A++[(⟨15,v1,0,e0⟩:Is)]) e++[gbx g]) (cdAdd_ok Y met (v1+1+testsGL g.a) at_ (c2++A) e ⟨15,v1,0,e0⟩ (by rw [List.length_append]; omega)) (fun _=>rfl) rfl rfl rfl rfl rfl (by rw [cdO_ren _ rfl rfl rfl rfl]; rfl) rfl (by rw [cdO_ren _ rfl rfl rfl rfl]; rfl) ?_
 refine R_run hg.ok 1000 rfl rfl ?_
 have pE:=cdAdd_ok Y met (v1+1+testsGL g.a) at_ (c2++A++[(⟨15,v1,0,e0⟩:Is)]) e ⟨17,0,0,e0⟩ (by simp only [List.length_append,List.length_singleton]; omega)
 rw [← hc3] at pE
 refine R_callSO hg.ok hg.gup hg.wide hg.Y [0,1,2,3,4] (cdO met (v1+1+testsGL g.a) at_ c3 e++[gbx g]) (pE) (fun _=>rfl) rfl rfl rfl rfl rfl (by rw [cdO_ren _ rfl rfl rfl rfl]; rfl) rfl (by rw [cdO_ren _ rfl rfl rfl rfl]; rfl) ?_
 refine R_run hg.ok 1000 rfl rfl ?_
 have pG:=cdHere_ok Y met (v1+1+testsGL g.a) at_ c3 e _ _ x4 (by omega)
 rw [hfin] at pG
 refine R_callSO hg.ok hg.gup hg.wide hg.Y [0,1,2,3,4] (cdO met (v1+1+testsGL g.a) at_ (c++golDL (l.take (k+1)) c.length slot) e++[gbx g]) (pG) (fun _=>rfl) rfl rfl rfl rfl rfl (by rw [cdO_ren _ rfl rfl rfl rfl]; rfl) rfl (by rw [cdO_ren _ rfl rfl rfl rfl]; rfl) ?_
 refine R_run hg.ok 1000 rfl rfl ?_
 rw [show v1+1+testsGL g.a=slot+testsGL (l.take (k+1)) by omega]
 refine R_dropO 5 (cdO met (slot+testsGL (l.take (k+1))) at_ (c++golDL (l.take (k+1)) c.length slot) e) (by show φ.length≤_; omega) rfl (cdO_trim (Nat.le_refl _) _ _ _ _ _) ?_
 exact R_next (k+1) hk1 (by omega) ⟨.refl _,.refl _,.refl _,Ent.wrap (by omega) (by omega) (by omega),trivial⟩ rfl
end Go.Proofs.YtcgkgofmldhokaaGreat

namespace PSL
open Go

mutual
def calls1:Gl→List Tm
 | .mk k t a b c=>(if k=1 then [t] else [])++callsT a++callsT b++callsT c
def callsT:List Gl→List Tm
 | []=>[]
 | g::r=>calls1 g++callsT r
end
def callsS (l:List Gl):List Sg:=(callsT l).map sgOf

inductive Rch (l:List Cs) (roots:List Sg):Sg→Prop
 | root {p:Sg}:p∈roots→Rch l roots p
 | step {c:Cs} {p:Sg}:c∈l→Rch l roots (sgOf c.head)→p∈callsS c.body→Rch l roots p
end PSL

namespace PSL
open Go
def tt (ks:List Sg):List (Sg × Bool):=ks.map fun p=>(p,true)
end PSL

namespace PSL
open Go

theorem firstN_none {α:Type} (p:α→Bool):∀ (l:List α) (i:Nat),firstN p l i=none↔∀ x∈l,p x=true
 | [],_=>by simp [firstN]
 | x::r,i=>by
  simp only [firstN]
  split
  ·rename_i h
   rw [firstN_none p r (i+1)]; simp [h]
  ·rename_i h
   simp [h]

theorem checkR_ok (l:List Cs):(checkR l).2=0↔l.length≤200∧(∀ c∈l,clsB c=true)∧∀ c∈l,thereL (hasH l) c.body=true:=by
 unfold checkR
 split
 ·rename_i h
  constructor
  ·intro h2; cases h2
  ·intro h2; omega
 ·rename_i h
  have h:l.length≤200:=by omega
  cases h1:firstN clsB l 0 with
  | some i =>
   simp only
   constructor
   ·intro h2; cases h2
   ·rintro ⟨_,h2,_⟩
    rw [(firstN_none clsB l 0).2 h2] at h1; cases h1
  | none =>
   have h1:=(firstN_none clsB l 0).1 h1
   simp only
   cases h2:firstN (fun c=>thereL (hasH l) c.body) l 0 with
   | some i =>
    simp only
    constructor
    ·intro h2; cases h2
    ·rintro ⟨_,_,h3⟩
     rw [(firstN_none (fun c=>thereL (hasH l) c.body) l 0).2 h3] at h2; cases h2
   | none =>
    have h2:=(firstN_none (fun c=>thereL (hasH l) c.body) l 0).1 h2
    simp only [true_iff]
    exact ⟨h,h1,h2⟩
end PSL

namespace PSL
open Go
section
variable {g:G} {pf:Nat→Cls} {ops:Array Oper} {Fin:Exit→Act→World→Prop}
end
end PSL
namespace PSL
open Go
theorem Cs.rows_snoc (out:List Cs) (x:Cs):Cs.rows out++[x.row]=Cs.rows (out++[x]):=by simp [Cs.rows]
end PSL
namespace PSL
open Go
end PSL
namespace PSL
open Go
end PSL

namespace PSL
open Go

theorem Cs.sizeL_sub {l m:List Cs} (h:l.Sublist m):Cs.sizeL l≤Cs.sizeL m:=by
 induction h with
 | slnil=>exact Nat.le_refl _
 | cons a _ ih=>simp only [Cs.sizeL]; omega
 | cons_cons a _ ih=>simp only [Cs.sizeL]; omega

theorem Cs.size_mem {l:List Cs} {c:Cs} (h:c∈l):Cs.size c≤Cs.sizeL l:=by
 have:=Cs.sizeL_sub (List.singleton_sublist.2 h)
 simp only [Cs.sizeL] at this; omega

structure Med (l:List Cs):Prop where
 sm:∀ c∈l,SmC c
 len:l.length≤210
 size:Cs.sizeL l≤3000

theorem Med.sub {l m:List Cs} (h:Med m) (hs:l.Sublist m):Med l :=
 ⟨fun c hc=>h.sm c (hs.subset hc),by have:=hs.length_le; have:=h.len; omega,by have:=Cs.sizeL_sub hs; have:=h.size; omega⟩

theorem Med.body {l:List Cs} (h:Med l):∀ c∈l,Gl.sizeL c.body≤500000:=fun c hc=>by
 have h1:=Cs.size_mem hc
 have h2:=h.size
 unfold Cs.size at h1; omega

theorem Med.head {l:List Cs} (h:Med l):∀ c∈l,c.head.l.length≤1000000:=fun c hc=>by
 have h1:=(h.sm c hc).head.1
 have h2:=Tm.size_eq c.head
 have h3:=Tm.len_le_sizeL c.head.l
 omega
end PSL
namespace PSL
open Go
end PSL
namespace PSL
open Go
end PSL
namespace PSL
open Go
end PSL
namespace PSL
open Go
end PSL
namespace PSL
open Go
end PSL

namespace Go.Proofs.YtcgkgofmldhokaaGreat
open Go PSL Go.Proofs
def kyA (k:Ky):AV:=.agg [.d (.v (.int .i64 k.kind)),.d (.v (.int .i64 k.n)),.d (.v (.string k.s))]

set_option maxRecDepth 100000 in
theorem key_ok (t:Tm):PCtr Tryz.prog 37 [t.av] (kyA (keyG t.l)):=by
 refine PCtr.of_R (pf:=fun _=>.eff) tyOk mixed Tryz.func37 rfl (by kernel_rfl) (by kernel_rfl) (by simp [Tryz.ntmps37]) fun w S hg=>?_
 refine R_run hg.ok 1000 rfl rfl ?_
 cases hl:t.l with
 | nil =>
  refine R_if rfl rfl (fun _=>?_) (fun h=>absurd h (by simp [hl,Tm.rows])) <;> refine R_run hg.ok 1000 rfl rfl ?_
  refine R_ret hg 5 rfl rfl ?_
  rfl
 | cons x r =>
  refine R_if rfl rfl (fun h=>absurd h (by simp [hl,Tm.rows]; omega)) (fun _=>?_) <;> refine R_run hg.ok 1000 rfl rfl ?_
  refine R_index hg.ok rfl rfl rfl rfl rfl rfl (Int.natCast_nonneg _) ((Tm.rows_get (i:=0) (x:=x) (by rfl))) rfl ?_
  refine R_run hg.ok 1000 rfl rfl ?_
  show _
  unfold keyG keyT
  by_cases h2:x.k=2
  ·refine R_if rfl rfl (fun _=>?_) (fun h=>absurd h (by simp [h2])) <;> refine R_run hg.ok 1000 rfl rfl ?_
   refine R_ret hg 5 rfl rfl ?_
   simp only [if_pos h2]; rfl
  refine R_if rfl rfl (fun h=>absurd h (by simp [h2])) (fun _=>?_) <;> refine R_run hg.ok 1000 rfl rfl ?_
  by_cases h3:x.k=3
  ·refine R_if rfl rfl (fun _=>?_) (fun h=>absurd h (by simp [h3])) <;> refine R_run hg.ok 1000 rfl rfl ?_
   refine R_ret hg 5 rfl rfl ?_
   simp only [if_neg h2,if_pos h3]
   rw [Tm.rows_length]; rfl
  refine R_if rfl rfl (fun h=>absurd h (by simp [h3])) (fun _=>?_) <;> refine R_run hg.ok 1000 rfl rfl ?_
  refine R_ret hg 5 rfl rfl ?_
  simp only [if_neg h2,if_neg h3]; rfl
end Go.Proofs.YtcgkgofmldhokaaGreat

namespace Go.Proofs.YtcgkgofmldhokaaGreat
open Go PSL Go.Proofs

theorem contains_cons' {l:List Int} {x n:Int}:(x::l).contains n=(decide (x=n) || l.contains n):=by
 simp only [List.contains_cons]; congr 1; rw [Bool.eq_iff_iff]; simp; exact eq_comm
end Go.Proofs.YtcgkgofmldhokaaGreat

namespace Go.Proofs.YtcgkgofmldhokaaGreat
open Go PSL Go.Proofs
end Go.Proofs.YtcgkgofmldhokaaGreat

namespace Go.Proofs.YtcgkgofmldhokaaGreat
open Go PSL Go.Proofs
end Go.Proofs.YtcgkgofmldhokaaGreat
