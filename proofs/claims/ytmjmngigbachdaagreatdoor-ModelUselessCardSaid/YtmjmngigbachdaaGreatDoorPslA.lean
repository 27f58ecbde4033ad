import Derived.OrdersIn
import Derived.Below
import Derived.KernelRfl
import GoSem.ClaimData
import Derived.Laws.AppendOwn
namespace ax
open Go
theorem ag{p q:Prop}(h:p)(f:p->q:=by intro x;exact dJ hg.ok rfl rfl x):q:=f h
theorem af{p p' q:Prop}(h:p)(h':p')(f:p->p'->q:=by intro x y;exact iq rfl rfl (λh=>dJ hg.ok rfl rfl (x h)) (λh=>dJ hg.ok rfl rfl (y h))):q:=f h h'
theorem iG{p p' q:Prop}(h:p)(h':p')(f:p->p'->q:=by intro x y;exact iq rfl rfl x y):q:=f h h'
theorem aA{c p q:Prop}(e:c)(h:p)(f:c->p->q:=by intro e x;exact Ny hg.ok e rfl rfl rfl rfl rfl rfl (dJ hg.ok rfl rfl x)):q:=f e h
theorem cJ{c p q:Prop}(e:c)(h:p)(f:c->p->q:=by intro e x;exact dX hg.ok rfl rfl rfl rfl rfl rfl (Int.natCast_nonneg _) e rfl (dJ hg.ok rfl rfl x)):q:=f e h
structure fp(p:Prop):Prop where v:p
theorem r7{p q:Prop}(h:p)(f:fp p->q:=by intro x;(repeat first|(refine iq rfl rfl (λ_=>?_) (λh=>absurd h (by first|(simp;done)|(simp;omega)));refine dJ hg.ok rfl rfl ?_)|(refine iq rfl rfl (λh=>absurd h (by first|(simp;done)|(simp;omega))) (λ_=>?_);refine dJ hg.ok rfl rfl ?_));exact x.1):q:=f ⟨h⟩
theorem u0{c p q:Prop}(e:c)(h:p)(f:c->p->q:=by intro e bd;exact aU.ej (pf:=λ_=>.jz) gK mixed e rfl (by kernel_rfl) (by kernel_rfl) (Nat.le_of_ble_eq_true rfl) (Nat.le_of_ble_eq_true rfl) λw S φ hg=>dJ hg.ok rfl rfl (bd w S φ hg)):q:=f e h
theorem ng{c p q:Prop}(e:c)(h:p)(f:c->p->q:=by intro e bd;exact br.ej (pf:=λ_=>.still) gK mixed e rfl (by kernel_rfl) (by kernel_rfl) (Nat.le_of_ble_eq_true rfl) λw S hg=>dJ hg.ok rfl rfl (bd w S hg)):q:=f e h
theorem v8{c p q:Prop}(e:c)(h:p)(f:c->p->q:=by intro e bd;exact br.ej (pf:=λ_=>.jz) gK mixed e rfl (by kernel_rfl) (by kernel_rfl) (Nat.le_of_ble_eq_true rfl) λw S hg=>dJ hg.ok rfl rfl (bd w S hg)):q:=f e h
theorem mH4{c p q:Prop}(e:c)(h:p)(f:c->p->q:=by intro e bd;exact aU.ej (pf:=λ_=>.look 0) gK mixed e rfl (by kernel_rfl) (by kernel_rfl) (Nat.le_of_ble_eq_true rfl) (Nat.le_of_ble_eq_true rfl) λw S φ hg=>bd w S φ hg):q:=f e h
theorem mH5{c p q:Prop}(e:c)(h:p)(f:c->p->q:=by intro e bd;exact aU.ej (pf:=ao4) gK mixed e rfl (by kernel_rfl) (by kernel_rfl) (Nat.le_of_ble_eq_true rfl) (Nat.le_of_ble_eq_true rfl) λw S φ hg=>dJ hg.ok rfl rfl (bd w S φ hg)):q:=f e h
theorem mH6{c p q:Prop}(e:c)(h:p)(f:c->p->q:=by intro e bd;exact br.ej (pf:=pfB) gK mixed e rfl (by kernel_rfl) (by kernel_rfl) (Nat.le_of_ble_eq_true rfl) λw S hg=>dJ hg.ok rfl rfl (bd w S hg)):q:=f e h
theorem mH7{c p q:Prop}(e:c)(h:p)(f:c->p->q:=by intro e bd;exact aU.ej (pf:=ao5) gK mixed e rfl (by kernel_rfl) (by kernel_rfl) (Nat.le_of_ble_eq_true rfl) (Nat.le_of_ble_eq_true rfl) λw S φ hg=>bd w S φ hg):q:=f e h
theorem mH8{c p q:Prop}(e:c)(h:p)(f:c->p->q:=by intro e bd;exact aU.ej (pf:=akL) gK mixed e rfl (by kernel_rfl) (by kernel_rfl) (Nat.le_of_ble_eq_true rfl) (Nat.le_of_ble_eq_true rfl) λw S φ hg=>dJ hg.ok rfl rfl (bd w S φ hg)):q:=f e h
theorem Qo{c p q:Prop}(e:c)(h:p)(f:c->p->q:=by intro e bd;exact aU.ej (pf:=λ_=>.jz) gK mixed e rfl (by kernel_rfl) (by kernel_rfl) (Nat.le_of_ble_eq_true rfl) (Nat.le_of_ble_eq_true rfl) λw S φ hg=>bd w S φ hg):q:=f e h
theorem ao6{c p q:Prop}(e:c)(h:p)(f:c->p->q:=by intro e bd;exact aU.ej (pf:=ao7) gK mixed e rfl (by kernel_rfl) (by kernel_rfl) (Nat.le_of_ble_eq_true rfl) (Nat.le_of_ble_eq_true rfl) λw S φ hg=>bd w S φ hg):q:=f e h
theorem ao8{c p q:Prop}(e:c)(h:p)(f:c->p->q:=by intro e bd;exact aU.ej (pf:=ao9) gK mixed e rfl (by kernel_rfl) (by kernel_rfl) (Nat.le_of_ble_eq_true rfl) (Nat.le_of_ble_eq_true rfl) λw S φ hg=>bd w S φ hg):q:=f e h
theorem akM{c p q:Prop}(e:c)(h:p)(f:c->p->q:=by intro e bd;exact br.ej (pf:=ag0) gK mixed e rfl (by kernel_rfl) (by kernel_rfl) (Nat.le_of_ble_eq_true rfl) λw S hg=>dJ hg.ok rfl rfl (bd w S hg)):q:=f e h
theorem akN{c p q:Prop}(e:c)(h:p)(f:c->p->q:=by intro e bd;exact aU.ej (pf:=akP) gK mixed e rfl (by kernel_rfl) (by kernel_rfl) (Nat.le_of_ble_eq_true rfl) (Nat.le_of_ble_eq_true rfl) λw S φ hg=>dJ hg.ok rfl rfl (bd w S φ hg)):q:=f e h
theorem bz{p q:Prop}(h:p)(f:p->q:=by intro bd;exact wj hg 5 rfl rfl bd):q:=f h
theorem gg{p q:Prop}(h:p)(f:fp p->q:=by intro bd;exact eG hg.ok rfl rfl (by simp) rfl rfl bd.1):q:=f ⟨h⟩
theorem mM{p q:Prop}(h:p)(f:fp p->q:=by intro bd;exact cQ hg.ok rfl rfl (by simp) rfl rfl bd.1):q:=f ⟨h⟩
theorem mN{p q:Prop}(h:p)(f:fp p->q:=by intro bd;exact eG hg.ok rfl rfl (by simp[hk]) rfl rfl bd.1):q:=f ⟨h⟩
theorem wk{q:Prop}(f:q:=by exact aL hg 3 5 (Nat.le_refl _) rfl rfl (jj B _)):q:=f
theorem mL6{p q:Prop}(h:p)(f:fp p->q:=by intro bd;exact jk hg.ok hg.cm hg.wide hg.Y [0,1,2,3,4,5] (Nz Y P hd ab {m with now:=r} d v) (λ_=>rfl) rfl rfl rfl rfl rfl (by rw[show JI P hd ab {m with now:=r} d v=dt P hd ab {m with now:=r} d v from rfl,dY,<-e];rfl) rfl (by rw[show JI P hd ab {m with now:=r} d v=dt P hd ab {m with now:=r} d v from rfl,dY,<-e];rfl) (dJ hg.ok rfl rfl bd.1)):q:=f ⟨h⟩
theorem Nj{p q:Prop}(h:p)(f:fp p->q:=by intro bd;exact Hd hg.ok (by show φ.length<=7;omega) rfl rfl rfl rfl rfl rfl rfl (dJ hg.ok rfl rfl bd.1)):q:=f ⟨h⟩
theorem Nk{p q:Prop}(h:p)(f:fp p->q:=by intro bd;exact Hd hg.ok (by show φ.length<=8;omega) rfl rfl rfl rfl rfl rfl rfl (dJ hg.ok rfl rfl bd.1)):q:=f ⟨h⟩
theorem mL9{p q:Prop}(h:p)(f:fp p->q:=by intro bd;exact cR hg.ok (gx (R++(x'.l.zip y'.l).take (k+1))) rfl rfl rfl rfl rfl rfl rfl rfl rfl (by simp) (by simp[pD]) (by rw[Js];exact Te _ xk yk) (by rw[iY,VY];simp;omega) (by rw[iY,VY];simp;omega) (dJ hg.ok rfl rfl bd.1)):q:=f ⟨h⟩
theorem abD{p q:Prop}(h:p)(f:fp p->q:=by intro bd;exact Wg hg.ok (.fs [[.v (.int .i64 xk.k),.v (.string xk.s),.v (.int .i64 xk.n),.sl (Tm.aa xk.l),.v (.int .i64 yk.k),.v (.string yk.s),.v (.int .i64 yk.n),.sl (Tm.aa yk.l)]]) rfl rfl (NA rfl rfl rfl rfl (by decide)) (dJ hg.ok rfl rfl bd.1)):q:=f ⟨h⟩
theorem lW{q:Prop}(f:q:=by exact aL hg 1 5 (Nat.le_refl _) rfl rfl rfl):q:=f
theorem ag1{p q:Prop}(h:p)(f:fp p->q:=by intro bd;exact aj hg.ok hg.cm hg.wide hg.Y [0,1,2] (cn d a b B (s+1) R cK++[aO x',aO y',.box [iV x.n,iV y.n]]) cw (λ_=>rfl) rfl rfl rfl rfl rfl (by rw[cp];rfl) rfl (by rw[cp];rfl) (dJ hg.ok rfl rfl bd.1)):q:=f ⟨h⟩
theorem ag2{p q:Prop}(h:p)(f:fp p->q:=by intro bd;exact aj hg.ok hg.cm hg.wide hg.Y [0,1,2] (cn d a b B (s+1) R cK++[aO y',aO x',.box [iV x.n,iV y.n]]) cw (λ_=>rfl) rfl rfl rfl rfl rfl (by rw[cp];rfl) rfl (by rw[cp];rfl) (dJ hg.ok rfl rfl bd.1)):q:=f ⟨h⟩
theorem JJ{p q:Prop}(h:p)(f:fp p->q:=by intro bd;exact jk hg.ok hg.cm hg.wide hg.Y [1,2,3] (u1 Y d m.B) (λ_=>rfl) rfl rfl rfl rfl rfl (by rw[nu];rfl) rfl (by rw[nu];rfl) (dJ hg.ok rfl rfl bd.1)):q:=f ⟨h⟩
theorem z8{p q:Prop}(h:p)(f:p->q:=by intro bd;exact Wh hg.ok rfl rfl rfl rfl rfl rfl rfl rfl rfl (dJ hg.ok rfl rfl bd)):q:=f h
theorem Wi{p q:Prop}(h:p)(f:fp p->q:=by intro bd;exact cR hg.ok _ rfl rfl rfl rfl rfl rfl rfl rfl rfl (by simp) (by simp[pD]) (Tf e1) (by rw[Tm.ao,Tm.j5];simp;omega) (by rw[Tm.ao,Tm.j5];simp;omega) (dJ hg.ok rfl rfl bd.1)):q:=f ⟨h⟩
theorem akQ{p q:Prop}(h:p)(f:fp p->q:=by intro bd;exact aj hg.ok hg.cm hg.wide hg.Y [0,1,2,3,4,5] (ld P hd ab {m with done:=m.done+1} d v (.bL (aY g1 s1 o1 z1))) (E8 Y P hd ab {m with now:=r} (by show m.done<_;omega) d v) (λ_=>rfl) rfl rfl rfl rfl rfl (by rw[show JI P hd ab {m with now:=r} d v=dt P hd ab {m with now:=r} d v from rfl,dY,<-e];rfl) rfl (by rw[show JI P hd ab {m with now:=r,done:=m.done+1} d v=dt P hd ab {m with now:=r,done:=m.done+1} d v from rfl,dY,<-e2];rfl) (dJ hg.ok rfl rfl bd.1)):q:=f ⟨h⟩
theorem akR{p q:Prop}(h:p)(f:fp p->q:=by intro bd;exact aj hg.ok hg.cm hg.wide hg.Y [0,1,2,3,4,5] (ld P hd ab {m with done:=m.done+1} d v (.v (.pointer none))) (E8 Y P hd ab {m with now:=r} (by show m.done<_;omega) d v) (λ_=>rfl) rfl rfl rfl rfl rfl (by rw[show JI P hd ab {m with now:=r} d v=dt P hd ab {m with now:=r} d v from rfl,dY,<-e];rfl) rfl (by rw[show JI P hd ab {m with now:=r,done:=m.done+1} d v=dt P hd ab {m with now:=r,done:=m.done+1} d v from rfl,dY,<-e2];rfl) (dJ hg.ok rfl rfl bd.1)):q:=f ⟨h⟩
theorem Wj{q:Prop}(f:q:=by exact bb (k+1) aI (by omega) ⟨.refl _,.refl _,.refl _,.refl _,.refl _,.refl _,bJ.wrap (by omega) (by omega) (by omega),trivial⟩ rfl):q:=f
theorem ui{p q:Prop}(h:p)(f:p->q:=by intro bd;exact Wk hg.ok Tryz.underlying61 rfl rfl rfl (dJ hg.ok rfl rfl bd)):q:=f h
theorem akS{p q:Prop}(h:p)(f:fp p->q:=by intro bd;exact aj hg.ok hg.cm hg.wide hg.Y [0,1,2] (cn d a b (B++[(x'.n,y')]) (s+1) R cK++[aO x',aO y',.box [iV x.n,iV y.n]]) cb (λ_=>rfl) rfl rfl rfl rfl rfl (by rw[cp];rfl) rfl (by rw[cp];rfl) (dJ hg.ok rfl rfl bd.1)):q:=f ⟨h⟩
theorem apa{p q:Prop}(h:p)(f:fp p->q:=by intro bd;exact a7 (λk:Nat=>([(0,.lo 0 0),(7,.ow 5 (s+1+k)),(8,.mp 6),(10,.lo 8 0),(66,.d (.sl (Tm.aa x'.l))),(67,iV x'.l.length),(68,iV k)],cn d a b B (s+1+k) (R++(x'.l.zip y'.l).take k) cK++[aO x',aO y',.box [iV x.n,iV y.n]])) (λk=>k<=x'.l.length) (λk=>x'.l.length-k) 0 (Nat.zero_le _) ⟨.refl _,.refl _,.refl _,.refl _,.refl _,bJ.int (by rw[Tm.ao]),.refl _,trivial⟩ (by simp only[List.take_zero,List.append_nil];rfl) bd.1):q:=f ⟨h⟩
theorem akT{p q:Prop}(h:p)(f:fp p->q:=by intro bd;exact aj hg.ok hg.cm hg.wide hg.Y [0,1,2] (cn d a b (B++[(x'.n,y')]) (s+1) R cK++[aO y',aO x',.box [iV x.n,iV y.n]]) cb (λ_=>rfl) rfl rfl rfl rfl rfl (by rw[cp];rfl) rfl (by rw[cp];rfl) (dJ hg.ok rfl rfl bd.1)):q:=f ⟨h⟩
theorem apb{p q:Prop}(h:p)(f:fp p->q:=by intro bd;exact a7 (λk:Nat=>([(0,.lo 0 0),(7,.ow 5 (s+1+k)),(8,.mp 6),(10,.lo 7 0),(66,.d (.sl (Tm.aa x'.l))),(67,iV x'.l.length),(68,iV k)],cn d a b B (s+1+k) (R++(x'.l.zip y'.l).take k) cK++[aO y',aO x',.box [iV x.n,iV y.n]])) (λk=>k<=x'.l.length) (λk=>x'.l.length-k) 0 (Nat.zero_le _) ⟨.refl _,.refl _,.refl _,.refl _,.refl _,bJ.int (by rw[Tm.ao]),.refl _,trivial⟩ (by simp only[List.take_zero,List.append_nil];rfl) bd.1):q:=f ⟨h⟩
theorem El{p q:Prop}(h:p)(f:fp p->q:=by intro bd;exact u2 hg.ok rfl rfl rfl rfl rfl (n:=(m.ai.length:Int)) (by rw[yc]) (dJ hg.ok rfl rfl bd.1)):q:=f ⟨h⟩
theorem abE{q:Prop}(f:q:=by exact bb (n,R,B++[(x'.n,y')],cK,s+1) hN (by simp only;omega) ⟨.refl _,.refl _,.refl _,trivial⟩ rfl):q:=f
theorem Wl{q:Prop}(f:q:=by exact bb (k+1) aI (by omega) ⟨.refl _,.refl _,.refl _,.refl _,.refl _,bJ.wrap (by omega) (by omega) (by omega),trivial⟩ rfl):q:=f
theorem oX{p q:Prop}(h:p)(f:p->q:=by intro bd;exact Wm hg.ok rfl rfl rfl rfl bd):q:=f h
theorem Tg{p q:Prop}(h:p)(f:fp p->q:=by intro bd;exact bf 5 _ (by rw[show(kz _ L w R0 X φ0).φ0=φ0 from rfl,Nl];exact Nat.le_refl _) rfl (Wn (dD 5) rfl _ _) bd.1):q:=f ⟨h⟩
theorem Bb{q:Prop}(f:q:=by exact mq hg 2 5 (by show(2:Nat)<=2;omega) rfl rfl (Wp _ _)):q:=f
theorem akU{p q:Prop}(h:p)(f:fp p->q:=by intro bd;exact a7 (λx:Nat×List Int=>([(3,.lo 1 0),(4,.lo 2 0),(10,.d (.sl (Tm.aa l))),(11,iV l.length),(12,iV x.1)],zc x.2)) (λx=>x.1<=l.length/\bP l=wm x.2 (l.drop x.1)/\x.2.length+Tm.aw (l.drop x.1)<=Tm.aw l) (λx=>l.length-x.1) (0,[]) ⟨Nat.zero_le _,rfl,by simp⟩ ⟨.refl _,.refl _,.refl _,bJ.int (by rw[Tm.ao]),.refl _,trivial⟩ rfl bd.1):q:=f ⟨h⟩
theorem abF{p q:Prop}(h:p)(f:fp p->q:=by intro bd;exact td hg.ok ((m.ai.take x.to).map Tr.row) rfl rfl rfl rfl rfl rfl rfl rfl rfl rfl (Int.natCast_nonneg _) (by rw[yc];omega) (by rw[Int.toNat_natCast,<-List.map_take]) (dJ hg.ok rfl rfl bd.1)):q:=f ⟨h⟩
theorem ag3{p q:Prop}(h:p)(f:fp p->q:=by intro bd;exact aj hg.ok hg.cm hg.wide hg.Y [0,1] (pE (kA (fJ (kA c [124]) (u3 x)) [93])++[zd x]) (jL Y _ [93] (by simp) (by simp)) (λ_=>rfl) rfl rfl rfl rfl rfl (by rw[mO _ rfl rfl];rfl) rfl (by rw[mO _ rfl rfl];rfl) (dJ hg.ok rfl rfl bd.1)):q:=f ⟨h⟩
theorem abG{q:Prop}(f:q:=by exact bb (i+1,d1) ⟨ny,hr⟩ (by show P.length-(i+1)<P.length-i;omega) ⟨.refl _,.refl _,bJ.wrap (by simp only;omega) (by simp only;omega) (by simp only;omega),trivial⟩ rfl):q:=f
theorem abH{p q:Prop}(h:p)(f:p->q:=by intro bd;exact aj hg.ok hg.cm hg.wide hg.Y [0] (j6 [t,r] [] false ByteArray.empty nx 5++[aO t,aO e]) (kB Y [t,r] nx 5) (λ_=>rfl) rfl rfl rfl rfl rfl rfl rfl rfl (dJ hg.ok rfl rfl bd)):q:=f h
theorem r8{p q:Prop}(h:p)(f:p->q:=by intro bd;exact ao8 Tryz.func20 λw S φ hg=>bd w S φ hg):q:=f h
theorem ag4{p q:Prop}(h:p)(f:fp p->q:=by intro bd;exact aj hg.ok hg.cm hg.wide hg.Y [0,1] (pE (kA c [124])++[zd x]) (jL Y c [124] (by simp) (by simp)) (λ_=>rfl) rfl rfl rfl rfl rfl (by rw[mO _ rfl rfl];rfl) rfl (by rw[mO _ rfl rfl];rfl) (dJ hg.ok rfl rfl bd.1)):q:=f ⟨h⟩
theorem He{q:Prop}(f:q:=by exact aL hg 6 5 (Nat.le_refl _) rfl rfl (kC P hd ab m' d' v' _)):q:=f
theorem Em{p q:Prop}(h:p)(f:p->q:=by intro bd;exact Bc hg.ok rfl rfl rfl rfl rfl rfl rfl rfl rfl (dJ hg.ok rfl rfl bd)):q:=f h
theorem ag5{p q:Prop}(h:p)(f:fp p->q:=by intro bd;exact aj hg.ok hg.cm hg.wide hg.Y [0,1] (pE (fJ (kA c [124]) (u3 x))++[zd x]) (eV x ov hs1 Y _) (λ_=>rfl) rfl rfl rfl rfl rfl (by rw[mO _ rfl rfl];rfl) rfl (by rw[mO _ rfl rfl];rfl) (dJ hg.ok rfl rfl bd.1)):q:=f ⟨h⟩
theorem akW{p q:Prop}(h:p)(f:fp p->q:=by intro bd;exact a7 (λk:Nat=>([(1,.lo 1 0),(4,lzA l),(6,.mp 4),(85,.d (.sl (dm.map λs=>[.v (.string s)]))),(86,iV 6),(87,iV k)],NB l nx++[.uj (eK (j7 l x++(dm.take k).map (u4 l)))])) (λk=>k<=6) (λk=>6-k) 0 (Nat.zero_le _) ⟨.refl _,.refl _,.refl _,.fs _,.refl _,.refl _,trivial⟩ (by simp;rfl) bd.1):q:=f ⟨h⟩
theorem apc{p q:Prop}(h:p)(f:fp p->q:=by intro bd;exact bf 5 (NB l nx++[Ob.uj (eK (j7 l x++(dm.take (k+1)).map (u4 l)))]) (by show φ.length<=5;omega) rfl (show List.map (aR (dD 5)) (NB l nx++[.uj (eK (j7 l x++(dm.take (k+1)).map (u4 l)))])=_ from congrArg (λe=>NB l nx++[Ob.uj e]) (yd (dD 5) l x _ rfl λ_=>rfl)) bd.1):q:=f ⟨h⟩
theorem Hf{p q:Prop}(h:p)(f:fp p->q:=by intro bd;exact abI hg.ok 0 (by omega) rfl rfl rfl rfl rfl rfl rfl (dJ hg.ok rfl rfl bd.1)):q:=f ⟨h⟩
theorem Th{p q:Prop}(h:p)(f:fp p->q:=by intro bd;exact dX hg.ok rfl rfl rfl rfl rfl rfl (by decide) (Tm.ay (l:=[a,b]) (i:=0) rfl) rfl (dJ hg.ok rfl rfl bd.1)):q:=f ⟨h⟩
theorem Ti{p q:Prop}(h:p)(f:fp p->q:=by intro bd;exact dX hg.ok rfl rfl rfl rfl rfl rfl (by decide) (Tm.ay (l:=[a,b]) (i:=1) rfl) rfl (dJ hg.ok rfl rfl bd.1)):q:=f ⟨h⟩
theorem JK{p q:Prop}(h:p)(f:fp p->q:=by intro bd;exact cQ hg.ok rfl rfl (by simp [mE]) rfl rfl bd.1):q:=f ⟨h⟩
theorem ag6{p q:Prop}(h:p)(f:fp p->q:=by intro bd;exact aj hg.ok hg.cm hg.wide hg.Y [0,1,2] (cn d a b B (s+1) R ic++[aO x',aO y',.box [iV x.n,iV y.n]]) cw (λ_=>rfl) rfl rfl rfl rfl rfl (by rw[cp];rfl) rfl (by rw[cp];rfl) (dJ hg.ok rfl rfl bd.1)):q:=f ⟨h⟩
theorem ag7{p q:Prop}(h:p)(f:fp p->q:=by intro bd;exact aj hg.ok hg.cm hg.wide hg.Y [0,1,2] (cn d a b B (s+1) R ic++[aO y',aO x',.box [iV x.n,iV y.n]]) cw (λ_=>rfl) rfl rfl rfl rfl rfl (by rw[cp];rfl) rfl (by rw[cp];rfl) (dJ hg.ok rfl rfl bd.1)):q:=f ⟨h⟩
theorem Wq{q:Prop}(f:q:=by exact bb (k+1) ⟨aI,hm⟩ (by omega) ⟨.refl _,.refl _,.refl _,bJ.wrap (by omega) (by omega) (by omega),trivial⟩ rfl):q:=f
theorem JL{p q:Prop}(h:p)(f:fp p->q:=by intro bd;exact cQ hg.ok rfl rfl (by simp[yf]) rfl rfl bd.1):q:=f ⟨h⟩
theorem JM{p q:Prop}(h:p)(f:fp p->q:=by intro bd;exact cQ hg.ok rfl rfl (by simp[mE]) rfl rfl bd.1):q:=f ⟨h⟩
theorem abJ{p q:Prop}(h:p)(f:fp p->q:=by intro bd;exact Tj hg.ok 10000 rfl rfl rfl (by simp[pF,Ob.lvl,Ob.JN]) rfl rfl rfl rfl rfl rfl (Int.natCast_nonneg _) (by rw[iY];simp) (dJ hg.ok rfl rfl bd.1)):q:=f ⟨h⟩
theorem JO{p q:Prop}(h:p)(f:fp p->q:=by intro bd;exact eG hg.ok rfl rfl (by simp[yf]) rfl rfl bd.1):q:=f ⟨h⟩
theorem Aa{p q:Prop}(h:p)(f:fp p->q:=by intro bd;exact cQ hg.ok rfl rfl (by simp[hk]) rfl rfl bd.1):q:=f ⟨h⟩
theorem NC{p q:Prop}(h:p)(f:p->q:=by intro bd;exact Wr hg.ok _ rfl rfl rfl rfl rfl rfl rfl rfl (dJ hg.ok rfl rfl bd)):q:=f h
theorem ag8{p q:Prop}(h:p)(f:p->q:=by intro bd;exact aj hg.ok hg.cm hg.wide hg.Y [0] (j6 [t,n,a] [] false ByteArray.empty nx 5++[aO t,aO n,aO a]) (kB Y [t,n,a] nx 5) (λ_=>rfl) rfl rfl rfl rfl rfl rfl rfl rfl (dJ hg.ok rfl rfl bd)):q:=f h
theorem rN{p q:Prop}(h:p)(f:p->q:=by intro bd;exact eW yg 1000 rfl rfl bd):q:=f h
theorem abK{p q:Prop}(h:p)(f:fp p->q:=by intro bd;exact ag9 hg.ok 10000 (by simp[pF,Ob.lvl,Ob.JN]) rfl rfl rfl rfl rfl rfl (n:=((R++[(x,y)]).length:Int)) (by rw[iY]) (dJ hg.ok rfl rfl bd.1)):q:=f ⟨h⟩
theorem apd{p q:Prop}(h:p)(f:fp p->q:=by intro bd;exact aha hg.ok (j7 l x++(dm.take k).map (u4 l)) (j7 l x++(dm.take (k+1)).map (u4 l)) rfl rfl rfl (congrArg (λe=>some (Ob.uj e)) (yd _ l x _ rfl λ_=>rfl)) rfl rfl rfl rfl e2 (by rw[e3,List.map_append,<-List.append_assoc];rfl) (dJ hg.ok rfl rfl bd.1)):q:=f ⟨h⟩
theorem abL{q:Prop}(f:q:=by exact ox (false,eQ-1) hx.symm ⟨.refl _,.refl _,.refl _,(by first|exact .refl _|exact .ff),.refl _,.refl _,.refl _,trivial⟩ rfl):q:=f
theorem akX{p q:Prop}(h:p)(f:fp p->q:=by intro bd;exact aj hg.ok hg.cm hg.wide hg.Y [0,1,2,3,4,5] (dt P hd ab {m with now:=r,aF:=m.aF++[oY]} d v) (te Y P hd ab {m with now:=r} hS d v oY) (λ_=>rfl) rfl rfl rfl rfl rfl (by rw[dY,<-e];rfl) rfl (by rw[dY];rfl) (dJ hg.ok rfl rfl bd.1)):q:=f ⟨h⟩
theorem Ws{p q:Prop}(h:p)(f:fp p->q:=by intro bd;exact dX hg.ok rfl rfl rfl rfl rfl rfl (by decide) (Tm.ay (l:=h::m) (i:=0) rfl) rfl (dJ hg.ok rfl rfl bd.1)):q:=f ⟨h⟩
theorem ahb{p q:Prop}(h:p)(f:p->q:=by intro bd;exact aj hg.ok hg.cm ⟨rfl,rfl⟩ (λ_ _ _ _ h=>by cases h) [1,2] (akO l a++[.uj (eK (mr l x))]) (hc) (λ_=>rfl) rfl rfl rfl rfl rfl rfl rfl rfl (dJ hg.ok rfl rfl bd)):q:=f h
theorem akY{p q:Prop}(h:p)(f:fp p->q:=by intro bd;exact aj hg.ok hg.cm hg.wide hg.Y [0,1,2,3,4,5] (ie P hd ab {m with now:=r} x (bR x.g.c x.sh x.to r) (bR x.g.b x.sh x.to r) d v) Tl (λ_=>rfl) rfl rfl rfl rfl rfl (by rw[dY,<-e];rfl) rfl (by unfold ie;rw[dY];rfl) (dJ hg.ok rfl rfl bd.1)):q:=f ⟨h⟩
theorem ahc{p q:Prop}(h:p)(f:fp p->q:=by intro bd;exact cR hg.ok (Cs.aa (l++[q])) rfl rfl rfl rfl rfl rfl rfl rfl rfl (by simp) (by simp[pD]) (Cs.E9 l q) (by simp[dK];omega) (by simp[dK];omega) (dJ hg.ok rfl rfl bd.1)):q:=f ⟨h⟩
theorem ape{p q:Prop}(h:p)(f:fp p->q:=by intro bd;exact jM hg.ok hg.cm hg.wide hg.Y [0,1,2] (cn d a b B (s+1) R cK++[aO x,aO y,.box [iV x.n,iV y.n]]) cx (λ_=>rfl) (λi hi=>by show i<φ.length;simp at hi;omega) rfl rfl rfl rfl rfl (by rw[cp];rfl) rfl (by rw[cp];rfl) (dJ hg.ok rfl rfl bd.1)):q:=f ⟨h⟩
theorem apf{p q:Prop}(h:p)(f:fp p->q:=by intro bd;exact jM hg.ok hg.cm hg.wide hg.Y [0,1,2] (cn d a b B (s+1) R cK++[aO x,aO y,.box [iV x.n,iV y.n]]) cy (λ_=>rfl) (λi hi=>by show i<φ.length;simp at hi;omega) rfl rfl rfl rfl rfl (by rw[cp];rfl) rfl (by rw[cp];rfl) (dJ hg.ok rfl rfl bd.1)):q:=f ⟨h⟩
theorem apg{p q:Prop}(h:p)(f:fp p->q:=by intro bd;exact jM hg.ok hg.cm hg.wide hg.Y [0,1,2] (cn d a b B (s+1) R cK++[aO y,aO x,.box [iV x.n,iV y.n]]) cx (λ_=>rfl) (λi hi=>by show i<φ.length;simp at hi;omega) rfl rfl rfl rfl rfl (by rw[cp];rfl) rfl (by rw[cp];rfl) (dJ hg.ok rfl rfl bd.1)):q:=f ⟨h⟩
theorem aph{p q:Prop}(h:p)(f:fp p->q:=by intro bd;exact jM hg.ok hg.cm hg.wide hg.Y [0,1,2] (cn d a b B (s+1) R cK++[aO y,aO x,.box [iV x.n,iV y.n]]) cy (λ_=>rfl) (λi hi=>by show i<φ.length;simp at hi;omega) rfl rfl rfl rfl rfl (by rw[cp];rfl) rfl (by rw[cp];rfl) (dJ hg.ok rfl rfl bd.1)):q:=f ⟨h⟩
theorem ahd{p q:Prop}(h:p)(f:fp p->q:=by intro bd;exact abM hg.ok hg.cm (JP (l++[q]) ez (by simp;omega)) rfl rfl rfl rfl (yh (Tn (yh (r9 rfl) rfl)) rfl) rfl rfl (dJ hg.ok rfl rfl bd.1)):q:=f ⟨h⟩
theorem ahe{q:Prop}(f:q:=by exact bb (k+1) ⟨aI,by rw[hm,h,Bool.false_or]⟩ (by omega) ⟨.refl _,.refl _,.refl _,.refl _,bJ.wrap (by omega) (by omega) (by omega),trivial⟩ rfl):q:=f
theorem ak0{p q:Prop}(h:p)(f:fp p->q:=by intro bd;exact aj hg.ok hg.cm hg.wide hg.Y [0,1,2,3,4,5] (ie P hd ab {m with now:=r} x r (bR [dE] 0 0 []) d v) Tl (λ_=>rfl) rfl rfl rfl rfl rfl (by rw[dY,<-e];rfl) rfl (by unfold ie;rw[dY];rfl) (dJ hg.ok rfl rfl bd.1)):q:=f ⟨h⟩
theorem ak1{q:Prop}(f:q:=by exact bb (k+1,m+1+qa+qb+qc) ⟨aI,hm,by simp only;omega,by simp only;omega⟩ (by simp only;omega) ⟨.refl _,.refl _,.refl _,.refl _,.refl _,bJ.wrap (by simp only;omega) (by simp only;omega) (by simp only;omega),trivial⟩ rfl):q:=f
theorem ahf{p q:Prop}(h:p)(f:p->q:=by intro bd;exact uI [Wt t,.box [.d (.v (.bool false))],.box [iV ((n+1:Nat):Int)]] ⟨jB.refl _,⟨bJ.ff,trivial⟩,⟨bJ.int hw,trivial⟩,trivial⟩ rfl bd):q:=f h
theorem To{p q:Prop}(h:p)(f:fp p->q:=by intro bd;exact eG hg.ok rfl rfl (by rw[decide_eq_false (by omega)];simp) rfl rfl bd.1):q:=f ⟨h⟩
theorem ahg{q:Prop}(f:q:=by exact ox (false,eQ-1) (by rw[hx,n1,n2];rfl) ⟨.refl _,.refl _,.refl _,(by first|exact .refl _|exact .ff),.refl _,.refl _,.refl _,trivial⟩ rfl):q:=f
theorem ak2{p q:Prop}(h:p)(f:fp p->q:=by intro bd;exact aj hg.ok hg.cm hg.wide hg.Y [0,1,2] (cn d a b (B++[(x'.n,y')]) (s+1) R ic++[aO x',aO y',.box [iV x.n,iV y.n]]) cb (λ_=>rfl) rfl rfl rfl rfl rfl (by rw[cp];rfl) rfl (by rw[cp];rfl) (dJ hg.ok rfl rfl bd.1)):q:=f ⟨h⟩
theorem ak3{p q:Prop}(h:p)(f:fp p->q:=by intro bd;exact aj hg.ok hg.cm hg.wide hg.Y [0,1,2] (cn d a b (B++[(x'.n,y')]) (s+1) R ic++[aO y',aO x',.box [iV x.n,iV y.n]]) cb (λ_=>rfl) rfl rfl rfl rfl rfl (by rw[cp];rfl) rfl (by rw[cp];rfl) (dJ hg.ok rfl rfl bd.1)):q:=f ⟨h⟩
theorem api{p q:Prop}(h:p)(f:fp p->q:=by intro bd;exact aj hg.ok hg.cm hg.wide hg.Y [0,1,2] (cn d a b (B++[(y'.n,x')]) (s+1) R cK++[aO x',aO y',.box [iV x.n,iV y.n]]) cb (λ_=>rfl) rfl rfl rfl rfl rfl (by rw[cp];rfl) rfl (by rw[cp];rfl) (dJ hg.ok rfl rfl bd.1)):q:=f ⟨h⟩
theorem apj{p q:Prop}(h:p)(f:fp p->q:=by intro bd;exact aj hg.ok hg.cm hg.wide hg.Y [0,1,2] (cn d a b (B++[(y'.n,x')]) (s+1) R cK++[aO y',aO x',.box [iV x.n,iV y.n]]) cb (λ_=>rfl) rfl rfl rfl rfl rfl (by rw[cp];rfl) rfl (by rw[cp];rfl) (dJ hg.ok rfl rfl bd.1)):q:=f ⟨h⟩
theorem ak4{p q:Prop}(h:p)(f:fp p->q:=by intro bd;exact aj hg.ok hg.cm ⟨rfl,rfl⟩ (λ_ _ _ _ h=>by cases h) [4,3,2,5,6,7] (Qp l q ab (fq l q.head ab m).1 d' v') cY (λ_=>rfl) rfl rfl rfl rfl rfl (by rw[Qq];rfl) rfl (by rw[Qq];rfl) (dJ hg.ok rfl rfl bd.1)):q:=f ⟨h⟩
theorem ahh{q:Prop}(f:q:=by exact ox (false,eQ-1) (by rw[hx,n1];rfl) ⟨.refl _,.refl _,.refl _,(by first|exact .refl _|exact .ff),.refl _,.refl _,.refl _,trivial⟩ rfl):q:=f
theorem ak5{q:Prop}(f:q:=by exact bb (n,R++x'.l.zip y'.l,B,cK,s+1+k) hN (by simp only;omega) ⟨.refl _,.refl _,.refl _,trivial⟩ rfl):q:=f
theorem ahi{p q:Prop}(h:p)(f:fp p->q:=by intro bd;exact nh hg.ok rfl rfl (.inl rfl) rfl (.inl rfl) rfl rfl rfl (by simp) (Bd l) (by rw[dK];simp;omega) (by rw[dK];simp;omega) (dJ hg.ok rfl rfl bd.1)):q:=f ⟨h⟩
theorem ak6{p q:Prop}(h:p)(f:fp p->q:=by intro bd;exact aj hg.ok hg.cm hg.wide hg.Y [0,1,2,3,4,5] (dt P hd ab {m with now:=r,done:=m.done+1} d2 v++[aO u]) dK (λ_=>rfl) rfl rfl rfl rfl rfl (by rw[dY,<-e2];rfl) rfl (by rw[dY];rfl) (dJ hg.ok rfl rfl bd.1)):q:=f ⟨h⟩
theorem ahj{p q:Prop}(h:p)(f:fp p->q:=by intro bd;exact gN hg.ok (uJ B) rfl rfl rfl rfl rfl rfl rfl (zv:=ak7) (by kernel_rfl) (v:=.cP [apk,bV false]) (by rw[AF,hb];rfl) (dJ hg.ok rfl rfl bd.1)):q:=f ⟨h⟩
theorem ahk{p q:Prop}(h:p)(f:fp p->q:=by intro bd;exact gN hg.ok (uJ B) rfl rfl rfl rfl rfl rfl rfl (zv:=ak7) (by kernel_rfl) (v:=.cP [x.av,bV true]) (by rw[AF,hb];rfl) (dJ hg.ok rfl rfl bd.1)):q:=f ⟨h⟩
theorem abN{q:Prop}(f:q:=by exact bb (n,R,B++[(x'.n,y')],ic,s+1) hN (by simp only;omega) ⟨.refl _,.refl _,.refl _,trivial⟩ rfl):q:=f
theorem ak8{q:Prop}(f:q:=by exact bb (n,R,B++[(y'.n,x')],cK,s+1) hN (by simp only;omega) ⟨.refl _,.refl _,.refl _,trivial⟩ rfl):q:=f
theorem abO{q:Prop}(f:q:=by exact fS d a b (B++[(x'.n,y')]) (s+1) R cK _):q:=f
theorem abP{p q:Prop}(h:p)(f:fp p->q:=by intro bd;exact u5 3 (by rw[show(kz _ l w R0 X φ0).φ0=φ0 from rfl,Nl];exact Nat.le_refl _) rfl bd.1):q:=f ⟨h⟩
theorem abQ{p q:Prop}(h:p)(f:fp p->q:=by intro bd;exact Wu hg.ok 10000 rfl rfl rfl (by simp[pF,Ob.lvl,Ob.JN]) rfl rfl rfl kZ rfl (dJ hg.ok rfl rfl bd.1)):q:=f ⟨h⟩
theorem ak9{q:Prop}(f:q:=by exact bb (n,R,B,cK,s+1) (sd hc) (by simp only;omega) ⟨.refl _,.refl _,.refl _,trivial⟩ rfl):q:=f
theorem Eo{p q:Prop}(h:p)(f:p->q:=by intro bd;exact Fa hg.ok rfl rfl (dJ hg.ok rfl rfl bd)):q:=f h
theorem ahl{p q:Prop}(h:p)(f:fp p->q:=by intro bd;exact se hg.ok rfl rfl rfl rfl rfl rfl rfl rfl rfl (Int.natCast_nonneg i) (by rw[bN];simpa[cY]using hi) (dJ hg.ok rfl rfl bd.1)):q:=f ⟨h⟩
theorem ala{p q:Prop}(h:p)(f:p->q:=by intro bd;exact aj hg.ok hg.cm hg.wide hg.Y [0] (j6 [t,n,a] [] false ByteArray.empty nx 4++[aO t,aO n,aO a]) (kB Y [t,n,a] nx 4) (λ_=>rfl) rfl rfl rfl rfl rfl rfl rfl rfl (dJ hg.ok rfl rfl bd)):q:=f h
theorem alb{p q:Prop}(h:p)(f:p->q:=by intro bd;exact aj hg.ok hg.cm hg.wide hg.Y [0] (j6 [t,n,a] [] false ByteArray.empty nx 6++[aO t,aO n,aO a]) (kB Y [t,n,a] nx 6) (λ_=>rfl) rfl rfl rfl rfl rfl rfl rfl rfl (dJ hg.ok rfl rfl bd)):q:=f h
theorem alc{p q:Prop}(h:p)(f:p->q:=by intro bd;exact aj hg.ok hg.cm hg.wide hg.Y [0] (j6 [n,t,a] [] false ByteArray.empty nx 4++[aO n,aO t,aO a]) (kB Y [n,t,a] nx 4) (λ_=>rfl) rfl rfl rfl rfl rfl rfl rfl rfl (dJ hg.ok rfl rfl bd)):q:=f h
theorem ald{p q:Prop}(h:p)(f:p->q:=by intro bd;exact aj hg.ok hg.cm hg.wide hg.Y [0] (j6 [n,t,a] [] false ByteArray.empty nx 5++[aO n,aO t,aO a]) (kB Y [n,t,a] nx 5) (λ_=>rfl) rfl rfl rfl rfl rfl rfl rfl rfl (dJ hg.ok rfl rfl bd)):q:=f h
theorem aey{p q:Prop}(h:p)(f:fp p->q:=by intro bd;exact aj hg.ok hg.cm hg.wide hg.Y [0,1,2,3,4,5] (dt P hd ab m' d' v'++[aO u]) dK (λ_=>rfl) rfl rfl rfl rfl rfl (by rw[dY,<-e2];rfl) rfl (by rw[dY];rfl) (dJ hg.ok rfl rfl bd.1)):q:=f ⟨h⟩
theorem aez{p q:Prop}(h:p)(f:fp p->q:=by intro bd;exact td hg.ok (m.ai.dropLast.map Tr.row) rfl rfl rfl rfl rfl rfl rfl rfl rfl rfl (by omega) (by rw[yc];omega) (by rw[ny,<-List.map_take,<-List.dropLast_eq_take]) (dJ hg.ok rfl rfl bd.1)):q:=f ⟨h⟩
theorem aeA{p q:Prop}(h:p)(f:fp p->q:=by intro bd;exact aj hg.ok hg.cm hg.wide hg.Y [0,1,2,3,4,5] (dt P hd ab m' d' v'++[aO u]) Hg (λ_=>rfl) rfl rfl rfl rfl rfl (by rw[dY,<-e];rfl) rfl (by rw[dY];rfl) (dJ hg.ok rfl rfl bd.1)):q:=f ⟨h⟩
theorem Qr{q:Prop}(f:q:=by exact iB P hd _ _ _ (.inl ⟨_,_,_,_,rfl⟩) ab m.done m.aF.length d m.B _ m.aF _):q:=f
theorem Wv{q:Prop}(f:q:=by exact bb (k+1) aI (by omega) ⟨.refl _,.refl _,.refl _,.refl _,bJ.wrap (by omega) (by omega) (by omega),trivial⟩ rfl):q:=f
theorem aeB{q:Prop}(f:q:=by exact bb (k+1) ⟨aI,by rw[hm,show decide (x<v)=true by simpa using h,Bool.true_and]⟩ (by omega) ⟨.refl _,.refl _,.refl _,bJ.wrap (by omega) (by omega) (by omega),trivial⟩ rfl):q:=f
theorem Qs{q:Prop}(f:q:=by exact aL hg 1 5 (Nat.le_refl _) rfl rfl (dU _ [t,r] [] false ByteArray.empty nx 5)):q:=f
theorem ze{p q:Prop}(h:p)(f:p->q:=by intro bd;exact bf 0 [] (Nat.zero_le _) rfl rfl bd):q:=f h
theorem aeC{p q:Prop}(h:p)(f:p->q:=by intro bd;exact aj hg.ok hg.cm hg.wide hg.Y [0] (j6 [t,r] [] false ByteArray.empty nx 4++[aO t,aO e]) (kB Y [t,r] nx 4) (λ_=>rfl) rfl rfl rfl rfl rfl rfl rfl rfl (dJ hg.ok rfl rfl bd)):q:=f h
theorem aeD{p q:Prop}(h:p)(f:fp p->q:=by intro bd;exact aj hg.ok hg.cm hg.wide hg.Y [0,1,2,3,4,5] (dt P hd ab m' d' v'++[aO u]) VZ (λ_=>rfl) rfl rfl rfl rfl rfl (by rw[dY];rfl) rfl (by rw[dY];rfl) (dJ hg.ok rfl rfl bd.1)):q:=f ⟨h⟩
theorem aeE{p q:Prop}(h:p)(f:fp p->q:=by intro bd;exact bf 7 (dt P hd ab m d1 v++[Ob.box (ya t (.bL (aY g1 s1 o1 z1)))]) (by show φ.length<=7;omega) rfl (tf P hd ab m d1 v t (.bL (aY g1 s1 o1 z1))) bd.1):q:=f ⟨h⟩
theorem Qt{p q:Prop}(h:p)(f:p->q:=by intro bd;exact pG hg.ok rfl rfl rfl rfl rfl (Int.natCast_nonneg k) (sf aI) (dJ hg.ok rfl rfl bd)):q:=f h
theorem Qu{p q:Prop}(h:p)(f:fp p->q:=by intro bd;exact Hh hg.ok 100 (by unfold pF;simp[len]) rfl rfl rfl rfl rfl rfl rfl (dJ hg.ok rfl rfl bd.1)):q:=f ⟨h⟩
theorem Ww{q:Prop}(f:q:=by exact bb (k+1) aI (by omega) ⟨.refl _,.refl _,.refl _,bJ.wrap (by omega) (by omega) (by omega),trivial⟩ rfl):q:=f
theorem aeF{q:Prop}(f:q:=by exact zf d a b B (s+1+(k+1)) (R++(x'.l.zip y'.l).take (k+1)) cK _ _ x.n y.n _):q:=f
theorem aeG{p q:Prop}(h:p)(f:fp p->q:=by intro bd;exact bf 7 (dt P hd ab m d1 v++[Ob.box (ya t (.v (.pointer none)))]) (by show φ.length<=7;omega) rfl (tf P hd ab m d1 v t (.v (.pointer none))) bd.1):q:=f ⟨h⟩
theorem aeH{p q:Prop}(h:p)(f:fp p->q:=by intro bd;exact Be hg.ok (zg (B.map (·.1))) (Wx _) rfl rfl rfl rfl rfl rfl (zv:=.int .i64 0) (by kernel_rfl) (v:=.cP [iV 0,bV false]) (by rw[hgi];rfl) (dJ hg.ok rfl rfl bd.1)):q:=f ⟨h⟩
theorem aeJ{p q:Prop}(h:p)(f:p->q:=by intro bd;exact aj hg.ok hg.cm hg.wide hg.Y [0] (Qv v (eQ-1)++[Fb g]) (Fc Y v (eQ-1) g.t st) (λ_=>rfl) rfl rfl rfl rfl rfl rfl rfl rfl (dJ hg.ok rfl rfl bd)):q:=f h
theorem aeK{p q:Prop}(h:p)(f:p->q:=by intro bd;exact aj hg.ok hg.cm hg.wide hg.Y [0] (Qv v (cA v g.a (eQ-1) (ak+1) false).2++[Fb g]) (CA) (λ_=>rfl) rfl rfl rfl rfl rfl rfl rfl rfl (dJ hg.ok rfl rfl bd)):q:=f h
theorem Qw{p q:Prop}(h:p)(f:fp p->q:=by intro bd;exact cQ hg.ok rfl rfl (by simp[hc.2.1]) rfl rfl bd.1):q:=f ⟨h⟩
theorem Qx{p q:Prop}(h:p)(f:fp p->q:=by intro bd;exact cQ hg.ok rfl rfl (by simp[hc.2.2]) rfl rfl bd.1):q:=f ⟨h⟩
theorem aeL{p q:Prop}(h:p)(f:fp p->q:=by intro bd;exact Be hg.ok (zg (B.map (·.1))) (Wx _) rfl rfl rfl rfl rfl rfl (zv:=.int .i64 0) (by kernel_rfl) (v:=.cP [iV j,bV true]) (by rw[hgi];rfl) (dJ hg.ok rfl rfl bd.1)):q:=f ⟨h⟩
theorem aeM{q:Prop}(f:q:=by exact bb (i+1,(X.length+d1+1)) ⟨ny,hr⟩ (by omega) ⟨.refl _,.refl _,bJ.wrap (by simp only;omega) (by simp only;omega) (by simp only;omega),trivial⟩ rfl):q:=f
theorem Qy{p q:Prop}(h:p)(f:fp p->q:=by intro bd;exact cQ hg.ok rfl rfl (by simp [hc.1]) rfl rfl bd.1):q:=f ⟨h⟩
theorem Qz{q:Prop}(f:q:=by exact iB P hd _ _ _ (.inr rfl) ab m.done m.aF.length d m.B _ m.aF _):q:=f
theorem Wy{p q:Prop}(h:p)(f:fp p->q:=by intro bd;exact dX hg.ok rfl rfl rfl rfl rfl rfl (by decide) (Tm.ay (l:=[t,r]) (i:=1) rfl) rfl (dJ hg.ok rfl rfl bd.1)):q:=f ⟨h⟩
theorem aeN{p q:Prop}(h:p)(f:fp p->q:=by intro bd;exact td hg.ok (gx R) rfl rfl rfl rfl rfl rfl rfl rfl rfl rfl (Int.natCast_nonneg _) (by rw[iY];simp;omega) (by simp[gx]) (dJ hg.ok rfl rfl bd.1)):q:=f ⟨h⟩
theorem aeO{q:Prop}(f:q:=by exact bb (k7 m t,d2,v+1) ⟨hp.b,hTp,hS,hr⟩ (by show m.ai.dropLast.length<m.ai.length;rw[List.length_dropLast];omega) ⟨.refl _,trivial⟩ rfl):q:=f
theorem QA{p q:Prop}(h:p)(f:fp p->q:=by intro bd;exact eG hg.ok rfl rfl (by simp [mE]) rfl rfl bd.1):q:=f ⟨h⟩
theorem wo{p q:Prop}(h:p)(f:p->q:=by intro bd;exact eW hg.ok 1 rfl rfl bd):q:=f h
theorem QB{p q:Prop}(h:p)(f:fp p->q:=by intro bd;exact eG hg.ok rfl rfl (by simp[mE]) rfl rfl bd.1):q:=f ⟨h⟩
theorem aeP{p q:Prop}(h:p)(f:fp p->q:=by intro bd;exact Fe hg.ok (si cK) ND rfl rfl rfl rfl rfl rfl (zv:=.bool false) (by kernel_rfl) (v:=.tt) (by rw[wq,if_pos fk.2];rfl) (dJ hg.ok rfl rfl bd.1)):q:=f ⟨h⟩
theorem aeQ{q:Prop}(f:q:=by exact aL hg 6 5 (Nat.le_refl _) rfl rfl (iB P hd _ _ _ (.inl ⟨_,_,_,_,rfl⟩) ab m.done m.aF.length d m.B (m.ai.take x.to) m.aF _)):q:=f
theorem QC{q:Prop}(f:q:=by exact aL hg 6 5 (Nat.le_refl _) rfl rfl (kC P hd ab _ d (v+1) _)):q:=f
theorem JQ{p q:Prop}(h:p)(f:p->q:=by intro bd;exact QD hg.ok Tryz.underlying58 rfl rfl rfl (dJ hg.ok rfl rfl bd)):q:=f h
theorem Wz{q:Prop}(f:q:=by exact ox () trivial ⟨.refl _,.refl _,.refl _,(by first|exact .refl _|exact .ff),trivial⟩ rfl):q:=f
theorem JR{q:Prop}(f:q:=by exact aL hg 2 5 (by show(2:Nat)<=2;omega) rfl rfl rfl):q:=f
theorem aeR{p q:Prop}(h:p)(f:fp p->q:=by intro bd;exact JS yg rfl rfl rfl rfl rfl rfl rfl rfl rfl (by simp) (by simp[pD]) (by simp[bN];omega) (by simp[bN];omega) bd.1):q:=f ⟨h⟩
theorem aeS{p q:Prop}(h:p)(f:fp p->q:=by intro bd;exact Fe hg.ok (si cK) ND rfl rfl rfl rfl rfl rfl (zv:=.bool false) (by kernel_rfl) (v:=.ff) (by rw[wq,hmc];rfl) (dJ hg.ok rfl rfl bd.1)):q:=f ⟨h⟩
theorem WA{q:Prop}(f:q:=by exact aL hg 1 5 (Nat.le_refl _) rfl rfl (dU _ [t,n,a] [] false ByteArray.empty nx 5)):q:=f
theorem aeT{p q:Prop}(h:p)(f:fp p->q:=by intro bd;exact gN yg (sj a) rfl rfl rfl rfl rfl rfl rfl (zv:=.bool false) (by kernel_rfl) (v:=.tt) (by rw [so,if_pos hmem]; rfl) bd.1):q:=f ⟨h⟩
theorem aeU{p q:Prop}(h:p)(f:p->q:=by intro bd;exact hH 112 rfl (bJ.aa (rows':=Gl.aa [dE]) ⟨⟨.refl _,.refl _,.refl _,.refl _,.nil,.nil,.nil,.nil,trivial⟩,trivial⟩) bd):q:=f h
theorem WB{q:Prop}(f:q:=by exact aL hg 2 5 (Nat.le_refl _) rfl rfl (pH _ [a,b] [] false ByteArray.empty nx 0)):q:=f
theorem aeV{q:Prop}(f:q:=by exact aL hg 6 5 (Nat.le_refl _) rfl rfl (iB P hd _ _ _ (.inr rfl) ab m.done m.aF.length d m.B (m.ai.take x.to) m.aF _)):q:=f
theorem QE{p q:Prop}(h:p)(f:p->q:=by intro bd;exact wj hg 5 rfl (Tp (yh (r9 rfl) rfl)) bd):q:=f h
theorem aeW{p q:Prop}(h:p)(f:fp p->q:=by intro bd;exact NF hg.ok (si cK) (si (Tm.lX x y cK)) ND rfl rfl rfl rfl rfl rfl (by rw[wq,hmc];rfl) rfl hmU (dJ hg.ok rfl rfl bd.1)):q:=f ⟨h⟩
theorem aeX{q:Prop}(f:q:=by exact bb (n,R,Q,s+1) ⟨Bf,rO,hlk,by simp only;omega⟩ (by simp only;omega) ⟨.refl _,.refl _,.refl _,.refl _,trivial⟩ rfl):q:=f
theorem WC{p q:Prop}(h:p)(f:fp p->q:=by intro bd;exact Hd hg.ok (by show φ.length<=3;omega) rfl rfl rfl rfl rfl rfl rfl (dJ hg.ok rfl rfl bd.1)):q:=f ⟨h⟩
theorem aeZ{p q:Prop}(h:p)(f:fp p->q:=by intro bd;exact gN yg (sj a) rfl rfl rfl rfl rfl rfl rfl (zv:=.bool false) (by kernel_rfl) (v:=.ff) (by rw[so,Ff];rfl) bd.1):q:=f ⟨h⟩
theorem ae0{p q:Prop}(h:p)(f:fp p->q:=by intro bd;exact bf 6 (dt P hd ab (k7 m t) d2 (v+1)) (by show φ.length<=6;omega) rfl (WD P hd ab (k7 m t) d2 (v+1)) bd.1):q:=f ⟨h⟩
theorem JT{p q:Prop}(h:p)(f:fp p->q:=by intro bd;exact eG hg.ok rfl rfl (by simp;omega) rfl rfl bd.1):q:=f ⟨h⟩
theorem QF{p q:Prop}(h:p)(f:p->q:=by intro bd;exact AG hg.ok rfl rfl rfl rfl rfl rfl gY rfl (dJ hg.ok rfl rfl bd)):q:=f h
theorem ae1{q:Prop}(f:q:=by exact aL hg 5 5 (by simp[j6]) rfl rfl (congrArg (λe=>NB l nx++[Ob.uj e]) (yd _ l x dm rfl λ_=>rfl))):q:=f
theorem ae2{q:Prop}(f:q:=by exact aL hg 6 5 (Nat.le_refl _) rfl rfl (wu P hd m.aB v m.now ab m.done m.aF.length _ m.B m.ai m.aF _)):q:=f
theorem WE{p q:Prop}(h:p)(f:fp p->q:=by intro bd;exact kD hg.ok Tryz.underlying122 rfl (by kernel_rfl) rfl rfl rfl (dJ hg.ok rfl rfl bd.1)):q:=f ⟨h⟩
theorem QG{p q:Prop}(h:p)(f:fp p->q:=by intro bd;exact cQ hg.ok rfl rfl (by simp[Tm.aa,Tm.l]) rfl rfl bd.1):q:=f ⟨h⟩
theorem ae3{p q:Prop}(h:p)(f:fp p->q:=by intro bd;exact dX hg.ok rfl rfl rfl rfl rfl rfl (by decide) (Tm.ay (l:=[a,b]++[aJ,aJ]) (i:=0) rfl) rfl (dJ hg.ok rfl rfl bd.1)):q:=f ⟨h⟩
theorem ae4{p q:Prop}(h:p)(f:fp p->q:=by intro bd;exact dX hg.ok rfl rfl rfl rfl rfl rfl (by decide) (Tm.ay (l:=[a,b]++[aJ,aJ]) (i:=1) rfl) rfl (dJ hg.ok rfl rfl bd.1)):q:=f ⟨h⟩
theorem ae5{p q:Prop}(h:p)(f:fp p->q:=by intro bd;exact bf 10 (JU d B t (bP [t]) R (s+1) Q) (by show φ.length<=_;omega) rfl (Fg _ _ _ _ _ _ _ _ rfl) bd.1):q:=f ⟨h⟩
theorem QH{p q:Prop}(h:p)(f:fp p->q:=by intro bd;exact eG hg.ok rfl rfl (by simp[Tm.aa,Tm.l]) rfl rfl bd.1):q:=f ⟨h⟩
theorem ae6{q:Prop}(f:q:=by exact ox () trivial ⟨.refl _,.refl _,.refl _,.refl _,.refl _,(by first|exact .refl _|exact .ff),trivial⟩ rfl):q:=f
theorem QI{q:Prop}(f:q:=by exact fS d a b B (s+1) R cK _):q:=f
theorem ae7{q:Prop}(f:q:=by exact fS d a b B (s+1+k) (R++x'.l.zip y'.l) cK _):q:=f
theorem ae8{q:Prop}(f:q:=by exact bb (n,R++x'.l.zip y'.l,B,ic,s+1+k) hN (by simp only;omega) ⟨.refl _,.refl _,.refl _,trivial⟩ rfl):q:=f
theorem ae9{q:Prop}(f:q:=by exact aL hg 6 5 (Nat.le_refl _) rfl rfl (kC P hd ab {m with now:=r,aF:=m.aF++[oY]} d v _)):q:=f
theorem afa{q:Prop}(f:q:=by exact bb (k+1) ⟨aI,hm⟩ (by omega) ⟨.refl _,bJ.wrap (by omega) (by omega) (by omega),trivial⟩ rfl):q:=f
theorem WG{p q:Prop}(h:p)(f:p->q:=by intro bd;exact bf 1 [.box [.d (.sl (Cs.aa p))]] (Nat.zero_le _) rfl rfl bd):q:=f h
theorem QJ{q:Prop}(f:q:=by exact fS d a b (B++[(x'.n,y')]) (s+1) R ic _):q:=f
theorem afb{q:Prop}(f:q:=by exact bb (n,R,B++[(y'.n,x')],ic,s+1) hN (by simp only;omega) ⟨.refl _,.refl _,.refl _,trivial⟩ rfl):q:=f
theorem afc{p q:Prop}(h:p)(f:fp p->q:=by intro bd;exact abR hg.ok Tryz.underlying271 Tryz.underlying275 (by kernel_rfl) rfl rfl rfl rfl rfl rfl (dJ hg.ok rfl rfl bd.1)):q:=f ⟨h⟩
theorem afd{p q:Prop}(h:p)(f:fp p->q:=by intro bd;exact dX hg.ok rfl rfl rfl rfl rfl rfl (by decide) (Tm.ay (l:=[x,y]) (i:=0) rfl) rfl (dJ hg.ok rfl rfl bd.1)):q:=f ⟨h⟩
theorem afe{p q:Prop}(h:p)(f:fp p->q:=by intro bd;exact dX hg.ok rfl rfl rfl rfl rfl rfl (by decide) (Tm.ay (l:=[x,y]) (i:=1) rfl) rfl (dJ hg.ok rfl rfl bd.1)):q:=f ⟨h⟩
theorem aff{q:Prop}(f:q:=by exact fS d a b (B++[(y'.n,x')]) (s+1) R cK _):q:=f
theorem afg{p q:Prop}(h:p)(f:fp p->q:=by intro bd;exact bf 5 (NB l nx++[Ob.uj (eK (j7 l x))]) (by show φ.length<=5;omega) rfl rfl (dJ hg.ok rfl rfl bd.1)):q:=f ⟨h⟩
theorem afh{q:Prop}(f:q:=by exact bb (n,R,B,cK,s+1) (hU.skip hs) (by simp only;omega) ⟨.refl _,.refl _,.refl _,trivial⟩ rfl):q:=f
theorem afi{q:Prop}(f:q:=by exact bb (n,R,B,ic,s+1) (sd hc) (by simp only;omega) ⟨.refl _,.refl _,.refl _,trivial⟩ rfl):q:=f
theorem afj{q:Prop}(f:q:=by exact aL hg 6 5 (Nat.le_refl _) rfl rfl (kC P hd ab (NG (k7 m t) t i c B2) d' (v+2) _)):q:=f
theorem afk{p q:Prop}(h:p)(f:fp p->q:=by intro bd;exact u2 hg.ok rfl rfl rfl rfl rfl (n:=((R++[(x,y)]).length:Int)) (by rw[iY]) (dJ hg.ok rfl rfl bd.1)):q:=f ⟨h⟩
theorem afl{q:Prop}(f:q:=by exact iB P hd _ _ _ (.inl ⟨_,_,_,_,rfl⟩) ab m.done m.aF.length d' (m.B++X) _ m.aF _):q:=f
theorem afm{p q:Prop}(h:p)(f:p->q:=by intro bd;exact WH hg.ok (aY aN 0 m.ai.length (.bL (aY gB sB oB zB))) rfl rfl rfl rfl bd):q:=f h
theorem afn{p q:Prop}(h:p)(f:p->q:=by intro bd;exact ahm hg.ok s1 rfl rfl rfl rfl rfl rfl Tryz.underlying9 hj hz' hjs hjb hs uk (dJ hg.ok rfl rfl bd)):q:=f h
theorem afo{p q:Prop}(h:p)(f:fp p->q:=by intro bd;exact u2 hg.ok rfl rfl rfl rfl rfl (n:=(B.length:Int)) (by rw[bN];simp) (dJ hg.ok rfl rfl bd.1)):q:=f ⟨h⟩
theorem afp{q:Prop}(f:q:=by exact aL hg 1 5 (Nat.le_refl _) rfl rfl (dU _ [t,n,a] [] false ByteArray.empty nx 4)):q:=f
theorem afq{q:Prop}(f:q:=by exact aL hg 1 5 (Nat.le_refl _) rfl rfl (dU _ [t,n,a] [] false ByteArray.empty nx 6)):q:=f
theorem afr{q:Prop}(f:q:=by exact aL hg 1 5 (Nat.le_refl _) rfl rfl (dU _ [n,t,a] [] false ByteArray.empty nx 4)):q:=f
theorem afs{q:Prop}(f:q:=by exact aL hg 1 5 (Nat.le_refl _) rfl rfl (dU _ [n,t,a] [] false ByteArray.empty nx 5)):q:=f
theorem aft{q:Prop}(f:q:=by exact aL hg 1 5 (Nat.le_refl _) rfl rfl (dU _ [n,t,a] [] false ByteArray.empty nx 0)):q:=f
theorem QK{p q:Prop}(h:p)(f:p->q:=by intro bd;exact aL hg 6 5 (Nat.le_refl _) rfl rfl bd):q:=f h
theorem QL{p q:Prop}(h:p)(f:p->q:=by intro bd;exact mq hg 6 5 (Nat.le_refl _) rfl rfl bd):q:=f h
theorem afu{p q:Prop}(h:p)(f:fp p->q:=by intro bd;exact bf 5 _ (by show φ.length<=_;omega) rfl (Fh (ni (λ_=>rfl) _ _)) bd.1):q:=f ⟨h⟩
theorem afv{q:Prop}(f:q:=by exact aL hg 1 5 (Nat.le_refl _) rfl rfl (dU _ [t,r] [] false ByteArray.empty nx 4)):q:=f
theorem afw{q:Prop}(f:q:=by exact aL hg 1 5 (Nat.le_refl _) rfl rfl (dU _ [a,b] [] false ByteArray.empty nx 0)):q:=f
theorem afx{p q:Prop}(h:p)(f:p->q:=by intro bd;exact WH hg.ok (aY aN 0 m.ai.length (.v (.pointer none))) rfl rfl rfl rfl bd):q:=f h
theorem WI{p q:Prop}(h:p)(f:p->q:=by intro bd;exact eW (th hg.ok _ _ _ _ _ yi) 1000 rfl rfl bd):q:=f h
theorem WJ{q:Prop}(f:q:=by exact aL hg 3 5 (Nat.le_refl _) rfl rfl (gu d B _)):q:=f
theorem afy{p q:Prop}(h:p)(f:fp p->q:=by intro bd;exact hH 32 rfl (bJ.wrap (n:=((m.ai.length:Int)-1)) rfl (by omega) (by omega)) bd.1):q:=f ⟨h⟩
theorem afz{q:Prop}(f:q:=by exact zf d a b B (s+1+(k+1)) (R++(x'.l.zip y'.l).take (k+1)) ic _ _ x.n y.n _):q:=f
theorem JV{p q:Prop}(h:p)(f:p->q:=by intro bd;exact eW tk.ok 1000 rfl rfl bd):q:=f h
theorem afA{q:Prop}(f:q:=by exact iB P hd _ _ _ (.inr rfl) ab m.done m.aF.length d' (m.B++X) _ m.aF _):q:=f
theorem QM{p q:Prop}(h:p)(f:p->q:=by intro bd;exact abS hg.ok rfl rfl rfl rfl rfl bd):q:=f h
theorem WK{p q:Prop}(h:p)(f:fp p->q:=by intro bd;exact eG hg.ok rfl rfl (by simp;exact h0) rfl rfl bd.1):q:=f ⟨h⟩
theorem QN{p q:Prop}(h:p)(f:p->q:=by intro bd;exact ao6 Tryz.func44 λw S φ hg=>bd w S φ hg):q:=f h
theorem WL{q:Prop}(f:q:=by exact aL hg 8 5 (Nat.le_refl _) rfl rfl (jj M _)):q:=f
theorem WM{q:Prop}(f:q:=by exact aL hg 4 5 (Nat.le_refl _) rfl rfl (jj _ _)):q:=f
theorem QO{p q:Prop}(h:p)(f:p->q:=by intro bd;exact hH 30 rfl (Tq _ _ _) bd):q:=f h
theorem WN{p q:Prop}(h:p)(f:p->q:=by intro bd;exact aho hg.ok rfl rfl rfl rfl rfl rfl (dJ hg.ok rfl rfl bd)):q:=f h
theorem WO{q:Prop}(f:q:=by exact aL hg 3 5 (Nat.le_refl _) rfl rfl (jj _)):q:=f
theorem afB{q:Prop}(f:q:=by exact aL hg 3 5 (Nat.le_refl _) rfl rfl (gu (X.length+d+1) B _)):q:=f
theorem WQ{q:Prop}(f:q:=by exact ox () trivial ⟨.refl _,trivial⟩ rfl):q:=f
theorem afC{q:Prop}(f:q:=by exact yj rfl (by unfold fT jC;rw[if_pos wa,if_pos hmem];rfl)):q:=f
theorem afD{q:Prop}(f:q:=by exact mq hg 3 5 (Nat.le_refl _) rfl rfl (Bg q 1 0 true _)):q:=f
theorem aq{p:Prop}(f:p:=by omega):p:=f
theorem aD{p:Prop}(f:p:=by simp):p:=f
theorem cZ{p:Prop}(f:p:=by exact (Nat.le_refl _)):p:=f
theorem da{p:Prop}(f:p:=by kernel_rfl):p:=f
theorem cN{p:Prop}(f:p:=by exact (λ_=>rfl)):p:=f
theorem gP{p:Prop}(f:p:=by simp only;omega):p:=f
theorem dZ{p:Prop}(f:p:=by exact (bJ.refl _)):p:=f
theorem tn{p:Prop}(f:p:=by show φ.length<=_;omega):p:=f
theorem zh{p:Prop}(f:p:=by rw[mO _ rfl rfl];rfl):p:=f
theorem pI{p:Prop}(f:p:=by exact ⟨.refl _,.refl _,.refl _,trivial⟩):p:=f
theorem fO{p:Prop}(f:p:=by exact (Nat.zero_le _)):p:=f
theorem jl{p:Prop}(f:p:=by rw[cp];rfl):p:=f
theorem JW{p:Prop}(f:p:=by exact ⟨.refl _,.refl _,.refl _,.refl _,bJ.wrap (by omega) (by omega) (by omega),trivial⟩):p:=f
theorem Ep{p:Prop}(f:p:=by exact ⟨.refl _,.refl _,.refl _,.refl _,.refl _,.refl _,.refl _,trivial⟩):p:=f
theorem eA{p:Prop}(f:p:=by decide):p:=f
theorem JX{p:Prop}(f:p:=by exact ⟨.refl _,.refl _,bJ.wrap (by omega) (by omega) (by omega),trivial⟩):p:=f
theorem Bh{p:Prop}(f:p:=by exact (λh=>absurd (of_decide_eq_false h) (by omega))):p:=f
theorem ir{p:Prop}(f:p:=by simp_all):p:=f
theorem Bi{p:Prop}(f:p:=by exact ⟨.refl _,.refl _,.refl _,.refl _,trivial⟩):p:=f
theorem ln{p:Prop}(f:p:=by simpa using h):p:=f
theorem iS{p:Prop}(f:p:=by simp[hy]):p:=f
theorem Hi{p:Prop}(f:p:=by exact (λh=>absurd (of_decide_eq_true h) (by omega))):p:=f
theorem qC{p:Prop}(f:p:=by rw[dY];rfl):p:=f
theorem ym{p:Prop}(f:p:=by simp only[RV];exact .v _):p:=f
theorem u6{p:Prop}(f:p:=by rw[<-hs.len];grind):p:=f
theorem um{p:Prop}(f:p:=by rw[Tm.ao]):p:=f
theorem uo{p:Prop}(f:p:=by rw[yn];rfl):p:=f
theorem wv{p:Prop}(f:p:=by rw [Tm.ao]):p:=f
theorem Ts{p:Prop}(f:p:=by simp only [aW,and_true]; exact hvv.mono bF hle):p:=f
theorem jD{p:Prop}(f:p:=by grind):p:=f
theorem Bj{p:Prop}(f:p:=by exact ⟨.refl _,.refl _,trivial⟩):p:=f
theorem oZ{p:Prop}(f:p:=by simp[hx]):p:=f
theorem JY{p:Prop}(f:p:=by simp only[RV,iV];exact .v _):p:=f
theorem ale{p:Prop}(f:p:=by rw[Tm.kE];exact List.mem_cons_of_mem _ (Tm.wy (List.getElem_mem aI) (by rw[Int.sub_add_cancel];exact he))):p:=f
theorem ahp{p:Prop}(f:p:=by exact ⟨.refl _,.refl _,.refl _,bJ.wrap (by omega) (by omega) (by omega),trivial⟩):p:=f
theorem ahq{p:Prop}(f:p:=by simp only[List.mem_append,List.mem_cons]at hm ⊢;exact hm.imp id .inr):p:=f
theorem ahr{p:Prop}(f:p:=by simp only[List.mem_append,List.mem_cons]at hj ⊢;exact hj.imp id .inr):p:=f
theorem alf{p:Prop}(f:p:=by rw[show o4 P hd ab (k7 m t) t d2 (v+1) none=dt P hd ab (k7 m t) d2 (v+1)from rfl,dY];rfl):p:=f
theorem Er{p:Prop}(f:p:=by rw[tp];omega):p:=f
theorem abT{p:Prop}(f:p:=by exact ⟨.refl _,.refl _,.refl _,.refl _,.refl _,trivial⟩):p:=f
theorem Bk{p:Prop}(f:p:=by rw[nu];rfl):p:=f
theorem alg{p:Prop}(f:p:=by exact ⟨.refl _,.refl _,.refl _,.refl _,.refl _,.refl _,bJ.wrap (by omega) (by omega) (by omega),trivial⟩):p:=f
theorem JZ{p:Prop}(f:p:=by simp at hf ⊢;omega):p:=f
theorem J0{p:Prop}(f:p:=by unfold Ty.agg;rw[hs]):p:=f
theorem J1{p:Prop}(f:p:=by simp[Tm.aw];omega):p:=f
theorem alh{p:Prop}(f:p:=by exact ⟨.refl _,.refl _,.refl _,.refl _,.refl _,bJ.wrap (by omega) (by omega) (by omega),trivial⟩):p:=f
theorem Bl{p:Prop}(f:p:=by simp[Ob.lvl]):p:=f
theorem WR{p:Prop}(f:p:=by intro k;rw[<-kx.2.2.1 k];simp):p:=f
theorem J2{p:Prop}(f:p:=by rw[yc];simp;omega):p:=f
theorem WS{p:Prop}(f:p:=by rw[hz];simp only[Wo.next];omega):p:=f
theorem Es{p:Prop}(f:p:=by rw[abU];rfl):p:=f
theorem Et{p:Prop}(f:p:=by rw[h1];simp):p:=f
theorem NH{p:Prop}(f:p:=by exact (Int.natCast_nonneg _)):p:=f
theorem Eu{p:Prop}(f:p:=by simp;omega):p:=f
theorem WT{p:Prop}(f:p:=by intro k;rw[<-hR k];simp):p:=f
theorem abV{p:Prop}(f:p:=by unfold wpOpIn;rw[ho];exact eX):p:=f
theorem ali{p:Prop}(f:p:=by rw [dF,bK,bK,gF,wz,pJ]; omega):p:=f
theorem NI{p:Prop}(f:p:=by exact ⟨.refl _,trivial⟩):p:=f
theorem Hj{p:Prop}(f:p:=by rw [e]; rfl):p:=f
theorem alj{p:Prop}(f:p:=by rw[kE];exact List.mem_cons_of_mem _ (wy hx (by simp_all))):p:=f
theorem alk{p:Prop}(f:p:=by rw[Int.sub_add_cancel];exact he):p:=f
theorem abW{p:Prop}(f:p:=by first|exact .refl _|exact .ff):p:=f
theorem abX{p:Prop}(f:p:=by simp[Oper.looksAt,Op.operands]):p:=f
theorem WU{p:Prop}(f:p:=by simpa[Wo.next]using hid):p:=f
theorem ahs{p:Prop}(f:p:=by exact ⟨.refl _,bJ.fs _,.refl _,.refl _,trivial⟩):p:=f
theorem abY{p:Prop}(f:p:=by rw[Tm.ao];simp;omega):p:=f
theorem Tt{p:Prop}(f:p:=by rw [bN]):p:=f
theorem Tu{p:Prop}(f:p:=by rw[en];omega):p:=f
theorem Ew{p:Prop}(f:p:=by simp[hk]):p:=f
theorem alm{p:Prop}(f:p:=by simp only[List.map_map];exact aW.map _ _ _ λp _=>hρ p.2):p:=f
theorem WV{p:Prop}(f:p:=by simpa using kx.2.2.2):p:=f
theorem Ex{p:Prop}(f:p:=by rw [mF]):p:=f
theorem abZ{p:Prop}(f:p:=by simp[Tm.kF,c1,c2,c3,g4]):p:=f
theorem ab0{p:Prop}(f:p:=by simp only[RV,bV];exact .v _):p:=f
theorem aln{p:Prop}(f:p:=by exact ⟨.refl _,bJ.wrap (by omega) (by omega) (by omega),trivial⟩):p:=f
theorem aht{p:Prop}(f:p:=by rw[jn];have:=hi.ht x (by simp);omega):p:=f
theorem Tv{p:Prop}(f:p:=by simp[pD,aY]):p:=f
theorem Tw{p:Prop}(f:p:=by rw[J3];rfl):p:=f
theorem alo{p:Prop}(f:p:=by rw[List.filterMap_append,List.append_assoc];exact WW):p:=f
theorem alp{p:Prop}(f:p:=by exact ⟨.refl _,.refl _,.refl _,.refl _,.refl _,.refl _,trivial⟩):p:=f
theorem alq{p:Prop}(f:p:=by rw[List.filterMap_append,List.append_assoc];exact fK):p:=f
theorem ahu{p:Prop}(f:p:=by rw [hex,if_pos (by simpa using h3)]):p:=f
theorem Tz{p:Prop}(f:p:=by push_cast;omega):p:=f
theorem alr{p:Prop}(f:p:=by rw [hex]; unfold Bm; rw [if_neg (by simpa using h4)]):p:=f
theorem ab1{p:Prop}(f:p:=by simp[bN];omega):p:=f
theorem WX{p:Prop}(f:p:=by rw[Tm.kE];simp):p:=f
theorem TA{p:Prop}(f:p:=by simpa using h1):p:=f
theorem TB{p:Prop}(f:p:=by simpa using hp):p:=f
theorem ahv{p:Prop}(f:p:=by simpa using h3):p:=f
theorem ahw{p:Prop}(f:p:=by simp only[List.length_cons];omega):p:=f
theorem TD{p:Prop}(f:p:=by simpa using ho):p:=f
theorem NJ{p:Prop}(f:p:=by simp[IsKey]):p:=f
theorem wA{p:Prop}(f:p:=by rfl):p:=f
theorem als{p:Prop}(f:p:=by rw [dF,bK,dF,gF]; omega):p:=f
theorem ab2{p:Prop}(f:p:=by rw[<-h.len];exact hi):p:=f
theorem NK{p:Prop}(f:p:=by simp[pD]):p:=f
theorem ab3{p:Prop}(f:p:=by rw[h1.len];exact mG):p:=f
theorem alu{p:Prop}(f:p:=by simp only[List.take_zero,List.append_nil];rfl):p:=f
theorem ab4{p:Prop}(f:p:=by simp only[qD,km]):p:=f
theorem QP{p:Prop}(f:p:=by simp[execOp,hop,he]):p:=f
theorem QQ{p:Prop}(f:p:=by rw[<-he];exact hx):p:=f
theorem Fi{p:Prop}(f:p:=by rw[h2];simp):p:=f
theorem WY{p:Prop}(f:p:=by rw[bN];simp;omega):p:=f
theorem WZ{p:Prop}(f:p:=by have:=hi.tail.le y hy;omega):p:=f
theorem W0{p:Prop}(f:p:=by simp only;rw[en];omega):p:=f
theorem QR{p:Prop}(f:p:=by rw[<-h];exact dK):p:=f
theorem QS{p:Prop}(f:p:=by simp[Tm.kF,c1]):p:=f
theorem QT{p:Prop}(f:p:=by simp[Tm.kF,c2]):p:=f
theorem QU{p:Prop}(f:p:=by simp[Tm.kF,c3]):p:=f
theorem QV{p:Prop}(f:p:=by simp[Tm.kF,c4]):p:=f
theorem QW{p:Prop}(f:p:=by simpa using hN.len):p:=f
theorem QX{p:Prop}(f:p:=by rw[mF];simp;omega):p:=f
theorem QY{p:Prop}(f:p:=by rw[hrk];simp;omega):p:=f
theorem Bn{p:Prop}(f:p:=by simp[hp]):p:=f
theorem W4{p:Prop}(f:p:=by rw[List.length_set];omega):p:=f
theorem Fj{p:Prop}(f:p:=by assumption):p:=f
theorem QZ{p:Prop}(f:p:=by simp[pD,Tm.row]):p:=f
theorem W5{p:Prop}(f:p:=by rw[bx];simp[h1.len]):p:=f
theorem W6{p:Prop}(f:p:=by show φ.length<=3;omega):p:=f
theorem W7{p:Prop}(f:p:=by show φ.length<=7;omega):p:=f
theorem Q0{p:Prop}(f:p:=by rw[bN]):p:=f
theorem W8{p:Prop}(f:p:=by unfold wpOpIn;simp_all):p:=f
theorem W9{p:Prop}(f:p:=by rw[fF];omega):p:=f
theorem J4{p:Prop}(f:p:=by simp; omega):p:=f
theorem J5{p:Prop}(f:p:=by rw[h4];simp):p:=f
theorem Q1{p:Prop}(f:p:=by intro J6;omega):p:=f
theorem Fk{p:Prop}(f:p:=by simp[hq]):p:=f
theorem Fl{p:Prop}(f:p:=by simp[ht]):p:=f
theorem Q2{p:Prop}(f:p:=by simpa using hv):p:=f
theorem Q3{p:Prop}(f:p:=by simpa using hl):p:=f
theorem Q4{p:Prop}(f:p:=by simpa using hc):p:=f
theorem Q5{p:Prop}(f:p:=by simpa using h5):p:=f
abbrev mA1:=@List.length_zip
abbrev dG:=@List.getElem?_eq_getElem
abbrev mA3:=@List.getElem?_zip_eq_some
abbrev Jt:=@List.take_add_one
abbrev zi:=@List.length_take
abbrev Fm:=@List.take_of_length_le
abbrev sq:=@List.mem_of_getElem?
abbrev fu:=@List.getElem?_eq_some_iff
abbrev Fo:=@Nat.mul_le_mul_right
abbrev fP:=@List.getElem?_map
abbrev rP:=@List.getElem?_take_of_lt
abbrev Hk:=@List.getElem?_drop
abbrev J7:=@List.length_drop
abbrev ab5:=@Nat.eq_zero_or_pos
abbrev Hl:=@Nat.min_eq_left
abbrev Ey:=@Array.getElem?_eq_getElem
abbrev cE:=@List.mem_cons
abbrev k8:=@List.pairwise_cons
abbrev Hm:=@Array.getD_eq_getD_getElem?
abbrev mu:=@List.length_nil
abbrev NL:=@Nat.lt_succ_self
abbrev sr:=@List.map_toArray
abbrev bM:=@List.map_cons
abbrev fm:=@List.map_nil
abbrev kn:=@List.map_map
abbrev u7:=@List.getElem?_set_self
abbrev eT:=@Nat.le_refl
abbrev yo:=@List.mem_filterMap
abbrev ahx:=@List.eq_nil_iff_forall_not_mem
abbrev Xa:=@Nat.not_lt_zero
abbrev TE:=@Nat.sub_zero
abbrev Ab:=@Array.getElem?_eq_some_iff
abbrev jo:=@List.cons_append
abbrev ahy:=@List.take_succ_cons
abbrev gm:=@List.mem_map
abbrev qE:=@Nat.lt_or_ge
abbrev mv:=@List.getElem?_append_left
abbrev nA:=@List.getElem?_append_right
abbrev Xb:=@List.getElem?_cons_succ
abbrev Xc:=@List.set_cons_succ
abbrev wB:=@List.getElem?_set_ne
abbrev lq:=@Bool.false_eq_true
abbrev dx:=@List.length_cons
abbrev ahz:=@List.set_cons_zero
abbrev Xd:=@List.drop_zero
abbrev ko:=@Nat.le_of_ble_eq_true
abbrev ss:=@Option.map_some
abbrev NM:=@Array.toList_inj
abbrev wC:=@List.foldl_cons
abbrev kG:=@List.length_eq_zero_iff
abbrev fQ:=@List.length_map
abbrev yp:=@List.nil_append
abbrev ab6:=@Nat.lt_irrefl
abbrev NN:=@Nat.add_eq
abbrev yq:=@List.append_nil
abbrev aV:=@Bool.and_eq_true
abbrev oy:=@Bool.or_eq_true
abbrev J8:=@Nat.ble_eq
abbrev Ez:=@Bool.or_eq_false_iff
abbrev J9:=@Bool.not_eq_false'
abbrev ab7:=@Nat.eq_or_lt_of_le
abbrev fB:=@List.all_eq_true
abbrev Xe:=@List.mem_zipIdx_iff_getElem?
abbrev u9:=@Bool.not_true
abbrev uq:=@Bool.false_or
abbrev Ka:=@List.mem_range
abbrev NO:=@List.append_of_mem
abbrev mw:=@List.pairwise_append
abbrev ur:=@List.filterMap_cons
abbrev TH:=@Array.getElem?_setIfInBounds
abbrev cu:=@List.mem_append
abbrev TI:=@List.getElem?_cons_zero
abbrev TJ:=@List.pairwise_lt_range
abbrev TK:=@List.range_eq_range'
abbrev NP:=@List.range'_succ
abbrev wD:=@List.mem_iff_getElem?
abbrev ahA:=@Array.size_replicate
abbrev Kb:=@List.map_congr_left
abbrev Xf:=@List.mem_append_left
abbrev ab8:=@Option.bind_some
abbrev vd:=@Nat.le_trans
abbrev Kc:=@Nat.lt_of_lt_of_le
abbrev Bo:=@List.nodup_cons
abbrev dy:=@List.getElem_mem
abbrev Xg:=@List.getElem?_range
abbrev vf:=@Nat.succ_mul
abbrev ab9:=@Array.length_toList
abbrev TL:=@List.ext_getElem?
abbrev Xh:=@Nat.ble_eq_true_of_le
abbrev ahB:=@Option.map_eq_some_iff
abbrev aca:=@List.mem_iff_getElem
abbrev o5:=@Bool.eq_iff_iff
abbrev wE:=@Bool.not_eq_true'
abbrev ahC:=@Bool.and_eq_false_iff
abbrev acb:=@List.foldl_append
abbrev ahD:=@List.contains_iff_mem
abbrev Xi:=@List.mem_cons_of_mem
abbrev Xj:=@List.mem_cons_self
abbrev acd:=@Option.isSome_iff_exists
abbrev eR:=@List.map_append
abbrev zj:=@Nat.zero_add
abbrev Q6:=@List.getElem_inj
abbrev cX:=@List.drop_eq_nil_of_le
abbrev Bp:=@List.length_singleton
abbrev kH:=@Int.le_refl
abbrev Q7:=@List.mem_of_mem_take
abbrev Fp:=@Nat.add_zero
abbrev Fq:=@Bool.and_self
abbrev Kd:=@List.any_eq_true
abbrev Xk:=@Nat.le_mul_of_pos_right
abbrev Ke:=@List.contains_cons
abbrev eu:=@List.mem_singleton
abbrev Q8:=@List.countP_cons
abbrev Xl:=@List.getElem?_eq_none
abbrev zk:=@Int.toNat_natCast
abbrev Kf:=@List.countP_le_length
abbrev Kg:=@Array.toList_push
abbrev bU:=@Nat.zero_le
abbrev iu:=@Bool.true_and
abbrev Kh:=@Bool.or_false
abbrev Bq:=@List.nodup_append
abbrev pK:=@List.all_cons
abbrev rA:=@Bool.false_and
abbrev Q9:=@List.mem_of_mem_drop
abbrev Xm:=@List.eq_nil_of_length_eq_zero
abbrev Ki:=@Bool.and_false
abbrev Fs:=@Int.natCast_nonneg
abbrev Xn:=@List.set_append_right
abbrev zm:=@Nat.add_sub_cancel_left
abbrev pL:=@List.not_mem_nil
abbrev Xo:=@List.countP_mono_left
abbrev Ra:=@List.mem_iff_append
abbrev zn:=@Nat.lt_succ_of_le
abbrev Kj:=@List.of_mem_zip
abbrev Rb:=@List.reverse_append
abbrev pM:=@Nat.le_succ
abbrev Xp:=@List.length_dropLast
theorem mB1{q:Prop}(f:q:=by
 obtain⟨ex,ey,zx,zy,sd,fK⟩:=eX;have cx:=iZ Y d B hU.ug.chain x;have cy:=iZ Y d B hU.ug.chain y;have Xq:∀c∈B,c.2.size<400000000:=λc hc=>by have:=hU.ug.sb c hc;omega
 generalize Tm.aG B x=x' at *;generalize Tm.aG B y=y' at *;refine Nk ?_;refine apg ?_;refine Nj ?_;refine aph ?_;refine z8 ?_;refine z8 ?_;by_cases hc:x'.k=1/\y'.k=1/\x'.n=y'.n;refine Qy ?_;refine Qw ?_;refine Qx ?_;refine bf 7 (cn d a b B (s+1) R cK) tn rfl ?_ ?_;exact QI;exact ak9;obtain⟨Br,vg⟩:=fK hc;by_cases mE:x'.k=1;obtain ⟨eY,eZ⟩:=Br mE;have cw:=gy Y d B Xq aq x'.n y' aq;have cb:=ja Y d B x'.n y' (ex mE) aq;generalize Tm.iv B x'.n y'=wb at cw eY eZ;by_cases yf:y'.k=1
 ·refine JK ?_;refine JL ?_;refine eG hg.ok rfl rfl (by have:¬ x'.n=y'.n:=λe=>hc ⟨mE,yf,e⟩;simp[this]) rfl rfl ?_;refine JM ?_;refine Nj ?_;refine ag2 ?_;cases wb with
  |true=>refine mM ?_;obtain⟨e1,e2⟩:=eY rfl;rw[e1,e2];exact wk
  |false=>
  have hN:=eZ rfl;refine gg ?_;refine Nj ?_;refine akT ?_;refine bf 7 (cn d a b (B++[(x'.n,y')]) (s+1) R cK) tn rfl ?_ ?_;exact abO;exact abE
 ·refine JK ?_;refine JO ?_;refine JM ?_;refine Nj ?_;refine ag2 ?_;cases wb with
  |true=>refine mM ?_;obtain⟨e1,e2⟩:=eY rfl;rw[e1,e2];exact wk
  |false=>
  have hN:=eZ rfl;refine gg ?_;refine Nj ?_;refine akT ?_;refine bf 7 (cn d a b (B++[(x'.n,y')]) (s+1) R cK) tn rfl ?_ ?_;exact abO;exact abE
 refine QA ?_;refine QB ?_;obtain⟨vh,Bt⟩:=vg mE;by_cases yf:y'.k=1
 ·obtain ⟨eY,eZ⟩:=vh yf;have cw:=gy Y d B Xq aq y'.n x' aq;have cb:=ja Y d B y'.n x' (ey yf) aq;generalize Tm.iv B y'.n x'=wb at cw eY eZ;refine JL ?_;refine Nk ?_;refine ag2 ?_;cases wb with
  |true=>refine mM ?_;obtain⟨e1,e2⟩:=eY rfl;rw[e1,e2];exact wk
  |false=>
  have hN:=eZ rfl;refine gg ?_;refine Nk ?_;refine apj ?_;refine bf 7 (cn d a b (B++[(y'.n,x')]) (s+1) R cK) tn rfl ?_ ?_;exact aff;exact ak8
 obtain ⟨eY,eZ⟩:=Bt yf;refine JO ?_;refine af (λc1=>?_) λc1=>?_
 have c1:¬ x'.k=y'.k:=by simpa using c1
 obtain⟨e1,e2⟩:=eY QS;rw[e1,e2];exact wk;have c1:x'.k=y'.k:=by simpa using c1
 refine af (λc2=>?_) λc2=>?_
 have c2:¬ x'.n=y'.n:=by simpa using c2
 obtain⟨e1,e2⟩:=eY QT;rw[e1,e2];exact wk;have c2:x'.n=y'.n:=by simpa using c2
 refine af (λc3=>?_) λc3=>?_
 have c3:aX x'.s y'.s=false:=by simpa using c3
 obtain⟨e1,e2⟩:=eY QU;rw[e1,e2];exact wk;have c3:aX x'.s y'.s=true:=by simpa using c3
 refine af (λc4=>?_) λc4=>?_
 have c4:¬ x'.l.length=y'.l.length:=by simp [Tm.ao]at c4; omega
 obtain⟨e1,e2⟩:=eY QV;rw[e1,e2];exact wk;have g4:x'.l.length=y'.l.length:=by simp[Tm.ao]at c4;omega
 have hN:=eZ abZ;have hN2:=Kk hN;have Kl:(x'.l.zip y'.l).length=x'.l.length:=by rw[mA1];omega
 have hRz:(R++x'.l.zip y'.l).length=R.length+x'.l.length:=by rw[List.length_append,Kl]
 refine apb ?_;rintro k hk;refine ag ?_;refine af (λh=>?_) λh=>?_
 have aI:k<x'.l.length:=bo h rfl;have e1:x'.l[k]? = some x'.l[k]:=dG aI;have e2:y'.l[k]? = some (y'.l[k]' aq):=dG aq;have e3:(x'.l.zip y'.l)[k]? = some (x'.l[k],y'.l[k]' aq):=by rw[mA3];exact⟨e1,e2⟩
 generalize x'.l[k]=xk at e1 e3;generalize (y'.l[k]' aq)=yk at e2 e3;have Js:R++(x'.l.zip y'.l).take (k+1)=(R++(x'.l.zip y'.l).take k)++[(xk,yk)]:=by rw[Jt,e3,List.append_assoc];rfl
 have VY:(R++(x'.l.zip y'.l).take k).length=R.length+k:=by rw[List.length_append,zi];omega
 refine cJ (Tm.ay e1) ?_;refine cJ (Tm.ay e2) ?_;refine NC ?_;refine abD ?_;refine mL9 ?_;refine bf 10 (cn d a b B (s+1+(k+1)) (R++(x'.l.zip y'.l).take (k+1)) cK++[aO y',aO x',.box [iV x.n,iV y.n]]) tn rfl ?_ ?_;exact aeF;exact Wj;have aI:x'.l.length<=k:=bw h rfl;rw[Fm (by omega:(x'.l.zip y'.l).length<=k)];refine bf 7 (cn d a b B (s+1+k) (R++x'.l.zip y'.l) cK) tn rfl ?_ ?_;exact ae7;exact ak5):q:=f
theorem mB2{q:Prop}(f:q:=by
 obtain⟨ex,ey,zx,zy,sd,fK⟩:=eX;have cx:=iZ Y d B hU.ug.chain x;have cy:=iZ Y d B hU.ug.chain y;have Xq:∀c∈B,c.2.size<400000000:=λc hc=>by have:=hU.ug.sb c hc;omega
 generalize Tm.aG B x=x' at *;generalize Tm.aG B y=y' at *;refine Nj ?_;refine ape ?_;refine Nk ?_;refine apf ?_;refine z8 ?_;refine z8 ?_;by_cases hc:x'.k=1/\y'.k=1/\x'.n=y'.n;refine Qy ?_;refine Qw ?_;refine Qx ?_;refine bf 7 (cn d a b B (s+1) R cK) tn rfl ?_ ?_;exact QI;exact ak9;obtain⟨Br,vg⟩:=fK hc;by_cases mE:x'.k=1;obtain ⟨eY,eZ⟩:=Br mE;have cw:=gy Y d B Xq aq x'.n y' aq;have cb:=ja Y d B x'.n y' (ex mE) aq;generalize Tm.iv B x'.n y'=wb at cw eY eZ;by_cases yf:y'.k=1
 ·refine JK ?_;refine JL ?_;refine eG hg.ok rfl rfl (by have:¬ x'.n=y'.n:=λe=>hc ⟨mE,yf,e⟩;simp[this]) rfl rfl ?_;refine JM ?_;refine Nk ?_;refine ag1 ?_;cases wb with
  |true=>refine mM ?_;obtain⟨e1,e2⟩:=eY rfl;rw[e1,e2];exact wk
  |false=>
  have hN:=eZ rfl;refine gg ?_;refine Nk ?_;refine akS ?_;refine bf 7 (cn d a b (B++[(x'.n,y')]) (s+1) R cK) tn rfl ?_ ?_;exact abO;exact abE
 ·refine JK ?_;refine JO ?_;refine JM ?_;refine Nk ?_;refine ag1 ?_;cases wb with
  |true=>refine mM ?_;obtain⟨e1,e2⟩:=eY rfl;rw[e1,e2];exact wk
  |false=>
  have hN:=eZ rfl;refine gg ?_;refine Nk ?_;refine akS ?_;refine bf 7 (cn d a b (B++[(x'.n,y')]) (s+1) R cK) tn rfl ?_ ?_;exact abO;exact abE
 refine QA ?_;refine QB ?_;obtain⟨vh,Bt⟩:=vg mE;by_cases yf:y'.k=1
 ·obtain ⟨eY,eZ⟩:=vh yf;have cw:=gy Y d B Xq aq y'.n x' aq;have cb:=ja Y d B y'.n x' (ey yf) aq;generalize Tm.iv B y'.n x'=wb at cw eY eZ;refine JL ?_;refine Nj ?_;refine ag1 ?_;cases wb with
  |true=>refine mM ?_;obtain⟨e1,e2⟩:=eY rfl;rw[e1,e2];exact wk
  |false=>
  have hN:=eZ rfl;refine gg ?_;refine Nj ?_;refine api ?_;refine bf 7 (cn d a b (B++[(y'.n,x')]) (s+1) R cK) tn rfl ?_ ?_;exact aff;exact ak8
 obtain ⟨eY,eZ⟩:=Bt yf;refine JO ?_;refine af (λc1=>?_) λc1=>?_
 have c1:¬ x'.k=y'.k:=by simpa using c1
 obtain⟨e1,e2⟩:=eY QS;rw[e1,e2];exact wk;have c1:x'.k=y'.k:=by simpa using c1
 refine af (λc2=>?_) λc2=>?_
 have c2:¬ x'.n=y'.n:=by simpa using c2
 obtain⟨e1,e2⟩:=eY QT;rw[e1,e2];exact wk;have c2:x'.n=y'.n:=by simpa using c2
 refine af (λc3=>?_) λc3=>?_
 have c3:aX x'.s y'.s=false:=by simpa using c3
 obtain⟨e1,e2⟩:=eY QU;rw[e1,e2];exact wk;have c3:aX x'.s y'.s=true:=by simpa using c3
 refine af (λc4=>?_) λc4=>?_
 have c4:¬ x'.l.length=y'.l.length:=by simp [Tm.ao]at c4; omega
 obtain⟨e1,e2⟩:=eY QV;rw[e1,e2];exact wk;have g4:x'.l.length=y'.l.length:=by simp[Tm.ao]at c4;omega
 have hN:=eZ abZ;have hN2:=Kk hN;have Kl:(x'.l.zip y'.l).length=x'.l.length:=by rw[mA1];omega
 have hRz:(R++x'.l.zip y'.l).length=R.length+x'.l.length:=by rw[List.length_append,Kl]
 refine apa ?_;rintro k hk;refine ag ?_;refine af (λh=>?_) λh=>?_
 have aI:k<x'.l.length:=bo h rfl;have e1:x'.l[k]? = some x'.l[k]:=dG aI;have e2:y'.l[k]? = some (y'.l[k]' aq):=dG aq;have e3:(x'.l.zip y'.l)[k]? = some (x'.l[k],y'.l[k]' aq):=by rw[mA3];exact⟨e1,e2⟩
 generalize x'.l[k]=xk at e1 e3;generalize (y'.l[k]' aq)=yk at e2 e3;have Js:R++(x'.l.zip y'.l).take (k+1)=(R++(x'.l.zip y'.l).take k)++[(xk,yk)]:=by rw[Jt,e3,List.append_assoc];rfl
 have VY:(R++(x'.l.zip y'.l).take k).length=R.length+k:=by rw[List.length_append,zi];omega
 refine cJ (Tm.ay e1) ?_;refine cJ (Tm.ay e2) ?_;refine NC ?_;refine abD ?_;refine mL9 ?_;refine bf 10 (cn d a b B (s+1+(k+1)) (R++(x'.l.zip y'.l).take (k+1)) cK++[aO x',aO y',.box [iV x.n,iV y.n]]) tn rfl ?_ ?_;exact aeF;exact Wj;have aI:x'.l.length<=k:=bw h rfl;rw[Fm (by omega:(x'.l.zip y'.l).length<=k)];refine bf 7 (cn d a b B (s+1+k) (R++x'.l.zip y'.l) cK) tn rfl ?_ ?_;exact ae7;exact ak5):q:=f
theorem mB3{q:Prop}(f:q:=by refine⟨λ_ tl=>oE hg.ok (kb (pN x)) rfl rfl rfl rfl rfl rfl dZ,?_⟩;refine⟨λh=>Bool.noConfusion (show true=false from h),?_⟩;refine⟨λ_ tl=>au hg.ok rfl rfl rfl rfl dZ,?_⟩;refine⟨λ_ tl=>au hg.ok rfl rfl rfl rfl dZ,?_⟩;refine⟨λ_ tl=>iK hg.ok rfl rfl rfl rfl rfl rfl eA (Tm.ay hx) rfl dZ,?_⟩;refine⟨λ_ tl=>au hg.ok rfl rfl rfl rfl dZ,?_⟩;refine⟨λ_ tl=>au hg.ok rfl rfl rfl rfl dZ,?_⟩;refine⟨λ_ tl=>au hg.ok rfl rfl rfl rfl dZ,?_⟩;refine⟨λ_ tl=>oE hg.ok (kb (x.k==2)) rfl rfl rfl rfl rfl rfl dZ,?_⟩;refine⟨λh=>Bool.noConfusion (show true=false from h),?_⟩;refine⟨λ_ tl=>au hg.ok rfl rfl rfl rfl dZ,?_⟩;refine⟨λh=>Bool.noConfusion (show true=false from h),?_⟩;refine⟨λ_ tl=>au hg.ok rfl rfl rfl rfl dZ,?_⟩;refine⟨λ_ tl=>au hg.ok rfl rfl rfl rfl dZ,?_⟩;refine⟨λh=>Bool.noConfusion (show true=false from h),?_⟩;refine⟨λ_ tl=>au hg.ok rfl rfl rfl rfl dZ,?_⟩;refine⟨λ_ tl=>au hg.ok rfl rfl rfl rfl dZ,?_⟩;refine⟨λh=>Bool.noConfusion (show true=false from h),?_⟩;refine⟨λ_ tl=>au hg.ok rfl rfl rfl rfl dZ,?_⟩;refine⟨λh=>Bool.noConfusion (show true=false from h),?_⟩;refine⟨λ_ tl=>au hg.ok rfl rfl rfl rfl dZ,?_⟩;refine⟨λ_ tl=>wF hg [0,1] (aU.ace (wG Y 146 l nx) (bJ.oz _)) cN rfl rfl rfl rfl rfl rfl (AH l nx tl) dZ,?_⟩;refine⟨λh=>Bool.noConfusion (show true=false from h),?_⟩;refine⟨λ_ tl=>au hg.ok rfl rfl rfl rfl dZ,?_⟩;refine⟨λ_ tl=>wF hg [0,1] (aU.ace (wG Y 147 l nx) (bJ.oz _)) cN rfl rfl rfl rfl rfl rfl (AH l nx tl) dZ,?_⟩;refine⟨λh=>Bool.noConfusion (show true=false from h),?_⟩;refine⟨λ_ tl=>au hg.ok rfl rfl rfl rfl dZ,?_⟩;refine⟨λ_ tl=>wF hg [0,1] (aU.ace (wG Y 148 l nx) (bJ.oz _)) cN rfl rfl rfl rfl rfl rfl (AH l nx tl) dZ,?_⟩;refine⟨λh=>Bool.noConfusion (show true=false from h),?_⟩;refine⟨λ_ tl=>au hg.ok rfl rfl rfl rfl dZ,?_⟩;refine⟨λ_ tl=>wF hg [0,1] (aU.ace (wG Y 149 l nx) (bJ.oz _)) cN rfl rfl rfl rfl rfl rfl (AH l nx tl) dZ,?_⟩;refine⟨λh=>Bool.noConfusion (show true=false from h),?_⟩;refine⟨λ_ tl=>au hg.ok rfl rfl rfl rfl dZ,?_⟩;refine⟨λ_ tl=>au hg.ok rfl rfl rfl rfl dZ,?_⟩;refine⟨λh=>Bool.noConfusion (show true=false from h),?_⟩;refine⟨λ_ tl=>au hg.ok rfl rfl rfl rfl dZ,?_⟩;refine⟨λ_ tl=>au hg.ok rfl rfl rfl rfl dZ,?_⟩;refine⟨λh=>Bool.noConfusion (show true=false from h),?_⟩;refine⟨λ_ tl=>au hg.ok rfl rfl rfl rfl dZ,?_⟩;refine⟨λ_ tl=>au hg.ok rfl rfl rfl rfl dZ,?_⟩;refine⟨λh=>Bool.noConfusion (show true=false from h),?_⟩;refine⟨λ_ tl=>au hg.ok rfl rfl rfl rfl dZ,?_⟩;refine⟨λ_ tl=>au hg.ok rfl rfl rfl rfl dZ,?_⟩;refine⟨λh=>Bool.noConfusion (show true=false from h),?_⟩;refine⟨λ_ tl=>au hg.ok rfl rfl rfl rfl dZ,?_⟩;refine⟨λ_ tl=>au hg.ok rfl rfl rfl rfl dZ,?_⟩;exact trivial):q:=f
theorem mB4{q:Prop}(f:q:=by
 obtain⟨rfl,rfl,a8,hk⟩:=hk;obtain⟨b,o,n,cap,h1,h2⟩:=(aP _ _ _ _ rfl).2 rfl;rcases hk with ⟨a2,_,rfl,_⟩|⟨b',o',apo,cs,T',h3,rfl,bg,hn,su,hle,uK⟩
 simp at gY;rw[h1]at h3;simp only[Value.slice.injEq,Option.some.injEq,Addr.mk.injEq]at h3;obtain⟨⟨rfl,rfl,_⟩,hnn,vj⟩:=h3;subst vj;have mF:=a8 row (sq gY);have alw:=(fu.1 gY).1;have hτ:=hg.ty _ _ hT;have lY:o+r*sz+sz<=cs.length:=by have:(r+1)*sz<=cap*sz:=Fo _ aq;grind
 have lM:aW (SS g.S0 φ) w φ (row.map .d) ((cs.drop (o+r*sz)).take sz):=by
  refine aW.sv Eu λm u v hu hv=>?_
  rw[fP]at hu;cases hm:row[m]? with
  |none=>simp_all
  |some y=>rw[hm]at hu;simp at hu;subst hu;have hml:=(fu.1 hm).1;obtain⟨y',h4,h5⟩:=uK r row m y gY hm;rw[rP aq,Hk,h4]at hv;cases hv;simp only[RV];exact h5
 obtain⟨h4,h5⟩:=AI hτ lM hp;rcases h4 with ⟨h0,ha⟩|h4
 exact oF hs rfl h2 (jq hτ ha h0 _ _) h5;simp only [zi,J7]at h4;rcases ab5 τ.size with hz|hz
 have ha:τ.agg=true:=by cases ha:τ.agg;have:=hτ.one ha;omega;rfl
 exact oF hs rfl h2 (jq hτ ha hz _ _) h5;have h6:(List.drop j (List.take sz (List.drop (o+r*sz) cs))).take τ.size=(cs.drop (o+r*sz+j)).take τ.size:=by rw[List.drop_take,List.take_take,List.drop_drop,Hl aq]
 rw[h6]at h5;exact oF hs rfl h2 (sx hτ bg (o+r*sz+j) aq) h5):q:=f
theorem mB5{q:Prop}(f:q:=by
 obtain⟨aI,mn⟩:=(hR k).1 aD;have ho:ad[k]? = some ad[k]:=Ey aI
 have:k∈Region.ready .any ad aM:=by
  refine mem_ready.2 ⟨aI,mn,ad[k],ho,λe he hb=>?_⟩;have fE:=(dA k _ ho).1 e he hb
  have vg:e.on ∉ (k::R'):=λhm=>by
   rcases cE.1 hm with hm|hm
   omega;have:=(k8.1 hp).1 _ hm;omega
  have hsz:e.on<aM.size:=by omega
  have h2:¬ (aM.getD e.on true=false):=λh2=>vg ((hR e.on).2 ⟨by omega,h2⟩)
  simp only[Array.getD,hsz,dif_pos]at h2 ⊢;simpa using h2
 rw[Km]at this;cases this):q:=f
theorem mB6{q:Prop}(f:q:=by
 obtain⟨b,hb,aP⟩:=aP;generalize o6:a.eval y=vy at eC;cases eC;have hk:=cO hs hb ho;simp only[bj]at hk;obtain⟨ents,jr,bg,dH⟩:=hk;have lf:g.P.underlying T=some (.map kt et):=by have:=(hg.ty _ _ hT).sh;simpa only[bH]using this
 have c0:=kI dH hf;simp only at c0;have lr:=heap_set (o':=.map (ents.push {key:=kv,val:=a.eval v,born:=jr}) (jr+1)) bg;rw[bx];refine⟨.skip,undef,{w with heap:=w.heap.setIfInBounds b (.map (ents.push {key:=kv,val:=a.eval v,born:=jr}) (jr+1))},φ.set i (.jK b),?_,.inr ⟨rfl,rfl⟩,by simp[RV],?_⟩;simp[execOp,Instr.mapUpdate,run_underlying lf,aP,run_getObj_map bg,o6,run_checkKey o7 Bu,run_findKey o7 c0,run_setObj_map _ bg];refine j8.swap hs hb (.inl rfl) aD (λc _ hc=>lr.2 c λe=>hc Hj) (λb' hb=>.inl hb) rfl rfl rfl λbF hle=>?_
 simp only[bj];refine⟨_,_,lr.1,?_,?_⟩;simp[dH.1];have:=(dH.2.mono bF hle).append (l':=[ev E v]) (vs':=[a.eval v]) Ts;simp_all):q:=f
theorem mB7{q:Prop}(f:q:=by
 obtain⟨h0,ph,h1,h2⟩:=h;obtain⟨p',h3,h4⟩:=hp _ _ h1;refine⟨h0,p',h3,λNn s' x' pO he=>?_⟩;rcases h4 with rfl|⟨sz,s,x,ob,sz1,s1,x1,TM,h5,h6,h7⟩|⟨sz,s,x,ob,_,h6⟩|⟨l0,I0,B0,B0',_,h6⟩|⟨bs0,alx,_,h6⟩
 exact h2 _ _ _ _ he;subst he;cases h6;obtain⟨h8,h9⟩:=h2 _ _ _ _ h5;exact⟨by omega,λe=>by omega⟩;subst he;cases h6;subst he;cases h6;subst he;cases h6):q:=f
theorem mB8{q:Prop}(f:q:=by obtain⟨v,h1,h2⟩:=hv.get t ha;have htl:=(fu.1 h1).1;simp only[Option.getD_some];rw[Hm,Array.getElem?_append_left (by simpa using htl)];simp only[List.getElem?_toArray,h1,Option.getD_some];exact h2):q:=f
theorem mB9{q:Prop}(f:q:=by
 obtain⟨_,h1⟩:=TN hs aP ho;rcases h1 with h1|⟨b,o,cap,cs,T',h1,h2,h3,_⟩
 simp_all;refine aZ hs (vv:=.pointer (some ⟨b,o+n.toNat*sz,none⟩)) ?_ ?_;have fo:(Instr.indexAt T (a.eval x) (a.eval i)).run g.P w=.ok (.pointer (some ⟨b,o+n.toNat*sz,none⟩)) w:=by simp only[Instr.indexAt,h1,hvi,asIntOf,underlying,Sem.run_bind,Sem.run_pure,run_program,Result.andThen_ok,bX hg hT];rw[Sem.run_ite,if_pos ⟨h0,by omega⟩];simp only[Sem.run_bind,run_sizeOf (hg.ty _ _ he),Result.andThen_ok,Sem.run_pure,fU,hsz]
 simp only[execOp,Sem.run_bind,fo,Result.andThen_ok,Sem.run_pure];simp only [RV];grind):q:=f
theorem aly{q:Prop}(f:q:=by
 obtain⟨aI,mn⟩:=(hR k).1 aD;have ho:ad[k]? = some ad[k]:=Ey aI
 have:k∈Region.ready .any ad aM:=by
  refine mem_ready.2 ⟨aI,mn,ad[k],ho,λe he hb=>?_⟩;have fE:=(dA k _ ho).1 e he hb
  have vg:e.on ∉ (k::R'):=λhm=>by
   rcases cE.1 hm with hm|hm
   omega;have:=(k8.1 hp).1 _ hm;omega
  have hsz:e.on<aM.size:=by omega
  have h2:¬ (aM.getD e.on true=false):=λh2=>vg ((hR e.on).2 ⟨by omega,h2⟩)
  simp only[Array.getD,hsz,dif_pos]at h2 ⊢;simpa using h2
 simp_all):q:=f
theorem alz{q:Prop}(f:q:=by
 obtain⟨s,e1⟩:∃s,dm[k]? = some s:=⟨_,dG (show k<dm.length from aI)⟩;have e2:=Xr l x e1;have e3:dm.take (k+1)=dm.take k++[s]:=by rw[Jt,e1];rfl
 refine dX hg.ok rfl rfl rfl rfl rfl rfl NH (show(dm.map λs=>[D.v (.string s)])[k]? = some [D.v (.string s)] by rw[fP,e1];rfl) rfl ?_;refine wo ?_;refine tq hg.cm 5 [.v (.string s)] (by show φ.length<=5;omega) rfl rfl (ag ?_);refine apd ?_;refine apc ?_;exact Wl):q:=f
theorem acg{q:Prop}(f:q:=by obtain⟨ah,al,ap,tx,anx,ae⟩:=a;cases al<;>(refine Bc hg.ok rfl rfl rfl rfl rfl rfl rfl rfl rfl ?_;refine dJ hg.ok rfl rfl ?_;refine wj hg 5 rfl rfl ?_;rfl)):q:=f
theorem ahE{q:Prop}(f:q:=by
 refine⟨h0,No,h5,?_⟩;rcases h6 with h6|⟨b,o,cap,cs,T,g1,g2,g3,g4,g5,g6,g7⟩
 exact .inl h6;refine .inr ⟨b,o,cap,cs,T,g1,g2,g3,g4,g5,g6,λi r j x hi hj=>?_⟩;obtain⟨y,h9,mH⟩:=g7 i r j x hi hj;exact⟨y,h9,mH.mono bF⟩):q:=f
theorem alA{q:Prop}(f:q:=by
 refine⟨.value (.slice a0 0 0),.slice a0 0 0,w,φ.set i (.o8 sz (Nat.succ s) (.slice a0 0 0) none),?_,.inl rfl,?_,?_⟩;simp only [mu]at hb;simp[execOp,Instr.sliceAt,Instr.slice,hv,underlying,bX hg hT,hb,run_sizeOf hτ];simp only [RV];simp_all;refine j8.swap hs fj (.inr (.inl ⟨_,_,_,_,_,_,_,_,rfl,rfl,NL _⟩)) cZ (λ_ _ _=>rfl) (λb hb=>by simp [bI.bl]at hb) rfl rfl rfl λ_ _=>?_
 simp only[bj];simp_all):q:=f
theorem alC{q:Prop}(f:q:=by
 obtain⟨rfl,rfl,a8,hk⟩:=hk;have hv:=(aP _ _ _ _ rfl).2 rfl;have nB:∃(p:Option Addr) (c:Nat),a.eval x=.slice p aa.length c:=by grind
 obtain⟨p,c,nB⟩:=nB;refine aZ hs (vv:=.int .i64 aa.length) ?_ JY;have hu:=bX hg hT;simp only[execOp,resolve,Sem.run_bind,Sem.run_pure,Result.andThen_ok,invoke,builtin,sr,bM,fm,nB];simp[qF hu (.inr ⟨⟨_,rfl⟩,_,_,_,rfl,rfl⟩)]):q:=f
theorem alE{q:Prop}(f:q:=by refine⟨λ_ tl=>au hg.ok rfl rfl rfl rfl dZ,?_⟩;refine⟨λh=>Bool.noConfusion (show true=false from h),?_⟩;refine⟨λh=>Bool.noConfusion (show true=false from h),?_⟩;refine⟨λh=>Bool.noConfusion (show true=false from h),?_⟩;refine⟨λh=>Bool.noConfusion (show true=false from h),?_⟩;refine⟨λh=>Bool.noConfusion (show true=false from h),?_⟩;refine⟨λh=>Bool.noConfusion (show true=false from h),?_⟩;exact trivial):q:=f
theorem ach{q:Prop}(f:q:=by
 obtain⟨e,e1,e2,e3⟩:=NQ hi;rcases e3 with e3|⟨m,e3,e4⟩
 exact .one Hn e1 e2 e3;exact .step Hn e1 e2 rfl (hr _ _ _ e3 e4)):q:=f
theorem alF{q:Prop}(f:q:=by
 obtain⟨v,hv1,yr⟩:=Xs (Tm.eD x).1 (Tm.eD y).1 hIx hIy;refine aA (hv1) ?_;refine af (λh4=>?_) λh4=>?_
 rw [<-fin (r:=(0,6)) alr];exact lW;have h4:(AJ s (Tm.eD x).1 (Tm.eD y).1).2=true:=by simpa using h4
 rw[<-fin (r:=(v,0)) (by rw[hex];unfold Bm;rw[if_pos h4,yr h4])];exact lW):q:=f
theorem Xt{q:Prop}(f:q:=by exact⟨[zv,.bool false],rfl,by simp only[aW,RV,bV,and_true];exact⟨hzR,.v _⟩⟩):q:=f
theorem Xu{q:Prop}(f:q:=by obtain⟨inf,h1,h2⟩:=Option.bind_eq_some_iff.1 hz;simp[zeroValue,typeInfo,h1,h2]):q:=f
theorem Xv{q:Prop}(f:q:=by exact⟨[vv,.bool true],rfl,by simp only[aW,RV,bV,and_true];exact⟨h2,.v _⟩⟩):q:=f
theorem alG{q:Prop}(f:q:=by
 refine⟨h0,No,h1,?_⟩;rcases h2 with h2|⟨b,o,cap,cs,T,h2,h3,h4,h5,h6,h7,h8⟩
 exact .inl h2;refine .inr ⟨b,o,cap,cs,T,h2,h3,h4,h5,h6,h7,λi r j x hi hj=>?_⟩;obtain⟨y,h9,mH⟩:=h8 i r j x hi hj;exact⟨y,h9,mH.mono hk⟩):q:=f
theorem alH{q:Prop}(f:q:=by
 obtain⟨b,h1,h2⟩:=h;obtain⟨p',h3,h4⟩:=hp _ _ h1;rcases h4 with rfl|⟨sz,s,x,ob,Nn,s',x',pO,h5,_⟩|⟨sz,s,x,ob,h5,_⟩|⟨l0,I0,B0,B0',h5,_⟩|⟨bs0,alx,h5,_⟩
 simp_all;cases h5;cases h5;cases h5;cases h5):q:=f
theorem ahF{q:Prop}(f:q:=by
 obtain⟨h1,h2⟩:=(hR k).1 hk;have hsz:k<aM.size:=by omega
 simp only[Array.getD,hsz,dif_pos]at h2 ⊢;exact h2):q:=f
theorem acj{q:Prop}(f:q:=by refine⟨λh=>?_,λh=>h.elim,by omega⟩;split at h;omega;omega):q:=f
theorem alI{q:Prop}(f:q:=by obtain⟨i,x⟩:=x;simp only[kY]at h;obtain⟨_,h⟩:=Bv h;split at h;cases h;split at h;obtain ⟨_,h⟩:=Bv h;split at h;rename_i hl;cases h;simp[ih _ _ hl];cases h;cases h):q:=f
theorem alJ{q:Prop}(f:q:=by refine⟨h0,No,h1,λi x r hi hr=>?_⟩;obtain⟨cs,T,h3,h4,h5,h6,h7⟩:=h2 i x r hi hr;refine⟨cs,T,h3,h4,h5,h6,λj d hd=>?_⟩;obtain⟨y,h8,h9⟩:=h7 j d hd;exact⟨y,h8,h9.mono bF⟩):q:=f
theorem alK{q:Prop}(f:q:=by refine⟨h0,No,h1,λi x r hi hr=>?_⟩;obtain⟨cs,T,h3,h4,h5,h6,h7⟩:=h2 i x r hi hr;refine⟨cs,T,h3,h4,h5,h6,λj d hd=>?_⟩;obtain⟨y,h8,h9⟩:=h7 j d hd;exact⟨y,h8,h9.mono hk⟩):q:=f
theorem alL{q:Prop}(f:q:=by
 refine⟨_,V0,λb hb=>?_,λu=>(h3 u).mono cY.jj cY.le,h4,h5.Rc cY,h6.Kn cY.ext (h6.le.trans cY.le)⟩;rcases cY.own b hb with h|h
 exact h2 b h;left;have:=h6.size;omega):q:=f
theorem alM{q:Prop}(f:q:=by refine⟨ents,jr,Eg.map λx=>(x.1,f x.2),h0.map _,h5,?_,?_⟩;simpa[kn,Function.comp_def]using h6;have:=h7.map' f hf;simpa[kn,Function.comp_def]using this):q:=f
theorem ahG{q:Prop}(f:q:=by obtain⟨hk,he⟩:=fu.1 h;rw[List.drop_eq_getElem_cons hk,he];rfl):q:=f
theorem alN{q:Prop}(f:q:=by
 obtain⟨ds,rX,e,hs⟩:=hs.told;show LeavesInM _ _ _ _ _ _ a.defers _ _
 rw[e];exact vk (λrX tmps w h=>hl rX tmps w h) ds rX a.tmps w hs):q:=f
theorem alO{q:Prop}(f:q:=by exact⟨_,u7 (fu.1 ho).1,.inr ⟨.inl ⟨by omega,eT _⟩,.inl ⟨by omega,eT _⟩⟩⟩):q:=f
theorem alP{q:Prop}(f:q:=by refine⟨ents,jr,h5,?_,?_⟩;simpa[kn,Function.comp_def]using h6;have:=h7.map' f hf;simpa[kn,Function.comp_def]using this):q:=f
theorem alQ{q:Prop}(f:q:=by obtain⟨k,hk,mE⟩:=yo.1 hx;exact Ft k x Ew (afE k hk) mE (λ⟨h1,h2⟩=>by have:=rB i aD;omega)):q:=f
theorem alR{q:Prop}(f:q:=by exact⟨jB.refl _,jB.refl _,⟨.refl _,.refl _,bJ.int (by first|rfl|exact Bf.symm),.refl _,trivial⟩,jB.refl _,trivial⟩):q:=f
theorem alS{q:Prop}(f:q:=by refine⟨?_,hQ E objs a w hd hs⟩;apply ahx.2;intro i hi;obtain⟨h1,h2,_⟩:=mem_ready.1 hi;simp_all):q:=f
theorem alT{q:Prop}(f:q:=by obtain⟨n,w',h'⟩:=ih (c9 x.g.c x.sh x.id r) b f w1 aq (by rw[dF];omega);exact⟨_,_,.Ho h4 h ho h'⟩):q:=f
theorem alU{q:Prop}(f:q:=by exact⟨⟨_,_,_,rfl⟩,_,u7 fE,λsz s x ob h=>by cases h;exact⟨eT _,λ_=>rfl⟩⟩):q:=f
theorem alV{q:Prop}(f:q:=by obtain⟨n,w',h'⟩:=ih r b' f' (w.said tx) (by unfold Wo.said Wo.see;split<;>exact hc) hr;exact⟨_,_,.yes h2 h h'⟩):q:=f
theorem alW{q:Prop}(f:q:=by exact⟨jB.refl _,⟨.refl _,.refl _,bJ.int (by first|rfl|exact Bf.symm),.refl _,trivial⟩,jB.refl _,trivial⟩):q:=f
theorem ahH{q:Prop}(f:q:=by exact⟨V',λp hp=>g1 p (.inl hp),λp hp=>by grind,g3⟩):q:=f
theorem alX{q:Prop}(f:q:=by exact⟨⟨hU.chain,hU.mI,by simp,λp hp=>(by cases hp),hU.sb,hU.V1,hU.vb,by simp⟩,[],by simp⟩):q:=f
theorem alY{q:Prop}(f:q:=by
 obtain⟨z,hz,h4⟩:=hgr i y hy;rcases h4 with rfl|⟨h4,_⟩
 rw[hy,hz];exact absurd h4 (no _ _)):q:=f
theorem alZ{q:Prop}(f:q:=by exact⟨λe=>ir,λe=>⟨gr,al0 _ _ hv hp hk gw,al1 _ ⟨_,rfl⟩,h.fa,h.sa⟩⟩):q:=f
theorem al2{q:Prop}(f:q:=by obtain⟨h1,h2⟩:=hk;simp only[Ac,bodyPostM,h2,LeavesInM,LeavesIn]at h1;exact⟨h2,h1⟩):q:=f
theorem al3{q:Prop}(f:q:=by obtain⟨m',rfl⟩:∃m',m=m'+1:=⟨m-1,by have:=(wH h3).1;omega⟩;simp_all):q:=f
theorem al4{q:Prop}(f:q:=by obtain⟨cs,h1,h2⟩:=hx;exact⟨cs,h1,tu (λx v y h1 h2=>ih h1 h2) h2 hl⟩):q:=f
theorem al5{q:Prop}(f:q:=by obtain⟨h1,h2,_⟩:=mem_ready.1 hi;exact absurd ((hR i).2 ⟨h1,h2⟩) aD):q:=f
theorem al6{q:Prop}(f:q:=by obtain⟨n,w',h'⟩:=ih r b f w1 aq hr;exact⟨_,_,.wI h5 h ho h'⟩):q:=f
theorem al7{q:Prop}(f:q:=by obtain⟨cs,h1,h2⟩:=hx;exact⟨cs,h1,h2.map' _ λx v h=>ih nz x v h⟩):q:=f
theorem al8{q:Prop}(f:q:=by exact⟨hk.1,hk.1 _ _ _ _ _ _ cZ (λ_ _=>rfl) bF hk.2⟩):q:=f
theorem al9{q:Prop}(f:q:=by
 refine⟨φ,V0,λb hb=>.inr hb,λt=>?_,by simp[Bw,Ko];omega,.none rfl ⟨λ_=>rfl,.nil,by simp⟩,⟨eT _,rfl,rfl,rfl,λ_ _ _=>rfl,λi l I B h=>⟨B,h⟩,.refl _⟩⟩;rw[wJ];simp only[Xa,if_false,TE];cases ha:args[t]? with
 |none=>simp[RV]
 |some x=>exact mB8):q:=f
end ax
namespace ax
open Go
inductive D where
 |v (x:Value)
 |sl (aa:List (List D))
 |bL (cells:List D)
 |map (es:List (Value×D))
inductive AV where
 |any
 |tt
 |ff
 |d (x:D)
 |fs (aa:List (List D))
 |agg (l:List AV)
 |lo (i off:Nat)
 |el (i s r j:Nat)
 |vw (i s r:Nat)
 |ow (i s:Nat)
 |mp (i:Nat)
 |cP (l:List AV)
 |b9 (f:Nat) (first ack:List AV)
 |yl (i:Nat)
inductive Ob where
 |box (l:List AV)
 |arr (sz s:Nat) (aa:List (List D))
 |map (es:List (Value×AV))
 |Ju (n:Nat)
 |Jv (hs:List (Nat×Nat×Nat)) (aa:List (List D))
 |Jw (s:ByteArray) (pos:Nat)
 |dead
 |gZ (T:Nat) (l:List AV)
 |qG (e s:Nat) (bs:List UInt8)
 |uj (es:List (Value×AV))
structure YP where
 ys:List (List AV)
 go:Nat->Bool
inductive Sh where
 |one
 |int (k:IntKind)
 |bool
 |str
 |struct (jN:List (Nat×Nat))
 |array (n e:Nat)
 |slice (e:Nat)
 |map (k e:Nat)
structure Ty where
 size:Nat
 bytes:Nat
 zero:List Value
 sh:Sh
def Ty.agg (t:Ty):Bool:=match t.sh with| .struct _=>true| .array _ _=>true|_=>false
abbrev bq:=List (Nat×AV)
def lk:bq->Nat->AV|[],_=>.any|(k,v)::r,t=>bif Nat.beq k t then v else lk r t
def rm:bq->Nat->bq|[],_=>[]|(k,v)::r,t=>bif Nat.beq k t then rm r t else(k,v)::rm r t
def put (E:bq)(t:Nat)(v:AV):bq:=(t,v)::rm E t
def dq {α:Type}:List α->Nat->Option α|[],_=>none|x::r,i=>bif Nat.beq i 0 then some x else dq r (Nat.pred i)
def dj {α:Type}:List α->Nat->α->List α|[],_,_=>[]|x::r,i,y=>bif Nat.beq i 0 then y::r else x::dj r (Nat.pred i) y
def len {α:Type}:List α->Nat|[]=>0|_::r=>Nat.succ (len r)
def lZ:Value->AV| .bool true=>.tt| .bool false=>.ff| .agg cs=>.agg (cs.toList.map λx=>.d (.v x))|v=>.d (.v v)
def ev (E:bq):Operand->AV| .tmp t=>lk E t| .const v=>lZ v| .func f=>.b9 f [] []| .global _=>.any
def iV (n:Int):AV:=.d (.v (.int .i64 n))
def bV (b:Bool):AV:=.d (.v (.bool b))
def pD:AV->Bool| .any=>false| .agg _=>false| .cP _=>false| .d (.v (.agg _))=>false| .d (.v (.tuple _))=>false|_=>true
def Xw:List AV->Bool|[]=>true|x::r=>bif pD x then Xw r else false
def gn:AV->Option (List AV)| .agg l=>bif Xw l then some l else none|x=>bif pD x then some [x]else none
def yt:List AV->Option (List D)
 |[]=>some []
 | .d x::r=>match yt r with|some l=>some (x::l)|none=>none
 | .tt::r=>match yt r with|some l=>some (.v (.bool true)::l)|none=>none
 | .ff::r=>match yt r with|some l=>some (.v (.bool false)::l)|none=>none
 | .fs aa::r=>match yt r with|some l=>some (.sl aa::l)|none=>none
 |_=>none
def kJ (t:Ty)(l:List AV)(off:Nat):Option AV :=
 match t.agg with
 | true=>let x:=(l.drop off).take t.size
      bif Nat.beq (len x) t.size then some (.agg x)else none
 |false=>dq l off
def gL:List AV->Nat->List AV->List AV|l,_,[]=>l|l,off,x::r=>gL (dj l off x) (Nat.succ off) r
def kY:List (Nat×AV)->Nat->Nat->Option (List (List D))
 |[],_,_=>some []
 | (i,x)::r,k,sz=>bif Nat.beq i k then
   match gn x with
   |none=>none
   |some l=>match yt l with
   |some row=>bif Nat.beq (len row) sz then(match kY r (Nat.succ k) sz with|some l=>some (row::l)|none=>none)else none
   |none=>none
  else none
def Bx (ty:Nat->Option Ty) (jN:List (Nat×Nat)):List (Nat×AV)->List AV->Option (List AV)
 |[],cs=>some cs
 |(i,x)::r,cs=>
  match dq jN i with
  |some (off,t)=>match ty t with
   |some τ=>match gn x with
    |some l=>bif Nat.beq (len l) τ.size then(bif Nat.ble (Nat.add off τ.size) (len cs)then Bx ty jN r (gL cs off l)else none)else none
    |none=>none
   |none=>none
  |none=>none
def Kp (sh:Sh) (objs:List Ob):AV->Option Int
 | .d (.sl aa)=>match sh with| .slice _=>some aa.length|_=>none
 | .d (.v (.slice none 0 0))=>match sh with| .slice _=>some 0|_=>none
 | .d (.v (.string s))=>match sh with| .str=>some s.size|_=>none
 | .fs aa=>match sh with| .slice _=>some aa.length|_=>none
 | .ow i s=>match sh with
  | .slice _=>match dq objs i with
   |some (.arr _ s' aa)=>bif Nat.beq s s' then some aa.length else none
   |_=>none
  |_=>none
 | .mp i=>match sh with
  | .map _ _=>match dq objs i with
   |some (.map es)=>some es.length
   |_=>none
  |_=>none
 |_=>none
def NR (sh:Sh)(objs:List Ob)(v:AV):Option Int :=
 match v with
 | .ow _ _=>none
 |v=>Kp sh objs v
theorem ahI {sh:Sh}{objs:List Ob}{v:AV}{n:Int}(h:NR sh objs v=some n):Kp sh objs v=some n:=by cases v<;>first|(simp[NR]at h;done)|exact h
def kEq:IntKind->IntKind->Bool| .i64,.i64=>true| .u8,.u8=>true| .i32,.i32=>true| .u64,.u64=>true| .u16,.u16=>true| .u32,.u32=>true| .i8,.i8=>true| .i16,.i16=>true|_,_=>false
def aX (a b:ByteArray):Bool:=a.toList==b.toList
def boA:AV->Option Bool| .tt=>some true| .ff=>some false| .d (.v (.bool b))=>some b|_=>none
def ama (k:IntKind) (a b:Int):BinOp->Option AV| .eql=>some (bV (a==b))| .neq=>some (bV (a != b))| .lss=>some (bV (decide (a<b)))| .leq=>some (bV (decide (a<=b)))| .gtr=>some (bV (decide (a > b)))| .geq=>some (bV (decide (a ≥ b)))| .add=>some (.d (.v (.int k (k.wrap (a+b)))))| .sub=>some (.d (.v (.int k (k.wrap (a-b)))))| .mul=>some (.d (.v (.int k (k.wrap (a*b)))))|_=>none
def acm (a b:ByteArray):BinOp->Option AV| .eql=>some (bV (aX a b))| .neq=>some (bV (!aX a b))| .lss=>some (bV (Op.bytesLess a.toList b.toList))| .leq=>some (bV (Op.bytesLess a.toList b.toList||aX a b))| .gtr=>some (bV (!(Op.bytesLess a.toList b.toList||aX a b)))| .geq=>some (bV (!Op.bytesLess a.toList b.toList))|_=>none
def amc (a b:Bool):BinOp->Option AV| .eql=>some (bV (a==b))| .neq=>some (bV (!(a==b)))|_=>none
def isB (ty:Nat->Option Ty)(T:Nat):Bool :=
 match ty T with
 |some ⟨_,_,_,.bool⟩=>true
 |_=>false
def Xx (tb:Bool)(op:BinOp)(x y:AV):Option AV :=
 match x,y with
 | .d (.v (.int k a)),.d (.v (.int k' b))=>bif kEq k k' then ama k a b op else none
 | .d (.v (.string a)),.d (.v (.string b))=>acm a b op
 |a,b=>match boA a,boA b with
  |some x,some y=>bif tb then amc x y op else none
  |_,_=>none
def Xy:AV->AV->AV->Option AV| .tt,a,_=>some a| .ff,_,b=>some b|_,_,_=>none
def cS (ty:Nat->Option Ty) (ρ:Operand->AV):Op->Option AV
 | .move x=>some (ρ x)
 | .assign x=>some (ρ x)
 | .pick c a b=>Xy (ρ c) (ρ a) (ρ b)
 | .fieldAddr T x f=>match ty T with
  |some ⟨_,_,_,.struct jN⟩=>match dq jN f with
   |some (off,_)=>match ρ x with
    | .lo i o=>some (.lo i (o+off))
    | .el i s r j=>some (.el i s r (j+off))
    | .d (.bL l)=>some (.d (.bL (l.drop off)))
    |_=>none
   |none=>none
  |_=>none
 | .field T x f=>match ty T with
  |some ⟨_,_,_,.struct jN⟩=>match dq jN f with
   |some (off,t)=>match ty t,ρ x with
    |some τ,.agg l=>kJ τ l off
    |_,_=>none
   |none=>none
  |_=>none
 | .binOp op T x y _=>Xx (isB ty T) op (ρ x) (ρ y)
 | .unOp op _ x=>match op,ρ x with
  | .not,.tt=>some .ff
  | .not,.ff=>some .tt
  | .not,.d (.v (.bool b))=>some (bV (!b))
  | .neg,.d (.v (.int k n))=>some (.d (.v (.int k (k.wrap (0-n)))))
  |_,_=>none
 | .nilCheck x=>match ρ x with
  | .lo i o=>some (.lo i o)
  | .el i s r j=>some (.el i s r j)
  | .d (.bL l)=>some (.d (.bL l))
  | .b9 f a c=>some (.b9 f a c)
  |_=>none
 | .convert S D x=>match ty S with
  |some _=>match ty D,ρ x with
   |some ⟨_,_,_,.int k⟩,.d (.v (.int _ n))=>some (.d (.v (.int k (k.wrap n))))
   |some ⟨_,_,_,.str⟩,.d (.v (.string s))=>some (.d (.v (.string s)))
   |_,_=>none
  |none=>none
 | .makeFunc (.func f) first ack=>some (.b9 f (first.toList.map ρ) (ack.toList.map ρ))
 | .extract x k=>match ρ x with
  | .cP l=>dq l k
  |_=>none
 | .buildSlice T n parts=>match ty T with
  |some ⟨_,_,_,.slice e⟩=>match ty e with
   |some τ=>match kY (parts.toList.map λp=>(p.1,ρ p.2)) 0 τ.size with
    |some aa=>bif Nat.beq (len aa) n then(bif Nat.ble (Nat.mul n τ.size) 100000 then(bif Nat.ble n 100000 then some (.fs aa)else none)else none)else none
    |none=>none
   |none=>none
  |_=>none
 | .build T parts=>match ty T with
  |some ⟨_,_,z,.struct jN⟩=>match Bx ty jN (parts.toList.map λp=>(p.1,ρ p.2)) (z.map λx=>.d (.v x))with
   |some cs=>some (.agg cs)
   |none=>none
  |_=>none
 |_=>none
def fc (ty:Nat->Option Ty) (ρ:Operand->AV) (objs:List Ob):Op->Option AV
 | .load T a=>match ty T with
  |some τ=>match ρ a with
   | .lo i off=>match dq objs i with
    |some (.box l)=>kJ τ l off
    |_=>none
   | .d (.bL l)=>kJ τ (l.map .d) 0
   |_=>none
  |none=>none
 | .call {callee:=.builtin .len,args,argTypes}=>match args.toList,argTypes.toList with
  |[x],[t]=>match ty t with
   |some τ=>match NR τ.sh objs (ρ x)with|some n=>some (iV n)|none=>none
   |none=>none
  |_,_=>none
 |_=>none
def iL (ty:Nat->Option Ty) (ρ:Operand->AV) (objs:List Ob):Op->Option (AV×List Ob)
 | .alloc T=>match ty T with
  |some τ=>some (.lo (len objs) 0,objs++[.box (τ.zero.map λx=>.d (.v x))])
  |none=>none
 | .box T x=>match ty T with
  |some τ=>match gn (ρ x)with
   |some l=>bif Nat.beq (len l) τ.size then some (.lo (len objs) 0,objs++[.box l])else none
   |none=>none
  |none=>none
 | .store T a x=>match ty T with
  |some τ=>match gn (ρ x)with
   |some new=>bif Nat.beq (len new) τ.size then(match ρ a with
    | .lo i off=>match dq objs i with
     |some (.box l)=>bif Nat.ble (Nat.add off τ.size) (len l)then some (.any,dj objs i (.box (gL l off new)))else none
     |_=>none
    |_=>none)else none
   |none=>none
  |none=>none
 |_=>none
def dk (ty:Nat->Option Ty)(ρ:Operand->AV)(objs:List Ob)(o:Op):Option (AV×List Ob) :=
 match cS ty ρ o with
 |some v=>some (v,objs)
 |none=>match fc ty ρ objs o with
  |some v=>some (v,objs)
  |none=>iL ty ρ objs o
def Jx {α β:Type}(l:List α)(f:α->(α->β)->β)(k:List α->β):β :=
 match l with
 |[]=>k []
 |x::r=>f x λx'=>Jx r f λr'=>k (x'::r')
def nfV {β:Type}(v:AV)(k:AV->β):β :=
 match v with
 | .any=>k .any
 | .tt=>k .tt
 | .ff=>k .ff
 | .d (.v (.int q n))=>k (.d (.v (.int q n)))
 | .d (.v (.bool b))=>k (.d (.v (.bool b)))
 | .d (.v x)=>k (.d (.v x))
 | .d (.sl aa)=>k (.d (.sl aa))
 | .d (.bL l)=>Jx l (λx f=>f x) λl'=>k (.d (.bL l'))
 | .d (.map es)=>k (.d (.map es))
 | .fs aa=>Jx aa (λr f=>Jx r (λx g=>g x) f) λrows'=>k (.fs rows')
 | .agg l=>Jx l (λx f=>f x) λl'=>k (.agg l')
 | .lo i o=>k (.lo i o)
 | .el i s r j=>k (.el i s r j)
 | .vw i s r=>k (.vw i s r)
 | .ow i s=>k (.ow i s)
 | .mp i=>k (.mp i)
 | .cP l=>Jx l (λx f=>f x) λl'=>k (.cP l')
 | .b9 g a c=>Jx a (λx f=>f x) λa'=>Jx c (λx f=>f x) λc'=>k (.b9 g a' c')
 | .yl i=>k (.yl i)
def nfO {β:Type}(o:Ob)(k:Ob->β):β :=
 match o with
 | .box l=>Jx l (λx f=>f x) λl'=>k (.box l')
 | .arr sz s aa=>k (.arr sz s aa)
 | .map es=>k (.map es)
 | .Ju pre=>k (.Ju pre)
 | .Jv hs aa=>k (.Jv hs aa)
 | .Jw s pos=>k (.Jw s pos)
 | .dead=>k .dead
 | .gZ T l=>Jx l (λx f=>f x) λl'=>k (.gZ T l')
 | .qG e s bs=>k (.qG e s bs)
 | .uj es=>k (.uj es)
def nfE {β:Type}(E:bq)(k:bq->β):β:=Jx E (λx f=>f x) k
def aH (ad:List Oper) (E:bq):Option (Nat×Bool)->Option Bool
 |none=>some true
 |some (j,want)=>match dq ad j with
  |some o=>match o.dst with
   |some d=>match lk E d with
    | .tt=>some want
    | .ff=>some (!want)
    | .cP []=>some false
    |_=>none
   |none=>none
  |none=>none
structure Ctx where
 ty:Nat->Option Ty
 N:Nat
def aQ (c:Ctx):Option Nat->Bool|none=>true|some d=>Nat.ble (Nat.succ d) c.N
def bh (E:bq):Option Nat->AV->bq|none,_=>E|some d,v=>put E d v
def held (l4:Nat->Bool):Op->Bool
 | .load _ (.tmp t)=>l4 t
 | .store _ (.tmp t) _=>l4 (Nat.add 100000 t)
 | .call {callee:=.builtin .len,args,.. }=>match args.toList with
  |[.tmp t]=>l4 (Nat.add 200000 t)
  |_=>false
 | .buildSlice .. => l4 800000000
 |_=>false
def yu (c:Ctx) (l4:Nat->Bool) (all:List Oper):List Oper->bq->List Ob->List Oper×bq×List Ob
 |[],E,objs=>([],E,objs)
 |o::r,E,objs=>
  match aH all E o.guard with
  | some true=>bif held l4 o.op then(o::r,E,objs)else
   match dk c.ty (ev E) objs o.op with
   | some (v,objs')=>bif aQ c o.dst then
     nfV v λv'=>Jx objs' nfO λahJ=>nfE (bh E o.dst v') λE'=>yu c l4 all r E' ahJ
    else(o::r,E,objs)
   |none=>(o::r,E,objs)
  |some false=>bif aQ c o.dst then nfE (bh E o.dst (.cP [])) λE'=>yu c l4 all r E' objs else(o::r,E,objs)
  |none=>(o::r,E,objs)
inductive It where
 |code (c:Code)
 |jK (id:Nat)
 |mark (M:bq->List Ob->Prop)
 |dr (ad:Array Oper) (az:List Oper)
inductive Cfg where
 |mk (k:List It) (E:bq) (objs:List Ob)
 |bad
def iM (id:Nat):List It->Option (List It)| .jK j::k=>bif Nat.beq j id then some k else iM id k| .code _::k=>iM id k| .mark _::k=>iM id k|_=>none
def km (c:Ctx) (l4:Nat->Bool):Nat->List It->bq->List Ob->Cfg
 |0,k,E,objs=>.mk k E objs
 |n+1,.dr ad az::k,E,objs=>
  match yu c l4 ad.toList az E objs with
  |([],E',objs')=>km c l4 n k E' objs'
  |(r,E',objs')=>.mk (.dr ad r::k) E' objs'
 |n+1,.code (.seq a b)::k,E,objs=>km c l4 n (.code a :: .code b::k) E objs
 |n+1,.code .skip::k,E,objs=>km c l4 n k E objs
 |n+1,.code (.block id b)::k,E,objs=>km c l4 n (.code b :: .jK id::k) E objs
 |n+1,.jK _::k,E,objs=>km c l4 n k E objs
 |n+1,.code (.exit id)::k,E,objs=>match iM id k with
  |some k'=>km c l4 n k' E objs
  |none=>.mk (.code (.exit id)::k) E objs
 |n+1,.code (.cond x a b)::k,E,objs=>match ev E x with
  | .tt=>km c l4 n (.code a::k) E objs
  | .ff=>km c l4 n (.code b::k) E objs
  |_=>.mk (.code (.cond x a b)::k) E objs
 |n+1,.code (.region id ad dr)::k,E,objs=>bif l4 (Nat.add 900000000 id)then .mk (.code (.region id ad dr)::k) E objs else km c l4 n (.dr ad ad.toList::k) E objs
 |_+1,k,E,objs=>.mk k E objs
end ax
namespace ax
open Go
inductive Rd (S:Nat->Prop) (w:World):D->Value->Prop
 |v (x:Value):Rd S w (.v x) x
 |nil (a:Option Addr) (c:Nat):Rd S w (.sl []) (.slice a 0 c)
 | sl {aa:List (List D)} {b o cap sz:Nat} {cs:Array Value} {T:Nat} {fr:Nat×Nat} (g:Nat->Nat->Value)
   (hS:S b) (hb:w.heap[b]? = some (.cells cs T fr)) (hl:aa.length<=cap) (hc:cap<=maxLen)
   (hsz:∀(i:Nat) (r:List D),aa[i]? = some r->r.length=sz)
   (hg:∀(i:Nat) (r:List D) (j:Nat) (x:D),aa[i]? = some r->r[j]? = some x->cs[o+i*sz+j]? = some (g i j))
   (hr:∀(i:Nat) (r:List D) (j:Nat) (x:D),aa[i]? = some r->r[j]? = some x->Rd S w x (g i j)) :
   Rd S w (.sl aa) (.slice (some ⟨b,o,none⟩) aa.length cap)
 | bL {l:List D} {b o:Nat} {cs:Array Value} {T:Nat} {fr:Nat×Nat} (g:Nat->Value)
   (hS:S b) (hb:w.heap[b]? = some (.cells cs T fr))
   (hg:∀(j:Nat) (x:D),l[j]? = some x->cs[o+j]? = some (g j))
   (hr:∀(j:Nat) (x:D),l[j]? = some x->Rd S w x (g j)) :
   Rd S w (.bL l) (.pointer (some ⟨b,o,none⟩))
 | map {es:List (Value×D)} {b jr:Nat} {ents:Array MapEntry} (g:Nat->Value)
   (hS:S b) (hb:w.heap[b]? = some (.map ents jr)) (hk:es.map (·.1)=ents.toList.map (·.key))
   (hg:∀(i:Nat) (x:Value×D),es[i]? = some x->(ents[i]?).map (·.val)=some (g i))
   (hr:∀(i:Nat) (x:Value×D),es[i]? = some x->Rd S w x.2 (g i)) :
   Rd S w (.map es) (.map (some b))
def Re:Obj->Prop| .cells _ _ _=>True| .map _ _=>True|_=>False
def dL (S:Nat->Prop)(w:World)(S':Nat->Prop)(w':World):Prop :=∀b,S b->(∃o,w.heap[b]? = some o/\Re o)->S' b/\w'.heap[b]? = w.heap[b]?
theorem dL.of {S S':Nat->Prop}{w w':World}(h:∀b,S b->b<w.heap.size->S' b/\w'.heap[b]? = w.heap[b]?):dL S w S' w' :=λb hb ⟨_,hc,_⟩=>h b hb (Ab.1 hc).1
theorem dL.refl (S:Nat->Prop)(w:World):dL S w S w:=λ_ h _=>⟨h,rfl⟩
theorem NS {w:World}{b:Nat}{o:Obj}(h:w.heap[b]? = some o):b<w.heap.size :=(Ab.1 h).1
theorem Rd.mono {S S':Nat->Prop}{w w':World}(hk:dL S w S' w'){x:D}{v:Value}(h:Rd S w x v):Rd S' w' x v:=by
 induction h with
 |v x=>exact .v x
 |nil a c=>exact .nil a c
 |sl g hS hb hl hc hsz hg _ ih=>obtain⟨h1,h2⟩:=hk _ hS ⟨_,hb,trivial⟩;exact .sl g h1 (h2.trans hb) hl hc hsz hg ih
 |bL g hS hb hg _ ih=>obtain⟨h1,h2⟩:=hk _ hS ⟨_,hb,trivial⟩;exact .bL g h1 (h2.trans hb) hg ih
 |map g hS hb NT hg _ ih=>obtain⟨h1,h2⟩:=hk _ hS ⟨_,hb,trivial⟩;exact .map g h1 (h2.trans hb) NT hg ih
inductive bI where
 |jK (b:Nat)
 |o8 (sz s:Nat) (v:Value) (ob:Option Nat)
 |ext (l:Nat) (I:Nat->(Nat->Prop)->(Nat->Prop)->World->Prop) (B:Nat->Prop)
 |Jv (bs:List Nat)
 |no
def bI.bl:bI->Nat->Prop| .jK b,c=>b=c| .o8 _ _ _ ob,c=>ob=some c| .ext _ _ B,c=>B c| .Jv bs,c=>c∈bs| .no,_=>False
mutual
def RV (S:Nat->Prop) (w:World) (φ:List bI):AV->Value->Prop
 | .any,_=>True
 | .tt,v=>v=.bool true
 | .ff,v=>v=.bool false
 | .d x,v=>Rd S w x v
 | .fs aa,v=>Rd S w (.sl aa) v/\∃a,v=.slice a aa.length aa.length
 | .agg l,v=>∃cs:List Value,v=.agg cs.toArray/\aW S w φ l cs
 | .lo i off,v=>∃b,φ[i]? = some (.jK b)/\v=.pointer (some ⟨b,off,none⟩)
 | .el i t r j,v=>(∃b o,v=.pointer (some ⟨b,o,none⟩))/\∃ph,φ[i]? = some ph/\∀sz s x ob,ph=.o8 sz s x ob->t<=s /\
   (t=s->∃b o n cap,x=.slice (some ⟨b,o,none⟩) n cap/\v=.pointer (some ⟨b,o+r*sz+j,none⟩))
 | .vw i t r,v=>(∃p n c,v=.slice p n c)/\∃ph,φ[i]? = some ph/\∀sz s x ob,ph=.o8 sz s x ob->t<=s /\
   (t=s->∃a n cap p c,x=.slice a n cap/\v=.slice p (n-r) c/\(r<n->∃b o,a=some ⟨b,o,none⟩/\p=some ⟨b,o+r*sz,none⟩))
 | .ow i t,v=>(∃p n c,v=.slice p n c)/\∃ph,φ[i]? = some ph/\∀sz s x ob,ph=.o8 sz s x ob->t<=s/\(t=s->v=x)
 | .mp i,v=>∃b,φ[i]? = some (.jK b)/\v=.map (some b)
 | .cP l,v=>∃vs:List Value,v=.tuple vs.toArray/\aW S w φ l vs
 | .b9 f a c,v=>∃va vc:List Value,v=.func (.func f) va.toArray vc.toArray/\aW S w φ a va/\aW S w φ c vc
 | .yl i,v=>∃l I B,φ[i]? = some (.ext l I B)/\v=.func (.yield l) #[] #[]
def aW (S:Nat->Prop) (w:World) (φ:List bI):List AV->List Value->Prop|[],[]=>True|a::l,v::vs=>RV S w φ a v/\aW S w φ l vs|_,_=>False
end
def TO (p p':bI):Prop :=p'=p\/(∃sz s x ob Nn s' x' pO,p=.o8 sz s x ob/\p'=.o8 Nn s' x' pO/\s<s')\/(∃sz s x ob,p=.o8 sz s x ob/\p'=.no)\/(∃l I B B',p=.ext l I B/\p'=.ext l I B')\/(∃bs bs',p=.Jv bs/\p'=.Jv bs')
def kc (φ φ':List bI):Prop:=∀(i:Nat) (p:bI),φ[i]? = some p->∃p',φ'[i]? = some p'/\TO p p'
theorem TO.trans {p q r:bI}(h:TO p q)(k:TO q r):TO p r:=by
 rcases h with rfl|⟨sz,s,x,ob,Nn,s',x',pO,rfl,rfl,h⟩|⟨sz,s,x,ob,rfl,rfl⟩|⟨l,I,B,B',rfl,rfl⟩|⟨bs,bs',rfl,rfl⟩
 exact k;rcases k with rfl| ⟨Jy,s2,x2,Hp,sz3,s3,x3,ob3,e1,rfl,h2⟩| ⟨Jy,s2,x2,Hp,e1,rfl⟩| ⟨l,I,B,B',e1,_⟩| ⟨bs,bs',e1,_⟩
 exact .inr (.inl ⟨_,_,_,_,_,_,_,_,rfl,rfl,h⟩);cases e1;exact .inr (.inl ⟨_,_,_,_,_,_,_,_,rfl,rfl,Nat.lt_trans h h2⟩);exact .inr (.inr (.inl ⟨_,_,_,_,rfl,rfl⟩));cases e1;cases e1;rcases k with rfl| ⟨Jy,s2,x2,Hp,sz3,s3,x3,ob3,e1,_,_⟩| ⟨Jy,s2,x2,Hp,e1,_⟩| ⟨l,I,B,B',e1,_⟩| ⟨bs,bs',e1,_⟩
 exact .inr (.inr (.inl ⟨_,_,_,_,rfl,rfl⟩));cases e1;cases e1;cases e1;cases e1;rcases k with rfl| ⟨Jy,s2,x2,Hp,sz3,s3,x3,ob3,e1,_,_⟩| ⟨Jy,s2,x2,Hp,e1,_⟩| ⟨l2,I2,B2,B3,e1,rfl⟩| ⟨bs,bs',e1,_⟩
 exact .inr (.inr (.inr (.inl ⟨_,_,_,_,rfl,rfl⟩)));cases e1;cases e1;cases e1;exact .inr (.inr (.inr (.inl ⟨_,_,_,_,rfl,rfl⟩)));cases e1;rcases k with rfl| ⟨Jy,s2,x2,Hp,sz3,s3,x3,ob3,e1,_,_⟩| ⟨Jy,s2,x2,Hp,e1,_⟩| ⟨l2,I2,B2,B3,e1,rfl⟩| ⟨bs2,bs3,e1,rfl⟩
 exact .inr (.inr (.inr (.inr ⟨_,_,rfl,rfl⟩)));cases e1;cases e1;cases e1;exact .inr (.inr (.inr (.inr ⟨_,_,rfl,rfl⟩)))
theorem kc.trans {φ ψ χ:List bI}(h:kc φ ψ)(k:kc ψ χ):kc φ χ:=λi p hi=>
 let ⟨_,h1,h2⟩:=h i p hi;let ⟨r,h3,h4⟩:=k i _ h1
 ⟨r,h3,h2.trans h4⟩
theorem kc.refl (φ:List bI):kc φ φ:=λ_ p h=>⟨p,h,.inl rfl⟩
theorem kc.app (φ ψ:List bI):kc φ (φ++ψ):=λi p h=>⟨p,by grind,.inl rfl⟩
section
variable {S S':Nat->Prop} {w w':World} {φ φ':List bI}
mutual
theorem RV.mono (hk:dL S w S' w')(hp:kc φ φ'):∀{x:AV} {v:Value},RV S w φ x v->RV S' w' φ' x v
 | .any,_,_=>by simp[RV]
 | .tt,_,h=>by simpa[RV]using h
 | .ff,_,h=>by simpa[RV]using h
 | .d x,v,h=>by simp only[RV]at h ⊢;exact h.mono hk
 | .fs aa,v,h=>by simp only[RV]at h ⊢;exact⟨h.1.mono hk,h.2⟩
 | .agg l,v,h=>by simp only[RV]at h ⊢;obtain⟨cs,h1,h2⟩:=h;exact⟨cs,h1,aW.mono hk hp h2⟩
 | .lo i off,v,h=>by simp only[RV]at h ⊢;exact alH
 | .el i t r j,v,h=>by simp only[RV]at h ⊢;exact mB7
 | .vw i t r,v,h=>by simp only[RV]at h ⊢;exact mB7
 | .ow i t,v,h=>by simp only[RV]at h ⊢;exact mB7
 | .mp i,v,h=>by simp only[RV]at h ⊢;exact alH
 | .cP l,v,h=>by simp only[RV]at h ⊢;obtain⟨cs,h1,h2⟩:=h;exact⟨cs,h1,aW.mono hk hp h2⟩
 | .b9 f a c,v,h=>by simp only[RV]at h ⊢;obtain⟨va,vc,h1,h2,h3⟩:=h;exact⟨va,vc,h1,aW.mono hk hp h2,aW.mono hk hp h3⟩
 | .yl i,v,h=>by
  simp only[RV]at h ⊢;obtain⟨l,I,B,h1,h2⟩:=h;obtain⟨p',h3,h4⟩:=hp _ _ h1;rcases h4 with rfl|⟨sz,s,x,ob,Nn,s',x',pO,h5,_⟩|⟨sz,s,x,ob,h5,_⟩|⟨l0,I0,B0,B0',h5,h6⟩|⟨bs0,alx,h5,_⟩
  simp_all;cases h5;cases h5;simp_all;cases h5
theorem aW.mono (hk:dL S w S' w')(hp:kc φ φ'):∀{l:List AV} {vs:List Value},aW S w φ l vs->aW S' w' φ' l vs|[],[],_=>by simp[aW]|[],_::_,h=>by simp[aW]at h|_::_,[],h=>by simp[aW]at h|a::l,v::vs,h=>by simp only[aW]at h ⊢;exact⟨RV.mono hk hp h.1,aW.mono hk hp h.2⟩
end
end
section
variable {S:Nat->Prop} {w:World} {φ:List bI}
theorem aW.length:∀{l:List AV} {vs:List Value},aW S w φ l vs->l.length=vs.length|[],[],_=>rfl|[],_::_,h=>by simp[aW]at h|_::_,[],h=>by simp[aW]at h|_::_,_::_,h=>by simp only[aW]at h;simp[h.2.length]
theorem aW.get:∀{l:List AV} {vs:List Value} (i:Nat) {x:AV},aW S w φ l vs->l[i]? = some x->∃v,vs[i]? = some v/\RV S w φ x v|[],[],_,_,_,h=>by simp at h|[],_::_,_,_,h,_=>by simp[aW]at h|_::_,[],_,_,h,_=>by simp[aW]at h|a::l,v::vs,0,x,h,hx=>by simp only[aW]at h;simp_all|a::l,v::vs,i+1,x,h,hx=>by simp only[aW]at h;simp at hx;simpa using h.2.get i hx
theorem aW.append:∀{l l':List AV} {vs vs':List Value},aW S w φ l vs->aW S w φ l' vs'->aW S w φ (l++l') (vs++vs')|[],_,[],_,_,h=>by simpa using h|[],_,_::_,_,h,_=>by simp[aW]at h|_::_,_,[],_,h,_=>by simp[aW]at h|a::l,_,v::vs,_,h,h'=>by simp only[aW,jo]at h ⊢;exact⟨h.1,h.2.append h'⟩
theorem aW.drop:∀{l:List AV} {vs:List Value} (n:Nat),aW S w φ l vs->aW S w φ (l.drop n) (vs.drop n)|l,vs,0,h=>by simpa using h|[],[],n+1,_=>by simp[aW]|[],_::_,_,h=>by simp[aW]at h|_::_,[],_,h=>by simp[aW]at h|_::l,_::vs,n+1,h=>by simp only[aW]at h;simpa using h.2.drop n
theorem aW.take:∀{l:List AV} {vs:List Value} (n:Nat),aW S w φ l vs->aW S w φ (l.take n) (vs.take n)|l,vs,0,_=>by simp[aW]|[],[],n+1,_=>by simp[aW]|[],_::_,_,h=>by simp[aW]at h|_::_,[],_,h=>by simp[aW]at h|_::l,_::vs,n+1,h=>by simp only[aW]at h;simp only[ahy,aW];exact⟨h.1,h.2.take n⟩
theorem aW.sv:∀{l:List AV} {vs:List Value},l.length=vs.length->(∀(i:Nat) (x:AV) (v:Value),l[i]? = some x->vs[i]? = some v->RV S w φ x v)->aW S w φ l vs|[],[],_,_=>by simp[aW]|[],_::_,h,_=>by simp at h|_::_,[],h,_=>by simp at h|a::l,v::vs,h,hg=>by simp only[aW];refine⟨hg 0 a v rfl rfl,aW.sv ln λi x v hx hv=>hg (i+1) x v (by simpa using hx) Q2⟩
theorem aW.map {α:Type}(f:α->AV)(g:α->Value):∀(l:List α),(∀x∈l,RV S w φ (f x) (g x))->aW S w φ (l.map f) (l.map g)|[],_=>by simp[aW]|x::l,h=>by simp only[bM,aW];exact⟨h x aD,aW.map f g l λy hy=>h y iS⟩
end
end ax
namespace ax
open Go Go.RowKit
variable{φ:List bI}{S0:Nat->Prop}{w w':World}{p:bI}{objs:List Ob}{b:Nat}{o:Obj}
def nC (S:Nat->Prop)(w:World)(φ:List bI)(es:List (Value×AV))(ents:List MapEntry):Prop :=es.map (·.1)=ents.map (·.key)/\aW S w φ (es.map (·.2)) (ents.map (·.val))
def ame (I:Nat->(Nat->Prop)->(Nat->Prop)->World->Prop):Prop :=∀n B R R' w w',w.heap.size<=w'.heap.size->(∀b,B b->w'.heap[b]? = w.heap[b]?)->dL R w R' w'->I n B R w->I n B R' w'
def bj (S:Nat->Prop) (w:World) (φ:List bI):bI->Ob->Prop
 | .jK b,.box l=>∃(cs:List Value) (T:Nat),w.heap[b]? = some (.cells cs.toArray T (0,0))/\aW S w φ l cs
 | .jK b,.map es=>∃(ents:Array MapEntry) (jr:Nat),w.heap[b]? = some (.map ents jr)/\nC S w φ es ents.toList
 | .o8 sz s v ob,.arr Nn s' aa=>Nn=sz/\s'=s/\(∀r∈aa,r.length=sz) /\
   ((∃a,v=.slice a 0 0/\aa=[]/\ob=none) \/
     (∃(b o cap:Nat) (cs:List Value) (T:Nat),v=.slice (some ⟨b,o,none⟩) aa.length cap/\ob=some b/\w.heap[b]? = some (.cells cs.toArray T (0,0)) /\
     aa.length<=cap/\cap<=maxLen/\o+cap*sz<=cs.length /\
     ∀(i:Nat) (r:List D) (j:Nat) (x:D),aa[i]? = some r->r[j]? = some x->∃y,cs[o+i*sz+j]? = some y/\Rd S w x y))
 | .jK b,.gZ T l=>∃cs:List Value,w.heap[b]? = some (.cells cs.toArray T (0,0))/\aW S w φ l cs
 | .o8 sz s v ob,.qG e s' bs=>sz=1/\s'=s/\ob=v.ownBlock/\w.ownsRow 0 e 1 v bs.length (bs.map λx=>Value.int .u8 x.toNat)
 | .jK b,.Jw s pos=>w.heap[b]? = some (.stringIter s pos)
 | .ext _ I B,.Ju n=>ame I/\I n B S w
 | .Jv bs,.Jv hs aa=>bs=hs.map (·.1)/\bs.Nodup/\aa.length=hs.length/\∀(i:Nat) (x:Nat×Nat×Nat) (r:List D),hs[i]? = some x->aa[i]? = some r ->
   ∃(cs:List Value) (T:Nat),w.heap[x.1]? = some (.cells cs.toArray T (0,0))/\r.length<=x.2.2/\x.2.2<=maxLen/\x.2.1+r.length<=cs.length/\∀(j:Nat) (d:D),r[j]? = some d->∃y,cs[x.2.1+j]? = some y/\Rd S w d y
 | .jK b,.uj es=>∃(ents:Array MapEntry) (jr:Nat) (Eg:List (Value×AV)),Eg.Perm es/\w.heap[b]? = some (.map ents jr)/\nC S w φ Eg ents.toList
 |_,.dead=>True
 |_,_=>False
theorem Hq{e sz n:Nat}{v:Value}{xs:List Value}(h:w.ownsRow 0 e sz v n xs)(hb:∀b,v.ownBlock=some b->w'.heap[b]? = w.heap[b]?):w'.ownsRow 0 e sz v n xs:=by
 refine⟨h.1,?_⟩;rcases h.2 with hn|⟨g,cap,cur,rfl,hbb,hgg,az⟩
 exact .inl hn;exact .inr ⟨g,cap,cur,rfl,hbb,(hb g rfl).trans hgg,az⟩
theorem bj.mono{S S':Nat->Prop}{w w':World}{φ φ':List bI}(hk:dL S w S' w')(hp:kc φ φ'){ph:bI}{ob:Ob}(hsz:w.heap.size<=w'.heap.size)
  (hb:∀b,ph.bl b->w'.heap[b]? = w.heap[b]?) (h:bj S w φ ph ob):bj S' w' φ' ph ob:=by
 cases ph<;>cases ob<;>simp only[bj]at h ⊢
 obtain ⟨cs,T,h1,h2⟩:=h;exact⟨cs,T,(hb _ rfl).trans h1,h2.mono hk hp⟩;obtain ⟨cs,T,h1,h2,h3⟩:=h;exact⟨cs,T,(hb _ rfl).trans h1,h2,h3.mono hk hp⟩;exact(hb _ rfl).trans h;obtain ⟨cs,h1,h2⟩:=h;exact⟨cs,(hb _ rfl).trans h1,h2.mono hk hp⟩;obtain ⟨cs,T,Eg,h0,h1,h2,h3⟩:=h;exact⟨cs,T,Eg,h0,(hb _ rfl).trans h1,h2,h3.mono hk hp⟩;obtain ⟨h0,No,h1,h2⟩:=h;refine⟨h0,No,h1,?_⟩;rcases h2 with h2|⟨b,o,cap,cs,T,h2,h3,h4,h5,h6,h7,h8⟩
 exact .inl h2;refine .inr ⟨b,o,cap,cs,T,h2,h3,(hb _ h3).trans h4,h5,h6,h7,λi r j x hi hj=>?_⟩;obtain⟨y,h9,mH⟩:=h8 i r j x hi hj;exact⟨y,h9,mH.mono hk⟩;obtain ⟨h1,h2,h3,h4⟩:=h;exact⟨h1,h2,h3,Hq h4 λb hbb=>hb _ (by rw[h3];exact hbb)⟩;exact⟨h.1,h.1 _ _ _ _ _ _ hsz (λb hB=>hb b hB) hk h.2⟩;obtain ⟨h0,No,h1,h2⟩:=h;refine⟨h0,No,h1,λi x r hi hr=>?_⟩;obtain⟨cs,T,h3,h4,h5,h6,h7⟩:=h2 i x r hi hr;refine⟨cs,T,(hb _ (show x.1∈_ from h0 ▸ gm.2 ⟨x,sq hi,rfl⟩)).trans h3,h4,h5,h6,λj d hd=>?_⟩;obtain⟨y,h8,h9⟩:=h7 j d hd;exact⟨y,h8,h9.mono hk⟩
def eH (φ:List bI)(b:Nat):Prop:=∃(i:Nat) (ph:bI),φ[i]? = some ph/\ph.bl b
def aco (φ:List bI):Prop:=∀(i j:Nat) (p q:bI) (b:Nat),φ[i]? = some p->φ[j]? = some q->p.bl b->q.bl b->i=j
def SS (S0:Nat->Prop)(φ:List bI)(b:Nat):Prop:=S0 b/\¬ eH φ b
structure HS (S0:Nat->Prop) (φ:List bI) (objs:List Ob) (w:World):Prop where
 len:φ.length=objs.length
 ok:∀(i:Nat) (ph:bI) (ob:Ob),φ[i]? = some ph->objs[i]? = some ob->bj (SS S0 φ) w φ ph ob
 jO:aco φ
 lt:∀b,eH φ b->b<w.heap.size
 up:∀b,w.heap.size<=b->S0 b
theorem tv:eH (φ++[p]) b↔eH φ b\/p.bl b:=by
 constructor;rintro ⟨i,q,h1,h2⟩;rcases qE i φ.length with hi|hi
 rw[mv hi]at h1;exact .inl ⟨i,q,h1,h2⟩;grind;rintro (⟨i,q,h1,h2⟩| h);exact⟨i,q,by grind,h2⟩;exact⟨φ.length,p,by simp,h⟩
theorem fL(h:b<w.heap.size):(w.alloc o).heap[b]? = w.heap[b]? := Below.heap_alloc w o b h
theorem heap_alloc_new(w:World)(o:Obj):(w.alloc o).heap[w.heap.size]? = some o:=by show(w.heap.push o)[w.heap.size]? = some o;simp
theorem nD(S:Nat->Prop)(w:World)(o:Obj):dL S w S (w.alloc o):=.of λ_ h hb=>⟨h,fL hb⟩
theorem HS.alloc{S0:Nat->Prop}{φ:List bI}{objs:List Ob}{w:World}(h:HS S0 φ objs w)(o:Obj):HS S0 φ objs (w.alloc o) where
 len:=h.len
 ok i ph ob h1 h2:=(h.ok i ph ob h1 h2).mono (nD _ _ _) (.refl _) aD λb hb=>fL (h.lt b ⟨i,ph,h1,hb⟩)
 jO:=h.jO
 lt b hb:=by have:=h.lt b hb;simp;omega
 up b hb:=h.up b (by simp at hb;omega)
theorem HS.later(h:HS S0 φ objs w)(hs:w.heap.size<=w'.heap.size)
  (hk:∀b,b<w.heap.size->w'.heap[b]? = w.heap[b]?):HS S0 φ objs w' where
 len:=h.len
 ok i ph ob h1 h2:=(h.ok i ph ob h1 h2).mono (.of λb hb hl=>⟨hb,hk b hl⟩) (.refl _) hs λb hb=>hk b (h.lt b ⟨i,ph,h1,hb⟩)
 jO:=h.jO
 lt b hb:=by have:=h.lt b hb;omega
 up b hb:=h.up b aq
theorem sy(hp:∀b,p.bl b->b=w.heap.size) :
  dL (SS S0 φ) w (SS S0 (φ++[p])) (w.alloc o):=.of λb h hb=>⟨⟨h.1,λhc=>by
   rcases tv.1 hc with hc|hc
   exact h.2 hc;grind⟩,fL hb⟩
theorem Kq(h:aco φ)(hp:∀b,p.bl b->¬ eH φ b):aco (φ++[p]):=by
 have key:∀(i:Nat) (q:bI),(φ++[p])[i]? = some q->(φ[i]? = some q)\/(i=φ.length/\q=p):=by grind
 intro i j q r b h1 h2 h3 h4;rcases key i q h1 with g1|⟨g1,g1'⟩<;>rcases key j r h2 with g2|⟨g2,g2'⟩
 exact h i j q r b g1 g2 h3 h4;subst g2';exact absurd ⟨i,q,g1,h3⟩ (hp b h4);subst g1';exact absurd ⟨j,r,g2,h4⟩ (hp b h3);omega
theorem HS.new(h:HS S0 φ objs w){ob:Ob}
  (hp:∀b,p.bl b->b=w.heap.size)
  (dA:bj (SS S0 (φ++[p])) (w.alloc o) (φ++[p]) p ob):HS S0 (φ++[p]) (objs++[ob]) (w.alloc o) where
 len:=by simp[h.len]
 ok i ph pO h1 h2:=by
  rcases qE i φ.length with hi|hi
  rw [mv hi]at h1;rw[mv ab2]at h2;exact(h.ok i ph pO h1 h2).mono (sy hp) (.app _ _) aD λb hb=>fL (h.lt b ⟨i,ph,h1,hb⟩)
  rw [nA hi]at h1;rw[nA ab2]at h2;grind
 jO:=Kq h.jO λb hb hc=>by have:=h.lt b hc;grind
 lt b hb:=by
  rcases tv.1 hb with hb|hb
  have:=h.lt b hb;simp;omega;have:=hp b hb;simp;omega
 up b hb:=h.up b (by simp at hb;omega)
theorem bE{α:Type}:∀(l:List α) (i:Nat),dq l i=l[i]?|[],_=>by simp[dq]|x::l,0=>by simp[dq]|x::l,i+1=>by simp only[dq,Nat.beq,cond_false,Nat.pred,bE l i,Xb]
theorem bx{α:Type}:∀(l:List α) (i:Nat) (y:α),dj l i y=l.set i y|[],_,_=>by simp[dj]|x::l,0,y=>by simp[dj]|x::l,i+1,y=>by simp only[dj,Nat.beq,cond_false,Nat.pred,bx l i y,Xc]
theorem bp{α:Type}:∀(l:List α),len l=l.length|[]=>rfl|_::l=>by simp[len,bp l]
theorem HS.bT(h:HS S0 φ objs w){i b:Nat}{ob:Ob}
  (hi:φ[i]? = some p) (hb:p.bl b) (hs:w'.heap.size=w.heap.size) (hk:∀c,c≠b->w'.heap[c]? = w.heap[c]?)
  (dA:bj (SS S0 φ) w' φ p ob):HS S0 φ (objs.set i ob) w' where
 len:=by simp[h.len]
 ok j ph pO h1 h2:=by
  by_cases hj:i=j;grind;rw [wB hj]at h2;refine(h.ok j ph pO h1 h2).mono (λc hc _=>⟨hc,hk c λe=>hc.2 ⟨i,p,hi,by simp_all⟩⟩) (.refl _) aq λc hc=>hk c λe=>?_
  exact hj (h.jO i j p ph b hi h1 hb (e ▸ hc))
 jO:=h.jO
 lt c hc:=by rw[hs];exact h.lt c hc
 up c hc:=h.up c aq
theorem tw{i b:Nat}
  (hi:φ[i]? = some p) (hb:p.bl b) (hk:∀c,c≠b->w'.heap[c]? = w.heap[c]?):dL (SS S0 φ) w (SS S0 φ) w' :=
 λc hc _=>⟨hc,hk c λe=>hc.2 ⟨i,p,hi,by simp_all⟩⟩
end ax
namespace ax
open Go Go.RowKit
variable{fr:Nat×Nat}
def bH (P:Program) (t:Nat):Sh->Prop
 | .one=>∃d,P.underlying t=some d/\(∀fs,d≠.struct fs)/\(∀n e,d≠.array n e)
 | .int k=>P.underlying t=some (.int k)
 | .bool=>P.underlying t=some .bool
 | .str=>P.underlying t=some .string
 | .struct jN=>∃fs:Array Field,P.underlying t=some (.struct fs)/\fs.toList.map (λf=>(f.offset,f.type))=jN /\
   ∀f∈fs.toList,∃i,P.info? f.type=some i/\i.size≠0
 | .array n e=>P.underlying t=some (.array n e)
 | .slice e=>P.underlying t=some (.slice e)
 | .map k e=>P.underlying t=some (.map k e)
structure kK (P:Program) (t:Nat) (τ:Ty):Prop where
 info:∃i z,P.info? t=some i/\i.zero=some z/\i.size=τ.size/\i.bytes=τ.bytes/\z.cells.toList=τ.zero
 zl:τ.zero.length=τ.size
 sh:bH P t τ.sh
 one:τ.agg=false->τ.size=1
 z1:∀v∈τ.zero,v.oneCell'=true
def jE (P:Program)(ty:Nat->Option Ty):Prop:=∀t τ,ty t=some τ->kK P t τ
section
variable {P:Program} {t:Nat} {τ:Ty} (h:kK P t τ) (w:World)
include h
theorem kK.und:∃d,P.underlying t=some d/\(τ.agg=true↔(∃fs,d=.struct fs)\/(∃n e,d=.array n e)):=by
 have hs:=h.sh;unfold Ty.agg;cases hh:τ.sh<;>rw[hh]at hs<;>simp only[bH]at hs
 obtain ⟨d,h1,h2,h3⟩:=hs;exact⟨d,h1,by simp;exact⟨h2,h3⟩⟩
 all_goals first
  |exact⟨_,hs,by simp⟩
  |(obtain⟨fs,h1,_⟩:=hs;exact⟨_,h1,by simp⟩)
theorem yv:(isAgg t).run P w=.ok τ.agg w:=by obtain⟨d,h1,h2⟩:=h.und;simp only[isAgg,underlying];simp[h1];cases d<;>simp at h2 ⊢<;>simp[h2]
theorem run_sizeOf:(Go.sizeOf t).run P w=.ok τ.size w:=by obtain⟨i,z,h1,_,h3,_⟩:=h.info;simp[Go.sizeOf,typeInfo,h1,h3]
theorem iC:∃z,(zeroValue t).run P w=.ok z w/\z.cells.toList=τ.zero:=by obtain⟨i,z,h1,h2,h3,_,h5⟩:=h.info;exact⟨z,by simp[zeroValue,typeInfo,h1,h2],h5⟩
end
section
variable {P:Program} {w:World} {b T:Nat} {cs:List Value}
theorem cell_of(hb:w.heap[b]? = some (.cells cs.toArray T fr))(o:Nat):w.cell? ⟨b,o,none⟩=cs[o]? := by simp[World.cell?,hb]
theorem fU(b o n:Nat):(⟨b,o,none⟩:Addr).add n=⟨b,o+n,none⟩:=by unfold Addr.add;simp_all
theorem run_loadCellsFrom{fr:Nat×Nat}(hb:w.heap[b]? = some (.cells cs.toArray T fr))(o:Nat):∀(n i:Nat) (acc:Array Value),o+i+n<=cs.length ->
  (loadCellsFrom ⟨b,o,none⟩ i n acc).run P w=.ok (acc++((cs.drop (o+i)).take n).toArray) w
 |0,i,acc,_=>by simp[loadCellsFrom]
 |n+1,i,acc,h=>by
  have fE:o+i<cs.length:=by omega
  have hc:w.cell? ⟨b,o+i,none⟩=some cs[o+i]:=by rw[cell_of hb];exact dG fE
  simp only[loadCellsFrom,fU,Sem.run_bind,run_load,hc,Result.andThen_ok];rw[run_loadCellsFrom hb o n (i+1) _ aq];have:(cs.drop (o+i)).take (n+1)=cs[o+i]::(cs.drop (o+(i+1))).take n:=by rw[List.drop_eq_getElem_cons fE,ahy,Nat.add_assoc]
  simp_all
theorem run_loadCells(hb:w.heap[b]? = some (.cells cs.toArray T fr))(o n:Nat)(h:o+n<=cs.length) :
  (loadCells ⟨b,o,none⟩ n).run P w=.ok ((cs.drop o).take n).toArray w:=by
 rw[loadCells,run_loadCellsFrom hb o n 0 #[] aq];simp
def pack (τ:Ty)(l:List Value):Value:=if τ.agg then .agg l.toArray else l.headD undef
theorem sx{t:Nat}{τ:Ty}(hτ:kK P t τ)(hb:w.heap[b]? = some (.cells cs.toArray T fr))(o:Nat)(h:o+τ.size<=cs.length) :
  (loadVar t ⟨b,o,none⟩).run P w=.ok (pack τ ((cs.drop o).take τ.size)) w:=by
 unfold loadVar pack;rw[Sem.run_bind,yv hτ];simp only[Result.andThen_ok];cases ha:τ.agg;have h1:=hτ.one ha;have hc:w.cell? ⟨b,o,none⟩=some (cs[o]' aq):=by rw[cell_of hb];simp_all
 simp only[lq,if_false,run_load,hc,h1];rw[List.drop_eq_getElem_cons (by omega:o<cs.length)];rfl;simp only[if_true,Sem.run_bind,run_sizeOf hτ,Result.andThen_ok,run_loadCells hb o τ.size h,Sem.run_pure]
def dB:List Value->Nat->List Value->List Value|l,_,[]=>l|l,off,x::r=>dB (l.set off x) (off+1) r
theorem lN:∀(new l:List Value) (off:Nat),(dB l off new).length=l.length|[],_,_=>rfl|x::r,l,off=>by simp[dB,lN r]
theorem wK(hb:w.heap[b]? = some (.cells cs.toArray T fr))(o:Nat)(v:Value) :
  (w.setCell ⟨b,o,none⟩ v).heap[b]? = some (.cells (cs.set o v).toArray T fr):=by
 simp[World.setCell,Array.getElem?_modify,hb,Array.setIfInBounds];intro h;rw[List.set_eq_of_length_le h]
structure NU (w w':World) (b T:Nat) (cs:List Value):Prop where
 at_:w'.heap[b]? = some (.cells cs.toArray T (0,0))
 size:w'.heap.size=w.heap.size
 os:w'.os=w.os
 tape:w'.tape=w.tape
 out:w'.output=w.output
 other:∀c,c≠b->w'.heap[c]? = w.heap[c]?
theorem nE:∀(vs:List Value) (i o:Nat) (w:World) (cs:List Value),w.heap[b]? = some (.cells cs.toArray T (0,0))->(∀v∈vs,v.oneCell'=true)->o+i+vs.length<=cs.length ->
  ∃w',(storeCells ⟨b,o,none⟩ vs i).run P w=.ok () w'/\NU w w' b T (dB cs (o+i) vs)
 |[],i,o,w,cs,hb,_,h=>⟨w,by simp[storeCells],by simpa[dB]using hb,rfl,rfl,rfl,rfl,λ_ _=>rfl⟩
 |v::vs,i,o,w,cs,hb,hv,h=>by
  simp only[dx]at h;have hc:w.cell? ⟨b,o+i,none⟩=some (cs[o+i]' aq):=by rw[cell_of hb];simp_all
  have hf:w.frozen? ⟨b,o+i,none⟩=false:=by simp[World.frozen?,hb]
  obtain⟨w',h1,h2⟩:=nE vs (i+1) o (w.setCell ⟨b,o+i,none⟩ v) (cs.set (o+i) v) (wK hb _ _) (λx hx=>hv x oZ) Eu;refine⟨w',?_,?_⟩;simp only [storeCells,fU,Sem.run_bind,run_store P w _ _ _ (hv v aD),hc,hf,lq,if_false,Result.andThen_ok];exact h1;have hsp:dB (cs.set (o+i) v) (o+(i+1)) vs=dB cs (o+i) (v::vs):=by rw[dB,Nat.add_assoc]
  rw[hsp]at h2;exact⟨h2.at_,by rw[h2.size];simp,h2.os,h2.tape,h2.out,λc hc=>(h2.other c hc).trans (Below.heap_setCell _ _ _ _ hc)⟩
theorem mP{t:Nat}{τ:Ty}(hτ:kK P t τ)(o:Nat)(hb:w.heap[b]? = some (.cells cs.toArray T (0,0))){v:Value}{vs:List Value}
  (hv:v.cells.toList=vs) (h1:∀x∈vs,x.oneCell'=true) (hl:vs.length=τ.size) (h:o+τ.size<=cs.length) :
  ∃w',(storeVar t ⟨b,o,none⟩ v).run P w=.ok () w'/\NU w w' b T (dB cs o vs):=by
 subst hv;obtain⟨w',h2,h3⟩:=nE (P:=P) v.cells.toList 0 o w cs hb h1 aq;refine⟨w',?_,by simpa using h3⟩;have hsz:v.cells.size=τ.size:=by simpa using hl
 simp only[storeVar,Sem.run_bind,run_sizeOf hτ,Result.andThen_ok,hsz,ne_eq,not_true_eq_false,if_false];exact h2
end
end ax
namespace ax
open Go Go.RowKit
variable{S:Nat->Prop}{l:List AV}{x:Operand}{T off t:Nat}{v:AV}{τ:Ty}
theorem TQ{α:Type}{c:Bool}{x y:α}(h:(bif c then some x else none)=some y):c=true/\x=y:=by grind
theorem Bv{α:Type}{c:Bool}{x:Option α}{y:α}(h:(bif c then x else none)=some y):c=true/\x=some y:=by grind
theorem cB{a b:Nat}(h:Nat.beq a b=true):a=b:=Nat.eq_of_beq_eq_true h
structure j8 (S0:Nat->Prop) (φ:List bI) (w:World) (φ':List bI) (objs':List Ob) (w':World):Prop where
 hs:HS S0 φ' objs' w'
 jj:dL (SS S0 φ) w (SS S0 φ') w'
 le:kc φ φ'
 size:w.heap.size<=w'.heap.size
 os:w'.os=w.os
 tape:w'.tape=w.tape
 out:w'.output=w.output
 fr:∀b,b<w.heap.size->¬ eH φ b->w'.heap[b]? = w.heap[b]?
 own:∀b,eH φ' b->eH φ b\/w.heap.size<=b
 ext:∀(i l:Nat) (I:Nat->(Nat->Prop)->(Nat->Prop)->World->Prop) (B:Nat->Prop),φ'[i]? = some (.ext l I B)->∃B0,φ[i]? = some (.ext l I B0)
theorem j8.refl{S0:Nat->Prop}{φ:List bI}{objs:List Ob}{w:World}(h:HS S0 φ objs w):j8 S0 φ w φ objs w :=⟨h,.refl _ _,.refl _,eT _,rfl,rfl,rfl,λ_ _ _=>rfl,λ_ h=>.inl h,λ_ _ _ B h=>⟨B,h⟩⟩
theorem j8.alloc{S0:Nat->Prop}{φ:List bI}{objs:List Ob}{w:World}(h:HS S0 φ objs w)(o:Obj):j8 S0 φ w φ objs (w.alloc o) :=⟨h.alloc o,nD _ _ _,.refl _,by simp,rfl,rfl,rfl,λ_ hb _=>fL hb,λ_ h=>.inl h,λ_ _ _ B h=>⟨B,h⟩⟩
theorem Rf{φ:List bI}{p:bI}(hx:∀l I B,p≠bI.ext l I B){i l:Nat}{I:Nat->(Nat->Prop)->(Nat->Prop)->World->Prop}{B:Nat->Prop}(h:(φ++[p])[i]? = some (.ext l I B)):φ[i]? = some (.ext l I B):=by grind
theorem j8.new{S0:Nat->Prop}{φ:List bI}{objs:List Ob}{w:World}(h:HS S0 φ objs w){p:bI}{ob:Ob}{o:Obj}
  (hp:∀b,p.bl b->b=w.heap.size) (dA:bj (SS S0 (φ++[p])) (w.alloc o) (φ++[p]) p ob) (hx:∀l I B,p≠bI.ext l I B:=by intro _ _ _ h;cases h) :
  j8 S0 φ w (φ++[p]) (objs++[ob]) (w.alloc o) :=
 ⟨h.new hp dA,sy hp,.app _ _,by simp,rfl,rfl,rfl,λ_ hb _=>fL hb,λb hb=>by
  rcases tv.1 hb with hb|hb
  exact .inl hb;grind,λ_ _ _ B h=>⟨B,Rf hx h⟩⟩
def Out (P:Program)(s:Sem Next)(S0:Nat->Prop)(φ:List bI)(w:World)(v:AV)(objs':List Ob):Prop :=∃(n:Next) (vv:Value) (w':World) (φ':List bI),s.run P w=.ok n w'/\(n=.value vv\/(n=.skip/\vv=undef))/\RV (SS S0 φ') w' φ' v vv/\j8 S0 φ w φ' objs' w'
section
variable {P:Program} {ty:Nat->Option Ty} (gv:jE P ty) {S0:Nat->Prop} {φ:List bI} {objs:List Ob} {w:World} (hs:HS S0 φ objs w)
theorem Bz{x:AV}{v:Value}(h:RV S w φ x v)(h1:pD x=true):v.oneCell'=true/\v.cells=#[v]:=by
 have key:∀v:Value,v.oneCell'=true->v.cells=#[v]:=by intro v hv;cases v<;>simp[Value.oneCell',Value.cells]at *
 suffices hv:v.oneCell'=true from⟨hv,key v hv⟩
 cases x<;>simp only[RV]at h<;>simp only[pD]at h1
 case any=>cases h1
 case tt=>subst h;rfl
 case ff=>subst h;rfl
 case d x=>
  cases h with
  |v=>cases v<;>simp_all[Value.oneCell']
  |nil=>rfl
  |sl=>rfl
  |bL=>rfl
  |map=>rfl
 case fs aa=>obtain⟨_,a,rfl⟩:=h;rfl
 case agg l=>cases h1
 case lo i off=>obtain⟨b,_,rfl⟩:=h;rfl
 case el i s r j=>obtain⟨⟨b,o,rfl⟩,_⟩:=h;rfl
 case ow i s=>obtain⟨⟨p,n,c,rfl⟩,_⟩:=h;rfl
 case vw i s r=>obtain⟨⟨p,n,c,rfl⟩,_⟩:=h;rfl
 case mp i=>obtain⟨b,_,rfl⟩:=h;rfl
 case cP l=>cases h1
 case b9 f a c=>obtain⟨va,vc,rfl,_⟩:=h;rfl
 case yl i=>obtain⟨l,I,B,_,rfl⟩:=h;rfl
theorem Kr{S:Nat->Prop}:∀{l:List AV} {vs:List Value},aW S w φ l vs->Xw l=true->∀v∈vs,v.oneCell'=true
 |[],[],_,_=>by simp
 |[],_::_,h,_=>by simp[aW]at h
 |_::_,[],h,_=>by simp[aW]at h
 |a::l,v::vs,h,h1=>by
  simp only[aW]at h;simp only[Xw]at h1;cases ha:pD a;simp[ha]at h1;simp only [ha,cond_true]at h1;intro x hx;rcases cE.1 hx with rfl|hx
  exact(Bz h.1 ha).1;exact Kr h.2 h1 x hx
theorem ig{x:AV}{v:Value}(h:RV S w φ x v)(hc:gn x=some l) :
  aW S w φ l v.cells.toList/\∀c∈v.cells.toList,c.oneCell'=true:=by
 have key:pD x=true->l=[x]->aW S w φ l v.cells.toList/\∀c∈v.cells.toList,c.oneCell'=true:=by intro h1 he;obtain⟨h2,h3⟩:=Bz h h1;rw[h3,he];simp only[aW];simp_all
 cases x
 case agg m=>simp only[gn]at hc;cases ha:Xw m;simp[ha]at hc;simp only [ha,cond_true,Option.some.injEq]at hc;subst hc;simp only[RV]at h;obtain⟨cs,rfl,h2⟩:=h;exact⟨by simpa[Value.cells]using h2,by simpa[Value.cells]using Kr h2 ha⟩
 all_goals
  simp only[gn]at hc;grind
theorem aW.set{S:Nat->Prop}:∀{l:List AV} {vs:List Value} (i:Nat) {x:AV} {v:Value},aW S w φ l vs->RV S w φ x v->aW S w φ (l.set i x) (vs.set i v)|[],[],_,_,_,_,_=>by simp[aW]|[],_::_,_,_,_,h,_=>by simp[aW]at h|_::_,[],_,_,_,h,_=>by simp[aW]at h|_::_,_::_,0,_,_,h,hx=>by simp only[aW]at h;simp only[ahz,aW];simp_all|_::_,_::_,i+1,_,_,h,hx=>by simp only[aW]at h;simp only[Xc,aW];exact⟨h.1,h.2.set i hx⟩
theorem aW.dB{S:Nat->Prop}:∀{new:List AV} {ns:List Value} {l:List AV} {vs:List Value} (off:Nat),aW S w φ l vs->aW S w φ new ns->aW S w φ (gL l off new) (dB vs off ns)|[],[],_,_,_,h,_=>by simpa[gL,ax.dB]using h|[],_::_,_,_,_,_,h=>by simp[aW]at h|_::_,[],_,_,_,_,h=>by simp[aW]at h|_::_,_::_,_,_,off,h,h'=>by simp only[aW]at h';simp only[gL,ax.dB,bx];exact aW.dB (off+1) (h.set off h'.1) h'.2
include hs in
theorem aZ{s:Sem Next}{vv:Value}(hr:s.run P w=.ok (.value vv) w)(hv:RV (SS S0 φ) w φ v vv):Out P s S0 φ w v objs :=⟨_,vv,w,φ,hr,.inl rfl,hv,.refl hs⟩
theorem cO(hs:HS S0 φ objs w){i:Nat}{ph:bI}(hi:φ[i]? = some ph){ob:Ob}(ho:dq objs i=some ob):bj (SS S0 φ) w φ ph ob :=hs.ok i ph ob hi (by rw[<-bE];exact ho)
theorem AI(hτ:kK P t τ){cs:List Value}(h:aW S w φ l cs)(hp:kJ τ l off=some v) :
  (τ.size=0/\τ.agg=true\/off+τ.size<=cs.length)/\RV S w φ v (pack τ ((cs.drop off).take τ.size)):=by
 have hl:=h.length;unfold kJ at hp;cases ha:τ.agg;simp only [ha]at hp;rw[bE]at hp;have h1:=hτ.one ha;obtain⟨x,h2,h3⟩:=h.get off hp;have fE:off<cs.length:=(fu.1 h2).1;refine⟨.inr aq,?_⟩;simp only[pack,ha,h1,lq,if_false];rw[List.drop_eq_getElem_cons fE];simp_all;simp only [ha]at hp;obtain⟨h1,h2⟩:=TQ hp;have h1:=cB h1;rw[bp]at h1;subst h2;constructor;grind;simp only [pack,ha,if_true,RV];exact⟨_,rfl,(h.drop off).take τ.size⟩
theorem jq(hτ:kK P t τ)(ha:τ.agg=true)(h0:τ.size=0)(a:Addr)(l:List Value) :
  (loadVar t a).run P w=.ok (pack τ (l.take τ.size)) w:=by
 simp only[loadVar,Sem.run_bind,yv hτ,Result.andThen_ok,ha,if_true,run_sizeOf hτ,h0];simp[loadCells,loadCellsFrom,pack,ha]
theorem Hr(hτ:kK P t τ){b o T:Nat}{cs:List Value}{fr:Nat×Nat}(hb:w.heap[b]? = some (.cells cs.toArray T fr))(h:aW S w φ l (cs.drop o))
  (hp:kJ τ l off=some v):∃vv,(loadVar t ⟨b,o+off,none⟩).run P w=.ok vv w/\RV S w φ v vv:=by
 obtain⟨h1,h2⟩:=AI hτ h hp;rw[List.drop_drop]at h2;rcases h1 with ⟨h0,ha⟩|h1
 exact⟨_,jq hτ ha h0 _ _,h2⟩;by_cases ho:o+off+τ.size<=cs.length;exact⟨_,sx hτ hb (o+off) ho,h2⟩;have:τ.size=0:=by grind
 cases ha:τ.agg;have:=hτ.one ha;omega;exact⟨_,jq hτ ha this _ _,h2⟩
section ad
variable {o:Oper} {a:Act} {ρA:Operand->AV} (hρ:∀x,RV (SS S0 φ) w φ (ρA x) (a.eval x))
include gv hs hρ
omit hρ in
theorem Xz(hop:o.op=.alloc T)(ht:ty T=some τ) :
  Out P (execOp a.eval o) S0 φ w (.lo (len objs) 0) (objs++[.box (τ.zero.map λx=>.d (.v x))]):=by
 obtain⟨z,h1,h2⟩:=iC (gv _ _ ht) w;have qH:∀b,(bI.jK w.heap.size).bl b->b=w.heap.size:=by intro b hb;simpa[bI.bl]using hb.symm
 refine⟨.value (.pointer (some ⟨w.heap.size,0,none⟩)),_,w.alloc (.cells z.cells T),φ++[.jK w.heap.size],?_,.inl rfl,?_,.new hs qH ?_⟩;simp only [execOp,hop,Instr.alloc,Sem.run_bind,h1,Result.andThen_ok,newVar,newRow,run_newObj,Sem.run_pure];rfl;simp only [RV];exact⟨w.heap.size,by rw[bp,<-hs.len];simp,rfl⟩;simp only [bj];refine⟨z.cells.toList,T,heap_alloc_new _ _,?_⟩;rw[h2];have:=aW.map (S:=SS S0 (φ++[bI.jK w.heap.size])) (w:=w.alloc (.cells z.cells T)) (φ:=φ++[bI.jK w.heap.size]) (λx=>AV.d (.v x)) id τ.zero (λx _=>by simp only[RV];exact .v x);simp_all
omit gv in
theorem ahL(hop:o.op=.box T x)(hc:gn (ρA x)=some l) :
  Out P (execOp a.eval o) S0 φ w (.lo (len objs) 0) (objs++[.box l]):=by
 obtain⟨h1,h2⟩:=ig (hρ x) hc;have qH:∀b,(bI.jK w.heap.size).bl b->b=w.heap.size:=by intro b hb;simpa[bI.bl]using hb.symm
 refine⟨.value (.pointer (some ⟨w.heap.size,0,none⟩)),_,w.alloc (.cells (a.eval x).cells T),φ++[.jK w.heap.size],?_,.inl rfl,?_,.new hs qH ?_⟩;simp only [execOp,hop,Instr.box,Sem.run_bind,Result.andThen_ok,newVar,newRow,run_newObj,Sem.run_pure];rfl;simp only [RV];exact⟨w.heap.size,by rw[bp,<-hs.len];simp,rfl⟩;simp only [bj];exact⟨(a.eval x).cells.toList,T,heap_alloc_new _ _,h1.mono (sy qH) (.app _ _)⟩
omit gv hρ in
theorem oF(hop:o.op=.load T x){b off:Nat}(hx:a.eval x=.pointer (some ⟨b,off,none⟩)){vv:Value}
  (hr:(loadVar T ⟨b,off,none⟩).run P w=.ok vv w) (hv:RV (SS S0 φ) w φ v vv):Out P (execOp a.eval o) S0 φ w v objs:=by
 refine aZ hs (vv:=vv) ?_ hv;simp only[execOp,hop,Instr.loadAt,Instr.sureAddr,hx,Sem.run_bind,Sem.run_pure,Result.andThen_ok,hr]
theorem XA(hop:o.op=.load T x)(h:fc ty ρA objs (.load T x)=some v) :
  Out P (execOp a.eval o) S0 φ w v objs:=by
 simp only[fc]at h;split at h
 case h_2=>cases h
 case h_1 τ ht=>
 have hτ:=gv _ _ ht;have hx:=hρ x;split at h
 case h_1 i off hA=>
  rw[hA]at hx;split at h
  case h_2=>cases h
  case h_1 l hl=>
  have Rg:=h;simp only[RV]at hx;obtain⟨b,hb,hx⟩:=hx;have ho:=cO hs hb hl;simp only[bj]at ho;obtain⟨cs,T',bg,lM⟩:=ho;obtain⟨vv,h1,h2⟩:=Hr (o:=0) hτ bg (by simpa using lM) Rg;exact oF hs hop hx TA h2
 case h_2 l hA=>
  rw[hA]at hx;have Rg:=h;simp only[RV]at hx;generalize k9:a.eval x=vx at hx;cases hx with
  |@bL _ b o2 cs T' fr g hS hb hg hr=>
   have hl:∀(j:Nat) (y:D),l[j]? = some y->j<cs.size-o2/\cs.toList[o2+j]? = some (g j):=by intro j y hj;have h1:=hg j y hj;have h2:=(Ab.1 h1).1;exact⟨by omega,by rw[Array.getElem?_toList];exact h1⟩
   have a8:l.length<=cs.toList.length-o2:=by
    rcases ab5 l.length with h0|h0
    omega;have:=hl (l.length-1) (l[l.length-1]' aq) (dG aq);simp;omega
   have lM:aW (SS S0 φ) w φ (l.map .d) ((cs.toList.drop o2).take l.length):=by
    refine aW.sv (by simp at a8 ⊢;omega) λi x v hx hv=>?_
    rw[fP]at hx;cases hi:l[i]? with
    |none=>rw[hi]at hx;cases hx
    |some y=>rw[hi]at hx;simp at hx;subst hx;have mG:=(fu.1 hi).1;rw[rP mG,Hk,(hl i y hi).2]at hv;cases hv;simp only[RV];exact hr i y hi
   obtain⟨h1,h2⟩:=AI hτ lM Rg;rcases h1 with ⟨h0,ha⟩|h1
   exact oF hs hop k9 (jq hτ ha h0 _ _) h2;have h1':τ.size<=l.length:=by simp at h1; omega
   have hsz:o2+τ.size<=cs.toList.length\/τ.size=0:=by omega
   rcases hsz with hsz|hsz
   have h3:=sx hτ (P:=P) (cs:=cs.toList) (by simpa using hb) o2 hsz;refine oF hs hop k9 h3 ?_;simp only[Xd]at h2;rw[List.take_take,Hl h1']at h2;exact h2;have ha:τ.agg=true:=by cases ha:τ.agg;have:=hτ.one ha;omega;rfl
   exact oF hs hop k9 (jq hτ ha hsz _ _) h2
 simp_all
end ad
end
end ax
namespace ax
open Go Go.RowKit
variable{x:Operand}{T t k:Nat}{v:AV}
section
variable {P:Program} {ty:Nat->Option Ty} {S0:Nat->Prop} {φ:List bI} {objs:List Ob} {w:World} {o:Oper} {a:Act} {ρA:Operand->AV}
theorem Rh(hs:HS S0 φ objs w)(hρ:∀x,RV (SS S0 φ) w φ (ρA x) (a.eval x))(hop:o.op=.move x\/o.op=.assign x):Out P (execOp a.eval o) S0 φ w (ρA x) objs:=by refine aZ hs (vv:=a.eval x) ?_ (hρ x);rcases hop with hop|hop<;>simp only[execOp,hop,Sem.run_pure]
theorem acp{c x y:Operand}(hs:HS S0 φ objs w)(hρ:∀x,RV (SS S0 φ) w φ (ρA x) (a.eval x))(hop:o.op=.pick c x y)(h:Xy (ρA c) (ρA x) (ρA y)=some v):Out P (execOp a.eval o) S0 φ w v objs:=by have hc:=hρ c;unfold Xy at h;split at h;rename_i x' _ hA;cases h;rw[hA]at hc;simp only[RV]at hc;refine aZ hs (vv:=a.eval x) ?_ (hρ x);simp[execOp,hop,hc,asBool];rename_i x' _ hA;cases h;rw[hA]at hc;simp only[RV]at hc;refine aZ hs (vv:=a.eval y) ?_ (hρ y);simp[execOp,hop,hc,asBool];cases h
theorem XB{d x:Operand}(gv:jE P ty)(hs:HS S0 φ objs w)(hρ:∀x,RV (SS S0 φ) w φ (ρA x) (a.eval x))(hop:o.op=.store T d x){objs':List Ob}(h:iL ty ρA objs (.store T d x)=some (v,objs')) :
  Out P (execOp a.eval o) S0 φ w v objs':=by
 simp only[iL]at h;split at h
 case h_2=>cases h
 case h_1 τ ht=>
 have hτ:=gv _ _ ht;split at h
 case h_2=>cases h
 case h_1 new qH=>
 obtain⟨a8,h⟩:=Bv h;have a8:=cB a8;rw[bp]at a8;have hx:=hρ d;split at h
 case h_2=>cases h
 case h_1 i off hA=>
 rw[hA]at hx;split at h
 case h_2=>cases h
 case h_1 l hl=>
 obtain⟨hle,h⟩:=TQ h;cases h;have hle:=ko hle;rw[bp]at hle;simp only[RV]at hx;obtain⟨b,hb,hx⟩:=hx;have ho:=cO hs hb hl;simp only[bj]at ho;obtain⟨cs,T',bg,lM⟩:=ho;obtain⟨wc,Hs⟩:=ig (hρ x) qH;have dK:=wc.length;have V2:=lM.length;obtain⟨w',hr,cY⟩:=mP (P:=P) hτ off bg rfl Hs aq ir;have hJ:(bI.jK b).bl b:=rfl;have hk:=tw (S0:=S0) hb hJ cY.other;refine⟨.skip,undef,w',φ,?_,.inr ⟨rfl,rfl⟩,by simp[RV],?_⟩;simp only[execOp,hop,Instr.storeAt,Instr.sureAddr,hx,Sem.run_bind,Sem.run_pure,Result.andThen_ok,hr];refine ⟨?_,hk,.refl _,by rw [cY.size]; omega,cY.os,cY.tape,cY.out,λc hc hn=>cY.other c λe=>hn ⟨i,_,hb,by rw [e]; rfl⟩,λ_ h=>.inl h,λ_ _ _ B h=>⟨B,h⟩⟩;rw[bx];refine hs.bT hb hJ cY.size cY.other ?_;simp only[bj];exact⟨_,T',cY.at_,(lM.mono hk (.refl _)).dB off (wc.mono hk (.refl _))⟩
theorem XC{jN:List (Nat×Nat)}(h:bH P t (.struct jN)){k off ft:Nat}(hk:dq jN k=some (off,ft)) :
  ∃(fs:Array Field) (f:Field),P.underlying t=some (.struct fs)/\fs[k]? = some f/\f.offset=off/\f.type=ft/\∃i,P.info? ft=some i/\i.size≠0:=by
 simp only[bH]at h;obtain⟨fs,h1,h2,h3⟩:=h;rw[bE,<-h2,fP]at hk;cases hf:fs.toList[k]? with
 |none=>simp_all
 |some f=>rw[hf]at hk;simp only[ss,Option.some.injEq,Prod.mk.injEq]at hk;obtain⟨rfl,rfl⟩:=hk;exact⟨fs,f,h1,by simp_all,rfl,rfl,h3 f (sq hf)⟩
theorem oG{fs:Array Field}{f:Field}(h1:P.underlying t=some (.struct fs))(h2:fs[k]? = some f)(h3:∃i,P.info? f.type=some i/\i.size≠0)(b off:Nat) :
  (Instr.fieldAt t (.pointer (some ⟨b,off,none⟩)) k).run P w=.ok (.pointer (some ⟨b,off+f.offset,none⟩)) w:=by
 obtain⟨i,h4,h5⟩:=h3;simp[Instr.fieldAt,underlying,h1,h2,Instr.sureAddr,fieldPlace,Go.sizeOf,typeInfo,h4,h5,fU]
theorem Ht(gv:jE P ty)(hs:HS S0 φ objs w)(hρ:∀x,RV (SS S0 φ) w φ (ρA x) (a.eval x))(hop:o.op=.fieldAddr T x k)(h:cS ty ρA (.fieldAddr T x k)=some v) :
  Out P (execOp a.eval o) S0 φ w v objs:=by
 simp only[cS]at h;split at h
 case h_2=>cases h
 case h_1 sz cq z jN ht=>
 have hτ:=gv _ _ ht;split at h
 case h_2=>cases h
 case h_1 off ft hk=>
 obtain⟨fs,f,h1,h2,rfl,rfl,h3⟩:=XC hτ.sh hk;have hx:=hρ x;split at h
 case h_1 i o2 hA=>cases h;rw[hA]at hx;simp only[RV]at hx;obtain⟨b,hb,hx⟩:=hx;refine aZ hs (vv:=.pointer (some ⟨b,o2+f.offset,none⟩)) ?_ (by simp only[RV];exact⟨b,hb,rfl⟩);simp only[execOp,hop,hx,Sem.run_bind,oG h1 h2 h3,Result.andThen_ok,Sem.run_pure]
 case h_2 i s r2 j2 hA=>cases h;rw[hA]at hx;simp only[RV]at hx;obtain⟨⟨b,o3,hp⟩,ph,fj,hx⟩:=hx;refine aZ hs (vv:=.pointer (some ⟨b,o3+f.offset,none⟩)) ?_ ?_;simp only[execOp,hop,hp,Sem.run_bind,oG h1 h2 h3,Result.andThen_ok,Sem.run_pure];simp only [RV];refine⟨⟨b,_,rfl⟩,ph,fj,λNn s' x' pO he=>?_⟩;obtain⟨h4,h5⟩:=hx Nn s' x' pO he;refine⟨h4,λe=>?_⟩;obtain⟨b',o',n',o9,h6,h7⟩:=h5 e;rw[hp]at h7;simp only[Value.pointer.injEq,Option.some.injEq,Addr.mk.injEq,and_true]at h7;obtain⟨rfl,rfl⟩:=h7;exact⟨b,o',n',o9,h6,by rw[Nat.add_assoc]⟩
 case h_3 l hA=>
  cases h;rw[hA]at hx;simp only[RV]at hx;generalize k9:a.eval x=vx at hx;cases hx with
  |@bL _ b o2 cs T' fr g hS hb hg hr=>refine aZ hs (vv:=.pointer (some ⟨b,o2+f.offset,none⟩)) ?_ ?_;simp only[execOp,hop,k9,Sem.run_bind,oG h1 h2 h3,Result.andThen_ok,Sem.run_pure];simp only [RV];refine .bL (λj=>g (f.offset+j)) hS hb (λj y hy=>?_) (λj y hy=>hr _ y (by simpa using hy));rw[Nat.add_assoc];exact hg _ y (by simpa using hy)
 simp_all
theorem XD{τ:Ty}(hτ:kK P t τ){cs:List Value}{off:Nat}(h:τ.size=0/\τ.agg=true\/off+τ.size<=cs.length) :
  (part t cs.toArray off).run P w=.ok (pack τ ((cs.drop off).take τ.size)) w:=by
 unfold part pack;rw[Sem.run_bind,yv hτ];simp only[Result.andThen_ok];cases ha:τ.agg;have h1:=hτ.one ha;have fE:off<cs.length:=by omega
 simp only[lq,if_false,List.getElem?_toArray,dG fE,Sem.run_pure,h1];rw[List.drop_eq_getElem_cons fE];rfl;simp only [if_true,Sem.run_bind,run_sizeOf hτ,Result.andThen_ok,Sem.run_pure];simp_all
theorem XE(gv:jE P ty)(hs:HS S0 φ objs w)(hρ:∀x,RV (SS S0 φ) w φ (ρA x) (a.eval x))(hop:o.op=.field T x k)(h:cS ty ρA (.field T x k)=some v) :
  Out P (execOp a.eval o) S0 φ w v objs:=by
 simp only[cS]at h;split at h
 case h_2=>cases h
 case h_1 sz cq z jN ht=>
 have hτ:=gv _ _ ht;split at h
 case h_2=>cases h
 case h_1 off ft hk=>
 obtain⟨fs,f,h1,h2,rfl,rfl,h3⟩:=XC hτ.sh hk;have hx:=hρ x;split at h
 case h_2=>cases h
 case h_1 τ l hft hA=>
 have hp:=h;rw[hA]at hx;simp only[RV]at hx;obtain⟨cs,hx,lM⟩:=hx;have arB:=gv _ _ hft;obtain⟨h4,h5⟩:=AI arB lM hp;refine aZ hs (vv:=pack τ ((cs.drop f.offset).take τ.size)) ?_ h5;simp only[execOp,hop,hx,Instr.field,underlying,Sem.run_bind,run_program,Result.andThen_ok,h1,Sem.run_pure,h2,asAgg,XD arB h4]
theorem Ri{x:AV}{v:Value}{S:Nat->Prop}{b:Bool}(h:RV S w φ x v)(hb:boA x=some b):v=.bool b:=by unfold boA at hb;split at hb;cases hb;simpa[RV]using h;cases hb;simpa[RV]using h;cases hb;simp only[RV]at h;cases h;rfl;cases hb
theorem BA{k k':IntKind}(h:kEq k k'=true):k=k':=by cases k<;>cases k'<;>simp[kEq]at h<;>rfl
def Hu:Value->Bool
 | .int _ _| .string _| .bool _=>true
 |_=>false
theorem oH{op:BinOp}{x y:Operand}{u v:Value}(hu:Hu u=true):(eqGuard op T x y u v).run P w=.ok () w:=by unfold eqGuard;cases u<;>simp[Hu]at hu<;>cases v<;>simp<;>split<;>simp
theorem run_equalIn_bool(d:Nat)(hu:P.underlying T=some .bool)(b c:Bool):(Op.equalIn (d+1) T (.bool b) (.bool c)).run P w=.ok (b==c) w:=by simp[Op.equalIn,underlying,hu]
theorem run_equal_bool(hu:P.underlying T=some .bool)(b c:Bool):(Op.equal T (.bool b) (.bool c)).run P w=.ok (b==c) w:=run_equalIn_bool 9999 hu b c
theorem ahN{op:BinOp}{T T':Nat}{x y:Operand}(gv:jE P ty)(hs:HS S0 φ objs w)(hρ:∀x,RV (SS S0 φ) w φ (ρA x) (a.eval x))(hop:o.op=.binOp op T x y T')(h:Xx (isB ty T) op (ρA x) (ρA y)=some v) :
  Out P (execOp a.eval o) S0 φ w v objs:=by
 have hx:=hρ x;have hy:=hρ y;have fin:∀{vv:Value},Hu (a.eval x)=true->(binOp op T (a.eval x) (a.eval y)).run P w=.ok vv w->RV (SS S0 φ) w φ v vv->Out P (execOp a.eval o) S0 φ w v objs:=by intro vv h1 h2 h3;refine aZ hs (vv:=vv) ?_ h3;simp only[execOp,hop,Sem.run_bind,oH h1,Result.andThen_ok,h2,Sem.run_pure]
 unfold Xx at h;split at h
 case h_1 k m k' m' hA hB=>
  rw[hA]at hx;rw[hB]at hy;simp only[RV]at hx hy;obtain⟨hk,h'⟩:=Bv h;clear h;have hk:=BA hk;subst hk;generalize k9:a.eval x=vx at hx fin;generalize o6:a.eval y=vy at hy fin;cases hx;cases hy
  cases op <;> simp only [ama,Option.some.injEq,reduceCtorEq]at h' <;>
   (subst h';refine fin rfl ?_ ab0;simp[binOp,Op.intCmp,Op.intArith])
 case h_2 m m' hA hB=>
  rw[hA]at hx;rw[hB]at hy;simp only[RV]at hx hy;generalize k9:a.eval x=vx at hx fin;generalize o6:a.eval y=vy at hy fin;cases hx;cases hy
  cases op <;> simp only [acm,Option.some.injEq,reduceCtorEq]at h <;>
   (subst h;refine fin rfl ?_ ab0;simp[binOp,Op.stringOp,aX])
 case h_3=>
  split at h
  case h_2=>cases h
  case h_1 b1 b2 h1 h2=>
  have e1:=Ri hx h1;have e2:=Ri hy h2;obtain⟨htb,h'⟩:=Bv h;clear h;have hu:P.underlying T=some .bool:=by unfold isB at htb;split at htb;rename_i hT;exact(gv _ _ hT).sh;cases htb
  cases op <;> simp only [amc,Option.some.injEq,reduceCtorEq]at h' <;>
   (subst h';refine fin (by rw[e1];rfl) ?_ ab0;rw[e1,e2];simp only[binOp,Sem.run_bind,run_equal_bool hu,Result.andThen_ok,Sem.run_pure])
theorem amg{op:UnOp}(hs:HS S0 φ objs w)(hρ:∀x,RV (SS S0 φ) w φ (ρA x) (a.eval x))(hop:o.op=.unOp op T x)(h:cS ty ρA (.unOp op T x)=some v) :
  Out P (execOp a.eval o) S0 φ w v objs:=by
 simp only[cS]at h;have hx:=hρ x;split at h
 case h_1 hA=>cases h;rw[hA]at hx;simp only[RV]at hx;exact aZ hs (vv:=.bool false) (by simp[execOp,hop,hx,Op.unary]) (by simp[RV])
 case h_2 hA=>cases h;rw[hA]at hx;simp only[RV]at hx;exact aZ hs (vv:=.bool true) (by simp[execOp,hop,hx,Op.unary]) (by simp[RV])
 case h_3 b hA=>cases h;rw[hA]at hx;simp only[RV]at hx;generalize k9:a.eval x=vx at hx;cases hx;exact aZ hs (vv:=.bool !b) (by simp[execOp,hop,k9,Op.unary]) ab0
 case h_4 k n hA=>cases h;rw[hA]at hx;simp only[RV]at hx;generalize k9:a.eval x=vx at hx;cases hx;exact aZ hs (vv:=.int k (k.wrap (0-n))) (by simp[execOp,hop,k9,Op.unary,Op.intArith]) ym
 simp_all
theorem Rj(hρ:∀x,RV (SS S0 φ) w φ (ρA x) (a.eval x))(l:List Operand):aW (SS S0 φ) w φ (l.map ρA) (l.map a.eval) :=aW.map _ _ l λx _=>hρ x
theorem Ks{f:Nat}{x y:Array Operand}(hs:HS S0 φ objs w)(hρ:∀x,RV (SS S0 φ) w φ (ρA x) (a.eval x))(hop:o.op=.makeFunc (.func f) x y) :
  Out P (execOp a.eval o) S0 φ w (.b9 f (x.toList.map ρA) (y.toList.map ρA)) objs:=by
 refine aZ hs (vv:=.func (.func f) (x.map a.eval) (y.map a.eval)) (by simp[execOp,hop,Instr.makeFunc]) ?_;simp only[RV];exact⟨x.toList.map a.eval,y.toList.map a.eval,by simp[<-Array.toList_map],Rj hρ _,Rj hρ _⟩
theorem NV(hs:HS S0 φ objs w)(hρ:∀x,RV (SS S0 φ) w φ (ρA x) (a.eval x))(hop:o.op=.extract x k){l:List AV}(hA:ρA x=.cP l)(hv:dq l k=some v) :
  Out P (execOp a.eval o) S0 φ w v objs:=by
 have hx:=hρ x;rw[hA]at hx;simp only[RV]at hx;obtain⟨vs,hx,lM⟩:=hx;rw[bE]at hv;obtain⟨vv,h1,h2⟩:=lM.get k hv;refine aZ hs (vv:=vv) ?_ h2;simp[execOp,hop,hx,Instr.extract,h1]
theorem qF{d:TypeDesc}{v:Value}{n:Int}(hu:P.underlying t=some d)
  (h:(d=.string/\∃s:ByteArray,v=.string s/\n=s.size)\/((∃e,d=.slice e)/\∃(p:Option Addr) (m c:Nat),v=.slice p m c/\n=m)) :
  (Builtin.len_ #[t] T #[v]).run P w=.ok (.int .i64 n) w:=by
 rcases h with ⟨rfl,s,rfl,rfl⟩|⟨⟨e,rfl⟩,p,m,c,rfl,rfl⟩<;>simp[Builtin.len_,underlying,hu,goInt]
theorem ahO{args:Array Operand}{ts:Array Nat}(gv:jE P ty)(hs:HS S0 φ objs w)(hρ:∀x,RV (SS S0 φ) w φ (ρA x) (a.eval x))
  (hop:o.op=.call {callee:=.builtin .len,args:=args,argTypes:=ts}) (h1:args.toList=[x]) (h2:ts.toList=[t]) {τ:Ty} (ht:ty t=some τ) {n:Int}
  (hn:Kp τ.sh objs (ρA x)=some n):Out P (execOp a.eval o) S0 φ w (iV n) objs:=by
 have hx:=hρ x;have eI:=(gv _ _ ht).sh;have ha:args=#[x]:=by apply NM.1;simpa using h1
 have hts:ts=#[t]:=by apply NM.1;simpa using h2
 have fin:∀{d:TypeDesc},P.underlying t=some d->((d=.string/\∃s:ByteArray,a.eval x=.string s/\n=s.size)\/((∃e,d=.slice e)/\∃(p:Option Addr) (m c:Nat),a.eval x=.slice p m c/\n=m)) ->
   Out P (execOp a.eval o) S0 φ w (iV n) objs:=by
  intro d hu hd;refine aZ hs (vv:=.int .i64 n) ?_ JY;simp only[execOp,hop,resolve,ha,hts,Sem.run_bind,Sem.run_pure,Result.andThen_ok,invoke,builtin,sr,bM,fm];simp[qF hu hd]
 unfold Kp at hn;split at hn
 case h_1 aa hA=>
  rw[hA]at hx;simp only[RV]at hx;split at hn;rename_i e he; rw [he]at eI;refine fin eI (.inr ⟨⟨_,rfl⟩,?_⟩);generalize a.eval x=vx at hx;cases hx with
  |nil=>exact⟨_,_,_,rfl,by simpa using hn.symm⟩
  |sl=>exact⟨_,_,_,rfl,by simpa using hn.symm⟩
  cases hn
 case h_2 hA=>rw[hA]at hx;simp only[RV]at hx;split at hn;rename_i e he; rw [he]at eI;refine fin eI (.inr ⟨⟨_,rfl⟩,?_⟩);generalize a.eval x=vx at hx;cases hx;exact⟨_,_,_,rfl,by simpa using hn.symm⟩;cases hn
 case h_3 s hA=>rw[hA]at hx;simp only[RV]at hx;split at hn;rename_i he; rw [he]at eI;refine fin eI (.inl ⟨rfl,?_⟩);generalize a.eval x=vx at hx;cases hx;exact⟨_,rfl,by simpa using hn.symm⟩;cases hn
 case h_4 aa hA=>rw[hA]at hx;simp only[RV]at hx;split at hn;rename_i e he; rw [he]at eI;obtain⟨_,p,hp⟩:=hx;exact fin eI (.inr ⟨⟨_,rfl⟩,p,_,_,hp,by simpa using hn.symm⟩);cases hn
 case h_5 i s hA=>
  rw[hA]at hx;simp only[RV]at hx;split at hn;rename_i e he; rw [he]at eI;split at hn;rename_i sz s' rws hl;obtain⟨Rk,hn⟩:=TQ hn;have Rk:=cB Rk;obtain⟨_,ph,fj,hx⟩:=hx;have ho:=cO hs fj hl;cases ph<;>simp only[bj]at ho
  obtain⟨_,Ad,a8,ho⟩:=ho;obtain⟨_,hx⟩:=hx _ _ _ _ rfl;have hx:=hx aq;refine fin eI (.inr ⟨⟨_,rfl⟩,?_⟩);rcases ho with ⟨a2,hv3,qI,_⟩|⟨b3,o3,cap,cs,T',hv3,_⟩
  exact⟨_,_,_,hx.trans hv3,by rw[<-hn,qI];rfl⟩;exact⟨_,_,_,hx.trans hv3,hn.symm⟩;cases hn;cases hn
 case h_6 i hA=>
  rw[hA]at hx;simp only[RV]at hx;split at hn;rename_i k e he; rw [he]at eI;simp only[bH]at eI;split at hn;rename_i es hl;obtain⟨b,hb,hx⟩:=hx;have ho:=cO hs hb hl;simp only[bj]at ho;obtain⟨ents,jr,bg,hes,_⟩:=ho;have hsz:es.length=ents.size:=by have:=congrArg List.length hes;simpa using this
  refine aZ hs (vv:=.int .i64 n) ?_ JY;simp only[execOp,hop,resolve,ha,hts,Sem.run_bind,Sem.run_pure,Result.andThen_ok,invoke,builtin,sr,bM,fm];have:(Builtin.len_ #[t] o.type #[a.eval x]).run P w=.ok (.int .i64 n) w:=by simp only[Option.some.injEq]at hn;rw[hx,<-hn,hsz];simp[Builtin.len_,underlying,eI,goInt,getObj,Sem.run,bg]
  simp[this];cases hn;cases hn
 simp_all
end
end ax
namespace ax
open Go Go.RowKit
variable{v:AV}
theorem TR(v:List Value):∀(cs:List Value) (off k:Nat),
  ((v.zipIdx k).foldl (λcs (c:Value×Nat)=>cs.setIfInBounds (off+c.2) c.1) cs.toArray)=(dB cs (off+k) v).toArray:=by
 induction v with
 |nil=>intro cs off k;simp[dB]
 |cons x r ih=>
  intro cs off k;simp only[List.zipIdx_cons,wC,dB];have:(cs.toArray.setIfInBounds (off+k) x)=(cs.set (off+k) x).toArray:=by simp
  rw[this,ih,Nat.add_assoc]
theorem Fu{place:Nat->Option (Nat×Nat)}{i off size:Nat}{v:Value}{az:List (Nat×Value)}{cs:List Value}
  (hp:place i=some (off,size)) (hv:v.cells.size=size) (hle:off+size<=cs.length) :
  Instr.fill place cs.toArray ((i,v)::az)=Instr.fill place (dB cs off v.cells.toList).toArray az:=by
 have h2:(v.cells.zipIdx.foldl (λcs (c,j)=>cs.setIfInBounds (off+j) c) cs.toArray)=(dB cs off v.cells.toList).toArray:=by rw[<-Array.foldl_toList,Array.toList_zipIdx];exact TR v.cells.toList cs off 0
 simp only[Instr.fill,hp];grind
theorem vl:∀(new l r t:List Value),r.length=new.length->dB (l++r++t) l.length new=l++new++t
 |[],l,[],t,_=>by simp[dB]
 |[],l,_::_,_,h=>by simp at h
 |_::_,l,[],_,h=>by simp at h
 |x::new,l,y::r,t,h=>by
  simp only[dB];have:(l++y::r++t).set l.length x=(l++[x])++r++t:=by simp
  rw[this];have h2:=vl new (l++[x]) r t ln;simp_all
section
variable {P:Program} {ty:Nat->Option Ty} {S0:Nat->Prop} {φ:List bI} {objs:List Ob} {w:World} {o:Oper} {a:Act} {ρA:Operand->AV}
theorem pP{S:Nat->Prop}:∀{l:List AV} {vs:List Value} {ds:List D},aW S w φ l vs->yt l=some ds->aW S w φ (ds.map .d) vs
 |[],[],ds,_,h=>by simp[yt]at h;subst h;simp[aW]
 |[],_::_,_,h,_=>by simp[aW]at h
 |_::_,[],_,h,_=>by simp[aW]at h
 |x::l,v::vs,ds,h,hd=>by
  simp only[aW]at h;unfold yt at hd;split at hd
  all_goals first
   |(rename_i heq;cases heq;done)
   | (rename_i heq; cases heq
      split at hd;rename_i l' hl';cases hd;simp only[bM,aW];refine⟨?_,pP h.2 hl'⟩;have h1:=h.1;simp only[RV]at h1 ⊢
      first
       |exact h1
       |exact h1.1
       |(subst h1;exact .v _)
      cases hd)
   |cases hd
theorem tz{e:Nat}{τ:Ty}(_he:kK P e τ):∀(parts:List (Nat×AV)) (bS:List (Nat×Value)) (k:Nat) (aa:List (List D)) (pre az:List Value),
  parts.map (·.1)=bS.map (·.1)->aW (SS S0 φ) w φ (parts.map (·.2)) (bS.map (·.2))->kY parts k τ.size=some aa->pre.length=k*τ.size->az.length=bS.length*τ.size ->
  ∃cells:List Value,Instr.fill (λi=>some (i*τ.size,τ.size)) (pre++az).toArray bS=some (pre++cells).toArray/\cells.length=aa.length*τ.size/\aa.length=parts.length /\
   (∀(i:Nat) (r:List D),aa[i]? = some r->r.length=τ.size/\∀(j:Nat) (x:D),r[j]? = some x->∃v,cells[i*τ.size+j]? = some v/\Rd (SS S0 φ) w x v)
 |[],[],k,aa,pre,az,_,_,hr,_,fK=>by simp[kY]at hr;subst hr;have:az=[]:=kG.1 ir;subst this;exact⟨[],by simp[Instr.fill],by simp,rfl,by simp⟩
 |[],_::_,_,_,_,_,h,_,_,_,_=>by simp at h
 |_::_,[],_,_,_,_,h,_,_,_,_=>by simp at h
 |(i,x)::parts,(i',v)::bS,k,aa,pre,az,hm,lM,hr,rQ,fK=>by
  simp only[bM,List.cons.injEq]at hm;obtain⟨rfl,hm⟩:=hm;simp only[bM,aW]at lM;simp only[kY]at hr;obtain⟨hik,hr⟩:=Bv hr;have hik:=cB hik;subst hik;split at hr
  case h_1=>cases hr
  case h_2 l hl=>
  split at hr
  case h_2=>cases hr
  case h_1 row gY=>
  obtain⟨a8,hr⟩:=Bv hr;have a8:=cB a8;rw[bp]at a8;split at hr
  case h_2=>cases hr
  case h_1 rows' eE=>
  cases hr;obtain⟨wc,_⟩:=ig lM.1 hl;have hcd:=pP wc gY;have dK:=hcd.length;simp only[fQ]at dK;simp only[dx]at fK;have hsz:v.cells.toList.length=τ.size:=by omega
  have mF:τ.size<=az.length:=by grind
  obtain ⟨cells,h1,h2,V3,h3⟩:=tz _he parts bS (i+1) rows' (pre++v.cells.toList) (az.drop τ.size) hm lM.2 eE
   jD jD
  refine⟨v.cells.toList++cells,?_,?_,by simp[V3],?_⟩;rw [Fu rfl (by simpa using hsz) (by simp only [List.length_append]; omega)];have:dB (pre++az) (i*τ.size) v.cells.toList=pre++v.cells.toList++az.drop τ.size:=by have:=vl v.cells.toList pre (az.take τ.size) (az.drop τ.size) (by simp;simp at hsz;omega);rw[List.append_assoc,List.take_append_drop]at this;rw[<-rQ];exact this
  simp_all;grind;intro j r hj;cases j with
  |zero=>simp at hj;subst hj;refine⟨a8,λm y hy=>?_⟩;have hyl:=(fu.1 hy).1;obtain⟨u,hu1,TU⟩:=hcd.get m (x:=.d y) (by rw[fP,hy];rfl);simp only[RV]at TU;grind
  |succ j=>grind
theorem EA{T n:Nat}{parts:Array (Nat×Operand)}(gv:jE P ty)(hs:HS S0 φ objs w)(hρ:∀x,RV (SS S0 φ) w φ (ρA x) (a.eval x))(hop:o.op=.buildSlice T n parts)
   (h:cS ty ρA (.buildSlice T n parts)=some v):Out P (execOp a.eval o) S0 φ w v objs:=by
 simp only[cS]at h;split at h
 case h_2=>cases h
 case h_1 sz cq z e hT=>
 have Jz:=(gv _ _ hT).sh;simp only[bH]at Jz;split at h
 case h_2=>cases h
 case h_1 τ he=>
 have hτ:=gv _ _ he;split at h
 case h_2=>cases h
 case h_1 aa eE=>
 obtain⟨hn,h⟩:=Bv h;obtain⟨hb,h⟩:=Bv h;obtain⟨Ae,h⟩:=TQ h;cases h;have Ae:=ko Ae;have hn:=cB hn;rw[bp]at hn;have hb:=ko hb;simp only[Nat.mul_eq]at hb
 have hlp:aa.length=parts.size:=by
  have key:∀(l:List (Nat×AV)) (k:Nat) (rs:List (List D)),kY l k τ.size=some rs->rs.length=l.length:=by
   intro l;induction l with
   |nil=>intro k rs h;simp[kY]at h;subst h;rfl
   |cons x l ih=>intro k rs h;exact alI
  grind
 obtain⟨zv,Js,VY⟩:=iC hτ w;have Kl:=hτ.zl;have hzs:zv.cells.size=τ.size:=by grind
 generalize fK:(if n*τ.size=0 then([]:List Value)else((List.range (n*τ.size)).map λi=>zv.cells[i % zv.cells.size]!))=az;have mF:az.length=n*τ.size:=by grind
 obtain ⟨cells,h1,h2,V3,h3⟩:=tz (S0:=S0) (φ:=φ) (w:=w) hτ (parts.toList.map λp=>(p.1,ρA p.2)) (parts.toList.map λp=>(p.1,a.eval p.2)) 0 aa [] az
  ir alm eE aD ir
 simp only[yp]at h1;have XG:(parts.map λ(i,x)=>(i,a.eval x)).toList=parts.toList.map λp=>(p.1,a.eval p.2):=by simp_all
 have fo:(Instr.buildSlice T n (parts.map λ(i,x)=>(i,a.eval x))).run P w=.ok (.slice (some ⟨w.heap.size,0,none⟩) n n) (w.alloc (.cells cells.toArray e)):=by
  have h0:¬ (n*τ.size > 2 ^ 24):=by omega
  simp only[Instr.buildSlice,underlying,Sem.run_bind,run_program,Result.andThen_ok,Jz,Sem.run_pure,run_sizeOf hτ];rw[Sem.run_ite];rw[if_neg h0];by_cases hz0:n*τ.size=0;rw [Sem.run_ite,if_pos hz0];have TV:az=[]:=kG.1 aq;rw[TV]at h1;simp only[Sem.run_pure,Result.andThen_ok,hz0,XG,newRow,Sem.run_bind];simp only[show(Array.map (λx=>(#[]:Array Value)[x % (#[]:Array Value).size]!) (Array.range 0))=([]:List Value).toArray from by simp,h1,Sem.run_bind,run_newObj,Result.andThen_ok,Sem.run_pure];rfl;rw [Sem.run_ite,if_neg hz0];have:(Array.range (n*τ.size)).map (λx=>zv.cells[x % zv.cells.size]!)=az.toArray:=by grind
  simp only[Sem.run_bind,Js,Sem.run_pure,Result.andThen_ok,this,XG,h1,newRow,run_newObj];rfl
 refine⟨.value (.slice (some ⟨w.heap.size,0,none⟩) n n),_,_,φ,?_,.inl rfl,?_,.alloc hs (.cells cells.toArray e)⟩;simp only[execOp,hop,Sem.run_bind,fo,Result.andThen_ok,Sem.run_pure];simp only [RV];refine⟨?_,⟨some ⟨w.heap.size,0,none⟩,by rw[hn]⟩⟩;have qH:SS S0 φ w.heap.size:=⟨hs.up _ cZ,λhc=>absurd (hs.lt _ hc) (ab6 _)⟩;rw[<-hn];refine Rd.sl (sz:=τ.size) (λi j=>(cells[i*τ.size+j]?).getD undef) qH (heap_alloc_new _ _) cZ ?_ (λi r hi=>(h3 i r hi).1) (λi r j x hi hj=>?_) (λi r j x hi hj=>?_);rw[hn];unfold maxLen;omega;grind;obtain ⟨u,hu1,TU⟩:=(h3 i r hi).2 j x hj;rw[hu1];exact TU.mono (nD _ _ _)
theorem Kt{α β:Type}(f:α->Sem β)(g:α->β):∀(l:List α),(∀x∈l,(f x).run P w=.ok (g x) w)->(l.mapM f).run P w=.ok (l.map g) w|[],_=>by simp|x::l,h=>by simp only[List.mapM_cons,Sem.run_bind,h x aD,Result.andThen_ok,Kt f g l λy hy=>h y iS,Sem.run_pure,bM]
theorem TW{α β:Type}(f:α->Sem β)(g:α->β)(l:Array α)(h:∀x∈l.toList,(f x).run P w=.ok (g x) w):(l.mapM f).run P w=.ok (l.map g) w:=by rw[Array.mapM_eq_mapM_toList,Sem.run_map,Kt f g l.toList h];simp only[Result.andThen_ok];congr 1;grind
theorem BB(gv:jE P ty){place:Nat->Option (Nat×Nat)}{jN:List (Nat×Nat)}
  (vm:∀(k off ft:Nat) (τ:Ty),dq jN k=some (off,ft)->ty ft=some τ->place k=some (off,τ.size)) :
  ∀(parts:List (Nat×AV)) (bS:List (Nat×Value)) (cs V4:List AV) (vs:List Value),
  parts.map (·.1)=bS.map (·.1)->aW (SS S0 φ) w φ (parts.map (·.2)) (bS.map (·.2))->Bx ty jN parts cs=some V4->aW (SS S0 φ) w φ cs vs ->
  ∃vs':List Value,Instr.fill place vs.toArray bS=some vs'.toArray/\aW (SS S0 φ) w φ V4 vs'
 |[],[],cs,V4,vs,_,_,hb,lM=>by simp[Bx]at hb;subst hb;exact⟨vs,by simp[Instr.fill],lM⟩
 |[],_::_,_,_,_,h,_,_,_=>by simp at h
 |_::_,[],_,_,_,h,_,_,_=>by simp at h
 |(i,x)::parts,(i',v)::bS,cs,V4,vs,hm,lM,hb,rC=>by
  simp only[bM,List.cons.injEq]at hm;obtain⟨rfl,hm⟩:=hm;simp only[bM,aW]at lM;simp only[Bx]at hb;split at hb
  case h_2=>cases hb
  case h_1 off ft hk=>
  split at hb
  case h_2=>cases hb
  case h_1 τ hft=>
  split at hb
  case h_2=>cases hb
  case h_1 l hl=>
  obtain⟨h1,hb⟩:=Bv hb;obtain⟨h2,hb⟩:=Bv hb;have h1:=cB h1;have h2:=ko h2;rw[bp]at h1 h2;simp only[NN]at h2;obtain⟨wc,_⟩:=ig lM.1 hl;have e1:=wc.length;have e2:=rC.length;obtain⟨vs',h3,h4⟩:=BB gv vm parts bS _ V4 (dB vs off v.cells.toList) hm lM.2 hb (rC.dB off wc);refine⟨vs',?_,h4⟩;rw[Fu (vm _ _ _ _ hk hft) ir aq];exact h3
theorem XH{T:Nat}{parts:Array (Nat×Operand)}(gv:jE P ty)(hs:HS S0 φ objs w)(hρ:∀x,RV (SS S0 φ) w φ (ρA x) (a.eval x))(hop:o.op=.build T parts)
   (h:cS ty ρA (.build T parts)=some v):Out P (execOp a.eval o) S0 φ w v objs:=by
 simp only[cS]at h;split at h
 case h_2=>cases h
 case h_1 sz cq z jN hT=>
 have hτ:=gv _ _ hT;split at h
 case h_2=>cases h
 case h_1 cs rC=>
 cases h;have eI:=hτ.sh;simp only[bH]at eI;obtain⟨fs,hu,hf1,hf2⟩:=eI;obtain⟨zv,Js,VY⟩:=iC hτ w;let g:Field->Nat×Nat:=λf=>(f.offset,((P.info? f.type).map (·.size)).getD 0)
 have hg:(fs.mapM λf=>do pure (f.offset,<-Go.sizeOf f.type):Sem (Array (Nat×Nat))).run P w=.ok (fs.map g) w:=by
  refine TW _ g fs λf hf=>?_
  obtain⟨i,hi,_⟩:=hf2 f hf;simp[Go.sizeOf,typeInfo,hi,g]
 have vm:∀(k off ft:Nat) (τ:Ty),dq jN k=some (off,ft)->ty ft=some τ->(fs.map g)[k]? = some (off,τ.size):=by
  intro k off ft τ hk hft;rw[bE,<-hf1,fP]at hk;cases V5:fs.toList[k]? with
  |none=>simp_all
  |some f=>rw[V5]at hk;simp only[ss,Option.some.injEq,Prod.mk.injEq]at hk;obtain⟨rfl,rfl⟩:=hk;obtain⟨i,z',hi,_,asU,_⟩:=(gv _ _ hft).info;grind
 have hz:aW (SS S0 φ) w φ (z.map λx=>AV.d (.v x)) z:=by have:=aW.map (S:=SS S0 φ) (w:=w) (φ:=φ) (λx=>AV.d (.v x)) id z (λx _=>by simp only[RV];exact .v x);simp_all
 obtain ⟨vs',h1,h2⟩:=BB (S0:=S0) (φ:=φ) (w:=w) gv vm (parts.toList.map λp=>(p.1,ρA p.2)) (parts.toList.map λp=>(p.1,a.eval p.2)) _ cs z
  ir alm rC hz
 refine aZ hs (vv:=.agg vs'.toArray) ?_ (by simp only[RV];simp_all);have XG:(parts.map λ(i,x)=>(i,a.eval x)).toList=parts.toList.map λp=>(p.1,a.eval p.2):=by simp_all
 have hzc:zv.cells=z.toArray:=by grind
 have fo:(Instr.build T (parts.map λ(i,x)=>(i,a.eval x))).run P w=.ok (.agg vs'.toArray) w:=by simp only[Instr.build,Sem.run_bind,Js,Result.andThen_ok,underlying,run_program,hu,Sem.run_pure,hg,XG,hzc,h1]
 simp only[execOp,hop,Sem.run_bind,fo,Result.andThen_ok,Sem.run_pure]
theorem Ku{x:Operand}(hs:HS S0 φ objs w)(hρ:∀x,RV (SS S0 φ) w φ (ρA x) (a.eval x))(hop:o.op=.nilCheck x)(h:cS ty ρA (.nilCheck x)=some v) :
  Out P (execOp a.eval o) S0 φ w v objs:=by
 simp only[cS]at h;have hx:=hρ x;split at h
 case h_1 i off hA=>cases h;rw[hA]at hx;have Rl:=hx;simp only[RV]at Rl;obtain⟨b,_,he⟩:=Rl;exact aZ hs (vv:=.pointer (some ⟨b,off,none⟩)) QP QQ
 case h_2 i s r j hA=>cases h;rw[hA]at hx;have Rl:=hx;simp only[RV]at Rl;obtain⟨⟨b,o',he⟩,_⟩:=Rl;exact aZ hs (vv:=.pointer (some ⟨b,o',none⟩)) QP QQ
 case h_3 l hA=>
  cases h;rw[hA]at hx;have Rl:=hx;simp only[RV]at Rl;generalize he:a.eval x=vx at Rl;cases Rl with
  |@bL _ b o' cs T fr g hS hb hg hr=>
  exact aZ hs (vv:=.pointer (some ⟨b,o',none⟩)) QP QQ
 case h_4 f m c hA=>cases h;rw[hA]at hx;have Rl:=hx;simp only[RV]at Rl;obtain⟨va,vc,he,_⟩:=Rl;exact aZ hs (vv:=.func (.func f) va.toArray vc.toArray) QP QQ
 simp_all
theorem NW{S D:Nat}{x:Operand}(gv:jE P ty)(hs:HS S0 φ objs w)(hρ:∀x,RV (SS S0 φ) w φ (ρA x) (a.eval x))(hop:o.op=.convert S D x)(h:cS ty ρA (.convert S D x)=some v) :
  Out P (execOp a.eval o) S0 φ w v objs:=by
 simp only[cS]at h;have hx:=hρ x;split at h
 case h_2=>cases h
 case h_1 τS hS=>
 obtain⟨d,hu,_⟩:=(gv _ _ hS).und;split at h
 case h_1 sz cq z k k' n hD hA=>cases h;rw[hA]at hx;simp only[RV]at hx;generalize he:a.eval x=vx at hx;cases hx;have hd:=(gv _ _ hD).sh;simp only[bH]at hd;exact aZ hs (vv:=.int k (k.wrap n)) (by simp[execOp,hop,he,convert,run_underlying hu,run_underlying hd,Conv.intToInt]) ym
 case h_2 sz cq z s hD hA=>cases h;rw[hA]at hx;simp only[RV]at hx;generalize he:a.eval x=vx at hx;cases hx;have hd:=(gv _ _ hD).sh;simp only[bH]at hd;exact aZ hs (vv:=.string s) (by simp[execOp,hop,he,convert,run_underlying hu,run_underlying hd]) ym
 simp_all
theorem XJ(gv:jE P ty)(hs:HS S0 φ objs w)(hρ:∀x,RV (SS S0 φ) w φ (ρA x) (a.eval x))(h:cS ty ρA o.op=some v) :
  Out P (execOp a.eval o) S0 φ w v objs:=by
 cases hop:o.op<;>rw[hop]at h<;>try (simp only[cS,reduceCtorEq]at h;done)
 case move x=>simp only[cS,Option.some.injEq]at h;subst h;exact Rh hs hρ (.inl hop)
 case assign x=>simp only[cS,Option.some.injEq]at h;subst h;exact Rh hs hρ (.inr hop)
 case pick c x y=>simp only[cS]at h;exact acp hs hρ hop h
 case build T ps=>exact XH gv hs hρ hop h
 case buildSlice T n ps=>exact EA gv hs hρ hop h
 case binOp op T x y T'=>simp only[cS]at h;exact ahN gv hs hρ hop h
 case unOp op T x=>exact amg hs hρ hop h
 case makeFunc fn x y=>
  cases fn<;>simp only[cS,Option.some.injEq,reduceCtorEq]at h
  subst h;exact Ks hs hρ hop
 case fieldAddr T x k=>exact Ht gv hs hρ hop h
 case field T x k=>exact XE gv hs hρ hop h
 case nilCheck x=>exact Ku hs hρ hop h
 case convert S D x=>exact NW gv hs hρ hop h
 case extract x k=>simp only[cS]at h;split at h;rename_i l hl;exact NV hs hρ hop hl h;cases h
theorem XK(gv:jE P ty)(hs:HS S0 φ objs w)(hρ:∀x,RV (SS S0 φ) w φ (ρA x) (a.eval x))(h:fc ty ρA objs o.op=some v) :
  Out P (execOp a.eval o) S0 φ w v objs:=by
 cases hop:o.op<;>rw[hop]at h<;>try (simp only[fc,reduceCtorEq]at h;done)
 case load T x=>exact XA gv hs hρ hop h
 case call c=>
  obtain⟨XL,args,ts⟩:=c;cases XL<;>try (simp only[fc,reduceCtorEq]at h;done)
  rename_i b;cases b<;>try (simp only[fc,reduceCtorEq]at h;done)
  simp only[fc]at h;split at h;rename_i x t h1 h2;split at h;rename_i τ ht;split at h;rename_i n hn;simp only[Option.some.injEq]at h;subst h;exact ahO gv hs hρ hop h1 h2 ht (ahI hn);cases h;cases h;cases h
theorem XM(gv:jE P ty)(hs:HS S0 φ objs w)(hρ:∀x,RV (SS S0 φ) w φ (ρA x) (a.eval x)){objs':List Ob}(h:iL ty ρA objs o.op=some (v,objs')) :
  Out P (execOp a.eval o) S0 φ w v objs':=by
 cases hop:o.op<;>rw[hop]at h<;>try (simp only[iL,reduceCtorEq]at h;done)
 case alloc T=>simp only[iL]at h;split at h;rename_i τ ht;simp only[Option.some.injEq,Prod.mk.injEq]at h;obtain⟨rfl,rfl⟩:=h;exact Xz gv hs hop ht;cases h
 case box T x=>simp only[iL]at h;split at h;split at h;rename_i l hl;obtain⟨_,h⟩:=TQ h;simp only[Prod.mk.injEq]at h;obtain⟨rfl,rfl⟩:=h;exact ahL hs hρ hop hl;cases h;cases h
 case store T d x=>exact XB gv hs hρ hop h
theorem ke(gv:jE P ty)(hs:HS S0 φ objs w)(hρ:∀x,RV (SS S0 φ) w φ (ρA x) (a.eval x)){objs':List Ob}(h:dk ty ρA objs o.op=some (v,objs')) :
  Out P (execOp a.eval o) S0 φ w v objs':=by
 unfold dk at h;split at h;rename_i v' rY;simp only[Option.some.injEq,Prod.mk.injEq]at h;obtain⟨rfl,rfl⟩:=h;exact XJ gv hs hρ rY;split at h;rename_i v' rY;simp only[Option.some.injEq,Prod.mk.injEq]at h;obtain⟨rfl,rfl⟩:=h;exact XK gv hs hρ rY;exact XM gv hs hρ h
end
end ax
namespace ax
open Go Go.RowKit
structure G where
 P:Program
 F:Fence
 dep:Nat
 ty:Nat->Option Ty
 N:Nat
 w0:World
 S0:Nat->Prop
 X0:Nat->Prop
 φ0:List bI
 Y:YP
 XN:Bool
 rZ:List (Nat×List AV×List AV):=[]
variable{objs objs' a:List Ob}{w:World}{o:Oper}{φ:List bI}{E E':bq}{v:AV}{P:Program}{n0 k m:Nat}{g:G}
def apC (x:String)(o:Obj):Prop :=
 (x = "internal/strconv.uint64pow10" → ∃e k,o=.cells (((List.range 20).map fun i=>((10 ^ i:Nat):Int)).map fun z=>Value.int .u64 z).toArray e k) ∧
 (x = "internal/bytealg.MaxLen" → ∃ (m:Int),∃e k,o=.cells #[.int .i64 m] e k)
def gI (P:Program)(S:Nat→Prop)(w:World):Prop :=∀x,x = "internal/strconv.uint64pow10" ∨ x = "internal/bytealg.MaxLen" → ∀i,P.globalNamed x=some i→S i∧∃o,w.heap[i]? = some o∧Re o∧apC x o
theorem gI.jj{S S':Nat->Prop}{w w':World}(h:gI P S w)(hk:dL S w S' w'):gI P S' w':=λx hx i hi=>by obtain⟨h1,o,h2,h3,h4⟩:=h x hx i hi;obtain⟨h5,h6⟩:=hk i h1 ⟨o,h2,h3⟩;simp_all
structure di (g:G):Prop where
 fn:∀f,g.F.fn f
 amb:gI g.P (λb=>g.S0 b/\¬ g.X0 b/\b<g.w0.heap.size) g.w0
 depth:g.F.depth=none
 alive:g.F.alive=false
 ty:jE g.P g.ty
 mixed:g.P.follows .mixedOrders=true
structure Fr0 (g:G) (φ:List bI) (w:World):Prop where
 size:g.w0.heap.size<=w.heap.size
 os:w.os=g.w0.os
 tape:w.tape=g.w0.tape
 out:w.output=g.w0.output
 fr:∀b,b<g.w0.heap.size->¬ g.X0 b->w.heap[b]? = g.w0.heap[b]?
 gen:∀(i l:Nat) (I:Nat->(Nat->Prop)->(Nat->Prop)->World->Prop) (B:Nat->Prop),φ[i]? = some (.ext l I B)->∃B0,g.φ0[i]? = some (.ext l I B0)
 le:kc g.φ0 φ
theorem di.Fv(hg:di g)(h2:∀b,eH φ b->g.w0.heap.size<=b\/g.X0 b)(h6:Fr0 g φ w):gI g.P (SS g.S0 φ) w :=hg.amb.jj λb hb _=>⟨⟨hb.1,λhc=>(h2 b hc).elim (λh=>by omega) hb.2.1⟩,h6.fr b hb.2.2 hb.2.1⟩
theorem gI.up{S S':Nat->Prop}(h:gI P S w)(hs:∀b,S b->S' b):gI P S' w:=h.jj λb hb _=>⟨hs b hb,rfl⟩
theorem gI.at0{S X:Nat->Prop}(h:gI P S w)(hx:∀b,S b->¬ X b):gI P (λb=>S b/\¬ X b/\b<w.heap.size) w:=h.jj λb hb ⟨_,ho,_⟩=>⟨⟨hb,hx b hb,NS ho⟩,rfl⟩
theorem Fr0.Kn{φ φ':List bI}(h:Fr0 g φ w)(he:∀(i l:Nat) (I:Nat->(Nat->Prop)->(Nat->Prop)->World->Prop) (B:Nat->Prop),φ'[i]? = some (bI.ext l I B)->∃(B0:Nat->Prop),φ[i]? = some (bI.ext l I B0))(hl:kc g.φ0 φ'):Fr0 g φ' w :=⟨h.size,h.os,h.tape,h.out,h.fr,λi l I B hi=>let ⟨_,h0⟩:=he i l I B hi;h.gen _ _ _ _ h0,hl⟩
def lg (S:Nat->Prop)(w:World)(φ:List bI)(E:bq)(a:Act):Prop:=∀t,RV S w φ (lk E t) (a.tmps.getD t undef)
def EB (g:G)(φ:List bI)(ds:List Deferred)(w:World):Prop :=(g.XN=false->ds=[])/\ds.Nodup/\∀d∈ds,∃D,d={target:=.collected D,args:=#[]}/\g.w0.heap.size<=D/\¬ eH φ D/\w.heap[D]? = some (.deferred (some []))
def wL (S:Nat->Prop) (w:World) (φ:List bI):List (Nat×List AV×List AV)->List Deferred->Prop|[],[]=>True|(f,fs,cs)::l,d::ds=>(∃va vc:List Value,d={target:=.fn (.func f) vc.toArray,args:=va.toArray}/\aW S w φ fs va/\aW S w φ cs vc)/\wL S w φ l ds|_,_=>False
def JA (g:G)(φ:List bI)(ds:List Deferred)(w:World):Prop:=∃ds1 rX,ds=ds1++rX/\EB g φ ds1 w/\wL (SS g.S0 φ) w φ g.rZ rX
theorem wL.mono{S S':Nat->Prop}{w w':World}{φ φ':List bI}(hk:dL S w S' w')(hl:kc φ φ'):∀{l:List (Nat×List AV×List AV)} {ds:List Deferred},wL S w φ l ds->wL S' w' φ' l ds|[],[],_=>trivial|[],_::_,h=>by simp[wL]at h|_::_,[],h=>by simp[wL]at h|(f,fs,cs)::l,d::ds,h=>by obtain⟨⟨va,vc,h1,h2,h3⟩,h4⟩:=h;exact⟨⟨va,vc,h1,h2.mono hk hl,h3.mono hk hl⟩,h4.mono hk hl⟩
theorem wL.nil{S:Nat->Prop}{w:World}{φ:List bI}{ds:List Deferred}(h:wL S w φ [] ds):ds=[]:=by
 cases ds with
 |nil=>rfl
 |cons d ds=>simp[wL]at h
theorem JA.none{ds:List Deferred}(jP:g.rZ=[])(h:EB g φ ds w):JA g φ ds w:=⟨ds,[],by simp,h,by rw[jP];trivial⟩
theorem JA.only{ds:List Deferred}(jP:g.rZ=[])(h:JA g φ ds w):EB g φ ds w:=by obtain⟨ds1,rX,e,h1,h2⟩:=h;rw[jP]at h2;rw[e,h2.nil,yq];exact h1
def fi (g:G)(E:bq)(objs:List Ob)(a:Act)(w:World):Prop :=∃φ,HS g.S0 φ objs w/\(∀b,eH φ b->g.w0.heap.size<=b\/g.X0 b)/\lg (SS g.S0 φ) w φ E a/\a.tmps.size=g.N/\JA g φ a.defers w/\Fr0 g φ w
def bJ (x y:AV):Prop:=∀S w φ v,RV S w φ x v->RV S w φ y v
theorem bJ.refl(x:AV):bJ x x:=λ_ _ _ _ h=>h
theorem bJ.trans{x y z:AV}(h:bJ x y)(k:bJ y z):bJ x z:=λS w φ v hv=>k S w φ v (h S w φ v hv)
theorem bJ.any(x:AV):bJ x .any:=λ_ _ _ _ _=>by simp[RV]
def Af (E E':bq):Prop:=∀t,bJ (lk E t) (lk E' t)
theorem fi.Ag{a:Act}(h:Af E E')(hs:fi g E objs a w):fi g E' objs a w:=by obtain⟨φ,h1,h2,h3,h4⟩:=hs;exact⟨φ,h1,h2,λt=>h t _ _ _ _ (h3 t),h4⟩
theorem tA{a b:Nat}(h:a≠b):Nat.beq a b=false:=by cases hb:Nat.beq a b;rfl;simp_all
theorem aml(E:bq)(t u:Nat):lk (rm E t) u=if t=u then .any else lk E u:=by
 induction E with
 |nil=>simp[rm,lk]
 |cons x r ih=>obtain⟨k,v⟩:=x;simp only[rm,lk];cases hk:Nat.beq k t;simp only [cond_false,lk];grind;have:=cB hk; subst this;simp only[cond_true,ih];by_cases hku:k=u;subst hku;simp;have:Nat.beq k u=false:=tA hku;simp_all
theorem yw(E:bq)(t u:Nat)(v:AV):lk (put E t v) u=if t=u then v else lk E u:=by simp only[put,lk];by_cases h:t=u;subst h;simp;have:Nat.beq t u=false:=tA h;simp[this,aml,h]
theorem gz(E:bq)(d:Option Nat)(u:Nat)(v:AV):lk (bh E d v) u=if d=some u then v else lk E u:=by
 cases d with
 |none=>simp[bh]
 |some t=>simp[bh,yw]
theorem Af.bh{E E':bq}(h:Af E E')(d:Option Nat){v v':AV}(hv:bJ v v'):Af (bh E d v) (bh E' d v'):=λt=>by rw[gz,gz];split;exact hv;exact h t
inductive cI where
 |still|look (m:Nat)|bT (b:Nat)
 deriving DecidableEq
@[match_pattern] abbrev cI.load:cI:=.look 1
@[match_pattern] abbrev cI.Fw:cI:=.look 3
@[match_pattern] abbrev cI.grow:cI:=.bT 1
@[match_pattern] abbrev cI.jz:cI:=.bT 9
def rD (pf:Nat->cI):cI :=
 match pf 4000000007 with
 | .look 3=>.look 3
 |_=>.look 1
def Fx (pf:Nat->cI):cI :=
 match pf 4000000006 with
 | .bT 200=>.still
 | .bT 201=>.look 10001
 |_=>rD pf
def Rm (pf:Nat->cI):cI :=
 match pf 4000000004 with
 | .bT 1=>.bT 1
 |_=>rD pf
def Rn (pf:Nat->cI):cI :=
 match pf 4000000005 with
 | .bT 0=>.bT 0
 |_=>.still
def jQ (pf:Nat->cI)(t:Nat):Bool :=
 match pf (Nat.add 4000100000 t)with
 | .look m=>Nat.blt 3 m
 | .bT n=>Nat.ble 100 n
 |_=>false
def kL (pf:Nat->cI):Operand->cI
 | .tmp t=>match pf (Nat.add 4000100000 t)with
  | .look m=>bif Nat.blt 3 m then(bif Nat.beq m 200 then .still else .look m)else rD pf
  | .bT n=>bif Nat.ble 100 n then .look 0 else rD pf
  |_=>rD pf
 |_=>rD pf
def js (pf:Nat->cI):Operand->cI
 | .tmp t=>match pf (Nat.add 4000100000 (Nat.add 100000 t))with
  | .bT n=>bif Nat.ble 100 n then .bT n else .jz
  |_=>.jz
 |_=>.jz
def nF (pf:Nat->cI)(args:Array Operand):cI :=
 match args.toList with
 |[.tmp t]=>match pf (Nat.add 4000100000 (Nat.add 200000 t))with
  | .look m=>bif Nat.blt 3 m then .look m else .load
  |_=>.load
 |_=>.load
def amn (pf:Nat->cI):cI :=
 match pf 4000000008 with
 | .bT 3=>.bT 3
 |_=>.jz
def Hv (pf:Nat->cI):cI :=
 match pf 4000000010 with
 | .bT 90=>.jz
 |_=>.still
def Ob.lvl (n0 i:Nat):Ob->Nat| .arr _ _ _=>1| .Jv _ _=>1| .qG _ _ _=>1| .map _=>2| .uj _=>2|_=>if i<n0 then 3 else 10
def Ob.JN:Ob->Bool| .box _=>true|_=>false
def pF (n0 k i:Nat)(x:Ob):Prop:=(k<100/\x.lvl n0 i<=k)\/k=100+i\/(k=10000/\x.JN=true)
theorem Ob.Hw(n0 i:Nat)(x:Ob):1<=x.lvl n0 i/\x.lvl n0 i<=10:=by unfold Ob.lvl;grind
def Gr (n0 k:Nat)(objs objs':List Ob):Prop:=∀(i:Nat) (x:Ob),objs[i]? = some x->∃y,objs'[i]? = some y/\(y=x\/(pF n0 k i x/\pF n0 k i y))
def okT (b m:Nat):Bool:=Nat.blt 0 m&&(Nat.beq b 0||(Nat.blt b m&&Nat.blt b 9&&Nat.blt m 100)||(Nat.ble 100 b&&Nat.beq m (Nat.succ b)))
theorem wH{b m:Nat}(h:okT b m=true):0<m/\b≠9/\(b=0\/(b<m/\m<100)\/m=b+1):=by simp only[okT,aV,oy,Nat.blt_eq,J8,Nat.beq_eq]at h;omega
theorem Gr.refl(o:List Ob):Gr n0 k o o:=λ_ x h=>⟨x,h,.inl rfl⟩
theorem Gr.mono{n0 b m:Nat}{a c:List Ob}(h:Gr n0 b a c)(hk:okT b (m+1)=true):Gr n0 m a c:=λi x hx=>by
 obtain⟨y,h1,h2⟩:=h i x hx;obtain⟨_,_,h3⟩:=wH hk;refine⟨y,h1,h2.imp id λ⟨p,q⟩=>?_⟩;have hx:=x.Hw n0 i;have hy:=y.Hw n0 i
 have key:∀z:Ob,1<=z.lvl n0 i->pF n0 b i z->pF n0 m i z:=λz hz h=>by
  unfold pF at h ⊢;rcases h3 with h3|h3|h3
  rcases h with h|h|h<;>omega
  rcases h with h| h| h
  exact .inl aq;omega;omega;have e:b=m:=by omega
  rw[<-e];exact h
 simp_all
theorem Gr.trans{a b c:List Ob}(h:Gr n0 k a b)(h':Gr n0 k b c):Gr n0 k a c:=λi x hx=>by obtain⟨y,h1,h2⟩:=h i x hx;obtain⟨z,h3,h4⟩:=h' i y h1;grind
theorem Gr.cmp{a b c:List Ob}(h:Gr n0 k a c)(h':Gr n0 k b c):Gr n0 k a b\/Gr n0 k b a:=by
 have key:∀{a b:List Ob},Gr n0 k a c->Gr n0 k b c->a.length<=b.length->Gr n0 k a b:=λ{a b} h h' hl i x hx=>by
  have hi:=(fu.1 hx).1;obtain⟨z,h1,h2⟩:=h i x hx;obtain⟨z',h3,h4⟩:=h' i b[i] (dG aq);rw[h1]at h3;cases h3;refine⟨b[i],dG aq,?_⟩;rcases h2 with rfl|⟨h2,V3⟩
  rcases h4 with h4| ⟨h4,h4'⟩
  exact .inl h4.symm;exact .inr ⟨h4',h4⟩;rcases h4 with h4| ⟨h4,h4'⟩
  rw[<-h4];exact .inr ⟨h2,V3⟩;exact .inr ⟨h2,h4⟩
 grind
theorem Gr.add(a b:List Ob):Gr n0 k a (a++b):=λi x hx=>⟨x,by grind,.inl rfl⟩
theorem Gr.Fy{n0 k i:Nat}{a b:List Ob}{x:Ob}(h:Gr n0 k a b\/Gr n0 k b a)(hx:b[i]? = some x)(hi:i<a.length)(hl:¬ pF n0 k i x):a[i]? = some x:=by
 rcases h with h|h
 obtain ⟨y,h1,h2⟩:=h i a[i] (dG hi);simp_all;obtain ⟨y,h1,h2⟩:=h i x hx;simp_all
theorem Gr.same{n0 k i:Nat}{a b:List Ob}{x:Ob}(h:Gr n0 k a b\/Gr n0 k b a)(hx:b[i]? = some x)(hi:i<a.length)(hl:k<x.lvl n0 i):a[i]? = some x :=Gr.Fy h hx hi (by have:=x.Hw n0 i;unfold pF;omega)
def bQ (pf:Nat->cI)(o:Op):cI :=
 match o with
 | .load _ a=>kL pf a
 | .lookup .. => .look 2
 | .call {callee:=.builtin .len,args,.. }=>nF pf args
 | .call {callee:=.builtin .unsafeSliceData,.. }=>.load
 | .call {callee:=.value (.func f),.. }=>pf f
 | .call {callee:=.builtin .append,.. }=>.grow
 | .call {callee:=.value (.tmp _),.. }=>amn pf
 | .call _=>.jz
 | .alloc .. => .bT 0
 | .box .. => .bT 0
 | .store _ a _=>js pf a
 | .makeMap .. => .bT 0
 | .makeSlice .. => .bT 0
 | .mapUpdate .. => .bT 2
 | .insert .. => .bT 2
 | .slice .. => Rm pf
 | .buildSlice .. => Rn pf
 | .indexAddr .. => Fx pf
 | .index .. => rD pf
 | .convert .. => Hv pf
 | .defer .. => .jz
 | .range .. => .jz
 | .next .. => .jz
 |_=>.still
def XO (g:G)(ad:Array Oper)(o:Oper)(K:Act->World->Prop)(a:Act)(w:World):Prop :=∀Q:Exit->Act->World->Prop,if Region.wanted o (yielded ad a.tmps)then o.wpIn g.F g.dep g.P a w K Q else(∀f,o.about g.P w a.eval=some f->g.F.fn f)/\K (a.put o.dst undef) w
structure aK (g:G) (ad:Array Oper) (o:Oper) (E:bq) (objs:List Ob) (c:cI) (v:AV) (objs':List Ob):Prop where
 same:(∀b,c≠.bT b)->objs'=objs
 grow:∀b,c=.bT b->b≠9->Gr g.φ0.length b objs objs'
 step:∀(E₁:bq) (bW kM:List Ob) (a:Act) (w:World),(∀t∈o.looksAt ad,bJ (lk E₁ t) (lk E t)) ->
  ((c=.still/\kM=bW)\/(∃m,c=.look (m+1)/\(Gr g.φ0.length m bW objs\/Gr g.φ0.length m objs bW)/\kM=bW)\/(bW=objs/\kM=objs'))->fi g E₁ bW a w->XO g ad o (λa' w'=>fi g (bh E₁ o.dst v) kM a' w') a w
structure BC (g:G) (ad:Array Oper) (o:Oper) (E:bq) (objs:List Ob) (c:cI) (v:AV) (objs':List Ob):Prop where
 same:(∀b,c≠.bT b)->objs'=objs
 grow:∀b,c=.bT b->b≠9->Gr g.φ0.length b objs objs'
 step:∀(E₁:bq) (bW kM:List Ob) (a:Act) (w:World),(∀t∈o.looksAt ad,bJ (lk E₁ t) (lk E t)) ->
  ((c=.still/\kM=bW)\/(∃m,c=.look (m+1)/\Gr g.φ0.length m bW objs/\kM=bW)\/(bW=objs/\kM=objs'))->fi g E₁ bW a w->XO g ad o (λa' w'=>fi g (bh E₁ o.dst v) kM a' w') a w
theorem aK.front{ad:Array Oper}{c:cI}(h:aK g ad o E objs c v objs'):BC g ad o E objs c v objs' :=⟨h.same,h.grow,λE₁ o₁ jF a w h1 h2 h3=>h.step E₁ o₁ jF a w h1 (h2.imp id (Or.imp (λ⟨m,x,y,z⟩=>⟨m,x,.inl y,z⟩) id)) h3⟩
def Dr (g:G) (pf:Nat->cI) (ad:Array Oper):List Oper->bq->List Ob->(bq->List Ob->Prop)->Prop|[],E,objs,K=>K E objs|o::r,E,objs,K=>∃v objs',aK g ad o E objs (bQ pf o.op) v objs'/\Dr g pf ad r (bh E o.dst v) objs' K
def KC (K:bq->List Ob->Prop):Prop:=∀E E' objs,Af E E'->K E' objs->K E objs
def gQ (pf:Nat->cI)(ad:Array Oper)(x y:Oper):Bool :=
 (match x.dst with|some d=>(y.looksAt ad).contains d||y.dst==some d|none=>false) ||
 (match y.dst with|some d=>(x.looksAt ad).contains d|none=>false) ||
 (match bQ pf x.op,bQ pf y.op with| .still,_=>false|_,.still=>false| .look _,.look _=>false| .look m,.bT b=>!(okT b m)| .bT b,.look m=>!(okT b m)|_,_=>true)
variable {g:G} {pf:Nat->cI} {ad:Array Oper}
theorem aK.Ag{c:cI}(h:aK g ad o E' objs c v objs')(he:Af E E'):aK g ad o E objs c v objs' :=⟨h.same,h.grow,λE₁ o₁ jF a w h1 h2 h3=>h.step E₁ o₁ jF a w (λt ht=>(h1 t ht).trans (he t)) h2 h3⟩
theorem aK.looks{c:cI}(h:aK g ad o E' objs c v objs')(he:∀t∈o.looksAt ad,lk E t=lk E' t):aK g ad o E objs c v objs' :=⟨h.same,h.grow,λE₁ o₁ jF a w h1 h2 h3=>h.step E₁ o₁ jF a w (λt ht=>by simp_all) h2 h3⟩
theorem BC.looks{c:cI}(h:BC g ad o E' objs c v objs')(he:∀t∈o.looksAt ad,lk E t=lk E' t):BC g ad o E objs c v objs' :=⟨h.same,h.grow,λE₁ o₁ jF a w h1 h2 h3=>h.step E₁ o₁ jF a w (λt ht=>by simp_all) h2 h3⟩
theorem aK.still{o:Oper}{E:bq}{objs objs':List Ob}{v:AV}(h:aK g ad o E objs .still v objs')(ek:List Ob):aK g ad o E ek .still v ek :=
 ⟨λ_=>rfl,(λ_ h=>by cases h),λE₁ o₁ jF a w h1 h2 h3=>by
  have h5:jF=o₁:=by grind
  exact h.step E₁ o₁ jF a w h1 (.inl ⟨rfl,h5⟩) h3⟩
theorem BC.still{o:Oper}{E:bq}{objs objs':List Ob}{v:AV}(h:BC g ad o E objs .still v objs')(ek:List Ob):BC g ad o E ek .still v ek :=
 ⟨λ_=>rfl,(λ_ h=>by cases h),λE₁ o₁ jF a w h1 h2 h3=>by
  have h5:jF=o₁:=by grind
  exact h.step E₁ o₁ jF a w h1 (.inl ⟨rfl,h5⟩) h3⟩
theorem BC.down{objs ek objs':List Ob}(h:BC g ad o E objs (.look (m+1)) v objs')(hg:Gr g.φ0.length m ek objs):BC g ad o E ek (.look (m+1)) v ek :=
 ⟨fun _=>rfl,(λ_ h=>by cases h),λE₁ o₁ jF a w h1 h2 h3=>by
  have h5:Gr g.φ0.length m o₁ ek/\jF=o₁:=by
   rcases h2 with ⟨h2,_⟩|⟨m',h2,h4⟩|⟨h2,h4⟩
   cases h2;simp_all;subst h2;exact⟨.refl _,h4⟩
  exact h.step E₁ o₁ jF a w h1 (.inr (.inl ⟨m,rfl,h5.1.trans hg,h5.2⟩)) h3⟩
theorem aK.later{objs ek objs':List Ob}(h:aK g ad o E objs (.look (m+1)) v objs')(hg:Gr g.φ0.length m objs ek):aK g ad o E ek (.look (m+1)) v ek :=
 ⟨fun _=>rfl,(λ_ h=>by cases h),λE₁ o₁ jF a w h1 h2 h3=>by
  have h5:(Gr g.φ0.length m o₁ objs\/Gr g.φ0.length m objs o₁)/\jF=o₁:=by
   rcases h2 with ⟨h2,_⟩|⟨m',h2,V3|V3,h4⟩|⟨h2,h4⟩
   cases h2;cases h2;exact⟨V3.cmp hg,h4⟩;cases h2;exact⟨.inr (hg.trans V3),h4⟩;simp_all
  exact h.step E₁ o₁ jF a w h1 (.inr (.inl ⟨m,rfl,h5.1,h5.2⟩)) h3⟩
theorem Dr.Ag{K:bq->List Ob->Prop}(hK:KC K):∀{l:List Oper} {E E':bq} {objs:List Ob},Af E E'->Dr g pf ad l E' objs K->Dr g pf ad l E objs K|[],_,_,_,he,h=>hK _ _ _ he h|_::_,_,_,_,he,h=>by obtain⟨v,objs',h1,h2⟩:=h;exact⟨v,objs',h1.Ag he,Dr.Ag hK (he.bh _ (.refl _)) h2⟩
theorem TX{x y:Oper}(h:gQ pf ad x y=false) :
  (∀d,x.dst=some d->d ∉ y.looksAt ad/\y.dst≠some d)/\(∀d,y.dst=some d->d ∉ x.looksAt ad) /\
  (bQ pf y.op=.still\/bQ pf x.op=.still\/(∃m m',bQ pf y.op=.look m/\bQ pf x.op=.look m')\/(∃m b,bQ pf y.op=.look (m+1)/\bQ pf x.op=.bT b/\okT b (m+1)=true)\/(∃m b,bQ pf y.op=.bT b/\bQ pf x.op=.look (m+1)/\okT b (m+1)=true)):=by
 simp only[gQ,Ez]at h;obtain⟨⟨h1,h2⟩,h3⟩:=h;refine⟨λd hd=>?_,λd hd=>?_,?_⟩;simp_all;simp_all;cases hy:bQ pf y.op with
 |still=>exact .inl rfl
 |look m=>
  cases hx:bQ pf x.op with
  |still=>simp_all
  |look m'=>simp_all
  |bT b=>rw[hx,hy]at h3;simp only[J9]at h3;exact al3
 |bT b=>
  cases hx:bQ pf x.op with
  |still=>simp_all
  |look m=>rw[hx,hy]at h3;simp only[J9]at h3;exact al3
  |bT b'=>simp_all
theorem Dr.front{K:bq->List Ob->Prop}(hK:KC K){y:Oper}{post:List Oper}:∀{pre:List Oper} {E:bq} {objs:List Ob},(∀x∈pre,gQ pf ad x y=false) ->
  Dr g pf ad (pre++y::post) E objs K->∃v objs',BC g ad y E objs (bQ pf y.op) v objs'/\Dr g pf ad (pre++post) (bh E y.dst v) objs' K
 |[],_,_,_,⟨v,o1,h1,h2⟩=>⟨v,o1,h1.front,h2⟩
 |x::pre,E,objs,hc,⟨vx,o1,hx,h2⟩=>by
  obtain⟨vy,o2,hy,hr⟩:=Dr.front hK (λz hz=>hc z (by simp[hz])) h2;obtain⟨c1,c2,c3⟩:=TX (hc x aD);have ey:∀t∈y.looksAt ad,lk E t=lk (bh E x.dst vx) t:=λt ht=>by rw[gz];grind
  have ex:∀t∈x.looksAt ad,lk (bh E y.dst vy) t=lk E t:=λt ht=>by rw[gz];grind
  have XP:Af (bh (bh E y.dst vy) x.dst vx) (bh (bh E x.dst vx) y.dst vy):=λt=>by
   rw[gz,gz,gz,gz];by_cases h1:x.dst=some t<;>by_cases h2:y.dst=some t
   simp_all;simp[h1,h2,bJ.refl];simp[h1,h2,bJ.refl];simp[h1,h2,bJ.refl]
  rcases c3 with c|c|⟨m,m',c,c'⟩|⟨m,b,c,c',hbm⟩|⟨m,b,c,c',hbm⟩
  rw [c]at hy;have e2:o2=o1:=hy.same aD;subst e2;refine⟨vy,objs,?_,vx,o2,hx.looks ex,Dr.Ag hK XP hr⟩;rw[c];exact(hy.still objs).looks ey;rw [c]at hx;have e1:o1=objs:=hx.same aD;subst e1;refine⟨vy,o2,hy.looks ey,vx,o2,?_,Dr.Ag hK XP hr⟩;rw[c];exact(hx.still o2).looks ex;have e1:o1=objs:=hx.same (by rw [c']; simp);have e2:o2=o1:=hy.same (by rw[c];simp);subst e1;subst e2;exact⟨vy,o2,hy.looks ey,vx,o2,hx.looks ex,Dr.Ag hK XP hr⟩;have hgr:Gr g.φ0.length m objs o1:=(hx.grow b c' (wH hbm).2.1).mono hbm;rw[c]at hy;have e2:o2=o1:=hy.same aD;subst e2;refine⟨vy,objs,?_,vx,o2,hx.looks ex,Dr.Ag hK XP hr⟩;rw[c];exact(hy.down hgr).looks ey;rw [c']at hx;have e1:o1=objs:=hx.same aD;subst e1;refine⟨vy,o2,hy.looks ey,vx,o2,?_,Dr.Ag hK XP hr⟩;rw[c'];exact(hx.later ((hy.grow b c (wH hbm).2.1).mono hbm)).looks ex
end ax
namespace ax
open Go Go.RowKit
variable{Q:Exit->Act->World->Prop}{K:bq->List Ob->Prop}{aM:Array Bool}{objs:List Ob}{w:World}{a:Act}{i:Nat}{o:Oper}{E:bq}
def fV (acc:List Nat)(o:Oper):Nat :=o.after.toList.foldl (λs e=>bif Region.binds .any e then s ||| 2 ^ e.on ||| (dq acc e.on).getD 0 else s) 0
def Ro (pf:Nat->cI) (ad:Array Oper):List Oper->List Nat->List Oper->Bool
 |_,_,[]=>true
 |dz,acc,o::r=>
  (o.after.toList.all λe=>!Region.binds .any e||Nat.blt e.on (len dz)) &&
  (dz.zipIdx.all λx=>!gQ pf ad x.1 o||(fV acc o).testBit x.2) &&
  Ro pf ad (dz++[o]) (acc++[fV acc o]) r
def Rp (pf:Nat->cI)(ad:Array Oper):Bool:=Ro pf ad [] [] ad.toList
inductive Reach (ad:Array Oper):Nat->Nat->Prop
 |one {i j:Nat} {o:Oper} {e:Edge} (h:ad[j]? = some o) (he:e∈o.after.toList) (hb:Region.binds .any e=true) (hi:e.on=i):Reach ad i j
 |step {i j k:Nat} {o:Oper} {e:Edge} (h:ad[j]? = some o) (he:e∈o.after.toList) (hb:Region.binds .any e=true) (hk:e.on=k) (hr:Reach ad i k):Reach ad i j
theorem NQ{acc:List Nat}(h:(fV acc o).testBit i=true) :
  ∃e∈o.after.toList,Region.binds .any e=true/\(e.on=i\/∃m,acc[e.on]? = some m/\m.testBit i=true):=by
 have key:∀(l:List Edge) (s:Nat),(l.foldl (λs e=>bif Region.binds .any e then s ||| 2 ^ e.on ||| (dq acc e.on).getD 0 else s) s).testBit i=true ->
   s.testBit i=true\/∃e∈l,Region.binds .any e=true/\(e.on=i\/∃m,acc[e.on]? = some m/\m.testBit i=true):=by
  intro l;induction l with
  |nil=>simp_all
  |cons e l ih=>
   intro s h;simp only[wC]at h;rcases ih _ h with h|⟨e',h1,h2⟩
   cases hb:Region.binds .any e;rw[hb]at h;exact .inl h;rw [hb]at h;simp only[cond_true,Nat.testBit_or,oy]at h;rcases h with(h|h)|h
   exact .inl h;rw [Nat.testBit_two_pow]at h;exact .inr ⟨e,by simp,hb,.inl ln⟩;rw [bE]at h;cases hm:acc[e.on]? with
   |none=>rw[hm]at h;simp at h
   |some m=>rw[hm]at h;exact .inr ⟨e,by simp,hb,.inr ⟨m,hm,by simpa using h⟩⟩
   grind
 rcases key o.after.toList 0 h with h|h
 simp at h;exact h
section
variable {pf:Nat->cI} {ad:Array Oper}
def Hx (p q:Nat) (pf:Nat->cI) (ad:Array Oper):List Oper->List Nat->List Oper->Bool
 |_,_,[]=>true
 |dz,acc,o::r=>
  (o.after.toList.all λe=>!Region.binds .any e||Nat.blt e.on (len dz)) &&
  (dz.zipIdx.all λx=>!gQ pf ad x.1 o||(fV acc o).testBit x.2||(Nat.beq x.2 p&&Nat.beq (len dz) q)) &&
  (Nat.ble (len dz) q||(fV acc o).testBit p||(fV acc o).testBit q) &&
  Hx p q pf ad (dz++[o]) (acc++[fV acc o]) r
def ahS (p q:Nat)(pf:Nat->cI)(ad:Array Oper):Bool:=Nat.beq (Nat.succ p) q&&Nat.blt q (len ad.toList)&&Hx p q pf ad [] [] ad.toList
theorem BD:∀(az dz:List Oper) (acc:List Nat),ad.toList=dz++az->acc.length=dz.length->(∀j i m,acc[j]? = some m->m.testBit i=true->Reach ad i j)->Ro pf ad dz acc az=true ->
  ∀(j:Nat) (o:Oper),dz.length<=j->ad[j]? = some o->(∀e∈o.after.toList,Region.binds .any e=true->e.on<j)/\∀(i:Nat) (x:Oper),i<j->ad[i]? = some x->gQ pf ad x o=true->Reach ad i j
 |[],dz,acc,h,_,_,_,j,o,hj,ho=>by grind
 |o'::r,dz,acc,h,hl,hr,hg,j,o,hj,ho=>by
  simp only[Ro,aV]at hg;obtain⟨⟨h1,h2⟩,h3⟩:=hg;have Hn:ad[dz.length]? = some o':=by rw[<-Array.getElem?_toList,h];simp
  have hm:∀i,(fV acc o').testBit i=true->Reach ad i dz.length:=λi hi=>by exact ach
  rcases ab7 hj with hj|hj
  subst hj;rw[Hn]at ho;cases ho;refine⟨λe he Rq=>?_,λi x hi hx hc=>?_⟩;have:=fB.1 h1 e he;rw[bp]at this;simp_all;have hmem:(x,i)∈dz.zipIdx:=by rw[Xe];rw[<-Array.getElem?_toList,h,mv hi]at hx;exact hx
  grind;refine BD r (dz++[o']) (acc++[fV acc o']) (by rw [h]; simp) (by simp [hl]) (λj i m hj hi=>?_) h3 j o J4 ho;grind
theorem zo{p q:Nat}:∀(az dz:List Oper) (acc:List Nat),ad.toList=dz++az->acc.length=dz.length->(∀j i m,acc[j]? = some m->m.testBit i=true->Reach ad i j)->Hx p q pf ad dz acc az=true ->
  ∀(j:Nat) (o:Oper),dz.length<=j->ad[j]? = some o->(∀e∈o.after.toList,Region.binds .any e=true->e.on<j)/\(∀(i:Nat) (x:Oper),i<j->ad[i]? = some x->gQ pf ad x o=true->Reach ad i j\/(i=p/\j=q))/\(q<j->Reach ad p j\/Reach ad q j)
 |[],dz,acc,h,_,_,_,j,o,hj,ho=>by grind
 |o'::r,dz,acc,h,hl,hr,hg,j,o,hj,ho=>by
  simp only[Hx,aV]at hg;obtain⟨⟨⟨h1,h2⟩,h4⟩,h3⟩:=hg;have Hn:ad[dz.length]? = some o':=by rw[<-Array.getElem?_toList,h];simp
  have hm:∀i,(fV acc o').testBit i=true->Reach ad i dz.length:=λi hi=>by exact ach
  rcases ab7 hj with hj|hj
  subst hj;rw[Hn]at ho;cases ho;refine⟨λe he Rq=>?_,λi x hi hx hc=>?_,λhq=>?_⟩;have:=fB.1 h1 e he;rw[bp]at this;simp_all;have hmem:(x,i)∈dz.zipIdx:=by rw[Xe];rw[<-Array.getElem?_toList,h,mv hi]at hx;exact hx
  have:=fB.1 h2 _ hmem;simp only[hc,u9,uq,oy,aV]at this;rcases this with this|⟨g1,g2⟩
  simp_all;rw[bp]at g2;simp_all;simp only [oy,bp,J8]at h4;grind;refine zo r (dz++[o']) (acc++[fV acc o']) (by rw [h]; simp) (by simp [hl]) (λj i m hj hi=>?_) h3 j o J4 ho;grind
theorem BE(h:Rp pf ad=true)(j:Nat)(o:Oper)(ho:ad[j]? = some o) :
  (∀e∈o.after.toList,Region.binds .any e=true->e.on<j)/\∀(i:Nat) (x:Oper),i<j->ad[i]? = some x->gQ pf ad x o=true->Reach ad i j :=
 BD ad.toList [] [] rfl rfl aD h j o fO ho
def Cl (ad:Array Oper)(aM:Array Bool):Prop :=∀(k:Nat) (o:Oper),aM.getD k false=true->ad[k]? = some o->∀e∈o.after.toList,Region.binds .any e=true->aM.getD e.on false=true
theorem kN(hc:Cl ad aM){i j:Nat}(h:Reach ad i j) :
  (∀(o:Oper),ad[j]? = some o->∀e∈o.after.toList,Region.binds .any e=true->aM.getD e.on false=true)->aM.getD i false=true:=by
 induction h with
 |one h he hb hi=>grind
 |step h he hb hk hr ih=>
  intro hj;refine ih λo ho e' Ad uL=>?_
  exact hc _ o jD ho e' Ad uL
theorem mem_ready:i∈Region.ready .any ad aM↔i<ad.size/\aM.getD i true=false/\∃o,ad[i]? = some o/\∀e∈o.after.toList,Region.binds .any e=true->aM.getD e.on false=true:=by unfold Region.ready;simp only[List.mem_filter,Ka,aV,Bool.not_eq_eq_eq_not,u9];constructor;rintro ⟨h1,h2,h3⟩;refine⟨h1,h2,ad[i],Ey h1,λe he hb=>?_⟩;rw[Ey h1]at h3;simp only[ss,Option.getD_some]at h3;have:=Array.all_eq_true_iff_forall_mem.1 h3 e (by simpa using he);simpa[hb]using this;grind
variable {g:G}
theorem nH{p q:Nat}(dA:∀(j:Nat) (o:Oper),ad[j]? = some o->(∀e∈o.after.toList,Region.binds .any e=true->e.on<j)/\∀(i:Nat) (x:Oper),i<j->ad[i]? = some x->gQ pf ad x o=true->Reach ad i j\/(i=p/\j=q))(hK:KC K)(hQ:∀E objs a w,K E objs->fi g E objs a w->Q .normal a w) :
  ∀(ab:Nat) (aM:Array Bool) (R:List Nat) (E:bq) (objs:List Ob) (a:Act) (w:World),aM.size=ad.size->Cl ad aM->(∀i,i∈R↔i<ad.size/\aM.getD i true=false)->R.Pairwise (· < ·)->R.length<=ab->(p ∉ R\/q ∉ R) ->
   Dr g pf ad (R.filterMap (ad[·]?)) E objs K->fi g E objs a w->wpAnyIn g.F g.dep g.P .any ad Q ab aM a w:=by
 intro ab;induction ab with
 |zero=>intro aM R E objs a w uM hc hR _ hf hpq hd hs;have:R=[]:=kG.1 aq;subst this;exact alS
 |succ ab ih=>
  intro aM R E objs a w uM hc hR hp hf hpq hd hs;refine⟨λKm=>?_,λi hi=>?_⟩;cases R with
  |nil=>exact hQ E objs a w hd hs
  |cons k R'=>exfalso;exact aly
  obtain ⟨ny,Np,o,ho,ia⟩:=mem_ready.1 hi;obtain⟨pre,post,rfl⟩:=NO ((hR i).2 ⟨ny,Np⟩);have rQ:∀k∈pre,k<i:=λk hk=>(mw.1 hp).2.2 k hk i aD
  have V6:Dr g pf ad (pre.filterMap (ad[·]?)++o::post.filterMap (ad[·]?)) E objs K:=by
   have:(pre++i::post).filterMap (ad[·]?)=pre.filterMap (ad[·]?)++o::post.filterMap (ad[·]?):=by rw[List.filterMap_append,ur,ho]
   rw[<-this];exact hd
  obtain⟨v,objs',lu,fK⟩:=Dr.front hK (λx hx=>by
   obtain⟨k,hk,mE⟩:=yo.1 hx;cases NX:gQ pf ad x o;rfl;exfalso
   have NY:Reach ad k i:=by
    rcases (dA i o ho).2 k x (rQ k hk) mE NX with h|⟨h1,h2⟩
    exact h;exfalso;rcases hpq with hpq|hpq
    exact hpq (by rw[<-h1];simp[hk]);exact hpq (by rw[<-h2];simp)
   have hl:=kN hc NY (λo' we e he hb=>by rw[ho]at we;cases we;exact ia e he hb);obtain⟨_,mn⟩:=(hR k).1 Ew;have hsz:k<aM.size:=by have:=rQ k hk;omega
   simp only[Array.getD,hsz,dif_pos]at hl mn;rw[hl]at mn;cases mn) V6
  have eX:=lu.step E objs objs' a w (λt _=>.refl _) (.inr (.inr ⟨rfl,rfl⟩)) hs Q;refine wpOpIn_mono (K:=λa' w'=>fi g (bh E o.dst v) objs' a' w') (λa' w' fk=>?_) abV;have kZ:∀(k:Nat) (d:Bool),(aM.setIfInBounds i true).getD k d=if k=i then true else aM.getD k d:=by intro k d;simp only[Hm,TH];by_cases mo:k=i;subst mo;simp[uM,ny];rw[if_neg (λe=>mo e.symm),if_neg mo]
  refine ih _ (pre++post) _ objs' a' w' (by simp[uM]) ?_ ?_ ?_ ?_ ?_ ?_ fk;intro k o' hk sA e he hb;rw[kZ]at hk ⊢;by_cases mo:k=i;subst mo;rw[ho]at sA;cases sA;have:=ia e he hb;split;rfl;exact this;rw [if_neg mo]at hk;have:=hc k o' hk sA e he hb;split;rfl;exact this;intro k;rw[kZ];have hk:=hR k
  have rO:i ∉ pre++post:=by
   intro hm;rcases cu.1 hm with hm|hm
   have:=rQ i hm;omega;have:=(k8.1 (mw.1 hp).2.1).1 i hm;omega
  by_cases mo:k=i;subst mo;simp only[if_true];exact⟨λh=>absurd h rO,λh=>by simp at h⟩;simp only [mo,if_false];rw[<-hk];simp[mo];obtain ⟨p1,p2,p3⟩:=mw.1 hp;exact mw.2 ⟨p1,(k8.1 p2).2,λx hx y hy=>p3 x hx y iS⟩;simp at hf ⊢;omega;exact hpq.imp (λh hm=>h ahq) (λh hm=>h ahq);simp_all
theorem TY(dA:Rp pf ad=true)(hK:KC K)(hQ:∀E objs a w,K E objs->fi g E objs a w->Q .normal a w)
  (ab:Nat) (aM:Array Bool) (R:List Nat) (E:bq) (objs:List Ob) (a:Act) (w:World) (h1:aM.size=ad.size) (h2:Cl ad aM) (h3:∀i,i∈R↔i<ad.size/\aM.getD i true=false) (h4:R.Pairwise (· < ·)) (h5:R.length<=ab)
   (h6:Dr g pf ad (R.filterMap (ad[·]?)) E objs K) (h7:fi g E objs a w):wpAnyIn g.F g.dep g.P .any ad Q ab aM a w :=
 nH (p:=ad.size) (q:=0) (λj o ho=>⟨(BE dA j o ho).1,λi x hi hx hc=>.inl ((BE dA j o ho).2 i x hi hx hc)⟩) hK hQ ab aM R E objs a w h1 h2 h3 h4 h5 (.inl λh=>by simp_all) h6 h7
theorem fi.drew(h:fi g E objs a w):fi g E objs a {w with drawn:=w.drawn+1}:=by
 obtain⟨φ,h1,h2,h3,h4,h5,h6⟩:=h;have hk:dL (SS g.S0 φ) w (SS g.S0 φ) {w with drawn:=w.drawn+1}:=λb hb _=>⟨hb,rfl⟩
 exact⟨φ,h1.later cZ (λ_ _=>rfl),h2,λt=>(h3 t).mono hk (.refl _),h4,(let ⟨ds1,rX,e,h,h'⟩:=h5;⟨ds1,rX,e,h,h'.mono hk (.refl _)⟩),⟨h6.size,h6.os,h6.tape,h6.out,h6.fr,h6.gen,h6.le⟩⟩
theorem kf{pre post:List Nat}(uM:aM.size=ad.size)(hc:Cl ad aM)(hR:∀k,k∈pre++i::post↔k<ad.size/\aM.getD k true=false)
  (hp:(pre++i::post).Pairwise (· < ·)) (ny:i<ad.size) (ho:ad[i]? = some o) (ia:∀e∈o.after.toList,Region.binds .any e=true->aM.getD e.on false=true) :
  (aM.setIfInBounds i true).size=ad.size/\Cl ad (aM.setIfInBounds i true)/\(∀k,k∈pre++post↔k<ad.size/\(aM.setIfInBounds i true).getD k true=false)/\(pre++post).Pairwise (· < ·):=by
 have rQ:∀k∈pre,k<i:=λk hk=>(mw.1 hp).2.2 k hk i aD
 have kZ:∀(k:Nat) (d:Bool),(aM.setIfInBounds i true).getD k d=if k=i then true else aM.getD k d:=by intro k d;simp only[Hm,TH];by_cases mo:k=i;subst mo;simp[uM,ny];rw[if_neg (λe=>mo e.symm),if_neg mo]
 refine⟨by simp[uM],?_,?_,?_⟩;intro k o' hk sA e he hb;rw[kZ]at hk ⊢;by_cases mo:k=i;subst mo;rw[ho]at sA;cases sA;have:=ia e he hb;split;rfl;exact this;rw [if_neg mo]at hk;have:=hc k o' hk sA e he hb;split;rfl;exact this;intro k;rw[kZ];have hk:=hR k
 have rO:i ∉ pre++post:=by
  intro hm;rcases cu.1 hm with hm|hm
  have:=rQ i hm;omega;have:=(k8.1 (mw.1 hp).2.1).1 i hm;omega
 by_cases mo:k=i;subst mo;simp only[if_true];exact⟨λh=>absurd h rO,λh=>by simp at h⟩;simp only [mo,if_false];rw[<-hk];simp[mo];grind
def mQ:Op->Bool| .move _=>true| .assign _=>true| .binOp .. => true| .load .. => true| .fieldAddr .. => true| .indexAddr .. => true| .index .. => true| .extract .. => true| .nilCheck (.tmp _)=>true| .call {callee:=.builtin .len,.. }=>true|_=>false
theorem TZ(h:mQ o.op=true)(ro:Option Nat)(ρ:Operand->Value)(P:Program)(w:World):(∃v w',(o.semAt ro ρ).run P w=.ok (.value v) w')\/(∃x w',(o.semAt ro ρ).run P w=.halt x w'):=by
 have key:∀s:Sem Value,(∃v w',(do pure (Next.value (<-s)):Sem Next).run P w=.ok (.value v) w')\/(∃x w',(do pure (Next.value (<-s)):Sem Next).run P w=.halt x w'):=λs=>by
  rw[Sem.run_bind];cases s.run P w with
  |ok v w'=>exact .inl ⟨v,w',rfl⟩
  |halt x w'=>exact .inr ⟨x,w',rfl⟩
 have e:o.semAt ro ρ=execOp ρ o:=Oper.semAt_eq ro ρ o (λc hc=>by rw[hc]at h;cases h);rw[e];unfold execOp;cases ho:o.op<;>rw[ho]at h
 case call c=>
  obtain⟨XL,args,ts⟩:=c;cases XL
  case builtin b=>
   cases b<;>first
    |(cases h;done)
    | (simp only [resolve,Sem.run_bind,Sem.run_pure,Result.andThen_ok,invoke,builtin]
       have:=key (Builtin.len_ ts o.type (args.map ρ));simp only[Sem.run_bind]at this;exact this)
  all_goals cases h
 case nilCheck x=>
  have hp:(∃v w',(runtimePanic .nilDeref:Sem Next).run P w=.ok (.value v) w')\/(∃x w',(runtimePanic .nilDeref:Sem Next).run P w=.halt x w'):=.inr ⟨_,_,rfl⟩
  have bind:∀{α:Type} (s:Sem α) (k:α->Sem Next) (w:World),(∀a w',(∃v w2,(k a).run P w'=.ok (.value v) w2)\/(∃x w2,(k a).run P w'=.halt x w2))->(∃v w',(s >>= k).run P w=.ok (.value v) w')\/(∃x w',(s >>= k).run P w=.halt x w'):=λs k w h=>by
   rw[Sem.run_bind];cases s.run P w with
   |halt x w'=>exact .inr ⟨x,w',rfl⟩
   |ok a w'=>exact h a w'
  simp only;split;exact hp;exact hp;exact hp;split;exact hp;refine bind _ _ _ λa w'=>?_
  refine bind _ _ _ λb w'=>?_
  split;exact bind _ _ _ λc w'=>.inl ⟨_,_,rfl⟩
  exact .inl ⟨_,_,rfl⟩;exact .inl ⟨_,_,rfl⟩;exact .inl ⟨_,_,rfl⟩
 all_goals first
  |(cases h;done)
  |exact key _
  |exact .inl ⟨_,_,rfl⟩
theorem BF{F:Fence}{n:Nat}{P:Program}(ho:ad[i]? = some o)(hp:mQ o.op=true){K K':Act->World->Prop}(h1:wpOpIn F n P ad Q i K a w)(h2:wpOpIn F n P ad Q i K' a w):wpOpIn F n P ad Q i (λa w=>K a w/\K' a w) a w:=by
 unfold wpOpIn at *;rw[ho]at h1 h2 ⊢;simp only at h1 h2 ⊢;split;rename_i hw;rw[if_pos hw]at h1 h2;unfold Oper.wpIn at *;refine⟨h1.1,?_⟩;have h1:=h1.2;have h2:=h2.2;rcases TZ hp F.round a.eval P w with ⟨v,w',e⟩|⟨x,w',e⟩
 rw[e]at h1 h2 ⊢;exact⟨h1,h2⟩;rw [e]at h1 h2 ⊢;cases x<;>exact h1
 simp_all
theorem NZ{p q:Nat}(hpq:p<q)(dA:∀(j:Nat) (o:Oper),ad[j]? = some o->(∀e∈o.after.toList,Region.binds .any e=true->e.on<j)/\(∀(i:Nat) (x:Oper),i<j->ad[i]? = some x->gQ pf ad x o=true->Reach ad i j\/(i=p/\j=q))/\(q<j->Reach ad p j\/Reach ad q j))
   (hK:KC K)  (hQ:∀E objs a w,K E objs->fi g E objs a w->Q .normal a w) {oa ob:Oper} (Hy:ad[p]? = some oa) (wM:ad[q]? = some ob) (post:List Nat) :
  ∀(ab:Nat) (aM:Array Bool) (pre:List Nat) (E E2:bq) (objs ek:List Ob) (a:Act) (w:World),(∀i∈pre,∀o,ad[i]? = some o->mQ o.op=true)->aM.size=ad.size->Cl ad aM->(∀i,i∈pre++p::q::post↔i<ad.size/\aM.getD i true=false)->(pre++p::q::post).Pairwise (· < ·)->(pre++p::q::post).length<=ab ->
   Dr g pf ad (pre.filterMap (ad[·]?)++oa::ob::post.filterMap (ad[·]?)) E objs K->fi g E objs a w->Dr g pf ad (pre.filterMap (ad[·]?)++ob::oa::post.filterMap (ad[·]?)) E2 ek K->fi g E2 ek a w->wpAnyIn g.F g.dep g.P .any ad Q ab aM a w:=by
 have XQ:∀(j:Nat) (o:Oper),ad[j]? = some o->(∀e∈o.after.toList,Region.binds .any e=true->e.on<j)/\∀(i:Nat) (x:Oper),i<j->ad[i]? = some x->gQ pf ad x o=true->Reach ad i j\/(i=p/\j=q):=λj o ho=>⟨(dA j o ho).1,(dA j o ho).2.1⟩
 intro ab;induction ab with
 |zero=>intro aM pre E E2 objs ek a w _ uM hc hR _ hf hd hs _ _;simp at hf
 |succ ab ih=>
  intro aM pre E E2 objs ek a w vm uM hc hR hp hf hd hs Fz nB;obtain⟨pp1,pp2,pp3⟩:=mw.1 hp;have rB:∀k∈pre,k<p:=λk hk=>pp3 k hk p aD
  have oI:∀k∈post,q<k:=λk hk=>(k8.1 (k8.1 pp2).2).1 k hk
  have unl:∀k,k∈pre++p::q::post->aM.getD k false=false:=λk hk=>by exact ahF
  refine⟨λKm=>?_,λi hi=>?_⟩;exfalso
  obtain⟨k,R',hkR⟩:∃k R',pre++p::q::post=k::R':=by
   cases pre with
   |nil=>exact⟨p,_,rfl⟩
   |cons k r=>exact⟨k,_,rfl⟩
  rw[hkR]at hR hp;exact mB5;obtain ⟨ny,Np,o,ho,ia⟩:=mem_ready.1 hi;have jY:∀k,k∈pre++p::q::post->Reach ad k i->False:=λk hk hr=>by have hl:=kN hc hr (λo' we e he hb=>by rw[ho]at we;cases we;exact ia e he hb);rw[unl k hk]at hl;cases hl
  have Ft:∀k x,k∈pre++p::q::post->k<i->ad[k]? = some x->¬ (k=p/\i=q)->gQ pf ad x o=false:=λk x hk mo mE dR=>by
   cases NX:gQ pf ad x o;rfl;exfalso;rcases (dA i o ho).2.1 k x mo mE NX with h|h
   exact jY k hk h;exact dR h
  have hmem:=(hR i).2 ⟨ny,Np⟩;rcases cu.1 hmem with hmem|hmem
  obtain ⟨yx,preB,rfl⟩:=NO hmem;have e1:(yx++i::preB).filterMap (ad[·]?)=yx.filterMap (ad[·]?)++o::preB.filterMap (ad[·]?):=by rw[List.filterMap_append,ur,ho]
  rw[e1]at hd Fz;have afE:∀k∈yx,k<i:=λk hk=>(mw.1 pp1).2.2 k hk i aD
  have NX:∀x∈yx.filterMap (ad[·]?),gQ pf ad x o=false:=λx hx=>by exact alQ
  rw[List.append_assoc,jo]at hd Fz;obtain⟨v,objs',lu,fK⟩:=Dr.front hK NX hd;obtain⟨v2,vn,XS,WW⟩:=Dr.front hK NX Fz;have eX:=lu.step E objs objs' a w (λt _=>.refl _) (.inr (.inr ⟨rfl,rfl⟩)) hs Q;have N0:=XS.step E2 ek vn a w (λt _=>.refl _) (.inr (.inr ⟨rfl,rfl⟩)) nB Q;have XT:=BF (F:=g.F) (n:=g.dep) (P:=g.P) (Q:=Q) ho (vm i aD o ho) (K:=λa' w'=>fi g (bh E o.dst v) objs' a' w') (K':=λa' w'=>fi g (bh E2 o.dst v2) vn a' w') abV (by unfold wpOpIn;rw[ho];exact N0);refine wpOpIn_mono (λa' w' fk=>?_) XT;have kx:=kf (pre:=yx) (post:=preB++p::q::post) uM hc WT TB ny ho ia;refine ih _ (yx++preB) _ _ objs' vn a' w' (λj hj o' we=>vm j ahr o' we) kx.1 kx.2.1 WR WV JZ alq fk.1 alo fk.2;rcases cE.1 hmem with hip| hmem
  subst hip;rw[Hy]at ho;cases ho;have hd1:=hd;obtain⟨v,objs',lu,fK⟩:=Dr.front hK (λx hx=>by obtain⟨k,hk,mE⟩:=yo.1 hx;exact Ft k x Ew (rB k hk) mE (λ⟨_,h2⟩=>by omega)) hd1;have eX:=lu.step E objs objs' a w (λt _=>.refl _) (.inr (.inr ⟨rfl,rfl⟩)) hs Q;refine wpOpIn_mono (K:=λa' w'=>fi g (bh E oa.dst v) objs' a' w') (λa' w' fk=>?_) (by unfold wpOpIn;rw[Hy];exact eX);have kx:=kf (pre:=pre) (post:=q::post) uM hc hR hp ny Hy ia;refine nH XQ hK hQ ab _ (pre++q::post) _ objs' a' w' kx.1 kx.2.1 kx.2.2.1 kx.2.2.2 JZ (.inl λh=>?_) (by rw[List.filterMap_append,ur,wM];exact fK) fk;rcases cu.1 h with h|h
  have:=rB _ h;omega;rcases cE.1 h with h| h
  omega;have:=oI _ h;omega;rcases cE.1 hmem with hiq| hmem
  subst hiq;rw[wM]at ho;cases ho;have hd1:=Fz;obtain⟨v,objs',lu,fK⟩:=Dr.front hK (λx hx=>by obtain⟨k,hk,mE⟩:=yo.1 hx;exact Ft k x Ew (by have:=rB k hk;omega) mE (λ⟨h1,_⟩=>by have:=rB k hk;omega)) hd1;have eX:=lu.step E2 ek objs' a w (λt _=>.refl _) (.inr (.inr ⟨rfl,rfl⟩)) nB Q;refine wpOpIn_mono (K:=λa' w'=>fi g (bh E2 ob.dst v) objs' a' w') (λa' w' fk=>?_) (by unfold wpOpIn;rw[wM];exact eX);have kx:=kf (pre:=pre++[p]) (post:=post) uM hc WT TB ny wM ia;refine nH XQ hK hQ ab _ (pre++p::post) _ objs' a' w' kx.1 kx.2.1 WR WV JZ (.inr λh=>?_) (by rw[List.filterMap_append,ur,Hy];exact fK) fk;rcases cu.1 h with h|h
  have:=rB _ h;omega;rcases cE.1 h with h| h
  omega;have:=oI _ h;omega;exfalso;rcases (dA i o ho).2.2 (oI i hmem)with h|h
  exact jY p aD h;exact jY q aD h
theorem BG{α β:Type}{f h:α->Option β}:∀{l:List α},(∀x∈l,f x=h x)->l.filterMap f=l.filterMap h|[],_=>rfl|x::l,hx=>by rw[ur,ur,hx x aD,BG (l:=l) λy hy=>hx y iS]
theorem iw{α:Type}:∀(l:List α),(List.range l.length).filterMap (l[·]?)=l
 |[]=>by simp
 |x::l=>by
  rw[dx,List.range_succ_eq_map,ur];simp only[TI,List.filterMap_map];have:((λi=>(x::l)[i]?) ∘ Nat.succ)=λi=>l[i]? := by funext i;simp
  rw[this,iw l]
theorem acs(hg:di g)(dA:Rp pf ad=true)(hK:KC K)(hQ:∀E objs a w,K E objs->fi g E objs a w->Q .normal a w)
    (hd:Dr g pf ad ad.toList E objs K)   (hs:fi g E objs a w) (id:Nat):(Code.region id ad true).wpIn g.F g.dep g.P Q a w:=by
 refine wpIn_region_any hg.mixed ?_;refine TY dA hK hQ ad.size (Array.replicate ad.size false) (List.range ad.size) E objs a _ aD ?_ ?_ (TJ) aD ?_ hs.drew;intro k o hk;simp[Array.getD]at hk;simp_all;have:(List.range ad.size).filterMap (ad[·]?)=ad.toList:=by have:=iw ad.toList;simpa using this
 simp_all
def Kv {α:Type}:Nat->List α->List α|0,a::b::r=>b::a::r|n+1,a::r=>a::Kv n r|_,l=>l
theorem Kw{α:Type}:∀(n:Nat) (l:List α) (a b:α),l[n]? = some a->l[n+1]? = some b->l=l.take n++a::b::l.drop (n+2)/\Kv n l=l.take n++b::a::l.drop (n+2)
 |0,x::y::r,a,b,h1,h2=>by simp at h1 h2;subst h1;subst h2;exact⟨rfl,rfl⟩
 |0,[],_,_,h1,_=>by simp at h1
 |0,[_],_,_,_,h2=>by simp at h2
 |n+1,[],_,_,h1,_=>by simp at h1
 |n+1,x::r,a,b,h1,h2=>by
  obtain⟨g1,g2⟩:=Kw n r a b TA (by simpa using h2);constructor;grind;show x::Kv n r=x::(r.take n++b::a::r.drop (n+2))
  rw[<-g2]
theorem XU(hg:di g){p q:Nat}(dA:ahS p q pf ad=true)(hK:KC K)(hQ:∀E objs a w,K E objs->fi g E objs a w->Q .normal a w)
    (vm:((ad.toList.take p).all λo=>mQ o.op)=true) (hd:Dr g pf ad ad.toList E objs K) (Fz:Dr g pf ad (Kv p ad.toList) E objs K)   (hs:fi g E objs a w) (id:Nat):(Code.region id ad true).wpIn g.F g.dep g.P Q a w:=by
 refine wpIn_region_any hg.mixed ?_;simp only[ahS,aV]at dA;obtain⟨⟨h1,h2⟩,h3⟩:=dA;have h1:=cB h1;rw[bp,Nat.blt_eq]at h2;have h1:q=p+1:=h1.symm;subst h1;have hsz:ad.toList.length=ad.size:=by simp
 have Hy:ad[p]? = some ad[p]:=Ey aq;have wM:ad[p+1]? = some ad[p+1]:=Ey aq;have EC:ad.toList.drop p=ad[p]::ad[p+1]::ad.toList.drop (p+2):=by rw[List.drop_eq_getElem_cons aq,List.drop_eq_getElem_cons (i:=p+1) aq];simp
 have nI:List.range ad.size=List.range p++p::(p+1)::List.range' (p+2) (ad.size-(p+2)):=by obtain⟨m,hm⟩:∃m,ad.size=p+(m+1+1):=⟨ad.size-(p+2),by omega⟩;rw[hm,show p+(m+1+1)-(p+2)=m by omega,TK,TK,<-List.range'_append,NP,NP];simp
 have oI:(List.range' (p+2) (ad.size-(p+2))).filterMap (ad[·]?)=ad.toList.drop (p+2):=by
  have h4:=iw ad.toList;rw[hsz,nI,List.filterMap_append]at h4;have h5:(List.range p).filterMap (ad.toList[·]?)=ad.toList.take p:=by have h6:=iw (ad.toList.take p);rw[zi,hsz,Hl aq]at h6;rw[<-h6];apply BG;intro k hk;rw[rP (by simpa using hk)]
  rw[h5]at h4;have h7:ad.toList=ad.toList.take p++ad.toList.drop p:=(List.take_append_drop _ _).symm
  conv at h4=>rhs;rw[h7]
  have h8:=List.append_cancel_left h4;rw[EC]at h8;simp only[ur,Array.getElem?_toList,Hy,wM,List.cons.injEq,true_and]at h8;exact h8
 have rQ:(List.range p).filterMap (ad[·]?)=ad.toList.take p:=by have h6:=iw (ad.toList.take p);rw[zi,hsz,Hl aq]at h6;rw[<-h6];apply BG;intro k hk;rw[rP (by simpa using hk)];simp
 obtain⟨g1,g2⟩:=Kw p ad.toList ad[p] ad[p+1] aD aD;rw[g2]at Fz;rw[g1]at hd;refine NZ (NL p) (ad:=ad) (λj o ho=>zo (ad:=ad) ad.toList [] [] rfl rfl aD h3 j o fO ho) hK hQ Hy wM (List.range' (p+2) (ad.size-(p+2))) ad.size (Array.replicate ad.size false) (List.range p) E E objs objs a _ ?_ aD ?_ ?_ ?_ ?_ ?_ hs.drew ?_ hs.drew;intro j hj o ho;have hj:=Ka.1 hj;have:=fB.1 vm o (wD.2 ⟨j,by rw[rP hj,Array.getElem?_toList];exact ho⟩);exact this;intro k o hk;simp[Array.getD]at hk;intro i;rw[<-nI];simp only[Ka,Array.getD,ahA];constructor;intro h;simp[h];intro h;exact h.1;rw[<-nI];exact TJ;rw[<-nI];simp;rw[rQ,oI];exact hd;grind
theorem wp_ops{K:bq->List Ob->Prop}{Q:Exit->Act->World->Prop}(hQ:∀E objs a w,K E objs->fi g E objs a w->Q .normal a w) :
  ∀(l:List Oper) (k:Nat) (E:bq) (objs:List Ob) (a:Act) (w:World),(∀j,l[j]? = ad[k+j]?)->Dr g pf ad l E objs K->fi g E objs a w ->
   wpOpsIn g.F g.dep g.P ad Q (List.range' k l.length) a w
 |[],k,E,objs,a,w,_,hd,hs=>by simpa[wpOpsIn]using hQ E objs a w hd hs
 |o::l,k,E,objs,a,w,hl,hd,hs=>by
  obtain⟨v,objs',h1,h2⟩:=hd;have h0:ad[k]? = some o:=by simpa using (hl 0).symm
  have eX:=h1.step E objs objs' a w (λt _=>.refl _) (.inr (.inr ⟨rfl,rfl⟩)) hs Q;rw[dx,NP,wpOpsIn_cons];refine wpOpIn_mono (K:=λa' w'=>fi g (bh E o.dst v) objs' a' w') (λa' w' fk=>?_) W8;exact wp_ops hQ l (k+1) _ objs' a' w' (λj=>by have:=hl (j+1);grind) h2 fk
theorem ahV(hQ:∀E objs a w,K E objs->fi g E objs a w->Q .normal a w)
    (hd:Dr g pf ad ad.toList E objs K)   (hs:fi g E objs a w) (id:Nat):(Code.region id ad false).wpIn g.F g.dep g.P Q a w:=by
 refine wpIn_region ?_;have:=wp_ops hQ ad.toList 0 E objs a w (λj=>by simp) hd hs;rw[TK];omega
end
end ax
namespace ax
open Go Go.RowKit
variable{ty:Nat->Option Ty}{ρ ρ':Operand->AV}{pf:Nat->cI}{objs objs':List Ob}{op:Op}{v:AV}
def pQ (l:List Nat) (E:bq):Operand->AV| .tmp t=>if t∈l then lk E t else .any|x=>ev E x
theorem Kx{α β:Type}{f g:α->β}{l:List α}(h:∀x∈l,f x=g x):l.map f=l.map g:=Kb h
theorem Kz(h:∀x∈op.operands.toList,ρ x=ρ' x):cS ty ρ op=cS ty ρ' op:=by
 cases op<;>simp only[Op.operands]at h<;>try (simp only[cS];done)
 case move x=>simp only[cS,h x aD]
 case assign x=>simp only[cS,h x aD]
 case pick c a b=>simp only[cS,h c aD,h a aD,h b aD]
 case fieldAddr T x k=>simp only[cS,h x aD]
 case field T x k=>simp only[cS,h x aD]
 case binOp op T x y T'=>simp only[cS,h x aD,h y aD]
 case unOp op T x=>simp only[cS,h x aD]
 case extract x k=>simp only[cS,h x aD]
 case nilCheck x=>simp only[cS,h x aD]
 case convert S D x=>simp only[cS,h x aD]
 case makeFunc f x y=>
  cases f<;>simp only[cS]
  simp_all
 case build T ps=>
  have:ps.toList.map (λp=>(p.1,ρ p.2))=ps.toList.map (λp=>(p.1,ρ' p.2)):=Kx λp hp=>by grind
  simp only[cS,this]
 case buildSlice T n ps=>
  have:ps.toList.map (λp=>(p.1,ρ p.2))=ps.toList.map (λp=>(p.1,ρ' p.2)):=Kx λp hp=>by grind
  simp only[cS,this]
theorem KA(h:∀x∈op.operands.toList,ρ x=ρ' x):fc ty ρ objs op=fc ty ρ' objs op:=by
 cases op<;>try (simp only[fc];done)
 case load T x=>simp only[Op.operands]at h;simp only[fc,h x aD]
 case call c=>
  simp only[Op.operands,Call.operands]at h;obtain⟨XL,args,ts⟩:=c;cases XL<;>try (simp only[fc];done)
  rename_i b;cases b<;>try (simp only[fc];done)
  simp only[fc];grind
theorem KB(h:∀x∈op.operands.toList,ρ x=ρ' x):iL ty ρ objs op=iL ty ρ' objs op:=by
 cases op<;>try (simp only[iL];done)
 case box T x=>simp only[Op.operands]at h;simp only[iL,h x aD]
 case store T d x=>simp only[Op.operands]at h;simp only[iL,h d aD,h x aD]
theorem Hz(h:∀x∈op.operands.toList,ρ x=ρ' x):dk ty ρ objs op=dk ty ρ' objs op:=by unfold dk;rw[Kz h,KA h,KB h]
theorem BH(pf:Nat->cI):rD pf=.load\/rD pf=.Fw:=by unfold rD;split<;>simp
theorem wN{T:Nat}{a:Operand}(h:held (jQ pf) (.load T a)=false):kL pf a=rD pf:=by
 cases a<;>try rfl
 rename_i t;simp only[held,jQ]at h;simp only[kL];grind
theorem HA{T:Nat}{a x:Operand}(h:held (jQ pf) (.store T a x)=false):js pf a=.jz:=by
 cases a<;>try rfl
 rename_i t;simp only[held,jQ]at h;simp only[js];grind
theorem KD{args:Array Operand}{ts:Array Nat}(h:held (jQ pf) (.call {callee:=.builtin .len,args:=args,argTypes:=ts})=false):nF pf args=.load:=by simp only[held,jQ]at h;simp only[nF];grind
theorem N1(pf:Nat->cI)(a:Operand):∃b,js pf a=.bT b:=by
 cases a<;>try exact⟨9,rfl⟩
 rename_i t;simp only[js];split;rename_i n _;cases Nat.ble 100 n;exact⟨9,rfl⟩;exact⟨n,rfl⟩;simp_all
theorem T0(pf:Nat->cI)(args:Array Operand):∃m,nF pf args=.look (m+1):=by simp only[nF];split;split;rename_i m _;cases hm:Nat.blt 3 m;exact⟨0,rfl⟩;rw [Nat.blt_eq]at hm;exact⟨m-1,by simp only[cond_true,cI.look.injEq];omega⟩;exact⟨0,rfl⟩;simp_all
theorem pR(hc:∀b,bQ pf op≠.bT b):iL ty ρ objs op=none:=by
 cases op<;>first
  |(simp only[iL];done)
  |(exact absurd rfl (hc _))
  |(rename_i T a x;obtain⟨b,h⟩:=N1 pf a;exact absurd h (hc b))
theorem zp(ED:held (jQ pf) op=false)(hc:bQ pf op=.still):fc ty ρ objs op=none:=by
 cases op<;>try (simp only[fc];done)
 case load T x=>simp only[bQ,wN ED]at hc;rcases BH pf with h|h<;>simp_all
 case call c=>
  obtain⟨XL,args,ts⟩:=c;cases XL<;>try (simp only[fc];done)
  rename_i b;cases b<;>first
   |(simp only[fc];done)
   |(simp only[bQ]at hc;obtain⟨m,h⟩:=T0 pf args;simp_all)
theorem KE(h:dk ty ρ objs op=some (v,objs'))(hc:∀b,bQ pf op≠.bT b):objs'=objs:=by unfold dk at h;rw[pR hc]at h;grind
theorem HB(h:dk ty ρ objs op=some (v,objs'))(ED:held (jQ pf) op=false)(hc:bQ pf op=.still)(ek:List Ob) :
  dk ty ρ ek op=some (v,ek):=by
 have FA:∀b,bQ pf op≠.bT b:=by rw[hc];simp
 unfold dk at h ⊢;rw[pR FA,zp ED hc]at h;rw[pR FA,zp ED hc];split at h;simp_all;cases h
theorem KF{n0:Nat}(h:dk ty ρ objs op=some (v,objs'))(ED:held (jQ pf) op=false)(b:Nat)(hc:bQ pf op=.bT b)(hb:b≠9):Gr n0 b objs objs':=by
 have hld:∀b,rD pf≠.bT b:=by rcases BH pf with h|h<;>rw[h]<;>simp
 unfold dk at h;split at h;simp only[Option.some.injEq,Prod.mk.injEq]at h;rw[<-h.2];exact .refl _;split at h;simp only[Option.some.injEq,Prod.mk.injEq]at h;rw[<-h.2];exact .refl _;unfold iL at h;split at h;split at h;simp only[Option.some.injEq,Prod.mk.injEq]at h;rw[<-h.2];exact .add _ _;cases h;split at h;split at h;rename_i l _;have key:∀(c:Bool),(bif c then some (AV.lo (len objs) 0,objs++[Ob.box l])else none)=some (v,objs')->Gr n0 b objs objs':=by intro c hb;cases c;cases hb;simp only[cond_true,Option.some.injEq,Prod.mk.injEq]at hb;rw[<-hb.2];exact .add _ _
 exact key _ h;cases h;cases h;simp only[bQ,HA ED,cI.bT.injEq]at hc;omega;cases h
theorem KG{objs objs' bW:List Ob}{n0 m:Nat}(h:dk ty ρ objs op=some (v,objs'))(ED:held (jQ pf) op=false)(hc:bQ pf op=.look (m+1))(acu:Gr n0 m bW objs\/Gr n0 m objs bW)
  (fE:∀x∈op.operands.toList,(∀i off,ρ x=.lo i off->i<bW.length)/\(∀i,ρ x=.mp i->i<bW.length)):dk ty ρ bW op=some (v,bW):=by
 have wc:∀b,bQ pf op≠.bT b:=by rw[hc];simp
 unfold dk at h ⊢;rw[pR wc]at h;rw[pR wc];split at h;simp_all
 ·rename_i hS;split at h
  case h_2=>cases h
  rename_i v' rY;simp only[Option.some.injEq,Prod.mk.injEq]at h
  have hL:fc ty ρ bW op=some v':=by
   cases op<;>try (simp[fc]at rY;done)
   case load T a=>
    simp only[fc]at rY ⊢;have hm:m<=2:=by simp only[bQ,wN ED]at hc;rcases BH pf with h|h<;>rw[h]at hc<;>simp_all<;>omega
    cases ht:ty T with
    |none=>simp_all
    |some τ=>
     rw[ht]at rY;simp only at rY ⊢;cases ha:ρ a with
     |lo i off=>rw[ha]at rY;simp only at rY ⊢;have hi:=(fE a (by simp[Op.operands])).1 i off ha;rw[bE]at rY ⊢;split at rY;rename_i l hl;rw[Gr.same acu hl hi (by simp only[Ob.lvl];split<;>omega)];exact rY;cases rY
     |d x=>grind
     |_=>simp_all
   case call c=>
    obtain⟨XL,args,ts⟩:=c;cases XL<;>try (simp[fc]at rY;done)
    rename_i b;cases b<;>try (simp[fc]at rY;done)
    have hm:m=0:=by simpa[bQ,KD ED]using hc.symm
    subst hm;simp only[fc]at rY ⊢;split at rY;rename_i x t h1 h2;have hx:=fE x (by simp[Op.operands,Call.operands,h1]);split at rY;rename_i τ ht
    have hl:∀n,NR τ.sh objs (ρ x)=some n->NR τ.sh bW (ρ x)=some n:=λn hn=>by
     cases hA:ρ x with
     |mp i=>rw[hA]at hn;simp only[NR,Kp]at hn ⊢;have hi:=hx.2 i hA;rw[bE]at hn ⊢;split at hn;rename_i es he;split at hn;rename_i es he;rw[Gr.same acu he hi Bl];exact hn;cases hn;cases hn
     |d y=>
      rw[hA]at hn
      have e:Kp τ.sh bW (.d y)=Kp τ.sh objs (.d y):=by
       cases y with
       |v x=>cases x<;>first|rfl|(rename_i a b c;cases a<;>first|rfl|(cases b<;>first|rfl|(cases c<;>rfl)))
       |_=>rfl
      exact e.trans hn
     |fs y=>rw[hA]at hn;exact hn
     |_=>rw[hA]at hn;simp[NR,Kp]at hn
    grind;cases rY;cases rY
  rw[hL,h.1]
end ax
namespace ax
open Go Go.RowKit
variable{φ:List bI}{S:Nat->Prop}{w:World}{o:Oper}{objs objs':List Ob}{E:bq}{a:Act}{β:Type}{b:Bool}{v:AV}
section
variable {g:G} {pf:Nat->cI} {ad:Array Oper}
theorem tB{t:Nat}(h:.tmp t∈o.op.operands.toList):t∈o.looksAt ad :=Xf _ (yo.2 ⟨.tmp t,h,rfl⟩)
def KH (ad:Array Oper)(E:bq)(o:Oper)(b:Bool):Prop :=
 match o.guard with
 |none=>b=true
 |some (j,want)=>∃og d,ad[j]? = some og/\og.dst=some d/\((lk E d=.tt/\b=want)\/(lk E d=.ff/\b = !want)\/(lk E d=.cP []/\b=false))
theorem cT(h:aH ad.toList E o.guard=some b):KH ad E o b:=by
 unfold KH;generalize o.guard=gd at h ⊢;rcases gd with _|⟨j,want⟩
 simp only[aH]at h;cases h;rfl
 ·simp only [aH]at h;simp only;split at h
  case h_2=>cases h
  case h_1 og hog=>
  rw[bE,Array.getElem?_toList]at hog;grind
theorem BJ{j d:Nat}{og:Oper}(h1:ad[j]? = some og)(h2:og.dst=some d)(h3:a.tmps.getD d undef=.bool b) :
  yielded ad a.tmps j=some b:=by
 unfold yielded;simp only[h1,ab8,h2];rw[Hm]at h3;cases hd:a.tmps[d]? with
 |none=>rw[hd]at h3;cases h3
 |some v=>simp_all
theorem HD{j d:Nat}{og:Oper}(h1:ad[j]? = some og)(h2:og.dst=some d)(h3:a.tmps.getD d undef=undef) :
  yielded ad a.tmps j=none:=by
 unfold yielded;simp only[h1,ab8,h2];rw[Hm]at h3;cases hd:a.tmps[d]? with
 |none=>rfl
 |some v=>rw[hd]at h3;simp[undef]at h3;subst h3;rfl
theorem KI{v:Value}:RV S w φ (.cP []) v↔v=undef:=by
 simp only[RV];constructor;rintro ⟨vs,h1,h2⟩;cases vs with
 |nil=>exact h1
 |cons _ _=>simp[aW]at h2
 rintro rfl;exact⟨[],rfl,by simp[aW]⟩
theorem nj{E E₁:bq}(hg:KH ad E o b)(he:∀t∈o.looksAt ad,bJ (lk E₁ t) (lk E t))
  (hv:lg S w φ E₁ a):Region.wanted o (yielded ad a.tmps)=b:=by
 unfold KH at hg;unfold Region.wanted;split at hg;simp_all;rename_i j want h;rw[h];obtain⟨og,d,h1,h2,h3⟩:=hg;have hd:d∈o.looksAt ad:=List.mem_append_right _ ir;have hx:=he d hd _ _ _ _ (hv d);rcases h3 with ⟨h3,h4⟩|⟨h3,h4⟩|⟨h3,h4⟩
 rw [h3]at hx; simp only [RV]at hx;simp only[BJ h1 h2 hx,h4];simp_all;rw [h3]at hx; simp only [RV]at hx;simp only[BJ h1 h2 hx,h4];simp_all;rw [h3]at hx; rw [KI]at hx;simp only[HD h1 h2 hx,h4];simp_all
theorem ix{E E₁:bq}{l:List Nat}(he:∀t∈l,bJ (lk E₁ t) (lk E t))(hv:lg S w φ E₁ a)(x:Operand) :
  RV S w φ (pQ l E x) (a.eval x):=by
 cases x with
 |tmp t=>simp only[pQ,Act.eval];split;exact he t ‹_› _ _ _ _ (hv t);simp[RV]
 |const v=>simp only[pQ,ev,Act.eval];unfold lZ;split;simp[RV];simp[RV];rename_i cs;simp only[RV];refine⟨cs.toList,by simp,?_⟩;have:=aW.map (S:=S) (w:=w) (φ:=φ) (λx=>AV.d (.v x)) id cs.toList (λx _=>by simp only[RV];exact .v x);simp_all;simp only[RV];exact .v _
 |global n=>simp[pQ,ev,RV]
 |func f=>simp only[pQ,ev,Act.eval,RV];exact⟨[],[],rfl,by simp[aW],by simp[aW]⟩
theorem Rs{d:Option Nat}{vv:Value}{N:Nat}(hv:lg S w φ E a)(hsz:a.tmps.size=N)
  (hd:∀t,d=some t->t<N) (hx:d≠none->RV S w φ v vv):lg S w φ (bh E d v) (a.put d vv):=λt=>by
 rw[gz];cases d with
 |none=>simpa[Act.put]using hv t
 |some u=>have hu:=hd u rfl;simp only[Act.put,Hm,TH];by_cases h:u=t;simp_all;simp only [Option.some.injEq,h,if_false];have:=hv t;simp_all
theorem XV(a:Act)(d:Option Nat)(v:Value):(a.put d v).tmps.size=a.tmps.size:=by cases d<;>simp[Act.put]
theorem put_defers(a:Act)(d:Option Nat)(v:Value):(a.put d v).defers=a.defers:=by cases d<;>rfl
theorem EB.Rc{φ φ':List bI}{ds:List Deferred}{w w':World}(h:EB g φ ds w)(cY:j8 g.S0 φ w φ' objs' w'):EB g φ' ds w' :=
 ⟨h.1,h.2.1,λd hd=>by
  obtain⟨D,h1,h2,h3,h4⟩:=h.2.2 d hd;have hl:D<w.heap.size:=(Ab.1 h4).1;refine⟨D,h1,h2,λhb=>?_,(cY.fr D hl h3).trans h4⟩;rcases cY.own D hb with h|h
  exact h3 h;omega⟩
theorem EB.Kn{φ φ':List bI}{ds:List Deferred}(h:EB g φ ds w)(hb:∀b,eH φ' b->eH φ b):EB g φ' ds w :=⟨h.1,h.2.1,λd hd=>by obtain⟨D,h1,h2,h3,h4⟩:=h.2.2 d hd;grind⟩
theorem JA.Rc{φ φ':List bI}{ds:List Deferred}{w w':World}{objs':List Ob}(h:JA g φ ds w)(cY:j8 g.S0 φ w φ' objs' w'):JA g φ' ds w' :=let ⟨ds1,rX,e,h,h'⟩:=h;⟨ds1,rX,e,h.Rc cY,h'.mono cY.jj cY.le⟩
theorem JA.Kn{φ φ':List bI}{ds:List Deferred}{w:World}(jP:g.rZ=[])(h:JA g φ ds w)(hb:∀b,eH φ' b->eH φ b):JA g φ' ds w :=
 .none jP ((h.only jP).Kn hb)
theorem fi.Rc{E:bq}{objs':List Ob}{a:Act}{w w':World}{φ φ':List bI}{d:Option Nat}{v:AV}{vv:Value}
  (h2:∀b,eH φ b->g.w0.heap.size<=b\/g.X0 b) (h3:lg (SS g.S0 φ) w φ E a) (h4:a.tmps.size=g.N) (h5:JA g φ a.defers w) (h6:Fr0 g φ w)
  (cY:j8 g.S0 φ w φ' objs' w') (hd:∀t,d=some t->t<g.N) (hx:d≠none->RV (SS g.S0 φ') w' φ' v vv):fi g (bh E d v) objs' (a.put d vv) w':=by
 refine⟨φ',cY.hs,λb hb=>?_,Rs (λt=>(h3 t).mono cY.jj cY.le) h4 hd hx,by rw[XV];exact h4,by rw[put_defers];exact h5.Rc cY,?_⟩;rcases cY.own b hb with hb| hb
 exact h2 b hb;have:=h6.size;left;omega;refine ⟨vd h6.size cY.size,cY.os.trans h6.os,cY.tape.trans h6.tape,cY.out.trans h6.out,λb hb hX=>?_,λi l I B hi=>(let ⟨_,h0⟩:=cY.ext i l I B hi; h6.gen _ _ _ _ h0),h6.le.trans cY.le⟩;have hn:¬ eH φ b:=λhJ=>by grind
 rw[cY.fr b (Kc hb h6.size) hn];exact h6.fr b hb hX
theorem pS(hg:di g)(o:Oper)(w:World)(a:Act):∀f,o.about g.P w a.eval=some f->g.F.fn f:=λf _=>hg.fn f
theorem aK.nJ(hg:di g){c:cI}(bt:KH ad E o true)(hd:∀t,o.dst=some t->t<g.N)(HE:∀c,o.op≠.defer c)
  (sd:(∀b,c≠.bT b)->objs'=objs) (ams:∀b,c=.bT b->b≠9->Gr g.φ0.length b objs objs')
  (jb:∀(φ:List bI) (bW kM:List Ob) (a:Act) (w:World) (E₁:bq),(∀t∈o.looksAt ad,bJ (lk E₁ t) (lk E t))->lg (SS g.S0 φ) w φ E₁ a->((c=.still/\kM=bW)\/(∃m,c=.look (m+1)/\(Gr g.φ0.length m bW objs\/Gr g.φ0.length m objs bW)/\kM=bW)\/(bW=objs/\kM=objs'))->HS g.S0 φ bW w ->
   Out g.P (execOp a.eval o) g.S0 φ w v kM):aK g ad o E objs c v objs':=by
 refine⟨sd,ams,λE₁ o₁ jF a w he ho hs Q=>?_⟩;obtain⟨φ,h1,h2,h3,h4,h5,h6⟩:=hs;rw[nj bt he h3];simp only[if_true];obtain⟨n,vv,w',φ',hr,hn,lM,cY⟩:=jb φ o₁ jF a w E₁ he h3 ho h1;refine⟨pS hg o w a,?_⟩;rw[Oper.semAt_eq _ _ _ HE,hr];rcases hn with rfl|⟨rfl,rfl⟩
 exact fi.Rc h2 h3 h4 h5 h6 cY hd λ_=>lM
 exact fi.Rc h2 h3 h4 h5 h6 cY hd λ_=>lM
theorem aK.skip(hg:di g){c:cI}(bt:KH ad E o false)(hd:∀t,o.dst=some t->t<g.N):aK g ad o E objs c (.cP []) objs:=by
 refine⟨λ_=>rfl,λ_ _ _=>.refl _,λE₁ o₁ jF a w he ho hs Q=>?_⟩;have e:jF=o₁:=by grind
 subst e;obtain⟨φ,h1,h2,h3,h4,h5,h6⟩:=hs;rw[nj bt he h3];simp only[lq,if_false];exact⟨pS hg o w a,fi.Rc h2 h3 h4 h5 h6 (.refl h1) hd λ_=>KI.2 rfl⟩
theorem BK{ty:Nat->Option Ty}{ρ:Operand->AV}{o:Op}{x:AV×List Ob}(h:dk ty ρ objs o=some x):∀c,o≠.defer c:=by rintro c rfl;simp[dk,cS,fc,iL]at h
theorem aK.KJ(hg:di g)(ED:held (jQ pf) o.op=false)(bt:KH ad E o true)(hd:∀t,o.dst=some t->t<g.N)(h:dk g.ty (ev E) objs o.op=some (v,objs')) :
  aK g ad o E objs (bQ pf o.op) v objs':=by
 refine .nJ hg bt hd (BK h) (KE h) (KF h ED) λφ o₁ jF a w E₁ he hv ho hs=>?_
 have hρ:=ix (l:=o.looksAt ad) he hv
 have amt:dk g.ty (pQ (o.looksAt ad) E) objs o.op=dk g.ty (ev E) objs o.op:=Hz λx hx=>by
  cases x with
  |tmp t=>simp[pQ,ev,tB hx]
  |_=>rfl
 rw[<-amt]at h;rcases ho with ⟨hc,rfl⟩|⟨m,hc,acu,rfl⟩|⟨rfl,rfl⟩
 exact ke hg.ty hs hρ (HB h ED hc _);refine ke hg.ty hs hρ (KG h ED hc acu λx _=>⟨λi off hx=>?_,λi hx=>?_⟩);have:=hρ x;rw[hx]at this;simp only[RV]at this;obtain⟨b,hb,_⟩:=this;rw[<-hs.len];grind;have:=hρ x;rw[hx]at this;simp only[RV]at this;obtain⟨b,hb,_⟩:=this;rw[<-hs.len];grind;exact ke hg.ty hs hρ h
theorem lv{α β:Type}(f:α->(α->β)->β)(hf:∀x k,f x k=k x):∀(l:List α) (k:List α->β),Jx l f k=k l|[],_=>rfl|x::r,k=>by simp only[Jx,hf,lv f hf r]
theorem ahW(v:AV)(k:AV->β):nfV v k=k v:=by
 unfold nfV;split<;>first
  |rfl
  |(rw[lv];exact λx k=>rfl)
  |(rw[lv];intro x k;rw[lv];exact λ_ _=>rfl)
  |(rw[lv _ (λx k=>rfl)];rw[lv _ (λx k=>rfl)])
theorem ahX(o:Ob)(k:Ob->β):nfO o k=k o:=by
 cases o<;>simp only[nfO]
 all_goals (rw[lv];simp_all)
theorem XW(E:bq)(k:bq->β):nfE E k=k E:=lv _ (λ_ _=>rfl) E k
theorem dI{N:Nat}{ty:Nat->Option Ty}{d:Option Nat}(h:aQ ⟨ty,N⟩ d=true):∀t,d=some t->t<N:=by intro t ht;subst ht;exact ko h
theorem tC(hg:di g){K:bq->List Ob->Prop}:∀(l l':List Oper) (E E':bq) (objs objs':List Ob),yu ⟨g.ty,g.N⟩ (jQ pf) ad.toList l E objs=(l',E',objs')->Dr g pf ad l' E' objs' K->Dr g pf ad l E objs K
 |[],l',E,E',objs,objs',h,hd=>by simp only[yu,Prod.mk.injEq]at h;simp_all
 |o::r,l',E,E',objs,objs',h,hd=>by
  have stuck:(o::r,E,objs)=(l',E',objs')->Dr g pf ad (o::r) E objs K:=λh=>by simp only[Prod.mk.injEq]at h;obtain⟨rfl,rfl,rfl⟩:=h;exact hd
  unfold yu at h;split at h
  ·rename_i bt;cases ED:held (jQ pf) o.op
   case true=>rw[ED]at h;exact stuck h
   rw[ED]at h;simp only[cond_false]at h;split at h;rename_i v bc cY;cases Hg:aQ ⟨g.ty,g.N⟩ o.dst;rw[Hg]at h;exact stuck h;rw [Hg]at h;simp only[cond_true,ahW,lv _ (λx k=>ahX x k),XW]at h;exact⟨v,bc,.KJ hg ED (cT bt) (dI Hg) cY,tC hg r l' _ E' bc objs' h hd⟩;exact stuck h
  rename_i bt;cases Hg:aQ ⟨g.ty,g.N⟩ o.dst;rw[Hg]at h;exact stuck h;rw [Hg]at h;simp only[cond_true,XW]at h;exact⟨.cP [],objs,.skip hg (cT bt) (dI Hg),tC hg r l' _ E' objs objs' h hd⟩;simp_all
end
end ax
namespace ax
open Go Go.RowKit
variable{objs:List Ob}{k:List It}{E:bq}{ad:Array Oper}{b:Bool}
theorem afJ{S:Nat->Prop}{w:World}{φ:List bI}{a:Act}(hv:lg S w φ E a)(x:Operand):RV S w φ (ev E x) (a.eval x):=by
 cases x with
 |tmp t=>exact hv t
 |const v=>exact ix (l:=[]) (E:=E) (E₁:=E) aD hv (.const v)
 |global n=>simp[ev,RV]
 |func f=>exact ix (l:=[]) (E:=E) (E₁:=E) aD hv (.func f)
def fI (pf:Nat->cI):Code->Bool| .region id ad dr=>!dr||jQ pf (Nat.add 900000000 id)||Rp pf ad| .seq a b=>fI pf a&&fI pf b| .cond _ a b=>fI pf a&&fI pf b| .block _ b=>fI pf b| .loop b=>fI pf b| .rangeFunc _ _ a b=>fI pf a&&fI pf b| .scope b=>fI pf b|_=>true
def rE (pf:Nat->cI):List It->Prop|[]=>True| .code c::k=>fI pf c=true/\rE pf k|_::k=>rE pf k
def KP (g:G) (Fin:Exit->Act->World->Prop):List It->Exit->Act->World->Prop
 |[]=>Fin
 | .code c::k=>λe a w=>match e with
  | .normal=>c.wpIn g.F g.dep g.P (KP g Fin k) a w
  |e=>KP g Fin k e a w
 | .jK id::k=>λe a w=>match e with
  | .exit j=>if j=id then KP g Fin k .normal a w else KP g Fin k (.exit j) a w
  |e=>KP g Fin k e a w
 | .mark M::k=>λe a w=>match e with
  | .normal=>∃E objs,M E objs/\fi g E objs a w
  |e=>KP g Fin k e a w
 | .dr _ _::k=>KP g Fin k
def RK (g:G)(Fin:Exit->Act->World->Prop)(k:List It)(E:bq)(objs:List Ob):Prop:=∀a w,fi g E objs a w->KP g Fin k .normal a w
def R (g:G)(pf:Nat->cI)(Fin:Exit->Act->World->Prop)(k:List It)(E:bq)(objs:List Ob):Prop :=rE pf k->match k with| .dr ad az::k'=>Dr g pf ad az E objs (λE' objs'=>RK g Fin k' E' objs')|k=>RK g Fin k E objs
section
variable {g:G} {pf:Nat->cI} {Fin:Exit->Act->World->Prop}
theorem BL(k:List It):KC (λE objs=>RK g Fin k E objs):=λ_ _ _ he h a w hs=>h a w (hs.Ag he)
theorem R.Ag{k:List It}{E E':bq}{objs:List Ob}(he:Af E E')(h:R g pf Fin k E' objs):R g pf Fin k E objs:=λho=>by
 have h:=h ho;cases k with
 |nil=>exact BL [] _ _ _ he h
 |cons x k=>
  cases x<;>first
   |exact BL _ _ _ _ he h
   |exact Dr.Ag (BL k) he h
theorem RK.ej(ho:rE pf k)(h:R g pf Fin k E objs)(hk:∀ad az k',k≠.dr ad az::k'):RK g Fin k E objs:=by have h:=h ho;simp_all
theorem wO{id:Nat}:∀{k k':List It} {a:Act} {w:World},iM id k=some k'->KP g Fin k' .normal a w->KP g Fin k (.exit id) a w
 |[],_,_,_,h,_=>by simp[iM]at h
 | .code _::k,k',a,w,h,hk=>by simp only[iM]at h;simp only[KP];exact wO h hk
 | .mark _::k,k',a,w,h,hk=>by simp only[iM]at h;simp only[KP];exact wO h hk
 | .dr _ _::k,k',a,w,h,hk=>by simp[iM]at h
 | .jK j::k,k',a,w,h,hk=>by
  simp only[iM]at h;simp only[KP];cases hj:Nat.beq j id;rw [hj]at h;have:id≠j:=λe=>by subst e;simp at hj
  rw[if_neg this];exact wO h hk;simp_all
theorem tD{id:Nat}:∀{k k':List It},iM id k=some k'->rE pf k->rE pf k'|[],_,h,_=>by simp[iM]at h| .code _::k,k',h,hk=>by simp only[iM]at h;exact tD h hk.2| .mark _::k,k',h,hk=>by simp only[iM]at h;exact tD (k:=k) h hk| .dr _ _::k,k',h,hk=>by simp[iM]at h| .jK j::k,k',h,hk=>by simp only[iM]at h;cases hj:Nat.beq j id;rw[hj]at h;exact tD (k:=k) h hk;rw[hj]at h;simp only[cond_true,Option.some.injEq]at h;subst h;exact hk
theorem ahY(_c d:Code)(k:List It)(e:Exit)(a:Act)(w:World)(h:KP g Fin (.code d::k) e a w):Exit.then (d.wpIn g.F g.dep g.P (KP g Fin k)) (KP g Fin k) e a w:=by cases e<;>exact h
theorem ahZ(id:Nat)(k:List It)(e:Exit)(a:Act)(w:World)(h:KP g Fin (.jK id::k) e a w):Exit.inBlock id (KP g Fin k) e a w:=by cases e<;>simp only[KP,Exit.inBlock]at h ⊢<;>exact h
theorem Dr.XY{ad:Array Oper}{K K':bq->List Ob->Prop}(h:∀E objs,K E objs->K' E objs):∀{l:List Oper} {E:bq} {objs:List Ob},Dr g pf ad l E objs K->Dr g pf ad l E objs K'|[],_,_,hd=>h _ _ hd|_::_,_,_,⟨v,o1,h1,h2⟩=>⟨v,o1,h1,Dr.XY h h2⟩
theorem BM(hg:di g){id:Nat}{dr:Bool}(hh:jQ pf (Nat.add 900000000 id)=false)(h:R g pf Fin (.dr ad ad.toList::k) E objs):R g pf Fin (.code (.region id ad dr)::k) E objs:=by
 rintro⟨ov,ho⟩;have h:=h ho;simp only at h;intro a w hs;simp only[KP];have hQ:∀E objs a w,RK g Fin k E objs->fi g E objs a w->KP g Fin k .normal a w:=λ_ _ a w hr hs=>hr a w hs
 cases dr with
 |true=>simp only[fI,u9,uq,hh]at ov;exact acs hg ov (BL k) hQ h hs id
 |false=>exact ahV hQ h hs id
theorem ah0(hg:di g)(p:Nat){id:Nat}(hx:ahS p (Nat.succ p) pf ad=true)(vm:((ad.toList.take p).all λo=>mQ o.op)=true)(h1:R g pf Fin (.dr ad ad.toList::k) E objs)(h2:R g pf Fin (.dr ad (Kv p ad.toList)::k) E objs):R g pf Fin (.code (.region id ad true)::k) E objs:=by
 rintro⟨ov,ho⟩;have h1:=h1 ho;have h2:=h2 ho;simp only at h1 h2;intro a w hs;simp only[KP];have hQ:∀E objs a w,RK g Fin k E objs->fi g E objs a w->KP g Fin k .normal a w:=λ_ _ a w hr hs=>hr a w hs
 exact XU hg hx (BL k) hQ vm h1 h2 hs id
theorem XZ(hk:∀ad az k',k≠.dr ad az::k')(h:R g pf Fin k E objs):R g pf Fin (.dr ad []::k) E objs:=λho=>by simp only[Dr];exact RK.ej (pf:=pf) (k:=k) ho h hk
def mR:List It->Bool|[]=>true| .dr _ _::_=>false|_::k=>mR k
theorem iD(h:mR k=true):∀ad az k',k≠.dr ad az::k':=by rintro ad az k' rfl;simp[mR]at h
theorem qJ{id:Nat}:∀{k k':List It},iM id k=some k'->mR k=true->mR k'=true|[],_,h,_=>by simp[iM]at h| .code _::k,k',h,hk=>by simp only[iM]at h;exact qJ (k:=k) h hk| .mark _::k,k',h,hk=>by simp only[iM]at h;exact qJ (k:=k) h hk| .dr _ _::k,k',h,hk=>by simp[iM]at h| .jK j::k,k',h,hk=>by simp only[iM]at h;cases hj:Nat.beq j id;rw[hj]at h;exact qJ (k:=k) h hk;rw[hj]at h;simp only[cond_true,Option.some.injEq]at h;subst h;exact hk
def FB:List It->Bool| .dr _ _::k=>mR k|k=>mR k
theorem wP(h:mR k=true):FB k=true:=by
 cases k with
 |nil=>rfl
 |cons x k=>cases x<;>first
  |exact h
  |(simp[mR]at h)
theorem acv(hg:di g):∀(n:Nat) (k k':List It) (E E':bq) (objs objs':List Ob),FB k=true->km ⟨g.ty,g.N⟩ (jQ pf) n k E objs=.mk k' E' objs'->R g pf Fin k' E' objs'->R g pf Fin k E objs:=by
 intro n;induction n with
 |zero=>intro k k' E E' objs objs' _ h hr;simp only[km,Cfg.mk.injEq]at h;obtain⟨rfl,rfl,rfl⟩:=h;exact hr
 |succ n ih=>
  intro k k' E E' objs objs' ht h hr;have stay:Cfg.mk k E objs=.mk k' E' objs'->R g pf Fin k E objs:=λh=>by simp only[Cfg.mk.injEq]at h;obtain⟨rfl,rfl,rfl⟩:=h;exact hr
  cases k with
  |nil=>simp only[km]at h;exact stay h
  |cons x k=>
   cases x with
   |mark M=>simp only[km]at h;exact stay h
   |jK id=>simp only[km]at h;have Rt:mR k=true:=ht;have h1:=ih k k' E E' objs objs' (wP Rt) h hr;intro ho a w hs;exact RK.ej (pf:=pf) (k:=k) ho h1 (iD Rt) a w hs
   |dr ad az=>have Rt:mR k=true:=ht;simp only[km]at h;split at h;rename_i E1 bc hro;have h1:=ih k k' E1 E' bc objs' (wP Rt) h hr;intro ho;exact tC hg az [] E E1 objs bc hro (RK.ej (pf:=pf) (k:=k) ho h1 (iD Rt));rename_i r E1 bc _ hro;simp only[Cfg.mk.injEq]at h;obtain⟨rfl,rfl,rfl⟩:=h;intro ho;exact tC hg az r E E1 objs bc hro (hr ho)
   |code c=>
    have Rt:mR k=true:=ht;cases c with
    |seq c d=>simp only[km]at h;have h1:=ih (.code c :: .code d::k) k' E E' objs objs' Rt h hr;rintro⟨ov,ho⟩ a w hs;simp only[fI,aV]at ov;have h2:=RK.ej (pf:=pf) (k:=.code c :: .code d::k) ⟨ov.1,ov.2,ho⟩ h1 aD a w hs;exact wpIn_seq (wpIn_mono h2 (ahY c d k))
    |skip=>simp only[km]at h;have h1:=ih k k' E E' objs objs' (wP Rt) h hr;rintro⟨_,ho⟩ a w hs;exact wpIn_skip (RK.ej (pf:=pf) (k:=k) ho h1 (iD Rt) a w hs)
    |block id b=>simp only[km]at h;have h1:=ih (.code b :: .jK id::k) k' E E' objs objs' Rt h hr;rintro⟨ov,ho⟩ a w hs;have h2:=RK.ej (pf:=pf) (k:=.code b :: .jK id::k) ⟨ov,ho⟩ h1 aD a w hs;exact wpIn_block (wpIn_mono h2 (ahZ id k))
    |exit id=>simp only[km]at h;split at h;rename_i k1 aI;have hn:=qJ aI Rt;have h1:=ih k1 k' E E' objs objs' (wP hn) h hr;rintro⟨_,ho⟩ a w hs;exact wpIn_exit (wO aI (RK.ej (pf:=pf) (k:=k1) (tD aI ho) h1 (iD hn) a w hs));exact stay h
    |cond x c d=>
     simp only[km]at h;have hev:∀{b:Bool} {a:Act} {w:World},ev E x=(if b then .tt else .ff)->fi g E objs a w->a.eval x=.bool b:=by intro b a w he ⟨φ,_,_,h3,_⟩;have:=afJ h3 x;rw[he]at this;cases b<;>simpa[RV]using this
     split at h;rename_i he;have h1:=ih (.code c::k) k' E E' objs objs' Rt h hr;rintro⟨ov,ho⟩ a w hs;simp only[fI,aV]at ov;exact wpIn_cond_true (hev (b:=true) he hs) (RK.ej (pf:=pf) (k:=.code c::k) ⟨ov.1,ho⟩ h1 aD a w hs);rename_i he;have h1:=ih (.code d::k) k' E E' objs objs' Rt h hr;rintro⟨ov,ho⟩ a w hs;simp only[fI,aV]at ov;exact wpIn_cond_false (hev (b:=false) he hs) (RK.ej (pf:=pf) (k:=.code d::k) ⟨ov.2,ho⟩ h1 aD a w hs);exact stay h
    |region id ad dr=>
     simp only[km]at h;cases hh:jQ pf (Nat.add 900000000 id)with
     |true=>simp_all
     |false=>rw[hh]at h;exact BM hg hh (ih (.dr ad ad.toList::k) k' E E' objs objs' Rt h hr)
    |_=>simp only[km]at h;exact stay h
theorem eW(hg:di g)(n:Nat){k k':List It}{E E':bq}{objs objs':List Ob}(ht:FB k=true)(h:km ⟨g.ty,g.N⟩ (jQ pf) n k E objs=.mk k' E' objs')(hr:R g pf Fin k' E' objs'):R g pf Fin k E objs :=acv hg n k k' E E' objs objs' ht h hr
theorem dJ(hg:di g) {k k':List It} {E E':bq} {objs objs':List Ob} (ht:FB k=true) (h:km ⟨g.ty,g.N⟩ (jQ pf) 1000 k E objs=.mk k' E' objs') (hr:R g pf Fin k' E' objs') : R g pf Fin k E objs:=eW hg 1000 ht h hr
theorem yy(E:bq)(t:Nat)(v:AV)(u:Nat)(h:bJ (lk E t) v):bJ (lk E u) (lk (put E t v) u):=by rw[yw];split;simp_all;exact .refl _
theorem X2(h:b=true):bJ (bV b) .tt:=λS w φ v hv=>by simp only[bV,RV]at hv ⊢;subst h;cases hv;rfl
theorem X3(h:b=false):bJ (bV b) .ff:=λS w φ v hv=>by simp only[bV,RV]at hv ⊢;subst h;cases hv;rfl
theorem acx(t:Nat)(h:lk E t=.d (.v (.bool b)))(h1:b=true->R g pf Fin k (put E t .tt) objs)(h2:b=false->R g pf Fin k (put E t .ff) objs):R g pf Fin k E objs:=by
 cases hb:b;exact(h2 hb).Ag λu=>yy E t _ u (by rw[h];exact X3 hb)
 exact(h1 hb).Ag λu=>yy E t _ u (by rw[h];exact X2 hb)
def X4:List It->Option Nat
 | .dr ad (o::_)::_=>match o.guard with
  |some (j,_)=>match dq ad.toList j with
   |some og=>og.dst
   |none=>none
  |none=>none
 | .code (.cond (.tmp t) _ _)::_=>some t
 |_=>none
theorem iq{t:Nat}(_ht:X4 k=some t)(h:lk E t=.d (.v (.bool b)))(h1:b=true->R g pf Fin k (put E t .tt) objs)(h2:b=false->R g pf Fin k (put E t .ff) objs):R g pf Fin k E objs :=acx t h h1 h2
theorem hH(t:Nat){v v':AV}(h:lk E t=v)(he:bJ v v')(h1:R g pf Fin k (put E t v') objs):R g pf Fin k E objs :=h1.Ag λu=>yy E t _ u ir
def oJ (E:bq):bq->Prop|[]=>True|(t,v)::r=>bJ (lk E t) v/\oJ E r
theorem oJ.T3{E:bq}:∀{E':bq},oJ E E'->Af E E'|[],_,u=>by simp only[lk];exact .any _|(t,v)::r,h,u=>by simp only[lk];cases hb:Nat.beq t u;exact h.2.T3 u;have:=cB hb;subst this;exact h.1
theorem X5(E':bq)(he:oJ E E')(h:R g pf Fin k E' objs):R g pf Fin k E objs:=h.Ag he.T3
end
end ax
namespace ax
open Go Go.RowKit
variable{f:Nat}
def sC (P:Program)(f:Nat):Prop:=∀args w,(callFunc f args).run P w=.ok (.enter f args) w
theorem jc{P:Program}{fn:Func}{c:Code}(hf:P.funcs[f]? = some fn)(hb:fn.body=some c)(hn:(fn.name == "runtime.NumGoroutine")=false):sC P f:=by intro args w;simp only[callFunc,Sem.run_bind,run_program,Result.andThen_ok,hf,hn,hb];rfl
structure br (P:Program) (f:Nat) (args:List AV) (r:AV):Prop where
 call:sC P f
 run:∀(S:Nat->Prop) (w:World) (bS:List Value),gI P S w->(∀b,w.heap.size<=b->S b)->aW S w [] args bS ->
  Calls P f bS.toArray w λe w'=>∃v,e=.returned v/\RV S w' [] r v/\Below w.heap.size w w'
mutual
def mJ:AV->Bool| .any=>true| .tt=>true| .ff=>true| .d _=>true| .fs _=>true| .agg l=>lh l| .lo _ _=>false| .el _ _ _ _=>false| .vw _ _ _=>false| .ow _ _=>false| .mp _=>false| .cP l=>lh l| .b9 _ a c=>lh a&&lh c| .yl _=>false
def lh:List AV->Bool|[]=>true|x::l=>mJ x&&lh l
end
mutual
theorem RV.pure{S S':Nat->Prop}{w w':World}{φ φ':List bI}(hk:dL S w S' w'):∀{x:AV} {v:Value},mJ x=true->RV S w φ x v->RV S' w' φ' x v
 | .any,_,_,_=>by simp[RV]
 | .tt,_,_,h=>by simpa[RV]using h
 | .ff,_,_,h=>by simpa[RV]using h
 | .d x,v,_,h=>by simp only[RV]at h ⊢;exact h.mono hk
 | .fs aa,v,_,h=>by simp only[RV]at h ⊢;exact⟨h.1.mono hk,h.2⟩
 | .agg l,v,hp,h=>by simp only[RV]at h ⊢;simp only[mJ]at hp;obtain⟨cs,h1,h2⟩:=h;exact⟨cs,h1,aW.pure hk hp h2⟩
 | .lo _ _,_,hp,_=>by simp[mJ]at hp
 | .yl _,_,hp,_=>by simp[mJ]at hp
 | .el _ _ _ _,_,hp,_=>by simp[mJ]at hp
 | .vw _ _ _,_,hp,_=>by simp[mJ]at hp
 | .ow _ _,_,hp,_=>by simp[mJ]at hp
 | .mp _,_,hp,_=>by simp[mJ]at hp
 | .cP l,v,hp,h=>by simp only[RV]at h ⊢;simp only[mJ]at hp;obtain⟨cs,h1,h2⟩:=h;exact⟨cs,h1,aW.pure hk hp h2⟩
 | .b9 f a c,v,hp,h=>by simp only[RV]at h ⊢;simp only[mJ,aV]at hp;obtain⟨va,vc,h1,h2,h3⟩:=h;exact⟨va,vc,h1,aW.pure hk hp.1 h2,aW.pure hk hp.2 h3⟩
theorem aW.pure{S S':Nat->Prop}{w w':World}{φ φ':List bI}(hk:dL S w S' w'):∀{l:List AV} {vs:List Value},lh l=true->aW S w φ l vs->aW S' w' φ' l vs|[],[],_,_=>by simp[aW]|[],_::_,_,h=>by simp[aW]at h|_::_,[],_,h=>by simp[aW]at h|a::l,v::vs,hp,h=>by simp only[aW]at h ⊢;simp only[lh,aV]at hp;exact⟨RV.pure hk hp.1 h.1,aW.pure hk hp.2 h.2⟩
end
def lO:AV->AV
 | .tt=>.d (.v (.bool true))
 | .ff=>.d (.v (.bool false))
 | .fs aa=>.d (.sl aa)
 | .d (.v (.slice none 0 0))=>.d (.sl [])
 | .agg l=>.agg (l.map λx=>match x with
  | .fs aa=>.d (.sl aa)
  | .tt=>.d (.v (.bool true))
  | .ff=>.d (.v (.bool false))
  | .d (.v (.slice none 0 0))=>.d (.sl [])
  |x=>x)
 |x=>x
theorem aW.qK{S:Nat->Prop}{w:World}{φ:List bI}(f:AV->AV)(hf:∀x,bJ x (f x)):∀{l:List AV} {vs:List Value},aW S w φ l vs->aW S w φ (l.map f) vs|[],[],_=>by simp[aW]|[],_::_,h=>by simp[aW]at h|_::_,[],h=>by simp[aW]at h|a::l,v::vs,h=>by simp only[aW,bM]at h ⊢;exact⟨hf a _ _ _ _ h.1,h.2.qK f hf⟩
theorem bJ.nil:bJ (.d (.v (.slice none 0 0))) (.d (.sl [])):=λS w φ v h=>by simp only[RV]at h ⊢;cases h;exact .nil _ _
theorem bJ.fs(aa:List (List D)):bJ (.fs aa) (.d (.sl aa)):=λS w φ v h=>by simp only[RV]at h ⊢;exact h.1
theorem bJ.tt:bJ .tt (.d (.v (.bool true))):=λS w φ v h=>by simp only[RV]at h ⊢;subst h;exact .v _
theorem bJ.ff:bJ .ff (.d (.v (.bool false))):=λS w φ v h=>by simp only[RV]at h ⊢;subst h;exact .v _
theorem bJ.lO(x:AV):bJ x (lO x):=by unfold ax.lO;split;exact .tt;exact .ff;exact .fs _;exact .nil;intro S w φ v h;simp only[RV]at h ⊢;obtain⟨cs,h1,h2⟩:=h;refine⟨cs,h1,h2.qK _ λx=>?_⟩;split;exact .fs _;exact .tt;exact .ff;exact .nil;exact .refl _;exact .refl _
section
variable {g:G} {pf:Nat->cI} {ad:Array Oper}
theorem ah1(S:Nat->Prop):SS S []=S:=by funext b;simp[SS,eH]
theorem yz{P:Program}{w:World}{o:Oper}{a:Act}{x:Operand}{args:Array Operand}{ts:Array Nat}{va vc:List Value}(hop:o.op=.call {callee:=.value x,args:=args,argTypes:=ts})
  (hx:a.eval x=.func (.func f) va.toArray vc.toArray) (hc:sC P f) :
  (execOp a.eval o).run P w=.ok (.enter f (va++args.toList.map a.eval++vc).toArray) w:=by
 have h1:(resolve a.eval {callee:=.value x,args:=args,argTypes:=ts} o.type).run P w=.ok {target:=.fn (.func f) vc.toArray,args:=va.toArray++args.map a.eval} w:=by simp[resolve,hx,Deferred.ofValue]
 simp only[execOp,hop,Sem.run_bind,h1,Result.andThen_ok,invoke];rw[show va.toArray++Array.map a.eval args++vc.toArray=(va++args.toList.map a.eval++vc).toArray from by simp_all];exact hc _ _
theorem BN(hg:di g)(m:Machine):m.fenced g.P g.F:=λx _=>⟨(λh=>by rw[hg.alive]at h;cases h),.inl (hg.fn _),(λf _=>hg.fn f),(λd hd=>by rw[hg.depth]at hd;cases hd)⟩
theorem qL(hg:di g){n f:Nat}{args:Array Value}{w:World}{R:Ending->World->Prop}(h:Calls g.P f args w R):CallsIn g.F n g.P f args w R :=
 ⟨hg.fn f,λcs _=>let ⟨e,w',fr,r,s,x⟩:=h cs;⟨e,w',fr,r,by
  cases e with
  |returned v=>exact(StepsIn.of_steps s).mono λm _=>BN hg m
  |panicked ch=>exact(StepsIn.of_steps s).mono λm _=>BN hg m
  |outgrown=>exact s,x⟩⟩
theorem KK(hg:di g){o:Oper}{E:bq}{objs:List Ob}{x:Operand}{args:Array Operand}{ts:Array Nat}{fs cs dW:List AV}{r:AV}(bt:KH ad E o true)(hd:∀t,o.dst=some t->t<g.N)
  (hop:o.op=.call {callee:=.value x,args:=args,argTypes:=ts}) (hx:ev E x=.b9 f fs cs) (has:(fs++args.toList.map (ev E)++cs).map lO=dW) (hpa:lh dW=true) (hc:br g.P f dW r) (hpr:mJ r=true) :
  aK g ad o E objs .still r objs:=by
 refine⟨λ_=>rfl,λ_ _ _=>.refl _,λE₁ o₁ jF a w he ho hs Q=>?_⟩;have e:jF=o₁:=by grind
 subst e;obtain⟨φ,h1,h2,h3,h4,h5,h6⟩:=hs;rw[nj bt he h3];simp only[if_true];refine⟨pS hg o w a,?_⟩;have hρ:=ix (l:=o.looksAt ad) he h3
 have hev:∀y∈o.op.operands.toList,pQ (o.looksAt ad) E y=ev E y:=λy hy=>by
  cases y with
  |tmp t=>simp[pQ,ev,tB hy]
  |_=>rfl
 have apE:o.op.operands.toList=x::args.toList:=by rw[hop];simp[Op.operands,Call.operands]
 have aP:=hρ x;rw[hev x (by rw[apE];simp),hx]at aP;simp only[RV]at aP;obtain⟨va,vc,aP,X6,rC⟩:=aP
 have mK:aW (SS g.S0 φ) w φ (args.toList.map (ev E)) (args.toList.map a.eval):=by
  refine aW.map _ _ _ λy hy=>?_
  grind
 have ez:=((X6.append mK).append rC).qK lO bJ.lO;rw[has]at ez;rw[Oper.semAt_eq _ _ _ (by rw[hop];simp),yz hop aP hc.call];refine⟨λh=>by rw[hg.depth]at h;simp at h,?_⟩;have T4:∀b,w.heap.size<=b->SS g.S0 φ b:=λb hb=>⟨h1.up b hb,λhc=>by have:=h1.lt b hc;omega⟩
 have fC:=hc.run (SS g.S0 φ) w _ (hg.Fv h2 h6) T4 (ez.pure (dL.refl _ _) hpa);refine(qL hg fC).mono ?_;rintro e w' ⟨v,rfl,hv,hb⟩;have cY:j8 g.S0 φ w φ jF w':=⟨h1.later hb.size (λb uL=>hb.block b uL),.of λb uL hl=>⟨uL,hb.block b hl⟩,.refl _,hb.size,hb.os,hb.tape,hb.output,λb uL _=>hb.block b uL,λ_ h=>.inl h,λ_ _ _ B h=>⟨B,h⟩⟩;exact fi.Rc h2 h3 h4 h5 h6 cY hd λ_=>hv.pure (dL.refl _ _) hpr
end
theorem eG {g:G}{pf:Nat->cI}{Fin:Exit->Act->World->Prop}(hg:di g){k k':List It}{E E':bq}{objs objs':List Ob}{t:Nat}{b:Bool}(ht:X4 k=some t)(h:lk E t=.d (.v (.bool b)))(hb:¬b=true)(hk:FB k=true)(hr:km ⟨g.ty,g.N⟩ (jQ pf) 1000 k (put E t .ff) objs=.mk k' E' objs')(h2:R g pf Fin k' E' objs'):R g pf Fin k E objs:=iq ht h (λe=>absurd e hb) (λ_=>dJ hg hk hr h2)
theorem cQ {g:G}{pf:Nat->cI}{Fin:Exit->Act->World->Prop}(hg:di g){k k':List It}{E E':bq}{objs objs':List Ob}{t:Nat}{b:Bool}(ht:X4 k=some t)(h:lk E t=.d (.v (.bool b)))(hb:¬b=false)(hk:FB k=true)(hr:km ⟨g.ty,g.N⟩ (jQ pf) 1000 k (put E t .tt) objs=.mk k' E' objs')(h2:R g pf Fin k' E' objs'):R g pf Fin k E objs:=iq ht h (λ_=>dJ hg hk hr h2) (λe=>absurd e hb)
end ax
