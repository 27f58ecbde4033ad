import Derived.OrdersIn
import Derived.Below
import Derived.KernelRfl
import GoSem.ClaimData
import Derived.Laws.AppendOwn
namespace aw
open Go
theorem af{p q:Prop}(h:p)(f:p→q:=by intro x;exact er hg.ok rfl rfl x):q:=f h
theorem aj{p p' q:Prop}(h:p)(h':p')(f:p→p'→q:=by intro x y;exact qY rfl rfl (fun h=>er hg.ok rfl rfl (x h)) (fun h=>er hg.ok rfl rfl (y h))):q:=f h h'
theorem iD{p p' q:Prop}(h:p)(h':p')(f:p→p'→q:=by intro x y;exact qY rfl rfl x y):q:=f h h'
theorem aF{c p q:Prop}(e:c)(h:p)(f:c→p→q:=by intro e x;exact Mn hg.ok e rfl rfl rfl rfl rfl rfl (er hg.ok rfl rfl x)):q:=f e h
theorem cW{c p q:Prop}(e:c)(h:p)(f:c→p→q:=by intro e x;exact dN hg.ok rfl rfl rfl rfl rfl rfl (Int.natCast_nonneg _) e rfl (er hg.ok rfl rfl x)):q:=f e h
structure fg(p:Prop):Prop where v:p
theorem oX{p q:Prop}(h:p)(f:fg p→q:=by intro x;(repeat first |(refine qY rfl rfl (fun _=>?_) (fun h=>absurd h (by first |(simp;done) |(simp;omega)));refine er hg.ok rfl rfl ?_) |(refine qY rfl rfl (fun h=>absurd h (by first |(simp;done) |(simp;omega))) (fun _=>?_);refine er hg.ok rfl rfl ?_));exact x.1):q:=f ⟨h⟩
theorem uw{c p q:Prop}(e:c)(h:p)(f:c→p→q:=by intro e ba;exact aU.ej (pf:=fun _=>.ji) gK mixed e rfl (by kernel_rfl) (by kernel_rfl) (Nat.le_of_ble_eq_true rfl) (Nat.le_of_ble_eq_true rfl) fun w S φ hg=>er hg.ok rfl rfl (ba w S φ hg)):q:=f e h
theorem oY{c p q:Prop}(e:c)(h:p)(f:c→p→q:=by intro e ba;exact bD.ej (pf:=fun _=>.still) gK mixed e rfl (by kernel_rfl) (by kernel_rfl) (Nat.le_of_ble_eq_true rfl) fun w S hg=>er hg.ok rfl rfl (ba w S hg)):q:=f e h
theorem zp{c p q:Prop}(e:c)(h:p)(f:c→p→q:=by intro e ba;exact bD.ej (pf:=fun _=>.ji) gK mixed e rfl (by kernel_rfl) (by kernel_rfl) (Nat.le_of_ble_eq_true rfl) fun w S hg=>er hg.ok rfl rfl (ba w S hg)):q:=f e h
theorem mH4{c p q:Prop}(e:c)(h:p)(f:c→p→q:=by intro e ba;exact aU.ej (pf:=fun _=>.look 0) gK mixed e rfl (by kernel_rfl) (by kernel_rfl) (Nat.le_of_ble_eq_true rfl) (Nat.le_of_ble_eq_true rfl) fun w S φ hg=>ba w S φ hg):q:=f e h
theorem mH5{c p q:Prop}(e:c)(h:p)(f:c→p→q:=by intro e ba;exact aU.ej (pf:=anP) gK mixed e rfl (by kernel_rfl) (by kernel_rfl) (Nat.le_of_ble_eq_true rfl) (Nat.le_of_ble_eq_true rfl) fun w S φ hg=>er hg.ok rfl rfl (ba w S φ hg)):q:=f e h
theorem mH6{c p q:Prop}(e:c)(h:p)(f:c→p→q:=by intro e ba;exact aU.ej (pf:=anQ) gK mixed e rfl (by kernel_rfl) (by kernel_rfl) (Nat.le_of_ble_eq_true rfl) (Nat.le_of_ble_eq_true rfl) fun w S φ hg=>ba w S φ hg):q:=f e h
theorem mH7{c p q:Prop}(e:c)(h:p)(f:c→p→q:=by intro e ba;exact aU.ej (pf:=ajB) gK mixed e rfl (by kernel_rfl) (by kernel_rfl) (Nat.le_of_ble_eq_true rfl) (Nat.le_of_ble_eq_true rfl) fun w S φ hg=>er hg.ok rfl rfl (ba w S φ hg)):q:=f e h
theorem Ph{c p q:Prop}(e:c)(h:p)(f:c→p→q:=by intro e ba;exact aU.ej (pf:=fun _=>.ji) gK mixed e rfl (by kernel_rfl) (by kernel_rfl) (Nat.le_of_ble_eq_true rfl) (Nat.le_of_ble_eq_true rfl) fun w S φ hg=>ba w S φ hg):q:=f e h
theorem mH9{c p q:Prop}(e:c)(h:p)(f:c→p→q:=by intro e ba;exact aU.ej (pf:=anR) gK mixed e rfl (by kernel_rfl) (by kernel_rfl) (Nat.le_of_ble_eq_true rfl) (Nat.le_of_ble_eq_true rfl) fun w S φ hg=>ba w S φ hg):q:=f e h
theorem anS{c p q:Prop}(e:c)(h:p)(f:c→p→q:=by intro e ba;exact aU.ej (pf:=anT) gK mixed e rfl (by kernel_rfl) (by kernel_rfl) (Nat.le_of_ble_eq_true rfl) (Nat.le_of_ble_eq_true rfl) fun w S φ hg=>ba w S φ hg):q:=f e h
theorem afI{c p q:Prop}(e:c)(h:p)(f:c→p→q:=by intro e ba;exact bD.ej (pf:=afJ) gK mixed e rfl (by kernel_rfl) (by kernel_rfl) (Nat.le_of_ble_eq_true rfl) fun w S hg=>er hg.ok rfl rfl (ba w S hg)):q:=f e h
theorem ajC{c p q:Prop}(e:c)(h:p)(f:c→p→q:=by intro e ba;exact aU.ej (pf:=ajD) gK mixed e rfl (by kernel_rfl) (by kernel_rfl) (Nat.le_of_ble_eq_true rfl) (Nat.le_of_ble_eq_true rfl) fun w S φ hg=>er hg.ok rfl rfl (ba w S φ hg)):q:=f e h
theorem cq{p q:Prop}(h:p)(f:p→q:=by intro ba;exact Ay hg 5 rfl rfl ba):q:=f h
theorem gu{p q:Prop}(h:p)(f:fg p→q:=by intro ba;exact en hg.ok rfl rfl (by simp) rfl rfl ba.1):q:=f ⟨h⟩
theorem mw{p q:Prop}(h:p)(f:fg p→q:=by intro ba;exact en hg.ok rfl rfl (by simp[hk]) rfl rfl ba.1):q:=f ⟨h⟩
theorem vu{q:Prop}(f:q:=by exact aK hg 3 5 (Nat.le_refl _) rfl rfl (iS B _)):q:=f
theorem oS{p q:Prop}(h:p)(f:fg p→q:=by intro ba;exact cQ hg.ok rfl rfl (by simp) rfl rfl ba.1):q:=f ⟨h⟩
theorem mL6{p q:Prop}(h:p)(f:fg p→q:=by intro ba;exact iT hg.ok hg.cm hg.wide hg.Y [0,1,2,3,4,5] (Mp Y P hd ab { m with now:=r } d v) (fun _=>rfl) rfl rfl rfl rfl rfl (by rw[show IB P hd ab { m with now:=r } d v=dm P hd ab { m with now:=r } d v from rfl,dP,← e];rfl) rfl (by rw[show IB P hd ab { m with now:=r } d v=dm P hd ab { m with now:=r } d v from rfl,dP,← e];rfl) (er hg.ok rfl rfl ba.1)):q:=f ⟨h⟩
theorem Mb{p q:Prop}(h:p)(f:fg p→q:=by intro ba;exact F7 hg.ok (by show φ.length≤7;omega) rfl rfl rfl rfl rfl rfl rfl (er hg.ok rfl rfl ba.1)):q:=f ⟨h⟩
theorem Mc{p q:Prop}(h:p)(f:fg p→q:=by intro ba;exact F7 hg.ok (by show φ.length≤8;omega) rfl rfl rfl rfl rfl rfl rfl (er hg.ok rfl rfl ba.1)):q:=f ⟨h⟩
theorem mL9{p q:Prop}(h:p)(f:fg p→q:=by intro ba;exact dp hg.ok (fZ (R++(x'.l.zip y'.l).take (k+1))) rfl rfl rfl rfl rfl rfl rfl rfl rfl (by simp) (by simp[p7]) (by rw[Ig];exact RY _ xk yk) (by rw[iE,U8];simp;omega) (by rw[iE,U8];simp;omega) (er hg.ok rfl rfl ba.1)):q:=f ⟨h⟩
theorem aaw{p q:Prop}(h:p)(f:fg p→q:=by intro ba;exact Vn hg.ok (.fs [[.v (.int .i64 xk.k),.v (.string xk.s),.v (.int .i64 xk.n),.sl (Tm.aa xk.l),.v (.int .i64 yk.k),.v (.string yk.s),.v (.int .i64 yk.n),.sl (Tm.aa yk.l)]]) rfl rfl (Mq rfl rfl rfl rfl (by decide)) (er hg.ok rfl rfl ba.1)):q:=f ⟨h⟩
theorem lI{q:Prop}(f:q:=by exact aK hg 1 5 (Nat.le_refl _) rfl rfl rfl):q:=f
theorem afK{p q:Prop}(h:p)(f:fg p→q:=by intro ba;exact ai hg.ok hg.cm hg.wide hg.Y [0,1,2] (b7 d a b B (s+1) R cD++[aP x',aP y',.box [iV x.n,iV y.n]]) cw (fun _=>rfl) rfl rfl rfl rfl rfl (by rw[b8];rfl) rfl (by rw[b8];rfl) (er hg.ok rfl rfl ba.1)):q:=f ⟨h⟩
theorem afL{p q:Prop}(h:p)(f:fg p→q:=by intro ba;exact ai hg.ok hg.cm hg.wide hg.Y [0,1,2] (b7 d a b B (s+1) R cD++[aP y',aP x',.box [iV x.n,iV y.n]]) cw (fun _=>rfl) rfl rfl rfl rfl rfl (by rw[b8];rfl) rfl (by rw[b8];rfl) (er hg.ok rfl rfl ba.1)):q:=f ⟨h⟩
theorem IC{p q:Prop}(h:p)(f:fg p→q:=by intro ba;exact iT hg.ok hg.cm hg.wide hg.Y [1,2,3] (ux Y d m.B) (fun _=>rfl) rfl rfl rfl rfl rfl (by rw[mR];rfl) rfl (by rw[mR];rfl) (er hg.ok rfl rfl ba.1)):q:=f ⟨h⟩
theorem zq{p q:Prop}(h:p)(f:p→q:=by intro ba;exact Vo hg.ok rfl rfl rfl rfl rfl rfl rfl rfl rfl (er hg.ok rfl rfl ba)):q:=f h
theorem Vp{p q:Prop}(h:p)(f:fg p→q:=by intro ba;exact dp hg.ok _ rfl rfl rfl rfl rfl rfl rfl rfl rfl (by simp) (by simp[p7]) (RZ e1) (by rw[Tm.au,Tm.jQ];simp;omega) (by rw[Tm.au,Tm.jQ];simp;omega) (er hg.ok rfl rfl ba.1)):q:=f ⟨h⟩
theorem ajE{p q:Prop}(h:p)(f:fg p→q:=by intro ba;exact ai hg.ok hg.cm hg.wide hg.Y [0,1,2,3,4,5] (kW P hd ab { m with done:=m.done+1 } d v (.bG (aX g1 s1 o1 z1))) (Ef Y P hd ab { m with now:=r } (by show m.done<_;omega) d v) (fun _=>rfl) rfl rfl rfl rfl rfl (by rw[show IB P hd ab { m with now:=r } d v=dm P hd ab { m with now:=r } d v from rfl,dP,← e];rfl) rfl (by rw[show IB P hd ab { m with now:=r,done:=m.done+1 } d v=dm P hd ab { m with now:=r,done:=m.done+1 } d v from rfl,dP,← e2];rfl) (er hg.ok rfl rfl ba.1)):q:=f ⟨h⟩
theorem ajF{p q:Prop}(h:p)(f:fg p→q:=by intro ba;exact ai hg.ok hg.cm hg.wide hg.Y [0,1,2,3,4,5] (kW P hd ab { m with done:=m.done+1 } d v (.v (.pointer none))) (Ef Y P hd ab { m with now:=r } (by show m.done<_;omega) d v) (fun _=>rfl) rfl rfl rfl rfl rfl (by rw[show IB P hd ab { m with now:=r } d v=dm P hd ab { m with now:=r } d v from rfl,dP,← e];rfl) rfl (by rw[show IB P hd ab { m with now:=r,done:=m.done+1 } d v=dm P hd ab { m with now:=r,done:=m.done+1 } d v from rfl,dP,← e2];rfl) (er hg.ok rfl rfl ba.1)):q:=f ⟨h⟩
theorem Vq{q:Prop}(f:q:=by exact bp (k+1) aR (by omega) ⟨.refl _,.refl _,.refl _,.refl _,.refl _,.refl _,bM.wrap (by omega) (by omega) (by omega),trivial⟩ rfl):q:=f
theorem tH{p q:Prop}(h:p)(f:p→q:=by intro ba;exact Vr hg.ok Tryz.underlying52 rfl rfl rfl (er hg.ok rfl rfl ba)):q:=f h
theorem ajG{p q:Prop}(h:p)(f:fg p→q:=by intro ba;exact ai hg.ok hg.cm hg.wide hg.Y [0,1,2] (b7 d a b (B++[(x'.n,y')]) (s+1) R cD++[aP x',aP y',.box [iV x.n,iV y.n]]) cb (fun _=>rfl) rfl rfl rfl rfl rfl (by rw[b8];rfl) rfl (by rw[b8];rfl) (er hg.ok rfl rfl ba.1)):q:=f ⟨h⟩
theorem anU{p q:Prop}(h:p)(f:fg p→q:=by intro ba;exact bh (fun k:Nat=>([(0,.lo 0 0),(7,.ow 5 (s+1+k)),(8,.mp 6),(10,.lo 8 0),(66,.d (.sl (Tm.aa x'.l))),(67,iV x'.l.length),(68,iV k)],b7 d a b B (s+1+k) (R++(x'.l.zip y'.l).take k) cD++[aP x',aP y',.box [iV x.n,iV y.n]])) (fun k=>k≤x'.l.length) (fun k=>x'.l.length - k) 0 (Nat.zero_le _) ⟨.refl _,.refl _,.refl _,.refl _,.refl _,bM.int (by rw[Tm.au]),.refl _,trivial⟩ (by simp only[List.take_zero,List.append_nil];rfl) ba.1):q:=f ⟨h⟩
theorem ajH{p q:Prop}(h:p)(f:fg p→q:=by intro ba;exact ai hg.ok hg.cm hg.wide hg.Y [0,1,2] (b7 d a b (B++[(x'.n,y')]) (s+1) R cD++[aP y',aP x',.box [iV x.n,iV y.n]]) cb (fun _=>rfl) rfl rfl rfl rfl rfl (by rw[b8];rfl) rfl (by rw[b8];rfl) (er hg.ok rfl rfl ba.1)):q:=f ⟨h⟩
theorem anV{p q:Prop}(h:p)(f:fg p→q:=by intro ba;exact bh (fun k:Nat=>([(0,.lo 0 0),(7,.ow 5 (s+1+k)),(8,.mp 6),(10,.lo 7 0),(66,.d (.sl (Tm.aa x'.l))),(67,iV x'.l.length),(68,iV k)],b7 d a b B (s+1+k) (R++(x'.l.zip y'.l).take k) cD++[aP y',aP x',.box [iV x.n,iV y.n]])) (fun k=>k≤x'.l.length) (fun k=>x'.l.length - k) 0 (Nat.zero_le _) ⟨.refl _,.refl _,.refl _,.refl _,.refl _,bM.int (by rw[Tm.au]),.refl _,trivial⟩ (by simp only[List.take_zero,List.append_nil];rfl) ba.1):q:=f ⟨h⟩
theorem Dz{p q:Prop}(h:p)(f:fg p→q:=by intro ba;exact uy hg.ok rfl rfl rfl rfl rfl (n:=(m.ag.length:Int)) (by rw[xB]) (er hg.ok rfl rfl ba.1)):q:=f ⟨h⟩
theorem aax{q:Prop}(f:q:=by exact bp (n,R,B++[(x'.n,y')],cD,s+1) hN (by simp only;omega) ⟨.refl _,.refl _,.refl _,trivial⟩ rfl):q:=f
theorem Mr{q:Prop}(f:q:=by exact bp (k+1) aR (by omega) ⟨.refl _,.refl _,.refl _,bM.wrap (by omega) (by omega) (by omega),trivial⟩ rfl):q:=f
theorem Vs{q:Prop}(f:q:=by exact bp (k+1) aR (by omega) ⟨.refl _,.refl _,.refl _,.refl _,.refl _,bM.wrap (by omega) (by omega) (by omega),trivial⟩ rfl):q:=f
theorem ov{p q:Prop}(h:p)(f:p→q:=by intro ba;exact Vt hg.ok rfl rfl rfl rfl ba):q:=f h
theorem R1{p q:Prop}(h:p)(f:fg p→q:=by intro ba;exact bb 5 _ (by rw[show (kj _ L w R0 X φ0).φ0=φ0 from rfl,Md];exact Nat.le_refl _) rfl (Vu (dA 5) rfl _ _) ba.1):q:=f ⟨h⟩
theorem Az{q:Prop}(f:q:=by exact l3 hg 2 5 (by show (2:Nat)≤2;omega) rfl rfl (Vv _ _)):q:=f
theorem ajI{p q:Prop}(h:p)(f:fg p→q:=by intro ba;exact bh (fun x:Nat × List Int=>([(3,.lo 1 0),(4,.lo 2 0),(10,.d (.sl (Tm.aa l))),(11,iV l.length),(12,iV x.1)],yH x.2)) (fun x=>x.1≤l.length∧bH l=vz x.2 (l.drop x.1)∧x.2.length+Tm.ay (l.drop x.1)≤Tm.ay l) (fun x=>l.length - x.1) (0,[]) ⟨Nat.zero_le _,rfl,by simp⟩ ⟨.refl _,.refl _,.refl _,bM.int (by rw[Tm.au]),.refl _,trivial⟩ rfl ba.1):q:=f ⟨h⟩
theorem aay{p q:Prop}(h:p)(f:fg p→q:=by intro ba;exact sG hg.ok ((m.ag.take x.to).map Tr.row) rfl rfl rfl rfl rfl rfl rfl rfl rfl rfl (Int.natCast_nonneg _) (by rw[xB];omega) (by rw[Int.toNat_natCast,← List.map_take]) (er hg.ok rfl rfl ba.1)):q:=f ⟨h⟩
theorem afM{p q:Prop}(h:p)(f:fg p→q:=by intro ba;exact ai hg.ok hg.cm hg.wide hg.Y [0,1] (oZ (kl (fC (kl c [124]) (uz x)) [93])++[yI x]) (ju Y _ [93] (by simp) (by simp)) (fun _=>rfl) rfl rfl rfl rfl rfl (by rw[mx _ rfl rfl];rfl) rfl (by rw[mx _ rfl rfl];rfl) (er hg.ok rfl rfl ba.1)):q:=f ⟨h⟩
theorem aaz{q:Prop}(f:q:=by exact bp (i+1,d1) ⟨mJ,hr⟩ (by show P.length - (i+1)<P.length - i;omega) ⟨.refl _,.refl _,bM.wrap (by simp only;omega) (by simp only;omega) (by simp only;omega),trivial⟩ rfl):q:=f
theorem aaA{p q:Prop}(h:p)(f:p→q:=by intro ba;exact ai hg.ok hg.cm hg.wide hg.Y [0] (jR [t,r] [] false ByteArray.empty nx 5++[aP t,aP e]) (km Y [t,r] nx 5) (fun _=>rfl) rfl rfl rfl rfl rfl rfl rfl rfl (er hg.ok rfl rfl ba)):q:=f h
theorem ru{p q:Prop}(h:p)(f:p→q:=by intro ba;exact anS Tryz.func14 fun w S φ hg=>ba w S φ hg):q:=f h
theorem afN{p q:Prop}(h:p)(f:fg p→q:=by intro ba;exact ai hg.ok hg.cm hg.wide hg.Y [0,1] (oZ (kl c [124])++[yI x]) (ju Y c [124] (by simp) (by simp)) (fun _=>rfl) rfl rfl rfl rfl rfl (by rw[mx _ rfl rfl];rfl) rfl (by rw[mx _ rfl rfl];rfl) (er hg.ok rfl rfl ba.1)):q:=f ⟨h⟩
theorem F8{q:Prop}(f:q:=by exact aK hg 6 5 (Nat.le_refl _) rfl rfl (kn P hd ab m' d' v' _)):q:=f
theorem DA{p q:Prop}(h:p)(f:p→q:=by intro ba;exact AA hg.ok rfl rfl rfl rfl rfl rfl rfl rfl rfl (er hg.ok rfl rfl ba)):q:=f h
theorem afO{p q:Prop}(h:p)(f:fg p→q:=by intro ba;exact ai hg.ok hg.cm hg.wide hg.Y [0,1] (oZ (fC (kl c [124]) (uz x))++[yI x]) (fH x nQ Vw Y _) (fun _=>rfl) rfl rfl rfl rfl rfl (by rw[mx _ rfl rfl];rfl) rfl (by rw[mx _ rfl rfl];rfl) (er hg.ok rfl rfl ba.1)):q:=f ⟨h⟩
theorem ajJ{p q:Prop}(h:p)(f:fg p→q:=by intro ba;exact bh (fun k:Nat=>([(1,.lo 1 0),(4,lzA l),(6,.mp 4),(85,.d (.sl (de.map fun s=>[.v (.string s)]))),(86,iV 6),(87,iV k)],Ms l nx++[.tI (eI (jS l x++(de.take k).map (uA l)))])) (fun k=>k≤6) (fun k=>6 - k) 0 (Nat.zero_le _) ⟨.refl _,.refl _,.refl _,.fs _,.refl _,.refl _,trivial⟩ (by simp;rfl) ba.1):q:=f ⟨h⟩
theorem anW{p q:Prop}(h:p)(f:fg p→q:=by intro ba;exact bb 5 (Ms l nx++[Ob.tI (eI (jS l x++(de.take (k+1)).map (uA l)))]) (by show φ.length≤5;omega) rfl (show List.map (aQ (dA 5)) (Ms l nx++[.tI (eI (jS l x++(de.take (k+1)).map (uA l)))])=_ from congrArg (fun e=>Ms l nx++[Ob.tI e]) (xC (dA 5) l x _ rfl fun _=>rfl)) ba.1):q:=f ⟨h⟩
theorem F9{p q:Prop}(h:p)(f:fg p→q:=by intro ba;exact aaB hg.ok 0 (by omega) rfl rfl rfl rfl rfl rfl rfl (er hg.ok rfl rfl ba.1)):q:=f ⟨h⟩
theorem R3{p q:Prop}(h:p)(f:fg p→q:=by intro ba;exact dN hg.ok rfl rfl rfl rfl rfl rfl (by decide) (Tm.aB (l:=[a,b]) (i:=0) rfl) rfl (er hg.ok rfl rfl ba.1)):q:=f ⟨h⟩
theorem R4{p q:Prop}(h:p)(f:fg p→q:=by intro ba;exact dN hg.ok rfl rfl rfl rfl rfl rfl (by decide) (Tm.aB (l:=[a,b]) (i:=1) rfl) rfl (er hg.ok rfl rfl ba.1)):q:=f ⟨h⟩
theorem ID{p q:Prop}(h:p)(f:fg p→q:=by intro ba;exact cQ hg.ok rfl rfl (by simp [lJ]) rfl rfl ba.1):q:=f ⟨h⟩
theorem afP{p q:Prop}(h:p)(f:fg p→q:=by intro ba;exact ai hg.ok hg.cm hg.wide hg.Y [0,1,2] (b7 d a b B (s+1) R gS++[aP x',aP y',.box [iV x.n,iV y.n]]) cw (fun _=>rfl) rfl rfl rfl rfl rfl (by rw[b8];rfl) rfl (by rw[b8];rfl) (er hg.ok rfl rfl ba.1)):q:=f ⟨h⟩
theorem afQ{p q:Prop}(h:p)(f:fg p→q:=by intro ba;exact ai hg.ok hg.cm hg.wide hg.Y [0,1,2] (b7 d a b B (s+1) R gS++[aP y',aP x',.box [iV x.n,iV y.n]]) cw (fun _=>rfl) rfl rfl rfl rfl rfl (by rw[b8];rfl) rfl (by rw[b8];rfl) (er hg.ok rfl rfl ba.1)):q:=f ⟨h⟩
theorem Vx{q:Prop}(f:q:=by exact bp (k+1) ⟨aR,hm⟩ (by omega) ⟨.refl _,.refl _,.refl _,bM.wrap (by omega) (by omega) (by omega),trivial⟩ rfl):q:=f
theorem IE{p q:Prop}(h:p)(f:fg p→q:=by intro ba;exact cQ hg.ok rfl rfl (by simp[xw]) rfl rfl ba.1):q:=f ⟨h⟩
theorem IG{p q:Prop}(h:p)(f:fg p→q:=by intro ba;exact cQ hg.ok rfl rfl (by simp[lJ]) rfl rfl ba.1):q:=f ⟨h⟩
theorem aaC{p q:Prop}(h:p)(f:fg p→q:=by intro ba;exact R5 hg.ok 10000 rfl rfl rfl (by simp[o4,Ob.lvl,Ob.IH]) rfl rfl rfl rfl rfl rfl (Int.natCast_nonneg _) (by rw[iE];simp) (er hg.ok rfl rfl ba.1)):q:=f ⟨h⟩
theorem II{p q:Prop}(h:p)(f:fg p→q:=by intro ba;exact en hg.ok rfl rfl (by rw[decide_eq_false (by omega)];simp) rfl rfl ba.1):q:=f ⟨h⟩
theorem IJ{p q:Prop}(h:p)(f:fg p→q:=by intro ba;exact en hg.ok rfl rfl (by simp[xw]) rfl rfl ba.1):q:=f ⟨h⟩
theorem zr{p q:Prop}(h:p)(f:fg p→q:=by intro ba;exact cQ hg.ok rfl rfl (by simp[hk]) rfl rfl ba.1):q:=f ⟨h⟩
theorem Mt{p q:Prop}(h:p)(f:p→q:=by intro ba;exact Vy hg.ok _ rfl rfl rfl rfl rfl rfl rfl rfl (er hg.ok rfl rfl ba)):q:=f h
theorem afR{p q:Prop}(h:p)(f:p→q:=by intro ba;exact ai hg.ok hg.cm hg.wide hg.Y [0] (jR [t,n,a] [] false ByteArray.empty nx 5++[aP t,aP n,aP a]) (km Y [t,n,a] nx 5) (fun _=>rfl) rfl rfl rfl rfl rfl rfl rfl rfl (er hg.ok rfl rfl ba)):q:=f h
theorem qZ{p q:Prop}(h:p)(f:p→q:=by intro ba;exact gv xD 1000 rfl rfl ba):q:=f h
theorem aaD{p q:Prop}(h:p)(f:fg p→q:=by intro ba;exact afS hg.ok 10000 (by simp[o4,Ob.lvl,Ob.IH]) rfl rfl rfl rfl rfl rfl (n:=((R++[(x,y)]).length:Int)) (by rw[iE]) (er hg.ok rfl rfl ba.1)):q:=f ⟨h⟩
theorem anX{p q:Prop}(h:p)(f:fg p→q:=by intro ba;exact afT hg.ok (jS l x++(de.take k).map (uA l)) (jS l x++(de.take (k+1)).map (uA l)) rfl rfl rfl (congrArg (fun e=>some (Ob.tI e)) (xC _ l x _ rfl fun _=>rfl)) rfl rfl rfl rfl e2 (by rw[e3,List.map_append,← List.append_assoc];rfl) (er hg.ok rfl rfl ba.1)):q:=f ⟨h⟩
theorem aaE{q:Prop}(f:q:=by exact q0 (false,eP - 1) hx.symm ⟨.refl _,.refl _,.refl _,(by first |exact .refl _ |exact .ff),.refl _,.refl _,.refl _,trivial⟩ rfl):q:=f
theorem ajK{p q:Prop}(h:p)(f:fg p→q:=by intro ba;exact ai hg.ok hg.cm hg.wide hg.Y [0,1,2,3,4,5] (dm P hd ab { m with now:=r,aD:=m.aD++[ko] } d v) (sH Y P hd ab { m with now:=r } hS d v ko) (fun _=>rfl) rfl rfl rfl rfl rfl (by rw[dP,← e];rfl) rfl (by rw[dP];rfl) (er hg.ok rfl rfl ba.1)):q:=f ⟨h⟩
theorem Vz{p q:Prop}(h:p)(f:fg p→q:=by intro ba;exact dN hg.ok rfl rfl rfl rfl rfl rfl (by decide) (Tm.aB (l:=h::m) (i:=0) rfl) rfl (er hg.ok rfl rfl ba.1)):q:=f ⟨h⟩
theorem afU{p q:Prop}(h:p)(f:p→q:=by intro ba;exact ai hg.ok hg.cm ⟨rfl,rfl⟩ (fun _ _ _ _ h=>by cases h) [1,2] (akO l a++[.tI (eI (l5 l x))]) (hc) (fun _=>rfl) rfl rfl rfl rfl rfl rfl rfl rfl (er hg.ok rfl rfl ba)):q:=f h
theorem ajL{p q:Prop}(h:p)(f:fg p→q:=by intro ba;exact ai hg.ok hg.cm hg.wide hg.Y [0,1,2,3,4,5] (gT P hd ab { m with now:=r } x (bJ x.g.c x.sh x.to r) (bJ x.g.b x.sh x.to r) d v) R6 (fun _=>rfl) rfl rfl rfl rfl rfl (by rw[dP,← e];rfl) rfl (by unfold gT;rw[dP];rfl) (er hg.ok rfl rfl ba.1)):q:=f ⟨h⟩
theorem afV{p q:Prop}(h:p)(f:fg p→q:=by intro ba;exact dp hg.ok (Cs.aa (l++[q])) rfl rfl rfl rfl rfl rfl rfl rfl rfl (by simp) (by simp[p7]) (Cs.R7 l q) (by simp[dV];omega) (by simp[dV];omega) (er hg.ok rfl rfl ba.1)):q:=f ⟨h⟩
theorem anY{p q:Prop}(h:p)(f:fg p→q:=by intro ba;exact jv hg.ok hg.cm hg.wide hg.Y [0,1,2] (b7 d a b B (s+1) R cD++[aP x,aP y,.box [iV x.n,iV y.n]]) cx (fun _=>rfl) (fun i hi=>by show i<φ.length;simp at hi;omega) rfl rfl rfl rfl rfl (by rw[b8];rfl) rfl (by rw[b8];rfl) (er hg.ok rfl rfl ba.1)):q:=f ⟨h⟩
theorem anZ{p q:Prop}(h:p)(f:fg p→q:=by intro ba;exact jv hg.ok hg.cm hg.wide hg.Y [0,1,2] (b7 d a b B (s+1) R cD++[aP x,aP y,.box [iV x.n,iV y.n]]) cy (fun _=>rfl) (fun i hi=>by show i<φ.length;simp at hi;omega) rfl rfl rfl rfl rfl (by rw[b8];rfl) rfl (by rw[b8];rfl) (er hg.ok rfl rfl ba.1)):q:=f ⟨h⟩
theorem an0{p q:Prop}(h:p)(f:fg p→q:=by intro ba;exact jv hg.ok hg.cm hg.wide hg.Y [0,1,2] (b7 d a b B (s+1) R cD++[aP y,aP x,.box [iV x.n,iV y.n]]) cx (fun _=>rfl) (fun i hi=>by show i<φ.length;simp at hi;omega) rfl rfl rfl rfl rfl (by rw[b8];rfl) rfl (by rw[b8];rfl) (er hg.ok rfl rfl ba.1)):q:=f ⟨h⟩
theorem an1{p q:Prop}(h:p)(f:fg p→q:=by intro ba;exact jv hg.ok hg.cm hg.wide hg.Y [0,1,2] (b7 d a b B (s+1) R cD++[aP y,aP x,.box [iV x.n,iV y.n]]) cy (fun _=>rfl) (fun i hi=>by show i<φ.length;simp at hi;omega) rfl rfl rfl rfl rfl (by rw[b8];rfl) rfl (by rw[b8];rfl) (er hg.ok rfl rfl ba.1)):q:=f ⟨h⟩
theorem afW{p q:Prop}(h:p)(f:fg p→q:=by intro ba;exact aaF hg.ok hg.cm (IK (l++[q]) eK (by simp;omega)) rfl rfl rfl rfl (xE (R8 (xE (vA rfl) rfl)) rfl) rfl rfl (er hg.ok rfl rfl ba.1)):q:=f ⟨h⟩
theorem afX{q:Prop}(f:q:=by exact bp (k+1) ⟨aR,by rw[hm,h,Bool.false_or]⟩ (by omega) ⟨.refl _,.refl _,.refl _,.refl _,bM.wrap (by omega) (by omega) (by omega),trivial⟩ rfl):q:=f
theorem ajM{p q:Prop}(h:p)(f:fg p→q:=by intro ba;exact ai hg.ok hg.cm hg.wide hg.Y [0,1,2,3,4,5] (gT P hd ab { m with now:=r } x r (bJ [dK] 0 0 []) d v) R6 (fun _=>rfl) rfl rfl rfl rfl rfl (by rw[dP,← e];rfl) rfl (by unfold gT;rw[dP];rfl) (er hg.ok rfl rfl ba.1)):q:=f ⟨h⟩
theorem afY{p q:Prop}(h:p)(f:p→q:=by intro ba;exact vB [VA t,.box [.d (.v (.bool false))],.box [iV ((n+1:Nat):Int)]] ⟨nR.refl _,⟨bM.ff,trivial⟩,⟨bM.int hw,trivial⟩,trivial⟩ rfl ba):q:=f h
theorem afZ{q:Prop}(f:q:=by exact q0 (false,eP - 1) (by rw[hx,n1,n2];rfl) ⟨.refl _,.refl _,.refl _,(by first |exact .refl _ |exact .ff),.refl _,.refl _,.refl _,trivial⟩ rfl):q:=f
theorem ajN{p q:Prop}(h:p)(f:fg p→q:=by intro ba;exact ai hg.ok hg.cm hg.wide hg.Y [0,1,2] (b7 d a b (B++[(x'.n,y')]) (s+1) R gS++[aP x',aP y',.box [iV x.n,iV y.n]]) cb (fun _=>rfl) rfl rfl rfl rfl rfl (by rw[b8];rfl) rfl (by rw[b8];rfl) (er hg.ok rfl rfl ba.1)):q:=f ⟨h⟩
theorem ajO{p q:Prop}(h:p)(f:fg p→q:=by intro ba;exact ai hg.ok hg.cm hg.wide hg.Y [0,1,2] (b7 d a b (B++[(x'.n,y')]) (s+1) R gS++[aP y',aP x',.box [iV x.n,iV y.n]]) cb (fun _=>rfl) rfl rfl rfl rfl rfl (by rw[b8];rfl) rfl (by rw[b8];rfl) (er hg.ok rfl rfl ba.1)):q:=f ⟨h⟩
theorem an2{p q:Prop}(h:p)(f:fg p→q:=by intro ba;exact ai hg.ok hg.cm hg.wide hg.Y [0,1,2] (b7 d a b (B++[(y'.n,x')]) (s+1) R cD++[aP x',aP y',.box [iV x.n,iV y.n]]) cb (fun _=>rfl) rfl rfl rfl rfl rfl (by rw[b8];rfl) rfl (by rw[b8];rfl) (er hg.ok rfl rfl ba.1)):q:=f ⟨h⟩
theorem an3{p q:Prop}(h:p)(f:fg p→q:=by intro ba;exact ai hg.ok hg.cm hg.wide hg.Y [0,1,2] (b7 d a b (B++[(y'.n,x')]) (s+1) R cD++[aP y',aP x',.box [iV x.n,iV y.n]]) cb (fun _=>rfl) rfl rfl rfl rfl rfl (by rw[b8];rfl) rfl (by rw[b8];rfl) (er hg.ok rfl rfl ba.1)):q:=f ⟨h⟩
theorem ajP{p q:Prop}(h:p)(f:fg p→q:=by intro ba;exact ai hg.ok hg.cm ⟨rfl,rfl⟩ (fun _ _ _ _ h=>by cases h) [4,3,2,5,6,7] (Pj l q ab (eh l q.head ab m).1 d' v') cS (fun _=>rfl) rfl rfl rfl rfl rfl (by rw[Pk];rfl) rfl (by rw[Pk];rfl) (er hg.ok rfl rfl ba.1)):q:=f ⟨h⟩
theorem af0{q:Prop}(f:q:=by exact q0 (false,eP - 1) (by rw[hx,n1];rfl) ⟨.refl _,.refl _,.refl _,(by first |exact .refl _ |exact .ff),.refl _,.refl _,.refl _,trivial⟩ rfl):q:=f
theorem ajQ{q:Prop}(f:q:=by exact bp (n,R++x'.l.zip y'.l,B,cD,s+1+k) hN (by simp only;omega) ⟨.refl _,.refl _,.refl _,trivial⟩ rfl):q:=f
theorem af1{p q:Prop}(h:p)(f:fg p→q:=by intro ba;exact sI hg.ok rfl rfl (.inl rfl) rfl (.inl rfl) rfl rfl rfl (by simp) (af2 l) (by rw[dV];simp;omega) (by rw[dV];simp;omega) (er hg.ok rfl rfl ba.1)):q:=f ⟨h⟩
theorem ajR{p q:Prop}(h:p)(f:fg p→q:=by intro ba;exact ai hg.ok hg.cm hg.wide hg.Y [0,1,2,3,4,5] (dm P hd ab { m with now:=r,done:=m.done+1 } d2 v++[aP u]) dV (fun _=>rfl) rfl rfl rfl rfl rfl (by rw[dP,← e2];rfl) rfl (by rw[dP];rfl) (er hg.ok rfl rfl ba.1)):q:=f ⟨h⟩
theorem af3{p q:Prop}(h:p)(f:fg p→q:=by intro ba;exact gC hg.ok (ub B) rfl rfl rfl rfl rfl rfl rfl (zv:=ajS) (by kernel_rfl) (v:=.cH [an4,bV false]) (by rw[zS,hb];rfl) (er hg.ok rfl rfl ba.1)):q:=f ⟨h⟩
theorem af4{p q:Prop}(h:p)(f:fg p→q:=by intro ba;exact gC hg.ok (ub B) rfl rfl rfl rfl rfl rfl rfl (zv:=ajS) (by kernel_rfl) (v:=.cH [x.av,bV true]) (by rw[zS,hb];rfl) (er hg.ok rfl rfl ba.1)):q:=f ⟨h⟩
theorem aaG{q:Prop}(f:q:=by exact bp (n,R,B++[(x'.n,y')],gS,s+1) hN (by simp only;omega) ⟨.refl _,.refl _,.refl _,trivial⟩ rfl):q:=f
theorem ajT{q:Prop}(f:q:=by exact bp (n,R,B++[(y'.n,x')],cD,s+1) hN (by simp only;omega) ⟨.refl _,.refl _,.refl _,trivial⟩ rfl):q:=f
theorem aaH{q:Prop}(f:q:=by exact fI d a b (B++[(x'.n,y')]) (s+1) R cD _):q:=f
theorem aaI{p q:Prop}(h:p)(f:fg p→q:=by intro ba;exact uB 3 (by rw[show (kj _ l w R0 X φ0).φ0=φ0 from rfl,Md];exact Nat.le_refl _) rfl ba.1):q:=f ⟨h⟩
theorem aaJ{p q:Prop}(h:p)(f:fg p→q:=by intro ba;exact VB hg.ok 10000 rfl rfl rfl (by simp[o4,Ob.lvl,Ob.IH]) rfl rfl rfl kO rfl (er hg.ok rfl rfl ba.1)):q:=f ⟨h⟩
theorem ajU{q:Prop}(f:q:=by exact bp (n,R,B,cD,s+1) (rv hc) (by simp only;omega) ⟨.refl _,.refl _,.refl _,trivial⟩ rfl):q:=f
theorem DB{p q:Prop}(h:p)(f:p→q:=by intro ba;exact Eg hg.ok rfl rfl (er hg.ok rfl rfl ba)):q:=f h
theorem ajV{q:Prop}(f:q:=by exact bp (i+1,(X.length+d1+1)) ⟨mJ,hr⟩ (by show P.length - (i+1)<P.length - i;omega) ⟨.refl _,.refl _,bM.wrap (by simp only;omega) (by simp only;omega) (by simp only;omega),trivial⟩ rfl):q:=f
theorem af5{p q:Prop}(h:p)(f:fg p→q:=by intro ba;exact ry hg.ok rfl rfl rfl rfl rfl rfl rfl rfl rfl (Int.natCast_nonneg i) (by rw[bR];simpa[cS]using hi) (er hg.ok rfl rfl ba.1)):q:=f ⟨h⟩
theorem ajW{p q:Prop}(h:p)(f:p→q:=by intro ba;exact ai hg.ok hg.cm hg.wide hg.Y [0] (jR [t,n,a] [] false ByteArray.empty nx 4++[aP t,aP n,aP a]) (km Y [t,n,a] nx 4) (fun _=>rfl) rfl rfl rfl rfl rfl rfl rfl rfl (er hg.ok rfl rfl ba)):q:=f h
theorem ajX{p q:Prop}(h:p)(f:p→q:=by intro ba;exact ai hg.ok hg.cm hg.wide hg.Y [0] (jR [t,n,a] [] false ByteArray.empty nx 6++[aP t,aP n,aP a]) (km Y [t,n,a] nx 6) (fun _=>rfl) rfl rfl rfl rfl rfl rfl rfl rfl (er hg.ok rfl rfl ba)):q:=f h
theorem ajY{p q:Prop}(h:p)(f:p→q:=by intro ba;exact ai hg.ok hg.cm hg.wide hg.Y [0] (jR [n,t,a] [] false ByteArray.empty nx 4++[aP n,aP t,aP a]) (km Y [n,t,a] nx 4) (fun _=>rfl) rfl rfl rfl rfl rfl rfl rfl rfl (er hg.ok rfl rfl ba)):q:=f h
theorem adf{p q:Prop}(h:p)(f:p→q:=by intro ba;exact ai hg.ok hg.cm hg.wide hg.Y [0] (jR [n,t,a] [] false ByteArray.empty nx 5++[aP n,aP t,aP a]) (km Y [n,t,a] nx 5) (fun _=>rfl) rfl rfl rfl rfl rfl rfl rfl rfl (er hg.ok rfl rfl ba)):q:=f h
theorem adg{p q:Prop}(h:p)(f:fg p→q:=by intro ba;exact ai hg.ok hg.cm hg.wide hg.Y [0,1,2,3,4,5] (dm P hd ab m' d' v'++[aP u]) dV (fun _=>rfl) rfl rfl rfl rfl rfl (by rw[dP,← e2];rfl) rfl (by rw[dP];rfl) (er hg.ok rfl rfl ba.1)):q:=f ⟨h⟩
theorem adh{p q:Prop}(h:p)(f:fg p→q:=by intro ba;exact sG hg.ok (m.ag.dropLast.map Tr.row) rfl rfl rfl rfl rfl rfl rfl rfl rfl rfl (by omega) (by rw[xB];omega) (by rw[mJ,← List.map_take,← List.dropLast_eq_take]) (er hg.ok rfl rfl ba.1)):q:=f ⟨h⟩
theorem adi{p q:Prop}(h:p)(f:fg p→q:=by intro ba;exact ai hg.ok hg.cm hg.wide hg.Y [0,1,2,3,4,5] (dm P hd ab m' d' v'++[aP u]) Ga (fun _=>rfl) rfl rfl rfl rfl rfl (by rw[dP,← e];rfl) rfl (by rw[dP];rfl) (er hg.ok rfl rfl ba.1)):q:=f ⟨h⟩
theorem Pl{q:Prop}(f:q:=by exact im P hd _ _ _ (.inl ⟨_,_,_,_,rfl⟩) ab m.done m.aD.length d m.B _ m.aD _):q:=f
theorem VC{q:Prop}(f:q:=by exact bp (k+1) aR (by omega) ⟨.refl _,.refl _,.refl _,.refl _,bM.wrap (by omega) (by omega) (by omega),trivial⟩ rfl):q:=f
theorem Pm{q:Prop}(f:q:=by exact aK hg 1 5 (Nat.le_refl _) rfl rfl (dL _ [t,r] [] false ByteArray.empty nx 5)):q:=f
theorem adk{p q:Prop}(h:p)(f:p→q:=by intro ba;exact ai hg.ok hg.cm hg.wide hg.Y [0] (jR [t,r] [] false ByteArray.empty nx 4++[aP t,aP e]) (km Y [t,r] nx 4) (fun _=>rfl) rfl rfl rfl rfl rfl rfl rfl rfl (er hg.ok rfl rfl ba)):q:=f h
theorem adl{p q:Prop}(h:p)(f:fg p→q:=by intro ba;exact ai hg.ok hg.cm hg.wide hg.Y [0,1,2,3,4,5] (dm P hd ab m' d' v'++[aP u]) U9 (fun _=>rfl) rfl rfl rfl rfl rfl (by rw[dP];rfl) rfl (by rw[dP];rfl) (er hg.ok rfl rfl ba.1)):q:=f ⟨h⟩
theorem adm{p q:Prop}(h:p)(f:fg p→q:=by intro ba;exact bb 7 (dm P hd ab m d1 v++[Ob.box (xy t (.bG (aX g1 s1 o1 z1)))]) (by show φ.length≤7;omega) rfl (sJ P hd ab m d1 v t (.bG (aX g1 s1 o1 z1))) ba.1):q:=f ⟨h⟩
theorem Pn{p q:Prop}(h:p)(f:fg p→q:=by intro ba;exact Gb hg.ok 100 (by unfold o4;simp[len]) rfl rfl rfl rfl rfl rfl rfl (er hg.ok rfl rfl ba.1)):q:=f ⟨h⟩
theorem adn{q:Prop}(f:q:=by exact yJ d a b B (s+1+(k+1)) (R++(x'.l.zip y'.l).take (k+1)) cD _ _ x.n y.n _):q:=f
theorem ado{p q:Prop}(h:p)(f:fg p→q:=by intro ba;exact bb 7 (dm P hd ab m d1 v++[Ob.box (xy t (.v (.pointer none)))]) (by show φ.length≤7;omega) rfl (sJ P hd ab m d1 v t (.v (.pointer none))) ba.1):q:=f ⟨h⟩
theorem adp{p q:Prop}(h:p)(f:fg p→q:=by intro ba;exact AB hg.ok (yK (B.map (·.1))) (VD _) rfl rfl rfl rfl rfl rfl (zv:=.int .i64 0) (by kernel_rfl) (v:=.cH [iV 0,bV false]) (by rw[hgi];rfl) (er hg.ok rfl rfl ba.1)):q:=f ⟨h⟩
theorem adr{p q:Prop}(h:p)(f:p→q:=by intro ba;exact ai hg.ok hg.cm hg.wide hg.Y [0] (Po v (eP - 1)++[IL g]) (Eh Y v (eP - 1) g.t st) (fun _=>rfl) rfl rfl rfl rfl rfl rfl rfl rfl (er hg.ok rfl rfl ba)):q:=f h
theorem ads{p q:Prop}(h:p)(f:p→q:=by intro ba;exact ai hg.ok hg.cm hg.wide hg.Y [0] (Po v (b9 v g.a (eP - 1) (aq+1) false).2++[IL g]) (CA) (fun _=>rfl) rfl rfl rfl rfl rfl rfl rfl rfl (er hg.ok rfl rfl ba)):q:=f h
theorem Pp{p q:Prop}(h:p)(f:fg p→q:=by intro ba;exact cQ hg.ok rfl rfl (by simp[hc.2.1]) rfl rfl ba.1):q:=f ⟨h⟩
theorem Pq{p q:Prop}(h:p)(f:fg p→q:=by intro ba;exact cQ hg.ok rfl rfl (by simp[hc.2.2]) rfl rfl ba.1):q:=f ⟨h⟩
theorem adt{p q:Prop}(h:p)(f:fg p→q:=by intro ba;exact AB hg.ok (yK (B.map (·.1))) (VD _) rfl rfl rfl rfl rfl rfl (zv:=.int .i64 0) (by kernel_rfl) (v:=.cH [iV j,bV true]) (by rw[hgi];rfl) (er hg.ok rfl rfl ba.1)):q:=f ⟨h⟩
theorem Pr{p q:Prop}(h:p)(f:fg p→q:=by intro ba;exact cQ hg.ok rfl rfl (by simp [hc.1]) rfl rfl ba.1):q:=f ⟨h⟩
theorem Ps{q:Prop}(f:q:=by exact im P hd _ _ _ (.inr rfl) ab m.done m.aD.length d m.B _ m.aD _):q:=f
theorem VE{p q:Prop}(h:p)(f:fg p→q:=by intro ba;exact dN hg.ok rfl rfl rfl rfl rfl rfl (by decide) (Tm.aB (l:=[t,r]) (i:=1) rfl) rfl (er hg.ok rfl rfl ba.1)):q:=f ⟨h⟩
theorem adu{p q:Prop}(h:p)(f:fg p→q:=by intro ba;exact sG hg.ok (fZ R) rfl rfl rfl rfl rfl rfl rfl rfl rfl rfl (Int.natCast_nonneg _) (by rw[iE];simp;omega) (by simp[fZ]) (er hg.ok rfl rfl ba.1)):q:=f ⟨h⟩
theorem adw{q:Prop}(f:q:=by exact bp (kP m t,d2,v+1) ⟨hp.b,hTp,hS,hr⟩ (by show m.ag.dropLast.length<m.ag.length;rw[List.length_dropLast];omega) ⟨.refl _,trivial⟩ rfl):q:=f
theorem Pt{p q:Prop}(h:p)(f:fg p→q:=by intro ba;exact en hg.ok rfl rfl (by simp [lJ]) rfl rfl ba.1):q:=f ⟨h⟩
theorem Ei{p q:Prop}(h:p)(f:fg p→q:=by intro ba;exact en hg.ok rfl rfl (by simp;omega) rfl rfl ba.1):q:=f ⟨h⟩
theorem vC{p q:Prop}(h:p)(f:p→q:=by intro ba;exact gv hg.ok 1 rfl rfl ba):q:=f h
theorem Pu{p q:Prop}(h:p)(f:fg p→q:=by intro ba;exact en hg.ok rfl rfl (by simp[lJ]) rfl rfl ba.1):q:=f ⟨h⟩
theorem adx{p q:Prop}(h:p)(f:fg p→q:=by intro ba;exact Ej hg.ok (rz cD) Mu rfl rfl rfl rfl rfl rfl (zv:=.bool false) (by kernel_rfl) (v:=.tt) (by rw[vD,if_pos fh.2];rfl) (er hg.ok rfl rfl ba.1)):q:=f ⟨h⟩
theorem ady{q:Prop}(f:q:=by exact aK hg 6 5 (Nat.le_refl _) rfl rfl (im P hd _ _ _ (.inl ⟨_,_,_,_,rfl⟩) ab m.done m.aD.length d m.B (m.ag.take x.to) m.aD _)):q:=f
theorem Pv{q:Prop}(f:q:=by exact aK hg 6 5 (Nat.le_refl _) rfl rfl (kn P hd ab _ d (v+1) _)):q:=f
theorem adz{p q:Prop}(h:p)(f:fg p→q:=by intro ba;exact gN 43 rfl (bM.wrap (n:=((a+b:Nat):Int)) (by rw[sK (by omega) (by omega),sK (by omega) (by omega)];push_cast;rfl) (by omega) (by omega)) ba.1):q:=f ⟨h⟩
theorem IM{p q:Prop}(h:p)(f:p→q:=by intro ba;exact Pw hg.ok Tryz.underlying49 rfl rfl rfl (er hg.ok rfl rfl ba)):q:=f h
theorem IP{q:Prop}(f:q:=by exact aK hg 2 5 (by show (2:Nat)≤2;omega) rfl rfl rfl):q:=f
theorem adA{p q:Prop}(h:p)(f:fg p→q:=by intro ba;exact IQ xD rfl rfl rfl rfl rfl rfl rfl rfl rfl (by simp) (by simp[p7]) (by simp[bR];omega) (by simp[bR];omega) ba.1):q:=f ⟨h⟩
theorem adB{p q:Prop}(h:p)(f:fg p→q:=by intro ba;exact Ej hg.ok (rz cD) Mu rfl rfl rfl rfl rfl rfl (zv:=.bool false) (by kernel_rfl) (v:=.ff) (by rw[vD,hmc];rfl) (er hg.ok rfl rfl ba.1)):q:=f ⟨h⟩
theorem VF{q:Prop}(f:q:=by exact aK hg 1 5 (Nat.le_refl _) rfl rfl (dL _ [t,n,a] [] false ByteArray.empty nx 5)):q:=f
theorem adC{p q:Prop}(h:p)(f:fg p→q:=by intro ba;exact gC xD (rA a) rfl rfl rfl rfl rfl rfl rfl (zv:=.bool false) (by kernel_rfl) (v:=.tt) (by rw [rB,if_pos hmem]; rfl) ba.1):q:=f ⟨h⟩
theorem adD{p q:Prop}(h:p)(f:p→q:=by intro ba;exact gN 112 rfl (bM.aa (rows':=Gl.aa [dK]) ⟨⟨.refl _,.refl _,.refl _,.refl _,.nil,.nil,.nil,.nil,trivial⟩,trivial⟩) ba):q:=f h
theorem VG{q:Prop}(f:q:=by exact aK hg 2 5 (Nat.le_refl _) rfl rfl (o5 _ [a,b] [] false ByteArray.empty nx 0)):q:=f
theorem Ek{p q:Prop}(h:p)(f:p→q:=by intro ba;exact bb 0 [] (Nat.zero_le _) rfl rfl ba):q:=f h
theorem adE{q:Prop}(f:q:=by exact aK hg 6 5 (Nat.le_refl _) rfl rfl (im P hd _ _ _ (.inr rfl) ab m.done m.aD.length d m.B (m.ag.take x.to) m.aD _)):q:=f
theorem Px{p q:Prop}(h:p)(f:p→q:=by intro ba;exact Ay hg 5 rfl (R9 (xE (vA rfl) rfl)) ba):q:=f h
theorem adF{p q:Prop}(h:p)(f:fg p→q:=by intro ba;exact Mv hg.ok (rz cD) (rz (Tm.lK x y cD)) Mu rfl rfl rfl rfl rfl rfl (by rw[vD,hmc];rfl) rfl hmU (er hg.ok rfl rfl ba.1)):q:=f ⟨h⟩
theorem adG{q:Prop}(f:q:=by exact bp (n,R,Q,s+1) ⟨AD,p8,hlk,by simp only;omega⟩ (by simp only;omega) ⟨.refl _,.refl _,.refl _,.refl _,trivial⟩ rfl):q:=f
theorem VH{p q:Prop}(h:p)(f:fg p→q:=by intro ba;exact F7 hg.ok (by show φ.length≤3;omega) rfl rfl rfl rfl rfl rfl rfl (er hg.ok rfl rfl ba.1)):q:=f ⟨h⟩
theorem adI{p q:Prop}(h:p)(f:fg p→q:=by intro ba;exact gC xD (rA a) rfl rfl rfl rfl rfl rfl rfl (zv:=.bool false) (by kernel_rfl) (v:=.ff) (by rw[rB,El];rfl) ba.1):q:=f ⟨h⟩
theorem adJ{p q:Prop}(h:p)(f:fg p→q:=by intro ba;exact bb 6 (dm P hd ab (kP m t) d2 (v+1)) (by show φ.length≤6;omega) rfl (VI P hd ab (kP m t) d2 (v+1)) ba.1):q:=f ⟨h⟩
theorem IS{p q:Prop}(h:p)(f:fg p→q:=by intro ba;exact en hg.ok rfl rfl (by simp[hk3]) rfl rfl ba.1):q:=f ⟨h⟩
theorem Py{p q:Prop}(h:p)(f:p→q:=by intro ba;exact zT hg.ok rfl rfl rfl rfl rfl rfl gL rfl (er hg.ok rfl rfl ba)):q:=f h
theorem adK{q:Prop}(f:q:=by exact aK hg 5 5 (by simp[jR]) rfl rfl (congrArg (fun e=>Ms l nx++[Ob.tI e]) (xC _ l x de rfl fun _=>rfl))):q:=f
theorem adL{q:Prop}(f:q:=by exact aK hg 6 5 (Nat.le_refl _) rfl rfl (vE P hd m.az v m.now ab m.done m.aD.length _ m.B m.ag m.aD _)):q:=f
theorem VJ{p q:Prop}(h:p)(f:fg p→q:=by intro ba;exact kp hg.ok Tryz.underlying113 rfl (by kernel_rfl) rfl rfl rfl (er hg.ok rfl rfl ba.1)):q:=f ⟨h⟩
theorem Pz{p q:Prop}(h:p)(f:fg p→q:=by intro ba;exact cQ hg.ok rfl rfl (by simp[Tm.aa,Tm.l]) rfl rfl ba.1):q:=f ⟨h⟩
theorem adM{p q:Prop}(h:p)(f:fg p→q:=by intro ba;exact dN hg.ok rfl rfl rfl rfl rfl rfl (by decide) (Tm.aB (l:=[a,b]++[aJ,aJ]) (i:=0) rfl) rfl (er hg.ok rfl rfl ba.1)):q:=f ⟨h⟩
theorem adN{p q:Prop}(h:p)(f:fg p→q:=by intro ba;exact dN hg.ok rfl rfl rfl rfl rfl rfl (by decide) (Tm.aB (l:=[a,b]++[aJ,aJ]) (i:=1) rfl) rfl (er hg.ok rfl rfl ba.1)):q:=f ⟨h⟩
theorem adO{p q:Prop}(h:p)(f:fg p→q:=by intro ba;exact bb 10 (IT d B t (bH [t]) R (s+1) Q) (by show φ.length≤_;omega) rfl (Em _ _ _ _ _ _ _ _ rfl) ba.1):q:=f ⟨h⟩
theorem PA{p q:Prop}(h:p)(f:fg p→q:=by intro ba;exact en hg.ok rfl rfl (by simp[Tm.aa,Tm.l]) rfl rfl ba.1):q:=f ⟨h⟩
theorem PB{q:Prop}(f:q:=by exact fI d a b B (s+1) R cD _):q:=f
theorem adP{q:Prop}(f:q:=by exact fI d a b B (s+1+k) (R++x'.l.zip y'.l) cD _):q:=f
theorem adQ{q:Prop}(f:q:=by exact bp (n,R++x'.l.zip y'.l,B,gS,s+1+k) hN (by simp only;omega) ⟨.refl _,.refl _,.refl _,trivial⟩ rfl):q:=f
theorem adR{q:Prop}(f:q:=by exact aK hg 6 5 (Nat.le_refl _) rfl rfl (kn P hd ab { m with now:=r,aD:=m.aD++[ko] } d v _)):q:=f
theorem PC{q:Prop}(f:q:=by exact fI d a b (B++[(x'.n,y')]) (s+1) R gS _):q:=f
theorem adS{q:Prop}(f:q:=by exact bp (n,R,B++[(y'.n,x')],gS,s+1) hN (by simp only;omega) ⟨.refl _,.refl _,.refl _,trivial⟩ rfl):q:=f
theorem adT{p q:Prop}(h:p)(f:fg p→q:=by intro ba;exact aaL hg.ok Tryz.underlying266 Tryz.underlying270 (by kernel_rfl) rfl rfl rfl rfl rfl rfl (er hg.ok rfl rfl ba.1)):q:=f ⟨h⟩
theorem adU{p q:Prop}(h:p)(f:fg p→q:=by intro ba;exact dN hg.ok rfl rfl rfl rfl rfl rfl (by decide) (Tm.aB (l:=[x,y]) (i:=0) rfl) rfl (er hg.ok rfl rfl ba.1)):q:=f ⟨h⟩
theorem adV{p q:Prop}(h:p)(f:fg p→q:=by intro ba;exact dN hg.ok rfl rfl rfl rfl rfl rfl (by decide) (Tm.aB (l:=[x,y]) (i:=1) rfl) rfl (er hg.ok rfl rfl ba.1)):q:=f ⟨h⟩
theorem adW{q:Prop}(f:q:=by exact fI d a b (B++[(y'.n,x')]) (s+1) R cD _):q:=f
theorem adX{p q:Prop}(h:p)(f:fg p→q:=by intro ba;exact bb 5 (Ms l nx++[Ob.tI (eI (jS l x))]) (by show φ.length≤5;omega) rfl rfl (er hg.ok rfl rfl ba.1)):q:=f ⟨h⟩
theorem adY{q:Prop}(f:q:=by exact bp (n,R,B,cD,s+1) (hU.skip hs) (by simp only;omega) ⟨.refl _,.refl _,.refl _,trivial⟩ rfl):q:=f
theorem adZ{q:Prop}(f:q:=by exact bp (n,R,B,gS,s+1) (rv hc) (by simp only;omega) ⟨.refl _,.refl _,.refl _,trivial⟩ rfl):q:=f
theorem ad0{q:Prop}(f:q:=by exact aK hg 6 5 (Nat.le_refl _) rfl rfl (kn P hd ab (Mw (kP m t) t i c B2) d' (v+2) _)):q:=f
theorem ad1{p q:Prop}(h:p)(f:fg p→q:=by intro ba;exact uy hg.ok rfl rfl rfl rfl rfl (n:=((R++[(x,y)]).length:Int)) (by rw[iE]) (er hg.ok rfl rfl ba.1)):q:=f ⟨h⟩
theorem ad2{q:Prop}(f:q:=by exact im P hd _ _ _ (.inl ⟨_,_,_,_,rfl⟩) ab m.done m.aD.length d' (m.B++X) _ m.aD _):q:=f
theorem ad3{p q:Prop}(h:p)(f:p→q:=by intro ba;exact VK hg.ok (aX aM 0 m.ag.length (.bG (aX gB sB oB zB))) rfl rfl rfl rfl ba):q:=f h
theorem ad4{p q:Prop}(h:p)(f:p→q:=by intro ba;exact af6 hg.ok s1 rfl rfl rfl rfl rfl rfl Tryz.underlying9 hj hz' hjs hjb hs tJ (er hg.ok rfl rfl ba)):q:=f h
theorem ad5{p q:Prop}(h:p)(f:fg p→q:=by intro ba;exact uy hg.ok rfl rfl rfl rfl rfl (n:=(B.length:Int)) (by rw[bR];simp) (er hg.ok rfl rfl ba.1)):q:=f ⟨h⟩
theorem ad6{q:Prop}(f:q:=by exact aK hg 1 5 (Nat.le_refl _) rfl rfl (dL _ [t,n,a] [] false ByteArray.empty nx 4)):q:=f
theorem ad7{q:Prop}(f:q:=by exact aK hg 1 5 (Nat.le_refl _) rfl rfl (dL _ [t,n,a] [] false ByteArray.empty nx 6)):q:=f
theorem ad8{q:Prop}(f:q:=by exact aK hg 1 5 (Nat.le_refl _) rfl rfl (dL _ [n,t,a] [] false ByteArray.empty nx 4)):q:=f
theorem ad9{q:Prop}(f:q:=by exact aK hg 1 5 (Nat.le_refl _) rfl rfl (dL _ [n,t,a] [] false ByteArray.empty nx 5)):q:=f
theorem aea{q:Prop}(f:q:=by exact aK hg 1 5 (Nat.le_refl _) rfl rfl (dL _ [n,t,a] [] false ByteArray.empty nx 0)):q:=f
theorem PD{p q:Prop}(h:p)(f:p→q:=by intro ba;exact aK hg 6 5 (Nat.le_refl _) rfl rfl ba):q:=f h
theorem PE{p q:Prop}(h:p)(f:p→q:=by intro ba;exact l3 hg 6 5 (Nat.le_refl _) rfl rfl ba):q:=f h
theorem aeb{p q:Prop}(h:p)(f:fg p→q:=by intro ba;exact bb 5 _ (by show φ.length≤_;omega) rfl (Eo (mK (fun _=>rfl) _ _)) ba.1):q:=f ⟨h⟩
theorem aec{q:Prop}(f:q:=by exact aK hg 1 5 (Nat.le_refl _) rfl rfl (dL _ [t,r] [] false ByteArray.empty nx 4)):q:=f
theorem aed{q:Prop}(f:q:=by exact aK hg 1 5 (Nat.le_refl _) rfl rfl (dL _ [a,b] [] false ByteArray.empty nx 0)):q:=f
theorem aee{p q:Prop}(h:p)(f:p→q:=by intro ba;exact VK hg.ok (aX aM 0 m.ag.length (.v (.pointer none))) rfl rfl rfl rfl ba):q:=f h
theorem VL{p q:Prop}(h:p)(f:p→q:=by intro ba;exact gv (sL hg.ok _ _ _ _ _ xF) 1000 rfl rfl ba):q:=f h
theorem VM{q:Prop}(f:q:=by exact aK hg 3 5 (Nat.le_refl _) rfl rfl (fX d B _)):q:=f
theorem aef{p q:Prop}(h:p)(f:fg p→q:=by intro ba;exact gN 32 rfl (bM.wrap (n:=((m.ag.length:Int) - 1)) rfl (by omega) (by omega)) ba.1):q:=f ⟨h⟩
theorem aeg{q:Prop}(f:q:=by exact yJ d a b B (s+1+(k+1)) (R++(x'.l.zip y'.l).take (k+1)) gS _ _ x.n y.n _):q:=f
theorem IU{p q:Prop}(h:p)(f:p→q:=by intro ba;exact gv sM.ok 1000 rfl rfl ba):q:=f h
theorem aeh{q:Prop}(f:q:=by exact im P hd _ _ _ (.inr rfl) ab m.done m.aD.length d' (m.B++X) _ m.aD _):q:=f
theorem PF{p q:Prop}(h:p)(f:p→q:=by intro ba;exact aaM hg.ok rfl rfl rfl rfl rfl ba):q:=f h
theorem VN{p q:Prop}(h:p)(f:fg p→q:=by intro ba;exact en hg.ok rfl rfl (by simp;exact h0) rfl rfl ba.1):q:=f ⟨h⟩
theorem VO{q:Prop}(f:q:=by exact aK hg 8 5 (Nat.le_refl _) rfl rfl (iS M _)):q:=f
theorem VP{q:Prop}(f:q:=by exact aK hg 4 5 (Nat.le_refl _) rfl rfl (iS _ _)):q:=f
theorem PG{p q:Prop}(h:p)(f:p→q:=by intro ba;exact mH9 Tryz.func31 fun w S φ hg=>ba w S φ hg):q:=f h
theorem PH{p q:Prop}(h:p)(f:p→q:=by intro ba;exact gN 30 rfl (Sa _ _ _) ba):q:=f h
theorem VQ{p q:Prop}(h:p)(f:p→q:=by intro ba;exact af8 hg.ok rfl rfl rfl rfl rfl rfl (er hg.ok rfl rfl ba)):q:=f h
theorem VR{q:Prop}(f:q:=by exact aK hg 3 5 (Nat.le_refl _) rfl rfl (iS _)):q:=f
theorem aei{q:Prop}(f:q:=by exact aK hg 3 5 (Nat.le_refl _) rfl rfl (fX (X.length+d+1) B _)):q:=f
theorem VS{q:Prop}(f:q:=by exact q0 () trivial ⟨.refl _,trivial⟩ rfl):q:=f
theorem aej{q:Prop}(f:q:=by exact xG rfl (by unfold fJ jT;rw[if_pos tK,if_pos hmem];rfl)):q:=f
theorem aek{q:Prop}(f:q:=by exact l3 hg 3 5 (Nat.le_refl _) rfl rfl (AE q 1 0 true _)):q:=f
theorem an{p:Prop}(f:p:=by omega):p:=f
theorem aC{p:Prop}(f:p:=by simp):p:=f
theorem cP{p:Prop}(f:p:=by exact (Nat.le_refl _)):p:=f
theorem cX{p:Prop}(f:p:=by kernel_rfl):p:=f
theorem cF{p:Prop}(f:p:=by exact (fun _=>rfl)):p:=f
theorem dQ{p:Prop}(f:p:=by exact (bM.refl _)):p:=f
theorem ka{p:Prop}(f:p:=by simp only;omega):p:=f
theorem sN{p:Prop}(f:p:=by show φ.length≤_;omega):p:=f
theorem yL{p:Prop}(f:p:=by rw[mx _ rfl rfl];rfl):p:=f
theorem fy{p:Prop}(f:p:=by exact (Nat.zero_le _)):p:=f
theorem iU{p:Prop}(f:p:=by rw[b8];rfl):p:=f
theorem IV{p:Prop}(f:p:=by exact ⟨.refl _,.refl _,.refl _,.refl _,bM.wrap (by omega) (by omega) (by omega),trivial⟩):p:=f
theorem DC{p:Prop}(f:p:=by exact ⟨.refl _,.refl _,.refl _,.refl _,.refl _,.refl _,.refl _,trivial⟩):p:=f
theorem fi{p:Prop}(f:p:=by decide):p:=f
theorem uC{p:Prop}(f:p:=by exact ⟨.refl _,.refl _,.refl _,trivial⟩):p:=f
theorem l6{p:Prop}(f:p:=by simpa using h):p:=f
theorem kb{p:Prop}(f:p:=by simp[hy]):p:=f
theorem p9{p:Prop}(f:p:=by rw[dP];rfl):p:=f
theorem k8{p:Prop}(f:p:=by simp_all):p:=f
theorem xH{p:Prop}(f:p:=by simp only[RV];exact .v _):p:=f
theorem tL{p:Prop}(f:p:=by rw[xI];rfl):p:=f
theorem uD{p:Prop}(f:p:=by rw[Tm.au]):p:=f
theorem Sb{p:Prop}(f:p:=by simp only [aW,and_true]; exact hvv.mono bx hle):p:=f
theorem Mx{p:Prop}(f:p:=by exact ⟨.refl _,.refl _,.refl _,.refl _,trivial⟩):p:=f
theorem aaN{p:Prop}(f:p:=by exact ⟨.refl _,.refl _,bM.wrap (by omega) (by omega) (by omega),trivial⟩):p:=f
theorem zt{p:Prop}(f:p:=by rw[xB];simp;omega):p:=f
theorem AF{p:Prop}(f:p:=by rw[← hs.len];grind):p:=f
theorem IW{p:Prop}(f:p:=by simp only[RV,iV];exact .v _):p:=f
theorem zu{p:Prop}(f:p:=by push_cast;omega):p:=f
theorem af9{p:Prop}(f:p:=by exact ⟨.refl _,.refl _,.refl _,bM.wrap (by omega) (by omega) (by omega),trivial⟩):p:=f
theorem aga{p:Prop}(f:p:=by simp only[List.mem_append,List.mem_cons]at hm ⊢;exact hm.imp id .inr):p:=f
theorem agb{p:Prop}(f:p:=by simp only[List.mem_append,List.mem_cons]at hj ⊢;exact hj.imp id .inr):p:=f
theorem ajZ{p:Prop}(f:p:=by rw[show ox P hd ab (kP m t) t d2 (v+1) none=dm P hd ab (kP m t) d2 (v+1) from rfl,dP];rfl):p:=f
theorem DD{p:Prop}(f:p:=by rw[sP];omega):p:=f
theorem AG{p:Prop}(f:p:=by rw[mR];rfl):p:=f
theorem tM{p:Prop}(f:p:=by simp[hx]):p:=f
theorem aj0{p:Prop}(f:p:=by exact ⟨.refl _,.refl _,.refl _,.refl _,.refl _,.refl _,bM.wrap (by omega) (by omega) (by omega),trivial⟩):p:=f
theorem My{p:Prop}(f:p:=by exact ⟨.refl _,.refl _,trivial⟩):p:=f
theorem IX{p:Prop}(f:p:=by simp at hf ⊢;omega):p:=f
theorem IY{p:Prop}(f:p:=by unfold Ty.agg;rw[hs]):p:=f
theorem AH{p:Prop}(f:p:=by simp[Ob.lvl]):p:=f
theorem VT{p:Prop}(f:p:=by intro k;rw[← kq.2.2.1 k];simp):p:=f
theorem zw{p:Prop}(f:p:=by simp;omega):p:=f
theorem q5{p:Prop}(f:p:=by grind):p:=f
theorem VU{p:Prop}(f:p:=by rw[hz];simp only[Wo.next];omega):p:=f
theorem AI{p:Prop}(f:p:=by rw[h1];simp):p:=f
theorem DE{p:Prop}(f:p:=by rw[aaO];rfl):p:=f
theorem agc{p:Prop}(f:p:=by exact ⟨.refl _,.refl _,.refl _,.refl _,.refl _,trivial⟩):p:=f
theorem Mz{p:Prop}(f:p:=by exact (Int.natCast_nonneg _)):p:=f
theorem VV{p:Prop}(f:p:=by intro k;rw[← hR k];simp):p:=f
theorem Sc{p:Prop}(f:p:=by simp[Tm.ay];omega):p:=f
theorem aaP{p:Prop}(f:p:=by unfold wpOpIn;rw[ho];exact ei):p:=f
theorem aj1{p:Prop}(f:p:=by rw [dB,bF,bF,gp,vF,o6]; omega):p:=f
theorem Gc{p:Prop}(f:p:=by rw [e]; rfl):p:=f
theorem aj2{p:Prop}(f:p:=by rw[kr];exact List.mem_cons_of_mem _ (vG hx (by simp_all))):p:=f
theorem aaQ{p:Prop}(f:p:=by simp[Oper.looksAt,Op.operands]):p:=f
theorem VW{p:Prop}(f:p:=by simpa[Wo.next]using hid):p:=f
theorem Sd{p:Prop}(f:p:=by rw[kQ];simp;omega):p:=f
theorem agd{p:Prop}(f:p:=by exact ⟨.refl _,bM.fs _,.refl _,.refl _,trivial⟩):p:=f
theorem aaR{p:Prop}(f:p:=by rw[Tm.au];simp;omega):p:=f
theorem MA{p:Prop}(f:p:=by simpa using h1):p:=f
theorem Se{p:Prop}(f:p:=by rw[dX];omega):p:=f
theorem DG{p:Prop}(f:p:=by simp[hk]):p:=f
theorem aj3{p:Prop}(f:p:=by simp only[List.map_map];exact aW.map _ _ _ fun p _=>hρ p.2):p:=f
theorem VX{p:Prop}(f:p:=by simpa using kq.2.2.2):p:=f
theorem aaS{p:Prop}(f:p:=by simp[Tm.ku,c1,c2,c3,g4]):p:=f
theorem aaT{p:Prop}(f:p:=by simp only[RV,bV];exact .v _):p:=f
theorem Sf{p:Prop}(f:p:=by exact ⟨.refl _,trivial⟩):p:=f
theorem age{p:Prop}(f:p:=by rw[iW];have:=hi.ht x (by simp);omega):p:=f
theorem Si{p:Prop}(f:p:=by simp[p7,aX]):p:=f
theorem Sj{p:Prop}(f:p:=by rw[IZ];rfl):p:=f
theorem aj4{p:Prop}(f:p:=by rw[List.filterMap_append,List.append_assoc];exact VY):p:=f
theorem aj5{p:Prop}(f:p:=by rw[List.filterMap_append,List.append_assoc];exact fv):p:=f
theorem DH{p:Prop}(f:p:=by cases h):p:=f
theorem VZ{p:Prop}(f:p:=by rw [Tm.au]):p:=f
theorem agf{p:Prop}(f:p:=by rw [hex,if_pos (by simpa using h3)]):p:=f
theorem aj6{p:Prop}(f:p:=by rw [hex]; unfold AJ; rw [if_neg (by simpa using h4)]):p:=f
theorem Gd{p:Prop}(f:p:=by simp[hp]):p:=f
theorem Sk{p:Prop}(f:p:=by simpa using hp):p:=f
theorem agh{p:Prop}(f:p:=by simpa using h3):p:=f
theorem agi{p:Prop}(f:p:=by simp only[List.length_cons];omega):p:=f
theorem Sl{p:Prop}(f:p:=by simpa using ho):p:=f
theorem MB{p:Prop}(f:p:=by simp[IsKey]):p:=f
theorem vH{p:Prop}(f:p:=by rfl):p:=f
theorem aj7{p:Prop}(f:p:=by rw [dB,bF,dB,gp]; omega):p:=f
theorem aaU{p:Prop}(f:p:=by rw[← h.len];exact hi):p:=f
theorem agj{p:Prop}(f:p:=by rw[Int.sub_add_cancel];exact he):p:=f
theorem agk{p:Prop}(f:p:=by first |exact .refl _ |exact .ff):p:=f
theorem aaV{p:Prop}(f:p:=by rw[h1.len];exact l7):p:=f
theorem aj8{p:Prop}(f:p:=by simp only[List.take_zero,List.append_nil];rfl):p:=f
theorem aaW{p:Prop}(f:p:=by simp only[qa,kc]):p:=f
theorem aaX{p:Prop}(f:p:=by simp[execOp,hop,he]):p:=f
theorem aaY{p:Prop}(f:p:=by rw[← he];exact hx):p:=f
theorem Sm{p:Prop}(f:p:=by rw[h2];simp):p:=f
theorem agl{p:Prop}(f:p:=by rw[bR];simp;omega):p:=f
theorem agm{p:Prop}(f:p:=by have:=hi.tail.le y hy;omega):p:=f
theorem agn{p:Prop}(f:p:=by simp only;rw[dX];omega):p:=f
theorem aaZ{p:Prop}(f:p:=by rw[← h];exact dV):p:=f
theorem aa0{p:Prop}(f:p:=by simp[Tm.ku,c1]):p:=f
theorem PI{p:Prop}(f:p:=by simp[Tm.ku,c2]):p:=f
theorem PJ{p:Prop}(f:p:=by simp[Tm.ku,c3]):p:=f
theorem PK{p:Prop}(f:p:=by simp[Tm.ku,c4]):p:=f
theorem PL{p:Prop}(f:p:=by simpa using hN.len):p:=f
theorem PM{p:Prop}(f:p:=by rw[Tm.kr];simp):p:=f
theorem PN{p:Prop}(f:p:=by rw[hrk];simp;omega):p:=f
theorem AK{p:Prop}(f:p:=by simp[ht]):p:=f
theorem V0{p:Prop}(f:p:=by rw[List.length_set];omega):p:=f
theorem Ep{p:Prop}(f:p:=by assumption):p:=f
theorem PO{p:Prop}(f:p:=by simp[p7,Tm.row]):p:=f
theorem V1{p:Prop}(f:p:=by rw[bq];simp[h1.len]):p:=f
theorem V2{p:Prop}(f:p:=by show φ.length≤3;omega):p:=f
theorem V3{p:Prop}(f:p:=by show φ.length≤7;omega):p:=f
theorem PQ{p:Prop}(f:p:=by rw[bR]):p:=f
theorem V4{p:Prop}(f:p:=by rw[fz];omega):p:=f
theorem I1{p:Prop}(f:p:=by simp; omega):p:=f
theorem I3{p:Prop}(f:p:=by rw[h4];simp):p:=f
theorem PR{p:Prop}(f:p:=by intro Va;omega):p:=f
theorem Er{p:Prop}(f:p:=by simp[hq]):p:=f
theorem PS{p:Prop}(f:p:=by simpa using hv):p:=f
theorem PT{p:Prop}(f:p:=by simpa using h2):p:=f
theorem PU{p:Prop}(f:p:=by simpa using hl):p:=f
theorem PV{p:Prop}(f:p:=by simpa using hc):p:=f
theorem PW{p:Prop}(f:p:=by simpa using hj):p:=f
theorem PX{p:Prop}(f:p:=by simpa using h5):p:=f
theorem I4{p:Prop}(f:p:=by simp[p7]):p:=f
abbrev mA1:=@List.length_zip
abbrev dY:=@List.getElem?_eq_getElem
abbrev mA3:=@List.getElem?_zip_eq_some
abbrev I5:=@List.take_add_one
abbrev zz:=@List.length_take
abbrev Ih:=@List.take_of_length_le
abbrev mA7:=@Array.getElem?_eq_getElem
abbrev eL:=@List.mem_cons
abbrev xz:=@List.pairwise_cons
abbrev gZ:=@List.mem_of_getElem?
abbrev bC:=@List.getElem?_eq_some_iff
abbrev o7:=@Nat.mul_le_mul_right
abbrev eU:=@List.getElem?_map
abbrev qb:=@List.getElem?_take_of_lt
abbrev AL:=@List.getElem?_drop
abbrev MC:=@List.length_drop
abbrev Sn:=@Nat.eq_zero_or_pos
abbrev Ge:=@Nat.min_eq_left
abbrev Gf:=@Array.getD_eq_getD_getElem?
abbrev rC:=@List.map_toArray
abbrev fj:=@List.map_nil
abbrev qc:=@List.getElem?_set_self
abbrev ef:=@Nat.le_refl
abbrev jw:=@List.map_map
abbrev xJ:=@List.mem_filterMap
abbrev bW:=@List.mem_append
abbrev aa2:=@Nat.not_lt_zero
abbrev So:=@Nat.sub_zero
abbrev tN:=@Array.getElem?_eq_some_iff
abbrev jj:=@List.cons_append
abbrev ago:=@List.take_succ_cons
abbrev fA:=@List.mem_map
abbrev oy:=@Nat.lt_or_ge
abbrev jx:=@List.getElem?_append_left
abbrev kR:=@List.getElem?_append_right
abbrev Sp:=@List.getElem?_cons_succ
abbrev V5:=@List.set_cons_succ
abbrev q6:=@List.getElem?_set_ne
abbrev lL:=@Bool.false_eq_true
abbrev dv:=@List.length_cons
abbrev agp:=@List.set_cons_zero
abbrev V6:=@List.drop_zero
abbrev ke:=@Nat.le_of_ble_eq_true
abbrev rD:=@Option.map_some
abbrev vI:=@List.foldl_cons
abbrev jy:=@List.length_eq_zero_iff
abbrev eS:=@List.length_map
abbrev o8:=@List.nil_append
abbrev aa3:=@Nat.lt_irrefl
abbrev MD:=@Nat.add_eq
abbrev vJ:=@List.append_nil
abbrev aV:=@Bool.and_eq_true
abbrev mS:=@Bool.or_eq_true
abbrev I6:=@Nat.ble_eq
abbrev DI:=@Bool.or_eq_false_iff
abbrev Sq:=@Bool.not_eq_false'
abbrev aa4:=@Nat.eq_or_lt_of_le
abbrev fk:=@List.all_eq_true
abbrev V7:=@List.mem_zipIdx_iff_getElem?
abbrev xK:=@Bool.not_true
abbrev zA:=@Bool.false_or
abbrev zC:=@List.mem_range
abbrev aa5:=@List.eq_nil_iff_forall_not_mem
abbrev ME:=@List.append_of_mem
abbrev kS:=@List.pairwise_append
abbrev tO:=@List.filterMap_cons
abbrev Sr:=@Array.getElem?_setIfInBounds
abbrev Ss:=@List.getElem?_cons_zero
abbrev St:=@List.pairwise_lt_range
abbrev Su:=@List.range_eq_range'
abbrev I7:=@List.range'_succ
abbrev I8:=@Nat.lt_succ_self
abbrev uE:=@List.mem_iff_getElem?
abbrev V8:=@Array.size_replicate
abbrev Gg:=@List.map_congr_left
abbrev agq:=@List.mem_append_left
abbrev aa6:=@Option.bind_some
abbrev tP:=@Nat.le_trans
abbrev I9:=@Nat.lt_of_lt_of_le
abbrev xL:=@List.nodup_cons
abbrev eg:=@List.getElem_mem
abbrev V9:=@List.getElem?_range
abbrev uF:=@Nat.succ_mul
abbrev Sv:=@List.ext_getElem?
abbrev lM:=@List.length_nil
abbrev Wa:=@Nat.ble_eq_true_of_le
abbrev agr:=@Option.map_eq_some_iff
abbrev aa7:=@List.mem_iff_getElem
abbrev vK:=@Bool.eq_iff_iff
abbrev xM:=@Bool.not_eq_true'
abbrev aa8:=@List.foldl_append
abbrev ags:=@List.contains_iff_mem
abbrev Sw:=@List.mem_cons_of_mem
abbrev Wb:=@List.mem_cons_self
abbrev Wc:=@Nat.zero_mul
abbrev aa9:=@Option.isSome_iff_exists
abbrev MF:=@Nat.zero_add
abbrev aba:=@List.getElem_inj
abbrev gD:=@List.drop_eq_nil_of_le
abbrev vL:=@List.length_singleton
abbrev gP:=@Int.le_refl
abbrev Wd:=@List.mem_of_mem_take
abbrev Ja:=@Nat.add_zero
abbrev PY:=@Bool.and_self
abbrev yM:=@List.any_eq_true
abbrev We:=@Nat.le_mul_of_pos_right
abbrev PZ:=@List.contains_cons
abbrev dh:=@List.mem_singleton
abbrev P0:=@List.countP_cons
abbrev Jc:=@List.getElem?_eq_none
abbrev vM:=@Int.toNat_natCast
abbrev Jd:=@List.countP_le_length
abbrev Je:=@Array.toList_push
abbrev cT:=@Nat.zero_le
abbrev yN:=@Int.natCast_nonneg
abbrev jX:=@Bool.true_and
abbrev vN:=@List.nodup_append
abbrev rE:=@List.all_cons
abbrev vO:=@Bool.false_and
abbrev Wf:=@List.mem_of_mem_drop
abbrev Wg:=@List.eq_nil_of_length_eq_zero
abbrev Wh:=@List.set_append_right
abbrev yO:=@Nat.add_sub_cancel_left
abbrev nW:=@List.not_mem_nil
abbrev Wi:=@List.countP_mono_left
abbrev P1:=@List.mem_iff_append
abbrev yP:=@Nat.lt_succ_of_le
abbrev Jf:=@List.of_mem_zip
abbrev Wj:=@List.eq_nil_or_concat
abbrev P2:=@List.reverse_append
abbrev o9:=@Nat.le_succ
abbrev Wk:=@List.getElem?_take
abbrev P3:=@List.length_dropLast
theorem mB1{q:Prop}(f:q:=by
 obtain⟨ex,ey,zx,zy,rv,fv⟩:=ei;have cx:=iG Y d B hU.ug.chain x;have cy:=iG Y d B hU.ug.chain y;have Wl:∀c∈B,c.2.size<400000000:=fun c hc=>by have:=hU.ug.sb c hc;omega
 generalize Tm.aE B x=x' at *;generalize Tm.aE B y=y' at *;refine Mc ?_;refine an0 ?_;refine Mb ?_;refine an1 ?_;refine zq ?_;refine zq ?_;by_cases hc:x'.k=1∧y'.k=1∧x'.n=y'.n
 ·refine Pr ?_;refine Pp ?_;refine Pq ?_;refine bb 7 (b7 d a b B (s+1) R cD) sN rfl ?_ ?_
  ·exact PB
  exact ajU
 obtain⟨AM,xN⟩:=fv hc;by_cases lJ:x'.k=1
 ·obtain ⟨eV,eW⟩:=AM lJ;have cw:=gf Y d B Wl an x'.n y' an;have cb:=iH Y d B x'.n y' (ex lJ) an;generalize Tm.hH B x'.n y'=wb at cw eV eW;by_cases xw:y'.k=1
  ·refine ID ?_;refine IE ?_;refine en hg.ok rfl rfl (by have:¬ x'.n=y'.n:=fun e=>hc ⟨lJ,xw,e⟩;simp[this]) rfl rfl ?_;refine IG ?_;refine Mb ?_;refine afL ?_;cases wb with
   |true =>
    refine oS ?_;obtain⟨e1,e2⟩:=eV rfl;rw[e1,e2];exact vu
   |false =>
   have hN:=eW rfl;refine gu ?_;refine Mb ?_;refine ajH ?_;refine bb 7 (b7 d a b (B++[(x'.n,y')]) (s+1) R cD) sN rfl ?_ ?_
   ·exact aaH
   exact aax
  ·refine ID ?_;refine IJ ?_;refine IG ?_;refine Mb ?_;refine afL ?_;cases wb with
   |true =>
    refine oS ?_;obtain⟨e1,e2⟩:=eV rfl;rw[e1,e2];exact vu
   |false =>
   have hN:=eW rfl;refine gu ?_;refine Mb ?_;refine ajH ?_;refine bb 7 (b7 d a b (B++[(x'.n,y')]) (s+1) R cD) sN rfl ?_ ?_
   ·exact aaH
   exact aax
 ·refine Pt ?_;refine Pu ?_;obtain⟨uG,AN⟩:=xN lJ;by_cases xw:y'.k=1
  ·obtain ⟨eV,eW⟩:=uG xw;have cw:=gf Y d B Wl an y'.n x' an;have cb:=iH Y d B y'.n x' (ey xw) an;generalize Tm.hH B y'.n x'=wb at cw eV eW;refine IE ?_;refine Mc ?_;refine afL ?_;cases wb with
   |true =>
    refine oS ?_;obtain⟨e1,e2⟩:=eV rfl;rw[e1,e2];exact vu
   |false =>
   have hN:=eW rfl;refine gu ?_;refine Mc ?_;refine an3 ?_;refine bb 7 (b7 d a b (B++[(y'.n,x')]) (s+1) R cD) sN rfl ?_ ?_
   ·exact adW
   exact ajT
  ·obtain ⟨eV,eW⟩:=AN xw;refine IJ ?_;refine aj (fun c1=>?_) fun c1=>?_
   ·have c1:¬ x'.k=y'.k:=by simpa using c1
    obtain⟨e1,e2⟩:=eV aa0;rw[e1,e2];exact vu
   have c1:x'.k=y'.k:=by simpa using c1
   refine aj (fun c2=>?_) fun c2=>?_
   ·have c2:¬ x'.n=y'.n:=by simpa using c2
    obtain⟨e1,e2⟩:=eV PI;rw[e1,e2];exact vu
   have c2:x'.n=y'.n:=by simpa using c2
   refine aj (fun c3=>?_) fun c3=>?_
   ·have c3:bE x'.s y'.s=false:=by simpa using c3
    obtain⟨e1,e2⟩:=eV PJ;rw[e1,e2];exact vu
   have c3:bE x'.s y'.s=true:=by simpa using c3
   refine aj (fun c4=>?_) fun c4=>?_
   ·have c4:¬ x'.l.length=y'.l.length:=by simp [Tm.au] at c4; omega
    obtain⟨e1,e2⟩:=eV PK;rw[e1,e2];exact vu
   have g4:x'.l.length=y'.l.length:=by simp[Tm.au]at c4;omega
   have hN:=eW aaS;have hN2:=Jg hN;have Jh:(x'.l.zip y'.l).length=x'.l.length:=by rw[mA1];omega
   have hRz:(R++x'.l.zip y'.l).length=R.length+x'.l.length:=by rw[List.length_append,Jh]
   refine anV ?_;rintro k hk;refine af ?_;refine aj (fun h=>?_) fun h=>?_
   ·have aR:k<x'.l.length:=bK h rfl;have e1:x'.l[k]? = some x'.l[k]:=dY aR;have e2:y'.l[k]? = some (y'.l[k]' an):=dY an;have e3:(x'.l.zip y'.l)[k]? = some (x'.l[k],y'.l[k]' an):=by rw[mA3];exact⟨e1,e2⟩
    generalize x'.l[k]=xk at e1 e3;generalize (y'.l[k]' an)=yk at e2 e3;have Ig:R++(x'.l.zip y'.l).take (k+1)=(R++(x'.l.zip y'.l).take k)++[(xk,yk)]:=by rw[I5,e3,List.append_assoc];rfl
    have U8:(R++(x'.l.zip y'.l).take k).length=R.length+k:=by rw[List.length_append,zz];omega
    refine cW (Tm.aB e1) ?_;refine cW (Tm.aB e2) ?_;refine Mt ?_;refine aaw ?_;refine mL9 ?_;refine bb 10 (b7 d a b B (s+1+(k+1)) (R++(x'.l.zip y'.l).take (k+1)) cD++[aP y',aP x',.box [iV x.n,iV y.n]]) sN rfl ?_ ?_
    ·exact adn
    exact Vq
   ·have aR:x'.l.length≤k:=cf h rfl;rw[Ih (by omega:(x'.l.zip y'.l).length≤k)];refine bb 7 (b7 d a b B (s+1+k) (R++x'.l.zip y'.l) cD) sN rfl ?_ ?_
    ·exact adP
    exact ajQ):q:=f
theorem mB2{q:Prop}(f:q:=by
 obtain⟨ex,ey,zx,zy,rv,fv⟩:=ei;have cx:=iG Y d B hU.ug.chain x;have cy:=iG Y d B hU.ug.chain y;have Wl:∀c∈B,c.2.size<400000000:=fun c hc=>by have:=hU.ug.sb c hc;omega
 generalize Tm.aE B x=x' at *;generalize Tm.aE B y=y' at *;refine Mb ?_;refine anY ?_;refine Mc ?_;refine anZ ?_;refine zq ?_;refine zq ?_;by_cases hc:x'.k=1∧y'.k=1∧x'.n=y'.n
 ·refine Pr ?_;refine Pp ?_;refine Pq ?_;refine bb 7 (b7 d a b B (s+1) R cD) sN rfl ?_ ?_
  ·exact PB
  exact ajU
 obtain⟨AM,xN⟩:=fv hc;by_cases lJ:x'.k=1
 ·obtain ⟨eV,eW⟩:=AM lJ;have cw:=gf Y d B Wl an x'.n y' an;have cb:=iH Y d B x'.n y' (ex lJ) an;generalize Tm.hH B x'.n y'=wb at cw eV eW;by_cases xw:y'.k=1
  ·refine ID ?_;refine IE ?_;refine en hg.ok rfl rfl (by have:¬ x'.n=y'.n:=fun e=>hc ⟨lJ,xw,e⟩;simp[this]) rfl rfl ?_;refine IG ?_;refine Mc ?_;refine afK ?_;cases wb with
   |true =>
    refine oS ?_;obtain⟨e1,e2⟩:=eV rfl;rw[e1,e2];exact vu
   |false =>
   have hN:=eW rfl;refine gu ?_;refine Mc ?_;refine ajG ?_;refine bb 7 (b7 d a b (B++[(x'.n,y')]) (s+1) R cD) sN rfl ?_ ?_
   ·exact aaH
   exact aax
  ·refine ID ?_;refine IJ ?_;refine IG ?_;refine Mc ?_;refine afK ?_;cases wb with
   |true =>
    refine oS ?_;obtain⟨e1,e2⟩:=eV rfl;rw[e1,e2];exact vu
   |false =>
   have hN:=eW rfl;refine gu ?_;refine Mc ?_;refine ajG ?_;refine bb 7 (b7 d a b (B++[(x'.n,y')]) (s+1) R cD) sN rfl ?_ ?_
   ·exact aaH
   exact aax
 ·refine Pt ?_;refine Pu ?_;obtain⟨uG,AN⟩:=xN lJ;by_cases xw:y'.k=1
  ·obtain ⟨eV,eW⟩:=uG xw;have cw:=gf Y d B Wl an y'.n x' an;have cb:=iH Y d B y'.n x' (ey xw) an;generalize Tm.hH B y'.n x'=wb at cw eV eW;refine IE ?_;refine Mb ?_;refine afK ?_;cases wb with
   |true =>
    refine oS ?_;obtain⟨e1,e2⟩:=eV rfl;rw[e1,e2];exact vu
   |false =>
   have hN:=eW rfl;refine gu ?_;refine Mb ?_;refine an2 ?_;refine bb 7 (b7 d a b (B++[(y'.n,x')]) (s+1) R cD) sN rfl ?_ ?_
   ·exact adW
   exact ajT
  ·obtain ⟨eV,eW⟩:=AN xw;refine IJ ?_;refine aj (fun c1=>?_) fun c1=>?_
   ·have c1:¬ x'.k=y'.k:=by simpa using c1
    obtain⟨e1,e2⟩:=eV aa0;rw[e1,e2];exact vu
   have c1:x'.k=y'.k:=by simpa using c1
   refine aj (fun c2=>?_) fun c2=>?_
   ·have c2:¬ x'.n=y'.n:=by simpa using c2
    obtain⟨e1,e2⟩:=eV PI;rw[e1,e2];exact vu
   have c2:x'.n=y'.n:=by simpa using c2
   refine aj (fun c3=>?_) fun c3=>?_
   ·have c3:bE x'.s y'.s=false:=by simpa using c3
    obtain⟨e1,e2⟩:=eV PJ;rw[e1,e2];exact vu
   have c3:bE x'.s y'.s=true:=by simpa using c3
   refine aj (fun c4=>?_) fun c4=>?_
   ·have c4:¬ x'.l.length=y'.l.length:=by simp [Tm.au] at c4; omega
    obtain⟨e1,e2⟩:=eV PK;rw[e1,e2];exact vu
   have g4:x'.l.length=y'.l.length:=by simp[Tm.au]at c4;omega
   have hN:=eW aaS;have hN2:=Jg hN;have Jh:(x'.l.zip y'.l).length=x'.l.length:=by rw[mA1];omega
   have hRz:(R++x'.l.zip y'.l).length=R.length+x'.l.length:=by rw[List.length_append,Jh]
   refine anU ?_;rintro k hk;refine af ?_;refine aj (fun h=>?_) fun h=>?_
   ·have aR:k<x'.l.length:=bK h rfl;have e1:x'.l[k]? = some x'.l[k]:=dY aR;have e2:y'.l[k]? = some (y'.l[k]' an):=dY an;have e3:(x'.l.zip y'.l)[k]? = some (x'.l[k],y'.l[k]' an):=by rw[mA3];exact⟨e1,e2⟩
    generalize x'.l[k]=xk at e1 e3;generalize (y'.l[k]' an)=yk at e2 e3;have Ig:R++(x'.l.zip y'.l).take (k+1)=(R++(x'.l.zip y'.l).take k)++[(xk,yk)]:=by rw[I5,e3,List.append_assoc];rfl
    have U8:(R++(x'.l.zip y'.l).take k).length=R.length+k:=by rw[List.length_append,zz];omega
    refine cW (Tm.aB e1) ?_;refine cW (Tm.aB e2) ?_;refine Mt ?_;refine aaw ?_;refine mL9 ?_;refine bb 10 (b7 d a b B (s+1+(k+1)) (R++(x'.l.zip y'.l).take (k+1)) cD++[aP x',aP y',.box [iV x.n,iV y.n]]) sN rfl ?_ ?_
    ·exact adn
    exact Vq
   ·have aR:x'.l.length≤k:=cf h rfl;rw[Ih (by omega:(x'.l.zip y'.l).length≤k)];refine bb 7 (b7 d a b B (s+1+k) (R++x'.l.zip y'.l) cD) sN rfl ?_ ?_
    ·exact adP
    exact ajQ):q:=f
theorem mB3{q:Prop}(f:q:=by
 refine⟨fun _ tl=>nX hg.ok (jY (pb x)) rfl rfl rfl rfl rfl rfl dQ,?_⟩;refine⟨fun h=>Bool.noConfusion (show true=false from h),?_⟩;refine⟨fun _ tl=>ao hg.ok rfl rfl rfl rfl dQ,?_⟩;refine⟨fun _ tl=>ao hg.ok rfl rfl rfl rfl dQ,?_⟩;refine⟨fun _ tl=>iy hg.ok rfl rfl rfl rfl rfl rfl fi (Tm.aB hx) rfl dQ,?_⟩;refine⟨fun _ tl=>ao hg.ok rfl rfl rfl rfl dQ,?_⟩;refine⟨fun _ tl=>ao hg.ok rfl rfl rfl rfl dQ,?_⟩;refine⟨fun _ tl=>ao hg.ok rfl rfl rfl rfl dQ,?_⟩;refine⟨fun _ tl=>nX hg.ok (jY (x.k==2)) rfl rfl rfl rfl rfl rfl dQ,?_⟩;refine⟨fun h=>Bool.noConfusion (show true=false from h),?_⟩;refine⟨fun _ tl=>ao hg.ok rfl rfl rfl rfl dQ,?_⟩;refine⟨fun h=>Bool.noConfusion (show true=false from h),?_⟩;refine⟨fun _ tl=>ao hg.ok rfl rfl rfl rfl dQ,?_⟩;refine⟨fun _ tl=>ao hg.ok rfl rfl rfl rfl dQ,?_⟩;refine⟨fun h=>Bool.noConfusion (show true=false from h),?_⟩;refine⟨fun _ tl=>ao hg.ok rfl rfl rfl rfl dQ,?_⟩;refine⟨fun _ tl=>ao hg.ok rfl rfl rfl rfl dQ,?_⟩;refine⟨fun h=>Bool.noConfusion (show true=false from h),?_⟩;refine⟨fun _ tl=>ao hg.ok rfl rfl rfl rfl dQ,?_⟩;refine⟨fun h=>Bool.noConfusion (show true=false from h),?_⟩;refine⟨fun _ tl=>ao hg.ok rfl rfl rfl rfl dQ,?_⟩;refine⟨fun _ tl=>vP hg [0,1] (aU.abb (vQ Y 131 l nx) (bM.nS _)) cF rfl rfl rfl rfl rfl rfl (zU l nx tl) dQ,?_⟩;refine⟨fun h=>Bool.noConfusion (show true=false from h),?_⟩;refine⟨fun _ tl=>ao hg.ok rfl rfl rfl rfl dQ,?_⟩;refine⟨fun _ tl=>vP hg [0,1] (aU.abb (vQ Y 132 l nx) (bM.nS _)) cF rfl rfl rfl rfl rfl rfl (zU l nx tl) dQ,?_⟩;refine⟨fun h=>Bool.noConfusion (show true=false from h),?_⟩;refine⟨fun _ tl=>ao hg.ok rfl rfl rfl rfl dQ,?_⟩;refine⟨fun _ tl=>vP hg [0,1] (aU.abb (vQ Y 133 l nx) (bM.nS _)) cF rfl rfl rfl rfl rfl rfl (zU l nx tl) dQ,?_⟩;refine⟨fun h=>Bool.noConfusion (show true=false from h),?_⟩;refine⟨fun _ tl=>ao hg.ok rfl rfl rfl rfl dQ,?_⟩;refine⟨fun _ tl=>vP hg [0,1] (aU.abb (vQ Y 134 l nx) (bM.nS _)) cF rfl rfl rfl rfl rfl rfl (zU l nx tl) dQ,?_⟩;refine⟨fun h=>Bool.noConfusion (show true=false from h),?_⟩;refine⟨fun _ tl=>ao hg.ok rfl rfl rfl rfl dQ,?_⟩;refine⟨fun _ tl=>ao hg.ok rfl rfl rfl rfl dQ,?_⟩;refine⟨fun h=>Bool.noConfusion (show true=false from h),?_⟩;refine⟨fun _ tl=>ao hg.ok rfl rfl rfl rfl dQ,?_⟩;refine⟨fun _ tl=>ao hg.ok rfl rfl rfl rfl dQ,?_⟩;refine⟨fun h=>Bool.noConfusion (show true=false from h),?_⟩;refine⟨fun _ tl=>ao hg.ok rfl rfl rfl rfl dQ,?_⟩;refine⟨fun _ tl=>ao hg.ok rfl rfl rfl rfl dQ,?_⟩;refine⟨fun h=>Bool.noConfusion (show true=false from h),?_⟩;refine⟨fun _ tl=>ao hg.ok rfl rfl rfl rfl dQ,?_⟩;refine⟨fun _ tl=>ao hg.ok rfl rfl rfl rfl dQ,?_⟩;refine⟨fun h=>Bool.noConfusion (show true=false from h),?_⟩;refine⟨fun _ tl=>ao hg.ok rfl rfl rfl rfl dQ,?_⟩;refine⟨fun _ tl=>ao hg.ok rfl rfl rfl rfl dQ,?_⟩;exact trivial):q:=f
theorem mB4{q:Prop}(f:q:=by
 obtain⟨aR,oz⟩:=(hR k).1 aC;have ho:ad[k]? = some ad[k]:=mA7 aR
 have:k∈Region.ready .any ad aL:=by
  refine mem_ready.2 ⟨aR,oz,ad[k],ho,fun e he hb=>?_⟩;have fu:=(dw k _ ho).1 e he hb
  have xN:e.on ∉ (k::R'):=fun hm=>by
   rcases eL.1 hm with hm |hm
   ·omega
   ·have:=(xz.1 hp).1 _ hm;omega
  have hsz:e.on<aL.size:=by omega
  have h2:¬ (aL.getD e.on true=false):=fun h2=>xN ((hR e.on).2 ⟨by omega,h2⟩)
  simp only[Array.getD,hsz,dif_pos]at h2 ⊢;simpa using h2
 rw[Ji]at this;cases this):q:=f
theorem mB5{q:Prop}(f:q:=by
 obtain⟨rfl,rfl,aZ,hk⟩:=hk;obtain⟨b,o,n,cap,h1,h2⟩:=(aN _ _ _ _ rfl).2 rfl;rcases hk with ⟨a2,_,rfl,_⟩ |⟨b',o',an8,cs,T',h3,rfl,bc,hn,rF,hle,vR⟩
 ·simp at gL
 rw[h1]at h3;simp only[Value.slice.injEq,Option.some.injEq,Addr.mk.injEq]at h3;obtain⟨⟨rfl,rfl,_⟩,hnn,uH⟩:=h3;subst uH;have kQ:=aZ row (gZ gL);have aka:=(bC.1 gL).1;have hτ:=hg.ty _ _ hT
 have lN:o+r * sz+sz≤cs.length:=by
  have:(r+1) * sz≤cap * sz:=o7 _ an
  grind
 have lz:aW (SS g.S0 φ) w φ (row.map .d) ((cs.drop (o+r * sz)).take sz):=by
  refine aW.rG zw fun m u v hu hv=>?_
  rw[eU]at hu;cases hm:row[m]? with
  |none=>simp_all
  |some y =>
   rw[hm]at hu;simp at hu;subst hu;have hml:=(bC.1 hm).1;obtain⟨y',h4,h5⟩:=vR r row m y gL hm;rw[qb an,AL,h4]at hv;cases hv;simp only[RV];exact h5
 obtain⟨h4,h5⟩:=zV hτ lz hp;rcases h4 with ⟨h0,ha⟩ |h4
 ·exact nY hs rfl h2 (iX hτ ha h0 _ _) h5
 ·simp only [zz,MC] at h4;rcases Sn τ.size with hz |hz
  ·have ha:τ.agg=true:=by
    cases ha:τ.agg
    ·have:=hτ.one ha;omega
    ·rfl
   exact nY hs rfl h2 (iX hτ ha hz _ _) h5
  ·have h6:(List.drop j (List.take sz (List.drop (o+r * sz) cs))).take τ.size=(cs.drop (o+r * sz+j)).take τ.size:=by
    rw[List.drop_take,List.take_take,List.drop_drop,Ge an]
   rw[h6]at h5;exact nY hs rfl h2 (rH hτ bc (o+r * sz+j) an) h5):q:=f
theorem mB6{q:Prop}(f:q:=by
 obtain⟨b,hb,aN⟩:=aN;generalize oA:a.eval y=vy at ew;cases ew;have hk:=cG hs hb ho;simp only[bd]at hk;obtain⟨ents,iY,bc,dC⟩:=hk;have kX:g.P.underlying T=some (.map kt et):=by have:=(hg.ty _ _ hT).sh;simpa only[bA]using this
 have cU:=kx dC hf;simp only at cU;have kT:=heap_set (o':=.map (ents.push { key:=kv,val:=a.eval v,born:=iY }) (iY+1)) bc;rw[bq];refine⟨.skip,undef,{ w with heap:=w.heap.setIfInBounds b (.map (ents.push { key:=kv,val:=a.eval v,born:=iY }) (iY+1)) },φ.set i (.js b),?_,.inr ⟨rfl,rfl⟩,by simp[RV],?_⟩
 ·simp[execOp,Instr.mapUpdate,run_underlying kX,aN,run_getObj_map bc,oA,run_checkKey oC AO,run_findKey oC cU,run_setObj_map _ bc]
 ·refine jJ.swap hs hb (.inl rfl) aC (fun c _ hc=>kT.2 c fun e=>hc Gc) (fun b' hb=>.inl hb) rfl rfl rfl fun bx hle=>?_
  simp only[bd];refine⟨_,_,kT.1,?_,?_⟩
  ·simp[dC.1]
  ·have:=(dC.2.mono bx hle).append (l':=[ev E v]) (vs':=[a.eval v]) Sb
   simp_all):q:=f
theorem mB7{q:Prop}(f:q:=by
 obtain⟨h0,ph,h1,h2⟩:=h;obtain⟨p',h3,h4⟩:=hp _ _ h1;refine⟨h0,p',h3,fun Jj s' x' oT he=>?_⟩;rcases h4 with rfl |⟨sz,s,x,ob,sz1,s1,x1,Sx,h5,h6,h7⟩ |⟨sz,s,x,ob,_,h6⟩ |⟨l0,I0,B0,B0',_,h6⟩ |⟨bs0,akc,_,h6⟩
 ·exact h2 _ _ _ _ he
 ·subst he;cases h6;obtain⟨h8,h9⟩:=h2 _ _ _ _ h5;exact⟨by omega,fun e=>by omega⟩
 ·subst he;cases h6
 ·subst he;cases h6
 ·subst he;cases h6):q:=f
theorem mB8{q:Prop}(f:q:=by
 obtain⟨v,h1,h2⟩:=hv.get t ha;have htl:=(bC.1 h1).1;simp only[Option.getD_some];rw[Gf,Array.getElem?_append_left (by simpa using htl)];simp only[List.getElem?_toArray,h1,Option.getD_some];exact h2):q:=f
theorem mB9{q:Prop}(f:q:=by
 obtain⟨_,h1⟩:=Sy hs aN ho;rcases h1 with h1 |⟨b,o,cap,cs,T',h1,h2,h3,_⟩
 ·simp_all
 refine aY hs (vv:=.pointer (some ⟨b,o+n.toNat * sz,none⟩)) ?_ ?_
 ·have fm:(Instr.indexAt T (a.eval x) (a.eval i)).run g.P w=.ok (.pointer (some ⟨b,o+n.toNat * sz,none⟩)) w:=by
   simp only[Instr.indexAt,h1,hvi,asIntOf,underlying,Sem.run_bind,Sem.run_pure,run_program,Result.andThen_ok,bN hg hT];rw[Sem.run_ite,if_pos ⟨h0,by omega⟩];simp only[Sem.run_bind,run_sizeOf (hg.ty _ _ he),Result.andThen_ok,Sem.run_pure,fK,hsz]
  simp only[execOp,Sem.run_bind,fm,Result.andThen_ok,Sem.run_pure]
 ·simp only [RV]
  grind):q:=f
theorem akd{q:Prop}(f:q:=by
 obtain⟨aR,oz⟩:=(hR k).1 aC;have sR:ad[k]? = some ad[k]:=mA7 aR
 have:k∈Region.ready .any ad aL:=by
  refine mem_ready.2 ⟨aR,oz,ad[k],sR,fun e zD hb=>?_⟩;have fu:=hf.back k _ sR e zD hb
  have xN:e.on ∉ (k::R'):=fun hm=>by
   rcases eL.1 hm with hm |hm
   ·omega
   ·have:=(xz.1 hp).1 _ hm;omega
  have hsz:e.on<aL.size:=by omega
  have h2:¬ (aL.getD e.on true=false):=fun h2=>xN ((hR e.on).2 ⟨by omega,h2⟩)
  simp only[Array.getD,hsz,dif_pos]at h2 ⊢;simpa using h2
 rw[Ji]at this;cases this):q:=f
theorem ake{q:Prop}(f:q:=by
 obtain⟨s,e1⟩:∃s,de[k]? = some s:=⟨_,dY (show k<de.length from aR)⟩;have e2:=Wm l x e1;have e3:de.take (k+1)=de.take k++[s]:=by rw[I5,e1];rfl
 refine dN hg.ok rfl rfl rfl rfl rfl rfl Mz (show (de.map fun s=>[D.v (.string s)])[k]? = some [D.v (.string s)] by rw[eU,e1];rfl) rfl ?_;refine vC ?_;refine sS hg.cm 5 [.v (.string s)] (by show φ.length≤5;omega) rfl rfl (af ?_);refine anX ?_;refine anW ?_;exact Vs):q:=f
theorem abd{q:Prop}(f:q:=by
 obtain⟨ah,al,ap,tx,anx,ae⟩:=a;cases al<;>(refine AA hg.ok rfl rfl rfl rfl rfl rfl rfl rfl rfl ?_;refine er hg.ok rfl rfl ?_;refine Ay hg 5 rfl rfl ?_;rfl)):q:=f
theorem agt{q:Prop}(f:q:=by
 refine⟨h0,Me,h5,?_⟩;rcases h6 with h6 |⟨b,o,cap,cs,T,g1,g2,g3,g4,g5,g6,g7⟩
 ·exact .inl h6
 ·refine .inr ⟨b,o,cap,cs,T,g1,g2,g3,g4,g5,g6,fun i r j x hi hj=>?_⟩;obtain⟨y,h9,mm⟩:=g7 i r j x hi hj;exact⟨y,h9,mm.mono bx⟩):q:=f
theorem akf{q:Prop}(f:q:=by
 obtain⟨rfl,rfl,aZ,hk⟩:=hk;have hv:=(aN _ _ _ _ rfl).2 rfl
 have mn:∃ (p:Option Addr) (c:Nat),a.eval x=.slice p aa.length c:=by
  grind
 obtain⟨p,c,mn⟩:=mn;refine aY hs (vv:=.int .i64 aa.length) ?_ IW;have hu:=bN hg hT;simp only[execOp,resolve,Sem.run_bind,Sem.run_pure,Result.andThen_ok,invoke,builtin,rC,List.map_cons,fj,mn];simp[qd hu (.inr ⟨⟨_,rfl⟩,_,_,_,rfl,rfl⟩)]):q:=f
theorem akg{q:Prop}(f:q:=by
 refine⟨fun _ tl=>ao hg.ok rfl rfl rfl rfl dQ,?_⟩;refine⟨fun h=>Bool.noConfusion (show true=false from h),?_⟩;refine⟨fun h=>Bool.noConfusion (show true=false from h),?_⟩;refine⟨fun h=>Bool.noConfusion (show true=false from h),?_⟩;refine⟨fun h=>Bool.noConfusion (show true=false from h),?_⟩;refine⟨fun h=>Bool.noConfusion (show true=false from h),?_⟩;refine⟨fun h=>Bool.noConfusion (show true=false from h),?_⟩;exact trivial):q:=f
theorem abe{q:Prop}(f:q:=by
 obtain⟨e,e1,e2,e3⟩:=MG hi;rcases e3 with e3 |⟨m,e3,e4⟩
 ·exact .one Gi e1 e2 e3
 ·exact .step Gi e1 e2 rfl (hr _ _ _ e3 e4)):q:=f
theorem akh{q:Prop}(f:q:=by
 obtain⟨v,Sz,xO⟩:=Wn (Tm.ez x).1 (Tm.ez y).1 hIx hIy;refine aF (Sz) ?_;refine aj (fun h4=>?_) fun h4=>?_
 ·rw [← fin (r:=(0,6)) aj6];exact lI
 ·have h4:(zW s (Tm.ez x).1 (Tm.ez y).1).2=true:=by simpa using h4
  rw[← fin (r:=(v,0)) (by rw[hex];unfold AJ;rw[if_pos h4,xO h4])];exact lI):q:=f
theorem abf{q:Prop}(f:q:=by
 exact⟨⟨_,_,_,rfl⟩,_,qc fu,fun sz s x ob h=>by cases h;exact⟨ef _,fun _=>rfl⟩⟩):q:=f
theorem Wp{q:Prop}(f:q:=by
 exact⟨[zv,.bool false],rfl,by simp only[aW,RV,bV,and_true];exact⟨hzR,.v _⟩⟩):q:=f
theorem Wq{q:Prop}(f:q:=by
 obtain⟨inf,h1,h2⟩:=Option.bind_eq_some_iff.1 hz;simp[zeroValue,typeInfo,h1,h2]):q:=f
theorem Wr{q:Prop}(f:q:=by
 exact⟨[vv,.bool true],rfl,by simp only[aW,RV,bV,and_true];exact⟨h2,.v _⟩⟩):q:=f
theorem aki{q:Prop}(f:q:=by
 refine⟨h0,Me,h1,?_⟩;rcases h2 with h2 |⟨b,o,cap,cs,T,h2,h3,h4,h5,h6,h7,h8⟩
 ·exact .inl h2
 ·refine .inr ⟨b,o,cap,cs,T,h2,h3,h4,h5,h6,h7,fun i r j x hi hj=>?_⟩;obtain⟨y,h9,mm⟩:=h8 i r j x hi hj;exact⟨y,h9,mm.mono hk⟩):q:=f
theorem akj{q:Prop}(f:q:=by
 obtain⟨b,h1,h2⟩:=h;obtain⟨p',h3,h4⟩:=hp _ _ h1;rcases h4 with rfl |⟨sz,s,x,ob,Jj,s',x',oT,h5,_⟩ |⟨sz,s,x,ob,h5,_⟩ |⟨l0,I0,B0,B0',h5,_⟩ |⟨bs0,akc,h5,_⟩
 ·simp_all
 ·cases h5
 ·cases h5
 ·cases h5
 ·cases h5):q:=f
theorem agu{q:Prop}(f:q:=by
 obtain⟨h1,h2⟩:=(hR k).1 hk;have hsz:k<aL.size:=by omega
 simp only[Array.getD,hsz,dif_pos]at h2 ⊢;exact h2):q:=f
theorem abg{q:Prop}(f:q:=by
 refine⟨fun h=>?_,fun h=>h.elim,by omega⟩;split at h
 ·omega
 ·omega):q:=f
theorem akk{q:Prop}(f:q:=by
 obtain⟨i,x⟩:=x;simp only[kN]at h;obtain⟨_,h⟩:=AP h;split at h
 ·cases h
 split at h
 ·obtain ⟨_,h⟩:=AP h;split at h
  ·rename_i hl;cases h;simp[ih _ _ hl]
  ·cases h
 ·cases h):q:=f
theorem akl{q:Prop}(f:q:=by
 refine⟨h0,Me,h1,fun i x r hi hr=>?_⟩;obtain⟨cs,T,h3,h4,h5,h6,h7⟩:=h2 i x r hi hr;refine⟨cs,T,h3,h4,h5,h6,fun j d hd=>?_⟩;obtain⟨y,h8,h9⟩:=h7 j d hd;exact⟨y,h8,h9.mono bx⟩):q:=f
theorem akm{q:Prop}(f:q:=by
 refine⟨h0,Me,h1,fun i x r hi hr=>?_⟩;obtain⟨cs,T,h3,h4,h5,h6,h7⟩:=h2 i x r hi hr;refine⟨cs,T,h3,h4,h5,h6,fun j d hd=>?_⟩;obtain⟨y,h8,h9⟩:=h7 j d hd;exact⟨y,h8,h9.mono hk⟩):q:=f
theorem akn{q:Prop}(f:q:=by
 refine⟨_,Vb,fun b hb=>?_,fun u=>(h3 u).mono cS.iS cS.le,h4,h5.P4 cS,h6.Jk cS.ext (h6.le.trans cS.le)⟩;rcases cS.own b hb with h |h
 ·exact h2 b h
 ·left;have:=h6.size;omega):q:=f
theorem ako{q:Prop}(f:q:=by
 refine⟨ents,iY,Ds.map fun x=>(x.1,f x.2),h0.map _,h5,?_,?_⟩
 ·simpa[jw,Function.comp_def]using h6
 ·have:=h7.map' f hf;simpa[jw,Function.comp_def]using this):q:=f
theorem agv{q:Prop}(f:q:=by
 obtain⟨h1,h2,_⟩:=mem_ready.1 hi;exact absurd ((hR i).2 ⟨h1,h2⟩) aC):q:=f
theorem akp{q:Prop}(f:q:=by
 obtain⟨ds,rl,e,hs⟩:=hs.told;show LeavesInM _ _ _ _ _ _ a.defers _ _
 rw[e];exact uI (fun rl tmps w h=>hl rl tmps w h) ds rl a.tmps w hs):q:=f
theorem akq{q:Prop}(f:q:=by
 exact⟨_,qc (bC.1 ho).1,.inr ⟨.inl ⟨by omega,ef _⟩,.inl ⟨by omega,ef _⟩⟩⟩):q:=f
theorem akr{q:Prop}(f:q:=by
 refine⟨ents,iY,h5,?_,?_⟩
 ·simpa[jw,Function.comp_def]using h6
 ·have:=h7.map' f hf;simpa[jw,Function.comp_def]using this):q:=f
theorem aks{q:Prop}(f:q:=by
 obtain⟨k,hk,lJ⟩:=xJ.1 hx;exact Es k x DG (ael k hk) lJ (fun ⟨h1,h2⟩=>by have:=qO i aC;omega)):q:=f
theorem akt{q:Prop}(f:q:=by
 exact⟨V',fun p hp=>g1 p (.inl hp),fun p hp=>by
  rcases eL.1 hp with rfl |h
  ·exact g1 _ (.inr rfl)
  ·exact g2 p h,g3⟩):q:=f
theorem aku{q:Prop}(f:q:=by
 exact⟨nR.refl _,nR.refl _,⟨.refl _,.refl _,bM.int (by first|rfl|exact AD.symm),.refl _,trivial⟩,nR.refl _,trivial⟩):q:=f
theorem akv{q:Prop}(f:q:=by
 obtain⟨aR,oz⟩:=(hR k).1 hk;have hsz:k<aL.size:=by omega
 simp only[Array.getD,hsz,dif_pos]at h oz;rw[h]at oz;cases oz):q:=f
theorem akw{q:Prop}(f:q:=by
 obtain⟨n,w',h'⟩:=ih (cY x.g.c x.sh x.id r) b f w1 an (by rw[dB];omega);exact⟨_,_,.MH h4 h ho h'⟩):q:=f
theorem akx{q:Prop}(f:q:=by
 obtain⟨n,w',h'⟩:=ih r b' f' (w.said tx) (by unfold Wo.said Wo.see;split<;>exact hc) hr;exact⟨_,_,.yes h2 h h'⟩):q:=f
theorem aky{q:Prop}(f:q:=by
 exact⟨nR.refl _,⟨.refl _,.refl _,bM.int (by first|rfl|exact AD.symm),.refl _,trivial⟩,nR.refl _,trivial⟩):q:=f
theorem akz{q:Prop}(f:q:=by
 exact⟨fun e=>(by rw[gw]at e;cases e),fun e=>⟨gr,akA _ _ hv hp hk gw,akB _ ⟨_,rfl⟩,h.fa,h.sa⟩⟩):q:=f
theorem akC{q:Prop}(f:q:=by
 refine⟨?_,fun e=>Gj (e ▸ h)⟩;simp only[bW,eL]at h ⊢;exact h.imp id .inr):q:=f
theorem akD{q:Prop}(f:q:=by
 exact⟨⟨hU.chain,hU.mo,by simp,fun p hp=>(by cases hp),hU.sb,hU.Vc,hU.vb,by simp⟩,[],by simp⟩):q:=f
theorem akF{q:Prop}(f:q:=by
 obtain⟨z,hz,h4⟩:=hgr i y hy;rcases h4 with rfl |⟨h4,_⟩
 ·rw[hy,hz]
 ·exact absurd h4 (no _ _)):q:=f
theorem akG{q:Prop}(f:q:=by
 obtain⟨h1,h2⟩:=hk;simp only[zE,bodyPostM,h2,LeavesInM,LeavesIn]at h1;exact⟨h2,h1⟩):q:=f
theorem akH{q:Prop}(f:q:=by
 obtain⟨hk,he⟩:=bC.1 h;rw[List.drop_eq_getElem_cons hk,he];rfl):q:=f
theorem akI{q:Prop}(f:q:=by
 obtain⟨m',rfl⟩:∃m',m=m'+1:=⟨m - 1,by have:=(vS h3).1;omega⟩
 simp_all):q:=f
theorem akJ{q:Prop}(f:q:=by
 obtain⟨cs,h1,h2⟩:=hx;exact⟨cs,h1,sT (fun x v y h1 h2=>ih h1 h2) h2 hl⟩):q:=f
theorem akK{q:Prop}(f:q:=by
 obtain⟨n,w',h'⟩:=ih r b f w1 an hr;exact⟨_,_,.AQ h5 h ho h'⟩):q:=f
theorem akL{q:Prop}(f:q:=by
 obtain⟨cs,h1,h2⟩:=hx;exact⟨cs,h1,h2.map' _ fun x v h=>ih nz x v h⟩):q:=f
theorem akM{q:Prop}(f:q:=by
 exact⟨hk.1,hk.1 _ _ _ _ _ _ cP (fun _ _=>rfl) bx hk.2⟩):q:=f
theorem akN{q:Prop}(f:q:=by
 refine⟨φ,Vb,fun b hb=>.inr hb,fun t=>?_,by simp[AR,Jl];omega,.none rfl ⟨fun _=>rfl,.nil,by simp⟩,⟨ef _,rfl,rfl,rfl,fun _ _ _=>rfl,fun i l I B h=>⟨B,h⟩,.refl _⟩⟩;rw[vU];simp only[aa2,if_false,So];cases ha:args[t]? with
 |none=>simp[RV]
 |some x =>
  exact mB8):q:=f
end aw
namespace aw
open Go

inductive D where
 |v (x:Value)
 |sl (aa:List (List D))
 |bG (cells:List D)
 |map (es:List (Value × D))

inductive AV where
 |any
 |tt
 |ff
 |d (x:D)
 |fs (aa:List (List D))
 |agg (l:List AV)
 |lo (i off:Nat)
 |el (i s r j:Nat)
 |vw (i s r:Nat)
 |ow (i s:Nat)
 |mp (i:Nat)
 |cH (l:List AV)
 |bU (f:Nat) (first abh:List AV)
 |yl (i:Nat)

inductive Ob where
 |box (l:List AV)
 |arr (sz s:Nat) (aa:List (List D))
 |map (es:List (Value × AV))
 |Ii (n:Nat)
 |Ij (hs:List (Nat × Nat × Nat)) (aa:List (List D))
 |Ik (s:ByteArray) (pos:Nat)
 |dead
 |gM (T:Nat) (l:List AV)
 |qe (e s:Nat) (bs:List UInt8)
 |tI (es:List (Value × AV))

structure YP where
 ys:List (List AV)
 go:Nat→Bool

inductive Sh where
 |one
 |int (k:IntKind)
 |bool
 |str
 |struct (jz:List (Nat × Nat))
 |array (n e:Nat)
 |slice (e:Nat)
 |map (k e:Nat)

structure Ty where
 size:Nat
 bytes:Nat
 zero:List Value
 sh:Sh
def Ty.agg (t:Ty):Bool:=match t.sh with | .struct _=>true | .array _ _=>true |_=>false
abbrev bk:=List (Nat × AV)

def lk:bk→Nat→AV
 |[],_=>.any
 |(k,v)::r,t=>bif Nat.beq k t then v else lk r t

def rm:bk→Nat→bk
 |[],_=>[]
 |(k,v)::r,t=>bif Nat.beq k t then rm r t else (k,v)::rm r t
def put (E:bk)(t:Nat)(v:AV):bk:=(t,v)::rm E t

def dk {α:Type}:List α→Nat→Option α
 |[],_=>none
 |x::r,i=>bif Nat.beq i 0 then some x else dk r (Nat.pred i)

def da {α:Type}:List α→Nat→α→List α
 |[],_,_=>[]
 |x::r,i,y=>bif Nat.beq i 0 then y::r else x::da r (Nat.pred i) y

def len {α:Type}:List α→Nat
 |[]=>0
 |_::r=>Nat.succ (len r)

def lO:Value→AV
 | .bool true=>.tt
 | .bool false=>.ff
 | .agg cs=>.agg (cs.toList.map fun x=>.d (.v x))
 |v=>.d (.v v)

def ev (E:bk):Operand→AV
 | .tmp t=>lk E t
 | .const v=>lO v
 | .func f=>.bU f [] []
 | .global _=>.any
def iV (n:Int):AV:=.d (.v (.int .i64 n))
def bV (b:Bool):AV:=.d (.v (.bool b))

def p7:AV→Bool
 | .any=>false
 | .agg _=>false
 | .cH _=>false
 | .d (.v (.agg _))=>false
 | .d (.v (.tuple _))=>false
 |_=>true

def Ws:List AV→Bool
 |[]=>true
 |x::r=>bif p7 x then Ws r else false

def fU:AV→Option (List AV)
 | .agg l=>bif Ws l then some l else none
 |x=>bif p7 x then some [x] else none

def xP:List AV→Option (List D)
 |[]=>some []
 | .d x::r=>match xP r with |some l=>some (x::l) |none=>none
 | .tt::r=>match xP r with |some l=>some (.v (.bool true)::l) |none=>none
 | .ff::r=>match xP r with |some l=>some (.v (.bool false)::l) |none=>none
 | .fs aa::r=>match xP r with |some l=>some (.sl aa::l) |none=>none
 |_=>none

def ky (t:Ty)(l:List AV)(off:Nat):Option AV :=
 match t.agg with
 | true=>let x:=(l.drop off).take t.size
      bif Nat.beq (len x) t.size then some (.agg x) else none
 |false=>dk l off

def gy:List AV→Nat→List AV→List AV
 |l,_,[]=>l
 |l,off,x::r=>gy (da l off x) (Nat.succ off) r

def kN:List (Nat × AV)→Nat→Nat→Option (List (List D))
 |[],_,_=>some []
 | (i,x)::r,k,sz=>bif Nat.beq i k then
   match fU x with
   |none=>none
   |some l=>match xP l with
   |some row=>bif Nat.beq (len row) sz then (match kN r (Nat.succ k) sz with |some l=>some (row::l) |none=>none) else none
   |none=>none
  else none

def AU (ty:Nat→Option Ty) (jz:List (Nat × Nat)):List (Nat × AV)→List AV→Option (List AV)
 |[],cs=>some cs
 |(i,x)::r,cs =>
  match dk jz i with
  |some (off,t)=>match ty t with
   |some τ=>match fU x with
    |some l=>bif Nat.beq (len l) τ.size then (bif Nat.ble (Nat.add off τ.size) (len cs) then AU ty jz r (gy cs off l) else none) else none
    |none=>none
   |none=>none
  |none=>none

def Jm (sh:Sh) (objs:List Ob):AV→Option Int
 | .d (.sl aa)=>match sh with | .slice _=>some aa.length |_=>none
 | .d (.v (.slice none 0 0))=>match sh with | .slice _=>some 0 |_=>none
 | .d (.v (.string s))=>match sh with | .str=>some s.size |_=>none
 | .fs aa=>match sh with | .slice _=>some aa.length |_=>none
 | .ow i s=>match sh with
  | .slice _=>match dk objs i with
   |some (.arr _ s' aa)=>bif Nat.beq s s' then some aa.length else none
   |_=>none
  |_=>none
 | .mp i=>match sh with
  | .map _ _=>match dk objs i with
   |some (.map es)=>some es.length
   |_=>none
  |_=>none
 |_=>none

def MJ (sh:Sh)(objs:List Ob)(v:AV):Option Int :=
 match v with
 | .ow _ _=>none
 |v=>Jm sh objs v

theorem agw {sh:Sh}{objs:List Ob}{v:AV}{n:Int}(h:MJ sh objs v=some n):Jm sh objs v=some n:=by
 cases v<;>first |(simp[MJ]at h;done) |exact h

def kEq:IntKind→IntKind→Bool
 | .i64,.i64=>true
 | .u8,.u8=>true
 | .i32,.i32=>true
 | .u64,.u64=>true
 | .u16,.u16=>true
 | .u32,.u32=>true
 | .i8,.i8=>true
 | .i16,.i16=>true
 |_,_=>false
def bE (a b:ByteArray):Bool:=a.toList==b.toList

def boA:AV→Option Bool
 | .tt=>some true
 | .ff=>some false
 | .d (.v (.bool b))=>some b
 |_=>none

def akP (k:IntKind) (a b:Int):BinOp→Option AV
 | .eql=>some (bV (a==b))
 | .neq=>some (bV (a != b))
 | .lss=>some (bV (decide (a<b)))
 | .leq=>some (bV (decide (a≤b)))
 | .gtr=>some (bV (decide (a > b)))
 | .geq=>some (bV (decide (a ≥ b)))
 | .add=>some (.d (.v (.int k (k.wrap (a+b)))))
 | .sub=>some (.d (.v (.int k (k.wrap (a - b)))))
 | .mul=>some (.d (.v (.int k (k.wrap (a * b)))))
 |_=>none

def abi (a b:ByteArray):BinOp→Option AV
 | .eql=>some (bV (bE a b))
 | .neq=>some (bV (!bE a b))
 | .lss=>some (bV (Op.bytesLess a.toList b.toList))
 | .leq=>some (bV (Op.bytesLess a.toList b.toList || bE a b))
 | .gtr=>some (bV (!(Op.bytesLess a.toList b.toList || bE a b)))
 | .geq=>some (bV (!Op.bytesLess a.toList b.toList))
 |_=>none

def akQ (a b:Bool):BinOp→Option AV
 | .eql=>some (bV (a==b))
 | .neq=>some (bV (!(a==b)))
 |_=>none

def isB (ty:Nat→Option Ty)(T:Nat):Bool :=
 match ty T with
 |some ⟨_,_,_,.bool⟩=>true
 |_=>false

def Wt (tb:Bool)(op:BinOp)(x y:AV):Option AV :=
 match x,y with
 | .d (.v (.int k a)),.d (.v (.int k' b))=>bif kEq k k' then akP k a b op else none
 | .d (.v (.string a)),.d (.v (.string b))=>abi a b op
 |a,b=>match boA a,boA b with
  |some x,some y=>bif tb then akQ x y op else none
  |_,_=>none

def Wu:AV→AV→AV→Option AV
 | .tt,a,_=>some a
 | .ff,_,b=>some b
 |_,_,_=>none

def cJ (ty:Nat→Option Ty) (ρ:Operand→AV):Op→Option AV
 | .move x=>some (ρ x)
 | .assign x=>some (ρ x)
 | .pick c a b=>Wu (ρ c) (ρ a) (ρ b)
 | .fieldAddr T x f=>match ty T with
  |some ⟨_,_,_,.struct jz⟩=>match dk jz f with
   |some (off,_)=>match ρ x with
    | .lo i o=>some (.lo i (o+off))
    | .el i s r j=>some (.el i s r (j+off))
    | .d (.bG l)=>some (.d (.bG (l.drop off)))
    |_=>none
   |none=>none
  |_=>none
 | .field T x f=>match ty T with
  |some ⟨_,_,_,.struct jz⟩=>match dk jz f with
   |some (off,t)=>match ty t,ρ x with
    |some τ,.agg l=>ky τ l off
    |_,_=>none
   |none=>none
  |_=>none
 | .binOp op T x y _=>Wt (isB ty T) op (ρ x) (ρ y)
 | .unOp op _ x=>match op,ρ x with
  | .not,.tt=>some .ff
  | .not,.ff=>some .tt
  | .not,.d (.v (.bool b))=>some (bV (!b))
  | .neg,.d (.v (.int k n))=>some (.d (.v (.int k (k.wrap (0 - n)))))
  |_,_=>none
 | .nilCheck x=>match ρ x with
  | .lo i o=>some (.lo i o)
  | .el i s r j=>some (.el i s r j)
  | .d (.bG l)=>some (.d (.bG l))
  | .bU f a c=>some (.bU f a c)
  |_=>none
 | .convert S D x=>match ty S with
  |some _=>match ty D,ρ x with
   |some ⟨_,_,_,.int k⟩,.d (.v (.int _ n))=>some (.d (.v (.int k (k.wrap n))))
   |some ⟨_,_,_,.str⟩,.d (.v (.string s))=>some (.d (.v (.string s)))
   |_,_=>none
  |none=>none
 | .makeFunc (.func f) first abh=>some (.bU f (first.toList.map ρ) (abh.toList.map ρ))
 | .extract x k=>match ρ x with
  | .cH l=>dk l k
  |_=>none
 | .buildSlice T n parts=>match ty T with
  |some ⟨_,_,_,.slice e⟩=>match ty e with
   |some τ=>match kN (parts.toList.map fun p=>(p.1,ρ p.2)) 0 τ.size with
    |some aa=>bif Nat.beq (len aa) n then (bif Nat.ble (Nat.mul n τ.size) 100000 then (bif Nat.ble n 100000 then some (.fs aa) else none) else none) else none
    |none=>none
   |none=>none
  |_=>none
 | .build T parts=>match ty T with
  |some ⟨_,_,z,.struct jz⟩=>match AU ty jz (parts.toList.map fun p=>(p.1,ρ p.2)) (z.map fun x=>.d (.v x)) with
   |some cs=>some (.agg cs)
   |none=>none
  |_=>none
 |_=>none

def eX (ty:Nat→Option Ty) (ρ:Operand→AV) (objs:List Ob):Op→Option AV
 | .load T a=>match ty T with
  |some τ=>match ρ a with
   | .lo i off=>match dk objs i with
    |some (.box l)=>ky τ l off
    |_=>none
   | .d (.bG l)=>ky τ (l.map .d) 0
   |_=>none
  |none=>none
 | .call { callee:=.builtin .len,args,argTypes }=>match args.toList,argTypes.toList with
  |[x],[t]=>match ty t with
   |some τ=>match MJ τ.sh objs (ρ x) with |some n=>some (iV n) |none=>none
   |none=>none
  |_,_=>none
 |_=>none

def iz (ty:Nat→Option Ty) (ρ:Operand→AV) (objs:List Ob):Op→Option (AV × List Ob)
 | .alloc T=>match ty T with
  |some τ=>some (.lo (len objs) 0,objs++[.box (τ.zero.map fun x=>.d (.v x))])
  |none=>none
 | .box T x=>match ty T with
  |some τ=>match fU (ρ x) with
   |some l=>bif Nat.beq (len l) τ.size then some (.lo (len objs) 0,objs++[.box l]) else none
   |none=>none
  |none=>none
 | .store T a x=>match ty T with
  |some τ=>match fU (ρ x) with
   |some new=>bif Nat.beq (len new) τ.size then (match ρ a with
    | .lo i off=>match dk objs i with
     |some (.box l)=>bif Nat.ble (Nat.add off τ.size) (len l) then some (.any,da objs i (.box (gy l off new))) else none
     |_=>none
    |_=>none) else none
   |none=>none
  |none=>none
 |_=>none

def db (ty:Nat→Option Ty)(ρ:Operand→AV)(objs:List Ob)(o:Op):Option (AV × List Ob) :=
 match cJ ty ρ o with
 |some v=>some (v,objs)
 |none=>match eX ty ρ objs o with
  |some v=>some (v,objs)
  |none=>iz ty ρ objs o

def Il {α β:Type}(l:List α)(f:α→(α→β)→β)(k:List α→β):β :=
 match l with
 |[]=>k []
 |x::r=>f x fun x'=>Il r f fun r'=>k (x'::r')

def nfV {β:Type}(v:AV)(k:AV→β):β :=
 match v with
 | .any=>k .any
 | .tt=>k .tt
 | .ff=>k .ff
 | .d (.v (.int q n))=>k (.d (.v (.int q n)))
 | .d (.v (.bool b))=>k (.d (.v (.bool b)))
 | .d (.v x)=>k (.d (.v x))
 | .d (.sl aa)=>k (.d (.sl aa))
 | .d (.bG l)=>Il l (fun x f=>f x) fun l'=>k (.d (.bG l'))
 | .d (.map es)=>k (.d (.map es))
 | .fs aa=>Il aa (fun r f=>Il r (fun x g=>g x) f) fun rows'=>k (.fs rows')
 | .agg l=>Il l (fun x f=>f x) fun l'=>k (.agg l')
 | .lo i o=>k (.lo i o)
 | .el i s r j=>k (.el i s r j)
 | .vw i s r=>k (.vw i s r)
 | .ow i s=>k (.ow i s)
 | .mp i=>k (.mp i)
 | .cH l=>Il l (fun x f=>f x) fun l'=>k (.cH l')
 | .bU g a c=>Il a (fun x f=>f x) fun a'=>Il c (fun x f=>f x) fun c'=>k (.bU g a' c')
 | .yl i=>k (.yl i)

def nfO {β:Type}(o:Ob)(k:Ob→β):β :=
 match o with
 | .box l=>Il l (fun x f=>f x) fun l'=>k (.box l')
 | .arr sz s aa=>k (.arr sz s aa)
 | .map es=>k (.map es)
 | .Ii pre=>k (.Ii pre)
 | .Ij hs aa=>k (.Ij hs aa)
 | .Ik s pos=>k (.Ik s pos)
 | .dead=>k .dead
 | .gM T l=>Il l (fun x f=>f x) fun l'=>k (.gM T l')
 | .qe e s bs=>k (.qe e s bs)
 | .tI es=>k (.tI es)
def nfE {β:Type}(E:bk)(k:bk→β):β:=Il E (fun x f=>f x) k

def aG (ad:List Oper) (E:bk):Option (Nat × Bool)→Option Bool
 |none=>some true
 |some (j,want)=>match dk ad j with
  |some o=>match o.dst with
   |some d=>match lk E d with
    | .tt=>some want
    | .ff=>some (!want)
    | .cH []=>some false
    |_=>none
   |none=>none
  |none=>none

structure Ctx where
 ty:Nat→Option Ty
 N:Nat

def aO (c:Ctx):Option Nat→Bool
 |none=>true
 |some d=>Nat.ble (Nat.succ d) c.N

def bf (E:bk):Option Nat→AV→bk
 |none,_=>E
 |some d,v=>put E d v

def held (l4:Nat→Bool):Op→Bool
 | .load _ (.tmp t)=>l4 t
 | .store _ (.tmp t) _=>l4 (Nat.add 100000 t)
 | .call { callee:=.builtin .len,args,.. }=>match args.toList with
  |[.tmp t]=>l4 (Nat.add 200000 t)
  |_=>false
 | .buildSlice .. => l4 800000000
 |_=>false

def xQ (c:Ctx) (l4:Nat→Bool) (all:List Oper):List Oper→bk→List Ob→List Oper × bk × List Ob
 |[],E,objs=>([],E,objs)
 |o::r,E,objs =>
  match aG all E o.guard with
  | some true=>bif held l4 o.op then (o::r,E,objs) else
   match db c.ty (ev E) objs o.op with
   | some (v,objs')=>bif aO c o.dst then
     nfV v fun v'=>Il objs' nfO fun agx=>nfE (bf E o.dst v') fun E'=>xQ c l4 all r E' agx
    else (o::r,E,objs)
   |none=>(o::r,E,objs)
  |some false=>bif aO c o.dst then nfE (bf E o.dst (.cH [])) fun E'=>xQ c l4 all r E' objs else (o::r,E,objs)
  |none=>(o::r,E,objs)

inductive It where
 |code (c:Code)
 |js (id:Nat)
 |mark (M:bk→List Ob→Prop)
 |dr (ad:Array Oper) (ax:List Oper)

inductive Cfg where
 |mk (k:List It) (E:bk) (objs:List Ob)
 |bad

def iA (id:Nat):List It→Option (List It)
 | .js j::k=>bif Nat.beq j id then some k else iA id k
 | .code _::k=>iA id k
 | .mark _::k=>iA id k
 |_=>none

def kc (c:Ctx) (l4:Nat→Bool):Nat→List It→bk→List Ob→Cfg
 |0,k,E,objs=>.mk k E objs
 |n+1,.dr ad ax::k,E,objs =>
  match xQ c l4 ad.toList ax E objs with
  |([],E',objs')=>kc c l4 n k E' objs'
  |(r,E',objs')=>.mk (.dr ad r::k) E' objs'
 |n+1,.code (.seq a b)::k,E,objs=>kc c l4 n (.code a :: .code b::k) E objs
 |n+1,.code .skip::k,E,objs=>kc c l4 n k E objs
 |n+1,.code (.block id b)::k,E,objs=>kc c l4 n (.code b :: .js id::k) E objs
 |n+1,.js _::k,E,objs=>kc c l4 n k E objs
 |n+1,.code (.exit id)::k,E,objs=>match iA id k with
  |some k'=>kc c l4 n k' E objs
  |none=>.mk (.code (.exit id)::k) E objs
 |n+1,.code (.cond x a b)::k,E,objs=>match ev E x with
  | .tt=>kc c l4 n (.code a::k) E objs
  | .ff=>kc c l4 n (.code b::k) E objs
  |_=>.mk (.code (.cond x a b)::k) E objs
 |n+1,.code (.region id ad dr)::k,E,objs=>bif l4 (Nat.add 900000000 id) then .mk (.code (.region id ad dr)::k) E objs else kc c l4 n (.dr ad ad.toList::k) E objs
 |_+1,k,E,objs=>.mk k E objs
end aw
namespace aw
open Go

inductive Rd (S:Nat→Prop) (w:World):D→Value→Prop
 |v (x:Value):Rd S w (.v x) x
 |nil (a:Option Addr) (c:Nat):Rd S w (.sl []) (.slice a 0 c)
 | sl {aa:List (List D)} {b o cap sz:Nat} {cs:Array Value} {T:Nat} {fr:Nat × Nat} (g:Nat→Nat→Value)
   (hS:S b) (hb:w.heap[b]? = some (.cells cs T fr)) (hl:aa.length≤cap) (hc:cap≤maxLen)
   (hsz:∀ (i:Nat) (r:List D),aa[i]? = some r→r.length=sz)
   (hg:∀ (i:Nat) (r:List D) (j:Nat) (x:D),aa[i]? = some r→r[j]? = some x→cs[o+i * sz+j]? = some (g i j))
   (hr:∀ (i:Nat) (r:List D) (j:Nat) (x:D),aa[i]? = some r→r[j]? = some x→Rd S w x (g i j)) :
   Rd S w (.sl aa) (.slice (some ⟨b,o,none⟩) aa.length cap)
 | bG {l:List D} {b o:Nat} {cs:Array Value} {T:Nat} {fr:Nat × Nat} (g:Nat→Value)
   (hS:S b) (hb:w.heap[b]? = some (.cells cs T fr))
   (hg:∀ (j:Nat) (x:D),l[j]? = some x→cs[o+j]? = some (g j))
   (hr:∀ (j:Nat) (x:D),l[j]? = some x→Rd S w x (g j)) :
   Rd S w (.bG l) (.pointer (some ⟨b,o,none⟩))
 | map {es:List (Value × D)} {b iY:Nat} {ents:Array MapEntry} (g:Nat→Value)
   (hS:S b) (hb:w.heap[b]? = some (.map ents iY)) (hk:es.map (·.1)=ents.toList.map (·.key))
   (hg:∀ (i:Nat) (x:Value × D),es[i]? = some x→(ents[i]?).map (·.val)=some (g i))
   (hr:∀ (i:Nat) (x:Value × D),es[i]? = some x→Rd S w x.2 (g i)) :
   Rd S w (.map es) (.map (some b))

def P5:Obj→Prop
 | .cells _ _ _=>True
 | .map _ _=>True
 |_=>False

def dE (S:Nat→Prop)(w:World)(S':Nat→Prop)(w':World):Prop :=
 ∀b,S b→(∃o,w.heap[b]? = some o∧P5 o)→S' b∧w'.heap[b]? = w.heap[b]?

theorem dE.of {S S':Nat→Prop}{w w':World}(h:∀b,S b→b<w.heap.size→S' b∧w'.heap[b]? = w.heap[b]?):dE S w S' w' :=
 fun b hb ⟨_,hc,_⟩=>h b hb (tN.1 hc).1
theorem dE.refl (S:Nat→Prop)(w:World):dE S w S w:=fun _ h _=>⟨h,rfl⟩

theorem MK {w:World}{b:Nat}{o:Obj}(h:w.heap[b]? = some o):b<w.heap.size :=
 (tN.1 h).1

theorem Rd.mono {S S':Nat→Prop}{w w':World}(hk:dE S w S' w'){x:D}{v:Value}(h:Rd S w x v):Rd S' w' x v:=by
 induction h with
 |v x=>exact .v x
 |nil a c=>exact .nil a c
 |sl g hS hb hl hc hsz hg _ ih =>
  obtain⟨h1,h2⟩:=hk _ hS ⟨_,hb,trivial⟩;exact .sl g h1 (h2.trans hb) hl hc hsz hg ih
 |bG g hS hb hg _ ih =>
  obtain⟨h1,h2⟩:=hk _ hS ⟨_,hb,trivial⟩;exact .bG g h1 (h2.trans hb) hg ih
 |map g hS hb ML hg _ ih =>
  obtain⟨h1,h2⟩:=hk _ hS ⟨_,hb,trivial⟩;exact .map g h1 (h2.trans hb) ML hg ih

inductive bB where
 |js (b:Nat)
 |nZ (sz s:Nat) (v:Value) (ob:Option Nat)
 |ext (l:Nat) (I:Nat→(Nat→Prop)→(Nat→Prop)→World→Prop) (B:Nat→Prop)
 |Ij (bs:List Nat)
 |no

def bB.bl:bB→Nat→Prop
 | .js b,c=>b=c
 | .nZ _ _ _ ob,c=>ob=some c
 | .ext _ _ B,c=>B c
 | .Ij bs,c=>c∈bs
 | .no,_=>False

mutual
def RV (S:Nat→Prop) (w:World) (φ:List bB):AV→Value→Prop
 | .any,_=>True
 | .tt,v=>v=.bool true
 | .ff,v=>v=.bool false
 | .d x,v=>Rd S w x v
 | .fs aa,v=>Rd S w (.sl aa) v∧∃a,v=.slice a aa.length aa.length
 | .agg l,v=>∃cs:List Value,v=.agg cs.toArray∧aW S w φ l cs
 | .lo i off,v=>∃b,φ[i]? = some (.js b)∧v=.pointer (some ⟨b,off,none⟩)
 | .el i t r j,v=>(∃ b o,v=.pointer (some ⟨b,o,none⟩))∧∃ ph,φ[i]? = some ph∧∀ sz s x ob,ph=.nZ sz s x ob→t≤s ∧
   (t=s→∃b o n cap,x=.slice (some ⟨b,o,none⟩) n cap∧v=.pointer (some ⟨b,o+r * sz+j,none⟩))
 | .vw i t r,v=>(∃ p n c,v=.slice p n c)∧∃ ph,φ[i]? = some ph∧∀ sz s x ob,ph=.nZ sz s x ob→t≤s ∧
   (t=s→∃a n cap p c,x=.slice a n cap∧v=.slice p (n - r) c∧(r<n→∃b o,a=some ⟨b,o,none⟩∧p=some ⟨b,o+r * sz,none⟩))
 | .ow i t,v=>(∃p n c,v=.slice p n c)∧∃ph,φ[i]? = some ph∧∀sz s x ob,ph=.nZ sz s x ob→t≤s∧(t=s→v=x)
 | .mp i,v=>∃b,φ[i]? = some (.js b)∧v=.map (some b)
 | .cH l,v=>∃vs:List Value,v=.tuple vs.toArray∧aW S w φ l vs
 | .bU f a c,v=>∃va vc:List Value,v=.func (.func f) va.toArray vc.toArray∧aW S w φ a va∧aW S w φ c vc
 | .yl i,v=>∃l I B,φ[i]? = some (.ext l I B)∧v=.func (.yield l) #[] #[]
def aW (S:Nat→Prop) (w:World) (φ:List bB):List AV→List Value→Prop
 |[],[]=>True
 |a::l,v::vs=>RV S w φ a v∧aW S w φ l vs
 |_,_=>False
end

def SA (p p':bB):Prop :=
 p'=p∨(∃sz s x ob Jj s' x' oT,p=.nZ sz s x ob∧p'=.nZ Jj s' x' oT∧s<s')∨(∃sz s x ob,p=.nZ sz s x ob∧p'=.no)∨(∃l I B B',p=.ext l I B∧p'=.ext l I B')∨(∃bs bs',p=.Ij bs∧p'=.Ij bs')
def jZ (φ φ':List bB):Prop:=∀ (i:Nat) (p:bB),φ[i]? = some p→∃p',φ'[i]? = some p'∧SA p p'

theorem SA.trans {p q r:bB}(h:SA p q)(k:SA q r):SA p r:=by
 rcases h with rfl |⟨sz,s,x,ob,Jj,s',x',oT,rfl,rfl,h⟩ |⟨sz,s,x,ob,rfl,rfl⟩ |⟨l,I,B,B',rfl,rfl⟩ |⟨bs,bs',rfl,rfl⟩
 ·exact k
 ·rcases k with rfl | ⟨Ip,s2,x2,Gk,sz3,s3,x3,ob3,e1,rfl,h2⟩ | ⟨Ip,s2,x2,Gk,e1,rfl⟩ | ⟨l,I,B,B',e1,_⟩ | ⟨bs,bs',e1,_⟩
  ·exact .inr (.inl ⟨_,_,_,_,_,_,_,_,rfl,rfl,h⟩)
  ·cases e1;exact .inr (.inl ⟨_,_,_,_,_,_,_,_,rfl,rfl,Nat.lt_trans h h2⟩)
  ·exact .inr (.inr (.inl ⟨_,_,_,_,rfl,rfl⟩))
  ·cases e1
  ·cases e1
 ·rcases k with rfl | ⟨Ip,s2,x2,Gk,sz3,s3,x3,ob3,e1,_,_⟩ | ⟨Ip,s2,x2,Gk,e1,_⟩ | ⟨l,I,B,B',e1,_⟩ | ⟨bs,bs',e1,_⟩
  ·exact .inr (.inr (.inl ⟨_,_,_,_,rfl,rfl⟩))
  ·cases e1
  ·cases e1
  ·cases e1
  ·cases e1
 ·rcases k with rfl | ⟨Ip,s2,x2,Gk,sz3,s3,x3,ob3,e1,_,_⟩ | ⟨Ip,s2,x2,Gk,e1,_⟩ | ⟨l2,I2,B2,B3,e1,rfl⟩ | ⟨bs,bs',e1,_⟩
  ·exact .inr (.inr (.inr (.inl ⟨_,_,_,_,rfl,rfl⟩)))
  ·cases e1
  ·cases e1
  ·cases e1;exact .inr (.inr (.inr (.inl ⟨_,_,_,_,rfl,rfl⟩)))
  ·cases e1
 ·rcases k with rfl | ⟨Ip,s2,x2,Gk,sz3,s3,x3,ob3,e1,_,_⟩ | ⟨Ip,s2,x2,Gk,e1,_⟩ | ⟨l2,I2,B2,B3,e1,rfl⟩ | ⟨bs2,bs3,e1,rfl⟩
  ·exact .inr (.inr (.inr (.inr ⟨_,_,rfl,rfl⟩)))
  ·cases e1
  ·cases e1
  ·cases e1
  ·exact .inr (.inr (.inr (.inr ⟨_,_,rfl,rfl⟩)))

theorem jZ.trans {φ ψ χ:List bB}(h:jZ φ ψ)(k:jZ ψ χ):jZ φ χ:=fun i p hi =>
 let ⟨_,h1,h2⟩:=h i p hi
 let ⟨r,h3,h4⟩:=k i _ h1
 ⟨r,h3,h2.trans h4⟩
theorem jZ.refl (φ:List bB):jZ φ φ:=fun _ p h=>⟨p,h,.inl rfl⟩

theorem jZ.app (φ ψ:List bB):jZ φ (φ++ψ):=fun i p h=>⟨p,by
 grind,.inl rfl⟩
section
variable {S S':Nat→Prop} {w w':World} {φ φ':List bB}

mutual
theorem RV.mono (hk:dE S w S' w')(hp:jZ φ φ'):∀ {x:AV} {v:Value},RV S w φ x v→RV S' w' φ' x v
 | .any,_,_=>by simp[RV]
 | .tt,_,h=>by simpa[RV]using h
 | .ff,_,h=>by simpa[RV]using h
 | .d x,v,h=>by simp only[RV]at h ⊢;exact h.mono hk
 | .fs aa,v,h=>by simp only[RV]at h ⊢;exact⟨h.1.mono hk,h.2⟩
 | .agg l,v,h=>by
  simp only[RV]at h ⊢;obtain⟨cs,h1,h2⟩:=h;exact⟨cs,h1,aW.mono hk hp h2⟩
 | .lo i off,v,h=>by
  simp only[RV]at h ⊢;exact akj
 | .el i t r j,v,h=>by
  simp only[RV]at h ⊢;exact mB7
 | .vw i t r,v,h=>by
  simp only[RV]at h ⊢;exact mB7
 | .ow i t,v,h=>by
  simp only[RV]at h ⊢;exact mB7
 | .mp i,v,h=>by
  simp only[RV]at h ⊢;exact akj
 | .cH l,v,h=>by
  simp only[RV]at h ⊢;obtain⟨cs,h1,h2⟩:=h;exact⟨cs,h1,aW.mono hk hp h2⟩
 | .bU f a c,v,h=>by
  simp only[RV]at h ⊢;obtain⟨va,vc,h1,h2,h3⟩:=h;exact⟨va,vc,h1,aW.mono hk hp h2,aW.mono hk hp h3⟩
 | .yl i,v,h=>by
  simp only[RV]at h ⊢;obtain⟨l,I,B,h1,h2⟩:=h;obtain⟨p',h3,h4⟩:=hp _ _ h1;rcases h4 with rfl |⟨sz,s,x,ob,Jj,s',x',oT,h5,_⟩ |⟨sz,s,x,ob,h5,_⟩ |⟨l0,I0,B0,B0',h5,h6⟩ |⟨bs0,akc,h5,_⟩
  ·simp_all
  ·cases h5
  ·cases h5
  ·simp_all
  ·cases h5
theorem aW.mono (hk:dE S w S' w')(hp:jZ φ φ'):∀ {l:List AV} {vs:List Value},aW S w φ l vs→aW S' w' φ' l vs
 |[],[],_=>by simp[aW]
 |[],_::_,h=>by simp[aW]at h
 |_::_,[],h=>by simp[aW]at h
 |a::l,v::vs,h=>by
  simp only[aW]at h ⊢;exact⟨RV.mono hk hp h.1,aW.mono hk hp h.2⟩
end
end
section
variable {S:Nat→Prop} {w:World} {φ:List bB}

theorem aW.length:∀ {l:List AV} {vs:List Value},aW S w φ l vs→l.length=vs.length
 |[],[],_=>rfl
 |[],_::_,h=>by simp[aW]at h
 |_::_,[],h=>by simp[aW]at h
 |_::_,_::_,h=>by simp only[aW]at h;simp[h.2.length]

theorem aW.get:∀ {l:List AV} {vs:List Value} (i:Nat) {x:AV},aW S w φ l vs→l[i]? = some x→∃v,vs[i]? = some v∧RV S w φ x v
 |[],[],_,_,_,h=>by simp at h
 |[],_::_,_,_,h,_=>by simp[aW]at h
 |_::_,[],_,_,h,_=>by simp[aW]at h
 |a::l,v::vs,0,x,h,hx=>by
  simp only[aW]at h;simp_all
 |a::l,v::vs,i+1,x,h,hx=>by
  simp only[aW]at h;simp at hx;simpa using h.2.get i hx

theorem aW.append:∀ {l l':List AV} {vs vs':List Value},aW S w φ l vs→aW S w φ l' vs'→aW S w φ (l++l') (vs++vs')
 |[],_,[],_,_,h=>by simpa using h
 |[],_,_::_,_,h,_=>by simp[aW]at h
 |_::_,_,[],_,h,_=>by simp[aW]at h
 |a::l,_,v::vs,_,h,h'=>by
  simp only[aW,jj]at h ⊢;exact⟨h.1,h.2.append h'⟩

theorem aW.drop:∀ {l:List AV} {vs:List Value} (n:Nat),aW S w φ l vs→aW S w φ (l.drop n) (vs.drop n)
 |l,vs,0,h=>by simpa using h
 |[],[],n+1,_=>by simp[aW]
 |[],_::_,_,h=>by simp[aW]at h
 |_::_,[],_,h=>by simp[aW]at h
 |_::l,_::vs,n+1,h=>by simp only[aW]at h;simpa using h.2.drop n

theorem aW.take:∀ {l:List AV} {vs:List Value} (n:Nat),aW S w φ l vs→aW S w φ (l.take n) (vs.take n)
 |l,vs,0,_=>by simp[aW]
 |[],[],n+1,_=>by simp[aW]
 |[],_::_,_,h=>by simp[aW]at h
 |_::_,[],_,h=>by simp[aW]at h
 |_::l,_::vs,n+1,h=>by simp only[aW]at h;simp only[ago,aW];exact⟨h.1,h.2.take n⟩

theorem aW.rG:∀ {l:List AV} {vs:List Value},l.length=vs.length→(∀ (i:Nat) (x:AV) (v:Value),l[i]? = some x→vs[i]? = some v→RV S w φ x v)→aW S w φ l vs
 |[],[],_,_=>by simp[aW]
 |[],_::_,h,_=>by simp at h
 |_::_,[],h,_=>by simp at h
 |a::l,v::vs,h,hg=>by
  simp only[aW];refine⟨hg 0 a v rfl rfl,aW.rG l6 fun i x v hx hv=>hg (i+1) x v (by simpa using hx) PS⟩

theorem aW.map {α:Type}(f:α→AV)(g:α→Value):∀ (l:List α),(∀x∈l,RV S w φ (f x) (g x))→aW S w φ (l.map f) (l.map g)
 |[],_=>by simp[aW]
 |x::l,h=>by
  simp only[List.map_cons,aW];exact⟨h x aC,aW.map f g l fun y hy=>h y kb⟩
end
end aw
namespace aw
open Go Go.RowKit

variable{φ:List bB}{S0:Nat→Prop}{w w':World}{p:bB}{objs:List Ob}{b:Nat}{o:Obj}
def mT (S:Nat→Prop)(w:World)(φ:List bB)(es:List (Value × AV))(ents:List MapEntry):Prop :=
 es.map (·.1)=ents.map (·.key)∧aW S w φ (es.map (·.2)) (ents.map (·.val))

def akS (I:Nat→(Nat→Prop)→(Nat→Prop)→World→Prop):Prop :=
 ∀n B R R' w w',w.heap.size≤w'.heap.size→(∀b,B b→w'.heap[b]? = w.heap[b]?)→dE R w R' w'→I n B R w→I n B R' w'

def bd (S:Nat→Prop) (w:World) (φ:List bB):bB→Ob→Prop
 | .js b,.box l=>∃ (cs:List Value) (T:Nat),w.heap[b]? = some (.cells cs.toArray T (0,0))∧aW S w φ l cs
 | .js b,.map es=>∃ (ents:Array MapEntry) (iY:Nat),w.heap[b]? = some (.map ents iY)∧mT S w φ es ents.toList
 | .nZ sz s v ob,.arr Jj s' aa=>Jj=sz∧s'=s∧(∀ r∈aa,r.length=sz) ∧
   ((∃ a,v=.slice a 0 0∧aa=[]∧ob=none) ∨
     (∃ (b o cap:Nat) (cs:List Value) (T:Nat),v=.slice (some ⟨b,o,none⟩) aa.length cap∧ob=some b∧w.heap[b]? = some (.cells cs.toArray T (0,0)) ∧
     aa.length≤cap∧cap≤maxLen∧o+cap * sz≤cs.length ∧
     ∀ (i:Nat) (r:List D) (j:Nat) (x:D),aa[i]? = some r→r[j]? = some x→∃y,cs[o+i * sz+j]? = some y∧Rd S w x y))
 | .js b,.gM T l=>∃cs:List Value,w.heap[b]? = some (.cells cs.toArray T (0,0))∧aW S w φ l cs
 | .nZ sz s v ob,.qe e s' bs=>sz=1∧s'=s∧ob=v.ownBlock∧w.ownsRow 0 e 1 v bs.length (bs.map fun x=>Value.int .u8 x.toNat)
 | .js b,.Ik s pos=>w.heap[b]? = some (.stringIter s pos)
 | .ext _ I B,.Ii n=>akS I∧I n B S w
 | .Ij bs,.Ij hs aa=>bs=hs.map (·.1)∧bs.Nodup∧aa.length=hs.length∧∀ (i:Nat) (x:Nat × Nat × Nat) (r:List D),hs[i]? = some x→aa[i]? = some r →
   ∃ (cs:List Value) (T:Nat),w.heap[x.1]? = some (.cells cs.toArray T (0,0))∧r.length≤x.2.2∧x.2.2≤maxLen∧x.2.1+r.length≤cs.length∧∀ (j:Nat) (d:D),r[j]? = some d→∃y,cs[x.2.1+j]? = some y∧Rd S w d y
 | .js b,.tI es=>∃ (ents:Array MapEntry) (iY:Nat) (Ds:List (Value × AV)),Ds.Perm es∧w.heap[b]? = some (.map ents iY)∧mT S w φ Ds ents.toList
 |_,.dead=>True
 |_,_=>False

theorem Gm{e sz n:Nat}{v:Value}{xs:List Value}(h:w.ownsRow 0 e sz v n xs)(hb:∀b,v.ownBlock=some b→w'.heap[b]? = w.heap[b]?):w'.ownsRow 0 e sz v n xs:=by
 refine⟨h.1,?_⟩;rcases h.2 with hn |⟨g,cap,cur,rfl,hbb,hgg,ax⟩
 ·exact .inl hn
 ·exact .inr ⟨g,cap,cur,rfl,hbb,(hb g rfl).trans hgg,ax⟩

theorem bd.mono{S S':Nat→Prop}{w w':World}{φ φ':List bB}(hk:dE S w S' w')(hp:jZ φ φ'){ph:bB}{ob:Ob}(hsz:w.heap.size≤w'.heap.size)
  (hb:∀b,ph.bl b→w'.heap[b]? = w.heap[b]?) (h:bd S w φ ph ob):bd S' w' φ' ph ob:=by
 cases ph<;>cases ob<;>simp only[bd]at h ⊢
 ·obtain ⟨cs,T,h1,h2⟩:=h;exact⟨cs,T,(hb _ rfl).trans h1,h2.mono hk hp⟩
 ·obtain ⟨cs,T,h1,h2,h3⟩:=h;exact⟨cs,T,(hb _ rfl).trans h1,h2,h3.mono hk hp⟩
 ·exact(hb _ rfl).trans h
 ·obtain ⟨cs,h1,h2⟩:=h;exact⟨cs,(hb _ rfl).trans h1,h2.mono hk hp⟩
 ·obtain ⟨cs,T,Ds,h0,h1,h2,h3⟩:=h;exact⟨cs,T,Ds,h0,(hb _ rfl).trans h1,h2,h3.mono hk hp⟩
 ·obtain ⟨h0,Me,h1,h2⟩:=h;refine⟨h0,Me,h1,?_⟩;rcases h2 with h2 |⟨b,o,cap,cs,T,h2,h3,h4,h5,h6,h7,h8⟩
  ·exact .inl h2
  ·refine .inr ⟨b,o,cap,cs,T,h2,h3,(hb _ h3).trans h4,h5,h6,h7,fun i r j x hi hj=>?_⟩;obtain⟨y,h9,mm⟩:=h8 i r j x hi hj;exact⟨y,h9,mm.mono hk⟩
 ·obtain ⟨h1,h2,h3,h4⟩:=h;exact⟨h1,h2,h3,Gm h4 fun b hbb=>hb _ (by rw[h3];exact hbb)⟩
 ·exact⟨h.1,h.1 _ _ _ _ _ _ hsz (fun b hB=>hb b hB) hk h.2⟩
 ·obtain ⟨h0,Me,h1,h2⟩:=h;refine⟨h0,Me,h1,fun i x r hi hr=>?_⟩;obtain⟨cs,T,h3,h4,h5,h6,h7⟩:=h2 i x r hi hr;refine⟨cs,T,(hb _ (show x.1∈_ from h0 ▸ fA.2 ⟨x,gZ hi,rfl⟩)).trans h3,h4,h5,h6,fun j d hd=>?_⟩;obtain⟨y,h8,h9⟩:=h7 j d hd;exact⟨y,h8,h9.mono hk⟩
def eD (φ:List bB)(b:Nat):Prop:=∃ (i:Nat) (ph:bB),φ[i]? = some ph∧ph.bl b
def abk (φ:List bB):Prop:=∀ (i j:Nat) (p q:bB) (b:Nat),φ[i]? = some p→φ[j]? = some q→p.bl b→q.bl b→i=j
def SS (S0:Nat→Prop)(φ:List bB)(b:Nat):Prop:=S0 b∧¬ eD φ b

structure HS (S0:Nat→Prop) (φ:List bB) (objs:List Ob) (w:World):Prop where
 len:φ.length=objs.length
 ok:∀ (i:Nat) (ph:bB) (ob:Ob),φ[i]? = some ph→objs[i]? = some ob→bd (SS S0 φ) w φ ph ob
 jA:abk φ
 lt:∀b,eD φ b→b<w.heap.size
 up:∀b,w.heap.size≤b→S0 b

theorem sU:eD (φ++[p]) b↔eD φ b∨p.bl b:=by
 constructor
 ·rintro ⟨i,q,h1,h2⟩;rcases oy i φ.length with hi |hi
  ·rw[jx hi]at h1;exact .inl ⟨i,q,h1,h2⟩
  grind
 ·rintro (⟨i,q,h1,h2⟩ | h)
  ·exact⟨i,q,by grind,h2⟩
  ·exact⟨φ.length,p,by simp,h⟩
theorem fD(h:b<w.heap.size):(w.alloc o).heap[b]? = w.heap[b]? := Below.heap_alloc w o b h
theorem heap_alloc_new(w:World)(o:Obj):(w.alloc o).heap[w.heap.size]? = some o:=by show (w.heap.push o)[w.heap.size]? = some o;simp
theorem mU(S:Nat→Prop)(w:World)(o:Obj):dE S w S (w.alloc o):=.of fun _ h hb=>⟨h,fD hb⟩

theorem HS.alloc{S0:Nat→Prop}{φ:List bB}{objs:List Ob}{w:World}(h:HS S0 φ objs w)(o:Obj):HS S0 φ objs (w.alloc o) where
 len:=h.len
 ok i ph ob h1 h2:=(h.ok i ph ob h1 h2).mono (mU _ _ _) (.refl _) aC fun b hb=>fD (h.lt b ⟨i,ph,h1,hb⟩)
 jA:=h.jA
 lt b hb:=by have:=h.lt b hb;simp;omega
 up b hb:=h.up b (by simp at hb;omega)

theorem HS.later(h:HS S0 φ objs w)(hs:w.heap.size≤w'.heap.size)
  (hk:∀b,b<w.heap.size→w'.heap[b]? = w.heap[b]?):HS S0 φ objs w' where
 len:=h.len
 ok i ph ob h1 h2:=(h.ok i ph ob h1 h2).mono (.of fun b hb hl=>⟨hb,hk b hl⟩) (.refl _) hs fun b hb=>hk b (h.lt b ⟨i,ph,h1,hb⟩)
 jA:=h.jA
 lt b hb:=by have:=h.lt b hb;omega
 up b hb:=h.up b an

theorem rI(hp:∀b,p.bl b→b=w.heap.size) :
  dE (SS S0 φ) w (SS S0 (φ++[p])) (w.alloc o):=.of fun b h hb=>⟨⟨h.1,fun hc=>by
   rcases sU.1 hc with hc |hc
   ·exact h.2 hc
   grind⟩,fD hb⟩

theorem Jn(h:abk φ)(hp:∀b,p.bl b→¬ eD φ b):abk (φ++[p]):=by
 have key:∀ (i:Nat) (q:bB),(φ++[p])[i]? = some q→(φ[i]? = some q)∨(i=φ.length∧q=p):=by
  grind
 intro i j q r b h1 h2 h3 h4;rcases key i q h1 with g1 |⟨g1,g1'⟩<;>rcases key j r h2 with g2 |⟨g2,g2'⟩
 ·exact h i j q r b g1 g2 h3 h4
 ·subst g2';exact absurd ⟨i,q,g1,h3⟩ (hp b h4)
 ·subst g1';exact absurd ⟨j,r,g2,h4⟩ (hp b h3)
 ·omega

theorem HS.new(h:HS S0 φ objs w){ob:Ob}
  (hp:∀b,p.bl b→b=w.heap.size)
  (dw:bd (SS S0 (φ++[p])) (w.alloc o) (φ++[p]) p ob):HS S0 (φ++[p]) (objs++[ob]) (w.alloc o) where
 len:=by simp[h.len]
 ok i ph oT h1 h2:=by
  rcases oy i φ.length with hi |hi
  ·rw [jx hi] at h1;rw[jx aaU]at h2;exact(h.ok i ph oT h1 h2).mono (rI hp) (.app _ _) aC fun b hb=>fD (h.lt b ⟨i,ph,h1,hb⟩)
  ·rw [kR hi] at h1;rw[kR aaU]at h2
   grind
 jA:=Jn h.jA fun b hb hc=>by have:=h.lt b hc;grind
 lt b hb:=by
  rcases sU.1 hb with hb |hb
  ·have:=h.lt b hb;simp;omega
  ·have:=hp b hb;simp;omega
 up b hb:=h.up b (by simp at hb;omega)

theorem bu{α:Type}:∀ (l:List α) (i:Nat),dk l i=l[i]?
 |[],_=>by simp[dk]
 |x::l,0=>by simp[dk]
 |x::l,i+1=>by simp only[dk,Nat.beq,cond_false,Nat.pred,bu l i,Sp]

theorem bq{α:Type}:∀ (l:List α) (i:Nat) (y:α),da l i y=l.set i y
 |[],_,_=>by simp[da]
 |x::l,0,y=>by simp[da]
 |x::l,i+1,y=>by simp only[da,Nat.beq,cond_false,Nat.pred,bq l i y,V5]

theorem bj{α:Type}:∀ (l:List α),len l=l.length
 |[]=>rfl
 |_::l=>by simp[len,bj l]

theorem HS.bO(h:HS S0 φ objs w){i b:Nat}{ob:Ob}
  (hi:φ[i]? = some p) (hb:p.bl b) (hs:w'.heap.size=w.heap.size) (hk:∀c,c≠b→w'.heap[c]? = w.heap[c]?)
  (dw:bd (SS S0 φ) w' φ p ob):HS S0 φ (objs.set i ob) w' where
 len:=by simp[h.len]
 ok j ph oT h1 h2:=by
  by_cases hj:i=j
  ·grind
  ·rw [q6 hj] at h2;refine(h.ok j ph oT h1 h2).mono (fun c hc _=>⟨hc,hk c fun e=>hc.2 ⟨i,p,hi,by simp_all⟩⟩) (.refl _) an fun c hc=>hk c fun e=>?_
   exact hj (h.jA i j p ph b hi h1 hb (e ▸ hc))
 jA:=h.jA
 lt c hc:=by rw[hs];exact h.lt c hc
 up c hc:=h.up c an

theorem sV{i b:Nat}
  (hi:φ[i]? = some p) (hb:p.bl b) (hk:∀c,c≠b→w'.heap[c]? = w.heap[c]?):dE (SS S0 φ) w (SS S0 φ) w' :=
 fun c hc _=>⟨hc,hk c fun e=>hc.2 ⟨i,p,hi,by simp_all⟩⟩
end aw
namespace aw
open Go Go.RowKit

variable{fr:Nat × Nat}
def bA (P:Program) (t:Nat):Sh→Prop
 | .one=>∃d,P.underlying t=some d∧(∀fs,d≠.struct fs)∧(∀n e,d≠.array n e)
 | .int k=>P.underlying t=some (.int k)
 | .bool=>P.underlying t=some .bool
 | .str=>P.underlying t=some .string
 | .struct jz=>∃ fs:Array Field,P.underlying t=some (.struct fs)∧fs.toList.map (fun f=>(f.offset,f.type))=jz ∧
   ∀f∈fs.toList,∃i,P.info? f.type=some i∧i.size≠0
 | .array n e=>P.underlying t=some (.array n e)
 | .slice e=>P.underlying t=some (.slice e)
 | .map k e=>P.underlying t=some (.map k e)

structure kz (P:Program) (t:Nat) (τ:Ty):Prop where
 info:∃i z,P.info? t=some i∧i.zero=some z∧i.size=τ.size∧i.bytes=τ.bytes∧z.cells.toList=τ.zero
 zl:τ.zero.length=τ.size
 sh:bA P t τ.sh
 one:τ.agg=false→τ.size=1
 z1:∀v∈τ.zero,v.oneCell'=true
def jk (P:Program)(ty:Nat→Option Ty):Prop:=∀t τ,ty t=some τ→kz P t τ
section
variable {P:Program} {t:Nat} {τ:Ty} (h:kz P t τ) (w:World)
include h

theorem kz.und:∃d,P.underlying t=some d∧(τ.agg=true↔(∃fs,d=.struct fs)∨(∃n e,d=.array n e)):=by
 have hs:=h.sh;unfold Ty.agg;cases hh:τ.sh<;>rw[hh]at hs<;>simp only[bA]at hs
 ·obtain ⟨d,h1,h2,h3⟩:=hs;exact⟨d,h1,by simp;exact⟨h2,h3⟩⟩
 all_goals first
  |exact⟨_,hs,by simp⟩
  |(obtain⟨fs,h1,_⟩:=hs;exact⟨_,h1,by simp⟩)

theorem xR:(isAgg t).run P w=.ok τ.agg w:=by
 obtain⟨d,h1,h2⟩:=h.und;simp only[isAgg,underlying];simp[h1];cases d<;>simp at h2 ⊢<;>simp[h2]

theorem run_sizeOf:(Go.sizeOf t).run P w=.ok τ.size w:=by
 obtain⟨i,z,h1,_,h3,_⟩:=h.info;simp[Go.sizeOf,typeInfo,h1,h3]

theorem iq:∃z,(zeroValue t).run P w=.ok z w∧z.cells.toList=τ.zero:=by
 obtain⟨i,z,h1,h2,h3,_,h5⟩:=h.info;exact⟨z,by simp[zeroValue,typeInfo,h1,h2],h5⟩
end
section
variable {P:Program} {w:World} {b T:Nat} {cs:List Value}

theorem cell_of(hb:w.heap[b]? = some (.cells cs.toArray T fr))(o:Nat):w.cell? ⟨b,o,none⟩=cs[o]? := by
 simp[World.cell?,hb]

theorem fK(b o n:Nat):(⟨b,o,none⟩:Addr).add n=⟨b,o+n,none⟩:=by
 unfold Addr.add;simp_all

theorem run_loadCellsFrom{fr:Nat × Nat}(hb:w.heap[b]? = some (.cells cs.toArray T fr))(o:Nat):∀ (n i:Nat) (acc:Array Value),o+i+n≤cs.length →
  (loadCellsFrom ⟨b,o,none⟩ i n acc).run P w=.ok (acc++((cs.drop (o+i)).take n).toArray) w
 |0,i,acc,_=>by simp[loadCellsFrom]
 |n+1,i,acc,h=>by
  have fu:o+i<cs.length:=by omega
  have hc:w.cell? ⟨b,o+i,none⟩=some cs[o+i]:=by rw[cell_of hb];exact dY fu
  simp only[loadCellsFrom,fK,Sem.run_bind,run_load,hc,Result.andThen_ok];rw[run_loadCellsFrom hb o n (i+1) _ an]
  have:(cs.drop (o+i)).take (n+1)=cs[o+i]::(cs.drop (o+(i+1))).take n:=by
   rw[List.drop_eq_getElem_cons fu,ago,Nat.add_assoc]
  simp_all

theorem run_loadCells(hb:w.heap[b]? = some (.cells cs.toArray T fr))(o n:Nat)(h:o+n≤cs.length) :
  (loadCells ⟨b,o,none⟩ n).run P w=.ok ((cs.drop o).take n).toArray w:=by
 rw[loadCells,run_loadCellsFrom hb o n 0 #[] an];simp

def pack (τ:Ty)(l:List Value):Value:=if τ.agg then .agg l.toArray else l.headD undef

theorem rH{t:Nat}{τ:Ty}(hτ:kz P t τ)(hb:w.heap[b]? = some (.cells cs.toArray T fr))(o:Nat)(h:o+τ.size≤cs.length) :
  (loadVar t ⟨b,o,none⟩).run P w=.ok (pack τ ((cs.drop o).take τ.size)) w:=by
 unfold loadVar pack;rw[Sem.run_bind,xR hτ];simp only[Result.andThen_ok];cases ha:τ.agg
 ·have h1:=hτ.one ha;have hc:w.cell? ⟨b,o,none⟩=some (cs[o]' an):=by rw[cell_of hb];simp_all
  simp only[lL,if_false,run_load,hc,h1];rw[List.drop_eq_getElem_cons (by omega:o<cs.length)];rfl
 ·simp only[if_true,Sem.run_bind,run_sizeOf hτ,Result.andThen_ok,run_loadCells hb o τ.size h,Sem.run_pure]

def dx:List Value→Nat→List Value→List Value
 |l,_,[]=>l
 |l,off,x::r=>dx (l.set off x) (off+1) r

theorem lA:∀ (new l:List Value) (off:Nat),(dx l off new).length=l.length
 |[],_,_=>rfl
 |x::r,l,off=>by simp[dx,lA r]

theorem vV(hb:w.heap[b]? = some (.cells cs.toArray T fr))(o:Nat)(v:Value) :
  (w.setCell ⟨b,o,none⟩ v).heap[b]? = some (.cells (cs.set o v).toArray T fr):=by
 simp[World.setCell,Array.getElem?_modify,hb,Array.setIfInBounds];intro h;rw[List.set_eq_of_length_le h]

structure MM (w w':World) (b T:Nat) (cs:List Value):Prop where
 at_:w'.heap[b]? = some (.cells cs.toArray T (0,0))
 size:w'.heap.size=w.heap.size
 os:w'.os=w.os
 tape:w'.tape=w.tape
 out:w'.output=w.output
 other:∀c,c≠b→w'.heap[c]? = w.heap[c]?

theorem mV:∀ (vs:List Value) (i o:Nat) (w:World) (cs:List Value),w.heap[b]? = some (.cells cs.toArray T (0,0))→(∀v∈vs,v.oneCell'=true)→o+i+vs.length≤cs.length →
  ∃w',(storeCells ⟨b,o,none⟩ vs i).run P w=.ok () w'∧MM w w' b T (dx cs (o+i) vs)
 |[],i,o,w,cs,hb,_,h=>⟨w,by simp[storeCells],by simpa[dx]using hb,rfl,rfl,rfl,rfl,fun _ _=>rfl⟩
 |v::vs,i,o,w,cs,hb,hv,h=>by
  simp only[dv]at h;have hc:w.cell? ⟨b,o+i,none⟩=some (cs[o+i]' an):=by rw[cell_of hb];simp_all
  have hf:w.frozen? ⟨b,o+i,none⟩=false:=by simp[World.frozen?,hb]
  obtain⟨w',h1,h2⟩:=mV vs (i+1) o (w.setCell ⟨b,o+i,none⟩ v) (cs.set (o+i) v) (vV hb _ _) (fun x hx=>hv x tM) zw;refine⟨w',?_,?_⟩
  ·simp only [storeCells,fK,Sem.run_bind,run_store P w _ _ _ (hv v aC),hc,hf,lL,if_false,Result.andThen_ok];exact h1
  ·have hsp:dx (cs.set (o+i) v) (o+(i+1)) vs=dx cs (o+i) (v::vs):=by
    rw[dx,Nat.add_assoc]
   rw[hsp]at h2;exact⟨h2.at_,by rw[h2.size];simp,h2.os,h2.tape,h2.out,fun c hc=>(h2.other c hc).trans (Below.heap_setCell _ _ _ _ hc)⟩

theorem my{t:Nat}{τ:Ty}(hτ:kz P t τ)(o:Nat)(hb:w.heap[b]? = some (.cells cs.toArray T (0,0))){v:Value}{vs:List Value}
  (hv:v.cells.toList=vs) (h1:∀x∈vs,x.oneCell'=true) (hl:vs.length=τ.size) (h:o+τ.size≤cs.length) :
  ∃w',(storeVar t ⟨b,o,none⟩ v).run P w=.ok () w'∧MM w w' b T (dx cs o vs):=by
 subst hv;obtain⟨w',h2,h3⟩:=mV (P:=P) v.cells.toList 0 o w cs hb h1 an;refine⟨w',?_,by simpa using h3⟩;have hsz:v.cells.size=τ.size:=by simpa using hl
 simp only[storeVar,Sem.run_bind,run_sizeOf hτ,Result.andThen_ok,hsz,ne_eq,not_true_eq_false,if_false];exact h2
end
end aw
namespace aw
open Go Go.RowKit

variable{S:Nat→Prop}{l:List AV}{x:Operand}{T off t:Nat}{v:AV}{τ:Ty}
theorem SB{α:Type}{c:Bool}{x y:α}(h:(bif c then some x else none)=some y):c=true∧x=y:=by
 grind

theorem AP{α:Type}{c:Bool}{x:Option α}{y:α}(h:(bif c then x else none)=some y):c=true∧x=some y:=by
 grind
theorem cp{a b:Nat}(h:Nat.beq a b=true):a=b:=Nat.eq_of_beq_eq_true h

structure jJ (S0:Nat→Prop) (φ:List bB) (w:World) (φ':List bB) (objs':List Ob) (w':World):Prop where
 hs:HS S0 φ' objs' w'
 iS:dE (SS S0 φ) w (SS S0 φ') w'
 le:jZ φ φ'
 size:w.heap.size≤w'.heap.size
 os:w'.os=w.os
 tape:w'.tape=w.tape
 out:w'.output=w.output
 fr:∀b,b<w.heap.size→¬ eD φ b→w'.heap[b]? = w.heap[b]?
 own:∀b,eD φ' b→eD φ b∨w.heap.size≤b
 ext:∀ (i l:Nat) (I:Nat→(Nat→Prop)→(Nat→Prop)→World→Prop) (B:Nat→Prop),φ'[i]? = some (.ext l I B)→∃B0,φ[i]? = some (.ext l I B0)

theorem jJ.refl{S0:Nat→Prop}{φ:List bB}{objs:List Ob}{w:World}(h:HS S0 φ objs w):jJ S0 φ w φ objs w :=
 ⟨h,.refl _ _,.refl _,ef _,rfl,rfl,rfl,fun _ _ _=>rfl,fun _ h=>.inl h,fun _ _ _ B h=>⟨B,h⟩⟩

theorem jJ.alloc{S0:Nat→Prop}{φ:List bB}{objs:List Ob}{w:World}(h:HS S0 φ objs w)(o:Obj):jJ S0 φ w φ objs (w.alloc o) :=
 ⟨h.alloc o,mU _ _ _,.refl _,by simp,rfl,rfl,rfl,fun _ hb _=>fD hb,fun _ h=>.inl h,fun _ _ _ B h=>⟨B,h⟩⟩

theorem P6{φ:List bB}{p:bB}(hx:∀l I B,p≠bB.ext l I B){i l:Nat}{I:Nat→(Nat→Prop)→(Nat→Prop)→World→Prop}{B:Nat→Prop}(h:(φ++[p])[i]? = some (.ext l I B)):φ[i]? = some (.ext l I B):=by
 grind

theorem jJ.new{S0:Nat→Prop}{φ:List bB}{objs:List Ob}{w:World}(h:HS S0 φ objs w){p:bB}{ob:Ob}{o:Obj}
  (hp:∀b,p.bl b→b=w.heap.size) (dw:bd (SS S0 (φ++[p])) (w.alloc o) (φ++[p]) p ob) (hx:∀l I B,p≠bB.ext l I B:=by intro _ _ _ h;cases h) :
  jJ S0 φ w (φ++[p]) (objs++[ob]) (w.alloc o) :=
 ⟨h.new hp dw,rI hp,.app _ _,by simp,rfl,rfl,rfl,fun _ hb _=>fD hb,fun b hb=>by
  rcases sU.1 hb with hb |hb
  ·exact .inl hb
  grind,fun _ _ _ B h=>⟨B,P6 hx h⟩⟩

def Out (P:Program)(s:Sem Next)(S0:Nat→Prop)(φ:List bB)(w:World)(v:AV)(objs':List Ob):Prop :=
 ∃ (n:Next) (vv:Value) (w':World) (φ':List bB),s.run P w=.ok n w'∧(n=.value vv∨(n=.skip∧vv=undef))∧RV (SS S0 φ') w' φ' v vv∧jJ S0 φ w φ' objs' w'
section
variable {P:Program} {ty:Nat→Option Ty} (fY:jk P ty) {S0:Nat→Prop} {φ:List bB} {objs:List Ob} {w:World} (hs:HS S0 φ objs w)

theorem AW{x:AV}{v:Value}(h:RV S w φ x v)(h1:p7 x=true):v.oneCell'=true∧v.cells=#[v]:=by
 have key:∀v:Value,v.oneCell'=true→v.cells=#[v]:=by intro v hv;cases v<;>simp[Value.oneCell',Value.cells]at *
 suffices hv:v.oneCell'=true from⟨hv,key v hv⟩
 cases x<;>simp only[RV]at h<;>simp only[p7]at h1
 case any=>cases h1
 case tt=>subst h;rfl
 case ff=>subst h;rfl
 case d x =>
  cases h with
  |v=>cases v<;>simp_all[Value.oneCell']
  |nil=>rfl
  |sl=>rfl
  |bG=>rfl
  |map=>rfl
 case fs aa=>obtain⟨_,a,rfl⟩:=h;rfl
 case agg l=>cases h1
 case lo i off=>obtain⟨b,_,rfl⟩:=h;rfl
 case el i s r j=>obtain⟨⟨b,o,rfl⟩,_⟩:=h;rfl
 case ow i s=>obtain⟨⟨p,n,c,rfl⟩,_⟩:=h;rfl
 case vw i s r=>obtain⟨⟨p,n,c,rfl⟩,_⟩:=h;rfl
 case mp i=>obtain⟨b,_,rfl⟩:=h;rfl
 case cH l=>cases h1
 case bU f a c=>obtain⟨va,vc,rfl,_⟩:=h;rfl
 case yl i=>obtain⟨l,I,B,_,rfl⟩:=h;rfl

theorem Jo{S:Nat→Prop}:∀ {l:List AV} {vs:List Value},aW S w φ l vs→Ws l=true→∀v∈vs,v.oneCell'=true
 |[],[],_,_=>by simp
 |[],_::_,h,_=>by simp[aW]at h
 |_::_,[],h,_=>by simp[aW]at h
 |a::l,v::vs,h,h1=>by
  simp only[aW]at h;simp only[Ws]at h1;cases ha:p7 a
  ·simp[ha]at h1
  ·simp only [ha,cond_true] at h1;intro x hx;rcases eL.1 hx with rfl |hx
   ·exact(AW h.1 ha).1
   ·exact Jo h.2 h1 x hx

theorem gU{x:AV}{v:Value}(h:RV S w φ x v)(hc:fU x=some l) :
  aW S w φ l v.cells.toList∧∀c∈v.cells.toList,c.oneCell'=true:=by
 have key:p7 x=true→l=[x]→aW S w φ l v.cells.toList∧∀c∈v.cells.toList,c.oneCell'=true:=by
  intro h1 he;obtain⟨h2,h3⟩:=AW h h1;rw[h3,he];simp only[aW]
  simp_all
 cases x
 case agg m =>
  simp only[fU]at hc;cases ha:Ws m
  ·simp[ha]at hc
  ·simp only [ha,cond_true,Option.some.injEq] at hc;subst hc;simp only[RV]at h;obtain⟨cs,rfl,h2⟩:=h;exact⟨by simpa[Value.cells]using h2,by simpa[Value.cells]using Jo h2 ha⟩
 all_goals
  simp only[fU]at hc
  grind

theorem aW.set{S:Nat→Prop}:∀ {l:List AV} {vs:List Value} (i:Nat) {x:AV} {v:Value},aW S w φ l vs→RV S w φ x v→aW S w φ (l.set i x) (vs.set i v)
 |[],[],_,_,_,_,_=>by simp[aW]
 |[],_::_,_,_,_,h,_=>by simp[aW]at h
 |_::_,[],_,_,_,h,_=>by simp[aW]at h
 |_::_,_::_,0,_,_,h,hx=>by simp only[aW]at h;simp only[agp,aW];simp_all
 |_::_,_::_,i+1,_,_,h,hx=>by simp only[aW]at h;simp only[V5,aW];exact⟨h.1,h.2.set i hx⟩

theorem aW.dx{S:Nat→Prop}:∀ {new:List AV} {ns:List Value} {l:List AV} {vs:List Value} (off:Nat),aW S w φ l vs→aW S w φ new ns→aW S w φ (gy l off new) (dx vs off ns)
 |[],[],_,_,_,h,_=>by simpa[gy,aw.dx]using h
 |[],_::_,_,_,_,_,h=>by simp[aW]at h
 |_::_,[],_,_,_,_,h=>by simp[aW]at h
 |_::_,_::_,_,_,off,h,h'=>by
  simp only[aW]at h';simp only[gy,aw.dx,bq];exact aW.dx (off+1) (h.set off h'.1) h'.2

include hs in

theorem aY{s:Sem Next}{vv:Value}(hr:s.run P w=.ok (.value vv) w)(hv:RV (SS S0 φ) w φ v vv):Out P s S0 φ w v objs :=
 ⟨_,vv,w,φ,hr,.inl rfl,hv,.refl hs⟩

theorem cG(hs:HS S0 φ objs w){i:Nat}{ph:bB}(hi:φ[i]? = some ph){ob:Ob}(ho:dk objs i=some ob):bd (SS S0 φ) w φ ph ob :=
 hs.ok i ph ob hi (by rw[← bu];exact ho)

theorem zV(hτ:kz P t τ){cs:List Value}(h:aW S w φ l cs)(hp:ky τ l off=some v) :
  (τ.size=0∧τ.agg=true∨off+τ.size≤cs.length)∧RV S w φ v (pack τ ((cs.drop off).take τ.size)):=by
 have hl:=h.length;unfold ky at hp;cases ha:τ.agg
 ·simp only [ha] at hp;rw[bu]at hp;have h1:=hτ.one ha;obtain⟨x,h2,h3⟩:=h.get off hp;have fu:off<cs.length:=(bC.1 h2).1;refine⟨.inr an,?_⟩;simp only[pack,ha,h1,lL,if_false];rw[List.drop_eq_getElem_cons fu]
  simp_all
 ·simp only [ha] at hp;obtain⟨h1,h2⟩:=SB hp;have h1:=cp h1;rw[bj]at h1;subst h2;constructor
  ·grind
  ·simp only [pack,ha,if_true,RV];exact⟨_,rfl,(h.drop off).take τ.size⟩

theorem iX(hτ:kz P t τ)(ha:τ.agg=true)(h0:τ.size=0)(a:Addr)(l:List Value) :
  (loadVar t a).run P w=.ok (pack τ (l.take τ.size)) w:=by
 simp only[loadVar,Sem.run_bind,xR hτ,Result.andThen_ok,ha,if_true,run_sizeOf hτ,h0];simp[loadCells,loadCellsFrom,pack,ha]

theorem Gn(hτ:kz P t τ){b o T:Nat}{cs:List Value}{fr:Nat × Nat}(hb:w.heap[b]? = some (.cells cs.toArray T fr))(h:aW S w φ l (cs.drop o))
  (hp:ky τ l off=some v):∃vv,(loadVar t ⟨b,o+off,none⟩).run P w=.ok vv w∧RV S w φ v vv:=by
 obtain⟨h1,h2⟩:=zV hτ h hp;rw[List.drop_drop]at h2;rcases h1 with ⟨h0,ha⟩ |h1
 ·exact⟨_,iX hτ ha h0 _ _,h2⟩
 ·by_cases ho:o+off+τ.size≤cs.length
  ·exact⟨_,rH hτ hb (o+off) ho,h2⟩
  ·have:τ.size=0:=by grind
   cases ha:τ.agg
   ·have:=hτ.one ha;omega
   ·exact⟨_,iX hτ ha this _ _,h2⟩
section ad
variable {o:Oper} {a:Act} {ρA:Operand→AV} (hρ:∀x,RV (SS S0 φ) w φ (ρA x) (a.eval x))
include fY hs hρ

omit hρ in

theorem Wv(hop:o.op=.alloc T)(ht:ty T=some τ) :
  Out P (execOp a.eval o) S0 φ w (.lo (len objs) 0) (objs++[.box (τ.zero.map fun x=>.d (.v x))]):=by
 obtain⟨z,h1,h2⟩:=iq (fY _ _ ht) w;have qf:∀b,(bB.js w.heap.size).bl b→b=w.heap.size:=by intro b hb;simpa[bB.bl]using hb.symm
 refine⟨.value (.pointer (some ⟨w.heap.size,0,none⟩)),_,w.alloc (.cells z.cells T),φ++[.js w.heap.size],?_,.inl rfl,?_,.new hs qf ?_⟩
 ·simp only [execOp,hop,Instr.alloc,Sem.run_bind,h1,Result.andThen_ok,newVar,newRow,run_newObj,Sem.run_pure];rfl
 ·simp only [RV];exact⟨w.heap.size,by rw[bj,← hs.len];simp,rfl⟩
 ·simp only [bd];refine⟨z.cells.toList,T,heap_alloc_new _ _,?_⟩;rw[h2];have:=aW.map (S:=SS S0 (φ++[bB.js w.heap.size])) (w:=w.alloc (.cells z.cells T)) (φ:=φ++[bB.js w.heap.size]) (fun x=>AV.d (.v x)) id τ.zero (fun x _=>by simp only[RV];exact .v x)
  simp_all

omit fY in

theorem agz(hop:o.op=.box T x)(hc:fU (ρA x)=some l) :
  Out P (execOp a.eval o) S0 φ w (.lo (len objs) 0) (objs++[.box l]):=by
 obtain⟨h1,h2⟩:=gU (hρ x) hc;have qf:∀b,(bB.js w.heap.size).bl b→b=w.heap.size:=by intro b hb;simpa[bB.bl]using hb.symm
 refine⟨.value (.pointer (some ⟨w.heap.size,0,none⟩)),_,w.alloc (.cells (a.eval x).cells T),φ++[.js w.heap.size],?_,.inl rfl,?_,.new hs qf ?_⟩
 ·simp only [execOp,hop,Instr.box,Sem.run_bind,Result.andThen_ok,newVar,newRow,run_newObj,Sem.run_pure];rfl
 ·simp only [RV];exact⟨w.heap.size,by rw[bj,← hs.len];simp,rfl⟩
 ·simp only [bd];exact⟨(a.eval x).cells.toList,T,heap_alloc_new _ _,h1.mono (rI qf) (.app _ _)⟩

omit fY hρ in

theorem nY(hop:o.op=.load T x){b off:Nat}(hx:a.eval x=.pointer (some ⟨b,off,none⟩)){vv:Value}
  (hr:(loadVar T ⟨b,off,none⟩).run P w=.ok vv w) (hv:RV (SS S0 φ) w φ v vv):Out P (execOp a.eval o) S0 φ w v objs:=by
 refine aY hs (vv:=vv) ?_ hv;simp only[execOp,hop,Instr.loadAt,Instr.sureAddr,hx,Sem.run_bind,Sem.run_pure,Result.andThen_ok,hr]

theorem Ww(hop:o.op=.load T x)(h:eX ty ρA objs (.load T x)=some v) :
  Out P (execOp a.eval o) S0 φ w v objs:=by
 simp only[eX]at h;split at h
 case h_2=>cases h
 case h_1 τ ht =>
 have hτ:=fY _ _ ht;have hx:=hρ x;split at h
 case h_1 i off hA =>
  rw[hA]at hx;split at h
  case h_2=>cases h
  case h_1 l hl =>
  have P7:=h;simp only[RV]at hx;obtain⟨b,hb,hx⟩:=hx;have ho:=cG hs hb hl;simp only[bd]at ho;obtain⟨cs,T',bc,lz⟩:=ho;obtain⟨vv,h1,h2⟩:=Gn (o:=0) hτ bc (by simpa using lz) P7;exact nY hs hop hx MA h2
 case h_2 l hA =>
  rw[hA]at hx;have P7:=h;simp only[RV]at hx;generalize kU:a.eval x=vx at hx;cases hx with
  |@bG _ b o2 cs T' fr g hS hb hg hr =>
   have hl:∀ (j:Nat) (y:D),l[j]? = some y→j<cs.size - o2∧cs.toList[o2+j]? = some (g j):=by
    intro j y hj;have h1:=hg j y hj;have h2:=(tN.1 h1).1;exact⟨by omega,by rw[Array.getElem?_toList];exact h1⟩
   have aZ:l.length≤cs.toList.length - o2:=by
    rcases Sn l.length with h0 |h0
    ·omega
    ·have:=hl (l.length - 1) (l[l.length - 1]' an) (dY an);simp;omega
   have lz:aW (SS S0 φ) w φ (l.map .d) ((cs.toList.drop o2).take l.length):=by
    refine aW.rG (by simp at aZ ⊢;omega) fun i x v hx hv=>?_
    rw[eU]at hx;cases hi:l[i]? with
    |none=>rw[hi]at hx;cases hx
    |some y =>
     rw[hi]at hx;simp at hx;subst hx;have l7:=(bC.1 hi).1;rw[qb l7,AL,(hl i y hi).2]at hv;cases hv;simp only[RV];exact hr i y hi
   obtain⟨h1,h2⟩:=zV hτ lz P7;rcases h1 with ⟨h0,ha⟩ |h1
   ·exact nY hs hop kU (iX hτ ha h0 _ _) h2
   ·have h1':τ.size≤l.length:=by simp at h1; omega
    have hsz:o2+τ.size≤cs.toList.length∨τ.size=0:=by omega
    rcases hsz with hsz |hsz
    ·have h3:=rH hτ (P:=P) (cs:=cs.toList) (by simpa using hb) o2 hsz;refine nY hs hop kU h3 ?_;simp only[V6]at h2;rw[List.take_take,Ge h1']at h2;exact h2
    ·have ha:τ.agg=true:=by
      cases ha:τ.agg
      ·have:=hτ.one ha;omega
      ·rfl
     exact nY hs hop kU (iX hτ ha hsz _ _) h2
 simp_all
end ad
end
end aw
namespace aw
open Go Go.RowKit
variable{x:Operand}{T t k:Nat}{v:AV}
section
variable {P:Program} {ty:Nat→Option Ty} {S0:Nat→Prop} {φ:List bB} {objs:List Ob} {w:World} {o:Oper} {a:Act} {ρA:Operand→AV}

theorem P8(hs:HS S0 φ objs w)(hρ:∀x,RV (SS S0 φ) w φ (ρA x) (a.eval x))(hop:o.op=.move x∨o.op=.assign x):Out P (execOp a.eval o) S0 φ w (ρA x) objs:=by
 refine aY hs (vv:=a.eval x) ?_ (hρ x);rcases hop with hop |hop<;>simp only[execOp,hop,Sem.run_pure]

theorem abl{c x y:Operand}(hs:HS S0 φ objs w)(hρ:∀x,RV (SS S0 φ) w φ (ρA x) (a.eval x))(hop:o.op=.pick c x y)(h:Wu (ρA c) (ρA x) (ρA y)=some v):Out P (execOp a.eval o) S0 φ w v objs:=by
 have hc:=hρ c;unfold Wu at h;split at h
 ·rename_i x' _ hA;cases h;rw[hA]at hc;simp only[RV]at hc;refine aY hs (vv:=a.eval x) ?_ (hρ x);simp[execOp,hop,hc,asBool]
 ·rename_i x' _ hA;cases h;rw[hA]at hc;simp only[RV]at hc;refine aY hs (vv:=a.eval y) ?_ (hρ y);simp[execOp,hop,hc,asBool]
 ·cases h

theorem Wx{d x:Operand}(fY:jk P ty)(hs:HS S0 φ objs w)(hρ:∀x,RV (SS S0 φ) w φ (ρA x) (a.eval x))(hop:o.op=.store T d x){objs':List Ob}(h:iz ty ρA objs (.store T d x)=some (v,objs')) :
  Out P (execOp a.eval o) S0 φ w v objs':=by
 simp only[iz]at h;split at h
 case h_2=>cases h
 case h_1 τ ht =>
 have hτ:=fY _ _ ht;split at h
 case h_2=>cases h
 case h_1 new qf =>
 obtain⟨aZ,h⟩:=AP h;have aZ:=cp aZ;rw[bj]at aZ;have hx:=hρ d;split at h
 case h_2=>cases h
 case h_1 i off hA =>
 rw[hA]at hx;split at h
 case h_2=>cases h
 case h_1 l hl =>
 obtain⟨hle,h⟩:=SB h;cases h;have hle:=ke hle;rw[bj]at hle;simp only[RV]at hx;obtain⟨b,hb,hx⟩:=hx;have ho:=cG hs hb hl;simp only[bd]at ho;obtain⟨cs,T',bc,lz⟩:=ho;obtain⟨vo,Gp⟩:=gU (hρ x) qf;have dV:=vo.length;have Vd:=lz.length;obtain⟨w',hr,cS⟩:=my (P:=P) hτ off bc rfl Gp an k8;have gQ:(bB.js b).bl b:=rfl;have hk:=sV (S0:=S0) hb gQ cS.other;refine⟨.skip,undef,w',φ,?_,.inr ⟨rfl,rfl⟩,by simp[RV],?_⟩
 ·simp only[execOp,hop,Instr.storeAt,Instr.sureAddr,hx,Sem.run_bind,Sem.run_pure,Result.andThen_ok,hr]
 ·refine ⟨?_,hk,.refl _,by rw [cS.size]; omega,cS.os,cS.tape,cS.out,fun c hc hn=>cS.other c fun e=>hn ⟨i,_,hb,by rw [e]; rfl⟩,fun _ h=>.inl h,fun _ _ _ B h=>⟨B,h⟩⟩;rw[bq];refine hs.bO hb gQ cS.size cS.other ?_;simp only[bd];exact⟨_,T',cS.at_,(lz.mono hk (.refl _)).dx off (vo.mono hk (.refl _))⟩

theorem Wy{jz:List (Nat × Nat)}(h:bA P t (.struct jz)){k off ft:Nat}(hk:dk jz k=some (off,ft)) :
  ∃ (fs:Array Field) (f:Field),P.underlying t=some (.struct fs)∧fs[k]? = some f∧f.offset=off∧f.type=ft∧∃i,P.info? ft=some i∧i.size≠0:=by
 simp only[bA]at h;obtain⟨fs,h1,h2,h3⟩:=h;rw[bu,← h2,eU]at hk;cases hf:fs.toList[k]? with
 |none=>simp_all
 |some f =>
  rw[hf]at hk;simp only[rD,Option.some.injEq,Prod.mk.injEq]at hk;obtain⟨rfl,rfl⟩:=hk;exact⟨fs,f,h1,by simp_all,rfl,rfl,h3 f (gZ hf)⟩

theorem n5{fs:Array Field}{f:Field}(h1:P.underlying t=some (.struct fs))(h2:fs[k]? = some f)(h3:∃i,P.info? f.type=some i∧i.size≠0)(b off:Nat) :
  (Instr.fieldAt t (.pointer (some ⟨b,off,none⟩)) k).run P w=.ok (.pointer (some ⟨b,off+f.offset,none⟩)) w:=by
 obtain⟨i,h4,h5⟩:=h3;simp[Instr.fieldAt,underlying,h1,h2,Instr.sureAddr,fieldPlace,Go.sizeOf,typeInfo,h4,h5,fK]

theorem Gq(fY:jk P ty)(hs:HS S0 φ objs w)(hρ:∀x,RV (SS S0 φ) w φ (ρA x) (a.eval x))(hop:o.op=.fieldAddr T x k)(h:cJ ty ρA (.fieldAddr T x k)=some v) :
  Out P (execOp a.eval o) S0 φ w v objs:=by
 simp only[cJ]at h;split at h
 case h_2=>cases h
 case h_1 sz cj z jz ht =>
 have hτ:=fY _ _ ht;split at h
 case h_2=>cases h
 case h_1 off ft hk =>
 obtain⟨fs,f,h1,h2,rfl,rfl,h3⟩:=Wy hτ.sh hk;have hx:=hρ x;split at h
 case h_1 i o2 hA =>
  cases h;rw[hA]at hx;simp only[RV]at hx;obtain⟨b,hb,hx⟩:=hx;refine aY hs (vv:=.pointer (some ⟨b,o2+f.offset,none⟩)) ?_ (by simp only[RV];exact⟨b,hb,rfl⟩);simp only[execOp,hop,hx,Sem.run_bind,n5 h1 h2 h3,Result.andThen_ok,Sem.run_pure]
 case h_2 i s r2 j2 hA =>
  cases h;rw[hA]at hx;simp only[RV]at hx;obtain⟨⟨b,o3,hp⟩,ph,eQ,hx⟩:=hx;refine aY hs (vv:=.pointer (some ⟨b,o3+f.offset,none⟩)) ?_ ?_
  ·simp only[execOp,hop,hp,Sem.run_bind,n5 h1 h2 h3,Result.andThen_ok,Sem.run_pure]
  ·simp only [RV];refine⟨⟨b,_,rfl⟩,ph,eQ,fun Jj s' x' oT he=>?_⟩;obtain⟨h4,h5⟩:=hx Jj s' x' oT he;refine⟨h4,fun e=>?_⟩;obtain⟨b',o',n',oD,h6,h7⟩:=h5 e;rw[hp]at h7;simp only[Value.pointer.injEq,Option.some.injEq,Addr.mk.injEq,and_true]at h7;obtain⟨rfl,rfl⟩:=h7;exact⟨b,o',n',oD,h6,by rw[Nat.add_assoc]⟩
 case h_3 l hA =>
  cases h;rw[hA]at hx;simp only[RV]at hx;generalize kU:a.eval x=vx at hx;cases hx with
  |@bG _ b o2 cs T' fr g hS hb hg hr =>
   refine aY hs (vv:=.pointer (some ⟨b,o2+f.offset,none⟩)) ?_ ?_
   ·simp only[execOp,hop,kU,Sem.run_bind,n5 h1 h2 h3,Result.andThen_ok,Sem.run_pure]
   ·simp only [RV];refine .bG (fun j=>g (f.offset+j)) hS hb (fun j y hy=>?_) (fun j y hy=>hr _ y (by simpa using hy));rw[Nat.add_assoc];exact hg _ y (by simpa using hy)
 simp_all

theorem Wz{τ:Ty}(hτ:kz P t τ){cs:List Value}{off:Nat}(h:τ.size=0∧τ.agg=true∨off+τ.size≤cs.length) :
  (part t cs.toArray off).run P w=.ok (pack τ ((cs.drop off).take τ.size)) w:=by
 unfold part pack;rw[Sem.run_bind,xR hτ];simp only[Result.andThen_ok];cases ha:τ.agg
 ·have h1:=hτ.one ha
  have fu:off<cs.length:=by
   omega
  simp only[lL,if_false,List.getElem?_toArray,dY fu,Sem.run_pure,h1];rw[List.drop_eq_getElem_cons fu];rfl
 ·simp only [if_true,Sem.run_bind,run_sizeOf hτ,Result.andThen_ok,Sem.run_pure]
  simp_all

theorem WA(fY:jk P ty)(hs:HS S0 φ objs w)(hρ:∀x,RV (SS S0 φ) w φ (ρA x) (a.eval x))(hop:o.op=.field T x k)(h:cJ ty ρA (.field T x k)=some v) :
  Out P (execOp a.eval o) S0 φ w v objs:=by
 simp only[cJ]at h;split at h
 case h_2=>cases h
 case h_1 sz cj z jz ht =>
 have hτ:=fY _ _ ht;split at h
 case h_2=>cases h
 case h_1 off ft hk =>
 obtain⟨fs,f,h1,h2,rfl,rfl,h3⟩:=Wy hτ.sh hk;have hx:=hρ x;split at h
 case h_2=>cases h
 case h_1 τ l hft hA =>
 have hp:=h;rw[hA]at hx;simp only[RV]at hx;obtain⟨cs,hx,lz⟩:=hx;have aqa:=fY _ _ hft;obtain⟨h4,h5⟩:=zV aqa lz hp;refine aY hs (vv:=pack τ ((cs.drop f.offset).take τ.size)) ?_ h5;simp only[execOp,hop,hx,Instr.field,underlying,Sem.run_bind,run_program,Result.andThen_ok,h1,Sem.run_pure,h2,asAgg,Wz aqa h4]

theorem P9{x:AV}{v:Value}{S:Nat→Prop}{b:Bool}(h:RV S w φ x v)(hb:boA x=some b):v=.bool b:=by
 unfold boA at hb;split at hb
 ·cases hb;simpa[RV]using h
 ·cases hb;simpa[RV]using h
 ·cases hb;simp only[RV]at h;cases h;rfl
 ·cases hb
theorem AX{k k':IntKind}(h:kEq k k'=true):k=k':=by cases k<;>cases k'<;>simp[kEq]at h<;>rfl

def Gs:Value→Bool
 | .int _ _ | .string _ | .bool _=>true
 |_=>false

theorem n6{op:BinOp}{x y:Operand}{u v:Value}(hu:Gs u=true):(eqGuard op T x y u v).run P w=.ok () w:=by
 unfold eqGuard;cases u<;>simp[Gs]at hu<;>cases v<;>simp<;>split<;>simp

theorem run_equalIn_bool(d:Nat)(hu:P.underlying T=some .bool)(b c:Bool):(Op.equalIn (d+1) T (.bool b) (.bool c)).run P w=.ok (b==c) w:=by
 simp[Op.equalIn,underlying,hu]
theorem run_equal_bool(hu:P.underlying T=some .bool)(b c:Bool):(Op.equal T (.bool b) (.bool c)).run P w=.ok (b==c) w:=run_equalIn_bool 9999 hu b c

theorem agC{op:BinOp}{T T':Nat}{x y:Operand}(fY:jk P ty)(hs:HS S0 φ objs w)(hρ:∀x,RV (SS S0 φ) w φ (ρA x) (a.eval x))(hop:o.op=.binOp op T x y T')(h:Wt (isB ty T) op (ρA x) (ρA y)=some v) :
  Out P (execOp a.eval o) S0 φ w v objs:=by
 have hx:=hρ x;have hy:=hρ y
 have fin:∀ {vv:Value},Gs (a.eval x)=true→(binOp op T (a.eval x) (a.eval y)).run P w=.ok vv w→RV (SS S0 φ) w φ v vv→Out P (execOp a.eval o) S0 φ w v objs:=by
  intro vv h1 h2 h3;refine aY hs (vv:=vv) ?_ h3;simp only[execOp,hop,Sem.run_bind,n6 h1,Result.andThen_ok,h2,Sem.run_pure]
 unfold Wt at h;split at h
 case h_1 k m k' m' hA hB =>
  rw[hA]at hx;rw[hB]at hy;simp only[RV]at hx hy;obtain⟨hk,h'⟩:=AP h;clear h;have hk:=AX hk;subst hk;generalize kU:a.eval x=vx at hx fin;generalize oA:a.eval y=vy at hy fin;cases hx;cases hy
  cases op <;> simp only [akP,Option.some.injEq,reduceCtorEq] at h' <;>
   (subst h';refine fin rfl ?_ aaT;simp[binOp,Op.intCmp,Op.intArith])
 case h_2 m m' hA hB =>
  rw[hA]at hx;rw[hB]at hy;simp only[RV]at hx hy;generalize kU:a.eval x=vx at hx fin;generalize oA:a.eval y=vy at hy fin;cases hx;cases hy
  cases op <;> simp only [abi,Option.some.injEq,reduceCtorEq] at h <;>
   (subst h;refine fin rfl ?_ aaT;simp[binOp,Op.stringOp,bE])
 case h_3 =>
  split at h
  case h_2=>cases h
  case h_1 b1 b2 h1 h2 =>
  have e1:=P9 hx h1;have e2:=P9 hy h2;obtain⟨htb,h'⟩:=AP h;clear h
  have hu:P.underlying T=some .bool:=by
   unfold isB at htb;split at htb
   ·rename_i hT;exact(fY _ _ hT).sh
   ·cases htb
  cases op <;> simp only [akQ,Option.some.injEq,reduceCtorEq] at h' <;>
   (subst h';refine fin (by rw[e1];rfl) ?_ aaT;rw[e1,e2];simp only[binOp,Sem.run_bind,run_equal_bool hu,Result.andThen_ok,Sem.run_pure])

theorem akT{op:UnOp}(hs:HS S0 φ objs w)(hρ:∀x,RV (SS S0 φ) w φ (ρA x) (a.eval x))(hop:o.op=.unOp op T x)(h:cJ ty ρA (.unOp op T x)=some v) :
  Out P (execOp a.eval o) S0 φ w v objs:=by
 simp only[cJ]at h;have hx:=hρ x;split at h
 case h_1 hA =>
  cases h;rw[hA]at hx;simp only[RV]at hx;exact aY hs (vv:=.bool false) (by simp[execOp,hop,hx,Op.unary]) (by simp[RV])
 case h_2 hA =>
  cases h;rw[hA]at hx;simp only[RV]at hx;exact aY hs (vv:=.bool true) (by simp[execOp,hop,hx,Op.unary]) (by simp[RV])
 case h_3 b hA =>
  cases h;rw[hA]at hx;simp only[RV]at hx;generalize kU:a.eval x=vx at hx;cases hx;exact aY hs (vv:=.bool !b) (by simp[execOp,hop,kU,Op.unary]) aaT
 case h_4 k n hA =>
  cases h;rw[hA]at hx;simp only[RV]at hx;generalize kU:a.eval x=vx at hx;cases hx;exact aY hs (vv:=.int k (k.wrap (0 - n))) (by simp[execOp,hop,kU,Op.unary,Op.intArith]) xH
 simp_all

theorem Qa(hρ:∀x,RV (SS S0 φ) w φ (ρA x) (a.eval x))(l:List Operand):aW (SS S0 φ) w φ (l.map ρA) (l.map a.eval) :=
 aW.map _ _ l fun x _=>hρ x

theorem Jp{f:Nat}{x y:Array Operand}(hs:HS S0 φ objs w)(hρ:∀x,RV (SS S0 φ) w φ (ρA x) (a.eval x))(hop:o.op=.makeFunc (.func f) x y) :
  Out P (execOp a.eval o) S0 φ w (.bU f (x.toList.map ρA) (y.toList.map ρA)) objs:=by
 refine aY hs (vv:=.func (.func f) (x.map a.eval) (y.map a.eval)) (by simp[execOp,hop,Instr.makeFunc]) ?_;simp only[RV];exact⟨x.toList.map a.eval,y.toList.map a.eval,by simp[← Array.toList_map],Qa hρ _,Qa hρ _⟩

theorem MN(hs:HS S0 φ objs w)(hρ:∀x,RV (SS S0 φ) w φ (ρA x) (a.eval x))(hop:o.op=.extract x k){l:List AV}(hA:ρA x=.cH l)(hv:dk l k=some v) :
  Out P (execOp a.eval o) S0 φ w v objs:=by
 have hx:=hρ x;rw[hA]at hx;simp only[RV]at hx;obtain⟨vs,hx,lz⟩:=hx;rw[bu]at hv;obtain⟨vv,h1,h2⟩:=lz.get k hv;refine aY hs (vv:=vv) ?_ h2;simp[execOp,hop,hx,Instr.extract,h1]

theorem qd{d:TypeDesc}{v:Value}{n:Int}(hu:P.underlying t=some d)
  (h:(d=.string∧∃s:ByteArray,v=.string s∧n=s.size)∨((∃e,d=.slice e)∧∃ (p:Option Addr) (m c:Nat),v=.slice p m c∧n=m)) :
  (Builtin.len_ #[t] T #[v]).run P w=.ok (.int .i64 n) w:=by
 rcases h with ⟨rfl,s,rfl,rfl⟩ |⟨⟨e,rfl⟩,p,m,c,rfl,rfl⟩<;>simp[Builtin.len_,underlying,hu,goInt]

theorem agD{args:Array Operand}{ts:Array Nat}(fY:jk P ty)(hs:HS S0 φ objs w)(hρ:∀x,RV (SS S0 φ) w φ (ρA x) (a.eval x))
  (hop:o.op=.call { callee:=.builtin .len,args:=args,argTypes:=ts }) (h1:args.toList=[x]) (h2:ts.toList=[t]) {τ:Ty} (ht:ty t=some τ) {n:Int}
  (hn:Jm τ.sh objs (ρA x)=some n):Out P (execOp a.eval o) S0 φ w (iV n) objs:=by
 have hx:=hρ x;have eE:=(fY _ _ ht).sh;have ha:args=#[x]:=by apply Array.toList_inj.1;simpa using h1
 have hts:ts=#[t]:=by apply Array.toList_inj.1;simpa using h2
 have fin:∀ {d:TypeDesc},P.underlying t=some d→((d=.string∧∃ s:ByteArray,a.eval x=.string s∧n=s.size)∨((∃ e,d=.slice e)∧∃ (p:Option Addr) (m c:Nat),a.eval x=.slice p m c∧n=m)) →
   Out P (execOp a.eval o) S0 φ w (iV n) objs:=by
  intro d hu hd;refine aY hs (vv:=.int .i64 n) ?_ IW;simp only[execOp,hop,resolve,ha,hts,Sem.run_bind,Sem.run_pure,Result.andThen_ok,invoke,builtin,rC,List.map_cons,fj];simp[qd hu hd]
 unfold Jm at hn;split at hn
 case h_1 aa hA =>
  rw[hA]at hx;simp only[RV]at hx;split at hn
  ·rename_i e he; rw [he] at eE;refine fin eE (.inr ⟨⟨_,rfl⟩,?_⟩);generalize a.eval x=vx at hx;cases hx with
   |nil=>exact⟨_,_,_,rfl,by simpa using hn.symm⟩
   |sl=>exact⟨_,_,_,rfl,by simpa using hn.symm⟩
  ·cases hn
 case h_2 hA =>
  rw[hA]at hx;simp only[RV]at hx;split at hn
  ·rename_i e he; rw [he] at eE;refine fin eE (.inr ⟨⟨_,rfl⟩,?_⟩);generalize a.eval x=vx at hx;cases hx;exact⟨_,_,_,rfl,by simpa using hn.symm⟩
  ·cases hn
 case h_3 s hA =>
  rw[hA]at hx;simp only[RV]at hx;split at hn
  ·rename_i he; rw [he] at eE;refine fin eE (.inl ⟨rfl,?_⟩);generalize a.eval x=vx at hx;cases hx;exact⟨_,rfl,by simpa using hn.symm⟩
  ·cases hn
 case h_4 aa hA =>
  rw[hA]at hx;simp only[RV]at hx;split at hn
  ·rename_i e he; rw [he] at eE;obtain⟨_,p,hp⟩:=hx;exact fin eE (.inr ⟨⟨_,rfl⟩,p,_,_,hp,by simpa using hn.symm⟩)
  ·cases hn
 case h_5 i s hA =>
  rw[hA]at hx;simp only[RV]at hx;split at hn
  ·rename_i e he; rw [he] at eE;split at hn
   ·rename_i sz s' rws hl;obtain⟨Qb,hn⟩:=SB hn;have Qb:=cp Qb;obtain⟨_,ph,eQ,hx⟩:=hx;have ho:=cG hs eQ hl;cases ph<;>simp only[bd]at ho
    obtain⟨_,zD,aZ,ho⟩:=ho;obtain⟨_,hx⟩:=hx _ _ _ _ rfl;have hx:=hx an;refine fin eE (.inr ⟨⟨_,rfl⟩,?_⟩);rcases ho with ⟨a2,hv3,qP,_⟩ |⟨b3,o3,cap,cs,T',hv3,_⟩
    ·exact⟨_,_,_,hx.trans hv3,by rw[← hn,qP];rfl⟩
    ·exact⟨_,_,_,hx.trans hv3,hn.symm⟩
   ·cases hn
  ·cases hn
 case h_6 i hA =>
  rw[hA]at hx;simp only[RV]at hx;split at hn
  ·rename_i k e he; rw [he] at eE;simp only[bA]at eE;split at hn
   ·rename_i es hl;obtain⟨b,hb,hx⟩:=hx;have ho:=cG hs hb hl;simp only[bd]at ho;obtain⟨ents,iY,bc,hes,_⟩:=ho;have hsz:es.length=ents.size:=by have:=congrArg List.length hes;simpa using this
    refine aY hs (vv:=.int .i64 n) ?_ IW;simp only[execOp,hop,resolve,ha,hts,Sem.run_bind,Sem.run_pure,Result.andThen_ok,invoke,builtin,rC,List.map_cons,fj]
    have:(Builtin.len_ #[t] o.type #[a.eval x]).run P w=.ok (.int .i64 n) w:=by
     simp only[Option.some.injEq]at hn;rw[hx,← hn,hsz];simp[Builtin.len_,underlying,eE,goInt,getObj,Sem.run,bc]
    simp[this]
   ·cases hn
  ·cases hn
 simp_all
end
end aw
namespace aw
open Go Go.RowKit

variable{v:AV}
theorem SC(v:List Value):∀ (cs:List Value) (off k:Nat),
  ((v.zipIdx k).foldl (fun cs (c:Value × Nat)=>cs.setIfInBounds (off+c.2) c.1) cs.toArray)=(dx cs (off+k) v).toArray:=by
 induction v with
 |nil=>intro cs off k;simp[dx]
 |cons x r ih =>
  intro cs off k;simp only[List.zipIdx_cons,vI,dx];have:(cs.toArray.setIfInBounds (off+k) x)=(cs.set (off+k) x).toArray:=by simp
  rw[this,ih,Nat.add_assoc]

theorem Et{place:Nat→Option (Nat × Nat)}{i off size:Nat}{v:Value}{ax:List (Nat × Value)}{cs:List Value}
  (hp:place i=some (off,size)) (hv:v.cells.size=size) (hle:off+size≤cs.length) :
  Instr.fill place cs.toArray ((i,v)::ax)=Instr.fill place (dx cs off v.cells.toList).toArray ax:=by
 have h2:(v.cells.zipIdx.foldl (fun cs (c,j)=>cs.setIfInBounds (off+j) c) cs.toArray)=(dx cs off v.cells.toList).toArray:=by
  rw[← Array.foldl_toList,Array.toList_zipIdx];exact SC v.cells.toList cs off 0
 simp only[Instr.fill,hp]
 grind

theorem uJ:∀ (new l r t:List Value),r.length=new.length→dx (l++r++t) l.length new=l++new++t
 |[],l,[],t,_=>by simp[dx]
 |[],l,_::_,_,h=>by simp at h
 |_::_,l,[],_,h=>by simp at h
 |x::new,l,y::r,t,h=>by
  simp only[dx];have:(l++y::r++t).set l.length x=(l++[x])++r++t:=by simp
  rw[this];have h2:=uJ new (l++[x]) r t l6
  simp_all
section
variable {P:Program} {ty:Nat→Option Ty} {S0:Nat→Prop} {φ:List bB} {objs:List Ob} {w:World} {o:Oper} {a:Act} {ρA:Operand→AV}

theorem pd{S:Nat→Prop}:∀ {l:List AV} {vs:List Value} {ds:List D},aW S w φ l vs→xP l=some ds→aW S w φ (ds.map .d) vs
 |[],[],ds,_,h=>by simp[xP]at h;subst h;simp[aW]
 |[],_::_,_,h,_=>by simp[aW]at h
 |_::_,[],_,h,_=>by simp[aW]at h
 |x::l,v::vs,ds,h,hd=>by
  simp only[aW]at h;unfold xP at hd;split at hd
  all_goals first
   |(rename_i heq;cases heq;done)
   | (rename_i heq; cases heq
      split at hd
      ·rename_i l' hl';cases hd;simp only[List.map_cons,aW];refine⟨?_,pd h.2 hl'⟩;have h1:=h.1;simp only[RV]at h1 ⊢
       first
        |exact h1
        |exact h1.1
        |(subst h1;exact .v _)
      ·cases hd)
   |cases hd

theorem sW{e:Nat}{τ:Ty}(_he:kz P e τ):∀ (parts:List (Nat × AV)) (bL:List (Nat × Value)) (k:Nat) (aa:List (List D)) (pre ax:List Value),
  parts.map (·.1)=bL.map (·.1)→aW (SS S0 φ) w φ (parts.map (·.2)) (bL.map (·.2))→kN parts k τ.size=some aa→pre.length=k * τ.size→ax.length=bL.length * τ.size →
  ∃ cells:List Value,Instr.fill (fun i=>some (i * τ.size,τ.size)) (pre++ax).toArray bL=some (pre++cells).toArray∧cells.length=aa.length * τ.size∧aa.length=parts.length ∧
   (∀ (i:Nat) (r:List D),aa[i]? = some r→r.length=τ.size∧∀ (j:Nat) (x:D),r[j]? = some x→∃v,cells[i * τ.size+j]? = some v∧Rd (SS S0 φ) w x v)
 |[],[],k,aa,pre,ax,_,_,hr,_,fv=>by
  simp[kN]at hr;subst hr;have:ax=[]:=jy.1 k8;subst this;exact⟨[],by simp[Instr.fill],by simp,rfl,by simp⟩
 |[],_::_,_,_,_,_,h,_,_,_,_=>by simp at h
 |_::_,[],_,_,_,_,h,_,_,_,_=>by simp at h
 |(i,x)::parts,(i',v)::bL,k,aa,pre,ax,hm,lz,hr,q7,fv=>by
  simp only[List.map_cons,List.cons.injEq]at hm;obtain⟨rfl,hm⟩:=hm;simp only[List.map_cons,aW]at lz;simp only[kN]at hr;obtain⟨hik,hr⟩:=AP hr;have hik:=cp hik;subst hik;split at hr
  case h_1=>cases hr
  case h_2 l hl =>
  split at hr
  case h_2=>cases hr
  case h_1 row gL =>
  obtain⟨aZ,hr⟩:=AP hr;have aZ:=cp aZ;rw[bj]at aZ;split at hr
  case h_2=>cases hr
  case h_1 rows' eA =>
  cases hr;obtain⟨vo,_⟩:=gU lz.1 hl;have hcd:=pd vo gL;have dV:=hcd.length;simp only[eS]at dV;simp only[dv]at fv;have hsz:v.cells.toList.length=τ.size:=by omega
  have kQ:τ.size≤ax.length:=by grind
  obtain ⟨cells,h1,h2,MO,h3⟩:=sW _he parts bL (i+1) rows' (pre++v.cells.toList) (ax.drop τ.size) hm lz.2 eA
   q5 q5
  refine⟨v.cells.toList++cells,?_,?_,by simp[MO],?_⟩
  ·rw [Et rfl (by simpa using hsz) (by simp only [List.length_append]; omega)]
   have:dx (pre++ax) (i * τ.size) v.cells.toList=pre++v.cells.toList++ax.drop τ.size:=by
    have:=uJ v.cells.toList pre (ax.take τ.size) (ax.drop τ.size) (by simp;simp at hsz;omega);rw[List.append_assoc,List.take_append_drop]at this;rw[← q7];exact this
   simp_all
  ·grind
  ·intro j r hj;cases j with
   |zero =>
    simp at hj;subst hj;refine⟨aZ,fun m y hy=>?_⟩;have hyl:=(bC.1 hy).1;obtain⟨u,hu1,SD⟩:=hcd.get m (x:=.d y) (by rw[eU,hy];rfl);simp only[RV]at SD
    grind
   |succ j =>
    grind

theorem DJ{T n:Nat}{parts:Array (Nat × Operand)}(fY:jk P ty)(hs:HS S0 φ objs w)(hρ:∀x,RV (SS S0 φ) w φ (ρA x) (a.eval x))(hop:o.op=.buildSlice T n parts)
   (h:cJ ty ρA (.buildSlice T n parts)=some v):Out P (execOp a.eval o) S0 φ w v objs:=by
 simp only[cJ]at h;split at h
 case h_2=>cases h
 case h_1 sz cj z e hT =>
 have Gt:=(fY _ _ hT).sh;simp only[bA]at Gt;split at h
 case h_2=>cases h
 case h_1 τ he =>
 have hτ:=fY _ _ he;split at h
 case h_2=>cases h
 case h_1 aa eA =>
 obtain⟨hn,h⟩:=AP h;obtain⟨hb,h⟩:=AP h;obtain⟨zF,h⟩:=SB h;cases h;have zF:=ke zF;have hn:=cp hn;rw[bj]at hn;have hb:=ke hb;simp only[Nat.mul_eq]at hb
 have hlp:aa.length=parts.size:=by
  have key:∀ (l:List (Nat × AV)) (k:Nat) (rs:List (List D)),kN l k τ.size=some rs→rs.length=l.length:=by
   intro l;induction l with
   |nil=>intro k rs h;simp[kN]at h;subst h;rfl
   |cons x l ih =>
    intro k rs h;exact akk
  grind
 obtain⟨zv,Ig,U8⟩:=iq hτ w;have Jh:=hτ.zl;have hzs:zv.cells.size=τ.size:=by grind
 generalize fv:(if n * τ.size=0 then ([]:List Value) else ((List.range (n * τ.size)).map fun i=>zv.cells[i % zv.cells.size]!))=ax
 have kQ:ax.length=n * τ.size:=by
  grind
 obtain ⟨cells,h1,h2,MO,h3⟩:=sW (S0:=S0) (φ:=φ) (w:=w) hτ (parts.toList.map fun p=>(p.1,ρA p.2)) (parts.toList.map fun p=>(p.1,a.eval p.2)) 0 aa [] ax
  k8 aj3 eA aC k8
 simp only[o8]at h1;have Ve:(parts.map fun (i,x)=>(i,a.eval x)).toList=parts.toList.map fun p=>(p.1,a.eval p.2):=by simp_all
 have fm:(Instr.buildSlice T n (parts.map fun (i,x)=>(i,a.eval x))).run P w=.ok (.slice (some ⟨w.heap.size,0,none⟩) n n) (w.alloc (.cells cells.toArray e)):=by
  have h0:¬ (n * τ.size > 2 ^ 24):=by omega
  simp only[Instr.buildSlice,underlying,Sem.run_bind,run_program,Result.andThen_ok,Gt,Sem.run_pure,run_sizeOf hτ];rw[Sem.run_ite];rw[if_neg h0];by_cases hz0:n * τ.size=0
  ·rw [Sem.run_ite,if_pos hz0];have SE:ax=[]:=jy.1 an;rw[SE]at h1;simp only[Sem.run_pure,Result.andThen_ok,hz0,Ve,newRow,Sem.run_bind];simp only[show (Array.map (fun x=>(#[]:Array Value)[x % (#[]:Array Value).size]!) (Array.range 0))=([]:List Value).toArray from by simp,h1,Sem.run_bind,run_newObj,Result.andThen_ok,Sem.run_pure];rfl
  ·rw [Sem.run_ite,if_neg hz0]
   have:(Array.range (n * τ.size)).map (fun x=>zv.cells[x % zv.cells.size]!)=ax.toArray:=by
    grind
   simp only[Sem.run_bind,Ig,Sem.run_pure,Result.andThen_ok,this,Ve,h1,newRow,run_newObj];rfl
 refine⟨.value (.slice (some ⟨w.heap.size,0,none⟩) n n),_,_,φ,?_,.inl rfl,?_,.alloc hs (.cells cells.toArray e)⟩
 ·simp only[execOp,hop,Sem.run_bind,fm,Result.andThen_ok,Sem.run_pure]
 ·simp only [RV];refine⟨?_,⟨some ⟨w.heap.size,0,none⟩,by rw[hn]⟩⟩;have qf:SS S0 φ w.heap.size:=⟨hs.up _ cP,fun hc=>absurd (hs.lt _ hc) (aa3 _)⟩;rw[← hn];refine Rd.sl (sz:=τ.size) (fun i j=>(cells[i * τ.size+j]?).getD undef) qf (heap_alloc_new _ _) cP ?_ (fun i r hi=>(h3 i r hi).1) (fun i r j x hi hj=>?_) (fun i r j x hi hj=>?_)
  ·rw[hn];unfold maxLen;omega
  ·grind
  ·obtain ⟨u,hu1,SD⟩:=(h3 i r hi).2 j x hj;rw[hu1];exact SD.mono (mU _ _ _)

theorem Jq{α β:Type}(f:α→Sem β)(g:α→β):∀ (l:List α),(∀x∈l,(f x).run P w=.ok (g x) w)→(l.mapM f).run P w=.ok (l.map g) w
 |[],_=>by simp
 |x::l,h=>by
  simp only[List.mapM_cons,Sem.run_bind,h x aC,Result.andThen_ok,Jq f g l fun y hy=>h y kb,Sem.run_pure,List.map_cons]

theorem SF{α β:Type}(f:α→Sem β)(g:α→β)(l:Array α)(h:∀x∈l.toList,(f x).run P w=.ok (g x) w):(l.mapM f).run P w=.ok (l.map g) w:=by
 rw[Array.mapM_eq_mapM_toList,Sem.run_map,Jq f g l.toList h];simp only[Result.andThen_ok];congr 1
 grind

theorem AY(fY:jk P ty){place:Nat→Option (Nat × Nat)}{jz:List (Nat × Nat)}
  (uK:∀ (k off ft:Nat) (τ:Ty),dk jz k=some (off,ft)→ty ft=some τ→place k=some (off,τ.size)) :
  ∀ (parts:List (Nat × AV)) (bL:List (Nat × Value)) (cs Vf:List AV) (vs:List Value),
  parts.map (·.1)=bL.map (·.1)→aW (SS S0 φ) w φ (parts.map (·.2)) (bL.map (·.2))→AU ty jz parts cs=some Vf→aW (SS S0 φ) w φ cs vs →
  ∃vs':List Value,Instr.fill place vs.toArray bL=some vs'.toArray∧aW (SS S0 φ) w φ Vf vs'
 |[],[],cs,Vf,vs,_,_,hb,lz=>by
  simp[AU]at hb;subst hb;exact⟨vs,by simp[Instr.fill],lz⟩
 |[],_::_,_,_,_,h,_,_,_=>by simp at h
 |_::_,[],_,_,_,h,_,_,_=>by simp at h
 |(i,x)::parts,(i',v)::bL,cs,Vf,vs,hm,lz,hb,qg=>by
  simp only[List.map_cons,List.cons.injEq]at hm;obtain⟨rfl,hm⟩:=hm;simp only[List.map_cons,aW]at lz;simp only[AU]at hb;split at hb
  case h_2=>cases hb
  case h_1 off ft hk =>
  split at hb
  case h_2=>cases hb
  case h_1 τ hft =>
  split at hb
  case h_2=>cases hb
  case h_1 l hl =>
  obtain⟨h1,hb⟩:=AP hb;obtain⟨h2,hb⟩:=AP hb;have h1:=cp h1;have h2:=ke h2;rw[bj]at h1 h2;simp only[MD]at h2;obtain⟨vo,_⟩:=gU lz.1 hl;have e1:=vo.length;have e2:=qg.length;obtain⟨vs',h3,h4⟩:=AY fY uK parts bL _ Vf (dx vs off v.cells.toList) hm lz.2 hb (qg.dx off vo);refine⟨vs',?_,h4⟩;rw[Et (uK _ _ _ _ hk hft) k8 an];exact h3

theorem WB{T:Nat}{parts:Array (Nat × Operand)}(fY:jk P ty)(hs:HS S0 φ objs w)(hρ:∀x,RV (SS S0 φ) w φ (ρA x) (a.eval x))(hop:o.op=.build T parts)
   (h:cJ ty ρA (.build T parts)=some v):Out P (execOp a.eval o) S0 φ w v objs:=by
 simp only[cJ]at h;split at h
 case h_2=>cases h
 case h_1 sz cj z jz hT =>
 have hτ:=fY _ _ hT;split at h
 case h_2=>cases h
 case h_1 cs qg =>
 cases h;have eE:=hτ.sh;simp only[bA]at eE;obtain⟨fs,hu,hf1,hf2⟩:=eE;obtain⟨zv,Ig,U8⟩:=iq hτ w
 let g:Field→Nat × Nat:=fun f=>(f.offset,((P.info? f.type).map (·.size)).getD 0)
 have hg:(fs.mapM fun f=>do pure (f.offset,← Go.sizeOf f.type):Sem (Array (Nat × Nat))).run P w=.ok (fs.map g) w:=by
  refine SF _ g fs fun f hf=>?_
  obtain⟨i,hi,_⟩:=hf2 f hf;simp[Go.sizeOf,typeInfo,hi,g]
 have uK:∀ (k off ft:Nat) (τ:Ty),dk jz k=some (off,ft)→ty ft=some τ→(fs.map g)[k]? = some (off,τ.size):=by
  intro k off ft τ hk hft;rw[bu,← hf1,eU]at hk;cases Vg:fs.toList[k]? with
  |none=>simp_all
  |some f =>
   rw[Vg]at hk;simp only[rD,Option.some.injEq,Prod.mk.injEq]at hk;obtain⟨rfl,rfl⟩:=hk;obtain⟨i,z',hi,_,arA,_⟩:=(fY _ _ hft).info
   grind
 have hz:aW (SS S0 φ) w φ (z.map fun x=>AV.d (.v x)) z:=by
  have:=aW.map (S:=SS S0 φ) (w:=w) (φ:=φ) (fun x=>AV.d (.v x)) id z (fun x _=>by simp only[RV];exact .v x)
  simp_all
 obtain ⟨vs',h1,h2⟩:=AY (S0:=S0) (φ:=φ) (w:=w) fY uK (parts.toList.map fun p=>(p.1,ρA p.2)) (parts.toList.map fun p=>(p.1,a.eval p.2)) _ cs z
  k8 aj3 qg hz
 refine aY hs (vv:=.agg vs'.toArray) ?_ (by simp only[RV];simp_all);have Ve:(parts.map fun (i,x)=>(i,a.eval x)).toList=parts.toList.map fun p=>(p.1,a.eval p.2):=by simp_all
 have hzc:zv.cells=z.toArray:=by grind
 have fm:(Instr.build T (parts.map fun (i,x)=>(i,a.eval x))).run P w=.ok (.agg vs'.toArray) w:=by
  simp only[Instr.build,Sem.run_bind,Ig,Result.andThen_ok,underlying,run_program,hu,Sem.run_pure,hg,Ve,hzc,h1]
 simp only[execOp,hop,Sem.run_bind,fm,Result.andThen_ok,Sem.run_pure]

theorem Jr{x:Operand}(hs:HS S0 φ objs w)(hρ:∀x,RV (SS S0 φ) w φ (ρA x) (a.eval x))(hop:o.op=.nilCheck x)(h:cJ ty ρA (.nilCheck x)=some v) :
  Out P (execOp a.eval o) S0 φ w v objs:=by
 simp only[cJ]at h;have hx:=hρ x;split at h
 case h_1 i off hA =>
  cases h;rw[hA]at hx;have Qc:=hx;simp only[RV]at Qc;obtain⟨b,_,he⟩:=Qc;exact aY hs (vv:=.pointer (some ⟨b,off,none⟩)) aaX aaY
 case h_2 i s r j hA =>
  cases h;rw[hA]at hx;have Qc:=hx;simp only[RV]at Qc;obtain⟨⟨b,o',he⟩,_⟩:=Qc;exact aY hs (vv:=.pointer (some ⟨b,o',none⟩)) aaX aaY
 case h_3 l hA =>
  cases h;rw[hA]at hx;have Qc:=hx;simp only[RV]at Qc;generalize he:a.eval x=vx at Qc;cases Qc with
  |@bG _ b o' cs T fr g hS hb hg hr =>
  exact aY hs (vv:=.pointer (some ⟨b,o',none⟩)) aaX aaY
 case h_4 f m c hA =>
  cases h;rw[hA]at hx;have Qc:=hx;simp only[RV]at Qc;obtain⟨va,vc,he,_⟩:=Qc;exact aY hs (vv:=.func (.func f) va.toArray vc.toArray) aaX aaY
 simp_all

theorem MP{S D:Nat}{x:Operand}(fY:jk P ty)(hs:HS S0 φ objs w)(hρ:∀x,RV (SS S0 φ) w φ (ρA x) (a.eval x))(hop:o.op=.convert S D x)(h:cJ ty ρA (.convert S D x)=some v) :
  Out P (execOp a.eval o) S0 φ w v objs:=by
 simp only[cJ]at h;have hx:=hρ x;split at h
 case h_2=>cases h
 case h_1 τS hS =>
 obtain⟨d,hu,_⟩:=(fY _ _ hS).und;split at h
 case h_1 sz cj z k k' n hD hA =>
  cases h;rw[hA]at hx;simp only[RV]at hx;generalize he:a.eval x=vx at hx;cases hx;have hd:=(fY _ _ hD).sh;simp only[bA]at hd;exact aY hs (vv:=.int k (k.wrap n)) (by simp[execOp,hop,he,convert,run_underlying hu,run_underlying hd,Conv.intToInt]) xH
 case h_2 sz cj z s hD hA =>
  cases h;rw[hA]at hx;simp only[RV]at hx;generalize he:a.eval x=vx at hx;cases hx;have hd:=(fY _ _ hD).sh;simp only[bA]at hd;exact aY hs (vv:=.string s) (by simp[execOp,hop,he,convert,run_underlying hu,run_underlying hd]) xH
 simp_all

theorem WC(fY:jk P ty)(hs:HS S0 φ objs w)(hρ:∀x,RV (SS S0 φ) w φ (ρA x) (a.eval x))(h:cJ ty ρA o.op=some v) :
  Out P (execOp a.eval o) S0 φ w v objs:=by
 cases hop:o.op<;>rw[hop]at h<;>try (simp only[cJ,reduceCtorEq]at h;done)
 case move x=>simp only[cJ,Option.some.injEq]at h;subst h;exact P8 hs hρ (.inl hop)
 case assign x=>simp only[cJ,Option.some.injEq]at h;subst h;exact P8 hs hρ (.inr hop)
 case pick c x y=>simp only[cJ]at h;exact abl hs hρ hop h
 case build T ps=>exact WB fY hs hρ hop h
 case buildSlice T n ps=>exact DJ fY hs hρ hop h
 case binOp op T x y T'=>simp only[cJ]at h;exact agC fY hs hρ hop h
 case unOp op T x=>exact akT hs hρ hop h
 case makeFunc fn x y =>
  cases fn<;>simp only[cJ,Option.some.injEq,reduceCtorEq]at h
  subst h;exact Jp hs hρ hop
 case fieldAddr T x k=>exact Gq fY hs hρ hop h
 case field T x k=>exact WA fY hs hρ hop h
 case nilCheck x=>exact Jr hs hρ hop h
 case convert S D x=>exact MP fY hs hρ hop h
 case extract x k =>
  simp only[cJ]at h;split at h
  ·rename_i l hl;exact MN hs hρ hop hl h
  ·cases h

theorem WD(fY:jk P ty)(hs:HS S0 φ objs w)(hρ:∀x,RV (SS S0 φ) w φ (ρA x) (a.eval x))(h:eX ty ρA objs o.op=some v) :
  Out P (execOp a.eval o) S0 φ w v objs:=by
 cases hop:o.op<;>rw[hop]at h<;>try (simp only[eX,reduceCtorEq]at h;done)
 case load T x=>exact Ww fY hs hρ hop h
 case call c =>
  obtain⟨WE,args,ts⟩:=c;cases WE<;>try (simp only[eX,reduceCtorEq]at h;done)
  rename_i b;cases b<;>try (simp only[eX,reduceCtorEq]at h;done)
  simp only[eX]at h;split at h
  ·rename_i x t h1 h2;split at h
   ·rename_i τ ht;split at h
    ·rename_i n hn;simp only[Option.some.injEq]at h;subst h;exact agD fY hs hρ hop h1 h2 ht (agw hn)
    ·cases h
   ·cases h
  ·cases h

theorem WG(fY:jk P ty)(hs:HS S0 φ objs w)(hρ:∀x,RV (SS S0 φ) w φ (ρA x) (a.eval x)){objs':List Ob}(h:iz ty ρA objs o.op=some (v,objs')) :
  Out P (execOp a.eval o) S0 φ w v objs':=by
 cases hop:o.op<;>rw[hop]at h<;>try (simp only[iz,reduceCtorEq]at h;done)
 case alloc T =>
  simp only[iz]at h;split at h
  ·rename_i τ ht;simp only[Option.some.injEq,Prod.mk.injEq]at h;obtain⟨rfl,rfl⟩:=h;exact Wv fY hs hop ht
  ·cases h
 case box T x =>
  simp only[iz]at h;split at h
  ·split at h
   ·rename_i l hl;obtain⟨_,h⟩:=SB h;simp only[Prod.mk.injEq]at h;obtain⟨rfl,rfl⟩:=h;exact agz hs hρ hop hl
   ·cases h
  ·cases h
 case store T d x=>exact Wx fY hs hρ hop h

theorem j0(fY:jk P ty)(hs:HS S0 φ objs w)(hρ:∀x,RV (SS S0 φ) w φ (ρA x) (a.eval x)){objs':List Ob}(h:db ty ρA objs o.op=some (v,objs')) :
  Out P (execOp a.eval o) S0 φ w v objs':=by
 unfold db at h;split at h
 ·rename_i v' rp;simp only[Option.some.injEq,Prod.mk.injEq]at h;obtain⟨rfl,rfl⟩:=h;exact WC fY hs hρ rp
 ·split at h
  ·rename_i v' rp;simp only[Option.some.injEq,Prod.mk.injEq]at h;obtain⟨rfl,rfl⟩:=h;exact WD fY hs hρ rp
  ·exact WG fY hs hρ h
end
end aw
namespace aw
open Go Go.RowKit

structure G where
 P:Program
 F:Fence
 dep:Nat
 ty:Nat→Option Ty
 N:Nat
 w0:World
 S0:Nat→Prop
 X0:Nat→Prop
 φ0:List bB
 Y:YP
 WH:Bool
 rr:List (Nat × List AV × List AV):=[]

variable{objs objs' a:List Ob}{w:World}{o:Oper}{φ:List bB}{E E':bk}{v:AV}{P:Program}{n0 k m:Nat}{g:G}
def aoj (x:String)(o:Obj):Prop :=
 (x = "internal/strconv.uint64pow10" → ∃e k,o=.cells (((List.range 20).map fun i=>((10 ^ i:Nat):Int)).map fun z=>Value.int .u64 z).toArray e k) ∧
 (x = "internal/bytealg.MaxLen" → ∃ (m:Int),∃e k,o=.cells #[.int .i64 m] e k)

def gx (P:Program)(S:Nat→Prop)(w:World):Prop :=
 ∀x,x = "internal/strconv.uint64pow10" ∨ x = "internal/bytealg.MaxLen" → ∀i,P.globalNamed x=some i→S i∧∃o,w.heap[i]? = some o∧P5 o∧aoj x o

theorem gx.iS{S S':Nat→Prop}{w w':World}(h:gx P S w)(hk:dE S w S' w'):gx P S' w':=fun x hx i hi=>by
 obtain⟨h1,o,h2,h3,h4⟩:=h x hx i hi;obtain⟨h5,h6⟩:=hk i h1 ⟨o,h2,h3⟩
 simp_all

structure c9 (g:G):Prop where
 fn:∀f,g.F.fn f
 amb:gx g.P (fun b=>g.S0 b∧¬ g.X0 b∧b<g.w0.heap.size) g.w0
 depth:g.F.depth=none
 alive:g.F.alive=false
 ty:jk g.P g.ty
 mixed:g.P.follows .mixedOrders=true

structure Fr0 (g:G) (φ:List bB) (w:World):Prop where
 size:g.w0.heap.size≤w.heap.size
 os:w.os=g.w0.os
 tape:w.tape=g.w0.tape
 out:w.output=g.w0.output
 fr:∀b,b<g.w0.heap.size→¬ g.X0 b→w.heap[b]? = g.w0.heap[b]?
 gen:∀ (i l:Nat) (I:Nat→(Nat→Prop)→(Nat→Prop)→World→Prop) (B:Nat→Prop),φ[i]? = some (.ext l I B)→∃B0,g.φ0[i]? = some (.ext l I B0)
 le:jZ g.φ0 φ

theorem c9.Eu(hg:c9 g)(h2:∀b,eD φ b→g.w0.heap.size≤b∨g.X0 b)(h6:Fr0 g φ w):gx g.P (SS g.S0 φ) w :=
 hg.amb.iS fun b hb _=>⟨⟨hb.1,fun hc=>(h2 b hc).elim (fun h=>by omega) hb.2.1⟩,h6.fr b hb.2.2 hb.2.1⟩
theorem gx.up{S S':Nat→Prop}(h:gx P S w)(hs:∀b,S b→S' b):gx P S' w:=h.iS fun b hb _=>⟨hs b hb,rfl⟩
theorem gx.at0{S X:Nat→Prop}(h:gx P S w)(hx:∀b,S b→¬ X b):gx P (fun b=>S b∧¬ X b∧b<w.heap.size) w:=h.iS fun b hb ⟨_,ho,_⟩=>⟨⟨hb,hx b hb,MK ho⟩,rfl⟩

theorem Fr0.Jk{φ φ':List bB}(h:Fr0 g φ w)(he:∀ (i l:Nat) (I:Nat→(Nat→Prop)→(Nat→Prop)→World→Prop) (B:Nat→Prop),φ'[i]? = some (bB.ext l I B)→∃ (B0:Nat→Prop),φ[i]? = some (bB.ext l I B0))(hl:jZ g.φ0 φ'):Fr0 g φ' w :=
 ⟨h.size,h.os,h.tape,h.out,h.fr,fun i l I B hi=>let ⟨_,h0⟩:=he i l I B hi;h.gen _ _ _ _ h0,hl⟩
def kY (S:Nat→Prop)(w:World)(φ:List bB)(E:bk)(a:Act):Prop:=∀t,RV S w φ (lk E t) (a.tmps.getD t undef)

def DK (g:G)(φ:List bB)(ds:List Deferred)(w:World):Prop :=
 (g.WH=false→ds=[])∧ds.Nodup∧∀d∈ds,∃D,d={ target:=.collected D,args:=#[] }∧g.w0.heap.size≤D∧¬ eD φ D∧w.heap[D]? = some (.deferred (some []))

def vW (S:Nat→Prop) (w:World) (φ:List bB):List (Nat × List AV × List AV)→List Deferred→Prop
 |[],[]=>True
 |(f,fs,cs)::l,d::ds=>(∃va vc:List Value,d={ target:=.fn (.func f) vc.toArray,args:=va.toArray }∧aW S w φ fs va∧aW S w φ cs vc)∧vW S w φ l ds
 |_,_=>False

def Iq (g:G)(φ:List bB)(ds:List Deferred)(w:World):Prop:=∃ds1 rl,ds=ds1++rl∧DK g φ ds1 w∧vW (SS g.S0 φ) w φ g.rr rl

theorem vW.mono{S S':Nat→Prop}{w w':World}{φ φ':List bB}(hk:dE S w S' w')(hl:jZ φ φ'):∀ {l:List (Nat × List AV × List AV)} {ds:List Deferred},vW S w φ l ds→vW S' w' φ' l ds
 |[],[],_=>trivial
 |[],_::_,h=>by simp[vW]at h
 |_::_,[],h=>by simp[vW]at h
 |(f,fs,cs)::l,d::ds,h=>by
  obtain⟨⟨va,vc,h1,h2,h3⟩,h4⟩:=h;exact⟨⟨va,vc,h1,h2.mono hk hl,h3.mono hk hl⟩,h4.mono hk hl⟩

theorem vW.nil{S:Nat→Prop}{w:World}{φ:List bB}{ds:List Deferred}(h:vW S w φ [] ds):ds=[]:=by
 cases ds with
 |nil=>rfl
 |cons d ds=>simp[vW]at h
theorem Iq.none{ds:List Deferred}(jB:g.rr=[])(h:DK g φ ds w):Iq g φ ds w:=⟨ds,[],by simp,h,by rw[jB];trivial⟩

theorem Iq.only{ds:List Deferred}(jB:g.rr=[])(h:Iq g φ ds w):DK g φ ds w:=by
 obtain⟨ds1,rl,e,h1,h2⟩:=h;rw[jB]at h2;rw[e,h2.nil,vJ];exact h1

def fe (g:G)(E:bk)(objs:List Ob)(a:Act)(w:World):Prop :=
 ∃φ,HS g.S0 φ objs w∧(∀b,eD φ b→g.w0.heap.size≤b∨g.X0 b)∧kY (SS g.S0 φ) w φ E a∧a.tmps.size=g.N∧Iq g φ a.defers w∧Fr0 g φ w
def bM (x y:AV):Prop:=∀S w φ v,RV S w φ x v→RV S w φ y v
theorem bM.refl(x:AV):bM x x:=fun _ _ _ _ h=>h
theorem bM.trans{x y z:AV}(h:bM x y)(k:bM y z):bM x z:=fun S w φ v hv=>k S w φ v (h S w φ v hv)
theorem bM.any(x:AV):bM x .any:=fun _ _ _ _ _=>by simp[RV]
def zG (E E':bk):Prop:=∀t,bM (lk E t) (lk E' t)

theorem fe.zH{a:Act}(h:zG E E')(hs:fe g E objs a w):fe g E' objs a w:=by
 obtain⟨φ,h1,h2,h3,h4⟩:=hs;exact⟨φ,h1,h2,fun t=>h t _ _ _ _ (h3 t),h4⟩

theorem sX{a b:Nat}(h:a≠b):Nat.beq a b=false:=by
 cases hb:Nat.beq a b
 ·rfl
 simp_all

theorem akY(E:bk)(t u:Nat):lk (rm E t) u=if t=u then .any else lk E u:=by
 induction E with
 |nil=>simp[rm,lk]
 |cons x r ih =>
  obtain⟨k,v⟩:=x;simp only[rm,lk];cases hk:Nat.beq k t
  ·simp only [cond_false,lk]
   grind
  ·have:=cp hk; subst this;simp only[cond_true,ih];by_cases hku:k=u
   ·subst hku;simp
   ·have:Nat.beq k u=false:=sX hku
    simp_all

theorem xS(E:bk)(t u:Nat)(v:AV):lk (put E t v) u=if t=u then v else lk E u:=by
 simp only[put,lk];by_cases h:t=u
 ·subst h;simp
 ·have:Nat.beq t u=false:=sX h;simp[this,akY,h]

theorem gg(E:bk)(d:Option Nat)(u:Nat)(v:AV):lk (bf E d v) u=if d=some u then v else lk E u:=by
 cases d with
 |none=>simp[bf]
 |some t=>simp[bf,xS]

theorem zG.bf{E E':bk}(h:zG E E')(d:Option Nat){v v':AV}(hv:bM v v'):zG (bf E d v) (bf E' d v'):=fun t=>by
 rw[gg,gg];split
 ·exact hv
 ·exact h t

inductive cC where
 |still |look (m:Nat) |bO (b:Nat)
 deriving DecidableEq

@[match_pattern] abbrev cC.load:cC:=.look 1
@[match_pattern] abbrev cC.Qd:cC:=.look 3
@[match_pattern] abbrev cC.grow:cC:=.bO 1
@[match_pattern] abbrev cC.ji:cC:=.bO 9

def qQ (pf:Nat→cC):cC :=
 match pf 4000000007 with
 | .look 3=>.look 3
 |_=>.look 1

def Ew (pf:Nat→cC):cC :=
 match pf 4000000006 with
 | .bO 200=>.still
 | .bO 201=>.look 10001
 |_=>qQ pf

def Qe (pf:Nat→cC):cC :=
 match pf 4000000004 with
 | .bO 1=>.bO 1
 |_=>qQ pf

def Qf (pf:Nat→cC):cC :=
 match pf 4000000005 with
 | .bO 0=>.bO 0
 |_=>.still

def jC (pf:Nat→cC)(t:Nat):Bool :=
 match pf (Nat.add 4000100000 t) with
 | .look m=>Nat.blt 3 m
 | .bO n=>Nat.ble 100 n
 |_=>false

def kA (pf:Nat→cC):Operand→cC
 | .tmp t=>match pf (Nat.add 4000100000 t) with
  | .look m=>bif Nat.blt 3 m then (bif Nat.beq m 200 then .still else .look m) else qQ pf
  | .bO n=>bif Nat.ble 100 n then .look 0 else qQ pf
  |_=>qQ pf
 |_=>qQ pf

def iZ (pf:Nat→cC):Operand→cC
 | .tmp t=>match pf (Nat.add 4000100000 (Nat.add 100000 t)) with
  | .bO n=>bif Nat.ble 100 n then .bO n else .ji
  |_=>.ji
 |_=>.ji

def mW (pf:Nat→cC)(args:Array Operand):cC :=
 match args.toList with
 |[.tmp t]=>match pf (Nat.add 4000100000 (Nat.add 200000 t)) with
  | .look m=>bif Nat.blt 3 m then .look m else .load
  |_=>.load
 |_=>.load

def ak1 (pf:Nat→cC):cC :=
 match pf 4000000008 with
 | .bO 3=>.bO 3
 |_=>.ji

def Gu (pf:Nat→cC):cC :=
 match pf 4000000010 with
 | .bO 90=>.ji
 |_=>.still

def Ob.lvl (n0 i:Nat):Ob→Nat
 | .arr _ _ _=>1
 | .Ij _ _=>1
 | .qe _ _ _=>1
 | .map _=>2
 | .tI _=>2
 |_=>if i<n0 then 3 else 10

def Ob.IH:Ob→Bool
 | .box _=>true
 |_=>false
def o4 (n0 k i:Nat)(x:Ob):Prop:=(k<100∧x.lvl n0 i≤k)∨k=100+i∨(k=10000∧x.IH=true)

theorem Ob.Gv(n0 i:Nat)(x:Ob):1≤x.lvl n0 i∧x.lvl n0 i≤10:=by
 unfold Ob.lvl
 grind

def Gr (n0 k:Nat)(objs objs':List Ob):Prop:=∀ (i:Nat) (x:Ob),objs[i]? = some x→∃y,objs'[i]? = some y∧(y=x∨(o4 n0 k i x∧o4 n0 k i y))

def okT (b m:Nat):Bool:=Nat.blt 0 m&&(Nat.beq b 0 || (Nat.blt b m&&Nat.blt b 9&&Nat.blt m 100) || (Nat.ble 100 b&&Nat.beq m (Nat.succ b)))

theorem vS{b m:Nat}(h:okT b m=true):0<m∧b≠9∧(b=0∨(b<m∧m<100)∨m=b+1):=by
 simp only[okT,aV,mS,Nat.blt_eq,I6,Nat.beq_eq]at h;omega
theorem Gr.refl(o:List Ob):Gr n0 k o o:=fun _ x h=>⟨x,h,.inl rfl⟩

theorem Gr.mono{n0 b m:Nat}{a c:List Ob}(h:Gr n0 b a c)(hk:okT b (m+1)=true):Gr n0 m a c:=fun i x hx=>by
 obtain⟨y,h1,h2⟩:=h i x hx;obtain⟨_,_,h3⟩:=vS hk;refine⟨y,h1,h2.imp id fun ⟨p,q⟩=>?_⟩;have hx:=x.Gv n0 i;have hy:=y.Gv n0 i
 have key:∀z:Ob,1≤z.lvl n0 i→o4 n0 b i z→o4 n0 m i z:=fun z hz h=>by
  unfold o4 at h ⊢;rcases h3 with h3 |h3 |h3
  ·rcases h with h |h |h<;>omega
  ·rcases h with h | h | h
   ·exact .inl an
   ·omega
   ·omega
  ·have e:b=m:=by omega
   rw[← e];exact h
 simp_all

theorem Gr.trans{a b c:List Ob}(h:Gr n0 k a b)(h':Gr n0 k b c):Gr n0 k a c:=fun i x hx=>by
 obtain⟨y,h1,h2⟩:=h i x hx;obtain⟨z,h3,h4⟩:=h' i y h1
 grind

theorem Gr.cmp{a b c:List Ob}(h:Gr n0 k a c)(h':Gr n0 k b c):Gr n0 k a b∨Gr n0 k b a:=by
 have key:∀ {a b:List Ob},Gr n0 k a c→Gr n0 k b c→a.length≤b.length→Gr n0 k a b:=fun {a b} h h' hl i x hx=>by
  have hi:=(bC.1 hx).1;obtain⟨z,h1,h2⟩:=h i x hx;obtain⟨z',h3,h4⟩:=h' i b[i] (dY an);rw[h1]at h3;cases h3;refine⟨b[i],dY an,?_⟩;rcases h2 with rfl |⟨h2,MO⟩
  ·rcases h4 with h4 | ⟨h4,h4'⟩
   ·exact .inl h4.symm
   ·exact .inr ⟨h4',h4⟩
  ·rcases h4 with h4 | ⟨h4,h4'⟩
   ·rw[← h4];exact .inr ⟨h2,MO⟩
   ·exact .inr ⟨h2,h4⟩
 grind
theorem Gr.add(a b:List Ob):Gr n0 k a (a++b):=fun i x hx=>⟨x,by grind,.inl rfl⟩

theorem Gr.Ex{n0 k i:Nat}{a b:List Ob}{x:Ob}(h:Gr n0 k a b∨Gr n0 k b a)(hx:b[i]? = some x)(hi:i<a.length)(hl:¬ o4 n0 k i x):a[i]? = some x:=by
 rcases h with h |h
 ·obtain ⟨y,h1,h2⟩:=h i a[i] (dY hi)
  simp_all
 ·obtain ⟨y,h1,h2⟩:=h i x hx
  simp_all

theorem Gr.same{n0 k i:Nat}{a b:List Ob}{x:Ob}(h:Gr n0 k a b∨Gr n0 k b a)(hx:b[i]? = some x)(hi:i<a.length)(hl:k<x.lvl n0 i):a[i]? = some x :=
 Gr.Ex h hx hi (by have:=x.Gv n0 i;unfold o4;omega)

def bI (pf:Nat→cC)(o:Op):cC :=
 match o with
 | .load _ a=>kA pf a
 | .lookup .. => .look 2
 | .call { callee:=.builtin .len,args,.. }=>mW pf args
 | .call { callee:=.builtin .unsafeSliceData,.. }=>.load
 | .call { callee:=.value (.func f),.. }=>pf f
 | .call { callee:=.builtin .append,.. }=>.grow
 | .call { callee:=.value (.tmp _),.. }=>ak1 pf
 | .call _=>.ji
 | .alloc .. => .bO 0
 | .box .. => .bO 0
 | .store _ a _=>iZ pf a
 | .makeMap .. => .bO 0
 | .makeSlice .. => .bO 0
 | .mapUpdate .. => .bO 2
 | .insert .. => .bO 2
 | .slice .. => Qe pf
 | .buildSlice .. => Qf pf
 | .indexAddr .. => Ew pf
 | .index .. => qQ pf
 | .convert .. => Gu pf
 | .defer .. => .ji
 | .range .. => .ji
 | .next .. => .ji
 |_=>.still

def WI (g:G)(ad:Array Oper)(o:Oper)(K:Act→World→Prop)(a:Act)(w:World):Prop :=
 ∀Q:Exit→Act→World→Prop,if Region.wanted o (yielded ad a.tmps) then o.wpIn g.F g.dep g.P a w K Q else (∀f,o.about g.P w a.eval=some f→g.F.fn f)∧K (a.put o.dst undef) w

structure aI (g:G) (ad:Array Oper) (o:Oper) (E:bk) (objs:List Ob) (c:cC) (v:AV) (objs':List Ob):Prop where
 same:(∀b,c≠.bO b)→objs'=objs
 grow:∀b,c=.bO b→b≠9→Gr g.φ0.length b objs objs'
 step:∀ (E₁:bk) (bP kB:List Ob) (a:Act) (w:World),(∀ t∈o.looksAt ad,bM (lk E₁ t) (lk E t)) →
  ((c=.still∧kB=bP)∨(∃m,c=.look (m+1)∧(Gr g.φ0.length m bP objs∨Gr g.φ0.length m objs bP)∧kB=bP)∨(bP=objs∧kB=objs'))→fe g E₁ bP a w→WI g ad o (fun a' w'=>fe g (bf E₁ o.dst v) kB a' w') a w

structure AZ (g:G) (ad:Array Oper) (o:Oper) (E:bk) (objs:List Ob) (c:cC) (v:AV) (objs':List Ob):Prop where
 same:(∀b,c≠.bO b)→objs'=objs
 grow:∀b,c=.bO b→b≠9→Gr g.φ0.length b objs objs'
 step:∀ (E₁:bk) (bP kB:List Ob) (a:Act) (w:World),(∀ t∈o.looksAt ad,bM (lk E₁ t) (lk E t)) →
  ((c=.still∧kB=bP)∨(∃m,c=.look (m+1)∧Gr g.φ0.length m bP objs∧kB=bP)∨(bP=objs∧kB=objs'))→fe g E₁ bP a w→WI g ad o (fun a' w'=>fe g (bf E₁ o.dst v) kB a' w') a w

theorem aI.front{ad:Array Oper}{c:cC}(h:aI g ad o E objs c v objs'):AZ g ad o E objs c v objs' :=
 ⟨h.same,h.grow,fun E₁ o₁ jl a w h1 h2 h3=>h.step E₁ o₁ jl a w h1 (h2.imp id (Or.imp (fun ⟨m,x,y,z⟩=>⟨m,x,.inl y,z⟩) id)) h3⟩

def Dr (g:G) (pf:Nat→cC) (ad:Array Oper):List Oper→bk→List Ob→(bk→List Ob→Prop)→Prop
 |[],E,objs,K=>K E objs
 |o::r,E,objs,K=>∃v objs',aI g ad o E objs (bI pf o.op) v objs'∧Dr g pf ad r (bf E o.dst v) objs' K
def KC (K:bk→List Ob→Prop):Prop:=∀E E' objs,zG E E'→K E' objs→K E objs

def gE (pf:Nat→cC)(ad:Array Oper)(x y:Oper):Bool :=
 (match x.dst with
   |some d=>(y.looksAt ad).contains d || y.dst==some d
   |none=>false) ||
 (match y.dst with
   |some d=>(x.looksAt ad).contains d
   |none=>false) ||
 (match bI pf x.op,bI pf y.op with
   | .still,_=>false
   |_,.still=>false
   | .look _,.look _=>false
   | .look m,.bO b=>!(okT b m)
   | .bO b,.look m=>!(okT b m)
   |_,_=>true)
variable {g:G} {pf:Nat→cC} {ad:Array Oper}

theorem aI.zH{c:cC}(h:aI g ad o E' objs c v objs')(he:zG E E'):aI g ad o E objs c v objs' :=
 ⟨h.same,h.grow,fun E₁ o₁ jl a w h1 h2 h3=>h.step E₁ o₁ jl a w (fun t ht=>(h1 t ht).trans (he t)) h2 h3⟩

theorem aI.looks{c:cC}(h:aI g ad o E' objs c v objs')(he:∀t∈o.looksAt ad,lk E t=lk E' t):aI g ad o E objs c v objs' :=
 ⟨h.same,h.grow,fun E₁ o₁ jl a w h1 h2 h3=>h.step E₁ o₁ jl a w (fun t ht=>by simp_all) h2 h3⟩

theorem AZ.looks{c:cC}(h:AZ g ad o E' objs c v objs')(he:∀t∈o.looksAt ad,lk E t=lk E' t):AZ g ad o E objs c v objs' :=
 ⟨h.same,h.grow,fun E₁ o₁ jl a w h1 h2 h3=>h.step E₁ o₁ jl a w (fun t ht=>by simp_all) h2 h3⟩

theorem aI.still{o:Oper}{E:bk}{objs objs':List Ob}{v:AV}(h:aI g ad o E objs .still v objs')(dW:List Ob):aI g ad o E dW .still v dW :=
 ⟨fun _=>rfl,(fun _ h=>by cases h),fun E₁ o₁ jl a w h1 h2 h3=>by
  have h5:jl=o₁:=by
   grind
  exact h.step E₁ o₁ jl a w h1 (.inl ⟨rfl,h5⟩) h3⟩

theorem AZ.still{o:Oper}{E:bk}{objs objs':List Ob}{v:AV}(h:AZ g ad o E objs .still v objs')(dW:List Ob):AZ g ad o E dW .still v dW :=
 ⟨fun _=>rfl,(fun _ h=>by cases h),fun E₁ o₁ jl a w h1 h2 h3=>by
  have h5:jl=o₁:=by
   grind
  exact h.step E₁ o₁ jl a w h1 (.inl ⟨rfl,h5⟩) h3⟩

theorem AZ.down{objs dW objs':List Ob}(h:AZ g ad o E objs (.look (m+1)) v objs')(hg:Gr g.φ0.length m dW objs):AZ g ad o E dW (.look (m+1)) v dW :=
 ⟨fun _=>rfl,(fun _ h=>by cases h),fun E₁ o₁ jl a w h1 h2 h3=>by
  have h5:Gr g.φ0.length m o₁ dW∧jl=o₁:=by
   rcases h2 with ⟨h2,_⟩ |⟨m',h2,h4⟩ |⟨h2,h4⟩
   ·cases h2
   ·simp_all
   ·subst h2;exact⟨.refl _,h4⟩
  exact h.step E₁ o₁ jl a w h1 (.inr (.inl ⟨m,rfl,h5.1.trans hg,h5.2⟩)) h3⟩

theorem aI.later{objs dW objs':List Ob}(h:aI g ad o E objs (.look (m+1)) v objs')(hg:Gr g.φ0.length m objs dW):aI g ad o E dW (.look (m+1)) v dW :=
 ⟨fun _=>rfl,(fun _ h=>by cases h),fun E₁ o₁ jl a w h1 h2 h3=>by
  have h5:(Gr g.φ0.length m o₁ objs∨Gr g.φ0.length m objs o₁)∧jl=o₁:=by
   rcases h2 with ⟨h2,_⟩ |⟨m',h2,MO |MO,h4⟩ |⟨h2,h4⟩
   ·cases h2
   ·cases h2;exact⟨MO.cmp hg,h4⟩
   ·cases h2;exact⟨.inr (hg.trans MO),h4⟩
   simp_all
  exact h.step E₁ o₁ jl a w h1 (.inr (.inl ⟨m,rfl,h5.1,h5.2⟩)) h3⟩

theorem Dr.zH{K:bk→List Ob→Prop}(hK:KC K):∀ {l:List Oper} {E E':bk} {objs:List Ob},zG E E'→Dr g pf ad l E' objs K→Dr g pf ad l E objs K
 |[],_,_,_,he,h=>hK _ _ _ he h
 |_::_,_,_,_,he,h=>by
  obtain⟨v,objs',h1,h2⟩:=h;exact⟨v,objs',h1.zH he,Dr.zH hK (he.bf _ (.refl _)) h2⟩

theorem SG{x y:Oper}(h:gE pf ad x y=false) :
  (∀d,x.dst=some d→d ∉ y.looksAt ad∧y.dst≠some d)∧(∀d,y.dst=some d→d ∉ x.looksAt ad) ∧
  (bI pf y.op=.still∨bI pf x.op=.still∨(∃m m',bI pf y.op=.look m∧bI pf x.op=.look m')∨(∃m b,bI pf y.op=.look (m+1)∧bI pf x.op=.bO b∧okT b (m+1)=true)∨(∃m b,bI pf y.op=.bO b∧bI pf x.op=.look (m+1)∧okT b (m+1)=true)):=by
 simp only[gE,DI]at h;obtain⟨⟨h1,h2⟩,h3⟩:=h;refine⟨fun d hd=>?_,fun d hd=>?_,?_⟩
 ·simp_all
 ·simp_all
 ·cases hy:bI pf y.op with
  |still=>exact .inl rfl
  |look m =>
   cases hx:bI pf x.op with
   |still=>simp_all
   |look m'=>simp_all
   |bO b =>
    rw[hx,hy]at h3;simp only[Sq]at h3;exact akI
  |bO b =>
   cases hx:bI pf x.op with
   |still=>simp_all
   |look m =>
    rw[hx,hy]at h3;simp only[Sq]at h3;exact akI
   |bO b'=>simp_all

theorem Dr.front{K:bk→List Ob→Prop}(hK:KC K){y:Oper}{post:List Oper}:∀ {pre:List Oper} {E:bk} {objs:List Ob},(∀x∈pre,gE pf ad x y=false) →
  Dr g pf ad (pre++y::post) E objs K→∃v objs',AZ g ad y E objs (bI pf y.op) v objs'∧Dr g pf ad (pre++post) (bf E y.dst v) objs' K
 |[],_,_,_,⟨v,o1,h1,h2⟩=>⟨v,o1,h1.front,h2⟩
 |x::pre,E,objs,hc,⟨vx,o1,hx,h2⟩=>by
  obtain⟨vy,o2,hy,hr⟩:=Dr.front hK (fun z hz=>hc z (by simp[hz])) h2;obtain⟨c1,c2,c3⟩:=SG (hc x aC)
  have ey:∀t∈y.looksAt ad,lk E t=lk (bf E x.dst vx) t:=fun t ht=>by
   rw[gg];grind
  have ex:∀t∈x.looksAt ad,lk (bf E y.dst vy) t=lk E t:=fun t ht=>by
   rw[gg];grind
  have WJ:zG (bf (bf E y.dst vy) x.dst vx) (bf (bf E x.dst vx) y.dst vy):=fun t=>by
   rw[gg,gg,gg,gg];by_cases h1:x.dst=some t<;>by_cases h2:y.dst=some t
   ·simp_all
   ·simp[h1,h2,bM.refl]
   ·simp[h1,h2,bM.refl]
   ·simp[h1,h2,bM.refl]
  rcases c3 with c |c |⟨m,m',c,c'⟩ |⟨m,b,c,c',hbm⟩ |⟨m,b,c,c',hbm⟩
  ·rw [c] at hy;have e2:o2=o1:=hy.same aC;subst e2;refine⟨vy,objs,?_,vx,o2,hx.looks ex,Dr.zH hK WJ hr⟩;rw[c];exact(hy.still objs).looks ey
  ·rw [c] at hx;have e1:o1=objs:=hx.same aC;subst e1;refine⟨vy,o2,hy.looks ey,vx,o2,?_,Dr.zH hK WJ hr⟩;rw[c];exact(hx.still o2).looks ex
  ·have e1:o1=objs:=hx.same (by rw [c']; simp);have e2:o2=o1:=hy.same (by rw[c];simp);subst e1;subst e2;exact⟨vy,o2,hy.looks ey,vx,o2,hx.looks ex,Dr.zH hK WJ hr⟩
  ·have hgr:Gr g.φ0.length m objs o1:=(hx.grow b c' (vS hbm).2.1).mono hbm;rw[c]at hy;have e2:o2=o1:=hy.same aC;subst e2;refine⟨vy,objs,?_,vx,o2,hx.looks ex,Dr.zH hK WJ hr⟩;rw[c];exact(hy.down hgr).looks ey
  ·rw [c'] at hx;have e1:o1=objs:=hx.same aC;subst e1;refine⟨vy,o2,hy.looks ey,vx,o2,?_,Dr.zH hK WJ hr⟩;rw[c'];exact(hx.later ((hy.grow b c (vS hbm).2.1).mono hbm)).looks ex
end aw
namespace aw
open Go Go.RowKit

variable{Q:Exit→Act→World→Prop}{K:bk→List Ob→Prop}{aL:Array Bool}{objs:List Ob}{w:World}{a:Act}{i:Nat}{o:Oper}{E:bk}
def fL (acc:List Nat)(o:Oper):Nat :=
 o.after.toList.foldl (fun s e=>bif Region.binds .any e then s ||| 2 ^ e.on ||| (dk acc e.on).getD 0 else s) 0

def Qg (pf:Nat→cC) (ad:Array Oper):List Oper→List Nat→List Oper→Bool
 |_,_,[]=>true
 |du,acc,o::r =>
  (o.after.toList.all fun e=>!Region.binds .any e || Nat.blt e.on (len du)) &&
  (du.zipIdx.all fun x=>!gE pf ad x.1 o || (fL acc o).testBit x.2) &&
  Qg pf ad (du++[o]) (acc++[fL acc o]) r
def Qh (pf:Nat→cC)(ad:Array Oper):Bool:=Qg pf ad [] [] ad.toList

inductive Reach (ad:Array Oper):Nat→Nat→Prop
 |one {i j:Nat} {o:Oper} {e:Edge} (h:ad[j]? = some o) (he:e∈o.after.toList) (hb:Region.binds .any e=true) (hi:e.on=i):Reach ad i j
 |step {i j k:Nat} {o:Oper} {e:Edge} (h:ad[j]? = some o) (he:e∈o.after.toList) (hb:Region.binds .any e=true) (hk:e.on=k) (hr:Reach ad i k):Reach ad i j

theorem MG{acc:List Nat}(h:(fL acc o).testBit i=true) :
  ∃e∈o.after.toList,Region.binds .any e=true∧(e.on=i∨∃m,acc[e.on]? = some m∧m.testBit i=true):=by
 have key:∀ (l:List Edge) (s:Nat),(l.foldl (fun s e=>bif Region.binds .any e then s ||| 2 ^ e.on ||| (dk acc e.on).getD 0 else s) s).testBit i=true →
   s.testBit i=true∨∃e∈l,Region.binds .any e=true∧(e.on=i∨∃m,acc[e.on]? = some m∧m.testBit i=true):=by
  intro l;induction l with
  |nil=>simp_all
  |cons e l ih =>
   intro s h;simp only[vI]at h;rcases ih _ h with h |⟨e',h1,h2⟩
   ·cases hb:Region.binds .any e
    ·rw[hb]at h;exact .inl h
    ·rw [hb] at h;simp only[cond_true,Nat.testBit_or,mS]at h;rcases h with (h |h) |h
     ·exact .inl h
     ·rw [Nat.testBit_two_pow] at h;exact .inr ⟨e,by simp,hb,.inl l6⟩
     ·rw [bu] at h;cases hm:acc[e.on]? with
      |none=>rw[hm]at h;simp at h
      |some m=>rw[hm]at h;exact .inr ⟨e,by simp,hb,.inr ⟨m,hm,by simpa using h⟩⟩
   grind
 rcases key o.after.toList 0 h with h |h
 ·simp at h
 ·exact h
section
variable {pf:Nat→cC} {ad:Array Oper}

def Gw (p q:Nat) (pf:Nat→cC) (ad:Array Oper):List Oper→List Nat→List Oper→Bool
 |_,_,[]=>true
 |du,acc,o::r =>
  (o.after.toList.all fun e=>!Region.binds .any e || Nat.blt e.on (len du)) &&
  (du.zipIdx.all fun x=>!gE pf ad x.1 o || (fL acc o).testBit x.2 || (Nat.beq x.2 p&&Nat.beq (len du) q)) &&
  (Nat.ble (len du) q || (fL acc o).testBit p || (fL acc o).testBit q) &&
  Gw p q pf ad (du++[o]) (acc++[fL acc o]) r
def agH (p q:Nat)(pf:Nat→cC)(ad:Array Oper):Bool:=Nat.beq (Nat.succ p) q&&Nat.blt q (len ad.toList)&&Gw p q pf ad [] [] ad.toList

theorem A0:∀ (ax du:List Oper) (acc:List Nat),ad.toList=du++ax→acc.length=du.length→(∀j i m,acc[j]? = some m→m.testBit i=true→Reach ad i j)→Qg pf ad du acc ax=true →
  ∀ (j:Nat) (o:Oper),du.length≤j→ad[j]? = some o→(∀e∈o.after.toList,Region.binds .any e=true→e.on<j)∧∀ (i:Nat) (x:Oper),i<j→ad[i]? = some x→gE pf ad x o=true→Reach ad i j
 |[],du,acc,h,_,_,_,j,o,hj,ho=>by
  grind
 |o'::r,du,acc,h,hl,hr,hg,j,o,hj,ho=>by
  simp only[Qg,aV]at hg;obtain⟨⟨h1,h2⟩,h3⟩:=hg;have Gi:ad[du.length]? = some o':=by rw[← Array.getElem?_toList,h];simp
  have hm:∀i,(fL acc o').testBit i=true→Reach ad i du.length:=fun i hi=>by
   exact abe
  rcases aa4 hj with hj |hj
  ·subst hj;rw[Gi]at ho;cases ho;refine⟨fun e he MQ=>?_,fun i x hi hx hc=>?_⟩
   ·have:=fk.1 h1 e he;rw[bj]at this
    simp_all
   ·have hmem:(x,i)∈du.zipIdx:=by
     rw[V7];rw[← Array.getElem?_toList,h,jx hi]at hx;exact hx
    grind
  ·refine A0 r (du++[o']) (acc++[fL acc o']) (by rw [h]; simp) (by simp [hl]) (fun j i m hj hi=>?_) h3 j o I1 ho
   grind

theorem yQ{p q:Nat}:∀ (ax du:List Oper) (acc:List Nat),ad.toList=du++ax→acc.length=du.length→(∀j i m,acc[j]? = some m→m.testBit i=true→Reach ad i j)→Gw p q pf ad du acc ax=true →
  ∀ (j:Nat) (o:Oper),du.length≤j→ad[j]? = some o→(∀e∈o.after.toList,Region.binds .any e=true→e.on<j)∧(∀ (i:Nat) (x:Oper),i<j→ad[i]? = some x→gE pf ad x o=true→Reach ad i j∨(i=p∧j=q))∧(q<j→Reach ad p j∨Reach ad q j)
 |[],du,acc,h,_,_,_,j,o,hj,ho=>by
  grind
 |o'::r,du,acc,h,hl,hr,hg,j,o,hj,ho=>by
  simp only[Gw,aV]at hg;obtain⟨⟨⟨h1,h2⟩,h4⟩,h3⟩:=hg;have Gi:ad[du.length]? = some o':=by rw[← Array.getElem?_toList,h];simp
  have hm:∀i,(fL acc o').testBit i=true→Reach ad i du.length:=fun i hi=>by
   exact abe
  rcases aa4 hj with hj |hj
  ·subst hj;rw[Gi]at ho;cases ho;refine⟨fun e he MQ=>?_,fun i x hi hx hc=>?_,fun hq=>?_⟩
   ·have:=fk.1 h1 e he;rw[bj]at this
    simp_all
   ·have hmem:(x,i)∈du.zipIdx:=by
     rw[V7];rw[← Array.getElem?_toList,h,jx hi]at hx;exact hx
    have:=fk.1 h2 _ hmem;simp only[hc,xK,zA,mS,aV]at this;rcases this with this |⟨g1,g2⟩
    ·simp_all
    ·rw[bj]at g2;simp_all
   ·simp only [mS,bj,I6] at h4
    grind
  ·refine yQ r (du++[o']) (acc++[fL acc o']) (by rw [h]; simp) (by simp [hl]) (fun j i m hj hi=>?_) h3 j o I1 ho
   grind

theorem A1(h:Qh pf ad=true)(j:Nat)(o:Oper)(ho:ad[j]? = some o) :
  (∀e∈o.after.toList,Region.binds .any e=true→e.on<j)∧∀ (i:Nat) (x:Oper),i<j→ad[i]? = some x→gE pf ad x o=true→Reach ad i j :=
 A0 ad.toList [] [] rfl rfl aC h j o fy ho

def Cl (ad:Array Oper)(aL:Array Bool):Prop :=
 ∀ (k:Nat) (o:Oper),aL.getD k false=true→ad[k]? = some o→∀e∈o.after.toList,Region.binds .any e=true→aL.getD e.on false=true

theorem kC(hc:Cl ad aL){i j:Nat}(h:Reach ad i j) :
  (∀ (o:Oper),ad[j]? = some o→∀e∈o.after.toList,Region.binds .any e=true→aL.getD e.on false=true)→aL.getD i false=true:=by
 induction h with
 |one h he hb hi=>grind
 |step h he hb hk hr ih =>
  intro hj;refine ih fun o ho e' zD uc=>?_
  exact hc _ o q5 ho e' zD uc

theorem mem_ready:i∈Region.ready .any ad aL↔i<ad.size∧aL.getD i true=false∧∃o,ad[i]? = some o∧∀e∈o.after.toList,Region.binds .any e=true→aL.getD e.on false=true:=by
 unfold Region.ready;simp only[List.mem_filter,zC,aV,Bool.not_eq_eq_eq_not,xK];constructor
 ·rintro ⟨h1,h2,h3⟩;refine⟨h1,h2,ad[i],mA7 h1,fun e he hb=>?_⟩;rw[mA7 h1]at h3;simp only[rD,Option.getD_some]at h3;have:=Array.all_eq_true_iff_forall_mem.1 h3 e (by simpa using he);simpa[hb]using this
 grind
variable {g:G}

theorem mX{p q:Nat}(dw:∀ (j:Nat) (o:Oper),ad[j]? = some o→(∀e∈o.after.toList,Region.binds .any e=true→e.on<j)∧∀ (i:Nat) (x:Oper),i<j→ad[i]? = some x→gE pf ad x o=true→Reach ad i j∨(i=p∧j=q))(hK:KC K)(hQ:∀E objs a w,K E objs→fe g E objs a w→Q .normal a w) :
  ∀ (ab:Nat) (aL:Array Bool) (R:List Nat) (E:bk) (objs:List Ob) (a:Act) (w:World),aL.size=ad.size→Cl ad aL→(∀ i,i∈R↔i<ad.size∧aL.getD i true=false)→R.Pairwise (· < ·)→R.length≤ab→(p ∉ R∨q ∉ R) →
   Dr g pf ad (R.filterMap (ad[·]?)) E objs K→fe g E objs a w→wpAnyIn g.F g.dep g.P .any ad Q ab aL a w:=by
 intro ab;induction ab with
 |zero =>
  intro aL R E objs a w tQ hc hR _ hf hpq hd hs;have:R=[]:=jy.1 an;subst this;refine⟨?_,hQ E objs a w hd hs⟩;apply aa5.2;intro i hi;obtain⟨h1,h2,_⟩:=mem_ready.1 hi
  simp_all
 |succ ab ih =>
  intro aL R E objs a w tQ hc hR hp hf hpq hd hs;refine⟨fun Ji=>?_,fun i hi=>?_⟩
  ·cases R with
   |nil=>exact hQ E objs a w hd hs
   |cons k R' =>
    exfalso;obtain⟨aR,oz⟩:=(hR k).1 aC;have ho:ad[k]? = some ad[k]:=mA7 aR
    have:k∈Region.ready .any ad aL:=by
     refine mem_ready.2 ⟨aR,oz,ad[k],ho,fun e he hb=>?_⟩;have fu:=(dw k _ ho).1 e he hb
     have xN:e.on ∉ (k::R'):=fun hm=>by
      rcases eL.1 hm with hm |hm
      ·omega
      ·have:=(xz.1 hp).1 _ hm;omega
     have hsz:e.on<aL.size:=by omega
     have h2:¬ (aL.getD e.on true=false):=fun h2=>xN ((hR e.on).2 ⟨by omega,h2⟩)
     simp only[Array.getD,hsz,dif_pos]at h2 ⊢;simpa using h2
    simp_all
  ·obtain ⟨mJ,Mf,o,ho,gi⟩:=mem_ready.1 hi;obtain⟨pre,post,rfl⟩:=ME ((hR i).2 ⟨mJ,Mf⟩);have q7:∀k∈pre,k<i:=fun k hk=>(kS.1 hp).2.2 k hk i aC
   have Qi:Dr g pf ad (pre.filterMap (ad[·]?)++o::post.filterMap (ad[·]?)) E objs K:=by
    have:(pre++i::post).filterMap (ad[·]?)=pre.filterMap (ad[·]?)++o::post.filterMap (ad[·]?):=by
     rw[List.filterMap_append,tO,ho]
    rw[← this];exact hd
   obtain⟨v,objs',k9,fv⟩:=Dr.front hK (fun x hx=>by
    obtain⟨k,hk,lJ⟩:=xJ.1 hx;cases MR:gE pf ad x o
    ·rfl
    ·exfalso
     have MS:Reach ad k i:=by
      rcases (dw i o ho).2 k x (q7 k hk) lJ MR with h |⟨h1,h2⟩
      ·exact h
      ·exfalso;rcases hpq with hpq |hpq
       ·exact hpq (by rw[← h1];simp[hk])
       ·exact hpq (by rw[← h2];simp)
     have hl:=kC hc MS (fun o' vp e he hb=>by rw[ho]at vp;cases vp;exact gi e he hb);obtain⟨_,oz⟩:=(hR k).1 DG;have hsz:k<aL.size:=by have:=q7 k hk;omega
     simp only[Array.getD,hsz,dif_pos]at hl oz;rw[hl]at oz;cases oz) Qi
   have ei:=k9.step E objs objs' a w (fun t _=>.refl _) (.inr (.inr ⟨rfl,rfl⟩)) hs Q;refine wpOpIn_mono (K:=fun a' w'=>fe g (bf E o.dst v) objs' a' w') (fun a' w' fh=>?_) aaP
   have kO:∀ (k:Nat) (d:Bool),(aL.setIfInBounds i true).getD k d=if k=i then true else aL.getD k d:=by
    intro k d;simp only[Gf,Sr];by_cases kf:k=i
    ·subst kf;simp[tQ,mJ]
    ·rw[if_neg (fun e=>kf e.symm),if_neg kf]
   refine ih _ (pre++post) _ objs' a' w' (by simp[tQ]) ?_ ?_ ?_ ?_ ?_ ?_ fh
   ·intro k o' hk sR e he hb;rw[kO]at hk ⊢;by_cases kf:k=i
    ·subst kf;rw[ho]at sR;cases sR;have:=gi e he hb;split
     ·rfl
     ·exact this
    ·rw [if_neg kf] at hk;have:=hc k o' hk sR e he hb;split
     ·rfl
     ·exact this
   ·intro k;rw[kO];have hk:=hR k
    have p8:i ∉ pre++post:=by
     intro hm;rcases bW.1 hm with hm |hm
     ·have:=q7 i hm;omega
     ·have:=(xz.1 (kS.1 hp).2.1).1 i hm;omega
    by_cases kf:k=i
    ·subst kf;simp only[if_true];exact⟨fun h=>absurd h p8,fun h=>by simp at h⟩
    ·simp only [kf,if_false];rw[← hk];simp[kf]
   ·obtain ⟨p1,p2,p3⟩:=kS.1 hp;exact kS.2 ⟨p1,(xz.1 p2).2,fun x hx y hy=>p3 x hx y kb⟩
   ·simp at hf ⊢;omega
   ·exact hpq.imp (fun h hm=>h aga) (fun h hm=>h aga)
   simp_all

theorem SH(dw:Qh pf ad=true)(hK:KC K)(hQ:∀E objs a w,K E objs→fe g E objs a w→Q .normal a w)
  (ab:Nat) (aL:Array Bool) (R:List Nat) (E:bk) (objs:List Ob) (a:Act) (w:World) (h1:aL.size=ad.size) (h2:Cl ad aL) (h3:∀ i,i∈R↔i<ad.size∧aL.getD i true=false) (h4:R.Pairwise (· < ·)) (h5:R.length≤ab)
   (h6:Dr g pf ad (R.filterMap (ad[·]?)) E objs K) (h7:fe g E objs a w):wpAnyIn g.F g.dep g.P .any ad Q ab aL a w :=
 mX (p:=ad.size) (q:=0) (fun j o ho=>⟨(A1 dw j o ho).1,fun i x hi hx hc=>.inl ((A1 dw j o ho).2 i x hi hx hc)⟩) hK hQ ab aL R E objs a w h1 h2 h3 h4 h5 (.inl fun h=>by simp_all) h6 h7

theorem fe.drew(h:fe g E objs a w):fe g E objs a { w with drawn:=w.drawn+1 }:=by
 obtain⟨φ,h1,h2,h3,h4,h5,h6⟩:=h;have hk:dE (SS g.S0 φ) w (SS g.S0 φ) { w with drawn:=w.drawn+1 }:=fun b hb _=>⟨hb,rfl⟩
 exact⟨φ,h1.later cP (fun _ _=>rfl),h2,fun t=>(h3 t).mono hk (.refl _),h4,(let ⟨ds1,rl,e,h,h'⟩:=h5;⟨ds1,rl,e,h,h'.mono hk (.refl _)⟩),⟨h6.size,h6.os,h6.tape,h6.out,h6.fr,h6.gen,h6.le⟩⟩

theorem j1{pre post:List Nat}(tQ:aL.size=ad.size)(hc:Cl ad aL)(hR:∀k,k∈pre++i::post↔k<ad.size∧aL.getD k true=false)
  (hp:(pre++i::post).Pairwise (· < ·)) (mJ:i<ad.size) (ho:ad[i]? = some o) (gi:∀e∈o.after.toList,Region.binds .any e=true→aL.getD e.on false=true) :
  (aL.setIfInBounds i true).size=ad.size∧Cl ad (aL.setIfInBounds i true)∧(∀k,k∈pre++post↔k<ad.size∧(aL.setIfInBounds i true).getD k true=false)∧(pre++post).Pairwise (· < ·):=by
 have q7:∀k∈pre,k<i:=fun k hk=>(kS.1 hp).2.2 k hk i aC
 have kO:∀ (k:Nat) (d:Bool),(aL.setIfInBounds i true).getD k d=if k=i then true else aL.getD k d:=by
  intro k d;simp only[Gf,Sr];by_cases kf:k=i
  ·subst kf;simp[tQ,mJ]
  ·rw[if_neg (fun e=>kf e.symm),if_neg kf]
 refine⟨by simp[tQ],?_,?_,?_⟩
 ·intro k o' hk sR e he hb;rw[kO]at hk ⊢;by_cases kf:k=i
  ·subst kf;rw[ho]at sR;cases sR;have:=gi e he hb;split
   ·rfl
   ·exact this
  ·rw [if_neg kf] at hk;have:=hc k o' hk sR e he hb;split
   ·rfl
   ·exact this
 ·intro k;rw[kO];have hk:=hR k
  have p8:i ∉ pre++post:=by
   intro hm;rcases bW.1 hm with hm |hm
   ·have:=q7 i hm;omega
   ·have:=(xz.1 (kS.1 hp).2.1).1 i hm;omega
  by_cases kf:k=i
  ·subst kf;simp only[if_true];exact⟨fun h=>absurd h p8,fun h=>by simp at h⟩
  ·simp only [kf,if_false];rw[← hk];simp[kf]
 grind

def mz:Op→Bool
 | .move _=>true
 | .assign _=>true
 | .binOp .. => true
 | .load .. => true
 | .fieldAddr .. => true
 | .indexAddr .. => true
 | .index .. => true
 | .extract .. => true
 | .nilCheck (.tmp _)=>true
 | .call { callee:=.builtin .len,.. }=>true
 |_=>false

theorem SI(h:mz o.op=true)(ro:Option Nat)(ρ:Operand→Value)(P:Program)(w:World):(∃v w',(o.semAt ro ρ).run P w=.ok (.value v) w')∨(∃x w',(o.semAt ro ρ).run P w=.halt x w'):=by
 have key:∀s:Sem Value,(∃v w',(do pure (Next.value (← s)):Sem Next).run P w=.ok (.value v) w')∨(∃x w',(do pure (Next.value (← s)):Sem Next).run P w=.halt x w'):=fun s=>by
  rw[Sem.run_bind];cases s.run P w with
  |ok v w'=>exact .inl ⟨v,w',rfl⟩
  |halt x w'=>exact .inr ⟨x,w',rfl⟩
 have e:o.semAt ro ρ=execOp ρ o:=Oper.semAt_eq ro ρ o (fun c hc=>by rw[hc]at h;cases h);rw[e];unfold execOp;cases ho:o.op<;>rw[ho]at h
 case call c =>
  obtain⟨WE,args,ts⟩:=c;cases WE
  case builtin b =>
   cases b<;>first
    |(cases h;done)
    | (simp only [resolve,Sem.run_bind,Sem.run_pure,Result.andThen_ok,invoke,builtin]
       have:=key (Builtin.len_ ts o.type (args.map ρ));simp only[Sem.run_bind]at this;exact this)
  all_goals cases h
 case nilCheck x =>
  have hp:(∃v w',(runtimePanic .nilDeref:Sem Next).run P w=.ok (.value v) w')∨(∃x w',(runtimePanic .nilDeref:Sem Next).run P w=.halt x w'):=.inr ⟨_,_,rfl⟩
  have bind:∀ {α:Type} (s:Sem α) (k:α→Sem Next) (w:World),(∀a w',(∃v w2,(k a).run P w'=.ok (.value v) w2)∨(∃x w2,(k a).run P w'=.halt x w2))→(∃v w',(s >>= k).run P w=.ok (.value v) w')∨(∃x w',(s >>= k).run P w=.halt x w'):=fun s k w h=>by
   rw[Sem.run_bind];cases s.run P w with
   |halt x w'=>exact .inr ⟨x,w',rfl⟩
   |ok a w'=>exact h a w'
  simp only;split
  ·exact hp
  ·exact hp
  ·exact hp
  ·split
   ·exact hp
   ·refine bind _ _ _ fun a w'=>?_
    refine bind _ _ _ fun b w'=>?_
    split
    ·exact bind _ _ _ fun c w'=>.inl ⟨_,_,rfl⟩
    ·exact .inl ⟨_,_,rfl⟩
   ·exact .inl ⟨_,_,rfl⟩
  ·exact .inl ⟨_,_,rfl⟩
 all_goals first
  |(cases h;done)
  |exact key _
  |exact .inl ⟨_,_,rfl⟩

theorem A2{F:Fence}{n:Nat}{P:Program}(ho:ad[i]? = some o)(hp:mz o.op=true){K K':Act→World→Prop}(h1:wpOpIn F n P ad Q i K a w)(h2:wpOpIn F n P ad Q i K' a w):wpOpIn F n P ad Q i (fun a w=>K a w∧K' a w) a w:=by
 unfold wpOpIn at *;rw[ho]at h1 h2 ⊢;simp only at h1 h2 ⊢;split
 ·rename_i hw;rw[if_pos hw]at h1 h2;unfold Oper.wpIn at *;refine⟨h1.1,?_⟩;have h1:=h1.2;have h2:=h2.2;rcases SI hp F.round a.eval P w with ⟨v,w',e⟩ |⟨x,w',e⟩
  ·rw[e]at h1 h2 ⊢;exact⟨h1,h2⟩
  ·rw [e] at h1 h2 ⊢;cases x<;>exact h1
 simp_all

theorem MT{p q:Nat}(hpq:p<q)(dw:∀ (j:Nat) (o:Oper),ad[j]? = some o→(∀e∈o.after.toList,Region.binds .any e=true→e.on<j)∧(∀ (i:Nat) (x:Oper),i<j→ad[i]? = some x→gE pf ad x o=true→Reach ad i j∨(i=p∧j=q))∧(q<j→Reach ad p j∨Reach ad q j))
   (hK:KC K)  (hQ:∀E objs a w,K E objs→fe g E objs a w→Q .normal a w) {oa ob:Oper} (Gx:ad[p]? = some oa) (vX:ad[q]? = some ob) (post:List Nat) :
  ∀ (ab:Nat) (aL:Array Bool) (pre:List Nat) (E E2:bk) (objs dW:List Ob) (a:Act) (w:World),(∀ i∈pre,∀ o,ad[i]? = some o→mz o.op=true)→aL.size=ad.size→Cl ad aL→(∀ i,i∈pre++p::q::post↔i<ad.size∧aL.getD i true=false)→(pre++p::q::post).Pairwise (· < ·)→(pre++p::q::post).length≤ab →
   Dr g pf ad (pre.filterMap (ad[·]?)++oa::ob::post.filterMap (ad[·]?)) E objs K→fe g E objs a w→Dr g pf ad (pre.filterMap (ad[·]?)++ob::oa::post.filterMap (ad[·]?)) E2 dW K→fe g E2 dW a w→wpAnyIn g.F g.dep g.P .any ad Q ab aL a w:=by
 have WK:∀ (j:Nat) (o:Oper),ad[j]? = some o→(∀e∈o.after.toList,Region.binds .any e=true→e.on<j)∧∀ (i:Nat) (x:Oper),i<j→ad[i]? = some x→gE pf ad x o=true→Reach ad i j∨(i=p∧j=q):=fun j o ho=>⟨(dw j o ho).1,(dw j o ho).2.1⟩
 intro ab;induction ab with
 |zero=>intro aL pre E E2 objs dW a w _ tQ hc hR _ hf hd hs _ _;simp at hf
 |succ ab ih =>
  intro aL pre E E2 objs dW a w uK tQ hc hR hp hf hd hs Ey mn;obtain⟨pp1,pp2,pp3⟩:=kS.1 hp;have qO:∀k∈pre,k<p:=fun k hk=>pp3 k hk p aC
  have n7:∀k∈post,q<k:=fun k hk=>(xz.1 (xz.1 pp2).2).1 k hk
  have unl:∀k,k∈pre++p::q::post→aL.getD k false=false:=fun k hk=>by
   exact agu
  refine⟨fun Ji=>?_,fun i hi=>?_⟩
  ·exfalso
   obtain⟨k,R',hkR⟩:∃k R',pre++p::q::post=k::R':=by
    cases pre with
    |nil=>exact⟨p,_,rfl⟩
    |cons k r=>exact⟨k,_,rfl⟩
   rw[hkR]at hR hp;exact mB4
  ·obtain ⟨mJ,Mf,o,ho,gi⟩:=mem_ready.1 hi
   have jK:∀k,k∈pre++p::q::post→Reach ad k i→False:=fun k hk hr=>by
    have hl:=kC hc hr (fun o' vp e he hb=>by rw[ho]at vp;cases vp;exact gi e he hb);rw[unl k hk]at hl;cases hl
   have Es:∀k x,k∈pre++p::q::post→k<i→ad[k]? = some x→¬ (k=p∧i=q)→gE pf ad x o=false:=fun k x hk kf lJ eo=>by
    cases MR:gE pf ad x o
    ·rfl
    ·exfalso;rcases (dw i o ho).2.1 k x kf lJ MR with h |h
     ·exact jK k hk h
     ·exact eo h
   have hmem:=(hR i).2 ⟨mJ,Mf⟩;rcases bW.1 hmem with hmem |hmem
   ·obtain ⟨xT,preB,rfl⟩:=ME hmem
    have e1:(xT++i::preB).filterMap (ad[·]?)=xT.filterMap (ad[·]?)++o::preB.filterMap (ad[·]?):=by
     rw[List.filterMap_append,tO,ho]
    rw[e1]at hd Ey;have ael:∀k∈xT,k<i:=fun k hk=>(kS.1 pp1).2.2 k hk i aC
    have MR:∀x∈xT.filterMap (ad[·]?),gE pf ad x o=false:=fun x hx=>by
     exact aks
    rw[List.append_assoc,jj]at hd Ey;obtain⟨v,objs',k9,fv⟩:=Dr.front hK MR hd;obtain⟨v2,uL,WL,VY⟩:=Dr.front hK MR Ey;have ei:=k9.step E objs objs' a w (fun t _=>.refl _) (.inr (.inr ⟨rfl,rfl⟩)) hs Q;have MU:=WL.step E2 dW uL a w (fun t _=>.refl _) (.inr (.inr ⟨rfl,rfl⟩)) mn Q;have WM:=A2 (F:=g.F) (n:=g.dep) (P:=g.P) (Q:=Q) ho (uK i aC o ho) (K:=fun a' w'=>fe g (bf E o.dst v) objs' a' w') (K':=fun a' w'=>fe g (bf E2 o.dst v2) uL a' w') aaP (by unfold wpOpIn;rw[ho];exact MU);refine wpOpIn_mono (fun a' w' fh=>?_) WM;have kq:=j1 (pre:=xT) (post:=preB++p::q::post) tQ hc VV Sk mJ ho gi;refine ih _ (xT++preB) _ _ objs' uL a' w' (fun j hj o' vp=>uK j agb o' vp) kq.1 kq.2.1 VT VX IX aj5 fh.1 aj4 fh.2
   ·rcases eL.1 hmem with hip | hmem
    ·subst hip;rw[Gx]at ho;cases ho;have hd1:=hd
     obtain⟨v,objs',k9,fv⟩:=Dr.front hK (fun x hx=>by
      obtain⟨k,hk,lJ⟩:=xJ.1 hx;exact Es k x DG (qO k hk) lJ (fun ⟨_,h2⟩=>by omega)) hd1
     have ei:=k9.step E objs objs' a w (fun t _=>.refl _) (.inr (.inr ⟨rfl,rfl⟩)) hs Q;refine wpOpIn_mono (K:=fun a' w'=>fe g (bf E oa.dst v) objs' a' w') (fun a' w' fh=>?_) (by unfold wpOpIn;rw[Gx];exact ei);have kq:=j1 (pre:=pre) (post:=q::post) tQ hc hR hp mJ Gx gi;refine mX WK hK hQ ab _ (pre++q::post) _ objs' a' w' kq.1 kq.2.1 kq.2.2.1 kq.2.2.2 IX (.inl fun h=>?_) (by rw[List.filterMap_append,tO,vX];exact fv) fh;rcases bW.1 h with h |h
     ·have:=qO _ h;omega
     ·rcases eL.1 h with h | h
      ·omega
      ·have:=n7 _ h;omega
    ·rcases eL.1 hmem with hiq | hmem
     ·subst hiq;rw[vX]at ho;cases ho;have hd1:=Ey
      obtain⟨v,objs',k9,fv⟩:=Dr.front hK (fun x hx=>by
       obtain⟨k,hk,lJ⟩:=xJ.1 hx;exact Es k x DG (by have:=qO k hk;omega) lJ (fun ⟨h1,_⟩=>by have:=qO k hk;omega)) hd1
      have ei:=k9.step E2 dW objs' a w (fun t _=>.refl _) (.inr (.inr ⟨rfl,rfl⟩)) mn Q;refine wpOpIn_mono (K:=fun a' w'=>fe g (bf E2 ob.dst v) objs' a' w') (fun a' w' fh=>?_) (by unfold wpOpIn;rw[vX];exact ei);have kq:=j1 (pre:=pre++[p]) (post:=post) tQ hc VV Sk mJ vX gi;refine mX WK hK hQ ab _ (pre++p::post) _ objs' a' w' kq.1 kq.2.1 VT VX IX (.inr fun h=>?_) (by rw[List.filterMap_append,tO,Gx];exact fv) fh;rcases bW.1 h with h |h
      ·have:=qO _ h;omega
      ·rcases eL.1 h with h | h
       ·omega
       ·have:=n7 _ h;omega
     ·exfalso;rcases (dw i o ho).2.2 (n7 i hmem) with h |h
      ·exact jK p aC h
      ·exact jK q aC h

theorem A3{α β:Type}{f h:α→Option β}:∀ {l:List α},(∀x∈l,f x=h x)→l.filterMap f=l.filterMap h
 |[],_=>rfl
 |x::l,hx=>by rw[tO,tO,hx x aC,A3 (l:=l) fun y hy=>hx y kb]

theorem hJ{α:Type}:∀ (l:List α),(List.range l.length).filterMap (l[·]?)=l
 |[]=>by simp
 |x::l=>by
  rw[dv,List.range_succ_eq_map,tO];simp only[Ss,List.filterMap_map];have:((fun i=>(x::l)[i]?) ∘ Nat.succ)=fun i=>l[i]? := by funext i;simp
  rw[this,hJ l]

theorem abo(hg:c9 g)(dw:Qh pf ad=true)(hK:KC K)(hQ:∀E objs a w,K E objs→fe g E objs a w→Q .normal a w)
    (hd:Dr g pf ad ad.toList E objs K)   (hs:fe g E objs a w) (id:Nat):(Code.region id ad true).wpIn g.F g.dep g.P Q a w:=by
 refine wpIn_region_any hg.mixed ?_;refine SH dw hK hQ ad.size (Array.replicate ad.size false) (List.range ad.size) E objs a _ aC ?_ ?_ (St) aC ?_ hs.drew
 ·intro k o hk;simp[Array.getD]at hk
 ·simp_all
 ·have:(List.range ad.size).filterMap (ad[·]?)=ad.toList:=by
   have:=hJ ad.toList;simpa using this
  simp_all

def Js {α:Type}:Nat→List α→List α
 |0,a::b::r=>b::a::r
 |n+1,a::r=>a::Js n r
 |_,l=>l

theorem Jt{α:Type}:∀ (n:Nat) (l:List α) (a b:α),l[n]? = some a→l[n+1]? = some b→l=l.take n++a::b::l.drop (n+2)∧Js n l=l.take n++b::a::l.drop (n+2)
 |0,x::y::r,a,b,h1,h2=>by simp at h1 h2;subst h1;subst h2;exact⟨rfl,rfl⟩
 |0,[],_,_,h1,_=>by simp at h1
 |0,[_],_,_,_,h2=>by simp at h2
 |n+1,[],_,_,h1,_=>by simp at h1
 |n+1,x::r,a,b,h1,h2=>by
  obtain⟨g1,g2⟩:=Jt n r a b MA PT;constructor
  ·grind
  ·show x::Js n r=x::(r.take n++b::a::r.drop (n+2))
   rw[← g2]

theorem WN(hg:c9 g){p q:Nat}(dw:agH p q pf ad=true)(hK:KC K)(hQ:∀E objs a w,K E objs→fe g E objs a w→Q .normal a w)
    (uK:((ad.toList.take p).all fun o=>mz o.op)=true) (hd:Dr g pf ad ad.toList E objs K) (Ey:Dr g pf ad (Js p ad.toList) E objs K)   (hs:fe g E objs a w) (id:Nat):(Code.region id ad true).wpIn g.F g.dep g.P Q a w:=by
 refine wpIn_region_any hg.mixed ?_;simp only[agH,aV]at dw;obtain⟨⟨h1,h2⟩,h3⟩:=dw;have h1:=cp h1;rw[bj,Nat.blt_eq]at h2;have h1:q=p+1:=h1.symm;subst h1;have hsz:ad.toList.length=ad.size:=by simp
 have Gx:ad[p]? = some ad[p]:=mA7 an;have vX:ad[p+1]? = some ad[p+1]:=mA7 an
 have DL:ad.toList.drop p=ad[p]::ad[p+1]::ad.toList.drop (p+2):=by
  rw[List.drop_eq_getElem_cons an,List.drop_eq_getElem_cons (i:=p+1) an];simp
 have l8:List.range ad.size=List.range p++p::(p+1)::List.range' (p+2) (ad.size - (p+2)):=by
  obtain⟨m,hm⟩:∃m,ad.size=p+(m+1+1):=⟨ad.size - (p+2),by omega⟩;rw[hm,show p+(m+1+1) - (p+2)=m by omega,Su,Su,← List.range'_append,I7,I7];simp
 have n7:(List.range' (p+2) (ad.size - (p+2))).filterMap (ad[·]?)=ad.toList.drop (p+2):=by
  have h4:=hJ ad.toList;rw[hsz,l8,List.filterMap_append]at h4
  have h5:(List.range p).filterMap (ad.toList[·]?)=ad.toList.take p:=by
   have h6:=hJ (ad.toList.take p);rw[zz,hsz,Ge an]at h6;rw[← h6];apply A3;intro k hk;rw[qb (by simpa using hk)]
  rw[h5]at h4;have h7:ad.toList=ad.toList.take p++ad.toList.drop p:=(List.take_append_drop _ _).symm
  conv at h4=>rhs;rw[h7]
  have h8:=List.append_cancel_left h4;rw[DL]at h8;simp only[tO,Array.getElem?_toList,Gx,vX,List.cons.injEq,true_and]at h8;exact h8
 have q7:(List.range p).filterMap (ad[·]?)=ad.toList.take p:=by
  have h6:=hJ (ad.toList.take p);rw[zz,hsz,Ge an]at h6;rw[← h6];apply A3;intro k hk;rw[qb (by simpa using hk)];simp
 obtain⟨g1,g2⟩:=Jt p ad.toList ad[p] ad[p+1] aC aC;rw[g2]at Ey;rw[g1]at hd;refine MT (I8 p) (ad:=ad) (fun j o ho=>yQ (ad:=ad) ad.toList [] [] rfl rfl aC h3 j o fy ho) hK hQ Gx vX (List.range' (p+2) (ad.size - (p+2))) ad.size (Array.replicate ad.size false) (List.range p) E E objs objs a _ ?_ aC ?_ ?_ ?_ ?_ ?_ hs.drew ?_ hs.drew
 ·intro j hj o ho;have hj:=zC.1 hj;have:=fk.1 uK o (uE.2 ⟨j,by rw[qb hj,Array.getElem?_toList];exact ho⟩);exact this
 ·intro k o hk;simp[Array.getD]at hk
 ·intro i;rw[← l8];simp only[zC,Array.getD,V8];constructor
  ·intro h;simp[h]
  ·intro h;exact h.1
 ·rw[← l8];exact St
 ·rw[← l8];simp
 ·rw[q7,n7];exact hd
 grind

theorem wp_ops{K:bk→List Ob→Prop}{Q:Exit→Act→World→Prop}(hQ:∀E objs a w,K E objs→fe g E objs a w→Q .normal a w) :
  ∀ (l:List Oper) (k:Nat) (E:bk) (objs:List Ob) (a:Act) (w:World),(∀ j,l[j]? = ad[k+j]?)→Dr g pf ad l E objs K→fe g E objs a w →
   wpOpsIn g.F g.dep g.P ad Q (List.range' k l.length) a w
 |[],k,E,objs,a,w,_,hd,hs=>by simpa[wpOpsIn]using hQ E objs a w hd hs
 |o::l,k,E,objs,a,w,hl,hd,hs=>by
  obtain⟨v,objs',h1,h2⟩:=hd;have h0:ad[k]? = some o:=by simpa using (hl 0).symm
  have ei:=h1.step E objs objs' a w (fun t _=>.refl _) (.inr (.inr ⟨rfl,rfl⟩)) hs Q;rw[dv,I7,wpOpsIn_cons];refine wpOpIn_mono (K:=fun a' w'=>fe g (bf E o.dst v) objs' a' w') (fun a' w' fh=>?_) (by unfold wpOpIn;simp_all);exact wp_ops hQ l (k+1) _ objs' a' w' (fun j=>by have:=hl (j+1);grind) h2 fh

theorem agK(hQ:∀E objs a w,K E objs→fe g E objs a w→Q .normal a w)
    (hd:Dr g pf ad ad.toList E objs K)   (hs:fe g E objs a w) (id:Nat):(Code.region id ad false).wpIn g.F g.dep g.P Q a w:=by
 refine wpIn_region ?_;have:=wp_ops hQ ad.toList 0 E objs a w (fun j=>by simp) hd hs;rw[Su];omega
end
end aw
namespace aw
open Go Go.RowKit

variable{ty:Nat→Option Ty}{ρ ρ':Operand→AV}{pf:Nat→cC}{objs objs':List Ob}{op:Op}{v:AV}
def pg (l:List Nat) (E:bk):Operand→AV
 | .tmp t=>if t∈l then lk E t else .any
 |x=>ev E x
theorem Ju{α β:Type}{f g:α→β}{l:List α}(h:∀x∈l,f x=g x):l.map f=l.map g:=Gg h

theorem Jv(h:∀x∈op.operands.toList,ρ x=ρ' x):cJ ty ρ op=cJ ty ρ' op:=by
 cases op<;>simp only[Op.operands]at h<;>try (simp only[cJ];done)
 case move x=>simp only[cJ,h x aC]
 case assign x=>simp only[cJ,h x aC]
 case pick c a b=>simp only[cJ,h c aC,h a aC,h b aC]
 case fieldAddr T x k=>simp only[cJ,h x aC]
 case field T x k=>simp only[cJ,h x aC]
 case binOp op T x y T'=>simp only[cJ,h x aC,h y aC]
 case unOp op T x=>simp only[cJ,h x aC]
 case extract x k=>simp only[cJ,h x aC]
 case nilCheck x=>simp only[cJ,h x aC]
 case convert S D x=>simp only[cJ,h x aC]
 case makeFunc f x y =>
  cases f<;>simp only[cJ]
  simp_all
 case build T ps =>
  have:ps.toList.map (fun p=>(p.1,ρ p.2))=ps.toList.map (fun p=>(p.1,ρ' p.2)):=Ju fun p hp=>by grind
  simp only[cJ,this]
 case buildSlice T n ps =>
  have:ps.toList.map (fun p=>(p.1,ρ p.2))=ps.toList.map (fun p=>(p.1,ρ' p.2)):=Ju fun p hp=>by grind
  simp only[cJ,this]

theorem Jw(h:∀x∈op.operands.toList,ρ x=ρ' x):eX ty ρ objs op=eX ty ρ' objs op:=by
 cases op<;>try (simp only[eX];done)
 case load T x=>simp only[Op.operands]at h;simp only[eX,h x aC]
 case call c =>
  simp only[Op.operands,Call.operands]at h;obtain⟨WE,args,ts⟩:=c;cases WE<;>try (simp only[eX];done)
  rename_i b;cases b<;>try (simp only[eX];done)
  simp only[eX]
  grind

theorem Jx(h:∀x∈op.operands.toList,ρ x=ρ' x):iz ty ρ objs op=iz ty ρ' objs op:=by
 cases op<;>try (simp only[iz];done)
 case box T x=>simp only[Op.operands]at h;simp only[iz,h x aC]
 case store T d x=>simp only[Op.operands]at h;simp only[iz,h d aC,h x aC]

theorem Gy(h:∀x∈op.operands.toList,ρ x=ρ' x):db ty ρ objs op=db ty ρ' objs op:=by
 unfold db;rw[Jv h,Jw h,Jx h]
theorem A4(pf:Nat→cC):qQ pf=.load∨qQ pf=.Qd:=by unfold qQ;split<;>simp

theorem vY{T:Nat}{a:Operand}(h:held (jC pf) (.load T a)=false):kA pf a=qQ pf:=by
 cases a<;>try rfl
 rename_i t;simp only[held,jC]at h;simp only[kA]
 grind

theorem Gz{T:Nat}{a x:Operand}(h:held (jC pf) (.store T a x)=false):iZ pf a=.ji:=by
 cases a<;>try rfl
 rename_i t;simp only[held,jC]at h;simp only[iZ]
 grind

theorem Jy{args:Array Operand}{ts:Array Nat}(h:held (jC pf) (.call { callee:=.builtin .len,args:=args,argTypes:=ts })=false):mW pf args=.load:=by
 simp only[held,jC]at h;simp only[mW]
 grind

theorem MV(pf:Nat→cC)(a:Operand):∃b,iZ pf a=.bO b:=by
 cases a<;>try exact⟨9,rfl⟩
 rename_i t;simp only[iZ];split
 ·rename_i n _;cases Nat.ble 100 n
  ·exact⟨9,rfl⟩
  ·exact⟨n,rfl⟩
 simp_all

theorem SJ(pf:Nat→cC)(args:Array Operand):∃m,mW pf args=.look (m+1):=by
 simp only[mW];split
 ·split
  ·rename_i m _;cases hm:Nat.blt 3 m
   ·exact⟨0,rfl⟩
   ·rw [Nat.blt_eq] at hm;exact⟨m - 1,by simp only[cond_true,cC.look.injEq];omega⟩
  ·exact⟨0,rfl⟩
 simp_all

theorem pj(hc:∀b,bI pf op≠.bO b):iz ty ρ objs op=none:=by
 cases op<;>first
  |(simp only[iz];done)
  |(exact absurd rfl (hc _))
  |(rename_i T a x;obtain⟨b,h⟩:=MV pf a;exact absurd h (hc b))

theorem yR(DM:held (jC pf) op=false)(hc:bI pf op=.still):eX ty ρ objs op=none:=by
 cases op<;>try (simp only[eX];done)
 case load T x=>simp only[bI,vY DM]at hc;rcases A4 pf with h |h<;>simp_all
 case call c =>
  obtain⟨WE,args,ts⟩:=c;cases WE<;>try (simp only[eX];done)
  rename_i b;cases b<;>first
   |(simp only[eX];done)
   |(simp only[bI]at hc;obtain⟨m,h⟩:=SJ pf args;simp_all)

theorem Jz(h:db ty ρ objs op=some (v,objs'))(hc:∀b,bI pf op≠.bO b):objs'=objs:=by
 unfold db at h;rw[pj hc]at h
 grind

theorem GA(h:db ty ρ objs op=some (v,objs'))(DM:held (jC pf) op=false)(hc:bI pf op=.still)(dW:List Ob) :
  db ty ρ dW op=some (v,dW):=by
 have Qj:∀b,bI pf op≠.bO b:=by rw[hc];simp
 unfold db at h ⊢;rw[pj Qj,yR DM hc]at h;rw[pj Qj,yR DM hc];split at h
 ·simp_all
 ·cases h

theorem JA{n0:Nat}(h:db ty ρ objs op=some (v,objs'))(DM:held (jC pf) op=false)(b:Nat)(hc:bI pf op=.bO b)(hb:b≠9):Gr n0 b objs objs':=by
 have hld:∀b,qQ pf≠.bO b:=by rcases A4 pf with h |h<;>rw[h]<;>simp
 unfold db at h;split at h
 ·simp only[Option.some.injEq,Prod.mk.injEq]at h;rw[← h.2];exact .refl _
 ·split at h
  ·simp only[Option.some.injEq,Prod.mk.injEq]at h;rw[← h.2];exact .refl _
  ·unfold iz at h;split at h
   ·split at h
    ·simp only[Option.some.injEq,Prod.mk.injEq]at h;rw[← h.2];exact .add _ _
    ·cases h
   ·split at h
    ·split at h
     ·rename_i l _
      have key:∀ (c:Bool),(bif c then some (AV.lo (len objs) 0,objs++[Ob.box l]) else none)=some (v,objs')→Gr n0 b objs objs':=by
       intro c hb;cases c
       ·cases hb
       ·simp only[cond_true,Option.some.injEq,Prod.mk.injEq]at hb;rw[← hb.2];exact .add _ _
      exact key _ h
     ·cases h
    ·cases h
   ·simp only[bI,Gz DM,cC.bO.injEq]at hc;omega
   ·cases h

theorem JB{objs objs' bP:List Ob}{n0 m:Nat}(h:db ty ρ objs op=some (v,objs'))(DM:held (jC pf) op=false)(hc:bI pf op=.look (m+1))(abp:Gr n0 m bP objs∨Gr n0 m objs bP)
  (fu:∀x∈op.operands.toList,(∀i off,ρ x=.lo i off→i<bP.length)∧(∀i,ρ x=.mp i→i<bP.length)):db ty ρ bP op=some (v,bP):=by
 have vo:∀b,bI pf op≠.bO b:=by rw[hc];simp
 unfold db at h ⊢;rw[pj vo]at h;rw[pj vo];split at h
 ·simp_all
 ·rename_i hS;split at h
  case h_2=>cases h
  rename_i v' rp;simp only[Option.some.injEq,Prod.mk.injEq]at h
  have hL:eX ty ρ bP op=some v':=by
   cases op<;>try (simp[eX]at rp;done)
   case load T a =>
    simp only[eX]at rp ⊢
    have hm:m≤2:=by
     simp only[bI,vY DM]at hc;rcases A4 pf with h |h<;>rw[h]at hc<;>simp_all<;>omega
    cases ht:ty T with
    |none=>simp_all
    |some τ =>
     rw[ht]at rp;simp only at rp ⊢;cases ha:ρ a with
     |lo i off =>
      rw[ha]at rp;simp only at rp ⊢;have hi:=(fu a (by simp[Op.operands])).1 i off ha;rw[bu]at rp ⊢;split at rp
      ·rename_i l hl;rw[Gr.same abp hl hi (by simp only[Ob.lvl];split<;>omega)];exact rp
      ·cases rp
     |d x=>grind
     |_=>simp_all
   case call c =>
    obtain⟨WE,args,ts⟩:=c;cases WE<;>try (simp[eX]at rp;done)
    rename_i b;cases b<;>try (simp[eX]at rp;done)
    have hm:m=0:=by simpa[bI,Jy DM]using hc.symm
    subst hm;simp only[eX]at rp ⊢;split at rp
    ·rename_i x t h1 h2;have hx:=fu x (by simp[Op.operands,Call.operands,h1]);split at rp
     ·rename_i τ ht
      have hl:∀n,MJ τ.sh objs (ρ x)=some n→MJ τ.sh bP (ρ x)=some n:=fun n hn=>by
       cases hA:ρ x with
       |mp i =>
        rw[hA]at hn;simp only[MJ,Jm]at hn ⊢;have hi:=hx.2 i hA;rw[bu]at hn ⊢;split at hn
        ·rename_i es he;split at hn
         ·rename_i es he;rw[Gr.same abp he hi AH];exact hn
         ·cases hn
        ·cases hn
       |d y =>
        rw[hA]at hn
        have e:Jm τ.sh bP (.d y)=Jm τ.sh objs (.d y):=by
         cases y with
         |v x=>cases x<;>first |rfl |(rename_i a b c;cases a<;>first |rfl |(cases b<;>first |rfl |(cases c<;>rfl)))
         |_=>rfl
        exact e.trans hn
       |fs y=>rw[hA]at hn;exact hn
       |_=>rw[hA]at hn;simp[MJ,Jm]at hn
      grind
     ·cases rp
    ·cases rp
  rw[hL,h.1]
end aw
namespace aw
open Go Go.RowKit
variable{φ:List bB}{S:Nat→Prop}{w:World}{o:Oper}{objs objs':List Ob}{E:bk}{a:Act}{β:Type}{b:Bool}{v:AV}
section
variable {g:G} {pf:Nat→cC} {ad:Array Oper}

theorem sZ{t:Nat}(h:.tmp t∈o.op.operands.toList):t∈o.looksAt ad :=
 agq _ (xJ.2 ⟨.tmp t,h,rfl⟩)

def JC (ad:Array Oper)(E:bk)(o:Oper)(b:Bool):Prop :=
 match o.guard with
 |none=>b=true
 |some (j,want)=>∃og d,ad[j]? = some og∧og.dst=some d∧((lk E d=.tt∧b=want)∨(lk E d=.ff∧b = !want)∨(lk E d=.cH []∧b=false))

theorem cK(h:aG ad.toList E o.guard=some b):JC ad E o b:=by
 unfold JC;generalize o.guard=gd at h ⊢;rcases gd with _ |⟨j,want⟩
 ·simp only[aG]at h;cases h;rfl
 ·simp only [aG] at h;simp only;split at h
  case h_2=>cases h
  case h_1 og hog =>
  rw[bu,Array.getElem?_toList]at hog
  grind

theorem A5{j d:Nat}{og:Oper}(h1:ad[j]? = some og)(h2:og.dst=some d)(h3:a.tmps.getD d undef=.bool b) :
  yielded ad a.tmps j=some b:=by
 unfold yielded;simp only[h1,aa6,h2];rw[Gf]at h3;cases hd:a.tmps[d]? with
 |none=>rw[hd]at h3;cases h3
 |some v=>simp_all

theorem GB{j d:Nat}{og:Oper}(h1:ad[j]? = some og)(h2:og.dst=some d)(h3:a.tmps.getD d undef=undef) :
  yielded ad a.tmps j=none:=by
 unfold yielded;simp only[h1,aa6,h2];rw[Gf]at h3;cases hd:a.tmps[d]? with
 |none=>rfl
 |some v=>rw[hd]at h3;simp[undef]at h3;subst h3;rfl

theorem JD{v:Value}:RV S w φ (.cH []) v↔v=undef:=by
 simp only[RV];constructor
 ·rintro ⟨vs,h1,h2⟩;cases vs with
  |nil=>exact h1
  |cons _ _=>simp[aW]at h2
 ·rintro rfl;exact⟨[],rfl,by simp[aW]⟩

theorem mL{E E₁:bk}(hg:JC ad E o b)(he:∀t∈o.looksAt ad,bM (lk E₁ t) (lk E t))
  (hv:kY S w φ E₁ a):Region.wanted o (yielded ad a.tmps)=b:=by
 unfold JC at hg;unfold Region.wanted;split at hg
 ·simp_all
 ·rename_i j want h;rw[h];obtain⟨og,d,h1,h2,h3⟩:=hg;have hd:d∈o.looksAt ad:=List.mem_append_right _ k8;have hx:=he d hd _ _ _ _ (hv d);rcases h3 with ⟨h3,h4⟩ |⟨h3,h4⟩ |⟨h3,h4⟩
  ·rw [h3] at hx; simp only [RV] at hx;simp only[A5 h1 h2 hx,h4]
   simp_all
  ·rw [h3] at hx; simp only [RV] at hx;simp only[A5 h1 h2 hx,h4]
   simp_all
  ·rw [h3] at hx; rw [JD] at hx;simp only[GB h1 h2 hx,h4]
   simp_all

theorem ia{E E₁:bk}{l:List Nat}(he:∀t∈l,bM (lk E₁ t) (lk E t))(hv:kY S w φ E₁ a)(x:Operand) :
  RV S w φ (pg l E x) (a.eval x):=by
 cases x with
 |tmp t =>
  simp only[pg,Act.eval];split
  ·exact he t ‹_› _ _ _ _ (hv t)
  ·simp[RV]
 |const v =>
  simp only[pg,ev,Act.eval];unfold lO;split
  ·simp[RV]
  ·simp[RV]
  ·rename_i cs;simp only[RV];refine⟨cs.toList,by simp,?_⟩;have:=aW.map (S:=S) (w:=w) (φ:=φ) (fun x=>AV.d (.v x)) id cs.toList (fun x _=>by simp only[RV];exact .v x)
   simp_all
  ·simp only[RV];exact .v _
 |global n=>simp[pg,ev,RV]
 |func f=>simp only[pg,ev,Act.eval,RV];exact⟨[],[],rfl,by simp[aW],by simp[aW]⟩

theorem Qk{d:Option Nat}{vv:Value}{N:Nat}(hv:kY S w φ E a)(hsz:a.tmps.size=N)
  (hd:∀t,d=some t→t<N) (hx:d≠none→RV S w φ v vv):kY S w φ (bf E d v) (a.put d vv):=fun t=>by
 rw[gg];cases d with
 |none=>simpa[Act.put]using hv t
 |some u =>
  have hu:=hd u rfl;simp only[Act.put,Gf,Sr];by_cases h:u=t
  ·simp_all
  ·simp only [Option.some.injEq,h,if_false];have:=hv t
   simp_all
theorem WO(a:Act)(d:Option Nat)(v:Value):(a.put d v).tmps.size=a.tmps.size:=by cases d<;>simp[Act.put]
theorem put_defers(a:Act)(d:Option Nat)(v:Value):(a.put d v).defers=a.defers:=by cases d<;>rfl

theorem DK.P4{φ φ':List bB}{ds:List Deferred}{w w':World}(h:DK g φ ds w)(cS:jJ g.S0 φ w φ' objs' w'):DK g φ' ds w' :=
 ⟨h.1,h.2.1,fun d hd=>by
  obtain⟨D,h1,h2,h3,h4⟩:=h.2.2 d hd;have hl:D<w.heap.size:=(tN.1 h4).1;refine⟨D,h1,h2,fun hb=>?_,(cS.fr D hl h3).trans h4⟩;rcases cS.own D hb with h |h
  ·exact h3 h
  ·omega⟩

theorem DK.Jk{φ φ':List bB}{ds:List Deferred}(h:DK g φ ds w)(hb:∀b,eD φ' b→eD φ b):DK g φ' ds w :=
 ⟨h.1,h.2.1,fun d hd=>by obtain⟨D,h1,h2,h3,h4⟩:=h.2.2 d hd;grind⟩

theorem Iq.P4{φ φ':List bB}{ds:List Deferred}{w w':World}{objs':List Ob}(h:Iq g φ ds w)(cS:jJ g.S0 φ w φ' objs' w'):Iq g φ' ds w' :=
 let ⟨ds1,rl,e,h,h'⟩:=h;⟨ds1,rl,e,h.P4 cS,h'.mono cS.iS cS.le⟩

theorem Iq.Jk{φ φ':List bB}{ds:List Deferred}{w:World}(jB:g.rr=[])(h:Iq g φ ds w)(hb:∀b,eD φ' b→eD φ b):Iq g φ' ds w :=
 .none jB ((h.only jB).Jk hb)

theorem fe.P4{E:bk}{objs':List Ob}{a:Act}{w w':World}{φ φ':List bB}{d:Option Nat}{v:AV}{vv:Value}
  (h2:∀b,eD φ b→g.w0.heap.size≤b∨g.X0 b) (h3:kY (SS g.S0 φ) w φ E a) (h4:a.tmps.size=g.N) (h5:Iq g φ a.defers w) (h6:Fr0 g φ w)
  (cS:jJ g.S0 φ w φ' objs' w') (hd:∀t,d=some t→t<g.N) (hx:d≠none→RV (SS g.S0 φ') w' φ' v vv):fe g (bf E d v) objs' (a.put d vv) w':=by
 refine⟨φ',cS.hs,fun b hb=>?_,Qk (fun t=>(h3 t).mono cS.iS cS.le) h4 hd hx,by rw[WO];exact h4,by rw[put_defers];exact h5.P4 cS,?_⟩
 ·rcases cS.own b hb with hb | hb
  ·exact h2 b hb
  ·have:=h6.size;left;omega
 ·refine ⟨tP h6.size cS.size,cS.os.trans h6.os,cS.tape.trans h6.tape,cS.out.trans h6.out,fun b hb hX=>?_,fun i l I B hi=>(let ⟨_,h0⟩:=cS.ext i l I B hi; h6.gen _ _ _ _ h0),h6.le.trans cS.le⟩
  have hn:¬ eD φ b:=fun gQ=>by
   grind
  rw[cS.fr b (I9 hb h6.size) hn];exact h6.fr b hb hX
theorem pk(hg:c9 g)(o:Oper)(w:World)(a:Act):∀f,o.about g.P w a.eval=some f→g.F.fn f:=fun f _=>hg.fn f

theorem aI.mY(hg:c9 g){c:cC}(bm:JC ad E o true)(hd:∀t,o.dst=some t→t<g.N)(GC:∀c,o.op≠.defer c)
  (rv:(∀b,c≠.bO b)→objs'=objs) (ak6:∀b,c=.bO b→b≠9→Gr g.φ0.length b objs objs')
  (iI:∀ (φ:List bB) (bP kB:List Ob) (a:Act) (w:World) (E₁:bk),(∀ t∈o.looksAt ad,bM (lk E₁ t) (lk E t))→kY (SS g.S0 φ) w φ E₁ a→((c=.still∧kB=bP)∨(∃ m,c=.look (m+1)∧(Gr g.φ0.length m bP objs∨Gr g.φ0.length m objs bP)∧kB=bP)∨(bP=objs∧kB=objs'))→HS g.S0 φ bP w →
   Out g.P (execOp a.eval o) g.S0 φ w v kB):aI g ad o E objs c v objs':=by
 refine⟨rv,ak6,fun E₁ o₁ jl a w he ho hs Q=>?_⟩;obtain⟨φ,h1,h2,h3,h4,h5,h6⟩:=hs;rw[mL bm he h3];simp only[if_true];obtain⟨n,vv,w',φ',hr,hn,lz,cS⟩:=iI φ o₁ jl a w E₁ he h3 ho h1;refine⟨pk hg o w a,?_⟩;rw[Oper.semAt_eq _ _ _ GC,hr];rcases hn with rfl |⟨rfl,rfl⟩
 ·exact fe.P4 h2 h3 h4 h5 h6 cS hd fun _=>lz
 ·exact fe.P4 h2 h3 h4 h5 h6 cS hd fun _=>lz

theorem aI.skip(hg:c9 g){c:cC}(bm:JC ad E o false)(hd:∀t,o.dst=some t→t<g.N):aI g ad o E objs c (.cH []) objs:=by
 refine⟨fun _=>rfl,fun _ _ _=>.refl _,fun E₁ o₁ jl a w he ho hs Q=>?_⟩
 have e:jl=o₁:=by
  grind
 subst e;obtain⟨φ,h1,h2,h3,h4,h5,h6⟩:=hs;rw[mL bm he h3];simp only[lL,if_false];exact⟨pk hg o w a,fe.P4 h2 h3 h4 h5 h6 (.refl h1) hd fun _=>JD.2 rfl⟩

theorem A6{ty:Nat→Option Ty}{ρ:Operand→AV}{o:Op}{x:AV × List Ob}(h:db ty ρ objs o=some x):∀c,o≠.defer c:=by
 rintro c rfl;simp[db,cJ,eX,iz]at h

theorem aI.JE(hg:c9 g)(DM:held (jC pf) o.op=false)(bm:JC ad E o true)(hd:∀t,o.dst=some t→t<g.N)(h:db g.ty (ev E) objs o.op=some (v,objs')) :
  aI g ad o E objs (bI pf o.op) v objs':=by
 refine .mY hg bm hd (A6 h) (Jz h) (JA h DM) fun φ o₁ jl a w E₁ he hv ho hs=>?_
 have hρ:=ia (l:=o.looksAt ad) he hv
 have ak7:db g.ty (pg (o.looksAt ad) E) objs o.op=db g.ty (ev E) objs o.op:=Gy fun x hx=>by
  cases x with
  |tmp t=>simp[pg,ev,sZ hx]
  |_=>rfl
 rw[← ak7]at h;rcases ho with ⟨hc,rfl⟩ |⟨m,hc,abp,rfl⟩ |⟨rfl,rfl⟩
 ·exact j0 hg.ty hs hρ (GA h DM hc _)
 ·refine j0 hg.ty hs hρ (JB h DM hc abp fun x _=>⟨fun i off hx=>?_,fun i hx=>?_⟩)
  ·have:=hρ x;rw[hx]at this;simp only[RV]at this;obtain⟨b,hb,_⟩:=this;rw[← hs.len];grind
  ·have:=hρ x;rw[hx]at this;simp only[RV]at this;obtain⟨b,hb,_⟩:=this;rw[← hs.len];grind
 ·exact j0 hg.ty hs hρ h

theorem ld{α β:Type}(f:α→(α→β)→β)(hf:∀x k,f x k=k x):∀ (l:List α) (k:List α→β),Il l f k=k l
 |[],_=>rfl
 |x::r,k=>by simp only[Il,hf,ld f hf r]

theorem agL(v:AV)(k:AV→β):nfV v k=k v:=by
 unfold nfV;split<;>first
  |rfl
  |(rw[ld];exact fun x k=>rfl)
  |(rw[ld];intro x k;rw[ld];exact fun _ _=>rfl)
  |(rw[ld _ (fun x k=>rfl)];rw[ld _ (fun x k=>rfl)])

theorem agM(o:Ob)(k:Ob→β):nfO o k=k o:=by
 cases o<;>simp only[nfO]
 all_goals (rw[ld];simp_all)
theorem WQ(E:bk)(k:bk→β):nfE E k=k E:=ld _ (fun _ _=>rfl) E k

theorem dD{N:Nat}{ty:Nat→Option Ty}{d:Option Nat}(h:aO ⟨ty,N⟩ d=true):∀t,d=some t→t<N:=by
 intro t ht;subst ht;exact ke h

theorem s0(hg:c9 g){K:bk→List Ob→Prop}:∀ (l l':List Oper) (E E':bk) (objs objs':List Ob),xQ ⟨g.ty,g.N⟩ (jC pf) ad.toList l E objs=(l',E',objs')→Dr g pf ad l' E' objs' K→Dr g pf ad l E objs K
 |[],l',E,E',objs,objs',h,hd=>by
  simp only[xQ,Prod.mk.injEq]at h
  simp_all
 |o::r,l',E,E',objs,objs',h,hd=>by
  have stuck:(o::r,E,objs)=(l',E',objs')→Dr g pf ad (o::r) E objs K:=fun h=>by
   simp only[Prod.mk.injEq]at h;obtain⟨rfl,rfl,rfl⟩:=h;exact hd
  unfold xQ at h;split at h
  ·rename_i bm;cases DM:held (jC pf) o.op
   case true=>rw[DM]at h;exact stuck h
   rw[DM]at h;simp only[cond_false]at h;split at h
   ·rename_i v a8 cS;cases Ga:aO ⟨g.ty,g.N⟩ o.dst
    ·rw[Ga]at h;exact stuck h
    ·rw [Ga] at h;simp only[cond_true,agL,ld _ (fun x k=>agM x k),WQ]at h;exact⟨v,a8,.JE hg DM (cK bm) (dD Ga) cS,s0 hg r l' _ E' a8 objs' h hd⟩
   ·exact stuck h
  ·rename_i bm;cases Ga:aO ⟨g.ty,g.N⟩ o.dst
   ·rw[Ga]at h;exact stuck h
   ·rw [Ga] at h;simp only[cond_true,WQ]at h;exact⟨.cH [],objs,.skip hg (cK bm) (dD Ga),s0 hg r l' _ E' objs objs' h hd⟩
  simp_all
end
end aw
namespace aw
open Go Go.RowKit

variable{objs:List Ob}{k:List It}{E:bk}{ad:Array Oper}{b:Bool}
theorem aeq{S:Nat→Prop}{w:World}{φ:List bB}{a:Act}(hv:kY S w φ E a)(x:Operand):RV S w φ (ev E x) (a.eval x):=by
 cases x with
 |tmp t=>exact hv t
 |const v=>exact ia (l:=[]) (E:=E) (E₁:=E) aC hv (.const v)
 |global n=>simp[ev,RV]
 |func f=>exact ia (l:=[]) (E:=E) (E₁:=E) aC hv (.func f)

def fB (pf:Nat→cC):Code→Bool
 | .region id ad dr=>!dr || jC pf (Nat.add 900000000 id) || Qh pf ad
 | .seq a b=>fB pf a&&fB pf b
 | .cond _ a b=>fB pf a&&fB pf b
 | .block _ b=>fB pf b
 | .loop b=>fB pf b
 | .rangeFunc _ _ a b=>fB pf a&&fB pf b
 | .scope b=>fB pf b
 |_=>true

def qR (pf:Nat→cC):List It→Prop
 |[]=>True
 | .code c::k=>fB pf c=true∧qR pf k
 |_::k=>qR pf k

def KP (g:G) (Fin:Exit→Act→World→Prop):List It→Exit→Act→World→Prop
 |[]=>Fin
 | .code c::k=>fun e a w=>match e with
  | .normal=>c.wpIn g.F g.dep g.P (KP g Fin k) a w
  |e=>KP g Fin k e a w
 | .js id::k=>fun e a w=>match e with
  | .exit j=>if j=id then KP g Fin k .normal a w else KP g Fin k (.exit j) a w
  |e=>KP g Fin k e a w
 | .mark M::k=>fun e a w=>match e with
  | .normal=>∃E objs,M E objs∧fe g E objs a w
  |e=>KP g Fin k e a w
 | .dr _ _::k=>KP g Fin k
def RK (g:G)(Fin:Exit→Act→World→Prop)(k:List It)(E:bk)(objs:List Ob):Prop:=∀a w,fe g E objs a w→KP g Fin k .normal a w

def R (g:G)(pf:Nat→cC)(Fin:Exit→Act→World→Prop)(k:List It)(E:bk)(objs:List Ob):Prop :=
 qR pf k→match k with
  | .dr ad ax::k'=>Dr g pf ad ax E objs (fun E' objs'=>RK g Fin k' E' objs')
  |k=>RK g Fin k E objs
section
variable {g:G} {pf:Nat→cC} {Fin:Exit→Act→World→Prop}
theorem A7(k:List It):KC (fun E objs=>RK g Fin k E objs):=fun _ _ _ he h a w hs=>h a w (hs.zH he)

theorem R.zH{k:List It}{E E':bk}{objs:List Ob}(he:zG E E')(h:R g pf Fin k E' objs):R g pf Fin k E objs:=fun ho=>by
 have h:=h ho;cases k with
 |nil=>exact A7 [] _ _ _ he h
 |cons x k =>
  cases x<;>first
   |exact A7 _ _ _ _ he h
   |exact Dr.zH (A7 k) he h

theorem RK.ej(ho:qR pf k)(h:R g pf Fin k E objs)(hk:∀ad ax k',k≠.dr ad ax::k'):RK g Fin k E objs:=by
 have h:=h ho
 simp_all

theorem vZ{id:Nat}:∀ {k k':List It} {a:Act} {w:World},iA id k=some k'→KP g Fin k' .normal a w→KP g Fin k (.exit id) a w
 |[],_,_,_,h,_=>by simp[iA]at h
 | .code _::k,k',a,w,h,hk=>by simp only[iA]at h;simp only[KP];exact vZ h hk
 | .mark _::k,k',a,w,h,hk=>by simp only[iA]at h;simp only[KP];exact vZ h hk
 | .dr _ _::k,k',a,w,h,hk=>by simp[iA]at h
 | .js j::k,k',a,w,h,hk=>by
  simp only[iA]at h;simp only[KP];cases hj:Nat.beq j id
  ·rw [hj] at h;have:id≠j:=fun e=>by subst e;simp at hj
   rw[if_neg this];exact vZ h hk
  simp_all

theorem s4{id:Nat}:∀ {k k':List It},iA id k=some k'→qR pf k→qR pf k'
 |[],_,h,_=>by simp[iA]at h
 | .code _::k,k',h,hk=>by simp only[iA]at h;exact s4 h hk.2
 | .mark _::k,k',h,hk=>by simp only[iA]at h;exact s4 (k:=k) h hk
 | .dr _ _::k,k',h,hk=>by simp[iA]at h
 | .js j::k,k',h,hk=>by
  simp only[iA]at h;cases hj:Nat.beq j id
  ·rw[hj]at h;exact s4 (k:=k) h hk
  ·rw[hj]at h;simp only[cond_true,Option.some.injEq]at h;subst h;exact hk

theorem agN(_c d:Code)(k:List It)(e:Exit)(a:Act)(w:World)(h:KP g Fin (.code d::k) e a w):Exit.then (d.wpIn g.F g.dep g.P (KP g Fin k)) (KP g Fin k) e a w:=by
 cases e<;>exact h

theorem agO(id:Nat)(k:List It)(e:Exit)(a:Act)(w:World)(h:KP g Fin (.js id::k) e a w):Exit.inBlock id (KP g Fin k) e a w:=by
 cases e<;>simp only[KP,Exit.inBlock]at h ⊢<;>exact h

theorem Dr.WR{ad:Array Oper}{K K':bk→List Ob→Prop}(h:∀E objs,K E objs→K' E objs):∀ {l:List Oper} {E:bk} {objs:List Ob},Dr g pf ad l E objs K→Dr g pf ad l E objs K'
 |[],_,_,hd=>h _ _ hd
 |_::_,_,_,⟨v,o1,h1,h2⟩=>⟨v,o1,h1,Dr.WR h h2⟩

theorem A8(hg:c9 g){id:Nat}{dr:Bool}(hh:jC pf (Nat.add 900000000 id)=false)(h:R g pf Fin (.dr ad ad.toList::k) E objs):R g pf Fin (.code (.region id ad dr)::k) E objs:=by
 rintro⟨nQ,ho⟩;have h:=h ho;simp only at h;intro a w hs;simp only[KP];have hQ:∀E objs a w,RK g Fin k E objs→fe g E objs a w→KP g Fin k .normal a w:=fun _ _ a w hr hs=>hr a w hs
 cases dr with
 |true =>
  simp only[fB,xK,zA,hh]at nQ;exact abo hg nQ (A7 k) hQ h hs id
 |false=>exact agK hQ h hs id

theorem agP(hg:c9 g)(p:Nat){id:Nat}(hx:agH p (Nat.succ p) pf ad=true)(uK:((ad.toList.take p).all fun o=>mz o.op)=true)(h1:R g pf Fin (.dr ad ad.toList::k) E objs)(h2:R g pf Fin (.dr ad (Js p ad.toList)::k) E objs):R g pf Fin (.code (.region id ad true)::k) E objs:=by
 rintro⟨nQ,ho⟩;have h1:=h1 ho;have h2:=h2 ho;simp only at h1 h2;intro a w hs;simp only[KP];have hQ:∀E objs a w,RK g Fin k E objs→fe g E objs a w→KP g Fin k .normal a w:=fun _ _ a w hr hs=>hr a w hs
 exact WN hg hx (A7 k) hQ uK h1 h2 hs id

theorem WS(hk:∀ad ax k',k≠.dr ad ax::k')(h:R g pf Fin k E objs):R g pf Fin (.dr ad []::k) E objs:=fun ho=>by
 simp only[Dr];exact RK.ej (pf:=pf) (k:=k) ho h hk

def mA:List It→Bool
 |[]=>true
 | .dr _ _::_=>false
 |_::k=>mA k

theorem ir(h:mA k=true):∀ad ax k',k≠.dr ad ax::k':=by
 rintro ad ax k' rfl;simp[mA]at h

theorem qh{id:Nat}:∀ {k k':List It},iA id k=some k'→mA k=true→mA k'=true
 |[],_,h,_=>by simp[iA]at h
 | .code _::k,k',h,hk=>by simp only[iA]at h;exact qh (k:=k) h hk
 | .mark _::k,k',h,hk=>by simp only[iA]at h;exact qh (k:=k) h hk
 | .dr _ _::k,k',h,hk=>by simp[iA]at h
 | .js j::k,k',h,hk=>by
  simp only[iA]at h;cases hj:Nat.beq j id
  ·rw[hj]at h;exact qh (k:=k) h hk
  ·rw[hj]at h;simp only[cond_true,Option.some.injEq]at h;subst h;exact hk

def Ez:List It→Bool
 | .dr _ _::k=>mA k
 |k=>mA k

theorem v7(h:mA k=true):Ez k=true:=by
 cases k with
 |nil=>rfl
 |cons x k=>cases x<;>first
  |exact h
  |(simp[mA]at h)

theorem abq(hg:c9 g):∀ (n:Nat) (k k':List It) (E E':bk) (objs objs':List Ob),Ez k=true→kc ⟨g.ty,g.N⟩ (jC pf) n k E objs=.mk k' E' objs'→R g pf Fin k' E' objs'→R g pf Fin k E objs:=by
 intro n;induction n with
 |zero =>
  intro k k' E E' objs objs' _ h hr;simp only[kc,Cfg.mk.injEq]at h;obtain⟨rfl,rfl,rfl⟩:=h;exact hr
 |succ n ih =>
  intro k k' E E' objs objs' ht h hr
  have stay:Cfg.mk k E objs=.mk k' E' objs'→R g pf Fin k E objs:=fun h=>by
   simp only[Cfg.mk.injEq]at h;obtain⟨rfl,rfl,rfl⟩:=h;exact hr
  cases k with
  |nil=>simp only[kc]at h;exact stay h
  |cons x k =>
   cases x with
   |mark M=>simp only[kc]at h;exact stay h
   |js id =>
    simp only[kc]at h;have Ql:mA k=true:=ht;have h1:=ih k k' E E' objs objs' (v7 Ql) h hr;intro ho a w hs;exact RK.ej (pf:=pf) (k:=k) ho h1 (ir Ql) a w hs
   |dr ad ax =>
    have Ql:mA k=true:=ht;simp only[kc]at h;split at h
    ·rename_i E1 a8 hro;have h1:=ih k k' E1 E' a8 objs' (v7 Ql) h hr;intro ho;exact s0 hg ax [] E E1 objs a8 hro (RK.ej (pf:=pf) (k:=k) ho h1 (ir Ql))
    ·rename_i r E1 a8 _ hro;simp only[Cfg.mk.injEq]at h;obtain⟨rfl,rfl,rfl⟩:=h;intro ho;exact s0 hg ax r E E1 objs a8 hro (hr ho)
   |code c =>
    have Ql:mA k=true:=ht;cases c with
    |seq c d =>
     simp only[kc]at h;have h1:=ih (.code c :: .code d::k) k' E E' objs objs' Ql h hr;rintro⟨nQ,ho⟩ a w hs;simp only[fB,aV]at nQ;have h2:=RK.ej (pf:=pf) (k:=.code c :: .code d::k) ⟨nQ.1,nQ.2,ho⟩ h1 aC a w hs;exact wpIn_seq (wpIn_mono h2 (agN c d k))
    |skip =>
     simp only[kc]at h;have h1:=ih k k' E E' objs objs' (v7 Ql) h hr;rintro⟨_,ho⟩ a w hs;exact wpIn_skip (RK.ej (pf:=pf) (k:=k) ho h1 (ir Ql) a w hs)
    |block id b =>
     simp only[kc]at h;have h1:=ih (.code b :: .js id::k) k' E E' objs objs' Ql h hr;rintro⟨nQ,ho⟩ a w hs;have h2:=RK.ej (pf:=pf) (k:=.code b :: .js id::k) ⟨nQ,ho⟩ h1 aC a w hs;exact wpIn_block (wpIn_mono h2 (agO id k))
    |exit id =>
     simp only[kc]at h;split at h
     ·rename_i k1 aR;have hn:=qh aR Ql;have h1:=ih k1 k' E E' objs objs' (v7 hn) h hr;rintro⟨_,ho⟩ a w hs;exact wpIn_exit (vZ aR (RK.ej (pf:=pf) (k:=k1) (s4 aR ho) h1 (ir hn) a w hs))
     ·exact stay h
    |cond x c d =>
     simp only[kc]at h
     have hev:∀ {b:Bool} {a:Act} {w:World},ev E x=(if b then .tt else .ff)→fe g E objs a w→a.eval x=.bool b:=by
      intro b a w he ⟨φ,_,_,h3,_⟩;have:=aeq h3 x;rw[he]at this;cases b<;>simpa[RV]using this
     split at h
     ·rename_i he;have h1:=ih (.code c::k) k' E E' objs objs' Ql h hr;rintro⟨nQ,ho⟩ a w hs;simp only[fB,aV]at nQ;exact wpIn_cond_true (hev (b:=true) he hs) (RK.ej (pf:=pf) (k:=.code c::k) ⟨nQ.1,ho⟩ h1 aC a w hs)
     ·rename_i he;have h1:=ih (.code d::k) k' E E' objs objs' Ql h hr;rintro⟨nQ,ho⟩ a w hs;simp only[fB,aV]at nQ;exact wpIn_cond_false (hev (b:=false) he hs) (RK.ej (pf:=pf) (k:=.code d::k) ⟨nQ.2,ho⟩ h1 aC a w hs)
     ·exact stay h
    |region id ad dr =>
     simp only[kc]at h;cases hh:jC pf (Nat.add 900000000 id) with
     |true=>simp_all
     |false =>
      rw[hh]at h;exact A8 hg hh (ih (.dr ad ad.toList::k) k' E E' objs objs' Ql h hr)
    |_=>simp only[kc]at h;exact stay h

theorem gv(hg:c9 g)(n:Nat){k k':List It}{E E':bk}{objs objs':List Ob}(ht:Ez k=true)(h:kc ⟨g.ty,g.N⟩ (jC pf) n k E objs=.mk k' E' objs')(hr:R g pf Fin k' E' objs'):R g pf Fin k E objs :=
 abq hg n k k' E E' objs objs' ht h hr

theorem er(hg:c9 g) {k k':List It} {E E':bk} {objs objs':List Ob} (ht:Ez k=true) (h:kc ⟨g.ty,g.N⟩ (jC pf) 1000 k E objs=.mk k' E' objs') (hr:R g pf Fin k' E' objs') : R g pf Fin k E objs:=gv hg 1000 ht h hr

theorem xU(E:bk)(t:Nat)(v:AV)(u:Nat)(h:bM (lk E t) v):bM (lk E u) (lk (put E t v) u):=by
 rw[xS];split
 ·simp_all
 ·exact .refl _

theorem WT(h:b=true):bM (bV b) .tt:=fun S w φ v hv=>by
 simp only[bV,RV]at hv ⊢;subst h;cases hv;rfl

theorem WU(h:b=false):bM (bV b) .ff:=fun S w φ v hv=>by
 simp only[bV,RV]at hv ⊢;subst h;cases hv;rfl

theorem abt(t:Nat)(h:lk E t=.d (.v (.bool b)))(h1:b=true→R g pf Fin k (put E t .tt) objs)(h2:b=false→R g pf Fin k (put E t .ff) objs):R g pf Fin k E objs:=by
 cases hb:b
 ·exact(h2 hb).zH fun u=>xU E t _ u (by rw[h];exact WU hb)
 ·exact(h1 hb).zH fun u=>xU E t _ u (by rw[h];exact WT hb)

def WV:List It→Option Nat
 | .dr ad (o::_)::_=>match o.guard with
  |some (j,_)=>match dk ad.toList j with
   |some og=>og.dst
   |none=>none
  |none=>none
 | .code (.cond (.tmp t) _ _)::_=>some t
 |_=>none

theorem qY{t:Nat}(_ht:WV k=some t)(h:lk E t=.d (.v (.bool b)))(h1:b=true→R g pf Fin k (put E t .tt) objs)(h2:b=false→R g pf Fin k (put E t .ff) objs):R g pf Fin k E objs :=
 abt t h h1 h2

theorem gN(t:Nat){v v':AV}(h:lk E t=v)(he:bM v v')(h1:R g pf Fin k (put E t v') objs):R g pf Fin k E objs :=
 h1.zH fun u=>xU E t _ u k8

def n8 (E:bk):bk→Prop
 |[]=>True
 |(t,v)::r=>bM (lk E t) v∧n8 E r

theorem n8.SK{E:bk}:∀ {E':bk},n8 E E'→zG E E'
 |[],_,u=>by simp only[lk];exact .any _
 |(t,v)::r,h,u=>by
  simp only[lk];cases hb:Nat.beq t u
  ·exact h.2.SK u
  ·have:=cp hb;subst this;exact h.1
theorem WW(E':bk)(he:n8 E E')(h:R g pf Fin k E' objs):R g pf Fin k E objs:=h.zH he.SK
end
end aw
namespace aw
open Go Go.RowKit

variable{f:Nat}
def rJ (P:Program)(f:Nat):Prop:=∀args w,(callFunc f args).run P w=.ok (.enter f args) w

theorem iJ{P:Program}{fn:Func}{c:Code}(hf:P.funcs[f]? = some fn)(hb:fn.body=some c)(hn:(fn.name == "runtime.NumGoroutine")=false):rJ P f:=by
 intro args w;simp only[callFunc,Sem.run_bind,run_program,Result.andThen_ok,hf,hn,hb];rfl

structure bD (P:Program) (f:Nat) (args:List AV) (r:AV):Prop where
 call:rJ P f
 run:∀ (S:Nat→Prop) (w:World) (bL:List Value),gx P S w→(∀ b,w.heap.size≤b→S b)→aW S w [] args bL →
  Calls P f bL.toArray w fun e w'=>∃v,e=.returned v∧RV S w' [] r v∧Below w.heap.size w w'

mutual
def mq:AV→Bool
 | .any=>true
 | .tt=>true
 | .ff=>true
 | .d _=>true
 | .fs _=>true
 | .agg l=>kZ l
 | .lo _ _=>false
 | .el _ _ _ _=>false
 | .vw _ _ _=>false
 | .ow _ _=>false
 | .mp _=>false
 | .cH l=>kZ l
 | .bU _ a c=>kZ a&&kZ c
 | .yl _=>false
def kZ:List AV→Bool
 |[]=>true
 |x::l=>mq x&&kZ l
end

mutual
theorem RV.pure{S S':Nat→Prop}{w w':World}{φ φ':List bB}(hk:dE S w S' w'):∀ {x:AV} {v:Value},mq x=true→RV S w φ x v→RV S' w' φ' x v
 | .any,_,_,_=>by simp[RV]
 | .tt,_,_,h=>by simpa[RV]using h
 | .ff,_,_,h=>by simpa[RV]using h
 | .d x,v,_,h=>by simp only[RV]at h ⊢;exact h.mono hk
 | .fs aa,v,_,h=>by simp only[RV]at h ⊢;exact⟨h.1.mono hk,h.2⟩
 | .agg l,v,hp,h=>by
  simp only[RV]at h ⊢;simp only[mq]at hp;obtain⟨cs,h1,h2⟩:=h;exact⟨cs,h1,aW.pure hk hp h2⟩
 | .lo _ _,_,hp,_=>by simp[mq]at hp
 | .yl _,_,hp,_=>by simp[mq]at hp
 | .el _ _ _ _,_,hp,_=>by simp[mq]at hp
 | .vw _ _ _,_,hp,_=>by simp[mq]at hp
 | .ow _ _,_,hp,_=>by simp[mq]at hp
 | .mp _,_,hp,_=>by simp[mq]at hp
 | .cH l,v,hp,h=>by
  simp only[RV]at h ⊢;simp only[mq]at hp;obtain⟨cs,h1,h2⟩:=h;exact⟨cs,h1,aW.pure hk hp h2⟩
 | .bU f a c,v,hp,h=>by
  simp only[RV]at h ⊢;simp only[mq,aV]at hp;obtain⟨va,vc,h1,h2,h3⟩:=h;exact⟨va,vc,h1,aW.pure hk hp.1 h2,aW.pure hk hp.2 h3⟩
theorem aW.pure{S S':Nat→Prop}{w w':World}{φ φ':List bB}(hk:dE S w S' w'):∀ {l:List AV} {vs:List Value},kZ l=true→aW S w φ l vs→aW S' w' φ' l vs
 |[],[],_,_=>by simp[aW]
 |[],_::_,_,h=>by simp[aW]at h
 |_::_,[],_,h=>by simp[aW]at h
 |a::l,v::vs,hp,h=>by
  simp only[aW]at h ⊢;simp only[kZ,aV]at hp;exact⟨RV.pure hk hp.1 h.1,aW.pure hk hp.2 h.2⟩
end

def lB:AV→AV
 | .tt=>.d (.v (.bool true))
 | .ff=>.d (.v (.bool false))
 | .fs aa=>.d (.sl aa)
 | .d (.v (.slice none 0 0))=>.d (.sl [])
 | .agg l=>.agg (l.map fun x=>match x with
  | .fs aa=>.d (.sl aa)
  | .tt=>.d (.v (.bool true))
  | .ff=>.d (.v (.bool false))
  | .d (.v (.slice none 0 0))=>.d (.sl [])
  |x=>x)
 |x=>x

theorem aW.qi{S:Nat→Prop}{w:World}{φ:List bB}(f:AV→AV)(hf:∀x,bM x (f x)):∀ {l:List AV} {vs:List Value},aW S w φ l vs→aW S w φ (l.map f) vs
 |[],[],_=>by simp[aW]
 |[],_::_,h=>by simp[aW]at h
 |_::_,[],h=>by simp[aW]at h
 |a::l,v::vs,h=>by simp only[aW,List.map_cons]at h ⊢;exact⟨hf a _ _ _ _ h.1,h.2.qi f hf⟩

theorem bM.nil:bM (.d (.v (.slice none 0 0))) (.d (.sl [])):=fun S w φ v h=>by
 simp only[RV]at h ⊢;cases h;exact .nil _ _
theorem bM.fs(aa:List (List D)):bM (.fs aa) (.d (.sl aa)):=fun S w φ v h=>by simp only[RV]at h ⊢;exact h.1
theorem bM.tt:bM .tt (.d (.v (.bool true))):=fun S w φ v h=>by simp only[RV]at h ⊢;subst h;exact .v _
theorem bM.ff:bM .ff (.d (.v (.bool false))):=fun S w φ v h=>by simp only[RV]at h ⊢;subst h;exact .v _

theorem bM.lB(x:AV):bM x (lB x):=by
 unfold aw.lB;split
 ·exact .tt
 ·exact .ff
 ·exact .fs _
 ·exact .nil
 ·intro S w φ v h;simp only[RV]at h ⊢;obtain⟨cs,h1,h2⟩:=h;refine⟨cs,h1,h2.qi _ fun x=>?_⟩;split
  ·exact .fs _
  ·exact .tt
  ·exact .ff
  ·exact .nil
  ·exact .refl _
 ·exact .refl _
section
variable {g:G} {pf:Nat→cC} {ad:Array Oper}

theorem agQ(S:Nat→Prop):SS S []=S:=by
 funext b;simp[SS,eD]

theorem xW{P:Program}{w:World}{o:Oper}{a:Act}{x:Operand}{args:Array Operand}{ts:Array Nat}{va vc:List Value}(hop:o.op=.call { callee:=.value x,args:=args,argTypes:=ts })
  (hx:a.eval x=.func (.func f) va.toArray vc.toArray) (hc:rJ P f) :
  (execOp a.eval o).run P w=.ok (.enter f (va++args.toList.map a.eval++vc).toArray) w:=by
 have h1:(resolve a.eval { callee:=.value x,args:=args,argTypes:=ts } o.type).run P w=.ok { target:=.fn (.func f) vc.toArray,args:=va.toArray++args.map a.eval } w:=by
  simp[resolve,hx,Deferred.ofValue]
 simp only[execOp,hop,Sem.run_bind,h1,Result.andThen_ok,invoke];rw[show va.toArray++Array.map a.eval args++vc.toArray=(va++args.toList.map a.eval++vc).toArray from by simp_all];exact hc _ _

theorem A9(hg:c9 g)(m:Machine):m.fenced g.P g.F:=fun x _ =>
 ⟨(fun h=>by rw[hg.alive]at h;cases h),.inl (hg.fn _),(fun f _=>hg.fn f),(fun d hd=>by rw[hg.depth]at hd;cases hd)⟩

theorem qj(hg:c9 g){n f:Nat}{args:Array Value}{w:World}{R:Ending→World→Prop}(h:Calls g.P f args w R):CallsIn g.F n g.P f args w R :=
 ⟨hg.fn f,fun cs _=>let ⟨e,w',fr,r,s,x⟩:=h cs;⟨e,w',fr,r,by
  cases e with
  |returned v=>exact(StepsIn.of_steps s).mono fun m _=>A9 hg m
  |panicked ch=>exact(StepsIn.of_steps s).mono fun m _=>A9 hg m
  |outgrown=>exact s,x⟩⟩

theorem JF(hg:c9 g){o:Oper}{E:bk}{objs:List Ob}{x:Operand}{args:Array Operand}{ts:Array Nat}{fs cs dM:List AV}{r:AV}(bm:JC ad E o true)(hd:∀t,o.dst=some t→t<g.N)
  (hop:o.op=.call { callee:=.value x,args:=args,argTypes:=ts }) (hx:ev E x=.bU f fs cs) (has:(fs++args.toList.map (ev E)++cs).map lB=dM) (hpa:kZ dM=true) (hc:bD g.P f dM r) (hpr:mq r=true) :
  aI g ad o E objs .still r objs:=by
 refine⟨fun _=>rfl,fun _ _ _=>.refl _,fun E₁ o₁ jl a w he ho hs Q=>?_⟩
 have e:jl=o₁:=by
  grind
 subst e;obtain⟨φ,h1,h2,h3,h4,h5,h6⟩:=hs;rw[mL bm he h3];simp only[if_true];refine⟨pk hg o w a,?_⟩;have hρ:=ia (l:=o.looksAt ad) he h3
 have hev:∀y∈o.op.operands.toList,pg (o.looksAt ad) E y=ev E y:=fun y hy=>by
  cases y with
  |tmp t=>simp[pg,ev,sZ hy]
  |_=>rfl
 have aol:o.op.operands.toList=x::args.toList:=by rw[hop];simp[Op.operands,Call.operands]
 have aN:=hρ x;rw[hev x (by rw[aol];simp),hx]at aN;simp only[RV]at aN;obtain⟨va,vc,aN,WX,qg⟩:=aN
 have mr:aW (SS g.S0 φ) w φ (args.toList.map (ev E)) (args.toList.map a.eval):=by
  refine aW.map _ _ _ fun y hy=>?_
  grind
 have eK:=((WX.append mr).append qg).qi lB bM.lB;rw[has]at eK;rw[Oper.semAt_eq _ _ _ (by rw[hop];simp),xW hop aN hc.call];refine⟨fun h=>by rw[hg.depth]at h;simp at h,?_⟩;have SL:∀b,w.heap.size≤b→SS g.S0 φ b:=fun b hb=>⟨h1.up b hb,fun hc=>by have:=h1.lt b hc;omega⟩
 have fx:=hc.run (SS g.S0 φ) w _ (hg.Eu h2 h6) SL (eK.pure (dE.refl _ _) hpa);refine(qj hg fx).mono ?_;rintro e w' ⟨v,rfl,hv,hb⟩;have cS:jJ g.S0 φ w φ jl w':=⟨h1.later hb.size (fun b uc=>hb.block b uc),.of fun b uc hl=>⟨uc,hb.block b hl⟩,.refl _,hb.size,hb.os,hb.tape,hb.output,fun b uc _=>hb.block b uc,fun _ h=>.inl h,fun _ _ _ B h=>⟨B,h⟩⟩;exact fe.P4 h2 h3 h4 h5 h6 cS hd fun _=>hv.pure (dE.refl _ _) hpr
end
theorem en {g:G}{pf:Nat→cC}{Fin:Exit→Act→World→Prop}(hg:c9 g){k k':List It}{E E':bk}{objs objs':List Ob}{t:Nat}{b:Bool}(ht:WV k=some t)(h:lk E t=.d (.v (.bool b)))(hb:¬b=true)(hk:Ez k=true)(hr:kc ⟨g.ty,g.N⟩ (jC pf) 1000 k (put E t .ff) objs=.mk k' E' objs')(h2:R g pf Fin k' E' objs'):R g pf Fin k E objs:=qY ht h (fun e=>absurd e hb) (fun _=>er hg hk hr h2)
theorem cQ {g:G}{pf:Nat→cC}{Fin:Exit→Act→World→Prop}(hg:c9 g){k k':List It}{E E':bk}{objs objs':List Ob}{t:Nat}{b:Bool}(ht:WV k=some t)(h:lk E t=.d (.v (.bool b)))(hb:¬b=false)(hk:Ez k=true)(hr:kc ⟨g.ty,g.N⟩ (jC pf) 1000 k (put E t .tt) objs=.mk k' E' objs')(h2:R g pf Fin k' E' objs'):R g pf Fin k E objs:=qY ht h (fun _=>er hg hk hr h2) (fun e=>absurd e hb)
end aw
