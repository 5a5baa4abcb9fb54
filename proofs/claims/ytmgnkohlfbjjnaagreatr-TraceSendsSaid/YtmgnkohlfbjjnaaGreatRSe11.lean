/- Ground for the claim TraceSends. -/
import Derived.Test.YtmgnkohlfbjjnaaGreatRSe10
set_option linter.unusedVariables false
set_option linter.unusedSimpArgs false
set_option maxHeartbeats 4000000
section
namespace Go.Proofs
open Go.Fw Go.Fx
set_option maxRecDepth 10000
theorem SS{x0:List Int}{s1:SV}{out:Bool}{w0:World}{Bf:World→Prop}{Lr:List di}(I:Sh.sU x0=some out)(H:au w0 (Lr))(S:∀ w,au w Lr→Bf w)(f2:dj Bf s1 x0):Calls Tryz.prog 15 #[(s1).v] w0 (fZ fun v w'=>v = .bool out∧au w' (Lr)):=by
 unfold Sh.sU at I
 refine ce Tryz.func15 Tryz.ntmps15 fun a G=>?_
 refine go 8 fun a w G H=>?_
 obtain⟨u2,k7,I⟩:=ade I
 have k0:=gL k7 H 
 refine cl Tryz.call22 k0 ?_
 rintro v w ⟨rfl,H⟩ a G
 refine go 3 fun a w G H=>?_
 refine cc I (fun j2 I=>?_) fun j2 I=>?_
 ·exact lf
 refine go 8 fun c6 a w G H=>?_
 refine aM G H I (fun F x a w=>match x with|i4=>∃ (d7:SV),Fr 124 [(0,(s1).v),(2,.bool false),(3,.pointer (some ⟨c6,0,none⟩))] a∧au w (pt c6 (bj.enc (bj.mk 0 0 SV.nil SV.nil d7)) 27::ak 0 d7 101 i4::Lr)) (fun u5 I p1 G H=>?_) ?_
 ·refine go 6 fun a w G H=>?_
  have H:=H.rowNil (X:=bg) 0 101
  refine aY G H I (fun F x a w=>match x with|(c9,d3)=>∃ (c8:SV),Fr 124 [(4,.int .i64 d3),(0,(s1).v),(2,.bool false),(3,.pointer (some ⟨c6,0,none⟩))] a∧au w (pt c6 (bj.enc (bj.mk 0 0 SV.nil SV.nil c8)) 27::ak 0 c8 101 c9::Lr)) (fun G H=>⟨SV.nil,G.to ⟨E,E,E,E,trivial⟩,fU H [1,0] 2⟩) ?_
  rintro⟨c9,d3⟩ a w z1 I l4 ⟨c8,G,H⟩
  replace I:Sh.cV x0 c9 d3=_:=I
  unfold Sh.cV at I
  refine go 2 fun a w G H=>?_
  refine jm (pt c6 (bj.enc (bj.mk 0 0 SV.nil SV.nil c8)) 27::ak 0 c8 101 c9::Lr) G H I [0,2,3,4] (fun d8 u=>(21,.bool d8)::u) (fun u6 I p2 G H=>?_) fun d8 a w I G H=>?_
  ·exact lf
  replace I:Sh.uX x0 c9 d3 d8=_:=I
  unfold Sh.uX at I
  refine aB ?_
  refine cc I (fun j3 I=>?_) fun j3 I=>?_
  ·refine go 4 fun a w G H=>?_
   refine dT H [0,1] 2 fun K=>?_
   obtain⟨l7,n0,I⟩:=ade I
   refine eL [0,1,2,3,4,5] fun a G=>?_
   refine aK G K 6 E ada E E E (fun w H=>(aW BS yd zo G (parts:=[(0,.const (.int .i64 (20))),(4,.const (.int .i64 (1))),(7,.tmp 29)]) E E (aP E E (by rw[bg.len];decide) (bg.s_op _ _) (aP E E (by rw[bg.len];decide) (bg.s_dst _ _) (aP E E (by rw[bg.len];decide) (bg.s_imm _ _) bD))))) fun a G=>?_
   refine aK G K 7 E ada E E E (fun w H=>(aW BS yd zo G (parts:=[(0,.const (.int .i64 (38))),(7,.const (.int .i64 (6)))]) E E (aP E E (by rw[bg.len];decide) (bg.s_op _ _) (aP E E (by rw[bg.len];decide) (bg.s_imm _ _) bD)))) fun a G=>?_
   refine dx 8 fun w ep H=>?_
   refine(eR (X:=bg) (ys:=[(bg.mk 20 false false 0 1 0 0 l7),(bg.mk 38 false false 0 0 0 0 6)]) (m:=2) wz r6 E E E E (by decide) (by decide) G E E (gj.cons E (gj.cons E gj.nil)) fun m0 w m2 g9=>?_)
   have H:=H.plus g9
   try dsimp only[List.set]at H
   refine ds [0,1,2] 3 fun a G=>?_
   refine dx 9 fun w ep H=>?_
   obtain⟨t6,k5,I⟩:=ade I
   refine(cB (X:=bg) k5 wz r6 E E E E G E E E (H.own (X:=bg) (i:=2) E) (H.ptS (X:=bg) (i:=0) (n:=2) (c:=2) E E E (aal _)) fun l5 w i8=>?_)
   have H:=H.chg i8 (i:=2) rfl
   try dsimp only[List.set]at H
   refine dh fun a G=>?_
   refine eL [10,11] fun a G=>?_
   refine de fun w H=>?_
   refine go 8 fun a w G H=>?_
   exact jr I ⟨l5,G.t,bS H [1,2] 3 E⟩
  refine go 5 fun a w G H=>?_
  obtain rfl:=oI I
  have I:=l4 _ rfl
  subst I
  exact⟨c9,E,c8,G.to ⟨E,E,E,trivial⟩,H⟩
 rintro i4 a w I ⟨d7,G,H⟩
 unfold Sh.oS at I
 refine go 5 fun a w G H=>?_
 refine aA G (aW BS yd zo G (parts:=[(0,.const (.int .i64 (15)))]) E E (aP E E (by rw[bg.len];decide) (bg.s_op _ _) bD)) E E E fun a G=>?_
 refine aA G (aW BS yd zo G (parts:=[(0,.const (.int .i64 (39)))]) E E (aP E E (by rw[bg.len];decide) (bg.s_op _ _) bD)) E E E fun a G=>?_
 refine aN G E E E (eR (X:=bg) (ys:=[(bg.mk 15 false false 0 0 0 0 0),(bg.mk 39 false false 0 0 0 0 0)]) (m:=2) wz r6 E E E E (by decide) (by decide) G E E (gj.cons E (gj.cons E gj.nil)) fun m1 w m3 i0=>?_)
 have H:=H.plus i0
 try dsimp only[List.set]at H
 intro a G
 obtain⟨l8,k6,I⟩:=ade I
 refine aN G E E E (cB (X:=bg) k6 wz r6 E E E E G E E E (H.own (X:=bg) (i:=2) E) (H.ptS (X:=bg) (i:=0) (n:=2) (c:=2) E E E (aal _)) fun l6 w i9=>?_)
 have H:=H.chg i9 (i:=2) rfl
 try dsimp only[List.set]at H
 intro a G
 refine go 8 fun a w G H=>?_
 obtain⟨u3,k8,I⟩:=ade I
 have k1:=wO k8 H (fun _ h=>h) dj.nil dj.nil (fun w H=>(H.rowS (X:=bg) (i:=2) rfl))
 refine cl Tryz.call54 k1 ?_
 rintro v w ⟨rfl,H⟩ a G
 refine go 13 fun a w G H=>?_
 refine cc I (fun j4 I=>?_) fun j4 I=>?_
 ·exact lf
 refine go 5 fun a w G H=>?_
 refine aA G (aW z30 Bv Bl G (parts:=[]) E E bD) E E E fun a G=>?_
 obtain⟨c0,k9,I⟩:=ade I
 have k2:=yO k9 H (fun _ h=>h) dj.nil dj.nil (fun w H=>(H.rowS (X:=bg) (i:=2) rfl)) dj.nil dj.nil cn.nil
 refine cl Tryz.call25 k2 ?_
 rintro v w ⟨c3,c4,c1,c5,d0,d1,rfl,i3,c7,H⟩ a G
 refine go 10 fun c2 a w G H=>?_
 refine jm (pt c2 (bp.enc (Gt c0.1 c3 c4 c5)) 36::ak 0 c3 5 c0.1.qb.cq::ak 0 c4 23 c1::(a_ c1 c0.1.qb.ah)::ak 0 c5 60 d0::d1::ak 0 l6 101 l8::Lr) G H I [0,2,7] (fun d9 u=>(70,.bool d9)::u) (fun u7 I p3 G H=>?_) fun d9 a w I G H=>?_
 ·refine go 4 fun a w G H=>?_
  refine gs I (fun j5 I=>?_) fun j5 I=>?_
  ·exact lf
  refine go 5 fun a w G H=>?_
  refine gs I (fun g3 I=>?_) fun g3 I=>?_
  ·exact lf
  refine go 5 fun a w G H=>?_
  refine aO G E E E g3 (cK (H.rowS (X:=bg) (i:=8) E) wz G E E) E E fun a G=>?_
  exact lf
 replace I:Sh.kO x0 c0 d9=_:=I
 unfold Sh.kO at I
 refine aB ?_
 refine cc I (fun j6 I=>?_) fun j6 I=>?_
 ·exact lf
 refine go 9 fun a w G H=>?_
 refine aM G H I (fun F x a w=>match x with|g0=>∃ (d2:SV),dj Bf d2 g0∧Fr 124 [(9,(d2).v),(2,.bool false),(7,.pointer (some ⟨c2,0,none⟩))] a∧au w (pt c2 (bp.enc (Gt c0.1 c3 c4 c5)) 36::ak 0 c3 5 c0.1.qb.cq::ak 0 c4 23 c1::(a_ c1 c0.1.qb.ah)::ak 0 c5 60 d0::d1::Lr)) (fun u8 I p4 G H=>?_) ?_
 ·refine go 7 fun a w G H=>?_
  refine cc I (fun j7 I=>?_) fun j7 I=>?_
  ·refine go 2 fun a w G H=>?_
   obtain⟨t7,g5,I⟩:=ade I
   refine aA G (eY (f2 _ (S _ (fc H 7))) g5 kz jO E G E E (.inl ⟨E,E⟩) (.inr ⟨_,_,E,E⟩)) E E E fun a G=>?_
   refine go 3 fun a w G H=>?_
   exact jr I ⟨(s1.cut (0:Int).toNat (64:Int).toNat 1),(dj.ny f2 g5 E),G.t,bS H [0,1,2,3,4,5] 7 E⟩
  refine bL (aB ?_)
  exact jr I ⟨s1,f2,G.t,bS H [0,1,2,3,4,5] 7 E⟩
 rintro g0 a w I ⟨d2,n4,G,H⟩
 unfold Sh.oT at I
 refine go 10 fun a w G H=>?_
 refine jm (pt c2 (bp.enc (Gt c0.1 c3 c4 c5)) 36::ak 0 c3 5 c0.1.qb.cq::ak 0 c4 23 c1::(a_ c1 c0.1.qb.ah)::ak 0 c5 60 d0::d1::Lr) G H I [2,7] (fun g1 u=>(10,.int .i64 g1)::u) (fun u9 I l3 G H=>?_) fun g1 a w I G H=>?_
 ·refine go 9 fun a w G H=>?_
  refine aY G H I (fun F x a w=>match x with|(d4,d5)=>Fr 124 [(10,.int .i64 d4),(11,.int .i64 d5),(2,.bool false),(7,.pointer (some ⟨c2,0,none⟩)),(9,(d2).v)] a∧au w (pt c2 (bp.enc (Gt c0.1 c3 c4 c5)) 36::ak 0 c3 5 c0.1.qb.cq::ak 0 c4 23 c1::(a_ c1 c0.1.qb.ah)::ak 0 c5 60 d0::d1::Lr)) (fun G H=>⟨G.to ⟨E,E,E,E,E,trivial⟩,H⟩) ?_
  rintro⟨d4,d5⟩ a w z2 I i2 ⟨G,H⟩
  replace I:Sh.hJ c0 g0 d4 d5=_:=I
  unfold Sh.hJ at I
  refine go 7 fun a w G H=>?_
  refine cc I (fun j8 I=>?_) fun j8 I=>?_
  ·refine go 8 fun a w G H=>?_
   obtain⟨l9,l0,I⟩:=ade I
   have k3:=pV l0 H (fun _ h=>h) (fun w H=>(H.rowS (X:=UInt8) (i:=1) rfl)) (fun w H=>(H.rowS (X:=SV) (i:=2) rfl)) (i3.mono fun _ _ q=>q.mono fun w H=>H.hold 3 _ rfl) (fun w H=>(H.rowS (X:=bw) (i:=4) rfl)) (c7.mono fun _ _ q=>q.mono fun w H=>H.hold 5 _ rfl)
   refine cl Tryz.call36 k3 ?_
   rintro v w ⟨rfl,H⟩ a G
   refine go 4 fun a w G H=>?_
   refine jn G H I [10,11,2,7,9] (fun g2 u=>(119,.bool g2)::u) (fun z0 I p5 G H=>?_) fun g2 a w I G H=>?_
   ·refine dT H [0,1,2,3,4,5] 6 fun K=>?_
    refine eL [0,1,2,3,4,5] fun a G=>?_
    refine gs I (fun g4 I=>?_) fun g4 I=>?_
    ·refine eL [6,7,8,9,10,11,12,13,14,15,16,17,18,19,20,21,22,23,24,25,26,27,28,29] fun a G=>?_
     refine de fun w H=>?_
     exact lf
    refine eL [6,7,8] fun a G=>?_
    obtain⟨t8,g6,I⟩:=ade I
    have i5:=aL g6
    obtain⟨n2,m6,j0⟩:=cn.getr c7 i5.2
    have m4:=cn.bd c7 (aZ g6)
    obtain⟨p8,p9,t0,m8,t1,rfl,n5,n6,n7,p6,l2⟩:=j0
    refine eL [9,10,11] fun a G=>?_
    refine cU G K 12 E ada E E E g4 E E (fun w H=>(cK (l2 _ (H.hold 5 _ E)) kz G E E)) fun a G=>?_
    refine eL [13,14,15] fun a G=>?_
    refine gs I (fun d6 I=>?_) fun d6 I=>?_
    ·refine eL [16,17,18,19,20,21,22,23,24,25,26,27,28,29] fun a G=>?_
     refine de fun w H=>?_
     exact lf
    refine eL [16,17,18] fun a G=>?_
    obtain⟨t9,g7,I⟩:=ade I
    have i6:=aL g7
    obtain⟨n3,m7,j1⟩:=cn.getr c7 i6.2
    have m5:=cn.bd c7 (aZ g7)
    obtain⟨t2,t3,t4,m9,t5,rfl,n8,n9,p0,p7,i1⟩:=j1
    refine eL [19,20,21] fun a G=>?_
    obtain⟨u0,g8,I⟩:=ade I
    have i7:=aL g8
    refine cU G K 22 E ada E E E d6 E E (fun w H=>(bC (sz:=1) (i1 _ (H.hold 5 _ E)) kz jO E G E E E (aZ g8))) fun a G=>?_
    refine cU G K 23 E ada E E E d6 E E (fun w H=>(aG r_ G E E ((((i1 _ (H.hold 5 _ E)).elemS i7.2)).get 0 E))) fun a G=>?_
    obtain⟨u1,n1,I⟩:=ade I
    refine eL [24,25,26,27,28,29] fun a G=>?_
    refine de fun w H=>?_
    exact lf
   replace I:Sh.uY d5 l9 g2=_:=I
   unfold Sh.uY at I
   refine aB ?_
   refine cc I (fun j9 I=>?_) fun j9 I=>?_
   ·refine go 6 fun a w G H=>?_
    obtain rfl:=oI I
    have I:=i2 _ rfl
    subst I
    have I:=bA l3
    subst I
    refine aT Tryz.results15 G E ?_
    exact⟨E,bS H [] 6 E⟩
   exact lf
  refine go 5 fun a w G H=>?_
  obtain rfl:=oI I
  have I:=i2 _ rfl
  subst I
  exact⟨d4,E,G.to ⟨E,E,E,trivial⟩,H⟩
 replace I:Sh.hI c0 g1=_:=I
 unfold Sh.hI at I
 refine go 5 fun a w G H=>?_
 obtain⟨u4,l1,I⟩:=ade I
 have k4:=pV l1 H (fun _ h=>h) (fun w H=>(H.rowS (X:=UInt8) (i:=1) rfl)) (fun w H=>(H.rowS (X:=SV) (i:=2) rfl)) (i3.mono fun _ _ q=>q.mono fun w H=>H.hold 3 _ rfl) (fun w H=>(H.rowS (X:=bw) (i:=4) rfl)) (c7.mono fun _ _ q=>q.mono fun w H=>H.hold 5 _ rfl)
 refine cl Tryz.call36 k4 ?_
 rintro v w ⟨rfl,H⟩ a G
 exact lf
end Go.Proofs
end
