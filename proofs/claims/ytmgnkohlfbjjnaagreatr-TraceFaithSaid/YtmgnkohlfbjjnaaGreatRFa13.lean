/- Ground for the claim TraceFaith. -/
import Derived.Test.YtmgnkohlfbjjnaaGreatRFa12
set_option linter.unusedVariables false
set_option linter.unusedSimpArgs false
set_option maxHeartbeats 4000000
open Sum
section
namespace Go.Proofs
open Go.Fw Go.Fx
set_option maxRecDepth 10000
theorem zR{x0:fh}{s1 s3 s5:SV}{out:Bool}{w0:World}{Bf:World→Prop}{Lr:List dw}(I:Sh.GH x0=some out)(H:au w0 (Lr))(S:∀ w,au w Lr→Bf w)(f2:cn Bf s1 x0.data)(f4:cn Bf s3 x0.ah)(f6:cn Bf s5 x0.code):Calls Tryz.prog 138 #[.agg (bh.enc (bh.mk x0.lo x0.hi s1 s3 s5)).toArray] w0 (gf fun v w'=>v = .bool out∧au w' (Lr)):=by
 unfold Sh.GH at I
 refine ce Tryz.func138 Tryz.ntmps138 fun a G=>?_
 refine go 8 fun c0 a w G H=>?_
 refine jn G H I [1,2] (fun c1 u=>(41,.bool c1)::u) (fun g5 I g0 G H=>?_) fun c1 a w I G H=>?_
 ·exact lf
 replace I:Sh.Gx x0 c1=_:=I
 unfold Sh.Gx at I
 refine aB ?_
 refine cc I (fun d0 I=>?_) fun d0 I=>?_
 ·exact lf
 refine go 3 fun a w G H=>?_
 refine jn G H I [1,2] (fun _ u=>u) (fun g6 I c8 G H=>?_) fun _ a w I G H=>?_
 ·refine go 9 fun a w G H=>?_
  refine ln G H I [1,2,43,44] (fun c2 u=>(45,.int .i64 c2)::u) fun c2 a w i0 I c6 G H=>?_
  unfold Sh.FG at I
  refine go 6 fun a w G H=>?_
  refine cc I (fun d1 I=>?_) fun d1 I=>?_
  ·obtain⟨i2,g3,I⟩:=adu I
   refine go 13 fun d8 a w G H=>?_
   refine jm (pt c0 (bh.enc (bh.mk x0.lo x0.hi s1 s3 s5)) 27::Lr) G H I [1,2,43,44,45] (fun c3 u=>(66,.bool c3)::u) (fun g7 I g1 G H=>?_) fun c3 a w I G H=>?_
   ·exact lf
   replace I:Sh.FD c2 c3=_:=I
   unfold Sh.FD at I
   refine aB ?_
   refine cc I (fun d2 I=>?_) fun d2 I=>?_
   ·refine go 6 fun a w G H=>?_
    obtain rfl:=oI I
    have I:=c6 _ rfl
    subst I
    have I:=bB c8
    subst I
    refine aT Tryz.results138 G E ?_
    exact⟨E,bU H [] 1 E⟩
   exact lf
  refine go 5 fun a w G H=>?_
  obtain rfl:=oI I
  have I:=c6 _ rfl
  subst I
  exact⟨(),E,G.to ⟨E,E,trivial⟩,H⟩
 replace I:Sh.Gy x0=_:=I
 unfold Sh.Gy at I
 refine go 6 fun a w G H=>?_
 obtain⟨i4,d7,I⟩:=adu I
 have d6:=xK d7 H (Bf:=Bf) (tb S) f6
 refine cl Tryz.call202 d6 ?_
 rintro v w ⟨rfl,H⟩ a G
 refine go 13 fun a w G H=>?_
 refine cc I (fun d3 I=>?_) fun d3 I=>?_
 ·exact lf
 refine go 3 fun a w G H=>?_
 refine jm (Lr) G H I [2] (fun _ u=>u) (fun g8 I c9 G H=>?_) fun _ a w I G H=>?_
 ·refine go 9 fun a w G H=>?_
  refine ln G H I [1,2,77,78] (fun c4 u=>(79,.int .i64 c4)::u) fun c4 a w i1 I c7 G H=>?_
  unfold Sh.aAy at I
  refine go 6 fun a w G H=>?_
  refine cc I (fun d4 I=>?_) fun d4 I=>?_
  ·obtain⟨i3,g4,I⟩:=adu I
   refine go 13 fun d9 a w G H=>?_
   refine jm (pt c0 (bh.enc (bh.mk x0.lo x0.hi s1 s3 s5)) 27::Lr) G H I [1,2,77,78,79] (fun c5 u=>(93,.bool c5)::u) (fun g9 I g2 G H=>?_) fun c5 a w I G H=>?_
   ·exact lf
   replace I:Sh.aAw c4 c5=_:=I
   unfold Sh.aAw at I
   refine aB ?_
   refine cc I (fun d5 I=>?_) fun d5 I=>?_
   ·refine go 6 fun a w G H=>?_
    obtain rfl:=oI I
    have I:=c7 _ rfl
    subst I
    have I:=bB c9
    subst I
    refine aT Tryz.results138 G E ?_
    exact⟨E,bU H [] 1 E⟩
   exact lf
  refine go 5 fun a w G H=>?_
  obtain rfl:=oI I
  have I:=c7 _ rfl
  subst I
  exact⟨(),E,G.to ⟨E,trivial⟩,bU H [] 1 E⟩
 replace I:Sh.IG=_:=I
 unfold Sh.IG at I
 exact lf
theorem zQ{x0:fh}{x1:fj}{s1 s3 s5 s7 s9:SV}{q_:List SV}{out:Bool}{w0:World}{Bf:World→Prop}{Lr:List dw}(I:Sh.aD1 x0 x1=some out)(H:au w0 (Lr))(S:∀ w,au w Lr→Bf w)(f2:cn Bf s1 x0.data)(f4:cn Bf s3 x0.ah)(f6:cn Bf s5 x0.code)(f8:cn Bf s7 x1.b_)(f11:cn Bf s9 q_)(Bo:bw (cn (X:=UInt8) Bf) q_ x1.ah):Calls Tryz.prog 139 #[.agg (bh.enc (bh.mk x0.lo x0.hi s1 s3 s5)).toArray,.agg (br.enc (br.mk s7 s9)).toArray] w0 (gf fun v w'=>v = .bool out∧au w' (Lr)):=by
 unfold Sh.aD1 at I
 refine ce Tryz.func139 Tryz.ntmps139 fun a G=>?_
 refine go 9 fun d1 c0 a w G H=>?_
 refine jn G H I [2,3,4] (fun c1 u=>(29,.bool c1)::u) (fun d8 I d5 G H=>?_) fun c1 a w I G H=>?_
 ·exact lf
 replace I:Sh.Gw x0 x1 c1=_:=I
 unfold Sh.Gw at I
 refine aB ?_
 refine cc I (fun c8 I=>?_) fun c8 I=>?_
 ·exact lf
 refine go 3 fun a w G H=>?_
 refine jm (Lr) G H I [4] (fun _ u=>u) (fun d9 I c7 G H=>?_) fun _ a w I G H=>?_
 ·refine go 9 fun a w G H=>?_
  refine aY G H I (fun F x a w=>match x with|c6=>Fr 51 [(33,.int .i64 c6),(3,.pointer (some ⟨c0,0,none⟩)),(31,(s3).v),(32,.int .i64 (x0.ah.length:Int)),(4,.bool false)] a∧au w (pt c0 (br.enc (br.mk s7 s9)) 30::Lr)) (fun G H=>⟨G.to ⟨E,E,E,E,E,trivial⟩,f_ H [0] 2⟩) ?_
  rintro c6 a w g0 I c2 ⟨G,H⟩
  unfold Sh.FC at I
  refine go 6 fun a w G H=>?_
  refine cc I (fun c9 I=>?_) fun c9 I=>?_
  ·obtain⟨g1,d6,I⟩:=adu I
   refine go 15 fun d2 a w G H=>?_
   refine dT H [0,1] 2 fun K=>?_
   obtain⟨g2,c3,I⟩:=adu I
   have c4:=aL c3
   obtain⟨d7,d4,c5⟩:=bw.getr Bo c4.2
   have d3:=bw.bd Bo (bA c3)
   refine fc [0,1,2,3,4] fun a G=>?_
   refine aK G K 5 E ads E E E (fun w H=>(cQ (c5 _ (S _ (dZ H 2))) ji G E E)) fun a G=>?_
   refine fc [6,7,8,9,10,11] fun a G=>?_
   refine de fun w H=>?_
   refine aB ?_
   refine cc I (fun d0 I=>?_) fun d0 I=>?_
   ·refine go 6 fun a w G H=>?_
    obtain rfl:=oI I
    have I:=c2 _ rfl
    subst I
    have I:=bB c7
    subst I
    refine aT Tryz.results139 G E ?_
    exact⟨E,bU H [] 2 E⟩
   exact lf
  refine go 5 fun a w G H=>?_
  obtain rfl:=oI I
  have I:=c2 _ rfl
  subst I
  exact⟨(),E,G.to ⟨E,trivial⟩,bU H [] 1 E⟩
 replace I:Sh.aGd=_:=I
 unfold Sh.aGd at I
 exact lf
theorem kZ{γ:Type}{x0:fh}{x1:fj}{s1 s3 s5 s7 s9:SV}{q_:List SV}{out:((Unit⊕(Unit⊕aj))⊕γ)}{w0:World}{Bf:World→Prop}{Lr:List dw}(I:Sh.mQ x0 x1=some out)(H:au w0 (Lr))(S:∀ w,au w Lr→Bf w)(f2:cn Bf s1 x0.data)(f4:cn Bf s3 x0.ah)(f6:cn Bf s5 x0.code)(f8:cn Bf s7 x1.b_)(f11:cn Bf s9 q_)(Bo:bw (cn (X:=UInt8) Bf) q_ x1.ah):Calls Tryz.prog 65 #[.agg (bh.enc (bh.mk x0.lo x0.hi s1 s3 s5)).toArray,.agg (br.enc (br.mk s7 s9)).toArray] w0 (gf fun v w=>∃ x,out = .inl x∧match x with|(.inl _)=>v = .tuple #[.pointer none,.int .i64 1]∧au w (Lr)|(.inr (.inl _))=>v = .tuple #[.pointer none,.int .i64 3]∧au w (Lr)|(.inr (.inr c0))=>∃ (j6:Nat) (j9:SV) (k0:SV) (d9:List SV) (k1:SV) (k2:SV) (k3:SV) (k4:SV) (j7:Nat) (k5:SV),v = .tuple #[.pointer (some ⟨j6,0,none⟩),.int .i64 0]∧bw (cn (X:=UInt8) (a_ d9 c0.ae.ah).holds') d9 c0.ae.ah∧au w (pt j6 (af.enc (gx c0 j9 k0 k1 k2 k3 k4 j7 k5)) 203::ai 0 j9 5 c0.ae.b_::ai 0 k0 23 d9::(a_ d9 c0.ae.ah)::ai 0 k1 5 c0.ae.data::ai 0 k2 205 c0.ae.sizes::ai 0 k3 101 c0.code::ai 0 k4 3 c0.dq::.obj j7 (jc c0.cg)::ai 0 k5 3 c0.bf::Lr)):=by
 unfold Sh.mQ at I
 refine ce Tryz.func65 Tryz.ntmps65 fun a G=>?_
 refine go 12 fun g7 c1 a w G H=>?_
 obtain⟨p5,m6,I⟩:=adu I
 have l9:=zR m6 H (Bf:=Bf) (tb S) f2 f4 f6
 refine cl Tryz.call138 l9 ?_
 rintro v w ⟨rfl,H⟩ a G
 refine go 3 fun a w G H=>?_
 refine cc I (fun l6 I=>?_) fun l6 I=>?_
 ·refine go 7 fun a w G H=>?_
  obtain rfl:=oI I
  refine er Tryz.results65 G H ?_
  exact⟨(inl ()),E,E,bU H [] 2 E⟩
 refine go 7 fun a w G H=>?_
 obtain⟨p6,m7,I⟩:=adu I
 have m0:=zQ m7 H (Bf:=Bf) (tb S) f2 f4 f6 f8 f11 Bo
 refine cl Tryz.call139 m0 ?_
 rintro v w ⟨rfl,H⟩ a G
 refine go 3 fun a w G H=>?_
 refine cc I (fun l7 I=>?_) fun l7 I=>?_
 ·refine go 7 fun a w G H=>?_
  obtain rfl:=oI I
  refine er Tryz.results65 G H ?_
  exact⟨(inr (inl ())),E,E,bU H [] 2 E⟩
 refine go 3 fun a w G H=>?_
 refine aM G H I (fun F x a w=>match x with|(d4,c8,d0,i5,d5,d6,d7,d8)=>∃ (c5:Nat) (c6:SV) (c7:SV) (g8:Nat),Fr 92 [(6,.pointer (some ⟨c5,0,none⟩)),(2,.pointer (some ⟨g7,0,none⟩)),(3,.pointer (some ⟨c1,0,none⟩)),(4,.pointer none),(5,.int .i64 0)] a∧au w (pt c5 (af.enc (af.mk (bu.mk d4 SV.nil SV.nil SV.nil SV.nil) c6 c7 (some g8) d5 SV.nil d6 d7 d8)) 203::ai 0 c6 101 c8::ai 0 c7 3 d0::.obj g8 (jc i5)::pt c1 (br.enc (br.mk s7 s9)) 30::pt g7 (bh.enc (bh.mk x0.lo x0.hi s1 s3 s5)) 27::Lr)) (fun n8 I n6 G H=>?_) ?_
 ·refine dT H [0,1] 2 fun K=>?_
  refine fc [0,1,3,4] fun a G=>?_
  refine fN K 2 6 ads E E ?_ ?_
  ·refine bZ G 2 E E E E E fun w eX H=>?_
   obtain⟨n4,i1,I⟩:=adu I
   have i0:=fX i1 H (Bf:=Bf) (tb S) f6
   refine dl Tryz.call140 i0 ?_
   rintro v w ⟨i2,rfl,H⟩
   refine ds [0,1,2] 3 fun a G=>?_
   refine fN K 5 6 ads E E ?_ ?_
   ·refine bZ G 5 E E E E E fun w eX H=>?_
    obtain⟨k6,d3,I⟩:=adu I
    have d1:=lQ d3 H (Bf:=Bf) (tb S) f6
    refine dl Tryz.call141 d1 ?_
    rintro v w ⟨g2,rfl,H⟩
    refine ds [0,1,2,3] 4 fun a G=>?_
    refine dx 6 fun w eX H=>?_
    refine(vT E fun c2 w g1 c4=>?_)
    have H:=H.plus c4
    try dsimp only[List.set]at H
    refine ds [0,1,2,3,4] 5 fun a G=>?_
    refine aK G K 7 E ads E E E (fun w H=>(aW z203 DX DI G (parts:=[(1,.tmp 17),(2,.tmp 20),(3,.tmp 21)]) E E (aO E E (by rw[af.len];decide) (af.oo _ _) (aO E E (by rw[af.len];decide) (af.nQ _ _) (aO E E (by rw[af.len];decide) (af.s_begin_ _ _) bD))))) fun a G=>?_
    refine dx 8 fun w eX H=>?_
    refine(gN G E E E fun c3 w i4 c9=>?_)
    have H:=H.plus c9
    try dsimp only[List.set]at H
    refine ds [0,1,2,3,4,5] 6 fun a G=>?_
    refine fc [9] fun a G=>?_
    refine de fun w H=>?_
    refine aB ?_
    exact jr I ⟨c3,i2,g2,c2,G.t,bU H [0,3,2,1,4,5] 6 E⟩
   refine bZ G 6 E E E E E fun w eX H=>?_
   refine(vT E fun c2 w g1 c4=>?_)
   have H:=H.plus c4
   try dsimp only[List.set]at H
   refine ds [0,1,2,3] 4 fun a G=>?_
   refine dx 5 fun w eX H=>?_
   obtain⟨k6,d3,I⟩:=adu I
   have d1:=lQ d3 H (Bf:=Bf) (tb S) f6
   refine dl Tryz.call141 d1 ?_
   rintro v w ⟨g2,rfl,H⟩
   refine ds [0,1,2,3,4] 5 fun a G=>?_
   refine aK G K 7 E ads E E E (fun w H=>(aW z203 DX DI G (parts:=[(1,.tmp 17),(2,.tmp 20),(3,.tmp 21)]) E E (aO E E (by rw[af.len];decide) (af.oo _ _) (aO E E (by rw[af.len];decide) (af.nQ _ _) (aO E E (by rw[af.len];decide) (af.s_begin_ _ _) bD))))) fun a G=>?_
   refine dx 8 fun w eX H=>?_
   refine(gN G E E E fun c3 w i4 c9=>?_)
   have H:=H.plus c9
   try dsimp only[List.set]at H
   refine ds [0,1,2,3,4,5] 6 fun a G=>?_
   refine fc [9] fun a G=>?_
   refine de fun w H=>?_
   refine aB ?_
   exact jr I ⟨c3,i2,g2,c2,G.t,bU H [0,3,1,2,4,5] 6 E⟩
  refine bZ G 6 E E E E E fun w eX H=>?_
  refine(vT E fun c2 w g1 c4=>?_)
  have H:=H.plus c4
  try dsimp only[List.set]at H
  refine ds [0,1,2] 3 fun a G=>?_
  refine dx 2 fun w eX H=>?_
  obtain⟨n4,i1,I⟩:=adu I
  have i0:=fX i1 H (Bf:=Bf) (tb S) f6
  refine dl Tryz.call140 i0 ?_
  rintro v w ⟨i2,rfl,H⟩
  refine ds [0,1,2,3] 4 fun a G=>?_
  refine dx 5 fun w eX H=>?_
  obtain⟨k6,d3,I⟩:=adu I
  have d1:=lQ d3 H (Bf:=Bf) (tb S) f6
  refine dl Tryz.call141 d1 ?_
  rintro v w ⟨g2,rfl,H⟩
  refine ds [0,1,2,3,4] 5 fun a G=>?_
  refine aK G K 7 E ads E E E (fun w H=>(aW z203 DX DI G (parts:=[(1,.tmp 17),(2,.tmp 20),(3,.tmp 21)]) E E (aO E E (by rw[af.len];decide) (af.oo _ _) (aO E E (by rw[af.len];decide) (af.nQ _ _) (aO E E (by rw[af.len];decide) (af.s_begin_ _ _) bD))))) fun a G=>?_
  refine fc [8,9] fun c3 a G=>?_
  refine de fun w H=>?_
  refine aB ?_
  exact jr I ⟨c3,i2,g2,c2,G.t,bU H [0,2,1,3,4,5] 6 E⟩
 rintro⟨d4,c8,d0,i5,d5,d6,d7,d8⟩ a w I ⟨c5,c6,c7,g8,G,H⟩
 replace I:Sh.Ii x0 x1 d4 c8 d0 i5 d5 d6 d7 d8=_:=I
 unfold Sh.Ii at I
 refine go 2 fun a w G H=>?_
 refine dT H [0,1,2,3,4,5] 6 fun K=>?_
 refine fc [0,1,2,3,5,6] fun a G=>?_
 refine dx 4 fun w eX H=>?_
 obtain⟨i8,m8,I⟩:=adu I
 have m1:=cU m8 H (Bf:=Bf) (tb S) f8
 refine dl rM m1 ?_
 rintro v w ⟨g3,rfl,H⟩
 refine ds [0,1,2,3,4,5,6] 7 fun a G=>?_
 refine dx 7 fun w eX H=>?_
 obtain⟨i9,m9,I⟩:=adu I
 have m2:=iU m9 H (Bf:=Bf) (tb S) f11 Bo
 refine dl Tryz.call143 m2 ?_
 rintro v w ⟨g4,d2,rfl,n3,H⟩
 refine ds [0,1,2,3,4,5,6,7,8] 9 fun a G=>?_
 refine fc [8,9,10] fun a G=>?_
 refine ko 11 fun w eX H=>?_
 refine(bN vi (H.obj (i:=3) E) G E E E E (by rw[af.len];decide) (fT (af.c_memory _) (bu.gI _ _) (af.p_memory _ _) (by rw[af.len];decide) (by decide)) fun w k8=>?_)
 have H:=H.chg k8 (i:=3) rfl
 try dsimp only[List.set]at H
 refine dh ?_
 refine fc [12,13,14] fun a G=>?_
 refine ko 15 fun w eX H=>?_
 refine(bN Tryz.sizeOf28 (H.obj (i:=3) E) G E E E E (by rw[af.len];decide) (fT (af.c_memory _) (bu.ep _ _) (af.p_memory _ _) (by rw[af.len];decide) (by decide)) fun w k9=>?_)
 have H:=H.chg k9 (i:=3) rfl
 try dsimp only[List.set]at H
 refine dh ?_
 refine de fun w H=>?_
 refine go 2 fun a w G H=>?_
 refine dT H [0,1,2,3,4,5,6,7,8] 9 fun K=>?_
 refine fc [0,1,2,3,5,6] fun a G=>?_
 refine dx 4 fun w eX H=>?_
 obtain⟨j0,n0,I⟩:=adu I
 have m3:=cU n0 H (Bf:=Bf) (tb S) f2
 refine dl rM m3 ?_
 rintro v w ⟨g5,rfl,H⟩
 refine ds [0,1,2,3,4,5,6,7,8,9] 10 fun a G=>?_
 refine dx 7 fun w eX H=>?_
 obtain⟨j1,n1,I⟩:=adu I
 have m4:=iZ n1 H (Bf:=Bf) (tb S) f4
 refine dl Tryz.call144 m4 ?_
 rintro v w ⟨g6,rfl,H⟩
 refine ds [0,1,2,3,4,5,6,7,8,9,10] 11 fun a G=>?_
 refine fc [8,9,10] fun a G=>?_
 refine ko 11 fun w eX H=>?_
 refine(bN vi (H.obj (i:=5) E) G E E E E (by rw[af.len];decide) (fT (af.c_memory _) (bu.ng _ _) (af.p_memory _ _) (by rw[af.len];decide) (by decide)) fun w l0=>?_)
 have H:=H.chg l0 (i:=5) rfl
 try dsimp only[List.set]at H
 refine dh ?_
 refine fc [12,13,14] fun a G=>?_
 refine ko 15 fun w eX H=>?_
 refine(bN Tryz.sizeOf24 (H.obj (i:=5) E) G E E E E (by rw[af.len];decide) (fT (af.c_memory _) (bu.qu _ _) (af.p_memory _ _) (by rw[af.len];decide) (by decide)) fun w l1=>?_)
 have H:=H.chg l1 (i:=5) rfl
 try dsimp only[List.set]at H
 refine dh ?_
 refine de fun w H=>?_
 refine go 2 fun a w G H=>?_
 refine aM G H I (fun F x a w=>match x with|i6=>∃ (g9:Nat),Fr 92 [(3,.pointer (some ⟨c1,0,none⟩)),(4,.pointer none),(5,.int .i64 0),(6,.pointer (some ⟨c5,0,none⟩))] a∧au w (pt c5 (af.enc (af.mk (bu.mk d4 g3 g4 g5 g6) c6 c7 (some g9) d5 SV.nil d6 d7 d8)) 203::.obj g9 (jc i6)::pt c1 (br.enc (br.mk s7 s9)) 30::ai 0 g6 205 j1::ai 0 g5 5 j0::ai 0 g4 23 d2::(a_ d2 i9)::ai 0 g3 5 i8::ai 0 c6 101 c8::ai 0 c7 3 d0::Lr)) (fun n9 I n7 G H=>?_) ?_
 ·refine go 11 fun a w G H=>?_
  refine aY G H I (fun F x a w=>match x with|(i3,i7)=>∃ (g0:Nat),Fr 92 [(57,.int .i64 i7),(3,.pointer (some ⟨c1,0,none⟩)),(4,.pointer none),(5,.int .i64 0),(56,.int .i64 (c8.length:Int)),(6,.pointer (some ⟨c5,0,none⟩))] a∧au w (pt c5 (af.enc (af.mk (bu.mk d4 g3 g4 g5 g6) c6 c7 (some g0) d5 SV.nil d6 d7 d8)) 203::.obj g0 (jc i3)::pt c1 (br.enc (br.mk s7 s9)) 30::ai 0 g6 205 j1::ai 0 g5 5 j0::ai 0 g4 23 d2::(a_ d2 i9)::ai 0 g3 5 i8::ai 0 c6 101 c8::ai 0 c7 3 d0::Lr)) (fun G H=>⟨g8,G.to ⟨E,E,E,E,E,E,trivial⟩,f_ H [5,8,9,0,1,2,3,4,6,7] 11⟩) ?_
  rintro⟨i3,i7⟩ a w p0 I k7 ⟨g0,G,H⟩
  replace I:Sh.qF c8 d0 i3 i7=_:=I
  unfold Sh.qF at I
  refine go 6 fun a w G H=>?_
  refine cc I (fun l8 I=>?_) fun l8 I=>?_
  ·refine go 10 fun a w G H=>?_
   refine dT H [0,1,2,3,4,5,6,7,8,9] 10 fun K=>?_
   refine fc [0,1,2,3,4,5,6,7,8] fun a G=>?_
   obtain⟨p1,j2,I⟩:=adu I
   have j8:=aL j2
   refine aK G K 9 E ads E E E (fun w H=>(bG (sz:=1) (H.rowS (X:=Int) (i:=9) E) o9 kP E G E E E (bA j2))) fun a G=>?_
   refine aK G K 10 E ads E E E (fun w H=>(aG vh G E E ((((H.rowS (X:=Int) (i:=9) E).elemS j8.2)).get 0 E))) fun a G=>?_
   refine fc [11] fun a G=>?_
   refine ko 12 fun w eX H=>?_
   refine(Jz Tryz.underlying199 rj G E E E E (H.hold 1 _ E) fun w l2=>?_)
   have H:=H.chg l2 (i:=1) rfl
   try dsimp only[List.set]at H
   refine dh ?_
   refine de fun w H=>?_
   refine go 7 fun a w G H=>?_
   exact jr I ⟨g0,G.t,H⟩
  refine go 5 fun a w G H=>?_
  obtain rfl:=oI I
  have I:=k7 _ rfl
  subst I
  exact⟨i3,E,g0,G.to ⟨E,E,E,E,trivial⟩,H⟩
 rintro i6 a w I ⟨g9,G,H⟩
 unfold Sh.NA at I
 refine go 4 fun a w G H=>?_
 refine aA G (aW z46 A2 AY G (parts:=[(0,.const (.int .i64 (3)))]) E E (aO E E (by rw[ak.len];decide) (ak.s_kind _ _) bD)) E E E fun a G=>?_
 obtain⟨p2,j3,I⟩:=adu I
 refine go 3 fun a w G H=>?_
 refine bC E E (aU (vs:=_) iw (H.obj (i:=0) E) G E E E E (ak.len _) (ak.one _) (by have:=(bT j3);rw[ak.len,af.len];omega) (af.pi_regs _ _ _ (by have:=(bT j3);omega)) fun w l3=>?_)
 have H:=H.chg l3 (i:=0) rfl
 try dsimp only[List.set]at H
 refine go 3 fun a w G H=>?_
 refine dT H [0,1,2,3,4,5,6,7,8,9] 10 fun K=>?_
 refine fc [0,1,2,3,5,6] fun a G=>?_
 refine dx 4 fun w eX H=>?_
 obtain⟨n5,n2,I⟩:=adu I
 have m5:=dJ n2 H 
 refine dl po m5 ?_
 rintro v w ⟨rfl,H⟩
 refine ds [0,1,2,3,4,5,6,7,8,9] 10 fun a G=>?_
 obtain⟨p3,j4,I⟩:=adu I
 refine fc [7] fun a G=>?_
 refine ko 8 fun w eX H=>?_
 refine(aU (vs:=_) iw (H.obj (i:=0) E) G E E E E (ak.len _) (ak.one _) (by have:=(bT j4);rw[ak.len,af.len];omega) (af.pi_regs _ _ _ (by have:=(bT j4);omega)) fun w l4=>?_)
 have H:=H.chg l4 (i:=0) rfl
 try dsimp only[List.set]at H
 refine dh ?_
 refine de fun w H=>?_
 refine go 4 fun a w G H=>?_
 refine aA G (aW z46 A2 AY G (parts:=[(0,.const (.int .i64 (2))),(3,.const (.int .i64 (256)))]) E E (aO E E (by rw[ak.len];decide) (ak.s_kind _ _) (aO E E (by rw[ak.len];decide) (ak.s_x _ _) bD))) E E E fun a G=>?_
 obtain⟨p4,j5,I⟩:=adu I
 refine go 3 fun a w G H=>?_
 refine bC E E (aU (vs:=_) iw (H.obj (i:=0) E) G E E E E (ak.len _) (ak.one _) (by have:=(bT j5);rw[ak.len,af.len];omega) (af.pi_regs _ _ _ (by have:=(bT j5);omega)) fun w l5=>?_)
 have H:=H.chg l5 (i:=0) rfl
 try dsimp only[List.set]at H
 refine go 10 fun a w G H=>?_
 have H:=H.rowNil (X:=Int) 0 3
 obtain rfl:=oI I
 refine er Tryz.results65 G H ?_
 exact⟨(inr (inr (aj.mk (fq.mk d4 i8 i9 j0 j1) c8 d0 i6 (((d5.set (1:Int).toNat (ak.mk 3 0 0 0)).set (2:Int).toNat n5).set (10:Int).toNat (ak.mk 2 0 0 256)) [] d6 d7 d8))),E,c5,g3,g4,d2,g5,g6,c6,c7,g9,SV.nil,E,n3,bU H [1,8,6,7,5,4,9,10,2,0] 11 E⟩
theorem qF{x0 x1:bj}{s1 s3:SV}{da:List SV}{s7 s9 e8:SV}{wv:List SV}{qH:SV}{out:Bool}{w0:World}{Bf:World→Prop}{Lr:List dw}(I:Sh.tH x0 x1=some out)(H:au w0 (Lr))(S:∀ w,au w Lr→Bf w)(f2:cn Bf s1 x0.b_)(f5:cn Bf s3 da)(q6:bw (cn (X:=UInt8) Bf) da x0.ah)(f8:cn Bf s7 x0.bf)(f10:cn Bf s9 x1.b_)(f13:cn Bf e8 wv)(CH:bw (cn (X:=UInt8) Bf) wv x1.ah)(f16:cn Bf qH x1.bf):Calls Tryz.prog 95 #[.agg (ay.enc (il x0 s1 s3 s7)).toArray,.agg (ay.enc (il x1 s9 e8 qH)).toArray] w0 (gf fun v w'=>v = .bool out∧au w' (Lr)):=by
 unfold Sh.tH at I
 refine ce Tryz.func95 Tryz.ntmps95 fun a G=>?_
 refine go 8 fun c0 c1 a w G H=>?_
 refine jm (Lr) G H I [] (fun c3 u=>(4,.bool c3)::u) (fun k3 I k0 G H=>?_) fun c3 a w I G H=>?_
 ·refine go 2 fun a w G H=>?_
  refine aA G (cC DN DR G E E (aQ _) (H.cells (i:=1) E (ay.c_regs _))) E E E fun a G=>?_
  refine go 1 fun a w G H=>?_
  refine aA G (cC DN DR G E E (aQ _) (H.cells (i:=0) E (ay.c_regs _))) E E E fun a G=>?_
  refine aA G (kD Tryz.eqGuardType47 (Iz _ _ _ _ (by decide)) G E E E) E E E fun a G=>?_
  refine go 1 fun a w G H=>?_
  refine gs I (fun c2 I=>?_) fun c2 I=>?_
  ·refine go 1 fun a w G H=>?_
   refine aP G E E E c2 (cC DQ DT G E E (aQ _) (H.cells (i:=1) E (ay.c_stack _))) E E fun a G=>?_
   refine go 1 fun a w G H=>?_
   refine aP G E E E c2 (cC DQ DT G E E (aQ _) (H.cells (i:=0) E (ay.c_stack _))) E E fun a G=>?_
   refine aP G E E E c2 (kD Tryz.eqGuardType51 (IA _ _ _ _ (by decide)) G E E E) E E fun a G=>?_
   refine go 2 fun a w G H=>?_
   refine gs I (fun g4 I=>?_) fun g4 I=>?_
   ·refine go 7 fun a w G H=>?_
    refine gs I (fun g5 I=>?_) fun g5 I=>?_
    ·refine go 7 fun a w G H=>?_
     refine gs I (fun c9 I=>?_) fun c9 I=>?_
     ·refine go 4 fun a w G H=>?_
      refine aP G E E E c9 (Si Tryz.underlying4 G E E E) E E fun a G=>?_
      refine go 2 fun a w G H=>?_
      refine gs I (fun d0 I=>?_) fun d0 I=>?_
      ·refine go 4 fun a w G H=>?_
       obtain⟨i8,I,i2⟩:=cJ I
       refine dA G E E E d0 E E (aS (xs:=[.tmp 40,.tmp 42]) Tryz.call168 G E E (R:=fun v w=>∃ x,i8 = .inl x∧match x with|c4=>v = .bool c4∧au w (pt c1 (ay.enc (il x1 s9 e8 qH)) 54::pt c0 (ay.enc (il x0 s1 s3 s7)) 54::Lr)) ?_ fun v w hR=>?_)
       ·refine aV Tryz.func168 E Tryz.ntmps168 E fun a G=>?_
        refine go 8 fun a w G H=>?_
        refine aA G (gB (f2 _ (S _ (dZ H 2))) ji CJ Ge G E E) E E E fun a G=>?_
        refine go 1 fun a w G H=>?_
        refine aA G (gB (f10 _ (S _ (dZ H 2))) ji CJ Ge G E E) E E E fun a G=>?_
        refine aA G (sK (i:=x0.b_) (j:=x1.b_) G E E E) E E E fun a G=>?_
        refine go 4 fun a w G H=>?_
        obtain rfl:=oI I
        refine aT Tryz.results168 G E ?_
        exact⟨(decide (x0.b_=x1.b_)),E,E,H⟩
       obtain⟨c4,rfl,rfl,H⟩:=hR
       replace I:Sh.uF x0 x1 c4=_:=i2
       unfold Sh.uF at I
       intro a G
       refine go 2 fun a w G H=>?_
       refine gs I (fun d1 I=>?_) fun d1 I=>?_
       ·refine go 4 fun a w G H=>?_
        obtain⟨i9,I,i3⟩:=cJ I
        refine dA G E E E d1 E E (aS (xs:=[.tmp 47,.tmp 49,.func 168]) Tryz.call169 G E E (R:=fun v w=>∃ x,i9 = .inl x∧match x with|c5=>v = .bool c5∧au w (pt c1 (ay.enc (il x1 s9 e8 qH)) 54::pt c0 (ay.enc (il x0 s1 s3 s7)) 54::Lr)) ?_ fun v w hR=>?_)
        ·refine aV Tryz.func169 E Tryz.ntmps169 E fun a G=>?_
         refine go 15 fun a w G H=>?_
         refine cc I (fun g6 I=>?_) fun g6 I=>?_
         ·refine go 6 fun a w G H=>?_
          obtain rfl:=oI I
          refine aT Tryz.results169 G E ?_
          exact⟨false,E,E,H⟩
         refine go 3 fun a w G H=>?_
         refine jm (pt c1 (ay.enc (il x1 s9 e8 qH)) 54::pt c0 (ay.enc (il x0 s1 s3 s7)) 54::Lr) G H I [6] (fun _ u=>u) (fun k4 I i6 G H=>?_) fun _ a w I G H=>?_
         ·refine go 8 fun a w G H=>?_
          refine aY G H I (fun F x a w=>match x with|c6=>Fr 32 [(17,.int .i64 c6),(1,(e8).v),(15,(s3).v),(16,.int .i64 (x0.ah.length:Int)),(2,.func (.func 168) [].toArray [].toArray),(6,.bool false)] a∧au w (pt c1 (ay.enc (il x1 s9 e8 qH)) 54::pt c0 (ay.enc (il x0 s1 s3 s7)) 54::Lr)) (fun G H=>⟨G.to ⟨E,E,E,E,E,E,trivial⟩,H⟩) ?_
          rintro c6 a w k6 I d5 ⟨G,H⟩
          unfold Sh.zE at I
          refine go 6 fun a w G H=>?_
          refine cc I (fun g7 I=>?_) fun g7 I=>?_
          ·obtain⟨d8,d3,I⟩:=adu I
           have g0:=aL d3
           obtain⟨j8,j4,g2⟩:=bw.getr q6 g0.2
           have j2:=bw.bd q6 (bA d3)
           obtain⟨d9,d4,I⟩:=adu I
           have g1:=aL d4
           obtain⟨j9,j5,g3⟩:=bw.getr CH g1.2
           have j3:=bw.bd CH (bA d4)
           refine go 27 fun a w G H=>?_
           obtain⟨j0,I,i4⟩:=cJ I
           refine aN G E E E (dP (xs:=[.tmp 27,.tmp 28]) Tryz.call168 G E E E (R:=fun v w=>∃ x,j0 = .inl x∧match x with|c7=>v = .bool c7∧au w (pt c1 (ay.enc (il x1 s9 e8 qH)) 54::pt c0 (ay.enc (il x0 s1 s3 s7)) 54::Lr)) ?_ fun v w hR=>?_)
           ·refine aV Tryz.func168 E Tryz.ntmps168 E fun a G=>?_
            refine go 8 fun a w G H=>?_
            refine aA G (gB (g2 _ (S _ (dZ H 2))) ji CJ Ge G E E) E E E fun a G=>?_
            refine go 1 fun a w G H=>?_
            refine aA G (gB (g3 _ (S _ (dZ H 2))) ji CJ Ge G E E) E E E fun a G=>?_
            refine aA G (sK (i:=d8) (j:=d9) G E E E) E E E fun a G=>?_
            refine go 4 fun a w G H=>?_
            obtain rfl:=oI I
            refine aT Tryz.results168 G E ?_
            exact⟨(decide (d8=d9)),E,E,H⟩
           obtain⟨c7,rfl,rfl,H⟩:=hR
           replace I:Sh.zC c6 c7=_:=i4
           unfold Sh.zC at I
           intro a G
           refine go 3 fun a w G H=>?_
           refine cc I (fun g8 I=>?_) fun g8 I=>?_
           ·refine go 6 fun a w G H=>?_
            obtain rfl:=oI I
            have I:=d5 _ rfl
            subst I
            have I:=bB i6
            subst I
            refine aT Tryz.results169 G E ?_
            exact⟨false,E,E,H⟩
           exact lf
          refine go 5 fun a w G H=>?_
          obtain rfl:=oI I
          have I:=d5 _ rfl
          subst I
          exact⟨(),E,G.to ⟨E,trivial⟩,H⟩
         replace I:Sh.aFf=_:=I
         unfold Sh.aFf at I
         refine go 7 fun a w G H=>?_
         obtain rfl:=oI I
         refine aT Tryz.results169 G E ?_
         exact⟨true,E,E,H⟩
        obtain⟨c5,rfl,rfl,H⟩:=hR
        replace I:Sh.uG x0 x1 c5=_:=i3
        unfold Sh.uG at I
        intro a G
        refine go 2 fun a w G H=>?_
        refine gs I (fun d2 I=>?_) fun d2 I=>?_
        ·refine go 4 fun a w G H=>?_
         obtain⟨j1,I,i5⟩:=cJ I
         refine dA G E E E d2 E E (aS (xs:=[.tmp 54,.tmp 56]) Tryz.call133 G E E (R:=fun v w=>∃ x,j1 = .inl x∧match x with|c8=>v = .bool c8∧au w (pt c1 (ay.enc (il x1 s9 e8 qH)) 54::pt c0 (ay.enc (il x0 s1 s3 s7)) 54::Lr)) ?_ fun v w hR=>?_)
         ·refine aV Tryz.func133 E Tryz.ntmps133 E fun a G=>?_
          refine go 15 fun a w G H=>?_
          refine cc I (fun g9 I=>?_) fun g9 I=>?_
          ·refine go 6 fun a w G H=>?_
           obtain rfl:=oI I
           refine aT xw G E ?_
           exact⟨false,E,E,H⟩
          refine go 3 fun a w G H=>?_
          refine jm (pt c1 (ay.enc (il x1 s9 e8 qH)) 54::pt c0 (ay.enc (il x0 s1 s3 s7)) 54::Lr) G H I [4] (fun _ u=>u) (fun k5 I i7 G H=>?_) fun _ a w I G H=>?_
          ·refine go 8 fun a w G H=>?_
           refine aY G H I (fun F x a w=>match x with|d7=>Fr 26 [(13,.int .i64 d7),(0,(s7).v),(1,(qH).v),(12,.int .i64 (x0.bf.length:Int)),(4,.bool false)] a∧au w (pt c1 (ay.enc (il x1 s9 e8 qH)) 54::pt c0 (ay.enc (il x0 s1 s3 s7)) 54::Lr)) (fun G H=>⟨G.to ⟨E,E,E,E,E,trivial⟩,H⟩) ?_
           rintro d7 a w k7 I d6 ⟨G,H⟩
           unfold Sh.zF at I
           refine go 6 fun a w G H=>?_
           refine cc I (fun i0 I=>?_) fun i0 I=>?_
           ·refine go 11 fun a w G H=>?_
            refine dT H [0,1] 2 fun K=>?_
            obtain⟨k1,j6,k2,j7,I⟩:=b2 I
            refine fc [0,1,2,3,4,5,6,7,8] fun a G=>?_
            refine de fun w H=>?_
            refine aB ?_
            refine cc I (fun i1 I=>?_) fun i1 I=>?_
            ·refine go 6 fun a w G H=>?_
             obtain rfl:=oI I
             have I:=d6 _ rfl
             subst I
             have I:=bB i7
             subst I
             refine aT xw G E ?_
             exact⟨false,E,E,H⟩
            exact lf
           refine go 5 fun a w G H=>?_
           obtain rfl:=oI I
           have I:=d6 _ rfl
           subst I
           exact⟨(),E,G.to ⟨E,trivial⟩,H⟩
          replace I:Sh.aFg=_:=I
          unfold Sh.aFg at I
          refine go 7 fun a w G H=>?_
          obtain rfl:=oI I
          refine aT xw G E ?_
          exact⟨true,E,E,H⟩
         obtain⟨c8,rfl,rfl,H⟩:=hR
         replace I:Sh.Ir c8=_:=i5
         unfold Sh.Ir at I
         intro a G
         exact lf
        exact lf
       exact lf
      exact lf
     exact lf
    exact lf
   exact lf
  exact lf
 replace I:Sh.zD c3=_:=I
 unfold Sh.zD at I
 exact lf
theorem zU{x0:aj}{s1 s3:SV}{da:List SV}{s7 s9 e8 fe:SV}{fU:Nat}{dy:SV}{b0:Nat}{out:(Int×aj)}{w0:World}{Bf:World→Prop}{Lr:List dw}(I:Sh.aD4 x0=some out)(H:au w0 (pt b0 (af.enc (gx x0 s1 s3 s7 s9 e8 fe fU dy)) 203::ai 0 s1 5 x0.ae.b_::ai 0 s3 23 da::(a_ da x0.ae.ah)::ai 0 dy 3 x0.bf::Lr))(S:∀ w,au w Lr→Bf w)(q6:bw (cn (X:=UInt8) (a_ da x0.ae.ah).holds') da x0.ae.ah)(f8:cn Bf s7 x0.ae.data)(f10:cn Bf s9 x0.ae.sizes)(f12:cn Bf e8 x0.code)(f14:cn Bf fe x0.dq)(f16:jk Bf fU x0.cg):Calls Tryz.prog 96 #[.pointer (some ⟨b0,0,none⟩)] w0 (gf fun v w'=>∃ (UU:SV) (UW:SV) (E1:List SV) (UX:SV),v = .int .i64 out.1∧bw (cn (X:=UInt8) (a_ E1 out.2.ae.ah).holds') E1 out.2.ae.ah∧au w' (pt b0 (af.enc (gx out.2 UU UW s7 s9 e8 fe fU UX)) 203::ai 0 UU 5 out.2.ae.b_::ai 0 UW 23 E1::(a_ E1 out.2.ae.ah)::ai 0 UX 3 out.2.bf::Lr)):=by
 unfold Sh.aD4 at I
 refine ce Tryz.func96 Tryz.ntmps96 fun a G=>?_
 refine go 9 fun a w G H=>?_
 obtain⟨Vm,Qh,I⟩:=adu I
 have Po:=eG Qh H (Bf:=Bf) (tb S) q6 f8 f10 f12 f14 f16
 refine cl B_ Po ?_
 rintro v w ⟨s90,s92,aaq,U2,rfl,UG,H⟩ a G
 refine aA G (wP ri E Tryz.isAgg4 G E E (ay.g_done _)) E E E fun a G=>?_
 refine aJ (aB ?_)
 refine cc I (fun O9 I=>?_) fun O9 I=>?_
 ·refine go 6 fun a w G H=>?_
  obtain rfl:=oI I
  refine aT Tryz.results96 G E ?_
  exact⟨s1,s3,da,dy,E,q6,bU H [4,5,6,7,8] 9 E⟩
 refine go 6 fun a w G H=>?_
 obtain⟨c8,c7,I⟩:=adu I
 have c6:=eK c7 (f_ H [4,5,6,7,8,0,1,2,3] 9) (Bf:=Bf) (tb S) q6 f8 f10 f12 f14 f16
 refine cl B9 c6 ?_
 rintro v w ⟨c2,c3,c0,c4,rfl,c1,H⟩ a G
 refine go 9 fun a w G H=>?_
 refine cc I (fun c5 I=>?_) fun c5 I=>?_
 ·refine go 7 fun a w G H=>?_
  obtain rfl:=oI I
  refine aT Tryz.results96 G E ?_
  exact⟨c2,c3,c0,c4,E,c1,bU H [0,1,2,3,4] 9 E⟩
 refine go 8 fun a w G H=>?_
 obtain rfl:=oI I
 refine aT Tryz.results96 G E ?_
 exact⟨c2,c3,c0,c4,E,c1,bU H [0,1,2,3,4] 9 E⟩
theorem yP{x0:fh}{x1:fj}{x2:Int}{s1 s3 s5 s7 s9:SV}{q_:List SV}{out:(du×Int)}{w0:World}{Bf:World→Prop}{Lr:List dw}(I:Sh.tF x0 x1 x2=some out)(H:au w0 (Lr))(S:∀ w,au w Lr→Bf w)(f2:cn Bf s1 x0.data)(f4:cn Bf s3 x0.ah)(f6:cn Bf s5 x0.code)(f8:cn Bf s7 x1.b_)(f11:cn Bf s9 q_)(Bo:bw (cn (X:=UInt8) Bf) q_ x1.ah):Calls Tryz.prog 25 #[.agg (bh.enc (bh.mk x0.lo x0.hi s1 s3 s5)).toArray,.agg (br.enc (br.mk s7 s9)).toArray,.int .i64 x2] w0 (gf fun v w'=>∃ (u5:SV) (u6:SV) (k3:List SV) (u7:SV) (t0:List bS) (u0:dw),v = .tuple #[.agg (bg.enc (kg out.1 u5 u6 u7)).toArray,.int .i64 out.2]∧bw (cn (X:=UInt8) (a_ k3 out.1.iz.ah).holds') k3 out.1.iz.ah∧bw (ic u0.holds') t0 out.1.cj∧au w' (ai 0 u5 5 out.1.iz.b_::ai 0 u6 23 k3::(a_ k3 out.1.iz.ah)::ai 0 u7 60 t0::u0::Lr)):=by
 unfold Sh.tF at I
 refine ce Tryz.func25 Tryz.ntmps25 fun a G=>?_
 refine go 12 fun z2 z3 c4 a w G H=>?_
 obtain⟨IP,I,n6⟩:=cJ I
 refine aN G E E E (aS (xs:=[.tmp 17,.tmp 18]) Tryz.call65 G E E (kZ I H (Bf:=Bf) (fun w H=>S _ (dZ H 3)) f2 f4 f6 f8 f11 Bo) fun v w hR=>?_)
 obtain⟨BV,rfl,hR⟩:=hR
 rcases BV with⟨⟩|⟨⟩|c0
 ·obtain⟨rfl,H⟩:=hR
  replace I:Sh.aE5=_:=n6
  unfold Sh.aE5 at I
  intro a G
  refine go 17 fun a w G H=>?_
  refine aA G (aW z36 A1 AW G (parts:=[]) E E bD) E E E fun a G=>?_
  refine go 6 fun a w G H=>?_
  have H:=H.rowNil (X:=UInt8) 0 5
  have BO:bw (cn (X:=UInt8) (a_ [] []).holds') ([]:List SV) ([]:List (List UInt8)):=bw.nil
  have H:=mP H
  have H:=H.rowNil (X:=SV) 0 23
  obtain⟨u1,H⟩:=lx H
  have BP:bw (ic u1.holds') ([]:List bS) ([]:List dD):=bw.nil
  have H:=H.rowNil (X:=bS) 0 60
  obtain rfl:=oI I
  refine er Fe G H ?_
  exact⟨SV.nil,SV.nil,[],SV.nil,[],u1,E,BO,BP,bU H [4,2,3,0,1] 8 E⟩
 ·obtain⟨rfl,H⟩:=hR
  replace I:Sh.Ij=_:=n6
  unfold Sh.Ij at I
  intro a G
  refine go 17 fun a w G H=>?_
  refine aA G (aW z36 A1 AW G (parts:=[]) E E bD) E E E fun a G=>?_
  refine go 6 fun a w G H=>?_
  have H:=H.rowNil (X:=UInt8) 0 5
  have c28:bw (cn (X:=UInt8) (a_ [] []).holds') ([]:List SV) ([]:List (List UInt8)):=bw.nil
  have H:=mP H
  have H:=H.rowNil (X:=SV) 0 23
  obtain⟨u2,H⟩:=lx H
  have BQ:bw (ic u2.holds') ([]:List bS) ([]:List dD):=bw.nil
  have H:=H.rowNil (X:=bS) 0 60
  obtain rfl:=oI I
  refine er Fe G H ?_
  exact⟨SV.nil,SV.nil,[],SV.nil,[],u2,E,c28,BQ,bU H [4,2,3,0,1] 8 E⟩
 obtain⟨g5,k6,k7,i5,d0,d1,d2,d3,c9,k8,rfl,t4,H⟩:=hR
 replace I:Sh.tV x2 c0=_:=n6
 unfold Sh.tV at I
 intro a G
 refine go 20 fun a w G H=>?_
 obtain⟨d5,c21,I⟩:=adu I
 have z9:=eG c21 (bU H [0,1,2,3,9,4,5,6,7,8,10,11,12] 13 rfl) (fun _ h=>h) t4 (fun w H=>(H.rowS (X:=UInt8) (i:=0) rfl)) (fun w H=>(H.rowS (X:=gG) (i:=1) rfl)) (fun w H=>(H.rowS (X:=b9) (i:=2) rfl)) (fun w H=>(H.rowS (X:=Int) (i:=3) rfl)) (fun w H=>H.hold 4 _ rfl)
 refine cl B_ z9 ?_
 rintro v w ⟨l3,l4,i6,l5,rfl,l1,H⟩ a G
 replace H:au _ (ai 0 l3 5 d5.b_::ai 0 l4 23 i6::(a_ i6 d5.ah)::ai 0 l5 3 d5.bf::pt g5 (af.enc (gx c0 k6 k7 d0 d1 d2 d3 c9 k8)) 203::ai 0 k6 5 c0.ae.b_::ai 0 k7 23 i5::(a_ i5 c0.ae.ah)::ai 0 k8 3 c0.bf::ai 0 d0 5 c0.ae.data::ai 0 d1 205 c0.ae.sizes::ai 0 d2 101 c0.code::ai 0 d3 3 c0.dq::.obj c9 (jc c0.cg)::pt c4 (bg.enc (EG)) 36::pt z3 (br.enc (br.mk s7 s9)) 30::pt z2 (bh.enc (bh.mk x0.lo x0.hi s1 s3 s5)) 27::Lr):=H
 refine go 5 fun c8 a w G H=>?_
 refine aM G H I (fun F x a w=>match x with|(c3,p0)=>∃ (d6:Nat) (c5:SV) (c6:SV) (c2:List SV),bw (cn (X:=UInt8) (a_ c2 c3.ah).holds') c2 c3.ah∧Fr 74 [(11,.pointer (some ⟨d6,0,none⟩)),(10,.pointer (some ⟨c8,0,none⟩)),(2,.int .i64 x2),(6,.pointer (some ⟨c4,0,none⟩)),(7,.int .i64 0),(8,.pointer (some ⟨g5,0,none⟩))] a∧au w (pt d6 (bg.enc (bg.mk (br.mk c5 c6) SV.nil p0)) 36::ai 0 c5 5 c3.b_::ai 0 c6 23 c2::(a_ c2 c3.ah)::pt c8 (ay.enc (il d5 l3 l4 l5)) 54::pt g5 (af.enc (gx c0 k6 k7 d0 d1 d2 d3 c9 k8)) 203::pt c4 (bg.enc (EG)) 36::ai 0 l3 5 d5.b_::ai 0 l4 23 i6::(a_ i6 d5.ah)::ai 0 l5 3 d5.bf::ai 0 k6 5 c0.ae.b_::ai 0 k7 23 i5::(a_ i5 c0.ae.ah)::ai 0 k8 3 c0.bf::ai 0 d0 5 c0.ae.data::ai 0 d1 205 c0.ae.sizes::ai 0 d2 101 c0.code::ai 0 d3 3 c0.dq::.obj c9 (jc c0.cg)::Lr)) (fun IQ I EO G H=>?_) ?_
 ·refine dT H [0,1,2,3,4,5,6,7,8,9,10,11,12,13,14,15,16,17] 18 fun K=>?_
  refine fc [0,1,3] fun a G=>?_
  refine fN K 2 8 ads E E ?_ ?_
  ·refine bZ G 2 E E E E E fun w eX H=>?_
   obtain⟨c40,n4,I⟩:=adu I
   have n1:=eB n4 H (fun _ h=>h) (fun w H=>(H.rowS (X:=UInt8) (i:=1) rfl))
   refine dl Cb n1 ?_
   rintro v w ⟨l6,rfl,H⟩
   refine ds [0,1,2,3,4,5,6,7,8,9,10,11,12,13,14,15,16,17,18] 19 fun a G=>?_
   refine fN K 4 8 ads E E ?_ ?_
   ·refine bZ G 4 E E E E E fun w eX H=>?_
    obtain⟨z1,i9,I⟩:=adu I
    have i3:=fJ i9 H (fun _ h=>h) (fun w H=>(H.rowS (X:=UInt8) (i:=2) rfl)) (fun w H=>(H.rowS (X:=SV) (i:=3) rfl)) (l1.mono fun _ _ q=>q.mono fun w H=>H.hold 4 _ rfl) (fun w H=>(H.rowS (X:=Int) (i:=5) rfl))
    refine dl Cd i3 ?_
    rintro v w ⟨u8,k9,i7,u9,rfl,k4,H⟩
    refine ds [0,1,2,3,4,5,6,7,8,9,10,11,12,13,14,15,16,17,18,19,20,21,22] 23 fun a G=>?_
    refine aK G K 5 E ads E E E (fun w H=>(wP ri E Tryz.isAgg28 G E E (ay.g_tables _))) fun a G=>?_
    refine aK G K 6 E ads E E E (fun w H=>(aW z30 DY DJ G (parts:=[(0,.tmp 30),(1,.tmp 33)]) E E (aO E E (by rw[br.len];decide) (br.gI _ _) (aO E E (by rw[br.len];decide) (br.ep _ _) bD)))) fun a G=>?_
    refine aK G K 7 E ads E E E (fun w H=>(aW z36 A1 AW G (parts:=[(0,.tmp 34)]) E E (fB E (br.len _) (by rw[br.len,bg.len];decide) (bg.p_in_ _ _) bD))) fun a G=>?_
    refine dx 8 fun w eX H=>?_
    refine(bI z36 (zs:=bg.zero.enc) E E fun g1 w n5 g2=>?_)
    have H:=H.plus g2
    try dsimp only[List.set]at H
    refine ds [0,1,2,3,4,5,6,7,8,9,10,11,12,13,14,15,16,17,18,19,20,21,22,23] 24 fun a G=>?_
    refine ko 9 fun w eX H=>?_
    refine(aU (vs:=_) Tryz.sizeOf36 (H.obj (i:=0) E) G E E E E (bg.len _) (bg.one _) (by first|(rw[bg.len,bg.len];decide)|(rw[bg.len];decide)) (bF ((bg.len _).trans (bg.len _).symm)) fun w n0=>?_)
    have H:=H.chg n0 (i:=0) rfl
    try dsimp only[List.set]at H
    refine dh ?_
    refine de fun w H=>?_
    refine aB ?_
    exact jr I ⟨g1,l6,k9,i7,k4,G.t,bU H [0,5,2,3,6,11,21,7,8,9,10,12,13,14,15,16,17,18,19,20] 24 E⟩
   refine bZ G 8 E E E E E fun w eX H=>?_
   refine(bI z36 (zs:=bg.zero.enc) E E fun g1 w n5 g2=>?_)
   have H:=H.plus g2
   try dsimp only[List.set]at H
   refine ds [0,1,2,3,4,5,6,7,8,9,10,11,12,13,14,15,16,17,18,19] 20 fun a G=>?_
   refine dx 4 fun w eX H=>?_
   obtain⟨z1,i9,I⟩:=adu I
   have i3:=fJ i9 H (fun _ h=>h) (fun w H=>(H.rowS (X:=UInt8) (i:=3) rfl)) (fun w H=>(H.rowS (X:=SV) (i:=4) rfl)) (l1.mono fun _ _ q=>q.mono fun w H=>H.hold 5 _ rfl) (fun w H=>(H.rowS (X:=Int) (i:=6) rfl))
   refine dl Cd i3 ?_
   rintro v w ⟨u8,k9,i7,u9,rfl,k4,H⟩
   refine ds [0,1,2,3,4,5,6,7,8,9,10,11,12,13,14,15,16,17,18,19,20,21,22,23] 24 fun a G=>?_
   refine aK G K 5 E ads E E E (fun w H=>(wP ri E Tryz.isAgg28 G E E (ay.g_tables _))) fun a G=>?_
   refine aK G K 6 E ads E E E (fun w H=>(aW z30 DY DJ G (parts:=[(0,.tmp 30),(1,.tmp 33)]) E E (aO E E (by rw[br.len];decide) (br.gI _ _) (aO E E (by rw[br.len];decide) (br.ep _ _) bD)))) fun a G=>?_
   refine aK G K 7 E ads E E E (fun w H=>(aW z36 A1 AW G (parts:=[(0,.tmp 34)]) E E (fB E (br.len _) (by rw[br.len,bg.len];decide) (bg.p_in_ _ _) bD))) fun a G=>?_
   refine ko 9 fun w eX H=>?_
   refine(aU (vs:=_) Tryz.sizeOf36 (H.obj (i:=4) E) G E E E E (bg.len _) (bg.one _) (by first|(rw[bg.len,bg.len];decide)|(rw[bg.len];decide)) (bF ((bg.len _).trans (bg.len _).symm)) fun w n0=>?_)
   have H:=H.chg n0 (i:=4) rfl
   try dsimp only[List.set]at H
   refine dh ?_
   refine de fun w H=>?_
   refine aB ?_
   exact jr I ⟨g1,l6,k9,i7,k4,G.t,bU H [4,5,1,2,6,11,21,7,8,9,10,12,13,14,15,16,17,18,19,20] 24 E⟩
  refine bZ G 8 E E E E E fun w eX H=>?_
  refine(bI z36 (zs:=bg.zero.enc) E E fun g1 w n5 g2=>?_)
  have H:=H.plus g2
  try dsimp only[List.set]at H
  refine ds [0,1,2,3,4,5,6,7,8,9,10,11,12,13,14,15,16,17,18] 19 fun a G=>?_
  refine dx 2 fun w eX H=>?_
  obtain⟨c40,n4,I⟩:=adu I
  have n1:=eB n4 H (fun _ h=>h) (fun w H=>(H.rowS (X:=UInt8) (i:=2) rfl))
  refine dl Cb n1 ?_
  rintro v w ⟨l6,rfl,H⟩
  refine ds [0,1,2,3,4,5,6,7,8,9,10,11,12,13,14,15,16,17,18,19] 20 fun a G=>?_
  refine dx 4 fun w eX H=>?_
  obtain⟨z1,i9,I⟩:=adu I
  have i3:=fJ i9 H (fun _ h=>h) (fun w H=>(H.rowS (X:=UInt8) (i:=3) rfl)) (fun w H=>(H.rowS (X:=SV) (i:=4) rfl)) (l1.mono fun _ _ q=>q.mono fun w H=>H.hold 5 _ rfl) (fun w H=>(H.rowS (X:=Int) (i:=6) rfl))
  refine dl Cd i3 ?_
  rintro v w ⟨u8,k9,i7,u9,rfl,k4,H⟩
  refine ds [0,1,2,3,4,5,6,7,8,9,10,11,12,13,14,15,16,17,18,19,20,21,22,23] 24 fun a G=>?_
  refine aK G K 5 E ads E E E (fun w H=>(wP ri E Tryz.isAgg28 G E E (ay.g_tables _))) fun a G=>?_
  refine aK G K 6 E ads E E E (fun w H=>(aW z30 DY DJ G (parts:=[(0,.tmp 30),(1,.tmp 33)]) E E (aO E E (by rw[br.len];decide) (br.gI _ _) (aO E E (by rw[br.len];decide) (br.ep _ _) bD)))) fun a G=>?_
  refine aK G K 7 E ads E E E (fun w H=>(aW z36 A1 AW G (parts:=[(0,.tmp 34)]) E E (fB E (br.len _) (by rw[br.len,bg.len];decide) (bg.p_in_ _ _) bD))) fun a G=>?_
  refine fc [9] fun a G=>?_
  refine de fun w H=>?_
  refine aB ?_
  exact jr I ⟨g1,l6,k9,i7,k4,G.t,bU H [5,4,1,2,6,11,21,7,8,9,10,12,13,14,15,16,17,18,19,20] 24 E⟩
 rintro⟨c3,p0⟩ a w I ⟨d6,c5,c6,c2,t5,G,H⟩
 replace I:Sh.tW x2 c0 d5 c3 p0=_:=I
 unfold Sh.tW at I
 refine go 2 fun a w G H=>?_
 refine aM G H I (fun F x a w=>match x with|(c7,p1,p2,p3,m7,j4,p4,m8,p5,p6,p7)=>∃ (l7:SV) (l8:SV) (g3:List SV) (l9:SV) (j0:SV) (i8:List bS) (k5:dw) (m0:SV) (m1:SV) (g4:List SV) (m2:SV),bw (cn (X:=UInt8) (a_ g3 c7.ah).holds') g3 c7.ah∧bw (ic k5.holds') i8 p1∧bw (cn (X:=UInt8) (a_ g4 j4).holds') g4 j4∧Fr 74 [(10,.pointer (some ⟨c8,0,none⟩)),(11,.pointer (some ⟨d6,0,none⟩)),(6,.pointer (some ⟨c4,0,none⟩)),(7,.int .i64 0)] a∧au w (pt c8 (ay.enc (il c7 l7 l8 l9)) 54::ai 0 l7 5 c7.b_::ai 0 l8 23 g3::(a_ g3 c7.ah)::ai 0 l9 3 c7.bf::pt d6 (bg.enc (bg.mk (br.mk c5 c6) j0 p2)) 36::ai 0 j0 60 i8::k5::pt g5 (af.enc (af.mk (bu.mk p3 m0 m1 d0 d1) d2 d3 (some c9) p4 m2 p5 p6 p7)) 203::ai 0 m0 5 m7::ai 0 m1 23 g4::(a_ g4 j4)::ai 0 m2 3 m8::pt c4 (bg.enc (EG)) 36::ai 0 c5 5 c3.b_::ai 0 c6 23 c2::(a_ c2 c3.ah)::ai 0 d0 5 c0.ae.data::ai 0 d1 205 c0.ae.sizes::ai 0 d2 101 c0.code::ai 0 d3 3 c0.dq::.obj c9 (jc c0.cg)::Lr)) (fun IU I Bg G H=>?_) ?_
 ·refine go 6 fun a w G H=>?_
  obtain⟨u3,H⟩:=lx H
  have c31:bw (ic u3.holds') ([]:List bS) ([]:List dD):=bw.nil
  have H:=H.rowNil (X:=bS) 0 60
  refine aY G H I (fun F x a w=>match x with|(c1,l0,i2,j5,j6,g9,j7,j8,j9,k0,k1,m9)=>∃ (g6:SV) (g7:SV) (d4:List SV) (g8:SV) (d9:SV) (d7:List bS) (i1:dw) (j1:SV) (j2:SV) (d8:List SV) (j3:SV),bw (cn (X:=UInt8) (a_ d4 c1.ah).holds') d4 c1.ah∧bw (ic i1.holds') d7 l0∧bw (cn (X:=UInt8) (a_ d8 g9).holds') d8 g9∧Fr 74 [(12,.int .i64 m9),(10,.pointer (some ⟨c8,0,none⟩)),(11,.pointer (some ⟨d6,0,none⟩)),(2,.int .i64 x2),(6,.pointer (some ⟨c4,0,none⟩)),(7,.int .i64 0),(8,.pointer (some ⟨g5,0,none⟩))] a∧au w (pt c8 (ay.enc (il c1 g6 g7 g8)) 54::ai 0 g6 5 c1.b_::ai 0 g7 23 d4::(a_ d4 c1.ah)::ai 0 g8 3 c1.bf::pt d6 (bg.enc (bg.mk (br.mk c5 c6) d9 i2)) 36::ai 0 d9 60 d7::i1::pt g5 (af.enc (af.mk (bu.mk j5 j1 j2 d0 d1) d2 d3 (some c9) j7 j3 j9 k0 k1)) 203::ai 0 j1 5 j6::ai 0 j2 23 d8::(a_ d8 g9)::ai 0 j3 3 j8::pt c4 (bg.enc (EG)) 36::ai 0 c5 5 c3.b_::ai 0 c6 23 c2::(a_ c2 c3.ah)::ai 0 d0 5 c0.ae.data::ai 0 d1 205 c0.ae.sizes::ai 0 d2 101 c0.code::ai 0 d3 3 c0.dq::.obj c9 (jc c0.cg)::Lr)) (fun G H=>⟨l3,l4,i6,l5,SV.nil,[],u3,k6,k7,i5,k8,l1,c31,t4,G.to ⟨E,E,E,E,E,E,E,trivial⟩,f_ H [6,9,10,11,12,2,0,1,7,13,14,15,16,8,3,4,5,17,18,19,20,21] 22⟩) ?_
  rintro⟨c1,l0,i2,j5,j6,g9,j7,j8,j9,k0,k1,m9⟩ a w IW I t3 ⟨g6,g7,d4,g8,d9,d7,i1,j1,j2,d8,j3,t6,l2,t7,G,H⟩
  replace I:Sh.tY x2 c0 c3 c1 l0 i2 j5 j6 g9 j7 j8 j9 k0 k1 m9=_:=I
  unfold Sh.tY at I
  refine go 2 fun a w G H=>?_
  refine jm (pt c8 (ay.enc (il c1 g6 g7 g8)) 54::pt d6 (bg.enc (bg.mk (br.mk c5 c6) d9 i2)) 36::pt g5 (af.enc (af.mk (bu.mk j5 j1 j2 d0 d1) d2 d3 (some c9) j7 j3 j9 k0 k1)) 203::pt c4 (bg.enc (EG)) 36::ai 0 g6 5 c1.b_::ai 0 g7 23 d4::(a_ d4 c1.ah)::ai 0 g8 3 c1.bf::ai 0 d9 60 d7::i1::ai 0 j1 5 j6::ai 0 j2 23 d8::(a_ d8 g9)::ai 0 j3 3 j8::ai 0 c5 5 c3.b_::ai 0 c6 23 c2::(a_ c2 c3.ah)::ai 0 d0 5 c0.ae.data::ai 0 d1 205 c0.ae.sizes::ai 0 d2 101 c0.code::ai 0 d3 3 c0.dq::.obj c9 (jc c0.cg)::Lr) G H I [10,11,12,2,6,7,8] (fun p8 u=>(44,.bool p8)::u) (fun c59 I c46 G H=>?_) fun p8 a w I G H=>?_
  ·refine go 3 fun a w G H=>?_
   refine aA G (ZX G E E E) E E E fun a G=>?_
   refine go 2 fun a w G H=>?_
   refine gs I (fun z5 I=>?_) fun z5 I=>?_
   ·refine go 6 fun a w G H=>?_
    exact jr I ⟨G.t,bU H [0,5,8,13,1,2,3,4,6,7,9,10,11,12,14,15,16,17,18,19,20,21] 22 E⟩
   refine go 6 fun a w G H=>?_
   exact jr I ⟨G.t,bU H [0,5,8,13,1,2,3,4,6,7,9,10,11,12,14,15,16,17,18,19,20,21] 22 E⟩
  replace I:Sh.yU c0 c3 c1 l0 i2 j5 j6 g9 j7 j8 j9 k0 k1 m9 p8=_:=I
  unfold Sh.yU at I
  refine aB ?_
  refine cc I (fun z6 I=>?_) fun z6 I=>?_
  ·refine go 8 fun a w G H=>?_
   obtain⟨i0,AI,I⟩:=adu I
   have c10:=eK AI (bU H [2,10,11,12,13,0,1,3,4,5,6,7,8,9,14,15,16,17,18,19,20,21] 22 rfl) (fun _ h=>h) t7 (fun w H=>(H.rowS (X:=UInt8) (i:=12) rfl)) (fun w H=>(H.rowS (X:=gG) (i:=13) rfl)) (fun w H=>(H.rowS (X:=b9) (i:=14) rfl)) (fun w H=>(H.rowS (X:=Int) (i:=15) rfl)) (fun w H=>H.hold 16 _ rfl)
   refine cl B9 c10 ?_
   rintro v w ⟨n7,n8,n3,n9,rfl,t8,H⟩ a G
   replace H:au _ (pt g5 (af.enc (gx i0.2 n7 n8 d0 d1 d2 d3 c9 n9)) 203::ai 0 n7 5 i0.2.ae.b_::ai 0 n8 23 n3::(a_ n3 i0.2.ae.ah)::ai 0 n9 3 i0.2.bf::pt c8 (ay.enc (il c1 g6 g7 g8)) 54::pt d6 (bg.enc (bg.mk (br.mk c5 c6) d9 i2)) 36::pt c4 (bg.enc (EG)) 36::ai 0 g6 5 c1.b_::ai 0 g7 23 d4::(a_ d4 c1.ah)::ai 0 g8 3 c1.bf::ai 0 d9 60 d7::i1::ai 0 c5 5 c3.b_::ai 0 c6 23 c2::(a_ c2 c3.ah)::ai 0 d0 5 c0.ae.data::ai 0 d1 205 c0.ae.sizes::ai 0 d2 101 c0.code::ai 0 d3 3 c0.dq::.obj c9 (jc c0.cg)::Lr):=H
   refine go 11 fun a w G H=>?_
   refine cc I (fun z7 I=>?_) fun z7 I=>?_
   ·refine go 8 fun a w G H=>?_
    obtain rfl:=oI I
    have I:=t3 _ rfl
    subst I
    have I:=bB Bg
    subst I
    refine er Fe G H ?_
    exact⟨c5,c6,c2,d9,d7,i1,E,t5,l2,bU H [14,15,16,12,13] 22 E⟩
   refine go 5 fun a w G H=>?_
   obtain⟨G4,AK,I⟩:=adu I
   have c11:=eG AK H (fun _ h=>h) t8 (fun w H=>(H.rowS (X:=UInt8) (i:=12) rfl)) (fun w H=>(H.rowS (X:=gG) (i:=13) rfl)) (fun w H=>(H.rowS (X:=b9) (i:=14) rfl)) (fun w H=>(H.rowS (X:=Int) (i:=15) rfl)) (fun w H=>H.hold 16 _ rfl)
   refine cl B_ c11 ?_
   rintro v w ⟨c34,CG,AH,BU,rfl,t9,H⟩ a G
   refine go 8 fun Es a w G H=>?_
   obtain⟨g0,c24,I⟩:=adu I
   have c12:=jO c24 H (fun _ h=>h) (fun w H=>(H.rowS (X:=UInt8) (i:=13) rfl)) (fun w H=>(H.rowS (X:=SV) (i:=14) rfl)) (t6.mono fun _ _ q=>q.mono fun w H=>H.hold 15 _ rfl) (fun w H=>(H.rowS (X:=Int) (i:=16) rfl)) (fun w H=>(H.rowS (X:=UInt8) (i:=1) rfl)) (fun w H=>(H.rowS (X:=SV) (i:=2) rfl)) (t9.mono fun _ _ q=>q.mono fun w H=>H.hold 3 _ rfl) (fun w H=>(H.rowS (X:=Int) (i:=4) rfl))
   refine cl Tryz.call31 c12 ?_
   rintro v w ⟨m3,m4,m5,c20,FO,m6,rfl,c32,H⟩ a G
   refine go 13 fun Et a w G H=>?_
   refine aN G E E E (bL (X:=bS) (y:=(qk g0.1 m3 m4 m5 m6)) rh AP E E E E G E E E fun Eu w Ew t2=>?_)
   have H:=H.plus t2
   try dsimp only[List.set]at H
   intro a G
   obtain⟨BW,t1,I⟩:=adu I
   refine aN G E E E (fS (X:=bS) t1 l2.len E rh AP E E E E G E E E (H.own (X:=bS) (i:=24) E) (H.ptS (X:=bS) (i:=0) (n:=1) (c:=1) E E E (aah _)) fun c37 w z4=>?_)
   have H:=H.chg z4 (i:=24) rfl
   try dsimp only[List.set]at H
   obtain⟨c51,zi,Aj,H⟩:=lh (f_ H [25,2,0,1,3,4,5,6,7,8,9,10,11,12,13,14,15,16,17,18,19,20,21,22,23,24,26,27,28,29,30,31,32,33] 34)
   try dsimp only[List.set]at H
   obtain⟨G2,p9,Ak,H⟩:=lh (f_ H [0,3,1,2,4,5,6,7,8,9,10,11,12,13,14,15,16,17,18,19,20,21,22,23,24,25,26,27,28,29,30,31,32] 33)
   try dsimp only[List.set]at H
   obtain⟨c53,n2,c16,H⟩:=lh (f_ H [0,3,1,2,4,5,6,7,8,9,10,11,12,13,14,15,16,17,18,19,20,21,22,23,24,25,26,27,28,29,30,31] 32)
   try dsimp only[List.set]at H
   obtain⟨G3,k2,AE,H⟩:=lh (f_ H [0,3,1,2,4,5,6,7,8,9,10,11,12,13,14,15,16,17,18,19,20,21,22,23,24,25,26,27,28,29,30] 31)
   try dsimp only[List.set]at H
   obtain⟨u4,i4,AG,H⟩:=lh (f_ H [0,3,1,2,4,5,6,7,8,9,10,11,12,13,14,15,16,17,18,19,20,21,22,23,24,25,26,27,28,29] 30)
   try dsimp only[List.set]at H
   have BS:bw (ic u4.holds') (d7 ++ [(qk g0.1 m3 m4 m5 m6)]) BW:=by rw[(cX t1).2];exact(l2.mono fun _ _ q=>q.mono (fun w h=>(fun w h=>(fun w h=>(fun w h=>zi w (p9 w h)) w (n2 w h)) w (k2 w h)) w (i4 w h))).snoc ⟨m3,m4,m5,c20,m6,rfl,(fun w h=>cV (X:=dU) (e:=128) ((fun w h=>(fun w h=>(fun w h=>(fun w h=>Aj w (p9 w h)) w (n2 w h)) w (k2 w h)) w (i4 w h)) w h)),(fun w h=>cV (X:=eo) (e:=151) ((fun w h=>(fun w h=>(fun w h=>Ak w (n2 w h)) w (k2 w h)) w (i4 w h)) w h)),(fun w h=>cV (X:=bq) (e:=156) ((fun w h=>(fun w h=>c16 w (k2 w h)) w (i4 w h)) w h)),(c32.mono fun _ _ q=>q.mono (fun w h=>AE w (i4 w h))),(fun w h=>cV (X:=Int) (e:=3) (AG w h))⟩
   try dsimp only[List.set]at H
   intro a G
   refine go 16 fun a w G H=>?_
   exact jr I ⟨c34,CG,AH,BU,c37,(d7 ++ [(qk g0.1 m3 m4 m5 m6)]),u4,n7,n8,n3,n9,t9,BS,t8,G.t,bU H [13,4,5,6,7,14,20,0,8,9,10,11,12,15,21,22,23,24,25,26,27,28] 29 E⟩
  refine go 5 fun a w G H=>?_
  obtain rfl:=oI I
  have I:=t3 _ rfl
  subst I
  exact⟨(c1,l0,i2,j5,j6,g9,j7,j8,j9,k0,k1),E,g6,g7,d4,g8,d9,d7,i1,j1,j2,d8,j3,t6,l2,t7,G.to ⟨E,E,E,E,trivial⟩,bU H [0,4,5,6,7,1,8,9,2,10,11,12,13,3,14,15,16,17,18,19,20,21] 22 E⟩
 rintro⟨c7,p1,p2,p3,m7,j4,p4,m8,p5,p6,p7⟩ a w I ⟨l7,l8,g3,l9,j0,i8,k5,m0,m1,g4,m2,FN,BR,c49,G,H⟩
 replace I:Sh.tX c3 c7 p1 p2 p3 m7 j4 p4 m8 p5 p6 p7=_:=I
 unfold Sh.tX at I
 refine go 2 fun a w G H=>?_
 refine aM G H I (fun F x a w=>match x with|z0=>Fr 74 [(11,.pointer (some ⟨d6,0,none⟩)),(6,.pointer (some ⟨c4,0,none⟩)),(7,.int .i64 0)] a∧au w (pt d6 (bg.enc (bg.mk (br.mk c5 c6) j0 z0)) 36::pt c4 (bg.enc (EG)) 36::ai 0 l7 5 c7.b_::ai 0 l8 23 g3::(a_ g3 c7.ah)::ai 0 l9 3 c7.bf::ai 0 j0 60 i8::k5::ai 0 m0 5 m7::ai 0 m1 23 g4::(a_ g4 j4)::ai 0 m2 3 m8::ai 0 c5 5 c3.b_::ai 0 c6 23 c2::(a_ c2 c3.ah)::ai 0 d0 5 c0.ae.data::ai 0 d1 205 c0.ae.sizes::ai 0 d2 101 c0.code::ai 0 d3 3 c0.dq::.obj c9 (jc c0.cg)::Lr)) (fun IV I EP G H=>?_) ?_
 ·refine go 7 fun a w G H=>?_
  refine cc I (fun z8 I=>?_) fun z8 I=>?_
  ·refine go 5 fun a w G H=>?_
   exact jr I ⟨G.t,bU H [5,13,1,2,3,4,6,7,9,10,11,12,14,15,16,17,18,19,20,21] 22 E⟩
  refine bM (aB ?_)
  exact jr I ⟨G.t,bU H [5,13,1,2,3,4,6,7,9,10,11,12,14,15,16,17,18,19,20,21] 22 E⟩
 rintro z0 a w I ⟨G,H⟩
 unfold Sh.IJ at I
 refine go 9 fun a w G H=>?_
 obtain rfl:=oI I
 refine er Fe G H ?_
 exact⟨c5,c6,c2,j0,i8,k5,E,t5,BR,bU H [12,13,14,6,7] 20 E⟩
theorem oL{x0:fh}{x1:du}{s1 s3 s5 s7 s9:SV}{q_:List SV}{fe:SV}{rf:List bS}{out:(Int×Int)}{w0:World}{Bf:World→Prop}{Lr:List dw}(I:Sh.iI x0 x1=some out)(H:au w0 (Lr))(S:∀ w,au w Lr→Bf w)(f2:cn Bf s1 x0.data)(f4:cn Bf s3 x0.ah)(f6:cn Bf s5 x0.code)(f8:cn Bf s7 x1.iz.b_)(f11:cn Bf s9 q_)(Bo:bw (cn (X:=UInt8) Bf) q_ x1.iz.ah)(f15:cn Bf fe rf)(B8:bw (ic Bf) rf x1.cj):Calls Tryz.prog 39 #[.agg (bh.enc (bh.mk x0.lo x0.hi s1 s3 s5)).toArray,.agg (bg.enc (kg x1 s7 s9 fe)).toArray] w0 (gf fun v w'=>v = .tuple #[.int .i64 out.1,.int .i64 out.2]∧au w' (Lr)):=by
 unfold Sh.iI at I
 refine ce Tryz.func39 Tryz.ntmps39 fun a G=>?_
 refine go 4 fun g7 d3 a w G H=>?_
 refine aN G E E E (bI (z:=(.int .i64 0)) (zs:=[(.int .i64 0)]) MC E E fun d0 w g11 d57=>?_)
 have H:=H.plus d57
 try dsimp only[List.set]at H
 intro a G
 refine aN G E E E (bI (z:=(.int .i64 0)) (zs:=[(.int .i64 0)]) Tryz.zeroValue34 E E fun d1 w g12 d58=>?_)
 have H:=H.plus d58
 try dsimp only[List.set]at H
 intro a G
 refine go 11 fun a w G H=>?_
 refine cc I (fun d64 I=>?_) fun d64 I=>?_
 ·refine go 7 fun a w G H=>?_
  obtain rfl:=oI I
  refine er Ce G H ?_
  exact⟨E,bU H [] 4 E⟩
 refine go 7 fun a w G H=>?_
 obtain⟨g37,I,Oj⟩:=cJ I
 refine aN G E E E (aS (xs:=[.tmp 15,.tmp 17]) Tryz.call65 G E E (kZ I H (Bf:=Bf) (fun w H=>S _ (dZ H 4)) f2 f4 f6 f8 f11 Bo) fun v w hR=>?_)
 obtain⟨d87,rfl,hR⟩:=hR
 rcases d87 with⟨⟩|⟨⟩|c0
 ·obtain⟨rfl,H⟩:=hR
  replace I:Sh.Ia=_:=Oj
  unfold Sh.Ia at I
  intro a G
  refine go 3 fun a w G H=>?_
  refine aN G E E E (bI (z:=(.pointer none)) (zs:=[(.pointer none)]) D2 E E fun d8 w TF m2=>?_)
  have H:=H.plus m2
  try dsimp only[List.set]at H
  intro a G
  refine go 13 fun a w G H=>?_
  refine dT H [0,1,2,3,4] 5 fun K=>?_
  refine fc [0] fun a G=>?_
  refine ko 1 fun w eX H=>?_
  refine(bN Jf (H.obj (i:=2) E) G E E E E aa8 E fun w d60=>?_)
  have H:=H.chg d60 (i:=2) rfl
  try dsimp only[List.set]at H
  refine ds [0,1,2,3,4] 5 ?_
  refine ko 2 fun w eX H=>?_
  refine(bN Fg (H.obj (i:=1) E) G E E E E aa8 E fun w d61=>?_)
  have H:=H.chg d61 (i:=1) rfl
  try dsimp only[List.set]at H
  refine ds [0,1,2,3,4] 5 ?_
  refine de fun w H=>?_
  refine go 2 fun a w G H=>?_
  obtain rfl:=oI I
  refine er Ce G H ?_
  exact⟨E,bU H [] 5 E⟩
 ·obtain⟨rfl,H⟩:=hR
  replace I:Sh.aC6=_:=Oj
  unfold Sh.aC6 at I
  intro a G
  refine go 3 fun a w G H=>?_
  refine aN G E E E (bI (z:=(.pointer none)) (zs:=[(.pointer none)]) D2 E E fun d8 w TF m2=>?_)
  have H:=H.plus m2
  try dsimp only[List.set]at H
  intro a G
  refine go 13 fun a w G H=>?_
  refine dT H [0,1,2,3,4] 5 fun K=>?_
  refine fc [0] fun a G=>?_
  refine ko 1 fun w eX H=>?_
  refine(bN Jf (H.obj (i:=2) E) G E E E E aa8 E fun w d62=>?_)
  have H:=H.chg d62 (i:=2) rfl
  try dsimp only[List.set]at H
  refine ds [0,1,2,3,4] 5 ?_
  refine ko 2 fun w eX H=>?_
  refine(bN Fg (H.obj (i:=1) E) G E E E E aa8 E fun w d63=>?_)
  have H:=H.chg d63 (i:=1) rfl
  try dsimp only[List.set]at H
  refine ds [0,1,2,3,4] 5 ?_
  refine de fun w H=>?_
  refine go 2 fun a w G H=>?_
  obtain rfl:=oI I
  refine er Ce G H ?_
  exact⟨E,bU H [] 5 E⟩
 obtain⟨c9,NI,Oh,c53,c5,c6,c7,c8,c4,Oi,rfl,d86,H⟩:=hR
 replace I:Sh.aC7 x1 c0=_:=Oj
 unfold Sh.aC7 at I
 intro a G
 refine go 3 fun a w G H=>?_
 refine aN G E E E (bI (z:=(.pointer none)) (zs:=[(.pointer none)]) D2 E E fun d8 w TF m2=>?_)
 have H:=H.plus m2
 try dsimp only[List.set]at H
 intro a G
 refine go 16 fun a w G H=>?_
 refine aN G E E E (bI (z:=(.int .i64 0)) (zs:=[(.int .i64 0)]) MC E E fun d9 w g13 d59=>?_)
 have H:=H.plus d59
 try dsimp only[List.set]at H
 intro a G
 refine go 7 fun a w G H=>?_
 obtain⟨d97,I,d88⟩:=cJ I
 refine aN G E E E (aS (xs:=[.tmp 24]) Tryz.call94 G E E (R:=fun v w=>∃ x,d97 = .inl x∧match x with|d2=>∃ (d6:Nat) (g0:SV) (g1:SV) (FO:List SV) (d7:SV) (c51:List bS),v = .func (.func 166) [].toArray [.pointer (some ⟨d6,0,none⟩)].toArray∧cn Bf g0 d2.iz.b_∧cn Bf g1 FO∧bw (cn (X:=UInt8) Bf) FO d2.iz.ah∧cn Bf d7 c51∧bw (ic Bf) c51 d2.cj∧au w (pt d6 (bg.enc (kg d2 g0 g1 d7)) 36::pt d9 [.int .i64 (-1)] 3::pt d8 [.pointer (some ⟨c9,0,none⟩)] 115::pt c9 (af.enc (gx c0 NI Oh c5 c6 c7 c8 c4 Oi)) 203::ai 0 NI 5 c0.ae.b_::ai 0 Oh 23 c53::(a_ c53 c0.ae.ah)::ai 0 c5 5 c0.ae.data::ai 0 c6 205 c0.ae.sizes::ai 0 c7 101 c0.code::ai 0 c8 3 c0.dq::.obj c4 (jc c0.cg)::ai 0 Oi 3 c0.bf::pt d1 [.int .i64 0] 34::pt d0 [.int .i64 0] 3::pt d3 (bg.enc (kg x1 s7 s9 fe)) 36::pt g7 (bh.enc (bh.mk x0.lo x0.hi s1 s3 s5)) 27::Lr)) ?_ fun v w hR=>?_)
 ·refine aV Tryz.func94 E Tryz.ntmps94 E fun a G=>?_
  refine go 13 fun d50 a w G H=>?_
  obtain rfl:=oI I
  refine aT Tryz.results94 G E ?_
  exact⟨x1,E,d50,s7,s9,q_,fe,rf,E,f8,f11,Bo,f15,B8,H⟩
 obtain⟨d2,rfl,hR⟩:=hR
 obtain⟨d6,g0,g1,FO,d7,c51,rfl,d51,d52,d66,g10,TG,H⟩:=hR
 replace I:Sh.nZ x1 c0 d2=_:=d88
 unfold Sh.nZ at I
 intro a G
 refine go 3 fun a w G H=>?_
 obtain⟨d98,I,TU⟩:=cJ I
 refine SN Tryz.call166 G H (fs:=[]) (cs:=[.pointer (some ⟨d6,0,none⟩)]) (R:=fun c3 v w=>∃ x,d98 = .inl x∧match x with|(.inl (G5,Ku,Kv,Kw,Kx,p2,Ky,c70,Kz,c72,KA))=>∃ (IU:SV) (c59:SV) (l7:List SV) (IV:SV),v = .tuple #[]∧bw (cn (X:=UInt8) (a_ l7 p2).holds') l7 p2∧au w (pt d0 [.int .i64 G5] 3::pt d1 [.int .i64 Ku] 34::pt d9 [.int .i64 Kv] 3::pt c9 (af.enc (af.mk (bu.mk Kw IU c59 c5 c6) c7 c8 (some c4) Ky IV Kz c72 KA)) 203::ai 0 IU 5 Kx::ai 0 c59 23 l7::(a_ l7 p2)::ai 0 IV 3 c70::kx c3 .done (some .ret)::.obj c3.d qd::pt d6 (bg.enc (kg d2 g0 g1 d7)) 36::pt d8 [.pointer (some ⟨c9,0,none⟩)] 115::ai 0 c5 5 c0.ae.data::ai 0 c6 205 c0.ae.sizes::ai 0 c7 101 c0.code::ai 0 c8 3 c0.dq::.obj c4 (jc c0.cg)::pt d3 (bg.enc (kg x1 s7 s9 fe)) 36::pt g7 (bh.enc (bh.mk x0.lo x0.hi s1 s3 s5)) 27::Lr)|(.inr (c11,KB,c75,p3,c76,KC,KD,KE,c80))=>∃ (IW:SV) (Ks:SV) (l8:List SV) (Kt:SV),v = .tuple #[]∧bw (cn (X:=UInt8) (a_ l8 p3).holds') l8 p3∧au w (pt d9 [.int .i64 c11] 3::pt c9 (af.enc (af.mk (bu.mk KB IW Ks c5 c6) c7 c8 (some c4) c76 Kt KD KE c80)) 203::ai 0 IW 5 c75::ai 0 Ks 23 l8::(a_ l8 p3)::ai 0 Kt 3 KC::kx c3 .ready none::.obj c3.d qd::pt d6 (bg.enc (kg d2 g0 g1 d7)) 36::pt d8 [.pointer (some ⟨c9,0,none⟩)] 115::ai 0 c5 5 c0.ae.data::ai 0 c6 205 c0.ae.sizes::ai 0 c7 101 c0.code::ai 0 c8 3 c0.dq::.obj c4 (jc c0.cg)::pt d1 [.int .i64 0] 34::pt d0 [.int .i64 0] 3::pt d3 (bg.enc (kg x1 s7 s9 fe)) 36::pt g7 (bh.enc (bh.mk x0.lo x0.hi s1 s3 s5)) 27::Lr)) E (fun c3 w m1 l9 m0 t9 H=>?_) (fun c3 v w hR=>?_)
 ·try dsimp only[List.set]at H
  refine ce Tryz.func166 Tryz.ntmps166 fun a G=>?_
  refine go 4 fun a w G H=>?_
  obtain⟨g22,d39,I⟩:=adu I
  have d29:=oM d39 H (Bf:=Bf) (tb S) d51 d52 d66
  refine cl Tryz.call167 d29 ?_
  rintro v w ⟨d78,d79,d38,d77,d80,rfl,d68,H⟩ a G
  refine go 6 fun g6 a w G H=>?_
  refine aM G H I (fun F x a w=>match x with|(c2,i2,KF,KG,p4,KH,NC,c85,ND,c87)=>∃ (g8:SV) (g9:SV) (i6:List SV) (j8:dw) (i0:SV) (u3:SV) (u4:SV) (j3:List SV) (u5:SV),bw (cn (X:=UInt8) j8.holds') i6 c2.ah∧bw (cn (X:=UInt8) (a_ j3 p4).holds') j3 p4∧Fr 37 [(0,.func (.yield c3.l) #[] #[]),(3,.pointer (some ⟨g6,0,none⟩))] a∧au w (pt g6 (ay.enc (il c2 g8 g9 i0)) 54::ai 0 g8 5 c2.b_::ai 0 g9 23 i6::j8::ai 0 i0 3 c2.bf::pt d9 [.int .i64 i2] 3::pt c9 (af.enc (af.mk (bu.mk KF u3 u4 c5 c6) c7 c8 (some c4) KH u5 c85 ND c87)) 203::ai 0 u3 5 KG::ai 0 u4 23 j3::(a_ j3 p4)::ai 0 u5 3 NC::pt d6 (bg.enc (kg d2 g0 g1 d7)) 36::pt d8 [.pointer (some ⟨c9,0,none⟩)] 115::pt d1 [.int .i64 0] 34::pt d0 [.int .i64 0] 3::pt d3 (bg.enc (kg x1 s7 s9 fe)) 36::pt g7 (bh.enc (bh.mk x0.lo x0.hi s1 s3 s5)) 27::kx c3 .ready none::.obj c3.d qd::ai 0 c5 5 c0.ae.data::ai 0 c6 205 c0.ae.sizes::ai 0 c7 101 c0.code::ai 0 c8 3 c0.dq::.obj c4 (jc c0.cg)::Lr)) (fun g38 I TV G H=>?_) ?_
  ·refine go 9 fun a w G H=>?_
   refine aY G H I (fun F x a w=>match x with|(c1,i1,c12,zi,k5,Aj,Ak,c16,AE,AG,AH)=>∃ (g2:SV) (g3:SV) (i3:List SV) (i5:dw) (g4:SV) (m3:SV) (m4:SV) (i7:List SV) (m5:SV),bw (cn (X:=UInt8) i5.holds') i3 c1.ah∧bw (cn (X:=UInt8) (a_ i7 k5).holds') i7 k5∧Fr 37 [(13,.int .i64 AH),(0,.func (.yield c3.l) #[] #[]),(11,(d7).v),(12,.int .i64 (d2.cj.length:Int)),(3,.pointer (some ⟨g6,0,none⟩))] a∧au w (pt g6 (ay.enc (il c1 g2 g3 g4)) 54::ai 0 g2 5 c1.b_::ai 0 g3 23 i3::i5::ai 0 g4 3 c1.bf::pt d9 [.int .i64 i1] 3::pt c9 (af.enc (af.mk (bu.mk c12 m3 m4 c5 c6) c7 c8 (some c4) Aj m5 c16 AE AG)) 203::ai 0 m3 5 zi::ai 0 m4 23 i7::(a_ i7 k5)::ai 0 m5 3 Ak::pt d6 (bg.enc (kg d2 g0 g1 d7)) 36::pt d8 [.pointer (some ⟨c9,0,none⟩)] 115::pt d1 [.int .i64 0] 34::pt d0 [.int .i64 0] 3::pt d3 (bg.enc (kg x1 s7 s9 fe)) 36::pt g7 (bh.enc (bh.mk x0.lo x0.hi s1 s3 s5)) 27::kx c3 .ready none::.obj c3.d qd::ai 0 c5 5 c0.ae.data::ai 0 c6 205 c0.ae.sizes::ai 0 c7 101 c0.code::ai 0 c8 3 c0.dq::.obj c4 (jc c0.cg)::Lr)) (fun G H=>⟨d78,d79,d38,d77,d80,NI,Oh,c53,Oi,d68,d86,G.to ⟨E,E,E,E,E,trivial⟩,f_ H [0,1,2,3,4,8,10,11,12,13,19,7,9,20,21,22,23,5,6,14,15,16,17,18] 24⟩) ?_
   rintro⟨c1,i1,c12,zi,k5,Aj,Ak,c16,AE,AG,AH⟩ a w g39 I Ol ⟨g2,g3,i3,i5,g4,m3,m4,i7,m5,G3,G4,G,H⟩
   replace I:Sh.eR c0 d2 c1 i1 c12 zi k5 Aj Ak c16 AE AG AH=_:=I
   unfold Sh.eR at I
   refine go 6 fun a w G H=>?_
   refine cc I (fun d23 I=>?_) fun d23 I=>?_
   ·refine go 6 fun a w G H=>?_
    obtain⟨g5,Og,I⟩:=adu I
    have d19:=aL Og
    obtain⟨d99,d93,d22⟩:=bw.getr TG d19.2
    have d92:=bw.bd TG (bA Og)
    obtain⟨m6,m7,m8,d94,m9,rfl,d53,d54,d55,d70,d56⟩:=d22
    refine go 11 fun l6 a w G H=>?_
    obtain⟨d89,I,TS⟩:=cJ I
    refine aN G E E E (Yd.mono (uG (rc:=c3) (vs:=[.agg (ay.enc (il c1 g2 g3 g4)).toArray,.int .i64 0]) (ps:=[26,27]) (J:=fun v w=>∃ x,d89 = .inl x∧match x with|(.inl (c20,c21,AI,AK,k6,c24,Bg,BO,BP,c28))=>∃ (u6:SV) (u7:SV) (j4:List SV) (u8:SV),v = .bool false∧bw (cn (X:=UInt8) (a_ j4 k6).holds') j4 k6∧au w (pt d0 [.int .i64 c20] 3::pt d1 [.int .i64 c21] 34::pt c9 (af.enc (af.mk (bu.mk AI u6 u7 c5 c6) c7 c8 (some c4) c24 u8 BO BP c28)) 203::ai 0 u6 5 AK::ai 0 u7 23 j4::(a_ j4 k6)::ai 0 u8 3 Bg::kx c3 .done (some .ret)::pt l6 (bS.enc (qk g5 m6 m7 m8 m9)) 60::pt g6 (ay.enc (il c1 g2 g3 g4)) 54::ai 0 g2 5 c1.b_::ai 0 g3 23 i3::i5::ai 0 g4 3 c1.bf::pt d9 [.int .i64 i1] 3::pt d6 (bg.enc (kg d2 g0 g1 d7)) 36::pt d8 [.pointer (some ⟨c9,0,none⟩)] 115::pt d3 (bg.enc (kg x1 s7 s9 fe)) 36::pt g7 (bh.enc (bh.mk x0.lo x0.hi s1 s3 s5)) 27::.obj c3.d qd::ai 0 c5 5 c0.ae.data::ai 0 c6 205 c0.ae.sizes::ai 0 c7 101 c0.code::ai 0 c8 3 c0.dq::.obj c4 (jc c0.cg)::Lr)|(.inr (k2,k7,k8,j0,k9,l0,l1,l2,l3))=>∃ (j9:SV) (k0:SV) (i4:List SV) (k1:SV),v = .bool true∧bw (cn (X:=UInt8) (a_ i4 j0).holds') i4 j0∧au w (pt d9 [.int .i64 k2] 3::pt c9 (af.enc (af.mk (bu.mk k7 j9 k0 c5 c6) c7 c8 (some c4) k9 k1 l1 l2 l3)) 203::ai 0 j9 5 k8::ai 0 k0 23 i4::(a_ i4 j0)::ai 0 k1 3 l0::pt l6 (bS.enc (qk g5 m6 m7 m8 m9)) 60::pt g6 (ay.enc (il c1 g2 g3 g4)) 54::ai 0 g2 5 c1.b_::ai 0 g3 23 i3::i5::ai 0 g4 3 c1.bf::pt d6 (bg.enc (kg d2 g0 g1 d7)) 36::pt d8 [.pointer (some ⟨c9,0,none⟩)] 115::pt d1 [.int .i64 0] 34::pt d0 [.int .i64 0] 3::pt d3 (bg.enc (kg x1 s7 s9 fe)) 36::pt g7 (bh.enc (bh.mk x0.lo x0.hi s1 s3 s5)) 27::kx c3 .ready none::.obj c3.d qd::ai 0 c5 5 c0.ae.data::ai 0 c6 205 c0.ae.sizes::ai 0 c7 101 c0.code::ai 0 c8 3 c0.dq::.obj c4 (jc c0.cg)::Lr)) G E E E H (i:=18) E m1 l9 m0 E E ?_) fun v w hR=>?_)
    ·have G:=va.fr (va.put (d:=27) (v:=.int .i64 0) (va.put (d:=26) (v:=.agg (ay.enc (il c1 g2 g3 g4)).toArray) t9 rfl) rfl) []
     refine go 2 fun a w G H=>?_
     refine aN G E E E (bI z54 (zs:=ay.zero.enc) E E fun u2 w d65 G2=>?_)
     have H:=H.plus G2
     try dsimp only[List.set]at H
     intro a G
     refine go 7 fun a w G H=>?_
     refine pP H (i:=19) E fun w H=>?_
     try dsimp only[List.set]at H
     refine go 13 fun a w G H=>?_
     refine aM G H I (fun F x a w=>match x with|(p5,p6,k3,p7,p8,p9,t0,t1,NF)=>∃ (n0:SV) (n1:SV) (i8:List SV) (n2:SV),bw (cn (X:=UInt8) (a_ i8 k3).holds') i8 k3∧Fr 75 [(45,.bool NF),(4,.pointer (some ⟨d0,0,none⟩)),(5,.pointer (some ⟨d1,0,none⟩)),(7,.pointer (some ⟨d9,0,none⟩))] a∧au w (pt c9 (af.enc (af.mk (bu.mk p5 n0 n1 c5 c6) c7 c8 (some c4) p7 n2 p9 t0 t1)) 203::ai 0 n0 5 p6::ai 0 n1 23 i8::(a_ i8 k3)::ai 0 n2 3 p8::pt l6 (bS.enc (qk g5 m6 m7 m8 m9)) 60::pt g6 (ay.enc (il c1 g2 g3 g4)) 54::pt d9 [.int .i64 i1] 3::pt d6 (bg.enc (kg d2 g0 g1 d7)) 36::pt d8 [.pointer (some ⟨c9,0,none⟩)] 115::pt d1 [.int .i64 0] 34::pt d0 [.int .i64 0] 3::pt d3 (bg.enc (kg x1 s7 s9 fe)) 36::pt g7 (bh.enc (bh.mk x0.lo x0.hi s1 s3 s5)) 27::ai 0 g2 5 c1.b_::ai 0 g3 23 i3::i5::ai 0 g4 3 c1.bf::kx c3 .busy none::.obj c3.d qd::ai 0 c5 5 c0.ae.data::ai 0 c6 205 c0.ae.sizes::ai 0 c7 101 c0.code::ai 0 c8 3 c0.dq::.obj c4 (jc c0.cg)::Lr)) (fun g32 I g27 G H=>?_) ?_
     ·refine dT H [0,1,2,3,4,5,6,7,8,9,10,11,12,13,14,15,16,17,18,19,20,21,22,23,24,25] 26 fun K=>?_
      refine fc [0,1,2] fun a G=>?_
      refine gs I (fun c91 I=>?_) fun c91 I=>?_
      ·refine fc [3] fun a G=>?_
       refine bJ K 4 ads E E ?_
       refine kF G 4 E E E E E c91 E E fun w eX H=>?_
       obtain⟨j1,d40,I⟩:=adu I
       have d30:=eK d40 (bU H [8,9,10,11,12,0,1,2,3,4,5,6,7,13,14,15,16,17,18,19,20,21,22,23,24,25] 26 rfl) (fun _ h=>h) G4 (fun w H=>(H.rowS (X:=UInt8) (i:=16) rfl)) (fun w H=>(H.rowS (X:=gG) (i:=17) rfl)) (fun w H=>(H.rowS (X:=b9) (i:=18) rfl)) (fun w H=>(H.rowS (X:=Int) (i:=19) rfl)) (fun w H=>H.hold 20 _ rfl)
       refine dl B9 d30 ?_
       rintro v w ⟨u9,z0,u0,z1,rfl,IP,H⟩
       replace H:au _ (pt c9 (af.enc (gx j1.2 u9 z0 c5 c6 c7 c8 c4 z1)) 203::ai 0 u9 5 j1.2.ae.b_::ai 0 z0 23 u0::(a_ u0 j1.2.ae.ah)::ai 0 z1 3 j1.2.bf::pt u2 (ay.enc (il c1 g2 g3 g4)) 54::pt l6 (bS.enc (qk g5 m6 m7 m8 m9)) 60::pt g6 (ay.enc (il c1 g2 g3 g4)) 54::ai 0 g2 5 c1.b_::ai 0 g3 23 i3::i5::ai 0 g4 3 c1.bf::pt d9 [.int .i64 i1] 3::pt d6 (bg.enc (kg d2 g0 g1 d7)) 36::pt d8 [.pointer (some ⟨c9,0,none⟩)] 115::pt d1 [.int .i64 0] 34::pt d0 [.int .i64 0] 3::pt d3 (bg.enc (kg x1 s7 s9 fe)) 36::pt g7 (bh.enc (bh.mk x0.lo x0.hi s1 s3 s5)) 27::kx c3 .busy none::.obj c3.d qd::ai 0 c5 5 c0.ae.data::ai 0 c6 205 c0.ae.sizes::ai 0 c7 101 c0.code::ai 0 c8 3 c0.dq::.obj c4 (jc c0.cg)::Lr):=H
       refine dh fun a G=>?_
       refine fc [5,6] fun a G=>?_
       refine gs I (fun FN I=>?_) fun FN I=>?_
       ·refine fc [7,8,9,10,11,12,13] fun a G=>?_
        refine de fun w H=>?_
        refine aB ?_
        exact jr I ⟨u9,z0,u0,z1,IP,G.t,bU H [0,1,2,3,4,6,7,12,13,14,15,16,17,18,8,9,10,11,19,20,21,22,23,24,25] 26 E⟩
       refine fc [7,8] fun a G=>?_
       refine bJ K 9 ads E E ?_
       refine kF G 9 E E E E E FN E E fun w eX H=>?_
       obtain⟨g23,d41,I⟩:=adu I
       have d31:=eG d41 H (fun _ h=>h) IP (fun w H=>(H.rowS (X:=UInt8) (i:=16) rfl)) (fun w H=>(H.rowS (X:=gG) (i:=17) rfl)) (fun w H=>(H.rowS (X:=b9) (i:=18) rfl)) (fun w H=>(H.rowS (X:=Int) (i:=19) rfl)) (fun w H=>H.hold 20 _ rfl)
       refine dl B_ d31 ?_
       rintro v w ⟨g16,g17,d95,g18,rfl,d72,H⟩
       refine ds [0,1,2,3,4,5,6,7,8,9,10,11,12,13,14,15,16,17,18,19,20,21,22,23,24,25,26,27,28,29] 30 fun a G=>?_
       refine bJ K 10 ads E E ?_
       refine kF G 10 E E E E E FN E E fun w eX H=>?_
       obtain⟨g24,d42,I⟩:=adu I
       have d32:=qF d42 H (fun _ h=>h) (fun w H=>(H.rowS (X:=UInt8) (i:=12) rfl)) (fun w H=>(H.rowS (X:=SV) (i:=13) rfl)) (G3.mono fun _ _ q=>q.mono fun w H=>H.hold 14 _ rfl) (fun w H=>(H.rowS (X:=Int) (i:=15) rfl)) (fun w H=>(H.rowS (X:=UInt8) (i:=0) rfl)) (fun w H=>(H.rowS (X:=SV) (i:=1) rfl)) (d72.mono fun _ _ q=>q.mono fun w H=>H.hold 2 _ rfl) (fun w H=>(H.rowS (X:=Int) (i:=3) rfl))
       refine dl Tryz.call95 d32 ?_
       rintro v w ⟨rfl,H⟩
       refine ds [0,1,2,3,4,5,6,7,8,9,10,11,12,13,14,15,16,17,18,19,20,21,22,23,24,25,26,27,28,29] 30 fun a G=>?_
       refine fc [11,12,13] fun a G=>?_
       refine de fun w H=>?_
       refine aB ?_
       exact jr I ⟨u9,z0,u0,z1,IP,G.t,bU H [4,5,6,7,8,10,11,16,17,18,19,20,21,22,12,13,14,15,23,24,25,26,27,28,29] 30 E⟩
      refine fc [3,4,5,6,7,8,9,10,11,12,13] fun a G=>?_
      refine de fun w H=>?_
      refine aB ?_
      exact jr I ⟨m3,m4,i7,m5,G4,G.t,bU H [8,9,10,11,12,1,2,7,13,14,15,16,17,18,3,4,5,6,19,20,21,22,23,24,25] 26 E⟩
     rintro⟨p5,p6,k3,p7,p8,p9,t0,t1,NF⟩ a w I ⟨n0,n1,i8,n2,TL,G,H⟩
     replace I:Sh.H_ i1 p5 p6 k3 p7 p8 p9 t0 t1 NF=_:=I
     unfold Sh.H_ at I
     refine aB ?_
     refine cc I (fun d24 I=>?_) fun d24 I=>?_
     ·refine go 8 fun a w G H=>?_
      refine sO (a:=a) H (i:=18) E fun w H=>?_
      try dsimp only[List.set]at H
      obtain rfl:=oI I
      exact⟨(inl (i1,232,p5,p6,k3,p7,p8,p9,t0,t1)),E,n0,n1,i8,n2,E,TL,bU H [11,10,0,1,2,3,4,18,5,6,14,15,16,17,7,8,9,12,13,19,20,21,22,23,24] 25 E⟩
     refine go 8 fun a w G H=>?_
     refine tU H (i:=18) E fun w H=>?_
     try dsimp only[List.set]at H
     obtain rfl:=oI I
     exact⟨(inr ((IntKind.i64.wrap (i1+1)),p5,p6,k3,p7,p8,p9,t0,t1)),E,n0,n1,i8,n2,E,TL,bU H [7,0,1,2,3,4,5,6,14,15,16,17,8,9,10,11,12,13,18,19,20,21,22,23,24] 25 E⟩
    obtain⟨d81,rfl,hR⟩:=hR
    rcases d81 with⟨c20,c21,AI,AK,k6,c24,Bg,BO,BP,c28⟩|⟨k2,k7,k8,j0,k9,l0,l1,l2,l3⟩
    ·obtain⟨u6,u7,j4,u8,rfl,d71,H⟩:=hR
     replace I:Sh.CM i1 c20 c21 AI AK k6 c24 Bg BO BP c28=_:=TS
     unfold Sh.CM at I
     intro a G
     refine go 3 fun a w G H=>?_
     refine zZ G (c:=.tmp 20) E (Gz E) ?_
     refine p_ ?_
     obtain rfl:=oI I
     have I:=Ol _ rfl
     subst I
     have I:=bB TV
     subst I
     refine vH uw G ?_
     exact⟨(inl (c20,c21,i1,AI,AK,k6,c24,Bg,BO,BP,c28)),E,u6,u7,j4,u8,E,d71,bU H [0,1,14,2,3,4,5,6,7,19,15,16,20,21,22,23,24,17,18] 25 E⟩
    obtain⟨j9,k0,i4,k1,rfl,TK,H⟩:=hR
    replace I:Sh.pS c1 AH g5 k2 k7 k8 j0 k9 l0 l1 l2 l3=_:=TS
    unfold Sh.pS at I
    intro a G
    refine go 3 fun a w G H=>?_
    refine zY G (c:=.tmp 20) E (CM E) ?_
    refine go 6 fun a w G H=>?_
    obtain⟨d4,d43,I⟩:=adu I
    have d33:=iX d43 H (fun _ h=>h) (fun w H=>(H.rowS (X:=UInt8) (i:=8) rfl)) (fun w H=>(H.rowS (X:=SV) (i:=9) rfl)) (G3.mono fun _ _ q=>q.mono fun w H=>H.hold 10 _ rfl) (fun w H=>(H.rowS (X:=Int) (i:=11) rfl)) (fun w H=>(d53 _ (S _ (dZ H 25)))) (fun w H=>(d54 _ (S _ (dZ H 25)))) (fun w H=>(d55 _ (S _ (dZ H 25)))) (d70.mono fun _ _ q=>q.mono fun w H=>S _ (dZ H 25)) (fun w H=>(d56 _ (S _ (dZ H 25))))
    refine cl Tryz.call52 d33 ?_
    rintro v w ⟨n3,n4,c93,TN,n5,rfl,d73,H⟩ a G
    refine go 13 fun a w G H=>?_
    refine cc I (fun d25 I=>?_) fun d25 I=>?_
    ·refine go 5 fun a w G H=>?_
     obtain⟨d90,I,d85⟩:=cJ I
     refine aN G E E E (Yd.mono (uG (rc:=c3) (vs:=[.agg (ay.enc (il d4.1 n3 n4 n5)).toArray,.int .i64 d4.2]) (ps:=[26,27]) (J:=fun v w=>∃ x,d90 = .inl x∧match x with|(BQ,BR)=>v = .bool false∧au w (pt d0 [.int .i64 BQ] 3::pt d1 [.int .i64 BR] 34::kx c3 .done (some .ret)::ai 0 n3 5 d4.1.b_::ai 0 n4 23 c93::TN::ai 0 n5 3 d4.1.bf::pt d9 [.int .i64 k2] 3::pt c9 (af.enc (af.mk (bu.mk k7 j9 k0 c5 c6) c7 c8 (some c4) k9 k1 l1 l2 l3)) 203::ai 0 j9 5 k8::ai 0 k0 23 i4::(a_ i4 j0)::ai 0 k1 3 l0::pt l6 (bS.enc (qk g5 m6 m7 m8 m9)) 60::pt g6 (ay.enc (il d4.1 n3 n4 n5)) 54::ai 0 g2 5 c1.b_::ai 0 g3 23 i3::i5::ai 0 g4 3 c1.bf::pt d6 (bg.enc (kg d2 g0 g1 d7)) 36::pt d8 [.pointer (some ⟨c9,0,none⟩)] 115::pt d3 (bg.enc (kg x1 s7 s9 fe)) 36::pt g7 (bh.enc (bh.mk x0.lo x0.hi s1 s3 s5)) 27::.obj c3.d qd::ai 0 c5 5 c0.ae.data::ai 0 c6 205 c0.ae.sizes::ai 0 c7 101 c0.code::ai 0 c8 3 c0.dq::.obj c4 (jc c0.cg)::Lr)) G E E E H (i:=22) E m1 l9 m0 E E ?_) fun v w hR=>?_)
     ·have G:=va.fr (va.put (d:=27) (v:=.int .i64 d4.2) (va.put (d:=26) (v:=.agg (ay.enc (il d4.1 n3 n4 n5)).toArray) t9 rfl) rfl) []
      refine go 2 fun a w G H=>?_
      refine aN G E E E (bI z54 (zs:=ay.zero.enc) E E fun u2 w d65 G2=>?_)
      have H:=H.plus G2
      try dsimp only[List.set]at H
      intro a G
      refine go 7 fun a w G H=>?_
      refine pP H (i:=23) E fun w H=>?_
      try dsimp only[List.set]at H
      refine go 18 fun a w G H=>?_
      refine sO (a:=a) H (i:=23) E fun w H=>?_
      try dsimp only[List.set]at H
      obtain rfl:=oI I
      exact⟨(k2,d4.2),E,E,bU H [20,19,23,1,2,3,4,5,6,7,8,9,10,11,12,13,14,15,16,17,18,21,22,24,25,26,27,28,29] 30 E⟩
     obtain⟨d82,rfl,hR⟩:=hR
     rcases d82 with⟨BQ,BR⟩
     obtain⟨rfl,H⟩:=hR
     replace I:Sh.H8 k2 k7 k8 j0 k9 l0 l1 l2 l3 BQ BR=_:=d85
     unfold Sh.H8 at I
     intro a G
     refine go 3 fun a w G H=>?_
     obtain rfl:=oI I
     have I:=Ol _ rfl
     subst I
     have I:=bB TV
     subst I
     refine vH uw G ?_
     exact⟨(inl (BQ,BR,k2,k7,k8,j0,k9,l0,l1,l2,l3)),E,j9,k0,i4,k1,E,TK,bU H [0,1,7,8,9,10,11,12,2,23,19,20,24,25,26,27,28,21,22] 29 E⟩
    refine go 8 fun a w G H=>?_
    exact jr I ⟨n3,n4,c93,TN,n5,j9,k0,i4,k1,d73,TK,G.t,bU H [11,0,1,2,3,4,5,6,7,8,9,16,17,18,19,20,21,22,23,24,25,26,27,28] 29 E⟩
   refine go 5 fun a w G H=>?_
   obtain rfl:=oI I
   have I:=Ol _ rfl
   subst I
   exact⟨(c1,i1,c12,zi,k5,Aj,Ak,c16,AE,AG),E,g2,g3,i3,i5,g4,m3,m4,i7,m5,G3,G4,G.to ⟨E,E,trivial⟩,H⟩
  rintro⟨c2,i2,KF,KG,p4,KH,NC,c85,ND,c87⟩ a w I ⟨g8,g9,i6,j8,i0,u3,u4,j3,u5,d69,d10,G,H⟩
  replace I:Sh.Ib c0 c2 i2 KF KG p4 KH NC c85 ND c87=_:=I
  unfold Sh.Ib at I
  refine go 4 fun a w G H=>?_
  obtain⟨d91,I,TT⟩:=cJ I
  refine aN G E E E (Yd.mono (uG (rc:=c3) (vs:=[.agg (ay.enc (il c2 g8 g9 i0)).toArray,.int .i64 0]) (ps:=[26,27]) (J:=fun v w=>∃ x,d91 = .inl x∧match x with|(.inl (c31,c32,BS,c34,l4,CG,BU,c37,BV,BW))=>∃ (z2:SV) (z3:SV) (j5:List SV) (z4:SV),v = .bool false∧bw (cn (X:=UInt8) (a_ j5 l4).holds') j5 l4∧au w (pt d0 [.int .i64 c31] 3::pt d1 [.int .i64 c32] 34::pt c9 (af.enc (af.mk (bu.mk BS z2 z3 c5 c6) c7 c8 (some c4) CG z4 c37 BV BW)) 203::ai 0 z2 5 c34::ai 0 z3 23 j5::(a_ j5 l4)::ai 0 z4 3 BU::kx c3 .done (some .ret)::pt g6 (ay.enc (il c2 g8 g9 i0)) 54::ai 0 g8 5 c2.b_::ai 0 g9 23 i6::j8::ai 0 i0 3 c2.bf::pt d9 [.int .i64 i2] 3::pt d6 (bg.enc (kg d2 g0 g1 d7)) 36::pt d8 [.pointer (some ⟨c9,0,none⟩)] 115::pt d3 (bg.enc (kg x1 s7 s9 fe)) 36::pt g7 (bh.enc (bh.mk x0.lo x0.hi s1 s3 s5)) 27::.obj c3.d qd::ai 0 c5 5 c0.ae.data::ai 0 c6 205 c0.ae.sizes::ai 0 c7 101 c0.code::ai 0 c8 3 c0.dq::.obj c4 (jc c0.cg)::Lr)|(.inr (c40,Es,Et,l5,Eu,Ew,EO,c46,EP))=>∃ (z5:SV) (z6:SV) (j6:List SV) (z7:SV),v = .bool true∧bw (cn (X:=UInt8) (a_ j6 l5).holds') j6 l5∧au w (pt d9 [.int .i64 c40] 3::pt c9 (af.enc (af.mk (bu.mk Es z5 z6 c5 c6) c7 c8 (some c4) Eu z7 EO c46 EP)) 203::ai 0 z5 5 Et::ai 0 z6 23 j6::(a_ j6 l5)::ai 0 z7 3 Ew::pt g6 (ay.enc (il c2 g8 g9 i0)) 54::ai 0 g8 5 c2.b_::ai 0 g9 23 i6::j8::ai 0 i0 3 c2.bf::pt d6 (bg.enc (kg d2 g0 g1 d7)) 36::pt d8 [.pointer (some ⟨c9,0,none⟩)] 115::pt d1 [.int .i64 0] 34::pt d0 [.int .i64 0] 3::pt d3 (bg.enc (kg x1 s7 s9 fe)) 36::pt g7 (bh.enc (bh.mk x0.lo x0.hi s1 s3 s5)) 27::kx c3 .ready none::.obj c3.d qd::ai 0 c5 5 c0.ae.data::ai 0 c6 205 c0.ae.sizes::ai 0 c7 101 c0.code::ai 0 c8 3 c0.dq::.obj c4 (jc c0.cg)::Lr)) G E E E H (i:=17) E m1 l9 m0 E E ?_) fun v w hR=>?_)
  ·have G:=va.fr (va.put (d:=27) (v:=.int .i64 0) (va.put (d:=26) (v:=.agg (ay.enc (il c2 g8 g9 i0)).toArray) t9 rfl) rfl) []
   refine go 10 fun u2 a w G H=>?_
   refine pP H (i:=18) E fun w H=>?_
   try dsimp only[List.set]at H
   refine go 13 fun a w G H=>?_
   refine aM G H I (fun F x a w=>match x with|(t2,t3,k4,t4,t5,t6,t7,t8,NG)=>∃ (n6:SV) (n7:SV) (i9:List SV) (n8:SV),bw (cn (X:=UInt8) (a_ i9 k4).holds') i9 k4∧Fr 75 [(45,.bool NG),(4,.pointer (some ⟨d0,0,none⟩)),(5,.pointer (some ⟨d1,0,none⟩)),(7,.pointer (some ⟨d9,0,none⟩))] a∧au w (pt c9 (af.enc (af.mk (bu.mk t2 n6 n7 c5 c6) c7 c8 (some c4) t4 n8 t6 t7 t8)) 203::ai 0 n6 5 t3::ai 0 n7 23 i9::(a_ i9 k4)::ai 0 n8 3 t5::pt g6 (ay.enc (il c2 g8 g9 i0)) 54::pt d9 [.int .i64 i2] 3::pt d6 (bg.enc (kg d2 g0 g1 d7)) 36::pt d8 [.pointer (some ⟨c9,0,none⟩)] 115::pt d1 [.int .i64 0] 34::pt d0 [.int .i64 0] 3::pt d3 (bg.enc (kg x1 s7 s9 fe)) 36::pt g7 (bh.enc (bh.mk x0.lo x0.hi s1 s3 s5)) 27::ai 0 g8 5 c2.b_::ai 0 g9 23 i6::j8::ai 0 i0 3 c2.bf::kx c3 .busy none::.obj c3.d qd::ai 0 c5 5 c0.ae.data::ai 0 c6 205 c0.ae.sizes::ai 0 c7 101 c0.code::ai 0 c8 3 c0.dq::.obj c4 (jc c0.cg)::Lr)) (fun g33 I g28 G H=>?_) ?_
   ·refine dT H [0,1,2,3,4,5,6,7,8,9,10,11,12,13,14,15,16,17,18,19,20,21,22,23,24] 25 fun K=>?_
    refine fc [0,1,2] fun a G=>?_
    refine gs I (fun Oe I=>?_) fun Oe I=>?_
    ·refine fc [3] fun a G=>?_
     refine bJ K 4 ads E E ?_
     refine kF G 4 E E E E E Oe E E fun w eX H=>?_
     obtain⟨j2,d44,I⟩:=adu I
     have d34:=eK d44 (bU H [7,8,9,10,11,0,1,2,3,4,5,6,12,13,14,15,16,17,18,19,20,21,22,23,24] 25 rfl) (fun _ h=>h) d10 (fun w H=>(H.rowS (X:=UInt8) (i:=15) rfl)) (fun w H=>(H.rowS (X:=gG) (i:=16) rfl)) (fun w H=>(H.rowS (X:=b9) (i:=17) rfl)) (fun w H=>(H.rowS (X:=Int) (i:=18) rfl)) (fun w H=>H.hold 19 _ rfl)
     refine dl B9 d34 ?_
     rintro v w ⟨z8,z9,u1,c10,rfl,IQ,H⟩
     replace H:au _ (pt c9 (af.enc (gx j2.2 z8 z9 c5 c6 c7 c8 c4 c10)) 203::ai 0 z8 5 j2.2.ae.b_::ai 0 z9 23 u1::(a_ u1 j2.2.ae.ah)::ai 0 c10 3 j2.2.bf::pt u2 (ay.enc (il c2 g8 g9 i0)) 54::pt g6 (ay.enc (il c2 g8 g9 i0)) 54::ai 0 g8 5 c2.b_::ai 0 g9 23 i6::j8::ai 0 i0 3 c2.bf::pt d9 [.int .i64 i2] 3::pt d6 (bg.enc (kg d2 g0 g1 d7)) 36::pt d8 [.pointer (some ⟨c9,0,none⟩)] 115::pt d1 [.int .i64 0] 34::pt d0 [.int .i64 0] 3::pt d3 (bg.enc (kg x1 s7 s9 fe)) 36::pt g7 (bh.enc (bh.mk x0.lo x0.hi s1 s3 s5)) 27::kx c3 .busy none::.obj c3.d qd::ai 0 c5 5 c0.ae.data::ai 0 c6 205 c0.ae.sizes::ai 0 c7 101 c0.code::ai 0 c8 3 c0.dq::.obj c4 (jc c0.cg)::Lr):=H
     refine dh fun a G=>?_
     refine fc [5,6] fun a G=>?_
     refine gs I (fun c49 I=>?_) fun c49 I=>?_
     ·refine fc [7,8,9,10,11,12,13] fun a G=>?_
      refine de fun w H=>?_
      refine aB ?_
      exact jr I ⟨z8,z9,u1,c10,IQ,G.t,bU H [0,1,2,3,4,6,11,12,13,14,15,16,17,7,8,9,10,18,19,20,21,22,23,24] 25 E⟩
     refine fc [7,8] fun a G=>?_
     refine bJ K 9 ads E E ?_
     refine kF G 9 E E E E E c49 E E fun w eX H=>?_
     obtain⟨g25,d45,I⟩:=adu I
     have d35:=eG d45 H (fun _ h=>h) IQ (fun w H=>(H.rowS (X:=UInt8) (i:=15) rfl)) (fun w H=>(H.rowS (X:=gG) (i:=16) rfl)) (fun w H=>(H.rowS (X:=b9) (i:=17) rfl)) (fun w H=>(H.rowS (X:=Int) (i:=18) rfl)) (fun w H=>H.hold 19 _ rfl)
     refine dl B_ d35 ?_
     rintro v w ⟨g19,g20,d96,g21,rfl,d76,H⟩
     refine ds [0,1,2,3,4,5,6,7,8,9,10,11,12,13,14,15,16,17,18,19,20,21,22,23,24,25,26,27,28] 29 fun a G=>?_
     refine bJ K 10 ads E E ?_
     refine kF G 10 E E E E E c49 E E fun w eX H=>?_
     obtain⟨g26,d46,I⟩:=adu I
     have d36:=qF d46 H (fun _ h=>h) (fun w H=>(H.rowS (X:=UInt8) (i:=11) rfl)) (fun w H=>(H.rowS (X:=SV) (i:=12) rfl)) (d69.mono fun _ _ q=>q.mono fun w H=>H.hold 13 _ rfl) (fun w H=>(H.rowS (X:=Int) (i:=14) rfl)) (fun w H=>(H.rowS (X:=UInt8) (i:=0) rfl)) (fun w H=>(H.rowS (X:=SV) (i:=1) rfl)) (d76.mono fun _ _ q=>q.mono fun w H=>H.hold 2 _ rfl) (fun w H=>(H.rowS (X:=Int) (i:=3) rfl))
     refine dl Tryz.call95 d36 ?_
     rintro v w ⟨rfl,H⟩
     refine ds [0,1,2,3,4,5,6,7,8,9,10,11,12,13,14,15,16,17,18,19,20,21,22,23,24,25,26,27,28] 29 fun a G=>?_
     refine fc [11,12,13] fun a G=>?_
     refine de fun w H=>?_
     refine aB ?_
     exact jr I ⟨z8,z9,u1,c10,IQ,G.t,bU H [4,5,6,7,8,10,15,16,17,18,19,20,21,11,12,13,14,22,23,24,25,26,27,28] 29 E⟩
    refine fc [3,4,5,6,7,8,9,10,11,12,13] fun a G=>?_
    refine de fun w H=>?_
    refine aB ?_
    exact jr I ⟨u3,u4,j3,u5,d10,G.t,bU H [7,8,9,10,11,1,6,12,13,14,15,16,17,2,3,4,5,18,19,20,21,22,23,24] 25 E⟩
   rintro⟨t2,t3,k4,t4,t5,t6,t7,t8,NG⟩ a w I ⟨n6,n7,i9,n8,TM,G,H⟩
   replace I:Sh.Ju i2 t2 t3 k4 t4 t5 t6 t7 t8 NG=_:=I
   unfold Sh.Ju at I
   refine aB ?_
   refine cc I (fun d26 I=>?_) fun d26 I=>?_
   ·refine go 8 fun a w G H=>?_
    refine sO (a:=a) H (i:=17) E fun w H=>?_
    try dsimp only[List.set]at H
    obtain rfl:=oI I
    exact⟨(inl (i2,232,t2,t3,k4,t4,t5,t6,t7,t8)),E,n6,n7,i9,n8,E,TM,bU H [10,9,0,1,2,3,4,17,5,13,14,15,16,6,7,8,11,12,18,19,20,21,22,23] 24 E⟩
   refine go 8 fun a w G H=>?_
   refine tU H (i:=17) E fun w H=>?_
   try dsimp only[List.set]at H
   obtain rfl:=oI I
   exact⟨(inr ((IntKind.i64.wrap (i2+1)),t2,t3,k4,t4,t5,t6,t7,t8)),E,n6,n7,i9,n8,E,TM,bU H [6,0,1,2,3,4,5,13,14,15,16,7,8,9,10,11,12,17,18,19,20,21,22,23] 24 E⟩
  obtain⟨d83,rfl,hR⟩:=hR
  rcases d83 with⟨c31,c32,BS,c34,l4,CG,BU,c37,BV,BW⟩|⟨c40,Es,Et,l5,Eu,Ew,EO,c46,EP⟩
  ·obtain⟨z2,z3,j5,z4,rfl,d74,H⟩:=hR
   replace I:Sh.aBl i2 c31 c32 BS c34 l4 CG BU c37 BV BW=_:=TT
   unfold Sh.aBl at I
   intro a G
   refine aJ ?_
   obtain rfl:=oI I
   refine eT uw G ?_
   exact⟨(inl (c31,c32,i2,BS,c34,l4,CG,BU,c37,BV,BW)),E,z2,z3,j5,z4,E,d74,bU H [0,1,13,2,3,4,5,6,7,18,14,15,19,20,21,22,23,16,17] 24 E⟩
  obtain⟨z5,z6,j6,z7,rfl,d75,H⟩:=hR
  replace I:Sh.Jt c40 Es Et l5 Eu Ew EO c46 EP=_:=TT
  unfold Sh.Jt at I
  intro a G
  refine aJ ?_
  obtain rfl:=oI I
  refine eT uw G ?_
  exact⟨(inr (c40,Es,Et,l5,Eu,Ew,EO,c46,EP)),E,z5,z6,j6,z7,E,d75,bU H [0,1,2,3,4,5,17,18,11,12,19,20,21,22,23,13,14,15,16] 24 E⟩
 obtain⟨d84,rfl,hR⟩:=hR
 rcases d84 with⟨G5,Ku,Kv,Kw,Kx,p2,Ky,c70,Kz,c72,KA⟩|⟨c11,KB,c75,p3,c76,KC,KD,KE,c80⟩
 ·obtain⟨IU,c59,l7,IV,rfl,g14,H⟩:=hR
  replace I:Sh.H9 G5 Ku Kv Kw Kx p2 Ky c70 Kz c72 KA=_:=TU
  unfold Sh.H9 at I
  refine Ih (f_ H [8,0,1,2,3,4,5,6,7,9,10,11,12,13,14,15,16,17,18] 19) fun a w G H=>?_
  try dsimp only[List.set]at H
  obtain rfl:=oI I
  refine wF G ?_
  refine mN H (i:=8) E fun w H=>?_
  refine nT (Jq (rs:=[.cell 4 3,.cell 5 34]) Ce (gW G E vh (H.cell (i:=0) E E) (gW G E DL (H.cell (i:=1) E E) dF)) E ?_)
  exact⟨E,bU H [] 18 E⟩
 obtain⟨IW,Ks,l8,Kt,rfl,d67,H⟩:=hR
 replace I:Sh.pT x1 c0 c11 KB c75 p3 c76 KC KD KE c80=_:=TU
 unfold Sh.pT at I
 refine RP (f_ H [6,0,1,2,3,4,5,7,8,9,10,11,12,13,14,15,16,17,18] 19) fun a w G H=>?_
 try dsimp only[List.set]at H
 refine go 5 fun a w G H=>?_
 obtain⟨d5,d47,I⟩:=adu I
 have d37:=zU d47 (bU H [1,2,3,4,5,0,6,7,8,9,10,11,12,13,14,15,16,17] 18 rfl) (fun _ h=>h) d67 (fun w H=>(H.rowS (X:=UInt8) (i:=4) rfl)) (fun w H=>(H.rowS (X:=gG) (i:=5) rfl)) (fun w H=>(H.rowS (X:=b9) (i:=6) rfl)) (fun w H=>(H.rowS (X:=Int) (i:=7) rfl)) (fun w H=>H.hold 8 _ rfl)
 refine cl Tryz.call96 d37 ?_
 rintro v w ⟨n9,p0,j7,p1,rfl,g15,H⟩ a G
 replace H:au _ (pt c9 (af.enc (gx d5.2 n9 p0 c5 c6 c7 c8 c4 p1)) 203::ai 0 n9 5 d5.2.ae.b_::ai 0 p0 23 j7::(a_ j7 d5.2.ae.ah)::ai 0 p1 3 d5.2.bf::pt d9 [.int .i64 c11] 3::.obj c3.d qd::pt d6 (bg.enc (kg d2 g0 g1 d7)) 36::pt d8 [.pointer (some ⟨c9,0,none⟩)] 115::ai 0 c5 5 c0.ae.data::ai 0 c6 205 c0.ae.sizes::ai 0 c7 101 c0.code::ai 0 c8 3 c0.dq::.obj c4 (jc c0.cg)::pt d1 [.int .i64 0] 34::pt d0 [.int .i64 0] 3::pt d3 (bg.enc (kg x1 s7 s9 fe)) 36::pt g7 (bh.enc (bh.mk x0.lo x0.hi s1 s3 s5)) 27::Lr):=H
 refine go 4 fun a w G H=>?_
 refine aM G H I (fun F x a w=>match x with|NH=>Fr 75 [(3,.pointer (some ⟨d3,0,none⟩)),(4,.pointer (some ⟨d0,0,none⟩)),(5,.pointer (some ⟨d1,0,none⟩))] a [Fx.mark c3.d]∧au w (pt d1 [.int .i64 NH] 34::pt d0 [.int .i64 0] 3::pt d3 (bg.enc (kg x1 s7 s9 fe)) 36::ai 0 n9 5 d5.2.ae.b_::ai 0 p0 23 j7::(a_ j7 d5.2.ae.ah)::ai 0 p1 3 d5.2.bf::.obj c3.d qd::ai 0 c5 5 c0.ae.data::ai 0 c6 205 c0.ae.sizes::ai 0 c7 101 c0.code::ai 0 c8 3 c0.dq::.obj c4 (jc c0.cg)::Lr)) (fun g34 I g29 G H=>?_) ?_
 ·refine aH ?_
  refine aM G H I (fun F x a w=>match x with|TQ=>Fr 75 [(58,.bool TQ),(3,.pointer (some ⟨d3,0,none⟩)),(4,.pointer (some ⟨d0,0,none⟩)),(5,.pointer (some ⟨d1,0,none⟩))] a [Fx.mark c3.d]∧au w (pt c9 (af.enc (gx d5.2 n9 p0 c5 c6 c7 c8 c4 p1)) 203::pt d1 [.int .i64 d5.1] 34::pt d0 [.int .i64 0] 3::pt d3 (bg.enc (kg x1 s7 s9 fe)) 36::ai 0 n9 5 d5.2.ae.b_::ai 0 p0 23 j7::(a_ j7 d5.2.ae.ah)::ai 0 p1 3 d5.2.bf::.obj c3.d qd::ai 0 c5 5 c0.ae.data::ai 0 c6 205 c0.ae.sizes::ai 0 c7 101 c0.code::ai 0 c8 3 c0.dq::.obj c4 (jc c0.cg)::Lr)) (fun g35 I g30 G H=>?_) ?_
  ·refine go 4 fun a w G H=>?_
   refine gs I (fun d27 I=>?_) fun d27 I=>?_
   ·refine go 7 fun a w G H=>?_
    exact jr I ⟨G.t,bU H [0,14,15,16,1,2,3,4,6,9,10,11,12,13] 18 E⟩
   refine go 7 fun a w G H=>?_
   exact jr I ⟨G.t,bU H [0,14,15,16,1,2,3,4,6,9,10,11,12,13] 18 E⟩
  rintro TQ a w I ⟨G,H⟩
  unfold Sh.aBq at I
  exact lf
 rintro NH a w I ⟨G,H⟩
 unfold Sh.pU at I
 refine go 3 fun a w G H=>?_
 refine aM G H I (fun F x a w=>match x with|TR=>Fr 75 [(71,.bool TR),(3,.pointer (some ⟨d3,0,none⟩)),(4,.pointer (some ⟨d0,0,none⟩)),(5,.pointer (some ⟨d1,0,none⟩))] a [Fx.mark c3.d]∧au w (pt d1 [.int .i64 NH] 34::pt d0 [.int .i64 0] 3::pt d3 (bg.enc (kg x1 s7 s9 fe)) 36::.obj c3.d qd::Lr)) (fun g36 I g31 G H=>?_) ?_
 ·exact lf
 rintro TR a w I ⟨G,H⟩
 unfold Sh.JF at I
 refine aB ?_
 refine cc I (fun d28 I=>?_) fun d28 I=>?_
 ·refine go 10 fun a w G H=>?_
  obtain rfl:=oI I
  refine wF G ?_
  refine mN H (i:=3) E fun w H=>?_
  refine nT (Jq (rs:=[.cell 4 3,.cell 5 34]) Ce (gW G E vh (H.cell (i:=1) E E) (gW G E DL (H.cell (i:=0) E E) dF)) E ?_)
  exact⟨E,bU H [] 4 E⟩
 refine go 9 fun a w G H=>?_
 obtain rfl:=oI I
 refine wF G ?_
 refine mN H (i:=3) E fun w H=>?_
 refine nT (Jq (rs:=[.cell 4 3,.cell 5 34]) Ce (gW G E vh (H.cell (i:=1) E E) (gW G E DL (H.cell (i:=0) E E) dF)) E ?_)
 exact⟨E,bU H [] 4 E⟩
end Go.Proofs
end
section
namespace Go.Proofs
open Go.Fw Go.Fx
set_option maxRecDepth 10000
theorem VM{x0:fh}{x1:fj}{x2 x3:Int}{s1 s3 s5 s7 s9:SV}{q_:List SV}{out:Bool}{w0:World}{Bf:World→Prop}{Lr:List dw}(I:Sh.sC x0 x1 x2 x3=some out)(H:au w0 (Lr))(S:∀ w,au w Lr→Bf w)(f2:cn Bf s1 x0.data)(f4:cn Bf s3 x0.ah)(f6:cn Bf s5 x0.code)(f8:cn Bf s7 x1.b_)(f11:cn Bf s9 q_)(Bo:bw (cn (X:=UInt8) Bf) q_ x1.ah):Calls Tryz.prog 21 #[.agg (bh.enc (bh.mk x0.lo x0.hi s1 s3 s5)).toArray,.agg (br.enc (br.mk s7 s9)).toArray,.int .i64 x2,.int .i64 x3] w0 (gf fun v w'=>v = .bool out∧au w' (Lr)):=by
 unfold Sh.sC at I
 refine ce Tryz.func21 Tryz.ntmps21 fun a G=>?_
 refine go 10 fun c8 c9 a w G H=>?_
 obtain⟨KF,Aj,I⟩:=adu I
 have z5:=gJ Aj H 
 refine cl Tryz.call22 z5 ?_
 rintro v w ⟨rfl,H⟩ a G
 refine go 3 fun a w G H=>?_
 refine cc I (fun u4 I=>?_) fun u4 I=>?_
 ·exact lf
 refine go 7 fun a w G H=>?_
 obtain⟨c1,Ak,I⟩:=adu I
 have z6:=yP Ak H (Bf:=Bf) (tb S) f2 f4 f6 f8 f11 Bo
 refine cl Tryz.call25 z6 ?_
 rintro v w ⟨c5,c6,c2,c7,d0,d2,rfl,m9,g0,H⟩ a G
 refine go 12 fun c3 a w G H=>?_
 obtain⟨c75,I,k8⟩:=cJ I
 refine aN G E E E (aS (xs:=[.tmp 30,.tmp 31]) Tryz.call65 G E E (kZ I H (Bf:=Bf) (fun w H=>S _ (dZ H 8)) f2 f4 f6 f8 f11 Bo) fun v w hR=>?_)
 obtain⟨Eu,rfl,hR⟩:=hR
 rcases Eu with⟨⟩|⟨⟩|c0
 ·obtain⟨rfl,H⟩:=hR
  replace I:Sh.uQ c1=_:=k8
  unfold Sh.uQ at I
  intro a G
  refine go 9 fun a w G H=>?_
  refine aM G H I (fun F x a w=>match x with|_=>Fr 170 [(41,.bool true),(10,.int .i64 c1.2),(11,.pointer none),(12,.int .i64 1),(2,.int .i64 x2),(3,.int .i64 x3),(4,.pointer (some ⟨c8,0,none⟩)),(5,.pointer (some ⟨c9,0,none⟩)),(8,.bool false),(9,.pointer (some ⟨c3,0,none⟩))] a∧au w (pt c3 (bg.enc (kg c1.1 c5 c6 c7)) 36::pt c9 (br.enc (br.mk s7 s9)) 30::pt c8 (bh.enc (bh.mk x0.lo x0.hi s1 s3 s5)) 27::ai 0 c5 5 c1.1.iz.b_::ai 0 c6 23 c2::(a_ c2 c1.1.iz.ah)::ai 0 c7 60 d0::d2::Lr)) (fun c76 I G3 G H=>?_) ?_
  ·refine go 5 fun a w G H=>?_
   refine gs I (fun u5 I=>?_) fun u5 I=>?_
   ·refine go 5 fun a w G H=>?_
    exact jr I ⟨G.t,bU H [0,6,7,1,2,3,4,5] 8 E⟩
   refine go 5 fun a w G H=>?_
   exact jr I ⟨G.t,bU H [0,6,7,1,2,3,4,5] 8 E⟩
  rintro⟨⟩ a w I ⟨G,H⟩
  replace I:Sh.uS c1=_:=I
  unfold Sh.uS at I
  refine go 3 fun a w G H=>?_
  refine jm (pt c3 (bg.enc (kg c1.1 c5 c6 c7)) 36::pt c9 (br.enc (br.mk s7 s9)) 30::pt c8 (bh.enc (bh.mk x0.lo x0.hi s1 s3 s5)) 27::ai 0 c5 5 c1.1.iz.b_::ai 0 c6 23 c2::(a_ c2 c1.1.iz.ah)::ai 0 c7 60 d0::d2::Lr) G H I [11,2,3,4,5,9] (fun n0 u=>(8,.bool n0)::u) (fun KC I G4 G H=>?_) fun n0 a w I G H=>?_
  ·exact lf
  replace I:Sh.uT n0=_:=I
  unfold Sh.uT at I
  exact lf
 ·obtain⟨rfl,H⟩:=hR
  replace I:Sh.uR c1=_:=k8
  unfold Sh.uR at I
  intro a G
  refine go 9 fun a w G H=>?_
  refine aM G H I (fun F x a w=>match x with|_=>Fr 170 [(41,.bool true),(10,.int .i64 c1.2),(11,.pointer none),(12,.int .i64 3),(2,.int .i64 x2),(3,.int .i64 x3),(4,.pointer (some ⟨c8,0,none⟩)),(5,.pointer (some ⟨c9,0,none⟩)),(8,.bool false),(9,.pointer (some ⟨c3,0,none⟩))] a∧au w (pt c3 (bg.enc (kg c1.1 c5 c6 c7)) 36::pt c9 (br.enc (br.mk s7 s9)) 30::pt c8 (bh.enc (bh.mk x0.lo x0.hi s1 s3 s5)) 27::ai 0 c5 5 c1.1.iz.b_::ai 0 c6 23 c2::(a_ c2 c1.1.iz.ah)::ai 0 c7 60 d0::d2::Lr)) (fun KD I IP G H=>?_) ?_
  ·refine go 5 fun a w G H=>?_
   refine gs I (fun u6 I=>?_) fun u6 I=>?_
   ·refine go 5 fun a w G H=>?_
    exact jr I ⟨G.t,bU H [0,6,7,1,2,3,4,5] 8 E⟩
   refine go 5 fun a w G H=>?_
   exact jr I ⟨G.t,bU H [0,6,7,1,2,3,4,5] 8 E⟩
  rintro⟨⟩ a w I ⟨G,H⟩
  replace I:Sh.uU c1=_:=I
  unfold Sh.uU at I
  refine go 3 fun a w G H=>?_
  refine jm (pt c3 (bg.enc (kg c1.1 c5 c6 c7)) 36::pt c9 (br.enc (br.mk s7 s9)) 30::pt c8 (bh.enc (bh.mk x0.lo x0.hi s1 s3 s5)) 27::ai 0 c5 5 c1.1.iz.b_::ai 0 c6 23 c2::(a_ c2 c1.1.iz.ah)::ai 0 c7 60 d0::d2::Lr) G H I [11,2,3,4,5,9] (fun n1 u=>(8,.bool n1)::u) (fun KE I IQ G H=>?_) fun n1 a w I G H=>?_
  ·exact lf
  replace I:Sh.uV n1=_:=I
  unfold Sh.uV at I
  exact lf
 obtain⟨g4,i0,i1,g2,d5,d6,d7,d8,d4,i2,rfl,CG,H⟩:=hR
 replace I:Sh.kH x0 x1 x2 x3 c1 c0=_:=k8
 unfold Sh.kH at I
 intro a G
 refine go 9 fun a w G H=>?_
 refine jm (pt g4 (af.enc (gx c0 i0 i1 d5 d6 d7 d8 d4 i2)) 203::pt c3 (bg.enc (kg c1.1 c5 c6 c7)) 36::pt c9 (br.enc (br.mk s7 s9)) 30::pt c8 (bh.enc (bh.mk x0.lo x0.hi s1 s3 s5)) 27::ai 0 i0 5 c0.ae.b_::ai 0 i1 23 g2::(a_ g2 c0.ae.ah)::ai 0 d5 5 c0.ae.data::ai 0 d6 205 c0.ae.sizes::ai 0 d7 101 c0.code::ai 0 d8 3 c0.dq::.obj d4 (jc c0.cg)::ai 0 i2 3 c0.bf::ai 0 c5 5 c1.1.iz.b_::ai 0 c6 23 c2::(a_ c2 c1.1.iz.ah)::ai 0 c7 60 d0::d2::Lr) G H I [10,11,12,2,3,4,5,8,9] (fun n2 u=>(41,.bool n2)::u) (fun c80 I IU G H=>?_) fun n2 a w I G H=>?_
 ·refine go 5 fun a w G H=>?_
  refine gs I (fun u7 I=>?_) fun u7 I=>?_
  ·refine go 5 fun a w G H=>?_
   exact jr I ⟨G.t,bU H [0,10,16,17,1,2,3,4,5,6,7,8,9,11,12,13,14,15] 18 E⟩
  refine go 5 fun a w G H=>?_
  exact jr I ⟨G.t,bU H [0,10,16,17,1,2,3,4,5,6,7,8,9,11,12,13,14,15] 18 E⟩
 replace I:Sh.kI x0 x1 x2 x3 c1 c0 n2=_:=I
 unfold Sh.kI at I
 refine aB ?_
 refine cc I (fun u8 I=>?_) fun u8 I=>?_
 ·refine aH ?_
  refine jm (pt g4 (af.enc (gx c0 i0 i1 d5 d6 d7 d8 d4 i2)) 203::pt c3 (bg.enc (kg c1.1 c5 c6 c7)) 36::pt c9 (br.enc (br.mk s7 s9)) 30::pt c8 (bh.enc (bh.mk x0.lo x0.hi s1 s3 s5)) 27::ai 0 i0 5 c0.ae.b_::ai 0 i1 23 g2::(a_ g2 c0.ae.ah)::ai 0 d5 5 c0.ae.data::ai 0 d6 205 c0.ae.sizes::ai 0 d7 101 c0.code::ai 0 d8 3 c0.dq::.obj d4 (jc c0.cg)::ai 0 i2 3 c0.bf::ai 0 c5 5 c1.1.iz.b_::ai 0 c6 23 c2::(a_ c2 c1.1.iz.ah)::ai 0 c7 60 d0::d2::Lr) G H I [11,2,3,4,5,9] (fun n3 u=>(8,.bool n3)::u) (fun IV I EO G H=>?_) fun n3 a w I G H=>?_
  ·refine go 5 fun a w G H=>?_
   refine gs I (fun n7 I=>?_) fun n7 I=>?_
   ·refine go 2 fun a w G H=>?_
    refine aP G E E E n7 (dR (H.rowS (X:=bS) (i:=16) E) g0.len rh G E E) E E fun a G=>?_
    exact lf
   exact lf
  replace I:Sh.sF n3=_:=I
  unfold Sh.sF at I
  exact lf
 refine go 6 fun a w G H=>?_
 obtain⟨KG,c16,I⟩:=adu I
 have z7:=oL c16 H (fun _ h=>h) (fun w H=>(f2 _ (S _ (dZ H 18)))) (fun w H=>(f4 _ (S _ (dZ H 18)))) (fun w H=>(f6 _ (S _ (dZ H 18)))) (fun w H=>(H.rowS (X:=UInt8) (i:=13) rfl)) (fun w H=>(H.rowS (X:=SV) (i:=14) rfl)) (m9.mono fun _ _ q=>q.mono fun w H=>H.hold 15 _ rfl) (fun w H=>(H.rowS (X:=bS) (i:=16) rfl)) (g0.mono fun _ _ q=>q.mono fun w H=>H.hold 17 _ rfl)
 refine cl Tryz.call39 z7 ?_
 rintro v w ⟨rfl,H⟩ a G
 refine go 9 fun a w G H=>?_
 refine jn G H I [11,2,3,4,5,8,9] (fun n4 u=>(75,.bool n4)::u) (fun IW I c46 G H=>?_) fun n4 a w I G H=>?_
 ·refine go 4 fun a w G H=>?_
  refine gs I (fun u9 I=>?_) fun u9 I=>?_
  ·exact lf
  refine go 4 fun a w G H=>?_
  refine gs I (fun n8 I=>?_) fun n8 I=>?_
  ·exact lf
  refine go 2 fun a w G H=>?_
  refine aP G E E E n8 (dR (H.rowS (X:=bS) (i:=16) E) g0.len rh G E E) E E fun a G=>?_
  refine go 3 fun a w G H=>?_
  refine gs I (fun n9 I=>?_) fun n9 I=>?_
  ·refine go 2 fun a w G H=>?_
   refine aP G E E E n9 (dR (H.rowS (X:=bS) (i:=16) E) g0.len rh G E E) E E fun a G=>?_
   exact lf
  exact lf
 replace I:Sh.iL x0 x1 x2 x3 c1 c0 n4=_:=I
 unfold Sh.iL at I
 refine aB ?_
 refine cc I (fun z0 I=>?_) fun z0 I=>?_
 ·exact lf
 refine go 3 fun a w G H=>?_
 refine jn G H I [11,2,4,5,8,9] (fun g5 u=>(3,.int .i64 g5)::u) (fun Ks I EP G H=>?_) fun g5 a w I G H=>?_
 ·refine go 4 fun a w G H=>?_
  refine aA G (dR (H.rowS (X:=bS) (i:=16) E) g0.len rh G E E) E E E fun a G=>?_
  refine go 3 fun a w G H=>?_
  refine cc I (fun z1 I=>?_) fun z1 I=>?_
  ·refine dT H [0,1,2,3,4,5,6,7,8,9,10,11,12,13,14,15,16,17] 18 fun K=>?_
   refine fc [0,1,2] fun a G=>?_
   refine aK G K 3 E ads E E E (fun w H=>(dR (H.rowS (X:=bS) (i:=16) E) g0.len rh G E E)) fun a G=>?_
   refine fc [4] fun a G=>?_
   obtain⟨z8,I⟩:=bE I
   refine aK G K 5 E ads E E E (fun w H=>(mQ G E E E (abe z8))) fun a G=>?_
   refine fc [6,7] fun a G=>?_
   refine aK G K 8 E ads E E E (fun w H=>(dR (H.rowS (X:=bS) (i:=16) E) g0.len rh G E E)) fun a G=>?_
   refine fc [9,10,11,12] fun a G=>?_
   refine aK G K 13 E ads E E E (fun w H=>(dR (H.rowS (X:=bS) (i:=16) E) g0.len rh G E E)) fun a G=>?_
   refine fc [14] fun a G=>?_
   obtain⟨z9,I⟩:=bE I
   refine aK G K 15 E ads E E E (fun w H=>(mQ G E E E (abe z9))) fun a G=>?_
   refine bJ K 16 ads E E ?_
   refine bZ G 16 E E E E E fun w eX H=>Yd.val (aI G E E) ?_
   refine dr eX H fun a G=>?_
   refine de fun w H=>?_
   exact lf
  exact lf
 replace I:Sh.iM x0 x1 x2 c1 c0 g5=_:=I
 unfold Sh.iM at I
 refine go 5 fun a w G H=>?_
 obtain⟨Ew,AE,I⟩:=adu I
 have c10:=pZ AE H (fun _ h=>h) (fun w H=>(H.rowS (X:=UInt8) (i:=13) rfl)) (fun w H=>(H.rowS (X:=SV) (i:=14) rfl)) (m9.mono fun _ _ q=>q.mono fun w H=>H.hold 15 _ rfl) (fun w H=>(H.rowS (X:=bS) (i:=16) rfl)) (g0.mono fun _ _ q=>q.mono fun w H=>H.hold 17 _ rfl)
 refine cl Tryz.call55 c10 ?_
 rintro v w ⟨c40,Es,c12,BV,Et,zi,BW,rfl,BU,c37,H⟩ a G
 refine go 12 fun c34 a w G H=>?_
 obtain⟨KH,AG,I⟩:=adu I
 have c11:=oL AG H (fun _ h=>h) (fun w H=>(f2 _ (S _ (dZ H 24)))) (fun w H=>(f4 _ (S _ (dZ H 24)))) (fun w H=>(f6 _ (S _ (dZ H 24)))) (fun w H=>(H.rowS (X:=UInt8) (i:=1) rfl)) (fun w H=>(H.rowS (X:=SV) (i:=2) rfl)) (BU.mono fun _ _ q=>q.mono fun w H=>H.hold 3 _ rfl) (fun w H=>(H.rowS (X:=bS) (i:=4) rfl)) (c37.mono fun _ _ q=>q.mono fun w H=>H.hold 5 _ rfl)
 refine cl Tryz.call39 c11 ?_
 rintro v w ⟨rfl,H⟩ a G
 refine go 9 fun a w G H=>?_
 refine jm (pt g4 (af.enc (gx c0 i0 i1 d5 d6 d7 d8 d4 i2)) 203::pt c3 (bg.enc (kg c1.1 c5 c6 c7)) 36::pt c9 (br.enc (br.mk s7 s9)) 30::pt c8 (bh.enc (bh.mk x0.lo x0.hi s1 s3 s5)) 27::ai 0 c40 5 Ew.1.iz.b_::ai 0 Es 23 c12::BV::ai 0 Et 60 zi::BW::ai 0 i0 5 c0.ae.b_::ai 0 i1 23 g2::(a_ g2 c0.ae.ah)::ai 0 d5 5 c0.ae.data::ai 0 d6 205 c0.ae.sizes::ai 0 d7 101 c0.code::ai 0 d8 3 c0.dq::.obj d4 (jc c0.cg)::ai 0 i2 3 c0.bf::ai 0 c5 5 c1.1.iz.b_::ai 0 c6 23 c2::(a_ c2 c1.1.iz.ah)::ai 0 c7 60 d0::d2::Lr) G H I [11,2,3,4,5,8,9] (fun n5 u=>(117,.bool n5)::u) (fun Kt I FN G H=>?_) fun n5 a w I G H=>?_
 ·refine go 4 fun a w G H=>?_
  refine gs I (fun z2 I=>?_) fun z2 I=>?_
  ·refine go 9 fun a w G H=>?_
   exact jr I ⟨G.t,bU H [6,7,8,9,1,2,3,4,5,10,11,12,13,14,15,16,17,18,19,20,21,22,23] 24 E⟩
  refine go 4 fun a w G H=>?_
  refine gs I (fun z3 I=>?_) fun z3 I=>?_
  ·refine go 5 fun a w G H=>?_
   exact jr I ⟨G.t,bU H [6,7,8,9,1,2,3,4,5,10,11,12,13,14,15,16,17,18,19,20,21,22,23] 24 E⟩
  refine go 5 fun a w G H=>?_
  exact jr I ⟨G.t,bU H [6,7,8,9,1,2,3,4,5,10,11,12,13,14,15,16,17,18,19,20,21,22,23] 24 E⟩
 replace I:Sh.iN x0 x1 x2 c1 c0 g5 n5=_:=I
 unfold Sh.iN at I
 refine aB ?_
 refine cc I (fun z4 I=>?_) fun z4 I=>?_
 ·exact lf
 refine go 3 fun a w G H=>?_
 refine aM G H I (fun F x a w=>match x with|(j4,i9,g3,j5,j0,j6,j7,j8)=>∃ (g6:SV) (g7:SV) (d3:List SV) (g8:SV),bw (cn (X:=UInt8) (a_ d3 g3).holds') d3 g3∧Fr 170 [(11,.pointer (some ⟨g4,0,none⟩)),(2,.int .i64 x2),(3,.int .i64 g5),(4,.pointer (some ⟨c8,0,none⟩)),(5,.pointer (some ⟨c9,0,none⟩)),(8,.bool false),(9,.pointer (some ⟨c3,0,none⟩))] a∧au w (pt g4 (af.enc (af.mk (bu.mk j4 g6 g7 d5 d6) d7 d8 (some d4) j5 g8 j6 j7 j8)) 203::ai 0 g6 5 i9::ai 0 g7 23 d3::(a_ d3 g3)::ai 0 g8 3 j0::pt c3 (bg.enc (kg c1.1 c5 c6 c7)) 36::pt c9 (br.enc (br.mk s7 s9)) 30::pt c8 (bh.enc (bh.mk x0.lo x0.hi s1 s3 s5)) 27::ai 0 d5 5 c0.ae.data::ai 0 d6 205 c0.ae.sizes::ai 0 d7 101 c0.code::ai 0 d8 3 c0.dq::.obj d4 (jc c0.cg)::ai 0 c5 5 c1.1.iz.b_::ai 0 c6 23 c2::(a_ c2 c1.1.iz.ah)::ai 0 c7 60 d0::d2::Lr)) (fun G5 I p5 G H=>?_) ?_
 ·refine go 6 fun a w G H=>?_
  refine aY G H I (fun F x a w=>match x with|(j9,k0,g9,k1,k2,k3,k4,k5,l5)=>∃ (j1:SV) (j2:SV) (g1:List SV) (j3:SV),bw (cn (X:=UInt8) (a_ g1 g9).holds') g1 g9∧Fr 170 [(16,.int .i64 l5),(11,.pointer (some ⟨g4,0,none⟩)),(2,.int .i64 x2),(3,.int .i64 g5),(4,.pointer (some ⟨c8,0,none⟩)),(5,.pointer (some ⟨c9,0,none⟩)),(8,.bool false),(9,.pointer (some ⟨c3,0,none⟩))] a∧au w (pt g4 (af.enc (af.mk (bu.mk j9 j1 j2 d5 d6) d7 d8 (some d4) k1 j3 k3 k4 k5)) 203::ai 0 j1 5 k0::ai 0 j2 23 g1::(a_ g1 g9)::ai 0 j3 3 k2::pt c3 (bg.enc (kg c1.1 c5 c6 c7)) 36::pt c9 (br.enc (br.mk s7 s9)) 30::pt c8 (bh.enc (bh.mk x0.lo x0.hi s1 s3 s5)) 27::ai 0 d5 5 c0.ae.data::ai 0 d6 205 c0.ae.sizes::ai 0 d7 101 c0.code::ai 0 d8 3 c0.dq::.obj d4 (jc c0.cg)::ai 0 c5 5 c1.1.iz.b_::ai 0 c6 23 c2::(a_ c2 c1.1.iz.ah)::ai 0 c7 60 d0::d2::Lr)) (fun G H=>⟨i0,i1,g2,i2,CG,G.to ⟨E,E,E,E,E,E,E,E,trivial⟩,f_ H [0,9,10,11,17,1,2,3,12,13,14,15,16,18,19,20,21,22] 23⟩) ?_
  rintro⟨j9,k0,g9,k1,k2,k3,k4,k5,l5⟩ a w c70 I m2 ⟨j1,j2,g1,j3,p0,G,H⟩
  replace I:Sh.cG c0 g5 j9 k0 g9 k1 k2 k3 k4 k5 l5=_:=I
  unfold Sh.cG at I
  refine go 8 fun a w G H=>?_
  refine cc I (fun p6 I=>?_) fun p6 I=>?_
  ·refine go 7 fun a w G H=>?_
   obtain⟨KA,t9,I⟩:=adu I
   have t1:=eK t9 H (fun _ h=>h) p0 (fun w H=>(H.rowS (X:=UInt8) (i:=3) rfl)) (fun w H=>(H.rowS (X:=gG) (i:=4) rfl)) (fun w H=>(H.rowS (X:=b9) (i:=5) rfl)) (fun w H=>(H.rowS (X:=Int) (i:=6) rfl)) (fun w H=>H.hold 7 _ rfl)
   refine cl B9 t1 ?_
   rintro v w ⟨c24,Bg,t8,BO,rfl,c20,H⟩ a G
   refine go 3 fun a w G H=>?_
   refine cc I (fun p7 I=>?_) fun p7 I=>?_
   ·refine go 6 fun a w G H=>?_
    obtain rfl:=oI I
    have I:=m2 _ rfl
    subst I
    have I:=bB p5
    subst I
    refine aT Tryz.results21 G E ?_
    exact⟨E,bU H [] 18 E⟩
   refine go 9 fun a w G H=>?_
   exact jr I ⟨c24,Bg,t8,BO,c20,G.t,H⟩
  refine go 5 fun a w G H=>?_
  obtain rfl:=oI I
  have I:=m2 _ rfl
  subst I
  exact⟨(j9,k0,g9,k1,k2,k3,k4,k5),E,j1,j2,g1,j3,p0,G.to ⟨E,E,E,E,E,E,E,trivial⟩,H⟩
 rintro⟨j4,i9,g3,j5,j0,j6,j7,j8⟩ a w I ⟨g6,g7,d3,g8,AH,G,H⟩
 replace I:Sh.iO x0 x1 x2 c1 c0 g5 j4 i9 g3 j5 j0 j6 j7 j8=_:=I
 unfold Sh.iO at I
 refine go 5 fun a w G H=>?_
 obtain⟨d9,u0,I⟩:=adu I
 have t2:=qA u0 H (fun _ h=>h) (fun w H=>(H.rowS (X:=UInt8) (i:=13) rfl)) (fun w H=>(H.rowS (X:=SV) (i:=14) rfl)) (m9.mono fun _ _ q=>q.mono fun w H=>H.hold 15 _ rfl) (fun w H=>(H.rowS (X:=bS) (i:=16) rfl)) (g0.mono fun _ _ q=>q.mono fun w H=>H.hold 17 _ rfl)
 refine cl Tryz.call51 t2 ?_
 rintro v w ⟨k9,l0,m4,p1,l1,rfl,c21,H⟩ a G
 refine go 12 fun m8 a w G H=>?_
 refine jm (pt c3 (bg.enc (kg c1.1 c5 c6 c7)) 36::pt c9 (br.enc (br.mk s7 s9)) 30::pt c8 (bh.enc (bh.mk x0.lo x0.hi s1 s3 s5)) 27::ai 0 k9 5 d9.1.b_::ai 0 l0 23 m4::p1::ai 0 l1 3 d9.1.bf::ai 0 g6 5 i9::ai 0 g7 23 d3::(a_ d3 g3)::ai 0 g8 3 j0::ai 0 d5 5 c0.ae.data::ai 0 d6 205 c0.ae.sizes::ai 0 d7 101 c0.code::ai 0 d8 3 c0.dq::.obj d4 (jc c0.cg)::ai 0 c5 5 c1.1.iz.b_::ai 0 c6 23 c2::(a_ c2 c1.1.iz.ah)::ai 0 c7 60 d0::d2::Lr) G H I [2,4,5,8,9] (fun l6 u=>(145,.bool l6)::u) (fun Ku I c49 G H=>?_) fun l6 a w I G H=>?_
 ·refine dT H [0,1,2,3,4,5,6,7,8,9,10,11,12,13,14,15,16,17,18,19,20,21,22] 23 fun K=>?_
  refine fc [0,1,2] fun a G=>?_
  refine gs I (fun p8 I=>?_) fun p8 I=>?_
  ·refine fc [3,4,5,6,7,8,9,10,11,12] fun a G=>?_
   refine de fun w H=>?_
   refine aB ?_
   exact jr I ⟨G.t,bU H [10,11,12,1,2,3,4,6,7,8,9,13,14,15,16,17,18,19,20,21,22] 23 E⟩
  refine fc [3,4,5,6] fun a G=>?_
  refine gs I (fun k7 I=>?_) fun k7 I=>?_
  ·refine fc [7,8,9,10,11,12] fun a G=>?_
   refine de fun w H=>?_
   refine aB ?_
   exact jr I ⟨G.t,bU H [10,11,12,1,2,3,4,6,7,8,9,13,14,15,16,17,18,19,20,21,22] 23 E⟩
  refine fc [7,8] fun a G=>?_
  refine bJ K 9 ads E E ?_
  refine kF G 9 E E E E E k7 E E fun w eX H=>?_
  obtain⟨m1,u1,I⟩:=adu I
  have t3:=eG u1 (bU H [5,6,7,8,9,0,1,2,3,4,10,11,12,13,14,15,16,17,18,19,20,21,22] 23 rfl) (fun _ h=>h) AH (fun w H=>(H.rowS (X:=UInt8) (i:=8) rfl)) (fun w H=>(H.rowS (X:=gG) (i:=9) rfl)) (fun w H=>(H.rowS (X:=b9) (i:=10) rfl)) (fun w H=>(H.rowS (X:=Int) (i:=11) rfl)) (fun w H=>H.hold 12 _ rfl)
  refine dl B_ t3 ?_
  rintro v w ⟨BP,c28,m5,BQ,rfl,AI,H⟩
  replace H:au _ (ai 0 BP 5 m1.b_::ai 0 c28 23 m5::(a_ m5 m1.ah)::ai 0 BQ 3 m1.bf::pt g4 (af.enc (af.mk (bu.mk j4 g6 g7 d5 d6) d7 d8 (some d4) j5 g8 j6 j7 j8)) 203::ai 0 g6 5 i9::ai 0 g7 23 d3::(a_ d3 g3)::ai 0 g8 3 j0::pt m8 (ay.enc (il d9.1 k9 l0 l1)) 54::ai 0 k9 5 d9.1.b_::ai 0 l0 23 m4::p1::ai 0 l1 3 d9.1.bf::pt c3 (bg.enc (kg c1.1 c5 c6 c7)) 36::pt c9 (br.enc (br.mk s7 s9)) 30::pt c8 (bh.enc (bh.mk x0.lo x0.hi s1 s3 s5)) 27::ai 0 d5 5 c0.ae.data::ai 0 d6 205 c0.ae.sizes::ai 0 d7 101 c0.code::ai 0 d8 3 c0.dq::.obj d4 (jc c0.cg)::ai 0 c5 5 c1.1.iz.b_::ai 0 c6 23 c2::(a_ c2 c1.1.iz.ah)::ai 0 c7 60 d0::d2::Lr):=H
  refine ds [0,1,2,3,9,10,11,12,13,4,5,6,7,8,14,15,16,17,18,19,20,21,22,23,24,25,26] 27 fun a G=>?_
  refine bJ K 10 ads E E ?_
  refine kF G 10 E E E E E k7 E E fun w eX H=>?_
  obtain⟨KB,u2,I⟩:=adu I
  have t4:=eJ u2 H (fun _ h=>h) (fun w H=>(H.rowS (X:=UInt8) (i:=10) rfl)) (fun w H=>(H.rowS (X:=SV) (i:=11) rfl)) (c21.mono fun _ _ q=>q.mono fun w H=>H.hold 12 _ rfl) (fun w H=>(H.rowS (X:=Int) (i:=13) rfl)) (fun w H=>(H.rowS (X:=UInt8) (i:=0) rfl)) (fun w H=>(H.rowS (X:=SV) (i:=1) rfl)) (AI.mono fun _ _ q=>q.mono fun w H=>H.hold 2 _ rfl) (fun w H=>(H.rowS (X:=Int) (i:=3) rfl))
  refine dl Tryz.call34 t4 ?_
  rintro v w ⟨rfl,H⟩
  refine ds [0,1,2,3,9,10,11,12,13,4,5,6,7,8,14,15,16,17,18,19,20,21,22,23,24,25,26] 27 fun a G=>?_
  refine fc [11,12] fun a G=>?_
  refine de fun w H=>?_
  refine aB ?_
  exact jr I ⟨G.t,bU H [14,15,16,10,11,12,13,5,6,7,8,17,18,19,20,21,22,23,24,25,26] 27 E⟩
 replace I:Sh.iP x0 x1 x2 c1 l6=_:=I
 unfold Sh.iP at I
 refine aB ?_
 refine cc I (fun p9 I=>?_) fun p9 I=>?_
 ·exact lf
 refine go 6 fun a w G H=>?_
 obtain⟨c59,I,k6⟩:=cJ I
 refine aN G E E E (aS (xs:=[.tmp 147,.tmp 148]) Tryz.call65 G E E (kZ I H (Bf:=Bf) (fun w H=>S _ (dZ H 21)) f2 f4 f6 f8 f11 Bo) fun v w hR=>?_)
 obtain⟨BS,rfl,hR⟩:=hR
 rcases BS with⟨⟩|⟨⟩|c4
 ·obtain⟨rfl,H⟩:=hR
  replace I:Sh.sD x2=_:=k6
  unfold Sh.sD at I
  intro a G
  refine go 8 fun a w G H=>?_
  refine jm (pt c3 (bg.enc (kg c1.1 c5 c6 c7)) 36::ai 0 c5 5 c1.1.iz.b_::ai 0 c6 23 c2::(a_ c2 c1.1.iz.ah)::ai 0 c7 60 d0::d2::Lr) G H I [18,8,9] (fun l7 u=>(2,.int .i64 l7)::u) (fun Kv I FO G H=>?_) fun l7 a w I G H=>?_
  ·exact lf
  replace I:Sh.sG l7=_:=I
  unfold Sh.sG at I
  refine go 5 fun a w G H=>?_
  obtain⟨t5,I⟩:=bE I
  cases t5
 ·obtain⟨rfl,H⟩:=hR
  replace I:Sh.sE x2=_:=k6
  unfold Sh.sE at I
  intro a G
  refine go 8 fun a w G H=>?_
  refine jm (pt c3 (bg.enc (kg c1.1 c5 c6 c7)) 36::ai 0 c5 5 c1.1.iz.b_::ai 0 c6 23 c2::(a_ c2 c1.1.iz.ah)::ai 0 c7 60 d0::d2::Lr) G H I [18,8,9] (fun l8 u=>(2,.int .i64 l8)::u) (fun Kw I c51 G H=>?_) fun l8 a w I G H=>?_
  ·exact lf
  replace I:Sh.sH l8=_:=I
  unfold Sh.sH at I
  refine go 5 fun a w G H=>?_
  obtain⟨t6,I⟩:=bE I
  cases t6
 obtain⟨n6,p2,p3,m6,i5,i6,i7,i8,i3,p4,rfl,AK,H⟩:=hR
 replace I:Sh.iK x2 c1 c4=_:=k6
 unfold Sh.iK at I
 intro a G
 refine go 8 fun a w G H=>?_
 refine jm (pt n6 (af.enc (gx c4 p2 p3 i5 i6 i7 i8 i3 p4)) 203::pt c3 (bg.enc (kg c1.1 c5 c6 c7)) 36::ai 0 p2 5 c4.ae.b_::ai 0 p3 23 m6::(a_ m6 c4.ae.ah)::ai 0 i5 5 c4.ae.data::ai 0 i6 205 c4.ae.sizes::ai 0 i7 101 c4.code::ai 0 i8 3 c4.dq::.obj i3 (jc c4.cg)::ai 0 p4 3 c4.bf::ai 0 c5 5 c1.1.iz.b_::ai 0 c6 23 c2::(a_ c2 c1.1.iz.ah)::ai 0 c7 60 d0::d2::Lr) G H I [18,8,9] (fun l9 u=>(2,.int .i64 l9)::u) (fun Kx I G2 G H=>?_) fun l9 a w I G H=>?_
 ·refine go 6 fun a w G H=>?_
  refine cc I (fun t0 I=>?_) fun t0 I=>?_
  ·refine go 4 fun a w G H=>?_
   exact jr I ⟨G.t,bU H [0,10,1,2,3,4,5,6,7,8,9,26,27,28,29,30] 31 E⟩
  refine bM (aB ?_)
  exact jr I ⟨G.t,bU H [0,10,1,2,3,4,5,6,7,8,9,26,27,28,29,30] 31 E⟩
 replace I:Sh.sI c1 c4 l9=_:=I
 unfold Sh.sI at I
 refine go 5 fun a w G H=>?_
 obtain⟨d1,u3,I⟩:=adu I
 have t7:=qR u3 (bU H [0,2,3,4,10,1,5,6,7,8,9,11,12,13,14,15] 16 rfl) (fun _ h=>h) AK (fun w H=>(H.rowS (X:=UInt8) (i:=1) rfl)) (fun w H=>(H.rowS (X:=gG) (i:=2) rfl)) (fun w H=>(H.rowS (X:=b9) (i:=3) rfl)) (fun w H=>(H.rowS (X:=Int) (i:=4) rfl)) (fun w H=>H.hold 5 _ rfl)
 refine cl Tryz.call68 t7 ?_
 rintro v w ⟨BR,c31,m7,c32,l2,l3,i4,l4,rfl,Kz,c72,H⟩ a G
 replace H:au _ (ai 0 BR 5 d1.1.b_::ai 0 c31 23 m7::(a_ m7 d1.1.ah)::ai 0 c32 3 d1.1.bf::pt n6 (af.enc (gx d1.2.2 l2 l3 i5 i6 i7 i8 i3 l4)) 203::ai 0 l2 5 d1.2.2.ae.b_::ai 0 l3 23 i4::(a_ i4 d1.2.2.ae.ah)::ai 0 l4 3 d1.2.2.bf::pt c3 (bg.enc (kg c1.1 c5 c6 c7)) 36::ai 0 i5 5 c4.ae.data::ai 0 i6 205 c4.ae.sizes::ai 0 i7 101 c4.code::ai 0 i8 3 c4.dq::.obj i3 (jc c4.cg)::ai 0 c5 5 c1.1.iz.b_::ai 0 c6 23 c2::(a_ c2 c1.1.iz.ah)::ai 0 c7 60 d0::d2::Lr):=H
 refine go 7 fun a w G H=>?_
 refine jm (ai 0 l2 5 d1.2.2.ae.b_::ai 0 l3 23 i4::(a_ i4 d1.2.2.ae.ah)::ai 0 l4 3 d1.2.2.bf::ai 0 i5 5 c4.ae.data::ai 0 i6 205 c4.ae.sizes::ai 0 i7 101 c4.code::ai 0 i8 3 c4.dq::.obj i3 (jc c4.cg)::ai 0 c5 5 c1.1.iz.b_::ai 0 c6 23 c2::(a_ c2 c1.1.iz.ah)::ai 0 c7 60 d0::d2::Lr) G H I [] (fun m0 u=>(8,.bool m0)::u) (fun Ky I c53 G H=>?_) fun m0 a w I G H=>?_
 ·refine go 6 fun a w G H=>?_
  refine gs I (fun m3 I=>?_) fun m3 I=>?_
  ·refine go 2 fun a w G H=>?_
   refine aP G E E E m3 (dR (H.rowS (X:=bS) (i:=18) E) g0.len rh G E E) E E fun a G=>?_
   exact lf
  exact lf
 replace I:Sh.sJ m0=_:=I
 unfold Sh.sJ at I
 exact lf
end Go.Proofs
end
