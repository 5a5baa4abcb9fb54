/- Ground for the claim TraceFaith. -/
import Derived.Test.YtmgnkohlfbjjnaaGreatRFa10
set_option linter.unusedVariables false
set_option linter.unusedSimpArgs false
set_option maxHeartbeats 4000000
section
namespace Go.Proofs
open Go.Fw Go.Fx
set_option maxRecDepth 10000
theorem hH{x0:aj}{x1:b9}{s1 s3:SV}{da:List SV}{s7 s9 e8 fe:SV}{fU:Nat}{dy:SV}{b0:Nat}{out:(Int×Int×aj)}{w0:World}{Bf:World→Prop}{Lr:List dw}(I:Sh.eI x0 x1=some out)(H:au w0 (pt b0 (af.enc (gx x0 s1 s3 s7 s9 e8 fe fU dy)) 203::ai 0 s1 5 x0.ae.b_::ai 0 s3 23 da::(a_ da x0.ae.ah)::ai 0 dy 3 x0.bf::Lr))(S:∀ w,au w Lr→Bf w)(q6:bw (cn (X:=UInt8) (a_ da x0.ae.ah).holds') da x0.ae.ah)(f8:cn Bf s7 x0.ae.data)(f10:cn Bf s9 x0.ae.sizes)(f12:cn Bf e8 x0.code)(f14:cn Bf fe x0.dq)(f16:jk Bf fU x0.cg):Calls Tryz.prog 204 #[.pointer (some ⟨b0,0,none⟩),.agg (b9.enc x1).toArray] w0 (gf fun v w'=>v = .tuple #[.int .i64 out.1,.int .i64 out.2.1]∧au w' (pt b0 (af.enc (af.mk (bu.mk x0.ae.bp s1 s3 s7 s9) e8 fe (some fU) out.2.2.bk dy x0.at_ x0.steps x0.done)) 203::ai 0 s1 5 x0.ae.b_::ai 0 s3 23 da::(a_ da x0.ae.ah)::ai 0 dy 3 x0.bf::Lr)):=by
 unfold Sh.eI at I
 refine ce Tryz.func204 Tryz.ntmps204 fun a G=>?_
 refine go 8 fun c0 a w G H=>?_
 refine aM G H I (fun F x a w=>match x with|(d5,d7)=>∃ (c5:Nat) (c6:Nat),Fr 104 [(6,.pointer (some ⟨c5,0,none⟩)),(7,.pointer (some ⟨c6,0,none⟩)),(0,.pointer (some ⟨b0,0,none⟩)),(3,.pointer (some ⟨c0,0,none⟩)),(4,.int .i64 0),(5,.int .i64 0)] a∧au w (pt c5 (ak.enc d5) 46::pt c6 (ak.enc d7) 46::pt b0 (af.enc (gx x0 s1 s3 s7 s9 e8 fe fU dy)) 203::pt c0 (b9.enc x1) 101::ai 0 s1 5 x0.ae.b_::ai 0 s3 23 da::(a_ da x0.ae.ah)::ai 0 dy 3 x0.bf::Lr)) (fun l3 I k5 G H=>?_) ?_
 ·refine dT H [0,1,2,3,4,5] 6 fun K=>?_
  obtain⟨m1,l2,I⟩:=adu I
  refine fc [0,1,2,3,4,5,6,7,8] fun a G=>?_
  refine wE K 9 10 11 ads E E ?_ ?_ ?_
  ·refine bZ G 9 E E E E E fun w eX H=>?_
   obtain⟨d6,d0,I⟩:=adu I
   have c9:=cE d0 (f_ H [1,2,3,4,5,0] 6) (Bf:=Bf) (tb S) q6 f8 f10 f12 f14 f16
   refine dl om c9 ?_
   rintro v w ⟨rfl,H⟩
   refine ds [5,0,1,2,3,4] 6 fun a G=>?_
   refine fN K 10 11 ads E E ?_ ?_
   ·refine bZ G 10 E E E E E fun w eX H=>?_
    refine(bI z46 (zs:=ak.zero.enc) E E fun c1 w d2 c3=>?_)
    have H:=H.plus c3
    try dsimp only[List.set]at H
    refine ds [0,6,1,2,3,4,5] 7 fun a G=>?_
    refine dx 11 fun w eX H=>?_
    refine(bI z46 (zs:=ak.zero.enc) E E fun c2 w d3 c4=>?_)
    have H:=H.plus c4
    try dsimp only[List.set]at H
    refine ds [0,1,7,2,3,4,5,6] 8 fun a G=>?_
    refine ko 12 fun w eX H=>?_
    refine(aU (vs:=_) iw (H.obj (i:=1) E) G E E E E (ak.len _) (ak.one _) (by first|(rw[ak.len,ak.len];decide)|(rw[ak.len];decide)) (bF ((ak.len _).trans (ak.len _).symm)) fun w c7=>?_)
    have H:=H.chg c7 (i:=1) rfl
    try dsimp only[List.set]at H
    refine dh ?_
    refine ko 13 fun w eX H=>?_
    refine(aU (vs:=_) iw (H.obj (i:=0) E) G E E E E (ak.len _) (ak.one _) (by first|(rw[ak.len,ak.len];decide)|(rw[ak.len];decide)) (bF ((ak.len _).trans (ak.len _).symm)) fun w c8=>?_)
    have H:=H.chg c8 (i:=0) rfl
    try dsimp only[List.set]at H
    refine dh ?_
    refine de fun w H=>?_
    refine aB ?_
    exact jr I ⟨c1,c2,G.t,bU H [1,0,2,7,3,4,5,6] 8 E⟩
   refine bZ G 11 E E E E E fun w eX H=>?_
   refine(bI z46 (zs:=ak.zero.enc) E E fun c2 w d3 c4=>?_)
   have H:=H.plus c4
   try dsimp only[List.set]at H
   refine ds [0,6,1,2,3,4,5] 7 fun a G=>?_
   refine dx 10 fun w eX H=>?_
   refine(bI z46 (zs:=ak.zero.enc) E E fun c1 w d2 c3=>?_)
   have H:=H.plus c3
   try dsimp only[List.set]at H
   refine ds [0,1,7,2,3,4,5,6] 8 fun a G=>?_
   refine ko 12 fun w eX H=>?_
   refine(aU (vs:=_) iw (H.obj (i:=0) E) G E E E E (ak.len _) (ak.one _) (by first|(rw[ak.len,ak.len];decide)|(rw[ak.len];decide)) (bF ((ak.len _).trans (ak.len _).symm)) fun w c7=>?_)
   have H:=H.chg c7 (i:=0) rfl
   try dsimp only[List.set]at H
   refine dh ?_
   refine ko 13 fun w eX H=>?_
   refine(aU (vs:=_) iw (H.obj (i:=1) E) G E E E E (ak.len _) (ak.one _) (by first|(rw[ak.len,ak.len];decide)|(rw[ak.len];decide)) (bF ((ak.len _).trans (ak.len _).symm)) fun w c8=>?_)
   have H:=H.chg c8 (i:=1) rfl
   try dsimp only[List.set]at H
   refine dh ?_
   refine de fun w H=>?_
   refine aB ?_
   exact jr I ⟨c1,c2,G.t,bU H [0,1,2,7,3,4,5,6] 8 E⟩
  ·refine bZ G 10 E E E E E fun w eX H=>?_
   refine(bI z46 (zs:=ak.zero.enc) E E fun c1 w d2 c3=>?_)
   have H:=H.plus c3
   try dsimp only[List.set]at H
   refine ds [0,1,2,3,4,5,6] 7 fun a G=>?_
   refine fN K 9 11 ads E E ?_ ?_
   ·refine bZ G 9 E E E E E fun w eX H=>?_
    obtain⟨d6,d0,I⟩:=adu I
    have c9:=cE d0 (f_ H [2,3,4,5,6,0,1] 7) (Bf:=Bf) (tb S) q6 f8 f10 f12 f14 f16
    refine dl om c9 ?_
    rintro v w ⟨rfl,H⟩
    refine ds [5,6,0,1,2,3,4] 7 fun a G=>?_
    refine dx 11 fun w eX H=>?_
    refine(bI z46 (zs:=ak.zero.enc) E E fun c2 w d3 c4=>?_)
    have H:=H.plus c4
    try dsimp only[List.set]at H
    refine ds [0,6,7,1,2,3,4,5] 8 fun a G=>?_
    refine ko 12 fun w eX H=>?_
    refine(aU (vs:=_) iw (H.obj (i:=6) E) G E E E E (ak.len _) (ak.one _) (by first|(rw[ak.len,ak.len];decide)|(rw[ak.len];decide)) (bF ((ak.len _).trans (ak.len _).symm)) fun w c7=>?_)
    have H:=H.chg c7 (i:=6) rfl
    try dsimp only[List.set]at H
    refine dh ?_
    refine ko 13 fun w eX H=>?_
    refine(aU (vs:=_) iw (H.obj (i:=0) E) G E E E E (ak.len _) (ak.one _) (by first|(rw[ak.len,ak.len];decide)|(rw[ak.len];decide)) (bF ((ak.len _).trans (ak.len _).symm)) fun w c8=>?_)
    have H:=H.chg c8 (i:=0) rfl
    try dsimp only[List.set]at H
    refine dh ?_
    refine de fun w H=>?_
    refine aB ?_
    exact jr I ⟨c1,c2,G.t,bU H [6,0,1,7,2,3,4,5] 8 E⟩
   refine bZ G 11 E E E E E fun w eX H=>?_
   refine(bI z46 (zs:=ak.zero.enc) E E fun c2 w d3 c4=>?_)
   have H:=H.plus c4
   try dsimp only[List.set]at H
   refine ds [0,1,2,3,4,5,6,7] 8 fun a G=>?_
   refine dx 9 fun w eX H=>?_
   obtain⟨d6,d0,I⟩:=adu I
   have c9:=cE d0 (f_ H [3,4,5,6,7,0,1,2] 8) (Bf:=Bf) (tb S) q6 f8 f10 f12 f14 f16
   refine dl om c9 ?_
   rintro v w ⟨rfl,H⟩
   refine ds [5,6,7,0,1,2,3,4] 8 fun a G=>?_
   refine ko 12 fun w eX H=>?_
   refine(aU (vs:=_) iw (H.obj (i:=6) E) G E E E E (ak.len _) (ak.one _) (by first|(rw[ak.len,ak.len];decide)|(rw[ak.len];decide)) (bF ((ak.len _).trans (ak.len _).symm)) fun w c7=>?_)
   have H:=H.chg c7 (i:=6) rfl
   try dsimp only[List.set]at H
   refine dh ?_
   refine ko 13 fun w eX H=>?_
   refine(aU (vs:=_) iw (H.obj (i:=5) E) G E E E E (ak.len _) (ak.one _) (by first|(rw[ak.len,ak.len];decide)|(rw[ak.len];decide)) (bF ((ak.len _).trans (ak.len _).symm)) fun w c8=>?_)
   have H:=H.chg c8 (i:=5) rfl
   try dsimp only[List.set]at H
   refine dh ?_
   refine de fun w H=>?_
   refine aB ?_
   exact jr I ⟨c1,c2,G.t,bU H [6,5,0,7,1,2,3,4] 8 E⟩
  refine bZ G 11 E E E E E fun w eX H=>?_
  refine(bI z46 (zs:=ak.zero.enc) E E fun c2 w d3 c4=>?_)
  have H:=H.plus c4
  try dsimp only[List.set]at H
  refine ds [0,1,2,3,4,5,6] 7 fun a G=>?_
  refine fN K 9 10 ads E E ?_ ?_
  ·refine bZ G 9 E E E E E fun w eX H=>?_
   obtain⟨d6,d0,I⟩:=adu I
   have c9:=cE d0 (f_ H [2,3,4,5,6,0,1] 7) (Bf:=Bf) (tb S) q6 f8 f10 f12 f14 f16
   refine dl om c9 ?_
   rintro v w ⟨rfl,H⟩
   refine ds [5,6,0,1,2,3,4] 7 fun a G=>?_
   refine dx 10 fun w eX H=>?_
   refine(bI z46 (zs:=ak.zero.enc) E E fun c1 w d2 c3=>?_)
   have H:=H.plus c3
   try dsimp only[List.set]at H
   refine ds [0,6,7,1,2,3,4,5] 8 fun a G=>?_
   refine ko 12 fun w eX H=>?_
   refine(aU (vs:=_) iw (H.obj (i:=0) E) G E E E E (ak.len _) (ak.one _) (by first|(rw[ak.len,ak.len];decide)|(rw[ak.len];decide)) (bF ((ak.len _).trans (ak.len _).symm)) fun w c7=>?_)
   have H:=H.chg c7 (i:=0) rfl
   try dsimp only[List.set]at H
   refine dh ?_
   refine ko 13 fun w eX H=>?_
   refine(aU (vs:=_) iw (H.obj (i:=6) E) G E E E E (ak.len _) (ak.one _) (by first|(rw[ak.len,ak.len];decide)|(rw[ak.len];decide)) (bF ((ak.len _).trans (ak.len _).symm)) fun w c8=>?_)
   have H:=H.chg c8 (i:=6) rfl
   try dsimp only[List.set]at H
   refine dh ?_
   refine de fun w H=>?_
   refine aB ?_
   exact jr I ⟨c1,c2,G.t,bU H [0,6,1,7,2,3,4,5] 8 E⟩
  refine bZ G 10 E E E E E fun w eX H=>?_
  refine(bI z46 (zs:=ak.zero.enc) E E fun c1 w d2 c3=>?_)
  have H:=H.plus c3
  try dsimp only[List.set]at H
  refine ds [0,1,2,3,4,5,6,7] 8 fun a G=>?_
  refine dx 9 fun w eX H=>?_
  obtain⟨d6,d0,I⟩:=adu I
  have c9:=cE d0 (f_ H [3,4,5,6,7,0,1,2] 8) (Bf:=Bf) (tb S) q6 f8 f10 f12 f14 f16
  refine dl om c9 ?_
  rintro v w ⟨rfl,H⟩
  refine ds [5,6,7,0,1,2,3,4] 8 fun a G=>?_
  refine fc [12,13] fun a G=>?_
  refine de fun w H=>?_
  refine aB ?_
  exact jr I ⟨c1,c2,G.t,bU H [5,6,0,7,1,2,3,4] 8 E⟩
 rintro⟨d5,d7⟩ a w I ⟨c5,c6,G,H⟩
 replace I:Sh.mM x0 x1 d5 d7=_:=I
 unfold Sh.mM at I
 refine go 2 fun a w G H=>?_
 refine aM G H I (fun F x a w=>match x with|d1=>Fr 104 [(0,.pointer (some ⟨b0,0,none⟩)),(3,.pointer (some ⟨c0,0,none⟩)),(4,.int .i64 0),(5,.int .i64 0),(6,.pointer (some ⟨c5,0,none⟩)),(7,.pointer (some ⟨c6,0,none⟩))] a∧au w (pt c6 (ak.enc d1) 46::pt c5 (ak.enc d5) 46::pt b0 (af.enc (gx x0 s1 s3 s7 s9 e8 fe fU dy)) 203::pt c0 (b9.enc x1) 101::ai 0 s1 5 x0.ae.b_::ai 0 s3 23 da::(a_ da x0.ae.ah)::ai 0 dy 3 x0.bf::Lr)) (fun l4 I k6 G H=>?_) ?_
 ·refine go 7 fun a w G H=>?_
  refine cc I (fun i1 I=>?_) fun i1 I=>?_
  ·refine aD ?_
   obtain⟨m5,j5,I⟩:=adu I
   have i8:=dJ j5 H 
   refine cl po i8 ?_
   rintro v w ⟨rfl,H⟩ a G
   refine go 3 fun a w G H=>?_
   exact jr I ⟨G.t,bU H [1,0,2,3,4,5,6,7] 8 E⟩
  refine bM (aB ?_)
  exact jr I ⟨G.t,bU H [1,0,2,3,4,5,6,7] 8 E⟩
 rintro d1 a w I ⟨G,H⟩
 unfold Sh.tM at I
 refine go 2 fun a w G H=>?_
 refine aM G H I (fun F x a w=>match x with|d4=>Fr 104 [(0,.pointer (some ⟨b0,0,none⟩)),(3,.pointer (some ⟨c0,0,none⟩)),(4,.int .i64 0),(5,.int .i64 0),(6,.pointer (some ⟨c5,0,none⟩)),(7,.pointer (some ⟨c6,0,none⟩))] a∧au w (pt c5 (ak.enc d4) 46::pt c6 (ak.enc d1) 46::pt b0 (af.enc (gx x0 s1 s3 s7 s9 e8 fe fU dy)) 203::pt c0 (b9.enc x1) 101::ai 0 s1 5 x0.ae.b_::ai 0 s3 23 da::(a_ da x0.ae.ah)::ai 0 dy 3 x0.bf::Lr)) (fun l5 I g7 G H=>?_) ?_
 ·refine go 7 fun a w G H=>?_
  refine cc I (fun i2 I=>?_) fun i2 I=>?_
  ·refine go 2 fun a w G H=>?_
   refine jm (pt c6 (ak.enc d1) 46::pt c5 (ak.enc d5) 46::pt b0 (af.enc (gx x0 s1 s3 s7 s9 e8 fe fU dy)) 203::pt c0 (b9.enc x1) 101::ai 0 s1 5 x0.ae.b_::ai 0 s3 23 da::(a_ da x0.ae.ah)::ai 0 dy 3 x0.bf::Lr) G H I [0,3,4,5,6,7] (fun d8 u=>(36,.bool d8)::u) (fun l6 I k7 G H=>?_) fun d8 a w I G H=>?_
   ·exact lf
   replace I:Sh.mN x0 x1 d1 d8=_:=I
   unfold Sh.mN at I
   refine aB ?_
   refine cc I (fun i3 I=>?_) fun i3 I=>?_
   ·refine aH ?_
    refine dT H [0,1,2,3,4,5,6,7] 8 fun K=>?_
    obtain⟨m2,g2,I⟩:=adu I
    refine fc [0,1,2,3,4,5,6] fun a G=>?_
    refine ko 7 fun w eX H=>?_
    refine(aU (vs:=_) iw (H.obj (i:=2) E) G E E E E (ak.len _) (ak.one _) (by have:=(bT g2);rw[ak.len,af.len];omega) (af.pi_regs _ _ _ (by have:=(bT g2);omega)) fun w g8=>?_)
    have H:=H.chg g8 (i:=2) rfl
    try dsimp only[List.set]at H
    refine dh ?_
    refine de fun w H=>?_
    refine go 8 fun a w G H=>?_
    obtain rfl:=oI I
    have I:=bB g7
    subst I
    refine er Bt G H ?_
    exact⟨E,bU H [2,4,5,6,7] 8 E⟩
   refine go 3 fun a w G H=>?_
   obtain⟨m6,j6,I⟩:=adu I
   have i9:=dJ j6 H 
   refine cl po i9 ?_
   rintro v w ⟨rfl,H⟩ a G
   refine go 3 fun a w G H=>?_
   exact jr I ⟨G.t,bU H [1,0,2,3,4,5,6,7] 8 E⟩
  refine bM (aB ?_)
  exact jr I ⟨G.t,bU H [1,0,2,3,4,5,6,7] 8 E⟩
 rintro d4 a w I ⟨G,H⟩
 unfold Sh.tN at I
 refine go 3 fun a w G H=>?_
 refine jm (pt c5 (ak.enc d4) 46::pt c6 (ak.enc d1) 46::pt b0 (af.enc (gx x0 s1 s3 s7 s9 e8 fe fU dy)) 203::pt c0 (b9.enc x1) 101::ai 0 s1 5 x0.ae.b_::ai 0 s3 23 da::(a_ da x0.ae.ah)::ai 0 dy 3 x0.bf::Lr) G H I [0,3,4,5,6,7] (fun d9 u=>(50,.bool d9)::u) (fun l7 I k8 G H=>?_) fun d9 a w I G H=>?_
 ·refine go 2 fun a w G H=>?_
  obtain⟨m7,j7,I⟩:=adu I
  have j0:=cZ j7 H 
  refine cl ou j0 ?_
  rintro v w ⟨rfl,H⟩ a G
  refine go 1 fun a w G H=>?_
  refine gs I (fun g1 I=>?_) fun g1 I=>?_
  ·refine go 1 fun a w G H=>?_
   obtain⟨m8,j8,I⟩:=adu I
   have j1:=cZ j8 H 
   refine dA G E E E g1 E E (aS (xs:=[.tmp 48]) ou G E E j1 fun v w hR=>?_)
   obtain⟨rfl,H⟩:=hR
   intro a G
   exact lf
  exact lf
 replace I:Sh.mO x0 x1 d1 d4 d9=_:=I
 unfold Sh.mO at I
 refine aB ?_
 refine cc I (fun i4 I=>?_) fun i4 I=>?_
 ·refine go 10 fun a w G H=>?_
  obtain⟨k3,j9,I⟩:=adu I
  have j2:=VA j9 H 
  refine cl Tryz.call238 j2 ?_
  rintro v w ⟨rfl,H⟩ a G
  refine go 8 fun a w G H=>?_
  refine aM G H I (fun F x a w=>match x with|g5=>Fr 104 [(0,.pointer (some ⟨b0,0,none⟩)),(3,.pointer (some ⟨c0,0,none⟩)),(4,.int .i64 0),(5,.int .i64 0),(6,.pointer (some ⟨c5,0,none⟩)),(7,.pointer (some ⟨c6,0,none⟩)),(9,.int .i64 k3.2)] a∧au w (pt b0 (af.enc (af.mk (bu.mk x0.ae.bp s1 s3 s7 s9) e8 fe (some fU) g5 dy x0.at_ x0.steps x0.done)) 203::pt c5 (ak.enc d4) 46::pt c6 (ak.enc d1) 46::pt c0 (b9.enc x1) 101::ai 0 s1 5 x0.ae.b_::ai 0 s3 23 da::(a_ da x0.ae.ah)::ai 0 dy 3 x0.bf::Lr)) (fun l8 I k9 G H=>?_) ?_
  ·refine go 6 fun a w G H=>?_
   refine cc I (fun i5 I=>?_) fun i5 I=>?_
   ·refine dT H [0,1,2,3,4,5,6,7] 8 fun K=>?_
    refine fc [0,1,2,3,5,6] fun a G=>?_
    refine dx 4 fun w eX H=>?_
    obtain⟨m9,k0,I⟩:=adu I
    have j3:=dJ k0 H 
    refine dl po j3 ?_
    rintro v w ⟨rfl,H⟩
    refine ds [0,1,2,3,4,5,6,7] 8 fun a G=>?_
    obtain⟨m3,g3,I⟩:=adu I
    refine fc [7] fun a G=>?_
    refine ko 8 fun w eX H=>?_
    refine(aU (vs:=_) iw (H.obj (i:=2) E) G E E E E (ak.len _) (ak.one _) (by have:=(bT g3);rw[ak.len,af.len];omega) (af.pi_regs _ _ _ (by have:=(bT g3);omega)) fun w g9=>?_)
    have H:=H.chg g9 (i:=2) rfl
    try dsimp only[List.set]at H
    refine dh ?_
    refine de fun w H=>?_
    refine aB ?_
    exact jr I ⟨G.t,bU H [2,0,1,3,4,5,6,7] 8 E⟩
   refine bM (aB ?_)
   exact jr I ⟨G.t,bU H [2,0,1,3,4,5,6,7] 8 E⟩
  rintro g5 a w I ⟨G,H⟩
  unfold Sh.tO at I
  refine go 9 fun a w G H=>?_
  obtain rfl:=oI I
  refine er Bt G H ?_
  exact⟨E,bU H [0,4,5,6,7] 8 E⟩
 refine go 4 fun a w G H=>?_
 refine jm (pt c5 (ak.enc d4) 46::pt c6 (ak.enc d1) 46::pt b0 (af.enc (gx x0 s1 s3 s7 s9 e8 fe fU dy)) 203::pt c0 (b9.enc x1) 101::ai 0 s1 5 x0.ae.b_::ai 0 s3 23 da::(a_ da x0.ae.ah)::ai 0 dy 3 x0.bf::Lr) G H I [0,3,4,5,6,7] (fun g0 u=>(85,.bool g0)::u) (fun l9 I l0 G H=>?_) fun g0 a w I G H=>?_
 ·exact lf
 replace I:Sh.mP x0 x1 d1 d4 g0=_:=I
 unfold Sh.mP at I
 refine aB ?_
 refine cc I (fun i6 I=>?_) fun i6 I=>?_
 ·refine go 7 fun a w G H=>?_
  obtain rfl:=oI I
  refine er Bt G H ?_
  exact⟨E,bU H [2,4,5,6,7] 8 E⟩
 refine go 8 fun a w G H=>?_
 obtain⟨k4,k1,I⟩:=adu I
 have j4:=Vx k1 H 
 refine cl Tryz.call239 j4 ?_
 rintro v w ⟨rfl,H⟩ a G
 refine go 9 fun k2 a w G H=>?_
 refine aM G H I (fun F x a w=>match x with|g6=>Fr 104 [(11,.int .i64 k4.2),(4,.int .i64 0),(5,.int .i64 0)] a∧au w (pt b0 (af.enc (af.mk (bu.mk x0.ae.bp s1 s3 s7 s9) e8 fe (some fU) g6 dy x0.at_ x0.steps x0.done)) 203::ai 0 s1 5 x0.ae.b_::ai 0 s3 23 da::(a_ da x0.ae.ah)::ai 0 dy 3 x0.bf::Lr)) (fun m0 I l1 G H=>?_) ?_
 ·refine go 6 fun a w G H=>?_
  refine cc I (fun i7 I=>?_) fun i7 I=>?_
  ·refine dT H [0,1,2,3,4,5,6,7,8] 9 fun K=>?_
   obtain⟨m4,g4,I⟩:=adu I
   refine fc [0,1,2,3,4,5,6] fun a G=>?_
   refine ko 7 fun w eX H=>?_
   refine(aU (vs:=_) iw (H.obj (i:=3) E) G E E E E (ak.len _) (ak.one _) (by have:=(bT g4);rw[ak.len,af.len];omega) (af.pi_regs _ _ _ (by have:=(bT g4);omega)) fun w i0=>?_)
   have H:=H.chg i0 (i:=3) rfl
   try dsimp only[List.set]at H
   refine dh ?_
   refine de fun w H=>?_
   exact lf
  exact lf
 rintro g6 a w I ⟨G,H⟩
 unfold Sh.tP at I
 refine go 9 fun a w G H=>?_
 obtain rfl:=oI I
 refine er Bt G H ?_
 exact⟨E,H⟩
theorem jP{x0:aj}{x1:b9}{s1 s3:SV}{da:List SV}{s7 s9 e8 fe:SV}{fU:Nat}{dy:SV}{b0:Nat}{out:(Int×Int)}{w0:World}{Bf:World→Prop}{Lr:List dw}(I:Sh.gX x0 x1=some out)(H:au w0 (pt b0 (af.enc (gx x0 s1 s3 s7 s9 e8 fe fU dy)) 203::ai 0 s1 5 x0.ae.b_::ai 0 s3 23 da::(a_ da x0.ae.ah)::ai 0 dy 3 x0.bf::Lr))(S:∀ w,au w Lr→Bf w)(q6:bw (cn (X:=UInt8) (a_ da x0.ae.ah).holds') da x0.ae.ah)(f8:cn Bf s7 x0.ae.data)(f10:cn Bf s9 x0.ae.sizes)(f12:cn Bf e8 x0.code)(f14:cn Bf fe x0.dq)(f16:jk Bf fU x0.cg):Calls Tryz.prog 211 #[.pointer (some ⟨b0,0,none⟩),.agg (b9.enc x1).toArray] w0 (gf fun v w'=>v = .tuple #[.int .i64 out.1,.int .i64 out.2]∧au w' (pt b0 (af.enc (gx x0 s1 s3 s7 s9 e8 fe fU dy)) 203::ai 0 s1 5 x0.ae.b_::ai 0 s3 23 da::(a_ da x0.ae.ah)::ai 0 dy 3 x0.bf::Lr)):=by
 unfold Sh.gX at I
 refine ce Tryz.func211 Tryz.ntmps211 fun a G=>?_
 refine go 8 fun c2 a w G H=>?_
 refine aM G H I (fun F x a w=>match x with|(c5,c6)=>∃ (d3:Nat) (d4:Nat),Fr 104 [(6,.pointer (some ⟨d3,0,none⟩)),(7,.pointer (some ⟨d4,0,none⟩)),(3,.pointer (some ⟨c2,0,none⟩)),(4,.int .i64 0),(5,.int .i64 0)] a∧au w (pt d3 (ak.enc c5) 46::pt d4 (ak.enc c6) 46::pt b0 (af.enc (gx x0 s1 s3 s7 s9 e8 fe fU dy)) 203::pt c2 (b9.enc x1) 101::ai 0 s1 5 x0.ae.b_::ai 0 s3 23 da::(a_ da x0.ae.ah)::ai 0 dy 3 x0.bf::Lr)) (fun j8 I j0 G H=>?_) ?_
 ·refine dT H [0,1,2,3,4,5] 6 fun K=>?_
  obtain⟨k6,j7,I⟩:=adu I
  refine fc [0,1,2,3,4,5,6,7,8] fun a G=>?_
  refine wE K 9 10 11 ads E E ?_ ?_ ?_
  ·refine bZ G 9 E E E E E fun w eX H=>?_
   obtain⟨d5,d0,I⟩:=adu I
   have c9:=cE d0 (f_ H [1,2,3,4,5,0] 6) (Bf:=Bf) (tb S) q6 f8 f10 f12 f14 f16
   refine dl om c9 ?_
   rintro v w ⟨rfl,H⟩
   refine ds [5,0,1,2,3,4] 6 fun a G=>?_
   refine fN K 10 11 ads E E ?_ ?_
   ·refine bZ G 10 E E E E E fun w eX H=>?_
    refine(bI z46 (zs:=ak.zero.enc) E E fun c0 w d1 c3=>?_)
    have H:=H.plus c3
    try dsimp only[List.set]at H
    refine ds [0,6,1,2,3,4,5] 7 fun a G=>?_
    refine dx 11 fun w eX H=>?_
    refine(bI z46 (zs:=ak.zero.enc) E E fun c1 w d2 c4=>?_)
    have H:=H.plus c4
    try dsimp only[List.set]at H
    refine ds [0,1,7,2,3,4,5,6] 8 fun a G=>?_
    refine ko 12 fun w eX H=>?_
    refine(aU (vs:=_) iw (H.obj (i:=1) E) G E E E E (ak.len _) (ak.one _) (by first|(rw[ak.len,ak.len];decide)|(rw[ak.len];decide)) (bF ((ak.len _).trans (ak.len _).symm)) fun w c7=>?_)
    have H:=H.chg c7 (i:=1) rfl
    try dsimp only[List.set]at H
    refine dh ?_
    refine ko 13 fun w eX H=>?_
    refine(aU (vs:=_) iw (H.obj (i:=0) E) G E E E E (ak.len _) (ak.one _) (by first|(rw[ak.len,ak.len];decide)|(rw[ak.len];decide)) (bF ((ak.len _).trans (ak.len _).symm)) fun w c8=>?_)
    have H:=H.chg c8 (i:=0) rfl
    try dsimp only[List.set]at H
    refine dh ?_
    refine de fun w H=>?_
    refine aB ?_
    exact jr I ⟨c0,c1,G.t,bU H [1,0,2,7,3,4,5,6] 8 E⟩
   refine bZ G 11 E E E E E fun w eX H=>?_
   refine(bI z46 (zs:=ak.zero.enc) E E fun c1 w d2 c4=>?_)
   have H:=H.plus c4
   try dsimp only[List.set]at H
   refine ds [0,6,1,2,3,4,5] 7 fun a G=>?_
   refine dx 10 fun w eX H=>?_
   refine(bI z46 (zs:=ak.zero.enc) E E fun c0 w d1 c3=>?_)
   have H:=H.plus c3
   try dsimp only[List.set]at H
   refine ds [0,1,7,2,3,4,5,6] 8 fun a G=>?_
   refine ko 12 fun w eX H=>?_
   refine(aU (vs:=_) iw (H.obj (i:=0) E) G E E E E (ak.len _) (ak.one _) (by first|(rw[ak.len,ak.len];decide)|(rw[ak.len];decide)) (bF ((ak.len _).trans (ak.len _).symm)) fun w c7=>?_)
   have H:=H.chg c7 (i:=0) rfl
   try dsimp only[List.set]at H
   refine dh ?_
   refine ko 13 fun w eX H=>?_
   refine(aU (vs:=_) iw (H.obj (i:=1) E) G E E E E (ak.len _) (ak.one _) (by first|(rw[ak.len,ak.len];decide)|(rw[ak.len];decide)) (bF ((ak.len _).trans (ak.len _).symm)) fun w c8=>?_)
   have H:=H.chg c8 (i:=1) rfl
   try dsimp only[List.set]at H
   refine dh ?_
   refine de fun w H=>?_
   refine aB ?_
   exact jr I ⟨c0,c1,G.t,bU H [0,1,2,7,3,4,5,6] 8 E⟩
  ·refine bZ G 10 E E E E E fun w eX H=>?_
   refine(bI z46 (zs:=ak.zero.enc) E E fun c0 w d1 c3=>?_)
   have H:=H.plus c3
   try dsimp only[List.set]at H
   refine ds [0,1,2,3,4,5,6] 7 fun a G=>?_
   refine fN K 9 11 ads E E ?_ ?_
   ·refine bZ G 9 E E E E E fun w eX H=>?_
    obtain⟨d5,d0,I⟩:=adu I
    have c9:=cE d0 (f_ H [2,3,4,5,6,0,1] 7) (Bf:=Bf) (tb S) q6 f8 f10 f12 f14 f16
    refine dl om c9 ?_
    rintro v w ⟨rfl,H⟩
    refine ds [5,6,0,1,2,3,4] 7 fun a G=>?_
    refine dx 11 fun w eX H=>?_
    refine(bI z46 (zs:=ak.zero.enc) E E fun c1 w d2 c4=>?_)
    have H:=H.plus c4
    try dsimp only[List.set]at H
    refine ds [0,6,7,1,2,3,4,5] 8 fun a G=>?_
    refine ko 12 fun w eX H=>?_
    refine(aU (vs:=_) iw (H.obj (i:=6) E) G E E E E (ak.len _) (ak.one _) (by first|(rw[ak.len,ak.len];decide)|(rw[ak.len];decide)) (bF ((ak.len _).trans (ak.len _).symm)) fun w c7=>?_)
    have H:=H.chg c7 (i:=6) rfl
    try dsimp only[List.set]at H
    refine dh ?_
    refine ko 13 fun w eX H=>?_
    refine(aU (vs:=_) iw (H.obj (i:=0) E) G E E E E (ak.len _) (ak.one _) (by first|(rw[ak.len,ak.len];decide)|(rw[ak.len];decide)) (bF ((ak.len _).trans (ak.len _).symm)) fun w c8=>?_)
    have H:=H.chg c8 (i:=0) rfl
    try dsimp only[List.set]at H
    refine dh ?_
    refine de fun w H=>?_
    refine aB ?_
    exact jr I ⟨c0,c1,G.t,bU H [6,0,1,7,2,3,4,5] 8 E⟩
   refine bZ G 11 E E E E E fun w eX H=>?_
   refine(bI z46 (zs:=ak.zero.enc) E E fun c1 w d2 c4=>?_)
   have H:=H.plus c4
   try dsimp only[List.set]at H
   refine ds [0,1,2,3,4,5,6,7] 8 fun a G=>?_
   refine dx 9 fun w eX H=>?_
   obtain⟨d5,d0,I⟩:=adu I
   have c9:=cE d0 (f_ H [3,4,5,6,7,0,1,2] 8) (Bf:=Bf) (tb S) q6 f8 f10 f12 f14 f16
   refine dl om c9 ?_
   rintro v w ⟨rfl,H⟩
   refine ds [5,6,7,0,1,2,3,4] 8 fun a G=>?_
   refine ko 12 fun w eX H=>?_
   refine(aU (vs:=_) iw (H.obj (i:=6) E) G E E E E (ak.len _) (ak.one _) (by first|(rw[ak.len,ak.len];decide)|(rw[ak.len];decide)) (bF ((ak.len _).trans (ak.len _).symm)) fun w c7=>?_)
   have H:=H.chg c7 (i:=6) rfl
   try dsimp only[List.set]at H
   refine dh ?_
   refine ko 13 fun w eX H=>?_
   refine(aU (vs:=_) iw (H.obj (i:=5) E) G E E E E (ak.len _) (ak.one _) (by first|(rw[ak.len,ak.len];decide)|(rw[ak.len];decide)) (bF ((ak.len _).trans (ak.len _).symm)) fun w c8=>?_)
   have H:=H.chg c8 (i:=5) rfl
   try dsimp only[List.set]at H
   refine dh ?_
   refine de fun w H=>?_
   refine aB ?_
   exact jr I ⟨c0,c1,G.t,bU H [6,5,0,7,1,2,3,4] 8 E⟩
  refine bZ G 11 E E E E E fun w eX H=>?_
  refine(bI z46 (zs:=ak.zero.enc) E E fun c1 w d2 c4=>?_)
  have H:=H.plus c4
  try dsimp only[List.set]at H
  refine ds [0,1,2,3,4,5,6] 7 fun a G=>?_
  refine fN K 9 10 ads E E ?_ ?_
  ·refine bZ G 9 E E E E E fun w eX H=>?_
   obtain⟨d5,d0,I⟩:=adu I
   have c9:=cE d0 (f_ H [2,3,4,5,6,0,1] 7) (Bf:=Bf) (tb S) q6 f8 f10 f12 f14 f16
   refine dl om c9 ?_
   rintro v w ⟨rfl,H⟩
   refine ds [5,6,0,1,2,3,4] 7 fun a G=>?_
   refine dx 10 fun w eX H=>?_
   refine(bI z46 (zs:=ak.zero.enc) E E fun c0 w d1 c3=>?_)
   have H:=H.plus c3
   try dsimp only[List.set]at H
   refine ds [0,6,7,1,2,3,4,5] 8 fun a G=>?_
   refine ko 12 fun w eX H=>?_
   refine(aU (vs:=_) iw (H.obj (i:=0) E) G E E E E (ak.len _) (ak.one _) (by first|(rw[ak.len,ak.len];decide)|(rw[ak.len];decide)) (bF ((ak.len _).trans (ak.len _).symm)) fun w c7=>?_)
   have H:=H.chg c7 (i:=0) rfl
   try dsimp only[List.set]at H
   refine dh ?_
   refine ko 13 fun w eX H=>?_
   refine(aU (vs:=_) iw (H.obj (i:=6) E) G E E E E (ak.len _) (ak.one _) (by first|(rw[ak.len,ak.len];decide)|(rw[ak.len];decide)) (bF ((ak.len _).trans (ak.len _).symm)) fun w c8=>?_)
   have H:=H.chg c8 (i:=6) rfl
   try dsimp only[List.set]at H
   refine dh ?_
   refine de fun w H=>?_
   refine aB ?_
   exact jr I ⟨c0,c1,G.t,bU H [0,6,1,7,2,3,4,5] 8 E⟩
  refine bZ G 10 E E E E E fun w eX H=>?_
  refine(bI z46 (zs:=ak.zero.enc) E E fun c0 w d1 c3=>?_)
  have H:=H.plus c3
  try dsimp only[List.set]at H
  refine ds [0,1,2,3,4,5,6,7] 8 fun a G=>?_
  refine dx 9 fun w eX H=>?_
  obtain⟨d5,d0,I⟩:=adu I
  have c9:=cE d0 (f_ H [3,4,5,6,7,0,1,2] 8) (Bf:=Bf) (tb S) q6 f8 f10 f12 f14 f16
  refine dl om c9 ?_
  rintro v w ⟨rfl,H⟩
  refine ds [5,6,7,0,1,2,3,4] 8 fun a G=>?_
  refine fc [12,13] fun a G=>?_
  refine de fun w H=>?_
  refine aB ?_
  exact jr I ⟨c0,c1,G.t,bU H [5,6,0,7,1,2,3,4] 8 E⟩
 rintro⟨c5,c6⟩ a w I ⟨d3,d4,G,H⟩
 replace I:Sh.pX x1 c5 c6=_:=I
 unfold Sh.pX at I
 refine go 7 fun a w G H=>?_
 refine jm (pt b0 (af.enc (gx x0 s1 s3 s7 s9 e8 fe fU dy)) 203::pt c2 (b9.enc x1) 101::ai 0 s1 5 x0.ae.b_::ai 0 s3 23 da::(a_ da x0.ae.ah)::ai 0 dy 3 x0.bf::Lr) G H I [3,4,5] (fun d6 u=>(8,.bool d6)::u) (fun j9 I g3 G H=>?_) fun d6 a w I G H=>?_
 ·refine go 2 fun a w G H=>?_
  refine jm (pt d3 (ak.enc c5) 46::pt d4 (ak.enc c6) 46::pt b0 (af.enc (gx x0 s1 s3 s7 s9 e8 fe fU dy)) 203::pt c2 (b9.enc x1) 101::ai 0 s1 5 x0.ae.b_::ai 0 s3 23 da::(a_ da x0.ae.ah)::ai 0 dy 3 x0.bf::Lr) G H I [3,4,5,6,7,8] (fun d7 u=>(20,.bool d7)::u) (fun k0 I j1 G H=>?_) fun d7 a w I G H=>?_
  ·refine go 2 fun a w G H=>?_
   obtain⟨k7,i5,I⟩:=adu I
   have i0:=cZ i5 H 
   refine cl ou i0 ?_
   rintro v w ⟨rfl,H⟩ a G
   refine go 1 fun a w G H=>?_
   refine gs I (fun g4 I=>?_) fun g4 I=>?_
   ·refine go 1 fun a w G H=>?_
    obtain⟨k8,i6,I⟩:=adu I
    have i1:=cZ i6 H 
    refine dA G E E E g4 E E (aS (xs:=[.tmp 24]) ou G E E i1 fun v w hR=>?_)
    obtain⟨rfl,H⟩:=hR
    intro a G
    exact lf
   exact lf
  replace I:Sh.pZ x1 c5 c6 d7=_:=I
  unfold Sh.pZ at I
  refine aB ?_
  refine cc I (fun g5 I=>?_) fun g5 I=>?_
  ·refine go 9 fun a w G H=>?_
   obtain⟨k9,i7,I⟩:=adu I
   have i2:=qI i7 H 
   refine cl Tryz.call249 i2 ?_
   rintro v w ⟨rfl,H⟩ a G
   exact lf
  refine aH ?_
  refine jm (pt d3 (ak.enc c5) 46::pt d4 (ak.enc c6) 46::pt b0 (af.enc (gx x0 s1 s3 s7 s9 e8 fe fU dy)) 203::pt c2 (b9.enc x1) 101::ai 0 s1 5 x0.ae.b_::ai 0 s3 23 da::(a_ da x0.ae.ah)::ai 0 dy 3 x0.bf::Lr) G H I [3,4,5,6,7,8] (fun d8 u=>(36,.bool d8)::u) (fun k1 I j2 G H=>?_) fun d8 a w I G H=>?_
  ·exact lf
  replace I:Sh.qA x1 c5 c6 d8=_:=I
  unfold Sh.qA at I
  refine aB ?_
  refine cc I (fun g6 I=>?_) fun g6 I=>?_
  ·refine go 7 fun a w G H=>?_
   obtain rfl:=oI I
   have I:=bB g3
   subst I
   refine er Bz G H ?_
   exact⟨E,bU H [2,4,5,6,7] 8 E⟩
  refine aH ?_
  refine jm (pt d3 (ak.enc c5) 46::pt d4 (ak.enc c6) 46::pt b0 (af.enc (gx x0 s1 s3 s7 s9 e8 fe fU dy)) 203::pt c2 (b9.enc x1) 101::ai 0 s1 5 x0.ae.b_::ai 0 s3 23 da::(a_ da x0.ae.ah)::ai 0 dy 3 x0.bf::Lr) G H I [3,4,5,6,7,8] (fun d9 u=>(49,.bool d9)::u) (fun k2 I j3 G H=>?_) fun d9 a w I G H=>?_
  ·refine go 3 fun a w G H=>?_
   obtain⟨l0,i8,I⟩:=adu I
   have i3:=pE i8 H 
   refine cl Tryz.call250 i3 ?_
   rintro v w ⟨rfl,H⟩ a G
   exact lf
  replace I:Sh.qB x1 c5 c6 d9=_:=I
  unfold Sh.qB at I
  refine aB ?_
  refine cc I (fun g7 I=>?_) fun g7 I=>?_
  ·refine go 8 fun a w G H=>?_
   refine jm (pt d3 (ak.enc c5) 46::pt d4 (ak.enc c6) 46::pt b0 (af.enc (gx x0 s1 s3 s7 s9 e8 fe fU dy)) 203::pt c2 (b9.enc x1) 101::ai 0 s1 5 x0.ae.b_::ai 0 s3 23 da::(a_ da x0.ae.ah)::ai 0 dy 3 x0.bf::Lr) G H I [3,4,5,6,7,8] (fun g0 u=>(9,.int .i64 g0)::u) (fun k3 I j4 G H=>?_) fun g0 a w I G H=>?_
   ·refine aH ?_
    refine jm (pt d3 (ak.enc c5) 46::pt d4 (ak.enc c6) 46::pt b0 (af.enc (gx x0 s1 s3 s7 s9 e8 fe fU dy)) 203::pt c2 (b9.enc x1) 101::ai 0 s1 5 x0.ae.b_::ai 0 s3 23 da::(a_ da x0.ae.ah)::ai 0 dy 3 x0.bf::Lr) G H I [3,4,5,6,7,8,9] (fun g1 u=>(65,.bool g1)::u) (fun k4 I j5 G H=>?_) fun g1 a w I G H=>?_
    ·exact lf
    replace I:Sh.qD x1 g1=_:=I
    unfold Sh.qD at I
    exact lf
   replace I:Sh.qC c5 c6 g0=_:=I
   unfold Sh.qC at I
   refine go 7 fun a w G H=>?_
   obtain⟨l1,i9,I⟩:=adu I
   have i4:=qI i9 H 
   refine cl Tryz.call249 i4 ?_
   rintro v w ⟨rfl,H⟩ a G
   exact lf
  refine aH ?_
  refine jm (pt b0 (af.enc (gx x0 s1 s3 s7 s9 e8 fe fU dy)) 203::pt c2 (b9.enc x1) 101::ai 0 s1 5 x0.ae.b_::ai 0 s3 23 da::(a_ da x0.ae.ah)::ai 0 dy 3 x0.bf::Lr) G H I [3,4,5,8] (fun g2 u=>(74,.bool g2)::u) (fun k5 I j6 G H=>?_) fun g2 a w I G H=>?_
  ·exact lf
  replace I:Sh.qE x1 g2=_:=I
  unfold Sh.qE at I
  refine aB ?_
  refine cc I (fun g8 I=>?_) fun g8 I=>?_
  ·exact lf
  refine go 7 fun a w G H=>?_
  obtain rfl:=oI I
  have I:=bB g3
  subst I
  refine er Bz G H ?_
  exact⟨E,bU H [0,2,3,4,5] 6 E⟩
 replace I:Sh.pY x1 d6=_:=I
 unfold Sh.pY at I
 refine go 7 fun a w G H=>?_
 refine cc I (fun g9 I=>?_) fun g9 I=>?_
 ·refine go 9 fun a w G H=>?_
  obtain rfl:=oI I
  refine er Bz G H ?_
  exact⟨E,bU H [0,2,3,4,5] 6 E⟩
 refine go 9 fun a w G H=>?_
 obtain rfl:=oI I
 refine er Bz G H ?_
 exact⟨E,bU H [0,2,3,4,5] 6 E⟩
theorem iU{x0:List (List UInt8)}{s1:SV}{EA:List SV}{out:List (List UInt8)}{w0:World}{Bf:World→Prop}{Lr:List dw}(I:Sh.iH x0=some out)(H:au w0 (Lr))(S:∀ w,au w Lr→Bf w)(f3:cn Bf s1 EA)(q4:bw (cn (X:=UInt8) Bf) EA x0):Calls Tryz.prog 143 #[(s1).v] w0 (gf fun v w'=>∃ (d6:SV) (c3:List SV),v=(d6).v∧bw (cn (X:=UInt8) (a_ c3 out).holds') c3 out∧au w' (ai 0 d6 23 c3::(a_ c3 out)::Lr)):=by
 unfold Sh.iH at I
 refine ce Tryz.func143 Tryz.ntmps143 fun a G=>?_
 refine go 11 fun a w G H=>?_
 refine aM G H I (fun F x a w=>match x with|c8=>∃ (c5:SV) (c1:List SV),bw (cn (X:=UInt8) (a_ c1 c8).holds') c1 c8∧Fr 19 [(3,(c5).v),(2,(SV.nil).v)] a∧au w (ai 0 c5 23 c1::(a_ c1 c8)::Lr)) (fun i2 I i0 G H=>?_) ?_
 ·refine go 8 fun a w G H=>?_
  have g5:bw (cn (X:=UInt8) (a_ [] []).holds') ([]:List SV) ([]:List (List UInt8)):=bw.nil
  have H:=mP H
  have H:=H.rowNil (X:=SV) 0 23
  refine aY G H I (fun F x a w=>match x with|(c2,d1)=>∃ (c6:SV) (c0:List SV),bw (cn (X:=UInt8) (a_ c0 c2).holds') c0 c2∧Fr 19 [(3,(c6).v),(8,.int .i64 d1),(2,(SV.nil).v),(6,(s1).v),(7,.int .i64 (x0.length:Int))] a∧au w (ai 0 c6 23 c0::(a_ c0 c2)::Lr)) (fun G H=>⟨SV.nil,[],g5,G.to ⟨E,E,E,E,E,trivial⟩,H⟩) ?_
  rintro⟨c2,d1⟩ a w i3 I d8 ⟨c6,c0,d0,G,H⟩
  replace I:Sh.nW x0 c2 d1=_:=I
  unfold Sh.nW at I
  refine go 6 fun a w G H=>?_
  refine cc I (fun d9 I=>?_) fun d9 I=>?_
  ·obtain⟨i4,d2,I⟩:=adu I
   have d3:=aL d2
   obtain⟨i1,g9,d5⟩:=bw.getr q4 d3.2
   have g8:=bw.bd q4 (bA d2)
   refine go 14 fun a w G H=>?_
   obtain⟨i5,g1,I⟩:=adu I
   have g0:=cU g1 H (Bf:=Bf) (tb S) d5
   refine cl rM g0 ?_
   rintro v w ⟨c7,rfl,H⟩ a G
   refine aN G E E E (bL (X:=SV) (y:=c7) AZ uh E E E E G E E E fun g2 w g3 c9=>?_)
   have H:=H.plus c9
   try dsimp only[List.set]at H
   intro a G
   obtain⟨d7,c4,I⟩:=adu I
   refine aN G E E E (fS (X:=SV) c4 d0.len E AZ uh E E E E G E E E (H.own (X:=SV) (i:=2) E) (H.ptS (X:=SV) (i:=0) (n:=1) (c:=1) E E E (aah _)) fun g7 w d4=>?_)
   have H:=H.chg d4 (i:=2) rfl
   try dsimp only[List.set]at H
   have H:=tO (f_ H [3,1,0,2] 4) (cX c4).2
   have g6:bw (cn (X:=UInt8) (a_ (c0 ++ [c7]) d7).holds') (c0 ++ [c7]) d7:=lX (by rw[(cX c4).2];simp[d0.len])
   try dsimp only[List.set]at H
   intro a G
   refine go 9 fun a w G H=>?_
   exact jr I ⟨g7,(c0 ++ [c7]),g6,G.t,bU H [2,0] 3 E⟩
  refine go 5 fun a w G H=>?_
  obtain rfl:=oI I
  have I:=d8 _ rfl
  subst I
  exact⟨c2,E,c6,c0,d0,G.to ⟨E,E,trivial⟩,H⟩
 rintro c8 a w I ⟨c5,c1,g4,G,H⟩
 unfold Sh.JM at I
 refine go 8 fun a w G H=>?_
 obtain rfl:=oI I
 refine aT Tryz.results143 G E ?_
 exact⟨c5,c1,E,g4,H⟩
theorem eG{x0:aj}{s1 s3:SV}{da:List SV}{s7 s9 e8 fe:SV}{fU:Nat}{dy:SV}{b0:Nat}{out:bj}{w0:World}{Bf:World→Prop}{Lr:List dw}(I:Sh.bG x0=some out)(H:au w0 (pt b0 (af.enc (gx x0 s1 s3 s7 s9 e8 fe fU dy)) 203::ai 0 s1 5 x0.ae.b_::ai 0 s3 23 da::(a_ da x0.ae.ah)::ai 0 dy 3 x0.bf::Lr))(S:∀ w,au w Lr→Bf w)(q6:bw (cn (X:=UInt8) (a_ da x0.ae.ah).holds') da x0.ae.ah)(f8:cn Bf s7 x0.ae.data)(f10:cn Bf s9 x0.ae.sizes)(f12:cn Bf e8 x0.code)(f14:cn Bf fe x0.dq)(f16:jk Bf fU x0.cg):Calls Tryz.prog 67 #[.pointer (some ⟨b0,0,none⟩)] w0 (gf fun v w'=>∃ (UQ:SV) (UR:SV) (E0:List SV) (UT:SV),v = .agg (ay.enc (il out UQ UR UT)).toArray∧bw (cn (X:=UInt8) (a_ E0 out.ah).holds') E0 out.ah∧au w' (ai 0 UQ 5 out.b_::ai 0 UR 23 E0::(a_ E0 out.ah)::ai 0 UT 3 out.bf::pt b0 (af.enc (gx x0 s1 s3 s7 s9 e8 fe fU dy)) 203::ai 0 s1 5 x0.ae.b_::ai 0 s3 23 da::(a_ da x0.ae.ah)::ai 0 dy 3 x0.bf::Lr)):=by
 unfold Sh.bG at I
 refine ce Tryz.func67 Tryz.ntmps67 fun a G=>?_
 refine go 6 fun c0 a w G H=>?_
 refine dT H [0,1,2,3,4,5] 6 fun K=>?_
 refine fc [0,1,2] fun a G=>?_
 refine aK G K 3 E ads E E E (fun w H=>(cC DN DR G E E (aQ _) (H.cells (i:=1) E (af.c_regs _)))) fun a G=>?_
 refine fc [4,5,6,7] fun a G=>?_
 refine aK G K 8 E ads E E E (fun w H=>(cC DQ DT G E E (aQ _) ((H.cells (i:=1) E (af.c_memory _)).sub 0 416 (bu.c_stack _)))) fun a G=>?_
 refine fc [9,10,11,12,13,15,16,17,18,19,21,22,23,24,26,27,28,29,30,31,32,33,34,35,36,37] fun a G=>?_
 refine dx 14 fun w eX H=>?_
 obtain⟨Vl,Qg,I⟩:=adu I
 have Pm:=cU Qg H (fun _ h=>h) (fun w H=>(H.rowS (X:=UInt8) (i:=2) rfl))
 refine dl rM Pm ?_
 rintro v w ⟨s84,rfl,H⟩
 refine ds [0,1,2,3,4,5,6] 7 fun a G=>?_
 refine dx 20 fun w eX H=>?_
 obtain⟨Gh,Dn,I⟩:=adu I
 have Pn:=iU Dn H (fun _ h=>h) (fun w H=>(H.rowS (X:=SV) (i:=4) rfl)) (q6.mono fun _ _ q=>q.mono fun w H=>H.hold 5 _ rfl)
 refine dl Tryz.call143 Pn ?_
 rintro v w ⟨s89,PW,rfl,q92,H⟩
 refine ds [0,1,2,3,4,5,6,7,8] 9 fun a G=>?_
 refine dx 25 fun w eX H=>?_
 obtain⟨Vp,Ql,I⟩:=adu I
 have Pv:=dV Ql H (fun _ h=>h) (fun w H=>(H.rowS (X:=Int) (i:=8) rfl))
 refine dl zK Pv ?_
 rintro v w ⟨U2,rfl,H⟩
 refine ds [0,1,2,3,4,5,6,7,8,9] 10 fun a G=>?_
 refine aK G K 38 E ads E E E (fun w H=>(aW z54 ri wK G (parts:=[(0,.tmp 6),(1,.tmp 11),(2,.tmp 17),(3,.tmp 23),(4,.tmp 28),(5,.tmp 32),(6,.tmp 36),(7,.tmp 40)]) E E (fB E (aQ _) (by rw[aQ,ay.len];decide) (ay.p_regs _ _) (fB E (aQ _) (by rw[aQ,ay.len];decide) (ay.p_stack _ _) (aO E E (by rw[ay.len];decide) (ay.gI _ _) (aO E E (by rw[ay.len];decide) (ay.ep _ _) (aO E E (by rw[ay.len];decide) (ay.gC _ _) (aO E E (by rw[ay.len];decide) (ay.s_at_ _ _) (aO E E (by rw[ay.len];decide) (ay.s_steps _ _) (aO E E (by rw[ay.len];decide) (ay.s_done _ _) bD)))))))))) fun a G=>?_
 refine fc [39] fun a G=>?_
 refine de fun w H=>?_
 refine go 2 fun a w G H=>?_
 obtain rfl:=oI I
 refine er Tryz.results67 G H ?_
 exact⟨s84,s89,PW,U2,E,q92,bU H [3,1,2,0,5,6,7,8,9] 10 E⟩
end Go.Proofs
end
section
namespace Go.Proofs
open Go.Fw Go.Fx
set_option maxRecDepth 10000
theorem lL{x0:fg}{out:List Int}{w0:World}{Lr:List dw}(I:Sh.JK x0=some out)(H:au w0 (Lr)):Calls Tryz.prog 393 #[.agg (fg.enc x0).toArray] w0 (gf fun v w'=>∃ (s1:SV),v=(s1).v∧au w' (ai 0 s1 3 out::Lr)):=by
 unfold Sh.JK at I
 refine ce Tryz.func393 Tryz.ntmps393 fun a G=>?_
 refine go 8 fun J3 a w G H=>?_
 refine aN G E E E (eZ (X:=Int) (ys:=[2,4,1,0,0]) (m:=5) Tryz.underlying52 kP E E E E (by decide) (by decide) G E E (iF.cons E (iF.cons E (iF.cons E (iF.cons E (iF.cons E iF.nil))))) fun CP w LH C0=>?_)
 have H:=H.plus C0
 try dsimp only[List.set]at H
 intro a G
 refine go 4 fun a w G H=>?_
 have H:=H.ptRow (lo:=0) (i:=0) (n:=5) (c:=5) rfl rfl (aaF _) rfl rfl (by decide)
 obtain rfl:=adp I
 refine aT Tryz.results393 G E ?_
 exact⟨⟨some ⟨CP,0,none⟩,5,5⟩,E,bU H [0] 2 E⟩
theorem mJ{x0:fg}{out:dm}{w0:World}{Lr:List dw}(I:Sh.JL x0=some out)(H:au w0 (Lr)):Calls Tryz.prog 394 #[.agg (fg.enc x0).toArray] w0 (gf fun v w'=>v = .agg (dm.enc out).toArray∧au w' (Lr)):=by
 unfold Sh.JL at I
 refine ce Tryz.func394 Tryz.ntmps394 fun a G=>?_
 refine go 12 fun J4 J5 a w G H=>?_
 refine aA G (aW Ah Tryz.underlying278 xt G (parts:=[(0,.tmp 4),(1,.tmp 6)]) E E (aO E E (by rw[dm.len];decide) (dm.s_lo _ _) (aO E E (by rw[dm.len];decide) (dm.s_hi _ _) bD))) E E E fun a G=>?_
 refine bC E E (aU (vs:=_) Tryz.sizeOf278 (H.obj (i:=0) E) G E E E E (dm.len _) (dm.one _) (by first|(rw[dm.len,dm.len];decide)|(rw[dm.len];decide)) (bF ((dm.len _).trans (dm.len _).symm)) fun w C6=>?_)
 have H:=H.chg C6 (i:=0) rfl
 try dsimp only[List.set]at H
 refine go 3 fun a w G H=>?_
 obtain rfl:=adp I
 refine er Tryz.results394 G H ?_
 exact⟨E,bU H [] 2 E⟩
theorem kY{x0:fM}{out:List Int}{w0:World}{Lr:List dw}(I:Sh.JI x0=some out)(H:au w0 (Lr)):Calls Tryz.prog 395 #[.agg (fM.enc x0).toArray] w0 (gf fun v w'=>∃ (s1:SV),v=(s1).v∧au w' (ai 0 s1 3 out::Lr)):=by
 unfold Sh.JI at I
 refine ce Tryz.func395 Tryz.ntmps395 fun a G=>?_
 refine go 10 fun J6 a w G H=>?_
 refine aN G E E E (eZ (X:=Int) (ys:=[3,x0.from_,4,0,0]) (m:=5) Tryz.underlying52 kP E E E E (by decide) (by decide) G E E (iF.cons E (iF.cons E (iF.cons E (iF.cons E (iF.cons E iF.nil))))) fun CQ w LJ C2=>?_)
 have H:=H.plus C2
 try dsimp only[List.set]at H
 intro a G
 refine go 4 fun a w G H=>?_
 have H:=H.ptRow (lo:=0) (i:=0) (n:=5) (c:=5) rfl rfl (aaF _) rfl rfl (by decide)
 obtain rfl:=adp I
 refine aT Tryz.results395 G E ?_
 exact⟨⟨some ⟨CQ,0,none⟩,5,5⟩,E,bU H [0] 2 E⟩
theorem lM{x0:fM}{out:dm}{w0:World}{Lr:List dw}(I:Sh.Nz x0=some out)(H:au w0 (Lr)):Calls Tryz.prog 396 #[.agg (fM.enc x0).toArray] w0 (gf fun v w'=>v = .agg (dm.enc out).toArray∧au w' (Lr)):=by
 unfold Sh.Nz at I
 refine ce Tryz.func396 Tryz.ntmps396 fun a G=>?_
 refine go 8 fun J7 J8 a w G H=>?_
 refine aA G (aW Ah Tryz.underlying278 xt G (parts:=[]) E E bD) E E E fun a G=>?_
 refine bC E E (aU (vs:=_) Tryz.sizeOf278 (H.obj (i:=0) E) G E E E E (dm.len _) (dm.one _) (by first|(rw[dm.len,dm.len];decide)|(rw[dm.len];decide)) (bF ((dm.len _).trans (dm.len _).symm)) fun w C6=>?_)
 have H:=H.chg C6 (i:=0) rfl
 try dsimp only[List.set]at H
 refine go 3 fun a w G H=>?_
 obtain rfl:=adp I
 refine er Tryz.results396 G H ?_
 exact⟨E,bU H [] 2 E⟩
theorem gU{x0:dc}{out:List Int}{w0:World}{Lr:List dw}(I:Sh.jH x0=some out)(H:au w0 (Lr)):Calls Tryz.prog 399 #[.agg (dc.enc x0).toArray] w0 (gf fun v w'=>∃ (U1:SV),v=(U1).v∧au w' (ai 0 U1 3 out::Lr)):=by
 unfold Sh.jH at I
 refine ce Tryz.func399 Tryz.ntmps399 fun a G=>?_
 refine go 8 fun J9 a w G H=>?_
 obtain⟨Va,P8,I⟩:=adu I
 refine aN G E E E (oO P8 Tryz.underlying52 kP E E E G E E E fun D5 w C4=>?_)
 have H:=H.plus C4
 try dsimp only[List.set]at H
 intro a G
 refine go 4 fun a w G H=>?_
 refine aM G H I (fun F x a w=>match x with|v138=>∃ (Fh:SV),Fr 16 [(3,(Fh).v),(2,(SV.nil).v)] a∧au w (ai 0 Fh 3 v138::Lr)) (fun QB I KQ G H=>?_) ?_
 ·refine go 8 fun a w G H=>?_
  refine aY G H I (fun F x a w=>match x with|(v157,v160)=>∃ (D4:SV),Fr 16 [(3,(D4).v),(8,.int .i64 v160),(2,(SV.nil).v),(7,.int .i64 x0.many)] a∧au w (ai 0 D4 3 v157::Lr)) (fun G H=>⟨D5,G.to ⟨E,E,E,E,trivial⟩,f_ H [0] 2⟩) ?_
  rintro⟨v157,v160⟩ a w QC I C5 ⟨D4,G,H⟩
  replace I:Sh.rZ x0 v157 v160=_:=I
  unfold Sh.rZ at I
  refine go 6 fun a w G H=>?_
  refine cc I (fun KT I=>?_) fun KT I=>?_
  ·obtain⟨Rl,Lt,I⟩:=adu I
   have G8:=aL Lt
   refine go 14 fun a w G H=>?_
   refine bC E E (dB (d:=0) (q:=1) Tryz.sizeOf3 (H.own (X:=Int) (i:=0) E) G8.2 G E E E E E (by decide) E fun w KR=>?_)
   have H:=H.chg KR (i:=0) rfl
   try dsimp only[List.set]at H
   refine go 8 fun a w G H=>?_
   exact jr I ⟨D4,G.t,H⟩
  refine go 5 fun a w G H=>?_
  obtain rfl:=adp I
  have I:=C5 _ rfl
  subst I
  exact⟨v157,E,D4,G.to ⟨E,E,trivial⟩,H⟩
 rintro v138 a w I ⟨Fh,G,H⟩
 unfold Sh.Gv at I
 refine go 8 fun a w G H=>?_
 obtain rfl:=adp I
 refine aT Tryz.results399 G E ?_
 exact⟨Fh,E,H⟩
theorem iD{x0:dc}{out:dm}{w0:World}{Lr:List dw}(I:Sh.Ny x0=some out)(H:au w0 (Lr)):Calls Tryz.prog 400 #[.agg (dc.enc x0).toArray] w0 (gf fun v w'=>v = .agg (dm.enc out).toArray∧au w' (Lr)):=by
 unfold Sh.Ny at I
 refine ce Tryz.func400 Tryz.ntmps400 fun a G=>?_
 refine go 14 fun J_ Ko a w G H=>?_
 obtain rfl:=adp I
 refine er Tryz.results400 G H ?_
 exact⟨E,bU H [] 2 E⟩
theorem Vu{x0:List UInt8}{x1:Int}{s1:SV}{out:Int}{w0:World}{Bf:World→Prop}{Lr:List dw}(I:Sh.aGa x0 x1=some out)(H:au w0 (Lr))(S:∀ w,au w Lr→Bf w)(f2:cn Bf s1 x0):Calls Tryz.prog 253 #[(s1).v,.int .i64 x1] w0 (gf fun v w'=>v = .int .i64 out∧au w' (Lr)):=by
 unfold Sh.aGa at I
 refine ce Tryz.func253 Tryz.ntmps253 fun a G=>?_
 refine go 13 fun a w G H=>?_
 refine jn G H I [4] (fun A7 u=>(5,.int .i64 A7)::u) (fun QB I KQ G H=>?_) fun A7 a w I G H=>?_
 ·refine go 6 fun a w G H=>?_
  refine aY G H I (fun F x a w=>match x with|(si,sj)=>Fr 43 [(5,.int .i64 si),(6,.int .i64 sj),(0,(s1).v),(4,.int .i64 0)] a∧au w (Lr)) (fun G H=>⟨G.to ⟨E,E,E,E,trivial⟩,H⟩) ?_
  rintro⟨si,sj⟩ a w QC I C5 ⟨G,H⟩
  replace I:Sh.xQ x0 si sj=_:=I
  unfold Sh.xQ at I
  refine go 9 fun a w G H=>?_
  refine cc I (fun KX I=>?_) fun KX I=>?_
  ·refine go 3 fun a w G H=>?_
   refine jm (Lr) G H I [0,4,6] (fun A8 u=>(5,.int .i64 A8)::u) (fun aax I T_ G H=>?_) fun A8 a w I G H=>?_
   ·obtain⟨HW,Uy,I⟩:=adu I
    refine go 7 fun a w G H=>?_
    refine aA G (tQ Tryz.underlying5 Tryz.underlying3 E G E E) E E E fun a G=>?_
    refine aA G (nV G E E E (by decide)) E E E fun a G=>?_
    refine go 4 fun a w G H=>?_
    refine jm (Lr) G H I [0,4,5,6] (fun yz u=>(7,.int .i64 yz)::u) (fun aay I Ua G H=>?_) fun yz a w I G H=>?_
    ·refine go 9 fun a w G H=>?_
     refine cc I (fun KY I=>?_) fun KY I=>?_
     ·obtain⟨Nl,Uz,I⟩:=adu I
      refine go 7 fun a w G H=>?_
      refine aA G (tQ Tryz.underlying5 Tryz.underlying3 E G E E) E E E fun a G=>?_
      refine aA G (zS G E E E) E E E fun a G=>?_
      exact lf
     exact lf
    replace I:Sh.aDp si yz=_:=I
    unfold Sh.aDp at I
    exact lf
   replace I:Sh.aG3 sj A8=_:=I
   unfold Sh.aG3 at I
   exact lf
  refine go 5 fun a w G H=>?_
  obtain rfl:=adp I
  have I:=C5 _ rfl
  subst I
  exact⟨si,E,G.to ⟨E,E,trivial⟩,H⟩
 replace I:Sh.IB A7=_:=I
 unfold Sh.IB at I
 exact lf
theorem Vs{x0 x1 out:Int}{w0:World}{Lr:List dw}(I:Sh.aIw x0 x1=some out)(H:au w0 (Lr)):Calls Tryz.prog 257 #[.int .i64 x0,.int .i64 x1] w0 (gf fun v w'=>v = .int .i64 out∧au w' (Lr)):=by
 unfold Sh.aIw at I
 refine ce Tryz.func257 Tryz.ntmps257 fun a G=>?_
 refine go 12 fun a w G H=>?_
 refine aA G (EK G E E E) E E E fun a G=>?_
 refine go 7 fun a w G H=>?_
 refine aA G (iV G E E E (by decide)) E E E fun a G=>?_
 refine aA G (EK G E E E) E E E fun a G=>?_
 refine go 14 fun a w G H=>?_
 refine aA G (iV G E E E (by decide)) E E E fun a G=>?_
 refine aA G (EK G E E E) E E E fun a G=>?_
 exact lf
end Go.Proofs
end
