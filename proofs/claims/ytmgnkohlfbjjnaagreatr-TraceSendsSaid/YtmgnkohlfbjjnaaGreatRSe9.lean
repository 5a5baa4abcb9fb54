/- Ground for the claim TraceSends. -/
import Derived.Test.YtmgnkohlfbjjnaaGreatRSe8
set_option linter.unusedVariables false
set_option linter.unusedSimpArgs false
set_option maxHeartbeats 4000000
section
namespace Go.Proofs
open Go.Fw Go.Fx
set_option maxRecDepth 10000
theorem hO{x0:ai}{x1:bg}{s1 s3:SV}{cu:List SV}{s7 s9 eK e7:SV}{eN:Nat}{dm:SV}{b0:Nat}{out:(Int×Int×ai)}{w0:World}{Bf:World→Prop}{Lr:List di}(I:Sh.cH x0 x1=some out)(H:au w0 (pt b0 (af.enc (gB x0 s1 s3 s7 s9 eK e7 eN dm)) 203::ak 0 s1 5 x0.ae.cq::ak 0 s3 23 cu::(a_ cu x0.ae.ah)::ak 0 dm 3 x0.a7::Lr))(S:∀ w,au w Lr→Bf w)(q6:cn (dj (X:=UInt8) (a_ cu x0.ae.ah).holds') cu x0.ae.ah)(f8:dj Bf s7 x0.ae.data)(f10:dj Bf s9 x0.ae.sizes)(f12:dj Bf eK x0.code)(f14:dj Bf e7 x0.dq)(f16:jl Bf eN x0.da):Calls Tryz.prog 204 #[.pointer (some ⟨b0,0,none⟩),.agg (bg.enc x1).toArray] w0 (fZ fun v w'=>v = .tuple #[.int .i64 out.1,.int .i64 out.2.1]∧au w' (pt b0 (af.enc (af.mk (bq.mk x0.ae.bh s1 s3 s7 s9) eK e7 (some eN) out.2.2.a8 dm x0.at_ x0.steps x0.done)) 203::ak 0 s1 5 x0.ae.cq::ak 0 s3 23 cu::(a_ cu x0.ae.ah)::ak 0 dm 3 x0.a7::Lr)):=by
 unfold Sh.cH at I
 refine ce Tryz.func204 Tryz.ntmps204 fun a G=>?_
 refine go 8 fun c0 a w G H=>?_
 refine aM G H I (fun F x a w=>match x with|(d5,d7)=>∃ (c5:Nat) (c6:Nat),Fr 104 [(6,.pointer (some ⟨c5,0,none⟩)),(7,.pointer (some ⟨c6,0,none⟩)),(0,.pointer (some ⟨b0,0,none⟩)),(3,.pointer (some ⟨c0,0,none⟩)),(4,.int .i64 0),(5,.int .i64 0)] a∧au w (pt c5 (aj.enc d5) 46::pt c6 (aj.enc d7) 46::pt b0 (af.enc (gB x0 s1 s3 s7 s9 eK e7 eN dm)) 203::pt c0 (bg.enc x1) 101::ak 0 s1 5 x0.ae.cq::ak 0 s3 23 cu::(a_ cu x0.ae.ah)::ak 0 dm 3 x0.a7::Lr)) (fun l3 I k5 G H=>?_) ?_
 ·refine dT H [0,1,2,3,4,5] 6 fun K=>?_
  obtain⟨m1,l2,I⟩:=ade I
  refine eL [0,1,2,3,4,5,6,7,8] fun a G=>?_
  refine vZ K 9 10 11 ada E E ?_ ?_ ?_
  ·refine cA G 9 E E E E E fun w ep H=>?_
   obtain⟨d6,d0,I⟩:=ade I
   have c9:=cH d0 (fU H [1,2,3,4,5,0] 6) (Bf:=Bf) (tb S) q6 f8 f10 f12 f14 f16
   refine dl nt c9 ?_
   rintro v w ⟨rfl,H⟩
   refine ds [5,0,1,2,3,4] 6 fun a G=>?_
   refine fM K 10 11 ada E E ?_ ?_
   ·refine cA G 10 E E E E E fun w ep H=>?_
    refine(bK z46 (zs:=aj.zero.enc) E E fun c1 w d2 c3=>?_)
    have H:=H.plus c3
    try dsimp only[List.set]at H
    refine ds [0,6,1,2,3,4,5] 7 fun a G=>?_
    refine dx 11 fun w ep H=>?_
    refine(bK z46 (zs:=aj.zero.enc) E E fun c2 w d3 c4=>?_)
    have H:=H.plus c4
    try dsimp only[List.set]at H
    refine ds [0,1,7,2,3,4,5,6] 8 fun a G=>?_
    refine kn 12 fun w ep H=>?_
    refine(aU (vs:=_) iw (H.obj (i:=1) E) G E E E E (aj.len _) (aj.one _) (by first|(rw[aj.len,aj.len];decide)|(rw[aj.len];decide)) (bF ((aj.len _).trans (aj.len _).symm)) fun w c7=>?_)
    have H:=H.chg c7 (i:=1) rfl
    try dsimp only[List.set]at H
    refine dh ?_
    refine kn 13 fun w ep H=>?_
    refine(aU (vs:=_) iw (H.obj (i:=0) E) G E E E E (aj.len _) (aj.one _) (by first|(rw[aj.len,aj.len];decide)|(rw[aj.len];decide)) (bF ((aj.len _).trans (aj.len _).symm)) fun w c8=>?_)
    have H:=H.chg c8 (i:=0) rfl
    try dsimp only[List.set]at H
    refine dh ?_
    refine de fun w H=>?_
    refine aB ?_
    exact jr I ⟨c1,c2,G.t,bS H [1,0,2,7,3,4,5,6] 8 E⟩
   refine cA G 11 E E E E E fun w ep H=>?_
   refine(bK z46 (zs:=aj.zero.enc) E E fun c2 w d3 c4=>?_)
   have H:=H.plus c4
   try dsimp only[List.set]at H
   refine ds [0,6,1,2,3,4,5] 7 fun a G=>?_
   refine dx 10 fun w ep H=>?_
   refine(bK z46 (zs:=aj.zero.enc) E E fun c1 w d2 c3=>?_)
   have H:=H.plus c3
   try dsimp only[List.set]at H
   refine ds [0,1,7,2,3,4,5,6] 8 fun a G=>?_
   refine kn 12 fun w ep H=>?_
   refine(aU (vs:=_) iw (H.obj (i:=0) E) G E E E E (aj.len _) (aj.one _) (by first|(rw[aj.len,aj.len];decide)|(rw[aj.len];decide)) (bF ((aj.len _).trans (aj.len _).symm)) fun w c7=>?_)
   have H:=H.chg c7 (i:=0) rfl
   try dsimp only[List.set]at H
   refine dh ?_
   refine kn 13 fun w ep H=>?_
   refine(aU (vs:=_) iw (H.obj (i:=1) E) G E E E E (aj.len _) (aj.one _) (by first|(rw[aj.len,aj.len];decide)|(rw[aj.len];decide)) (bF ((aj.len _).trans (aj.len _).symm)) fun w c8=>?_)
   have H:=H.chg c8 (i:=1) rfl
   try dsimp only[List.set]at H
   refine dh ?_
   refine de fun w H=>?_
   refine aB ?_
   exact jr I ⟨c1,c2,G.t,bS H [0,1,2,7,3,4,5,6] 8 E⟩
  ·refine cA G 10 E E E E E fun w ep H=>?_
   refine(bK z46 (zs:=aj.zero.enc) E E fun c1 w d2 c3=>?_)
   have H:=H.plus c3
   try dsimp only[List.set]at H
   refine ds [0,1,2,3,4,5,6] 7 fun a G=>?_
   refine fM K 9 11 ada E E ?_ ?_
   ·refine cA G 9 E E E E E fun w ep H=>?_
    obtain⟨d6,d0,I⟩:=ade I
    have c9:=cH d0 (fU H [2,3,4,5,6,0,1] 7) (Bf:=Bf) (tb S) q6 f8 f10 f12 f14 f16
    refine dl nt c9 ?_
    rintro v w ⟨rfl,H⟩
    refine ds [5,6,0,1,2,3,4] 7 fun a G=>?_
    refine dx 11 fun w ep H=>?_
    refine(bK z46 (zs:=aj.zero.enc) E E fun c2 w d3 c4=>?_)
    have H:=H.plus c4
    try dsimp only[List.set]at H
    refine ds [0,6,7,1,2,3,4,5] 8 fun a G=>?_
    refine kn 12 fun w ep H=>?_
    refine(aU (vs:=_) iw (H.obj (i:=6) E) G E E E E (aj.len _) (aj.one _) (by first|(rw[aj.len,aj.len];decide)|(rw[aj.len];decide)) (bF ((aj.len _).trans (aj.len _).symm)) fun w c7=>?_)
    have H:=H.chg c7 (i:=6) rfl
    try dsimp only[List.set]at H
    refine dh ?_
    refine kn 13 fun w ep H=>?_
    refine(aU (vs:=_) iw (H.obj (i:=0) E) G E E E E (aj.len _) (aj.one _) (by first|(rw[aj.len,aj.len];decide)|(rw[aj.len];decide)) (bF ((aj.len _).trans (aj.len _).symm)) fun w c8=>?_)
    have H:=H.chg c8 (i:=0) rfl
    try dsimp only[List.set]at H
    refine dh ?_
    refine de fun w H=>?_
    refine aB ?_
    exact jr I ⟨c1,c2,G.t,bS H [6,0,1,7,2,3,4,5] 8 E⟩
   refine cA G 11 E E E E E fun w ep H=>?_
   refine(bK z46 (zs:=aj.zero.enc) E E fun c2 w d3 c4=>?_)
   have H:=H.plus c4
   try dsimp only[List.set]at H
   refine ds [0,1,2,3,4,5,6,7] 8 fun a G=>?_
   refine dx 9 fun w ep H=>?_
   obtain⟨d6,d0,I⟩:=ade I
   have c9:=cH d0 (fU H [3,4,5,6,7,0,1,2] 8) (Bf:=Bf) (tb S) q6 f8 f10 f12 f14 f16
   refine dl nt c9 ?_
   rintro v w ⟨rfl,H⟩
   refine ds [5,6,7,0,1,2,3,4] 8 fun a G=>?_
   refine kn 12 fun w ep H=>?_
   refine(aU (vs:=_) iw (H.obj (i:=6) E) G E E E E (aj.len _) (aj.one _) (by first|(rw[aj.len,aj.len];decide)|(rw[aj.len];decide)) (bF ((aj.len _).trans (aj.len _).symm)) fun w c7=>?_)
   have H:=H.chg c7 (i:=6) rfl
   try dsimp only[List.set]at H
   refine dh ?_
   refine kn 13 fun w ep H=>?_
   refine(aU (vs:=_) iw (H.obj (i:=5) E) G E E E E (aj.len _) (aj.one _) (by first|(rw[aj.len,aj.len];decide)|(rw[aj.len];decide)) (bF ((aj.len _).trans (aj.len _).symm)) fun w c8=>?_)
   have H:=H.chg c8 (i:=5) rfl
   try dsimp only[List.set]at H
   refine dh ?_
   refine de fun w H=>?_
   refine aB ?_
   exact jr I ⟨c1,c2,G.t,bS H [6,5,0,7,1,2,3,4] 8 E⟩
  refine cA G 11 E E E E E fun w ep H=>?_
  refine(bK z46 (zs:=aj.zero.enc) E E fun c2 w d3 c4=>?_)
  have H:=H.plus c4
  try dsimp only[List.set]at H
  refine ds [0,1,2,3,4,5,6] 7 fun a G=>?_
  refine fM K 9 10 ada E E ?_ ?_
  ·refine cA G 9 E E E E E fun w ep H=>?_
   obtain⟨d6,d0,I⟩:=ade I
   have c9:=cH d0 (fU H [2,3,4,5,6,0,1] 7) (Bf:=Bf) (tb S) q6 f8 f10 f12 f14 f16
   refine dl nt c9 ?_
   rintro v w ⟨rfl,H⟩
   refine ds [5,6,0,1,2,3,4] 7 fun a G=>?_
   refine dx 10 fun w ep H=>?_
   refine(bK z46 (zs:=aj.zero.enc) E E fun c1 w d2 c3=>?_)
   have H:=H.plus c3
   try dsimp only[List.set]at H
   refine ds [0,6,7,1,2,3,4,5] 8 fun a G=>?_
   refine kn 12 fun w ep H=>?_
   refine(aU (vs:=_) iw (H.obj (i:=0) E) G E E E E (aj.len _) (aj.one _) (by first|(rw[aj.len,aj.len];decide)|(rw[aj.len];decide)) (bF ((aj.len _).trans (aj.len _).symm)) fun w c7=>?_)
   have H:=H.chg c7 (i:=0) rfl
   try dsimp only[List.set]at H
   refine dh ?_
   refine kn 13 fun w ep H=>?_
   refine(aU (vs:=_) iw (H.obj (i:=6) E) G E E E E (aj.len _) (aj.one _) (by first|(rw[aj.len,aj.len];decide)|(rw[aj.len];decide)) (bF ((aj.len _).trans (aj.len _).symm)) fun w c8=>?_)
   have H:=H.chg c8 (i:=6) rfl
   try dsimp only[List.set]at H
   refine dh ?_
   refine de fun w H=>?_
   refine aB ?_
   exact jr I ⟨c1,c2,G.t,bS H [0,6,1,7,2,3,4,5] 8 E⟩
  refine cA G 10 E E E E E fun w ep H=>?_
  refine(bK z46 (zs:=aj.zero.enc) E E fun c1 w d2 c3=>?_)
  have H:=H.plus c3
  try dsimp only[List.set]at H
  refine ds [0,1,2,3,4,5,6,7] 8 fun a G=>?_
  refine dx 9 fun w ep H=>?_
  obtain⟨d6,d0,I⟩:=ade I
  have c9:=cH d0 (fU H [3,4,5,6,7,0,1,2] 8) (Bf:=Bf) (tb S) q6 f8 f10 f12 f14 f16
  refine dl nt c9 ?_
  rintro v w ⟨rfl,H⟩
  refine ds [5,6,7,0,1,2,3,4] 8 fun a G=>?_
  refine eL [12,13] fun a G=>?_
  refine de fun w H=>?_
  refine aB ?_
  exact jr I ⟨c1,c2,G.t,bS H [5,6,0,7,1,2,3,4] 8 E⟩
 rintro⟨d5,d7⟩ a w I ⟨c5,c6,G,H⟩
 replace I:Sh.hW x0 x1 d5 d7=_:=I
 unfold Sh.hW at I
 refine go 2 fun a w G H=>?_
 refine aM G H I (fun F x a w=>match x with|d1=>Fr 104 [(0,.pointer (some ⟨b0,0,none⟩)),(3,.pointer (some ⟨c0,0,none⟩)),(4,.int .i64 0),(5,.int .i64 0),(6,.pointer (some ⟨c5,0,none⟩)),(7,.pointer (some ⟨c6,0,none⟩))] a∧au w (pt c6 (aj.enc d1) 46::pt c5 (aj.enc d5) 46::pt b0 (af.enc (gB x0 s1 s3 s7 s9 eK e7 eN dm)) 203::pt c0 (bg.enc x1) 101::ak 0 s1 5 x0.ae.cq::ak 0 s3 23 cu::(a_ cu x0.ae.ah)::ak 0 dm 3 x0.a7::Lr)) (fun l4 I k6 G H=>?_) ?_
 ·refine go 7 fun a w G H=>?_
  refine cc I (fun i1 I=>?_) fun i1 I=>?_
  ·refine aD ?_
   obtain⟨m5,j5,I⟩:=ade I
   have i8:=dL j5 H 
   refine cl oy i8 ?_
   rintro v w ⟨rfl,H⟩ a G
   refine go 3 fun a w G H=>?_
   exact jr I ⟨G.t,bS H [1,0,2,3,4,5,6,7] 8 E⟩
  refine bL (aB ?_)
  exact jr I ⟨G.t,bS H [1,0,2,3,4,5,6,7] 8 E⟩
 rintro d1 a w I ⟨G,H⟩
 unfold Sh.hX at I
 refine go 2 fun a w G H=>?_
 refine aM G H I (fun F x a w=>match x with|d4=>Fr 104 [(0,.pointer (some ⟨b0,0,none⟩)),(3,.pointer (some ⟨c0,0,none⟩)),(4,.int .i64 0),(5,.int .i64 0),(6,.pointer (some ⟨c5,0,none⟩)),(7,.pointer (some ⟨c6,0,none⟩))] a∧au w (pt c5 (aj.enc d4) 46::pt c6 (aj.enc d1) 46::pt b0 (af.enc (gB x0 s1 s3 s7 s9 eK e7 eN dm)) 203::pt c0 (bg.enc x1) 101::ak 0 s1 5 x0.ae.cq::ak 0 s3 23 cu::(a_ cu x0.ae.ah)::ak 0 dm 3 x0.a7::Lr)) (fun l5 I g7 G H=>?_) ?_
 ·refine go 7 fun a w G H=>?_
  refine cc I (fun i2 I=>?_) fun i2 I=>?_
  ·refine go 2 fun a w G H=>?_
   refine jm (pt c6 (aj.enc d1) 46::pt c5 (aj.enc d5) 46::pt b0 (af.enc (gB x0 s1 s3 s7 s9 eK e7 eN dm)) 203::pt c0 (bg.enc x1) 101::ak 0 s1 5 x0.ae.cq::ak 0 s3 23 cu::(a_ cu x0.ae.ah)::ak 0 dm 3 x0.a7::Lr) G H I [0,3,4,5,6,7] (fun d8 u=>(36,.bool d8)::u) (fun l6 I k7 G H=>?_) fun d8 a w I G H=>?_
   ·exact lf
   replace I:Sh.hY x0 x1 d1 d8=_:=I
   unfold Sh.hY at I
   refine aB ?_
   refine cc I (fun i3 I=>?_) fun i3 I=>?_
   ·refine aH ?_
    refine dT H [0,1,2,3,4,5,6,7] 8 fun K=>?_
    obtain⟨m2,g2,I⟩:=ade I
    refine eL [0,1,2,3,4,5,6] fun a G=>?_
    refine kn 7 fun w ep H=>?_
    refine(aU (vs:=_) iw (H.obj (i:=2) E) G E E E E (aj.len _) (aj.one _) (by have:=(bW g2);rw[aj.len,af.len];omega) (af.pi_regs _ _ _ (by have:=(bW g2);omega)) fun w g8=>?_)
    have H:=H.chg g8 (i:=2) rfl
    try dsimp only[List.set]at H
    refine dh ?_
    refine de fun w H=>?_
    refine go 8 fun a w G H=>?_
    obtain rfl:=oI I
    have I:=bA g7
    subst I
    refine er zp G H ?_
    exact⟨E,bS H [2,4,5,6,7] 8 E⟩
   refine go 3 fun a w G H=>?_
   obtain⟨m6,j6,I⟩:=ade I
   have i9:=dL j6 H 
   refine cl oy i9 ?_
   rintro v w ⟨rfl,H⟩ a G
   refine go 3 fun a w G H=>?_
   exact jr I ⟨G.t,bS H [1,0,2,3,4,5,6,7] 8 E⟩
  refine bL (aB ?_)
  exact jr I ⟨G.t,bS H [1,0,2,3,4,5,6,7] 8 E⟩
 rintro d4 a w I ⟨G,H⟩
 unfold Sh.tR at I
 refine go 3 fun a w G H=>?_
 refine jm (pt c5 (aj.enc d4) 46::pt c6 (aj.enc d1) 46::pt b0 (af.enc (gB x0 s1 s3 s7 s9 eK e7 eN dm)) 203::pt c0 (bg.enc x1) 101::ak 0 s1 5 x0.ae.cq::ak 0 s3 23 cu::(a_ cu x0.ae.ah)::ak 0 dm 3 x0.a7::Lr) G H I [0,3,4,5,6,7] (fun d9 u=>(50,.bool d9)::u) (fun l7 I k8 G H=>?_) fun d9 a w I G H=>?_
 ·refine go 2 fun a w G H=>?_
  obtain⟨m7,j7,I⟩:=ade I
  have j0:=dC j7 H 
  refine cl nW j0 ?_
  rintro v w ⟨rfl,H⟩ a G
  refine go 1 fun a w G H=>?_
  refine gs I (fun g1 I=>?_) fun g1 I=>?_
  ·refine go 1 fun a w G H=>?_
   obtain⟨m8,j8,I⟩:=ade I
   have j1:=dC j8 H 
   refine dD G E E E g1 E E (aS (xs:=[.tmp 48]) nW G E E j1 fun v w hR=>?_)
   obtain⟨rfl,H⟩:=hR
   intro a G
   exact lf
  exact lf
 replace I:Sh.mS x0 x1 d1 d4 d9=_:=I
 unfold Sh.mS at I
 refine aB ?_
 refine cc I (fun i4 I=>?_) fun i4 I=>?_
 ·refine go 10 fun a w G H=>?_
  obtain⟨k3,j9,I⟩:=ade I
  have j2:=SI j9 H 
  refine cl Tryz.call238 j2 ?_
  rintro v w ⟨rfl,H⟩ a G
  refine go 8 fun a w G H=>?_
  refine aM G H I (fun F x a w=>match x with|g5=>Fr 104 [(0,.pointer (some ⟨b0,0,none⟩)),(3,.pointer (some ⟨c0,0,none⟩)),(4,.int .i64 0),(5,.int .i64 0),(6,.pointer (some ⟨c5,0,none⟩)),(7,.pointer (some ⟨c6,0,none⟩)),(9,.int .i64 k3.2)] a∧au w (pt b0 (af.enc (af.mk (bq.mk x0.ae.bh s1 s3 s7 s9) eK e7 (some eN) g5 dm x0.at_ x0.steps x0.done)) 203::pt c5 (aj.enc d4) 46::pt c6 (aj.enc d1) 46::pt c0 (bg.enc x1) 101::ak 0 s1 5 x0.ae.cq::ak 0 s3 23 cu::(a_ cu x0.ae.ah)::ak 0 dm 3 x0.a7::Lr)) (fun l8 I k9 G H=>?_) ?_
  ·refine go 6 fun a w G H=>?_
   refine cc I (fun i5 I=>?_) fun i5 I=>?_
   ·refine dT H [0,1,2,3,4,5,6,7] 8 fun K=>?_
    refine eL [0,1,2,3,5,6] fun a G=>?_
    refine dx 4 fun w ep H=>?_
    obtain⟨m9,k0,I⟩:=ade I
    have j3:=dL k0 H 
    refine dl oy j3 ?_
    rintro v w ⟨rfl,H⟩
    refine ds [0,1,2,3,4,5,6,7] 8 fun a G=>?_
    obtain⟨m3,g3,I⟩:=ade I
    refine eL [7] fun a G=>?_
    refine kn 8 fun w ep H=>?_
    refine(aU (vs:=_) iw (H.obj (i:=2) E) G E E E E (aj.len _) (aj.one _) (by have:=(bW g3);rw[aj.len,af.len];omega) (af.pi_regs _ _ _ (by have:=(bW g3);omega)) fun w g9=>?_)
    have H:=H.chg g9 (i:=2) rfl
    try dsimp only[List.set]at H
    refine dh ?_
    refine de fun w H=>?_
    refine aB ?_
    exact jr I ⟨G.t,bS H [2,0,1,3,4,5,6,7] 8 E⟩
   refine bL (aB ?_)
   exact jr I ⟨G.t,bS H [2,0,1,3,4,5,6,7] 8 E⟩
  rintro g5 a w I ⟨G,H⟩
  unfold Sh.tS at I
  refine go 9 fun a w G H=>?_
  obtain rfl:=oI I
  refine er zp G H ?_
  exact⟨E,bS H [0,4,5,6,7] 8 E⟩
 refine go 4 fun a w G H=>?_
 refine jm (pt c5 (aj.enc d4) 46::pt c6 (aj.enc d1) 46::pt b0 (af.enc (gB x0 s1 s3 s7 s9 eK e7 eN dm)) 203::pt c0 (bg.enc x1) 101::ak 0 s1 5 x0.ae.cq::ak 0 s3 23 cu::(a_ cu x0.ae.ah)::ak 0 dm 3 x0.a7::Lr) G H I [0,3,4,5,6,7] (fun g0 u=>(85,.bool g0)::u) (fun l9 I l0 G H=>?_) fun g0 a w I G H=>?_
 ·exact lf
 replace I:Sh.mT x0 x1 d1 d4 g0=_:=I
 unfold Sh.mT at I
 refine aB ?_
 refine cc I (fun i6 I=>?_) fun i6 I=>?_
 ·refine go 7 fun a w G H=>?_
  obtain rfl:=oI I
  refine er zp G H ?_
  exact⟨E,bS H [2,4,5,6,7] 8 E⟩
 refine go 8 fun a w G H=>?_
 obtain⟨k4,k1,I⟩:=ade I
 have j4:=SC k1 H 
 refine cl Tryz.call239 j4 ?_
 rintro v w ⟨rfl,H⟩ a G
 refine go 9 fun k2 a w G H=>?_
 refine aM G H I (fun F x a w=>match x with|g6=>Fr 104 [(11,.int .i64 k4.2),(4,.int .i64 0),(5,.int .i64 0)] a∧au w (pt b0 (af.enc (af.mk (bq.mk x0.ae.bh s1 s3 s7 s9) eK e7 (some eN) g6 dm x0.at_ x0.steps x0.done)) 203::ak 0 s1 5 x0.ae.cq::ak 0 s3 23 cu::(a_ cu x0.ae.ah)::ak 0 dm 3 x0.a7::Lr)) (fun m0 I l1 G H=>?_) ?_
 ·refine go 6 fun a w G H=>?_
  refine cc I (fun i7 I=>?_) fun i7 I=>?_
  ·refine dT H [0,1,2,3,4,5,6,7,8] 9 fun K=>?_
   obtain⟨m4,g4,I⟩:=ade I
   refine eL [0,1,2,3,4,5,6] fun a G=>?_
   refine kn 7 fun w ep H=>?_
   refine(aU (vs:=_) iw (H.obj (i:=3) E) G E E E E (aj.len _) (aj.one _) (by have:=(bW g4);rw[aj.len,af.len];omega) (af.pi_regs _ _ _ (by have:=(bW g4);omega)) fun w i0=>?_)
   have H:=H.chg i0 (i:=3) rfl
   try dsimp only[List.set]at H
   refine dh ?_
   refine de fun w H=>?_
   exact lf
  exact lf
 rintro g6 a w I ⟨G,H⟩
 unfold Sh.tT at I
 refine go 9 fun a w G H=>?_
 obtain rfl:=oI I
 refine er zp G H ?_
 exact⟨E,H⟩
theorem jQ{x0:ai}{x1:bg}{s1 s3:SV}{cu:List SV}{s7 s9 eK e7:SV}{eN:Nat}{dm:SV}{b0:Nat}{out:(Int×Int)}{w0:World}{Bf:World→Prop}{Lr:List di}(I:Sh.hK x0 x1=some out)(H:au w0 (pt b0 (af.enc (gB x0 s1 s3 s7 s9 eK e7 eN dm)) 203::ak 0 s1 5 x0.ae.cq::ak 0 s3 23 cu::(a_ cu x0.ae.ah)::ak 0 dm 3 x0.a7::Lr))(S:∀ w,au w Lr→Bf w)(q6:cn (dj (X:=UInt8) (a_ cu x0.ae.ah).holds') cu x0.ae.ah)(f8:dj Bf s7 x0.ae.data)(f10:dj Bf s9 x0.ae.sizes)(f12:dj Bf eK x0.code)(f14:dj Bf e7 x0.dq)(f16:jl Bf eN x0.da):Calls Tryz.prog 211 #[.pointer (some ⟨b0,0,none⟩),.agg (bg.enc x1).toArray] w0 (fZ fun v w'=>v = .tuple #[.int .i64 out.1,.int .i64 out.2]∧au w' (pt b0 (af.enc (gB x0 s1 s3 s7 s9 eK e7 eN dm)) 203::ak 0 s1 5 x0.ae.cq::ak 0 s3 23 cu::(a_ cu x0.ae.ah)::ak 0 dm 3 x0.a7::Lr)):=by
 unfold Sh.hK at I
 refine ce Tryz.func211 Tryz.ntmps211 fun a G=>?_
 refine go 8 fun c2 a w G H=>?_
 refine aM G H I (fun F x a w=>match x with|(c5,c6)=>∃ (d3:Nat) (d4:Nat),Fr 104 [(6,.pointer (some ⟨d3,0,none⟩)),(7,.pointer (some ⟨d4,0,none⟩)),(3,.pointer (some ⟨c2,0,none⟩)),(4,.int .i64 0),(5,.int .i64 0)] a∧au w (pt d3 (aj.enc c5) 46::pt d4 (aj.enc c6) 46::pt b0 (af.enc (gB x0 s1 s3 s7 s9 eK e7 eN dm)) 203::pt c2 (bg.enc x1) 101::ak 0 s1 5 x0.ae.cq::ak 0 s3 23 cu::(a_ cu x0.ae.ah)::ak 0 dm 3 x0.a7::Lr)) (fun j8 I j0 G H=>?_) ?_
 ·refine dT H [0,1,2,3,4,5] 6 fun K=>?_
  obtain⟨k6,j7,I⟩:=ade I
  refine eL [0,1,2,3,4,5,6,7,8] fun a G=>?_
  refine vZ K 9 10 11 ada E E ?_ ?_ ?_
  ·refine cA G 9 E E E E E fun w ep H=>?_
   obtain⟨d5,d0,I⟩:=ade I
   have c9:=cH d0 (fU H [1,2,3,4,5,0] 6) (Bf:=Bf) (tb S) q6 f8 f10 f12 f14 f16
   refine dl nt c9 ?_
   rintro v w ⟨rfl,H⟩
   refine ds [5,0,1,2,3,4] 6 fun a G=>?_
   refine fM K 10 11 ada E E ?_ ?_
   ·refine cA G 10 E E E E E fun w ep H=>?_
    refine(bK z46 (zs:=aj.zero.enc) E E fun c0 w d1 c3=>?_)
    have H:=H.plus c3
    try dsimp only[List.set]at H
    refine ds [0,6,1,2,3,4,5] 7 fun a G=>?_
    refine dx 11 fun w ep H=>?_
    refine(bK z46 (zs:=aj.zero.enc) E E fun c1 w d2 c4=>?_)
    have H:=H.plus c4
    try dsimp only[List.set]at H
    refine ds [0,1,7,2,3,4,5,6] 8 fun a G=>?_
    refine kn 12 fun w ep H=>?_
    refine(aU (vs:=_) iw (H.obj (i:=1) E) G E E E E (aj.len _) (aj.one _) (by first|(rw[aj.len,aj.len];decide)|(rw[aj.len];decide)) (bF ((aj.len _).trans (aj.len _).symm)) fun w c7=>?_)
    have H:=H.chg c7 (i:=1) rfl
    try dsimp only[List.set]at H
    refine dh ?_
    refine kn 13 fun w ep H=>?_
    refine(aU (vs:=_) iw (H.obj (i:=0) E) G E E E E (aj.len _) (aj.one _) (by first|(rw[aj.len,aj.len];decide)|(rw[aj.len];decide)) (bF ((aj.len _).trans (aj.len _).symm)) fun w c8=>?_)
    have H:=H.chg c8 (i:=0) rfl
    try dsimp only[List.set]at H
    refine dh ?_
    refine de fun w H=>?_
    refine aB ?_
    exact jr I ⟨c0,c1,G.t,bS H [1,0,2,7,3,4,5,6] 8 E⟩
   refine cA G 11 E E E E E fun w ep H=>?_
   refine(bK z46 (zs:=aj.zero.enc) E E fun c1 w d2 c4=>?_)
   have H:=H.plus c4
   try dsimp only[List.set]at H
   refine ds [0,6,1,2,3,4,5] 7 fun a G=>?_
   refine dx 10 fun w ep H=>?_
   refine(bK z46 (zs:=aj.zero.enc) E E fun c0 w d1 c3=>?_)
   have H:=H.plus c3
   try dsimp only[List.set]at H
   refine ds [0,1,7,2,3,4,5,6] 8 fun a G=>?_
   refine kn 12 fun w ep H=>?_
   refine(aU (vs:=_) iw (H.obj (i:=0) E) G E E E E (aj.len _) (aj.one _) (by first|(rw[aj.len,aj.len];decide)|(rw[aj.len];decide)) (bF ((aj.len _).trans (aj.len _).symm)) fun w c7=>?_)
   have H:=H.chg c7 (i:=0) rfl
   try dsimp only[List.set]at H
   refine dh ?_
   refine kn 13 fun w ep H=>?_
   refine(aU (vs:=_) iw (H.obj (i:=1) E) G E E E E (aj.len _) (aj.one _) (by first|(rw[aj.len,aj.len];decide)|(rw[aj.len];decide)) (bF ((aj.len _).trans (aj.len _).symm)) fun w c8=>?_)
   have H:=H.chg c8 (i:=1) rfl
   try dsimp only[List.set]at H
   refine dh ?_
   refine de fun w H=>?_
   refine aB ?_
   exact jr I ⟨c0,c1,G.t,bS H [0,1,2,7,3,4,5,6] 8 E⟩
  ·refine cA G 10 E E E E E fun w ep H=>?_
   refine(bK z46 (zs:=aj.zero.enc) E E fun c0 w d1 c3=>?_)
   have H:=H.plus c3
   try dsimp only[List.set]at H
   refine ds [0,1,2,3,4,5,6] 7 fun a G=>?_
   refine fM K 9 11 ada E E ?_ ?_
   ·refine cA G 9 E E E E E fun w ep H=>?_
    obtain⟨d5,d0,I⟩:=ade I
    have c9:=cH d0 (fU H [2,3,4,5,6,0,1] 7) (Bf:=Bf) (tb S) q6 f8 f10 f12 f14 f16
    refine dl nt c9 ?_
    rintro v w ⟨rfl,H⟩
    refine ds [5,6,0,1,2,3,4] 7 fun a G=>?_
    refine dx 11 fun w ep H=>?_
    refine(bK z46 (zs:=aj.zero.enc) E E fun c1 w d2 c4=>?_)
    have H:=H.plus c4
    try dsimp only[List.set]at H
    refine ds [0,6,7,1,2,3,4,5] 8 fun a G=>?_
    refine kn 12 fun w ep H=>?_
    refine(aU (vs:=_) iw (H.obj (i:=6) E) G E E E E (aj.len _) (aj.one _) (by first|(rw[aj.len,aj.len];decide)|(rw[aj.len];decide)) (bF ((aj.len _).trans (aj.len _).symm)) fun w c7=>?_)
    have H:=H.chg c7 (i:=6) rfl
    try dsimp only[List.set]at H
    refine dh ?_
    refine kn 13 fun w ep H=>?_
    refine(aU (vs:=_) iw (H.obj (i:=0) E) G E E E E (aj.len _) (aj.one _) (by first|(rw[aj.len,aj.len];decide)|(rw[aj.len];decide)) (bF ((aj.len _).trans (aj.len _).symm)) fun w c8=>?_)
    have H:=H.chg c8 (i:=0) rfl
    try dsimp only[List.set]at H
    refine dh ?_
    refine de fun w H=>?_
    refine aB ?_
    exact jr I ⟨c0,c1,G.t,bS H [6,0,1,7,2,3,4,5] 8 E⟩
   refine cA G 11 E E E E E fun w ep H=>?_
   refine(bK z46 (zs:=aj.zero.enc) E E fun c1 w d2 c4=>?_)
   have H:=H.plus c4
   try dsimp only[List.set]at H
   refine ds [0,1,2,3,4,5,6,7] 8 fun a G=>?_
   refine dx 9 fun w ep H=>?_
   obtain⟨d5,d0,I⟩:=ade I
   have c9:=cH d0 (fU H [3,4,5,6,7,0,1,2] 8) (Bf:=Bf) (tb S) q6 f8 f10 f12 f14 f16
   refine dl nt c9 ?_
   rintro v w ⟨rfl,H⟩
   refine ds [5,6,7,0,1,2,3,4] 8 fun a G=>?_
   refine kn 12 fun w ep H=>?_
   refine(aU (vs:=_) iw (H.obj (i:=6) E) G E E E E (aj.len _) (aj.one _) (by first|(rw[aj.len,aj.len];decide)|(rw[aj.len];decide)) (bF ((aj.len _).trans (aj.len _).symm)) fun w c7=>?_)
   have H:=H.chg c7 (i:=6) rfl
   try dsimp only[List.set]at H
   refine dh ?_
   refine kn 13 fun w ep H=>?_
   refine(aU (vs:=_) iw (H.obj (i:=5) E) G E E E E (aj.len _) (aj.one _) (by first|(rw[aj.len,aj.len];decide)|(rw[aj.len];decide)) (bF ((aj.len _).trans (aj.len _).symm)) fun w c8=>?_)
   have H:=H.chg c8 (i:=5) rfl
   try dsimp only[List.set]at H
   refine dh ?_
   refine de fun w H=>?_
   refine aB ?_
   exact jr I ⟨c0,c1,G.t,bS H [6,5,0,7,1,2,3,4] 8 E⟩
  refine cA G 11 E E E E E fun w ep H=>?_
  refine(bK z46 (zs:=aj.zero.enc) E E fun c1 w d2 c4=>?_)
  have H:=H.plus c4
  try dsimp only[List.set]at H
  refine ds [0,1,2,3,4,5,6] 7 fun a G=>?_
  refine fM K 9 10 ada E E ?_ ?_
  ·refine cA G 9 E E E E E fun w ep H=>?_
   obtain⟨d5,d0,I⟩:=ade I
   have c9:=cH d0 (fU H [2,3,4,5,6,0,1] 7) (Bf:=Bf) (tb S) q6 f8 f10 f12 f14 f16
   refine dl nt c9 ?_
   rintro v w ⟨rfl,H⟩
   refine ds [5,6,0,1,2,3,4] 7 fun a G=>?_
   refine dx 10 fun w ep H=>?_
   refine(bK z46 (zs:=aj.zero.enc) E E fun c0 w d1 c3=>?_)
   have H:=H.plus c3
   try dsimp only[List.set]at H
   refine ds [0,6,7,1,2,3,4,5] 8 fun a G=>?_
   refine kn 12 fun w ep H=>?_
   refine(aU (vs:=_) iw (H.obj (i:=0) E) G E E E E (aj.len _) (aj.one _) (by first|(rw[aj.len,aj.len];decide)|(rw[aj.len];decide)) (bF ((aj.len _).trans (aj.len _).symm)) fun w c7=>?_)
   have H:=H.chg c7 (i:=0) rfl
   try dsimp only[List.set]at H
   refine dh ?_
   refine kn 13 fun w ep H=>?_
   refine(aU (vs:=_) iw (H.obj (i:=6) E) G E E E E (aj.len _) (aj.one _) (by first|(rw[aj.len,aj.len];decide)|(rw[aj.len];decide)) (bF ((aj.len _).trans (aj.len _).symm)) fun w c8=>?_)
   have H:=H.chg c8 (i:=6) rfl
   try dsimp only[List.set]at H
   refine dh ?_
   refine de fun w H=>?_
   refine aB ?_
   exact jr I ⟨c0,c1,G.t,bS H [0,6,1,7,2,3,4,5] 8 E⟩
  refine cA G 10 E E E E E fun w ep H=>?_
  refine(bK z46 (zs:=aj.zero.enc) E E fun c0 w d1 c3=>?_)
  have H:=H.plus c3
  try dsimp only[List.set]at H
  refine ds [0,1,2,3,4,5,6,7] 8 fun a G=>?_
  refine dx 9 fun w ep H=>?_
  obtain⟨d5,d0,I⟩:=ade I
  have c9:=cH d0 (fU H [3,4,5,6,7,0,1,2] 8) (Bf:=Bf) (tb S) q6 f8 f10 f12 f14 f16
  refine dl nt c9 ?_
  rintro v w ⟨rfl,H⟩
  refine ds [5,6,7,0,1,2,3,4] 8 fun a G=>?_
  refine eL [12,13] fun a G=>?_
  refine de fun w H=>?_
  refine aB ?_
  exact jr I ⟨c0,c1,G.t,bS H [5,6,0,7,1,2,3,4] 8 E⟩
 rintro⟨c5,c6⟩ a w I ⟨d3,d4,G,H⟩
 replace I:Sh.qG x1 c5 c6=_:=I
 unfold Sh.qG at I
 refine go 7 fun a w G H=>?_
 refine jm (pt b0 (af.enc (gB x0 s1 s3 s7 s9 eK e7 eN dm)) 203::pt c2 (bg.enc x1) 101::ak 0 s1 5 x0.ae.cq::ak 0 s3 23 cu::(a_ cu x0.ae.ah)::ak 0 dm 3 x0.a7::Lr) G H I [3,4,5] (fun d6 u=>(8,.bool d6)::u) (fun j9 I g3 G H=>?_) fun d6 a w I G H=>?_
 ·refine go 2 fun a w G H=>?_
  refine jm (pt d3 (aj.enc c5) 46::pt d4 (aj.enc c6) 46::pt b0 (af.enc (gB x0 s1 s3 s7 s9 eK e7 eN dm)) 203::pt c2 (bg.enc x1) 101::ak 0 s1 5 x0.ae.cq::ak 0 s3 23 cu::(a_ cu x0.ae.ah)::ak 0 dm 3 x0.a7::Lr) G H I [3,4,5,6,7,8] (fun d7 u=>(20,.bool d7)::u) (fun k0 I j1 G H=>?_) fun d7 a w I G H=>?_
  ·refine go 2 fun a w G H=>?_
   obtain⟨k7,i5,I⟩:=ade I
   have i0:=dC i5 H 
   refine cl nW i0 ?_
   rintro v w ⟨rfl,H⟩ a G
   refine go 1 fun a w G H=>?_
   refine gs I (fun g4 I=>?_) fun g4 I=>?_
   ·refine go 1 fun a w G H=>?_
    obtain⟨k8,i6,I⟩:=ade I
    have i1:=dC i6 H 
    refine dD G E E E g4 E E (aS (xs:=[.tmp 24]) nW G E E i1 fun v w hR=>?_)
    obtain⟨rfl,H⟩:=hR
    intro a G
    exact lf
   exact lf
  replace I:Sh.qI x1 c5 c6 d7=_:=I
  unfold Sh.qI at I
  refine aB ?_
  refine cc I (fun g5 I=>?_) fun g5 I=>?_
  ·refine go 9 fun a w G H=>?_
   obtain⟨k9,i7,I⟩:=ade I
   have i2:=qD i7 H 
   refine cl Tryz.call249 i2 ?_
   rintro v w ⟨rfl,H⟩ a G
   exact lf
  refine aH ?_
  refine jm (pt d3 (aj.enc c5) 46::pt d4 (aj.enc c6) 46::pt b0 (af.enc (gB x0 s1 s3 s7 s9 eK e7 eN dm)) 203::pt c2 (bg.enc x1) 101::ak 0 s1 5 x0.ae.cq::ak 0 s3 23 cu::(a_ cu x0.ae.ah)::ak 0 dm 3 x0.a7::Lr) G H I [3,4,5,6,7,8] (fun d8 u=>(36,.bool d8)::u) (fun k1 I j2 G H=>?_) fun d8 a w I G H=>?_
  ·exact lf
  replace I:Sh.qJ x1 c5 c6 d8=_:=I
  unfold Sh.qJ at I
  refine aB ?_
  refine cc I (fun g6 I=>?_) fun g6 I=>?_
  ·refine go 7 fun a w G H=>?_
   obtain rfl:=oI I
   have I:=bA g3
   subst I
   refine er zr G H ?_
   exact⟨E,bS H [2,4,5,6,7] 8 E⟩
  refine aH ?_
  refine jm (pt d3 (aj.enc c5) 46::pt d4 (aj.enc c6) 46::pt b0 (af.enc (gB x0 s1 s3 s7 s9 eK e7 eN dm)) 203::pt c2 (bg.enc x1) 101::ak 0 s1 5 x0.ae.cq::ak 0 s3 23 cu::(a_ cu x0.ae.ah)::ak 0 dm 3 x0.a7::Lr) G H I [3,4,5,6,7,8] (fun d9 u=>(49,.bool d9)::u) (fun k2 I j3 G H=>?_) fun d9 a w I G H=>?_
  ·refine go 3 fun a w G H=>?_
   obtain⟨l0,i8,I⟩:=ade I
   have i3:=pD i8 H 
   refine cl Tryz.call250 i3 ?_
   rintro v w ⟨rfl,H⟩ a G
   exact lf
  replace I:Sh.qK x1 c5 c6 d9=_:=I
  unfold Sh.qK at I
  refine aB ?_
  refine cc I (fun g7 I=>?_) fun g7 I=>?_
  ·refine go 8 fun a w G H=>?_
   refine jm (pt d3 (aj.enc c5) 46::pt d4 (aj.enc c6) 46::pt b0 (af.enc (gB x0 s1 s3 s7 s9 eK e7 eN dm)) 203::pt c2 (bg.enc x1) 101::ak 0 s1 5 x0.ae.cq::ak 0 s3 23 cu::(a_ cu x0.ae.ah)::ak 0 dm 3 x0.a7::Lr) G H I [3,4,5,6,7,8] (fun g0 u=>(9,.int .i64 g0)::u) (fun k3 I j4 G H=>?_) fun g0 a w I G H=>?_
   ·refine aH ?_
    refine jm (pt d3 (aj.enc c5) 46::pt d4 (aj.enc c6) 46::pt b0 (af.enc (gB x0 s1 s3 s7 s9 eK e7 eN dm)) 203::pt c2 (bg.enc x1) 101::ak 0 s1 5 x0.ae.cq::ak 0 s3 23 cu::(a_ cu x0.ae.ah)::ak 0 dm 3 x0.a7::Lr) G H I [3,4,5,6,7,8,9] (fun g1 u=>(65,.bool g1)::u) (fun k4 I j5 G H=>?_) fun g1 a w I G H=>?_
    ·exact lf
    replace I:Sh.qM x1 g1=_:=I
    unfold Sh.qM at I
    exact lf
   replace I:Sh.qL c5 c6 g0=_:=I
   unfold Sh.qL at I
   refine go 7 fun a w G H=>?_
   obtain⟨l1,i9,I⟩:=ade I
   have i4:=qD i9 H 
   refine cl Tryz.call249 i4 ?_
   rintro v w ⟨rfl,H⟩ a G
   exact lf
  refine aH ?_
  refine jm (pt b0 (af.enc (gB x0 s1 s3 s7 s9 eK e7 eN dm)) 203::pt c2 (bg.enc x1) 101::ak 0 s1 5 x0.ae.cq::ak 0 s3 23 cu::(a_ cu x0.ae.ah)::ak 0 dm 3 x0.a7::Lr) G H I [3,4,5,8] (fun g2 u=>(74,.bool g2)::u) (fun k5 I j6 G H=>?_) fun g2 a w I G H=>?_
  ·exact lf
  replace I:Sh.qN x1 g2=_:=I
  unfold Sh.qN at I
  refine aB ?_
  refine cc I (fun g8 I=>?_) fun g8 I=>?_
  ·exact lf
  refine go 7 fun a w G H=>?_
  obtain rfl:=oI I
  have I:=bA g3
  subst I
  refine er zr G H ?_
  exact⟨E,bS H [0,2,3,4,5] 6 E⟩
 replace I:Sh.qH x1 d6=_:=I
 unfold Sh.qH at I
 refine go 7 fun a w G H=>?_
 refine cc I (fun g9 I=>?_) fun g9 I=>?_
 ·refine go 9 fun a w G H=>?_
  obtain rfl:=oI I
  refine er zr G H ?_
  exact⟨E,bS H [0,2,3,4,5] 6 E⟩
 refine go 9 fun a w G H=>?_
 obtain rfl:=oI I
 refine er zr G H ?_
 exact⟨E,bS H [0,2,3,4,5] 6 E⟩
theorem iU{x0:List (List UInt8)}{s1:SV}{Ky:List SV}{out:List (List UInt8)}{w0:World}{Bf:World→Prop}{Lr:List di}(I:Sh.iY x0=some out)(H:au w0 (Lr))(S:∀ w,au w Lr→Bf w)(f3:dj Bf s1 Ky)(q4:cn (dj (X:=UInt8) Bf) Ky x0):Calls Tryz.prog 143 #[(s1).v] w0 (fZ fun v w'=>∃ (d6:SV) (c3:List SV),v=(d6).v∧cn (dj (X:=UInt8) (a_ c3 out).holds') c3 out∧au w' (ak 0 d6 23 c3::(a_ c3 out)::Lr)):=by
 unfold Sh.iY at I
 refine ce Tryz.func143 Tryz.ntmps143 fun a G=>?_
 refine go 11 fun a w G H=>?_
 refine aM G H I (fun F x a w=>match x with|c8=>∃ (c5:SV) (c1:List SV),cn (dj (X:=UInt8) (a_ c1 c8).holds') c1 c8∧Fr 19 [(3,(c5).v),(2,(SV.nil).v)] a∧au w (ak 0 c5 23 c1::(a_ c1 c8)::Lr)) (fun i2 I i0 G H=>?_) ?_
 ·refine go 8 fun a w G H=>?_
  have g5:cn (dj (X:=UInt8) (a_ [] []).holds') ([]:List SV) ([]:List (List UInt8)):=cn.nil
  have H:=mP H
  have H:=H.rowNil (X:=SV) 0 23
  refine aY G H I (fun F x a w=>match x with|(c2,d1)=>∃ (c6:SV) (c0:List SV),cn (dj (X:=UInt8) (a_ c0 c2).holds') c0 c2∧Fr 19 [(3,(c6).v),(8,.int .i64 d1),(2,(SV.nil).v),(6,(s1).v),(7,.int .i64 (x0.length:Int))] a∧au w (ak 0 c6 23 c0::(a_ c0 c2)::Lr)) (fun G H=>⟨SV.nil,[],g5,G.to ⟨E,E,E,E,E,trivial⟩,H⟩) ?_
  rintro⟨c2,d1⟩ a w i3 I d8 ⟨c6,c0,d0,G,H⟩
  replace I:Sh.nZ x0 c2 d1=_:=I
  unfold Sh.nZ at I
  refine go 6 fun a w G H=>?_
  refine cc I (fun d9 I=>?_) fun d9 I=>?_
  ·obtain⟨i4,d2,I⟩:=ade I
   have d3:=aL d2
   obtain⟨i1,g9,d5⟩:=cn.getr q4 d3.2
   have g8:=cn.bd q4 (aZ d2)
   refine go 14 fun a w G H=>?_
   obtain⟨i5,g1,I⟩:=ade I
   have g0:=cW g1 H (Bf:=Bf) (tb S) d5
   refine cl sd g0 ?_
   rintro v w ⟨c7,rfl,H⟩ a G
   refine aN G E E E (bO (X:=SV) (y:=c7) Ad ry E E E E G E E E fun g2 w g3 c9=>?_)
   have H:=H.plus c9
   try dsimp only[List.set]at H
   intro a G
   obtain⟨d7,c4,I⟩:=ade I
   refine aN G E E E (fS (X:=SV) c4 d0.len E Ad ry E E E E G E E E (H.own (X:=SV) (i:=2) E) (H.ptS (X:=SV) (i:=0) (n:=1) (c:=1) E E E (aal _)) fun g7 w d4=>?_)
   have H:=H.chg d4 (i:=2) rfl
   try dsimp only[List.set]at H
   have H:=tI (fU H [3,1,0,2] 4) (cZ c4).2
   have g6:cn (dj (X:=UInt8) (a_ (c0 ++ [c7]) d7).holds') (c0 ++ [c7]) d7:=lW (by rw[(cZ c4).2];simp[d0.len])
   try dsimp only[List.set]at H
   intro a G
   refine go 9 fun a w G H=>?_
   exact jr I ⟨g7,(c0 ++ [c7]),g6,G.t,bS H [2,0] 3 E⟩
  refine go 5 fun a w G H=>?_
  obtain rfl:=oI I
  have I:=d8 _ rfl
  subst I
  exact⟨c2,E,c6,c0,d0,G.to ⟨E,E,trivial⟩,H⟩
 rintro c8 a w I ⟨c5,c1,g4,G,H⟩
 unfold Sh.Hh at I
 refine go 8 fun a w G H=>?_
 obtain rfl:=oI I
 refine aT Tryz.results143 G E ?_
 exact⟨c5,c1,E,g4,H⟩
theorem eV{x0:ai}{s1 s3:SV}{cu:List SV}{s7 s9 eK e7:SV}{eN:Nat}{dm:SV}{b0:Nat}{out:br}{w0:World}{Bf:World→Prop}{Lr:List di}(I:Sh.cA x0=some out)(H:au w0 (pt b0 (af.enc (gB x0 s1 s3 s7 s9 eK e7 eN dm)) 203::ak 0 s1 5 x0.ae.cq::ak 0 s3 23 cu::(a_ cu x0.ae.ah)::ak 0 dm 3 x0.a7::Lr))(S:∀ w,au w Lr→Bf w)(q6:cn (dj (X:=UInt8) (a_ cu x0.ae.ah).holds') cu x0.ae.ah)(f8:dj Bf s7 x0.ae.data)(f10:dj Bf s9 x0.ae.sizes)(f12:dj Bf eK x0.code)(f14:dj Bf e7 x0.dq)(f16:jl Bf eN x0.da):Calls Tryz.prog 67 #[.pointer (some ⟨b0,0,none⟩)] w0 (fZ fun v w'=>∃ (RJ:SV) (RL:SV) (CN:List SV) (RN:SV),v = .agg (bf.enc (ox out RJ RL RN)).toArray∧cn (dj (X:=UInt8) (a_ CN out.ah).holds') CN out.ah∧au w' (ak 0 RJ 5 out.cq::ak 0 RL 23 CN::(a_ CN out.ah)::ak 0 RN 3 out.a7::pt b0 (af.enc (gB x0 s1 s3 s7 s9 eK e7 eN dm)) 203::ak 0 s1 5 x0.ae.cq::ak 0 s3 23 cu::(a_ cu x0.ae.ah)::ak 0 dm 3 x0.a7::Lr)):=by
 unfold Sh.cA at I
 refine ce Tryz.func67 Tryz.ntmps67 fun a G=>?_
 refine go 6 fun c0 a w G H=>?_
 refine dT H [0,1,2,3,4,5] 6 fun K=>?_
 refine eL [0,1,2] fun a G=>?_
 refine aK G K 3 E ada E E E (fun w H=>(cD Tryz.isAgg47 Tryz.sizeOf47 G E E (aR _) (H.cells (i:=1) E (af.c_regs _)))) fun a G=>?_
 refine eL [4,5,6,7] fun a G=>?_
 refine aK G K 8 E ada E E E (fun w H=>(cD Tryz.isAgg51 Tryz.sizeOf51 G E E (aR _) ((H.cells (i:=1) E (af.c_memory _)).sub 0 416 (bq.c_stack _)))) fun a G=>?_
 refine eL [9,10,11,12,13,15,16,17,18,19,21,22,23,24,26,27,28,29,30,31,32,33,34,35,36,37] fun a G=>?_
 refine dx 14 fun w ep H=>?_
 obtain⟨Sj,NB,I⟩:=ade I
 have MO:=cW NB H (fun _ h=>h) (fun w H=>(H.rowS (X:=UInt8) (i:=2) rfl))
 refine dl sd MO ?_
 rintro v w ⟨ZA,rfl,H⟩
 refine ds [0,1,2,3,4,5,6] 7 fun a G=>?_
 refine dx 20 fun w ep H=>?_
 obtain⟨JR,E0,I⟩:=ade I
 have MP:=iU E0 H (fun _ h=>h) (fun w H=>(H.rowS (X:=SV) (i:=4) rfl)) (q6.mono fun _ _ q=>q.mono fun w H=>H.hold 5 _ rfl)
 refine dl Tryz.call143 MP ?_
 rintro v w ⟨ZB,Nc,rfl,Zs,H⟩
 refine ds [0,1,2,3,4,5,6,7,8] 9 fun a G=>?_
 refine dx 25 fun w ep H=>?_
 obtain⟨Sm,NC,I⟩:=ade I
 have MQ:=dX NC H (fun _ h=>h) (fun w H=>(H.rowS (X:=Int) (i:=8) rfl))
 refine dl Tryz.call134 MQ ?_
 rintro v w ⟨ZC,rfl,H⟩
 refine ds [0,1,2,3,4,5,6,7,8,9] 10 fun a G=>?_
 refine aK G K 38 E ada E E E (fun w H=>(aW z54 C4 NZ G (parts:=[(0,.tmp 6),(1,.tmp 11),(2,.tmp 17),(3,.tmp 23),(4,.tmp 28),(5,.tmp 32),(6,.tmp 36),(7,.tmp 40)]) E E (fC E (aR _) (by rw[aR,bf.len];decide) (bf.p_regs _ _) (fC E (aR _) (by rw[aR,bf.len];decide) (bf.p_stack _ _) (aP E E (by rw[bf.len];decide) (bf.ig _ _) (aP E E (by rw[bf.len];decide) (bf.eh _ _) (aP E E (by rw[bf.len];decide) (bf.gx _ _) (aP E E (by rw[bf.len];decide) (bf.s_at_ _ _) (aP E E (by rw[bf.len];decide) (bf.s_steps _ _) (aP E E (by rw[bf.len];decide) (bf.s_done _ _) bD)))))))))) fun a G=>?_
 refine eL [39] fun a G=>?_
 refine de fun w H=>?_
 refine go 2 fun a w G H=>?_
 obtain rfl:=oI I
 refine er Tryz.results67 G H ?_
 exact⟨ZA,ZB,Nc,ZC,E,Zs,bS H [3,1,2,0,5,6,7,8,9] 10 E⟩
end Go.Proofs
end
section
namespace Go.Proofs
open Go.Fw Go.Fx
set_option maxRecDepth 10000
theorem lL{x0:eo}{out:List Int}{w0:World}{Lr:List di}(I:Sh.J5 x0=some out)(H:au w0 (Lr)):Calls Tryz.prog 393 #[.agg (eo.enc x0).toArray] w0 (fZ fun v w'=>∃ (s1:SV),v=(s1).v∧au w' (ak 0 s1 3 out::Lr)):=by
 unfold Sh.J5 at I
 refine ce Tryz.func393 Tryz.ntmps393 fun a G=>?_
 refine go 8 fun Hz a w G H=>?_
 refine aN G E E E (eR (X:=Int) (ys:=[2,4,1,0,0]) (m:=5) Tryz.underlying52 jO E E E E (by decide) (by decide) G E E (gj.cons E (gj.cons E (gj.cons E (gj.cons E (gj.cons E gj.nil))))) fun Ap w IP AB=>?_)
 have H:=H.plus AB
 try dsimp only[List.set]at H
 intro a G
 refine go 4 fun a w G H=>?_
 have H:=H.ptRow (lo:=0) (i:=0) (n:=5) (c:=5) rfl rfl (aau _) rfl rfl (by decide)
 obtain rfl:=ac8 I
 refine aT Tryz.results393 G E ?_
 exact⟨⟨some ⟨Ap,0,none⟩,5,5⟩,E,bS H [0] 2 E⟩
theorem mJ{x0:eo}{out:cj}{w0:World}{Lr:List di}(I:Sh.aHt x0=some out)(H:au w0 (Lr)):Calls Tryz.prog 394 #[.agg (eo.enc x0).toArray] w0 (fZ fun v w'=>v = .agg (cj.enc out).toArray∧au w' (Lr)):=by
 unfold Sh.aHt at I
 refine ce Tryz.func394 Tryz.ntmps394 fun a G=>?_
 refine go 12 fun HA HB a w G H=>?_
 refine aA G (aW yh Tryz.underlying278 vx G (parts:=[(0,.tmp 4),(1,.tmp 6)]) E E (aP E E (by rw[cj.len];decide) (cj.s_lo _ _) (aP E E (by rw[cj.len];decide) (cj.s_hi _ _) bD))) E E E fun a G=>?_
 refine bE E E (aU (vs:=_) Tryz.sizeOf278 (H.obj (i:=0) E) G E E E E (cj.len _) (cj.one _) (by first|(rw[cj.len,cj.len];decide)|(rw[cj.len];decide)) (bF ((cj.len _).trans (cj.len _).symm)) fun w AI=>?_)
 have H:=H.chg AI (i:=0) rfl
 try dsimp only[List.set]at H
 refine go 3 fun a w G H=>?_
 obtain rfl:=ac8 I
 refine er Tryz.results394 G H ?_
 exact⟨E,bS H [] 2 E⟩
theorem kW{x0:ez}{out:List Int}{w0:World}{Lr:List di}(I:Sh.J4 x0=some out)(H:au w0 (Lr)):Calls Tryz.prog 395 #[.agg (ez.enc x0).toArray] w0 (fZ fun v w'=>∃ (s1:SV),v=(s1).v∧au w' (ak 0 s1 3 out::Lr)):=by
 unfold Sh.J4 at I
 refine ce Tryz.func395 Tryz.ntmps395 fun a G=>?_
 refine go 10 fun HC a w G H=>?_
 refine aN G E E E (eR (X:=Int) (ys:=[3,x0.from_,4,0,0]) (m:=5) Tryz.underlying52 jO E E E E (by decide) (by decide) G E E (gj.cons E (gj.cons E (gj.cons E (gj.cons E (gj.cons E gj.nil))))) fun Aq w IQ AE=>?_)
 have H:=H.plus AE
 try dsimp only[List.set]at H
 intro a G
 refine go 4 fun a w G H=>?_
 have H:=H.ptRow (lo:=0) (i:=0) (n:=5) (c:=5) rfl rfl (aau _) rfl rfl (by decide)
 obtain rfl:=ac8 I
 refine aT Tryz.results395 G E ?_
 exact⟨⟨some ⟨Aq,0,none⟩,5,5⟩,E,bS H [0] 2 E⟩
theorem lM{x0:ez}{out:cj}{w0:World}{Lr:List di}(I:Sh.Hf x0=some out)(H:au w0 (Lr)):Calls Tryz.prog 396 #[.agg (ez.enc x0).toArray] w0 (fZ fun v w'=>v = .agg (cj.enc out).toArray∧au w' (Lr)):=by
 unfold Sh.Hf at I
 refine ce Tryz.func396 Tryz.ntmps396 fun a G=>?_
 refine go 8 fun HD HE a w G H=>?_
 refine aA G (aW yh Tryz.underlying278 vx G (parts:=[]) E E bD) E E E fun a G=>?_
 refine bE E E (aU (vs:=_) Tryz.sizeOf278 (H.obj (i:=0) E) G E E E E (cj.len _) (cj.one _) (by first|(rw[cj.len,cj.len];decide)|(rw[cj.len];decide)) (bF ((cj.len _).trans (cj.len _).symm)) fun w AI=>?_)
 have H:=H.chg AI (i:=0) rfl
 try dsimp only[List.set]at H
 refine go 3 fun a w G H=>?_
 obtain rfl:=ac8 I
 refine er Tryz.results396 G H ?_
 exact⟨E,bS H [] 2 E⟩
theorem gV{x0:bX}{out:List Int}{w0:World}{Lr:List di}(I:Sh.jP x0=some out)(H:au w0 (Lr)):Calls Tryz.prog 399 #[.agg (bX.enc x0).toArray] w0 (fZ fun v w'=>∃ (RO:SV),v=(RO).v∧au w' (ak 0 RO 3 out::Lr)):=by
 unfold Sh.jP at I
 refine ce Tryz.func399 Tryz.ntmps399 fun a G=>?_
 refine go 8 fun HF a w G H=>?_
 obtain⟨RZ,Ns,I⟩:=ade I
 refine aN G E E E (oN Ns Tryz.underlying52 jO E E E G E E E fun BH w AG=>?_)
 have H:=H.plus AG
 try dsimp only[List.set]at H
 intro a G
 refine go 4 fun a w G H=>?_
 refine aM G H I (fun F x a w=>match x with|v138=>∃ (C5:SV),Fr 16 [(3,(C5).v),(2,(SV.nil).v)] a∧au w (ak 0 C5 3 v138::Lr)) (fun NT I H4 G H=>?_) ?_
 ·refine go 8 fun a w G H=>?_
  refine aY G H I (fun F x a w=>match x with|(v157,v160)=>∃ (BG:SV),Fr 16 [(3,(BG).v),(8,.int .i64 v160),(2,(SV.nil).v),(7,.int .i64 x0.many)] a∧au w (ak 0 BG 3 v157::Lr)) (fun G H=>⟨BH,G.to ⟨E,E,E,E,trivial⟩,fU H [0] 2⟩) ?_
  rintro⟨v157,v160⟩ a w NU I AH ⟨BG,G,H⟩
  replace I:Sh.sP x0 v157 v160=_:=I
  unfold Sh.sP at I
  refine go 6 fun a w G H=>?_
  refine cc I (fun H6 I=>?_) fun H6 I=>?_
  ·obtain⟨Oy,IE,I⟩:=ade I
   have EA:=aL IE
   refine go 14 fun a w G H=>?_
   refine bE E E (dE (d:=0) (q:=1) Tryz.sizeOf3 (H.own (X:=Int) (i:=0) E) EA.2 G E E E E E (by decide) E fun w H5=>?_)
   have H:=H.chg H5 (i:=0) rfl
   try dsimp only[List.set]at H
   refine go 8 fun a w G H=>?_
   exact jr I ⟨BG,G.t,H⟩
  refine go 5 fun a w G H=>?_
  obtain rfl:=ac8 I
  have I:=AH _ rfl
  subst I
  exact⟨v157,E,BG,G.to ⟨E,E,trivial⟩,H⟩
 rintro v138 a w I ⟨C5,G,H⟩
 unfold Sh.D6 at I
 refine go 8 fun a w G H=>?_
 obtain rfl:=ac8 I
 refine aT Tryz.results399 G E ?_
 exact⟨C5,E,H⟩
theorem iE{x0:bX}{out:cj}{w0:World}{Lr:List di}(I:Sh.aGn x0=some out)(H:au w0 (Lr)):Calls Tryz.prog 400 #[.agg (bX.enc x0).toArray] w0 (fZ fun v w'=>v = .agg (cj.enc out).toArray∧au w' (Lr)):=by
 unfold Sh.aGn at I
 refine ce Tryz.func400 Tryz.ntmps400 fun a G=>?_
 refine go 14 fun HG HI a w G H=>?_
 obtain rfl:=ac8 I
 refine er Tryz.results400 G H ?_
 exact⟨E,bS H [] 2 E⟩
theorem D4{x0:List UInt8}{x1:Int}{s1:SV}{out:Int}{w0:World}{Bf:World→Prop}{Lr:List di}(I:Sh.aGm x0 x1=some out)(H:au w0 (Lr))(S:∀ w,au w Lr→Bf w)(f2:dj Bf s1 x0):Calls Tryz.prog 253 #[(s1).v,.int .i64 x1] w0 (fZ fun v w'=>v = .int .i64 out∧au w' (Lr)):=by
 unfold Sh.aGm at I
 refine ce Tryz.func253 Tryz.ntmps253 fun a G=>?_
 refine go 13 fun a w G H=>?_
 refine jn G H I [4] (fun y_ u=>(5,.int .i64 y_)::u) (fun NT I H4 G H=>?_) fun y_ a w I G H=>?_
 ·refine go 6 fun a w G H=>?_
  refine aY G H I (fun F x a w=>match x with|(qA,qB)=>Fr 43 [(5,.int .i64 qA),(6,.int .i64 qB),(0,(s1).v),(4,.int .i64 0)] a∧au w (Lr)) (fun G H=>⟨G.to ⟨E,E,E,E,trivial⟩,H⟩) ?_
  rintro⟨qA,qB⟩ a w NU I AH ⟨G,H⟩
  replace I:Sh.xX x0 qA qB=_:=I
  unfold Sh.xX at I
  refine go 9 fun a w G H=>?_
  refine cc I (fun H9 I=>?_) fun H9 I=>?_
  ·refine go 3 fun a w G H=>?_
   refine jm (Lr) G H I [0,4,6] (fun za u=>(5,.int .i64 za)::u) (fun Zo I QD G H=>?_) fun za a w I G H=>?_
   ·obtain⟨Fq,Q5,I⟩:=ade I
    refine go 7 fun a w G H=>?_
    refine aA G (tK Tryz.underlying5 Tryz.underlying3 E G E E) E E E fun a G=>?_
    refine aA G (nV G E E E (by decide)) E E E fun a G=>?_
    refine go 4 fun a w G H=>?_
    refine jm (Lr) G H I [0,4,5,6] (fun wX u=>(7,.int .i64 wX)::u) (fun Zp I QE G H=>?_) fun wX a w I G H=>?_
    ·refine go 9 fun a w G H=>?_
     refine cc I (fun H_ I=>?_) fun H_ I=>?_
     ·obtain⟨JM,Q6,I⟩:=ade I
      refine go 7 fun a w G H=>?_
      refine aA G (tK Tryz.underlying5 Tryz.underlying3 E G E E) E E E fun a G=>?_
      refine aA G (zS G E E E) E E E fun a G=>?_
      exact lf
     exact lf
    replace I:Sh.Eb qA wX=_:=I
    unfold Sh.Eb at I
    exact lf
   replace I:Sh.aHn qB za=_:=I
   unfold Sh.aHn at I
   exact lf
  refine go 5 fun a w G H=>?_
  obtain rfl:=ac8 I
  have I:=AH _ rfl
  subst I
  exact⟨qA,E,G.to ⟨E,E,trivial⟩,H⟩
 replace I:Sh.Hg y_=_:=I
 unfold Sh.Hg at I
 exact lf
theorem SA{x0 x1 out:Int}{w0:World}{Lr:List di}(I:Sh.F8 x0 x1=some out)(H:au w0 (Lr)):Calls Tryz.prog 257 #[.int .i64 x0,.int .i64 x1] w0 (fZ fun v w'=>v = .int .i64 out∧au w' (Lr)):=by
 unfold Sh.F8 at I
 refine ce Tryz.func257 Tryz.ntmps257 fun a G=>?_
 refine go 12 fun a w G H=>?_
 refine aA G (Cd G E E E) E E E fun a G=>?_
 refine go 7 fun a w G H=>?_
 refine aA G (iW G E E E (by decide)) E E E fun a G=>?_
 refine aA G (Cd G E E E) E E E fun a G=>?_
 refine go 14 fun a w G H=>?_
 refine aA G (iW G E E E (by decide)) E E E fun a G=>?_
 refine aA G (Cd G E E E) E E E fun a G=>?_
 exact lf
end Go.Proofs
end
