/- Ground for this claim: The call of TraceThere returns true. Condition: the arguments are of bulk at most 1048576. -/
import Derived.Test.YtmgnkohlfbjjnaaGreatRProg
import Derived.KernelRfl
import Derived.Test.YtmgnkohlfbjjnaaGreatRTh7
section
namespace Go.Proofs
open Go.Fw Go.Fx
set_option maxRecDepth 10000
set_option linter.unusedVariables false
set_option linter.unusedSimpArgs false
set_option maxHeartbeats 4000000 in
theorem dY {x0:List UInt8} {x1:List UInt8} {s1:SV} {s3:SV} {out:Bool} {w0:World} {Bf:World → Prop} {Lr:List Res} (hP:Sh.aZ x0 x1 = some out) (hM:MemL w0 (Lr)) (hsub:∀ w,MemL w Lr → Bf w) (f2:LIn Bf s1 x0) (f4:LIn Bf s3 x1):Calls Tryz.prog 43 #[(s1).v,(s3).v] w0 (Ret fun v w'=>v = .bool out ∧ MemL w' (Lr)):=by
 unfold Sh.aZ at hP
 refine aP (vs:=[(s1).v,(s3).v]) Tryz.func43 rfl Tryz.ntmps43 rfl fun a hF=>?_
 refine aG ?_
 refine aD ?_
 refine aA hF (aH hF rfl rfl) rfl rfl rfl fun a hF=>?_
 refine aI (aB ?_)
 refine aG ?_
 refine aD ?_
 refine aA hF (aF hF rfl rfl) rfl rfl rfl fun a hF=>?_
 refine aA hF (hH (f2 _ (hsub _ (dropM hM 0))) qU23 qU5 qU9 hF rfl rfl) rfl rfl rfl fun a hF=>?_
 refine aA hF (aF hF rfl rfl) rfl rfl rfl fun a hF=>?_
 refine aA hF (hH (f4 _ (hsub _ (dropM hM 0))) qU23 qU5 qU9 hF rfl rfl) rfl rfl rfl fun a hF=>?_
 refine aA hF (sU (i:=x0) (j:=x1) hF rfl rfl rfl) rfl rfl rfl fun a hF=>?_
 refine aA hF (aH hF rfl rfl) rfl rfl rfl fun a hF=>?_
 refine aI (aB ?_)
 refine c_ret ?_
 have hP:=Option.some.inj hP
 subst hP
 refine bE Tryz.results43 hF rfl ?_
 exact ⟨rfl,hM⟩
set_option maxHeartbeats 4000000 in
theorem jF {x0:List Int} {x1:List Int} {s1:SV} {s3:SV} {out:Bool} {w0:World} {Bf:World → Prop} {Lr:List Res} (hP:Sh.gK x0 x1 = some out) (hM:MemL w0 (Lr)) (hsub:∀ w,MemL w Lr → Bf w) (f2:LIn Bf s1 x0) (f4:LIn Bf s3 x1):Calls Tryz.prog 89 #[(s1).v,(s3).v] w0 (Ret fun v w'=>v = .bool out ∧ MemL w' (Lr)):=by
 unfold Sh.gK at hP
 refine aP (vs:=[(s1).v,(s3).v]) Tryz.func89 rfl Tryz.ntmps89 rfl fun a hF=>?_
 refine aG ?_
 refine aD ?_
 refine aA hF (aH hF rfl rfl) rfl rfl rfl fun a hF=>?_
 refine aI (aB ?_)
 refine aG ?_
 refine aG ?_
 refine aD ?_
 refine aA hF (aF hF rfl rfl) rfl rfl rfl fun a hF=>?_
 refine aA hF (bQ (f2 _ (hsub _ (dropM hM 0))) qU52 hF rfl rfl) rfl rfl rfl fun a hF=>?_
 refine aA hF (aF hF rfl rfl) rfl rfl rfl fun a hF=>?_
 refine aA hF (bQ (f4 _ (hsub _ (dropM hM 0))) qU52 hF rfl rfl) rfl rfl rfl fun a hF=>?_
 refine aA hF (dD hF rfl rfl rfl) rfl rfl rfl fun a hF=>?_
 refine aI (aB ?_)
 refine aS hF (c:=.tmp 10) rfl (fun c0=>?_) (fun c0=>?_)
 ·have hP:=Fx.cT c0 hP
  refine aG ?_
  refine aD ?_
  refine aA hF (aH hF rfl rfl) rfl rfl rfl fun a hF=>?_
  refine aI (aB ?_)
  refine c_ret ?_
  have hP:=Option.some.inj hP
  subst hP
  refine bE Tryz.results89 hF rfl ?_
  exact ⟨rfl,hM⟩
 have hP:=Fx.cF c0 hP
 refine aW (aB ?_)
 refine aG ?_
 refine aT hF hM hP (fun F x a w=>match x with | _=>Fr 26 [(4,.bool false)] a ∧ MemL w (Lr)) (fun d0 hP c9 hF hM=>?_) ?_
 ·refine aG ?_
  refine aD ?_
  refine aA hF (aH hF rfl rfl) rfl rfl rfl fun a hF=>?_
  refine aI (aB ?_)
  refine aX ?_
  refine bU hF hM hP (fun F x a w=>match x with | c3=>Fr 26 [(5,.int .i64 c3),(0,(s1).v),(1,(s3).v),(4,.bool false)] a ∧ MemL w (Lr)) (fun hF hM=>⟨hF.to ⟨rfl,rfl,rfl,rfl,trivial⟩,hM⟩) ?_
  rintro c3 a w d1 hP c4 ⟨hF,hM⟩
  replace hP:Sh.dJ x0 x1 c3 = _:=hP
  unfold Sh.dJ at hP
  refine aG ?_
  refine aG ?_
  refine aD ?_
  refine aA hF (aF hF rfl rfl) rfl rfl rfl fun a hF=>?_
  refine aA hF (aF hF rfl rfl) rfl rfl rfl fun a hF=>?_
  refine aA hF (bQ (f2 _ (hsub _ (dropM hM 0))) qU52 hF rfl rfl) rfl rfl rfl fun a hF=>?_
  refine aA hF (cO hF rfl rfl rfl) rfl rfl rfl fun a hF=>?_
  refine aI (aB ?_)
  refine aS hF (c:=.tmp 14) rfl (fun c1=>?_) (fun c1=>?_)
  ·have hP:=Fx.cT c1 hP
   refine aW (aB ?_)
   refine aG ?_
   refine aX ?_
   refine aG ?_
   refine bR mixed (by kernel_rfl) hM [] 0 rfl fun hch=>?_
   refine aK hF hch 0 rfl (by kernel_rfl) rfl rfl rfl (fun w hM=>(aF hF rfl rfl)) fun a hF=>?_
   refine aK hF hch 1 rfl (by kernel_rfl) rfl rfl rfl (fun w hM=>(aF hF rfl rfl)) fun a hF=>?_
   obtain ⟨d2,c5,hP⟩:=bind_some hP
   have c7:=aM c5
   refine aK hF hch 2 rfl (by kernel_rfl) rfl rfl rfl (fun w hM=>(aY (sz:=1) (f2 _ (hsub _ (dropM hM 0))) qU52 in3 rfl hF rfl rfl rfl (bL c5))) fun a hF=>?_
   refine aK hF hch 3 rfl (by kernel_rfl) rfl rfl rfl (fun w hM=>(aJ qA3 hF rfl rfl ((((f2 _ (hsub _ (dropM hM 0))).elemS c7.2)).get 0 rfl))) fun a hF=>?_
   refine aK hF hch 4 rfl (by kernel_rfl) rfl rfl rfl (fun w hM=>(aF hF rfl rfl)) fun a hF=>?_
   refine aK hF hch 5 rfl (by kernel_rfl) rfl rfl rfl (fun w hM=>(aF hF rfl rfl)) fun a hF=>?_
   obtain ⟨d3,c6,hP⟩:=bind_some hP
   have c8:=aM c6
   refine aK hF hch 6 rfl (by kernel_rfl) rfl rfl rfl (fun w hM=>(aY (sz:=1) (f4 _ (hsub _ (dropM hM 0))) qU52 in3 rfl hF rfl rfl rfl (bL c6))) fun a hF=>?_
   refine aK hF hch 7 rfl (by kernel_rfl) rfl rfl rfl (fun w hM=>(aJ qA3 hF rfl rfl ((((f4 _ (hsub _ (dropM hM 0))).elemS c8.2)).get 0 rfl))) fun a hF=>?_
   refine aK hF hch 8 rfl (by kernel_rfl) rfl rfl rfl (fun w hM=>(dD hF rfl rfl rfl)) fun a hF=>?_
   refine bY hch (by kernel_rfl) fun w hM=>?_
   refine aB ?_
   refine aS hF (c:=.tmp 25) rfl (fun c2=>?_) (fun c2=>?_)
   ·have hP:=Fx.cT c2 hP
    refine aG ?_
    refine aD ?_
    refine aA hF (aH hF rfl rfl) rfl rfl rfl fun a hF=>?_
    refine aI (aB ?_)
    refine c_ret ?_
    have hP:=Option.some.inj hP
    subst hP
    have hP:=c4 _ rfl
    subst hP
    have hP:=cX c9
    subst hP
    refine bE Tryz.results89 hF rfl ?_
    exact ⟨rfl,hM⟩
   have hP:=Fx.cF c2 hP
   refine aW (bM (aB ?_))
   refine aD ?_
   refine aA hF (aF hF rfl rfl) rfl rfl rfl fun a hF=>?_
   refine aA hF (cA hF rfl rfl rfl) rfl rfl rfl fun a hF=>?_
   refine aA hF (aH hF rfl rfl) rfl rfl rfl fun a hF=>?_
   refine aI (aB ?_)
   have hP:=Option.some.inj hP
   subst hP
   exact ⟨(IntKind.i64.wrap (c3 + 1)),rfl,hF.to ⟨rfl,rfl,rfl,rfl,trivial⟩,hM⟩
  have hP:=Fx.cF c1 hP
  refine bZ (bC (bC (cR ?_)))
  refine aB ?_
  have hP:=Option.some.inj hP
  subst hP
  have hP:=c4 _ rfl
  subst hP
  exact ⟨(),rfl,hF.to ⟨rfl,trivial⟩,hM⟩
 rintro ⟨⟩ a w hP ⟨hF,hM⟩
 replace hP:Sh.lV = _:=hP
 unfold Sh.lV at hP
 refine aB ?_
 refine aG ?_
 refine aD ?_
 refine aA hF (aH hF rfl rfl) rfl rfl rfl fun a hF=>?_
 refine aI (aB ?_)
 refine c_ret ?_
 have hP:=Option.some.inj hP
 subst hP
 refine bE Tryz.results89 hF rfl ?_
 exact ⟨rfl,hM⟩
set_option maxHeartbeats 4000000 in
theorem jG {x0:List (List UInt8)} {x1:List (List UInt8)} {s1:SV} {hs2:List SV} {s5:SV} {hs6:List SV} {out:Bool} {w0:World} {Bf:World → Prop} {Lr:List Res} (hP:Sh.gL x0 x1 = some out) (hM:MemL w0 (Lr)) (hsub:∀ w,MemL w Lr → Bf w) (f3:LIn Bf s1 hs2) (q4:Each (LIn (X:=UInt8) Bf) hs2 x0) (f7:LIn Bf s5 hs6) (q8:Each (LIn (X:=UInt8) Bf) hs6 x1):Calls Tryz.prog 64 #[(s1).v,(s5).v] w0 (Ret fun v w'=>v = .bool out ∧ MemL w' (Lr)):=by
 unfold Sh.gL at hP
 refine aP (vs:=[(s1).v,(s5).v]) Tryz.func64 rfl Tryz.ntmps64 rfl fun a hF=>?_
 refine aG ?_
 refine aD ?_
 refine aA hF (aH hF rfl rfl) rfl rfl rfl fun a hF=>?_
 refine aI (aB ?_)
 refine aG ?_
 refine aG ?_
 refine aD ?_
 refine aA hF (aF hF rfl rfl) rfl rfl rfl fun a hF=>?_
 refine aA hF (cY (f3 _ (hsub _ (dropM hM 0))) q4.len qU28 hF rfl rfl) rfl rfl rfl fun a hF=>?_
 refine aA hF (aF hF rfl rfl) rfl rfl rfl fun a hF=>?_
 refine aA hF (cY (f7 _ (hsub _ (dropM hM 0))) q8.len qU28 hF rfl rfl) rfl rfl rfl fun a hF=>?_
 refine aA hF (dD hF rfl rfl rfl) rfl rfl rfl fun a hF=>?_
 refine aI (aB ?_)
 refine aS hF (c:=.tmp 10) rfl (fun c0=>?_) (fun c0=>?_)
 ·have hP:=Fx.cT c0 hP
  refine aG ?_
  refine aD ?_
  refine aA hF (aH hF rfl rfl) rfl rfl rfl fun a hF=>?_
  refine aI (aB ?_)
  refine c_ret ?_
  have hP:=Option.some.inj hP
  subst hP
  refine bE Tryz.results64 hF rfl ?_
  exact ⟨rfl,hM⟩
 have hP:=Fx.cF c0 hP
 refine aW (aB ?_)
 refine aG ?_
 refine aT hF hM hP (fun F x a w=>match x with | _=>Fr 27 [(4,.bool false)] a ∧ MemL w (Lr)) (fun d9 hP d5 hF hM=>?_) ?_
 ·refine aG ?_
  refine aD ?_
  refine aA hF (aH hF rfl rfl) rfl rfl rfl fun a hF=>?_
  refine aI (aB ?_)
  refine aX ?_
  refine bU hF hM hP (fun F x a w=>match x with | c3=>Fr 27 [(5,.int .i64 c3),(0,(s1).v),(1,(s5).v),(4,.bool false)] a ∧ MemL w (Lr)) (fun hF hM=>⟨hF.to ⟨rfl,rfl,rfl,rfl,trivial⟩,hM⟩) ?_
  rintro c3 a w g0 hP c4 ⟨hF,hM⟩
  replace hP:Sh.dK x0 x1 c3 = _:=hP
  unfold Sh.dK at hP
  refine aG ?_
  refine aG ?_
  refine aD ?_
  refine aA hF (aF hF rfl rfl) rfl rfl rfl fun a hF=>?_
  refine aA hF (aF hF rfl rfl) rfl rfl rfl fun a hF=>?_
  refine aA hF (cY (f3 _ (hsub _ (dropM hM 0))) q4.len qU28 hF rfl rfl) rfl rfl rfl fun a hF=>?_
  refine aA hF (cO hF rfl rfl rfl) rfl rfl rfl fun a hF=>?_
  refine aI (aB ?_)
  refine aS hF (c:=.tmp 14) rfl (fun c1=>?_) (fun c1=>?_)
  ·have hP:=Fx.cT c1 hP
   refine aW (aB ?_)
   refine aG ?_
   refine aX ?_
   refine aG ?_
   refine bR mixed (by kernel_rfl) hM [] 0 rfl fun hch=>?_
   refine aK hF hch 0 rfl (by kernel_rfl) rfl rfl rfl (fun w hM=>(aF hF rfl rfl)) fun a hF=>?_
   refine aK hF hch 1 rfl (by kernel_rfl) rfl rfl rfl (fun w hM=>(aF hF rfl rfl)) fun a hF=>?_
   obtain ⟨g1,c5,hP⟩:=bind_some hP
   have c7:=aM c5
   obtain ⟨d7,d1,d3⟩:=Each.getr q4 c7.2
   have c9:=Each.bd q4 (bL c5)
   refine aK hF hch 2 rfl (by kernel_rfl) rfl rfl rfl (fun w hM=>(aY (sz:=1) (f3 _ (hsub _ (dropM hM 0))) qU28 in23 rfl hF rfl rfl rfl c9)) fun a hF=>?_
   refine aK hF hch 3 rfl (by kernel_rfl) rfl rfl rfl (fun w hM=>(aJ qA23 hF rfl rfl ((((f3 _ (hsub _ (dropM hM 0))).elemS d1)).get 0 rfl))) fun a hF=>?_
   refine aK hF hch 4 rfl (by kernel_rfl) rfl rfl rfl (fun w hM=>(aF hF rfl rfl)) fun a hF=>?_
   refine aK hF hch 5 rfl (by kernel_rfl) rfl rfl rfl (fun w hM=>(aF hF rfl rfl)) fun a hF=>?_
   obtain ⟨g2,c6,hP⟩:=bind_some hP
   have c8:=aM c6
   obtain ⟨d8,d2,d4⟩:=Each.getr q8 c8.2
   have d0:=Each.bd q8 (bL c6)
   refine aK hF hch 6 rfl (by kernel_rfl) rfl rfl rfl (fun w hM=>(aY (sz:=1) (f7 _ (hsub _ (dropM hM 0))) qU28 in23 rfl hF rfl rfl rfl d0)) fun a hF=>?_
   refine aK hF hch 7 rfl (by kernel_rfl) rfl rfl rfl (fun w hM=>(aJ qA23 hF rfl rfl ((((f7 _ (hsub _ (dropM hM 0))).elemS d2)).get 0 rfl))) fun a hF=>?_
   refine bH hch 8 (by kernel_rfl) rfl rfl ?_
   refine cB hF 8 rfl rfl rfl rfl rfl fun w hMs hM=>?_
   obtain ⟨g3,d6,hP⟩:=bind_some hP
   refine (aO (xs:=[.tmp 20,.tmp 24]) Tryz.call43 hF rfl rfl (dY d6 hM (Bf:=Bf) (fun w hM=>hsub _ (dropM hM 0)) d3 d4) fun v w hR=>?_)
   obtain ⟨rfl,hM⟩:=hR
   replace hM:MemL _ (Lr):=hM
   have hMs:=selM hM [] 0 rfl
   refine ⟨_,_,hMs,hM,.inl fun _ h=>h,fun a hF=>?_⟩
   refine aK hF hch 9 rfl (by kernel_rfl) rfl rfl rfl (fun w hM=>(dE hF rfl rfl)) fun a hF=>?_
   refine bY hch (by kernel_rfl) fun w hM=>?_
   refine aB ?_
   refine aS hF (c:=.tmp 26) rfl (fun c2=>?_) (fun c2=>?_)
   ·have hP:=Fx.cT c2 hP
    refine aG ?_
    refine aD ?_
    refine aA hF (aH hF rfl rfl) rfl rfl rfl fun a hF=>?_
    refine aI (aB ?_)
    refine c_ret ?_
    have hP:=Option.some.inj hP
    subst hP
    have hP:=c4 _ rfl
    subst hP
    have hP:=cX d5
    subst hP
    refine bE Tryz.results64 hF rfl ?_
    exact ⟨rfl,hM⟩
   have hP:=Fx.cF c2 hP
   refine aW (bM (aB ?_))
   refine aD ?_
   refine aA hF (aF hF rfl rfl) rfl rfl rfl fun a hF=>?_
   refine aA hF (cA hF rfl rfl rfl) rfl rfl rfl fun a hF=>?_
   refine aA hF (aH hF rfl rfl) rfl rfl rfl fun a hF=>?_
   refine aI (aB ?_)
   have hP:=Option.some.inj hP
   subst hP
   exact ⟨(IntKind.i64.wrap (c3 + 1)),rfl,hF.to ⟨rfl,rfl,rfl,rfl,trivial⟩,hM⟩
  have hP:=Fx.cF c1 hP
  refine bZ (bC (bC (cR ?_)))
  refine aB ?_
  have hP:=Option.some.inj hP
  subst hP
  have hP:=c4 _ rfl
  subst hP
  exact ⟨(),rfl,hF.to ⟨rfl,trivial⟩,hM⟩
 rintro ⟨⟩ a w hP ⟨hF,hM⟩
 replace hP:Sh.lW = _:=hP
 unfold Sh.lW at hP
 refine aB ?_
 refine aG ?_
 refine aD ?_
 refine aA hF (aH hF rfl rfl) rfl rfl rfl fun a hF=>?_
 refine aI (aB ?_)
 refine c_ret ?_
 have hP:=Option.some.inj hP
 subst hP
 refine bE Tryz.results64 hF rfl ?_
 exact ⟨rfl,hM⟩
set_option maxHeartbeats 4000000 in
theorem eW {x0:QState} {x1:QState} {s1:SV} {s3:SV} {hs4:List SV} {s7:SV} {s9:SV} {s11:SV} {hs12:List SV} {s15:SV} {out:Bool} {w0:World} {Bf:World → Prop} {Lr:List Res} (hP:Sh.fT x0 x1 = some out) (hM:MemL w0 (Lr)) (hsub:∀ w,MemL w Lr → Bf w) (f2:LIn Bf s1 x0.ctx) (f5:LIn Bf s3 hs4) (q6:Each (LIn (X:=UInt8) Bf) hs4 x0.tables) (f8:LIn Bf s7 x0.sent) (f10:LIn Bf s9 x1.ctx) (f13:LIn Bf s11 hs12) (q14:Each (LIn (X:=UInt8) Bf) hs12 x1.tables) (f16:LIn Bf s15 x1.sent):Calls Tryz.prog 34 #[.agg (RState.enc (RState.mk x0.regs x0.stack s1 s3 s7 x0.at_ x0.steps x0.done)).toArray,.agg (RState.enc (RState.mk x1.regs x1.stack s9 s11 s15 x1.at_ x1.steps x1.done)).toArray] w0 (Ret fun v w'=>v = .bool out ∧ MemL w' (Lr)):=by
 unfold Sh.fT at hP
 refine aP (vs:=[.agg (RState.enc (RState.mk x0.regs x0.stack s1 s3 s7 x0.at_ x0.steps x0.done)).toArray,.agg (RState.enc (RState.mk x1.regs x1.stack s9 s11 s15 x1.at_ x1.steps x1.done)).toArray]) Tryz.func34 rfl Tryz.ntmps34 rfl fun a hF=>?_
 refine aG ?_
 refine aD ?_
 refine aN hF rfl rfl rfl (cW hF rfl rfl rfl fun c0 w c4 c2=>?_)
 have hM:=hM.plus c2
 intro a hF
 refine aN hF rfl rfl rfl (cW hF rfl rfl rfl fun c1 w c5 c3=>?_)
 have hM:=hM.plus c3
 replace hM:MemL _ (pt c1 (RState.enc (RState.mk x1.regs x1.stack s9 s11 s15 x1.at_ x1.steps x1.done)) 54 :: pt c0 (RState.enc (RState.mk x0.regs x0.stack s1 s3 s7 x0.at_ x0.steps x0.done)) 54 :: Lr):=hM
 intro a hF
 refine aA hF (aH hF rfl rfl) rfl rfl rfl fun a hF=>?_
 refine aI (aB ?_)
 refine aG ?_
 refine aT hF hM hP (fun F x a w=>match x with | v83=>Fr 59 [(4,.bool v83)] a ∧ MemL w (Lr)) (fun c7 hP c6 hF hM=>?_) ?_
 ·refine aD ?_
  refine aA hF (aC (off':=0) qU54 rfl in47 rfl hF rfl rfl rfl) rfl rfl rfl fun a hF=>?_
  refine aA hF (aR Tryz.isAgg47 Tryz.sizeOf47 hF rfl rfl (bJ _) (hM.cells (i:=1) rfl (RState.c_regs _))) rfl rfl rfl fun a hF=>?_
  refine aA hF (aC (off':=0) qU54 rfl in47 rfl hF rfl rfl rfl) rfl rfl rfl fun a hF=>?_
  refine aA hF (aR Tryz.isAgg47 Tryz.sizeOf47 hF rfl rfl (bJ _) (hM.cells (i:=0) rfl (RState.c_regs _))) rfl rfl rfl fun a hF=>?_
  refine aA hF (iX Tryz.eqGuardType47 (aCt _ _ _ _ (by decide)) hF rfl rfl rfl) rfl rfl rfl fun a hF=>?_
  refine aA hF (aF hF rfl rfl) rfl rfl rfl fun a hF=>?_
  refine bD 10 hF rfl (fun hb84=>?_) (fun hb84=>?_)
  ·have hP:=Fx.cT hb84 hP
   refine aL hF rfl rfl rfl hb84 (aC (off':=44) qU54 rfl in51 rfl hF rfl rfl rfl) rfl rfl fun a hF=>?_
   refine aL hF rfl rfl rfl hb84 (aR Tryz.isAgg51 Tryz.sizeOf51 hF rfl rfl (bJ _) (hM.cells (i:=1) rfl (RState.c_stack _))) rfl rfl fun a hF=>?_
   refine aL hF rfl rfl rfl hb84 (aC (off':=44) qU54 rfl in51 rfl hF rfl rfl rfl) rfl rfl fun a hF=>?_
   refine aL hF rfl rfl rfl hb84 (aR Tryz.isAgg51 Tryz.sizeOf51 hF rfl rfl (bJ _) (hM.cells (i:=0) rfl (RState.c_stack _))) rfl rfl fun a hF=>?_
   refine aL hF rfl rfl rfl hb84 (iX Tryz.eqGuardType51 (aCu _ _ _ _ (by decide)) hF rfl rfl rfl) rfl rfl fun a hF=>?_
   refine aA hF (aQ hF rfl rfl hb84 rfl) rfl rfl rfl fun a hF=>?_
   refine aA hF (aF hF rfl rfl) rfl rfl rfl fun a hF=>?_
   refine bD 17 hF rfl (fun hb85=>?_) (fun hb85=>?_)
   ·have hP:=Fx.cT hb85 hP
    refine aL hF rfl rfl rfl hb85 (aC (off':=460) qU54 rfl in23 rfl hF rfl rfl rfl) rfl rfl fun a hF=>?_
    refine aL hF rfl rfl rfl hb85 (aJ qA23 hF rfl rfl (hM.cell (i:=1) rfl (RState.g_ctx _))) rfl rfl fun a hF=>?_
    refine aL hF rfl rfl rfl hb85 (aC (off':=460) qU54 rfl in23 rfl hF rfl rfl rfl) rfl rfl fun a hF=>?_
    refine aL hF rfl rfl rfl hb85 (aJ qA23 hF rfl rfl (hM.cell (i:=0) rfl (RState.g_ctx _))) rfl rfl fun a hF=>?_
    obtain ⟨y87,hy87,hP⟩:=bind_some hP
    refine dX hF rfl rfl rfl hb85 rfl rfl (aO (xs:=[.tmp 19,.tmp 21]) Tryz.call43 hF rfl rfl (dY hy87 hM (Bf:=Bf) (fun w hM=>hsub _ (dropM hM 2)) f2 f10) fun v w hR=>?_)
    obtain ⟨rfl,hM⟩:=hR
    replace hM:MemL _ (pt c1 (RState.enc (RState.mk x1.regs x1.stack s9 s11 s15 x1.at_ x1.steps x1.done)) 54 :: pt c0 (RState.enc (RState.mk x0.regs x0.stack s1 s3 s7 x0.at_ x0.steps x0.done)) 54 :: Lr):=hM
    intro a hF
    refine aA hF (aQ hF rfl rfl hb85 rfl) rfl rfl rfl fun a hF=>?_
    refine aA hF (aF hF rfl rfl) rfl rfl rfl fun a hF=>?_
    refine bD 24 hF rfl (fun hb88=>?_) (fun hb88=>?_)
    ·have hP:=Fx.cT hb88 hP
     refine aL hF rfl rfl rfl hb88 (aC (off':=461) qU54 rfl in28 rfl hF rfl rfl rfl) rfl rfl fun a hF=>?_
     refine aL hF rfl rfl rfl hb88 (aJ qA28 hF rfl rfl (hM.cell (i:=1) rfl (RState.g_tables _))) rfl rfl fun a hF=>?_
     refine aL hF rfl rfl rfl hb88 (aC (off':=461) qU54 rfl in28 rfl hF rfl rfl rfl) rfl rfl fun a hF=>?_
     refine aL hF rfl rfl rfl hb88 (aJ qA28 hF rfl rfl (hM.cell (i:=0) rfl (RState.g_tables _))) rfl rfl fun a hF=>?_
     obtain ⟨y90,hy90,hP⟩:=bind_some hP
     refine dX hF rfl rfl rfl hb88 rfl rfl (aO (xs:=[.tmp 26,.tmp 28]) Tryz.call64 hF rfl rfl (jG hy90 hM (Bf:=Bf) (fun w hM=>hsub _ (dropM hM 2)) f5 q6 f13 q14) fun v w hR=>?_)
     obtain ⟨rfl,hM⟩:=hR
     replace hM:MemL _ (pt c1 (RState.enc (RState.mk x1.regs x1.stack s9 s11 s15 x1.at_ x1.steps x1.done)) 54 :: pt c0 (RState.enc (RState.mk x0.regs x0.stack s1 s3 s7 x0.at_ x0.steps x0.done)) 54 :: Lr):=hM
     intro a hF
     refine aA hF (aQ hF rfl rfl hb88 rfl) rfl rfl rfl fun a hF=>?_
     refine aA hF (aF hF rfl rfl) rfl rfl rfl fun a hF=>?_
     refine bD 31 hF rfl (fun hb91=>?_) (fun hb91=>?_)
     ·have hP:=Fx.cT hb91 hP
      refine aL hF rfl rfl rfl hb91 (aC (off':=462) qU54 rfl in52 rfl hF rfl rfl rfl) rfl rfl fun a hF=>?_
      refine aL hF rfl rfl rfl hb91 (aJ qA52 hF rfl rfl (hM.cell (i:=1) rfl (RState.g_sent _))) rfl rfl fun a hF=>?_
      refine aL hF rfl rfl rfl hb91 (aC (off':=462) qU54 rfl in52 rfl hF rfl rfl rfl) rfl rfl fun a hF=>?_
      refine aL hF rfl rfl rfl hb91 (aJ qA52 hF rfl rfl (hM.cell (i:=0) rfl (RState.g_sent _))) rfl rfl fun a hF=>?_
      obtain ⟨y93,hy93,hP⟩:=bind_some hP
      refine dX hF rfl rfl rfl hb91 rfl rfl (aO (xs:=[.tmp 33,.tmp 35]) Tryz.call89 hF rfl rfl (jF hy93 hM (Bf:=Bf) (fun w hM=>hsub _ (dropM hM 2)) f8 f16) fun v w hR=>?_)
      obtain ⟨rfl,hM⟩:=hR
      replace hM:MemL _ (pt c1 (RState.enc (RState.mk x1.regs x1.stack s9 s11 s15 x1.at_ x1.steps x1.done)) 54 :: pt c0 (RState.enc (RState.mk x0.regs x0.stack s1 s3 s7 x0.at_ x0.steps x0.done)) 54 :: Lr):=hM
      intro a hF
      refine aA hF (aQ hF rfl rfl hb91 rfl) rfl rfl rfl fun a hF=>?_
      refine aA hF (aF hF rfl rfl) rfl rfl rfl fun a hF=>?_
      refine bD 38 hF rfl (fun hb94=>?_) (fun hb94=>?_)
      ·have hP:=Fx.cT hb94 hP
       refine aL hF rfl rfl rfl hb94 (aC (off':=463) qU54 rfl in3 rfl hF rfl rfl rfl) rfl rfl fun a hF=>?_
       refine aL hF rfl rfl rfl hb94 (aJ qA3 hF rfl rfl (hM.cell (i:=1) rfl (RState.g_at_ _))) rfl rfl fun a hF=>?_
       refine aL hF rfl rfl rfl hb94 (aC (off':=463) qU54 rfl in3 rfl hF rfl rfl rfl) rfl rfl fun a hF=>?_
       refine aL hF rfl rfl rfl hb94 (aJ qA3 hF rfl rfl (hM.cell (i:=0) rfl (RState.g_at_ _))) rfl rfl fun a hF=>?_
       refine aL hF rfl rfl rfl hb94 (cZ hF rfl rfl rfl) rfl rfl fun a hF=>?_
       refine aA hF (aQ hF rfl rfl hb94 rfl) rfl rfl rfl fun a hF=>?_
       refine aA hF (aF hF rfl rfl) rfl rfl rfl fun a hF=>?_
       refine bD 45 hF rfl (fun hb95=>?_) (fun hb95=>?_)
       ·have hP:=Fx.cT hb95 hP
        refine aL hF rfl rfl rfl hb95 (aC (off':=464) qU54 rfl in3 rfl hF rfl rfl rfl) rfl rfl fun a hF=>?_
        refine aL hF rfl rfl rfl hb95 (aJ qA3 hF rfl rfl (hM.cell (i:=1) rfl (RState.g_steps _))) rfl rfl fun a hF=>?_
        refine aL hF rfl rfl rfl hb95 (aC (off':=464) qU54 rfl in3 rfl hF rfl rfl rfl) rfl rfl fun a hF=>?_
        refine aL hF rfl rfl rfl hb95 (aJ qA3 hF rfl rfl (hM.cell (i:=0) rfl (RState.g_steps _))) rfl rfl fun a hF=>?_
        refine aL hF rfl rfl rfl hb95 (cZ hF rfl rfl rfl) rfl rfl fun a hF=>?_
        refine aA hF (aQ hF rfl rfl hb95 rfl) rfl rfl rfl fun a hF=>?_
        refine aA hF (aF hF rfl rfl) rfl rfl rfl fun a hF=>?_
        refine bD 52 hF rfl (fun hb96=>?_) (fun hb96=>?_)
        ·have hP:=Fx.cT hb96 hP
         refine aL hF rfl rfl rfl hb96 (aC (off':=465) qU54 rfl in4 rfl hF rfl rfl rfl) rfl rfl fun a hF=>?_
         refine aL hF rfl rfl rfl hb96 (aJ qA4 hF rfl rfl (hM.cell (i:=1) rfl (RState.g_done _))) rfl rfl fun a hF=>?_
         refine aL hF rfl rfl rfl hb96 (aC (off':=465) qU54 rfl in4 rfl hF rfl rfl rfl) rfl rfl fun a hF=>?_
         refine aL hF rfl rfl rfl hb96 (aJ qA4 hF rfl rfl (hM.cell (i:=0) rfl (RState.g_done _))) rfl rfl fun a hF=>?_
         refine aL hF rfl rfl rfl hb96 (aGz qU4 hF rfl rfl rfl) rfl rfl fun a hF=>?_
         refine aA hF (aQ hF rfl rfl hb96 rfl) rfl rfl rfl fun a hF=>?_
         refine aA hF (aH hF rfl rfl) rfl rfl rfl fun a hF=>?_
         refine aI (aB ?_)
         have hP:=Option.some.inj hP
         subst hP
         exact ⟨(decide (x0.done = x1.done)),rfl,hF.to ⟨rfl,trivial⟩,selM hM [] 2 rfl⟩
        have hP:=Fx.cF hb96 hP
        refine aE hF rfl rfl rfl hb96 rfl rfl fun a hF=>?_
        refine aE hF rfl rfl rfl hb96 rfl rfl fun a hF=>?_
        refine aE hF rfl rfl rfl hb96 rfl rfl fun a hF=>?_
        refine aE hF rfl rfl rfl hb96 rfl rfl fun a hF=>?_
        refine aE hF rfl rfl rfl hb96 rfl rfl fun a hF=>?_
        refine aA hF (aV hF rfl rfl hb96 rfl) rfl rfl rfl fun a hF=>?_
        refine aA hF (aH hF rfl rfl) rfl rfl rfl fun a hF=>?_
        refine aI (aB ?_)
        have hP:=Option.some.inj hP
        subst hP
        exact ⟨false,rfl,hF.to ⟨rfl,trivial⟩,selM hM [] 2 rfl⟩
       have hP:=Fx.cF hb95 hP
       refine aE hF rfl rfl rfl hb95 rfl rfl fun a hF=>?_
       refine aE hF rfl rfl rfl hb95 rfl rfl fun a hF=>?_
       refine aE hF rfl rfl rfl hb95 rfl rfl fun a hF=>?_
       refine aE hF rfl rfl rfl hb95 rfl rfl fun a hF=>?_
       refine aE hF rfl rfl rfl hb95 rfl rfl fun a hF=>?_
       refine aA hF (aV hF rfl rfl hb95 rfl) rfl rfl rfl fun a hF=>?_
       refine aA hF (aF hF rfl rfl) rfl rfl rfl fun a hF=>?_
       refine aE hF rfl rfl rfl rfl rfl rfl fun a hF=>?_
       refine aE hF rfl rfl rfl rfl rfl rfl fun a hF=>?_
       refine aE hF rfl rfl rfl rfl rfl rfl fun a hF=>?_
       refine aE hF rfl rfl rfl rfl rfl rfl fun a hF=>?_
       refine aE hF rfl rfl rfl rfl rfl rfl fun a hF=>?_
       refine aA hF (aV hF rfl rfl rfl rfl) rfl rfl rfl fun a hF=>?_
       refine aA hF (aH hF rfl rfl) rfl rfl rfl fun a hF=>?_
       refine aI (aB ?_)
       have hP:=Option.some.inj hP
       subst hP
       exact ⟨false,rfl,hF.to ⟨rfl,trivial⟩,selM hM [] 2 rfl⟩
      have hP:=Fx.cF hb94 hP
      refine aE hF rfl rfl rfl hb94 rfl rfl fun a hF=>?_
      refine aE hF rfl rfl rfl hb94 rfl rfl fun a hF=>?_
      refine aE hF rfl rfl rfl hb94 rfl rfl fun a hF=>?_
      refine aE hF rfl rfl rfl hb94 rfl rfl fun a hF=>?_
      refine aE hF rfl rfl rfl hb94 rfl rfl fun a hF=>?_
      refine aA hF (aV hF rfl rfl hb94 rfl) rfl rfl rfl fun a hF=>?_
      refine aA hF (aF hF rfl rfl) rfl rfl rfl fun a hF=>?_
      refine aE hF rfl rfl rfl rfl rfl rfl fun a hF=>?_
      refine aE hF rfl rfl rfl rfl rfl rfl fun a hF=>?_
      refine aE hF rfl rfl rfl rfl rfl rfl fun a hF=>?_
      refine aE hF rfl rfl rfl rfl rfl rfl fun a hF=>?_
      refine aE hF rfl rfl rfl rfl rfl rfl fun a hF=>?_
      refine aA hF (aV hF rfl rfl rfl rfl) rfl rfl rfl fun a hF=>?_
      refine aA hF (aF hF rfl rfl) rfl rfl rfl fun a hF=>?_
      refine aE hF rfl rfl rfl rfl rfl rfl fun a hF=>?_
      refine aE hF rfl rfl rfl rfl rfl rfl fun a hF=>?_
      refine aE hF rfl rfl rfl rfl rfl rfl fun a hF=>?_
      refine aE hF rfl rfl rfl rfl rfl rfl fun a hF=>?_
      refine aE hF rfl rfl rfl rfl rfl rfl fun a hF=>?_
      refine aA hF (aV hF rfl rfl rfl rfl) rfl rfl rfl fun a hF=>?_
      refine aA hF (aH hF rfl rfl) rfl rfl rfl fun a hF=>?_
      refine aI (aB ?_)
      have hP:=Option.some.inj hP
      subst hP
      exact ⟨false,rfl,hF.to ⟨rfl,trivial⟩,selM hM [] 2 rfl⟩
     have hP:=Fx.cF hb91 hP
     refine aE hF rfl rfl rfl hb91 rfl rfl fun a hF=>?_
     refine aE hF rfl rfl rfl hb91 rfl rfl fun a hF=>?_
     refine aE hF rfl rfl rfl hb91 rfl rfl fun a hF=>?_
     refine aE hF rfl rfl rfl hb91 rfl rfl fun a hF=>?_
     refine aE hF rfl rfl rfl hb91 rfl rfl fun a hF=>?_
     refine aA hF (aV hF rfl rfl hb91 rfl) rfl rfl rfl fun a hF=>?_
     refine aA hF (aF hF rfl rfl) rfl rfl rfl fun a hF=>?_
     refine aE hF rfl rfl rfl rfl rfl rfl fun a hF=>?_
     refine aE hF rfl rfl rfl rfl rfl rfl fun a hF=>?_
     refine aE hF rfl rfl rfl rfl rfl rfl fun a hF=>?_
     refine aE hF rfl rfl rfl rfl rfl rfl fun a hF=>?_
     refine aE hF rfl rfl rfl rfl rfl rfl fun a hF=>?_
     refine aA hF (aV hF rfl rfl rfl rfl) rfl rfl rfl fun a hF=>?_
     refine aA hF (aF hF rfl rfl) rfl rfl rfl fun a hF=>?_
     refine aE hF rfl rfl rfl rfl rfl rfl fun a hF=>?_
     refine aE hF rfl rfl rfl rfl rfl rfl fun a hF=>?_
     refine aE hF rfl rfl rfl rfl rfl rfl fun a hF=>?_
     refine aE hF rfl rfl rfl rfl rfl rfl fun a hF=>?_
     refine aE hF rfl rfl rfl rfl rfl rfl fun a hF=>?_
     refine aA hF (aV hF rfl rfl rfl rfl) rfl rfl rfl fun a hF=>?_
     refine aA hF (aF hF rfl rfl) rfl rfl rfl fun a hF=>?_
     refine aE hF rfl rfl rfl rfl rfl rfl fun a hF=>?_
     refine aE hF rfl rfl rfl rfl rfl rfl fun a hF=>?_
     refine aE hF rfl rfl rfl rfl rfl rfl fun a hF=>?_
     refine aE hF rfl rfl rfl rfl rfl rfl fun a hF=>?_
     refine aE hF rfl rfl rfl rfl rfl rfl fun a hF=>?_
     refine aA hF (aV hF rfl rfl rfl rfl) rfl rfl rfl fun a hF=>?_
     refine aA hF (aH hF rfl rfl) rfl rfl rfl fun a hF=>?_
     refine aI (aB ?_)
     have hP:=Option.some.inj hP
     subst hP
     exact ⟨false,rfl,hF.to ⟨rfl,trivial⟩,selM hM [] 2 rfl⟩
    have hP:=Fx.cF hb88 hP
    refine aE hF rfl rfl rfl hb88 rfl rfl fun a hF=>?_
    refine aE hF rfl rfl rfl hb88 rfl rfl fun a hF=>?_
    refine aE hF rfl rfl rfl hb88 rfl rfl fun a hF=>?_
    refine aE hF rfl rfl rfl hb88 rfl rfl fun a hF=>?_
    refine aE hF rfl rfl rfl hb88 rfl rfl fun a hF=>?_
    refine aA hF (aV hF rfl rfl hb88 rfl) rfl rfl rfl fun a hF=>?_
    refine aA hF (aF hF rfl rfl) rfl rfl rfl fun a hF=>?_
    refine aE hF rfl rfl rfl rfl rfl rfl fun a hF=>?_
    refine aE hF rfl rfl rfl rfl rfl rfl fun a hF=>?_
    refine aE hF rfl rfl rfl rfl rfl rfl fun a hF=>?_
    refine aE hF rfl rfl rfl rfl rfl rfl fun a hF=>?_
    refine aE hF rfl rfl rfl rfl rfl rfl fun a hF=>?_
    refine aA hF (aV hF rfl rfl rfl rfl) rfl rfl rfl fun a hF=>?_
    refine aA hF (aF hF rfl rfl) rfl rfl rfl fun a hF=>?_
    refine aE hF rfl rfl rfl rfl rfl rfl fun a hF=>?_
    refine aE hF rfl rfl rfl rfl rfl rfl fun a hF=>?_
    refine aE hF rfl rfl rfl rfl rfl rfl fun a hF=>?_
    refine aE hF rfl rfl rfl rfl rfl rfl fun a hF=>?_
    refine aE hF rfl rfl rfl rfl rfl rfl fun a hF=>?_
    refine aA hF (aV hF rfl rfl rfl rfl) rfl rfl rfl fun a hF=>?_
    refine aA hF (aF hF rfl rfl) rfl rfl rfl fun a hF=>?_
    refine aE hF rfl rfl rfl rfl rfl rfl fun a hF=>?_
    refine aE hF rfl rfl rfl rfl rfl rfl fun a hF=>?_
    refine aE hF rfl rfl rfl rfl rfl rfl fun a hF=>?_
    refine aE hF rfl rfl rfl rfl rfl rfl fun a hF=>?_
    refine aE hF rfl rfl rfl rfl rfl rfl fun a hF=>?_
    refine aA hF (aV hF rfl rfl rfl rfl) rfl rfl rfl fun a hF=>?_
    refine aA hF (aF hF rfl rfl) rfl rfl rfl fun a hF=>?_
    refine aE hF rfl rfl rfl rfl rfl rfl fun a hF=>?_
    refine aE hF rfl rfl rfl rfl rfl rfl fun a hF=>?_
    refine aE hF rfl rfl rfl rfl rfl rfl fun a hF=>?_
    refine aE hF rfl rfl rfl rfl rfl rfl fun a hF=>?_
    refine aE hF rfl rfl rfl rfl rfl rfl fun a hF=>?_
    refine aA hF (aV hF rfl rfl rfl rfl) rfl rfl rfl fun a hF=>?_
    refine aA hF (aH hF rfl rfl) rfl rfl rfl fun a hF=>?_
    refine aI (aB ?_)
    have hP:=Option.some.inj hP
    subst hP
    exact ⟨false,rfl,hF.to ⟨rfl,trivial⟩,selM hM [] 2 rfl⟩
   have hP:=Fx.cF hb85 hP
   refine aE hF rfl rfl rfl hb85 rfl rfl fun a hF=>?_
   refine aE hF rfl rfl rfl hb85 rfl rfl fun a hF=>?_
   refine aE hF rfl rfl rfl hb85 rfl rfl fun a hF=>?_
   refine aE hF rfl rfl rfl hb85 rfl rfl fun a hF=>?_
   refine aE hF rfl rfl rfl hb85 rfl rfl fun a hF=>?_
   refine aA hF (aV hF rfl rfl hb85 rfl) rfl rfl rfl fun a hF=>?_
   refine aA hF (aF hF rfl rfl) rfl rfl rfl fun a hF=>?_
   refine aE hF rfl rfl rfl rfl rfl rfl fun a hF=>?_
   refine aE hF rfl rfl rfl rfl rfl rfl fun a hF=>?_
   refine aE hF rfl rfl rfl rfl rfl rfl fun a hF=>?_
   refine aE hF rfl rfl rfl rfl rfl rfl fun a hF=>?_
   refine aE hF rfl rfl rfl rfl rfl rfl fun a hF=>?_
   refine aA hF (aV hF rfl rfl rfl rfl) rfl rfl rfl fun a hF=>?_
   refine aA hF (aF hF rfl rfl) rfl rfl rfl fun a hF=>?_
   refine aE hF rfl rfl rfl rfl rfl rfl fun a hF=>?_
   refine aE hF rfl rfl rfl rfl rfl rfl fun a hF=>?_
   refine aE hF rfl rfl rfl rfl rfl rfl fun a hF=>?_
   refine aE hF rfl rfl rfl rfl rfl rfl fun a hF=>?_
   refine aE hF rfl rfl rfl rfl rfl rfl fun a hF=>?_
   refine aA hF (aV hF rfl rfl rfl rfl) rfl rfl rfl fun a hF=>?_
   refine aA hF (aF hF rfl rfl) rfl rfl rfl fun a hF=>?_
   refine aE hF rfl rfl rfl rfl rfl rfl fun a hF=>?_
   refine aE hF rfl rfl rfl rfl rfl rfl fun a hF=>?_
   refine aE hF rfl rfl rfl rfl rfl rfl fun a hF=>?_
   refine aE hF rfl rfl rfl rfl rfl rfl fun a hF=>?_
   refine aE hF rfl rfl rfl rfl rfl rfl fun a hF=>?_
   refine aA hF (aV hF rfl rfl rfl rfl) rfl rfl rfl fun a hF=>?_
   refine aA hF (aF hF rfl rfl) rfl rfl rfl fun a hF=>?_
   refine aE hF rfl rfl rfl rfl rfl rfl fun a hF=>?_
   refine aE hF rfl rfl rfl rfl rfl rfl fun a hF=>?_
   refine aE hF rfl rfl rfl rfl rfl rfl fun a hF=>?_
   refine aE hF rfl rfl rfl rfl rfl rfl fun a hF=>?_
   refine aE hF rfl rfl rfl rfl rfl rfl fun a hF=>?_
   refine aA hF (aV hF rfl rfl rfl rfl) rfl rfl rfl fun a hF=>?_
   refine aA hF (aF hF rfl rfl) rfl rfl rfl fun a hF=>?_
   refine aE hF rfl rfl rfl rfl rfl rfl fun a hF=>?_
   refine aE hF rfl rfl rfl rfl rfl rfl fun a hF=>?_
   refine aE hF rfl rfl rfl rfl rfl rfl fun a hF=>?_
   refine aE hF rfl rfl rfl rfl rfl rfl fun a hF=>?_
   refine aE hF rfl rfl rfl rfl rfl rfl fun a hF=>?_
   refine aA hF (aV hF rfl rfl rfl rfl) rfl rfl rfl fun a hF=>?_
   refine aA hF (aH hF rfl rfl) rfl rfl rfl fun a hF=>?_
   refine aI (aB ?_)
   have hP:=Option.some.inj hP
   subst hP
   exact ⟨false,rfl,hF.to ⟨rfl,trivial⟩,selM hM [] 2 rfl⟩
  have hP:=Fx.cF hb84 hP
  refine aE hF rfl rfl rfl hb84 rfl rfl fun a hF=>?_
  refine aE hF rfl rfl rfl hb84 rfl rfl fun a hF=>?_
  refine aE hF rfl rfl rfl hb84 rfl rfl fun a hF=>?_
  refine aE hF rfl rfl rfl hb84 rfl rfl fun a hF=>?_
  refine aE hF rfl rfl rfl hb84 rfl rfl fun a hF=>?_
  refine aA hF (aV hF rfl rfl hb84 rfl) rfl rfl rfl fun a hF=>?_
  refine aA hF (aF hF rfl rfl) rfl rfl rfl fun a hF=>?_
  refine aE hF rfl rfl rfl rfl rfl rfl fun a hF=>?_
  refine aE hF rfl rfl rfl rfl rfl rfl fun a hF=>?_
  refine aE hF rfl rfl rfl rfl rfl rfl fun a hF=>?_
  refine aE hF rfl rfl rfl rfl rfl rfl fun a hF=>?_
  refine aE hF rfl rfl rfl rfl rfl rfl fun a hF=>?_
  refine aA hF (aV hF rfl rfl rfl rfl) rfl rfl rfl fun a hF=>?_
  refine aA hF (aF hF rfl rfl) rfl rfl rfl fun a hF=>?_
  refine aE hF rfl rfl rfl rfl rfl rfl fun a hF=>?_
  refine aE hF rfl rfl rfl rfl rfl rfl fun a hF=>?_
  refine aE hF rfl rfl rfl rfl rfl rfl fun a hF=>?_
  refine aE hF rfl rfl rfl rfl rfl rfl fun a hF=>?_
  refine aE hF rfl rfl rfl rfl rfl rfl fun a hF=>?_
  refine aA hF (aV hF rfl rfl rfl rfl) rfl rfl rfl fun a hF=>?_
  refine aA hF (aF hF rfl rfl) rfl rfl rfl fun a hF=>?_
  refine aE hF rfl rfl rfl rfl rfl rfl fun a hF=>?_
  refine aE hF rfl rfl rfl rfl rfl rfl fun a hF=>?_
  refine aE hF rfl rfl rfl rfl rfl rfl fun a hF=>?_
  refine aE hF rfl rfl rfl rfl rfl rfl fun a hF=>?_
  refine aE hF rfl rfl rfl rfl rfl rfl fun a hF=>?_
  refine aA hF (aV hF rfl rfl rfl rfl) rfl rfl rfl fun a hF=>?_
  refine aA hF (aF hF rfl rfl) rfl rfl rfl fun a hF=>?_
  refine aE hF rfl rfl rfl rfl rfl rfl fun a hF=>?_
  refine aE hF rfl rfl rfl rfl rfl rfl fun a hF=>?_
  refine aE hF rfl rfl rfl rfl rfl rfl fun a hF=>?_
  refine aE hF rfl rfl rfl rfl rfl rfl fun a hF=>?_
  refine aE hF rfl rfl rfl rfl rfl rfl fun a hF=>?_
  refine aA hF (aV hF rfl rfl rfl rfl) rfl rfl rfl fun a hF=>?_
  refine aA hF (aF hF rfl rfl) rfl rfl rfl fun a hF=>?_
  refine aE hF rfl rfl rfl rfl rfl rfl fun a hF=>?_
  refine aE hF rfl rfl rfl rfl rfl rfl fun a hF=>?_
  refine aE hF rfl rfl rfl rfl rfl rfl fun a hF=>?_
  refine aE hF rfl rfl rfl rfl rfl rfl fun a hF=>?_
  refine aE hF rfl rfl rfl rfl rfl rfl fun a hF=>?_
  refine aA hF (aV hF rfl rfl rfl rfl) rfl rfl rfl fun a hF=>?_
  refine aA hF (aF hF rfl rfl) rfl rfl rfl fun a hF=>?_
  refine aE hF rfl rfl rfl rfl rfl rfl fun a hF=>?_
  refine aE hF rfl rfl rfl rfl rfl rfl fun a hF=>?_
  refine aE hF rfl rfl rfl rfl rfl rfl fun a hF=>?_
  refine aE hF rfl rfl rfl rfl rfl rfl fun a hF=>?_
  refine aE hF rfl rfl rfl rfl rfl rfl fun a hF=>?_
  refine aA hF (aV hF rfl rfl rfl rfl) rfl rfl rfl fun a hF=>?_
  refine aA hF (aH hF rfl rfl) rfl rfl rfl fun a hF=>?_
  refine aI (aB ?_)
  have hP:=Option.some.inj hP
  subst hP
  exact ⟨false,rfl,hF.to ⟨rfl,trivial⟩,selM hM [] 2 rfl⟩
 rintro v83 a w hP ⟨hF,hM⟩
 replace hP:Sh.lK v83 = _:=hP
 unfold Sh.lK at hP
 refine aB ?_
 refine c_ret ?_
 have hP:=Option.some.inj hP
 subst hP
 refine bE Tryz.results34 hF rfl ?_
 exact ⟨rfl,hM⟩
set_option maxHeartbeats 4000000 in
theorem eG {x0:QMark} {x1:QMark} {s1:SV} {s3:SV} {s5:SV} {hs6:List RPiece} {s9:SV} {s11:SV} {s13:SV} {s15:SV} {hs16:List RPiece} {s19:SV} {out:Bool} {w0:World} {Bf:World → Prop} {Lr:List Res} (hP:Sh.cM x0 x1 = some out) (hM:MemL w0 (Lr)) (hsub:∀ w,MemL w Lr → Bf w) (f2:LIn Bf s1 x0.regs) (f4:LIn Bf s3 x0.slots) (f7:LIn Bf s5 hs6) (q8:Each (QPieceIn Bf) hs6 x0.pieces) (f10:LIn Bf s9 x0.sent) (f12:LIn Bf s11 x1.regs) (f14:LIn Bf s13 x1.slots) (f17:LIn Bf s15 hs16) (q18:Each (QPieceIn Bf) hs16 x1.pieces) (f20:LIn Bf s19 x1.sent):Calls Tryz.prog 33 #[.agg (RMark.enc (RMark.mk x0.at_ x0.next x0.done s1 s3 s5 s9)).toArray,.agg (RMark.enc (RMark.mk x1.at_ x1.next x1.done s11 s13 s15 s19)).toArray] w0 (Ret fun v w'=>v = .bool out ∧ MemL w' (Lr)):=by
 unfold Sh.cM at hP
 refine aP (vs:=[.agg (RMark.enc (RMark.mk x0.at_ x0.next x0.done s1 s3 s5 s9)).toArray,.agg (RMark.enc (RMark.mk x1.at_ x1.next x1.done s11 s13 s15 s19)).toArray]) Tryz.func33 rfl Tryz.ntmps33 rfl fun a hF=>?_
 refine aG ?_
 refine aD ?_
 refine aN hF rfl rfl rfl (cW hF rfl rfl rfl fun c0 w m0 j6=>?_)
 have hM:=hM.plus j6
 intro a hF
 refine aN hF rfl rfl rfl (cW hF rfl rfl rfl fun c1 w m1 j7=>?_)
 have hM:=hM.plus j7
 replace hM:MemL _ (pt c1 (RMark.enc (RMark.mk x1.at_ x1.next x1.done s11 s13 s15 s19)) 60 :: pt c0 (RMark.enc (RMark.mk x0.at_ x0.next x0.done s1 s3 s5 s9)) 60 :: Lr):=hM
 intro a hF
 refine aA hF (aH hF rfl rfl) rfl rfl rfl fun a hF=>?_
 refine aI (aB ?_)
 refine aG ?_
 refine aG ?_
 refine aT hF hM hP (fun F x a w=>match x with | i6=>Fr 145 [(63,.bool i6),(2,.pointer (some ⟨c0,0,none⟩)),(3,.pointer (some ⟨c1,0,none⟩)),(4,.bool false)] a ∧ MemL w (pt c1 (RMark.enc (RMark.mk x1.at_ x1.next x1.done s11 s13 s15 s19)) 60 :: pt c0 (RMark.enc (RMark.mk x0.at_ x0.next x0.done s1 s3 s5 s9)) 60 :: Lr)) (fun n3 hP m6 hF hM=>?_) ?_
 ·refine aD ?_
  refine aA hF (aC (off':=0) qU60 rfl in3 rfl hF rfl rfl rfl) rfl rfl rfl fun a hF=>?_
  refine aA hF (aJ qA3 hF rfl rfl (hM.cell (i:=1) rfl (RMark.g_at_ _))) rfl rfl rfl fun a hF=>?_
  refine aA hF (aC (off':=0) qU60 rfl in3 rfl hF rfl rfl rfl) rfl rfl rfl fun a hF=>?_
  refine aA hF (aJ qA3 hF rfl rfl (hM.cell (i:=0) rfl (RMark.g_at_ _))) rfl rfl rfl fun a hF=>?_
  refine aA hF (dD hF rfl rfl rfl) rfl rfl rfl fun a hF=>?_
  refine aA hF (aF hF rfl rfl) rfl rfl rfl fun a hF=>?_
  refine bD 15 hF rfl (fun c9=>?_) (fun c9=>?_)
  ·have hP:=Fx.cT c9 hP
   refine aE hF rfl rfl rfl c9 rfl rfl fun a hF=>?_
   refine aE hF rfl rfl rfl c9 rfl rfl fun a hF=>?_
   refine aE hF rfl rfl rfl c9 rfl rfl fun a hF=>?_
   refine aE hF rfl rfl rfl c9 rfl rfl fun a hF=>?_
   refine aE hF rfl rfl rfl c9 rfl rfl fun a hF=>?_
   refine aA hF (aQ hF rfl rfl c9 rfl) rfl rfl rfl fun a hF=>?_
   refine aA hF (aF hF rfl rfl) rfl rfl rfl fun a hF=>?_
   refine aE hF rfl rfl rfl rfl rfl rfl fun a hF=>?_
   refine aE hF rfl rfl rfl rfl rfl rfl fun a hF=>?_
   refine aE hF rfl rfl rfl rfl rfl rfl fun a hF=>?_
   refine aE hF rfl rfl rfl rfl rfl rfl fun a hF=>?_
   refine aE hF rfl rfl rfl rfl rfl rfl fun a hF=>?_
   refine aA hF (aQ hF rfl rfl rfl rfl) rfl rfl rfl fun a hF=>?_
   refine aA hF (aF hF rfl rfl) rfl rfl rfl fun a hF=>?_
   refine aE hF rfl rfl rfl rfl rfl rfl fun a hF=>?_
   refine aE hF rfl rfl rfl rfl rfl rfl fun a hF=>?_
   refine aE hF rfl rfl rfl rfl rfl rfl fun a hF=>?_
   refine aE hF rfl rfl rfl rfl rfl rfl fun a hF=>?_
   refine aE hF rfl rfl rfl rfl rfl rfl fun a hF=>?_
   refine aE hF rfl rfl rfl rfl rfl rfl fun a hF=>?_
   refine aE hF rfl rfl rfl rfl rfl rfl fun a hF=>?_
   refine aA hF (aQ hF rfl rfl rfl rfl) rfl rfl rfl fun a hF=>?_
   refine aA hF (aF hF rfl rfl) rfl rfl rfl fun a hF=>?_
   refine aE hF rfl rfl rfl rfl rfl rfl fun a hF=>?_
   refine aE hF rfl rfl rfl rfl rfl rfl fun a hF=>?_
   refine aE hF rfl rfl rfl rfl rfl rfl fun a hF=>?_
   refine aE hF rfl rfl rfl rfl rfl rfl fun a hF=>?_
   refine aE hF rfl rfl rfl rfl rfl rfl fun a hF=>?_
   refine aE hF rfl rfl rfl rfl rfl rfl fun a hF=>?_
   refine aE hF rfl rfl rfl rfl rfl rfl fun a hF=>?_
   refine aA hF (aQ hF rfl rfl rfl rfl) rfl rfl rfl fun a hF=>?_
   refine aA hF (aF hF rfl rfl) rfl rfl rfl fun a hF=>?_
   refine aE hF rfl rfl rfl rfl rfl rfl fun a hF=>?_
   refine aE hF rfl rfl rfl rfl rfl rfl fun a hF=>?_
   refine aE hF rfl rfl rfl rfl rfl rfl fun a hF=>?_
   refine aE hF rfl rfl rfl rfl rfl rfl fun a hF=>?_
   refine aE hF rfl rfl rfl rfl rfl rfl fun a hF=>?_
   refine aE hF rfl rfl rfl rfl rfl rfl fun a hF=>?_
   refine aE hF rfl rfl rfl rfl rfl rfl fun a hF=>?_
   refine aA hF (aQ hF rfl rfl rfl rfl) rfl rfl rfl fun a hF=>?_
   refine aA hF (aF hF rfl rfl) rfl rfl rfl fun a hF=>?_
   refine aE hF rfl rfl rfl rfl rfl rfl fun a hF=>?_
   refine aE hF rfl rfl rfl rfl rfl rfl fun a hF=>?_
   refine aE hF rfl rfl rfl rfl rfl rfl fun a hF=>?_
   refine aE hF rfl rfl rfl rfl rfl rfl fun a hF=>?_
   refine aE hF rfl rfl rfl rfl rfl rfl fun a hF=>?_
   refine aE hF rfl rfl rfl rfl rfl rfl fun a hF=>?_
   refine aA hF (aQ hF rfl rfl rfl rfl) rfl rfl rfl fun a hF=>?_
   refine aI (aB ?_)
   have hP:=Option.some.inj hP
   subst hP
   exact ⟨true,rfl,hF.to ⟨rfl,rfl,rfl,rfl,trivial⟩,hM⟩
  have hP:=Fx.cF c9 hP
  refine aL hF rfl rfl rfl c9 (aC (off':=1) qU60 rfl in3 rfl hF rfl rfl rfl) rfl rfl fun a hF=>?_
  refine aL hF rfl rfl rfl c9 (aJ qA3 hF rfl rfl (hM.cell (i:=1) rfl (RMark.g_next _))) rfl rfl fun a hF=>?_
  refine aL hF rfl rfl rfl c9 (aC (off':=1) qU60 rfl in3 rfl hF rfl rfl rfl) rfl rfl fun a hF=>?_
  refine aL hF rfl rfl rfl c9 (aJ qA3 hF rfl rfl (hM.cell (i:=0) rfl (RMark.g_next _))) rfl rfl fun a hF=>?_
  refine aL hF rfl rfl rfl c9 (dD hF rfl rfl rfl) rfl rfl fun a hF=>?_
  refine aA hF (aV hF rfl rfl c9 rfl) rfl rfl rfl fun a hF=>?_
  refine aA hF (aF hF rfl rfl) rfl rfl rfl fun a hF=>?_
  refine bD 22 hF rfl (fun d0=>?_) (fun d0=>?_)
  ·have hP:=Fx.cT d0 hP
   refine aE hF rfl rfl rfl d0 rfl rfl fun a hF=>?_
   refine aE hF rfl rfl rfl d0 rfl rfl fun a hF=>?_
   refine aE hF rfl rfl rfl d0 rfl rfl fun a hF=>?_
   refine aE hF rfl rfl rfl d0 rfl rfl fun a hF=>?_
   refine aE hF rfl rfl rfl d0 rfl rfl fun a hF=>?_
   refine aA hF (aQ hF rfl rfl d0 rfl) rfl rfl rfl fun a hF=>?_
   refine aA hF (aF hF rfl rfl) rfl rfl rfl fun a hF=>?_
   refine aE hF rfl rfl rfl rfl rfl rfl fun a hF=>?_
   refine aE hF rfl rfl rfl rfl rfl rfl fun a hF=>?_
   refine aE hF rfl rfl rfl rfl rfl rfl fun a hF=>?_
   refine aE hF rfl rfl rfl rfl rfl rfl fun a hF=>?_
   refine aE hF rfl rfl rfl rfl rfl rfl fun a hF=>?_
   refine aE hF rfl rfl rfl rfl rfl rfl fun a hF=>?_
   refine aE hF rfl rfl rfl rfl rfl rfl fun a hF=>?_
   refine aA hF (aQ hF rfl rfl rfl rfl) rfl rfl rfl fun a hF=>?_
   refine aA hF (aF hF rfl rfl) rfl rfl rfl fun a hF=>?_
   refine aE hF rfl rfl rfl rfl rfl rfl fun a hF=>?_
   refine aE hF rfl rfl rfl rfl rfl rfl fun a hF=>?_
   refine aE hF rfl rfl rfl rfl rfl rfl fun a hF=>?_
   refine aE hF rfl rfl rfl rfl rfl rfl fun a hF=>?_
   refine aE hF rfl rfl rfl rfl rfl rfl fun a hF=>?_
   refine aE hF rfl rfl rfl rfl rfl rfl fun a hF=>?_
   refine aE hF rfl rfl rfl rfl rfl rfl fun a hF=>?_
   refine aA hF (aQ hF rfl rfl rfl rfl) rfl rfl rfl fun a hF=>?_
   refine aA hF (aF hF rfl rfl) rfl rfl rfl fun a hF=>?_
   refine aE hF rfl rfl rfl rfl rfl rfl fun a hF=>?_
   refine aE hF rfl rfl rfl rfl rfl rfl fun a hF=>?_
   refine aE hF rfl rfl rfl rfl rfl rfl fun a hF=>?_
   refine aE hF rfl rfl rfl rfl rfl rfl fun a hF=>?_
   refine aE hF rfl rfl rfl rfl rfl rfl fun a hF=>?_
   refine aE hF rfl rfl rfl rfl rfl rfl fun a hF=>?_
   refine aE hF rfl rfl rfl rfl rfl rfl fun a hF=>?_
   refine aA hF (aQ hF rfl rfl rfl rfl) rfl rfl rfl fun a hF=>?_
   refine aA hF (aF hF rfl rfl) rfl rfl rfl fun a hF=>?_
   refine aE hF rfl rfl rfl rfl rfl rfl fun a hF=>?_
   refine aE hF rfl rfl rfl rfl rfl rfl fun a hF=>?_
   refine aE hF rfl rfl rfl rfl rfl rfl fun a hF=>?_
   refine aE hF rfl rfl rfl rfl rfl rfl fun a hF=>?_
   refine aE hF rfl rfl rfl rfl rfl rfl fun a hF=>?_
   refine aE hF rfl rfl rfl rfl rfl rfl fun a hF=>?_
   refine aA hF (aQ hF rfl rfl rfl rfl) rfl rfl rfl fun a hF=>?_
   refine aI (aB ?_)
   have hP:=Option.some.inj hP
   subst hP
   exact ⟨true,rfl,hF.to ⟨rfl,rfl,rfl,rfl,trivial⟩,hM⟩
  have hP:=Fx.cF d0 hP
  refine aL hF rfl rfl rfl d0 (aC (off':=2) qU60 rfl in4 rfl hF rfl rfl rfl) rfl rfl fun a hF=>?_
  refine aL hF rfl rfl rfl d0 (aJ qA4 hF rfl rfl (hM.cell (i:=1) rfl (RMark.g_done _))) rfl rfl fun a hF=>?_
  refine aL hF rfl rfl rfl d0 (aC (off':=2) qU60 rfl in4 rfl hF rfl rfl rfl) rfl rfl fun a hF=>?_
  refine aL hF rfl rfl rfl d0 (aJ qA4 hF rfl rfl (hM.cell (i:=0) rfl (RMark.g_done _))) rfl rfl fun a hF=>?_
  refine aL hF rfl rfl rfl d0 (zM qU4 hF rfl rfl rfl) rfl rfl fun a hF=>?_
  refine aA hF (aV hF rfl rfl d0 rfl) rfl rfl rfl fun a hF=>?_
  refine aA hF (aF hF rfl rfl) rfl rfl rfl fun a hF=>?_
  refine bD 29 hF rfl (fun c2=>?_) (fun c2=>?_)
  ·have hP:=Fx.cT c2 hP
   refine aE hF rfl rfl rfl c2 rfl rfl fun a hF=>?_
   refine aE hF rfl rfl rfl c2 rfl rfl fun a hF=>?_
   refine aE hF rfl rfl rfl c2 rfl rfl fun a hF=>?_
   refine aE hF rfl rfl rfl c2 rfl rfl fun a hF=>?_
   refine aE hF rfl rfl rfl c2 rfl rfl fun a hF=>?_
   refine aE hF rfl rfl rfl c2 rfl rfl fun a hF=>?_
   refine aE hF rfl rfl rfl c2 rfl rfl fun a hF=>?_
   refine aA hF (aQ hF rfl rfl c2 rfl) rfl rfl rfl fun a hF=>?_
   refine aA hF (aF hF rfl rfl) rfl rfl rfl fun a hF=>?_
   refine aE hF rfl rfl rfl rfl rfl rfl fun a hF=>?_
   refine aE hF rfl rfl rfl rfl rfl rfl fun a hF=>?_
   refine aE hF rfl rfl rfl rfl rfl rfl fun a hF=>?_
   refine aE hF rfl rfl rfl rfl rfl rfl fun a hF=>?_
   refine aE hF rfl rfl rfl rfl rfl rfl fun a hF=>?_
   refine aE hF rfl rfl rfl rfl rfl rfl fun a hF=>?_
   refine aE hF rfl rfl rfl rfl rfl rfl fun a hF=>?_
   refine aA hF (aQ hF rfl rfl rfl rfl) rfl rfl rfl fun a hF=>?_
   refine aA hF (aF hF rfl rfl) rfl rfl rfl fun a hF=>?_
   refine aE hF rfl rfl rfl rfl rfl rfl fun a hF=>?_
   refine aE hF rfl rfl rfl rfl rfl rfl fun a hF=>?_
   refine aE hF rfl rfl rfl rfl rfl rfl fun a hF=>?_
   refine aE hF rfl rfl rfl rfl rfl rfl fun a hF=>?_
   refine aE hF rfl rfl rfl rfl rfl rfl fun a hF=>?_
   refine aE hF rfl rfl rfl rfl rfl rfl fun a hF=>?_
   refine aE hF rfl rfl rfl rfl rfl rfl fun a hF=>?_
   refine aA hF (aQ hF rfl rfl rfl rfl) rfl rfl rfl fun a hF=>?_
   refine aA hF (aF hF rfl rfl) rfl rfl rfl fun a hF=>?_
   refine aE hF rfl rfl rfl rfl rfl rfl fun a hF=>?_
   refine aE hF rfl rfl rfl rfl rfl rfl fun a hF=>?_
   refine aE hF rfl rfl rfl rfl rfl rfl fun a hF=>?_
   refine aE hF rfl rfl rfl rfl rfl rfl fun a hF=>?_
   refine aE hF rfl rfl rfl rfl rfl rfl fun a hF=>?_
   refine aE hF rfl rfl rfl rfl rfl rfl fun a hF=>?_
   refine aA hF (aQ hF rfl rfl rfl rfl) rfl rfl rfl fun a hF=>?_
   refine aI (aB ?_)
   have hP:=Option.some.inj hP
   subst hP
   exact ⟨true,rfl,hF.to ⟨rfl,rfl,rfl,rfl,trivial⟩,hM⟩
  have hP:=Fx.cF c2 hP
  refine aL hF rfl rfl rfl c2 (aC (off':=3) qU60 rfl in56 rfl hF rfl rfl rfl) rfl rfl fun a hF=>?_
  refine aL hF rfl rfl rfl c2 (aJ qA56 hF rfl rfl (hM.cell (i:=1) rfl (RMark.g_regs _))) rfl rfl fun a hF=>?_
  refine aL hF rfl rfl rfl c2 (bQ (f2 _ (hsub _ (dropM hM 2))) qU56 hF rfl rfl) rfl rfl fun a hF=>?_
  refine aL hF rfl rfl rfl c2 (aC (off':=3) qU60 rfl in56 rfl hF rfl rfl rfl) rfl rfl fun a hF=>?_
  refine aL hF rfl rfl rfl c2 (aJ qA56 hF rfl rfl (hM.cell (i:=0) rfl (RMark.g_regs _))) rfl rfl fun a hF=>?_
  refine aL hF rfl rfl rfl c2 (bQ (f12 _ (hsub _ (dropM hM 2))) qU56 hF rfl rfl) rfl rfl fun a hF=>?_
  refine aL hF rfl rfl rfl c2 (dD hF rfl rfl rfl) rfl rfl fun a hF=>?_
  refine aA hF (aV hF rfl rfl c2 rfl) rfl rfl rfl fun a hF=>?_
  refine aA hF (aF hF rfl rfl) rfl rfl rfl fun a hF=>?_
  refine bD 38 hF rfl (fun c3=>?_) (fun c3=>?_)
  ·have hP:=Fx.cT c3 hP
   refine aE hF rfl rfl rfl c3 rfl rfl fun a hF=>?_
   refine aE hF rfl rfl rfl c3 rfl rfl fun a hF=>?_
   refine aE hF rfl rfl rfl c3 rfl rfl fun a hF=>?_
   refine aE hF rfl rfl rfl c3 rfl rfl fun a hF=>?_
   refine aE hF rfl rfl rfl c3 rfl rfl fun a hF=>?_
   refine aE hF rfl rfl rfl c3 rfl rfl fun a hF=>?_
   refine aE hF rfl rfl rfl c3 rfl rfl fun a hF=>?_
   refine aA hF (aQ hF rfl rfl c3 rfl) rfl rfl rfl fun a hF=>?_
   refine aA hF (aF hF rfl rfl) rfl rfl rfl fun a hF=>?_
   refine aE hF rfl rfl rfl rfl rfl rfl fun a hF=>?_
   refine aE hF rfl rfl rfl rfl rfl rfl fun a hF=>?_
   refine aE hF rfl rfl rfl rfl rfl rfl fun a hF=>?_
   refine aE hF rfl rfl rfl rfl rfl rfl fun a hF=>?_
   refine aE hF rfl rfl rfl rfl rfl rfl fun a hF=>?_
   refine aE hF rfl rfl rfl rfl rfl rfl fun a hF=>?_
   refine aE hF rfl rfl rfl rfl rfl rfl fun a hF=>?_
   refine aA hF (aQ hF rfl rfl rfl rfl) rfl rfl rfl fun a hF=>?_
   refine aA hF (aF hF rfl rfl) rfl rfl rfl fun a hF=>?_
   refine aE hF rfl rfl rfl rfl rfl rfl fun a hF=>?_
   refine aE hF rfl rfl rfl rfl rfl rfl fun a hF=>?_
   refine aE hF rfl rfl rfl rfl rfl rfl fun a hF=>?_
   refine aE hF rfl rfl rfl rfl rfl rfl fun a hF=>?_
   refine aE hF rfl rfl rfl rfl rfl rfl fun a hF=>?_
   refine aE hF rfl rfl rfl rfl rfl rfl fun a hF=>?_
   refine aA hF (aQ hF rfl rfl rfl rfl) rfl rfl rfl fun a hF=>?_
   refine aI (aB ?_)
   have hP:=Option.some.inj hP
   subst hP
   exact ⟨true,rfl,hF.to ⟨rfl,rfl,rfl,rfl,trivial⟩,hM⟩
  have hP:=Fx.cF c3 hP
  refine aL hF rfl rfl rfl c3 (aC (off':=4) qU60 rfl in57 rfl hF rfl rfl rfl) rfl rfl fun a hF=>?_
  refine aL hF rfl rfl rfl c3 (aJ qA57 hF rfl rfl (hM.cell (i:=1) rfl (RMark.g_slots _))) rfl rfl fun a hF=>?_
  refine aL hF rfl rfl rfl c3 (bQ (f4 _ (hsub _ (dropM hM 2))) qU57 hF rfl rfl) rfl rfl fun a hF=>?_
  refine aL hF rfl rfl rfl c3 (aC (off':=4) qU60 rfl in57 rfl hF rfl rfl rfl) rfl rfl fun a hF=>?_
  refine aL hF rfl rfl rfl c3 (aJ qA57 hF rfl rfl (hM.cell (i:=0) rfl (RMark.g_slots _))) rfl rfl fun a hF=>?_
  refine aL hF rfl rfl rfl c3 (bQ (f14 _ (hsub _ (dropM hM 2))) qU57 hF rfl rfl) rfl rfl fun a hF=>?_
  refine aL hF rfl rfl rfl c3 (dD hF rfl rfl rfl) rfl rfl fun a hF=>?_
  refine aA hF (aV hF rfl rfl c3 rfl) rfl rfl rfl fun a hF=>?_
  refine aA hF (aF hF rfl rfl) rfl rfl rfl fun a hF=>?_
  refine bD 47 hF rfl (fun c4=>?_) (fun c4=>?_)
  ·have hP:=Fx.cT c4 hP
   refine aE hF rfl rfl rfl c4 rfl rfl fun a hF=>?_
   refine aE hF rfl rfl rfl c4 rfl rfl fun a hF=>?_
   refine aE hF rfl rfl rfl c4 rfl rfl fun a hF=>?_
   refine aE hF rfl rfl rfl c4 rfl rfl fun a hF=>?_
   refine aE hF rfl rfl rfl c4 rfl rfl fun a hF=>?_
   refine aE hF rfl rfl rfl c4 rfl rfl fun a hF=>?_
   refine aE hF rfl rfl rfl c4 rfl rfl fun a hF=>?_
   refine aA hF (aQ hF rfl rfl c4 rfl) rfl rfl rfl fun a hF=>?_
   refine aA hF (aF hF rfl rfl) rfl rfl rfl fun a hF=>?_
   refine aE hF rfl rfl rfl rfl rfl rfl fun a hF=>?_
   refine aE hF rfl rfl rfl rfl rfl rfl fun a hF=>?_
   refine aE hF rfl rfl rfl rfl rfl rfl fun a hF=>?_
   refine aE hF rfl rfl rfl rfl rfl rfl fun a hF=>?_
   refine aE hF rfl rfl rfl rfl rfl rfl fun a hF=>?_
   refine aE hF rfl rfl rfl rfl rfl rfl fun a hF=>?_
   refine aA hF (aQ hF rfl rfl rfl rfl) rfl rfl rfl fun a hF=>?_
   refine aI (aB ?_)
   have hP:=Option.some.inj hP
   subst hP
   exact ⟨true,rfl,hF.to ⟨rfl,rfl,rfl,rfl,trivial⟩,hM⟩
  have hP:=Fx.cF c4 hP
  refine aL hF rfl rfl rfl c4 (aC (off':=5) qU60 rfl in58 rfl hF rfl rfl rfl) rfl rfl fun a hF=>?_
  refine aL hF rfl rfl rfl c4 (aJ qA58 hF rfl rfl (hM.cell (i:=1) rfl (RMark.g_pieces _))) rfl rfl fun a hF=>?_
  refine aL hF rfl rfl rfl c4 (cY (f7 _ (hsub _ (dropM hM 2))) q8.len qU58 hF rfl rfl) rfl rfl fun a hF=>?_
  refine aL hF rfl rfl rfl c4 (aC (off':=5) qU60 rfl in58 rfl hF rfl rfl rfl) rfl rfl fun a hF=>?_
  refine aL hF rfl rfl rfl c4 (aJ qA58 hF rfl rfl (hM.cell (i:=0) rfl (RMark.g_pieces _))) rfl rfl fun a hF=>?_
  refine aL hF rfl rfl rfl c4 (cY (f17 _ (hsub _ (dropM hM 2))) q18.len qU58 hF rfl rfl) rfl rfl fun a hF=>?_
  refine aL hF rfl rfl rfl c4 (dD hF rfl rfl rfl) rfl rfl fun a hF=>?_
  refine aA hF (aV hF rfl rfl c4 rfl) rfl rfl rfl fun a hF=>?_
  refine aA hF (aF hF rfl rfl) rfl rfl rfl fun a hF=>?_
  refine bD 56 hF rfl (fun c5=>?_) (fun c5=>?_)
  ·have hP:=Fx.cT c5 hP
   refine aE hF rfl rfl rfl c5 rfl rfl fun a hF=>?_
   refine aE hF rfl rfl rfl c5 rfl rfl fun a hF=>?_
   refine aE hF rfl rfl rfl c5 rfl rfl fun a hF=>?_
   refine aE hF rfl rfl rfl c5 rfl rfl fun a hF=>?_
   refine aE hF rfl rfl rfl c5 rfl rfl fun a hF=>?_
   refine aE hF rfl rfl rfl c5 rfl rfl fun a hF=>?_
   refine aA hF (aQ hF rfl rfl c5 rfl) rfl rfl rfl fun a hF=>?_
   refine aI (aB ?_)
   have hP:=Option.some.inj hP
   subst hP
   exact ⟨true,rfl,hF.to ⟨rfl,rfl,rfl,rfl,trivial⟩,hM⟩
  have hP:=Fx.cF c5 hP
  refine aL hF rfl rfl rfl c5 (aC (off':=6) qU60 rfl in52 rfl hF rfl rfl rfl) rfl rfl fun a hF=>?_
  refine aL hF rfl rfl rfl c5 (aJ qA52 hF rfl rfl (hM.cell (i:=1) rfl (RMark.g_sent _))) rfl rfl fun a hF=>?_
  refine aL hF rfl rfl rfl c5 (aC (off':=6) qU60 rfl in52 rfl hF rfl rfl rfl) rfl rfl fun a hF=>?_
  refine aL hF rfl rfl rfl c5 (aJ qA52 hF rfl rfl (hM.cell (i:=0) rfl (RMark.g_sent _))) rfl rfl fun a hF=>?_
  obtain ⟨l8,k8,hP⟩:=bind_some hP
  refine dX hF rfl rfl rfl c5 rfl rfl (aO (xs:=[.tmp 58,.tmp 60]) Tryz.call89 hF rfl rfl (jF k8 hM (Bf:=Bf) (fun w hM=>hsub _ (dropM hM 2)) f10 f20) fun v w hR=>?_)
  obtain ⟨rfl,hM⟩:=hR
  replace hM:MemL _ (pt c1 (RMark.enc (RMark.mk x1.at_ x1.next x1.done s11 s13 s15 s19)) 60 :: pt c0 (RMark.enc (RMark.mk x0.at_ x0.next x0.done s1 s3 s5 s9)) 60 :: Lr):=hM
  intro a hF
  refine aL hF rfl rfl rfl c5 (dE hF rfl rfl) rfl rfl fun a hF=>?_
  refine aA hF (aV hF rfl rfl c5 rfl) rfl rfl rfl fun a hF=>?_
  refine aI (aB ?_)
  have hP:=Option.some.inj hP
  subst hP
  exact ⟨(!l8),rfl,hF.to ⟨rfl,rfl,rfl,rfl,trivial⟩,hM⟩
 rintro i6 a w hP ⟨hF,hM⟩
 replace hP:Sh.bE x0 x1 i6 = _:=hP
 unfold Sh.bE at hP
 refine aB ?_
 refine aS hF (c:=.tmp 63) rfl (fun g0=>?_) (fun g0=>?_)
 ·have hP:=Fx.cT g0 hP
  refine aG ?_
  refine aD ?_
  refine aA hF (aH hF rfl rfl) rfl rfl rfl fun a hF=>?_
  refine aI (aB ?_)
  refine c_ret ?_
  have hP:=Option.some.inj hP
  subst hP
  refine bE qR33 hF rfl ?_
  exact ⟨rfl,selM hM [] 2 rfl⟩
 have hP:=Fx.cF g0 hP
 refine aW (aB ?_)
 refine aG ?_
 refine aT hF hM hP (fun F x a w=>match x with | _=>Fr 145 [(2,.pointer (some ⟨c0,0,none⟩)),(3,.pointer (some ⟨c1,0,none⟩)),(4,.bool false)] a ∧ MemL w (pt c1 (RMark.enc (RMark.mk x1.at_ x1.next x1.done s11 s13 s15 s19)) 60 :: pt c0 (RMark.enc (RMark.mk x0.at_ x0.next x0.done s1 s3 s5 s9)) 60 :: Lr)) (fun n4 hP l5 hF hM=>?_) ?_
 ·refine aG ?_
  refine aD ?_
  refine aA hF (aH hF rfl rfl) rfl rfl rfl fun a hF=>?_
  refine aI (aB ?_)
  refine aX ?_
  refine bU hF hM hP (fun F x a w=>match x with | d8=>Fr 145 [(5,.int .i64 d8),(2,.pointer (some ⟨c0,0,none⟩)),(3,.pointer (some ⟨c1,0,none⟩)),(4,.bool false)] a ∧ MemL w (pt c1 (RMark.enc (RMark.mk x1.at_ x1.next x1.done s11 s13 s15 s19)) 60 :: pt c0 (RMark.enc (RMark.mk x0.at_ x0.next x0.done s1 s3 s5 s9)) 60 :: Lr)) (fun hF hM=>⟨hF.to ⟨rfl,rfl,rfl,rfl,trivial⟩,hM⟩) ?_
  rintro d8 a w n8 hP i7 ⟨hF,hM⟩
  replace hP:Sh.dM x0 x1 d8 = _:=hP
  unfold Sh.dM at hP
  refine aG ?_
  refine aG ?_
  refine aD ?_
  refine aA hF (aF hF rfl rfl) rfl rfl rfl fun a hF=>?_
  refine aA hF (aC (off':=3) qU60 rfl in56 rfl hF rfl rfl rfl) rfl rfl rfl fun a hF=>?_
  refine aA hF (aJ qA56 hF rfl rfl (hM.cell (i:=1) rfl (RMark.g_regs _))) rfl rfl rfl fun a hF=>?_
  refine aA hF (bQ (f2 _ (hsub _ (dropM hM 2))) qU56 hF rfl rfl) rfl rfl rfl fun a hF=>?_
  refine aA hF (cO hF rfl rfl rfl) rfl rfl rfl fun a hF=>?_
  refine aI (aB ?_)
  refine aS hF (c:=.tmp 68) rfl (fun g1=>?_) (fun g1=>?_)
  ·have hP:=Fx.cT g1 hP
   refine aW (aB ?_)
   refine aG ?_
   refine aX ?_
   refine aG ?_
   refine bR mixed (by kernel_rfl) hM [0,1] 2 rfl fun hch=>?_
   refine aK hF hch 0 rfl (by kernel_rfl) rfl rfl rfl (fun w hM=>(aC (off':=3) qU60 rfl in56 rfl hF rfl rfl rfl)) fun a hF=>?_
   refine aK hF hch 1 rfl (by kernel_rfl) rfl rfl rfl (fun w hM=>(aJ qA56 hF rfl rfl (hM.cell (i:=1) rfl (RMark.g_regs _)))) fun a hF=>?_
   refine aK hF hch 2 rfl (by kernel_rfl) rfl rfl rfl (fun w hM=>(aF hF rfl rfl)) fun a hF=>?_
   obtain ⟨m8,i0,hP⟩:=bind_some hP
   have j0:=aM i0
   refine aK hF hch 3 rfl (by kernel_rfl) rfl rfl rfl (fun w hM=>(aY (sz:=9) (f2 _ (hsub _ (dropM hM 2))) qU56 in128 rfl hF rfl rfl rfl (bL i0))) fun a hF=>?_
   refine aK hF hch 4 rfl (by kernel_rfl) rfl rfl rfl (fun w hM=>(aR qA128 qS128 hF rfl rfl (LTurn.len _) (((f2 _ (hsub _ (dropM hM 2))).elemS j0.2)))) fun a hF=>?_
   refine aK hF hch 5 rfl (by kernel_rfl) rfl rfl rfl (fun w hM=>(aC (off':=3) qU60 rfl in56 rfl hF rfl rfl rfl)) fun a hF=>?_
   refine aK hF hch 6 rfl (by kernel_rfl) rfl rfl rfl (fun w hM=>(aJ qA56 hF rfl rfl (hM.cell (i:=0) rfl (RMark.g_regs _)))) fun a hF=>?_
   refine aK hF hch 7 rfl (by kernel_rfl) rfl rfl rfl (fun w hM=>(aF hF rfl rfl)) fun a hF=>?_
   obtain ⟨m9,i1,hP⟩:=bind_some hP
   have j1:=aM i1
   refine aK hF hch 8 rfl (by kernel_rfl) rfl rfl rfl (fun w hM=>(aY (sz:=9) (f12 _ (hsub _ (dropM hM 2))) qU56 in128 rfl hF rfl rfl rfl (bL i1))) fun a hF=>?_
   refine aK hF hch 9 rfl (by kernel_rfl) rfl rfl rfl (fun w hM=>(aR qA128 qS128 hF rfl rfl (LTurn.len _) (((f12 _ (hsub _ (dropM hM 2))).elemS j1.2)))) fun a hF=>?_
   refine aK hF hch 10 rfl (by kernel_rfl) rfl rfl rfl (fun w hM=>(iY Tryz.eqGuardType128 (aCs _ _ _ _ (by decide)) hF rfl rfl rfl)) fun a hF=>?_
   refine bY hch (by kernel_rfl) fun w hM=>?_
   refine aB ?_
   refine aS hF (c:=.tmp 81) rfl (fun g2=>?_) (fun g2=>?_)
   ·have hP:=Fx.cT g2 hP
    refine aG ?_
    refine aD ?_
    refine aA hF (aH hF rfl rfl) rfl rfl rfl fun a hF=>?_
    refine aI (aB ?_)
    refine c_ret ?_
    have hP:=Option.some.inj hP
    subst hP
    have hP:=i7 _ rfl
    subst hP
    have hP:=cX l5
    subst hP
    refine bE qR33 hF rfl ?_
    exact ⟨rfl,selM hM [] 2 rfl⟩
   have hP:=Fx.cF g2 hP
   refine aW (bM (aB ?_))
   refine aD ?_
   refine aA hF (aF hF rfl rfl) rfl rfl rfl fun a hF=>?_
   refine aA hF (cA hF rfl rfl rfl) rfl rfl rfl fun a hF=>?_
   refine aA hF (aH hF rfl rfl) rfl rfl rfl fun a hF=>?_
   refine aI (aB ?_)
   have hP:=Option.some.inj hP
   subst hP
   exact ⟨(IntKind.i64.wrap (d8 + 1)),rfl,hF.to ⟨rfl,rfl,rfl,rfl,trivial⟩,hM⟩
  have hP:=Fx.cF g1 hP
  refine bZ (bC (bC (cR ?_)))
  refine aB ?_
  have hP:=Option.some.inj hP
  subst hP
  have hP:=i7 _ rfl
  subst hP
  exact ⟨(),rfl,hF.to ⟨rfl,rfl,rfl,trivial⟩,hM⟩
 rintro ⟨⟩ a w hP ⟨hF,hM⟩
 replace hP:Sh.hM x0 x1 = _:=hP
 unfold Sh.hM at hP
 refine aB ?_
 refine aG ?_
 refine aT hF hM hP (fun F x a w=>match x with | _=>Fr 145 [(2,.pointer (some ⟨c0,0,none⟩)),(3,.pointer (some ⟨c1,0,none⟩)),(4,.bool false)] a ∧ MemL w (pt c1 (RMark.enc (RMark.mk x1.at_ x1.next x1.done s11 s13 s15 s19)) 60 :: pt c0 (RMark.enc (RMark.mk x0.at_ x0.next x0.done s1 s3 s5 s9)) 60 :: Lr)) (fun n5 hP l6 hF hM=>?_) ?_
 ·refine aG ?_
  refine aD ?_
  refine aA hF (aH hF rfl rfl) rfl rfl rfl fun a hF=>?_
  refine aI (aB ?_)
  refine aX ?_
  refine bU hF hM hP (fun F x a w=>match x with | d9=>Fr 145 [(6,.int .i64 d9),(2,.pointer (some ⟨c0,0,none⟩)),(3,.pointer (some ⟨c1,0,none⟩)),(4,.bool false)] a ∧ MemL w (pt c1 (RMark.enc (RMark.mk x1.at_ x1.next x1.done s11 s13 s15 s19)) 60 :: pt c0 (RMark.enc (RMark.mk x0.at_ x0.next x0.done s1 s3 s5 s9)) 60 :: Lr)) (fun hF hM=>⟨hF.to ⟨rfl,rfl,rfl,rfl,trivial⟩,hM⟩) ?_
  rintro d9 a w n9 hP i8 ⟨hF,hM⟩
  replace hP:Sh.dN x0 x1 d9 = _:=hP
  unfold Sh.dN at hP
  refine aG ?_
  refine aG ?_
  refine aD ?_
  refine aA hF (aF hF rfl rfl) rfl rfl rfl fun a hF=>?_
  refine aA hF (aC (off':=4) qU60 rfl in57 rfl hF rfl rfl rfl) rfl rfl rfl fun a hF=>?_
  refine aA hF (aJ qA57 hF rfl rfl (hM.cell (i:=1) rfl (RMark.g_slots _))) rfl rfl rfl fun a hF=>?_
  refine aA hF (bQ (f4 _ (hsub _ (dropM hM 2))) qU57 hF rfl rfl) rfl rfl rfl fun a hF=>?_
  refine aA hF (cO hF rfl rfl rfl) rfl rfl rfl fun a hF=>?_
  refine aI (aB ?_)
  refine aS hF (c:=.tmp 86) rfl (fun g3=>?_) (fun g3=>?_)
  ·have hP:=Fx.cT g3 hP
   refine aW (aB ?_)
   refine aG ?_
   refine aX ?_
   refine aG ?_
   refine bR mixed (by kernel_rfl) hM [0,1] 2 rfl fun hch=>?_
   refine aK hF hch 0 rfl (by kernel_rfl) rfl rfl rfl (fun w hM=>(aC (off':=4) qU60 rfl in57 rfl hF rfl rfl rfl)) fun a hF=>?_
   refine aK hF hch 1 rfl (by kernel_rfl) rfl rfl rfl (fun w hM=>(aJ qA57 hF rfl rfl (hM.cell (i:=1) rfl (RMark.g_slots _)))) fun a hF=>?_
   refine aK hF hch 2 rfl (by kernel_rfl) rfl rfl rfl (fun w hM=>(aF hF rfl rfl)) fun a hF=>?_
   obtain ⟨n0,i2,hP⟩:=bind_some hP
   have j2:=aM i2
   refine aK hF hch 3 rfl (by kernel_rfl) rfl rfl rfl (fun w hM=>(aY (sz:=27) (f4 _ (hsub _ (dropM hM 2))) qU57 in151 rfl hF rfl rfl rfl (bL i2))) fun a hF=>?_
   refine aK hF hch 4 rfl (by kernel_rfl) rfl rfl rfl (fun w hM=>(aR qA151 qS151 hF rfl rfl (LCell.len _) (((f4 _ (hsub _ (dropM hM 2))).elemS j2.2)))) fun a hF=>?_
   refine aK hF hch 5 rfl (by kernel_rfl) rfl rfl rfl (fun w hM=>(aC (off':=4) qU60 rfl in57 rfl hF rfl rfl rfl)) fun a hF=>?_
   refine aK hF hch 6 rfl (by kernel_rfl) rfl rfl rfl (fun w hM=>(aJ qA57 hF rfl rfl (hM.cell (i:=0) rfl (RMark.g_slots _)))) fun a hF=>?_
   refine aK hF hch 7 rfl (by kernel_rfl) rfl rfl rfl (fun w hM=>(aF hF rfl rfl)) fun a hF=>?_
   obtain ⟨n1,i3,hP⟩:=bind_some hP
   have j3:=aM i3
   refine aK hF hch 8 rfl (by kernel_rfl) rfl rfl rfl (fun w hM=>(aY (sz:=27) (f14 _ (hsub _ (dropM hM 2))) qU57 in151 rfl hF rfl rfl rfl (bL i3))) fun a hF=>?_
   refine aK hF hch 9 rfl (by kernel_rfl) rfl rfl rfl (fun w hM=>(aR qA151 qS151 hF rfl rfl (LCell.len _) (((f14 _ (hsub _ (dropM hM 2))).elemS j3.2)))) fun a hF=>?_
   refine aK hF hch 10 rfl (by kernel_rfl) rfl rfl rfl (fun w hM=>(iY Tryz.eqGuardType151 (aCr _ _ _ _ (by decide)) hF rfl rfl rfl)) fun a hF=>?_
   refine bY hch (by kernel_rfl) fun w hM=>?_
   refine aB ?_
   refine aS hF (c:=.tmp 99) rfl (fun g4=>?_) (fun g4=>?_)
   ·have hP:=Fx.cT g4 hP
    refine aG ?_
    refine aD ?_
    refine aA hF (aH hF rfl rfl) rfl rfl rfl fun a hF=>?_
    refine aI (aB ?_)
    refine c_ret ?_
    have hP:=Option.some.inj hP
    subst hP
    have hP:=i8 _ rfl
    subst hP
    have hP:=cX l6
    subst hP
    refine bE qR33 hF rfl ?_
    exact ⟨rfl,selM hM [] 2 rfl⟩
   have hP:=Fx.cF g4 hP
   refine aW (bM (aB ?_))
   refine aD ?_
   refine aA hF (aF hF rfl rfl) rfl rfl rfl fun a hF=>?_
   refine aA hF (cA hF rfl rfl rfl) rfl rfl rfl fun a hF=>?_
   refine aA hF (aH hF rfl rfl) rfl rfl rfl fun a hF=>?_
   refine aI (aB ?_)
   have hP:=Option.some.inj hP
   subst hP
   exact ⟨(IntKind.i64.wrap (d9 + 1)),rfl,hF.to ⟨rfl,rfl,rfl,rfl,trivial⟩,hM⟩
  have hP:=Fx.cF g3 hP
  refine bZ (bC (bC (cR ?_)))
  refine aB ?_
  have hP:=Option.some.inj hP
  subst hP
  have hP:=i8 _ rfl
  subst hP
  exact ⟨(),rfl,hF.to ⟨rfl,rfl,rfl,trivial⟩,hM⟩
 rintro ⟨⟩ a w hP ⟨hF,hM⟩
 replace hP:Sh.hN x0 x1 = _:=hP
 unfold Sh.hN at hP
 refine aB ?_
 refine aG ?_
 refine aT hF hM hP (fun F x a w=>match x with | _=>Fr 145 [(4,.bool false)] a ∧ MemL w (Lr)) (fun n6 hP l7 hF hM=>?_) ?_
 ·refine aG ?_
  refine aD ?_
  refine aA hF (aH hF rfl rfl) rfl rfl rfl fun a hF=>?_
  refine aI (aB ?_)
  refine aX ?_
  refine bU hF hM hP (fun F x a w=>match x with | d4=>Fr 145 [(7,.int .i64 d4),(2,.pointer (some ⟨c0,0,none⟩)),(3,.pointer (some ⟨c1,0,none⟩)),(4,.bool false)] a ∧ MemL w (pt c1 (RMark.enc (RMark.mk x1.at_ x1.next x1.done s11 s13 s15 s19)) 60 :: pt c0 (RMark.enc (RMark.mk x0.at_ x0.next x0.done s1 s3 s5 s9)) 60 :: Lr)) (fun hF hM=>⟨hF.to ⟨rfl,rfl,rfl,rfl,trivial⟩,hM⟩) ?_
  rintro d4 a w p0 hP i9 ⟨hF,hM⟩
  replace hP:Sh.dO x0 x1 d4 = _:=hP
  unfold Sh.dO at hP
  refine aG ?_
  refine aG ?_
  refine aD ?_
  refine aA hF (aF hF rfl rfl) rfl rfl rfl fun a hF=>?_
  refine aA hF (aC (off':=5) qU60 rfl in58 rfl hF rfl rfl rfl) rfl rfl rfl fun a hF=>?_
  refine aA hF (aJ qA58 hF rfl rfl (hM.cell (i:=1) rfl (RMark.g_pieces _))) rfl rfl rfl fun a hF=>?_
  refine aA hF (cY (f7 _ (hsub _ (dropM hM 2))) q8.len qU58 hF rfl rfl) rfl rfl rfl fun a hF=>?_
  refine aA hF (cO hF rfl rfl rfl) rfl rfl rfl fun a hF=>?_
  refine aI (aB ?_)
  refine aS hF (c:=.tmp 104) rfl (fun g5=>?_) (fun g5=>?_)
  ·have hP:=Fx.cT g5 hP
   refine aW (aB ?_)
   refine aG ?_
   refine aX ?_
   refine aG ?_
   refine aD ?_
   refine aA hF (aC (off':=5) qU60 rfl in58 rfl hF rfl rfl rfl) rfl rfl rfl fun a hF=>?_
   refine aA hF (aJ qA58 hF rfl rfl (hM.cell (i:=1) rfl (RMark.g_pieces _))) rfl rfl rfl fun a hF=>?_
   refine aA hF (aF hF rfl rfl) rfl rfl rfl fun a hF=>?_
   obtain ⟨d1,i4,hP⟩:=bind_some hP
   have j4:=aM i4
   obtain ⟨m4,k2,k4⟩:=Each.getr q8 j4.2
   have k0:=Each.bd q8 (bL i4)
   obtain ⟨d6,d7,rfl,l1,l2⟩:=k4
   refine aA hF (aY (sz:=4) (f7 _ (hsub _ (dropM hM 2))) qU58 in156 rfl hF rfl rfl rfl k0) rfl rfl rfl fun a hF=>?_
   refine aA hF (aR qA156 qS156 hF rfl rfl (RPiece.len _) (((f7 _ (hsub _ (dropM hM 2))).elemS k2))) rfl rfl rfl fun a hF=>?_
   refine aN hF rfl rfl rfl (bS z156 (zs:=RPiece.zero.enc) rfl rfl fun d2 w m2 j8=>?_)
   have hM:=hM.plus j8
   replace hM:MemL _ (pt d2 (RPiece.enc (RPiece.mk 0 0 SV.nil SV.nil)) 156 :: pt c1 (RMark.enc (RMark.mk x1.at_ x1.next x1.done s11 s13 s15 s19)) 60 :: pt c0 (RMark.enc (RMark.mk x0.at_ x0.next x0.done s1 s3 s5 s9)) 60 :: Lr):=hM
   intro a hF
   refine bK rfl rfl (bA (vs:=_) qS156 (hM.obj (i:=0) rfl) hF rfl rfl rfl rfl (RPiece.len _) (RPiece.one _) (by first | (rw [RPiece.len,RPiece.len]; decide) | (rw [RPiece.len]; decide)) (bG ((RPiece.len _).trans (RPiece.len _).symm)) fun w k6=>?_)
   have hM:=hM.chg k6 (i:=0) rfl
   replace hM:MemL _ (pt d2 (RPiece.enc (RPiece.mk d1.table d1.from_ d6 d7)) 156 :: pt c1 (RMark.enc (RMark.mk x1.at_ x1.next x1.done s11 s13 s15 s19)) 60 :: pt c0 (RMark.enc (RMark.mk x0.at_ x0.next x0.done s1 s3 s5 s9)) 60 :: Lr):=hM
   refine aI (aB ?_)
   refine aG ?_
   refine aD ?_
   refine aA hF (aC (off':=5) qU60 rfl in58 rfl hF rfl rfl rfl) rfl rfl rfl fun a hF=>?_
   refine aA hF (aJ qA58 hF rfl rfl (hM.cell (i:=1) rfl (RMark.g_pieces _))) rfl rfl rfl fun a hF=>?_
   refine aA hF (aF hF rfl rfl) rfl rfl rfl fun a hF=>?_
   obtain ⟨d5,i5,hP⟩:=bind_some hP
   have j5:=aM i5
   obtain ⟨m5,k3,k5⟩:=Each.getr q18 j5.2
   have k1:=Each.bd q18 (bL i5)
   obtain ⟨g7,g8,rfl,l3,l4⟩:=k5
   refine aA hF (aY (sz:=4) (f17 _ (hsub _ (dropM hM 3))) qU58 in156 rfl hF rfl rfl rfl k1) rfl rfl rfl fun a hF=>?_
   refine aA hF (aR qA156 qS156 hF rfl rfl (RPiece.len _) (((f17 _ (hsub _ (dropM hM 3))).elemS k3))) rfl rfl rfl fun a hF=>?_
   refine aN hF rfl rfl rfl (bS z156 (zs:=RPiece.zero.enc) rfl rfl fun d3 w m3 j9=>?_)
   have hM:=hM.plus j9
   replace hM:MemL _ (pt d3 (RPiece.enc (RPiece.mk 0 0 SV.nil SV.nil)) 156 :: pt d2 (RPiece.enc (RPiece.mk d1.table d1.from_ d6 d7)) 156 :: pt c1 (RMark.enc (RMark.mk x1.at_ x1.next x1.done s11 s13 s15 s19)) 60 :: pt c0 (RMark.enc (RMark.mk x0.at_ x0.next x0.done s1 s3 s5 s9)) 60 :: Lr):=hM
   intro a hF
   refine bK rfl rfl (bA (vs:=_) qS156 (hM.obj (i:=0) rfl) hF rfl rfl rfl rfl (RPiece.len _) (RPiece.one _) (by first | (rw [RPiece.len,RPiece.len]; decide) | (rw [RPiece.len]; decide)) (bG ((RPiece.len _).trans (RPiece.len _).symm)) fun w k7=>?_)
   have hM:=hM.chg k7 (i:=0) rfl
   replace hM:MemL _ (pt d3 (RPiece.enc (RPiece.mk d5.table d5.from_ g7 g8)) 156 :: pt d2 (RPiece.enc (RPiece.mk d1.table d1.from_ d6 d7)) 156 :: pt c1 (RMark.enc (RMark.mk x1.at_ x1.next x1.done s11 s13 s15 s19)) 60 :: pt c0 (RMark.enc (RMark.mk x0.at_ x0.next x0.done s1 s3 s5 s9)) 60 :: Lr):=hM
   refine aI (aB ?_)
   refine aG ?_
   refine aT hF hM hP (fun F x a w=>match x with | g9=>Fr 145 [(144,.bool g9),(2,.pointer (some ⟨c0,0,none⟩)),(3,.pointer (some ⟨c1,0,none⟩)),(4,.bool false),(7,.int .i64 d4)] a ∧ MemL w (pt c1 (RMark.enc (RMark.mk x1.at_ x1.next x1.done s11 s13 s15 s19)) 60 :: pt c0 (RMark.enc (RMark.mk x0.at_ x0.next x0.done s1 s3 s5 s9)) 60 :: Lr)) (fun n7 hP m7 hF hM=>?_) ?_
   ·refine aD ?_
    refine aA hF (aC (off':=0) qU156 rfl in3 rfl hF rfl rfl rfl) rfl rfl rfl fun a hF=>?_
    refine aA hF (aJ qA3 hF rfl rfl (hM.cell (i:=1) rfl (RPiece.g_table _))) rfl rfl rfl fun a hF=>?_
    refine aA hF (aC (off':=0) qU156 rfl in3 rfl hF rfl rfl rfl) rfl rfl rfl fun a hF=>?_
    refine aA hF (aJ qA3 hF rfl rfl (hM.cell (i:=0) rfl (RPiece.g_table _))) rfl rfl rfl fun a hF=>?_
    refine aA hF (dD hF rfl rfl rfl) rfl rfl rfl fun a hF=>?_
    refine aA hF (aF hF rfl rfl) rfl rfl rfl fun a hF=>?_
    refine bD 122 hF rfl (fun c8=>?_) (fun c8=>?_)
    ·have hP:=Fx.cT c8 hP
     refine aE hF rfl rfl rfl c8 rfl rfl fun a hF=>?_
     refine aE hF rfl rfl rfl c8 rfl rfl fun a hF=>?_
     refine aE hF rfl rfl rfl c8 rfl rfl fun a hF=>?_
     refine aE hF rfl rfl rfl c8 rfl rfl fun a hF=>?_
     refine aE hF rfl rfl rfl c8 rfl rfl fun a hF=>?_
     refine aA hF (aQ hF rfl rfl c8 rfl) rfl rfl rfl fun a hF=>?_
     refine aA hF (aF hF rfl rfl) rfl rfl rfl fun a hF=>?_
     refine aE hF rfl rfl rfl rfl rfl rfl fun a hF=>?_
     refine aE hF rfl rfl rfl rfl rfl rfl fun a hF=>?_
     refine aE hF rfl rfl rfl rfl rfl rfl fun a hF=>?_
     refine aE hF rfl rfl rfl rfl rfl rfl fun a hF=>?_
     refine aE hF rfl rfl rfl rfl rfl rfl fun a hF=>?_
     refine aE hF rfl rfl rfl rfl rfl rfl fun a hF=>?_
     refine aA hF (aQ hF rfl rfl rfl rfl) rfl rfl rfl fun a hF=>?_
     refine aA hF (aF hF rfl rfl) rfl rfl rfl fun a hF=>?_
     refine aE hF rfl rfl rfl rfl rfl rfl fun a hF=>?_
     refine aE hF rfl rfl rfl rfl rfl rfl fun a hF=>?_
     refine aE hF rfl rfl rfl rfl rfl rfl fun a hF=>?_
     refine aE hF rfl rfl rfl rfl rfl rfl fun a hF=>?_
     refine aE hF rfl rfl rfl rfl rfl rfl fun a hF=>?_
     refine aE hF rfl rfl rfl rfl rfl rfl fun a hF=>?_
     refine aA hF (aQ hF rfl rfl rfl rfl) rfl rfl rfl fun a hF=>?_
     refine aI (aB ?_)
     have hP:=Option.some.inj hP
     subst hP
     exact ⟨true,rfl,hF.to ⟨rfl,rfl,rfl,rfl,rfl,trivial⟩,selM hM [2,3] 4 rfl⟩
    have hP:=Fx.cF c8 hP
    refine aL hF rfl rfl rfl c8 (aC (off':=1) qU156 rfl in3 rfl hF rfl rfl rfl) rfl rfl fun a hF=>?_
    refine aL hF rfl rfl rfl c8 (aJ qA3 hF rfl rfl (hM.cell (i:=1) rfl (RPiece.g_from_ _))) rfl rfl fun a hF=>?_
    refine aL hF rfl rfl rfl c8 (aC (off':=1) qU156 rfl in3 rfl hF rfl rfl rfl) rfl rfl fun a hF=>?_
    refine aL hF rfl rfl rfl c8 (aJ qA3 hF rfl rfl (hM.cell (i:=0) rfl (RPiece.g_from_ _))) rfl rfl fun a hF=>?_
    refine aL hF rfl rfl rfl c8 (dD hF rfl rfl rfl) rfl rfl fun a hF=>?_
    refine aA hF (aV hF rfl rfl c8 rfl) rfl rfl rfl fun a hF=>?_
    refine aA hF (aF hF rfl rfl) rfl rfl rfl fun a hF=>?_
    refine bD 129 hF rfl (fun c6=>?_) (fun c6=>?_)
    ·have hP:=Fx.cT c6 hP
     refine aE hF rfl rfl rfl c6 rfl rfl fun a hF=>?_
     refine aE hF rfl rfl rfl c6 rfl rfl fun a hF=>?_
     refine aE hF rfl rfl rfl c6 rfl rfl fun a hF=>?_
     refine aE hF rfl rfl rfl c6 rfl rfl fun a hF=>?_
     refine aE hF rfl rfl rfl c6 rfl rfl fun a hF=>?_
     refine aE hF rfl rfl rfl c6 rfl rfl fun a hF=>?_
     refine aA hF (aQ hF rfl rfl c6 rfl) rfl rfl rfl fun a hF=>?_
     refine aA hF (aF hF rfl rfl) rfl rfl rfl fun a hF=>?_
     refine aE hF rfl rfl rfl rfl rfl rfl fun a hF=>?_
     refine aE hF rfl rfl rfl rfl rfl rfl fun a hF=>?_
     refine aE hF rfl rfl rfl rfl rfl rfl fun a hF=>?_
     refine aE hF rfl rfl rfl rfl rfl rfl fun a hF=>?_
     refine aE hF rfl rfl rfl rfl rfl rfl fun a hF=>?_
     refine aE hF rfl rfl rfl rfl rfl rfl fun a hF=>?_
     refine aA hF (aQ hF rfl rfl rfl rfl) rfl rfl rfl fun a hF=>?_
     refine aI (aB ?_)
     have hP:=Option.some.inj hP
     subst hP
     exact ⟨true,rfl,hF.to ⟨rfl,rfl,rfl,rfl,rfl,trivial⟩,selM hM [2,3] 4 rfl⟩
    have hP:=Fx.cF c6 hP
    refine aL hF rfl rfl rfl c6 (aC (off':=2) qU156 rfl in23 rfl hF rfl rfl rfl) rfl rfl fun a hF=>?_
    refine aL hF rfl rfl rfl c6 (aJ qA23 hF rfl rfl (hM.cell (i:=1) rfl (RPiece.g_old _))) rfl rfl fun a hF=>?_
    refine aL hF rfl rfl rfl c6 (aC (off':=2) qU156 rfl in23 rfl hF rfl rfl rfl) rfl rfl fun a hF=>?_
    refine aL hF rfl rfl rfl c6 (aJ qA23 hF rfl rfl (hM.cell (i:=0) rfl (RPiece.g_old _))) rfl rfl fun a hF=>?_
    obtain ⟨n2,k9,hP⟩:=bind_some hP
    refine dX hF rfl rfl rfl c6 rfl rfl (aO (xs:=[.tmp 131,.tmp 133]) Tryz.call43 hF rfl rfl (dY k9 hM (Bf:=Bf) (fun w hM=>hsub _ (dropM hM 4)) l1 l3) fun v w hR=>?_)
    obtain ⟨rfl,hM⟩:=hR
    replace hM:MemL _ (pt d3 (RPiece.enc (RPiece.mk d5.table d5.from_ g7 g8)) 156 :: pt d2 (RPiece.enc (RPiece.mk d1.table d1.from_ d6 d7)) 156 :: pt c1 (RMark.enc (RMark.mk x1.at_ x1.next x1.done s11 s13 s15 s19)) 60 :: pt c0 (RMark.enc (RMark.mk x0.at_ x0.next x0.done s1 s3 s5 s9)) 60 :: Lr):=hM
    intro a hF
    refine aL hF rfl rfl rfl c6 (dE hF rfl rfl) rfl rfl fun a hF=>?_
    refine aA hF (aV hF rfl rfl c6 rfl) rfl rfl rfl fun a hF=>?_
    refine aA hF (aF hF rfl rfl) rfl rfl rfl fun a hF=>?_
    refine bD 137 hF rfl (fun c7=>?_) (fun c7=>?_)
    ·have hP:=Fx.cT c7 hP
     refine aE hF rfl rfl rfl c7 rfl rfl fun a hF=>?_
     refine aE hF rfl rfl rfl c7 rfl rfl fun a hF=>?_
     refine aE hF rfl rfl rfl c7 rfl rfl fun a hF=>?_
     refine aE hF rfl rfl rfl c7 rfl rfl fun a hF=>?_
     refine aE hF rfl rfl rfl c7 rfl rfl fun a hF=>?_
     refine aE hF rfl rfl rfl c7 rfl rfl fun a hF=>?_
     refine aA hF (aQ hF rfl rfl c7 rfl) rfl rfl rfl fun a hF=>?_
     refine aI (aB ?_)
     have hP:=Option.some.inj hP
     subst hP
     exact ⟨true,rfl,hF.to ⟨rfl,rfl,rfl,rfl,rfl,trivial⟩,selM hM [2,3] 4 rfl⟩
    have hP:=Fx.cF c7 hP
    refine aL hF rfl rfl rfl c7 (aC (off':=3) qU156 rfl in23 rfl hF rfl rfl rfl) rfl rfl fun a hF=>?_
    refine aL hF rfl rfl rfl c7 (aJ qA23 hF rfl rfl (hM.cell (i:=1) rfl (RPiece.g_new _))) rfl rfl fun a hF=>?_
    refine aL hF rfl rfl rfl c7 (aC (off':=3) qU156 rfl in23 rfl hF rfl rfl rfl) rfl rfl fun a hF=>?_
    refine aL hF rfl rfl rfl c7 (aJ qA23 hF rfl rfl (hM.cell (i:=0) rfl (RPiece.g_new _))) rfl rfl fun a hF=>?_
    obtain ⟨l9,l0,hP⟩:=bind_some hP
    refine dX hF rfl rfl rfl c7 rfl rfl (aO (xs:=[.tmp 139,.tmp 141]) Tryz.call43 hF rfl rfl (dY l0 hM (Bf:=Bf) (fun w hM=>hsub _ (dropM hM 4)) l2 l4) fun v w hR=>?_)
    obtain ⟨rfl,hM⟩:=hR
    replace hM:MemL _ (pt d3 (RPiece.enc (RPiece.mk d5.table d5.from_ g7 g8)) 156 :: pt d2 (RPiece.enc (RPiece.mk d1.table d1.from_ d6 d7)) 156 :: pt c1 (RMark.enc (RMark.mk x1.at_ x1.next x1.done s11 s13 s15 s19)) 60 :: pt c0 (RMark.enc (RMark.mk x0.at_ x0.next x0.done s1 s3 s5 s9)) 60 :: Lr):=hM
    intro a hF
    refine aL hF rfl rfl rfl c7 (dE hF rfl rfl) rfl rfl fun a hF=>?_
    refine aA hF (aV hF rfl rfl c7 rfl) rfl rfl rfl fun a hF=>?_
    refine aI (aB ?_)
    have hP:=Option.some.inj hP
    subst hP
    exact ⟨(!l9),rfl,hF.to ⟨rfl,rfl,rfl,rfl,rfl,trivial⟩,selM hM [2,3] 4 rfl⟩
   rintro g9 a w hP ⟨hF,hM⟩
   replace hP:Sh.dL d4 g9 = _:=hP
   unfold Sh.dL at hP
   refine aB ?_
   refine aS hF (c:=.tmp 144) rfl (fun g6=>?_) (fun g6=>?_)
   ·have hP:=Fx.cT g6 hP
    refine aG ?_
    refine aD ?_
    refine aA hF (aH hF rfl rfl) rfl rfl rfl fun a hF=>?_
    refine aI (aB ?_)
    refine c_ret ?_
    have hP:=Option.some.inj hP
    subst hP
    have hP:=i9 _ rfl
    subst hP
    have hP:=cX l7
    subst hP
    refine bE qR33 hF rfl ?_
    exact ⟨rfl,selM hM [] 2 rfl⟩
   have hP:=Fx.cF g6 hP
   refine aW (bM (aB ?_))
   refine aD ?_
   refine aA hF (aF hF rfl rfl) rfl rfl rfl fun a hF=>?_
   refine aA hF (cA hF rfl rfl rfl) rfl rfl rfl fun a hF=>?_
   refine aA hF (aH hF rfl rfl) rfl rfl rfl fun a hF=>?_
   refine aI (aB ?_)
   have hP:=Option.some.inj hP
   subst hP
   exact ⟨(IntKind.i64.wrap (d4 + 1)),rfl,hF.to ⟨rfl,rfl,rfl,rfl,trivial⟩,hM⟩
  have hP:=Fx.cF g5 hP
  refine bZ (bC (bC (cR ?_)))
  refine aB ?_
  have hP:=Option.some.inj hP
  subst hP
  have hP:=i9 _ rfl
  subst hP
  exact ⟨(),rfl,hF.to ⟨rfl,trivial⟩,selM hM [] 2 rfl⟩
 rintro ⟨⟩ a w hP ⟨hF,hM⟩
 replace hP:Sh.oZ = _:=hP
 unfold Sh.oZ at hP
 refine aB ?_
 refine aG ?_
 refine aD ?_
 refine aA hF (aH hF rfl rfl) rfl rfl rfl fun a hF=>?_
 refine aI (aB ?_)
 refine c_ret ?_
 have hP:=Option.some.inj hP
 subst hP
 refine bE qR33 hF rfl ?_
 exact ⟨rfl,hM⟩
end Go.Proofs
end
section
namespace Go.Proofs
open Go.Fw Go.Fx
set_option maxRecDepth 10000
set_option linter.unusedVariables false
set_option linter.unusedSimpArgs false
set_option maxHeartbeats 4000000 in
theorem oS {x0:QState} {s1:SV} {s3:SV} {hs4:List SV} {s7:SV} {out:QState} {w0:World} {Bf:World → Prop} {Lr:List Res} (hP:Sh.oE x0 = some out) (hM:MemL w0 (Lr)) (hsub:∀ w,MemL w Lr → Bf w) (f2:LIn Bf s1 x0.ctx) (f5:LIn Bf s3 hs4) (q6:Each (LIn (X:=UInt8) Bf) hs4 x0.tables) (f8:LIn Bf s7 x0.sent):Calls Tryz.prog 74 #[.agg (RState.enc (RState.mk x0.regs x0.stack s1 s3 s7 x0.at_ x0.steps x0.done)).toArray] w0 (Ret fun v w'=>∃ (i0:SV) (i1:SV) (d3:List SV) (i2:SV),v = .agg (RState.enc (RState.mk out.regs out.stack i0 i1 i2 out.at_ out.steps out.done)).toArray ∧ Each (LIn (X:=UInt8) (packR d3 out.tables).holds') d3 out.tables ∧ MemL w' (rowL 0 i0 5 out.ctx :: rowL 0 i1 23 d3 :: (packR d3 out.tables) :: rowL 0 i2 3 out.sent :: Lr)):=by
 unfold Sh.oE at hP
 refine aP (vs:=[.agg (RState.enc (RState.mk x0.regs x0.stack s1 s3 s7 x0.at_ x0.steps x0.done)).toArray]) Tryz.func74 rfl Tryz.ntmps74 rfl fun a hF=>?_
 refine aG ?_
 refine aD ?_
 refine aN hF rfl rfl rfl (cW hF rfl rfl rfl fun c0 w j9 g1=>?_)
 have hM:=hM.plus g1
 intro a hF
 refine aN hF rfl rfl rfl (bS z54 (zs:=RState.zero.enc) rfl rfl fun c1 w k0 g2=>?_)
 have hM:=hM.plus g2
 replace hM:MemL _ (pt c1 (RState.enc (RState.mk (⟨List.replicate 11 LVal.zero,rfl⟩ : Vec LVal 11) (⟨List.replicate 32 LSlot.zero,rfl⟩ : Vec LSlot 32) SV.nil SV.nil SV.nil 0 0 false)) 54 :: pt c0 (RState.enc (RState.mk x0.regs x0.stack s1 s3 s7 x0.at_ x0.steps x0.done)) 54 :: Lr):=hM
 intro a hF
 refine aI (aB ?_)
 refine aG ?_
 refine aD ?_
 refine aA hF (aC (off':=460) qU54 rfl in23 rfl hF rfl rfl rfl) rfl rfl rfl fun a hF=>?_
 refine aA hF (aJ qA23 hF rfl rfl (hM.cell (i:=1) rfl (RState.g_ctx _))) rfl rfl rfl fun a hF=>?_
 obtain ⟨c7,j3,hP⟩:=bind_some hP
 refine aN hF rfl rfl rfl (aO (xs:=[.tmp 6]) Tryz.call73 hF rfl rfl (eP j3 hM (Bf:=Bf) (fun w hM=>hsub _ (dropM hM 2)) f2) fun v w hR=>?_)
 obtain ⟨c2,rfl,hM⟩:=hR
 replace hM:MemL _ (rowL 0 c2 5 c7 :: pt c1 (RState.enc (RState.mk (⟨List.replicate 11 LVal.zero,rfl⟩ : Vec LVal 11) (⟨List.replicate 32 LSlot.zero,rfl⟩ : Vec LSlot 32) SV.nil SV.nil SV.nil 0 0 false)) 54 :: pt c0 (RState.enc (RState.mk x0.regs x0.stack s1 s3 s7 x0.at_ x0.steps x0.done)) 54 :: Lr):=hM
 intro a hF
 refine aA hF (aC (off':=460) qU54 rfl in23 rfl hF rfl rfl rfl) rfl rfl rfl fun a hF=>?_
 refine bK rfl rfl (bT qS23 (hM.obj (i:=2) rfl) hF rfl rfl rfl rfl (by rw [RState.len]; decide) (RState.s_ctx _ _) fun w i5=>?_)
 have hM:=hM.chg i5 (i:=2) rfl
 replace hM:MemL _ (rowL 0 c2 5 c7 :: pt c1 (RState.enc (RState.mk (⟨List.replicate 11 LVal.zero,rfl⟩ : Vec LVal 11) (⟨List.replicate 32 LSlot.zero,rfl⟩ : Vec LSlot 32) SV.nil SV.nil SV.nil 0 0 false)) 54 :: pt c0 (RState.enc (RState.mk x0.regs x0.stack c2 s3 s7 x0.at_ x0.steps x0.done)) 54 :: Lr):=hM
 refine aI (aB ?_)
 refine aG ?_
 refine aD ?_
 refine aA hF (aC (off':=461) qU54 rfl in28 rfl hF rfl rfl rfl) rfl rfl rfl fun a hF=>?_
 refine aA hF (aJ qA28 hF rfl rfl (hM.cell (i:=2) rfl (RState.g_tables _))) rfl rfl rfl fun a hF=>?_
 obtain ⟨c6,j4,hP⟩:=bind_some hP
 refine aN hF rfl rfl rfl (aO (xs:=[.tmp 10]) Tryz.call148 hF rfl rfl (iQ j4 hM (Bf:=Bf) (fun w hM=>hsub _ (dropM hM 3)) f5 q6) fun v w hR=>?_)
 obtain ⟨c3,d4,rfl,j7,hM⟩:=hR
 replace hM:MemL _ (rowL 0 c3 23 d4 :: rowL 0 c2 5 c7 :: pt c1 (RState.enc (RState.mk (⟨List.replicate 11 LVal.zero,rfl⟩ : Vec LVal 11) (⟨List.replicate 32 LSlot.zero,rfl⟩ : Vec LSlot 32) SV.nil SV.nil SV.nil 0 0 false)) 54 :: pt c0 (RState.enc (RState.mk x0.regs x0.stack c2 s3 s7 x0.at_ x0.steps x0.done)) 54 :: Lr):=hM
 intro a hF
 refine aA hF (aC (off':=461) qU54 rfl in28 rfl hF rfl rfl rfl) rfl rfl rfl fun a hF=>?_
 refine bK rfl rfl (bT Tryz.sizeOf28 (hM.obj (i:=3) rfl) hF rfl rfl rfl rfl (by rw [RState.len]; decide) (RState.s_tables _ _) fun w i6=>?_)
 have hM:=hM.chg i6 (i:=3) rfl
 refine aI (aB ?_)
 refine aG ?_
 have hM:=xM hM
 have g8:=aGu j7
 replace hM:MemL _ ((packR (d4.take 0) (c6.take 0)) :: rowL 0 c3 23 d4 :: rowL 0 c2 5 c7 :: pt c1 (RState.enc (RState.mk (⟨List.replicate 11 LVal.zero,rfl⟩ : Vec LVal 11) (⟨List.replicate 32 LSlot.zero,rfl⟩ : Vec LSlot 32) SV.nil SV.nil SV.nil 0 0 false)) 54 :: pt c0 (RState.enc (RState.mk x0.regs x0.stack c2 c3 s7 x0.at_ x0.steps x0.done)) 54 :: Lr):=hM
 refine aT hF hM hP (fun F x a w=>match x with | c9=>∃ (c4:List SV),MixP Bf c9 c4 c6 ∧ Fr 33 [(1,.pointer (some ⟨c0,0,none⟩)),(2,.pointer (some ⟨c1,0,none⟩))] a ∧ MemL w (rowL 0 c3 23 c4 :: (packR (c4.take c9) (c6.take c9)) :: pt c1 (RState.enc (RState.mk (⟨List.replicate 11 LVal.zero,rfl⟩ : Vec LVal 11) (⟨List.replicate 32 LSlot.zero,rfl⟩ : Vec LSlot 32) SV.nil SV.nil SV.nil 0 0 false)) 54 :: pt c0 (RState.enc (RState.mk x0.regs x0.stack c2 c3 s7 x0.at_ x0.steps x0.done)) 54 :: rowL 0 c2 5 c7 :: Lr)) (fun k8 hP k4 hF hM=>?_) ?_
 ·refine aG ?_
  refine aD ?_
  refine aA hF (aC (off':=461) qU54 rfl in28 rfl hF rfl rfl rfl) rfl rfl rfl fun a hF=>?_
  refine aA hF (aJ qA28 hF rfl rfl (hM.cell (i:=4) rfl (RState.g_tables _))) rfl rfl rfl fun a hF=>?_
  refine aA hF (cY (hM.rowS (X:=SV) (i:=1) rfl) g8.1 qU28 hF rfl rfl) rfl rfl rfl fun a hF=>?_
  refine aA hF (aF hF rfl rfl) rfl rfl rfl fun a hF=>?_
  refine aI (aB ?_)
  refine aX ?_
  refine bU hF hM hP (fun F x a w=>match x with | (c8,d2)=>∃ (c5:List SV),MixP Bf c8 c5 c6 ∧ Fr 33 [(16,.int .i64 d2),(1,.pointer (some ⟨c0,0,none⟩)),(14,(c3).v),(15,.int .i64 (c6.length:Int)),(2,.pointer (some ⟨c1,0,none⟩))] a ∧ MemL w (rowL 0 c3 23 c5 :: (packR (c5.take c8) (c6.take c8)) :: pt c1 (RState.enc (RState.mk (⟨List.replicate 11 LVal.zero,rfl⟩ : Vec LVal 11) (⟨List.replicate 32 LSlot.zero,rfl⟩ : Vec LSlot 32) SV.nil SV.nil SV.nil 0 0 false)) 54 :: pt c0 (RState.enc (RState.mk x0.regs x0.stack c2 c3 s7 x0.at_ x0.steps x0.done)) 54 :: rowL 0 c2 5 c7 :: Lr)) (fun hF hM=>⟨d4,g8,hF.to ⟨rfl,rfl,rfl,rfl,rfl,trivial⟩,selM hM [1,0,3,4,2] 5 rfl⟩) ?_
  rintro ⟨c8,d2⟩ a w k9 hP i4 ⟨c5,d6,hF,hM⟩
  replace hP:Sh.jE c6 c8 d2 = _:=hP
  unfold Sh.jE at hP
  refine aG ?_
  refine aD ?_
  refine aA hF (cO hF rfl rfl rfl) rfl rfl rfl fun a hF=>?_
  refine aI (aB ?_)
  refine aG ?_
  refine aS hF (c:=.tmp 17) rfl (fun d7=>?_) (fun d7=>?_)
  ·have hP:=Fx.cT d7 hP
   refine aW (aB ?_)
   refine aG ?_
   refine aX ?_
   refine aG ?_
   refine aD ?_
   refine aA hF (aF hF rfl rfl) rfl rfl rfl fun a hF=>?_
   obtain ⟨l0,g0,hP⟩:=bind_some hP
   have k1:=aM g0
   obtain ⟨g3,k6,g5,g7⟩:=xE d6 g0
   obtain ⟨j0,hP⟩:=cH hP
   refine aA hF (aY (sz:=1) (hM.rowS (X:=SV) (i:=0) rfl) qU28 in23 rfl hF rfl rfl rfl g3) rfl rfl rfl fun a hF=>?_
   refine aA hF (aJ qA23 hF rfl rfl ((((hM.rowS (X:=SV) (i:=0) rfl).elemS g5)).get 0 rfl)) rfl rfl rfl fun a hF=>?_
   refine aA hF (aH hF rfl rfl) rfl rfl rfl fun a hF=>?_
   refine aA hF (aH hF rfl rfl) rfl rfl rfl fun a hF=>?_
   refine aI (aB ?_)
   refine bR mixed (by kernel_rfl) hM [0,1,2,3,4] 5 rfl fun hch=>?_
   refine aK hF hch 0 rfl (by kernel_rfl) rfl rfl rfl (fun w hM=>(aC (off':=461) qU54 rfl in28 rfl hF rfl rfl rfl)) fun a hF=>?_
   refine aK hF hch 1 rfl (by kernel_rfl) rfl rfl rfl (fun w hM=>(aJ qA28 hF rfl rfl (hM.cell (i:=3) rfl (RState.g_tables _)))) fun a hF=>?_
   refine aK hF hch 2 rfl (by kernel_rfl) rfl rfl rfl (fun w hM=>(aF hF rfl rfl)) fun a hF=>?_
   refine aK hF hch 3 rfl (by kernel_rfl) rfl rfl rfl (fun w hM=>(aF hF rfl rfl)) fun a hF=>?_
   refine bH hch 4 (by kernel_rfl) rfl rfl ?_
   refine cB hF 4 rfl rfl rfl rfl rfl fun w hMs hM=>?_
   obtain ⟨i3,j5,hP⟩:=bind_some hP
   refine (aO (xs:=[.tmp 24]) Tryz.call73 hF rfl rfl (eP j5 hM (Bf:=Bf) (fun w hM=>hsub _ (dropM hM 5)) (g7 (of_decide_eq_true j0))) fun v w hR=>?_)
   obtain ⟨d1,rfl,hM⟩:=hR
   replace hM:MemL _ (rowL 0 d1 5 i3 :: rowL 0 c3 23 c5 :: (packR (c5.take c8) (c6.take c8)) :: pt c1 (RState.enc (RState.mk (⟨List.replicate 11 LVal.zero,rfl⟩ : Vec LVal 11) (⟨List.replicate 32 LSlot.zero,rfl⟩ : Vec LSlot 32) SV.nil SV.nil SV.nil 0 0 false)) 54 :: pt c0 (RState.enc (RState.mk x0.regs x0.stack c2 c3 s7 x0.at_ x0.steps x0.done)) 54 :: rowL 0 c2 5 c7 :: Lr):=hM
   have hMs:=selM hM [0,1,2,3,4,5] 6 rfl
   refine ⟨_,_,hMs,hM,.inl fun _ h=>dropM h 1,fun a hF=>?_⟩
   obtain ⟨l1,d5,hP⟩:=bind_some hP
   have k2:=aM d5
   obtain ⟨g4,k7,g6,k3⟩:=xE d6 d5
   obtain ⟨k5,hP⟩:=cH hP
   refine aK hF hch 5 rfl (by kernel_rfl) rfl rfl rfl (fun w hM=>(aY (sz:=1) (hM.rowS (X:=SV) (i:=1) rfl) qU28 in23 rfl hF rfl rfl rfl g4)) fun a hF=>?_
   refine bH hch 6 (by kernel_rfl) rfl rfl ?_
   refine dK 6 rfl rfl rfl rfl fun w hMs hM=>?_
   obtain ⟨d9,hP⟩:=cH hP
   obtain ⟨j1,hP⟩:=cH hP
   refine (eT (X:=SV) (d:=0) (q:=d1) qS23 (hM.own (X:=SV) (i:=1) rfl) g6 hF rfl rfl rfl rfl rfl (by decide) rfl fun w i7=>?_)
   have hM:=hM.chg i7 (i:=1) rfl
   have j8:=aBl (h:=d1) d6 d5 (of_decide_eq_true d9)
   replace hM:MemL _ (rowL 0 d1 5 i3 :: rowL 0 c3 23 (c5.set (d2:Int).toNat d1) :: (packR (c5.take c8) (c6.take c8)) :: pt c1 (RState.enc (RState.mk (⟨List.replicate 11 LVal.zero,rfl⟩ : Vec LVal 11) (⟨List.replicate 32 LSlot.zero,rfl⟩ : Vec LSlot 32) SV.nil SV.nil SV.nil 0 0 false)) 54 :: pt c0 (RState.enc (RState.mk x0.regs x0.stack c2 c3 s7 x0.at_ x0.steps x0.done)) 54 :: rowL 0 c2 5 c7 :: Lr):=hM
   rw [of_decide_eq_true j1] at hM
   have hM:=aDd (h:=d1) d6 d5 (of_decide_eq_true d9) (selM hM [2,0,1,3,4,5] 6 rfl)
   replace hM:MemL _ ((packR ((c5.set (d2:Int).toNat d1).take (c8 + 1)) (c6.take (c8 + 1))) :: rowL 0 c3 23 (c5.set (d2:Int).toNat d1) :: pt c1 (RState.enc (RState.mk (⟨List.replicate 11 LVal.zero,rfl⟩ : Vec LVal 11) (⟨List.replicate 32 LSlot.zero,rfl⟩ : Vec LSlot 32) SV.nil SV.nil SV.nil 0 0 false)) 54 :: pt c0 (RState.enc (RState.mk x0.regs x0.stack c2 c3 s7 x0.at_ x0.steps x0.done)) 54 :: rowL 0 c2 5 c7 :: Lr):=hM
   have hMs:=hM
   refine ⟨_,_,hMs,hM,.inr (by kernel_rfl),?_⟩
   refine bY hch (by kernel_rfl) fun w hM=>?_
   refine bM (aB ?_)
   refine aD ?_
   refine aA hF (cA hF rfl rfl rfl) rfl rfl rfl fun a hF=>?_
   refine aA hF (aF hF rfl rfl) rfl rfl rfl fun a hF=>?_
   refine aI (aB ?_)
   have hP:=Option.some.inj hP
   subst hP
   exact ⟨((c8 + 1),(IntKind.i64.wrap (d2 + 1))),rfl,(c5.set (d2:Int).toNat d1),j8,hF.to ⟨rfl,rfl,rfl,rfl,rfl,trivial⟩,selM hM [1,0,2,3,4] 5 rfl⟩
  have hP:=Fx.cF d7 hP
  refine bZ (bC (bC (cR ?_)))
  refine aB ?_
  have hP:=Option.some.inj hP
  subst hP
  have hP:=i4 _ rfl
  subst hP
  exact ⟨c8,rfl,c5,d6,hF.to ⟨rfl,rfl,trivial⟩,hM⟩
 rintro c9 a w hP ⟨c4,g9,hF,hM⟩
 replace hP:Sh.nW x0 c7 c6 c9 = _:=hP
 unfold Sh.nW at hP
 refine aB ?_
 refine aG ?_
 refine aD ?_
 refine aA hF (aC (off':=462) qU54 rfl in52 rfl hF rfl rfl rfl) rfl rfl rfl fun a hF=>?_
 refine aA hF (aJ qA52 hF rfl rfl (hM.cell (i:=3) rfl (RState.g_sent _))) rfl rfl rfl fun a hF=>?_
 obtain ⟨d8,j6,hP⟩:=bind_some hP
 refine aN hF rfl rfl rfl (aO (xs:=[.tmp 29]) Tryz.call134 hF rfl rfl (gC j6 hM (Bf:=Bf) (fun w hM=>hsub _ (dropM hM 5)) f8) fun v w hR=>?_)
 obtain ⟨d0,rfl,hM⟩:=hR
 replace hM:MemL _ (rowL 0 d0 3 d8 :: rowL 0 c3 23 c4 :: (packR (c4.take c9) (c6.take c9)) :: pt c1 (RState.enc (RState.mk (⟨List.replicate 11 LVal.zero,rfl⟩ : Vec LVal 11) (⟨List.replicate 32 LSlot.zero,rfl⟩ : Vec LSlot 32) SV.nil SV.nil SV.nil 0 0 false)) 54 :: pt c0 (RState.enc (RState.mk x0.regs x0.stack c2 c3 s7 x0.at_ x0.steps x0.done)) 54 :: rowL 0 c2 5 c7 :: Lr):=hM
 intro a hF
 refine aA hF (aC (off':=462) qU54 rfl in52 rfl hF rfl rfl rfl) rfl rfl rfl fun a hF=>?_
 refine bK rfl rfl (bT qS52 (hM.obj (i:=4) rfl) hF rfl rfl rfl rfl (by rw [RState.len]; decide) (RState.s_sent _ _) fun w i8=>?_)
 have hM:=hM.chg i8 (i:=4) rfl
 replace hM:MemL _ (rowL 0 d0 3 d8 :: rowL 0 c3 23 c4 :: (packR (c4.take c9) (c6.take c9)) :: pt c1 (RState.enc (RState.mk (⟨List.replicate 11 LVal.zero,rfl⟩ : Vec LVal 11) (⟨List.replicate 32 LSlot.zero,rfl⟩ : Vec LSlot 32) SV.nil SV.nil SV.nil 0 0 false)) 54 :: pt c0 (RState.enc (RState.mk x0.regs x0.stack c2 c3 d0 x0.at_ x0.steps x0.done)) 54 :: rowL 0 c2 5 c7 :: Lr):=hM
 refine aI (aB ?_)
 refine aG ?_
 refine aD ?_
 refine aA hF (aR qA54 qS54 hF rfl rfl (RState.len _) (hM.cells (i:=4) rfl (bB (RState.len _)))) rfl rfl rfl fun a hF=>?_
 refine bK rfl rfl (bA (vs:=_) qS54 (hM.obj (i:=3) rfl) hF rfl rfl rfl rfl (RState.len _) (RState.one _) (by first | (rw [RState.len,RState.len]; decide) | (rw [RState.len]; decide)) (bG ((RState.len _).trans (RState.len _).symm)) fun w i9=>?_)
 have hM:=hM.chg i9 (i:=3) rfl
 replace hM:MemL _ (rowL 0 d0 3 d8 :: rowL 0 c3 23 c4 :: (packR (c4.take c9) (c6.take c9)) :: pt c1 (RState.enc (RState.mk x0.regs x0.stack c2 c3 d0 x0.at_ x0.steps x0.done)) 54 :: pt c0 (RState.enc (RState.mk x0.regs x0.stack c2 c3 d0 x0.at_ x0.steps x0.done)) 54 :: rowL 0 c2 5 c7 :: Lr):=hM
 refine aI (aB ?_)
 refine c_ret ?_
 obtain ⟨j2,hP⟩:=cH hP
 have hM:=aDc g9 (of_decide_eq_true j2) (selM hM [2,0,1,3,4,5] 6 rfl)
 replace hM:MemL _ ((packR c4 c6) :: rowL 0 d0 3 d8 :: rowL 0 c3 23 c4 :: pt c1 (RState.enc (RState.mk x0.regs x0.stack c2 c3 d0 x0.at_ x0.steps x0.done)) 54 :: pt c0 (RState.enc (RState.mk x0.regs x0.stack c2 c3 d0 x0.at_ x0.steps x0.done)) 54 :: rowL 0 c2 5 c7 :: Lr):=hM
 have hP:=Option.some.inj hP
 subst hP
 refine dO (rs:=[.cell 2 54]) Tryz.results74 hF (cC hF rfl qA54 qS54 (RState.len _) (hM.cells (i:=3) rfl (bB (RState.len _))) cJ) rfl ?_
 exact ⟨c2,c3,c4,d0,rfl,(nL g9.1),selM hM [5,2,0,1] 6 rfl⟩
set_option maxHeartbeats 4000000 in
theorem pL {x0:QState} {s1:SV} {s3:SV} {hs4:List SV} {s7:SV} {out:QState} {w0:World} {Bf:World → Prop} {Lr:List Res} (hP:Sh.pF x0 = some out) (hM:MemL w0 (Lr)) (hsub:∀ w,MemL w Lr → Bf w) (f2:LIn Bf s1 x0.ctx) (f5:LIn Bf s3 hs4) (q6:Each (LIn (X:=UInt8) Bf) hs4 x0.tables) (f8:LIn Bf s7 x0.sent):Calls Tryz.prog 154 #[.agg (RState.enc (RState.mk x0.regs x0.stack s1 s3 s7 x0.at_ x0.steps x0.done)).toArray] w0 (Ret fun v w'=>∃ (j1:SV) (j2:SV) (d6:List SV) (j3:SV),v = .agg (RState.enc (RState.mk out.regs out.stack j1 j2 j3 out.at_ out.steps out.done)).toArray ∧ Each (LIn (X:=UInt8) (packR d6 out.tables).holds') d6 out.tables ∧ MemL w' (rowL 0 j1 5 out.ctx :: rowL 0 j2 23 d6 :: (packR d6 out.tables) :: rowL 0 j3 3 out.sent :: Lr)):=by
 unfold Sh.pF at hP
 refine aP (vs:=[.agg (RState.enc (RState.mk x0.regs x0.stack s1 s3 s7 x0.at_ x0.steps x0.done)).toArray]) Tryz.func154 rfl Tryz.ntmps154 rfl fun a hF=>?_
 refine aG ?_
 refine aD ?_
 refine aN hF rfl rfl rfl (cW hF rfl rfl rfl fun c2 w k5 g4=>?_)
 have hM:=hM.plus g4
 intro a hF
 refine aN hF rfl rfl rfl (bS z54 (zs:=RState.zero.enc) rfl rfl fun c3 w k6 g5=>?_)
 have hM:=hM.plus g5
 intro a hF
 refine aI (aB ?_)
 refine aG ?_
 refine aD ?_
 refine aA hF (aR qA54 qS54 hF rfl rfl (RState.len _) (hM.cells (i:=1) rfl (bB (RState.len _)))) rfl rfl rfl fun a hF=>?_
 refine aN hF rfl rfl rfl (bS z54 (zs:=RState.zero.enc) rfl rfl fun c4 w k7 g6=>?_)
 have hM:=hM.plus g6
 replace hM:MemL _ (pt c4 (RState.enc (RState.mk (⟨List.replicate 11 LVal.zero,rfl⟩ : Vec LVal 11) (⟨List.replicate 32 LSlot.zero,rfl⟩ : Vec LSlot 32) SV.nil SV.nil SV.nil 0 0 false)) 54 :: pt c3 (RState.enc (RState.mk (⟨List.replicate 11 LVal.zero,rfl⟩ : Vec LVal 11) (⟨List.replicate 32 LSlot.zero,rfl⟩ : Vec LSlot 32) SV.nil SV.nil SV.nil 0 0 false)) 54 :: pt c2 (RState.enc (RState.mk x0.regs x0.stack s1 s3 s7 x0.at_ x0.steps x0.done)) 54 :: Lr):=hM
 intro a hF
 refine bK rfl rfl (bA (vs:=_) qS54 (hM.obj (i:=0) rfl) hF rfl rfl rfl rfl (RState.len _) (RState.one _) (by first | (rw [RState.len,RState.len]; decide) | (rw [RState.len]; decide)) (bG ((RState.len _).trans (RState.len _).symm)) fun w j5=>?_)
 have hM:=hM.chg j5 (i:=0) rfl
 replace hM:MemL _ (pt c4 (RState.enc (RState.mk x0.regs x0.stack s1 s3 s7 x0.at_ x0.steps x0.done)) 54 :: pt c3 (RState.enc (RState.mk (⟨List.replicate 11 LVal.zero,rfl⟩ : Vec LVal 11) (⟨List.replicate 32 LSlot.zero,rfl⟩ : Vec LSlot 32) SV.nil SV.nil SV.nil 0 0 false)) 54 :: pt c2 (RState.enc (RState.mk x0.regs x0.stack s1 s3 s7 x0.at_ x0.steps x0.done)) 54 :: Lr):=hM
 refine aI (aB ?_)
 refine aG ?_
 refine aD ?_
 refine aA hF (aC (off':=460) qU54 rfl in23 rfl hF rfl rfl rfl) rfl rfl rfl fun a hF=>?_
 refine aA hF (aJ qA23 hF rfl rfl (hM.cell (i:=2) rfl (RState.g_ctx _))) rfl rfl rfl fun a hF=>?_
 have hM:=hM.rowNil (X:=UInt8) 0 5
 obtain ⟨g8,k1,hP⟩:=bind_some hP
 refine aN hF rfl rfl rfl (dB (X:=UInt8) k1 qU23 in5 rfl rfl rfl rfl hF rfl rfl rfl (hM.own (X:=UInt8) (i:=0) rfl) (f2 _ (hsub _ (dropM hM 4))) fun d5 w i4=>?_)
 have hM:=hM.chg i4 (i:=0) rfl
 replace hM:MemL _ (rowL 0 d5 5 g8 :: pt c4 (RState.enc (RState.mk x0.regs x0.stack s1 s3 s7 x0.at_ x0.steps x0.done)) 54 :: pt c3 (RState.enc (RState.mk (⟨List.replicate 11 LVal.zero,rfl⟩ : Vec LVal 11) (⟨List.replicate 32 LSlot.zero,rfl⟩ : Vec LSlot 32) SV.nil SV.nil SV.nil 0 0 false)) 54 :: pt c2 (RState.enc (RState.mk x0.regs x0.stack s1 s3 s7 x0.at_ x0.steps x0.done)) 54 :: Lr):=hM
 intro a hF
 refine aA hF (aC (off':=460) qU54 rfl in23 rfl hF rfl rfl rfl) rfl rfl rfl fun a hF=>?_
 refine bK rfl rfl (bT qS23 (hM.obj (i:=1) rfl) hF rfl rfl rfl rfl (by rw [RState.len]; decide) (RState.s_ctx _ _) fun w j6=>?_)
 have hM:=hM.chg j6 (i:=1) rfl
 replace hM:MemL _ (rowL 0 d5 5 g8 :: pt c4 (RState.enc (RState.mk x0.regs x0.stack d5 s3 s7 x0.at_ x0.steps x0.done)) 54 :: pt c3 (RState.enc (RState.mk (⟨List.replicate 11 LVal.zero,rfl⟩ : Vec LVal 11) (⟨List.replicate 32 LSlot.zero,rfl⟩ : Vec LSlot 32) SV.nil SV.nil SV.nil 0 0 false)) 54 :: pt c2 (RState.enc (RState.mk x0.regs x0.stack s1 s3 s7 x0.at_ x0.steps x0.done)) 54 :: Lr):=hM
 refine aI (aB ?_)
 refine aG ?_
 refine aD ?_
 refine aA hF (aC (off':=461) qU54 rfl in28 rfl hF rfl rfl rfl) rfl rfl rfl fun a hF=>?_
 refine bK rfl rfl (bT Tryz.sizeOf28 (hM.obj (i:=1) rfl) hF rfl rfl rfl rfl (by rw [RState.len]; decide) (RState.s_tables _ SV.nil) fun w j7=>?_)
 have hM:=hM.chg j7 (i:=1) rfl
 replace hM:MemL _ (rowL 0 d5 5 g8 :: pt c4 (RState.enc (RState.mk x0.regs x0.stack d5 SV.nil s7 x0.at_ x0.steps x0.done)) 54 :: pt c3 (RState.enc (RState.mk (⟨List.replicate 11 LVal.zero,rfl⟩ : Vec LVal 11) (⟨List.replicate 32 LSlot.zero,rfl⟩ : Vec LSlot 32) SV.nil SV.nil SV.nil 0 0 false)) 54 :: pt c2 (RState.enc (RState.mk x0.regs x0.stack s1 s3 s7 x0.at_ x0.steps x0.done)) 54 :: Lr):=hM
 refine aI (aB ?_)
 refine aG ?_
 refine aT hF hM hP (fun F x a w=>match x with | c1=>∃ (c9:SV) (d0:SV) (c7:List SV) (g1:SV),Each (LIn (X:=UInt8) (packR c7 c1.tables).holds') c7 c1.tables ∧ LIn Bf g1 c1.sent ∧ Fr 34 [(1,.pointer (some ⟨c2,0,none⟩)),(2,.pointer (some ⟨c3,0,none⟩)),(3,.pointer (some ⟨c4,0,none⟩))] a ∧ MemL w (pt c4 (RState.enc (RState.mk c1.regs c1.stack c9 d0 g1 c1.at_ c1.steps c1.done)) 54 :: rowL 0 c9 5 c1.ctx :: rowL 0 d0 23 c7 :: (packR c7 c1.tables) :: pt c3 (RState.enc (RState.mk (⟨List.replicate 11 LVal.zero,rfl⟩ : Vec LVal 11) (⟨List.replicate 32 LSlot.zero,rfl⟩ : Vec LSlot 32) SV.nil SV.nil SV.nil 0 0 false)) 54 :: pt c2 (RState.enc (RState.mk x0.regs x0.stack s1 s3 s7 x0.at_ x0.steps x0.done)) 54 :: Lr)) (fun l4 hP l1 hF hM=>?_) ?_
 ·refine aG ?_
  refine aD ?_
  refine aA hF (aH hF rfl rfl) rfl rfl rfl fun a hF=>?_
  refine aI (aB ?_)
  refine aX ?_
  have k9:Each (LIn (X:=UInt8) (packR [] []).holds') ([]:List SV) ([]:List (List UInt8)):=Each.nil
  have hM:=xM hM
  have hM:=hM.rowNil (X:=SV) 0 23
  refine bU hF hM hP (fun F x a w=>match x with | (c0,g2)=>∃ (c8:SV) (d2:SV) (c5:List SV) (d3:SV),Each (LIn (X:=UInt8) (packR c5 c0.tables).holds') c5 c0.tables ∧ LIn Bf d3 c0.sent ∧ Fr 34 [(4,.int .i64 g2),(1,.pointer (some ⟨c2,0,none⟩)),(2,.pointer (some ⟨c3,0,none⟩)),(3,.pointer (some ⟨c4,0,none⟩))] a ∧ MemL w (pt c4 (RState.enc (RState.mk c0.regs c0.stack c8 d2 d3 c0.at_ c0.steps c0.done)) 54 :: rowL 0 c8 5 c0.ctx :: rowL 0 d2 23 c5 :: (packR c5 c0.tables) :: pt c3 (RState.enc (RState.mk (⟨List.replicate 11 LVal.zero,rfl⟩ : Vec LVal 11) (⟨List.replicate 32 LSlot.zero,rfl⟩ : Vec LSlot 32) SV.nil SV.nil SV.nil 0 0 false)) 54 :: pt c2 (RState.enc (RState.mk x0.regs x0.stack s1 s3 s7 x0.at_ x0.steps x0.done)) 54 :: Lr)) (fun hF hM=>⟨d5,SV.nil,[],s7,k9,f8,hF.to ⟨rfl,rfl,rfl,rfl,trivial⟩,selM hM [3,2,0,1,4,5] 6 rfl⟩) ?_
  rintro ⟨c0,g2⟩ a w l5 hP j4 ⟨c8,d2,c5,d3,g7,i2,hF,hM⟩
  replace hP:Sh.kJ x0 c0 g2 = _:=hP
  unfold Sh.kJ at hP
  refine aG ?_
  refine aG ?_
  refine aD ?_
  refine aA hF (aF hF rfl rfl) rfl rfl rfl fun a hF=>?_
  refine aA hF (aC (off':=461) qU54 rfl in28 rfl hF rfl rfl rfl) rfl rfl rfl fun a hF=>?_
  refine aA hF (aJ qA28 hF rfl rfl (hM.cell (i:=5) rfl (RState.g_tables _))) rfl rfl rfl fun a hF=>?_
  refine aA hF (cY (f5 _ (hsub _ (dropM hM 6))) q6.len qU28 hF rfl rfl) rfl rfl rfl fun a hF=>?_
  refine aA hF (cO hF rfl rfl rfl) rfl rfl rfl fun a hF=>?_
  refine aI (aB ?_)
  refine aS hF (c:=.tmp 15) rfl (fun d9=>?_) (fun d9=>?_)
  ·have hP:=Fx.cT d9 hP
   refine aW (aB ?_)
   refine aG ?_
   refine aX ?_
   refine bR mixed (by kernel_rfl) hM [0,1,2,3,4,5] 6 rfl fun hch=>?_
   refine aK hF hch 0 rfl (by kernel_rfl) rfl rfl rfl (fun w hM=>(aC (off':=461) qU54 rfl in28 rfl hF rfl rfl rfl)) fun a hF=>?_
   refine aK hF hch 1 rfl (by kernel_rfl) rfl rfl rfl (fun w hM=>(aJ qA28 hF rfl rfl (hM.cell (i:=0) rfl (RState.g_tables _)))) fun a hF=>?_
   refine aK hF hch 2 rfl (by kernel_rfl) rfl rfl rfl (fun w hM=>(aC (off':=461) qU54 rfl in28 rfl hF rfl rfl rfl)) fun a hF=>?_
   refine aK hF hch 3 rfl (by kernel_rfl) rfl rfl rfl (fun w hM=>(aJ qA28 hF rfl rfl (hM.cell (i:=5) rfl (RState.g_tables _)))) fun a hF=>?_
   refine aK hF hch 4 rfl (by kernel_rfl) rfl rfl rfl (fun w hM=>(aF hF rfl rfl)) fun a hF=>?_
   obtain ⟨l6,i1,hP⟩:=bind_some hP
   have i3:=aM i1
   obtain ⟨l2,i9,j0⟩:=Each.getr q6 i3.2
   have i8:=Each.bd q6 (bL i1)
   refine aK hF hch 5 rfl (by kernel_rfl) rfl rfl rfl (fun w hM=>(aY (sz:=1) (f5 _ (hsub _ (dropM hM 6))) qU28 in23 rfl hF rfl rfl rfl i8)) fun a hF=>?_
   refine aK hF hch 6 rfl (by kernel_rfl) rfl rfl rfl (fun w hM=>(aJ qA23 hF rfl rfl ((((f5 _ (hsub _ (dropM hM 6))).elemS i9)).get 0 rfl))) fun a hF=>?_
   refine bH hch 7 (by kernel_rfl) rfl rfl ?_
   refine cB hF 7 rfl rfl rfl rfl rfl fun w hMs hM=>?_
   have hM:=hM.rowNil (X:=UInt8) 0 5
   obtain ⟨g9,k2,hP⟩:=bind_some hP
   refine (dB (X:=UInt8) k2 qU23 in5 rfl rfl rfl rfl hF rfl rfl rfl (hM.own (X:=UInt8) (i:=0) rfl) (j0 _ (hsub _ (dropM hM 7))) fun c6 w i5=>?_)
   have hM:=hM.chg i5 (i:=0) rfl
   replace hM:MemL _ (rowL 0 c6 5 g9 :: pt c4 (RState.enc (RState.mk c0.regs c0.stack c8 d2 d3 c0.at_ c0.steps c0.done)) 54 :: rowL 0 c8 5 c0.ctx :: rowL 0 d2 23 c5 :: (packR c5 c0.tables) :: pt c3 (RState.enc (RState.mk (⟨List.replicate 11 LVal.zero,rfl⟩ : Vec LVal 11) (⟨List.replicate 32 LSlot.zero,rfl⟩ : Vec LSlot 32) SV.nil SV.nil SV.nil 0 0 false)) 54 :: pt c2 (RState.enc (RState.mk x0.regs x0.stack s1 s3 s7 x0.at_ x0.steps x0.done)) 54 :: Lr):=hM
   have hMs:=selM hM [0,1,2,3,4,5,6] 7 rfl
   refine ⟨_,_,hMs,hM,.inl fun _ h=>dropM h 1,fun a hF=>?_⟩
   refine bH hch 8 (by kernel_rfl) rfl rfl ?_
   refine cB hF 8 rfl rfl rfl rfl rfl fun w hMs hM=>?_
   refine (cI (X:=SV) (y:=c6) qU28 in23 rfl rfl rfl rfl hF rfl rfl rfl fun d1 w k4 g3=>?_)
   have hM:=hM.plus g3
   replace hM:MemL _ (pt d1 (encs ([c6]:List SV)) 23 :: rowL 0 c6 5 g9 :: pt c4 (RState.enc (RState.mk c0.regs c0.stack c8 d2 d3 c0.at_ c0.steps c0.done)) 54 :: rowL 0 c8 5 c0.ctx :: rowL 0 d2 23 c5 :: (packR c5 c0.tables) :: pt c3 (RState.enc (RState.mk (⟨List.replicate 11 LVal.zero,rfl⟩ : Vec LVal 11) (⟨List.replicate 32 LSlot.zero,rfl⟩ : Vec LSlot 32) SV.nil SV.nil SV.nil 0 0 false)) 54 :: pt c2 (RState.enc (RState.mk x0.regs x0.stack s1 s3 s7 x0.at_ x0.steps x0.done)) 54 :: Lr):=hM
   have hMs:=selM hM [0,1,2,3,4,5,6,7] 8 rfl
   refine ⟨_,_,hMs,hM,.inl fun _ h=>dropM h 1,fun a hF=>?_⟩
   refine bH hch 9 (by kernel_rfl) rfl rfl ?_
   refine cB hF 9 rfl rfl rfl rfl rfl fun w hMs hM=>?_
   obtain ⟨d8,g0,hP⟩:=bind_some hP
   refine (gR (X:=SV) g0 g7.len rfl qU28 in23 rfl rfl rfl rfl hF rfl rfl rfl (hM.own (X:=SV) (i:=4) rfl) (hM.ptS (X:=SV) (i:=0) (n:=1) (c:=1) rfl rfl rfl (Nat.le_refl _)) fun d7 w i6=>?_)
   have hM:=hM.chg i6 (i:=4) rfl
   replace hM:MemL _ (pt d1 (encs ([c6]:List SV)) 23 :: rowL 0 c6 5 g9 :: pt c4 (RState.enc (RState.mk c0.regs c0.stack c8 d2 d3 c0.at_ c0.steps c0.done)) 54 :: rowL 0 c8 5 c0.ctx :: rowL 0 d7 23 (c5 ++ [c6]) :: (packR c5 c0.tables) :: pt c3 (RState.enc (RState.mk (⟨List.replicate 11 LVal.zero,rfl⟩ : Vec LVal 11) (⟨List.replicate 32 LSlot.zero,rfl⟩ : Vec LSlot 32) SV.nil SV.nil SV.nil 0 0 false)) 54 :: pt c2 (RState.enc (RState.mk x0.regs x0.stack s1 s3 s7 x0.at_ x0.steps x0.done)) 54 :: Lr):=hM
   have hM:=uD (selM hM [5,1,0,2,3,4,6,7] 8 rfl) (dP g0).2
   have l0:Each (LIn (X:=UInt8) (packR (c5 ++ [c6]) d8).holds') (c5 ++ [c6]) d8:=nL (by rw [(dP g0).2]; simp [g7.len])
   replace hM:MemL _ ((packR (c5 ++ [c6]) d8) :: pt d1 (encs ([c6]:List SV)) 23 :: pt c4 (RState.enc (RState.mk c0.regs c0.stack c8 d2 d3 c0.at_ c0.steps c0.done)) 54 :: rowL 0 c8 5 c0.ctx :: rowL 0 d7 23 (c5 ++ [c6]) :: pt c3 (RState.enc (RState.mk (⟨List.replicate 11 LVal.zero,rfl⟩ : Vec LVal 11) (⟨List.replicate 32 LSlot.zero,rfl⟩ : Vec LSlot 32) SV.nil SV.nil SV.nil 0 0 false)) 54 :: pt c2 (RState.enc (RState.mk x0.regs x0.stack s1 s3 s7 x0.at_ x0.steps x0.done)) 54 :: Lr):=hM
   have hMs:=hM
   refine ⟨_,_,hMs,hM,.inr (by kernel_rfl),fun a hF=>?_⟩
   refine aK hF hch 10 rfl (by kernel_rfl) rfl rfl rfl (fun w hM=>(aC (off':=461) qU54 rfl in28 rfl hF rfl rfl rfl)) fun a hF=>?_
   refine bH hch 11 (by kernel_rfl) rfl rfl ?_
   refine dK 11 rfl rfl rfl rfl fun w hMs hM=>?_
   refine (bT Tryz.sizeOf28 (hM.obj (i:=2) rfl) hF rfl rfl rfl rfl (by rw [RState.len]; decide) (RState.s_tables _ _) fun w j8=>?_)
   have hM:=hM.chg j8 (i:=2) rfl
   replace hM:MemL _ ((packR (c5 ++ [c6]) d8) :: pt d1 (encs ([c6]:List SV)) 23 :: pt c4 (RState.enc (RState.mk c0.regs c0.stack c8 d7 d3 c0.at_ c0.steps c0.done)) 54 :: rowL 0 c8 5 c0.ctx :: rowL 0 d7 23 (c5 ++ [c6]) :: pt c3 (RState.enc (RState.mk (⟨List.replicate 11 LVal.zero,rfl⟩ : Vec LVal 11) (⟨List.replicate 32 LSlot.zero,rfl⟩ : Vec LSlot 32) SV.nil SV.nil SV.nil 0 0 false)) 54 :: pt c2 (RState.enc (RState.mk x0.regs x0.stack s1 s3 s7 x0.at_ x0.steps x0.done)) 54 :: Lr):=hM
   have hMs:=hM
   refine ⟨_,_,hMs,hM,.inr (by kernel_rfl),?_⟩
   refine bY hch (by kernel_rfl) fun w hM=>?_
   refine bM (aB ?_)
   refine aD ?_
   refine aA hF (aF hF rfl rfl) rfl rfl rfl fun a hF=>?_
   refine aA hF (cA hF rfl rfl rfl) rfl rfl rfl fun a hF=>?_
   refine aA hF (aH hF rfl rfl) rfl rfl rfl fun a hF=>?_
   refine aI (aB ?_)
   have hP:=Option.some.inj hP
   subst hP
   exact ⟨((QState.mk c0.regs c0.stack c0.ctx d8 c0.sent c0.at_ c0.steps c0.done),(IntKind.i64.wrap (g2 + 1))),rfl,c8,d7,(c5 ++ [c6]),d3,l0,i2,hF.to ⟨rfl,rfl,rfl,rfl,trivial⟩,selM hM [2,3,4,0,5,6] 7 rfl⟩
  have hP:=Fx.cF d9 hP
  refine bZ (bC (bC (cR ?_)))
  refine aB ?_
  have hP:=Option.some.inj hP
  subst hP
  have hP:=j4 _ rfl
  subst hP
  exact ⟨c0,rfl,c8,d2,c5,d3,g7,i2,hF.to ⟨rfl,rfl,rfl,trivial⟩,hM⟩
 rintro c1 a w hP ⟨c9,d0,c7,g1,k8,l3,hF,hM⟩
 replace hP:Sh.oM x0 c1 = _:=hP
 unfold Sh.oM at hP
 refine aB ?_
 refine aG ?_
 refine aD ?_
 refine aA hF (aC (off':=462) qU54 rfl in52 rfl hF rfl rfl rfl) rfl rfl rfl fun a hF=>?_
 refine aA hF (aJ qA52 hF rfl rfl (hM.cell (i:=5) rfl (RState.g_sent _))) rfl rfl rfl fun a hF=>?_
 have hM:=hM.rowNil (X:=Int) 0 3
 obtain ⟨i0,k3,hP⟩:=bind_some hP
 refine aN hF rfl rfl rfl (dB (X:=Int) k3 qU52 in3 rfl rfl rfl rfl hF rfl rfl rfl (hM.own (X:=Int) (i:=0) rfl) (f8 _ (hsub _ (dropM hM 7))) fun d4 w i7=>?_)
 have hM:=hM.chg i7 (i:=0) rfl
 replace hM:MemL _ (rowL 0 d4 3 i0 :: pt c4 (RState.enc (RState.mk c1.regs c1.stack c9 d0 g1 c1.at_ c1.steps c1.done)) 54 :: rowL 0 c9 5 c1.ctx :: rowL 0 d0 23 c7 :: (packR c7 c1.tables) :: pt c3 (RState.enc (RState.mk (⟨List.replicate 11 LVal.zero,rfl⟩ : Vec LVal 11) (⟨List.replicate 32 LSlot.zero,rfl⟩ : Vec LSlot 32) SV.nil SV.nil SV.nil 0 0 false)) 54 :: pt c2 (RState.enc (RState.mk x0.regs x0.stack s1 s3 s7 x0.at_ x0.steps x0.done)) 54 :: Lr):=hM
 intro a hF
 refine aA hF (aC (off':=462) qU54 rfl in52 rfl hF rfl rfl rfl) rfl rfl rfl fun a hF=>?_
 refine bK rfl rfl (bT qS52 (hM.obj (i:=1) rfl) hF rfl rfl rfl rfl (by rw [RState.len]; decide) (RState.s_sent _ _) fun w j9=>?_)
 have hM:=hM.chg j9 (i:=1) rfl
 replace hM:MemL _ (rowL 0 d4 3 i0 :: pt c4 (RState.enc (RState.mk c1.regs c1.stack c9 d0 d4 c1.at_ c1.steps c1.done)) 54 :: rowL 0 c9 5 c1.ctx :: rowL 0 d0 23 c7 :: (packR c7 c1.tables) :: pt c3 (RState.enc (RState.mk (⟨List.replicate 11 LVal.zero,rfl⟩ : Vec LVal 11) (⟨List.replicate 32 LSlot.zero,rfl⟩ : Vec LSlot 32) SV.nil SV.nil SV.nil 0 0 false)) 54 :: pt c2 (RState.enc (RState.mk x0.regs x0.stack s1 s3 s7 x0.at_ x0.steps x0.done)) 54 :: Lr):=hM
 refine aI (aB ?_)
 refine aG ?_
 refine aD ?_
 refine aA hF (aR qA54 qS54 hF rfl rfl (RState.len _) (hM.cells (i:=1) rfl (bB (RState.len _)))) rfl rfl rfl fun a hF=>?_
 refine bK rfl rfl (bA (vs:=_) qS54 (hM.obj (i:=5) rfl) hF rfl rfl rfl rfl (RState.len _) (RState.one _) (by first | (rw [RState.len,RState.len]; decide) | (rw [RState.len]; decide)) (bG ((RState.len _).trans (RState.len _).symm)) fun w k0=>?_)
 have hM:=hM.chg k0 (i:=5) rfl
 replace hM:MemL _ (rowL 0 d4 3 i0 :: pt c4 (RState.enc (RState.mk c1.regs c1.stack c9 d0 d4 c1.at_ c1.steps c1.done)) 54 :: rowL 0 c9 5 c1.ctx :: rowL 0 d0 23 c7 :: (packR c7 c1.tables) :: pt c3 (RState.enc (RState.mk c1.regs c1.stack c9 d0 d4 c1.at_ c1.steps c1.done)) 54 :: pt c2 (RState.enc (RState.mk x0.regs x0.stack s1 s3 s7 x0.at_ x0.steps x0.done)) 54 :: Lr):=hM
 refine aI (aB ?_)
 refine c_ret ?_
 have hP:=Option.some.inj hP
 subst hP
 refine dO (rs:=[.cell 2 54]) Tryz.results154 hF (cC hF rfl qA54 qS54 (RState.len _) (hM.cells (i:=5) rfl (bB (RState.len _))) cJ) rfl ?_
 exact ⟨c9,d0,c7,d4,rfl,k8,selM hM [2,3,4,0] 7 rfl⟩
set_option maxHeartbeats 4000000 in
theorem mD {x0:LTurn} {x1:Bool} {out:LVal} {w0:World} {Lr:List Res} (hP:Sh.rH x0 x1 = some out) (hM:MemL w0 (Lr)):Calls Tryz.prog 199 #[.agg (LTurn.enc x0).toArray,.bool x1] w0 (Ret fun v w'=>v = .agg (LVal.enc out).toArray ∧ MemL w' (Lr)):=by
 unfold Sh.rH at hP
 refine aP (vs:=[.agg (LTurn.enc x0).toArray,.bool x1]) Tryz.func199 rfl Tryz.ntmps199 rfl fun a hF=>?_
 refine aG ?_
 refine aD ?_
 refine aN hF rfl rfl rfl (cW hF rfl rfl rfl fun c0 w c4 c2=>?_)
 have hM:=hM.plus c2
 intro a hF
 refine aN hF rfl rfl rfl (bS z46 (zs:=LVal.zero.enc) rfl rfl fun c1 w c5 c3=>?_)
 have hM:=hM.plus c3
 replace hM:MemL _ (pt c1 (LVal.enc LVal.zero) 46 :: pt c0 (LTurn.enc x0) 128 :: Lr):=hM
 intro a hF
 refine aI (aB ?_)
 refine aG ?_
 refine aG ?_
 refine aD ?_
 refine aA hF (aF hF rfl rfl) rfl rfl rfl fun a hF=>?_
 refine aI (aB ?_)
 refine aS hF (c:=.tmp 5) rfl (fun hb8=>?_) (fun hb8=>?_)
 ·have hP:=Fx.cT hb8 hP
  refine aG ?_
  refine aD ?_
  refine aA hF (aC (off':=1) qU128 rfl in46 rfl hF rfl rfl rfl) rfl rfl rfl fun a hF=>?_
  refine aA hF (aR qA46 qS46 hF rfl rfl (LVal.len _) (hM.cells (i:=1) rfl (LTurn.c_old _))) rfl rfl rfl fun a hF=>?_
  refine bK rfl rfl (bA (vs:=_) qS46 (hM.obj (i:=0) rfl) hF rfl rfl rfl rfl (LVal.len _) (LVal.one _) (by first | (rw [LVal.len,LVal.len]; decide) | (rw [LVal.len]; decide)) (bG ((LVal.len _).trans (LVal.len _).symm)) fun w hU9=>?_)
  have hM:=hM.chg hU9 (i:=0) rfl
  replace hM:MemL _ (pt c1 (LVal.enc x0.old) 46 :: pt c0 (LTurn.enc x0) 128 :: Lr):=hM
  refine aI (aB ?_)
  refine c_ret ?_
  have hP:=Option.some.inj hP
  subst hP
  refine dO (rs:=[.cell 4 46]) Tryz.results199 hF (cC hF rfl qA46 qS46 (LVal.len _) (hM.cells (i:=0) rfl (bB (LVal.len _))) cJ) rfl ?_
  exact ⟨rfl,selM hM [] 2 rfl⟩
 have hP:=Fx.cF hb8 hP
 refine aW (aB ?_)
 refine aG ?_
 refine aD ?_
 refine aA hF (aC (off':=5) qU128 rfl in46 rfl hF rfl rfl rfl) rfl rfl rfl fun a hF=>?_
 refine aA hF (aR qA46 qS46 hF rfl rfl (LVal.len _) (hM.cells (i:=1) rfl (LTurn.c_new _))) rfl rfl rfl fun a hF=>?_
 refine bK rfl rfl (bA (vs:=_) qS46 (hM.obj (i:=0) rfl) hF rfl rfl rfl rfl (LVal.len _) (LVal.one _) (by first | (rw [LVal.len,LVal.len]; decide) | (rw [LVal.len]; decide)) (bG ((LVal.len _).trans (LVal.len _).symm)) fun w hU10=>?_)
 have hM:=hM.chg hU10 (i:=0) rfl
 replace hM:MemL _ (pt c1 (LVal.enc x0.new) 46 :: pt c0 (LTurn.enc x0) 128 :: Lr):=hM
 refine aI (aB ?_)
 refine c_ret ?_
 have hP:=Option.some.inj hP
 subst hP
 refine dO (rs:=[.cell 4 46]) Tryz.results199 hF (cC hF rfl qA46 qS46 (LVal.len _) (hM.cells (i:=0) rfl (bB (LVal.len _))) cJ) rfl ?_
 exact ⟨rfl,selM hM [] 2 rfl⟩
set_option maxHeartbeats 4000000 in
theorem lD {x0:LCell} {x1:Bool} {out:LSlot} {w0:World} {Lr:List Res} (hP:Sh.qK x0 x1 = some out) (hM:MemL w0 (Lr)):Calls Tryz.prog 200 #[.agg (LCell.enc x0).toArray,.bool x1] w0 (Ret fun v w'=>v = .agg (LSlot.enc out).toArray ∧ MemL w' (Lr)):=by
 unfold Sh.qK at hP
 refine aP (vs:=[.agg (LCell.enc x0).toArray,.bool x1]) Tryz.func200 rfl Tryz.ntmps200 rfl fun a hF=>?_
 refine aG ?_
 refine aD ?_
 refine aN hF rfl rfl rfl (cW hF rfl rfl rfl fun c0 w c4 c2=>?_)
 have hM:=hM.plus c2
 intro a hF
 refine aN hF rfl rfl rfl (bS z50 (zs:=LSlot.zero.enc) rfl rfl fun c1 w c5 c3=>?_)
 have hM:=hM.plus c3
 replace hM:MemL _ (pt c1 (LSlot.enc LSlot.zero) 50 :: pt c0 (LCell.enc x0) 151 :: Lr):=hM
 intro a hF
 refine aI (aB ?_)
 refine aG ?_
 refine aG ?_
 refine aD ?_
 refine aA hF (aF hF rfl rfl) rfl rfl rfl fun a hF=>?_
 refine aI (aB ?_)
 refine aS hF (c:=.tmp 5) rfl (fun hb8=>?_) (fun hb8=>?_)
 ·have hP:=Fx.cT hb8 hP
  refine aG ?_
  refine aD ?_
  refine aA hF (aC (off':=1) qU151 rfl in50 rfl hF rfl rfl rfl) rfl rfl rfl fun a hF=>?_
  refine aA hF (aR qA50 qS50 hF rfl rfl (LSlot.len _) (hM.cells (i:=1) rfl (LCell.c_old _))) rfl rfl rfl fun a hF=>?_
  refine bK rfl rfl (bA (vs:=_) qS50 (hM.obj (i:=0) rfl) hF rfl rfl rfl rfl (LSlot.len _) (LSlot.one _) (by first | (rw [LSlot.len,LSlot.len]; decide) | (rw [LSlot.len]; decide)) (bG ((LSlot.len _).trans (LSlot.len _).symm)) fun w hU9=>?_)
  have hM:=hM.chg hU9 (i:=0) rfl
  replace hM:MemL _ (pt c1 (LSlot.enc x0.old) 50 :: pt c0 (LCell.enc x0) 151 :: Lr):=hM
  refine aI (aB ?_)
  refine c_ret ?_
  have hP:=Option.some.inj hP
  subst hP
  refine dO (rs:=[.cell 4 50]) Tryz.results200 hF (cC hF rfl qA50 qS50 (LSlot.len _) (hM.cells (i:=0) rfl (bB (LSlot.len _))) cJ) rfl ?_
  exact ⟨rfl,selM hM [] 2 rfl⟩
 have hP:=Fx.cF hb8 hP
 refine aW (aB ?_)
 refine aG ?_
 refine aD ?_
 refine aA hF (aC (off':=14) qU151 rfl in50 rfl hF rfl rfl rfl) rfl rfl rfl fun a hF=>?_
 refine aA hF (aR qA50 qS50 hF rfl rfl (LSlot.len _) (hM.cells (i:=1) rfl (LCell.c_new _))) rfl rfl rfl fun a hF=>?_
 refine bK rfl rfl (bA (vs:=_) qS50 (hM.obj (i:=0) rfl) hF rfl rfl rfl rfl (LSlot.len _) (LSlot.one _) (by first | (rw [LSlot.len,LSlot.len]; decide) | (rw [LSlot.len]; decide)) (bG ((LSlot.len _).trans (LSlot.len _).symm)) fun w hU10=>?_)
 have hM:=hM.chg hU10 (i:=0) rfl
 replace hM:MemL _ (pt c1 (LSlot.enc x0.new) 50 :: pt c0 (LCell.enc x0) 151 :: Lr):=hM
 refine aI (aB ?_)
 refine c_ret ?_
 have hP:=Option.some.inj hP
 subst hP
 refine dO (rs:=[.cell 4 50]) Tryz.results200 hF (cC hF rfl qA50 qS50 (LSlot.len _) (hM.cells (i:=0) rfl (bB (LSlot.len _))) cJ) rfl ?_
 exact ⟨rfl,selM hM [] 2 rfl⟩
set_option maxHeartbeats 4000000 in
theorem kM {x0:QPiece} {x1:Bool} {s1:SV} {s3:SV} {out:List UInt8} {w0:World} {Bf:World → Prop} {Lr:List Res} (hP:Sh.pG x0 x1 = some out) (hM:MemL w0 (Lr)) (hsub:∀ w,MemL w Lr → Bf w) (f2:LIn Bf s1 x0.old) (f4:LIn Bf s3 x0.new):Calls Tryz.prog 201 #[.agg (RPiece.enc (RPiece.mk x0.table x0.from_ s1 s3)).toArray,.bool x1] w0 (Ret fun v w'=>∃ (s7:SV),v = (s7).v ∧ LIn Bf s7 out ∧ MemL w' (Lr)):=by
 unfold Sh.pG at hP
 refine aP (vs:=[.agg (RPiece.enc (RPiece.mk x0.table x0.from_ s1 s3)).toArray,.bool x1]) Tryz.func201 rfl Tryz.ntmps201 rfl fun a hF=>?_
 refine aG ?_
 refine aD ?_
 refine aN hF rfl rfl rfl (cW hF rfl rfl rfl fun c0 w c2 c1=>?_)
 have hM:=hM.plus c1
 replace hM:MemL _ (pt c0 (RPiece.enc (RPiece.mk x0.table x0.from_ s1 s3)) 156 :: Lr):=hM
 intro a hF
 refine aA hF (aH hF rfl rfl) rfl rfl rfl fun a hF=>?_
 refine aI (aB ?_)
 refine aG ?_
 refine aG ?_
 refine aD ?_
 refine aA hF (aF hF rfl rfl) rfl rfl rfl fun a hF=>?_
 refine aI (aB ?_)
 refine aS hF (c:=.tmp 5) rfl (fun hb10=>?_) (fun hb10=>?_)
 ·have hP:=Fx.cT hb10 hP
  refine aG ?_
  refine aD ?_
  refine aA hF (aC (off':=2) qU156 rfl in23 rfl hF rfl rfl rfl) rfl rfl rfl fun a hF=>?_
  refine aA hF (aJ qA23 hF rfl rfl (hM.cell (i:=0) rfl (RPiece.g_old _))) rfl rfl rfl fun a hF=>?_
  refine aA hF (aH hF rfl rfl) rfl rfl rfl fun a hF=>?_
  refine aI (aB ?_)
  refine c_ret ?_
  have hP:=Option.some.inj hP
  subst hP
  refine bE Tryz.results201 hF rfl ?_
  exact ⟨s1,rfl,f2,selM hM [] 1 rfl⟩
 have hP:=Fx.cF hb10 hP
 refine aW (aB ?_)
 refine aG ?_
 refine aD ?_
 refine aA hF (aC (off':=3) qU156 rfl in23 rfl hF rfl rfl rfl) rfl rfl rfl fun a hF=>?_
 refine aA hF (aJ qA23 hF rfl rfl (hM.cell (i:=0) rfl (RPiece.g_new _))) rfl rfl rfl fun a hF=>?_
 refine aA hF (aH hF rfl rfl) rfl rfl rfl fun a hF=>?_
 refine aI (aB ?_)
 refine c_ret ?_
 have hP:=Option.some.inj hP
 subst hP
 refine bE Tryz.results201 hF rfl ?_
 exact ⟨s3,rfl,f4,selM hM [] 1 rfl⟩
set_option maxHeartbeats 4000000 in
theorem kG {x0:QState} {x1:QMark} {s1:SV} {s3:SV} {hs4:List SV} {s7:SV} {s9:SV} {s11:SV} {s13:SV} {hs14:List RPiece} {s17:SV} {out:QState} {w0:World} {Bf:World → Prop} {Lr:List Res} (hP:Sh.mM x0 x1 = some out) (hM:MemL w0 (Lr)) (hsub:∀ w,MemL w Lr → Bf w) (f2:LIn Bf s1 x0.ctx) (f5:LIn Bf s3 hs4) (q6:Each (LIn (X:=UInt8) Bf) hs4 x0.tables) (f8:LIn Bf s7 x0.sent) (f10:LIn Bf s9 x1.regs) (f12:LIn Bf s11 x1.slots) (f15:LIn Bf s13 hs14) (q16:Each (QPieceIn Bf) hs14 x1.pieces) (f18:LIn Bf s17 x1.sent):Calls Tryz.prog 127 #[.agg (RState.enc (RState.mk x0.regs x0.stack s1 s3 s7 x0.at_ x0.steps x0.done)).toArray,.agg (RMark.enc (RMark.mk x1.at_ x1.next x1.done s9 s11 s13 s17)).toArray] w0 (Ret fun v w'=>∃ (m9:SV) (n0:SV) (k6:List SV) (m8:Res) (n1:SV),v = .agg (RState.enc (RState.mk out.regs out.stack m9 n0 n1 out.at_ out.steps out.done)).toArray ∧ Each (LIn (X:=UInt8) m8.holds') k6 out.tables ∧ MemL w' (rowL 0 m9 5 out.ctx :: rowL 0 n0 23 k6 :: m8 :: rowL 0 n1 3 out.sent :: Lr)):=by
 unfold Sh.mM at hP
 refine aP (vs:=[.agg (RState.enc (RState.mk x0.regs x0.stack s1 s3 s7 x0.at_ x0.steps x0.done)).toArray,.agg (RMark.enc (RMark.mk x1.at_ x1.next x1.done s9 s11 s13 s17)).toArray]) Tryz.func127 rfl Tryz.ntmps127 rfl fun a hF=>?_
 refine aG ?_
 refine aD ?_
 refine aN hF rfl rfl rfl (cW hF rfl rfl rfl fun c2 w p5 j8=>?_)
 have hM:=hM.plus j8
 intro a hF
 refine aN hF rfl rfl rfl (cW hF rfl rfl rfl fun c3 w p6 j9=>?_)
 have hM:=hM.plus j9
 intro a hF
 refine aN hF rfl rfl rfl (bS z54 (zs:=RState.zero.enc) rfl rfl fun c4 w p7 k0=>?_)
 have hM:=hM.plus k0
 replace hM:MemL _ (pt c4 (RState.enc (RState.mk (⟨List.replicate 11 LVal.zero,rfl⟩ : Vec LVal 11) (⟨List.replicate 32 LSlot.zero,rfl⟩ : Vec LSlot 32) SV.nil SV.nil SV.nil 0 0 false)) 54 :: pt c3 (RMark.enc (RMark.mk x1.at_ x1.next x1.done s9 s11 s13 s17)) 60 :: pt c2 (RState.enc (RState.mk x0.regs x0.stack s1 s3 s7 x0.at_ x0.steps x0.done)) 54 :: Lr):=hM
 intro a hF
 refine aI (aB ?_)
 refine aG ?_
 refine aD ?_
 refine aA hF (aR qA54 qS54 hF rfl rfl (RState.len _) (hM.cells (i:=2) rfl (bB (RState.len _)))) rfl rfl rfl fun a hF=>?_
 obtain ⟨c0,p3,hP⟩:=bind_some hP
 refine aN hF rfl rfl rfl (aO (xs:=[.tmp 13]) Tryz.call74 hF rfl rfl (oS p3 hM (Bf:=Bf) (fun w hM=>hsub _ (dropM hM 3)) f2 f5 q6 f8) fun v w hR=>?_)
 obtain ⟨c5,c6,c1,i9,rfl,t2,hM⟩:=hR
 replace hM:MemL _ (rowL 0 c5 5 c0.ctx :: rowL 0 c6 23 c1 :: (packR c1 c0.tables) :: rowL 0 i9 3 c0.sent :: pt c4 (RState.enc (RState.mk (⟨List.replicate 11 LVal.zero,rfl⟩ : Vec LVal 11) (⟨List.replicate 32 LSlot.zero,rfl⟩ : Vec LSlot 32) SV.nil SV.nil SV.nil 0 0 false)) 54 :: pt c3 (RMark.enc (RMark.mk x1.at_ x1.next x1.done s9 s11 s13 s17)) 60 :: pt c2 (RState.enc (RState.mk x0.regs x0.stack s1 s3 s7 x0.at_ x0.steps x0.done)) 54 :: Lr):=hM
 intro a hF
 refine bK rfl rfl (bA (vs:=_) qS54 (hM.obj (i:=6) rfl) hF rfl rfl rfl rfl (RState.len _) (RState.one _) (by first | (rw [RState.len,RState.len]; decide) | (rw [RState.len]; decide)) (bG ((RState.len _).trans (RState.len _).symm)) fun w n8=>?_)
 have hM:=hM.chg n8 (i:=6) rfl
 have hM:=uB (selM hM [2,0,1,3,4,5,6] 7 rfl)
 have p2:(c5 :: c1).length = (c0.ctx :: c0.tables).length:=congrArg (· + 1) t2.len
 have p1:(c5 :: c1)[0]? = some c5:=rfl
 replace hM:MemL _ (packR (c5 :: c1) (c0.ctx :: c0.tables) :: rowL 0 c6 23 c1 :: rowL 0 i9 3 c0.sent :: pt c4 (RState.enc (RState.mk (⟨List.replicate 11 LVal.zero,rfl⟩ : Vec LVal 11) (⟨List.replicate 32 LSlot.zero,rfl⟩ : Vec LSlot 32) SV.nil SV.nil SV.nil 0 0 false)) 54 :: pt c3 (RMark.enc (RMark.mk x1.at_ x1.next x1.done s9 s11 s13 s17)) 60 :: pt c2 (RState.enc (RState.mk c0.regs c0.stack c5 c6 i9 c0.at_ c0.steps c0.done)) 54 :: Lr):=hM
 refine aI (aB ?_)
 refine aG ?_
 refine aT hF hM hP (fun F x a w=>match x with | (c8,k4)=>∃ (j0:SV),Fr 69 [(2,.pointer (some ⟨c2,0,none⟩)),(3,.pointer (some ⟨c3,0,none⟩)),(4,.pointer (some ⟨c4,0,none⟩))] a ∧ MemL w (pt c2 (RState.enc (RState.mk c8 c0.stack c5 c6 j0 c0.at_ c0.steps c0.done)) 54 :: rowL 0 j0 3 k4 :: pt c4 (RState.enc (RState.mk (⟨List.replicate 11 LVal.zero,rfl⟩ : Vec LVal 11) (⟨List.replicate 32 LSlot.zero,rfl⟩ : Vec LSlot 32) SV.nil SV.nil SV.nil 0 0 false)) 54 :: pt c3 (RMark.enc (RMark.mk x1.at_ x1.next x1.done s9 s11 s13 s17)) 60 :: packR (c5 :: c1) (c0.ctx :: c0.tables) :: rowL 0 c6 23 c1 :: Lr)) (fun u5 hP t9 hF hM=>?_) ?_
 ·refine aG ?_
  refine aD ?_
  refine aA hF (aC (off':=3) qU60 rfl in56 rfl hF rfl rfl rfl) rfl rfl rfl fun a hF=>?_
  refine aA hF (aJ qA56 hF rfl rfl (hM.cell (i:=4) rfl (RMark.g_regs _))) rfl rfl rfl fun a hF=>?_
  refine aA hF (bQ (f10 _ (hsub _ (dropM hM 6))) qU56 hF rfl rfl) rfl rfl rfl fun a hF=>?_
  refine aA hF (aF hF rfl rfl) rfl rfl rfl fun a hF=>?_
  refine aI (aB ?_)
  refine aX ?_
  refine bU hF hM hP (fun F x a w=>match x with | (d9,g0,j2)=>∃ (d6:SV),Fr 69 [(18,.int .i64 j2),(16,(s9).v),(17,.int .i64 (x1.regs.length:Int)),(2,.pointer (some ⟨c2,0,none⟩)),(3,.pointer (some ⟨c3,0,none⟩)),(4,.pointer (some ⟨c4,0,none⟩))] a ∧ MemL w (pt c2 (RState.enc (RState.mk d9 c0.stack c5 c6 d6 c0.at_ c0.steps c0.done)) 54 :: rowL 0 d6 3 g0 :: pt c4 (RState.enc (RState.mk (⟨List.replicate 11 LVal.zero,rfl⟩ : Vec LVal 11) (⟨List.replicate 32 LSlot.zero,rfl⟩ : Vec LSlot 32) SV.nil SV.nil SV.nil 0 0 false)) 54 :: pt c3 (RMark.enc (RMark.mk x1.at_ x1.next x1.done s9 s11 s13 s17)) 60 :: packR (c5 :: c1) (c0.ctx :: c0.tables) :: rowL 0 c6 23 c1 :: Lr)) (fun hF hM=>⟨i9,hF.to ⟨rfl,rfl,rfl,rfl,rfl,rfl,trivial⟩,selM hM [5,2,3,4,0,1] 6 rfl⟩) ?_
  rintro ⟨d9,g0,j2⟩ a w u8 hP n5 ⟨d6,hF,hM⟩
  replace hP:Sh.jB x1 d9 g0 j2 = _:=hP
  unfold Sh.jB at hP
  refine aG ?_
  refine aD ?_
  refine aA hF (cO hF rfl rfl rfl) rfl rfl rfl fun a hF=>?_
  refine aI (aB ?_)
  refine aG ?_
  refine aS hF (c:=.tmp 19) rfl (fun i7=>?_) (fun i7=>?_)
  ·have hP:=Fx.cT i7 hP
   refine aW (aB ?_)
   refine aG ?_
   refine aX ?_
   refine aG ?_
   refine aD ?_
   obtain ⟨g8,k7,hP⟩:=bind_some hP
   have l7:=aM k7
   refine aA hF (aY (sz:=9) (f10 _ (hsub _ (dropM hM 6))) qU56 in128 rfl hF rfl rfl rfl (bL k7)) rfl rfl rfl fun a hF=>?_
   refine aA hF (aR qA128 qS128 hF rfl rfl (LTurn.len _) (((f10 _ (hsub _ (dropM hM 6))).elemS l7.2))) rfl rfl rfl fun a hF=>?_
   refine aN hF rfl rfl rfl (bS z128 (zs:=LTurn.zero.enc) rfl rfl fun g2 w p8 k1=>?_)
   have hM:=hM.plus k1
   replace hM:MemL _ (pt g2 (LTurn.enc LTurn.zero) 128 :: pt c2 (RState.enc (RState.mk d9 c0.stack c5 c6 d6 c0.at_ c0.steps c0.done)) 54 :: rowL 0 d6 3 g0 :: pt c4 (RState.enc (RState.mk (⟨List.replicate 11 LVal.zero,rfl⟩ : Vec LVal 11) (⟨List.replicate 32 LSlot.zero,rfl⟩ : Vec LSlot 32) SV.nil SV.nil SV.nil 0 0 false)) 54 :: pt c3 (RMark.enc (RMark.mk x1.at_ x1.next x1.done s9 s11 s13 s17)) 60 :: packR (c5 :: c1) (c0.ctx :: c0.tables) :: rowL 0 c6 23 c1 :: Lr):=hM
   intro a hF
   refine bK rfl rfl (bA (vs:=_) qS128 (hM.obj (i:=0) rfl) hF rfl rfl rfl rfl (LTurn.len _) (LTurn.one _) (by first | (rw [LTurn.len,LTurn.len]; decide) | (rw [LTurn.len]; decide)) (bG ((LTurn.len _).trans (LTurn.len _).symm)) fun w n9=>?_)
   have hM:=hM.chg n9 (i:=0) rfl
   replace hM:MemL _ (pt g2 (LTurn.enc g8) 128 :: pt c2 (RState.enc (RState.mk d9 c0.stack c5 c6 d6 c0.at_ c0.steps c0.done)) 54 :: rowL 0 d6 3 g0 :: pt c4 (RState.enc (RState.mk (⟨List.replicate 11 LVal.zero,rfl⟩ : Vec LVal 11) (⟨List.replicate 32 LSlot.zero,rfl⟩ : Vec LSlot 32) SV.nil SV.nil SV.nil 0 0 false)) 54 :: pt c3 (RMark.enc (RMark.mk x1.at_ x1.next x1.done s9 s11 s13 s17)) 60 :: packR (c5 :: c1) (c0.ctx :: c0.tables) :: rowL 0 c6 23 c1 :: Lr):=hM
   refine aI (aB ?_)
   refine aD ?_
   refine aA hF (aC (off':=0) qU128 rfl in3 rfl hF rfl rfl rfl) rfl rfl rfl fun a hF=>?_
   refine aA hF (aJ qA3 hF rfl rfl (hM.cell (i:=0) rfl (LTurn.g_reg _))) rfl rfl rfl fun a hF=>?_
   refine aA hF (aC (off':=5) qU128 rfl in46 rfl hF rfl rfl rfl) rfl rfl rfl fun a hF=>?_
   refine aA hF (aR qA46 qS46 hF rfl rfl (LVal.len _) (hM.cells (i:=0) rfl (LTurn.c_new _))) rfl rfl rfl fun a hF=>?_
   refine aA hF (aC (off':=0) qU54 rfl in47 rfl hF rfl rfl rfl) rfl rfl rfl fun a hF=>?_
   obtain ⟨z1,g9,hP⟩:=bind_some hP
   have t5:=aM g9
   refine aA hF (cU (sz:=4) qU47 in46 rfl hF rfl rfl rfl (dG g9)) rfl rfl rfl fun a hF=>?_
   refine bK rfl rfl (bA (vs:=_) qS46 (hM.obj (i:=1) rfl) hF rfl rfl rfl rfl (LVal.len _) (LVal.one _) (by have:=(dG g9); rw [LVal.len,RState.len]; omega) (RState.pi_regs _ _ _ (by have:=(dG g9); omega)) fun w p0=>?_)
   have hM:=hM.chg p0 (i:=1) rfl
   replace hM:MemL _ (pt g2 (LTurn.enc g8) 128 :: pt c2 (RState.enc (RState.mk (d9.set (g8.reg:Int).toNat g8.new) c0.stack c5 c6 d6 c0.at_ c0.steps c0.done)) 54 :: rowL 0 d6 3 g0 :: pt c4 (RState.enc (RState.mk (⟨List.replicate 11 LVal.zero,rfl⟩ : Vec LVal 11) (⟨List.replicate 32 LSlot.zero,rfl⟩ : Vec LSlot 32) SV.nil SV.nil SV.nil 0 0 false)) 54 :: pt c3 (RMark.enc (RMark.mk x1.at_ x1.next x1.done s9 s11 s13 s17)) 60 :: packR (c5 :: c1) (c0.ctx :: c0.tables) :: rowL 0 c6 23 c1 :: Lr):=hM
   refine aI (bM (aB ?_))
   refine aD ?_
   refine aA hF (cA hF rfl rfl rfl) rfl rfl rfl fun a hF=>?_
   refine aA hF (aF hF rfl rfl) rfl rfl rfl fun a hF=>?_
   refine aI (aB ?_)
   have hP:=Option.some.inj hP
   subst hP
   exact ⟨((d9.set (g8.reg:Int).toNat g8.new),g0,(IntKind.i64.wrap (j2 + 1))),rfl,d6,hF.to ⟨rfl,rfl,rfl,rfl,rfl,rfl,trivial⟩,selM hM [1,2,3,4,5,6] 7 rfl⟩
  have hP:=Fx.cF i7 hP
  refine bZ (bC (bC (cR ?_)))
  refine aB ?_
  have hP:=Option.some.inj hP
  subst hP
  have hP:=n5 _ rfl
  subst hP
  exact ⟨(d9,g0),rfl,d6,hF.to ⟨rfl,rfl,rfl,trivial⟩,hM⟩
 rintro ⟨c8,k4⟩ a w hP ⟨j0,hF,hM⟩
 replace hP:Sh.nU x1 c0 c8 k4 = _:=hP
 unfold Sh.nU at hP
 refine aB ?_
 refine aG ?_
 refine aT hF hM hP (fun F x a w=>match x with | (c9,d0)=>∃ (c7:SV),Fr 69 [(2,.pointer (some ⟨c2,0,none⟩)),(3,.pointer (some ⟨c3,0,none⟩)),(4,.pointer (some ⟨c4,0,none⟩))] a ∧ MemL w (pt c2 (RState.enc (RState.mk c8 c9 c5 c6 c7 c0.at_ c0.steps c0.done)) 54 :: rowL 0 c7 3 d0 :: pt c4 (RState.enc (RState.mk (⟨List.replicate 11 LVal.zero,rfl⟩ : Vec LVal 11) (⟨List.replicate 32 LSlot.zero,rfl⟩ : Vec LSlot 32) SV.nil SV.nil SV.nil 0 0 false)) 54 :: pt c3 (RMark.enc (RMark.mk x1.at_ x1.next x1.done s9 s11 s13 s17)) 60 :: packR (c5 :: c1) (c0.ctx :: c0.tables) :: rowL 0 c6 23 c1 :: Lr)) (fun u6 hP u0 hF hM=>?_) ?_
 ·refine aG ?_
  refine aD ?_
  refine aA hF (aC (off':=4) qU60 rfl in57 rfl hF rfl rfl rfl) rfl rfl rfl fun a hF=>?_
  refine aA hF (aJ qA57 hF rfl rfl (hM.cell (i:=3) rfl (RMark.g_slots _))) rfl rfl rfl fun a hF=>?_
  refine aA hF (bQ (f12 _ (hsub _ (dropM hM 6))) qU57 hF rfl rfl) rfl rfl rfl fun a hF=>?_
  refine aA hF (aF hF rfl rfl) rfl rfl rfl fun a hF=>?_
  refine aI (aB ?_)
  refine aX ?_
  refine bU hF hM hP (fun F x a w=>match x with | (d7,d8,i2)=>∃ (d2:SV),Fr 69 [(32,.int .i64 i2),(2,.pointer (some ⟨c2,0,none⟩)),(3,.pointer (some ⟨c3,0,none⟩)),(30,(s11).v),(31,.int .i64 (x1.slots.length:Int)),(4,.pointer (some ⟨c4,0,none⟩))] a ∧ MemL w (pt c2 (RState.enc (RState.mk c8 d7 c5 c6 d2 c0.at_ c0.steps c0.done)) 54 :: rowL 0 d2 3 d8 :: pt c4 (RState.enc (RState.mk (⟨List.replicate 11 LVal.zero,rfl⟩ : Vec LVal 11) (⟨List.replicate 32 LSlot.zero,rfl⟩ : Vec LSlot 32) SV.nil SV.nil SV.nil 0 0 false)) 54 :: pt c3 (RMark.enc (RMark.mk x1.at_ x1.next x1.done s9 s11 s13 s17)) 60 :: packR (c5 :: c1) (c0.ctx :: c0.tables) :: rowL 0 c6 23 c1 :: Lr)) (fun hF hM=>⟨j0,hF.to ⟨rfl,rfl,rfl,rfl,rfl,rfl,trivial⟩,hM⟩) ?_
  rintro ⟨d7,d8,i2⟩ a w u9 hP n6 ⟨d2,hF,hM⟩
  replace hP:Sh.jC x1 d7 d8 i2 = _:=hP
  unfold Sh.jC at hP
  refine aG ?_
  refine aD ?_
  refine aA hF (cO hF rfl rfl rfl) rfl rfl rfl fun a hF=>?_
  refine aI (aB ?_)
  refine aG ?_
  refine aS hF (c:=.tmp 33) rfl (fun i3=>?_) (fun i3=>?_)
  ·have hP:=Fx.cT i3 hP
   refine aW (aB ?_)
   refine aG ?_
   refine aX ?_
   refine aG ?_
   refine aD ?_
   obtain ⟨g1,j4,hP⟩:=bind_some hP
   have k9:=aM j4
   refine aA hF (aY (sz:=27) (f12 _ (hsub _ (dropM hM 6))) qU57 in151 rfl hF rfl rfl rfl (bL j4)) rfl rfl rfl fun a hF=>?_
   refine aA hF (aR qA151 qS151 hF rfl rfl (LCell.len _) (((f12 _ (hsub _ (dropM hM 6))).elemS k9.2))) rfl rfl rfl fun a hF=>?_
   refine aN hF rfl rfl rfl (bS z151 (zs:=LCell.zero.enc) rfl rfl fun g3 w p9 k2=>?_)
   have hM:=hM.plus k2
   replace hM:MemL _ (pt g3 (LCell.enc LCell.zero) 151 :: pt c2 (RState.enc (RState.mk c8 d7 c5 c6 d2 c0.at_ c0.steps c0.done)) 54 :: rowL 0 d2 3 d8 :: pt c4 (RState.enc (RState.mk (⟨List.replicate 11 LVal.zero,rfl⟩ : Vec LVal 11) (⟨List.replicate 32 LSlot.zero,rfl⟩ : Vec LSlot 32) SV.nil SV.nil SV.nil 0 0 false)) 54 :: pt c3 (RMark.enc (RMark.mk x1.at_ x1.next x1.done s9 s11 s13 s17)) 60 :: packR (c5 :: c1) (c0.ctx :: c0.tables) :: rowL 0 c6 23 c1 :: Lr):=hM
   intro a hF
   refine bK rfl rfl (bA (vs:=_) qS151 (hM.obj (i:=0) rfl) hF rfl rfl rfl rfl (LCell.len _) (LCell.one _) (by first | (rw [LCell.len,LCell.len]; decide) | (rw [LCell.len]; decide)) (bG ((LCell.len _).trans (LCell.len _).symm)) fun w l8=>?_)
   have hM:=hM.chg l8 (i:=0) rfl
   replace hM:MemL _ (pt g3 (LCell.enc g1) 151 :: pt c2 (RState.enc (RState.mk c8 d7 c5 c6 d2 c0.at_ c0.steps c0.done)) 54 :: rowL 0 d2 3 d8 :: pt c4 (RState.enc (RState.mk (⟨List.replicate 11 LVal.zero,rfl⟩ : Vec LVal 11) (⟨List.replicate 32 LSlot.zero,rfl⟩ : Vec LSlot 32) SV.nil SV.nil SV.nil 0 0 false)) 54 :: pt c3 (RMark.enc (RMark.mk x1.at_ x1.next x1.done s9 s11 s13 s17)) 60 :: packR (c5 :: c1) (c0.ctx :: c0.tables) :: rowL 0 c6 23 c1 :: Lr):=hM
   refine aI (aB ?_)
   refine aD ?_
   refine aA hF (aC (off':=0) qU151 rfl in3 rfl hF rfl rfl rfl) rfl rfl rfl fun a hF=>?_
   refine aA hF (aJ qA3 hF rfl rfl (hM.cell (i:=0) rfl (LCell.g_slot _))) rfl rfl rfl fun a hF=>?_
   refine aA hF (aC (off':=14) qU151 rfl in50 rfl hF rfl rfl rfl) rfl rfl rfl fun a hF=>?_
   refine aA hF (aR qA50 qS50 hF rfl rfl (LSlot.len _) (hM.cells (i:=0) rfl (LCell.c_new _))) rfl rfl rfl fun a hF=>?_
   refine aA hF (aC (off':=44) qU54 rfl in51 rfl hF rfl rfl rfl) rfl rfl rfl fun a hF=>?_
   obtain ⟨u2,g5,hP⟩:=bind_some hP
   have t3:=aM g5
   refine aA hF (cU (sz:=13) qU51 in50 rfl hF rfl rfl rfl (dG g5)) rfl rfl rfl fun a hF=>?_
   refine bK rfl rfl (bA (vs:=_) qS50 (hM.obj (i:=1) rfl) hF rfl rfl rfl rfl (LSlot.len _) (LSlot.one _) (by have:=(dG g5); rw [LSlot.len,RState.len]; omega) (RState.pi_stack _ _ _ (by have:=(dG g5); omega)) fun w l9=>?_)
   have hM:=hM.chg l9 (i:=1) rfl
   replace hM:MemL _ (pt g3 (LCell.enc g1) 151 :: pt c2 (RState.enc (RState.mk c8 (d7.set (g1.slot:Int).toNat g1.new) c5 c6 d2 c0.at_ c0.steps c0.done)) 54 :: rowL 0 d2 3 d8 :: pt c4 (RState.enc (RState.mk (⟨List.replicate 11 LVal.zero,rfl⟩ : Vec LVal 11) (⟨List.replicate 32 LSlot.zero,rfl⟩ : Vec LSlot 32) SV.nil SV.nil SV.nil 0 0 false)) 54 :: pt c3 (RMark.enc (RMark.mk x1.at_ x1.next x1.done s9 s11 s13 s17)) 60 :: packR (c5 :: c1) (c0.ctx :: c0.tables) :: rowL 0 c6 23 c1 :: Lr):=hM
   refine aI (bM (aB ?_))
   refine aD ?_
   refine aA hF (cA hF rfl rfl rfl) rfl rfl rfl fun a hF=>?_
   refine aA hF (aF hF rfl rfl) rfl rfl rfl fun a hF=>?_
   refine aI (aB ?_)
   have hP:=Option.some.inj hP
   subst hP
   exact ⟨((d7.set (g1.slot:Int).toNat g1.new),d8,(IntKind.i64.wrap (i2 + 1))),rfl,d2,hF.to ⟨rfl,rfl,rfl,rfl,rfl,rfl,trivial⟩,selM hM [1,2,3,4,5,6] 7 rfl⟩
  have hP:=Fx.cF i3 hP
  refine bZ (bC (bC (cR ?_)))
  refine aB ?_
  have hP:=Option.some.inj hP
  subst hP
  have hP:=n6 _ rfl
  subst hP
  exact ⟨(d7,d8),rfl,d2,hF.to ⟨rfl,rfl,rfl,trivial⟩,hM⟩
 rintro ⟨c9,d0⟩ a w hP ⟨c7,hF,hM⟩
 replace hP:Sh.nV x1 c0 c8 c9 d0 = _:=hP
 unfold Sh.nV at hP
 refine aB ?_
 refine aG ?_
 refine aT hF hM hP (fun F x a w=>match x with | d5=>(c5 :: c1).length = d5.length ∧ Fr 69 [(2,.pointer (some ⟨c2,0,none⟩)),(3,.pointer (some ⟨c3,0,none⟩)),(4,.pointer (some ⟨c4,0,none⟩))] a ∧ MemL w (packR (c5 :: c1) d5 :: pt c2 (RState.enc (RState.mk c8 c9 c5 c6 c7 c0.at_ c0.steps c0.done)) 54 :: pt c4 (RState.enc (RState.mk (⟨List.replicate 11 LVal.zero,rfl⟩ : Vec LVal 11) (⟨List.replicate 32 LSlot.zero,rfl⟩ : Vec LSlot 32) SV.nil SV.nil SV.nil 0 0 false)) 54 :: pt c3 (RMark.enc (RMark.mk x1.at_ x1.next x1.done s9 s11 s13 s17)) 60 :: rowL 0 c7 3 d0 :: rowL 0 c6 23 c1 :: Lr)) (fun u7 hP u1 hF hM=>?_) ?_
 ·refine aG ?_
  refine aD ?_
  refine aA hF (aC (off':=5) qU60 rfl in58 rfl hF rfl rfl rfl) rfl rfl rfl fun a hF=>?_
  refine aA hF (aJ qA58 hF rfl rfl (hM.cell (i:=3) rfl (RMark.g_pieces _))) rfl rfl rfl fun a hF=>?_
  refine aA hF (cY (f15 _ (hsub _ (dropM hM 6))) q16.len qU58 hF rfl rfl) rfl rfl rfl fun a hF=>?_
  refine aA hF (aF hF rfl rfl) rfl rfl rfl fun a hF=>?_
  refine aI (aB ?_)
  refine aX ?_
  refine bU hF hM hP (fun F x a w=>match x with | (d1,g7)=>(c5 :: c1).length = d1.length ∧ Fr 69 [(46,.int .i64 g7),(2,.pointer (some ⟨c2,0,none⟩)),(3,.pointer (some ⟨c3,0,none⟩)),(4,.pointer (some ⟨c4,0,none⟩)),(44,(s13).v),(45,.int .i64 (x1.pieces.length:Int))] a ∧ MemL w (packR (c5 :: c1) d1 :: pt c2 (RState.enc (RState.mk c8 c9 c5 c6 c7 c0.at_ c0.steps c0.done)) 54 :: pt c4 (RState.enc (RState.mk (⟨List.replicate 11 LVal.zero,rfl⟩ : Vec LVal 11) (⟨List.replicate 32 LSlot.zero,rfl⟩ : Vec LSlot 32) SV.nil SV.nil SV.nil 0 0 false)) 54 :: pt c3 (RMark.enc (RMark.mk x1.at_ x1.next x1.done s9 s11 s13 s17)) 60 :: rowL 0 c7 3 d0 :: rowL 0 c6 23 c1 :: Lr)) (fun hF hM=>⟨p2,hF.to ⟨rfl,rfl,rfl,rfl,rfl,rfl,trivial⟩,selM hM [4,0,2,3,1,5] 6 rfl⟩) ?_
  rintro ⟨d1,g7⟩ a w z0 hP n7 ⟨g4,hF,hM⟩
  replace hP:Sh.jD x1 d1 g7 = _:=hP
  unfold Sh.jD at hP
  refine aG ?_
  refine aD ?_
  refine aA hF (cO hF rfl rfl rfl) rfl rfl rfl fun a hF=>?_
  refine aI (aB ?_)
  refine aG ?_
  refine aS hF (c:=.tmp 47) rfl (fun i4=>?_) (fun i4=>?_)
  ·have hP:=Fx.cT i4 hP
   refine aW (aB ?_)
   refine aG ?_
   refine aX ?_
   refine aG ?_
   refine aD ?_
   obtain ⟨d3,j5,hP⟩:=bind_some hP
   have l0:=aM j5
   obtain ⟨t7,l3,l6⟩:=Each.getr q16 l0.2
   have l1:=Each.bd q16 (bL j5)
   obtain ⟨i0,i1,rfl,t8,n3⟩:=l6
   refine aA hF (aY (sz:=4) (f15 _ (hsub _ (dropM hM 6))) qU58 in156 rfl hF rfl rfl rfl l1) rfl rfl rfl fun a hF=>?_
   refine aA hF (aR qA156 qS156 hF rfl rfl (RPiece.len _) (((f15 _ (hsub _ (dropM hM 6))).elemS l3))) rfl rfl rfl fun a hF=>?_
   refine aN hF rfl rfl rfl (bS z156 (zs:=RPiece.zero.enc) rfl rfl fun d4 w p4 j3=>?_)
   have hM:=hM.plus j3
   replace hM:MemL _ (pt d4 (RPiece.enc (RPiece.mk 0 0 SV.nil SV.nil)) 156 :: packR (c5 :: c1) d1 :: pt c2 (RState.enc (RState.mk c8 c9 c5 c6 c7 c0.at_ c0.steps c0.done)) 54 :: pt c4 (RState.enc (RState.mk (⟨List.replicate 11 LVal.zero,rfl⟩ : Vec LVal 11) (⟨List.replicate 32 LSlot.zero,rfl⟩ : Vec LSlot 32) SV.nil SV.nil SV.nil 0 0 false)) 54 :: pt c3 (RMark.enc (RMark.mk x1.at_ x1.next x1.done s9 s11 s13 s17)) 60 :: rowL 0 c7 3 d0 :: rowL 0 c6 23 c1 :: Lr):=hM
   intro a hF
   refine bK rfl rfl (bA (vs:=_) qS156 (hM.obj (i:=0) rfl) hF rfl rfl rfl rfl (RPiece.len _) (RPiece.one _) (by first | (rw [RPiece.len,RPiece.len]; decide) | (rw [RPiece.len]; decide)) (bG ((RPiece.len _).trans (RPiece.len _).symm)) fun w m0=>?_)
   have hM:=hM.chg m0 (i:=0) rfl
   replace hM:MemL _ (pt d4 (RPiece.enc (RPiece.mk d3.table d3.from_ i0 i1)) 156 :: packR (c5 :: c1) d1 :: pt c2 (RState.enc (RState.mk c8 c9 c5 c6 c7 c0.at_ c0.steps c0.done)) 54 :: pt c4 (RState.enc (RState.mk (⟨List.replicate 11 LVal.zero,rfl⟩ : Vec LVal 11) (⟨List.replicate 32 LSlot.zero,rfl⟩ : Vec LSlot 32) SV.nil SV.nil SV.nil 0 0 false)) 54 :: pt c3 (RMark.enc (RMark.mk x1.at_ x1.next x1.done s9 s11 s13 s17)) 60 :: rowL 0 c7 3 d0 :: rowL 0 c6 23 c1 :: Lr):=hM
   refine aI (aB ?_)
   refine aG ?_
   refine aD ?_
   refine aA hF (aR qA54 qS54 hF rfl rfl (RState.len _) (hM.cells (i:=2) rfl (bB (RState.len _)))) rfl rfl rfl fun a hF=>?_
   refine aA hF (aC (off':=0) qU156 rfl in3 rfl hF rfl rfl rfl) rfl rfl rfl fun a hF=>?_
   refine aA hF (aJ qA3 hF rfl rfl (hM.cell (i:=0) rfl (RPiece.g_table _))) rfl rfl rfl fun a hF=>?_
   obtain ⟨t1,hP,n4⟩:=dF hP
   refine aN hF rfl rfl rfl (aO (xs:=[.tmp 51,.tmp 53]) Tryz.call192 hF rfl rfl (R:=fun v w=>∃ x,t1 = .inl x ∧ match x with | (g6,j1)=>∃ (i8:SV),v = .tuple #[(i8).v,.bool j1] ∧ (c5 :: c1)[g6]? = some i8 ∧ MemL w (pt d4 (RPiece.enc (RPiece.mk d3.table d3.from_ i0 i1)) 156 :: packR (c5 :: c1) d1 :: pt c2 (RState.enc (RState.mk c8 c9 c5 c6 c7 c0.at_ c0.steps c0.done)) 54 :: pt c4 (RState.enc (RState.mk (⟨List.replicate 11 LVal.zero,rfl⟩ : Vec LVal 11) (⟨List.replicate 32 LSlot.zero,rfl⟩ : Vec LSlot 32) SV.nil SV.nil SV.nil 0 0 false)) 54 :: pt c3 (RMark.enc (RMark.mk x1.at_ x1.next x1.done s9 s11 s13 s17)) 60 :: rowL 0 c7 3 d0 :: rowL 0 c6 23 c1 :: Lr)) ?_ fun v w hR=>?_)
   ·refine aP Tryz.func192 rfl Tryz.ntmps192 rfl fun a hF=>?_
    refine aG ?_
    refine aD ?_
    refine aN hF rfl rfl rfl (cW hF rfl rfl rfl fun j7 w t0 k3=>?_)
    have hM:=hM.plus k3
    replace hM:MemL _ (pt j7 (RState.enc (RState.mk c8 c9 c5 c6 c7 c0.at_ c0.steps c0.done)) 54 :: pt d4 (RPiece.enc (RPiece.mk d3.table d3.from_ i0 i1)) 156 :: packR (c5 :: c1) d1 :: pt c2 (RState.enc (RState.mk c8 c9 c5 c6 c7 c0.at_ c0.steps c0.done)) 54 :: pt c4 (RState.enc (RState.mk (⟨List.replicate 11 LVal.zero,rfl⟩ : Vec LVal 11) (⟨List.replicate 32 LSlot.zero,rfl⟩ : Vec LSlot 32) SV.nil SV.nil SV.nil 0 0 false)) 54 :: pt c3 (RMark.enc (RMark.mk x1.at_ x1.next x1.done s9 s11 s13 s17)) 60 :: rowL 0 c7 3 d0 :: rowL 0 c6 23 c1 :: Lr):=hM
    intro a hF
    refine aA hF (aH hF rfl rfl) rfl rfl rfl fun a hF=>?_
    refine aA hF (aH hF rfl rfl) rfl rfl rfl fun a hF=>?_
    refine aI (aB ?_)
    refine aG ?_
    refine aX ?_
    refine aG ?_
    refine aD ?_
    refine aA hF (aF hF rfl rfl) rfl rfl rfl fun a hF=>?_
    refine aA hF (cO hF rfl rfl rfl) rfl rfl rfl fun a hF=>?_
    refine aA hF (aH hF rfl rfl) rfl rfl rfl fun a hF=>?_
    refine aI (aB ?_)
    refine aS hF (c:=.tmp 6) rfl (fun i5=>?_) (fun i5=>?_)
    ·have hP:=Fx.cT i5 hP
     refine aG ?_
     refine aD ?_
     refine aA hF (aC (off':=460) qU54 rfl in23 rfl hF rfl rfl rfl) rfl rfl rfl fun a hF=>?_
     refine aA hF (aJ qA23 hF rfl rfl (hM.cell (i:=0) rfl (RState.g_ctx _))) rfl rfl rfl fun a hF=>?_
     refine aA hF (aH hF rfl rfl) rfl rfl rfl fun a hF=>?_
     refine aA hF (aH hF rfl rfl) rfl rfl rfl fun a hF=>?_
     refine aI (aB ?_)
     refine c_ret ?_
     have hP:=Option.some.inj hP
     subst hP
     refine dO (rs:=[.tmp 4,.tmp 5]) qR192 hF (cM hF rfl (cM hF rfl cJ)) rfl ?_
     exact ⟨(0,true),rfl,c5,rfl,p1,selM hM [1,2,3,4,5,6,7] 8 rfl⟩
    have hP:=Fx.cF i5 hP
    refine aG ?_
    refine aD ?_
    refine aA hF (aF hF rfl rfl) rfl rfl rfl fun a hF=>?_
    refine aA hF (aC (off':=461) qU54 rfl in28 rfl hF rfl rfl rfl) rfl rfl rfl fun a hF=>?_
    refine aA hF (aJ qA28 hF rfl rfl (hM.cell (i:=0) rfl (RState.g_tables _))) rfl rfl rfl fun a hF=>?_
    refine aA hF (cY (hM.rowS (X:=SV) (i:=7) rfl) (yF g4) qU28 hF rfl rfl) rfl rfl rfl fun a hF=>?_
    refine aA hF (cO hF rfl rfl rfl) rfl rfl rfl fun a hF=>?_
    refine aA hF (aH hF rfl rfl) rfl rfl rfl fun a hF=>?_
    refine aI (aB ?_)
    refine aS hF (c:=.tmp 11) rfl (fun i6=>?_) (fun i6=>?_)
    ·have hP:=Fx.cT i6 hP
     refine aG ?_
     refine aD ?_
     refine aA hF (aC (off':=461) qU54 rfl in28 rfl hF rfl rfl rfl) rfl rfl rfl fun a hF=>?_
     refine aA hF (aJ qA28 hF rfl rfl (hM.cell (i:=0) rfl (RState.g_tables _))) rfl rfl rfl fun a hF=>?_
     refine aA hF (aF hF rfl rfl) rfl rfl rfl fun a hF=>?_
     obtain ⟨u3,j6,hP⟩:=bind_some hP
     have t4:=aM j6
     obtain ⟨l2,n2,l4,l5⟩:=uC g4 j6
     refine aA hF (aY (sz:=1) (hM.rowS (X:=SV) (i:=7) rfl) qU28 in23 rfl hF rfl rfl rfl l2) rfl rfl rfl fun a hF=>?_
     refine aA hF (aJ qA23 hF rfl rfl ((((hM.rowS (X:=SV) (i:=7) rfl).elemS l4)).get 0 rfl)) rfl rfl rfl fun a hF=>?_
     refine aA hF (aH hF rfl rfl) rfl rfl rfl fun a hF=>?_
     refine aA hF (aH hF rfl rfl) rfl rfl rfl fun a hF=>?_
     refine aI (aB ?_)
     refine c_ret ?_
     have hP:=Option.some.inj hP
     subst hP
     refine dO (rs:=[.tmp 4,.tmp 5]) qR192 hF (cM hF rfl (cM hF rfl cJ)) rfl ?_
     exact ⟨(((d3.table:Int).toNat + 1),true),rfl,n2,rfl,l5,selM hM [1,2,3,4,5,6,7] 8 rfl⟩
    have hP:=Fx.cF i6 hP
    refine aW (bM (aB ?_))
    refine aG ?_
    refine aD ?_
    refine aA hF (aH hF rfl rfl) rfl rfl rfl fun a hF=>?_
    refine aA hF (aH hF rfl rfl) rfl rfl rfl fun a hF=>?_
    refine aI (aB ?_)
    refine c_ret ?_
    obtain ⟨m4,hP⟩:=cH hP
    cases m4
   obtain ⟨⟨g6,j1⟩,rfl,i8,rfl,k5,hM⟩:=hR
   replace hP:Sh.nT d1 g7 d3 g6 j1 = _:=n4
   unfold Sh.nT at hP
   intro a hF
   refine aA hF (aF hF rfl rfl) rfl rfl rfl fun a hF=>?_
   refine aA hF (dM hF rfl rfl rfl) rfl rfl rfl fun a hF=>?_
   refine aA hF (dM hF rfl rfl rfl) rfl rfl rfl fun a hF=>?_
   refine aA hF (aH hF rfl rfl) rfl rfl rfl fun a hF=>?_
   refine aA hF (aH hF rfl rfl) rfl rfl rfl fun a hF=>?_
   refine aI (aB ?_)
   refine bR mixed (by kernel_rfl) hM [0,1,2,3,4,5,6] 7 rfl fun hch=>?_
   refine aK hF hch 0 rfl (by kernel_rfl) rfl rfl rfl (fun w hM=>(aF hF rfl rfl)) fun a hF=>?_
   refine aK hF hch 1 rfl (by kernel_rfl) rfl rfl rfl (fun w hM=>(aC (off':=1) qU156 rfl in3 rfl hF rfl rfl rfl)) fun a hF=>?_
   refine aK hF hch 2 rfl (by kernel_rfl) rfl rfl rfl (fun w hM=>(aJ qA3 hF rfl rfl (hM.cell (i:=0) rfl (RPiece.g_from_ _)))) fun a hF=>?_
   obtain ⟨u4,m6,hP⟩:=bind_some hP
   refine aK hF hch 3 rfl (by kernel_rfl) rfl rfl rfl (fun w hM=>(gM (vN (hM.hold 1 _ rfl) k5) m6 qU23 in5 rfl hF rfl rfl (.inr ⟨_,_,rfl,rfl⟩) (.inl ⟨rfl,rfl⟩))) fun a hF=>?_
   refine aK hF hch 4 rfl (by kernel_rfl) rfl rfl rfl (fun w hM=>(aC (off':=3) qU156 rfl in23 rfl hF rfl rfl rfl)) fun a hF=>?_
   refine aK hF hch 5 rfl (by kernel_rfl) rfl rfl rfl (fun w hM=>(aJ qA23 hF rfl rfl (hM.cell (i:=0) rfl (RPiece.g_new _)))) fun a hF=>?_
   refine bH hch 6 (by kernel_rfl) rfl rfl ?_
   refine cB hF 6 rfl rfl rfl rfl rfl fun w hMs hM=>?_
   obtain ⟨k8,m7,hP⟩:=bind_some hP
   refine (aGa m7 rfl qU23 in5 rfl rfl hF rfl rfl rfl (hM.hold 1 _ rfl) k5 (n3 _ (hsub _ (dropM hM 7))) fun w m1=>?_)
   have hM:=hM.chg m1 (i:=1) rfl
   replace hM:MemL _ (pt d4 (RPiece.enc (RPiece.mk d3.table d3.from_ i0 i1)) 156 :: packR (c5 :: c1) (d1.set g6 k8) :: pt c2 (RState.enc (RState.mk c8 c9 c5 c6 c7 c0.at_ c0.steps c0.done)) 54 :: pt c4 (RState.enc (RState.mk (⟨List.replicate 11 LVal.zero,rfl⟩ : Vec LVal 11) (⟨List.replicate 32 LSlot.zero,rfl⟩ : Vec LSlot 32) SV.nil SV.nil SV.nil 0 0 false)) 54 :: pt c3 (RMark.enc (RMark.mk x1.at_ x1.next x1.done s9 s11 s13 s17)) 60 :: rowL 0 c7 3 d0 :: rowL 0 c6 23 c1 :: Lr):=hM
   have hMs:=hM
   refine ⟨_,_,hMs,hM,.inr (by kernel_rfl),fun a hF=>?_⟩
   refine bY hch (by kernel_rfl) fun w hM=>?_
   refine bM (aB ?_)
   refine aD ?_
   refine aA hF (cA hF rfl rfl rfl) rfl rfl rfl fun a hF=>?_
   refine aA hF (aF hF rfl rfl) rfl rfl rfl fun a hF=>?_
   refine aI (aB ?_)
   have hP:=Option.some.inj hP
   subst hP
   exact ⟨((d1.set g6 k8),(IntKind.i64.wrap (g7 + 1))),rfl,(aAq g4),hF.to ⟨rfl,rfl,rfl,rfl,rfl,rfl,trivial⟩,selM hM [1,2,3,4,5,6] 7 rfl⟩
  have hP:=Fx.cF i4 hP
  refine bZ (bC (bC (cR ?_)))
  refine aB ?_
  have hP:=Option.some.inj hP
  subst hP
  have hP:=n7 _ rfl
  subst hP
  exact ⟨d1,rfl,g4,hF.to ⟨rfl,rfl,rfl,trivial⟩,hM⟩
 rintro d5 a w hP ⟨t6,hF,hM⟩
 replace hP:Sh.qQ x1 c0 c8 c9 d0 d5 = _:=hP
 unfold Sh.qQ at hP
 refine aB ?_
 refine aG ?_
 refine aD ?_
 refine aA hF (aC (off':=1) qU60 rfl in3 rfl hF rfl rfl rfl) rfl rfl rfl fun a hF=>?_
 refine aA hF (aJ qA3 hF rfl rfl (hM.cell (i:=3) rfl (RMark.g_next _))) rfl rfl rfl fun a hF=>?_
 refine aA hF (aC (off':=463) qU54 rfl in3 rfl hF rfl rfl rfl) rfl rfl rfl fun a hF=>?_
 refine bK rfl rfl (bT qS3 (hM.obj (i:=1) rfl) hF rfl rfl rfl rfl (by rw [RState.len]; decide) (RState.s_at_ _ _) fun w m2=>?_)
 have hM:=hM.chg m2 (i:=1) rfl
 replace hM:MemL _ (packR (c5 :: c1) d5 :: pt c2 (RState.enc (RState.mk c8 c9 c5 c6 c7 x1.next c0.steps c0.done)) 54 :: pt c4 (RState.enc (RState.mk (⟨List.replicate 11 LVal.zero,rfl⟩ : Vec LVal 11) (⟨List.replicate 32 LSlot.zero,rfl⟩ : Vec LSlot 32) SV.nil SV.nil SV.nil 0 0 false)) 54 :: pt c3 (RMark.enc (RMark.mk x1.at_ x1.next x1.done s9 s11 s13 s17)) 60 :: rowL 0 c7 3 d0 :: rowL 0 c6 23 c1 :: Lr):=hM
 refine aI (aB ?_)
 refine aG ?_
 refine aD ?_
 refine aA hF (aR qA54 qS54 hF rfl rfl (RState.len _) (hM.cells (i:=1) rfl (bB (RState.len _)))) rfl rfl rfl fun a hF=>?_
 refine bK rfl rfl (bA (vs:=_) qS54 (hM.obj (i:=2) rfl) hF rfl rfl rfl rfl (RState.len _) (RState.one _) (by first | (rw [RState.len,RState.len]; decide) | (rw [RState.len]; decide)) (bG ((RState.len _).trans (RState.len _).symm)) fun w m3=>?_)
 have hM:=hM.chg m3 (i:=2) rfl
 refine aI (aB ?_)
 refine c_ret ?_
 replace hM:MemL _ (packR (c5 :: c1) d5 :: pt c2 (RState.enc (RState.mk c8 c9 c5 c6 c7 x1.next c0.steps c0.done)) 54 :: pt c4 (RState.enc (RState.mk c8 c9 c5 c6 c7 x1.next c0.steps c0.done)) 54 :: pt c3 (RMark.enc (RMark.mk x1.at_ x1.next x1.done s9 s11 s13 s17)) 60 :: rowL 0 c7 3 d0 :: rowL 0 c6 23 c1 :: Lr):=hM
 obtain ⟨hM,m5⟩:=sN (selM hM [0,1,2,3,4,5] 6 rfl)
 replace hM:MemL _ (rowL 0 c5 5 (Fx.pk d5 0) :: (packR c1 (List.tail d5)) :: pt c2 (RState.enc (RState.mk c8 c9 c5 c6 c7 x1.next c0.steps c0.done)) 54 :: pt c4 (RState.enc (RState.mk c8 c9 c5 c6 c7 x1.next c0.steps c0.done)) 54 :: pt c3 (RMark.enc (RMark.mk x1.at_ x1.next x1.done s9 s11 s13 s17)) 60 :: rowL 0 c7 3 d0 :: rowL 0 c6 23 c1 :: Lr):=hM
 have hP:=Option.some.inj hP
 subst hP
 refine dO (rs:=[.cell 4 54]) Tryz.results127 hF (cC hF rfl qA54 qS54 (RState.len _) (hM.cells (i:=3) rfl (bB (RState.len _))) cJ) rfl ?_
 exact ⟨c5,c6,c1,(packR c1 (List.tail d5)),c7,rfl,(nL m5),selM hM [0,6,1,5] 7 rfl⟩
set_option maxHeartbeats 4000000 in
theorem mC {x0:QState} {x1:QMark} {x2:Bool} {s1:SV} {s3:SV} {hs4:List SV} {s7:SV} {s9:SV} {s11:SV} {s13:SV} {hs14:List RPiece} {s17:SV} {out:QState} {w0:World} {Bf:World → Prop} {Lr:List Res} (hP:Sh.qC x0 x1 x2 = some out) (hM:MemL w0 (Lr)) (hsub:∀ w,MemL w Lr → Bf w) (f2:LIn Bf s1 x0.ctx) (f5:LIn Bf s3 hs4) (q6:Each (LIn (X:=UInt8) Bf) hs4 x0.tables) (f8:LIn Bf s7 x0.sent) (f10:LIn Bf s9 x1.regs) (f12:LIn Bf s11 x1.slots) (f15:LIn Bf s13 hs14) (q16:Each (QPieceIn Bf) hs14 x1.pieces) (f18:LIn Bf s17 x1.sent):Calls Tryz.prog 137 #[.agg (RState.enc (RState.mk x0.regs x0.stack s1 s3 s7 x0.at_ x0.steps x0.done)).toArray,.agg (RMark.enc (RMark.mk x1.at_ x1.next x1.done s9 s11 s13 s17)).toArray,.bool x2] w0 (Ret fun v w'=>∃ (l0:SV) (l1:SV) (j2:List SV) (k9:Res) (l2:SV),v = .agg (RState.enc (RState.mk out.regs out.stack l0 l1 l2 out.at_ out.steps out.done)).toArray ∧ Each (LIn (X:=UInt8) k9.holds') j2 out.tables ∧ MemL w' (rowL 0 l0 5 out.ctx :: rowL 0 l1 23 j2 :: k9 :: rowL 0 l2 3 out.sent :: Lr)):=by
 unfold Sh.qC at hP
 refine aP (vs:=[.agg (RState.enc (RState.mk x0.regs x0.stack s1 s3 s7 x0.at_ x0.steps x0.done)).toArray,.agg (RMark.enc (RMark.mk x1.at_ x1.next x1.done s9 s11 s13 s17)).toArray,.bool x2]) Tryz.func137 rfl Tryz.ntmps137 rfl fun a hF=>?_
 refine aG ?_
 refine aD ?_
 refine aN hF rfl rfl rfl (cW hF rfl rfl rfl fun g3 w u7 k4=>?_)
 have hM:=hM.plus k4
 intro a hF
 refine aN hF rfl rfl rfl (cW hF rfl rfl rfl fun c5 w u8 k5=>?_)
 have hM:=hM.plus k5
 intro a hF
 refine aN hF rfl rfl rfl (bS z54 (zs:=RState.zero.enc) rfl rfl fun c3 w u9 k6=>?_)
 have hM:=hM.plus k6
 replace hM:MemL _ (pt c3 (RState.enc (RState.mk (⟨List.replicate 11 LVal.zero,rfl⟩ : Vec LVal 11) (⟨List.replicate 32 LSlot.zero,rfl⟩ : Vec LSlot 32) SV.nil SV.nil SV.nil 0 0 false)) 54 :: pt c5 (RMark.enc (RMark.mk x1.at_ x1.next x1.done s9 s11 s13 s17)) 60 :: pt g3 (RState.enc (RState.mk x0.regs x0.stack s1 s3 s7 x0.at_ x0.steps x0.done)) 54 :: Lr):=hM
 intro a hF
 refine aI (aB ?_)
 refine aG ?_
 refine aD ?_
 refine aA hF (aR qA54 qS54 hF rfl rfl (RState.len _) (hM.cells (i:=2) rfl (bB (RState.len _)))) rfl rfl rfl fun a hF=>?_
 obtain ⟨c0,t4,hP⟩:=bind_some hP
 refine aN hF rfl rfl rfl (aO (xs:=[.tmp 14]) Tryz.call154 hF rfl rfl (pL t4 hM (Bf:=Bf) (fun w hM=>hsub _ (dropM hM 3)) f2 f5 q6 f8) fun v w hR=>?_)
 obtain ⟨c2,c6,c1,g7,rfl,u5,hM⟩:=hR
 intro a hF
 refine aN hF rfl rfl rfl (bS z54 (zs:=RState.zero.enc) rfl rfl fun c4 w z0 k7=>?_)
 have hM:=hM.plus k7
 replace hM:MemL _ (pt c4 (RState.enc (RState.mk (⟨List.replicate 11 LVal.zero,rfl⟩ : Vec LVal 11) (⟨List.replicate 32 LSlot.zero,rfl⟩ : Vec LSlot 32) SV.nil SV.nil SV.nil 0 0 false)) 54 :: rowL 0 c2 5 c0.ctx :: rowL 0 c6 23 c1 :: (packR c1 c0.tables) :: rowL 0 g7 3 c0.sent :: pt c3 (RState.enc (RState.mk (⟨List.replicate 11 LVal.zero,rfl⟩ : Vec LVal 11) (⟨List.replicate 32 LSlot.zero,rfl⟩ : Vec LSlot 32) SV.nil SV.nil SV.nil 0 0 false)) 54 :: pt c5 (RMark.enc (RMark.mk x1.at_ x1.next x1.done s9 s11 s13 s17)) 60 :: pt g3 (RState.enc (RState.mk x0.regs x0.stack s1 s3 s7 x0.at_ x0.steps x0.done)) 54 :: Lr):=hM
 intro a hF
 refine bK rfl rfl (bA (vs:=_) qS54 (hM.obj (i:=0) rfl) hF rfl rfl rfl rfl (RState.len _) (RState.one _) (by first | (rw [RState.len,RState.len]; decide) | (rw [RState.len]; decide)) (bG ((RState.len _).trans (RState.len _).symm)) fun w p5=>?_)
 have hM:=hM.chg p5 (i:=0) rfl
 have hM:=uB (selM hM [3,1,0,2,4,5,6,7] 8 rfl)
 have t1:(c2 :: c1).length = (c0.ctx :: c0.tables).length:=congrArg (· + 1) u5.len
 have t0:(c2 :: c1)[0]? = some c2:=rfl
 replace hM:MemL _ (packR (c2 :: c1) (c0.ctx :: c0.tables) :: pt c4 (RState.enc (RState.mk c0.regs c0.stack c2 c6 g7 c0.at_ c0.steps c0.done)) 54 :: rowL 0 c6 23 c1 :: rowL 0 g7 3 c0.sent :: pt c3 (RState.enc (RState.mk (⟨List.replicate 11 LVal.zero,rfl⟩ : Vec LVal 11) (⟨List.replicate 32 LSlot.zero,rfl⟩ : Vec LSlot 32) SV.nil SV.nil SV.nil 0 0 false)) 54 :: pt c5 (RMark.enc (RMark.mk x1.at_ x1.next x1.done s9 s11 s13 s17)) 60 :: pt g3 (RState.enc (RState.mk x0.regs x0.stack s1 s3 s7 x0.at_ x0.steps x0.done)) 54 :: Lr):=hM
 refine aI (aB ?_)
 refine aG ?_
 refine aT hF hM hP (fun F x a w=>match x with | (c8,i9)=>∃ (g8:SV),Fr 114 [(2,.bool x2),(4,.pointer (some ⟨c5,0,none⟩)),(6,.pointer (some ⟨c3,0,none⟩)),(7,.pointer (some ⟨c4,0,none⟩))] a ∧ MemL w (pt c4 (RState.enc (RState.mk c8 c0.stack c2 c6 g8 c0.at_ c0.steps c0.done)) 54 :: rowL 0 g8 3 i9 :: pt c3 (RState.enc (RState.mk (⟨List.replicate 11 LVal.zero,rfl⟩ : Vec LVal 11) (⟨List.replicate 32 LSlot.zero,rfl⟩ : Vec LSlot 32) SV.nil SV.nil SV.nil 0 0 false)) 54 :: pt c5 (RMark.enc (RMark.mk x1.at_ x1.next x1.done s9 s11 s13 s17)) 60 :: packR (c2 :: c1) (c0.ctx :: c0.tables) :: rowL 0 c6 23 c1 :: Lr)) (fun c36 hP c15 hF hM=>?_) ?_
 ·refine aG ?_
  refine aD ?_
  refine aA hF (aH hF rfl rfl) rfl rfl rfl fun a hF=>?_
  refine aI (aB ?_)
  refine aX ?_
  refine bU hF hM hP (fun F x a w=>match x with | (d8,d9,i0)=>∃ (d3:SV),Fr 114 [(8,.int .i64 i0),(2,.bool x2),(4,.pointer (some ⟨c5,0,none⟩)),(6,.pointer (some ⟨c3,0,none⟩)),(7,.pointer (some ⟨c4,0,none⟩))] a ∧ MemL w (pt c4 (RState.enc (RState.mk d8 c0.stack c2 c6 d3 c0.at_ c0.steps c0.done)) 54 :: rowL 0 d3 3 d9 :: pt c3 (RState.enc (RState.mk (⟨List.replicate 11 LVal.zero,rfl⟩ : Vec LVal 11) (⟨List.replicate 32 LSlot.zero,rfl⟩ : Vec LSlot 32) SV.nil SV.nil SV.nil 0 0 false)) 54 :: pt c5 (RMark.enc (RMark.mk x1.at_ x1.next x1.done s9 s11 s13 s17)) 60 :: packR (c2 :: c1) (c0.ctx :: c0.tables) :: rowL 0 c6 23 c1 :: Lr)) (fun hF hM=>⟨g7,hF.to ⟨rfl,rfl,rfl,rfl,rfl,trivial⟩,selM hM [1,3,4,5,0,2] 7 rfl⟩) ?_
  rintro ⟨d8,d9,i0⟩ a w c41 hP u1 ⟨d3,hF,hM⟩
  replace hP:Sh.mG x1 x2 d8 d9 i0 = _:=hP
  unfold Sh.mG at hP
  refine aG ?_
  refine aG ?_
  refine aD ?_
  refine aA hF (aF hF rfl rfl) rfl rfl rfl fun a hF=>?_
  refine aA hF (aC (off':=3) qU60 rfl in56 rfl hF rfl rfl rfl) rfl rfl rfl fun a hF=>?_
  refine aA hF (aJ qA56 hF rfl rfl (hM.cell (i:=3) rfl (RMark.g_regs _))) rfl rfl rfl fun a hF=>?_
  refine aA hF (bQ (f10 _ (hsub _ (dropM hM 6))) qU56 hF rfl rfl) rfl rfl rfl fun a hF=>?_
  refine aA hF (cO hF rfl rfl rfl) rfl rfl rfl fun a hF=>?_
  refine aI (aB ?_)
  refine aS hF (c:=.tmp 20) rfl (fun i2=>?_) (fun i2=>?_)
  ·have hP:=Fx.cT i2 hP
   refine aW (aB ?_)
   refine aG ?_
   refine aX ?_
   refine bR mixed (by kernel_rfl) hM [0,1,2,3,4,5] 6 rfl fun hch=>?_
   refine aK hF hch 0 rfl (by kernel_rfl) rfl rfl rfl (fun w hM=>(aC (off':=3) qU60 rfl in56 rfl hF rfl rfl rfl)) fun a hF=>?_
   refine aK hF hch 1 rfl (by kernel_rfl) rfl rfl rfl (fun w hM=>(aJ qA56 hF rfl rfl (hM.cell (i:=3) rfl (RMark.g_regs _)))) fun a hF=>?_
   refine aK hF hch 2 rfl (by kernel_rfl) rfl rfl rfl (fun w hM=>(aF hF rfl rfl)) fun a hF=>?_
   obtain ⟨l4,j3,hP⟩:=bind_some hP
   have m0:=aM j3
   refine aK hF hch 3 rfl (by kernel_rfl) rfl rfl rfl (fun w hM=>(aY (sz:=9) (f10 _ (hsub _ (dropM hM 6))) qU56 in128 rfl hF rfl rfl rfl (bL j3))) fun a hF=>?_
   refine aK hF hch 4 rfl (by kernel_rfl) rfl rfl rfl (fun w hM=>(aC qU128 rfl in3 rfl hF rfl rfl rfl)) fun a hF=>?_
   refine aK hF hch 5 rfl (by kernel_rfl) rfl rfl rfl (fun w hM=>(aJ qA3 hF rfl rfl ((((f10 _ (hsub _ (dropM hM 6))).elemS m0.2)).get 0 (LTurn.g_reg _)))) fun a hF=>?_
   refine aK hF hch 6 rfl (by kernel_rfl) rfl rfl rfl (fun w hM=>(aC (off':=3) qU60 rfl in56 rfl hF rfl rfl rfl)) fun a hF=>?_
   refine aK hF hch 7 rfl (by kernel_rfl) rfl rfl rfl (fun w hM=>(aJ qA56 hF rfl rfl (hM.cell (i:=3) rfl (RMark.g_regs _)))) fun a hF=>?_
   refine aK hF hch 8 rfl (by kernel_rfl) rfl rfl rfl (fun w hM=>(aF hF rfl rfl)) fun a hF=>?_
   obtain ⟨c28,j4,hP⟩:=bind_some hP
   have m1:=aM j4
   refine aK hF hch 9 rfl (by kernel_rfl) rfl rfl rfl (fun w hM=>(aY (sz:=9) (f10 _ (hsub _ (dropM hM 6))) qU56 in128 rfl hF rfl rfl rfl (bL j4))) fun a hF=>?_
   refine aK hF hch 10 rfl (by kernel_rfl) rfl rfl rfl (fun w hM=>(aR qA128 qS128 hF rfl rfl (LTurn.len _) (((f10 _ (hsub _ (dropM hM 6))).elemS m1.2)))) fun a hF=>?_
   refine aK hF hch 11 rfl (by kernel_rfl) rfl rfl rfl (fun w hM=>(aF hF rfl rfl)) fun a hF=>?_
   refine aK hF hch 13 rfl (by kernel_rfl) rfl rfl rfl (fun w hM=>(aC (off':=0) qU54 rfl in47 rfl hF rfl rfl rfl)) fun a hF=>?_
   refine bH hch 12 (by kernel_rfl) rfl rfl ?_
   refine cB hF 12 rfl rfl rfl rfl rfl fun w hMs hM=>?_
   obtain ⟨l7,t5,hP⟩:=bind_some hP
   refine (aO (xs:=[.tmp 33,.tmp 34]) Tryz.call199 hF rfl rfl (mD t5 hM ) fun v w hR=>?_)
   obtain ⟨rfl,hM⟩:=hR
   replace hM:MemL _ (pt c4 (RState.enc (RState.mk d8 c0.stack c2 c6 d3 c0.at_ c0.steps c0.done)) 54 :: rowL 0 d3 3 d9 :: pt c3 (RState.enc (RState.mk (⟨List.replicate 11 LVal.zero,rfl⟩ : Vec LVal 11) (⟨List.replicate 32 LSlot.zero,rfl⟩ : Vec LSlot 32) SV.nil SV.nil SV.nil 0 0 false)) 54 :: pt c5 (RMark.enc (RMark.mk x1.at_ x1.next x1.done s9 s11 s13 s17)) 60 :: packR (c2 :: c1) (c0.ctx :: c0.tables) :: rowL 0 c6 23 c1 :: Lr):=hM
   have hMs:=selM hM [0,1,2,3,4,5] 6 rfl
   refine ⟨_,_,hMs,hM,.inl fun _ h=>h,fun a hF=>?_⟩
   obtain ⟨c29,g4,hP⟩:=bind_some hP
   have z1:=aM g4
   refine aK hF hch 14 rfl (by kernel_rfl) rfl rfl rfl (fun w hM=>(cU (sz:=4) qU47 in46 rfl hF rfl rfl rfl (dG g4))) fun a hF=>?_
   refine bH hch 15 (by kernel_rfl) rfl rfl ?_
   refine dK 15 rfl rfl rfl rfl fun w hMs hM=>?_
   refine (bA (vs:=_) qS46 (hM.obj (i:=0) rfl) hF rfl rfl rfl rfl (LVal.len _) (LVal.one _) (by have:=(dG g4); rw [LVal.len,RState.len]; omega) (RState.pi_regs _ _ _ (by have:=(dG g4); omega)) fun w p6=>?_)
   have hM:=hM.chg p6 (i:=0) rfl
   replace hM:MemL _ (pt c4 (RState.enc (RState.mk (d8.set (l4.reg:Int).toNat l7) c0.stack c2 c6 d3 c0.at_ c0.steps c0.done)) 54 :: rowL 0 d3 3 d9 :: pt c3 (RState.enc (RState.mk (⟨List.replicate 11 LVal.zero,rfl⟩ : Vec LVal 11) (⟨List.replicate 32 LSlot.zero,rfl⟩ : Vec LSlot 32) SV.nil SV.nil SV.nil 0 0 false)) 54 :: pt c5 (RMark.enc (RMark.mk x1.at_ x1.next x1.done s9 s11 s13 s17)) 60 :: packR (c2 :: c1) (c0.ctx :: c0.tables) :: rowL 0 c6 23 c1 :: Lr):=hM
   have hMs:=hM
   refine ⟨_,_,hMs,hM,.inr (by kernel_rfl),?_⟩
   refine bY hch (by kernel_rfl) fun w hM=>?_
   refine bM (aB ?_)
   refine aD ?_
   refine aA hF (aF hF rfl rfl) rfl rfl rfl fun a hF=>?_
   refine aA hF (cA hF rfl rfl rfl) rfl rfl rfl fun a hF=>?_
   refine aA hF (aH hF rfl rfl) rfl rfl rfl fun a hF=>?_
   refine aI (aB ?_)
   have hP:=Option.some.inj hP
   subst hP
   exact ⟨((d8.set (l4.reg:Int).toNat l7),d9,(IntKind.i64.wrap (i0 + 1))),rfl,d3,hF.to ⟨rfl,rfl,rfl,rfl,rfl,trivial⟩,hM⟩
  have hP:=Fx.cF i2 hP
  refine bZ (bC (bC (cR ?_)))
  refine aB ?_
  have hP:=Option.some.inj hP
  subst hP
  have hP:=u1 _ rfl
  subst hP
  exact ⟨(d8,d9),rfl,d3,hF.to ⟨rfl,rfl,rfl,rfl,trivial⟩,hM⟩
 rintro ⟨c8,i9⟩ a w hP ⟨g8,hF,hM⟩
 replace hP:Sh.qF x1 x2 c0 c8 i9 = _:=hP
 unfold Sh.qF at hP
 refine aB ?_
 refine aG ?_
 refine aT hF hM hP (fun F x a w=>match x with | (c9,d0)=>∃ (c7:SV),Fr 114 [(2,.bool x2),(4,.pointer (some ⟨c5,0,none⟩)),(6,.pointer (some ⟨c3,0,none⟩)),(7,.pointer (some ⟨c4,0,none⟩))] a ∧ MemL w (pt c4 (RState.enc (RState.mk c8 c9 c2 c6 c7 c0.at_ c0.steps c0.done)) 54 :: rowL 0 c7 3 d0 :: pt c3 (RState.enc (RState.mk (⟨List.replicate 11 LVal.zero,rfl⟩ : Vec LVal 11) (⟨List.replicate 32 LSlot.zero,rfl⟩ : Vec LSlot 32) SV.nil SV.nil SV.nil 0 0 false)) 54 :: pt c5 (RMark.enc (RMark.mk x1.at_ x1.next x1.done s9 s11 s13 s17)) 60 :: packR (c2 :: c1) (c0.ctx :: c0.tables) :: rowL 0 c6 23 c1 :: Lr)) (fun c37 hP c16 hF hM=>?_) ?_
 ·refine aG ?_
  refine aD ?_
  refine aA hF (aH hF rfl rfl) rfl rfl rfl fun a hF=>?_
  refine aI (aB ?_)
  refine aX ?_
  refine bU hF hM hP (fun F x a w=>match x with | (g0,g1,i1)=>∃ (d4:SV),Fr 114 [(9,.int .i64 i1),(2,.bool x2),(4,.pointer (some ⟨c5,0,none⟩)),(6,.pointer (some ⟨c3,0,none⟩)),(7,.pointer (some ⟨c4,0,none⟩))] a ∧ MemL w (pt c4 (RState.enc (RState.mk c8 g0 c2 c6 d4 c0.at_ c0.steps c0.done)) 54 :: rowL 0 d4 3 g1 :: pt c3 (RState.enc (RState.mk (⟨List.replicate 11 LVal.zero,rfl⟩ : Vec LVal 11) (⟨List.replicate 32 LSlot.zero,rfl⟩ : Vec LSlot 32) SV.nil SV.nil SV.nil 0 0 false)) 54 :: pt c5 (RMark.enc (RMark.mk x1.at_ x1.next x1.done s9 s11 s13 s17)) 60 :: packR (c2 :: c1) (c0.ctx :: c0.tables) :: rowL 0 c6 23 c1 :: Lr)) (fun hF hM=>⟨g8,hF.to ⟨rfl,rfl,rfl,rfl,rfl,trivial⟩,hM⟩) ?_
  rintro ⟨g0,g1,i1⟩ a w c42 hP u2 ⟨d4,hF,hM⟩
  replace hP:Sh.mH x1 x2 g0 g1 i1 = _:=hP
  unfold Sh.mH at hP
  refine aG ?_
  refine aG ?_
  refine aD ?_
  refine aA hF (aF hF rfl rfl) rfl rfl rfl fun a hF=>?_
  refine aA hF (aC (off':=4) qU60 rfl in57 rfl hF rfl rfl rfl) rfl rfl rfl fun a hF=>?_
  refine aA hF (aJ qA57 hF rfl rfl (hM.cell (i:=3) rfl (RMark.g_slots _))) rfl rfl rfl fun a hF=>?_
  refine aA hF (bQ (f12 _ (hsub _ (dropM hM 6))) qU57 hF rfl rfl) rfl rfl rfl fun a hF=>?_
  refine aA hF (cO hF rfl rfl rfl) rfl rfl rfl fun a hF=>?_
  refine aI (aB ?_)
  refine aS hF (c:=.tmp 42) rfl (fun i3=>?_) (fun i3=>?_)
  ·have hP:=Fx.cT i3 hP
   refine aW (aB ?_)
   refine aG ?_
   refine aX ?_
   refine bR mixed (by kernel_rfl) hM [0,1,2,3,4,5] 6 rfl fun hch=>?_
   refine aK hF hch 0 rfl (by kernel_rfl) rfl rfl rfl (fun w hM=>(aC (off':=4) qU60 rfl in57 rfl hF rfl rfl rfl)) fun a hF=>?_
   refine aK hF hch 1 rfl (by kernel_rfl) rfl rfl rfl (fun w hM=>(aJ qA57 hF rfl rfl (hM.cell (i:=3) rfl (RMark.g_slots _)))) fun a hF=>?_
   refine aK hF hch 2 rfl (by kernel_rfl) rfl rfl rfl (fun w hM=>(aF hF rfl rfl)) fun a hF=>?_
   obtain ⟨l5,j5,hP⟩:=bind_some hP
   have m2:=aM j5
   refine aK hF hch 3 rfl (by kernel_rfl) rfl rfl rfl (fun w hM=>(aY (sz:=27) (f12 _ (hsub _ (dropM hM 6))) qU57 in151 rfl hF rfl rfl rfl (bL j5))) fun a hF=>?_
   refine aK hF hch 4 rfl (by kernel_rfl) rfl rfl rfl (fun w hM=>(aC qU151 rfl in3 rfl hF rfl rfl rfl)) fun a hF=>?_
   refine aK hF hch 5 rfl (by kernel_rfl) rfl rfl rfl (fun w hM=>(aJ qA3 hF rfl rfl ((((f12 _ (hsub _ (dropM hM 6))).elemS m2.2)).get 0 (LCell.g_slot _)))) fun a hF=>?_
   refine aK hF hch 6 rfl (by kernel_rfl) rfl rfl rfl (fun w hM=>(aC (off':=4) qU60 rfl in57 rfl hF rfl rfl rfl)) fun a hF=>?_
   refine aK hF hch 7 rfl (by kernel_rfl) rfl rfl rfl (fun w hM=>(aJ qA57 hF rfl rfl (hM.cell (i:=3) rfl (RMark.g_slots _)))) fun a hF=>?_
   refine aK hF hch 8 rfl (by kernel_rfl) rfl rfl rfl (fun w hM=>(aF hF rfl rfl)) fun a hF=>?_
   obtain ⟨c30,j6,hP⟩:=bind_some hP
   have m3:=aM j6
   refine aK hF hch 9 rfl (by kernel_rfl) rfl rfl rfl (fun w hM=>(aY (sz:=27) (f12 _ (hsub _ (dropM hM 6))) qU57 in151 rfl hF rfl rfl rfl (bL j6))) fun a hF=>?_
   refine aK hF hch 10 rfl (by kernel_rfl) rfl rfl rfl (fun w hM=>(aR qA151 qS151 hF rfl rfl (LCell.len _) (((f12 _ (hsub _ (dropM hM 6))).elemS m3.2)))) fun a hF=>?_
   refine aK hF hch 11 rfl (by kernel_rfl) rfl rfl rfl (fun w hM=>(aF hF rfl rfl)) fun a hF=>?_
   refine aK hF hch 13 rfl (by kernel_rfl) rfl rfl rfl (fun w hM=>(aC (off':=44) qU54 rfl in51 rfl hF rfl rfl rfl)) fun a hF=>?_
   refine bH hch 12 (by kernel_rfl) rfl rfl ?_
   refine cB hF 12 rfl rfl rfl rfl rfl fun w hMs hM=>?_
   obtain ⟨l8,t6,hP⟩:=bind_some hP
   refine (aO (xs:=[.tmp 55,.tmp 56]) Tryz.call200 hF rfl rfl (lD t6 hM ) fun v w hR=>?_)
   obtain ⟨rfl,hM⟩:=hR
   replace hM:MemL _ (pt c4 (RState.enc (RState.mk c8 g0 c2 c6 d4 c0.at_ c0.steps c0.done)) 54 :: rowL 0 d4 3 g1 :: pt c3 (RState.enc (RState.mk (⟨List.replicate 11 LVal.zero,rfl⟩ : Vec LVal 11) (⟨List.replicate 32 LSlot.zero,rfl⟩ : Vec LSlot 32) SV.nil SV.nil SV.nil 0 0 false)) 54 :: pt c5 (RMark.enc (RMark.mk x1.at_ x1.next x1.done s9 s11 s13 s17)) 60 :: packR (c2 :: c1) (c0.ctx :: c0.tables) :: rowL 0 c6 23 c1 :: Lr):=hM
   have hMs:=selM hM [0,1,2,3,4,5] 6 rfl
   refine ⟨_,_,hMs,hM,.inl fun _ h=>h,fun a hF=>?_⟩
   obtain ⟨c31,g5,hP⟩:=bind_some hP
   have z2:=aM g5
   refine aK hF hch 14 rfl (by kernel_rfl) rfl rfl rfl (fun w hM=>(cU (sz:=13) qU51 in50 rfl hF rfl rfl rfl (dG g5))) fun a hF=>?_
   refine bH hch 15 (by kernel_rfl) rfl rfl ?_
   refine dK 15 rfl rfl rfl rfl fun w hMs hM=>?_
   refine (bA (vs:=_) qS50 (hM.obj (i:=0) rfl) hF rfl rfl rfl rfl (LSlot.len _) (LSlot.one _) (by have:=(dG g5); rw [LSlot.len,RState.len]; omega) (RState.pi_stack _ _ _ (by have:=(dG g5); omega)) fun w p7=>?_)
   have hM:=hM.chg p7 (i:=0) rfl
   replace hM:MemL _ (pt c4 (RState.enc (RState.mk c8 (g0.set (l5.slot:Int).toNat l8) c2 c6 d4 c0.at_ c0.steps c0.done)) 54 :: rowL 0 d4 3 g1 :: pt c3 (RState.enc (RState.mk (⟨List.replicate 11 LVal.zero,rfl⟩ : Vec LVal 11) (⟨List.replicate 32 LSlot.zero,rfl⟩ : Vec LSlot 32) SV.nil SV.nil SV.nil 0 0 false)) 54 :: pt c5 (RMark.enc (RMark.mk x1.at_ x1.next x1.done s9 s11 s13 s17)) 60 :: packR (c2 :: c1) (c0.ctx :: c0.tables) :: rowL 0 c6 23 c1 :: Lr):=hM
   have hMs:=hM
   refine ⟨_,_,hMs,hM,.inr (by kernel_rfl),?_⟩
   refine bY hch (by kernel_rfl) fun w hM=>?_
   refine bM (aB ?_)
   refine aD ?_
   refine aA hF (aF hF rfl rfl) rfl rfl rfl fun a hF=>?_
   refine aA hF (cA hF rfl rfl rfl) rfl rfl rfl fun a hF=>?_
   refine aA hF (aH hF rfl rfl) rfl rfl rfl fun a hF=>?_
   refine aI (aB ?_)
   have hP:=Option.some.inj hP
   subst hP
   exact ⟨((g0.set (l5.slot:Int).toNat l8),g1,(IntKind.i64.wrap (i1 + 1))),rfl,d4,hF.to ⟨rfl,rfl,rfl,rfl,rfl,trivial⟩,hM⟩
  have hP:=Fx.cF i3 hP
  refine bZ (bC (bC (cR ?_)))
  refine aB ?_
  have hP:=Option.some.inj hP
  subst hP
  have hP:=u2 _ rfl
  subst hP
  exact ⟨(g0,g1),rfl,d4,hF.to ⟨rfl,rfl,rfl,rfl,trivial⟩,hM⟩
 rintro ⟨c9,d0⟩ a w hP ⟨c7,hF,hM⟩
 replace hP:Sh.qG x1 x2 c0 c8 c9 d0 = _:=hP
 unfold Sh.qG at hP
 refine aB ?_
 refine aG ?_
 refine aT hF hM hP (fun F x a w=>match x with | d6=>(c2 :: c1).length = d6.length ∧ Fr 114 [(6,.pointer (some ⟨c3,0,none⟩)),(7,.pointer (some ⟨c4,0,none⟩))] a ∧ MemL w (packR (c2 :: c1) d6 :: pt c4 (RState.enc (RState.mk c8 c9 c2 c6 c7 c0.at_ c0.steps c0.done)) 54 :: pt c3 (RState.enc (RState.mk (⟨List.replicate 11 LVal.zero,rfl⟩ : Vec LVal 11) (⟨List.replicate 32 LSlot.zero,rfl⟩ : Vec LSlot 32) SV.nil SV.nil SV.nil 0 0 false)) 54 :: rowL 0 c7 3 d0 :: rowL 0 c6 23 c1 :: Lr)) (fun c38 hP c17 hF hM=>?_) ?_
 ·refine aG ?_
  refine aD ?_
  refine aA hF (aH hF rfl rfl) rfl rfl rfl fun a hF=>?_
  refine aI (aB ?_)
  refine aX ?_
  refine bU hF hM hP (fun F x a w=>match x with | (d7,d1)=>(c2 :: c1).length = d7.length ∧ Fr 114 [(10,.int .i64 d1),(2,.bool x2),(4,.pointer (some ⟨c5,0,none⟩)),(6,.pointer (some ⟨c3,0,none⟩)),(7,.pointer (some ⟨c4,0,none⟩))] a ∧ MemL w (packR (c2 :: c1) d7 :: pt c4 (RState.enc (RState.mk c8 c9 c2 c6 c7 c0.at_ c0.steps c0.done)) 54 :: pt c3 (RState.enc (RState.mk (⟨List.replicate 11 LVal.zero,rfl⟩ : Vec LVal 11) (⟨List.replicate 32 LSlot.zero,rfl⟩ : Vec LSlot 32) SV.nil SV.nil SV.nil 0 0 false)) 54 :: pt c5 (RMark.enc (RMark.mk x1.at_ x1.next x1.done s9 s11 s13 s17)) 60 :: rowL 0 c7 3 d0 :: rowL 0 c6 23 c1 :: Lr)) (fun hF hM=>⟨t1,hF.to ⟨rfl,rfl,rfl,rfl,rfl,trivial⟩,selM hM [4,0,2,3,1,5] 6 rfl⟩) ?_
  rintro ⟨d7,d1⟩ a w c43 hP u3 ⟨i7,hF,hM⟩
  replace hP:Sh.mI x1 x2 d7 d1 = _:=hP
  unfold Sh.mI at hP
  refine aG ?_
  refine aG ?_
  refine aD ?_
  refine aA hF (aF hF rfl rfl) rfl rfl rfl fun a hF=>?_
  refine aA hF (aC (off':=5) qU60 rfl in58 rfl hF rfl rfl rfl) rfl rfl rfl fun a hF=>?_
  refine aA hF (aJ qA58 hF rfl rfl (hM.cell (i:=3) rfl (RMark.g_pieces _))) rfl rfl rfl fun a hF=>?_
  refine aA hF (cY (f15 _ (hsub _ (dropM hM 6))) q16.len qU58 hF rfl rfl) rfl rfl rfl fun a hF=>?_
  refine aA hF (cO hF rfl rfl rfl) rfl rfl rfl fun a hF=>?_
  refine aI (aB ?_)
  refine aS hF (c:=.tmp 64) rfl (fun i4=>?_) (fun i4=>?_)
  ·have hP:=Fx.cT i4 hP
   refine aW (aB ?_)
   refine aG ?_
   refine aT hF hM hP (fun F x a w=>match x with | g6=>(c2 :: c1).length = g6.length ∧ Fr 114 [(10,.int .i64 d1),(2,.bool x2),(4,.pointer (some ⟨c5,0,none⟩)),(6,.pointer (some ⟨c3,0,none⟩)),(7,.pointer (some ⟨c4,0,none⟩))] a ∧ MemL w (packR (c2 :: c1) g6 :: pt c4 (RState.enc (RState.mk c8 c9 c2 c6 c7 c0.at_ c0.steps c0.done)) 54 :: pt c3 (RState.enc (RState.mk (⟨List.replicate 11 LVal.zero,rfl⟩ : Vec LVal 11) (⟨List.replicate 32 LSlot.zero,rfl⟩ : Vec LSlot 32) SV.nil SV.nil SV.nil 0 0 false)) 54 :: pt c5 (RMark.enc (RMark.mk x1.at_ x1.next x1.done s9 s11 s13 s17)) 60 :: rowL 0 c7 3 d0 :: rowL 0 c6 23 c1 :: Lr)) (fun c39 hP c18 hF hM=>?_) ?_
   ·refine aX ?_
    refine aG ?_
    refine aD ?_
    refine aA hF (aC (off':=5) qU60 rfl in58 rfl hF rfl rfl rfl) rfl rfl rfl fun a hF=>?_
    refine aA hF (aJ qA58 hF rfl rfl (hM.cell (i:=3) rfl (RMark.g_pieces _))) rfl rfl rfl fun a hF=>?_
    refine aA hF (aF hF rfl rfl) rfl rfl rfl fun a hF=>?_
    obtain ⟨c32,j7,hP⟩:=bind_some hP
    have m4:=aM j7
    obtain ⟨z5,n5,p1⟩:=Each.getr q16 m4.2
    have n0:=Each.bd q16 (bL j7)
    obtain ⟨c20,c21,rfl,t9,u0⟩:=p1
    refine aA hF (aY (sz:=4) (f15 _ (hsub _ (dropM hM 6))) qU58 in156 rfl hF rfl rfl rfl n0) rfl rfl rfl fun a hF=>?_
    refine aA hF (aR qA156 qS156 hF rfl rfl (RPiece.len _) (((f15 _ (hsub _ (dropM hM 6))).elemS n5))) rfl rfl rfl fun a hF=>?_
    refine aA hF (aF hF rfl rfl) rfl rfl rfl fun a hF=>?_
    obtain ⟨l9,t7,hP⟩:=bind_some hP
    refine aN hF rfl rfl rfl (aO (xs:=[.tmp 71,.tmp 72]) Tryz.call201 hF rfl rfl (kM t7 hM (Bf:=Bf) (fun w hM=>hsub _ (dropM hM 6)) t9 u0) fun v w hR=>?_)
    obtain ⟨l3,rfl,i8,hM⟩:=hR
    replace hM:MemL _ (packR (c2 :: c1) d7 :: pt c4 (RState.enc (RState.mk c8 c9 c2 c6 c7 c0.at_ c0.steps c0.done)) 54 :: pt c3 (RState.enc (RState.mk (⟨List.replicate 11 LVal.zero,rfl⟩ : Vec LVal 11) (⟨List.replicate 32 LSlot.zero,rfl⟩ : Vec LSlot 32) SV.nil SV.nil SV.nil 0 0 false)) 54 :: pt c5 (RMark.enc (RMark.mk x1.at_ x1.next x1.done s9 s11 s13 s17)) 60 :: rowL 0 c7 3 d0 :: rowL 0 c6 23 c1 :: Lr):=hM
    intro a hF
    refine aA hF (aH hF rfl rfl) rfl rfl rfl fun a hF=>?_
    refine aI (aB ?_)
    refine aG ?_
    refine aD ?_
    refine aA hF (aC (off':=460) qU54 rfl in23 rfl hF rfl rfl rfl) rfl rfl rfl fun a hF=>?_
    refine aA hF (aJ qA23 hF rfl rfl (hM.cell (i:=1) rfl (RState.g_ctx _))) rfl rfl rfl fun a hF=>?_
    refine aA hF (aH hF rfl rfl) rfl rfl rfl fun a hF=>?_
    refine aI (aB ?_)
    refine aG ?_
    refine aT hF hM hP (fun F x a w=>match x with | d5=>∃ (g9:SV),(c2 :: c1)[d5]? = some g9 ∧ Fr 114 [(12,(g9).v),(10,.int .i64 d1),(11,(l3).v),(2,.bool x2),(4,.pointer (some ⟨c5,0,none⟩)),(6,.pointer (some ⟨c3,0,none⟩)),(7,.pointer (some ⟨c4,0,none⟩))] a ∧ MemL w (pt c4 (RState.enc (RState.mk c8 c9 c2 c6 c7 c0.at_ c0.steps c0.done)) 54 :: pt c3 (RState.enc (RState.mk (⟨List.replicate 11 LVal.zero,rfl⟩ : Vec LVal 11) (⟨List.replicate 32 LSlot.zero,rfl⟩ : Vec LSlot 32) SV.nil SV.nil SV.nil 0 0 false)) 54 :: pt c5 (RMark.enc (RMark.mk x1.at_ x1.next x1.done s9 s11 s13 s17)) 60 :: packR (c2 :: c1) d7 :: rowL 0 c7 3 d0 :: rowL 0 c6 23 c1 :: Lr)) (fun c40 hP c19 hF hM=>?_) ?_
    ·refine aG ?_
     refine aD ?_
     refine aA hF (aC (off':=5) qU60 rfl in58 rfl hF rfl rfl rfl) rfl rfl rfl fun a hF=>?_
     refine aA hF (aJ qA58 hF rfl rfl (hM.cell (i:=3) rfl (RMark.g_pieces _))) rfl rfl rfl fun a hF=>?_
     refine aA hF (aF hF rfl rfl) rfl rfl rfl fun a hF=>?_
     obtain ⟨c33,j8,hP⟩:=bind_some hP
     have m5:=aM j8
     obtain ⟨z6,n6,p2⟩:=Each.getr q16 m5.2
     have n1:=Each.bd q16 (bL j8)
     obtain ⟨c22,c23,rfl,z9,c10⟩:=p2
     refine aA hF (aY (sz:=4) (f15 _ (hsub _ (dropM hM 6))) qU58 in156 rfl hF rfl rfl rfl n1) rfl rfl rfl fun a hF=>?_
     refine aA hF (aC qU156 rfl in3 rfl hF rfl rfl rfl) rfl rfl rfl fun a hF=>?_
     refine aA hF (aJ qA3 hF rfl rfl ((((f15 _ (hsub _ (dropM hM 6))).elemS n6)).get 0 (RPiece.g_table _))) rfl rfl rfl fun a hF=>?_
     refine aA hF (iR hF rfl rfl rfl) rfl rfl rfl fun a hF=>?_
     refine aI (aB ?_)
     refine aS hF (c:=.tmp 82) rfl (fun i5=>?_) (fun i5=>?_)
     ·have hP:=Fx.cT i5 hP
      refine bR mixed (by kernel_rfl) hM [0,1,2,3,4,5] 6 rfl fun hch=>?_
      refine aK hF hch 0 rfl (by kernel_rfl) rfl rfl rfl (fun w hM=>(aC (off':=461) qU54 rfl in28 rfl hF rfl rfl rfl)) fun a hF=>?_
      refine aK hF hch 1 rfl (by kernel_rfl) rfl rfl rfl (fun w hM=>(aJ qA28 hF rfl rfl (hM.cell (i:=1) rfl (RState.g_tables _)))) fun a hF=>?_
      refine aK hF hch 2 rfl (by kernel_rfl) rfl rfl rfl (fun w hM=>(aC (off':=5) qU60 rfl in58 rfl hF rfl rfl rfl)) fun a hF=>?_
      refine aK hF hch 3 rfl (by kernel_rfl) rfl rfl rfl (fun w hM=>(aJ qA58 hF rfl rfl (hM.cell (i:=3) rfl (RMark.g_pieces _)))) fun a hF=>?_
      refine aK hF hch 4 rfl (by kernel_rfl) rfl rfl rfl (fun w hM=>(aF hF rfl rfl)) fun a hF=>?_
      obtain ⟨u6,j9,hP⟩:=bind_some hP
      have m6:=aM j9
      obtain ⟨z7,n7,p3⟩:=Each.getr q16 m6.2
      have n2:=Each.bd q16 (bL j9)
      obtain ⟨c24,c25,rfl,c11,c12⟩:=p3
      refine aK hF hch 5 rfl (by kernel_rfl) rfl rfl rfl (fun w hM=>(aY (sz:=4) (f15 _ (hsub _ (dropM hM 6))) qU58 in156 rfl hF rfl rfl rfl n2)) fun a hF=>?_
      refine aK hF hch 6 rfl (by kernel_rfl) rfl rfl rfl (fun w hM=>(aC qU156 rfl in3 rfl hF rfl rfl rfl)) fun a hF=>?_
      refine aK hF hch 7 rfl (by kernel_rfl) rfl rfl rfl (fun w hM=>(aJ qA3 hF rfl rfl ((((f15 _ (hsub _ (dropM hM 6))).elemS n7)).get 0 (RPiece.g_table _)))) fun a hF=>?_
      obtain ⟨c34,k0,hP⟩:=bind_some hP
      have z3:=aM k0
      obtain ⟨n3,t8,n8,p0⟩:=uC i7 k0
      refine aK hF hch 8 rfl (by kernel_rfl) rfl rfl rfl (fun w hM=>(aY (sz:=1) (hM.rowS (X:=SV) (i:=5) rfl) qU28 in23 rfl hF rfl rfl rfl n3)) fun a hF=>?_
      refine aK hF hch 9 rfl (by kernel_rfl) rfl rfl rfl (fun w hM=>(aJ qA23 hF rfl rfl ((((hM.rowS (X:=SV) (i:=5) rfl).elemS n8)).get 0 rfl))) fun a hF=>?_
      refine aK hF hch 10 rfl (by kernel_rfl) rfl rfl rfl (fun w hM=>(aH hF rfl rfl)) fun a hF=>?_
      refine bY hch (by kernel_rfl) fun w hM=>?_
      refine aB ?_
      have hP:=Option.some.inj hP
      subst hP
      exact ⟨((u6.table:Int).toNat + 1),rfl,t8,p0,hF.to ⟨rfl,rfl,rfl,rfl,rfl,rfl,rfl,trivial⟩,selM hM [1,2,3,0,4,5] 6 rfl⟩
     have hP:=Fx.cF i5 hP
     refine aW (aB ?_)
     have hP:=Option.some.inj hP
     subst hP
     exact ⟨0,rfl,c2,t0,hF.to ⟨rfl,rfl,rfl,rfl,rfl,rfl,rfl,trivial⟩,selM hM [1,2,3,0,4,5] 6 rfl⟩
    rintro d5 a w hP ⟨g9,k8,hF,hM⟩
    replace hP:Sh.qJ x1 d7 d1 l9 d5 = _:=hP
    unfold Sh.qJ at hP
    refine aB ?_
    refine aG ?_
    refine aD ?_
    refine aA hF (aH hF rfl rfl) rfl rfl rfl fun a hF=>?_
    refine aI (aB ?_)
    refine aX ?_
    refine bU hF hM hP (fun F x a w=>match x with | (d2,g2)=>(c2 :: c1).length = d2.length ∧ Fr 114 [(13,.int .i64 g2),(10,.int .i64 d1),(11,(l3).v),(12,(g9).v),(2,.bool x2),(4,.pointer (some ⟨c5,0,none⟩)),(6,.pointer (some ⟨c3,0,none⟩)),(7,.pointer (some ⟨c4,0,none⟩))] a ∧ MemL w (packR (c2 :: c1) d2 :: pt c4 (RState.enc (RState.mk c8 c9 c2 c6 c7 c0.at_ c0.steps c0.done)) 54 :: pt c3 (RState.enc (RState.mk (⟨List.replicate 11 LVal.zero,rfl⟩ : Vec LVal 11) (⟨List.replicate 32 LSlot.zero,rfl⟩ : Vec LSlot 32) SV.nil SV.nil SV.nil 0 0 false)) 54 :: pt c5 (RMark.enc (RMark.mk x1.at_ x1.next x1.done s9 s11 s13 s17)) 60 :: rowL 0 c7 3 d0 :: rowL 0 c6 23 c1 :: Lr)) (fun hF hM=>⟨i7,hF.to ⟨rfl,rfl,rfl,rfl,rfl,rfl,rfl,rfl,trivial⟩,selM hM [3,0,1,2,4,5] 6 rfl⟩) ?_
    rintro ⟨d2,g2⟩ a w c44 hP u4 ⟨j1,hF,hM⟩
    replace hP:Sh.mJ x1 d1 l9 d5 d2 g2 = _:=hP
    unfold Sh.mJ at hP
    refine aG ?_
    refine aG ?_
    refine aD ?_
    refine aA hF (aF hF rfl rfl) rfl rfl rfl fun a hF=>?_
    refine aA hF (aF hF rfl rfl) rfl rfl rfl fun a hF=>?_
    refine aA hF (bQ (i8 _ (hsub _ (dropM hM 6))) qU23 hF rfl rfl) rfl rfl rfl fun a hF=>?_
    refine aA hF (cO hF rfl rfl rfl) rfl rfl rfl fun a hF=>?_
    refine aI (aB ?_)
    refine aS hF (c:=.tmp 96) rfl (fun i6=>?_) (fun i6=>?_)
    ·have hP:=Fx.cT i6 hP
     refine aW (aB ?_)
     refine aG ?_
     refine aX ?_
     refine bR mixed (by kernel_rfl) hM [0,1,2,3,4,5] 6 rfl fun hch=>?_
     refine aK hF hch 0 rfl (by kernel_rfl) rfl rfl rfl (fun w hM=>(aF hF rfl rfl)) fun a hF=>?_
     refine aK hF hch 1 rfl (by kernel_rfl) rfl rfl rfl (fun w hM=>(aC (off':=5) qU60 rfl in58 rfl hF rfl rfl rfl)) fun a hF=>?_
     refine aK hF hch 2 rfl (by kernel_rfl) rfl rfl rfl (fun w hM=>(aJ qA58 hF rfl rfl (hM.cell (i:=3) rfl (RMark.g_pieces _)))) fun a hF=>?_
     refine aK hF hch 3 rfl (by kernel_rfl) rfl rfl rfl (fun w hM=>(aF hF rfl rfl)) fun a hF=>?_
     obtain ⟨l6,k1,hP⟩:=bind_some hP
     have m7:=aM k1
     obtain ⟨z8,n9,p4⟩:=Each.getr q16 m7.2
     have n4:=Each.bd q16 (bL k1)
     obtain ⟨c26,c27,rfl,c13,c14⟩:=p4
     refine aK hF hch 4 rfl (by kernel_rfl) rfl rfl rfl (fun w hM=>(aY (sz:=4) (f15 _ (hsub _ (dropM hM 6))) qU58 in156 rfl hF rfl rfl rfl n4)) fun a hF=>?_
     refine aK hF hch 5 rfl (by kernel_rfl) rfl rfl rfl (fun w hM=>(aC qU156 rfl in3 rfl hF rfl rfl rfl)) fun a hF=>?_
     refine aK hF hch 6 rfl (by kernel_rfl) rfl rfl rfl (fun w hM=>(aJ qA3 hF rfl rfl ((((f15 _ (hsub _ (dropM hM 6))).elemS n9)).get 1 (RPiece.g_from_ _)))) fun a hF=>?_
     refine aK hF hch 7 rfl (by kernel_rfl) rfl rfl rfl (fun w hM=>(aF hF rfl rfl)) fun a hF=>?_
     refine aK hF hch 8 rfl (by kernel_rfl) rfl rfl rfl (fun w hM=>(cA hF rfl rfl rfl)) fun a hF=>?_
     refine aK hF hch 9 rfl (by kernel_rfl) rfl rfl rfl (fun w hM=>(aF hF rfl rfl)) fun a hF=>?_
     refine aK hF hch 10 rfl (by kernel_rfl) rfl rfl rfl (fun w hM=>(aF hF rfl rfl)) fun a hF=>?_
     obtain ⟨j0,k2,hP⟩:=bind_some hP
     have m8:=aM k2
     refine aK hF hch 11 rfl (by kernel_rfl) rfl rfl rfl (fun w hM=>(aY (sz:=1) (i8 _ (hsub _ (dropM hM 6))) qU23 in5 rfl hF rfl rfl rfl (bL k2))) fun a hF=>?_
     refine aK hF hch 12 rfl (by kernel_rfl) rfl rfl rfl (fun w hM=>(aJ qA5 hF rfl rfl ((((i8 _ (hsub _ (dropM hM 6))).elemS m8.2)).get 0 rfl))) fun a hF=>?_
     obtain ⟨c35,k3,hP⟩:=bind_some hP
     have m9:=aM k3
     refine aK hF hch 13 rfl (by kernel_rfl) rfl rfl rfl (fun w hM=>(aY (sz:=1) (vN (hM.hold 0 _ rfl) k8) qU23 in5 rfl hF rfl rfl rfl (bL k3))) fun a hF=>?_
     refine bH hch 14 (by kernel_rfl) rfl rfl ?_
     refine dK 14 rfl rfl rfl rfl fun w hMs hM=>?_
     refine (aEj (u:=j0) Tryz.sizeOf5 (hM.hold 0 _ rfl) k8 m9.2 hF rfl rfl rfl rfl fun w p8=>?_)
     have hM:=hM.chg p8 (i:=0) rfl
     replace hM:MemL _ (packR (c2 :: c1) (d2.set d5 ((Fx.pk d2 d5).set ((IntKind.i64.wrap (l6.from_ + g2)):Int).toNat j0)) :: pt c4 (RState.enc (RState.mk c8 c9 c2 c6 c7 c0.at_ c0.steps c0.done)) 54 :: pt c3 (RState.enc (RState.mk (⟨List.replicate 11 LVal.zero,rfl⟩ : Vec LVal 11) (⟨List.replicate 32 LSlot.zero,rfl⟩ : Vec LSlot 32) SV.nil SV.nil SV.nil 0 0 false)) 54 :: pt c5 (RMark.enc (RMark.mk x1.at_ x1.next x1.done s9 s11 s13 s17)) 60 :: rowL 0 c7 3 d0 :: rowL 0 c6 23 c1 :: Lr):=hM
     have hMs:=hM
     refine ⟨_,_,hMs,hM,.inr (by kernel_rfl),?_⟩
     refine bY hch (by kernel_rfl) fun w hM=>?_
     refine bM (aB ?_)
     refine aD ?_
     refine aA hF (aF hF rfl rfl) rfl rfl rfl fun a hF=>?_
     refine aA hF (cA hF rfl rfl rfl) rfl rfl rfl fun a hF=>?_
     refine aA hF (aH hF rfl rfl) rfl rfl rfl fun a hF=>?_
     refine aI (aB ?_)
     have hP:=Option.some.inj hP
     subst hP
     exact ⟨((d2.set d5 ((Fx.pk d2 d5).set ((IntKind.i64.wrap (l6.from_ + g2)):Int).toNat j0)),(IntKind.i64.wrap (g2 + 1))),rfl,(aAq j1),hF.to ⟨rfl,rfl,rfl,rfl,rfl,rfl,rfl,rfl,trivial⟩,hM⟩
    have hP:=Fx.cF i6 hP
    refine bZ (bC (bC (cR ?_)))
    refine bM (aB ?_)
    have hP:=Option.some.inj hP
    subst hP
    have hP:=u4 _ rfl
    subst hP
    exact ⟨d2,rfl,j1,hF.to ⟨rfl,rfl,rfl,rfl,rfl,trivial⟩,hM⟩
   rintro g6 a w hP ⟨t2,hF,hM⟩
   replace hP:Sh.qI d1 g6 = _:=hP
   unfold Sh.qI at hP
   refine aB ?_
   refine aD ?_
   refine aA hF (aF hF rfl rfl) rfl rfl rfl fun a hF=>?_
   refine aA hF (cA hF rfl rfl rfl) rfl rfl rfl fun a hF=>?_
   refine aA hF (aH hF rfl rfl) rfl rfl rfl fun a hF=>?_
   refine aI (aB ?_)
   have hP:=Option.some.inj hP
   subst hP
   exact ⟨(g6,(IntKind.i64.wrap (d1 + 1))),rfl,t2,hF.to ⟨rfl,rfl,rfl,rfl,rfl,trivial⟩,hM⟩
  have hP:=Fx.cF i4 hP
  refine bZ (bC (bC (cR ?_)))
  refine aB ?_
  have hP:=Option.some.inj hP
  subst hP
  have hP:=u3 _ rfl
  subst hP
  exact ⟨d7,rfl,i7,hF.to ⟨rfl,rfl,trivial⟩,selM hM [0,1,2,4,5] 6 rfl⟩
 rintro d6 a w hP ⟨z4,hF,hM⟩
 replace hP:Sh.qH c0 c8 c9 d0 d6 = _:=hP
 unfold Sh.qH at hP
 refine aB ?_
 refine aG ?_
 refine aD ?_
 refine aA hF (aR qA54 qS54 hF rfl rfl (RState.len _) (hM.cells (i:=1) rfl (bB (RState.len _)))) rfl rfl rfl fun a hF=>?_
 refine bK rfl rfl (bA (vs:=_) qS54 (hM.obj (i:=2) rfl) hF rfl rfl rfl rfl (RState.len _) (RState.one _) (by first | (rw [RState.len,RState.len]; decide) | (rw [RState.len]; decide)) (bG ((RState.len _).trans (RState.len _).symm)) fun w p9=>?_)
 have hM:=hM.chg p9 (i:=2) rfl
 refine aI (aB ?_)
 refine c_ret ?_
 replace hM:MemL _ (packR (c2 :: c1) d6 :: pt c4 (RState.enc (RState.mk c8 c9 c2 c6 c7 c0.at_ c0.steps c0.done)) 54 :: pt c3 (RState.enc (RState.mk c8 c9 c2 c6 c7 c0.at_ c0.steps c0.done)) 54 :: rowL 0 c7 3 d0 :: rowL 0 c6 23 c1 :: Lr):=hM
 obtain ⟨hM,t3⟩:=sN (selM hM [0,1,2,3,4] 5 rfl)
 replace hM:MemL _ (rowL 0 c2 5 (Fx.pk d6 0) :: (packR c1 (List.tail d6)) :: pt c4 (RState.enc (RState.mk c8 c9 c2 c6 c7 c0.at_ c0.steps c0.done)) 54 :: pt c3 (RState.enc (RState.mk c8 c9 c2 c6 c7 c0.at_ c0.steps c0.done)) 54 :: rowL 0 c7 3 d0 :: rowL 0 c6 23 c1 :: Lr):=hM
 have hP:=Option.some.inj hP
 subst hP
 refine dO (rs:=[.cell 6 54]) Tryz.results137 hF (cC hF rfl qA54 qS54 (RState.len _) (hM.cells (i:=3) rfl (bB (RState.len _))) cJ) rfl ?_
 exact ⟨c2,c6,c1,(packR c1 (List.tail d6)),c7,rfl,(nL t3),selM hM [0,5,1,4] 6 rfl⟩
end Go.Proofs
end
section
namespace Go.Proofs
open Go.Fw Go.Fx
set_option maxRecDepth 10000
set_option linter.unusedVariables false
set_option linter.unusedSimpArgs false
set_option maxHeartbeats 4000000 in
theorem kH {x0:Int} {x1:List UInt8} {x2:List UInt8} {s1:SV} {s3:SV} {out:List QPiece} {w0:World} {Bf:World → Prop} {Lr:List Res} (hP:Sh.mP x0 x1 x2 = some out) (hM:MemL w0 (Lr)) (hsub:∀ w,MemL w Lr → Bf w) (f2:LIn Bf s1 x1) (f4:LIn Bf s3 x2):Calls Tryz.prog 86 #[.int .i64 x0,(s1).v,(s3).v] w0 (Ret fun v w'=>∃ (c59:SV) (c28:List RPiece) (c58:Res),v = (c59).v ∧ Each (QPieceIn c58.holds') c28 out ∧ MemL w' (rowL 0 c59 156 c28 :: c58 :: Lr)):=by
 unfold Sh.mP at hP
 refine aP (vs:=[.int .i64 x0,(s1).v,(s3).v]) Tryz.func86 rfl Tryz.ntmps86 rfl fun a hF=>?_
 refine aG ?_
 refine aD ?_
 refine aA hF (aH hF rfl rfl) rfl rfl rfl fun a hF=>?_
 refine aI (aB ?_)
 refine aG ?_
 refine aD ?_
 refine aA hF (aH hF rfl rfl) rfl rfl rfl fun a hF=>?_
 refine aI (aB ?_)
 refine aG ?_
 refine aT hF hM hP (fun F x a w=>match x with | (u1,z7)=>∃ (k8:SV) (i8:List RPiece) (t4:Res) (p6:SV) (m7:SV) (p1:List UInt8) (m5:List UInt8),LastP z7 t4.holds' i8 u1 p6 m7 p1 m5 ∧ Fr 88 [(7,(k8).v),(6,(SV.nil).v)] a ∧ MemL w (rowL 0 k8 156 i8 :: rowL 0 p6 5 p1 :: rowL 0 m7 5 m5 :: t4 :: Lr)) (fun c96 hP c92 hF hM=>?_) ?_
 ·refine aG ?_
  refine aD ?_
  refine aA hF (aF hF rfl rfl) rfl rfl rfl fun a hF=>?_
  refine aA hF (aF hF rfl rfl) rfl rfl rfl fun a hF=>?_
  obtain ⟨c5,c63,hP⟩:=bind_some hP
  refine aN hF rfl rfl rfl (aO (xs:=[.tmp 11,.tmp 12]) Tryz.call158 hF rfl rfl (gW c63 hM (Bf:=Bf) (fun w hM=>hsub _ (dropM hM 0)) f2 f4) fun v w hR=>?_)
  obtain ⟨c6,rfl,hM⟩:=hR
  replace hM:MemL _ (rowL 0 c6 3 c5 :: Lr):=hM
  intro a hF
  refine aA hF (bQ (hM.rowS (X:=Int) (i:=0) rfl) qU52 hF rfl rfl) rfl rfl rfl fun a hF=>?_
  refine aA hF (aF hF rfl rfl) rfl rfl rfl fun a hF=>?_
  refine aI (aB ?_)
  refine aX ?_
  obtain ⟨z4,hM⟩:=voidM hM
  have c66:Each (QPieceIn z4.holds') ([]:List RPiece) ([]:List QPiece):=Each.nil
  have hM:=hM.rowNil (X:=RPiece) 0 156
  have hM:=hM.rowNil (X:=UInt8) 0 5
  have hM:=hM.rowNil (X:=UInt8) 0 5
  have c67:LastP false z4.holds' [] [] SV.nil SV.nil [] []:=LastP.none c66
  refine bU hF hM hP (fun F x a w=>match x with | (j7,c3,n4)=>∃ (d0:SV) (c0:List RPiece) (c4:Res) (d3:SV) (c9:SV) (d6:List UInt8) (d1:List UInt8),LastP n4 c4.holds' c0 c3 d3 c9 d6 d1 ∧ Fr 88 [(15,.int .i64 j7),(7,(d0).v),(0,.int .i64 x0),(1,(s1).v),(13,(c6).v),(14,.int .i64 (c5.length:Int)),(2,(s3).v),(6,(SV.nil).v)] a ∧ MemL w (rowL 0 d0 156 c0 :: rowL 0 d3 5 d6 :: rowL 0 c9 5 d1 :: c4 :: rowL 0 c6 3 c5 :: Lr)) (fun hF hM=>⟨SV.nil,[],z4,SV.nil,SV.nil,[],[],c67,hF.to ⟨rfl,rfl,rfl,rfl,rfl,rfl,rfl,rfl,trivial⟩,selM hM [2,0,1,3,4] 5 rfl⟩) ?_
  rintro ⟨j7,c3,n4⟩ a w d10 hP c74 ⟨d0,c0,c4,d3,c9,d6,d1,d9,hF,hM⟩
  replace hP:Sh.jH x0 x1 x2 c5 j7 c3 n4 = _:=hP
  unfold Sh.jH at hP
  refine aG ?_
  refine aD ?_
  refine aA hF (cO hF rfl rfl rfl) rfl rfl rfl fun a hF=>?_
  refine aI (aB ?_)
  refine aG ?_
  refine aS hF (c:=.tmp 16) rfl (fun u4=>?_) (fun u4=>?_)
  ·have hP:=Fx.cT u4 hP
   refine aW (aB ?_)
   refine aG ?_
   refine aT hF hM hP (fun F x a w=>match x with | (u2,t9)=>∃ (t7:SV) (n7:List RPiece) (t5:Res) (p7:SV) (p4:SV) (p2:List UInt8) (n9:List UInt8),LastP t9 t5.holds' n7 u2 p7 p4 p2 n9 ∧ Fr 88 [(7,(t7).v),(0,.int .i64 x0),(1,(s1).v),(13,(c6).v),(14,.int .i64 (c5.length:Int)),(15,.int .i64 j7),(2,(s3).v),(6,(SV.nil).v)] a ∧ MemL w (rowL 0 t7 156 n7 :: rowL 0 p7 5 p2 :: rowL 0 p4 5 n9 :: t5 :: rowL 0 c6 3 c5 :: Lr)) (fun c97 hP c93 hF hM=>?_) ?_
   ·refine aX ?_
    refine aG ?_
    refine aD ?_
    obtain ⟨d4,c15,hP⟩:=bind_some hP
    have c35:=aM c15
    refine aA hF (aY (sz:=1) (hM.rowS (X:=Int) (i:=4) rfl) qU52 in3 rfl hF rfl rfl rfl (bL c15)) rfl rfl rfl fun a hF=>?_
    refine aA hF (aJ qA3 hF rfl rfl ((((hM.rowS (X:=Int) (i:=4) rfl).elemS c35.2)).get 0 rfl)) rfl rfl rfl fun a hF=>?_
    refine aA hF (aH hF rfl rfl) rfl rfl rfl fun a hF=>?_
    refine aI (aB ?_)
    refine aG ?_
    refine aG ?_
    refine aD ?_
    refine aA hF (aF hF rfl rfl) rfl rfl rfl fun a hF=>?_
    refine aA hF (cY (hM.rowS (X:=RPiece) (i:=0) rfl) d9.len qU58 hF rfl rfl) rfl rfl rfl fun a hF=>?_
    refine aA hF (eQ hF rfl rfl rfl) rfl rfl rfl fun a hF=>?_
    refine aA hF (aH hF rfl rfl) rfl rfl rfl fun a hF=>?_
    refine aI (aB ?_)
    refine aG ?_
    refine aT hF hM hP (fun F x a w=>match x with | z8=>Fr 88 [(39,.bool z8),(0,.int .i64 x0),(1,(s1).v),(10,.int .i64 (IntKind.i64.wrap ((c3.length:Int) - 1))),(13,(c6).v),(14,.int .i64 (c5.length:Int)),(15,.int .i64 j7),(2,(s3).v),(6,(SV.nil).v),(7,(d0).v),(9,.int .i64 d4)] a ∧ MemL w (rowL 0 d0 156 c0 :: rowL 0 d3 5 d6 :: rowL 0 c9 5 d1 :: c4 :: rowL 0 c6 3 c5 :: Lr)) (fun c98 hP c94 hF hM=>?_) ?_
    ·refine bR mixed (by kernel_rfl) hM [0,1,2,3,4] 5 rfl fun hch=>?_
     refine aK hF hch 0 rfl (by kernel_rfl) rfl rfl rfl (fun w hM=>(aF hF rfl rfl)) fun a hF=>?_
     refine aK hF hch 1 rfl (by kernel_rfl) rfl rfl rfl (fun w hM=>(iR hF rfl rfl rfl)) fun a hF=>?_
     refine aK hF hch 2 rfl (by kernel_rfl) rfl rfl rfl (fun w hM=>(aF hF rfl rfl)) fun a hF=>?_
     refine bD 24 hF rfl (fun c8=>?_) (fun c8=>?_)
     ·have hP:=Fx.cT c8 hP
      refine bI hF hch 3 rfl (by kernel_rfl) rfl rfl rfl c8 rfl rfl (fun w hM=>(aF hF rfl rfl)) fun a hF=>?_
      refine bI hF hch 4 rfl (by kernel_rfl) rfl rfl rfl c8 rfl rfl (fun w hM=>(aF hF rfl rfl)) fun a hF=>?_
      obtain ⟨c72,c16,hP⟩:=bind_some hP
      have c36:=aM c16
      have c10:Each (QPieceIn (fun w=>(c4).holds' w ∧ (rowL 0 d3 5 d6).holds' w ∧ (rowL 0 c9 5 d1).holds' w)) c0 c3:=LastP.each d9 (fun _ h=>h.1) (fun _ h=>dL (X:=UInt8) (e:=5) h.2.1) (fun _ h=>dL (X:=UInt8) (e:=5) h.2.2)
      obtain ⟨c75,c48,c50⟩:=Each.getr c10 c36.2
      have c44:=Each.bd c10 (bL c16)
      obtain ⟨c86,c87,rfl,c79,c80⟩:=c50
      refine bI hF hch 5 rfl (by kernel_rfl) rfl rfl rfl c8 rfl rfl (fun w hM=>(aY (sz:=4) (hM.rowS (X:=RPiece) (i:=0) rfl) qU58 in156 rfl hF rfl rfl rfl c44)) fun a hF=>?_
      refine bI hF hch 6 rfl (by kernel_rfl) rfl rfl rfl c8 rfl rfl (fun w hM=>(aC qU156 rfl in3 rfl hF rfl rfl rfl)) fun a hF=>?_
      refine bI hF hch 7 rfl (by kernel_rfl) rfl rfl rfl c8 rfl rfl (fun w hM=>(aJ qA3 hF rfl rfl ((((hM.rowS (X:=RPiece) (i:=0) rfl).elemS c48)).get 1 (RPiece.g_from_ _)))) fun a hF=>?_
      refine bI hF hch 8 rfl (by kernel_rfl) rfl rfl rfl c8 rfl rfl (fun w hM=>(aF hF rfl rfl)) fun a hF=>?_
      refine bI hF hch 9 rfl (by kernel_rfl) rfl rfl rfl c8 rfl rfl (fun w hM=>(aF hF rfl rfl)) fun a hF=>?_
      obtain ⟨c73,c17,hP⟩:=bind_some hP
      have c37:=aM c17
      have c11:Each (QPieceIn (fun w=>(c4).holds' w ∧ (rowL 0 d3 5 d6).holds' w ∧ (rowL 0 c9 5 d1).holds' w)) c0 c3:=LastP.each d9 (fun _ h=>h.1) (fun _ h=>dL (X:=UInt8) (e:=5) h.2.1) (fun _ h=>dL (X:=UInt8) (e:=5) h.2.2)
      obtain ⟨c76,c49,c51⟩:=Each.getr c11 c37.2
      have c45:=Each.bd c11 (bL c17)
      obtain ⟨c88,c89,rfl,c64,c81⟩:=c51
      refine bI hF hch 10 rfl (by kernel_rfl) rfl rfl rfl c8 rfl rfl (fun w hM=>(aY (sz:=4) (hM.rowS (X:=RPiece) (i:=0) rfl) qU58 in156 rfl hF rfl rfl rfl c45)) fun a hF=>?_
      refine bI hF hch 11 rfl (by kernel_rfl) rfl rfl rfl c8 rfl rfl (fun w hM=>(aC qU156 rfl in23 rfl hF rfl rfl rfl)) fun a hF=>?_
      refine bI hF hch 12 rfl (by kernel_rfl) rfl rfl rfl c8 rfl rfl (fun w hM=>(aJ qA23 hF rfl rfl ((((hM.rowS (X:=RPiece) (i:=0) rfl).elemS c49)).get 2 (RPiece.g_old _)))) fun a hF=>?_
      refine bI hF hch 13 rfl (by kernel_rfl) rfl rfl rfl c8 rfl rfl (fun w hM=>(bQ (c64 _ ⟨hM.hold 3 _ rfl,hM.hold 1 _ rfl,hM.hold 2 _ rfl⟩) qU23 hF rfl rfl)) fun a hF=>?_
      refine bI hF hch 14 rfl (by kernel_rfl) rfl rfl rfl c8 rfl rfl (fun w hM=>(cA hF rfl rfl rfl)) fun a hF=>?_
      refine bI hF hch 15 rfl (by kernel_rfl) rfl rfl rfl c8 rfl rfl (fun w hM=>(aF hF rfl rfl)) fun a hF=>?_
      refine bI hF hch 16 rfl (by kernel_rfl) rfl rfl rfl c8 rfl rfl (fun w hM=>(cZ hF rfl rfl rfl)) fun a hF=>?_
      refine aK hF hch 17 rfl (by kernel_rfl) rfl rfl rfl (fun w hM=>(aQ hF rfl rfl c8 rfl)) fun a hF=>?_
      refine bY hch (by kernel_rfl) fun w hM=>?_
      refine aB ?_
      have hP:=Option.some.inj hP
      subst hP
      exact ⟨(decide ((IntKind.i64.wrap (c72.from_ + (c73.old.length:Int))) = d4)),rfl,hF.to ⟨rfl,rfl,rfl,rfl,rfl,rfl,rfl,rfl,rfl,rfl,rfl,trivial⟩,hM⟩
     have hP:=Fx.cF c8 hP
     refine aU hF hch 3 rfl (by kernel_rfl) rfl rfl rfl c8 rfl rfl fun a hF=>?_
     refine aU hF hch 4 rfl (by kernel_rfl) rfl rfl rfl c8 rfl rfl fun a hF=>?_
     refine aU hF hch 5 rfl (by kernel_rfl) rfl rfl rfl c8 rfl rfl fun a hF=>?_
     refine aU hF hch 6 rfl (by kernel_rfl) rfl rfl rfl c8 rfl rfl fun a hF=>?_
     refine aU hF hch 7 rfl (by kernel_rfl) rfl rfl rfl c8 rfl rfl fun a hF=>?_
     refine aU hF hch 8 rfl (by kernel_rfl) rfl rfl rfl c8 rfl rfl fun a hF=>?_
     refine aU hF hch 9 rfl (by kernel_rfl) rfl rfl rfl c8 rfl rfl fun a hF=>?_
     refine aU hF hch 10 rfl (by kernel_rfl) rfl rfl rfl c8 rfl rfl fun a hF=>?_
     refine aU hF hch 11 rfl (by kernel_rfl) rfl rfl rfl c8 rfl rfl fun a hF=>?_
     refine aU hF hch 12 rfl (by kernel_rfl) rfl rfl rfl c8 rfl rfl fun a hF=>?_
     refine aU hF hch 13 rfl (by kernel_rfl) rfl rfl rfl c8 rfl rfl fun a hF=>?_
     refine aU hF hch 14 rfl (by kernel_rfl) rfl rfl rfl c8 rfl rfl fun a hF=>?_
     refine aU hF hch 15 rfl (by kernel_rfl) rfl rfl rfl c8 rfl rfl fun a hF=>?_
     refine aU hF hch 16 rfl (by kernel_rfl) rfl rfl rfl c8 rfl rfl fun a hF=>?_
     refine aK hF hch 17 rfl (by kernel_rfl) rfl rfl rfl (fun w hM=>(aV hF rfl rfl c8 rfl)) fun a hF=>?_
     refine bY hch (by kernel_rfl) fun w hM=>?_
     refine aB ?_
     have hP:=Option.some.inj hP
     subst hP
     exact ⟨false,rfl,hF.to ⟨rfl,rfl,rfl,rfl,rfl,rfl,rfl,rfl,rfl,rfl,rfl,trivial⟩,hM⟩
    rintro z8 a w hP ⟨hF,hM⟩
    replace hP:Sh.jG x0 x1 x2 c3 n4 d4 z8 = _:=hP
    unfold Sh.jG at hP
    refine aB ?_
    refine aS hF (c:=.tmp 39) rfl (fun u5=>?_) (fun u5=>?_)
    ·have hP:=Fx.cT u5 hP
     refine aG ?_
     refine aT hF hM hP (fun F x a w=>match x with | (u3,u0)=>∃ (t8:SV) (n8:List RPiece) (t6:Res) (p8:SV) (p5:SV) (p3:List UInt8) (p0:List UInt8),LastP u0 t6.holds' n8 u3 p8 p5 p3 p0 ∧ Fr 88 [(7,(t8).v),(0,.int .i64 x0),(1,(s1).v),(13,(c6).v),(14,.int .i64 (c5.length:Int)),(15,.int .i64 j7),(2,(s3).v),(6,(SV.nil).v),(9,.int .i64 d4)] a ∧ MemL w (rowL 0 t8 156 n8 :: rowL 0 p8 5 p3 :: rowL 0 p5 5 p0 :: t6 :: rowL 0 c6 3 c5 :: Lr)) (fun c99 hP c95 hF hM=>?_) ?_
     ·refine bR mixed (by kernel_rfl) hM [0,2,3,4] 5 rfl fun hch=>?_
      refine aK hF hch 0 rfl (by kernel_rfl) rfl rfl rfl (fun w hM=>(aF hF rfl rfl)) fun a hF=>?_
      refine aK hF hch 1 rfl (by kernel_rfl) rfl rfl rfl (fun w hM=>(aF hF rfl rfl)) fun a hF=>?_
      refine aK hF hch 2 rfl (by kernel_rfl) rfl rfl rfl (fun w hM=>(aF hF rfl rfl)) fun a hF=>?_
      refine aK hF hch 3 rfl (by kernel_rfl) rfl rfl rfl (fun w hM=>(aF hF rfl rfl)) fun a hF=>?_
      refine aK hF hch 4 rfl (by kernel_rfl) rfl rfl rfl (fun w hM=>(aF hF rfl rfl)) fun a hF=>?_
      refine aK hF hch 5 rfl (by kernel_rfl) rfl rfl rfl (fun w hM=>(aF hF rfl rfl)) fun a hF=>?_
      obtain ⟨z9,m0,hP⟩:=bind_some hP
      have c38:=aM m0
      have c12:Each (QPieceIn (fun w=>(c4).holds' w ∧ (rowL 0 d3 5 d6).holds' w ∧ (rowL 0 c9 5 d1).holds' w)) c0 c3:=LastP.each d9 (fun _ h=>h.1) (fun _ h=>dL (X:=UInt8) (e:=5) h.2.1) (fun _ h=>dL (X:=UInt8) (e:=5) h.2.2)
      obtain ⟨c77,m9,c52⟩:=Each.getr c12 c38.2
      have c46:=Each.bd c12 (bL m0)
      obtain ⟨m6,c90,rfl,c82,c83⟩:=c52
      refine aK hF hch 6 rfl (by kernel_rfl) rfl rfl rfl (fun w hM=>(aY (sz:=4) (hM.rowS (X:=RPiece) (i:=0) rfl) qU58 in156 rfl hF rfl rfl rfl c46)) fun a hF=>?_
      refine aK hF hch 7 rfl (by kernel_rfl) rfl rfl rfl (fun w hM=>(aC qU156 rfl in23 rfl hF rfl rfl rfl)) fun a hF=>?_
      refine aK hF hch 8 rfl (by kernel_rfl) rfl rfl rfl (fun w hM=>(aJ qA23 hF rfl rfl ((((hM.rowS (X:=RPiece) (i:=0) rfl).elemS m9)).get 2 (RPiece.g_old _)))) fun a hF=>?_
      refine aK hF hch 9 rfl (by kernel_rfl) rfl rfl rfl (fun w hM=>(aF hF rfl rfl)) fun a hF=>?_
      refine aK hF hch 10 rfl (by kernel_rfl) rfl rfl rfl (fun w hM=>(aF hF rfl rfl)) fun a hF=>?_
      obtain ⟨g4,c18,hP⟩:=bind_some hP
      have c39:=aM c18
      refine aK hF hch 11 rfl (by kernel_rfl) rfl rfl rfl (fun w hM=>(aY (sz:=1) (f2 _ (hsub _ (dropM hM 4))) qU23 in5 rfl hF rfl rfl rfl (bL c18))) fun a hF=>?_
      refine aK hF hch 12 rfl (by kernel_rfl) rfl rfl rfl (fun w hM=>(aJ qA5 hF rfl rfl ((((f2 _ (hsub _ (dropM hM 4))).elemS c39.2)).get 0 rfl))) fun a hF=>?_
      refine aK hF hch 15 rfl (by kernel_rfl) rfl rfl rfl (fun w hM=>(aF hF rfl rfl)) fun a hF=>?_
      refine aK hF hch 16 rfl (by kernel_rfl) rfl rfl rfl (fun w hM=>(aF hF rfl rfl)) fun a hF=>?_
      obtain ⟨m8,m1,hP⟩:=bind_some hP
      have c40:=aM m1
      have c13:Each (QPieceIn (fun w=>(c4).holds' w ∧ (rowL 0 d3 5 d6).holds' w ∧ (rowL 0 c9 5 d1).holds' w)) c0 c3:=LastP.each d9 (fun _ h=>h.1) (fun _ h=>dL (X:=UInt8) (e:=5) h.2.1) (fun _ h=>dL (X:=UInt8) (e:=5) h.2.2)
      obtain ⟨c78,n0,c53⟩:=Each.getr c13 c40.2
      have c47:=Each.bd c13 (bL m1)
      obtain ⟨c91,j3,rfl,c84,c85⟩:=c53
      refine aK hF hch 17 rfl (by kernel_rfl) rfl rfl rfl (fun w hM=>(aY (sz:=4) (hM.rowS (X:=RPiece) (i:=0) rfl) qU58 in156 rfl hF rfl rfl rfl c47)) fun a hF=>?_
      refine aK hF hch 18 rfl (by kernel_rfl) rfl rfl rfl (fun w hM=>(aC qU156 rfl in23 rfl hF rfl rfl rfl)) fun a hF=>?_
      refine aK hF hch 19 rfl (by kernel_rfl) rfl rfl rfl (fun w hM=>(aJ qA23 hF rfl rfl ((((hM.rowS (X:=RPiece) (i:=0) rfl).elemS n0)).get 3 (RPiece.g_new _)))) fun a hF=>?_
      refine aK hF hch 20 rfl (by kernel_rfl) rfl rfl rfl (fun w hM=>(aF hF rfl rfl)) fun a hF=>?_
      refine aK hF hch 21 rfl (by kernel_rfl) rfl rfl rfl (fun w hM=>(aF hF rfl rfl)) fun a hF=>?_
      obtain ⟨g5,c19,hP⟩:=bind_some hP
      have c41:=aM c19
      refine aK hF hch 22 rfl (by kernel_rfl) rfl rfl rfl (fun w hM=>(aY (sz:=1) (f4 _ (hsub _ (dropM hM 4))) qU23 in5 rfl hF rfl rfl rfl (bL c19))) fun a hF=>?_
      refine aK hF hch 23 rfl (by kernel_rfl) rfl rfl rfl (fun w hM=>(aJ qA5 hF rfl rfl ((((f4 _ (hsub _ (dropM hM 4))).elemS c41.2)).get 0 rfl))) fun a hF=>?_
      refine jN hch 13 24 (by kernel_rfl) rfl rfl ?_ ?_
      ·refine cB hF 13 rfl rfl rfl rfl rfl fun w hMs hM=>?_
       refine (cI (X:=UInt8) (y:=g4) qU23 in5 rfl rfl rfl rfl hF rfl rfl rfl fun d7 w c54 p9=>?_)
       have hM:=hM.plus p9
       replace hM:MemL _ (pt d7 (encs ([g4]:List UInt8)) 5 :: rowL 0 d0 156 c0 :: rowL 0 d3 5 d6 :: rowL 0 c9 5 d1 :: c4 :: rowL 0 c6 3 c5 :: Lr):=hM
       have hMs:=selM hM [0,1,3,4,5] 6 rfl
       refine ⟨_,_,hMs,hM,.inl fun _ h=>dropM h 1,fun a hF=>?_⟩
       refine jN hch 14 24 (by kernel_rfl) rfl rfl ?_ ?_
       ·refine cB hF 14 rfl rfl rfl rfl rfl fun w hMs hM=>?_
        have j4:=d9
        obtain ⟨l1,hP⟩:=cH hP
        rw [l1] at j4
        obtain ⟨l2,hP⟩:=cH hP
        obtain ⟨g8,_,n1,_,_,_⟩:=LastP.last j4 (of_decide_eq_true l2) m0 m9
        have g8:m6 = d3:=g8
        subst g8 n1
        obtain ⟨d2,m2,hP⟩:=bind_some hP
        refine (dB (X:=UInt8) m2 qU23 in5 rfl rfl rfl rfl hF rfl rfl rfl (hM.own (X:=UInt8) (i:=2) rfl) (hM.ptS (X:=UInt8) (i:=0) (n:=1) (c:=1) rfl rfl rfl (Nat.le_refl _)) fun c7 w k2=>?_)
        have hM:=hM.chg k2 (i:=2) rfl
        replace hM:MemL _ (pt d7 (encs ([g4]:List UInt8)) 5 :: rowL 0 d0 156 c0 :: rowL 0 c7 5 d2 :: rowL 0 c9 5 d1 :: c4 :: rowL 0 c6 3 c5 :: Lr):=hM
        have hMs:=selM hM [0,1,3,4,5] 6 rfl
        refine ⟨_,_,hMs,hM,.inl fun _ h=>h,fun a hF=>?_⟩
        refine bH hch 24 (by kernel_rfl) rfl rfl ?_
        refine cB hF 24 rfl rfl rfl rfl rfl fun w hMs hM=>?_
        refine (cI (X:=UInt8) (y:=g5) qU23 in5 rfl rfl rfl rfl hF rfl rfl rfl fun d8 w z1 k1=>?_)
        have hM:=hM.plus k1
        replace hM:MemL _ (pt d8 (encs ([g5]:List UInt8)) 5 :: pt d7 (encs ([g4]:List UInt8)) 5 :: rowL 0 d0 156 c0 :: rowL 0 c7 5 d2 :: rowL 0 c9 5 d1 :: c4 :: rowL 0 c6 3 c5 :: Lr):=hM
        have hMs:=selM hM [0,1,2,4,5,6] 7 rfl
        refine ⟨_,_,hMs,hM,.inl fun _ h=>dropM h 1,fun a hF=>?_⟩
        refine bH hch 25 (by kernel_rfl) rfl rfl ?_
        refine cB hF 25 rfl rfl rfl rfl rfl fun w hMs hM=>?_
        have j5:=d9
        obtain ⟨l3,hP⟩:=cH hP
        rw [l3] at j5
        obtain ⟨l4,hP⟩:=cH hP
        obtain ⟨_,g9,_,n2,_,_⟩:=LastP.last j5 (of_decide_eq_true l4) m1 n0
        have g9:j3 = c9:=g9
        subst g9 n2
        obtain ⟨g0,m3,hP⟩:=bind_some hP
        refine (dB (X:=UInt8) m3 qU23 in5 rfl rfl rfl rfl hF rfl rfl rfl (hM.own (X:=UInt8) (i:=4) rfl) (hM.ptS (X:=UInt8) (i:=0) (n:=1) (c:=1) rfl rfl rfl (Nat.le_refl _)) fun d5 w k3=>?_)
        have hM:=hM.chg k3 (i:=4) rfl
        replace hM:MemL _ (pt d8 (encs ([g5]:List UInt8)) 5 :: pt d7 (encs ([g4]:List UInt8)) 5 :: rowL 0 d0 156 c0 :: rowL 0 c7 5 d2 :: rowL 0 d5 5 g0 :: c4 :: rowL 0 c6 3 c5 :: Lr):=hM
        have hMs:=selM hM [0,1,2,4,5,6] 7 rfl
        refine ⟨_,_,hMs,hM,.inr (by kernel_rfl),fun a hF=>?_⟩
        obtain ⟨c33,i9,hP⟩:=bind_some hP
        have j9:=aM i9
        have i6:Each (QPieceIn (fun w=>(c4).holds' w ∧ (rowL 0 m6 5 z9.old).holds' w ∧ (rowL 0 j3 5 m8.new).holds' w)) c0 c3:=LastP.each d9 (fun _ h=>h.1) (fun _ h=>dL (X:=UInt8) (e:=5) h.2.1) (fun _ h=>dL (X:=UInt8) (e:=5) h.2.2)
        obtain ⟨c22,u9,k6⟩:=Each.getr i6 j9.2
        have k4:=Each.bd i6 (bL i9)
        obtain ⟨c29,c30,rfl,c24,c25⟩:=k6
        refine aK hF hch 26 rfl (by kernel_rfl) rfl rfl rfl (fun w hM=>(aY (sz:=4) (hM.rowS (X:=RPiece) (i:=2) rfl) qU58 in156 rfl hF rfl rfl rfl k4)) fun a hF=>?_
        refine aK hF hch 27 rfl (by kernel_rfl) rfl rfl rfl (fun w hM=>(aC qU156 rfl in23 rfl hF rfl rfl rfl)) fun a hF=>?_
        refine bH hch 28 (by kernel_rfl) rfl rfl ?_
        refine dK 28 rfl rfl rfl rfl fun w hMs hM=>?_
        obtain ⟨j8,j0,hP⟩:=bind_some hP
        have i2:=d9
        obtain ⟨l5,hP⟩:=cH hP
        rw [l5] at i2
        obtain ⟨l6,hP⟩:=cH hP
        obtain ⟨g1,i0⟩:=LastP.getr i2 j0
        have j6:=LastP.setOld (so':=c7) (lo':=d2) (i2) (of_decide_eq_true l6) j0 i0
        refine (eT (d:=2) (q:=({ g1 with old:=c7 }:RPiece)) qS23 (hM.own (X:=RPiece) (i:=2) rfl) i0 hF rfl rfl (Nat.add_assoc _ _ _) rfl rfl (by decide) (RPiece.s_old _ _) fun w k9=>?_)
        have hM:=hM.chg k9 (i:=2) rfl
        replace hM:MemL _ (pt d8 (encs ([g5]:List UInt8)) 5 :: pt d7 (encs ([g4]:List UInt8)) 5 :: rowL 0 d0 156 (c0.set ((IntKind.i64.wrap ((c3.length:Int) - 1)):Int).toNat { g1 with old:=c7 }) :: rowL 0 c7 5 d2 :: rowL 0 d5 5 g0 :: c4 :: rowL 0 c6 3 c5 :: Lr):=hM
        have hMs:=selM hM [0,1,2,4,5,6] 7 rfl
        refine ⟨_,_,hMs,hM,.inr (by kernel_rfl),?_⟩
        obtain ⟨c34,j1,hP⟩:=bind_some hP
        have k0:=aM j1
        have i7:Each (QPieceIn (fun w=>(c4).holds' w ∧ (rowL 0 c7 5 d2).holds' w ∧ (rowL 0 j3 5 m8.new).holds' w)) (c0.set ((IntKind.i64.wrap ((c3.length:Int) - 1)):Int).toNat { g1 with old:=c7 }) (c3.set ((IntKind.i64.wrap ((c3.length:Int) - 1)):Int).toNat { j8 with old:=d2 }):=LastP.each j6 (fun _ h=>h.1) (fun _ h=>dL (X:=UInt8) (e:=5) h.2.1) (fun _ h=>dL (X:=UInt8) (e:=5) h.2.2)
        obtain ⟨c23,z0,k7⟩:=Each.getr i7 k0.2
        have k5:=Each.bd i7 (bL j1)
        obtain ⟨c31,c32,rfl,c26,c27⟩:=k7
        refine aK hF hch 29 rfl (by kernel_rfl) rfl rfl rfl (fun w hM=>(aY (sz:=4) (hM.rowS (X:=RPiece) (i:=2) rfl) qU58 in156 rfl hF rfl rfl rfl k5)) fun a hF=>?_
        refine aK hF hch 30 rfl (by kernel_rfl) rfl rfl rfl (fun w hM=>(aC qU156 rfl in23 rfl hF rfl rfl rfl)) fun a hF=>?_
        refine bH hch 31 (by kernel_rfl) rfl rfl ?_
        refine dK 31 rfl rfl rfl rfl fun w hMs hM=>?_
        obtain ⟨n5,j2,hP⟩:=bind_some hP
        have i3:=j6
        obtain ⟨l7,hP⟩:=cH hP
        rw [l7] at i3
        obtain ⟨l8,hP⟩:=cH hP
        obtain ⟨g7,i1⟩:=LastP.getr i3 j2
        have n3:=LastP.setNew (sn':=d5) (ln':=g0) (i3) (of_decide_eq_true l8) j2 i1
        refine (eT (d:=3) (q:=({ g7 with new:=d5 }:RPiece)) qS23 (hM.own (X:=RPiece) (i:=2) rfl) i1 hF rfl rfl (Nat.add_assoc _ _ _) rfl rfl (by decide) (RPiece.s_new _ _) fun w l0=>?_)
        have hM:=hM.chg l0 (i:=2) rfl
        replace hM:MemL _ (pt d8 (encs ([g5]:List UInt8)) 5 :: pt d7 (encs ([g4]:List UInt8)) 5 :: rowL 0 d0 156 ((c0.set ((IntKind.i64.wrap ((c3.length:Int) - 1)):Int).toNat { g1 with old:=c7 }).set ((IntKind.i64.wrap ((c3.length:Int) - 1)):Int).toNat { g7 with new:=d5 }) :: rowL 0 c7 5 d2 :: rowL 0 d5 5 g0 :: c4 :: rowL 0 c6 3 c5 :: Lr):=hM
        have hMs:=selM hM [0,1,2,4,5,6] 7 rfl
        refine ⟨_,_,hMs,hM,.inr (by kernel_rfl),?_⟩
        refine bY hch (by kernel_rfl) fun w hM=>?_
        refine aB ?_
        have hP:=Option.some.inj hP
        subst hP
        exact ⟨(((c3.set ((IntKind.i64.wrap ((c3.length:Int) - 1)):Int).toNat { j8 with old:=d2 }).set ((IntKind.i64.wrap ((c3.length:Int) - 1)):Int).toNat { n5 with new:=g0 }),true),rfl,d0,((c0.set ((IntKind.i64.wrap ((c3.length:Int) - 1)):Int).toNat { g1 with old:=c7 }).set ((IntKind.i64.wrap ((c3.length:Int) - 1)):Int).toNat { g7 with new:=d5 }),c4,c7,d5,d2,g0,n3,hF.to ⟨rfl,rfl,rfl,rfl,rfl,rfl,rfl,rfl,rfl,trivial⟩,selM hM [2,3,4,5,6] 7 rfl⟩
       refine cB hF 24 rfl rfl rfl rfl rfl fun w hMs hM=>?_
       refine (cI (X:=UInt8) (y:=g5) qU23 in5 rfl rfl rfl rfl hF rfl rfl rfl fun d8 w z1 k1=>?_)
       have hM:=hM.plus k1
       replace hM:MemL _ (pt d8 (encs ([g5]:List UInt8)) 5 :: pt d7 (encs ([g4]:List UInt8)) 5 :: rowL 0 d0 156 c0 :: rowL 0 d3 5 d6 :: rowL 0 c9 5 d1 :: c4 :: rowL 0 c6 3 c5 :: Lr):=hM
       have hMs:=selM hM [0,1,2,4,5,6] 7 rfl
       refine ⟨_,_,hMs,hM,.inl fun _ h=>dropM h 1,fun a hF=>?_⟩
       refine bH hch 14 (by kernel_rfl) rfl rfl ?_
       refine cB hF 14 rfl rfl rfl rfl rfl fun w hMs hM=>?_
       have j4:=d9
       obtain ⟨l1,hP⟩:=cH hP
       rw [l1] at j4
       obtain ⟨l2,hP⟩:=cH hP
       obtain ⟨g8,_,n1,_,_,_⟩:=LastP.last j4 (of_decide_eq_true l2) m0 m9
       have g8:m6 = d3:=g8
       subst g8 n1
       obtain ⟨d2,m2,hP⟩:=bind_some hP
       refine (dB (X:=UInt8) m2 qU23 in5 rfl rfl rfl rfl hF rfl rfl rfl (hM.own (X:=UInt8) (i:=3) rfl) (hM.ptS (X:=UInt8) (i:=1) (n:=1) (c:=1) rfl rfl rfl (Nat.le_refl _)) fun c7 w k2=>?_)
       have hM:=hM.chg k2 (i:=3) rfl
       replace hM:MemL _ (pt d8 (encs ([g5]:List UInt8)) 5 :: pt d7 (encs ([g4]:List UInt8)) 5 :: rowL 0 d0 156 c0 :: rowL 0 c7 5 d2 :: rowL 0 c9 5 d1 :: c4 :: rowL 0 c6 3 c5 :: Lr):=hM
       have hMs:=selM hM [0,1,2,4,5,6] 7 rfl
       refine ⟨_,_,hMs,hM,.inl fun _ h=>h,fun a hF=>?_⟩
       refine bH hch 25 (by kernel_rfl) rfl rfl ?_
       refine cB hF 25 rfl rfl rfl rfl rfl fun w hMs hM=>?_
       have j5:=d9
       obtain ⟨l3,hP⟩:=cH hP
       rw [l3] at j5
       obtain ⟨l4,hP⟩:=cH hP
       obtain ⟨_,g9,_,n2,_,_⟩:=LastP.last j5 (of_decide_eq_true l4) m1 n0
       have g9:j3 = c9:=g9
       subst g9 n2
       obtain ⟨g0,m3,hP⟩:=bind_some hP
       refine (dB (X:=UInt8) m3 qU23 in5 rfl rfl rfl rfl hF rfl rfl rfl (hM.own (X:=UInt8) (i:=4) rfl) (hM.ptS (X:=UInt8) (i:=0) (n:=1) (c:=1) rfl rfl rfl (Nat.le_refl _)) fun d5 w k3=>?_)
       have hM:=hM.chg k3 (i:=4) rfl
       replace hM:MemL _ (pt d8 (encs ([g5]:List UInt8)) 5 :: pt d7 (encs ([g4]:List UInt8)) 5 :: rowL 0 d0 156 c0 :: rowL 0 c7 5 d2 :: rowL 0 d5 5 g0 :: c4 :: rowL 0 c6 3 c5 :: Lr):=hM
       have hMs:=selM hM [0,1,2,4,5,6] 7 rfl
       refine ⟨_,_,hMs,hM,.inr (by kernel_rfl),fun a hF=>?_⟩
       obtain ⟨c33,i9,hP⟩:=bind_some hP
       have j9:=aM i9
       have i6:Each (QPieceIn (fun w=>(c4).holds' w ∧ (rowL 0 m6 5 z9.old).holds' w ∧ (rowL 0 j3 5 m8.new).holds' w)) c0 c3:=LastP.each d9 (fun _ h=>h.1) (fun _ h=>dL (X:=UInt8) (e:=5) h.2.1) (fun _ h=>dL (X:=UInt8) (e:=5) h.2.2)
       obtain ⟨c22,u9,k6⟩:=Each.getr i6 j9.2
       have k4:=Each.bd i6 (bL i9)
       obtain ⟨c29,c30,rfl,c24,c25⟩:=k6
       refine aK hF hch 26 rfl (by kernel_rfl) rfl rfl rfl (fun w hM=>(aY (sz:=4) (hM.rowS (X:=RPiece) (i:=2) rfl) qU58 in156 rfl hF rfl rfl rfl k4)) fun a hF=>?_
       refine aK hF hch 27 rfl (by kernel_rfl) rfl rfl rfl (fun w hM=>(aC qU156 rfl in23 rfl hF rfl rfl rfl)) fun a hF=>?_
       refine bH hch 28 (by kernel_rfl) rfl rfl ?_
       refine dK 28 rfl rfl rfl rfl fun w hMs hM=>?_
       obtain ⟨j8,j0,hP⟩:=bind_some hP
       have i2:=d9
       obtain ⟨l5,hP⟩:=cH hP
       rw [l5] at i2
       obtain ⟨l6,hP⟩:=cH hP
       obtain ⟨g1,i0⟩:=LastP.getr i2 j0
       have j6:=LastP.setOld (so':=c7) (lo':=d2) (i2) (of_decide_eq_true l6) j0 i0
       refine (eT (d:=2) (q:=({ g1 with old:=c7 }:RPiece)) qS23 (hM.own (X:=RPiece) (i:=2) rfl) i0 hF rfl rfl (Nat.add_assoc _ _ _) rfl rfl (by decide) (RPiece.s_old _ _) fun w k9=>?_)
       have hM:=hM.chg k9 (i:=2) rfl
       replace hM:MemL _ (pt d8 (encs ([g5]:List UInt8)) 5 :: pt d7 (encs ([g4]:List UInt8)) 5 :: rowL 0 d0 156 (c0.set ((IntKind.i64.wrap ((c3.length:Int) - 1)):Int).toNat { g1 with old:=c7 }) :: rowL 0 c7 5 d2 :: rowL 0 d5 5 g0 :: c4 :: rowL 0 c6 3 c5 :: Lr):=hM
       have hMs:=selM hM [0,1,2,4,5,6] 7 rfl
       refine ⟨_,_,hMs,hM,.inr (by kernel_rfl),?_⟩
       obtain ⟨c34,j1,hP⟩:=bind_some hP
       have k0:=aM j1
       have i7:Each (QPieceIn (fun w=>(c4).holds' w ∧ (rowL 0 c7 5 d2).holds' w ∧ (rowL 0 j3 5 m8.new).holds' w)) (c0.set ((IntKind.i64.wrap ((c3.length:Int) - 1)):Int).toNat { g1 with old:=c7 }) (c3.set ((IntKind.i64.wrap ((c3.length:Int) - 1)):Int).toNat { j8 with old:=d2 }):=LastP.each j6 (fun _ h=>h.1) (fun _ h=>dL (X:=UInt8) (e:=5) h.2.1) (fun _ h=>dL (X:=UInt8) (e:=5) h.2.2)
       obtain ⟨c23,z0,k7⟩:=Each.getr i7 k0.2
       have k5:=Each.bd i7 (bL j1)
       obtain ⟨c31,c32,rfl,c26,c27⟩:=k7
       refine aK hF hch 29 rfl (by kernel_rfl) rfl rfl rfl (fun w hM=>(aY (sz:=4) (hM.rowS (X:=RPiece) (i:=2) rfl) qU58 in156 rfl hF rfl rfl rfl k5)) fun a hF=>?_
       refine aK hF hch 30 rfl (by kernel_rfl) rfl rfl rfl (fun w hM=>(aC qU156 rfl in23 rfl hF rfl rfl rfl)) fun a hF=>?_
       refine bH hch 31 (by kernel_rfl) rfl rfl ?_
       refine dK 31 rfl rfl rfl rfl fun w hMs hM=>?_
       obtain ⟨n5,j2,hP⟩:=bind_some hP
       have i3:=j6
       obtain ⟨l7,hP⟩:=cH hP
       rw [l7] at i3
       obtain ⟨l8,hP⟩:=cH hP
       obtain ⟨g7,i1⟩:=LastP.getr i3 j2
       have n3:=LastP.setNew (sn':=d5) (ln':=g0) (i3) (of_decide_eq_true l8) j2 i1
       refine (eT (d:=3) (q:=({ g7 with new:=d5 }:RPiece)) qS23 (hM.own (X:=RPiece) (i:=2) rfl) i1 hF rfl rfl (Nat.add_assoc _ _ _) rfl rfl (by decide) (RPiece.s_new _ _) fun w l0=>?_)
       have hM:=hM.chg l0 (i:=2) rfl
       replace hM:MemL _ (pt d8 (encs ([g5]:List UInt8)) 5 :: pt d7 (encs ([g4]:List UInt8)) 5 :: rowL 0 d0 156 ((c0.set ((IntKind.i64.wrap ((c3.length:Int) - 1)):Int).toNat { g1 with old:=c7 }).set ((IntKind.i64.wrap ((c3.length:Int) - 1)):Int).toNat { g7 with new:=d5 }) :: rowL 0 c7 5 d2 :: rowL 0 d5 5 g0 :: c4 :: rowL 0 c6 3 c5 :: Lr):=hM
       have hMs:=selM hM [0,1,2,4,5,6] 7 rfl
       refine ⟨_,_,hMs,hM,.inr (by kernel_rfl),?_⟩
       refine bY hch (by kernel_rfl) fun w hM=>?_
       refine aB ?_
       have hP:=Option.some.inj hP
       subst hP
       exact ⟨(((c3.set ((IntKind.i64.wrap ((c3.length:Int) - 1)):Int).toNat { j8 with old:=d2 }).set ((IntKind.i64.wrap ((c3.length:Int) - 1)):Int).toNat { n5 with new:=g0 }),true),rfl,d0,((c0.set ((IntKind.i64.wrap ((c3.length:Int) - 1)):Int).toNat { g1 with old:=c7 }).set ((IntKind.i64.wrap ((c3.length:Int) - 1)):Int).toNat { g7 with new:=d5 }),c4,c7,d5,d2,g0,n3,hF.to ⟨rfl,rfl,rfl,rfl,rfl,rfl,rfl,rfl,rfl,trivial⟩,selM hM [2,3,4,5,6] 7 rfl⟩
      refine cB hF 24 rfl rfl rfl rfl rfl fun w hMs hM=>?_
      refine (cI (X:=UInt8) (y:=g5) qU23 in5 rfl rfl rfl rfl hF rfl rfl rfl fun d8 w z1 k1=>?_)
      have hM:=hM.plus k1
      replace hM:MemL _ (pt d8 (encs ([g5]:List UInt8)) 5 :: rowL 0 d0 156 c0 :: rowL 0 d3 5 d6 :: rowL 0 c9 5 d1 :: c4 :: rowL 0 c6 3 c5 :: Lr):=hM
      have hMs:=selM hM [0,1,3,4,5] 6 rfl
      refine ⟨_,_,hMs,hM,.inl fun _ h=>dropM h 1,fun a hF=>?_⟩
      refine bH hch 13 (by kernel_rfl) rfl rfl ?_
      refine cB hF 13 rfl rfl rfl rfl rfl fun w hMs hM=>?_
      refine (cI (X:=UInt8) (y:=g4) qU23 in5 rfl rfl rfl rfl hF rfl rfl rfl fun d7 w c54 p9=>?_)
      have hM:=hM.plus p9
      replace hM:MemL _ (pt d7 (encs ([g4]:List UInt8)) 5 :: pt d8 (encs ([g5]:List UInt8)) 5 :: rowL 0 d0 156 c0 :: rowL 0 d3 5 d6 :: rowL 0 c9 5 d1 :: c4 :: rowL 0 c6 3 c5 :: Lr):=hM
      have hMs:=selM hM [0,1,2,4,5,6] 7 rfl
      refine ⟨_,_,hMs,hM,.inl fun _ h=>dropM h 1,fun a hF=>?_⟩
      refine bH hch 14 (by kernel_rfl) rfl rfl ?_
      refine cB hF 14 rfl rfl rfl rfl rfl fun w hMs hM=>?_
      have j4:=d9
      obtain ⟨l1,hP⟩:=cH hP
      rw [l1] at j4
      obtain ⟨l2,hP⟩:=cH hP
      obtain ⟨g8,_,n1,_,_,_⟩:=LastP.last j4 (of_decide_eq_true l2) m0 m9
      have g8:m6 = d3:=g8
      subst g8 n1
      obtain ⟨d2,m2,hP⟩:=bind_some hP
      refine (dB (X:=UInt8) m2 qU23 in5 rfl rfl rfl rfl hF rfl rfl rfl (hM.own (X:=UInt8) (i:=3) rfl) (hM.ptS (X:=UInt8) (i:=0) (n:=1) (c:=1) rfl rfl rfl (Nat.le_refl _)) fun c7 w k2=>?_)
      have hM:=hM.chg k2 (i:=3) rfl
      replace hM:MemL _ (pt d7 (encs ([g4]:List UInt8)) 5 :: pt d8 (encs ([g5]:List UInt8)) 5 :: rowL 0 d0 156 c0 :: rowL 0 c7 5 d2 :: rowL 0 c9 5 d1 :: c4 :: rowL 0 c6 3 c5 :: Lr):=hM
      have hMs:=selM hM [0,1,2,4,5,6] 7 rfl
      refine ⟨_,_,hMs,hM,.inl fun _ h=>h,fun a hF=>?_⟩
      refine bH hch 25 (by kernel_rfl) rfl rfl ?_
      refine cB hF 25 rfl rfl rfl rfl rfl fun w hMs hM=>?_
      have j5:=d9
      obtain ⟨l3,hP⟩:=cH hP
      rw [l3] at j5
      obtain ⟨l4,hP⟩:=cH hP
      obtain ⟨_,g9,_,n2,_,_⟩:=LastP.last j5 (of_decide_eq_true l4) m1 n0
      have g9:j3 = c9:=g9
      subst g9 n2
      obtain ⟨g0,m3,hP⟩:=bind_some hP
      refine (dB (X:=UInt8) m3 qU23 in5 rfl rfl rfl rfl hF rfl rfl rfl (hM.own (X:=UInt8) (i:=4) rfl) (hM.ptS (X:=UInt8) (i:=1) (n:=1) (c:=1) rfl rfl rfl (Nat.le_refl _)) fun d5 w k3=>?_)
      have hM:=hM.chg k3 (i:=4) rfl
      replace hM:MemL _ (pt d7 (encs ([g4]:List UInt8)) 5 :: pt d8 (encs ([g5]:List UInt8)) 5 :: rowL 0 d0 156 c0 :: rowL 0 c7 5 d2 :: rowL 0 d5 5 g0 :: c4 :: rowL 0 c6 3 c5 :: Lr):=hM
      have hMs:=selM hM [0,1,2,4,5,6] 7 rfl
      refine ⟨_,_,hMs,hM,.inr (by kernel_rfl),fun a hF=>?_⟩
      obtain ⟨c33,i9,hP⟩:=bind_some hP
      have j9:=aM i9
      have i6:Each (QPieceIn (fun w=>(c4).holds' w ∧ (rowL 0 m6 5 z9.old).holds' w ∧ (rowL 0 j3 5 m8.new).holds' w)) c0 c3:=LastP.each d9 (fun _ h=>h.1) (fun _ h=>dL (X:=UInt8) (e:=5) h.2.1) (fun _ h=>dL (X:=UInt8) (e:=5) h.2.2)
      obtain ⟨c22,u9,k6⟩:=Each.getr i6 j9.2
      have k4:=Each.bd i6 (bL i9)
      obtain ⟨c29,c30,rfl,c24,c25⟩:=k6
      refine aK hF hch 26 rfl (by kernel_rfl) rfl rfl rfl (fun w hM=>(aY (sz:=4) (hM.rowS (X:=RPiece) (i:=2) rfl) qU58 in156 rfl hF rfl rfl rfl k4)) fun a hF=>?_
      refine aK hF hch 27 rfl (by kernel_rfl) rfl rfl rfl (fun w hM=>(aC qU156 rfl in23 rfl hF rfl rfl rfl)) fun a hF=>?_
      refine bH hch 28 (by kernel_rfl) rfl rfl ?_
      refine dK 28 rfl rfl rfl rfl fun w hMs hM=>?_
      obtain ⟨j8,j0,hP⟩:=bind_some hP
      have i2:=d9
      obtain ⟨l5,hP⟩:=cH hP
      rw [l5] at i2
      obtain ⟨l6,hP⟩:=cH hP
      obtain ⟨g1,i0⟩:=LastP.getr i2 j0
      have j6:=LastP.setOld (so':=c7) (lo':=d2) (i2) (of_decide_eq_true l6) j0 i0
      refine (eT (d:=2) (q:=({ g1 with old:=c7 }:RPiece)) qS23 (hM.own (X:=RPiece) (i:=2) rfl) i0 hF rfl rfl (Nat.add_assoc _ _ _) rfl rfl (by decide) (RPiece.s_old _ _) fun w k9=>?_)
      have hM:=hM.chg k9 (i:=2) rfl
      replace hM:MemL _ (pt d7 (encs ([g4]:List UInt8)) 5 :: pt d8 (encs ([g5]:List UInt8)) 5 :: rowL 0 d0 156 (c0.set ((IntKind.i64.wrap ((c3.length:Int) - 1)):Int).toNat { g1 with old:=c7 }) :: rowL 0 c7 5 d2 :: rowL 0 d5 5 g0 :: c4 :: rowL 0 c6 3 c5 :: Lr):=hM
      have hMs:=selM hM [0,1,2,4,5,6] 7 rfl
      refine ⟨_,_,hMs,hM,.inr (by kernel_rfl),?_⟩
      obtain ⟨c34,j1,hP⟩:=bind_some hP
      have k0:=aM j1
      have i7:Each (QPieceIn (fun w=>(c4).holds' w ∧ (rowL 0 c7 5 d2).holds' w ∧ (rowL 0 j3 5 m8.new).holds' w)) (c0.set ((IntKind.i64.wrap ((c3.length:Int) - 1)):Int).toNat { g1 with old:=c7 }) (c3.set ((IntKind.i64.wrap ((c3.length:Int) - 1)):Int).toNat { j8 with old:=d2 }):=LastP.each j6 (fun _ h=>h.1) (fun _ h=>dL (X:=UInt8) (e:=5) h.2.1) (fun _ h=>dL (X:=UInt8) (e:=5) h.2.2)
      obtain ⟨c23,z0,k7⟩:=Each.getr i7 k0.2
      have k5:=Each.bd i7 (bL j1)
      obtain ⟨c31,c32,rfl,c26,c27⟩:=k7
      refine aK hF hch 29 rfl (by kernel_rfl) rfl rfl rfl (fun w hM=>(aY (sz:=4) (hM.rowS (X:=RPiece) (i:=2) rfl) qU58 in156 rfl hF rfl rfl rfl k5)) fun a hF=>?_
      refine aK hF hch 30 rfl (by kernel_rfl) rfl rfl rfl (fun w hM=>(aC qU156 rfl in23 rfl hF rfl rfl rfl)) fun a hF=>?_
      refine bH hch 31 (by kernel_rfl) rfl rfl ?_
      refine dK 31 rfl rfl rfl rfl fun w hMs hM=>?_
      obtain ⟨n5,j2,hP⟩:=bind_some hP
      have i3:=j6
      obtain ⟨l7,hP⟩:=cH hP
      rw [l7] at i3
      obtain ⟨l8,hP⟩:=cH hP
      obtain ⟨g7,i1⟩:=LastP.getr i3 j2
      have n3:=LastP.setNew (sn':=d5) (ln':=g0) (i3) (of_decide_eq_true l8) j2 i1
      refine (eT (d:=3) (q:=({ g7 with new:=d5 }:RPiece)) qS23 (hM.own (X:=RPiece) (i:=2) rfl) i1 hF rfl rfl (Nat.add_assoc _ _ _) rfl rfl (by decide) (RPiece.s_new _ _) fun w l0=>?_)
      have hM:=hM.chg l0 (i:=2) rfl
      replace hM:MemL _ (pt d7 (encs ([g4]:List UInt8)) 5 :: pt d8 (encs ([g5]:List UInt8)) 5 :: rowL 0 d0 156 ((c0.set ((IntKind.i64.wrap ((c3.length:Int) - 1)):Int).toNat { g1 with old:=c7 }).set ((IntKind.i64.wrap ((c3.length:Int) - 1)):Int).toNat { g7 with new:=d5 }) :: rowL 0 c7 5 d2 :: rowL 0 d5 5 g0 :: c4 :: rowL 0 c6 3 c5 :: Lr):=hM
      have hMs:=selM hM [0,1,2,4,5,6] 7 rfl
      refine ⟨_,_,hMs,hM,.inr (by kernel_rfl),?_⟩
      refine bY hch (by kernel_rfl) fun w hM=>?_
      refine aB ?_
      have hP:=Option.some.inj hP
      subst hP
      exact ⟨(((c3.set ((IntKind.i64.wrap ((c3.length:Int) - 1)):Int).toNat { j8 with old:=d2 }).set ((IntKind.i64.wrap ((c3.length:Int) - 1)):Int).toNat { n5 with new:=g0 }),true),rfl,d0,((c0.set ((IntKind.i64.wrap ((c3.length:Int) - 1)):Int).toNat { g1 with old:=c7 }).set ((IntKind.i64.wrap ((c3.length:Int) - 1)):Int).toNat { g7 with new:=d5 }),c4,c7,d5,d2,g0,n3,hF.to ⟨rfl,rfl,rfl,rfl,rfl,rfl,rfl,rfl,rfl,trivial⟩,selM hM [2,3,4,5,6] 7 rfl⟩
     rintro ⟨u3,u0⟩ a w hP ⟨t8,n8,t6,p8,p5,p3,p0,c69,hF,hM⟩
     replace hP:Sh.nX u3 u0 = _:=hP
     unfold Sh.nX at hP
     refine aB ?_
     refine bZ (bC (cR ?_))
     refine aB ?_
     have hP:=Option.some.inj hP
     subst hP
     exact ⟨(u3,u0),rfl,t8,n8,t6,p8,p5,p3,p0,c69,hF.to ⟨rfl,rfl,rfl,rfl,rfl,rfl,rfl,rfl,trivial⟩,hM⟩
    have hP:=Fx.cF u5 hP
    refine aW (aB ?_)
    refine bR mixed (by kernel_rfl) hM [0,1,2,3,4] 5 rfl fun hch=>?_
    refine aK hF hch 0 rfl (by kernel_rfl) rfl rfl rfl (fun w hM=>(aF hF rfl rfl)) fun a hF=>?_
    refine aK hF hch 1 rfl (by kernel_rfl) rfl rfl rfl (fun w hM=>(aF hF rfl rfl)) fun a hF=>?_
    refine aK hF hch 2 rfl (by kernel_rfl) rfl rfl rfl (fun w hM=>(aF hF rfl rfl)) fun a hF=>?_
    refine aK hF hch 3 rfl (by kernel_rfl) rfl rfl rfl (fun w hM=>(aF hF rfl rfl)) fun a hF=>?_
    refine aK hF hch 4 rfl (by kernel_rfl) rfl rfl rfl (fun w hM=>(aF hF rfl rfl)) fun a hF=>?_
    obtain ⟨g2,c20,hP⟩:=bind_some hP
    have c42:=aM c20
    refine aK hF hch 5 rfl (by kernel_rfl) rfl rfl rfl (fun w hM=>(aY (sz:=1) (f2 _ (hsub _ (dropM hM 5))) qU23 in5 rfl hF rfl rfl rfl (bL c20))) fun a hF=>?_
    refine aK hF hch 6 rfl (by kernel_rfl) rfl rfl rfl (fun w hM=>(aJ qA5 hF rfl rfl ((((f2 _ (hsub _ (dropM hM 5))).elemS c42.2)).get 0 rfl))) fun a hF=>?_
    refine aK hF hch 8 rfl (by kernel_rfl) rfl rfl rfl (fun w hM=>(aF hF rfl rfl)) fun a hF=>?_
    refine aK hF hch 9 rfl (by kernel_rfl) rfl rfl rfl (fun w hM=>(aF hF rfl rfl)) fun a hF=>?_
    obtain ⟨g3,c21,hP⟩:=bind_some hP
    have c43:=aM c21
    refine aK hF hch 10 rfl (by kernel_rfl) rfl rfl rfl (fun w hM=>(aY (sz:=1) (f4 _ (hsub _ (dropM hM 5))) qU23 in5 rfl hF rfl rfl rfl (bL c21))) fun a hF=>?_
    refine aK hF hch 11 rfl (by kernel_rfl) rfl rfl rfl (fun w hM=>(aJ qA5 hF rfl rfl ((((f4 _ (hsub _ (dropM hM 5))).elemS c43.2)).get 0 rfl))) fun a hF=>?_
    refine jN hch 7 12 (by kernel_rfl) rfl rfl ?_ ?_
    ·refine cB hF 7 rfl rfl rfl rfl rfl fun w hMs hM=>?_
     refine (cI (X:=UInt8) (y:=g2) qU23 in5 rfl rfl rfl rfl hF rfl rfl rfl fun c1 w c55 t0=>?_)
     have hM:=hM.plus t0
     replace hM:MemL _ (pt c1 (encs ([g2]:List UInt8)) 5 :: rowL 0 d0 156 c0 :: rowL 0 d3 5 d6 :: rowL 0 c9 5 d1 :: c4 :: rowL 0 c6 3 c5 :: Lr):=hM
     have hMs:=selM hM [0,1,2,3,4,5] 6 rfl
     refine ⟨_,_,hMs,hM,.inl fun _ h=>dropM h 1,fun a hF=>?_⟩
     refine bH hch 12 (by kernel_rfl) rfl rfl ?_
     refine cB hF 12 rfl rfl rfl rfl rfl fun w hMs hM=>?_
     refine (cI (X:=UInt8) (y:=g3) qU23 in5 rfl rfl rfl rfl hF rfl rfl rfl fun c2 w c56 t1=>?_)
     have hM:=hM.plus t1
     replace hM:MemL _ (pt c2 (encs ([g3]:List UInt8)) 5 :: pt c1 (encs ([g2]:List UInt8)) 5 :: rowL 0 d0 156 c0 :: rowL 0 d3 5 d6 :: rowL 0 c9 5 d1 :: c4 :: rowL 0 c6 3 c5 :: Lr):=hM
     have hMs:=selM hM [0,1,2,3,4,5,6] 7 rfl
     refine ⟨_,_,hMs,hM,.inl fun _ h=>dropM h 1,fun a hF=>?_⟩
     refine aK hF hch 13 rfl (by kernel_rfl) rfl rfl rfl (fun w hM=>(cL z156 qU156 pl156 hF (parts:=[(0,.tmp 71),(1,.tmp 72),(2,.tmp 77),(3,.tmp 82)]) rfl rfl (cS rfl rfl (by rw [RPiece.len]; decide) (RPiece.s_table _ _) (cS rfl rfl (by rw [RPiece.len]; decide) (RPiece.s_from_ _ _) (cS rfl rfl (by rw [RPiece.len]; decide) (RPiece.s_old _ _) (cS rfl rfl (by rw [RPiece.len]; decide) (RPiece.s_new _ _) cV)))))) fun a hF=>?_
     refine bH hch 14 (by kernel_rfl) rfl rfl ?_
     refine cB hF 14 rfl rfl rfl rfl rfl fun w hMs hM=>?_
     refine (cI (X:=RPiece) (y:=(RPiece.mk x0 d4 (⟨some ⟨c1,0,none⟩,1,1⟩) (⟨some ⟨c2,0,none⟩,1,1⟩))) qU58 in156 rfl rfl rfl rfl hF rfl rfl rfl fun g6 w c57 t2=>?_)
     have hM:=hM.plus t2
     replace hM:MemL _ (pt g6 (encs ([(RPiece.mk x0 d4 (⟨some ⟨c1,0,none⟩,1,1⟩) (⟨some ⟨c2,0,none⟩,1,1⟩))]:List RPiece)) 156 :: pt c2 (encs ([g3]:List UInt8)) 5 :: pt c1 (encs ([g2]:List UInt8)) 5 :: rowL 0 d0 156 c0 :: rowL 0 d3 5 d6 :: rowL 0 c9 5 d1 :: c4 :: rowL 0 c6 3 c5 :: Lr):=hM
     have hMs:=selM hM [0,1,2,3,4,5,6,7] 8 rfl
     refine ⟨_,_,hMs,hM,.inl fun _ h=>dropM h 1,fun a hF=>?_⟩
     refine bH hch 15 (by kernel_rfl) rfl rfl ?_
     refine cB hF 15 rfl rfl rfl rfl rfl fun w hMs hM=>?_
     obtain ⟨n6,m4,hP⟩:=bind_some hP
     refine (gR (X:=RPiece) m4 d9.len rfl qU58 in156 rfl rfl rfl rfl hF rfl rfl rfl (hM.own (X:=RPiece) (i:=3) rfl) (hM.ptS (X:=RPiece) (i:=0) (n:=1) (c:=1) rfl rfl rfl (Nat.le_refl _)) fun i5 w t3=>?_)
     have hM:=hM.chg t3 (i:=3) rfl
     replace hM:MemL _ (pt g6 (encs ([(RPiece.mk x0 d4 (⟨some ⟨c1,0,none⟩,1,1⟩) (⟨some ⟨c2,0,none⟩,1,1⟩))]:List RPiece)) 156 :: pt c2 (encs ([g3]:List UInt8)) 5 :: pt c1 (encs ([g2]:List UInt8)) 5 :: rowL 0 i5 156 (c0 ++ [(RPiece.mk x0 d4 (⟨some ⟨c1,0,none⟩,1,1⟩) (⟨some ⟨c2,0,none⟩,1,1⟩))]) :: rowL 0 d3 5 d6 :: rowL 0 c9 5 d1 :: c4 :: rowL 0 c6 3 c5 :: Lr):=hM
     obtain ⟨z5,u6,u7,hM⟩:=joinM (selM hM [6,4,0,1,2,3,5,7] 8 rfl)
     replace hM:MemL _ (z5 :: pt g6 (encs ([(RPiece.mk x0 d4 (⟨some ⟨c1,0,none⟩,1,1⟩) (⟨some ⟨c2,0,none⟩,1,1⟩))]:List RPiece)) 156 :: pt c2 (encs ([g3]:List UInt8)) 5 :: pt c1 (encs ([g2]:List UInt8)) 5 :: rowL 0 i5 156 (c0 ++ [(RPiece.mk x0 d4 (⟨some ⟨c1,0,none⟩,1,1⟩) (⟨some ⟨c2,0,none⟩,1,1⟩))]) :: rowL 0 c9 5 d1 :: rowL 0 c6 3 c5 :: Lr):=hM
     obtain ⟨i4,l9,u8,hM⟩:=joinM (selM hM [0,5,1,2,3,4,6] 7 rfl)
     replace hM:MemL _ (i4 :: pt g6 (encs ([(RPiece.mk x0 d4 (⟨some ⟨c1,0,none⟩,1,1⟩) (⟨some ⟨c2,0,none⟩,1,1⟩))]:List RPiece)) 156 :: pt c2 (encs ([g3]:List UInt8)) 5 :: pt c1 (encs ([g2]:List UInt8)) 5 :: rowL 0 i5 156 (c0 ++ [(RPiece.mk x0 d4 (⟨some ⟨c1,0,none⟩,1,1⟩) (⟨some ⟨c2,0,none⟩,1,1⟩))]) :: rowL 0 c6 3 c5 :: Lr):=hM
     have z2:Each (QPieceIn i4.holds') c0 c3:=LastP.each d9 (fun w h=>u6 w (l9 w h)) (fun w h=>dL (X:=UInt8) (e:=5) (u7 w (l9 w h))) (fun w h=>dL (X:=UInt8) (e:=5) (u8 w h))
     have hM:=hM.ptRow (lo:=0) (i:=3) (n:=1) (c:=1) rfl rfl (Nat.zero_le _) rfl rfl (by decide)
     have hM:=hM.ptRow (lo:=0) (i:=2) (n:=1) (c:=1) rfl rfl (Nat.zero_le _) rfl rfl (by decide)
     have z3:LastP true i4.holds' (c0 ++ [(RPiece.mk x0 d4 (⟨some ⟨c1,0,none⟩,1,1⟩) (⟨some ⟨c2,0,none⟩,1,1⟩))]) n6 (⟨some ⟨c1,0,none⟩,1,1⟩) (⟨some ⟨c2,0,none⟩,1,1⟩) [g2] [g3]:=by rw [(dP m4).2]; exact LastP.push z2
     replace hM:MemL _ (i4 :: pt g6 (encs ([(RPiece.mk x0 d4 (⟨some ⟨c1,0,none⟩,1,1⟩) (⟨some ⟨c2,0,none⟩,1,1⟩))]:List RPiece)) 156 :: rowL 0 (⟨some ⟨c2,0,none⟩,1,1⟩) 5 [g3] :: rowL 0 (⟨some ⟨c1,0,none⟩,1,1⟩) 5 [g2] :: rowL 0 i5 156 (c0 ++ [(RPiece.mk x0 d4 (⟨some ⟨c1,0,none⟩,1,1⟩) (⟨some ⟨c2,0,none⟩,1,1⟩))]) :: rowL 0 c6 3 c5 :: Lr):=hM
     have hMs:=hM
     refine ⟨_,_,hMs,hM,.inr (by kernel_rfl),fun a hF=>?_⟩
     refine bH hch 16 (by kernel_rfl) rfl rfl ?_
     refine cB hF 16 rfl rfl rfl rfl rfl fun w hMs hM=>Yd.val (aH hF rfl rfl) ?_
     refine ⟨_,_,hMs,hM,.inl fun _ h=>h,fun a hF=>?_⟩
     refine bY hch (by kernel_rfl) fun w hM=>?_
     refine bM (aB ?_)
     have hP:=Option.some.inj hP
     subst hP
     exact ⟨(n6,true),rfl,i5,(c0 ++ [(RPiece.mk x0 d4 (⟨some ⟨c1,0,none⟩,1,1⟩) (⟨some ⟨c2,0,none⟩,1,1⟩))]),i4,(⟨some ⟨c1,0,none⟩,1,1⟩),(⟨some ⟨c2,0,none⟩,1,1⟩),[g2],[g3],z3,hF.to ⟨rfl,rfl,rfl,rfl,rfl,rfl,rfl,rfl,trivial⟩,selM hM [4,3,2,0,5] 6 rfl⟩
    refine cB hF 12 rfl rfl rfl rfl rfl fun w hMs hM=>?_
    refine (cI (X:=UInt8) (y:=g3) qU23 in5 rfl rfl rfl rfl hF rfl rfl rfl fun c2 w c56 t1=>?_)
    have hM:=hM.plus t1
    replace hM:MemL _ (pt c2 (encs ([g3]:List UInt8)) 5 :: rowL 0 d0 156 c0 :: rowL 0 d3 5 d6 :: rowL 0 c9 5 d1 :: c4 :: rowL 0 c6 3 c5 :: Lr):=hM
    have hMs:=selM hM [0,1,2,3,4,5] 6 rfl
    refine ⟨_,_,hMs,hM,.inl fun _ h=>dropM h 1,fun a hF=>?_⟩
    refine bH hch 7 (by kernel_rfl) rfl rfl ?_
    refine cB hF 7 rfl rfl rfl rfl rfl fun w hMs hM=>?_
    refine (cI (X:=UInt8) (y:=g2) qU23 in5 rfl rfl rfl rfl hF rfl rfl rfl fun c1 w c55 t0=>?_)
    have hM:=hM.plus t0
    replace hM:MemL _ (pt c1 (encs ([g2]:List UInt8)) 5 :: pt c2 (encs ([g3]:List UInt8)) 5 :: rowL 0 d0 156 c0 :: rowL 0 d3 5 d6 :: rowL 0 c9 5 d1 :: c4 :: rowL 0 c6 3 c5 :: Lr):=hM
    have hMs:=selM hM [0,1,2,3,4,5,6] 7 rfl
    refine ⟨_,_,hMs,hM,.inl fun _ h=>dropM h 1,fun a hF=>?_⟩
    refine aK hF hch 13 rfl (by kernel_rfl) rfl rfl rfl (fun w hM=>(cL z156 qU156 pl156 hF (parts:=[(0,.tmp 71),(1,.tmp 72),(2,.tmp 77),(3,.tmp 82)]) rfl rfl (cS rfl rfl (by rw [RPiece.len]; decide) (RPiece.s_table _ _) (cS rfl rfl (by rw [RPiece.len]; decide) (RPiece.s_from_ _ _) (cS rfl rfl (by rw [RPiece.len]; decide) (RPiece.s_old _ _) (cS rfl rfl (by rw [RPiece.len]; decide) (RPiece.s_new _ _) cV)))))) fun a hF=>?_
    refine bH hch 14 (by kernel_rfl) rfl rfl ?_
    refine cB hF 14 rfl rfl rfl rfl rfl fun w hMs hM=>?_
    refine (cI (X:=RPiece) (y:=(RPiece.mk x0 d4 (⟨some ⟨c1,0,none⟩,1,1⟩) (⟨some ⟨c2,0,none⟩,1,1⟩))) qU58 in156 rfl rfl rfl rfl hF rfl rfl rfl fun g6 w c57 t2=>?_)
    have hM:=hM.plus t2
    replace hM:MemL _ (pt g6 (encs ([(RPiece.mk x0 d4 (⟨some ⟨c1,0,none⟩,1,1⟩) (⟨some ⟨c2,0,none⟩,1,1⟩))]:List RPiece)) 156 :: pt c1 (encs ([g2]:List UInt8)) 5 :: pt c2 (encs ([g3]:List UInt8)) 5 :: rowL 0 d0 156 c0 :: rowL 0 d3 5 d6 :: rowL 0 c9 5 d1 :: c4 :: rowL 0 c6 3 c5 :: Lr):=hM
    have hMs:=selM hM [0,1,2,3,4,5,6,7] 8 rfl
    refine ⟨_,_,hMs,hM,.inl fun _ h=>dropM h 1,fun a hF=>?_⟩
    refine bH hch 15 (by kernel_rfl) rfl rfl ?_
    refine cB hF 15 rfl rfl rfl rfl rfl fun w hMs hM=>?_
    obtain ⟨n6,m4,hP⟩:=bind_some hP
    refine (gR (X:=RPiece) m4 d9.len rfl qU58 in156 rfl rfl rfl rfl hF rfl rfl rfl (hM.own (X:=RPiece) (i:=3) rfl) (hM.ptS (X:=RPiece) (i:=0) (n:=1) (c:=1) rfl rfl rfl (Nat.le_refl _)) fun i5 w t3=>?_)
    have hM:=hM.chg t3 (i:=3) rfl
    replace hM:MemL _ (pt g6 (encs ([(RPiece.mk x0 d4 (⟨some ⟨c1,0,none⟩,1,1⟩) (⟨some ⟨c2,0,none⟩,1,1⟩))]:List RPiece)) 156 :: pt c1 (encs ([g2]:List UInt8)) 5 :: pt c2 (encs ([g3]:List UInt8)) 5 :: rowL 0 i5 156 (c0 ++ [(RPiece.mk x0 d4 (⟨some ⟨c1,0,none⟩,1,1⟩) (⟨some ⟨c2,0,none⟩,1,1⟩))]) :: rowL 0 d3 5 d6 :: rowL 0 c9 5 d1 :: c4 :: rowL 0 c6 3 c5 :: Lr):=hM
    obtain ⟨z5,u6,u7,hM⟩:=joinM (selM hM [6,4,0,1,2,3,5,7] 8 rfl)
    replace hM:MemL _ (z5 :: pt g6 (encs ([(RPiece.mk x0 d4 (⟨some ⟨c1,0,none⟩,1,1⟩) (⟨some ⟨c2,0,none⟩,1,1⟩))]:List RPiece)) 156 :: pt c1 (encs ([g2]:List UInt8)) 5 :: pt c2 (encs ([g3]:List UInt8)) 5 :: rowL 0 i5 156 (c0 ++ [(RPiece.mk x0 d4 (⟨some ⟨c1,0,none⟩,1,1⟩) (⟨some ⟨c2,0,none⟩,1,1⟩))]) :: rowL 0 c9 5 d1 :: rowL 0 c6 3 c5 :: Lr):=hM
    obtain ⟨i4,l9,u8,hM⟩:=joinM (selM hM [0,5,1,2,3,4,6] 7 rfl)
    replace hM:MemL _ (i4 :: pt g6 (encs ([(RPiece.mk x0 d4 (⟨some ⟨c1,0,none⟩,1,1⟩) (⟨some ⟨c2,0,none⟩,1,1⟩))]:List RPiece)) 156 :: pt c1 (encs ([g2]:List UInt8)) 5 :: pt c2 (encs ([g3]:List UInt8)) 5 :: rowL 0 i5 156 (c0 ++ [(RPiece.mk x0 d4 (⟨some ⟨c1,0,none⟩,1,1⟩) (⟨some ⟨c2,0,none⟩,1,1⟩))]) :: rowL 0 c6 3 c5 :: Lr):=hM
    have z2:Each (QPieceIn i4.holds') c0 c3:=LastP.each d9 (fun w h=>u6 w (l9 w h)) (fun w h=>dL (X:=UInt8) (e:=5) (u7 w (l9 w h))) (fun w h=>dL (X:=UInt8) (e:=5) (u8 w h))
    have hM:=hM.ptRow (lo:=0) (i:=2) (n:=1) (c:=1) rfl rfl (Nat.zero_le _) rfl rfl (by decide)
    have hM:=hM.ptRow (lo:=0) (i:=3) (n:=1) (c:=1) rfl rfl (Nat.zero_le _) rfl rfl (by decide)
    have z3:LastP true i4.holds' (c0 ++ [(RPiece.mk x0 d4 (⟨some ⟨c1,0,none⟩,1,1⟩) (⟨some ⟨c2,0,none⟩,1,1⟩))]) n6 (⟨some ⟨c1,0,none⟩,1,1⟩) (⟨some ⟨c2,0,none⟩,1,1⟩) [g2] [g3]:=by rw [(dP m4).2]; exact LastP.push z2
    replace hM:MemL _ (i4 :: pt g6 (encs ([(RPiece.mk x0 d4 (⟨some ⟨c1,0,none⟩,1,1⟩) (⟨some ⟨c2,0,none⟩,1,1⟩))]:List RPiece)) 156 :: rowL 0 (⟨some ⟨c1,0,none⟩,1,1⟩) 5 [g2] :: rowL 0 (⟨some ⟨c2,0,none⟩,1,1⟩) 5 [g3] :: rowL 0 i5 156 (c0 ++ [(RPiece.mk x0 d4 (⟨some ⟨c1,0,none⟩,1,1⟩) (⟨some ⟨c2,0,none⟩,1,1⟩))]) :: rowL 0 c6 3 c5 :: Lr):=hM
    have hMs:=hM
    refine ⟨_,_,hMs,hM,.inr (by kernel_rfl),fun a hF=>?_⟩
    refine bH hch 16 (by kernel_rfl) rfl rfl ?_
    refine cB hF 16 rfl rfl rfl rfl rfl fun w hMs hM=>Yd.val (aH hF rfl rfl) ?_
    refine ⟨_,_,hMs,hM,.inl fun _ h=>h,fun a hF=>?_⟩
    refine bY hch (by kernel_rfl) fun w hM=>?_
    refine bM (aB ?_)
    have hP:=Option.some.inj hP
    subst hP
    exact ⟨(n6,true),rfl,i5,(c0 ++ [(RPiece.mk x0 d4 (⟨some ⟨c1,0,none⟩,1,1⟩) (⟨some ⟨c2,0,none⟩,1,1⟩))]),i4,(⟨some ⟨c1,0,none⟩,1,1⟩),(⟨some ⟨c2,0,none⟩,1,1⟩),[g2],[g3],z3,hF.to ⟨rfl,rfl,rfl,rfl,rfl,rfl,rfl,rfl,trivial⟩,selM hM [4,2,3,0,5] 6 rfl⟩
   rintro ⟨u2,t9⟩ a w hP ⟨t7,n7,t5,p7,p4,p2,n9,c68,hF,hM⟩
   replace hP:Sh.jF j7 u2 t9 = _:=hP
   unfold Sh.jF at hP
   refine aB ?_
   refine aD ?_
   refine aA hF (cA hF rfl rfl rfl) rfl rfl rfl fun a hF=>?_
   refine aA hF (aF hF rfl rfl) rfl rfl rfl fun a hF=>?_
   refine aI (aB ?_)
   have hP:=Option.some.inj hP
   subst hP
   exact ⟨((IntKind.i64.wrap (j7 + 1)),u2,t9),rfl,t7,n7,t5,p7,p4,p2,n9,c68,hF.to ⟨rfl,rfl,rfl,rfl,rfl,rfl,rfl,rfl,trivial⟩,hM⟩
  have hP:=Fx.cF u4 hP
  refine bZ (bC (bC (cR ?_)))
  refine aB ?_
  have hP:=Option.some.inj hP
  subst hP
  have hP:=c74 _ rfl
  subst hP
  exact ⟨(c3,n4),rfl,d0,c0,c4,d3,c9,d6,d1,d9,hF.to ⟨rfl,rfl,trivial⟩,selM hM [0,1,2,3] 5 rfl⟩
 rintro ⟨u1,z7⟩ a w hP ⟨k8,i8,t4,p6,m7,p1,m5,c65,hF,hM⟩
 replace hP:Sh.qR u1 z7 = _:=hP
 unfold Sh.qR at hP
 refine aB ?_
 refine aG ?_
 refine aD ?_
 refine aA hF (aF hF rfl rfl) rfl rfl rfl fun a hF=>?_
 refine aA hF (aH hF rfl rfl) rfl rfl rfl fun a hF=>?_
 refine aI (aB ?_)
 refine c_ret ?_
 replace hM:MemL _ (rowL 0 k8 156 i8 :: rowL 0 p6 5 p1 :: rowL 0 m7 5 m5 :: t4 :: Lr):=hM
 obtain ⟨c71,c60,c61,hM⟩:=joinM (selM hM [3,1,0,2] 4 rfl)
 replace hM:MemL _ (c71 :: rowL 0 k8 156 i8 :: rowL 0 m7 5 m5 :: Lr):=hM
 obtain ⟨z6,c14,c62,hM⟩:=joinM (selM hM [0,2,1] 3 rfl)
 replace hM:MemL _ (z6 :: rowL 0 k8 156 i8 :: Lr):=hM
 have c70:Each (QPieceIn z6.holds') i8 u1:=LastP.each c65 (fun w h=>c60 w (c14 w h)) (fun w h=>dL (X:=UInt8) (e:=5) (c61 w (c14 w h))) (fun w h=>dL (X:=UInt8) (e:=5) (c62 w h))
 have hP:=Option.some.inj hP
 subst hP
 refine bE Tryz.results86 hF rfl ?_
 exact ⟨k8,i8,z6,rfl,c70,selM hM [1,0] 2 rfl⟩
end Go.Proofs
end
section
namespace Go.Ev
set_option linter.unusedVariables false
set_option linter.unusedSimpArgs false
open Go.Fw Go.Proofs
set_option maxRecDepth 1000000
theorem known_ev:okT (acall (tabOf Tryz.prog) 1000 40 [] (.f 22 [] []) [] { h:=.e,nx:=0 }) = true:=by kernel_rfl
end Go.Ev
end
section
namespace Go.Proofs
open Go.Fw Go.Fx
theorem iG {out:Bool} {w0:World} {Lr:List Res} (hP:Sh.iH = some out) (hM:MemL w0 Lr):Calls Tryz.prog 22 #[] w0 (Ret fun v w'=>v = .bool out ∧ MemL w' Lr):=by
  cases hP
  refine Calls.mono (Go.Ev.closed_true (fuel:=1000) (k:=40) (by kernel_rfl) Go.Ev.known_ev w0) fun e w' he=>?_
  cases e <;> first
    | exact ⟨he.1,hM.keep he.2⟩
    | exact he
end Go.Proofs
end
section
namespace Go.Proofs
open Go.Fw Go.Fx
set_option maxRecDepth 10000
set_option linter.unusedVariables false
set_option linter.unusedSimpArgs false
set_option maxHeartbeats 4000000 in
theorem jA {x0:QState} {x1:QState} {s1:SV} {s3:SV} {hs4:List SV} {s7:SV} {s9:SV} {s11:SV} {hs12:List SV} {s15:SV} {out:(QMark × Int)} {w0:World} {Bf:World → Prop} {Lr:List Res} (hP:Sh.fJ x0 x1 = some out) (hM:MemL w0 (Lr)) (hsub:∀ w,MemL w Lr → Bf w) (f2:LIn Bf s1 x0.ctx) (f5:LIn Bf s3 hs4) (q6:Each (LIn (X:=UInt8) Bf) hs4 x0.tables) (f8:LIn Bf s7 x0.sent) (f10:LIn Bf s9 x1.ctx) (f13:LIn Bf s11 hs12) (q14:Each (LIn (X:=UInt8) Bf) hs12 x1.tables) (f16:LIn Bf s15 x1.sent):Calls Tryz.prog 31 #[.agg (RState.enc (RState.mk x0.regs x0.stack s1 s3 s7 x0.at_ x0.steps x0.done)).toArray,.agg (RState.enc (RState.mk x1.regs x1.stack s9 s11 s15 x1.at_ x1.steps x1.done)).toArray] w0 (Ret fun v w'=>∃ (z0:SV) (z1:SV) (z2:SV) (n0:List RPiece) (u7:Res) (z3:SV),v = .tuple #[.agg (RMark.enc (RMark.mk out.1.at_ out.1.next out.1.done z0 z1 z2 z3)).toArray,.int .i64 out.2] ∧ Each (QPieceIn u7.holds') n0 out.1.pieces ∧ MemL w' (rowL 0 z0 128 out.1.regs :: rowL 0 z1 151 out.1.slots :: rowL 0 z2 156 n0 :: u7 :: rowL 0 z3 3 out.1.sent :: Lr)):=by
 unfold Sh.fJ at hP
 refine aP (vs:=[.agg (RState.enc (RState.mk x0.regs x0.stack s1 s3 s7 x0.at_ x0.steps x0.done)).toArray,.agg (RState.enc (RState.mk x1.regs x1.stack s9 s11 s15 x1.at_ x1.steps x1.done)).toArray]) Tryz.func31 rfl Tryz.ntmps31 rfl fun a hF=>?_
 refine aG ?_
 refine aD ?_
 refine aN hF rfl rfl rfl (cW hF rfl rfl rfl fun c0 w c25 n8=>?_)
 have hM:=hM.plus n8
 intro a hF
 refine aN hF rfl rfl rfl (cW hF rfl rfl rfl fun c1 w c26 n9=>?_)
 have hM:=hM.plus n9
 intro a hF
 refine aN hF rfl rfl rfl (bS z60 (zs:=RMark.zero.enc) rfl rfl fun c2 w c27 p0=>?_)
 have hM:=hM.plus p0
 replace hM:MemL _ (pt c2 (RMark.enc (RMark.mk 0 0 false SV.nil SV.nil SV.nil SV.nil)) 60 :: pt c1 (RState.enc (RState.mk x1.regs x1.stack s9 s11 s15 x1.at_ x1.steps x1.done)) 54 :: pt c0 (RState.enc (RState.mk x0.regs x0.stack s1 s3 s7 x0.at_ x0.steps x0.done)) 54 :: Lr):=hM
 intro a hF
 refine aA hF (aH hF rfl rfl) rfl rfl rfl fun a hF=>?_
 refine aI (aB ?_)
 refine aG ?_
 refine aX ?_
 refine aG ?_
 refine aT hF hM hP (fun F x a w=>match x with | m9=>Fr 127 [(12,.bool m9),(2,.pointer (some ⟨c0,0,none⟩)),(3,.pointer (some ⟨c1,0,none⟩)),(4,.pointer (some ⟨c2,0,none⟩)),(5,.int .i64 0)] a ∧ MemL w (pt c2 (RMark.enc (RMark.mk 0 0 false SV.nil SV.nil SV.nil SV.nil)) 60 :: pt c1 (RState.enc (RState.mk x1.regs x1.stack s9 s11 s15 x1.at_ x1.steps x1.done)) 54 :: pt c0 (RState.enc (RState.mk x0.regs x0.stack s1 s3 s7 x0.at_ x0.steps x0.done)) 54 :: Lr)) (fun c40 hP c31 hF hM=>?_) ?_
 ·refine aD ?_
  refine aA hF (aR qA54 qS54 hF rfl rfl (RState.len _) (hM.cells (i:=2) rfl (bB (RState.len _)))) rfl rfl rfl fun a hF=>?_
  obtain ⟨c47,c10,hP⟩:=bind_some hP
  refine aN hF rfl rfl rfl (aO (xs:=[.tmp 13]) Tryz.call82 hF rfl rfl (fW c10 hM (Bf:=Bf) (fun w hM=>hsub _ (dropM hM 3)) f2 f5 q6 f8) fun v w hR=>?_)
  obtain ⟨rfl,hM⟩:=hR
  replace hM:MemL _ (pt c2 (RMark.enc (RMark.mk 0 0 false SV.nil SV.nil SV.nil SV.nil)) 60 :: pt c1 (RState.enc (RState.mk x1.regs x1.stack s9 s11 s15 x1.at_ x1.steps x1.done)) 54 :: pt c0 (RState.enc (RState.mk x0.regs x0.stack s1 s3 s7 x0.at_ x0.steps x0.done)) 54 :: Lr):=hM
  intro a hF
  refine aA hF (dE hF rfl rfl) rfl rfl rfl fun a hF=>?_
  refine aA hF (aF hF rfl rfl) rfl rfl rfl fun a hF=>?_
  refine bD 16 hF rfl (fun c8=>?_) (fun c8=>?_)
  ·have hP:=Fx.cT c8 hP
   refine aE hF rfl rfl rfl c8 rfl rfl fun a hF=>?_
   refine aE hF rfl rfl rfl c8 rfl rfl fun a hF=>?_
   refine aE hF rfl rfl rfl c8 rfl rfl fun a hF=>?_
   refine aA hF (aQ hF rfl rfl c8 rfl) rfl rfl rfl fun a hF=>?_
   refine aA hF (aH hF rfl rfl) rfl rfl rfl fun a hF=>?_
   refine aI (aB ?_)
   have hP:=Option.some.inj hP
   subst hP
   exact ⟨true,rfl,hF.to ⟨rfl,rfl,rfl,rfl,rfl,trivial⟩,hM⟩
  have hP:=Fx.cF c8 hP
  refine aL hF rfl rfl rfl c8 (aR qA54 qS54 hF rfl rfl (RState.len _) (hM.cells (i:=1) rfl (bB (RState.len _)))) rfl rfl fun a hF=>?_
  obtain ⟨c20,c11,hP⟩:=bind_some hP
  refine dX hF rfl rfl rfl c8 rfl rfl (aO (xs:=[.tmp 17]) Tryz.call82 hF rfl rfl (fW c11 hM (Bf:=Bf) (fun w hM=>hsub _ (dropM hM 3)) f10 f13 q14 f16) fun v w hR=>?_)
  obtain ⟨rfl,hM⟩:=hR
  replace hM:MemL _ (pt c2 (RMark.enc (RMark.mk 0 0 false SV.nil SV.nil SV.nil SV.nil)) 60 :: pt c1 (RState.enc (RState.mk x1.regs x1.stack s9 s11 s15 x1.at_ x1.steps x1.done)) 54 :: pt c0 (RState.enc (RState.mk x0.regs x0.stack s1 s3 s7 x0.at_ x0.steps x0.done)) 54 :: Lr):=hM
  intro a hF
  refine aL hF rfl rfl rfl c8 (dE hF rfl rfl) rfl rfl fun a hF=>?_
  refine aA hF (aV hF rfl rfl c8 rfl) rfl rfl rfl fun a hF=>?_
  refine aA hF (aH hF rfl rfl) rfl rfl rfl fun a hF=>?_
  refine aI (aB ?_)
  have hP:=Option.some.inj hP
  subst hP
  exact ⟨(!c20),rfl,hF.to ⟨rfl,rfl,rfl,rfl,rfl,trivial⟩,hM⟩
 rintro m9 a w hP ⟨hF,hM⟩
 replace hP:Sh.jR x0 x1 m9 = _:=hP
 unfold Sh.jR at hP
 refine aB ?_
 refine aS hF (c:=.tmp 12) rfl (fun l3=>?_) (fun l3=>?_)
 ·have hP:=Fx.cT l3 hP
  refine aG ?_
  refine aD ?_
  refine aA hF (cL z60 qU60 pl60 hF (parts:=[]) rfl rfl cV) rfl rfl rfl fun a hF=>?_
  refine bK rfl rfl (bA (vs:=_) qS60 (hM.obj (i:=0) rfl) hF rfl rfl rfl rfl (RMark.len _) (RMark.one _) (by first | (rw [RMark.len,RMark.len]; decide) | (rw [RMark.len]; decide)) (bG ((RMark.len _).trans (RMark.len _).symm)) fun w z7=>?_)
  have hM:=hM.chg z7 (i:=0) rfl
  replace hM:MemL _ (pt c2 (RMark.enc (RMark.mk 0 0 false SV.nil SV.nil SV.nil SV.nil)) 60 :: pt c1 (RState.enc (RState.mk x1.regs x1.stack s9 s11 s15 x1.at_ x1.steps x1.done)) 54 :: pt c0 (RState.enc (RState.mk x0.regs x0.stack s1 s3 s7 x0.at_ x0.steps x0.done)) 54 :: Lr):=hM
  refine aA hF (aH hF rfl rfl) rfl rfl rfl fun a hF=>?_
  refine aI (aB ?_)
  refine c_ret ?_
  have hM:=hM.rowNil (X:=LTurn) 0 128
  have hM:=hM.rowNil (X:=LCell) 0 151
  obtain ⟨u8,hM⟩:=voidM hM
  have c18:Each (QPieceIn u8.holds') ([]:List RPiece) ([]:List QPiece):=Each.nil
  have hM:=hM.rowNil (X:=RPiece) 0 156
  have hM:=hM.rowNil (X:=Int) 0 3
  have hP:=Option.some.inj hP
  subst hP
  refine dO (rs:=[.cell 4 60,.tmp 5]) Tryz.results31 hF (cC hF rfl qA60 qS60 (RMark.len _) (hM.cells (i:=5) rfl (bB (RMark.len _))) (cM hF rfl cJ)) rfl ?_
  exact ⟨SV.nil,SV.nil,SV.nil,[],u8,SV.nil,rfl,c18,selM hM [4,3,1,2,0] 8 rfl⟩
 have hP:=Fx.cF l3 hP
 refine aG ?_
 refine aD ?_
 refine aA hF (aR qA54 qS54 hF rfl rfl (RState.len _) (hM.cells (i:=2) rfl (bB (RState.len _)))) rfl rfl rfl fun a hF=>?_
 refine aA hF (aR qA54 qS54 hF rfl rfl (RState.len _) (hM.cells (i:=1) rfl (bB (RState.len _)))) rfl rfl rfl fun a hF=>?_
 obtain ⟨c48,c12,hP⟩:=bind_some hP
 refine aN hF rfl rfl rfl (aO (xs:=[.tmp 23,.tmp 24]) Tryz.call83 hF rfl rfl (oR c12 hM (Bf:=Bf) (fun w hM=>hsub _ (dropM hM 3)) f2 f5 q6 f8 f10 f13 q14 f16) fun v w hR=>?_)
 obtain ⟨rfl,hM⟩:=hR
 replace hM:MemL _ (pt c2 (RMark.enc (RMark.mk 0 0 false SV.nil SV.nil SV.nil SV.nil)) 60 :: pt c1 (RState.enc (RState.mk x1.regs x1.stack s9 s11 s15 x1.at_ x1.steps x1.done)) 54 :: pt c0 (RState.enc (RState.mk x0.regs x0.stack s1 s3 s7 x0.at_ x0.steps x0.done)) 54 :: Lr):=hM
 intro a hF
 refine aA hF (dE hF rfl rfl) rfl rfl rfl fun a hF=>?_
 refine aA hF (aH hF rfl rfl) rfl rfl rfl fun a hF=>?_
 refine aI (aB ?_)
 refine aS hF (c:=.tmp 22) rfl (fun l4=>?_) (fun l4=>?_)
 ·have hP:=Fx.cT l4 hP
  refine aG ?_
  refine aD ?_
  refine aA hF (cL z60 qU60 pl60 hF (parts:=[]) rfl rfl cV) rfl rfl rfl fun a hF=>?_
  refine bK rfl rfl (bA (vs:=_) qS60 (hM.obj (i:=0) rfl) hF rfl rfl rfl rfl (RMark.len _) (RMark.one _) (by first | (rw [RMark.len,RMark.len]; decide) | (rw [RMark.len]; decide)) (bG ((RMark.len _).trans (RMark.len _).symm)) fun w z8=>?_)
  have hM:=hM.chg z8 (i:=0) rfl
  replace hM:MemL _ (pt c2 (RMark.enc (RMark.mk 0 0 false SV.nil SV.nil SV.nil SV.nil)) 60 :: pt c1 (RState.enc (RState.mk x1.regs x1.stack s9 s11 s15 x1.at_ x1.steps x1.done)) 54 :: pt c0 (RState.enc (RState.mk x0.regs x0.stack s1 s3 s7 x0.at_ x0.steps x0.done)) 54 :: Lr):=hM
  refine aA hF (aH hF rfl rfl) rfl rfl rfl fun a hF=>?_
  refine aI (aB ?_)
  refine c_ret ?_
  have hM:=hM.rowNil (X:=LTurn) 0 128
  have hM:=hM.rowNil (X:=LCell) 0 151
  obtain ⟨u9,hM⟩:=voidM hM
  have c19:Each (QPieceIn u9.holds') ([]:List RPiece) ([]:List QPiece):=Each.nil
  have hM:=hM.rowNil (X:=RPiece) 0 156
  have hM:=hM.rowNil (X:=Int) 0 3
  have hP:=Option.some.inj hP
  subst hP
  refine dO (rs:=[.cell 4 60,.tmp 5]) Tryz.results31 hF (cC hF rfl qA60 qS60 (RMark.len _) (hM.cells (i:=5) rfl (bB (RMark.len _))) (cM hF rfl cJ)) rfl ?_
  exact ⟨SV.nil,SV.nil,SV.nil,[],u9,SV.nil,rfl,c19,selM hM [4,3,1,2,0] 8 rfl⟩
 have hP:=Fx.cF l4 hP
 refine aW (bM (aB ?_))
 refine aG ?_
 refine aD ?_
 refine aA hF (aC (off':=463) qU54 rfl in3 rfl hF rfl rfl rfl) rfl rfl rfl fun a hF=>?_
 refine aA hF (aJ qA3 hF rfl rfl (hM.cell (i:=2) rfl (RState.g_at_ _))) rfl rfl rfl fun a hF=>?_
 refine aA hF (aC (off':=463) qU54 rfl in3 rfl hF rfl rfl rfl) rfl rfl rfl fun a hF=>?_
 refine aA hF (aJ qA3 hF rfl rfl (hM.cell (i:=1) rfl (RState.g_at_ _))) rfl rfl rfl fun a hF=>?_
 refine aA hF (aC (off':=465) qU54 rfl in4 rfl hF rfl rfl rfl) rfl rfl rfl fun a hF=>?_
 refine aA hF (aJ qA4 hF rfl rfl (hM.cell (i:=1) rfl (RState.g_done _))) rfl rfl rfl fun a hF=>?_
 refine aA hF (cL z60 qU60 pl60 hF (parts:=[(0,.tmp 29),(1,.tmp 31),(2,.tmp 33)]) rfl rfl (cS rfl rfl (by rw [RMark.len]; decide) (RMark.s_at_ _ _) (cS rfl rfl (by rw [RMark.len]; decide) (RMark.s_next _ _) (cS rfl rfl (by rw [RMark.len]; decide) (RMark.s_done _ _) cV)))) rfl rfl rfl fun a hF=>?_
 refine aN hF rfl rfl rfl (bS z60 (zs:=RMark.zero.enc) rfl rfl fun c3 w c28 p1=>?_)
 have hM:=hM.plus p1
 replace hM:MemL _ (pt c3 (RMark.enc (RMark.mk 0 0 false SV.nil SV.nil SV.nil SV.nil)) 60 :: pt c2 (RMark.enc (RMark.mk 0 0 false SV.nil SV.nil SV.nil SV.nil)) 60 :: pt c1 (RState.enc (RState.mk x1.regs x1.stack s9 s11 s15 x1.at_ x1.steps x1.done)) 54 :: pt c0 (RState.enc (RState.mk x0.regs x0.stack s1 s3 s7 x0.at_ x0.steps x0.done)) 54 :: Lr):=hM
 intro a hF
 refine bK rfl rfl (bA (vs:=_) qS60 (hM.obj (i:=0) rfl) hF rfl rfl rfl rfl (RMark.len _) (RMark.one _) (by first | (rw [RMark.len,RMark.len]; decide) | (rw [RMark.len]; decide)) (bG ((RMark.len _).trans (RMark.len _).symm)) fun w z9=>?_)
 have hM:=hM.chg z9 (i:=0) rfl
 replace hM:MemL _ (pt c3 (RMark.enc (RMark.mk x0.at_ x1.at_ x1.done SV.nil SV.nil SV.nil SV.nil)) 60 :: pt c2 (RMark.enc (RMark.mk 0 0 false SV.nil SV.nil SV.nil SV.nil)) 60 :: pt c1 (RState.enc (RState.mk x1.regs x1.stack s9 s11 s15 x1.at_ x1.steps x1.done)) 54 :: pt c0 (RState.enc (RState.mk x0.regs x0.stack s1 s3 s7 x0.at_ x0.steps x0.done)) 54 :: Lr):=hM
 refine aI (aB ?_)
 refine aG ?_
 refine aT hF hM hP (fun F x a w=>match x with | j4=>∃ (g7:SV),Fr 127 [(2,.pointer (some ⟨c0,0,none⟩)),(3,.pointer (some ⟨c1,0,none⟩)),(4,.pointer (some ⟨c2,0,none⟩)),(5,.int .i64 0),(6,.pointer (some ⟨c3,0,none⟩))] a ∧ MemL w (pt c3 (RMark.enc (RMark.mk x0.at_ x1.at_ x1.done g7 SV.nil SV.nil SV.nil)) 60 :: rowL 0 g7 128 j4 :: pt c2 (RMark.enc (RMark.mk 0 0 false SV.nil SV.nil SV.nil SV.nil)) 60 :: pt c1 (RState.enc (RState.mk x1.regs x1.stack s9 s11 s15 x1.at_ x1.steps x1.done)) 54 :: pt c0 (RState.enc (RState.mk x0.regs x0.stack s1 s3 s7 x0.at_ x0.steps x0.done)) 54 :: Lr)) (fun c41 hP c32 hF hM=>?_) ?_
 ·refine aG ?_
  refine bR mixed (by kernel_rfl) hM [0,1,2,3] 4 rfl fun hch=>?_
  refine aK hF hch 0 rfl (by kernel_rfl) rfl rfl rfl (fun w hM=>(aC (off':=0) qU54 rfl in47 rfl hF rfl rfl rfl)) fun a hF=>?_
  refine aK hF hch 1 rfl (by kernel_rfl) rfl rfl rfl (fun w hM=>(lX qU47 in46 rfl hF rfl rfl)) fun a hF=>?_
  refine aK hF hch 2 rfl (by kernel_rfl) rfl rfl rfl (fun w hM=>(aC (off':=0) qU54 rfl in47 rfl hF rfl rfl rfl)) fun a hF=>?_
  refine aK hF hch 3 rfl (by kernel_rfl) rfl rfl rfl (fun w hM=>(lX qU47 in46 rfl hF rfl rfl)) fun a hF=>?_
  refine aK hF hch 6 rfl (by kernel_rfl) rfl rfl rfl (fun w hM=>(aF hF rfl rfl)) fun a hF=>?_
  refine bH hch 4 (by kernel_rfl) rfl rfl ?_
  refine cB hF 4 rfl rfl rfl rfl rfl fun w hMs hM=>?_
  obtain ⟨g4,u3,hP⟩:=bind_some hP
  refine (aO (xs:=[.tmp 36,.tmp 38]) Tryz.call84 hF rfl rfl (jK u3 hM (fun _ h=>h) (fun w hM=>(SliceOf.ofArr (lo:=0) (hM.cells (i:=3) rfl (RState.c_regs _)) (Nat.zero_le _) (Vec.len _))) (fun w hM=>(SliceOf.ofArr (lo:=0) (hM.cells (i:=2) rfl (RState.c_regs _)) (Nat.zero_le _) (Vec.len _)))) fun v w hR=>?_)
  obtain ⟨g8,rfl,hM⟩:=hR
  replace hM:MemL _ (rowL 0 g8 3 g4 :: pt c3 (RMark.enc (RMark.mk x0.at_ x1.at_ x1.done SV.nil SV.nil SV.nil SV.nil)) 60 :: pt c2 (RMark.enc (RMark.mk 0 0 false SV.nil SV.nil SV.nil SV.nil)) 60 :: pt c1 (RState.enc (RState.mk x1.regs x1.stack s9 s11 s15 x1.at_ x1.steps x1.done)) 54 :: pt c0 (RState.enc (RState.mk x0.regs x0.stack s1 s3 s7 x0.at_ x0.steps x0.done)) 54 :: Lr):=hM
  have hMs:=selM hM [0,1,2,3,4] 5 rfl
  refine ⟨_,_,hMs,hM,.inl fun _ h=>dropM h 1,fun a hF=>?_⟩
  refine aK hF hch 5 rfl (by kernel_rfl) rfl rfl rfl (fun w hM=>(bQ (hM.rowS (X:=Int) (i:=0) rfl) qU52 hF rfl rfl)) fun a hF=>?_
  refine bY hch (by kernel_rfl) fun w hM=>?_
  refine aB ?_
  refine aX ?_
  have hM:=hM.rowNil (X:=LTurn) 0 128
  refine bU hF hM hP (fun F x a w=>match x with | (i7,j5)=>∃ (g1:SV),Fr 127 [(41,.int .i64 j5),(2,.pointer (some ⟨c0,0,none⟩)),(3,.pointer (some ⟨c1,0,none⟩)),(39,(g8).v),(4,.pointer (some ⟨c2,0,none⟩)),(40,.int .i64 (g4.length:Int)),(5,.int .i64 0),(6,.pointer (some ⟨c3,0,none⟩))] a ∧ MemL w (pt c3 (RMark.enc (RMark.mk x0.at_ x1.at_ x1.done g1 SV.nil SV.nil SV.nil)) 60 :: rowL 0 g1 128 i7 :: pt c2 (RMark.enc (RMark.mk 0 0 false SV.nil SV.nil SV.nil SV.nil)) 60 :: pt c1 (RState.enc (RState.mk x1.regs x1.stack s9 s11 s15 x1.at_ x1.steps x1.done)) 54 :: pt c0 (RState.enc (RState.mk x0.regs x0.stack s1 s3 s7 x0.at_ x0.steps x0.done)) 54 :: rowL 0 g8 3 g4 :: Lr)) (fun hF hM=>⟨SV.nil,hF.to ⟨rfl,rfl,rfl,rfl,rfl,rfl,rfl,rfl,trivial⟩,selM hM [2,0,3,4,5,1] 6 rfl⟩) ?_
  rintro ⟨i7,j5⟩ a w c44 hP z4 ⟨g1,hF,hM⟩
  replace hP:Sh.hZ x0 x1 g4 i7 j5 = _:=hP
  unfold Sh.hZ at hP
  refine aG ?_
  refine aD ?_
  refine aA hF (cO hF rfl rfl rfl) rfl rfl rfl fun a hF=>?_
  refine aI (aB ?_)
  refine aG ?_
  refine aS hF (c:=.tmp 42) rfl (fun k5=>?_) (fun k5=>?_)
  ·have hP:=Fx.cT k5 hP
   refine aW (aB ?_)
   refine aG ?_
   refine aX ?_
   refine aG ?_
   refine aD ?_
   obtain ⟨j9,m1,hP⟩:=bind_some hP
   have n4:=aM m1
   refine aA hF (aY (sz:=1) (hM.rowS (X:=Int) (i:=5) rfl) qU52 in3 rfl hF rfl rfl rfl (bL m1)) rfl rfl rfl fun a hF=>?_
   refine aA hF (aJ qA3 hF rfl rfl ((((hM.rowS (X:=Int) (i:=5) rfl).elemS n4.2)).get 0 rfl)) rfl rfl rfl fun a hF=>?_
   refine aA hF (aH hF rfl rfl) rfl rfl rfl fun a hF=>?_
   refine aI (aB ?_)
   refine bR mixed (by kernel_rfl) hM [0,1,2,3,4,5] 6 rfl fun hch=>?_
   refine aK hF hch 0 rfl (by kernel_rfl) rfl rfl rfl (fun w hM=>(aC (off':=3) qU60 rfl in56 rfl hF rfl rfl rfl)) fun a hF=>?_
   refine aK hF hch 1 rfl (by kernel_rfl) rfl rfl rfl (fun w hM=>(aJ qA56 hF rfl rfl (hM.cell (i:=0) rfl (RMark.g_regs _)))) fun a hF=>?_
   refine aK hF hch 2 rfl (by kernel_rfl) rfl rfl rfl (fun w hM=>(aF hF rfl rfl)) fun a hF=>?_
   refine aK hF hch 3 rfl (by kernel_rfl) rfl rfl rfl (fun w hM=>(aF hF rfl rfl)) fun a hF=>?_
   refine aK hF hch 4 rfl (by kernel_rfl) rfl rfl rfl (fun w hM=>(aC (off':=0) qU54 rfl in47 rfl hF rfl rfl rfl)) fun a hF=>?_
   obtain ⟨k0,k9,hP⟩:=bind_some hP
   have c21:=aM k9
   refine aK hF hch 5 rfl (by kernel_rfl) rfl rfl rfl (fun w hM=>(cU (sz:=4) qU47 in46 rfl hF rfl rfl rfl (dG k9))) fun a hF=>?_
   refine aK hF hch 6 rfl (by kernel_rfl) rfl rfl rfl (fun w hM=>(aR qA46 qS46 hF rfl rfl (LVal.len _) (hM.cells (i:=4) rfl (RState.ci_regs _ _ _ (aM k9).2)))) fun a hF=>?_
   refine aK hF hch 7 rfl (by kernel_rfl) rfl rfl rfl (fun w hM=>(aF hF rfl rfl)) fun a hF=>?_
   refine aK hF hch 8 rfl (by kernel_rfl) rfl rfl rfl (fun w hM=>(aC (off':=0) qU54 rfl in47 rfl hF rfl rfl rfl)) fun a hF=>?_
   obtain ⟨k1,l0,hP⟩:=bind_some hP
   have c22:=aM l0
   refine aK hF hch 9 rfl (by kernel_rfl) rfl rfl rfl (fun w hM=>(cU (sz:=4) qU47 in46 rfl hF rfl rfl rfl (dG l0))) fun a hF=>?_
   refine aK hF hch 10 rfl (by kernel_rfl) rfl rfl rfl (fun w hM=>(aR qA46 qS46 hF rfl rfl (LVal.len _) (hM.cells (i:=3) rfl (RState.ci_regs _ _ _ (aM l0).2)))) fun a hF=>?_
   refine aK hF hch 11 rfl (by kernel_rfl) rfl rfl rfl (fun w hM=>(cL z128 qU128 pl128 hF (parts:=[(0,.tmp 47),(1,.tmp 51),(2,.tmp 55)]) rfl rfl (cS rfl rfl (by rw [LTurn.len]; decide) (LTurn.s_reg _ _) (fR rfl (LVal.len _) (by rw [LVal.len,LTurn.len]; decide) (LTurn.p_old _ _) (fR rfl (LVal.len _) (by rw [LVal.len,LTurn.len]; decide) (LTurn.p_new _ _) cV))))) fun a hF=>?_
   refine bH hch 12 (by kernel_rfl) rfl rfl ?_
   refine cB hF 12 rfl rfl rfl rfl rfl fun w hMs hM=>?_
   refine (cI (X:=LTurn) (y:=(LTurn.mk j9 k0 k1)) qU56 in128 rfl rfl rfl rfl hF rfl rfl rfl fun i3 w c16 m7=>?_)
   have hM:=hM.plus m7
   replace hM:MemL _ (pt i3 (encs ([(LTurn.mk j9 k0 k1)]:List LTurn)) 128 :: pt c3 (RMark.enc (RMark.mk x0.at_ x1.at_ x1.done g1 SV.nil SV.nil SV.nil)) 60 :: rowL 0 g1 128 i7 :: pt c2 (RMark.enc (RMark.mk 0 0 false SV.nil SV.nil SV.nil SV.nil)) 60 :: pt c1 (RState.enc (RState.mk x1.regs x1.stack s9 s11 s15 x1.at_ x1.steps x1.done)) 54 :: pt c0 (RState.enc (RState.mk x0.regs x0.stack s1 s3 s7 x0.at_ x0.steps x0.done)) 54 :: rowL 0 g8 3 g4 :: Lr):=hM
   have hMs:=selM hM [0,1,2,3,4,5,6] 7 rfl
   refine ⟨_,_,hMs,hM,.inl fun _ h=>dropM h 1,fun a hF=>?_⟩
   refine bH hch 13 (by kernel_rfl) rfl rfl ?_
   refine cB hF 13 rfl rfl rfl rfl rfl fun w hMs hM=>?_
   obtain ⟨l8,u0,hP⟩:=bind_some hP
   refine (dB (X:=LTurn) u0 qU56 in128 rfl rfl rfl rfl hF rfl rfl rfl (hM.own (X:=LTurn) (i:=2) rfl) (hM.ptS (X:=LTurn) (i:=0) (n:=1) (c:=1) rfl rfl rfl (Nat.le_refl _)) fun j1 w p2=>?_)
   have hM:=hM.chg p2 (i:=2) rfl
   replace hM:MemL _ (pt i3 (encs ([(LTurn.mk j9 k0 k1)]:List LTurn)) 128 :: pt c3 (RMark.enc (RMark.mk x0.at_ x1.at_ x1.done g1 SV.nil SV.nil SV.nil)) 60 :: rowL 0 j1 128 l8 :: pt c2 (RMark.enc (RMark.mk 0 0 false SV.nil SV.nil SV.nil SV.nil)) 60 :: pt c1 (RState.enc (RState.mk x1.regs x1.stack s9 s11 s15 x1.at_ x1.steps x1.done)) 54 :: pt c0 (RState.enc (RState.mk x0.regs x0.stack s1 s3 s7 x0.at_ x0.steps x0.done)) 54 :: rowL 0 g8 3 g4 :: Lr):=hM
   have hMs:=hM
   refine ⟨_,_,hMs,hM,.inr (by kernel_rfl),fun a hF=>?_⟩
   refine aK hF hch 14 rfl (by kernel_rfl) rfl rfl rfl (fun w hM=>(aC (off':=3) qU60 rfl in56 rfl hF rfl rfl rfl)) fun a hF=>?_
   refine bH hch 15 (by kernel_rfl) rfl rfl ?_
   refine dK 15 rfl rfl rfl rfl fun w hMs hM=>?_
   refine (bT Tryz.sizeOf56 (hM.obj (i:=1) rfl) hF rfl rfl rfl rfl (by rw [RMark.len]; decide) (RMark.s_regs _ _) fun w t2=>?_)
   have hM:=hM.chg t2 (i:=1) rfl
   replace hM:MemL _ (pt i3 (encs ([(LTurn.mk j9 k0 k1)]:List LTurn)) 128 :: pt c3 (RMark.enc (RMark.mk x0.at_ x1.at_ x1.done j1 SV.nil SV.nil SV.nil)) 60 :: rowL 0 j1 128 l8 :: pt c2 (RMark.enc (RMark.mk 0 0 false SV.nil SV.nil SV.nil SV.nil)) 60 :: pt c1 (RState.enc (RState.mk x1.regs x1.stack s9 s11 s15 x1.at_ x1.steps x1.done)) 54 :: pt c0 (RState.enc (RState.mk x0.regs x0.stack s1 s3 s7 x0.at_ x0.steps x0.done)) 54 :: rowL 0 g8 3 g4 :: Lr):=hM
   have hMs:=hM
   refine ⟨_,_,hMs,hM,.inr (by kernel_rfl),?_⟩
   refine bY hch (by kernel_rfl) fun w hM=>?_
   refine bM (aB ?_)
   refine aD ?_
   refine aA hF (cA hF rfl rfl rfl) rfl rfl rfl fun a hF=>?_
   refine aA hF (aF hF rfl rfl) rfl rfl rfl fun a hF=>?_
   refine aI (aB ?_)
   have hP:=Option.some.inj hP
   subst hP
   exact ⟨(l8,(IntKind.i64.wrap (j5 + 1))),rfl,j1,hF.to ⟨rfl,rfl,rfl,rfl,rfl,rfl,rfl,rfl,trivial⟩,selM hM [1,2,3,4,5,6] 7 rfl⟩
  have hP:=Fx.cF k5 hP
  refine bZ (bC (bC (cR ?_)))
  refine aB ?_
  have hP:=Option.some.inj hP
  subst hP
  have hP:=z4 _ rfl
  subst hP
  exact ⟨i7,rfl,g1,hF.to ⟨rfl,rfl,rfl,rfl,rfl,trivial⟩,selM hM [0,1,2,3,4] 6 rfl⟩
 rintro j4 a w hP ⟨g7,hF,hM⟩
 replace hP:Sh.pQ x0 x1 j4 = _:=hP
 unfold Sh.pQ at hP
 refine aB ?_
 refine aG ?_
 refine aT hF hM hP (fun F x a w=>match x with | (i8,i9)=>∃ (d7:SV) (d8:SV),Fr 127 [(2,.pointer (some ⟨c0,0,none⟩)),(3,.pointer (some ⟨c1,0,none⟩)),(4,.pointer (some ⟨c2,0,none⟩)),(5,.int .i64 0),(6,.pointer (some ⟨c3,0,none⟩))] a ∧ MemL w (pt c3 (RMark.enc (RMark.mk x0.at_ x1.at_ x1.done d7 d8 SV.nil SV.nil)) 60 :: rowL 0 d7 128 i8 :: rowL 0 d8 151 i9 :: pt c2 (RMark.enc (RMark.mk 0 0 false SV.nil SV.nil SV.nil SV.nil)) 60 :: pt c1 (RState.enc (RState.mk x1.regs x1.stack s9 s11 s15 x1.at_ x1.steps x1.done)) 54 :: pt c0 (RState.enc (RState.mk x0.regs x0.stack s1 s3 s7 x0.at_ x0.steps x0.done)) 54 :: Lr)) (fun c42 hP c33 hF hM=>?_) ?_
 ·refine aG ?_
  refine bR mixed (by kernel_rfl) hM [0,1,2,3,4] 5 rfl fun hch=>?_
  refine aK hF hch 0 rfl (by kernel_rfl) rfl rfl rfl (fun w hM=>(aC (off':=44) qU54 rfl in51 rfl hF rfl rfl rfl)) fun a hF=>?_
  refine aK hF hch 1 rfl (by kernel_rfl) rfl rfl rfl (fun w hM=>(lX qU51 in50 rfl hF rfl rfl)) fun a hF=>?_
  refine aK hF hch 2 rfl (by kernel_rfl) rfl rfl rfl (fun w hM=>(aC (off':=44) qU54 rfl in51 rfl hF rfl rfl rfl)) fun a hF=>?_
  refine aK hF hch 3 rfl (by kernel_rfl) rfl rfl rfl (fun w hM=>(lX qU51 in50 rfl hF rfl rfl)) fun a hF=>?_
  refine aK hF hch 6 rfl (by kernel_rfl) rfl rfl rfl (fun w hM=>(aF hF rfl rfl)) fun a hF=>?_
  refine bH hch 4 (by kernel_rfl) rfl rfl ?_
  refine cB hF 4 rfl rfl rfl rfl rfl fun w hMs hM=>?_
  obtain ⟨g5,u4,hP⟩:=bind_some hP
  refine (aO (xs:=[.tmp 62,.tmp 64]) Tryz.call85 hF rfl rfl (jM u4 hM (fun _ h=>h) (fun w hM=>(SliceOf.ofArr (lo:=0) (hM.cells (i:=4) rfl (RState.c_stack _)) (Nat.zero_le _) (Vec.len _))) (fun w hM=>(SliceOf.ofArr (lo:=0) (hM.cells (i:=3) rfl (RState.c_stack _)) (Nat.zero_le _) (Vec.len _)))) fun v w hR=>?_)
  obtain ⟨g9,rfl,hM⟩:=hR
  replace hM:MemL _ (rowL 0 g9 3 g5 :: pt c3 (RMark.enc (RMark.mk x0.at_ x1.at_ x1.done g7 SV.nil SV.nil SV.nil)) 60 :: rowL 0 g7 128 j4 :: pt c2 (RMark.enc (RMark.mk 0 0 false SV.nil SV.nil SV.nil SV.nil)) 60 :: pt c1 (RState.enc (RState.mk x1.regs x1.stack s9 s11 s15 x1.at_ x1.steps x1.done)) 54 :: pt c0 (RState.enc (RState.mk x0.regs x0.stack s1 s3 s7 x0.at_ x0.steps x0.done)) 54 :: Lr):=hM
  have hMs:=selM hM [0,1,2,3,4,5] 6 rfl
  refine ⟨_,_,hMs,hM,.inl fun _ h=>dropM h 1,fun a hF=>?_⟩
  refine aK hF hch 5 rfl (by kernel_rfl) rfl rfl rfl (fun w hM=>(bQ (hM.rowS (X:=Int) (i:=0) rfl) qU52 hF rfl rfl)) fun a hF=>?_
  refine bY hch (by kernel_rfl) fun w hM=>?_
  refine aB ?_
  refine aX ?_
  have hM:=hM.rowNil (X:=LCell) 0 151
  refine bU hF hM hP (fun F x a w=>match x with | (d9,j0,j6)=>∃ (c9:SV) (g2:SV),Fr 127 [(67,.int .i64 j6),(2,.pointer (some ⟨c0,0,none⟩)),(3,.pointer (some ⟨c1,0,none⟩)),(4,.pointer (some ⟨c2,0,none⟩)),(5,.int .i64 0),(6,.pointer (some ⟨c3,0,none⟩)),(65,(g9).v),(66,.int .i64 (g5.length:Int))] a ∧ MemL w (pt c3 (RMark.enc (RMark.mk x0.at_ x1.at_ x1.done c9 g2 SV.nil SV.nil)) 60 :: rowL 0 c9 128 d9 :: rowL 0 g2 151 j0 :: pt c2 (RMark.enc (RMark.mk 0 0 false SV.nil SV.nil SV.nil SV.nil)) 60 :: pt c1 (RState.enc (RState.mk x1.regs x1.stack s9 s11 s15 x1.at_ x1.steps x1.done)) 54 :: pt c0 (RState.enc (RState.mk x0.regs x0.stack s1 s3 s7 x0.at_ x0.steps x0.done)) 54 :: rowL 0 g9 3 g5 :: Lr)) (fun hF hM=>⟨g7,SV.nil,hF.to ⟨rfl,rfl,rfl,rfl,rfl,rfl,rfl,rfl,trivial⟩,selM hM [2,3,0,4,5,6,1] 7 rfl⟩) ?_
  rintro ⟨d9,j0,j6⟩ a w c45 hP z5 ⟨c9,g2,hF,hM⟩
  replace hP:Sh.iA x0 x1 g5 d9 j0 j6 = _:=hP
  unfold Sh.iA at hP
  refine aG ?_
  refine aD ?_
  refine aA hF (cO hF rfl rfl rfl) rfl rfl rfl fun a hF=>?_
  refine aI (aB ?_)
  refine aG ?_
  refine aS hF (c:=.tmp 68) rfl (fun k6=>?_) (fun k6=>?_)
  ·have hP:=Fx.cT k6 hP
   refine aW (aB ?_)
   refine aG ?_
   refine aX ?_
   refine aG ?_
   refine aD ?_
   obtain ⟨k2,m2,hP⟩:=bind_some hP
   have n5:=aM m2
   refine aA hF (aY (sz:=1) (hM.rowS (X:=Int) (i:=6) rfl) qU52 in3 rfl hF rfl rfl rfl (bL m2)) rfl rfl rfl fun a hF=>?_
   refine aA hF (aJ qA3 hF rfl rfl ((((hM.rowS (X:=Int) (i:=6) rfl).elemS n5.2)).get 0 rfl)) rfl rfl rfl fun a hF=>?_
   refine aA hF (aH hF rfl rfl) rfl rfl rfl fun a hF=>?_
   refine aI (aB ?_)
   refine bR mixed (by kernel_rfl) hM [0,1,2,3,4,5,6] 7 rfl fun hch=>?_
   refine aK hF hch 0 rfl (by kernel_rfl) rfl rfl rfl (fun w hM=>(aC (off':=4) qU60 rfl in57 rfl hF rfl rfl rfl)) fun a hF=>?_
   refine aK hF hch 1 rfl (by kernel_rfl) rfl rfl rfl (fun w hM=>(aJ qA57 hF rfl rfl (hM.cell (i:=0) rfl (RMark.g_slots _)))) fun a hF=>?_
   refine aK hF hch 2 rfl (by kernel_rfl) rfl rfl rfl (fun w hM=>(aF hF rfl rfl)) fun a hF=>?_
   refine aK hF hch 3 rfl (by kernel_rfl) rfl rfl rfl (fun w hM=>(aF hF rfl rfl)) fun a hF=>?_
   refine aK hF hch 4 rfl (by kernel_rfl) rfl rfl rfl (fun w hM=>(aC (off':=44) qU54 rfl in51 rfl hF rfl rfl rfl)) fun a hF=>?_
   obtain ⟨k3,l1,hP⟩:=bind_some hP
   have c23:=aM l1
   refine aK hF hch 5 rfl (by kernel_rfl) rfl rfl rfl (fun w hM=>(cU (sz:=13) qU51 in50 rfl hF rfl rfl rfl (dG l1))) fun a hF=>?_
   refine aK hF hch 6 rfl (by kernel_rfl) rfl rfl rfl (fun w hM=>(aR qA50 qS50 hF rfl rfl (LSlot.len _) (hM.cells (i:=5) rfl (RState.ci_stack _ _ _ (aM l1).2)))) fun a hF=>?_
   refine aK hF hch 7 rfl (by kernel_rfl) rfl rfl rfl (fun w hM=>(aF hF rfl rfl)) fun a hF=>?_
   refine aK hF hch 8 rfl (by kernel_rfl) rfl rfl rfl (fun w hM=>(aC (off':=44) qU54 rfl in51 rfl hF rfl rfl rfl)) fun a hF=>?_
   obtain ⟨k4,l2,hP⟩:=bind_some hP
   have c24:=aM l2
   refine aK hF hch 9 rfl (by kernel_rfl) rfl rfl rfl (fun w hM=>(cU (sz:=13) qU51 in50 rfl hF rfl rfl rfl (dG l2))) fun a hF=>?_
   refine aK hF hch 10 rfl (by kernel_rfl) rfl rfl rfl (fun w hM=>(aR qA50 qS50 hF rfl rfl (LSlot.len _) (hM.cells (i:=4) rfl (RState.ci_stack _ _ _ (aM l2).2)))) fun a hF=>?_
   refine aK hF hch 11 rfl (by kernel_rfl) rfl rfl rfl (fun w hM=>(cL z151 qU151 pl151 hF (parts:=[(0,.tmp 73),(1,.tmp 77),(2,.tmp 81)]) rfl rfl (cS rfl rfl (by rw [LCell.len]; decide) (LCell.s_slot _ _) (fR rfl (LSlot.len _) (by rw [LSlot.len,LCell.len]; decide) (LCell.p_old _ _) (fR rfl (LSlot.len _) (by rw [LSlot.len,LCell.len]; decide) (LCell.p_new _ _) cV))))) fun a hF=>?_
   refine bH hch 12 (by kernel_rfl) rfl rfl ?_
   refine cB hF 12 rfl rfl rfl rfl rfl fun w hMs hM=>?_
   refine (cI (X:=LCell) (y:=(LCell.mk k2 k3 k4)) qU57 in151 rfl rfl rfl rfl hF rfl rfl rfl fun i4 w c17 m8=>?_)
   have hM:=hM.plus m8
   replace hM:MemL _ (pt i4 (encs ([(LCell.mk k2 k3 k4)]:List LCell)) 151 :: pt c3 (RMark.enc (RMark.mk x0.at_ x1.at_ x1.done c9 g2 SV.nil SV.nil)) 60 :: rowL 0 c9 128 d9 :: rowL 0 g2 151 j0 :: pt c2 (RMark.enc (RMark.mk 0 0 false SV.nil SV.nil SV.nil SV.nil)) 60 :: pt c1 (RState.enc (RState.mk x1.regs x1.stack s9 s11 s15 x1.at_ x1.steps x1.done)) 54 :: pt c0 (RState.enc (RState.mk x0.regs x0.stack s1 s3 s7 x0.at_ x0.steps x0.done)) 54 :: rowL 0 g9 3 g5 :: Lr):=hM
   have hMs:=selM hM [0,1,2,3,4,5,6,7] 8 rfl
   refine ⟨_,_,hMs,hM,.inl fun _ h=>dropM h 1,fun a hF=>?_⟩
   refine bH hch 13 (by kernel_rfl) rfl rfl ?_
   refine cB hF 13 rfl rfl rfl rfl rfl fun w hMs hM=>?_
   obtain ⟨l9,u1,hP⟩:=bind_some hP
   refine (dB (X:=LCell) u1 qU57 in151 rfl rfl rfl rfl hF rfl rfl rfl (hM.own (X:=LCell) (i:=3) rfl) (hM.ptS (X:=LCell) (i:=0) (n:=1) (c:=1) rfl rfl rfl (Nat.le_refl _)) fun j2 w p3=>?_)
   have hM:=hM.chg p3 (i:=3) rfl
   replace hM:MemL _ (pt i4 (encs ([(LCell.mk k2 k3 k4)]:List LCell)) 151 :: pt c3 (RMark.enc (RMark.mk x0.at_ x1.at_ x1.done c9 g2 SV.nil SV.nil)) 60 :: rowL 0 c9 128 d9 :: rowL 0 j2 151 l9 :: pt c2 (RMark.enc (RMark.mk 0 0 false SV.nil SV.nil SV.nil SV.nil)) 60 :: pt c1 (RState.enc (RState.mk x1.regs x1.stack s9 s11 s15 x1.at_ x1.steps x1.done)) 54 :: pt c0 (RState.enc (RState.mk x0.regs x0.stack s1 s3 s7 x0.at_ x0.steps x0.done)) 54 :: rowL 0 g9 3 g5 :: Lr):=hM
   have hMs:=hM
   refine ⟨_,_,hMs,hM,.inr (by kernel_rfl),fun a hF=>?_⟩
   refine aK hF hch 14 rfl (by kernel_rfl) rfl rfl rfl (fun w hM=>(aC (off':=4) qU60 rfl in57 rfl hF rfl rfl rfl)) fun a hF=>?_
   refine bH hch 15 (by kernel_rfl) rfl rfl ?_
   refine dK 15 rfl rfl rfl rfl fun w hMs hM=>?_
   refine (bT Tryz.sizeOf57 (hM.obj (i:=1) rfl) hF rfl rfl rfl rfl (by rw [RMark.len]; decide) (RMark.s_slots _ _) fun w t3=>?_)
   have hM:=hM.chg t3 (i:=1) rfl
   replace hM:MemL _ (pt i4 (encs ([(LCell.mk k2 k3 k4)]:List LCell)) 151 :: pt c3 (RMark.enc (RMark.mk x0.at_ x1.at_ x1.done c9 j2 SV.nil SV.nil)) 60 :: rowL 0 c9 128 d9 :: rowL 0 j2 151 l9 :: pt c2 (RMark.enc (RMark.mk 0 0 false SV.nil SV.nil SV.nil SV.nil)) 60 :: pt c1 (RState.enc (RState.mk x1.regs x1.stack s9 s11 s15 x1.at_ x1.steps x1.done)) 54 :: pt c0 (RState.enc (RState.mk x0.regs x0.stack s1 s3 s7 x0.at_ x0.steps x0.done)) 54 :: rowL 0 g9 3 g5 :: Lr):=hM
   have hMs:=hM
   refine ⟨_,_,hMs,hM,.inr (by kernel_rfl),?_⟩
   refine bY hch (by kernel_rfl) fun w hM=>?_
   refine bM (aB ?_)
   refine aD ?_
   refine aA hF (cA hF rfl rfl rfl) rfl rfl rfl fun a hF=>?_
   refine aA hF (aF hF rfl rfl) rfl rfl rfl fun a hF=>?_
   refine aI (aB ?_)
   have hP:=Option.some.inj hP
   subst hP
   exact ⟨(d9,l9,(IntKind.i64.wrap (j6 + 1))),rfl,c9,j2,hF.to ⟨rfl,rfl,rfl,rfl,rfl,rfl,rfl,rfl,trivial⟩,selM hM [1,2,3,4,5,6,7] 8 rfl⟩
  have hP:=Fx.cF k6 hP
  refine bZ (bC (bC (cR ?_)))
  refine aB ?_
  have hP:=Option.some.inj hP
  subst hP
  have hP:=z5 _ rfl
  subst hP
  exact ⟨(d9,j0),rfl,c9,g2,hF.to ⟨rfl,rfl,rfl,rfl,rfl,trivial⟩,selM hM [0,1,2,3,4,5] 7 rfl⟩
 rintro ⟨i8,i9⟩ a w hP ⟨d7,d8,hF,hM⟩
 replace hP:Sh.pR x0 x1 i8 i9 = _:=hP
 unfold Sh.pR at hP
 refine aB ?_
 refine aG ?_
 refine aD ?_
 refine aA hF (aC (off':=460) qU54 rfl in23 rfl hF rfl rfl rfl) rfl rfl rfl fun a hF=>?_
 refine aA hF (aJ qA23 hF rfl rfl (hM.cell (i:=5) rfl (RState.g_ctx _))) rfl rfl rfl fun a hF=>?_
 refine aA hF (aC (off':=460) qU54 rfl in23 rfl hF rfl rfl rfl) rfl rfl rfl fun a hF=>?_
 refine aA hF (aJ qA23 hF rfl rfl (hM.cell (i:=4) rfl (RState.g_ctx _))) rfl rfl rfl fun a hF=>?_
 obtain ⟨c38,u5,hP⟩:=bind_some hP
 refine aN hF rfl rfl rfl (aO (xs:=[.const (.int .i64 (-1)),.tmp 88,.tmp 90]) Tryz.call86 hF rfl rfl (kH u5 hM (Bf:=Bf) (fun w hM=>hsub _ (dropM hM 6)) f2 f10) fun v w hR=>?_)
 obtain ⟨j3,k8,l6,rfl,c13,hM⟩:=hR
 replace hM:MemL _ (rowL 0 j3 156 k8 :: l6 :: pt c3 (RMark.enc (RMark.mk x0.at_ x1.at_ x1.done d7 d8 SV.nil SV.nil)) 60 :: rowL 0 d7 128 i8 :: rowL 0 d8 151 i9 :: pt c2 (RMark.enc (RMark.mk 0 0 false SV.nil SV.nil SV.nil SV.nil)) 60 :: pt c1 (RState.enc (RState.mk x1.regs x1.stack s9 s11 s15 x1.at_ x1.steps x1.done)) 54 :: pt c0 (RState.enc (RState.mk x0.regs x0.stack s1 s3 s7 x0.at_ x0.steps x0.done)) 54 :: Lr):=hM
 intro a hF
 refine aA hF (aC (off':=5) qU60 rfl in58 rfl hF rfl rfl rfl) rfl rfl rfl fun a hF=>?_
 refine bK rfl rfl (bT Tryz.sizeOf58 (hM.obj (i:=2) rfl) hF rfl rfl rfl rfl (by rw [RMark.len]; decide) (RMark.s_pieces _ _) fun w t4=>?_)
 have hM:=hM.chg t4 (i:=2) rfl
 replace hM:MemL _ (rowL 0 j3 156 k8 :: l6 :: pt c3 (RMark.enc (RMark.mk x0.at_ x1.at_ x1.done d7 d8 j3 SV.nil)) 60 :: rowL 0 d7 128 i8 :: rowL 0 d8 151 i9 :: pt c2 (RMark.enc (RMark.mk 0 0 false SV.nil SV.nil SV.nil SV.nil)) 60 :: pt c1 (RState.enc (RState.mk x1.regs x1.stack s9 s11 s15 x1.at_ x1.steps x1.done)) 54 :: pt c0 (RState.enc (RState.mk x0.regs x0.stack s1 s3 s7 x0.at_ x0.steps x0.done)) 54 :: Lr):=hM
 refine aI (aB ?_)
 refine aG ?_
 refine aT hF hM hP (fun F x a w=>match x with | (i1,i2,l7)=>∃ (d0:SV) (d1:SV) (d2:SV) (d6:List RPiece) (g0:Res),Each (QPieceIn g0.holds') d6 l7 ∧ Fr 127 [(2,.pointer (some ⟨c0,0,none⟩)),(3,.pointer (some ⟨c1,0,none⟩)),(4,.pointer (some ⟨c2,0,none⟩)),(5,.int .i64 0),(6,.pointer (some ⟨c3,0,none⟩))] a ∧ MemL w (pt c3 (RMark.enc (RMark.mk x0.at_ x1.at_ x1.done d0 d1 d2 SV.nil)) 60 :: rowL 0 d0 128 i1 :: rowL 0 d1 151 i2 :: rowL 0 d2 156 d6 :: g0 :: pt c2 (RMark.enc (RMark.mk 0 0 false SV.nil SV.nil SV.nil SV.nil)) 60 :: pt c1 (RState.enc (RState.mk x1.regs x1.stack s9 s11 s15 x1.at_ x1.steps x1.done)) 54 :: pt c0 (RState.enc (RState.mk x0.regs x0.stack s1 s3 s7 x0.at_ x0.steps x0.done)) 54 :: Lr)) (fun c43 hP c34 hF hM=>?_) ?_
 ·refine aG ?_
  refine aD ?_
  refine aA hF (aC (off':=461) qU54 rfl in28 rfl hF rfl rfl rfl) rfl rfl rfl fun a hF=>?_
  refine aA hF (aJ qA28 hF rfl rfl (hM.cell (i:=7) rfl (RState.g_tables _))) rfl rfl rfl fun a hF=>?_
  refine aA hF (cY (f5 _ (hsub _ (dropM hM 8))) q6.len qU28 hF rfl rfl) rfl rfl rfl fun a hF=>?_
  refine aA hF (aF hF rfl rfl) rfl rfl rfl fun a hF=>?_
  refine aI (aB ?_)
  refine aX ?_
  refine bU hF hM hP (fun F x a w=>match x with | (d3,d4,j7,j8)=>∃ (c4:SV) (c5:SV) (d5:SV) (c6:List RPiece) (g6:Res),Each (QPieceIn g6.holds') c6 j7 ∧ Fr 127 [(96,.int .i64 j8),(2,.pointer (some ⟨c0,0,none⟩)),(3,.pointer (some ⟨c1,0,none⟩)),(4,.pointer (some ⟨c2,0,none⟩)),(5,.int .i64 0),(6,.pointer (some ⟨c3,0,none⟩)),(95,.int .i64 (x0.tables.length:Int))] a ∧ MemL w (pt c3 (RMark.enc (RMark.mk x0.at_ x1.at_ x1.done c4 c5 d5 SV.nil)) 60 :: rowL 0 c4 128 d3 :: rowL 0 c5 151 d4 :: rowL 0 d5 156 c6 :: g6 :: pt c2 (RMark.enc (RMark.mk 0 0 false SV.nil SV.nil SV.nil SV.nil)) 60 :: pt c1 (RState.enc (RState.mk x1.regs x1.stack s9 s11 s15 x1.at_ x1.steps x1.done)) 54 :: pt c0 (RState.enc (RState.mk x0.regs x0.stack s1 s3 s7 x0.at_ x0.steps x0.done)) 54 :: Lr)) (fun hF hM=>⟨d7,d8,j3,k8,l6,c13,hF.to ⟨rfl,rfl,rfl,rfl,rfl,rfl,rfl,trivial⟩,selM hM [2,3,4,0,1,5,6,7] 8 rfl⟩) ?_
  rintro ⟨d3,d4,j7,j8⟩ a w c46 hP z6 ⟨c4,c5,d5,c6,g6,l5,hF,hM⟩
  replace hP:Sh.iB x0 x1 d3 d4 j7 j8 = _:=hP
  unfold Sh.iB at hP
  refine aG ?_
  refine aD ?_
  refine aA hF (cO hF rfl rfl rfl) rfl rfl rfl fun a hF=>?_
  refine aI (aB ?_)
  refine aG ?_
  refine aS hF (c:=.tmp 97) rfl (fun k7=>?_) (fun k7=>?_)
  ·have hP:=Fx.cT k7 hP
   refine aW (aB ?_)
   refine aG ?_
   refine aX ?_
   refine aG ?_
   refine aD ?_
   refine aA hF (aF hF rfl rfl) rfl rfl rfl fun a hF=>?_
   refine aA hF (aH hF rfl rfl) rfl rfl rfl fun a hF=>?_
   refine aI (aB ?_)
   refine bR mixed (by kernel_rfl) hM [0,1,2,3,4,5,6,7] 8 rfl fun hch=>?_
   refine aK hF hch 0 rfl (by kernel_rfl) rfl rfl rfl (fun w hM=>(aC (off':=5) qU60 rfl in58 rfl hF rfl rfl rfl)) fun a hF=>?_
   refine aK hF hch 1 rfl (by kernel_rfl) rfl rfl rfl (fun w hM=>(aJ qA58 hF rfl rfl (hM.cell (i:=0) rfl (RMark.g_pieces _)))) fun a hF=>?_
   refine aK hF hch 2 rfl (by kernel_rfl) rfl rfl rfl (fun w hM=>(aF hF rfl rfl)) fun a hF=>?_
   refine aK hF hch 3 rfl (by kernel_rfl) rfl rfl rfl (fun w hM=>(aC (off':=461) qU54 rfl in28 rfl hF rfl rfl rfl)) fun a hF=>?_
   refine aK hF hch 4 rfl (by kernel_rfl) rfl rfl rfl (fun w hM=>(aJ qA28 hF rfl rfl (hM.cell (i:=7) rfl (RState.g_tables _)))) fun a hF=>?_
   refine aK hF hch 5 rfl (by kernel_rfl) rfl rfl rfl (fun w hM=>(aF hF rfl rfl)) fun a hF=>?_
   obtain ⟨c35,m3,hP⟩:=bind_some hP
   have n6:=aM m3
   obtain ⟨c29,p8,t0⟩:=Each.getr q6 n6.2
   have p6:=Each.bd q6 (bL m3)
   refine aK hF hch 6 rfl (by kernel_rfl) rfl rfl rfl (fun w hM=>(aY (sz:=1) (f5 _ (hsub _ (dropM hM 8))) qU28 in23 rfl hF rfl rfl rfl p6)) fun a hF=>?_
   refine aK hF hch 7 rfl (by kernel_rfl) rfl rfl rfl (fun w hM=>(aJ qA23 hF rfl rfl ((((f5 _ (hsub _ (dropM hM 8))).elemS p8)).get 0 rfl))) fun a hF=>?_
   refine aK hF hch 8 rfl (by kernel_rfl) rfl rfl rfl (fun w hM=>(aC (off':=461) qU54 rfl in28 rfl hF rfl rfl rfl)) fun a hF=>?_
   refine aK hF hch 9 rfl (by kernel_rfl) rfl rfl rfl (fun w hM=>(aJ qA28 hF rfl rfl (hM.cell (i:=6) rfl (RState.g_tables _)))) fun a hF=>?_
   refine aK hF hch 10 rfl (by kernel_rfl) rfl rfl rfl (fun w hM=>(aF hF rfl rfl)) fun a hF=>?_
   obtain ⟨c36,m4,hP⟩:=bind_some hP
   have n7:=aM m4
   obtain ⟨c30,p9,t1⟩:=Each.getr q14 n7.2
   have p7:=Each.bd q14 (bL m4)
   refine aK hF hch 11 rfl (by kernel_rfl) rfl rfl rfl (fun w hM=>(aY (sz:=1) (f13 _ (hsub _ (dropM hM 8))) qU28 in23 rfl hF rfl rfl rfl p7)) fun a hF=>?_
   refine aK hF hch 12 rfl (by kernel_rfl) rfl rfl rfl (fun w hM=>(aJ qA23 hF rfl rfl ((((f13 _ (hsub _ (dropM hM 8))).elemS p9)).get 0 rfl))) fun a hF=>?_
   refine bH hch 13 (by kernel_rfl) rfl rfl ?_
   refine cB hF 13 rfl rfl rfl rfl rfl fun w hMs hM=>?_
   obtain ⟨c39,u6,hP⟩:=bind_some hP
   refine (aO (xs:=[.tmp 101,.tmp 106,.tmp 111]) Tryz.call86 hF rfl rfl (kH u6 hM (Bf:=Bf) (fun w hM=>hsub _ (dropM hM 8)) t0 t1) fun v w hR=>?_)
   obtain ⟨i6,c7,n2,rfl,n1,hM⟩:=hR
   replace hM:MemL _ (rowL 0 i6 156 c7 :: n2 :: pt c3 (RMark.enc (RMark.mk x0.at_ x1.at_ x1.done c4 c5 d5 SV.nil)) 60 :: rowL 0 c4 128 d3 :: rowL 0 c5 151 d4 :: rowL 0 d5 156 c6 :: g6 :: pt c2 (RMark.enc (RMark.mk 0 0 false SV.nil SV.nil SV.nil SV.nil)) 60 :: pt c1 (RState.enc (RState.mk x1.regs x1.stack s9 s11 s15 x1.at_ x1.steps x1.done)) 54 :: pt c0 (RState.enc (RState.mk x0.regs x0.stack s1 s3 s7 x0.at_ x0.steps x0.done)) 54 :: Lr):=hM
   have hMs:=selM hM [0,1,2,3,4,5,6,7,8,9] 10 rfl
   refine ⟨_,_,hMs,hM,.inl fun _ h=>dropM h 2,fun a hF=>?_⟩
   refine bH hch 14 (by kernel_rfl) rfl rfl ?_
   refine cB hF 14 rfl rfl rfl rfl rfl fun w hMs hM=>?_
   obtain ⟨n3,m5,hP⟩:=bind_some hP
   refine (gR (X:=RPiece) m5 l5.len n1.len qU58 in156 rfl rfl rfl rfl hF rfl rfl rfl (hM.own (X:=RPiece) (i:=5) rfl) (hM.rowS (X:=RPiece) (i:=0) rfl) fun i0 w p4=>?_)
   have hM:=hM.chg p4 (i:=5) rfl
   replace hM:MemL _ (rowL 0 i6 156 c7 :: n2 :: pt c3 (RMark.enc (RMark.mk x0.at_ x1.at_ x1.done c4 c5 d5 SV.nil)) 60 :: rowL 0 c4 128 d3 :: rowL 0 c5 151 d4 :: rowL 0 i0 156 (c6 ++ c7) :: g6 :: pt c2 (RMark.enc (RMark.mk 0 0 false SV.nil SV.nil SV.nil SV.nil)) 60 :: pt c1 (RState.enc (RState.mk x1.regs x1.stack s9 s11 s15 x1.at_ x1.steps x1.done)) 54 :: pt c0 (RState.enc (RState.mk x0.regs x0.stack s1 s3 s7 x0.at_ x0.steps x0.done)) 54 :: Lr):=hM
   obtain ⟨i5,t8,t9,hM⟩:=joinM (selM hM [6,1,0,2,3,4,5,7,8,9] 10 rfl)
   replace hM:MemL _ (i5 :: rowL 0 i6 156 c7 :: pt c3 (RMark.enc (RMark.mk x0.at_ x1.at_ x1.done c4 c5 d5 SV.nil)) 60 :: rowL 0 c4 128 d3 :: rowL 0 c5 151 d4 :: rowL 0 i0 156 (c6 ++ c7) :: pt c2 (RMark.enc (RMark.mk 0 0 false SV.nil SV.nil SV.nil SV.nil)) 60 :: pt c1 (RState.enc (RState.mk x1.regs x1.stack s9 s11 s15 x1.at_ x1.steps x1.done)) 54 :: pt c0 (RState.enc (RState.mk x0.regs x0.stack s1 s3 s7 x0.at_ x0.steps x0.done)) 54 :: Lr):=hM
   have c15:Each (QPieceIn i5.holds') (c6 ++ c7) n3:=by rw [(dP m5).2]; exact (l5.mono fun _ _ q=>q.mono t8).append (n1.mono fun _ _ q=>q.mono t9)
   replace hM:MemL _ (i5 :: rowL 0 i6 156 c7 :: pt c3 (RMark.enc (RMark.mk x0.at_ x1.at_ x1.done c4 c5 d5 SV.nil)) 60 :: rowL 0 c4 128 d3 :: rowL 0 c5 151 d4 :: rowL 0 i0 156 (c6 ++ c7) :: pt c2 (RMark.enc (RMark.mk 0 0 false SV.nil SV.nil SV.nil SV.nil)) 60 :: pt c1 (RState.enc (RState.mk x1.regs x1.stack s9 s11 s15 x1.at_ x1.steps x1.done)) 54 :: pt c0 (RState.enc (RState.mk x0.regs x0.stack s1 s3 s7 x0.at_ x0.steps x0.done)) 54 :: Lr):=hM
   have hMs:=hM
   refine ⟨_,_,hMs,hM,.inr (by kernel_rfl),fun a hF=>?_⟩
   refine aK hF hch 15 rfl (by kernel_rfl) rfl rfl rfl (fun w hM=>(aC (off':=5) qU60 rfl in58 rfl hF rfl rfl rfl)) fun a hF=>?_
   refine bH hch 16 (by kernel_rfl) rfl rfl ?_
   refine dK 16 rfl rfl rfl rfl fun w hMs hM=>?_
   refine (bT Tryz.sizeOf58 (hM.obj (i:=2) rfl) hF rfl rfl rfl rfl (by rw [RMark.len]; decide) (RMark.s_pieces _ _) fun w t5=>?_)
   have hM:=hM.chg t5 (i:=2) rfl
   replace hM:MemL _ (i5 :: rowL 0 i6 156 c7 :: pt c3 (RMark.enc (RMark.mk x0.at_ x1.at_ x1.done c4 c5 i0 SV.nil)) 60 :: rowL 0 c4 128 d3 :: rowL 0 c5 151 d4 :: rowL 0 i0 156 (c6 ++ c7) :: pt c2 (RMark.enc (RMark.mk 0 0 false SV.nil SV.nil SV.nil SV.nil)) 60 :: pt c1 (RState.enc (RState.mk x1.regs x1.stack s9 s11 s15 x1.at_ x1.steps x1.done)) 54 :: pt c0 (RState.enc (RState.mk x0.regs x0.stack s1 s3 s7 x0.at_ x0.steps x0.done)) 54 :: Lr):=hM
   have hMs:=hM
   refine ⟨_,_,hMs,hM,.inr (by kernel_rfl),?_⟩
   refine bY hch (by kernel_rfl) fun w hM=>?_
   refine bM (aB ?_)
   refine aD ?_
   refine aA hF (cA hF rfl rfl rfl) rfl rfl rfl fun a hF=>?_
   refine aA hF (aF hF rfl rfl) rfl rfl rfl fun a hF=>?_
   refine aI (aB ?_)
   have hP:=Option.some.inj hP
   subst hP
   exact ⟨(d3,d4,n3,(IntKind.i64.wrap (j8 + 1))),rfl,c4,c5,i0,(c6 ++ c7),i5,c15,hF.to ⟨rfl,rfl,rfl,rfl,rfl,rfl,rfl,trivial⟩,selM hM [2,3,4,5,0,6,7,8] 9 rfl⟩
  have hP:=Fx.cF k7 hP
  refine bZ (bC (bC (cR ?_)))
  refine aB ?_
  have hP:=Option.some.inj hP
  subst hP
  have hP:=z6 _ rfl
  subst hP
  exact ⟨(d3,d4,j7),rfl,c4,c5,d5,c6,g6,l5,hF.to ⟨rfl,rfl,rfl,rfl,rfl,trivial⟩,hM⟩
 rintro ⟨i1,i2,l7⟩ a w hP ⟨d0,d1,d2,d6,g0,c14,hF,hM⟩
 replace hP:Sh.pS x0 x1 i1 i2 l7 = _:=hP
 unfold Sh.pS at hP
 refine aB ?_
 refine aG ?_
 refine bR mixed (by kernel_rfl) hM [0,1,2,3,4,5,6,7] 8 rfl fun hch=>?_
 refine aK hF hch 0 rfl (by kernel_rfl) rfl rfl rfl (fun w hM=>(aC (off':=6) qU60 rfl in52 rfl hF rfl rfl rfl)) fun a hF=>?_
 refine aK hF hch 1 rfl (by kernel_rfl) rfl rfl rfl (fun w hM=>(aJ qA52 hF rfl rfl (hM.cell (i:=0) rfl (RMark.g_sent _)))) fun a hF=>?_
 refine aK hF hch 2 rfl (by kernel_rfl) rfl rfl rfl (fun w hM=>(aC (off':=462) qU54 rfl in52 rfl hF rfl rfl rfl)) fun a hF=>?_
 refine aK hF hch 3 rfl (by kernel_rfl) rfl rfl rfl (fun w hM=>(aJ qA52 hF rfl rfl (hM.cell (i:=6) rfl (RState.g_sent _)))) fun a hF=>?_
 refine aK hF hch 4 rfl (by kernel_rfl) rfl rfl rfl (fun w hM=>(aC (off':=462) qU54 rfl in52 rfl hF rfl rfl rfl)) fun a hF=>?_
 refine aK hF hch 5 rfl (by kernel_rfl) rfl rfl rfl (fun w hM=>(aJ qA52 hF rfl rfl (hM.cell (i:=7) rfl (RState.g_sent _)))) fun a hF=>?_
 refine aK hF hch 6 rfl (by kernel_rfl) rfl rfl rfl (fun w hM=>(bQ (f8 _ (hsub _ (dropM hM 8))) qU52 hF rfl rfl)) fun a hF=>?_
 obtain ⟨c37,m6,hP⟩:=bind_some hP
 refine aK hF hch 7 rfl (by kernel_rfl) rfl rfl rfl (fun w hM=>(gM (f16 _ (hsub _ (dropM hM 8))) m6 qU52 in3 rfl hF rfl rfl (.inr ⟨_,_,rfl,rfl⟩) (.inl ⟨rfl,rfl⟩))) fun a hF=>?_
 refine bH hch 8 (by kernel_rfl) rfl rfl ?_
 refine cB hF 8 rfl rfl rfl rfl rfl fun w hMs hM=>?_
 have hM:=hM.rowNil (X:=Int) 0 3
 obtain ⟨m0,u2,hP⟩:=bind_some hP
 refine (dB (X:=Int) u2 qU52 in3 rfl rfl rfl rfl hF rfl rfl rfl (hM.own (X:=Int) (i:=0) rfl) ((LIn.slc f16 m6 rfl) _ (hsub _ (dropM hM 9))) fun g3 w p5=>?_)
 have hM:=hM.chg p5 (i:=0) rfl
 replace hM:MemL _ (rowL 0 g3 3 m0 :: pt c3 (RMark.enc (RMark.mk x0.at_ x1.at_ x1.done d0 d1 d2 SV.nil)) 60 :: rowL 0 d0 128 i1 :: rowL 0 d1 151 i2 :: rowL 0 d2 156 d6 :: g0 :: pt c2 (RMark.enc (RMark.mk 0 0 false SV.nil SV.nil SV.nil SV.nil)) 60 :: pt c1 (RState.enc (RState.mk x1.regs x1.stack s9 s11 s15 x1.at_ x1.steps x1.done)) 54 :: pt c0 (RState.enc (RState.mk x0.regs x0.stack s1 s3 s7 x0.at_ x0.steps x0.done)) 54 :: Lr):=hM
 have hMs:=selM hM [0,1,2,3,4,5,6,7,8] 9 rfl
 refine ⟨_,_,hMs,hM,.inl fun _ h=>dropM h 1,fun a hF=>?_⟩
 refine aK hF hch 9 rfl (by kernel_rfl) rfl rfl rfl (fun w hM=>(aC (off':=6) qU60 rfl in52 rfl hF rfl rfl rfl)) fun a hF=>?_
 refine bH hch 10 (by kernel_rfl) rfl rfl ?_
 refine dK 10 rfl rfl rfl rfl fun w hMs hM=>?_
 refine (bT qS52 (hM.obj (i:=1) rfl) hF rfl rfl rfl rfl (by rw [RMark.len]; decide) (RMark.s_sent _ _) fun w t6=>?_)
 have hM:=hM.chg t6 (i:=1) rfl
 replace hM:MemL _ (rowL 0 g3 3 m0 :: pt c3 (RMark.enc (RMark.mk x0.at_ x1.at_ x1.done d0 d1 d2 g3)) 60 :: rowL 0 d0 128 i1 :: rowL 0 d1 151 i2 :: rowL 0 d2 156 d6 :: g0 :: pt c2 (RMark.enc (RMark.mk 0 0 false SV.nil SV.nil SV.nil SV.nil)) 60 :: pt c1 (RState.enc (RState.mk x1.regs x1.stack s9 s11 s15 x1.at_ x1.steps x1.done)) 54 :: pt c0 (RState.enc (RState.mk x0.regs x0.stack s1 s3 s7 x0.at_ x0.steps x0.done)) 54 :: Lr):=hM
 have hMs:=hM
 refine ⟨_,_,hMs,hM,.inr (by kernel_rfl),?_⟩
 refine bY hch (by kernel_rfl) fun w hM=>?_
 refine aB ?_
 refine aG ?_
 refine aD ?_
 refine aA hF (aR qA60 qS60 hF rfl rfl (RMark.len _) (hM.cells (i:=1) rfl (bB (RMark.len _)))) rfl rfl rfl fun a hF=>?_
 refine bK rfl rfl (bA (vs:=_) qS60 (hM.obj (i:=6) rfl) hF rfl rfl rfl rfl (RMark.len _) (RMark.one _) (by first | (rw [RMark.len,RMark.len]; decide) | (rw [RMark.len]; decide)) (bG ((RMark.len _).trans (RMark.len _).symm)) fun w t7=>?_)
 have hM:=hM.chg t7 (i:=6) rfl
 replace hM:MemL _ (rowL 0 g3 3 m0 :: pt c3 (RMark.enc (RMark.mk x0.at_ x1.at_ x1.done d0 d1 d2 g3)) 60 :: rowL 0 d0 128 i1 :: rowL 0 d1 151 i2 :: rowL 0 d2 156 d6 :: g0 :: pt c2 (RMark.enc (RMark.mk x0.at_ x1.at_ x1.done d0 d1 d2 g3)) 60 :: pt c1 (RState.enc (RState.mk x1.regs x1.stack s9 s11 s15 x1.at_ x1.steps x1.done)) 54 :: pt c0 (RState.enc (RState.mk x0.regs x0.stack s1 s3 s7 x0.at_ x0.steps x0.done)) 54 :: Lr):=hM
 refine aA hF (aH hF rfl rfl) rfl rfl rfl fun a hF=>?_
 refine aI (aB ?_)
 refine c_ret ?_
 have hP:=Option.some.inj hP
 subst hP
 refine dO (rs:=[.cell 4 60,.tmp 5]) Tryz.results31 hF (cC hF rfl qA60 qS60 (RMark.len _) (hM.cells (i:=6) rfl (bB (RMark.len _))) (cM hF rfl cJ)) rfl ?_
 exact ⟨d0,d1,d2,d6,g0,g3,rfl,c14,selM hM [2,3,4,5,0] 9 rfl⟩
end Go.Proofs
end
