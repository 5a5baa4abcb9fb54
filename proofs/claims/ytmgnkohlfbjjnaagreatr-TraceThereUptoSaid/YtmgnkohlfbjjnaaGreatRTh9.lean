/- Ground for this claim: The call of TraceThere returns true. Condition: the arguments are of bulk at most 1048576. -/
import Derived.Test.YtmgnkohlfbjjnaaGreatRTh8
section
namespace Go.Proofs
open Go.Fw Go.Fx
set_option maxRecDepth 10000
set_option linter.unusedVariables false
set_option linter.unusedSimpArgs false
set_option maxHeartbeats 4000000 in
theorem kP {x0:QState} {x1:QMark} {s1:SV} {s3:SV} {hs4:List SV} {s7:SV} {s9:SV} {s11:SV} {s13:SV} {hs14:List RPiece} {s17:SV} {out:Int} {w0:World} {Bf:World → Prop} {Lr:List Res} (hP:Sh.kH x0 x1 = some out) (hM:MemL w0 (Lr)) (hsub:∀ w,MemL w Lr → Bf w) (f2:LIn Bf s1 x0.ctx) (f5:LIn Bf s3 hs4) (q6:Each (LIn (X:=UInt8) Bf) hs4 x0.tables) (f8:LIn Bf s7 x0.sent) (f10:LIn Bf s9 x1.regs) (f12:LIn Bf s11 x1.slots) (f15:LIn Bf s13 hs14) (q16:Each (QPieceIn Bf) hs14 x1.pieces) (f18:LIn Bf s17 x1.sent):Calls Tryz.prog 125 #[.agg (RState.enc (RState.mk x0.regs x0.stack s1 s3 s7 x0.at_ x0.steps x0.done)).toArray,.agg (RMark.enc (RMark.mk x1.at_ x1.next x1.done s9 s11 s13 s17)).toArray] w0 (Ret fun v w'=>v = .int .i64 out ∧ MemL w' (Lr)):=by
 unfold Sh.kH at hP
 refine aP (vs:=[.agg (RState.enc (RState.mk x0.regs x0.stack s1 s3 s7 x0.at_ x0.steps x0.done)).toArray,.agg (RMark.enc (RMark.mk x1.at_ x1.next x1.done s9 s11 s13 s17)).toArray]) Tryz.func125 rfl Tryz.ntmps125 rfl fun a hF=>?_
 refine aG ?_
 refine aD ?_
 refine aN hF rfl rfl rfl (cW hF rfl rfl rfl fun c0 w c4 c2=>?_)
 have hM:=hM.plus c2
 intro a hF
 refine aN hF rfl rfl rfl (cW hF rfl rfl rfl fun c1 w c5 c3=>?_)
 have hM:=hM.plus c3
 replace hM:MemL _ (pt c1 (RMark.enc (RMark.mk x1.at_ x1.next x1.done s9 s11 s13 s17)) 60 :: pt c0 (RState.enc (RState.mk x0.regs x0.stack s1 s3 s7 x0.at_ x0.steps x0.done)) 54 :: Lr):=hM
 intro a hF
 refine aA hF (aH hF rfl rfl) rfl rfl rfl fun a hF=>?_
 refine aI (aB ?_)
 refine aG ?_
 refine aX ?_
 refine aG ?_
 refine aD ?_
 refine aA hF (aR qA54 qS54 hF rfl rfl (RState.len _) (hM.cells (i:=1) rfl (bB (RState.len _)))) rfl rfl rfl fun a hF=>?_
 obtain ⟨y38,hy38,hP⟩:=bind_some hP
 refine aN hF rfl rfl rfl (aO (xs:=[.tmp 6]) Tryz.call82 hF rfl rfl (fW hy38 hM (Bf:=Bf) (fun w hM=>hsub _ (dropM hM 2)) f2 f5 q6 f8) fun v w hR=>?_)
 obtain ⟨rfl,hM⟩:=hR
 replace hM:MemL _ (pt c1 (RMark.enc (RMark.mk x1.at_ x1.next x1.done s9 s11 s13 s17)) 60 :: pt c0 (RState.enc (RState.mk x0.regs x0.stack s1 s3 s7 x0.at_ x0.steps x0.done)) 54 :: Lr):=hM
 intro a hF
 refine aA hF (dE hF rfl rfl) rfl rfl rfl fun a hF=>?_
 refine aA hF (aH hF rfl rfl) rfl rfl rfl fun a hF=>?_
 refine aI (aB ?_)
 refine aS hF (c:=.tmp 5) rfl (fun hb39=>?_) (fun hb39=>?_)
 ·have hP:=Fx.cT hb39 hP
  refine aG ?_
  refine aD ?_
  refine aA hF (aH hF rfl rfl) rfl rfl rfl fun a hF=>?_
  refine aI (aB ?_)
  refine c_ret ?_
  have hP:=Option.some.inj hP
  subst hP
  refine bE Tryz.results125 hF rfl ?_
  exact ⟨rfl,selM hM [] 2 rfl⟩
 have hP:=Fx.cF hb39 hP
 refine aG ?_
 refine aD ?_
 refine aA hF (aR qA60 qS60 hF rfl rfl (RMark.len _) (hM.cells (i:=0) rfl (bB (RMark.len _)))) rfl rfl rfl fun a hF=>?_
 obtain ⟨y41,hy41,hP⟩:=bind_some hP
 refine aN hF rfl rfl rfl (aO (xs:=[.tmp 10]) Tryz.call173 hF rfl rfl (iO hy41 hM (Bf:=Bf) (fun w hM=>hsub _ (dropM hM 2)) f10 f12 f15 q16 f18) fun v w hR=>?_)
 obtain ⟨rfl,hM⟩:=hR
 replace hM:MemL _ (pt c1 (RMark.enc (RMark.mk x1.at_ x1.next x1.done s9 s11 s13 s17)) 60 :: pt c0 (RState.enc (RState.mk x0.regs x0.stack s1 s3 s7 x0.at_ x0.steps x0.done)) 54 :: Lr):=hM
 intro a hF
 refine aA hF (dE hF rfl rfl) rfl rfl rfl fun a hF=>?_
 refine aA hF (aH hF rfl rfl) rfl rfl rfl fun a hF=>?_
 refine aI (aB ?_)
 refine aS hF (c:=.tmp 9) rfl (fun hb42=>?_) (fun hb42=>?_)
 ·have hP:=Fx.cT hb42 hP
  refine aG ?_
  refine aD ?_
  refine aA hF (aH hF rfl rfl) rfl rfl rfl fun a hF=>?_
  refine aI (aB ?_)
  refine c_ret ?_
  have hP:=Option.some.inj hP
  subst hP
  refine bE Tryz.results125 hF rfl ?_
  exact ⟨rfl,selM hM [] 2 rfl⟩
 have hP:=Fx.cF hb42 hP
 refine aW (bM (aB ?_))
 refine aG ?_
 refine aD ?_
 refine aA hF (aH hF rfl rfl) rfl rfl rfl fun a hF=>?_
 refine aI (aB ?_)
 refine c_ret ?_
 have hP:=Option.some.inj hP
 subst hP
 refine bE Tryz.results125 hF rfl ?_
 exact ⟨rfl,selM hM [] 2 rfl⟩
set_option maxHeartbeats 4000000 in
theorem kO {x0:QState} {x1:QMark} {s1:SV} {s3:SV} {hs4:List SV} {s7:SV} {s9:SV} {s11:SV} {s13:SV} {hs14:List RPiece} {s17:SV} {out:(QState × Int)} {w0:World} {Bf:World → Prop} {Lr:List Res} (hP:Sh.gD x0 x1 = some out) (hM:MemL w0 (Lr)) (hsub:∀ w,MemL w Lr → Bf w) (f2:LIn Bf s1 x0.ctx) (f5:LIn Bf s3 hs4) (q6:Each (LIn (X:=UInt8) Bf) hs4 x0.tables) (f8:LIn Bf s7 x0.sent) (f10:LIn Bf s9 x1.regs) (f12:LIn Bf s11 x1.slots) (f15:LIn Bf s13 hs14) (q16:Each (QPieceIn Bf) hs14 x1.pieces) (f18:LIn Bf s17 x1.sent):Calls Tryz.prog 52 #[.agg (RState.enc (RState.mk x0.regs x0.stack s1 s3 s7 x0.at_ x0.steps x0.done)).toArray,.agg (RMark.enc (RMark.mk x1.at_ x1.next x1.done s9 s11 s13 s17)).toArray] w0 (Ret fun v w'=>∃ (s75:SV) (s77:SV) (hs78:List SV) (r80:Res) (s82:SV),v = .tuple #[.agg (RState.enc (RState.mk out.1.regs out.1.stack s75 s77 s82 out.1.at_ out.1.steps out.1.done)).toArray,.int .i64 out.2] ∧ Each (LIn (X:=UInt8) r80.holds') hs78 out.1.tables ∧ MemL w' (rowL 0 s75 5 out.1.ctx :: rowL 0 s77 23 hs78 :: r80 :: rowL 0 s82 3 out.1.sent :: Lr)):=by
 unfold Sh.gD at hP
 refine aP (vs:=[.agg (RState.enc (RState.mk x0.regs x0.stack s1 s3 s7 x0.at_ x0.steps x0.done)).toArray,.agg (RMark.enc (RMark.mk x1.at_ x1.next x1.done s9 s11 s13 s17)).toArray]) Tryz.func52 rfl Tryz.ntmps52 rfl fun a hF=>?_
 refine aG ?_
 refine aD ?_
 refine aN hF rfl rfl rfl (cW hF rfl rfl rfl fun c1 w i2 d5=>?_)
 have hM:=hM.plus d5
 intro a hF
 refine aN hF rfl rfl rfl (cW hF rfl rfl rfl fun c2 w i3 d6=>?_)
 have hM:=hM.plus d6
 intro a hF
 refine aN hF rfl rfl rfl (bS z54 (zs:=RState.zero.enc) rfl rfl fun c3 w i4 d7=>?_)
 have hM:=hM.plus d7
 replace hM:MemL _ (pt c3 (RState.enc (RState.mk (⟨List.replicate 11 LVal.zero,rfl⟩ : Vec LVal 11) (⟨List.replicate 32 LSlot.zero,rfl⟩ : Vec LSlot 32) SV.nil SV.nil SV.nil 0 0 false)) 54 :: pt c2 (RMark.enc (RMark.mk x1.at_ x1.next x1.done s9 s11 s13 s17)) 60 :: pt c1 (RState.enc (RState.mk x0.regs x0.stack s1 s3 s7 x0.at_ x0.steps x0.done)) 54 :: Lr):=hM
 intro a hF
 refine aA hF (aH hF rfl rfl) rfl rfl rfl fun a hF=>?_
 refine aI (aB ?_)
 refine aG ?_
 refine aG ?_
 refine aD ?_
 refine aA hF (aR qA54 qS54 hF rfl rfl (RState.len _) (hM.cells (i:=2) rfl (bB (RState.len _)))) rfl rfl rfl fun a hF=>?_
 refine aA hF (aR qA60 qS60 hF rfl rfl (RMark.len _) (hM.cells (i:=1) rfl (bB (RMark.len _)))) rfl rfl rfl fun a hF=>?_
 obtain ⟨y89,hy89,hP⟩:=bind_some hP
 refine aN hF rfl rfl rfl (aO (xs:=[.tmp 7,.tmp 8]) Tryz.call125 hF rfl rfl (kP hy89 hM (Bf:=Bf) (fun w hM=>hsub _ (dropM hM 3)) f2 f5 q6 f8 f10 f12 f15 q16 f18) fun v w hR=>?_)
 obtain ⟨rfl,hM⟩:=hR
 replace hM:MemL _ (pt c3 (RState.enc (RState.mk (⟨List.replicate 11 LVal.zero,rfl⟩ : Vec LVal 11) (⟨List.replicate 32 LSlot.zero,rfl⟩ : Vec LSlot 32) SV.nil SV.nil SV.nil 0 0 false)) 54 :: pt c2 (RMark.enc (RMark.mk x1.at_ x1.next x1.done s9 s11 s13 s17)) 60 :: pt c1 (RState.enc (RState.mk x0.regs x0.stack s1 s3 s7 x0.at_ x0.steps x0.done)) 54 :: Lr):=hM
 intro a hF
 refine aA hF (aH hF rfl rfl) rfl rfl rfl fun a hF=>?_
 refine aI (aB ?_)
 refine aG ?_
 refine aD ?_
 refine aA hF (aF hF rfl rfl) rfl rfl rfl fun a hF=>?_
 refine aA hF (dD hF rfl rfl rfl) rfl rfl rfl fun a hF=>?_
 refine aI (aB ?_)
 refine aS hF (c:=.tmp 11) rfl (fun hb90=>?_) (fun hb90=>?_)
 ·have hP:=Fx.cT hb90 hP
  refine aG ?_
  refine aD ?_
  refine aA hF (cL z54 qU54 pl54 hF (parts:=[]) rfl rfl cV) rfl rfl rfl fun a hF=>?_
  refine aA hF (aF hF rfl rfl) rfl rfl rfl fun a hF=>?_
  refine bK rfl rfl (bA (vs:=_) qS54 (hM.obj (i:=0) rfl) hF rfl rfl rfl rfl (RState.len _) (RState.one _) (by first | (rw [RState.len,RState.len]; decide) | (rw [RState.len]; decide)) (bG ((RState.len _).trans (RState.len _).symm)) fun w hU91=>?_)
  have hM:=hM.chg hU91 (i:=0) rfl
  replace hM:MemL _ (pt c3 (RState.enc (RState.mk (⟨List.replicate 11 LVal.zero,rfl⟩ : Vec LVal 11) (⟨List.replicate 32 LSlot.zero,rfl⟩ : Vec LSlot 32) SV.nil SV.nil SV.nil 0 0 false)) 54 :: pt c2 (RMark.enc (RMark.mk x1.at_ x1.next x1.done s9 s11 s13 s17)) 60 :: pt c1 (RState.enc (RState.mk x0.regs x0.stack s1 s3 s7 x0.at_ x0.steps x0.done)) 54 :: Lr):=hM
  refine aA hF (aH hF rfl rfl) rfl rfl rfl fun a hF=>?_
  refine aI (aB ?_)
  refine c_ret ?_
  have hM:=hM.rowNil (X:=UInt8) 0 5
  obtain ⟨r94,hM⟩:=voidM hM
  have q95:Each (LIn (X:=UInt8) r94.holds') ([]:List SV) ([]:List (List UInt8)):=Each.nil
  have hM:=hM.rowNil (X:=SV) 0 23
  have hM:=hM.rowNil (X:=Int) 0 3
  have hP:=Option.some.inj hP
  subst hP
  refine dO (rs:=[.cell 4 54,.tmp 5]) Tryz.results52 hF (cC hF rfl qA54 qS54 (RState.len _) (hM.cells (i:=4) rfl (bB (RState.len _))) (cM hF rfl cJ)) rfl ?_
  exact ⟨SV.nil,SV.nil,[],r94,SV.nil,rfl,q95,selM hM [3,1,2,0] 7 rfl⟩
 have hP:=Fx.cF hb90 hP
 refine aW (aB ?_)
 refine aG ?_
 refine aG ?_
 refine aT hF hM hP (fun F x a w=>match x with | d3=>Fr 45 [(26,.bool d3),(2,.pointer (some ⟨c1,0,none⟩)),(3,.pointer (some ⟨c2,0,none⟩)),(4,.pointer (some ⟨c3,0,none⟩)),(5,.int .i64 0)] a ∧ MemL w (pt c3 (RState.enc (RState.mk (⟨List.replicate 11 LVal.zero,rfl⟩ : Vec LVal 11) (⟨List.replicate 32 LSlot.zero,rfl⟩ : Vec LSlot 32) SV.nil SV.nil SV.nil 0 0 false)) 54 :: pt c2 (RMark.enc (RMark.mk x1.at_ x1.next x1.done s9 s11 s13 s17)) 60 :: pt c1 (RState.enc (RState.mk x0.regs x0.stack s1 s3 s7 x0.at_ x0.steps x0.done)) 54 :: Lr)) (fun i6 hP i5 hF hM=>?_) ?_
 ·refine aD ?_
  refine aA hF (aC (off':=465) qU54 rfl in4 rfl hF rfl rfl rfl) rfl rfl rfl fun a hF=>?_
  refine aA hF (aJ qA4 hF rfl rfl (hM.cell (i:=2) rfl (RState.g_done _))) rfl rfl rfl fun a hF=>?_
  refine aA hF (aF hF rfl rfl) rfl rfl rfl fun a hF=>?_
  refine bD 16 hF rfl (fun c7=>?_) (fun c7=>?_)
  ·have hP:=Fx.cT c7 hP
   refine aE hF rfl rfl rfl c7 rfl rfl fun a hF=>?_
   refine aE hF rfl rfl rfl c7 rfl rfl fun a hF=>?_
   refine aE hF rfl rfl rfl c7 rfl rfl fun a hF=>?_
   refine aA hF (aQ hF rfl rfl c7 rfl) rfl rfl rfl fun a hF=>?_
   refine aA hF (aF hF rfl rfl) rfl rfl rfl fun a hF=>?_
   refine aE hF rfl rfl rfl rfl rfl rfl fun a hF=>?_
   refine aE hF rfl rfl rfl rfl rfl rfl fun a hF=>?_
   refine aE hF rfl rfl rfl rfl rfl rfl fun a hF=>?_
   refine aE hF rfl rfl rfl rfl rfl rfl fun a hF=>?_
   refine aA hF (aQ hF rfl rfl rfl rfl) rfl rfl rfl fun a hF=>?_
   refine aI (aB ?_)
   have hP:=Option.some.inj hP
   subst hP
   exact ⟨true,rfl,hF.to ⟨rfl,rfl,rfl,rfl,rfl,trivial⟩,hM⟩
  have hP:=Fx.cF c7 hP
  refine aL hF rfl rfl rfl c7 (aC (off':=464) qU54 rfl in3 rfl hF rfl rfl rfl) rfl rfl fun a hF=>?_
  refine aL hF rfl rfl rfl c7 (aJ qA3 hF rfl rfl (hM.cell (i:=2) rfl (RState.g_steps _))) rfl rfl fun a hF=>?_
  refine aL hF rfl rfl rfl c7 (cZ hF rfl rfl rfl) rfl rfl fun a hF=>?_
  refine aA hF (aV hF rfl rfl c7 rfl) rfl rfl rfl fun a hF=>?_
  refine aA hF (aF hF rfl rfl) rfl rfl rfl fun a hF=>?_
  refine bD 21 hF rfl (fun c4=>?_) (fun c4=>?_)
  ·have hP:=Fx.cT c4 hP
   refine aE hF rfl rfl rfl c4 rfl rfl fun a hF=>?_
   refine aE hF rfl rfl rfl c4 rfl rfl fun a hF=>?_
   refine aE hF rfl rfl rfl c4 rfl rfl fun a hF=>?_
   refine aE hF rfl rfl rfl c4 rfl rfl fun a hF=>?_
   refine aA hF (aQ hF rfl rfl c4 rfl) rfl rfl rfl fun a hF=>?_
   refine aI (aB ?_)
   have hP:=Option.some.inj hP
   subst hP
   exact ⟨true,rfl,hF.to ⟨rfl,rfl,rfl,rfl,rfl,trivial⟩,hM⟩
  have hP:=Fx.cF c4 hP
  refine aL hF rfl rfl rfl c4 (aR qA54 qS54 hF rfl rfl (RState.len _) (hM.cells (i:=2) rfl (bB (RState.len _)))) rfl rfl fun a hF=>?_
  refine aL hF rfl rfl rfl c4 (aR qA60 qS60 hF rfl rfl (RMark.len _) (hM.cells (i:=1) rfl (bB (RMark.len _)))) rfl rfl fun a hF=>?_
  obtain ⟨i1,g7,hP⟩:=bind_some hP
  refine dX hF rfl rfl rfl c4 rfl rfl (aO (xs:=[.tmp 22,.tmp 23]) Tryz.call126 hF rfl rfl (lI g7 hM (Bf:=Bf) (fun w hM=>hsub _ (dropM hM 3)) f2 f5 q6 f8 f10 f12 f15 q16 f18) fun v w hR=>?_)
  obtain ⟨rfl,hM⟩:=hR
  replace hM:MemL _ (pt c3 (RState.enc (RState.mk (⟨List.replicate 11 LVal.zero,rfl⟩ : Vec LVal 11) (⟨List.replicate 32 LSlot.zero,rfl⟩ : Vec LSlot 32) SV.nil SV.nil SV.nil 0 0 false)) 54 :: pt c2 (RMark.enc (RMark.mk x1.at_ x1.next x1.done s9 s11 s13 s17)) 60 :: pt c1 (RState.enc (RState.mk x0.regs x0.stack s1 s3 s7 x0.at_ x0.steps x0.done)) 54 :: Lr):=hM
  intro a hF
  refine aL hF rfl rfl rfl c4 (dE hF rfl rfl) rfl rfl fun a hF=>?_
  refine aA hF (aV hF rfl rfl c4 rfl) rfl rfl rfl fun a hF=>?_
  refine aI (aB ?_)
  have hP:=Option.some.inj hP
  subst hP
  exact ⟨(!i1),rfl,hF.to ⟨rfl,rfl,rfl,rfl,rfl,trivial⟩,hM⟩
 rintro d3 a w hP ⟨hF,hM⟩
 replace hP:Sh.oO x0 x1 d3 = _:=hP
 unfold Sh.oO at hP
 refine aB ?_
 refine aS hF (c:=.tmp 26) rfl (fun d2=>?_) (fun d2=>?_)
 ·have hP:=Fx.cT d2 hP
  refine aG ?_
  refine aD ?_
  refine aA hF (cL z54 qU54 pl54 hF (parts:=[]) rfl rfl cV) rfl rfl rfl fun a hF=>?_
  refine bK rfl rfl (bA (vs:=_) qS54 (hM.obj (i:=0) rfl) hF rfl rfl rfl rfl (RState.len _) (RState.one _) (by first | (rw [RState.len,RState.len]; decide) | (rw [RState.len]; decide)) (bG ((RState.len _).trans (RState.len _).symm)) fun w g0=>?_)
  have hM:=hM.chg g0 (i:=0) rfl
  replace hM:MemL _ (pt c3 (RState.enc (RState.mk (⟨List.replicate 11 LVal.zero,rfl⟩ : Vec LVal 11) (⟨List.replicate 32 LSlot.zero,rfl⟩ : Vec LSlot 32) SV.nil SV.nil SV.nil 0 0 false)) 54 :: pt c2 (RMark.enc (RMark.mk x1.at_ x1.next x1.done s9 s11 s13 s17)) 60 :: pt c1 (RState.enc (RState.mk x0.regs x0.stack s1 s3 s7 x0.at_ x0.steps x0.done)) 54 :: Lr):=hM
  refine aA hF (aH hF rfl rfl) rfl rfl rfl fun a hF=>?_
  refine aI (aB ?_)
  refine c_ret ?_
  have hM:=hM.rowNil (X:=UInt8) 0 5
  obtain ⟨d9,hM⟩:=voidM hM
  have g9:Each (LIn (X:=UInt8) d9.holds') ([]:List SV) ([]:List (List UInt8)):=Each.nil
  have hM:=hM.rowNil (X:=SV) 0 23
  have hM:=hM.rowNil (X:=Int) 0 3
  have hP:=Option.some.inj hP
  subst hP
  refine dO (rs:=[.cell 4 54,.tmp 5]) Tryz.results52 hF (cC hF rfl qA54 qS54 (RState.len _) (hM.cells (i:=4) rfl (bB (RState.len _))) (cM hF rfl cJ)) rfl ?_
  exact ⟨SV.nil,SV.nil,[],d9,SV.nil,rfl,g9,selM hM [3,1,2,0] 7 rfl⟩
 have hP:=Fx.cF d2 hP
 refine aW (aB ?_)
 refine aG ?_
 refine aD ?_
 refine aA hF (aR qA54 qS54 hF rfl rfl (RState.len _) (hM.cells (i:=2) rfl (bB (RState.len _)))) rfl rfl rfl fun a hF=>?_
 refine aA hF (aR qA60 qS60 hF rfl rfl (RMark.len _) (hM.cells (i:=1) rfl (bB (RMark.len _)))) rfl rfl rfl fun a hF=>?_
 obtain ⟨c0,g8,hP⟩:=bind_some hP
 refine aN hF rfl rfl rfl (aO (xs:=[.tmp 28,.tmp 29]) Tryz.call127 hF rfl rfl (kG g8 hM (Bf:=Bf) (fun w hM=>hsub _ (dropM hM 3)) f2 f5 q6 f8 f10 f12 f15 q16 f18) fun v w hR=>?_)
 obtain ⟨c5,c6,c8,c9,d0,rfl,i0,hM⟩:=hR
 replace hM:MemL _ (rowL 0 c5 5 c0.ctx :: rowL 0 c6 23 c8 :: c9 :: rowL 0 d0 3 c0.sent :: pt c3 (RState.enc (RState.mk (⟨List.replicate 11 LVal.zero,rfl⟩ : Vec LVal 11) (⟨List.replicate 32 LSlot.zero,rfl⟩ : Vec LSlot 32) SV.nil SV.nil SV.nil 0 0 false)) 54 :: pt c2 (RMark.enc (RMark.mk x1.at_ x1.next x1.done s9 s11 s13 s17)) 60 :: pt c1 (RState.enc (RState.mk x0.regs x0.stack s1 s3 s7 x0.at_ x0.steps x0.done)) 54 :: Lr):=hM
 intro a hF
 refine bK rfl rfl (bA (vs:=_) qS54 (hM.obj (i:=6) rfl) hF rfl rfl rfl rfl (RState.len _) (RState.one _) (by first | (rw [RState.len,RState.len]; decide) | (rw [RState.len]; decide)) (bG ((RState.len _).trans (RState.len _).symm)) fun w g1=>?_)
 have hM:=hM.chg g1 (i:=6) rfl
 replace hM:MemL _ (rowL 0 c5 5 c0.ctx :: rowL 0 c6 23 c8 :: c9 :: rowL 0 d0 3 c0.sent :: pt c3 (RState.enc (RState.mk (⟨List.replicate 11 LVal.zero,rfl⟩ : Vec LVal 11) (⟨List.replicate 32 LSlot.zero,rfl⟩ : Vec LSlot 32) SV.nil SV.nil SV.nil 0 0 false)) 54 :: pt c2 (RMark.enc (RMark.mk x1.at_ x1.next x1.done s9 s11 s13 s17)) 60 :: pt c1 (RState.enc (RState.mk c0.regs c0.stack c5 c6 d0 c0.at_ c0.steps c0.done)) 54 :: Lr):=hM
 refine aI (aB ?_)
 refine aG ?_
 refine aD ?_
 refine aA hF (aC (off':=2) qU60 rfl in4 rfl hF rfl rfl rfl) rfl rfl rfl fun a hF=>?_
 refine aA hF (aJ qA4 hF rfl rfl (hM.cell (i:=5) rfl (RMark.g_done _))) rfl rfl rfl fun a hF=>?_
 refine aA hF (aC (off':=465) qU54 rfl in4 rfl hF rfl rfl rfl) rfl rfl rfl fun a hF=>?_
 refine bK rfl rfl (bT qS4 (hM.obj (i:=6) rfl) hF rfl rfl rfl rfl (by rw [RState.len]; decide) (RState.s_done _ _) fun w g2=>?_)
 have hM:=hM.chg g2 (i:=6) rfl
 replace hM:MemL _ (rowL 0 c5 5 c0.ctx :: rowL 0 c6 23 c8 :: c9 :: rowL 0 d0 3 c0.sent :: pt c3 (RState.enc (RState.mk (⟨List.replicate 11 LVal.zero,rfl⟩ : Vec LVal 11) (⟨List.replicate 32 LSlot.zero,rfl⟩ : Vec LSlot 32) SV.nil SV.nil SV.nil 0 0 false)) 54 :: pt c2 (RMark.enc (RMark.mk x1.at_ x1.next x1.done s9 s11 s13 s17)) 60 :: pt c1 (RState.enc (RState.mk c0.regs c0.stack c5 c6 d0 c0.at_ c0.steps x1.done)) 54 :: Lr):=hM
 refine aI (aB ?_)
 refine aG ?_
 refine aD ?_
 refine aA hF (aC (off':=464) qU54 rfl in3 rfl hF rfl rfl rfl) rfl rfl rfl fun a hF=>?_
 refine aA hF (aJ qA3 hF rfl rfl (hM.cell (i:=6) rfl (RState.g_steps _))) rfl rfl rfl fun a hF=>?_
 refine aA hF (cA hF rfl rfl rfl) rfl rfl rfl fun a hF=>?_
 refine aA hF (aC (off':=464) qU54 rfl in3 rfl hF rfl rfl rfl) rfl rfl rfl fun a hF=>?_
 refine bK rfl rfl (bT qS3 (hM.obj (i:=6) rfl) hF rfl rfl rfl rfl (by rw [RState.len]; decide) (RState.s_steps _ _) fun w g3=>?_)
 have hM:=hM.chg g3 (i:=6) rfl
 replace hM:MemL _ (rowL 0 c5 5 c0.ctx :: rowL 0 c6 23 c8 :: c9 :: rowL 0 d0 3 c0.sent :: pt c3 (RState.enc (RState.mk (⟨List.replicate 11 LVal.zero,rfl⟩ : Vec LVal 11) (⟨List.replicate 32 LSlot.zero,rfl⟩ : Vec LSlot 32) SV.nil SV.nil SV.nil 0 0 false)) 54 :: pt c2 (RMark.enc (RMark.mk x1.at_ x1.next x1.done s9 s11 s13 s17)) 60 :: pt c1 (RState.enc (RState.mk c0.regs c0.stack c5 c6 d0 c0.at_ (IntKind.i64.wrap (c0.steps + 1)) x1.done)) 54 :: Lr):=hM
 refine aI (aB ?_)
 refine aG ?_
 refine aD ?_
 refine aA hF (aC (off':=462) qU54 rfl in52 rfl hF rfl rfl rfl) rfl rfl rfl fun a hF=>?_
 refine aA hF (aJ qA52 hF rfl rfl (hM.cell (i:=6) rfl (RState.g_sent _))) rfl rfl rfl fun a hF=>?_
 refine aA hF (aC (off':=6) qU60 rfl in52 rfl hF rfl rfl rfl) rfl rfl rfl fun a hF=>?_
 refine aA hF (aJ qA52 hF rfl rfl (hM.cell (i:=5) rfl (RMark.g_sent _))) rfl rfl rfl fun a hF=>?_
 obtain ⟨d4,g6,hP⟩:=bind_some hP
 refine aN hF rfl rfl rfl (dB (X:=Int) g6 qU52 in3 rfl rfl rfl rfl hF rfl rfl rfl (hM.own (X:=Int) (i:=3) rfl) (f18 _ (hsub _ (dropM hM 7))) fun d1 w d8=>?_)
 have hM:=hM.chg d8 (i:=3) rfl
 replace hM:MemL _ (rowL 0 c5 5 c0.ctx :: rowL 0 c6 23 c8 :: c9 :: rowL 0 d1 3 d4 :: pt c3 (RState.enc (RState.mk (⟨List.replicate 11 LVal.zero,rfl⟩ : Vec LVal 11) (⟨List.replicate 32 LSlot.zero,rfl⟩ : Vec LSlot 32) SV.nil SV.nil SV.nil 0 0 false)) 54 :: pt c2 (RMark.enc (RMark.mk x1.at_ x1.next x1.done s9 s11 s13 s17)) 60 :: pt c1 (RState.enc (RState.mk c0.regs c0.stack c5 c6 d0 c0.at_ (IntKind.i64.wrap (c0.steps + 1)) x1.done)) 54 :: Lr):=hM
 intro a hF
 refine aA hF (aC (off':=462) qU54 rfl in52 rfl hF rfl rfl rfl) rfl rfl rfl fun a hF=>?_
 refine bK rfl rfl (bT qS52 (hM.obj (i:=6) rfl) hF rfl rfl rfl rfl (by rw [RState.len]; decide) (RState.s_sent _ _) fun w g4=>?_)
 have hM:=hM.chg g4 (i:=6) rfl
 replace hM:MemL _ (rowL 0 c5 5 c0.ctx :: rowL 0 c6 23 c8 :: c9 :: rowL 0 d1 3 d4 :: pt c3 (RState.enc (RState.mk (⟨List.replicate 11 LVal.zero,rfl⟩ : Vec LVal 11) (⟨List.replicate 32 LSlot.zero,rfl⟩ : Vec LSlot 32) SV.nil SV.nil SV.nil 0 0 false)) 54 :: pt c2 (RMark.enc (RMark.mk x1.at_ x1.next x1.done s9 s11 s13 s17)) 60 :: pt c1 (RState.enc (RState.mk c0.regs c0.stack c5 c6 d1 c0.at_ (IntKind.i64.wrap (c0.steps + 1)) x1.done)) 54 :: Lr):=hM
 refine aI (aB ?_)
 refine aG ?_
 refine aD ?_
 refine aA hF (aR qA54 qS54 hF rfl rfl (RState.len _) (hM.cells (i:=6) rfl (bB (RState.len _)))) rfl rfl rfl fun a hF=>?_
 refine bK rfl rfl (bA (vs:=_) qS54 (hM.obj (i:=4) rfl) hF rfl rfl rfl rfl (RState.len _) (RState.one _) (by first | (rw [RState.len,RState.len]; decide) | (rw [RState.len]; decide)) (bG ((RState.len _).trans (RState.len _).symm)) fun w g5=>?_)
 have hM:=hM.chg g5 (i:=4) rfl
 replace hM:MemL _ (rowL 0 c5 5 c0.ctx :: rowL 0 c6 23 c8 :: c9 :: rowL 0 d1 3 d4 :: pt c3 (RState.enc (RState.mk c0.regs c0.stack c5 c6 d1 c0.at_ (IntKind.i64.wrap (c0.steps + 1)) x1.done)) 54 :: pt c2 (RMark.enc (RMark.mk x1.at_ x1.next x1.done s9 s11 s13 s17)) 60 :: pt c1 (RState.enc (RState.mk c0.regs c0.stack c5 c6 d1 c0.at_ (IntKind.i64.wrap (c0.steps + 1)) x1.done)) 54 :: Lr):=hM
 refine aA hF (aH hF rfl rfl) rfl rfl rfl fun a hF=>?_
 refine aI (aB ?_)
 refine c_ret ?_
 have hP:=Option.some.inj hP
 subst hP
 refine dO (rs:=[.cell 4 54,.tmp 5]) Tryz.results52 hF (cC hF rfl qA54 qS54 (RState.len _) (hM.cells (i:=4) rfl (bB (RState.len _))) (cM hF rfl cJ)) rfl ?_
 exact ⟨c5,c6,c8,c9,d1,rfl,i0,selM hM [0,1,2,3] 7 rfl⟩
set_option maxHeartbeats 4000000 in
theorem lH {x0:QState} {x1:QMark} {s1:SV} {s3:SV} {hs4:List SV} {s7:SV} {s9:SV} {s11:SV} {s13:SV} {hs14:List RPiece} {s17:SV} {out:(QState × Int)} {w0:World} {Bf:World → Prop} {Lr:List Res} (hP:Sh.gF x0 x1 = some out) (hM:MemL w0 (Lr)) (hsub:∀ w,MemL w Lr → Bf w) (f2:LIn Bf s1 x0.ctx) (f5:LIn Bf s3 hs4) (q6:Each (LIn (X:=UInt8) Bf) hs4 x0.tables) (f8:LIn Bf s7 x0.sent) (f10:LIn Bf s9 x1.regs) (f12:LIn Bf s11 x1.slots) (f15:LIn Bf s13 hs14) (q16:Each (QPieceIn Bf) hs14 x1.pieces) (f18:LIn Bf s17 x1.sent):Calls Tryz.prog 60 #[.agg (RState.enc (RState.mk x0.regs x0.stack s1 s3 s7 x0.at_ x0.steps x0.done)).toArray,.agg (RMark.enc (RMark.mk x1.at_ x1.next x1.done s9 s11 s13 s17)).toArray] w0 (Ret fun v w'=>∃ (j5:SV) (j6:SV) (i7:List SV) (j2:Res) (j7:SV),v = .tuple #[.agg (RState.enc (RState.mk out.1.regs out.1.stack j5 j6 j7 out.1.at_ out.1.steps out.1.done)).toArray,.int .i64 out.2] ∧ Each (LIn (X:=UInt8) j2.holds') i7 out.1.tables ∧ MemL w' (rowL 0 j5 5 out.1.ctx :: rowL 0 j6 23 i7 :: j2 :: rowL 0 j7 3 out.1.sent :: Lr)):=by
 unfold Sh.gF at hP
 refine aP (vs:=[.agg (RState.enc (RState.mk x0.regs x0.stack s1 s3 s7 x0.at_ x0.steps x0.done)).toArray,.agg (RMark.enc (RMark.mk x1.at_ x1.next x1.done s9 s11 s13 s17)).toArray]) Tryz.func60 rfl Tryz.ntmps60 rfl fun a hF=>?_
 refine aG ?_
 refine aD ?_
 refine aN hF rfl rfl rfl (cW hF rfl rfl rfl fun c2 w m8 k1=>?_)
 have hM:=hM.plus k1
 intro a hF
 refine aN hF rfl rfl rfl (cW hF rfl rfl rfl fun c3 w m9 k2=>?_)
 have hM:=hM.plus k2
 intro a hF
 refine aN hF rfl rfl rfl (bS z54 (zs:=RState.zero.enc) rfl rfl fun c4 w n0 k3=>?_)
 have hM:=hM.plus k3
 replace hM:MemL _ (pt c4 (RState.enc (RState.mk (⟨List.replicate 11 LVal.zero,rfl⟩ : Vec LVal 11) (⟨List.replicate 32 LSlot.zero,rfl⟩ : Vec LSlot 32) SV.nil SV.nil SV.nil 0 0 false)) 54 :: pt c3 (RMark.enc (RMark.mk x1.at_ x1.next x1.done s9 s11 s13 s17)) 60 :: pt c2 (RState.enc (RState.mk x0.regs x0.stack s1 s3 s7 x0.at_ x0.steps x0.done)) 54 :: Lr):=hM
 intro a hF
 refine aA hF (aH hF rfl rfl) rfl rfl rfl fun a hF=>?_
 refine aI (aB ?_)
 refine aG ?_
 refine aG ?_
 refine aD ?_
 refine aA hF (aR qA54 qS54 hF rfl rfl (RState.len _) (hM.cells (i:=2) rfl (bB (RState.len _)))) rfl rfl rfl fun a hF=>?_
 refine aA hF (aR qA60 qS60 hF rfl rfl (RMark.len _) (hM.cells (i:=1) rfl (bB (RMark.len _)))) rfl rfl rfl fun a hF=>?_
 obtain ⟨n6,l3,hP⟩:=bind_some hP
 refine aN hF rfl rfl rfl (aO (xs:=[.tmp 9,.tmp 10]) Tryz.call125 hF rfl rfl (kP l3 hM (Bf:=Bf) (fun w hM=>hsub _ (dropM hM 3)) f2 f5 q6 f8 f10 f12 f15 q16 f18) fun v w hR=>?_)
 obtain ⟨rfl,hM⟩:=hR
 replace hM:MemL _ (pt c4 (RState.enc (RState.mk (⟨List.replicate 11 LVal.zero,rfl⟩ : Vec LVal 11) (⟨List.replicate 32 LSlot.zero,rfl⟩ : Vec LSlot 32) SV.nil SV.nil SV.nil 0 0 false)) 54 :: pt c3 (RMark.enc (RMark.mk x1.at_ x1.next x1.done s9 s11 s13 s17)) 60 :: pt c2 (RState.enc (RState.mk x0.regs x0.stack s1 s3 s7 x0.at_ x0.steps x0.done)) 54 :: Lr):=hM
 intro a hF
 refine aA hF (aH hF rfl rfl) rfl rfl rfl fun a hF=>?_
 refine aI (aB ?_)
 refine aG ?_
 refine aD ?_
 refine aA hF (aF hF rfl rfl) rfl rfl rfl fun a hF=>?_
 refine aA hF (dD hF rfl rfl rfl) rfl rfl rfl fun a hF=>?_
 refine aI (aB ?_)
 refine aS hF (c:=.tmp 13) rfl (fun g9=>?_) (fun g9=>?_)
 ·have hP:=Fx.cT g9 hP
  refine aG ?_
  refine aD ?_
  refine aA hF (cL z54 qU54 pl54 hF (parts:=[]) rfl rfl cV) rfl rfl rfl fun a hF=>?_
  refine aA hF (aF hF rfl rfl) rfl rfl rfl fun a hF=>?_
  refine bK rfl rfl (bA (vs:=_) qS54 (hM.obj (i:=0) rfl) hF rfl rfl rfl rfl (RState.len _) (RState.one _) (by first | (rw [RState.len,RState.len]; decide) | (rw [RState.len]; decide)) (bG ((RState.len _).trans (RState.len _).symm)) fun w k5=>?_)
  have hM:=hM.chg k5 (i:=0) rfl
  replace hM:MemL _ (pt c4 (RState.enc (RState.mk (⟨List.replicate 11 LVal.zero,rfl⟩ : Vec LVal 11) (⟨List.replicate 32 LSlot.zero,rfl⟩ : Vec LSlot 32) SV.nil SV.nil SV.nil 0 0 false)) 54 :: pt c3 (RMark.enc (RMark.mk x1.at_ x1.next x1.done s9 s11 s13 s17)) 60 :: pt c2 (RState.enc (RState.mk x0.regs x0.stack s1 s3 s7 x0.at_ x0.steps x0.done)) 54 :: Lr):=hM
  refine aA hF (aH hF rfl rfl) rfl rfl rfl fun a hF=>?_
  refine aI (aB ?_)
  refine c_ret ?_
  have hM:=hM.rowNil (X:=UInt8) 0 5
  obtain ⟨j3,hM⟩:=voidM hM
  have m1:Each (LIn (X:=UInt8) j3.holds') ([]:List SV) ([]:List (List UInt8)):=Each.nil
  have hM:=hM.rowNil (X:=SV) 0 23
  have hM:=hM.rowNil (X:=Int) 0 3
  have hP:=Option.some.inj hP
  subst hP
  refine dO (rs:=[.cell 4 54,.tmp 5]) Tryz.results60 hF (cC hF rfl qA54 qS54 (RState.len _) (hM.cells (i:=4) rfl (bB (RState.len _))) (cM hF rfl cJ)) rfl ?_
  exact ⟨SV.nil,SV.nil,[],j3,SV.nil,rfl,m1,selM hM [3,1,2,0] 7 rfl⟩
 have hP:=Fx.cF g9 hP
 refine aW (aB ?_)
 refine aG ?_
 refine aD ?_
 refine aA hF (aC (off':=462) qU54 rfl in52 rfl hF rfl rfl rfl) rfl rfl rfl fun a hF=>?_
 refine aA hF (aJ qA52 hF rfl rfl (hM.cell (i:=2) rfl (RState.g_sent _))) rfl rfl rfl fun a hF=>?_
 refine aA hF (bQ (f8 _ (hsub _ (dropM hM 3))) qU52 hF rfl rfl) rfl rfl rfl fun a hF=>?_
 refine aA hF (aC (off':=6) qU60 rfl in52 rfl hF rfl rfl rfl) rfl rfl rfl fun a hF=>?_
 refine aA hF (aJ qA52 hF rfl rfl (hM.cell (i:=1) rfl (RMark.g_sent _))) rfl rfl rfl fun a hF=>?_
 refine aA hF (bQ (f18 _ (hsub _ (dropM hM 3))) qU52 hF rfl rfl) rfl rfl rfl fun a hF=>?_
 refine aA hF (eQ hF rfl rfl rfl) rfl rfl rfl fun a hF=>?_
 refine aA hF (aH hF rfl rfl) rfl rfl rfl fun a hF=>?_
 refine aI (aB ?_)
 refine aG ?_
 refine aG ?_
 refine aD ?_
 refine aA hF (aR qA60 qS60 hF rfl rfl (RMark.len _) (hM.cells (i:=1) rfl (bB (RMark.len _)))) rfl rfl rfl fun a hF=>?_
 obtain ⟨c0,l4,hP⟩:=bind_some hP
 refine aN hF rfl rfl rfl (aO (xs:=[.tmp 23]) Tryz.call132 hF rfl rfl (kI l4 hM (Bf:=Bf) (fun w hM=>hsub _ (dropM hM 3)) f10 f12 f15 q16 f18) fun v w hR=>?_)
 obtain ⟨c7,c8,c9,d1,d0,rfl,m2,hM⟩:=hR
 intro a hF
 refine aN hF rfl rfl rfl (bS z60 (zs:=RMark.zero.enc) rfl rfl fun d8 w n1 k4=>?_)
 have hM:=hM.plus k4
 replace hM:MemL _ (pt d8 (RMark.enc (RMark.mk 0 0 false SV.nil SV.nil SV.nil SV.nil)) 60 :: rowL 0 c7 128 c0.regs :: rowL 0 c8 151 c0.slots :: rowL 0 c9 156 d1 :: rowL 0 d0 3 c0.sent :: pt c4 (RState.enc (RState.mk (⟨List.replicate 11 LVal.zero,rfl⟩ : Vec LVal 11) (⟨List.replicate 32 LSlot.zero,rfl⟩ : Vec LSlot 32) SV.nil SV.nil SV.nil 0 0 false)) 54 :: pt c3 (RMark.enc (RMark.mk x1.at_ x1.next x1.done s9 s11 s13 s17)) 60 :: pt c2 (RState.enc (RState.mk x0.regs x0.stack s1 s3 s7 x0.at_ x0.steps x0.done)) 54 :: Lr):=hM
 intro a hF
 refine bK rfl rfl (bA (vs:=_) qS60 (hM.obj (i:=0) rfl) hF rfl rfl rfl rfl (RMark.len _) (RMark.one _) (by first | (rw [RMark.len,RMark.len]; decide) | (rw [RMark.len]; decide)) (bG ((RMark.len _).trans (RMark.len _).symm)) fun w k6=>?_)
 have hM:=hM.chg k6 (i:=0) rfl
 replace hM:MemL _ (pt d8 (RMark.enc (RMark.mk c0.at_ c0.next c0.done c7 c8 c9 d0)) 60 :: rowL 0 c7 128 c0.regs :: rowL 0 c8 151 c0.slots :: rowL 0 c9 156 d1 :: rowL 0 d0 3 c0.sent :: pt c4 (RState.enc (RState.mk (⟨List.replicate 11 LVal.zero,rfl⟩ : Vec LVal 11) (⟨List.replicate 32 LSlot.zero,rfl⟩ : Vec LSlot 32) SV.nil SV.nil SV.nil 0 0 false)) 54 :: pt c3 (RMark.enc (RMark.mk x1.at_ x1.next x1.done s9 s11 s13 s17)) 60 :: pt c2 (RState.enc (RState.mk x0.regs x0.stack s1 s3 s7 x0.at_ x0.steps x0.done)) 54 :: Lr):=hM
 refine aI (aB ?_)
 refine aG ?_
 refine aT hF hM hP (fun F x a w=>match x with | i4=>Fr 72 [(54,.bool i4),(2,.pointer (some ⟨c2,0,none⟩)),(3,.pointer (some ⟨c3,0,none⟩)),(4,.pointer (some ⟨c4,0,none⟩)),(5,.int .i64 0),(7,.int .i64 (IntKind.i64.wrap ((x0.sent.length:Int) - (x1.sent.length:Int))))] a ∧ MemL w (pt c4 (RState.enc (RState.mk (⟨List.replicate 11 LVal.zero,rfl⟩ : Vec LVal 11) (⟨List.replicate 32 LSlot.zero,rfl⟩ : Vec LSlot 32) SV.nil SV.nil SV.nil 0 0 false)) 54 :: pt c3 (RMark.enc (RMark.mk x1.at_ x1.next x1.done s9 s11 s13 s17)) 60 :: pt c2 (RState.enc (RState.mk x0.regs x0.stack s1 s3 s7 x0.at_ x0.steps x0.done)) 54 :: rowL 0 c7 128 c0.regs :: rowL 0 c8 151 c0.slots :: rowL 0 c9 156 d1 :: rowL 0 d0 3 c0.sent :: Lr)) (fun n7 hP n2 hF hM=>?_) ?_
 ·refine bR mixed (by kernel_rfl) hM [0,1,2,3,4,5,6,7] 8 rfl fun hch=>?_
  refine aK hF hch 0 rfl (by kernel_rfl) rfl rfl rfl (fun w hM=>(aC (off':=465) qU54 rfl in4 rfl hF rfl rfl rfl)) fun a hF=>?_
  refine aK hF hch 1 rfl (by kernel_rfl) rfl rfl rfl (fun w hM=>(aJ qA4 hF rfl rfl (hM.cell (i:=7) rfl (RState.g_done _)))) fun a hF=>?_
  refine aK hF hch 2 rfl (by kernel_rfl) rfl rfl rfl (fun w hM=>(aC (off':=2) qU60 rfl in4 rfl hF rfl rfl rfl)) fun a hF=>?_
  refine aK hF hch 3 rfl (by kernel_rfl) rfl rfl rfl (fun w hM=>(aJ qA4 hF rfl rfl (hM.cell (i:=6) rfl (RMark.g_done _)))) fun a hF=>?_
  refine aK hF hch 4 rfl (by kernel_rfl) rfl rfl rfl (fun w hM=>(zM qU4 hF rfl rfl rfl)) fun a hF=>?_
  refine aK hF hch 5 rfl (by kernel_rfl) rfl rfl rfl (fun w hM=>(aF hF rfl rfl)) fun a hF=>?_
  refine bD 30 hF rfl (fun d5=>?_) (fun d5=>?_)
  ·have hP:=Fx.cT d5 hP
   refine aU hF hch 6 rfl (by kernel_rfl) rfl rfl rfl d5 rfl rfl fun a hF=>?_
   refine aU hF hch 7 rfl (by kernel_rfl) rfl rfl rfl d5 rfl rfl fun a hF=>?_
   refine aU hF hch 8 rfl (by kernel_rfl) rfl rfl rfl d5 rfl rfl fun a hF=>?_
   refine aK hF hch 9 rfl (by kernel_rfl) rfl rfl rfl (fun w hM=>(aQ hF rfl rfl d5 rfl)) fun a hF=>?_
   refine aK hF hch 10 rfl (by kernel_rfl) rfl rfl rfl (fun w hM=>(aF hF rfl rfl)) fun a hF=>?_
   refine aU hF hch 11 rfl (by kernel_rfl) rfl rfl rfl rfl rfl rfl fun a hF=>?_
   refine aU hF hch 12 rfl (by kernel_rfl) rfl rfl rfl rfl rfl rfl fun a hF=>?_
   refine aK hF hch 13 rfl (by kernel_rfl) rfl rfl rfl (fun w hM=>(aQ hF rfl rfl rfl rfl)) fun a hF=>?_
   refine aK hF hch 14 rfl (by kernel_rfl) rfl rfl rfl (fun w hM=>(aF hF rfl rfl)) fun a hF=>?_
   refine aU hF hch 15 rfl (by kernel_rfl) rfl rfl rfl rfl rfl rfl fun a hF=>?_
   refine aU hF hch 16 rfl (by kernel_rfl) rfl rfl rfl rfl rfl rfl fun a hF=>?_
   refine aU hF hch 17 rfl (by kernel_rfl) rfl rfl rfl rfl rfl rfl fun a hF=>?_
   refine aU hF hch 18 rfl (by kernel_rfl) rfl rfl rfl rfl rfl rfl fun a hF=>?_
   refine aU hF hch 19 rfl (by kernel_rfl) rfl rfl rfl rfl rfl rfl fun a hF=>?_
   refine aU hF hch 20 rfl (by kernel_rfl) rfl rfl rfl rfl rfl rfl fun a hF=>?_
   refine aU hF hch 21 rfl (by kernel_rfl) rfl rfl rfl rfl rfl rfl fun a hF=>?_
   refine aU hF hch 22 rfl (by kernel_rfl) rfl rfl rfl rfl rfl rfl fun a hF=>?_
   refine aK hF hch 23 rfl (by kernel_rfl) rfl rfl rfl (fun w hM=>(aQ hF rfl rfl rfl rfl)) fun a hF=>?_
   refine aK hF hch 24 rfl (by kernel_rfl) rfl rfl rfl (fun w hM=>(aF hF rfl rfl)) fun a hF=>?_
   refine aU hF hch 25 rfl (by kernel_rfl) rfl rfl rfl rfl rfl rfl fun a hF=>?_
   refine aU hF hch 26 rfl (by kernel_rfl) rfl rfl rfl rfl rfl rfl fun a hF=>?_
   refine aU hF hch 27 rfl (by kernel_rfl) rfl rfl rfl rfl rfl rfl fun a hF=>?_
   refine aU hF hch 28 rfl (by kernel_rfl) rfl rfl rfl rfl rfl rfl fun a hF=>?_
   refine aK hF hch 29 rfl (by kernel_rfl) rfl rfl rfl (fun w hM=>(aQ hF rfl rfl rfl rfl)) fun a hF=>?_
   refine bY hch (by kernel_rfl) fun w hM=>?_
   refine aB ?_
   have hP:=Option.some.inj hP
   subst hP
   exact ⟨true,rfl,hF.to ⟨rfl,rfl,rfl,rfl,rfl,rfl,trivial⟩,selM hM [5,6,7,1,2,3,4] 8 rfl⟩
  have hP:=Fx.cF d5 hP
  refine bI hF hch 6 rfl (by kernel_rfl) rfl rfl rfl d5 rfl rfl (fun w hM=>(aC (off':=464) qU54 rfl in3 rfl hF rfl rfl rfl)) fun a hF=>?_
  refine bI hF hch 7 rfl (by kernel_rfl) rfl rfl rfl d5 rfl rfl (fun w hM=>(aJ qA3 hF rfl rfl (hM.cell (i:=7) rfl (RState.g_steps _)))) fun a hF=>?_
  refine bI hF hch 8 rfl (by kernel_rfl) rfl rfl rfl d5 rfl rfl (fun w hM=>(cZ hF rfl rfl rfl)) fun a hF=>?_
  refine aK hF hch 9 rfl (by kernel_rfl) rfl rfl rfl (fun w hM=>(aV hF rfl rfl d5 rfl)) fun a hF=>?_
  refine aK hF hch 10 rfl (by kernel_rfl) rfl rfl rfl (fun w hM=>(aF hF rfl rfl)) fun a hF=>?_
  refine bD 35 hF rfl (fun d6=>?_) (fun d6=>?_)
  ·have hP:=Fx.cT d6 hP
   refine aU hF hch 11 rfl (by kernel_rfl) rfl rfl rfl d6 rfl rfl fun a hF=>?_
   refine aU hF hch 12 rfl (by kernel_rfl) rfl rfl rfl d6 rfl rfl fun a hF=>?_
   refine aK hF hch 13 rfl (by kernel_rfl) rfl rfl rfl (fun w hM=>(aQ hF rfl rfl d6 rfl)) fun a hF=>?_
   refine aK hF hch 14 rfl (by kernel_rfl) rfl rfl rfl (fun w hM=>(aF hF rfl rfl)) fun a hF=>?_
   refine aU hF hch 15 rfl (by kernel_rfl) rfl rfl rfl rfl rfl rfl fun a hF=>?_
   refine aU hF hch 16 rfl (by kernel_rfl) rfl rfl rfl rfl rfl rfl fun a hF=>?_
   refine aU hF hch 17 rfl (by kernel_rfl) rfl rfl rfl rfl rfl rfl fun a hF=>?_
   refine aU hF hch 18 rfl (by kernel_rfl) rfl rfl rfl rfl rfl rfl fun a hF=>?_
   refine aU hF hch 19 rfl (by kernel_rfl) rfl rfl rfl rfl rfl rfl fun a hF=>?_
   refine aU hF hch 20 rfl (by kernel_rfl) rfl rfl rfl rfl rfl rfl fun a hF=>?_
   refine aU hF hch 21 rfl (by kernel_rfl) rfl rfl rfl rfl rfl rfl fun a hF=>?_
   refine aU hF hch 22 rfl (by kernel_rfl) rfl rfl rfl rfl rfl rfl fun a hF=>?_
   refine aK hF hch 23 rfl (by kernel_rfl) rfl rfl rfl (fun w hM=>(aQ hF rfl rfl rfl rfl)) fun a hF=>?_
   refine aK hF hch 24 rfl (by kernel_rfl) rfl rfl rfl (fun w hM=>(aF hF rfl rfl)) fun a hF=>?_
   refine aU hF hch 25 rfl (by kernel_rfl) rfl rfl rfl rfl rfl rfl fun a hF=>?_
   refine aU hF hch 26 rfl (by kernel_rfl) rfl rfl rfl rfl rfl rfl fun a hF=>?_
   refine aU hF hch 27 rfl (by kernel_rfl) rfl rfl rfl rfl rfl rfl fun a hF=>?_
   refine aU hF hch 28 rfl (by kernel_rfl) rfl rfl rfl rfl rfl rfl fun a hF=>?_
   refine aK hF hch 29 rfl (by kernel_rfl) rfl rfl rfl (fun w hM=>(aQ hF rfl rfl rfl rfl)) fun a hF=>?_
   refine bY hch (by kernel_rfl) fun w hM=>?_
   refine aB ?_
   have hP:=Option.some.inj hP
   subst hP
   exact ⟨true,rfl,hF.to ⟨rfl,rfl,rfl,rfl,rfl,rfl,trivial⟩,selM hM [5,6,7,1,2,3,4] 8 rfl⟩
  have hP:=Fx.cF d6 hP
  refine bI hF hch 11 rfl (by kernel_rfl) rfl rfl rfl d6 rfl rfl (fun w hM=>(aF hF rfl rfl)) fun a hF=>?_
  refine bI hF hch 12 rfl (by kernel_rfl) rfl rfl rfl d6 rfl rfl (fun w hM=>(cO hF rfl rfl rfl)) fun a hF=>?_
  refine aK hF hch 13 rfl (by kernel_rfl) rfl rfl rfl (fun w hM=>(aV hF rfl rfl d6 rfl)) fun a hF=>?_
  refine aK hF hch 14 rfl (by kernel_rfl) rfl rfl rfl (fun w hM=>(aF hF rfl rfl)) fun a hF=>?_
  refine bD 39 hF rfl (fun c5=>?_) (fun c5=>?_)
  ·have hP:=Fx.cT c5 hP
   refine aU hF hch 15 rfl (by kernel_rfl) rfl rfl rfl c5 rfl rfl fun a hF=>?_
   refine aU hF hch 16 rfl (by kernel_rfl) rfl rfl rfl c5 rfl rfl fun a hF=>?_
   refine aU hF hch 17 rfl (by kernel_rfl) rfl rfl rfl c5 rfl rfl fun a hF=>?_
   refine aU hF hch 18 rfl (by kernel_rfl) rfl rfl rfl c5 rfl rfl fun a hF=>?_
   refine aU hF hch 19 rfl (by kernel_rfl) rfl rfl rfl c5 rfl rfl fun a hF=>?_
   refine aU hF hch 20 rfl (by kernel_rfl) rfl rfl rfl c5 rfl rfl fun a hF=>?_
   refine aU hF hch 21 rfl (by kernel_rfl) rfl rfl rfl c5 rfl rfl fun a hF=>?_
   refine aU hF hch 22 rfl (by kernel_rfl) rfl rfl rfl c5 rfl rfl fun a hF=>?_
   refine aK hF hch 23 rfl (by kernel_rfl) rfl rfl rfl (fun w hM=>(aQ hF rfl rfl c5 rfl)) fun a hF=>?_
   refine aK hF hch 24 rfl (by kernel_rfl) rfl rfl rfl (fun w hM=>(aF hF rfl rfl)) fun a hF=>?_
   refine aU hF hch 25 rfl (by kernel_rfl) rfl rfl rfl rfl rfl rfl fun a hF=>?_
   refine aU hF hch 26 rfl (by kernel_rfl) rfl rfl rfl rfl rfl rfl fun a hF=>?_
   refine aU hF hch 27 rfl (by kernel_rfl) rfl rfl rfl rfl rfl rfl fun a hF=>?_
   refine aU hF hch 28 rfl (by kernel_rfl) rfl rfl rfl rfl rfl rfl fun a hF=>?_
   refine aK hF hch 29 rfl (by kernel_rfl) rfl rfl rfl (fun w hM=>(aQ hF rfl rfl rfl rfl)) fun a hF=>?_
   refine bY hch (by kernel_rfl) fun w hM=>?_
   refine aB ?_
   have hP:=Option.some.inj hP
   subst hP
   exact ⟨true,rfl,hF.to ⟨rfl,rfl,rfl,rfl,rfl,rfl,trivial⟩,selM hM [5,6,7,1,2,3,4] 8 rfl⟩
  have hP:=Fx.cF c5 hP
  refine bI hF hch 15 rfl (by kernel_rfl) rfl rfl rfl c5 rfl rfl (fun w hM=>(aC (off':=462) qU54 rfl in52 rfl hF rfl rfl rfl)) fun a hF=>?_
  refine bI hF hch 16 rfl (by kernel_rfl) rfl rfl rfl c5 rfl rfl (fun w hM=>(aJ qA52 hF rfl rfl (hM.cell (i:=7) rfl (RState.g_sent _)))) fun a hF=>?_
  refine bI hF hch 17 rfl (by kernel_rfl) rfl rfl rfl c5 rfl rfl (fun w hM=>(aF hF rfl rfl)) fun a hF=>?_
  obtain ⟨j8,g7,hP⟩:=bind_some hP
  refine bI hF hch 18 rfl (by kernel_rfl) rfl rfl rfl c5 rfl rfl (fun w hM=>(gM (f8 _ (hsub _ (dropM hM 8))) g7 qU52 in3 rfl hF rfl rfl (.inr ⟨_,_,rfl,rfl⟩) (.inl ⟨rfl,rfl⟩))) fun a hF=>?_
  refine bI hF hch 19 rfl (by kernel_rfl) rfl rfl rfl c5 rfl rfl (fun w hM=>(aC (off':=6) qU60 rfl in52 rfl hF rfl rfl rfl)) fun a hF=>?_
  refine bI hF hch 20 rfl (by kernel_rfl) rfl rfl rfl c5 rfl rfl (fun w hM=>(aJ qA52 hF rfl rfl (hM.cell (i:=6) rfl (RMark.g_sent _)))) fun a hF=>?_
  refine bH hch 21 (by kernel_rfl) rfl rfl ?_
  refine wT hF 21 rfl rfl rfl rfl rfl c5 rfl rfl fun w hMs hM=>?_
  obtain ⟨m7,hP,l9⟩:=dF hP
  refine (aO (xs:=[.tmp 43,.tmp 45]) Tryz.call133 hF rfl rfl (R:=fun v w=>∃ x,m7 = .inl x ∧ match x with | i5=>v = .bool i5 ∧ MemL w (pt d8 (RMark.enc (RMark.mk c0.at_ c0.next c0.done c7 c8 c9 d0)) 60 :: rowL 0 c7 128 c0.regs :: rowL 0 c8 151 c0.slots :: rowL 0 c9 156 d1 :: rowL 0 d0 3 c0.sent :: pt c4 (RState.enc (RState.mk (⟨List.replicate 11 LVal.zero,rfl⟩ : Vec LVal 11) (⟨List.replicate 32 LSlot.zero,rfl⟩ : Vec LSlot 32) SV.nil SV.nil SV.nil 0 0 false)) 54 :: pt c3 (RMark.enc (RMark.mk x1.at_ x1.next x1.done s9 s11 s13 s17)) 60 :: pt c2 (RState.enc (RState.mk x0.regs x0.stack s1 s3 s7 x0.at_ x0.steps x0.done)) 54 :: Lr)) ?_ fun v w hR=>?_)
  ·refine aP Tryz.func133 rfl Tryz.ntmps133 rfl fun a hF=>?_
   refine aG ?_
   refine aD ?_
   refine aA hF (aH hF rfl rfl) rfl rfl rfl fun a hF=>?_
   refine aI (aB ?_)
   refine aG ?_
   refine aG ?_
   refine aD ?_
   refine aA hF (aF hF rfl rfl) rfl rfl rfl fun a hF=>?_
   refine aA hF (bQ ((LIn.slc f8 g7 rfl) _ (hsub _ (dropM hM 8))) qU52 hF rfl rfl) rfl rfl rfl fun a hF=>?_
   refine aA hF (aF hF rfl rfl) rfl rfl rfl fun a hF=>?_
   refine aA hF (bQ (f18 _ (hsub _ (dropM hM 8))) qU52 hF rfl rfl) rfl rfl rfl fun a hF=>?_
   refine aA hF (dD hF rfl rfl rfl) rfl rfl rfl fun a hF=>?_
   refine aI (aB ?_)
   refine aS hF (c:=.tmp 10) rfl (fun i0=>?_) (fun i0=>?_)
   ·have hP:=Fx.cT i0 hP
    refine aG ?_
    refine aD ?_
    refine aA hF (aH hF rfl rfl) rfl rfl rfl fun a hF=>?_
    refine aI (aB ?_)
    refine c_ret ?_
    have hP:=Option.some.inj hP
    subst hP
    refine bE qR133 hF rfl ?_
    exact ⟨false,rfl,rfl,hM⟩
   have hP:=Fx.cF i0 hP
   refine aW (aB ?_)
   refine aG ?_
   refine aT hF hM hP (fun F x a w=>match x with | _=>Fr 26 [(4,.bool false)] a ∧ MemL w (pt d8 (RMark.enc (RMark.mk c0.at_ c0.next c0.done c7 c8 c9 d0)) 60 :: pt c4 (RState.enc (RState.mk (⟨List.replicate 11 LVal.zero,rfl⟩ : Vec LVal 11) (⟨List.replicate 32 LSlot.zero,rfl⟩ : Vec LSlot 32) SV.nil SV.nil SV.nil 0 0 false)) 54 :: pt c3 (RMark.enc (RMark.mk x1.at_ x1.next x1.done s9 s11 s13 s17)) 60 :: pt c2 (RState.enc (RState.mk x0.regs x0.stack s1 s3 s7 x0.at_ x0.steps x0.done)) 54 :: rowL 0 c7 128 c0.regs :: rowL 0 c8 151 c0.slots :: rowL 0 c9 156 d1 :: rowL 0 d0 3 c0.sent :: Lr)) (fun n8 hP m0 hF hM=>?_) ?_
   ·refine aG ?_
    refine aD ?_
    refine aA hF (aF hF rfl rfl) rfl rfl rfl fun a hF=>?_
    refine aA hF (bQ ((LIn.slc f8 g7 rfl) _ (hsub _ (dropM hM 8))) qU52 hF rfl rfl) rfl rfl rfl fun a hF=>?_
    refine aA hF (aF hF rfl rfl) rfl rfl rfl fun a hF=>?_
    refine aI (aB ?_)
    refine aX ?_
    refine bU hF hM hP (fun F x a w=>match x with | g8=>Fr 26 [(13,.int .i64 g8),(0,((s7.cut ((IntKind.i64.wrap ((x0.sent.length:Int) - (x1.sent.length:Int))):Int).toNat ((x0.sent.length:Int):Int).toNat 1)).v),(1,(s17).v),(12,.int .i64 (j8.length:Int)),(4,.bool false)] a ∧ MemL w (pt d8 (RMark.enc (RMark.mk c0.at_ c0.next c0.done c7 c8 c9 d0)) 60 :: pt c4 (RState.enc (RState.mk (⟨List.replicate 11 LVal.zero,rfl⟩ : Vec LVal 11) (⟨List.replicate 32 LSlot.zero,rfl⟩ : Vec LSlot 32) SV.nil SV.nil SV.nil 0 0 false)) 54 :: pt c3 (RMark.enc (RMark.mk x1.at_ x1.next x1.done s9 s11 s13 s17)) 60 :: pt c2 (RState.enc (RState.mk x0.regs x0.stack s1 s3 s7 x0.at_ x0.steps x0.done)) 54 :: rowL 0 c7 128 c0.regs :: rowL 0 c8 151 c0.slots :: rowL 0 c9 156 d1 :: rowL 0 d0 3 c0.sent :: Lr)) (fun hF hM=>⟨hF.to ⟨rfl,rfl,rfl,rfl,rfl,trivial⟩,selM hM [0,5,6,7,1,2,3,4] 8 rfl⟩) ?_
    rintro g8 a w n9 hP j1 ⟨hF,hM⟩
    replace hP:Sh.jS x1 j8 g8 = _:=hP
    unfold Sh.jS at hP
    refine aG ?_
    refine aD ?_
    refine aA hF (cO hF rfl rfl rfl) rfl rfl rfl fun a hF=>?_
    refine aI (aB ?_)
    refine aG ?_
    refine aS hF (c:=.tmp 14) rfl (fun i1=>?_) (fun i1=>?_)
    ·have hP:=Fx.cT i1 hP
     refine aW (aB ?_)
     refine aG ?_
     refine aX ?_
     refine aG ?_
     refine aD ?_
     refine aA hF (aF hF rfl rfl) rfl rfl rfl fun a hF=>?_
     refine aA hF (aH hF rfl rfl) rfl rfl rfl fun a hF=>?_
     refine aI (aB ?_)
     refine aG ?_
     refine bR mixed (by kernel_rfl) hM [0,1,2,3,4,5,6,7] 8 rfl fun hch=>?_
     refine aK hF hch 0 rfl (by kernel_rfl) rfl rfl rfl (fun w hM=>(aF hF rfl rfl)) fun a hF=>?_
     refine aK hF hch 1 rfl (by kernel_rfl) rfl rfl rfl (fun w hM=>(aF hF rfl rfl)) fun a hF=>?_
     obtain ⟨n3,i8,hP⟩:=bind_some hP
     have j9:=aM i8
     refine aK hF hch 2 rfl (by kernel_rfl) rfl rfl rfl (fun w hM=>(aY (sz:=1) ((LIn.slc f8 g7 rfl) _ (hsub _ (dropM hM 8))) qU52 in3 rfl hF rfl rfl rfl (bL i8))) fun a hF=>?_
     refine aK hF hch 3 rfl (by kernel_rfl) rfl rfl rfl (fun w hM=>(aJ qA3 hF rfl rfl (((((LIn.slc f8 g7 rfl) _ (hsub _ (dropM hM 8))).elemS j9.2)).get 0 rfl))) fun a hF=>?_
     refine aK hF hch 4 rfl (by kernel_rfl) rfl rfl rfl (fun w hM=>(aF hF rfl rfl)) fun a hF=>?_
     refine aK hF hch 5 rfl (by kernel_rfl) rfl rfl rfl (fun w hM=>(aF hF rfl rfl)) fun a hF=>?_
     obtain ⟨n4,i9,hP⟩:=bind_some hP
     have k0:=aM i9
     refine aK hF hch 6 rfl (by kernel_rfl) rfl rfl rfl (fun w hM=>(aY (sz:=1) (f18 _ (hsub _ (dropM hM 8))) qU52 in3 rfl hF rfl rfl rfl (bL i9))) fun a hF=>?_
     refine aK hF hch 7 rfl (by kernel_rfl) rfl rfl rfl (fun w hM=>(aJ qA3 hF rfl rfl ((((f18 _ (hsub _ (dropM hM 8))).elemS k0.2)).get 0 rfl))) fun a hF=>?_
     refine aK hF hch 8 rfl (by kernel_rfl) rfl rfl rfl (fun w hM=>(dD hF rfl rfl rfl)) fun a hF=>?_
     refine bY hch (by kernel_rfl) fun w hM=>?_
     refine aB ?_
     refine aS hF (c:=.tmp 24) rfl (fun i2=>?_) (fun i2=>?_)
     ·have hP:=Fx.cT i2 hP
      refine aG ?_
      refine aD ?_
      refine aA hF (aH hF rfl rfl) rfl rfl rfl fun a hF=>?_
      refine aI (aB ?_)
      refine c_ret ?_
      have hP:=Option.some.inj hP
      subst hP
      have hP:=j1 _ rfl
      subst hP
      have hP:=cX m0
      subst hP
      refine bE qR133 hF rfl ?_
      exact ⟨false,rfl,rfl,selM hM [0,4,5,6,7,1,2,3] 8 rfl⟩
     have hP:=Fx.cF i2 hP
     refine aW (bM (aB ?_))
     refine aD ?_
     refine aA hF (cA hF rfl rfl rfl) rfl rfl rfl fun a hF=>?_
     refine aA hF (aF hF rfl rfl) rfl rfl rfl fun a hF=>?_
     refine aI (aB ?_)
     have hP:=Option.some.inj hP
     subst hP
     exact ⟨(IntKind.i64.wrap (g8 + 1)),rfl,hF.to ⟨rfl,rfl,rfl,rfl,rfl,trivial⟩,hM⟩
    have hP:=Fx.cF i1 hP
    refine bZ (bC (bC (cR ?_)))
    refine aB ?_
    have hP:=Option.some.inj hP
    subst hP
    have hP:=j1 _ rfl
    subst hP
    exact ⟨(),rfl,hF.to ⟨rfl,trivial⟩,hM⟩
   rintro ⟨⟩ a w hP ⟨hF,hM⟩
   replace hP:Sh.pU = _:=hP
   unfold Sh.pU at hP
   refine aB ?_
   refine aG ?_
   refine aD ?_
   refine aA hF (aH hF rfl rfl) rfl rfl rfl fun a hF=>?_
   refine aI (aB ?_)
   refine c_ret ?_
   have hP:=Option.some.inj hP
   subst hP
   refine bE qR133 hF rfl ?_
   exact ⟨true,rfl,rfl,selM hM [0,4,5,6,7,1,2,3] 8 rfl⟩
  obtain ⟨i5,rfl,rfl,hM⟩:=hR
  replace hP:Sh.nA x0 c0 i5 = _:=l9
  unfold Sh.nA at hP
  replace hM:MemL _ (pt d8 (RMark.enc (RMark.mk c0.at_ c0.next c0.done c7 c8 c9 d0)) 60 :: rowL 0 c7 128 c0.regs :: rowL 0 c8 151 c0.slots :: rowL 0 c9 156 d1 :: rowL 0 d0 3 c0.sent :: pt c4 (RState.enc (RState.mk (⟨List.replicate 11 LVal.zero,rfl⟩ : Vec LVal 11) (⟨List.replicate 32 LSlot.zero,rfl⟩ : Vec LSlot 32) SV.nil SV.nil SV.nil 0 0 false)) 54 :: pt c3 (RMark.enc (RMark.mk x1.at_ x1.next x1.done s9 s11 s13 s17)) 60 :: pt c2 (RState.enc (RState.mk x0.regs x0.stack s1 s3 s7 x0.at_ x0.steps x0.done)) 54 :: Lr):=hM
  have hMs:=selM hM [0,1,2,3,4,5,6,7] 8 rfl
  refine ⟨_,_,hMs,hM,.inl fun _ h=>h,fun a hF=>?_⟩
  refine bI hF hch 22 rfl (by kernel_rfl) rfl rfl rfl c5 rfl rfl (fun w hM=>(dE hF rfl rfl)) fun a hF=>?_
  refine aK hF hch 23 rfl (by kernel_rfl) rfl rfl rfl (fun w hM=>(aV hF rfl rfl c5 rfl)) fun a hF=>?_
  refine aK hF hch 24 rfl (by kernel_rfl) rfl rfl rfl (fun w hM=>(aF hF rfl rfl)) fun a hF=>?_
  refine bD 49 hF rfl (fun d2=>?_) (fun d2=>?_)
  ·have hP:=Fx.cT d2 hP
   refine aU hF hch 25 rfl (by kernel_rfl) rfl rfl rfl d2 rfl rfl fun a hF=>?_
   refine aU hF hch 26 rfl (by kernel_rfl) rfl rfl rfl d2 rfl rfl fun a hF=>?_
   refine aU hF hch 27 rfl (by kernel_rfl) rfl rfl rfl d2 rfl rfl fun a hF=>?_
   refine aU hF hch 28 rfl (by kernel_rfl) rfl rfl rfl d2 rfl rfl fun a hF=>?_
   refine aK hF hch 29 rfl (by kernel_rfl) rfl rfl rfl (fun w hM=>(aQ hF rfl rfl d2 rfl)) fun a hF=>?_
   refine bY hch (by kernel_rfl) fun w hM=>?_
   refine aB ?_
   have hP:=Option.some.inj hP
   subst hP
   exact ⟨true,rfl,hF.to ⟨rfl,rfl,rfl,rfl,rfl,rfl,trivial⟩,selM hM [5,6,7,1,2,3,4] 8 rfl⟩
  have hP:=Fx.cF d2 hP
  refine bI hF hch 25 rfl (by kernel_rfl) rfl rfl rfl d2 rfl rfl (fun w hM=>(aR qA54 qS54 hF rfl rfl (RState.len _) (hM.cells (i:=7) rfl (bB (RState.len _))))) fun a hF=>?_
  refine bI hF hch 26 rfl (by kernel_rfl) rfl rfl rfl d2 rfl rfl (fun w hM=>(aR qA60 qS60 hF rfl rfl (RMark.len _) (hM.cells (i:=0) rfl (bB (RMark.len _))))) fun a hF=>?_
  refine bH hch 27 (by kernel_rfl) rfl rfl ?_
  refine wT hF 27 rfl rfl rfl rfl rfl d2 rfl rfl fun w hMs hM=>?_
  obtain ⟨m6,l5,hP⟩:=bind_some hP
  refine (aO (xs:=[.tmp 50,.tmp 51]) Tryz.call126 hF rfl rfl (lI l5 hM (fun _ h=>h) (fun w hM=>(f2 _ (hsub _ (dropM hM 8)))) (fun w hM=>(f5 _ (hsub _ (dropM hM 8)))) (q6.mono fun _ _ q=>q.mono fun w hM=>hsub _ (dropM hM 8)) (fun w hM=>(f8 _ (hsub _ (dropM hM 8)))) (fun w hM=>(hM.rowS (X:=LTurn) (i:=1) rfl)) (fun w hM=>(hM.rowS (X:=LCell) (i:=2) rfl)) (fun w hM=>(hM.rowS (X:=RPiece) (i:=3) rfl)) (m2.mono fun _ _ q=>q.mono fun w hM=>hsub _ (dropM hM 8)) (fun w hM=>(hM.rowS (X:=Int) (i:=4) rfl))) fun v w hR=>?_)
  obtain ⟨rfl,hM⟩:=hR
  replace hM:MemL _ (pt d8 (RMark.enc (RMark.mk c0.at_ c0.next c0.done c7 c8 c9 d0)) 60 :: rowL 0 c7 128 c0.regs :: rowL 0 c8 151 c0.slots :: rowL 0 c9 156 d1 :: rowL 0 d0 3 c0.sent :: pt c4 (RState.enc (RState.mk (⟨List.replicate 11 LVal.zero,rfl⟩ : Vec LVal 11) (⟨List.replicate 32 LSlot.zero,rfl⟩ : Vec LSlot 32) SV.nil SV.nil SV.nil 0 0 false)) 54 :: pt c3 (RMark.enc (RMark.mk x1.at_ x1.next x1.done s9 s11 s13 s17)) 60 :: pt c2 (RState.enc (RState.mk x0.regs x0.stack s1 s3 s7 x0.at_ x0.steps x0.done)) 54 :: Lr):=hM
  have hMs:=selM hM [0,1,2,3,4,5,6,7] 8 rfl
  refine ⟨_,_,hMs,hM,.inl fun _ h=>h,fun a hF=>?_⟩
  refine bI hF hch 28 rfl (by kernel_rfl) rfl rfl rfl d2 rfl rfl (fun w hM=>(dE hF rfl rfl)) fun a hF=>?_
  refine aK hF hch 29 rfl (by kernel_rfl) rfl rfl rfl (fun w hM=>(aV hF rfl rfl d2 rfl)) fun a hF=>?_
  refine bY hch (by kernel_rfl) fun w hM=>?_
  refine aB ?_
  have hP:=Option.some.inj hP
  subst hP
  exact ⟨(!m6),rfl,hF.to ⟨rfl,rfl,rfl,rfl,rfl,rfl,trivial⟩,selM hM [5,6,7,1,2,3,4] 8 rfl⟩
 rintro i4 a w hP ⟨hF,hM⟩
 replace hP:Sh.pT x0 x1 i4 = _:=hP
 unfold Sh.pT at hP
 refine aB ?_
 refine aS hF (c:=.tmp 54) rfl (fun i3=>?_) (fun i3=>?_)
 ·have hP:=Fx.cT i3 hP
  refine aG ?_
  refine aD ?_
  refine aA hF (cL z54 qU54 pl54 hF (parts:=[]) rfl rfl cV) rfl rfl rfl fun a hF=>?_
  refine bK rfl rfl (bA (vs:=_) qS54 (hM.obj (i:=0) rfl) hF rfl rfl rfl rfl (RState.len _) (RState.one _) (by first | (rw [RState.len,RState.len]; decide) | (rw [RState.len]; decide)) (bG ((RState.len _).trans (RState.len _).symm)) fun w k7=>?_)
  have hM:=hM.chg k7 (i:=0) rfl
  replace hM:MemL _ (pt c4 (RState.enc (RState.mk (⟨List.replicate 11 LVal.zero,rfl⟩ : Vec LVal 11) (⟨List.replicate 32 LSlot.zero,rfl⟩ : Vec LSlot 32) SV.nil SV.nil SV.nil 0 0 false)) 54 :: pt c3 (RMark.enc (RMark.mk x1.at_ x1.next x1.done s9 s11 s13 s17)) 60 :: pt c2 (RState.enc (RState.mk x0.regs x0.stack s1 s3 s7 x0.at_ x0.steps x0.done)) 54 :: rowL 0 c7 128 c0.regs :: rowL 0 c8 151 c0.slots :: rowL 0 c9 156 d1 :: rowL 0 d0 3 c0.sent :: Lr):=hM
  refine aA hF (aH hF rfl rfl) rfl rfl rfl fun a hF=>?_
  refine aI (aB ?_)
  refine c_ret ?_
  have hM:=hM.rowNil (X:=UInt8) 0 5
  obtain ⟨j4,hM⟩:=voidM hM
  have m3:Each (LIn (X:=UInt8) j4.holds') ([]:List SV) ([]:List (List UInt8)):=Each.nil
  have hM:=hM.rowNil (X:=SV) 0 23
  have hM:=hM.rowNil (X:=Int) 0 3
  have hP:=Option.some.inj hP
  subst hP
  refine dO (rs:=[.cell 4 54,.tmp 5]) Tryz.results60 hF (cC hF rfl qA54 qS54 (RState.len _) (hM.cells (i:=4) rfl (bB (RState.len _))) (cM hF rfl cJ)) rfl ?_
  exact ⟨SV.nil,SV.nil,[],j4,SV.nil,rfl,m3,selM hM [3,1,2,0] 11 rfl⟩
 have hP:=Fx.cF i3 hP
 refine aW (aB ?_)
 refine aG ?_
 refine bR mixed (by kernel_rfl) hM [0,1,2,3,4,5,6] 7 rfl fun hch=>?_
 refine aK hF hch 0 rfl (by kernel_rfl) rfl rfl rfl (fun w hM=>(aR qA54 qS54 hF rfl rfl (RState.len _) (hM.cells (i:=2) rfl (bB (RState.len _))))) fun a hF=>?_
 refine aK hF hch 1 rfl (by kernel_rfl) rfl rfl rfl (fun w hM=>(aR qA60 qS60 hF rfl rfl (RMark.len _) (hM.cells (i:=1) rfl (bB (RMark.len _))))) fun a hF=>?_
 refine bH hch 2 (by kernel_rfl) rfl rfl ?_
 refine cB hF 2 rfl rfl rfl rfl rfl fun w hMs hM=>?_
 obtain ⟨c6,l6,hP⟩:=bind_some hP
 refine (aO (xs:=[.tmp 57]) Tryz.call132 hF rfl rfl (kI l6 hM (Bf:=Bf) (fun w hM=>hsub _ (dropM hM 7)) f10 f12 f15 q16 f18) fun v w hR=>?_)
 obtain ⟨g2,g3,g4,d9,g5,rfl,m4,hM⟩:=hR
 replace hM:MemL _ (rowL 0 g2 128 c6.regs :: rowL 0 g3 151 c6.slots :: rowL 0 g4 156 d9 :: rowL 0 g5 3 c6.sent :: pt c4 (RState.enc (RState.mk (⟨List.replicate 11 LVal.zero,rfl⟩ : Vec LVal 11) (⟨List.replicate 32 LSlot.zero,rfl⟩ : Vec LSlot 32) SV.nil SV.nil SV.nil 0 0 false)) 54 :: pt c3 (RMark.enc (RMark.mk x1.at_ x1.next x1.done s9 s11 s13 s17)) 60 :: pt c2 (RState.enc (RState.mk x0.regs x0.stack s1 s3 s7 x0.at_ x0.steps x0.done)) 54 :: rowL 0 c7 128 c0.regs :: rowL 0 c8 151 c0.slots :: rowL 0 c9 156 d1 :: rowL 0 d0 3 c0.sent :: Lr):=hM
 have hMs:=selM hM [0,1,2,3,4,5,6,7,8,9,10] 11 rfl
 refine ⟨_,_,hMs,hM,.inl fun _ h=>dropM h 4,fun a hF=>?_⟩
 refine bH hch 3 (by kernel_rfl) rfl rfl ?_
 refine cB hF 3 rfl rfl rfl rfl rfl fun w hMs hM=>?_
 obtain ⟨c1,l7,hP⟩:=bind_some hP
 refine (aO (xs:=[.tmp 56,.tmp 58]) Tryz.call127 hF rfl rfl (kG l7 hM (fun _ h=>h) (fun w hM=>(f2 _ (hsub _ (dropM hM 11)))) (fun w hM=>(f5 _ (hsub _ (dropM hM 11)))) (q6.mono fun _ _ q=>q.mono fun w hM=>hsub _ (dropM hM 11)) (fun w hM=>(f8 _ (hsub _ (dropM hM 11)))) (fun w hM=>(hM.rowS (X:=LTurn) (i:=0) rfl)) (fun w hM=>(hM.rowS (X:=LCell) (i:=1) rfl)) (fun w hM=>(hM.rowS (X:=RPiece) (i:=2) rfl)) (m4.mono fun _ _ q=>q.mono fun w hM=>hsub _ (dropM hM 11)) (fun w hM=>(hM.rowS (X:=Int) (i:=3) rfl))) fun v w hR=>?_)
 obtain ⟨d3,d4,g0,g1,d7,rfl,m5,hM⟩:=hR
 replace hM:MemL _ (rowL 0 d3 5 c1.ctx :: rowL 0 d4 23 g0 :: g1 :: rowL 0 d7 3 c1.sent :: rowL 0 g2 128 c6.regs :: rowL 0 g3 151 c6.slots :: rowL 0 g4 156 d9 :: rowL 0 g5 3 c6.sent :: pt c4 (RState.enc (RState.mk (⟨List.replicate 11 LVal.zero,rfl⟩ : Vec LVal 11) (⟨List.replicate 32 LSlot.zero,rfl⟩ : Vec LSlot 32) SV.nil SV.nil SV.nil 0 0 false)) 54 :: pt c3 (RMark.enc (RMark.mk x1.at_ x1.next x1.done s9 s11 s13 s17)) 60 :: pt c2 (RState.enc (RState.mk x0.regs x0.stack s1 s3 s7 x0.at_ x0.steps x0.done)) 54 :: rowL 0 c7 128 c0.regs :: rowL 0 c8 151 c0.slots :: rowL 0 c9 156 d1 :: rowL 0 d0 3 c0.sent :: Lr):=hM
 have hMs:=selM hM [0,1,2,3,4,5,6,7,8,9,10,11,12,13,14] 15 rfl
 refine ⟨_,_,hMs,hM,.inl fun _ h=>dropM h 4,fun a hF=>?_⟩
 refine bH hch 4 (by kernel_rfl) rfl rfl ?_
 refine dK 4 rfl rfl rfl rfl fun w hMs hM=>?_
 refine (bA (vs:=_) qS54 (hM.obj (i:=10) rfl) hF rfl rfl rfl rfl (RState.len _) (RState.one _) (by first | (rw [RState.len,RState.len]; decide) | (rw [RState.len]; decide)) (bG ((RState.len _).trans (RState.len _).symm)) fun w k8=>?_)
 have hM:=hM.chg k8 (i:=10) rfl
 replace hM:MemL _ (rowL 0 d3 5 c1.ctx :: rowL 0 d4 23 g0 :: g1 :: rowL 0 d7 3 c1.sent :: rowL 0 g2 128 c6.regs :: rowL 0 g3 151 c6.slots :: rowL 0 g4 156 d9 :: rowL 0 g5 3 c6.sent :: pt c4 (RState.enc (RState.mk (⟨List.replicate 11 LVal.zero,rfl⟩ : Vec LVal 11) (⟨List.replicate 32 LSlot.zero,rfl⟩ : Vec LSlot 32) SV.nil SV.nil SV.nil 0 0 false)) 54 :: pt c3 (RMark.enc (RMark.mk x1.at_ x1.next x1.done s9 s11 s13 s17)) 60 :: pt c2 (RState.enc (RState.mk c1.regs c1.stack d3 d4 d7 c1.at_ c1.steps c1.done)) 54 :: rowL 0 c7 128 c0.regs :: rowL 0 c8 151 c0.slots :: rowL 0 c9 156 d1 :: rowL 0 d0 3 c0.sent :: Lr):=hM
 have hMs:=hM
 refine ⟨_,_,hMs,hM,.inr (by kernel_rfl),?_⟩
 refine bY hch (by kernel_rfl) fun w hM=>?_
 refine aB ?_
 refine aG ?_
 refine aD ?_
 refine aA hF (aC (off':=465) qU54 rfl in4 rfl hF rfl rfl rfl) rfl rfl rfl fun a hF=>?_
 refine bK rfl rfl (bT qS4 (hM.obj (i:=10) rfl) hF rfl rfl rfl rfl (by rw [RState.len]; decide) (RState.s_done _ _) fun w k9=>?_)
 have hM:=hM.chg k9 (i:=10) rfl
 replace hM:MemL _ (rowL 0 d3 5 c1.ctx :: rowL 0 d4 23 g0 :: g1 :: rowL 0 d7 3 c1.sent :: rowL 0 g2 128 c6.regs :: rowL 0 g3 151 c6.slots :: rowL 0 g4 156 d9 :: rowL 0 g5 3 c6.sent :: pt c4 (RState.enc (RState.mk (⟨List.replicate 11 LVal.zero,rfl⟩ : Vec LVal 11) (⟨List.replicate 32 LSlot.zero,rfl⟩ : Vec LSlot 32) SV.nil SV.nil SV.nil 0 0 false)) 54 :: pt c3 (RMark.enc (RMark.mk x1.at_ x1.next x1.done s9 s11 s13 s17)) 60 :: pt c2 (RState.enc (RState.mk c1.regs c1.stack d3 d4 d7 c1.at_ c1.steps false)) 54 :: rowL 0 c7 128 c0.regs :: rowL 0 c8 151 c0.slots :: rowL 0 c9 156 d1 :: rowL 0 d0 3 c0.sent :: Lr):=hM
 refine aI (aB ?_)
 refine aG ?_
 refine aD ?_
 refine aA hF (aC (off':=464) qU54 rfl in3 rfl hF rfl rfl rfl) rfl rfl rfl fun a hF=>?_
 refine aA hF (aJ qA3 hF rfl rfl (hM.cell (i:=10) rfl (RState.g_steps _))) rfl rfl rfl fun a hF=>?_
 refine aA hF (eQ hF rfl rfl rfl) rfl rfl rfl fun a hF=>?_
 refine aA hF (aC (off':=464) qU54 rfl in3 rfl hF rfl rfl rfl) rfl rfl rfl fun a hF=>?_
 refine bK rfl rfl (bT qS3 (hM.obj (i:=10) rfl) hF rfl rfl rfl rfl (by rw [RState.len]; decide) (RState.s_steps _ _) fun w l0=>?_)
 have hM:=hM.chg l0 (i:=10) rfl
 replace hM:MemL _ (rowL 0 d3 5 c1.ctx :: rowL 0 d4 23 g0 :: g1 :: rowL 0 d7 3 c1.sent :: rowL 0 g2 128 c6.regs :: rowL 0 g3 151 c6.slots :: rowL 0 g4 156 d9 :: rowL 0 g5 3 c6.sent :: pt c4 (RState.enc (RState.mk (⟨List.replicate 11 LVal.zero,rfl⟩ : Vec LVal 11) (⟨List.replicate 32 LSlot.zero,rfl⟩ : Vec LSlot 32) SV.nil SV.nil SV.nil 0 0 false)) 54 :: pt c3 (RMark.enc (RMark.mk x1.at_ x1.next x1.done s9 s11 s13 s17)) 60 :: pt c2 (RState.enc (RState.mk c1.regs c1.stack d3 d4 d7 c1.at_ (IntKind.i64.wrap (c1.steps - 1)) false)) 54 :: rowL 0 c7 128 c0.regs :: rowL 0 c8 151 c0.slots :: rowL 0 c9 156 d1 :: rowL 0 d0 3 c0.sent :: Lr):=hM
 refine aI (aB ?_)
 refine aG ?_
 refine aD ?_
 refine aA hF (aC (off':=462) qU54 rfl in52 rfl hF rfl rfl rfl) rfl rfl rfl fun a hF=>?_
 refine aA hF (aJ qA52 hF rfl rfl (hM.cell (i:=10) rfl (RState.g_sent _))) rfl rfl rfl fun a hF=>?_
 refine aA hF (aF hF rfl rfl) rfl rfl rfl fun a hF=>?_
 obtain ⟨n5,j0,hP⟩:=bind_some hP
 refine aA hF (gM (hM.rowS (X:=Int) (i:=3) rfl) j0 qU52 in3 rfl hF rfl rfl (.inl ⟨rfl,rfl⟩) (.inr ⟨_,_,rfl,rfl⟩)) rfl rfl rfl fun a hF=>?_
 obtain ⟨i6,l8,hP⟩:=bind_some hP
 refine aN hF rfl rfl rfl (aO (xs:=[.tmp 68]) Tryz.call134 hF rfl rfl (gC l8 hM (fun _ h=>h) (fun w hM=>(aHa (hM.rowS (X:=Int) (i:=3) rfl) j0 rfl))) fun v w hR=>?_)
 obtain ⟨g6,rfl,hM⟩:=hR
 replace hM:MemL _ (rowL 0 g6 3 i6 :: rowL 0 d3 5 c1.ctx :: rowL 0 d4 23 g0 :: g1 :: rowL 0 d7 3 c1.sent :: rowL 0 g2 128 c6.regs :: rowL 0 g3 151 c6.slots :: rowL 0 g4 156 d9 :: rowL 0 g5 3 c6.sent :: pt c4 (RState.enc (RState.mk (⟨List.replicate 11 LVal.zero,rfl⟩ : Vec LVal 11) (⟨List.replicate 32 LSlot.zero,rfl⟩ : Vec LSlot 32) SV.nil SV.nil SV.nil 0 0 false)) 54 :: pt c3 (RMark.enc (RMark.mk x1.at_ x1.next x1.done s9 s11 s13 s17)) 60 :: pt c2 (RState.enc (RState.mk c1.regs c1.stack d3 d4 d7 c1.at_ (IntKind.i64.wrap (c1.steps - 1)) false)) 54 :: rowL 0 c7 128 c0.regs :: rowL 0 c8 151 c0.slots :: rowL 0 c9 156 d1 :: rowL 0 d0 3 c0.sent :: Lr):=hM
 intro a hF
 refine aA hF (aC (off':=462) qU54 rfl in52 rfl hF rfl rfl rfl) rfl rfl rfl fun a hF=>?_
 refine bK rfl rfl (bT qS52 (hM.obj (i:=11) rfl) hF rfl rfl rfl rfl (by rw [RState.len]; decide) (RState.s_sent _ _) fun w l1=>?_)
 have hM:=hM.chg l1 (i:=11) rfl
 replace hM:MemL _ (rowL 0 g6 3 i6 :: rowL 0 d3 5 c1.ctx :: rowL 0 d4 23 g0 :: g1 :: rowL 0 d7 3 c1.sent :: rowL 0 g2 128 c6.regs :: rowL 0 g3 151 c6.slots :: rowL 0 g4 156 d9 :: rowL 0 g5 3 c6.sent :: pt c4 (RState.enc (RState.mk (⟨List.replicate 11 LVal.zero,rfl⟩ : Vec LVal 11) (⟨List.replicate 32 LSlot.zero,rfl⟩ : Vec LSlot 32) SV.nil SV.nil SV.nil 0 0 false)) 54 :: pt c3 (RMark.enc (RMark.mk x1.at_ x1.next x1.done s9 s11 s13 s17)) 60 :: pt c2 (RState.enc (RState.mk c1.regs c1.stack d3 d4 g6 c1.at_ (IntKind.i64.wrap (c1.steps - 1)) false)) 54 :: rowL 0 c7 128 c0.regs :: rowL 0 c8 151 c0.slots :: rowL 0 c9 156 d1 :: rowL 0 d0 3 c0.sent :: Lr):=hM
 refine aI (aB ?_)
 refine aG ?_
 refine aD ?_
 refine aA hF (aR qA54 qS54 hF rfl rfl (RState.len _) (hM.cells (i:=11) rfl (bB (RState.len _)))) rfl rfl rfl fun a hF=>?_
 refine bK rfl rfl (bA (vs:=_) qS54 (hM.obj (i:=9) rfl) hF rfl rfl rfl rfl (RState.len _) (RState.one _) (by first | (rw [RState.len,RState.len]; decide) | (rw [RState.len]; decide)) (bG ((RState.len _).trans (RState.len _).symm)) fun w l2=>?_)
 have hM:=hM.chg l2 (i:=9) rfl
 replace hM:MemL _ (rowL 0 g6 3 i6 :: rowL 0 d3 5 c1.ctx :: rowL 0 d4 23 g0 :: g1 :: rowL 0 d7 3 c1.sent :: rowL 0 g2 128 c6.regs :: rowL 0 g3 151 c6.slots :: rowL 0 g4 156 d9 :: rowL 0 g5 3 c6.sent :: pt c4 (RState.enc (RState.mk c1.regs c1.stack d3 d4 g6 c1.at_ (IntKind.i64.wrap (c1.steps - 1)) false)) 54 :: pt c3 (RMark.enc (RMark.mk x1.at_ x1.next x1.done s9 s11 s13 s17)) 60 :: pt c2 (RState.enc (RState.mk c1.regs c1.stack d3 d4 g6 c1.at_ (IntKind.i64.wrap (c1.steps - 1)) false)) 54 :: rowL 0 c7 128 c0.regs :: rowL 0 c8 151 c0.slots :: rowL 0 c9 156 d1 :: rowL 0 d0 3 c0.sent :: Lr):=hM
 refine aA hF (aH hF rfl rfl) rfl rfl rfl fun a hF=>?_
 refine aI (aB ?_)
 refine c_ret ?_
 have hP:=Option.some.inj hP
 subst hP
 refine dO (rs:=[.cell 4 54,.tmp 5]) Tryz.results60 hF (cC hF rfl qA54 qS54 (RState.len _) (hM.cells (i:=9) rfl (bB (RState.len _))) (cM hF rfl cJ)) rfl ?_
 exact ⟨d3,d4,g0,g1,g6,rfl,m5,selM hM [1,2,3,0] 16 rfl⟩
set_option maxHeartbeats 4000000 in
theorem kD {x0:QState} {x1:QMark} {x2:Bool} {s1:SV} {s3:SV} {hs4:List SV} {s7:SV} {s9:SV} {s11:SV} {s13:SV} {hs14:List RPiece} {s17:SV} {out:Bool} {w0:World} {Bf:World → Prop} {Lr:List Res} (hP:Sh.kO x0 x1 x2 = some out) (hM:MemL w0 (Lr)) (hsub:∀ w,MemL w Lr → Bf w) (f2:LIn Bf s1 x0.ctx) (f5:LIn Bf s3 hs4) (q6:Each (LIn (X:=UInt8) Bf) hs4 x0.tables) (f8:LIn Bf s7 x0.sent) (f10:LIn Bf s9 x1.regs) (f12:LIn Bf s11 x1.slots) (f15:LIn Bf s13 hs14) (q16:Each (QPieceIn Bf) hs14 x1.pieces) (f18:LIn Bf s17 x1.sent):Calls Tryz.prog 136 #[.agg (RState.enc (RState.mk x0.regs x0.stack s1 s3 s7 x0.at_ x0.steps x0.done)).toArray,.agg (RMark.enc (RMark.mk x1.at_ x1.next x1.done s9 s11 s13 s17)).toArray,.bool x2] w0 (Ret fun v w'=>v = .bool out ∧ MemL w' (Lr)):=by
 unfold Sh.kO at hP
 refine aP (vs:=[.agg (RState.enc (RState.mk x0.regs x0.stack s1 s3 s7 x0.at_ x0.steps x0.done)).toArray,.agg (RMark.enc (RMark.mk x1.at_ x1.next x1.done s9 s11 s13 s17)).toArray,.bool x2]) Tryz.func136 rfl Tryz.ntmps136 rfl fun a hF=>?_
 refine aG ?_
 refine aD ?_
 refine aN hF rfl rfl rfl (cW hF rfl rfl rfl fun c0 w n0 i5=>?_)
 have hM:=hM.plus i5
 intro a hF
 refine aN hF rfl rfl rfl (cW hF rfl rfl rfl fun c1 w n1 i6=>?_)
 have hM:=hM.plus i6
 replace hM:MemL _ (pt c1 (RMark.enc (RMark.mk x1.at_ x1.next x1.done s9 s11 s13 s17)) 60 :: pt c0 (RState.enc (RState.mk x0.regs x0.stack s1 s3 s7 x0.at_ x0.steps x0.done)) 54 :: Lr):=hM
 intro a hF
 refine aA hF (aH hF rfl rfl) rfl rfl rfl fun a hF=>?_
 refine aI (aB ?_)
 refine aG ?_
 refine aT hF hM hP (fun F x a w=>match x with | _=>Fr 129 [(2,.bool x2),(3,.pointer (some ⟨c0,0,none⟩)),(4,.pointer (some ⟨c1,0,none⟩)),(6,.bool false)] a ∧ MemL w (pt c1 (RMark.enc (RMark.mk x1.at_ x1.next x1.done s9 s11 s13 s17)) 60 :: pt c0 (RState.enc (RState.mk x0.regs x0.stack s1 s3 s7 x0.at_ x0.steps x0.done)) 54 :: Lr)) (fun z3 hP m6 hF hM=>?_) ?_
 ·refine aG ?_
  refine aD ?_
  refine aA hF (aH hF rfl rfl) rfl rfl rfl fun a hF=>?_
  refine aI (aB ?_)
  refine aX ?_
  refine bU hF hM hP (fun F x a w=>match x with | c4=>Fr 129 [(7,.int .i64 c4),(2,.bool x2),(3,.pointer (some ⟨c0,0,none⟩)),(4,.pointer (some ⟨c1,0,none⟩)),(6,.bool false)] a ∧ MemL w (pt c1 (RMark.enc (RMark.mk x1.at_ x1.next x1.done s9 s11 s13 s17)) 60 :: pt c0 (RState.enc (RState.mk x0.regs x0.stack s1 s3 s7 x0.at_ x0.steps x0.done)) 54 :: Lr)) (fun hF hM=>⟨hF.to ⟨rfl,rfl,rfl,rfl,rfl,trivial⟩,hM⟩) ?_
  rintro c4 a w z8 hP i8 ⟨hF,hM⟩
  replace hP:Sh.iT x0 x1 x2 c4 = _:=hP
  unfold Sh.iT at hP
  refine aG ?_
  refine aG ?_
  refine aD ?_
  refine aA hF (aF hF rfl rfl) rfl rfl rfl fun a hF=>?_
  refine aA hF (aC (off':=3) qU60 rfl in56 rfl hF rfl rfl rfl) rfl rfl rfl fun a hF=>?_
  refine aA hF (aJ qA56 hF rfl rfl (hM.cell (i:=0) rfl (RMark.g_regs _))) rfl rfl rfl fun a hF=>?_
  refine aA hF (bQ (f10 _ (hsub _ (dropM hM 2))) qU56 hF rfl rfl) rfl rfl rfl fun a hF=>?_
  refine aA hF (cO hF rfl rfl rfl) rfl rfl rfl fun a hF=>?_
  refine aI (aB ?_)
  refine aS hF (c:=.tmp 17) rfl (fun c7=>?_) (fun c7=>?_)
  ·have hP:=Fx.cT c7 hP
   refine aW (aB ?_)
   refine aG ?_
   refine aX ?_
   refine aG ?_
   refine bR mixed (by kernel_rfl) hM [0,1] 2 rfl fun hch=>?_
   refine aK hF hch 0 rfl (by kernel_rfl) rfl rfl rfl (fun w hM=>(aC (off':=3) qU60 rfl in56 rfl hF rfl rfl rfl)) fun a hF=>?_
   refine aK hF hch 1 rfl (by kernel_rfl) rfl rfl rfl (fun w hM=>(aJ qA56 hF rfl rfl (hM.cell (i:=0) rfl (RMark.g_regs _)))) fun a hF=>?_
   refine aK hF hch 2 rfl (by kernel_rfl) rfl rfl rfl (fun w hM=>(aF hF rfl rfl)) fun a hF=>?_
   obtain ⟨u0,g4,hP⟩:=bind_some hP
   have j1:=aM g4
   refine aK hF hch 3 rfl (by kernel_rfl) rfl rfl rfl (fun w hM=>(aY (sz:=9) (f10 _ (hsub _ (dropM hM 2))) qU56 in128 rfl hF rfl rfl rfl (bL g4))) fun a hF=>?_
   refine aK hF hch 4 rfl (by kernel_rfl) rfl rfl rfl (fun w hM=>(aC qU128 rfl in3 rfl hF rfl rfl rfl)) fun a hF=>?_
   refine aK hF hch 5 rfl (by kernel_rfl) rfl rfl rfl (fun w hM=>(aJ qA3 hF rfl rfl ((((f10 _ (hsub _ (dropM hM 2))).elemS j1.2)).get 0 (LTurn.g_reg _)))) fun a hF=>?_
   refine aK hF hch 6 rfl (by kernel_rfl) rfl rfl rfl (fun w hM=>(aC (off':=0) qU54 rfl in47 rfl hF rfl rfl rfl)) fun a hF=>?_
   obtain ⟨u1,d5,hP⟩:=bind_some hP
   have n3:=aM d5
   refine aK hF hch 7 rfl (by kernel_rfl) rfl rfl rfl (fun w hM=>(cU (sz:=4) qU47 in46 rfl hF rfl rfl rfl (dG d5))) fun a hF=>?_
   refine aK hF hch 8 rfl (by kernel_rfl) rfl rfl rfl (fun w hM=>(aR qA46 qS46 hF rfl rfl (LVal.len _) (hM.cells (i:=1) rfl (RState.ci_regs _ _ _ (aM d5).2)))) fun a hF=>?_
   refine aK hF hch 9 rfl (by kernel_rfl) rfl rfl rfl (fun w hM=>(aC (off':=3) qU60 rfl in56 rfl hF rfl rfl rfl)) fun a hF=>?_
   refine aK hF hch 10 rfl (by kernel_rfl) rfl rfl rfl (fun w hM=>(aJ qA56 hF rfl rfl (hM.cell (i:=0) rfl (RMark.g_regs _)))) fun a hF=>?_
   refine aK hF hch 11 rfl (by kernel_rfl) rfl rfl rfl (fun w hM=>(aF hF rfl rfl)) fun a hF=>?_
   obtain ⟨u2,g5,hP⟩:=bind_some hP
   have j2:=aM g5
   refine aK hF hch 12 rfl (by kernel_rfl) rfl rfl rfl (fun w hM=>(aY (sz:=9) (f10 _ (hsub _ (dropM hM 2))) qU56 in128 rfl hF rfl rfl rfl (bL g5))) fun a hF=>?_
   refine aK hF hch 13 rfl (by kernel_rfl) rfl rfl rfl (fun w hM=>(aR qA128 qS128 hF rfl rfl (LTurn.len _) (((f10 _ (hsub _ (dropM hM 2))).elemS j2.2)))) fun a hF=>?_
   refine aK hF hch 14 rfl (by kernel_rfl) rfl rfl rfl (fun w hM=>(aF hF rfl rfl)) fun a hF=>?_
   refine bH hch 15 (by kernel_rfl) rfl rfl ?_
   refine cB hF 15 rfl rfl rfl rfl rfl fun w hMs hM=>?_
   obtain ⟨z1,l9,hP⟩:=bind_some hP
   refine (aO (xs:=[.tmp 33,.tmp 34]) Tryz.call199 hF rfl rfl (mD l9 hM ) fun v w hR=>?_)
   obtain ⟨rfl,hM⟩:=hR
   replace hM:MemL _ (pt c1 (RMark.enc (RMark.mk x1.at_ x1.next x1.done s9 s11 s13 s17)) 60 :: pt c0 (RState.enc (RState.mk x0.regs x0.stack s1 s3 s7 x0.at_ x0.steps x0.done)) 54 :: Lr):=hM
   have hMs:=selM hM [0,1] 2 rfl
   refine ⟨_,_,hMs,hM,.inl fun _ h=>h,fun a hF=>?_⟩
   refine aK hF hch 16 rfl (by kernel_rfl) rfl rfl rfl (fun w hM=>(iY qG46 (fQ _ _ _ _ (by decide)) hF rfl rfl rfl)) fun a hF=>?_
   refine bY hch (by kernel_rfl) fun w hM=>?_
   refine aB ?_
   refine aS hF (c:=.tmp 36) rfl (fun c8=>?_) (fun c8=>?_)
   ·have hP:=Fx.cT c8 hP
    refine aG ?_
    refine aD ?_
    refine aA hF (aH hF rfl rfl) rfl rfl rfl fun a hF=>?_
    refine aI (aB ?_)
    refine c_ret ?_
    have hP:=Option.some.inj hP
    subst hP
    have hP:=i8 _ rfl
    subst hP
    have hP:=cX m6
    subst hP
    refine bE qR136 hF rfl ?_
    exact ⟨rfl,selM hM [] 2 rfl⟩
   have hP:=Fx.cF c8 hP
   refine aW (bM (aB ?_))
   refine aD ?_
   refine aA hF (aF hF rfl rfl) rfl rfl rfl fun a hF=>?_
   refine aA hF (cA hF rfl rfl rfl) rfl rfl rfl fun a hF=>?_
   refine aA hF (aH hF rfl rfl) rfl rfl rfl fun a hF=>?_
   refine aI (aB ?_)
   have hP:=Option.some.inj hP
   subst hP
   exact ⟨(IntKind.i64.wrap (c4 + 1)),rfl,hF.to ⟨rfl,rfl,rfl,rfl,rfl,trivial⟩,hM⟩
  have hP:=Fx.cF c7 hP
  refine bZ (bC (bC (cR ?_)))
  refine aB ?_
  have hP:=Option.some.inj hP
  subst hP
  have hP:=i8 _ rfl
  subst hP
  exact ⟨(),rfl,hF.to ⟨rfl,rfl,rfl,rfl,trivial⟩,hM⟩
 rintro ⟨⟩ a w hP ⟨hF,hM⟩
 replace hP:Sh.nM x0 x1 x2 = _:=hP
 unfold Sh.nM at hP
 refine aB ?_
 refine aG ?_
 refine aT hF hM hP (fun F x a w=>match x with | _=>Fr 129 [(2,.bool x2),(3,.pointer (some ⟨c0,0,none⟩)),(4,.pointer (some ⟨c1,0,none⟩)),(6,.bool false)] a ∧ MemL w (pt c1 (RMark.enc (RMark.mk x1.at_ x1.next x1.done s9 s11 s13 s17)) 60 :: pt c0 (RState.enc (RState.mk x0.regs x0.stack s1 s3 s7 x0.at_ x0.steps x0.done)) 54 :: Lr)) (fun z4 hP m7 hF hM=>?_) ?_
 ·refine aG ?_
  refine aD ?_
  refine aA hF (aH hF rfl rfl) rfl rfl rfl fun a hF=>?_
  refine aI (aB ?_)
  refine aX ?_
  refine bU hF hM hP (fun F x a w=>match x with | c5=>Fr 129 [(8,.int .i64 c5),(2,.bool x2),(3,.pointer (some ⟨c0,0,none⟩)),(4,.pointer (some ⟨c1,0,none⟩)),(6,.bool false)] a ∧ MemL w (pt c1 (RMark.enc (RMark.mk x1.at_ x1.next x1.done s9 s11 s13 s17)) 60 :: pt c0 (RState.enc (RState.mk x0.regs x0.stack s1 s3 s7 x0.at_ x0.steps x0.done)) 54 :: Lr)) (fun hF hM=>⟨hF.to ⟨rfl,rfl,rfl,rfl,rfl,trivial⟩,hM⟩) ?_
  rintro c5 a w z9 hP i9 ⟨hF,hM⟩
  replace hP:Sh.iU x0 x1 x2 c5 = _:=hP
  unfold Sh.iU at hP
  refine aG ?_
  refine aG ?_
  refine aD ?_
  refine aA hF (aF hF rfl rfl) rfl rfl rfl fun a hF=>?_
  refine aA hF (aC (off':=4) qU60 rfl in57 rfl hF rfl rfl rfl) rfl rfl rfl fun a hF=>?_
  refine aA hF (aJ qA57 hF rfl rfl (hM.cell (i:=0) rfl (RMark.g_slots _))) rfl rfl rfl fun a hF=>?_
  refine aA hF (bQ (f12 _ (hsub _ (dropM hM 2))) qU57 hF rfl rfl) rfl rfl rfl fun a hF=>?_
  refine aA hF (cO hF rfl rfl rfl) rfl rfl rfl fun a hF=>?_
  refine aI (aB ?_)
  refine aS hF (c:=.tmp 41) rfl (fun c9=>?_) (fun c9=>?_)
  ·have hP:=Fx.cT c9 hP
   refine aW (aB ?_)
   refine aG ?_
   refine aX ?_
   refine aG ?_
   refine bR mixed (by kernel_rfl) hM [0,1] 2 rfl fun hch=>?_
   refine aK hF hch 0 rfl (by kernel_rfl) rfl rfl rfl (fun w hM=>(aC (off':=4) qU60 rfl in57 rfl hF rfl rfl rfl)) fun a hF=>?_
   refine aK hF hch 1 rfl (by kernel_rfl) rfl rfl rfl (fun w hM=>(aJ qA57 hF rfl rfl (hM.cell (i:=0) rfl (RMark.g_slots _)))) fun a hF=>?_
   refine aK hF hch 2 rfl (by kernel_rfl) rfl rfl rfl (fun w hM=>(aF hF rfl rfl)) fun a hF=>?_
   obtain ⟨u3,g6,hP⟩:=bind_some hP
   have j3:=aM g6
   refine aK hF hch 3 rfl (by kernel_rfl) rfl rfl rfl (fun w hM=>(aY (sz:=27) (f12 _ (hsub _ (dropM hM 2))) qU57 in151 rfl hF rfl rfl rfl (bL g6))) fun a hF=>?_
   refine aK hF hch 4 rfl (by kernel_rfl) rfl rfl rfl (fun w hM=>(aC qU151 rfl in3 rfl hF rfl rfl rfl)) fun a hF=>?_
   refine aK hF hch 5 rfl (by kernel_rfl) rfl rfl rfl (fun w hM=>(aJ qA3 hF rfl rfl ((((f12 _ (hsub _ (dropM hM 2))).elemS j3.2)).get 0 (LCell.g_slot _)))) fun a hF=>?_
   refine aK hF hch 6 rfl (by kernel_rfl) rfl rfl rfl (fun w hM=>(aC (off':=44) qU54 rfl in51 rfl hF rfl rfl rfl)) fun a hF=>?_
   obtain ⟨u4,d6,hP⟩:=bind_some hP
   have n4:=aM d6
   refine aK hF hch 7 rfl (by kernel_rfl) rfl rfl rfl (fun w hM=>(cU (sz:=13) qU51 in50 rfl hF rfl rfl rfl (dG d6))) fun a hF=>?_
   refine aK hF hch 8 rfl (by kernel_rfl) rfl rfl rfl (fun w hM=>(aR qA50 qS50 hF rfl rfl (LSlot.len _) (hM.cells (i:=1) rfl (RState.ci_stack _ _ _ (aM d6).2)))) fun a hF=>?_
   refine aK hF hch 9 rfl (by kernel_rfl) rfl rfl rfl (fun w hM=>(aC (off':=4) qU60 rfl in57 rfl hF rfl rfl rfl)) fun a hF=>?_
   refine aK hF hch 10 rfl (by kernel_rfl) rfl rfl rfl (fun w hM=>(aJ qA57 hF rfl rfl (hM.cell (i:=0) rfl (RMark.g_slots _)))) fun a hF=>?_
   refine aK hF hch 11 rfl (by kernel_rfl) rfl rfl rfl (fun w hM=>(aF hF rfl rfl)) fun a hF=>?_
   obtain ⟨u5,g7,hP⟩:=bind_some hP
   have j4:=aM g7
   refine aK hF hch 12 rfl (by kernel_rfl) rfl rfl rfl (fun w hM=>(aY (sz:=27) (f12 _ (hsub _ (dropM hM 2))) qU57 in151 rfl hF rfl rfl rfl (bL g7))) fun a hF=>?_
   refine aK hF hch 13 rfl (by kernel_rfl) rfl rfl rfl (fun w hM=>(aR qA151 qS151 hF rfl rfl (LCell.len _) (((f12 _ (hsub _ (dropM hM 2))).elemS j4.2)))) fun a hF=>?_
   refine aK hF hch 14 rfl (by kernel_rfl) rfl rfl rfl (fun w hM=>(aF hF rfl rfl)) fun a hF=>?_
   refine bH hch 15 (by kernel_rfl) rfl rfl ?_
   refine cB hF 15 rfl rfl rfl rfl rfl fun w hMs hM=>?_
   obtain ⟨z2,m0,hP⟩:=bind_some hP
   refine (aO (xs:=[.tmp 57,.tmp 58]) Tryz.call200 hF rfl rfl (lD m0 hM ) fun v w hR=>?_)
   obtain ⟨rfl,hM⟩:=hR
   replace hM:MemL _ (pt c1 (RMark.enc (RMark.mk x1.at_ x1.next x1.done s9 s11 s13 s17)) 60 :: pt c0 (RState.enc (RState.mk x0.regs x0.stack s1 s3 s7 x0.at_ x0.steps x0.done)) 54 :: Lr):=hM
   have hMs:=selM hM [0,1] 2 rfl
   refine ⟨_,_,hMs,hM,.inl fun _ h=>h,fun a hF=>?_⟩
   refine aK hF hch 16 rfl (by kernel_rfl) rfl rfl rfl (fun w hM=>(iY qG50 (gG _ _ _ _ (by decide)) hF rfl rfl rfl)) fun a hF=>?_
   refine bY hch (by kernel_rfl) fun w hM=>?_
   refine aB ?_
   refine aS hF (c:=.tmp 60) rfl (fun d0=>?_) (fun d0=>?_)
   ·have hP:=Fx.cT d0 hP
    refine aG ?_
    refine aD ?_
    refine aA hF (aH hF rfl rfl) rfl rfl rfl fun a hF=>?_
    refine aI (aB ?_)
    refine c_ret ?_
    have hP:=Option.some.inj hP
    subst hP
    have hP:=i9 _ rfl
    subst hP
    have hP:=cX m7
    subst hP
    refine bE qR136 hF rfl ?_
    exact ⟨rfl,selM hM [] 2 rfl⟩
   have hP:=Fx.cF d0 hP
   refine aW (bM (aB ?_))
   refine aD ?_
   refine aA hF (aF hF rfl rfl) rfl rfl rfl fun a hF=>?_
   refine aA hF (cA hF rfl rfl rfl) rfl rfl rfl fun a hF=>?_
   refine aA hF (aH hF rfl rfl) rfl rfl rfl fun a hF=>?_
   refine aI (aB ?_)
   have hP:=Option.some.inj hP
   subst hP
   exact ⟨(IntKind.i64.wrap (c5 + 1)),rfl,hF.to ⟨rfl,rfl,rfl,rfl,rfl,trivial⟩,hM⟩
  have hP:=Fx.cF c9 hP
  refine bZ (bC (bC (cR ?_)))
  refine aB ?_
  have hP:=Option.some.inj hP
  subst hP
  have hP:=i9 _ rfl
  subst hP
  exact ⟨(),rfl,hF.to ⟨rfl,rfl,rfl,rfl,trivial⟩,hM⟩
 rintro ⟨⟩ a w hP ⟨hF,hM⟩
 replace hP:Sh.nN x0 x1 x2 = _:=hP
 unfold Sh.nN at hP
 refine aB ?_
 refine aG ?_
 refine aT hF hM hP (fun F x a w=>match x with | _=>Fr 129 [(6,.bool false)] a ∧ MemL w (Lr)) (fun z5 hP i7 hF hM=>?_) ?_
 ·refine aG ?_
  refine aD ?_
  refine aA hF (aH hF rfl rfl) rfl rfl rfl fun a hF=>?_
  refine aI (aB ?_)
  refine aX ?_
  refine bU hF hM hP (fun F x a w=>match x with | c3=>Fr 129 [(9,.int .i64 c3),(2,.bool x2),(3,.pointer (some ⟨c0,0,none⟩)),(4,.pointer (some ⟨c1,0,none⟩)),(6,.bool false)] a ∧ MemL w (pt c1 (RMark.enc (RMark.mk x1.at_ x1.next x1.done s9 s11 s13 s17)) 60 :: pt c0 (RState.enc (RState.mk x0.regs x0.stack s1 s3 s7 x0.at_ x0.steps x0.done)) 54 :: Lr)) (fun hF hM=>⟨hF.to ⟨rfl,rfl,rfl,rfl,rfl,trivial⟩,hM⟩) ?_
  rintro c3 a w c10 hP d9 ⟨hF,hM⟩
  replace hP:Sh.iV x0 x1 x2 c3 = _:=hP
  unfold Sh.iV at hP
  refine aG ?_
  refine aG ?_
  refine aD ?_
  refine aA hF (aF hF rfl rfl) rfl rfl rfl fun a hF=>?_
  refine aA hF (aC (off':=5) qU60 rfl in58 rfl hF rfl rfl rfl) rfl rfl rfl fun a hF=>?_
  refine aA hF (aJ qA58 hF rfl rfl (hM.cell (i:=0) rfl (RMark.g_pieces _))) rfl rfl rfl fun a hF=>?_
  refine aA hF (cY (f15 _ (hsub _ (dropM hM 2))) q16.len qU58 hF rfl rfl) rfl rfl rfl fun a hF=>?_
  refine aA hF (cO hF rfl rfl rfl) rfl rfl rfl fun a hF=>?_
  refine aI (aB ?_)
  refine aS hF (c:=.tmp 65) rfl (fun d1=>?_) (fun d1=>?_)
  ·have hP:=Fx.cT d1 hP
   refine aW (aB ?_)
   refine aG ?_
   refine aX ?_
   refine aG ?_
   refine aD ?_
   refine aA hF (aC (off':=5) qU60 rfl in58 rfl hF rfl rfl rfl) rfl rfl rfl fun a hF=>?_
   refine aA hF (aJ qA58 hF rfl rfl (hM.cell (i:=0) rfl (RMark.g_pieces _))) rfl rfl rfl fun a hF=>?_
   refine aA hF (aF hF rfl rfl) rfl rfl rfl fun a hF=>?_
   obtain ⟨u6,g8,hP⟩:=bind_some hP
   have j5:=aM g8
   obtain ⟨n5,k7,l3⟩:=Each.getr q16 j5.2
   have k1:=Each.bd q16 (bL g8)
   obtain ⟨t0,t1,rfl,m3,m4⟩:=l3
   refine aA hF (aY (sz:=4) (f15 _ (hsub _ (dropM hM 2))) qU58 in156 rfl hF rfl rfl rfl k1) rfl rfl rfl fun a hF=>?_
   refine aA hF (aR qA156 qS156 hF rfl rfl (RPiece.len _) (((f15 _ (hsub _ (dropM hM 2))).elemS k7))) rfl rfl rfl fun a hF=>?_
   refine aA hF (aF hF rfl rfl) rfl rfl rfl fun a hF=>?_
   obtain ⟨g3,m1,hP⟩:=bind_some hP
   refine aN hF rfl rfl rfl (aO (xs:=[.tmp 72,.tmp 73]) Tryz.call201 hF rfl rfl (kM m1 hM (Bf:=Bf) (fun w hM=>hsub _ (dropM hM 2)) m3 m4) fun v w hR=>?_)
   obtain ⟨m8,rfl,d7,hM⟩:=hR
   replace hM:MemL _ (pt c1 (RMark.enc (RMark.mk x1.at_ x1.next x1.done s9 s11 s13 s17)) 60 :: pt c0 (RState.enc (RState.mk x0.regs x0.stack s1 s3 s7 x0.at_ x0.steps x0.done)) 54 :: Lr):=hM
   intro a hF
   refine aA hF (aH hF rfl rfl) rfl rfl rfl fun a hF=>?_
   refine aI (aB ?_)
   refine aG ?_
   refine aD ?_
   refine aA hF (aC (off':=460) qU54 rfl in23 rfl hF rfl rfl rfl) rfl rfl rfl fun a hF=>?_
   refine aA hF (aJ qA23 hF rfl rfl (hM.cell (i:=1) rfl (RState.g_ctx _))) rfl rfl rfl fun a hF=>?_
   refine aA hF (aH hF rfl rfl) rfl rfl rfl fun a hF=>?_
   refine aI (aB ?_)
   refine aG ?_
   refine aG ?_
   refine bR mixed (by kernel_rfl) hM [0,1] 2 rfl fun hch=>?_
   refine aK hF hch 0 rfl (by kernel_rfl) rfl rfl rfl (fun w hM=>(aC (off':=5) qU60 rfl in58 rfl hF rfl rfl rfl)) fun a hF=>?_
   refine aK hF hch 1 rfl (by kernel_rfl) rfl rfl rfl (fun w hM=>(aJ qA58 hF rfl rfl (hM.cell (i:=0) rfl (RMark.g_pieces _)))) fun a hF=>?_
   refine aK hF hch 2 rfl (by kernel_rfl) rfl rfl rfl (fun w hM=>(aF hF rfl rfl)) fun a hF=>?_
   obtain ⟨u7,g9,hP⟩:=bind_some hP
   have j6:=aM g9
   obtain ⟨n6,k8,l4⟩:=Each.getr q16 j6.2
   have k2:=Each.bd q16 (bL g9)
   obtain ⟨t2,t3,rfl,p0,p1⟩:=l4
   refine aK hF hch 3 rfl (by kernel_rfl) rfl rfl rfl (fun w hM=>(aY (sz:=4) (f15 _ (hsub _ (dropM hM 2))) qU58 in156 rfl hF rfl rfl rfl k2)) fun a hF=>?_
   refine aK hF hch 4 rfl (by kernel_rfl) rfl rfl rfl (fun w hM=>(aC qU156 rfl in3 rfl hF rfl rfl rfl)) fun a hF=>?_
   refine aK hF hch 5 rfl (by kernel_rfl) rfl rfl rfl (fun w hM=>(aJ qA3 hF rfl rfl ((((f15 _ (hsub _ (dropM hM 2))).elemS k8)).get 0 (RPiece.g_table _)))) fun a hF=>?_
   refine aK hF hch 6 rfl (by kernel_rfl) rfl rfl rfl (fun w hM=>(aC (off':=461) qU54 rfl in28 rfl hF rfl rfl rfl)) fun a hF=>?_
   refine aK hF hch 7 rfl (by kernel_rfl) rfl rfl rfl (fun w hM=>(aJ qA28 hF rfl rfl (hM.cell (i:=1) rfl (RState.g_tables _)))) fun a hF=>?_
   refine aK hF hch 8 rfl (by kernel_rfl) rfl rfl rfl (fun w hM=>(cY (f5 _ (hsub _ (dropM hM 2))) q6.len qU28 hF rfl rfl)) fun a hF=>?_
   refine aK hF hch 9 rfl (by kernel_rfl) rfl rfl rfl (fun w hM=>(iR hF rfl rfl rfl)) fun a hF=>?_
   refine bY hch (by kernel_rfl) fun w hM=>?_
   refine aB ?_
   refine aS hF (c:=.tmp 86) rfl (fun d2=>?_) (fun d2=>?_)
   ·have hP:=Fx.cT d2 hP
    refine aG ?_
    refine aD ?_
    refine aA hF (aH hF rfl rfl) rfl rfl rfl fun a hF=>?_
    refine aI (aB ?_)
    refine c_ret ?_
    have hP:=Option.some.inj hP
    subst hP
    have hP:=d9 _ rfl
    subst hP
    have hP:=cX i7
    subst hP
    refine bE qR136 hF rfl ?_
    exact ⟨rfl,selM hM [] 2 rfl⟩
   have hP:=Fx.cF d2 hP
   refine aW (aB ?_)
   refine aG ?_
   refine aT hF hM hP (fun F x a w=>match x with | g1=>∃ (g0:SV),LIn Bf g0 g1 ∧ Fr 129 [(11,(g0).v),(10,(m8).v),(2,.bool x2),(3,.pointer (some ⟨c0,0,none⟩)),(4,.pointer (some ⟨c1,0,none⟩)),(6,.bool false),(9,.int .i64 c3)] a ∧ MemL w (pt c1 (RMark.enc (RMark.mk x1.at_ x1.next x1.done s9 s11 s13 s17)) 60 :: pt c0 (RState.enc (RState.mk x0.regs x0.stack s1 s3 s7 x0.at_ x0.steps x0.done)) 54 :: Lr)) (fun z6 hP p8 hF hM=>?_) ?_
   ·refine aG ?_
    refine aD ?_
    refine aA hF (aC (off':=5) qU60 rfl in58 rfl hF rfl rfl rfl) rfl rfl rfl fun a hF=>?_
    refine aA hF (aJ qA58 hF rfl rfl (hM.cell (i:=0) rfl (RMark.g_pieces _))) rfl rfl rfl fun a hF=>?_
    refine aA hF (aF hF rfl rfl) rfl rfl rfl fun a hF=>?_
    obtain ⟨u8,i0,hP⟩:=bind_some hP
    have j7:=aM i0
    obtain ⟨n7,k9,l5⟩:=Each.getr q16 j7.2
    have k3:=Each.bd q16 (bL i0)
    obtain ⟨t4,t5,rfl,p2,p3⟩:=l5
    refine aA hF (aY (sz:=4) (f15 _ (hsub _ (dropM hM 2))) qU58 in156 rfl hF rfl rfl rfl k3) rfl rfl rfl fun a hF=>?_
    refine aA hF (aC qU156 rfl in3 rfl hF rfl rfl rfl) rfl rfl rfl fun a hF=>?_
    refine aA hF (aJ qA3 hF rfl rfl ((((f15 _ (hsub _ (dropM hM 2))).elemS k9)).get 0 (RPiece.g_table _))) rfl rfl rfl fun a hF=>?_
    refine aA hF (iR hF rfl rfl rfl) rfl rfl rfl fun a hF=>?_
    refine aI (aB ?_)
    refine aS hF (c:=.tmp 93) rfl (fun d3=>?_) (fun d3=>?_)
    ·have hP:=Fx.cT d3 hP
     refine bR mixed (by kernel_rfl) hM [0,1] 2 rfl fun hch=>?_
     refine aK hF hch 0 rfl (by kernel_rfl) rfl rfl rfl (fun w hM=>(aC (off':=461) qU54 rfl in28 rfl hF rfl rfl rfl)) fun a hF=>?_
     refine aK hF hch 1 rfl (by kernel_rfl) rfl rfl rfl (fun w hM=>(aJ qA28 hF rfl rfl (hM.cell (i:=1) rfl (RState.g_tables _)))) fun a hF=>?_
     refine aK hF hch 2 rfl (by kernel_rfl) rfl rfl rfl (fun w hM=>(aC (off':=5) qU60 rfl in58 rfl hF rfl rfl rfl)) fun a hF=>?_
     refine aK hF hch 3 rfl (by kernel_rfl) rfl rfl rfl (fun w hM=>(aJ qA58 hF rfl rfl (hM.cell (i:=0) rfl (RMark.g_pieces _)))) fun a hF=>?_
     refine aK hF hch 4 rfl (by kernel_rfl) rfl rfl rfl (fun w hM=>(aF hF rfl rfl)) fun a hF=>?_
     obtain ⟨u9,i1,hP⟩:=bind_some hP
     have j8:=aM i1
     obtain ⟨n8,l0,l6⟩:=Each.getr q16 j8.2
     have k4:=Each.bd q16 (bL i1)
     obtain ⟨t6,t7,rfl,p4,p5⟩:=l6
     refine aK hF hch 5 rfl (by kernel_rfl) rfl rfl rfl (fun w hM=>(aY (sz:=4) (f15 _ (hsub _ (dropM hM 2))) qU58 in156 rfl hF rfl rfl rfl k4)) fun a hF=>?_
     refine aK hF hch 6 rfl (by kernel_rfl) rfl rfl rfl (fun w hM=>(aC qU156 rfl in3 rfl hF rfl rfl rfl)) fun a hF=>?_
     refine aK hF hch 7 rfl (by kernel_rfl) rfl rfl rfl (fun w hM=>(aJ qA3 hF rfl rfl ((((f15 _ (hsub _ (dropM hM 2))).elemS l0)).get 0 (RPiece.g_table _)))) fun a hF=>?_
     obtain ⟨m9,i2,hP⟩:=bind_some hP
     have j9:=aM i2
     obtain ⟨m2,l1,l7⟩:=Each.getr q6 j9.2
     have k5:=Each.bd q6 (bL i2)
     refine aK hF hch 8 rfl (by kernel_rfl) rfl rfl rfl (fun w hM=>(aY (sz:=1) (f5 _ (hsub _ (dropM hM 2))) qU28 in23 rfl hF rfl rfl rfl k5)) fun a hF=>?_
     refine aK hF hch 9 rfl (by kernel_rfl) rfl rfl rfl (fun w hM=>(aJ qA23 hF rfl rfl ((((f5 _ (hsub _ (dropM hM 2))).elemS l1)).get 0 rfl))) fun a hF=>?_
     refine aK hF hch 10 rfl (by kernel_rfl) rfl rfl rfl (fun w hM=>(aH hF rfl rfl)) fun a hF=>?_
     refine bY hch (by kernel_rfl) fun w hM=>?_
     refine aB ?_
     have hP:=Option.some.inj hP
     subst hP
     exact ⟨m9,rfl,m2,l7,hF.to ⟨rfl,rfl,rfl,rfl,rfl,rfl,rfl,trivial⟩,hM⟩
    have hP:=Fx.cF d3 hP
    refine aW (aB ?_)
    have hP:=Option.some.inj hP
    subst hP
    exact ⟨x0.ctx,rfl,s1,f2,hF.to ⟨rfl,rfl,rfl,rfl,rfl,rfl,rfl,trivial⟩,hM⟩
   rintro g1 a w hP ⟨g0,d8,hF,hM⟩
   replace hP:Sh.nO x1 c3 g3 g1 = _:=hP
   unfold Sh.nO at hP
   refine aB ?_
   refine aG ?_
   refine aD ?_
   refine aA hF (aC (off':=5) qU60 rfl in58 rfl hF rfl rfl rfl) rfl rfl rfl fun a hF=>?_
   refine aA hF (aJ qA58 hF rfl rfl (hM.cell (i:=0) rfl (RMark.g_pieces _))) rfl rfl rfl fun a hF=>?_
   refine aA hF (aF hF rfl rfl) rfl rfl rfl fun a hF=>?_
   obtain ⟨z0,i3,hP⟩:=bind_some hP
   have k0:=aM i3
   obtain ⟨n9,l2,l8⟩:=Each.getr q16 k0.2
   have k6:=Each.bd q16 (bL i3)
   obtain ⟨t8,t9,rfl,p6,p7⟩:=l8
   refine aA hF (aY (sz:=4) (f15 _ (hsub _ (dropM hM 2))) qU58 in156 rfl hF rfl rfl rfl k6) rfl rfl rfl fun a hF=>?_
   refine aA hF (aC qU156 rfl in3 rfl hF rfl rfl rfl) rfl rfl rfl fun a hF=>?_
   refine aA hF (aJ qA3 hF rfl rfl ((((f15 _ (hsub _ (dropM hM 2))).elemS l2)).get 1 (RPiece.g_from_ _))) rfl rfl rfl fun a hF=>?_
   refine aA hF (aH hF rfl rfl) rfl rfl rfl fun a hF=>?_
   refine aI (aB ?_)
   refine aG ?_
   refine aT hF hM hP (fun F x a w=>match x with | g2=>Fr 129 [(128,.bool g2),(2,.bool x2),(3,.pointer (some ⟨c0,0,none⟩)),(4,.pointer (some ⟨c1,0,none⟩)),(6,.bool false),(9,.int .i64 c3)] a ∧ MemL w (pt c1 (RMark.enc (RMark.mk x1.at_ x1.next x1.done s9 s11 s13 s17)) 60 :: pt c0 (RState.enc (RState.mk x0.regs x0.stack s1 s3 s7 x0.at_ x0.steps x0.done)) 54 :: Lr)) (fun z7 hP p9 hF hM=>?_) ?_
   ·refine aD ?_
    refine aA hF (aF hF rfl rfl) rfl rfl rfl fun a hF=>?_
    refine aA hF (aF hF rfl rfl) rfl rfl rfl fun a hF=>?_
    refine aA hF (bQ (d7 _ (hsub _ (dropM hM 2))) qU23 hF rfl rfl) rfl rfl rfl fun a hF=>?_
    refine aA hF (cA hF rfl rfl rfl) rfl rfl rfl fun a hF=>?_
    refine aA hF (aF hF rfl rfl) rfl rfl rfl fun a hF=>?_
    refine aA hF (bQ (d8 _ (hsub _ (dropM hM 2))) qU23 hF rfl rfl) rfl rfl rfl fun a hF=>?_
    refine aA hF (eN hF rfl rfl rfl) rfl rfl rfl fun a hF=>?_
    refine aA hF (aF hF rfl rfl) rfl rfl rfl fun a hF=>?_
    refine bD 117 hF rfl (fun c2=>?_) (fun c2=>?_)
    ·have hP:=Fx.cT c2 hP
     refine aE hF rfl rfl rfl c2 rfl rfl fun a hF=>?_
     refine aE hF rfl rfl rfl c2 rfl rfl fun a hF=>?_
     refine aE hF rfl rfl rfl c2 rfl rfl fun a hF=>?_
     refine aE hF rfl rfl rfl c2 rfl rfl fun a hF=>?_
     refine aE hF rfl rfl rfl c2 rfl rfl fun a hF=>?_
     refine aE hF rfl rfl rfl c2 rfl rfl fun a hF=>?_
     refine aE hF rfl rfl rfl c2 rfl rfl fun a hF=>?_
     refine aE hF rfl rfl rfl c2 rfl rfl fun a hF=>?_
     refine aE hF rfl rfl rfl c2 rfl rfl fun a hF=>?_
     refine aE hF rfl rfl rfl c2 rfl rfl fun a hF=>?_
     refine aA hF (aQ hF rfl rfl c2 rfl) rfl rfl rfl fun a hF=>?_
     refine aI (aB ?_)
     have hP:=Option.some.inj hP
     subst hP
     exact ⟨true,rfl,hF.to ⟨rfl,rfl,rfl,rfl,rfl,rfl,trivial⟩,hM⟩
    have hP:=Fx.cF c2 hP
    refine aL hF rfl rfl rfl c2 (aF hF rfl rfl) rfl rfl fun a hF=>?_
    refine aL hF rfl rfl rfl c2 (aF hF rfl rfl) rfl rfl fun a hF=>?_
    refine aL hF rfl rfl rfl c2 (aF hF rfl rfl) rfl rfl fun a hF=>?_
    refine aL hF rfl rfl rfl c2 (aF hF rfl rfl) rfl rfl fun a hF=>?_
    refine aL hF rfl rfl rfl c2 (bQ (d7 _ (hsub _ (dropM hM 2))) qU23 hF rfl rfl) rfl rfl fun a hF=>?_
    refine aL hF rfl rfl rfl c2 (cA hF rfl rfl rfl) rfl rfl fun a hF=>?_
    obtain ⟨j0,i4,hP⟩:=bind_some hP
    refine aL hF rfl rfl rfl c2 (gM (d8 _ (hsub _ (dropM hM 2))) i4 qU23 in5 rfl hF rfl rfl (.inr ⟨_,_,rfl,rfl⟩) (.inr ⟨_,_,rfl,rfl⟩)) rfl rfl fun a hF=>?_
    refine aL hF rfl rfl rfl c2 (aF hF rfl rfl) rfl rfl fun a hF=>?_
    obtain ⟨n2,hP,m5⟩:=dF hP
    refine dX hF rfl rfl rfl c2 rfl rfl (aO (xs:=[.tmp 124,.tmp 125]) Tryz.call170 hF rfl rfl (R:=fun v w=>∃ x,n2 = .inl x ∧ match x with | c6=>v = .bool c6 ∧ MemL w (pt c1 (RMark.enc (RMark.mk x1.at_ x1.next x1.done s9 s11 s13 s17)) 60 :: pt c0 (RState.enc (RState.mk x0.regs x0.stack s1 s3 s7 x0.at_ x0.steps x0.done)) 54 :: Lr)) ?_ fun v w hR=>?_)
    ·refine aP Tryz.func170 rfl Tryz.ntmps170 rfl fun a hF=>?_
     refine aG ?_
     refine aD ?_
     refine aA hF (aH hF rfl rfl) rfl rfl rfl fun a hF=>?_
     refine aI (aB ?_)
     refine aG ?_
     refine aD ?_
     refine aA hF (aF hF rfl rfl) rfl rfl rfl fun a hF=>?_
     refine aA hF (hH ((LIn.slc d8 i4 rfl) _ (hsub _ (dropM hM 2))) qU23 qU5 qU9 hF rfl rfl) rfl rfl rfl fun a hF=>?_
     refine aA hF (aF hF rfl rfl) rfl rfl rfl fun a hF=>?_
     refine aA hF (hH (d7 _ (hsub _ (dropM hM 2))) qU23 qU5 qU9 hF rfl rfl) rfl rfl rfl fun a hF=>?_
     refine aA hF (sU (i:=j0) (j:=g3) hF rfl rfl rfl) rfl rfl rfl fun a hF=>?_
     refine aA hF (aH hF rfl rfl) rfl rfl rfl fun a hF=>?_
     refine aI (aB ?_)
     refine c_ret ?_
     have hP:=Option.some.inj hP
     subst hP
     refine bE Tryz.results170 hF rfl ?_
     exact ⟨(decide (j0 = g3)),rfl,rfl,hM⟩
    obtain ⟨c6,rfl,rfl,hM⟩:=hR
    replace hP:Sh.nL c6 = _:=m5
    unfold Sh.nL at hP
    intro a hF
    refine aL hF rfl rfl rfl c2 (dE hF rfl rfl) rfl rfl fun a hF=>?_
    refine aA hF (aV hF rfl rfl c2 rfl) rfl rfl rfl fun a hF=>?_
    refine aI (aB ?_)
    have hP:=Option.some.inj hP
    subst hP
    exact ⟨(!c6),rfl,hF.to ⟨rfl,rfl,rfl,rfl,rfl,rfl,trivial⟩,hM⟩
   rintro g2 a w hP ⟨hF,hM⟩
   replace hP:Sh.nP c3 g2 = _:=hP
   unfold Sh.nP at hP
   refine aB ?_
   refine aS hF (c:=.tmp 128) rfl (fun d4=>?_) (fun d4=>?_)
   ·have hP:=Fx.cT d4 hP
    refine aG ?_
    refine aD ?_
    refine aA hF (aH hF rfl rfl) rfl rfl rfl fun a hF=>?_
    refine aI (aB ?_)
    refine c_ret ?_
    have hP:=Option.some.inj hP
    subst hP
    have hP:=d9 _ rfl
    subst hP
    have hP:=cX i7
    subst hP
    refine bE qR136 hF rfl ?_
    exact ⟨rfl,selM hM [] 2 rfl⟩
   have hP:=Fx.cF d4 hP
   refine aW (bM (aB ?_))
   refine aD ?_
   refine aA hF (aF hF rfl rfl) rfl rfl rfl fun a hF=>?_
   refine aA hF (cA hF rfl rfl rfl) rfl rfl rfl fun a hF=>?_
   refine aA hF (aH hF rfl rfl) rfl rfl rfl fun a hF=>?_
   refine aI (aB ?_)
   have hP:=Option.some.inj hP
   subst hP
   exact ⟨(IntKind.i64.wrap (c3 + 1)),rfl,hF.to ⟨rfl,rfl,rfl,rfl,rfl,trivial⟩,hM⟩
  have hP:=Fx.cF d1 hP
  refine bZ (bC (bC (cR ?_)))
  refine aB ?_
  have hP:=Option.some.inj hP
  subst hP
  have hP:=d9 _ rfl
  subst hP
  exact ⟨(),rfl,hF.to ⟨rfl,trivial⟩,selM hM [] 2 rfl⟩
 rintro ⟨⟩ a w hP ⟨hF,hM⟩
 replace hP:Sh.qL = _:=hP
 unfold Sh.qL at hP
 refine aB ?_
 refine aG ?_
 refine aD ?_
 refine aA hF (aH hF rfl rfl) rfl rfl rfl fun a hF=>?_
 refine aI (aB ?_)
 refine c_ret ?_
 have hP:=Option.some.inj hP
 subst hP
 refine bE qR136 hF rfl ?_
 exact ⟨rfl,hM⟩
set_option maxHeartbeats 4000000 in
theorem pK {x0:QState} {x1:QMark} {s1:SV} {s3:SV} {hs4:List SV} {s7:SV} {s9:SV} {s11:SV} {s13:SV} {hs14:List RPiece} {s17:SV} {out:(QState × Int)} {w0:World} {Bf:World → Prop} {Lr:List Res} (hP:Sh.kE x0 x1 = some out) (hM:MemL w0 (Lr)) (hsub:∀ w,MemL w Lr → Bf w) (f2:LIn Bf s1 x0.ctx) (f5:LIn Bf s3 hs4) (q6:Each (LIn (X:=UInt8) Bf) hs4 x0.tables) (f8:LIn Bf s7 x0.sent) (f10:LIn Bf s9 x1.regs) (f12:LIn Bf s11 x1.slots) (f15:LIn Bf s13 hs14) (q16:Each (QPieceIn Bf) hs14 x1.pieces) (f18:LIn Bf s17 x1.sent):Calls Tryz.prog 61 #[.agg (RState.enc (RState.mk x0.regs x0.stack s1 s3 s7 x0.at_ x0.steps x0.done)).toArray,.agg (RMark.enc (RMark.mk x1.at_ x1.next x1.done s9 s11 s13 s17)).toArray] w0 (Ret fun v w'=>∃ (s90:SV) (s92:SV) (hs93:List SV) (r95:Res) (s97:SV),v = .tuple #[.agg (RState.enc (RState.mk out.1.regs out.1.stack s90 s92 s97 out.1.at_ out.1.steps out.1.done)).toArray,.int .i64 out.2] ∧ Each (LIn (X:=UInt8) r95.holds') hs93 out.1.tables ∧ MemL w' (rowL 0 s90 5 out.1.ctx :: rowL 0 s92 23 hs93 :: r95 :: rowL 0 s97 3 out.1.sent :: Lr)):=by
 unfold Sh.kE at hP
 refine aP (vs:=[.agg (RState.enc (RState.mk x0.regs x0.stack s1 s3 s7 x0.at_ x0.steps x0.done)).toArray,.agg (RMark.enc (RMark.mk x1.at_ x1.next x1.done s9 s11 s13 s17)).toArray]) Tryz.func61 rfl Tryz.ntmps61 rfl fun a hF=>?_
 refine aG ?_
 refine aD ?_
 refine aN hF rfl rfl rfl (cW hF rfl rfl rfl fun c1 w j6 d9=>?_)
 have hM:=hM.plus d9
 intro a hF
 refine aN hF rfl rfl rfl (cW hF rfl rfl rfl fun c2 w j7 g0=>?_)
 have hM:=hM.plus g0
 intro a hF
 refine aN hF rfl rfl rfl (bS z54 (zs:=RState.zero.enc) rfl rfl fun c3 w j8 g1=>?_)
 have hM:=hM.plus g1
 replace hM:MemL _ (pt c3 (RState.enc (RState.mk (⟨List.replicate 11 LVal.zero,rfl⟩ : Vec LVal 11) (⟨List.replicate 32 LSlot.zero,rfl⟩ : Vec LSlot 32) SV.nil SV.nil SV.nil 0 0 false)) 54 :: pt c2 (RMark.enc (RMark.mk x1.at_ x1.next x1.done s9 s11 s13 s17)) 60 :: pt c1 (RState.enc (RState.mk x0.regs x0.stack s1 s3 s7 x0.at_ x0.steps x0.done)) 54 :: Lr):=hM
 intro a hF
 refine aA hF (aH hF rfl rfl) rfl rfl rfl fun a hF=>?_
 refine aI (aB ?_)
 refine aG ?_
 refine aG ?_
 refine aD ?_
 refine aA hF (aR qA54 qS54 hF rfl rfl (RState.len _) (hM.cells (i:=2) rfl (bB (RState.len _)))) rfl rfl rfl fun a hF=>?_
 obtain ⟨k2,i7,hP⟩:=bind_some hP
 refine aN hF rfl rfl rfl (aO (xs:=[.tmp 7]) Tryz.call87 hF rfl rfl (eS i7 hM (Bf:=Bf) (fun w hM=>hsub _ (dropM hM 3)) f2 f5 q6 f8) fun v w hR=>?_)
 obtain ⟨rfl,hM⟩:=hR
 replace hM:MemL _ (pt c3 (RState.enc (RState.mk (⟨List.replicate 11 LVal.zero,rfl⟩ : Vec LVal 11) (⟨List.replicate 32 LSlot.zero,rfl⟩ : Vec LSlot 32) SV.nil SV.nil SV.nil 0 0 false)) 54 :: pt c2 (RMark.enc (RMark.mk x1.at_ x1.next x1.done s9 s11 s13 s17)) 60 :: pt c1 (RState.enc (RState.mk x0.regs x0.stack s1 s3 s7 x0.at_ x0.steps x0.done)) 54 :: Lr):=hM
 intro a hF
 refine aA hF (dE hF rfl rfl) rfl rfl rfl fun a hF=>?_
 refine aI (aB ?_)
 refine aS hF (c:=.tmp 9) rfl (fun d4=>?_) (fun d4=>?_)
 ·have hP:=Fx.cT d4 hP
  refine aG ?_
  refine aD ?_
  refine aA hF (cL z54 qU54 pl54 hF (parts:=[]) rfl rfl cV) rfl rfl rfl fun a hF=>?_
  refine bK rfl rfl (bA (vs:=_) qS54 (hM.obj (i:=0) rfl) hF rfl rfl rfl rfl (RState.len _) (RState.one _) (by first | (rw [RState.len,RState.len]; decide) | (rw [RState.len]; decide)) (bG ((RState.len _).trans (RState.len _).symm)) fun w g7=>?_)
  have hM:=hM.chg g7 (i:=0) rfl
  replace hM:MemL _ (pt c3 (RState.enc (RState.mk (⟨List.replicate 11 LVal.zero,rfl⟩ : Vec LVal 11) (⟨List.replicate 32 LSlot.zero,rfl⟩ : Vec LSlot 32) SV.nil SV.nil SV.nil 0 0 false)) 54 :: pt c2 (RMark.enc (RMark.mk x1.at_ x1.next x1.done s9 s11 s13 s17)) 60 :: pt c1 (RState.enc (RState.mk x0.regs x0.stack s1 s3 s7 x0.at_ x0.steps x0.done)) 54 :: Lr):=hM
  refine aA hF (aH hF rfl rfl) rfl rfl rfl fun a hF=>?_
  refine aI (aB ?_)
  refine c_ret ?_
  have hM:=hM.rowNil (X:=UInt8) 0 5
  obtain ⟨g4,hM⟩:=voidM hM
  have j1:Each (LIn (X:=UInt8) g4.holds') ([]:List SV) ([]:List (List UInt8)):=Each.nil
  have hM:=hM.rowNil (X:=SV) 0 23
  have hM:=hM.rowNil (X:=Int) 0 3
  have hP:=Option.some.inj hP
  subst hP
  refine dO (rs:=[.cell 4 54,.tmp 5]) qR61 hF (cC hF rfl qA54 qS54 (RState.len _) (hM.cells (i:=4) rfl (bB (RState.len _))) (cM hF rfl cJ)) rfl ?_
  exact ⟨SV.nil,SV.nil,[],g4,SV.nil,rfl,j1,selM hM [3,1,2,0] 7 rfl⟩
 have hP:=Fx.cF d4 hP
 refine aW (aB ?_)
 refine aG ?_
 refine aG ?_
 refine aD ?_
 refine aA hF (aR qA60 qS60 hF rfl rfl (RMark.len _) (hM.cells (i:=1) rfl (bB (RMark.len _)))) rfl rfl rfl fun a hF=>?_
 obtain ⟨k3,i8,hP⟩:=bind_some hP
 refine aN hF rfl rfl rfl (aO (xs:=[.tmp 11]) Tryz.call135 hF rfl rfl (gB i8 hM (Bf:=Bf) (fun w hM=>hsub _ (dropM hM 3)) f10 f12 f15 q16 f18) fun v w hR=>?_)
 obtain ⟨rfl,hM⟩:=hR
 replace hM:MemL _ (pt c3 (RState.enc (RState.mk (⟨List.replicate 11 LVal.zero,rfl⟩ : Vec LVal 11) (⟨List.replicate 32 LSlot.zero,rfl⟩ : Vec LSlot 32) SV.nil SV.nil SV.nil 0 0 false)) 54 :: pt c2 (RMark.enc (RMark.mk x1.at_ x1.next x1.done s9 s11 s13 s17)) 60 :: pt c1 (RState.enc (RState.mk x0.regs x0.stack s1 s3 s7 x0.at_ x0.steps x0.done)) 54 :: Lr):=hM
 intro a hF
 refine aA hF (dE hF rfl rfl) rfl rfl rfl fun a hF=>?_
 refine aI (aB ?_)
 refine aS hF (c:=.tmp 13) rfl (fun d5=>?_) (fun d5=>?_)
 ·have hP:=Fx.cT d5 hP
  refine aG ?_
  refine aD ?_
  refine aA hF (cL z54 qU54 pl54 hF (parts:=[]) rfl rfl cV) rfl rfl rfl fun a hF=>?_
  refine bK rfl rfl (bA (vs:=_) qS54 (hM.obj (i:=0) rfl) hF rfl rfl rfl rfl (RState.len _) (RState.one _) (by first | (rw [RState.len,RState.len]; decide) | (rw [RState.len]; decide)) (bG ((RState.len _).trans (RState.len _).symm)) fun w g8=>?_)
  have hM:=hM.chg g8 (i:=0) rfl
  replace hM:MemL _ (pt c3 (RState.enc (RState.mk (⟨List.replicate 11 LVal.zero,rfl⟩ : Vec LVal 11) (⟨List.replicate 32 LSlot.zero,rfl⟩ : Vec LSlot 32) SV.nil SV.nil SV.nil 0 0 false)) 54 :: pt c2 (RMark.enc (RMark.mk x1.at_ x1.next x1.done s9 s11 s13 s17)) 60 :: pt c1 (RState.enc (RState.mk x0.regs x0.stack s1 s3 s7 x0.at_ x0.steps x0.done)) 54 :: Lr):=hM
  refine aA hF (aH hF rfl rfl) rfl rfl rfl fun a hF=>?_
  refine aI (aB ?_)
  refine c_ret ?_
  have hM:=hM.rowNil (X:=UInt8) 0 5
  obtain ⟨g5,hM⟩:=voidM hM
  have j2:Each (LIn (X:=UInt8) g5.holds') ([]:List SV) ([]:List (List UInt8)):=Each.nil
  have hM:=hM.rowNil (X:=SV) 0 23
  have hM:=hM.rowNil (X:=Int) 0 3
  have hP:=Option.some.inj hP
  subst hP
  refine dO (rs:=[.cell 4 54,.tmp 5]) qR61 hF (cC hF rfl qA54 qS54 (RState.len _) (hM.cells (i:=4) rfl (bB (RState.len _))) (cM hF rfl cJ)) rfl ?_
  exact ⟨SV.nil,SV.nil,[],g5,SV.nil,rfl,j2,selM hM [3,1,2,0] 7 rfl⟩
 have hP:=Fx.cF d5 hP
 refine aW (aB ?_)
 refine aG ?_
 refine aG ?_
 refine aT hF hM hP (fun F x a w=>match x with | d7=>Fr 56 [(34,.bool d7),(2,.pointer (some ⟨c1,0,none⟩)),(3,.pointer (some ⟨c2,0,none⟩)),(4,.pointer (some ⟨c3,0,none⟩)),(5,.int .i64 0)] a ∧ MemL w (pt c3 (RState.enc (RState.mk (⟨List.replicate 11 LVal.zero,rfl⟩ : Vec LVal 11) (⟨List.replicate 32 LSlot.zero,rfl⟩ : Vec LSlot 32) SV.nil SV.nil SV.nil 0 0 false)) 54 :: pt c2 (RMark.enc (RMark.mk x1.at_ x1.next x1.done s9 s11 s13 s17)) 60 :: pt c1 (RState.enc (RState.mk x0.regs x0.stack s1 s3 s7 x0.at_ x0.steps x0.done)) 54 :: Lr)) (fun k1 hP k0 hF hM=>?_) ?_
 ·refine aD ?_
  refine aA hF (aC (off':=465) qU54 rfl in4 rfl hF rfl rfl rfl) rfl rfl rfl fun a hF=>?_
  refine aA hF (aJ qA4 hF rfl rfl (hM.cell (i:=2) rfl (RState.g_done _))) rfl rfl rfl fun a hF=>?_
  refine aA hF (aF hF rfl rfl) rfl rfl rfl fun a hF=>?_
  refine bD 17 hF rfl (fun c4=>?_) (fun c4=>?_)
  ·have hP:=Fx.cT c4 hP
   refine aE hF rfl rfl rfl c4 rfl rfl fun a hF=>?_
   refine aE hF rfl rfl rfl c4 rfl rfl fun a hF=>?_
   refine aE hF rfl rfl rfl c4 rfl rfl fun a hF=>?_
   refine aE hF rfl rfl rfl c4 rfl rfl fun a hF=>?_
   refine aE hF rfl rfl rfl c4 rfl rfl fun a hF=>?_
   refine aA hF (aQ hF rfl rfl c4 rfl) rfl rfl rfl fun a hF=>?_
   refine aA hF (aF hF rfl rfl) rfl rfl rfl fun a hF=>?_
   refine aE hF rfl rfl rfl rfl rfl rfl fun a hF=>?_
   refine aE hF rfl rfl rfl rfl rfl rfl fun a hF=>?_
   refine aE hF rfl rfl rfl rfl rfl rfl fun a hF=>?_
   refine aA hF (aQ hF rfl rfl rfl rfl) rfl rfl rfl fun a hF=>?_
   refine aA hF (aF hF rfl rfl) rfl rfl rfl fun a hF=>?_
   refine aE hF rfl rfl rfl rfl rfl rfl fun a hF=>?_
   refine aE hF rfl rfl rfl rfl rfl rfl fun a hF=>?_
   refine aE hF rfl rfl rfl rfl rfl rfl fun a hF=>?_
   refine aE hF rfl rfl rfl rfl rfl rfl fun a hF=>?_
   refine aA hF (aQ hF rfl rfl rfl rfl) rfl rfl rfl fun a hF=>?_
   refine aI (aB ?_)
   have hP:=Option.some.inj hP
   subst hP
   exact ⟨true,rfl,hF.to ⟨rfl,rfl,rfl,rfl,rfl,trivial⟩,hM⟩
  have hP:=Fx.cF c4 hP
  refine aL hF rfl rfl rfl c4 (aC (off':=463) qU54 rfl in3 rfl hF rfl rfl rfl) rfl rfl fun a hF=>?_
  refine aL hF rfl rfl rfl c4 (aJ qA3 hF rfl rfl (hM.cell (i:=2) rfl (RState.g_at_ _))) rfl rfl fun a hF=>?_
  refine aL hF rfl rfl rfl c4 (aC (off':=0) qU60 rfl in3 rfl hF rfl rfl rfl) rfl rfl fun a hF=>?_
  refine aL hF rfl rfl rfl c4 (aJ qA3 hF rfl rfl (hM.cell (i:=1) rfl (RMark.g_at_ _))) rfl rfl fun a hF=>?_
  refine aL hF rfl rfl rfl c4 (dD hF rfl rfl rfl) rfl rfl fun a hF=>?_
  refine aA hF (aV hF rfl rfl c4 rfl) rfl rfl rfl fun a hF=>?_
  refine aA hF (aF hF rfl rfl) rfl rfl rfl fun a hF=>?_
  refine bD 24 hF rfl (fun c9=>?_) (fun c9=>?_)
  ·have hP:=Fx.cT c9 hP
   refine aE hF rfl rfl rfl c9 rfl rfl fun a hF=>?_
   refine aE hF rfl rfl rfl c9 rfl rfl fun a hF=>?_
   refine aE hF rfl rfl rfl c9 rfl rfl fun a hF=>?_
   refine aA hF (aQ hF rfl rfl c9 rfl) rfl rfl rfl fun a hF=>?_
   refine aA hF (aF hF rfl rfl) rfl rfl rfl fun a hF=>?_
   refine aE hF rfl rfl rfl rfl rfl rfl fun a hF=>?_
   refine aE hF rfl rfl rfl rfl rfl rfl fun a hF=>?_
   refine aE hF rfl rfl rfl rfl rfl rfl fun a hF=>?_
   refine aE hF rfl rfl rfl rfl rfl rfl fun a hF=>?_
   refine aA hF (aQ hF rfl rfl rfl rfl) rfl rfl rfl fun a hF=>?_
   refine aI (aB ?_)
   have hP:=Option.some.inj hP
   subst hP
   exact ⟨true,rfl,hF.to ⟨rfl,rfl,rfl,rfl,rfl,trivial⟩,hM⟩
  have hP:=Fx.cF c9 hP
  refine aL hF rfl rfl rfl c9 (aC (off':=464) qU54 rfl in3 rfl hF rfl rfl rfl) rfl rfl fun a hF=>?_
  refine aL hF rfl rfl rfl c9 (aJ qA3 hF rfl rfl (hM.cell (i:=2) rfl (RState.g_steps _))) rfl rfl fun a hF=>?_
  refine aL hF rfl rfl rfl c9 (cZ hF rfl rfl rfl) rfl rfl fun a hF=>?_
  refine aA hF (aV hF rfl rfl c9 rfl) rfl rfl rfl fun a hF=>?_
  refine aA hF (aF hF rfl rfl) rfl rfl rfl fun a hF=>?_
  refine bD 29 hF rfl (fun c7=>?_) (fun c7=>?_)
  ·have hP:=Fx.cT c7 hP
   refine aE hF rfl rfl rfl c7 rfl rfl fun a hF=>?_
   refine aE hF rfl rfl rfl c7 rfl rfl fun a hF=>?_
   refine aE hF rfl rfl rfl c7 rfl rfl fun a hF=>?_
   refine aE hF rfl rfl rfl c7 rfl rfl fun a hF=>?_
   refine aA hF (aQ hF rfl rfl c7 rfl) rfl rfl rfl fun a hF=>?_
   refine aI (aB ?_)
   have hP:=Option.some.inj hP
   subst hP
   exact ⟨true,rfl,hF.to ⟨rfl,rfl,rfl,rfl,rfl,trivial⟩,hM⟩
  have hP:=Fx.cF c7 hP
  refine aL hF rfl rfl rfl c7 (aR qA54 qS54 hF rfl rfl (RState.len _) (hM.cells (i:=2) rfl (bB (RState.len _)))) rfl rfl fun a hF=>?_
  refine aL hF rfl rfl rfl c7 (aR qA60 qS60 hF rfl rfl (RMark.len _) (hM.cells (i:=1) rfl (bB (RMark.len _)))) rfl rfl fun a hF=>?_
  obtain ⟨j5,i9,hP⟩:=bind_some hP
  refine dX hF rfl rfl rfl c7 rfl rfl (aO (xs:=[.tmp 30,.tmp 31,.const (.bool true)]) Tryz.call136 hF rfl rfl (kD i9 hM (Bf:=Bf) (fun w hM=>hsub _ (dropM hM 3)) f2 f5 q6 f8 f10 f12 f15 q16 f18) fun v w hR=>?_)
  obtain ⟨rfl,hM⟩:=hR
  replace hM:MemL _ (pt c3 (RState.enc (RState.mk (⟨List.replicate 11 LVal.zero,rfl⟩ : Vec LVal 11) (⟨List.replicate 32 LSlot.zero,rfl⟩ : Vec LSlot 32) SV.nil SV.nil SV.nil 0 0 false)) 54 :: pt c2 (RMark.enc (RMark.mk x1.at_ x1.next x1.done s9 s11 s13 s17)) 60 :: pt c1 (RState.enc (RState.mk x0.regs x0.stack s1 s3 s7 x0.at_ x0.steps x0.done)) 54 :: Lr):=hM
  intro a hF
  refine aL hF rfl rfl rfl c7 (dE hF rfl rfl) rfl rfl fun a hF=>?_
  refine aA hF (aV hF rfl rfl c7 rfl) rfl rfl rfl fun a hF=>?_
  refine aI (aB ?_)
  have hP:=Option.some.inj hP
  subst hP
  exact ⟨(!j5),rfl,hF.to ⟨rfl,rfl,rfl,rfl,rfl,trivial⟩,hM⟩
 rintro d7 a w hP ⟨hF,hM⟩
 replace hP:Sh.oH x0 x1 d7 = _:=hP
 unfold Sh.oH at hP
 refine aB ?_
 refine aS hF (c:=.tmp 34) rfl (fun d6=>?_) (fun d6=>?_)
 ·have hP:=Fx.cT d6 hP
  refine aG ?_
  refine aD ?_
  refine aA hF (cL z54 qU54 pl54 hF (parts:=[]) rfl rfl cV) rfl rfl rfl fun a hF=>?_
  refine bK rfl rfl (bA (vs:=_) qS54 (hM.obj (i:=0) rfl) hF rfl rfl rfl rfl (RState.len _) (RState.one _) (by first | (rw [RState.len,RState.len]; decide) | (rw [RState.len]; decide)) (bG ((RState.len _).trans (RState.len _).symm)) fun w g9=>?_)
  have hM:=hM.chg g9 (i:=0) rfl
  replace hM:MemL _ (pt c3 (RState.enc (RState.mk (⟨List.replicate 11 LVal.zero,rfl⟩ : Vec LVal 11) (⟨List.replicate 32 LSlot.zero,rfl⟩ : Vec LSlot 32) SV.nil SV.nil SV.nil 0 0 false)) 54 :: pt c2 (RMark.enc (RMark.mk x1.at_ x1.next x1.done s9 s11 s13 s17)) 60 :: pt c1 (RState.enc (RState.mk x0.regs x0.stack s1 s3 s7 x0.at_ x0.steps x0.done)) 54 :: Lr):=hM
  refine aA hF (aH hF rfl rfl) rfl rfl rfl fun a hF=>?_
  refine aI (aB ?_)
  refine c_ret ?_
  have hM:=hM.rowNil (X:=UInt8) 0 5
  obtain ⟨g6,hM⟩:=voidM hM
  have j3:Each (LIn (X:=UInt8) g6.holds') ([]:List SV) ([]:List (List UInt8)):=Each.nil
  have hM:=hM.rowNil (X:=SV) 0 23
  have hM:=hM.rowNil (X:=Int) 0 3
  have hP:=Option.some.inj hP
  subst hP
  refine dO (rs:=[.cell 4 54,.tmp 5]) qR61 hF (cC hF rfl qA54 qS54 (RState.len _) (hM.cells (i:=4) rfl (bB (RState.len _))) (cM hF rfl cJ)) rfl ?_
  exact ⟨SV.nil,SV.nil,[],g6,SV.nil,rfl,j3,selM hM [3,1,2,0] 7 rfl⟩
 have hP:=Fx.cF d6 hP
 refine aW (aB ?_)
 refine aG ?_
 refine aD ?_
 refine aA hF (aR qA54 qS54 hF rfl rfl (RState.len _) (hM.cells (i:=2) rfl (bB (RState.len _)))) rfl rfl rfl fun a hF=>?_
 refine aA hF (aR qA60 qS60 hF rfl rfl (RMark.len _) (hM.cells (i:=1) rfl (bB (RMark.len _)))) rfl rfl rfl fun a hF=>?_
 obtain ⟨c0,j0,hP⟩:=bind_some hP
 refine aN hF rfl rfl rfl (aO (xs:=[.tmp 36,.tmp 37,.const (.bool false)]) Tryz.call137 hF rfl rfl (mC j0 hM (Bf:=Bf) (fun w hM=>hsub _ (dropM hM 3)) f2 f5 q6 f8 f10 f12 f15 q16 f18) fun v w hR=>?_)
 obtain ⟨c5,c6,d0,d2,d1,rfl,j4,hM⟩:=hR
 intro a hF
 refine aN hF rfl rfl rfl (bS z54 (zs:=RState.zero.enc) rfl rfl fun c8 w j9 g2=>?_)
 have hM:=hM.plus g2
 replace hM:MemL _ (pt c8 (RState.enc (RState.mk (⟨List.replicate 11 LVal.zero,rfl⟩ : Vec LVal 11) (⟨List.replicate 32 LSlot.zero,rfl⟩ : Vec LSlot 32) SV.nil SV.nil SV.nil 0 0 false)) 54 :: rowL 0 c5 5 c0.ctx :: rowL 0 c6 23 d0 :: d2 :: rowL 0 d1 3 c0.sent :: pt c3 (RState.enc (RState.mk (⟨List.replicate 11 LVal.zero,rfl⟩ : Vec LVal 11) (⟨List.replicate 32 LSlot.zero,rfl⟩ : Vec LSlot 32) SV.nil SV.nil SV.nil 0 0 false)) 54 :: pt c2 (RMark.enc (RMark.mk x1.at_ x1.next x1.done s9 s11 s13 s17)) 60 :: pt c1 (RState.enc (RState.mk x0.regs x0.stack s1 s3 s7 x0.at_ x0.steps x0.done)) 54 :: Lr):=hM
 intro a hF
 refine bK rfl rfl (bA (vs:=_) qS54 (hM.obj (i:=0) rfl) hF rfl rfl rfl rfl (RState.len _) (RState.one _) (by first | (rw [RState.len,RState.len]; decide) | (rw [RState.len]; decide)) (bG ((RState.len _).trans (RState.len _).symm)) fun w i0=>?_)
 have hM:=hM.chg i0 (i:=0) rfl
 replace hM:MemL _ (pt c8 (RState.enc (RState.mk c0.regs c0.stack c5 c6 d1 c0.at_ c0.steps c0.done)) 54 :: rowL 0 c5 5 c0.ctx :: rowL 0 c6 23 d0 :: d2 :: rowL 0 d1 3 c0.sent :: pt c3 (RState.enc (RState.mk (⟨List.replicate 11 LVal.zero,rfl⟩ : Vec LVal 11) (⟨List.replicate 32 LSlot.zero,rfl⟩ : Vec LSlot 32) SV.nil SV.nil SV.nil 0 0 false)) 54 :: pt c2 (RMark.enc (RMark.mk x1.at_ x1.next x1.done s9 s11 s13 s17)) 60 :: pt c1 (RState.enc (RState.mk x0.regs x0.stack s1 s3 s7 x0.at_ x0.steps x0.done)) 54 :: Lr):=hM
 refine aI (aB ?_)
 refine aG ?_
 refine aD ?_
 refine aA hF (aC (off':=1) qU60 rfl in3 rfl hF rfl rfl rfl) rfl rfl rfl fun a hF=>?_
 refine aA hF (aJ qA3 hF rfl rfl (hM.cell (i:=6) rfl (RMark.g_next _))) rfl rfl rfl fun a hF=>?_
 refine aA hF (aC (off':=463) qU54 rfl in3 rfl hF rfl rfl rfl) rfl rfl rfl fun a hF=>?_
 refine bK rfl rfl (bT qS3 (hM.obj (i:=0) rfl) hF rfl rfl rfl rfl (by rw [RState.len]; decide) (RState.s_at_ _ _) fun w i1=>?_)
 have hM:=hM.chg i1 (i:=0) rfl
 replace hM:MemL _ (pt c8 (RState.enc (RState.mk c0.regs c0.stack c5 c6 d1 x1.next c0.steps c0.done)) 54 :: rowL 0 c5 5 c0.ctx :: rowL 0 c6 23 d0 :: d2 :: rowL 0 d1 3 c0.sent :: pt c3 (RState.enc (RState.mk (⟨List.replicate 11 LVal.zero,rfl⟩ : Vec LVal 11) (⟨List.replicate 32 LSlot.zero,rfl⟩ : Vec LSlot 32) SV.nil SV.nil SV.nil 0 0 false)) 54 :: pt c2 (RMark.enc (RMark.mk x1.at_ x1.next x1.done s9 s11 s13 s17)) 60 :: pt c1 (RState.enc (RState.mk x0.regs x0.stack s1 s3 s7 x0.at_ x0.steps x0.done)) 54 :: Lr):=hM
 refine aI (aB ?_)
 refine aG ?_
 refine aD ?_
 refine aA hF (aC (off':=2) qU60 rfl in4 rfl hF rfl rfl rfl) rfl rfl rfl fun a hF=>?_
 refine aA hF (aJ qA4 hF rfl rfl (hM.cell (i:=6) rfl (RMark.g_done _))) rfl rfl rfl fun a hF=>?_
 refine aA hF (aC (off':=465) qU54 rfl in4 rfl hF rfl rfl rfl) rfl rfl rfl fun a hF=>?_
 refine bK rfl rfl (bT qS4 (hM.obj (i:=0) rfl) hF rfl rfl rfl rfl (by rw [RState.len]; decide) (RState.s_done _ _) fun w i2=>?_)
 have hM:=hM.chg i2 (i:=0) rfl
 replace hM:MemL _ (pt c8 (RState.enc (RState.mk c0.regs c0.stack c5 c6 d1 x1.next c0.steps x1.done)) 54 :: rowL 0 c5 5 c0.ctx :: rowL 0 c6 23 d0 :: d2 :: rowL 0 d1 3 c0.sent :: pt c3 (RState.enc (RState.mk (⟨List.replicate 11 LVal.zero,rfl⟩ : Vec LVal 11) (⟨List.replicate 32 LSlot.zero,rfl⟩ : Vec LSlot 32) SV.nil SV.nil SV.nil 0 0 false)) 54 :: pt c2 (RMark.enc (RMark.mk x1.at_ x1.next x1.done s9 s11 s13 s17)) 60 :: pt c1 (RState.enc (RState.mk x0.regs x0.stack s1 s3 s7 x0.at_ x0.steps x0.done)) 54 :: Lr):=hM
 refine aI (aB ?_)
 refine aG ?_
 refine aD ?_
 refine aA hF (aC (off':=464) qU54 rfl in3 rfl hF rfl rfl rfl) rfl rfl rfl fun a hF=>?_
 refine aA hF (aJ qA3 hF rfl rfl (hM.cell (i:=7) rfl (RState.g_steps _))) rfl rfl rfl fun a hF=>?_
 refine aA hF (cA hF rfl rfl rfl) rfl rfl rfl fun a hF=>?_
 refine aA hF (aC (off':=464) qU54 rfl in3 rfl hF rfl rfl rfl) rfl rfl rfl fun a hF=>?_
 refine bK rfl rfl (bT qS3 (hM.obj (i:=0) rfl) hF rfl rfl rfl rfl (by rw [RState.len]; decide) (RState.s_steps _ _) fun w i3=>?_)
 have hM:=hM.chg i3 (i:=0) rfl
 replace hM:MemL _ (pt c8 (RState.enc (RState.mk c0.regs c0.stack c5 c6 d1 x1.next (IntKind.i64.wrap (x0.steps + 1)) x1.done)) 54 :: rowL 0 c5 5 c0.ctx :: rowL 0 c6 23 d0 :: d2 :: rowL 0 d1 3 c0.sent :: pt c3 (RState.enc (RState.mk (⟨List.replicate 11 LVal.zero,rfl⟩ : Vec LVal 11) (⟨List.replicate 32 LSlot.zero,rfl⟩ : Vec LSlot 32) SV.nil SV.nil SV.nil 0 0 false)) 54 :: pt c2 (RMark.enc (RMark.mk x1.at_ x1.next x1.done s9 s11 s13 s17)) 60 :: pt c1 (RState.enc (RState.mk x0.regs x0.stack s1 s3 s7 x0.at_ x0.steps x0.done)) 54 :: Lr):=hM
 refine aI (aB ?_)
 refine aG ?_
 refine aD ?_
 refine aA hF (aC (off':=462) qU54 rfl in52 rfl hF rfl rfl rfl) rfl rfl rfl fun a hF=>?_
 refine aA hF (aJ qA52 hF rfl rfl (hM.cell (i:=0) rfl (RState.g_sent _))) rfl rfl rfl fun a hF=>?_
 refine aA hF (aC (off':=6) qU60 rfl in52 rfl hF rfl rfl rfl) rfl rfl rfl fun a hF=>?_
 refine aA hF (aJ qA52 hF rfl rfl (hM.cell (i:=6) rfl (RMark.g_sent _))) rfl rfl rfl fun a hF=>?_
 obtain ⟨d8,i6,hP⟩:=bind_some hP
 refine aN hF rfl rfl rfl (dB (X:=Int) i6 qU52 in3 rfl rfl rfl rfl hF rfl rfl rfl (hM.own (X:=Int) (i:=4) rfl) (f18 _ (hsub _ (dropM hM 8))) fun d3 w g3=>?_)
 have hM:=hM.chg g3 (i:=4) rfl
 replace hM:MemL _ (pt c8 (RState.enc (RState.mk c0.regs c0.stack c5 c6 d1 x1.next (IntKind.i64.wrap (x0.steps + 1)) x1.done)) 54 :: rowL 0 c5 5 c0.ctx :: rowL 0 c6 23 d0 :: d2 :: rowL 0 d3 3 d8 :: pt c3 (RState.enc (RState.mk (⟨List.replicate 11 LVal.zero,rfl⟩ : Vec LVal 11) (⟨List.replicate 32 LSlot.zero,rfl⟩ : Vec LSlot 32) SV.nil SV.nil SV.nil 0 0 false)) 54 :: pt c2 (RMark.enc (RMark.mk x1.at_ x1.next x1.done s9 s11 s13 s17)) 60 :: pt c1 (RState.enc (RState.mk x0.regs x0.stack s1 s3 s7 x0.at_ x0.steps x0.done)) 54 :: Lr):=hM
 intro a hF
 refine aA hF (aC (off':=462) qU54 rfl in52 rfl hF rfl rfl rfl) rfl rfl rfl fun a hF=>?_
 refine bK rfl rfl (bT qS52 (hM.obj (i:=0) rfl) hF rfl rfl rfl rfl (by rw [RState.len]; decide) (RState.s_sent _ _) fun w i4=>?_)
 have hM:=hM.chg i4 (i:=0) rfl
 replace hM:MemL _ (pt c8 (RState.enc (RState.mk c0.regs c0.stack c5 c6 d3 x1.next (IntKind.i64.wrap (x0.steps + 1)) x1.done)) 54 :: rowL 0 c5 5 c0.ctx :: rowL 0 c6 23 d0 :: d2 :: rowL 0 d3 3 d8 :: pt c3 (RState.enc (RState.mk (⟨List.replicate 11 LVal.zero,rfl⟩ : Vec LVal 11) (⟨List.replicate 32 LSlot.zero,rfl⟩ : Vec LSlot 32) SV.nil SV.nil SV.nil 0 0 false)) 54 :: pt c2 (RMark.enc (RMark.mk x1.at_ x1.next x1.done s9 s11 s13 s17)) 60 :: pt c1 (RState.enc (RState.mk x0.regs x0.stack s1 s3 s7 x0.at_ x0.steps x0.done)) 54 :: Lr):=hM
 refine aI (aB ?_)
 refine aG ?_
 refine aD ?_
 refine aA hF (aR qA54 qS54 hF rfl rfl (RState.len _) (hM.cells (i:=0) rfl (bB (RState.len _)))) rfl rfl rfl fun a hF=>?_
 refine bK rfl rfl (bA (vs:=_) qS54 (hM.obj (i:=5) rfl) hF rfl rfl rfl rfl (RState.len _) (RState.one _) (by first | (rw [RState.len,RState.len]; decide) | (rw [RState.len]; decide)) (bG ((RState.len _).trans (RState.len _).symm)) fun w i5=>?_)
 have hM:=hM.chg i5 (i:=5) rfl
 replace hM:MemL _ (pt c8 (RState.enc (RState.mk c0.regs c0.stack c5 c6 d3 x1.next (IntKind.i64.wrap (x0.steps + 1)) x1.done)) 54 :: rowL 0 c5 5 c0.ctx :: rowL 0 c6 23 d0 :: d2 :: rowL 0 d3 3 d8 :: pt c3 (RState.enc (RState.mk c0.regs c0.stack c5 c6 d3 x1.next (IntKind.i64.wrap (x0.steps + 1)) x1.done)) 54 :: pt c2 (RMark.enc (RMark.mk x1.at_ x1.next x1.done s9 s11 s13 s17)) 60 :: pt c1 (RState.enc (RState.mk x0.regs x0.stack s1 s3 s7 x0.at_ x0.steps x0.done)) 54 :: Lr):=hM
 refine aA hF (aH hF rfl rfl) rfl rfl rfl fun a hF=>?_
 refine aI (aB ?_)
 refine c_ret ?_
 have hP:=Option.some.inj hP
 subst hP
 refine dO (rs:=[.cell 4 54,.tmp 5]) qR61 hF (cC hF rfl qA54 qS54 (RState.len _) (hM.cells (i:=5) rfl (bB (RState.len _))) (cM hF rfl cJ)) rfl ?_
 exact ⟨c5,c6,d0,d2,d3,rfl,j4,selM hM [1,2,3,4] 8 rfl⟩
set_option maxHeartbeats 4000000 in
theorem qF {x0:QState} {x1:QMark} {s1:SV} {s3:SV} {hs4:List SV} {s7:SV} {s9:SV} {s11:SV} {s13:SV} {hs14:List RPiece} {s17:SV} {out:(QState × Int)} {w0:World} {Bf:World → Prop} {Lr:List Res} (hP:Sh.lN x0 x1 = some out) (hM:MemL w0 (Lr)) (hsub:∀ w,MemL w Lr → Bf w) (f2:LIn Bf s1 x0.ctx) (f5:LIn Bf s3 hs4) (q6:Each (LIn (X:=UInt8) Bf) hs4 x0.tables) (f8:LIn Bf s7 x0.sent) (f10:LIn Bf s9 x1.regs) (f12:LIn Bf s11 x1.slots) (f15:LIn Bf s13 hs14) (q16:Each (QPieceIn Bf) hs14 x1.pieces) (f18:LIn Bf s17 x1.sent):Calls Tryz.prog 62 #[.agg (RState.enc (RState.mk x0.regs x0.stack s1 s3 s7 x0.at_ x0.steps x0.done)).toArray,.agg (RMark.enc (RMark.mk x1.at_ x1.next x1.done s9 s11 s13 s17)).toArray] w0 (Ret fun v w'=>∃ (i4:SV) (i5:SV) (g0:List SV) (i0:Res) (i6:SV),v = .tuple #[.agg (RState.enc (RState.mk out.1.regs out.1.stack i4 i5 i6 out.1.at_ out.1.steps out.1.done)).toArray,.int .i64 out.2] ∧ Each (LIn (X:=UInt8) i0.holds') g0 out.1.tables ∧ MemL w' (rowL 0 i4 5 out.1.ctx :: rowL 0 i5 23 g0 :: i0 :: rowL 0 i6 3 out.1.sent :: Lr)):=by
 unfold Sh.lN at hP
 refine aP (vs:=[.agg (RState.enc (RState.mk x0.regs x0.stack s1 s3 s7 x0.at_ x0.steps x0.done)).toArray,.agg (RMark.enc (RMark.mk x1.at_ x1.next x1.done s9 s11 s13 s17)).toArray]) Tryz.func62 rfl Tryz.ntmps62 rfl fun a hF=>?_
 refine aG ?_
 refine aD ?_
 refine aN hF rfl rfl rfl (cW hF rfl rfl rfl fun c2 w k7 g4=>?_)
 have hM:=hM.plus g4
 intro a hF
 refine aN hF rfl rfl rfl (cW hF rfl rfl rfl fun c3 w k8 g5=>?_)
 have hM:=hM.plus g5
 intro a hF
 refine aN hF rfl rfl rfl (bS z54 (zs:=RState.zero.enc) rfl rfl fun c4 w k9 g6=>?_)
 have hM:=hM.plus g6
 replace hM:MemL _ (pt c4 (RState.enc (RState.mk (⟨List.replicate 11 LVal.zero,rfl⟩ : Vec LVal 11) (⟨List.replicate 32 LSlot.zero,rfl⟩ : Vec LSlot 32) SV.nil SV.nil SV.nil 0 0 false)) 54 :: pt c3 (RMark.enc (RMark.mk x1.at_ x1.next x1.done s9 s11 s13 s17)) 60 :: pt c2 (RState.enc (RState.mk x0.regs x0.stack s1 s3 s7 x0.at_ x0.steps x0.done)) 54 :: Lr):=hM
 intro a hF
 refine aA hF (aH hF rfl rfl) rfl rfl rfl fun a hF=>?_
 refine aI (aB ?_)
 refine aG ?_
 refine aG ?_
 refine aD ?_
 refine aA hF (aR qA54 qS54 hF rfl rfl (RState.len _) (hM.cells (i:=2) rfl (bB (RState.len _)))) rfl rfl rfl fun a hF=>?_
 obtain ⟨l3,j6,hP⟩:=bind_some hP
 refine aN hF rfl rfl rfl (aO (xs:=[.tmp 8]) Tryz.call87 hF rfl rfl (eS j6 hM (Bf:=Bf) (fun w hM=>hsub _ (dropM hM 3)) f2 f5 q6 f8) fun v w hR=>?_)
 obtain ⟨rfl,hM⟩:=hR
 replace hM:MemL _ (pt c4 (RState.enc (RState.mk (⟨List.replicate 11 LVal.zero,rfl⟩ : Vec LVal 11) (⟨List.replicate 32 LSlot.zero,rfl⟩ : Vec LSlot 32) SV.nil SV.nil SV.nil 0 0 false)) 54 :: pt c3 (RMark.enc (RMark.mk x1.at_ x1.next x1.done s9 s11 s13 s17)) 60 :: pt c2 (RState.enc (RState.mk x0.regs x0.stack s1 s3 s7 x0.at_ x0.steps x0.done)) 54 :: Lr):=hM
 intro a hF
 refine aA hF (dE hF rfl rfl) rfl rfl rfl fun a hF=>?_
 refine aI (aB ?_)
 refine aS hF (c:=.tmp 10) rfl (fun d6=>?_) (fun d6=>?_)
 ·have hP:=Fx.cT d6 hP
  refine aG ?_
  refine aD ?_
  refine aA hF (cL z54 qU54 pl54 hF (parts:=[]) rfl rfl cV) rfl rfl rfl fun a hF=>?_
  refine bK rfl rfl (bA (vs:=_) qS54 (hM.obj (i:=0) rfl) hF rfl rfl rfl rfl (RState.len _) (RState.one _) (by first | (rw [RState.len,RState.len]; decide) | (rw [RState.len]; decide)) (bG ((RState.len _).trans (RState.len _).symm)) fun w i7=>?_)
  have hM:=hM.chg i7 (i:=0) rfl
  replace hM:MemL _ (pt c4 (RState.enc (RState.mk (⟨List.replicate 11 LVal.zero,rfl⟩ : Vec LVal 11) (⟨List.replicate 32 LSlot.zero,rfl⟩ : Vec LSlot 32) SV.nil SV.nil SV.nil 0 0 false)) 54 :: pt c3 (RMark.enc (RMark.mk x1.at_ x1.next x1.done s9 s11 s13 s17)) 60 :: pt c2 (RState.enc (RState.mk x0.regs x0.stack s1 s3 s7 x0.at_ x0.steps x0.done)) 54 :: Lr):=hM
  refine aA hF (aH hF rfl rfl) rfl rfl rfl fun a hF=>?_
  refine aI (aB ?_)
  refine c_ret ?_
  have hM:=hM.rowNil (X:=UInt8) 0 5
  obtain ⟨i1,hM⟩:=voidM hM
  have k0:Each (LIn (X:=UInt8) i1.holds') ([]:List SV) ([]:List (List UInt8)):=Each.nil
  have hM:=hM.rowNil (X:=SV) 0 23
  have hM:=hM.rowNil (X:=Int) 0 3
  have hP:=Option.some.inj hP
  subst hP
  refine dO (rs:=[.cell 4 54,.tmp 5]) qR62 hF (cC hF rfl qA54 qS54 (RState.len _) (hM.cells (i:=4) rfl (bB (RState.len _))) (cM hF rfl cJ)) rfl ?_
  exact ⟨SV.nil,SV.nil,[],i1,SV.nil,rfl,k0,selM hM [3,1,2,0] 7 rfl⟩
 have hP:=Fx.cF d6 hP
 refine aW (aB ?_)
 refine aG ?_
 refine aG ?_
 refine aD ?_
 refine aA hF (aR qA60 qS60 hF rfl rfl (RMark.len _) (hM.cells (i:=1) rfl (bB (RMark.len _)))) rfl rfl rfl fun a hF=>?_
 obtain ⟨l4,j7,hP⟩:=bind_some hP
 refine aN hF rfl rfl rfl (aO (xs:=[.tmp 12]) Tryz.call135 hF rfl rfl (gB j7 hM (Bf:=Bf) (fun w hM=>hsub _ (dropM hM 3)) f10 f12 f15 q16 f18) fun v w hR=>?_)
 obtain ⟨rfl,hM⟩:=hR
 replace hM:MemL _ (pt c4 (RState.enc (RState.mk (⟨List.replicate 11 LVal.zero,rfl⟩ : Vec LVal 11) (⟨List.replicate 32 LSlot.zero,rfl⟩ : Vec LSlot 32) SV.nil SV.nil SV.nil 0 0 false)) 54 :: pt c3 (RMark.enc (RMark.mk x1.at_ x1.next x1.done s9 s11 s13 s17)) 60 :: pt c2 (RState.enc (RState.mk x0.regs x0.stack s1 s3 s7 x0.at_ x0.steps x0.done)) 54 :: Lr):=hM
 intro a hF
 refine aA hF (dE hF rfl rfl) rfl rfl rfl fun a hF=>?_
 refine aI (aB ?_)
 refine aS hF (c:=.tmp 14) rfl (fun d7=>?_) (fun d7=>?_)
 ·have hP:=Fx.cT d7 hP
  refine aG ?_
  refine aD ?_
  refine aA hF (cL z54 qU54 pl54 hF (parts:=[]) rfl rfl cV) rfl rfl rfl fun a hF=>?_
  refine bK rfl rfl (bA (vs:=_) qS54 (hM.obj (i:=0) rfl) hF rfl rfl rfl rfl (RState.len _) (RState.one _) (by first | (rw [RState.len,RState.len]; decide) | (rw [RState.len]; decide)) (bG ((RState.len _).trans (RState.len _).symm)) fun w i8=>?_)
  have hM:=hM.chg i8 (i:=0) rfl
  replace hM:MemL _ (pt c4 (RState.enc (RState.mk (⟨List.replicate 11 LVal.zero,rfl⟩ : Vec LVal 11) (⟨List.replicate 32 LSlot.zero,rfl⟩ : Vec LSlot 32) SV.nil SV.nil SV.nil 0 0 false)) 54 :: pt c3 (RMark.enc (RMark.mk x1.at_ x1.next x1.done s9 s11 s13 s17)) 60 :: pt c2 (RState.enc (RState.mk x0.regs x0.stack s1 s3 s7 x0.at_ x0.steps x0.done)) 54 :: Lr):=hM
  refine aA hF (aH hF rfl rfl) rfl rfl rfl fun a hF=>?_
  refine aI (aB ?_)
  refine c_ret ?_
  have hM:=hM.rowNil (X:=UInt8) 0 5
  obtain ⟨i2,hM⟩:=voidM hM
  have k1:Each (LIn (X:=UInt8) i2.holds') ([]:List SV) ([]:List (List UInt8)):=Each.nil
  have hM:=hM.rowNil (X:=SV) 0 23
  have hM:=hM.rowNil (X:=Int) 0 3
  have hP:=Option.some.inj hP
  subst hP
  refine dO (rs:=[.cell 4 54,.tmp 5]) qR62 hF (cC hF rfl qA54 qS54 (RState.len _) (hM.cells (i:=4) rfl (bB (RState.len _))) (cM hF rfl cJ)) rfl ?_
  exact ⟨SV.nil,SV.nil,[],i2,SV.nil,rfl,k1,selM hM [3,1,2,0] 7 rfl⟩
 have hP:=Fx.cF d7 hP
 refine aW (aB ?_)
 refine aG ?_
 refine aD ?_
 refine aA hF (aC (off':=462) qU54 rfl in52 rfl hF rfl rfl rfl) rfl rfl rfl fun a hF=>?_
 refine aA hF (aJ qA52 hF rfl rfl (hM.cell (i:=2) rfl (RState.g_sent _))) rfl rfl rfl fun a hF=>?_
 refine aA hF (bQ (f8 _ (hsub _ (dropM hM 3))) qU52 hF rfl rfl) rfl rfl rfl fun a hF=>?_
 refine aA hF (aC (off':=6) qU60 rfl in52 rfl hF rfl rfl rfl) rfl rfl rfl fun a hF=>?_
 refine aA hF (aJ qA52 hF rfl rfl (hM.cell (i:=1) rfl (RMark.g_sent _))) rfl rfl rfl fun a hF=>?_
 refine aA hF (bQ (f18 _ (hsub _ (dropM hM 3))) qU52 hF rfl rfl) rfl rfl rfl fun a hF=>?_
 refine aA hF (eQ hF rfl rfl rfl) rfl rfl rfl fun a hF=>?_
 refine aA hF (aH hF rfl rfl) rfl rfl rfl fun a hF=>?_
 refine aI (aB ?_)
 refine aG ?_
 refine aG ?_
 refine aT hF hM hP (fun F x a w=>match x with | d9=>Fr 86 [(67,.bool d9),(2,.pointer (some ⟨c2,0,none⟩)),(3,.pointer (some ⟨c3,0,none⟩)),(4,.pointer (some ⟨c4,0,none⟩)),(5,.int .i64 0),(6,.int .i64 (IntKind.i64.wrap ((x0.sent.length:Int) - (x1.sent.length:Int))))] a ∧ MemL w (pt c4 (RState.enc (RState.mk (⟨List.replicate 11 LVal.zero,rfl⟩ : Vec LVal 11) (⟨List.replicate 32 LSlot.zero,rfl⟩ : Vec LSlot 32) SV.nil SV.nil SV.nil 0 0 false)) 54 :: pt c3 (RMark.enc (RMark.mk x1.at_ x1.next x1.done s9 s11 s13 s17)) 60 :: pt c2 (RState.enc (RState.mk x0.regs x0.stack s1 s3 s7 x0.at_ x0.steps x0.done)) 54 :: Lr)) (fun l2 hP l1 hF hM=>?_) ?_
 ·refine bR mixed (by kernel_rfl) hM [0,1,2] 3 rfl fun hch=>?_
  refine aK hF hch 0 rfl (by kernel_rfl) rfl rfl rfl (fun w hM=>(aC (off':=463) qU54 rfl in3 rfl hF rfl rfl rfl)) fun a hF=>?_
  refine aK hF hch 1 rfl (by kernel_rfl) rfl rfl rfl (fun w hM=>(aJ qA3 hF rfl rfl (hM.cell (i:=2) rfl (RState.g_at_ _)))) fun a hF=>?_
  refine aK hF hch 2 rfl (by kernel_rfl) rfl rfl rfl (fun w hM=>(aC (off':=1) qU60 rfl in3 rfl hF rfl rfl rfl)) fun a hF=>?_
  refine aK hF hch 3 rfl (by kernel_rfl) rfl rfl rfl (fun w hM=>(aJ qA3 hF rfl rfl (hM.cell (i:=1) rfl (RMark.g_next _)))) fun a hF=>?_
  refine aK hF hch 4 rfl (by kernel_rfl) rfl rfl rfl (fun w hM=>(dD hF rfl rfl rfl)) fun a hF=>?_
  refine aK hF hch 5 rfl (by kernel_rfl) rfl rfl rfl (fun w hM=>(aF hF rfl rfl)) fun a hF=>?_
  refine bD 28 hF rfl (fun c6=>?_) (fun c6=>?_)
  ·have hP:=Fx.cT c6 hP
   refine aU hF hch 6 rfl (by kernel_rfl) rfl rfl rfl c6 rfl rfl fun a hF=>?_
   refine aU hF hch 7 rfl (by kernel_rfl) rfl rfl rfl c6 rfl rfl fun a hF=>?_
   refine aU hF hch 8 rfl (by kernel_rfl) rfl rfl rfl c6 rfl rfl fun a hF=>?_
   refine aU hF hch 9 rfl (by kernel_rfl) rfl rfl rfl c6 rfl rfl fun a hF=>?_
   refine aU hF hch 10 rfl (by kernel_rfl) rfl rfl rfl c6 rfl rfl fun a hF=>?_
   refine aK hF hch 11 rfl (by kernel_rfl) rfl rfl rfl (fun w hM=>(aQ hF rfl rfl c6 rfl)) fun a hF=>?_
   refine aK hF hch 12 rfl (by kernel_rfl) rfl rfl rfl (fun w hM=>(aF hF rfl rfl)) fun a hF=>?_
   refine aU hF hch 13 rfl (by kernel_rfl) rfl rfl rfl rfl rfl rfl fun a hF=>?_
   refine aU hF hch 14 rfl (by kernel_rfl) rfl rfl rfl rfl rfl rfl fun a hF=>?_
   refine aU hF hch 15 rfl (by kernel_rfl) rfl rfl rfl rfl rfl rfl fun a hF=>?_
   refine aK hF hch 16 rfl (by kernel_rfl) rfl rfl rfl (fun w hM=>(aQ hF rfl rfl rfl rfl)) fun a hF=>?_
   refine aK hF hch 17 rfl (by kernel_rfl) rfl rfl rfl (fun w hM=>(aF hF rfl rfl)) fun a hF=>?_
   refine aU hF hch 18 rfl (by kernel_rfl) rfl rfl rfl rfl rfl rfl fun a hF=>?_
   refine aU hF hch 19 rfl (by kernel_rfl) rfl rfl rfl rfl rfl rfl fun a hF=>?_
   refine aU hF hch 20 rfl (by kernel_rfl) rfl rfl rfl rfl rfl rfl fun a hF=>?_
   refine aU hF hch 21 rfl (by kernel_rfl) rfl rfl rfl rfl rfl rfl fun a hF=>?_
   refine aK hF hch 22 rfl (by kernel_rfl) rfl rfl rfl (fun w hM=>(aQ hF rfl rfl rfl rfl)) fun a hF=>?_
   refine aK hF hch 23 rfl (by kernel_rfl) rfl rfl rfl (fun w hM=>(aF hF rfl rfl)) fun a hF=>?_
   refine aU hF hch 24 rfl (by kernel_rfl) rfl rfl rfl rfl rfl rfl fun a hF=>?_
   refine aU hF hch 25 rfl (by kernel_rfl) rfl rfl rfl rfl rfl rfl fun a hF=>?_
   refine aK hF hch 26 rfl (by kernel_rfl) rfl rfl rfl (fun w hM=>(aQ hF rfl rfl rfl rfl)) fun a hF=>?_
   refine aK hF hch 27 rfl (by kernel_rfl) rfl rfl rfl (fun w hM=>(aF hF rfl rfl)) fun a hF=>?_
   refine aU hF hch 28 rfl (by kernel_rfl) rfl rfl rfl rfl rfl rfl fun a hF=>?_
   refine aU hF hch 29 rfl (by kernel_rfl) rfl rfl rfl rfl rfl rfl fun a hF=>?_
   refine aU hF hch 30 rfl (by kernel_rfl) rfl rfl rfl rfl rfl rfl fun a hF=>?_
   refine aU hF hch 31 rfl (by kernel_rfl) rfl rfl rfl rfl rfl rfl fun a hF=>?_
   refine aU hF hch 32 rfl (by kernel_rfl) rfl rfl rfl rfl rfl rfl fun a hF=>?_
   refine bW hF hch 33 rfl (by kernel_rfl) rfl rfl rfl rfl rfl fun a hF=>?_
   refine bW hF hch 34 rfl (by kernel_rfl) rfl rfl rfl rfl rfl fun a hF=>?_
   refine bW hF hch 35 rfl (by kernel_rfl) rfl rfl rfl rfl rfl fun a hF=>?_
   refine bW hF hch 36 rfl (by kernel_rfl) rfl rfl rfl rfl rfl fun a hF=>?_
   refine bW hF hch 37 rfl (by kernel_rfl) rfl rfl rfl rfl rfl fun a hF=>?_
   refine bW hF hch 38 rfl (by kernel_rfl) rfl rfl rfl rfl rfl fun a hF=>?_
   refine bW hF hch 39 rfl (by kernel_rfl) rfl rfl rfl rfl rfl fun a hF=>?_
   refine bW hF hch 40 rfl (by kernel_rfl) rfl rfl rfl rfl rfl fun a hF=>?_
   refine bW hF hch 41 rfl (by kernel_rfl) rfl rfl rfl rfl rfl fun a hF=>?_
   refine bW hF hch 42 rfl (by kernel_rfl) rfl rfl rfl rfl rfl fun a hF=>?_
   refine aU hF hch 43 rfl (by kernel_rfl) rfl rfl rfl rfl rfl rfl fun a hF=>?_
   refine aK hF hch 44 rfl (by kernel_rfl) rfl rfl rfl (fun w hM=>(aQ hF rfl rfl rfl rfl)) fun a hF=>?_
   refine bY hch (by kernel_rfl) fun w hM=>?_
   refine aB ?_
   have hP:=Option.some.inj hP
   subst hP
   exact ⟨true,rfl,hF.to ⟨rfl,rfl,rfl,rfl,rfl,rfl,trivial⟩,hM⟩
  have hP:=Fx.cF c6 hP
  refine bI hF hch 6 rfl (by kernel_rfl) rfl rfl rfl c6 rfl rfl (fun w hM=>(aC (off':=465) qU54 rfl in4 rfl hF rfl rfl rfl)) fun a hF=>?_
  refine bI hF hch 7 rfl (by kernel_rfl) rfl rfl rfl c6 rfl rfl (fun w hM=>(aJ qA4 hF rfl rfl (hM.cell (i:=2) rfl (RState.g_done _)))) fun a hF=>?_
  refine bI hF hch 8 rfl (by kernel_rfl) rfl rfl rfl c6 rfl rfl (fun w hM=>(aC (off':=2) qU60 rfl in4 rfl hF rfl rfl rfl)) fun a hF=>?_
  refine bI hF hch 9 rfl (by kernel_rfl) rfl rfl rfl c6 rfl rfl (fun w hM=>(aJ qA4 hF rfl rfl (hM.cell (i:=1) rfl (RMark.g_done _)))) fun a hF=>?_
  refine bI hF hch 10 rfl (by kernel_rfl) rfl rfl rfl c6 rfl rfl (fun w hM=>(zM qU4 hF rfl rfl rfl)) fun a hF=>?_
  refine aK hF hch 11 rfl (by kernel_rfl) rfl rfl rfl (fun w hM=>(aV hF rfl rfl c6 rfl)) fun a hF=>?_
  refine aK hF hch 12 rfl (by kernel_rfl) rfl rfl rfl (fun w hM=>(aF hF rfl rfl)) fun a hF=>?_
  refine bD 35 hF rfl (fun d1=>?_) (fun d1=>?_)
  ·have hP:=Fx.cT d1 hP
   refine aU hF hch 13 rfl (by kernel_rfl) rfl rfl rfl d1 rfl rfl fun a hF=>?_
   refine aU hF hch 14 rfl (by kernel_rfl) rfl rfl rfl d1 rfl rfl fun a hF=>?_
   refine aU hF hch 15 rfl (by kernel_rfl) rfl rfl rfl d1 rfl rfl fun a hF=>?_
   refine aK hF hch 16 rfl (by kernel_rfl) rfl rfl rfl (fun w hM=>(aQ hF rfl rfl d1 rfl)) fun a hF=>?_
   refine aK hF hch 17 rfl (by kernel_rfl) rfl rfl rfl (fun w hM=>(aF hF rfl rfl)) fun a hF=>?_
   refine aU hF hch 18 rfl (by kernel_rfl) rfl rfl rfl rfl rfl rfl fun a hF=>?_
   refine aU hF hch 19 rfl (by kernel_rfl) rfl rfl rfl rfl rfl rfl fun a hF=>?_
   refine aU hF hch 20 rfl (by kernel_rfl) rfl rfl rfl rfl rfl rfl fun a hF=>?_
   refine aU hF hch 21 rfl (by kernel_rfl) rfl rfl rfl rfl rfl rfl fun a hF=>?_
   refine aK hF hch 22 rfl (by kernel_rfl) rfl rfl rfl (fun w hM=>(aQ hF rfl rfl rfl rfl)) fun a hF=>?_
   refine aK hF hch 23 rfl (by kernel_rfl) rfl rfl rfl (fun w hM=>(aF hF rfl rfl)) fun a hF=>?_
   refine aU hF hch 24 rfl (by kernel_rfl) rfl rfl rfl rfl rfl rfl fun a hF=>?_
   refine aU hF hch 25 rfl (by kernel_rfl) rfl rfl rfl rfl rfl rfl fun a hF=>?_
   refine aK hF hch 26 rfl (by kernel_rfl) rfl rfl rfl (fun w hM=>(aQ hF rfl rfl rfl rfl)) fun a hF=>?_
   refine aK hF hch 27 rfl (by kernel_rfl) rfl rfl rfl (fun w hM=>(aF hF rfl rfl)) fun a hF=>?_
   refine aU hF hch 28 rfl (by kernel_rfl) rfl rfl rfl rfl rfl rfl fun a hF=>?_
   refine aU hF hch 29 rfl (by kernel_rfl) rfl rfl rfl rfl rfl rfl fun a hF=>?_
   refine aU hF hch 30 rfl (by kernel_rfl) rfl rfl rfl rfl rfl rfl fun a hF=>?_
   refine aU hF hch 31 rfl (by kernel_rfl) rfl rfl rfl rfl rfl rfl fun a hF=>?_
   refine aU hF hch 32 rfl (by kernel_rfl) rfl rfl rfl rfl rfl rfl fun a hF=>?_
   refine bW hF hch 33 rfl (by kernel_rfl) rfl rfl rfl rfl rfl fun a hF=>?_
   refine bW hF hch 34 rfl (by kernel_rfl) rfl rfl rfl rfl rfl fun a hF=>?_
   refine bW hF hch 35 rfl (by kernel_rfl) rfl rfl rfl rfl rfl fun a hF=>?_
   refine bW hF hch 36 rfl (by kernel_rfl) rfl rfl rfl rfl rfl fun a hF=>?_
   refine bW hF hch 37 rfl (by kernel_rfl) rfl rfl rfl rfl rfl fun a hF=>?_
   refine bW hF hch 38 rfl (by kernel_rfl) rfl rfl rfl rfl rfl fun a hF=>?_
   refine bW hF hch 39 rfl (by kernel_rfl) rfl rfl rfl rfl rfl fun a hF=>?_
   refine bW hF hch 40 rfl (by kernel_rfl) rfl rfl rfl rfl rfl fun a hF=>?_
   refine bW hF hch 41 rfl (by kernel_rfl) rfl rfl rfl rfl rfl fun a hF=>?_
   refine bW hF hch 42 rfl (by kernel_rfl) rfl rfl rfl rfl rfl fun a hF=>?_
   refine aU hF hch 43 rfl (by kernel_rfl) rfl rfl rfl rfl rfl rfl fun a hF=>?_
   refine aK hF hch 44 rfl (by kernel_rfl) rfl rfl rfl (fun w hM=>(aQ hF rfl rfl rfl rfl)) fun a hF=>?_
   refine bY hch (by kernel_rfl) fun w hM=>?_
   refine aB ?_
   have hP:=Option.some.inj hP
   subst hP
   exact ⟨true,rfl,hF.to ⟨rfl,rfl,rfl,rfl,rfl,rfl,trivial⟩,hM⟩
  have hP:=Fx.cF d1 hP
  refine bI hF hch 13 rfl (by kernel_rfl) rfl rfl rfl d1 rfl rfl (fun w hM=>(aC (off':=464) qU54 rfl in3 rfl hF rfl rfl rfl)) fun a hF=>?_
  refine bI hF hch 14 rfl (by kernel_rfl) rfl rfl rfl d1 rfl rfl (fun w hM=>(aJ qA3 hF rfl rfl (hM.cell (i:=2) rfl (RState.g_steps _)))) fun a hF=>?_
  refine bI hF hch 15 rfl (by kernel_rfl) rfl rfl rfl d1 rfl rfl (fun w hM=>(cZ hF rfl rfl rfl)) fun a hF=>?_
  refine aK hF hch 16 rfl (by kernel_rfl) rfl rfl rfl (fun w hM=>(aV hF rfl rfl d1 rfl)) fun a hF=>?_
  refine aK hF hch 17 rfl (by kernel_rfl) rfl rfl rfl (fun w hM=>(aF hF rfl rfl)) fun a hF=>?_
  refine bD 40 hF rfl (fun c7=>?_) (fun c7=>?_)
  ·have hP:=Fx.cT c7 hP
   refine aU hF hch 18 rfl (by kernel_rfl) rfl rfl rfl c7 rfl rfl fun a hF=>?_
   refine aU hF hch 19 rfl (by kernel_rfl) rfl rfl rfl c7 rfl rfl fun a hF=>?_
   refine aU hF hch 20 rfl (by kernel_rfl) rfl rfl rfl c7 rfl rfl fun a hF=>?_
   refine aU hF hch 21 rfl (by kernel_rfl) rfl rfl rfl c7 rfl rfl fun a hF=>?_
   refine aK hF hch 22 rfl (by kernel_rfl) rfl rfl rfl (fun w hM=>(aQ hF rfl rfl c7 rfl)) fun a hF=>?_
   refine aK hF hch 23 rfl (by kernel_rfl) rfl rfl rfl (fun w hM=>(aF hF rfl rfl)) fun a hF=>?_
   refine aU hF hch 24 rfl (by kernel_rfl) rfl rfl rfl rfl rfl rfl fun a hF=>?_
   refine aU hF hch 25 rfl (by kernel_rfl) rfl rfl rfl rfl rfl rfl fun a hF=>?_
   refine aK hF hch 26 rfl (by kernel_rfl) rfl rfl rfl (fun w hM=>(aQ hF rfl rfl rfl rfl)) fun a hF=>?_
   refine aK hF hch 27 rfl (by kernel_rfl) rfl rfl rfl (fun w hM=>(aF hF rfl rfl)) fun a hF=>?_
   refine aU hF hch 28 rfl (by kernel_rfl) rfl rfl rfl rfl rfl rfl fun a hF=>?_
   refine aU hF hch 29 rfl (by kernel_rfl) rfl rfl rfl rfl rfl rfl fun a hF=>?_
   refine aU hF hch 30 rfl (by kernel_rfl) rfl rfl rfl rfl rfl rfl fun a hF=>?_
   refine aU hF hch 31 rfl (by kernel_rfl) rfl rfl rfl rfl rfl rfl fun a hF=>?_
   refine aU hF hch 32 rfl (by kernel_rfl) rfl rfl rfl rfl rfl rfl fun a hF=>?_
   refine bW hF hch 33 rfl (by kernel_rfl) rfl rfl rfl rfl rfl fun a hF=>?_
   refine bW hF hch 34 rfl (by kernel_rfl) rfl rfl rfl rfl rfl fun a hF=>?_
   refine bW hF hch 35 rfl (by kernel_rfl) rfl rfl rfl rfl rfl fun a hF=>?_
   refine bW hF hch 36 rfl (by kernel_rfl) rfl rfl rfl rfl rfl fun a hF=>?_
   refine bW hF hch 37 rfl (by kernel_rfl) rfl rfl rfl rfl rfl fun a hF=>?_
   refine bW hF hch 38 rfl (by kernel_rfl) rfl rfl rfl rfl rfl fun a hF=>?_
   refine bW hF hch 39 rfl (by kernel_rfl) rfl rfl rfl rfl rfl fun a hF=>?_
   refine bW hF hch 40 rfl (by kernel_rfl) rfl rfl rfl rfl rfl fun a hF=>?_
   refine bW hF hch 41 rfl (by kernel_rfl) rfl rfl rfl rfl rfl fun a hF=>?_
   refine bW hF hch 42 rfl (by kernel_rfl) rfl rfl rfl rfl rfl fun a hF=>?_
   refine aU hF hch 43 rfl (by kernel_rfl) rfl rfl rfl rfl rfl rfl fun a hF=>?_
   refine aK hF hch 44 rfl (by kernel_rfl) rfl rfl rfl (fun w hM=>(aQ hF rfl rfl rfl rfl)) fun a hF=>?_
   refine bY hch (by kernel_rfl) fun w hM=>?_
   refine aB ?_
   have hP:=Option.some.inj hP
   subst hP
   exact ⟨true,rfl,hF.to ⟨rfl,rfl,rfl,rfl,rfl,rfl,trivial⟩,hM⟩
  have hP:=Fx.cF c7 hP
  refine bI hF hch 18 rfl (by kernel_rfl) rfl rfl rfl c7 rfl rfl (fun w hM=>(aR qA54 qS54 hF rfl rfl (RState.len _) (hM.cells (i:=2) rfl (bB (RState.len _))))) fun a hF=>?_
  refine bI hF hch 19 rfl (by kernel_rfl) rfl rfl rfl c7 rfl rfl (fun w hM=>(aR qA60 qS60 hF rfl rfl (RMark.len _) (hM.cells (i:=1) rfl (bB (RMark.len _))))) fun a hF=>?_
  refine bH hch 20 (by kernel_rfl) rfl rfl ?_
  refine wT hF 20 rfl rfl rfl rfl rfl c7 rfl rfl fun w hMs hM=>?_
  obtain ⟨l5,j8,hP⟩:=bind_some hP
  refine (aO (xs:=[.tmp 41,.tmp 42,.const (.bool false)]) Tryz.call136 hF rfl rfl (kD j8 hM (Bf:=Bf) (fun w hM=>hsub _ (dropM hM 3)) f2 f5 q6 f8 f10 f12 f15 q16 f18) fun v w hR=>?_)
  obtain ⟨rfl,hM⟩:=hR
  replace hM:MemL _ (pt c4 (RState.enc (RState.mk (⟨List.replicate 11 LVal.zero,rfl⟩ : Vec LVal 11) (⟨List.replicate 32 LSlot.zero,rfl⟩ : Vec LSlot 32) SV.nil SV.nil SV.nil 0 0 false)) 54 :: pt c3 (RMark.enc (RMark.mk x1.at_ x1.next x1.done s9 s11 s13 s17)) 60 :: pt c2 (RState.enc (RState.mk x0.regs x0.stack s1 s3 s7 x0.at_ x0.steps x0.done)) 54 :: Lr):=hM
  have hMs:=selM hM [0,1,2] 3 rfl
  refine ⟨_,_,hMs,hM,.inl fun _ h=>h,fun a hF=>?_⟩
  refine bI hF hch 21 rfl (by kernel_rfl) rfl rfl rfl c7 rfl rfl (fun w hM=>(dE hF rfl rfl)) fun a hF=>?_
  refine aK hF hch 22 rfl (by kernel_rfl) rfl rfl rfl (fun w hM=>(aV hF rfl rfl c7 rfl)) fun a hF=>?_
  refine aK hF hch 23 rfl (by kernel_rfl) rfl rfl rfl (fun w hM=>(aF hF rfl rfl)) fun a hF=>?_
  refine bD 46 hF rfl (fun d3=>?_) (fun d3=>?_)
  ·have hP:=Fx.cT d3 hP
   refine aU hF hch 24 rfl (by kernel_rfl) rfl rfl rfl d3 rfl rfl fun a hF=>?_
   refine aU hF hch 25 rfl (by kernel_rfl) rfl rfl rfl d3 rfl rfl fun a hF=>?_
   refine aK hF hch 26 rfl (by kernel_rfl) rfl rfl rfl (fun w hM=>(aQ hF rfl rfl d3 rfl)) fun a hF=>?_
   refine aK hF hch 27 rfl (by kernel_rfl) rfl rfl rfl (fun w hM=>(aF hF rfl rfl)) fun a hF=>?_
   refine aU hF hch 28 rfl (by kernel_rfl) rfl rfl rfl rfl rfl rfl fun a hF=>?_
   refine aU hF hch 29 rfl (by kernel_rfl) rfl rfl rfl rfl rfl rfl fun a hF=>?_
   refine aU hF hch 30 rfl (by kernel_rfl) rfl rfl rfl rfl rfl rfl fun a hF=>?_
   refine aU hF hch 31 rfl (by kernel_rfl) rfl rfl rfl rfl rfl rfl fun a hF=>?_
   refine aU hF hch 32 rfl (by kernel_rfl) rfl rfl rfl rfl rfl rfl fun a hF=>?_
   refine bW hF hch 33 rfl (by kernel_rfl) rfl rfl rfl rfl rfl fun a hF=>?_
   refine bW hF hch 34 rfl (by kernel_rfl) rfl rfl rfl rfl rfl fun a hF=>?_
   refine bW hF hch 35 rfl (by kernel_rfl) rfl rfl rfl rfl rfl fun a hF=>?_
   refine bW hF hch 36 rfl (by kernel_rfl) rfl rfl rfl rfl rfl fun a hF=>?_
   refine bW hF hch 37 rfl (by kernel_rfl) rfl rfl rfl rfl rfl fun a hF=>?_
   refine bW hF hch 38 rfl (by kernel_rfl) rfl rfl rfl rfl rfl fun a hF=>?_
   refine bW hF hch 39 rfl (by kernel_rfl) rfl rfl rfl rfl rfl fun a hF=>?_
   refine bW hF hch 40 rfl (by kernel_rfl) rfl rfl rfl rfl rfl fun a hF=>?_
   refine bW hF hch 41 rfl (by kernel_rfl) rfl rfl rfl rfl rfl fun a hF=>?_
   refine bW hF hch 42 rfl (by kernel_rfl) rfl rfl rfl rfl rfl fun a hF=>?_
   refine aU hF hch 43 rfl (by kernel_rfl) rfl rfl rfl rfl rfl rfl fun a hF=>?_
   refine aK hF hch 44 rfl (by kernel_rfl) rfl rfl rfl (fun w hM=>(aQ hF rfl rfl rfl rfl)) fun a hF=>?_
   refine bY hch (by kernel_rfl) fun w hM=>?_
   refine aB ?_
   have hP:=Option.some.inj hP
   subst hP
   exact ⟨true,rfl,hF.to ⟨rfl,rfl,rfl,rfl,rfl,rfl,trivial⟩,hM⟩
  have hP:=Fx.cF d3 hP
  refine bI hF hch 24 rfl (by kernel_rfl) rfl rfl rfl d3 rfl rfl (fun w hM=>(aF hF rfl rfl)) fun a hF=>?_
  refine bI hF hch 25 rfl (by kernel_rfl) rfl rfl rfl d3 rfl rfl (fun w hM=>(cO hF rfl rfl rfl)) fun a hF=>?_
  refine aK hF hch 26 rfl (by kernel_rfl) rfl rfl rfl (fun w hM=>(aV hF rfl rfl d3 rfl)) fun a hF=>?_
  refine aK hF hch 27 rfl (by kernel_rfl) rfl rfl rfl (fun w hM=>(aF hF rfl rfl)) fun a hF=>?_
  refine bD 50 hF rfl (fun c5=>?_) (fun c5=>?_)
  ·have hP:=Fx.cT c5 hP
   refine aU hF hch 28 rfl (by kernel_rfl) rfl rfl rfl c5 rfl rfl fun a hF=>?_
   refine aU hF hch 29 rfl (by kernel_rfl) rfl rfl rfl c5 rfl rfl fun a hF=>?_
   refine aU hF hch 30 rfl (by kernel_rfl) rfl rfl rfl c5 rfl rfl fun a hF=>?_
   refine aU hF hch 31 rfl (by kernel_rfl) rfl rfl rfl c5 rfl rfl fun a hF=>?_
   refine aU hF hch 32 rfl (by kernel_rfl) rfl rfl rfl c5 rfl rfl fun a hF=>?_
   refine bW hF hch 33 rfl (by kernel_rfl) rfl rfl rfl rfl rfl fun a hF=>?_
   refine bW hF hch 34 rfl (by kernel_rfl) rfl rfl rfl rfl rfl fun a hF=>?_
   refine bW hF hch 35 rfl (by kernel_rfl) rfl rfl rfl rfl rfl fun a hF=>?_
   refine bW hF hch 36 rfl (by kernel_rfl) rfl rfl rfl rfl rfl fun a hF=>?_
   refine bW hF hch 37 rfl (by kernel_rfl) rfl rfl rfl rfl rfl fun a hF=>?_
   refine bW hF hch 38 rfl (by kernel_rfl) rfl rfl rfl rfl rfl fun a hF=>?_
   refine bW hF hch 39 rfl (by kernel_rfl) rfl rfl rfl rfl rfl fun a hF=>?_
   refine bW hF hch 40 rfl (by kernel_rfl) rfl rfl rfl rfl rfl fun a hF=>?_
   refine bW hF hch 41 rfl (by kernel_rfl) rfl rfl rfl rfl rfl fun a hF=>?_
   refine bW hF hch 42 rfl (by kernel_rfl) rfl rfl rfl rfl rfl fun a hF=>?_
   refine aU hF hch 43 rfl (by kernel_rfl) rfl rfl rfl c5 rfl rfl fun a hF=>?_
   refine aK hF hch 44 rfl (by kernel_rfl) rfl rfl rfl (fun w hM=>(aQ hF rfl rfl c5 rfl)) fun a hF=>?_
   refine bY hch (by kernel_rfl) fun w hM=>?_
   refine aB ?_
   have hP:=Option.some.inj hP
   subst hP
   exact ⟨true,rfl,hF.to ⟨rfl,rfl,rfl,rfl,rfl,rfl,trivial⟩,hM⟩
  have hP:=Fx.cF c5 hP
  refine bI hF hch 28 rfl (by kernel_rfl) rfl rfl rfl c5 rfl rfl (fun w hM=>(aC (off':=6) qU60 rfl in52 rfl hF rfl rfl rfl)) fun a hF=>?_
  refine bI hF hch 29 rfl (by kernel_rfl) rfl rfl rfl c5 rfl rfl (fun w hM=>(aJ qA52 hF rfl rfl (hM.cell (i:=1) rfl (RMark.g_sent _)))) fun a hF=>?_
  refine bI hF hch 30 rfl (by kernel_rfl) rfl rfl rfl c5 rfl rfl (fun w hM=>(bQ (f18 _ (hsub _ (dropM hM 3))) qU52 hF rfl rfl)) fun a hF=>?_
  refine bI hF hch 31 rfl (by kernel_rfl) rfl rfl rfl c5 rfl rfl (fun w hM=>(cZ hF rfl rfl rfl)) fun a hF=>?_
  refine bI hF hch 32 rfl (by kernel_rfl) rfl rfl rfl c5 rfl rfl (fun w hM=>(aF hF rfl rfl)) fun a hF=>?_
  refine bD 55 hF rfl (fun c1=>?_) (fun c1=>?_)
  ·have hP:=Fx.cT c1 hP
   refine bI hF hch 33 rfl (by kernel_rfl) rfl rfl rfl c1 rfl rfl (fun w hM=>(aC (off':=462) qU54 rfl in52 rfl hF rfl rfl rfl)) fun a hF=>?_
   refine bI hF hch 34 rfl (by kernel_rfl) rfl rfl rfl c1 rfl rfl (fun w hM=>(aJ qA52 hF rfl rfl (hM.cell (i:=2) rfl (RState.g_sent _)))) fun a hF=>?_
   refine bI hF hch 35 rfl (by kernel_rfl) rfl rfl rfl c1 rfl rfl (fun w hM=>(aF hF rfl rfl)) fun a hF=>?_
   obtain ⟨k4,g1,hP⟩:=bind_some hP
   have g8:=aM g1
   refine bI hF hch 36 rfl (by kernel_rfl) rfl rfl rfl c1 rfl rfl (fun w hM=>(aY (sz:=1) (f8 _ (hsub _ (dropM hM 3))) qU52 in3 rfl hF rfl rfl rfl (bL g1))) fun a hF=>?_
   refine bI hF hch 37 rfl (by kernel_rfl) rfl rfl rfl c1 rfl rfl (fun w hM=>(aJ qA3 hF rfl rfl ((((f8 _ (hsub _ (dropM hM 3))).elemS g8.2)).get 0 rfl))) fun a hF=>?_
   refine bI hF hch 38 rfl (by kernel_rfl) rfl rfl rfl c1 rfl rfl (fun w hM=>(aC (off':=6) qU60 rfl in52 rfl hF rfl rfl rfl)) fun a hF=>?_
   refine bI hF hch 39 rfl (by kernel_rfl) rfl rfl rfl c1 rfl rfl (fun w hM=>(aJ qA52 hF rfl rfl (hM.cell (i:=1) rfl (RMark.g_sent _)))) fun a hF=>?_
   obtain ⟨k5,g2,hP⟩:=bind_some hP
   have g9:=aM g2
   refine bI hF hch 40 rfl (by kernel_rfl) rfl rfl rfl c1 rfl rfl (fun w hM=>(aY (sz:=1) (f18 _ (hsub _ (dropM hM 3))) qU52 in3 rfl hF rfl rfl rfl (bL g2))) fun a hF=>?_
   refine bI hF hch 41 rfl (by kernel_rfl) rfl rfl rfl c1 rfl rfl (fun w hM=>(aJ qA3 hF rfl rfl ((((f18 _ (hsub _ (dropM hM 3))).elemS g9.2)).get 0 rfl))) fun a hF=>?_
   refine bI hF hch 42 rfl (by kernel_rfl) rfl rfl rfl c1 rfl rfl (fun w hM=>(dD hF rfl rfl rfl)) fun a hF=>?_
   refine bI hF hch 43 rfl (by kernel_rfl) rfl rfl rfl c5 rfl rfl (fun w hM=>(aQ hF rfl rfl c1 rfl)) fun a hF=>?_
   refine aK hF hch 44 rfl (by kernel_rfl) rfl rfl rfl (fun w hM=>(aV hF rfl rfl c5 rfl)) fun a hF=>?_
   refine bY hch (by kernel_rfl) fun w hM=>?_
   refine aB ?_
   have hP:=Option.some.inj hP
   subst hP
   exact ⟨(!decide (k4 = k5)),rfl,hF.to ⟨rfl,rfl,rfl,rfl,rfl,rfl,trivial⟩,hM⟩
  have hP:=Fx.cF c1 hP
  refine aU hF hch 33 rfl (by kernel_rfl) rfl rfl rfl c1 rfl rfl fun a hF=>?_
  refine aU hF hch 34 rfl (by kernel_rfl) rfl rfl rfl c1 rfl rfl fun a hF=>?_
  refine aU hF hch 35 rfl (by kernel_rfl) rfl rfl rfl c1 rfl rfl fun a hF=>?_
  refine aU hF hch 36 rfl (by kernel_rfl) rfl rfl rfl c1 rfl rfl fun a hF=>?_
  refine aU hF hch 37 rfl (by kernel_rfl) rfl rfl rfl c1 rfl rfl fun a hF=>?_
  refine aU hF hch 38 rfl (by kernel_rfl) rfl rfl rfl c1 rfl rfl fun a hF=>?_
  refine aU hF hch 39 rfl (by kernel_rfl) rfl rfl rfl c1 rfl rfl fun a hF=>?_
  refine aU hF hch 40 rfl (by kernel_rfl) rfl rfl rfl c1 rfl rfl fun a hF=>?_
  refine aU hF hch 41 rfl (by kernel_rfl) rfl rfl rfl c1 rfl rfl fun a hF=>?_
  refine aU hF hch 42 rfl (by kernel_rfl) rfl rfl rfl c1 rfl rfl fun a hF=>?_
  refine bI hF hch 43 rfl (by kernel_rfl) rfl rfl rfl c5 rfl rfl (fun w hM=>(aV hF rfl rfl c1 rfl)) fun a hF=>?_
  refine aK hF hch 44 rfl (by kernel_rfl) rfl rfl rfl (fun w hM=>(aV hF rfl rfl c5 rfl)) fun a hF=>?_
  refine bY hch (by kernel_rfl) fun w hM=>?_
  refine aB ?_
  have hP:=Option.some.inj hP
  subst hP
  exact ⟨false,rfl,hF.to ⟨rfl,rfl,rfl,rfl,rfl,rfl,trivial⟩,hM⟩
 rintro d9 a w hP ⟨hF,hM⟩
 replace hP:Sh.pL x0 x1 d9 = _:=hP
 unfold Sh.pL at hP
 refine aB ?_
 refine aS hF (c:=.tmp 67) rfl (fun d8=>?_) (fun d8=>?_)
 ·have hP:=Fx.cT d8 hP
  refine aG ?_
  refine aD ?_
  refine aA hF (cL z54 qU54 pl54 hF (parts:=[]) rfl rfl cV) rfl rfl rfl fun a hF=>?_
  refine bK rfl rfl (bA (vs:=_) qS54 (hM.obj (i:=0) rfl) hF rfl rfl rfl rfl (RState.len _) (RState.one _) (by first | (rw [RState.len,RState.len]; decide) | (rw [RState.len]; decide)) (bG ((RState.len _).trans (RState.len _).symm)) fun w i9=>?_)
  have hM:=hM.chg i9 (i:=0) rfl
  replace hM:MemL _ (pt c4 (RState.enc (RState.mk (⟨List.replicate 11 LVal.zero,rfl⟩ : Vec LVal 11) (⟨List.replicate 32 LSlot.zero,rfl⟩ : Vec LSlot 32) SV.nil SV.nil SV.nil 0 0 false)) 54 :: pt c3 (RMark.enc (RMark.mk x1.at_ x1.next x1.done s9 s11 s13 s17)) 60 :: pt c2 (RState.enc (RState.mk x0.regs x0.stack s1 s3 s7 x0.at_ x0.steps x0.done)) 54 :: Lr):=hM
  refine aA hF (aH hF rfl rfl) rfl rfl rfl fun a hF=>?_
  refine aI (aB ?_)
  refine c_ret ?_
  have hM:=hM.rowNil (X:=UInt8) 0 5
  obtain ⟨i3,hM⟩:=voidM hM
  have k2:Each (LIn (X:=UInt8) i3.holds') ([]:List SV) ([]:List (List UInt8)):=Each.nil
  have hM:=hM.rowNil (X:=SV) 0 23
  have hM:=hM.rowNil (X:=Int) 0 3
  have hP:=Option.some.inj hP
  subst hP
  refine dO (rs:=[.cell 4 54,.tmp 5]) qR62 hF (cC hF rfl qA54 qS54 (RState.len _) (hM.cells (i:=4) rfl (bB (RState.len _))) (cM hF rfl cJ)) rfl ?_
  exact ⟨SV.nil,SV.nil,[],i3,SV.nil,rfl,k2,selM hM [3,1,2,0] 7 rfl⟩
 have hP:=Fx.cF d8 hP
 refine aW (aB ?_)
 refine aG ?_
 refine aD ?_
 refine aA hF (aR qA54 qS54 hF rfl rfl (RState.len _) (hM.cells (i:=2) rfl (bB (RState.len _)))) rfl rfl rfl fun a hF=>?_
 refine aA hF (aR qA60 qS60 hF rfl rfl (RMark.len _) (hM.cells (i:=1) rfl (bB (RMark.len _)))) rfl rfl rfl fun a hF=>?_
 obtain ⟨c0,j9,hP⟩:=bind_some hP
 refine aN hF rfl rfl rfl (aO (xs:=[.tmp 69,.tmp 70,.const (.bool true)]) Tryz.call137 hF rfl rfl (mC j9 hM (Bf:=Bf) (fun w hM=>hsub _ (dropM hM 3)) f2 f5 q6 f8 f10 f12 f15 q16 f18) fun v w hR=>?_)
 obtain ⟨c8,c9,d4,d5,d0,rfl,k3,hM⟩:=hR
 intro a hF
 refine aN hF rfl rfl rfl (bS z54 (zs:=RState.zero.enc) rfl rfl fun d2 w l0 g7=>?_)
 have hM:=hM.plus g7
 replace hM:MemL _ (pt d2 (RState.enc (RState.mk (⟨List.replicate 11 LVal.zero,rfl⟩ : Vec LVal 11) (⟨List.replicate 32 LSlot.zero,rfl⟩ : Vec LSlot 32) SV.nil SV.nil SV.nil 0 0 false)) 54 :: rowL 0 c8 5 c0.ctx :: rowL 0 c9 23 d4 :: d5 :: rowL 0 d0 3 c0.sent :: pt c4 (RState.enc (RState.mk (⟨List.replicate 11 LVal.zero,rfl⟩ : Vec LVal 11) (⟨List.replicate 32 LSlot.zero,rfl⟩ : Vec LSlot 32) SV.nil SV.nil SV.nil 0 0 false)) 54 :: pt c3 (RMark.enc (RMark.mk x1.at_ x1.next x1.done s9 s11 s13 s17)) 60 :: pt c2 (RState.enc (RState.mk x0.regs x0.stack s1 s3 s7 x0.at_ x0.steps x0.done)) 54 :: Lr):=hM
 intro a hF
 refine bK rfl rfl (bA (vs:=_) qS54 (hM.obj (i:=0) rfl) hF rfl rfl rfl rfl (RState.len _) (RState.one _) (by first | (rw [RState.len,RState.len]; decide) | (rw [RState.len]; decide)) (bG ((RState.len _).trans (RState.len _).symm)) fun w j0=>?_)
 have hM:=hM.chg j0 (i:=0) rfl
 replace hM:MemL _ (pt d2 (RState.enc (RState.mk c0.regs c0.stack c8 c9 d0 c0.at_ c0.steps c0.done)) 54 :: rowL 0 c8 5 c0.ctx :: rowL 0 c9 23 d4 :: d5 :: rowL 0 d0 3 c0.sent :: pt c4 (RState.enc (RState.mk (⟨List.replicate 11 LVal.zero,rfl⟩ : Vec LVal 11) (⟨List.replicate 32 LSlot.zero,rfl⟩ : Vec LSlot 32) SV.nil SV.nil SV.nil 0 0 false)) 54 :: pt c3 (RMark.enc (RMark.mk x1.at_ x1.next x1.done s9 s11 s13 s17)) 60 :: pt c2 (RState.enc (RState.mk x0.regs x0.stack s1 s3 s7 x0.at_ x0.steps x0.done)) 54 :: Lr):=hM
 refine aI (aB ?_)
 refine aG ?_
 refine aD ?_
 refine aA hF (aC (off':=0) qU60 rfl in3 rfl hF rfl rfl rfl) rfl rfl rfl fun a hF=>?_
 refine aA hF (aJ qA3 hF rfl rfl (hM.cell (i:=6) rfl (RMark.g_at_ _))) rfl rfl rfl fun a hF=>?_
 refine aA hF (aC (off':=463) qU54 rfl in3 rfl hF rfl rfl rfl) rfl rfl rfl fun a hF=>?_
 refine bK rfl rfl (bT qS3 (hM.obj (i:=0) rfl) hF rfl rfl rfl rfl (by rw [RState.len]; decide) (RState.s_at_ _ _) fun w j1=>?_)
 have hM:=hM.chg j1 (i:=0) rfl
 replace hM:MemL _ (pt d2 (RState.enc (RState.mk c0.regs c0.stack c8 c9 d0 x1.at_ c0.steps c0.done)) 54 :: rowL 0 c8 5 c0.ctx :: rowL 0 c9 23 d4 :: d5 :: rowL 0 d0 3 c0.sent :: pt c4 (RState.enc (RState.mk (⟨List.replicate 11 LVal.zero,rfl⟩ : Vec LVal 11) (⟨List.replicate 32 LSlot.zero,rfl⟩ : Vec LSlot 32) SV.nil SV.nil SV.nil 0 0 false)) 54 :: pt c3 (RMark.enc (RMark.mk x1.at_ x1.next x1.done s9 s11 s13 s17)) 60 :: pt c2 (RState.enc (RState.mk x0.regs x0.stack s1 s3 s7 x0.at_ x0.steps x0.done)) 54 :: Lr):=hM
 refine aI (aB ?_)
 refine aG ?_
 refine aD ?_
 refine aA hF (aC (off':=465) qU54 rfl in4 rfl hF rfl rfl rfl) rfl rfl rfl fun a hF=>?_
 refine bK rfl rfl (bT qS4 (hM.obj (i:=0) rfl) hF rfl rfl rfl rfl (by rw [RState.len]; decide) (RState.s_done _ _) fun w j2=>?_)
 have hM:=hM.chg j2 (i:=0) rfl
 replace hM:MemL _ (pt d2 (RState.enc (RState.mk c0.regs c0.stack c8 c9 d0 x1.at_ c0.steps false)) 54 :: rowL 0 c8 5 c0.ctx :: rowL 0 c9 23 d4 :: d5 :: rowL 0 d0 3 c0.sent :: pt c4 (RState.enc (RState.mk (⟨List.replicate 11 LVal.zero,rfl⟩ : Vec LVal 11) (⟨List.replicate 32 LSlot.zero,rfl⟩ : Vec LSlot 32) SV.nil SV.nil SV.nil 0 0 false)) 54 :: pt c3 (RMark.enc (RMark.mk x1.at_ x1.next x1.done s9 s11 s13 s17)) 60 :: pt c2 (RState.enc (RState.mk x0.regs x0.stack s1 s3 s7 x0.at_ x0.steps x0.done)) 54 :: Lr):=hM
 refine aI (aB ?_)
 refine aG ?_
 refine aD ?_
 refine aA hF (aC (off':=464) qU54 rfl in3 rfl hF rfl rfl rfl) rfl rfl rfl fun a hF=>?_
 refine aA hF (aJ qA3 hF rfl rfl (hM.cell (i:=7) rfl (RState.g_steps _))) rfl rfl rfl fun a hF=>?_
 refine aA hF (eQ hF rfl rfl rfl) rfl rfl rfl fun a hF=>?_
 refine aA hF (aC (off':=464) qU54 rfl in3 rfl hF rfl rfl rfl) rfl rfl rfl fun a hF=>?_
 refine bK rfl rfl (bT qS3 (hM.obj (i:=0) rfl) hF rfl rfl rfl rfl (by rw [RState.len]; decide) (RState.s_steps _ _) fun w j3=>?_)
 have hM:=hM.chg j3 (i:=0) rfl
 replace hM:MemL _ (pt d2 (RState.enc (RState.mk c0.regs c0.stack c8 c9 d0 x1.at_ (IntKind.i64.wrap (x0.steps - 1)) false)) 54 :: rowL 0 c8 5 c0.ctx :: rowL 0 c9 23 d4 :: d5 :: rowL 0 d0 3 c0.sent :: pt c4 (RState.enc (RState.mk (⟨List.replicate 11 LVal.zero,rfl⟩ : Vec LVal 11) (⟨List.replicate 32 LSlot.zero,rfl⟩ : Vec LSlot 32) SV.nil SV.nil SV.nil 0 0 false)) 54 :: pt c3 (RMark.enc (RMark.mk x1.at_ x1.next x1.done s9 s11 s13 s17)) 60 :: pt c2 (RState.enc (RState.mk x0.regs x0.stack s1 s3 s7 x0.at_ x0.steps x0.done)) 54 :: Lr):=hM
 refine aI (aB ?_)
 refine aG ?_
 refine aD ?_
 refine aA hF (aC (off':=462) qU54 rfl in52 rfl hF rfl rfl rfl) rfl rfl rfl fun a hF=>?_
 refine aA hF (aJ qA52 hF rfl rfl (hM.cell (i:=0) rfl (RState.g_sent _))) rfl rfl rfl fun a hF=>?_
 refine aA hF (aF hF rfl rfl) rfl rfl rfl fun a hF=>?_
 obtain ⟨k6,g3,hP⟩:=bind_some hP
 refine aA hF (gM (hM.rowS (X:=Int) (i:=4) rfl) g3 qU52 in3 rfl hF rfl rfl (.inl ⟨rfl,rfl⟩) (.inr ⟨_,_,rfl,rfl⟩)) rfl rfl rfl fun a hF=>?_
 refine aA hF (aC (off':=462) qU54 rfl in52 rfl hF rfl rfl rfl) rfl rfl rfl fun a hF=>?_
 refine bK rfl rfl (bT qS52 (hM.obj (i:=0) rfl) hF rfl rfl rfl rfl (by rw [RState.len]; decide) (RState.s_sent _ _) fun w j4=>?_)
 have hM:=hM.chg j4 (i:=0) rfl
 replace hM:MemL _ (pt d2 (RState.enc (RState.mk c0.regs c0.stack c8 c9 (d0.cut (0:Int).toNat ((IntKind.i64.wrap ((x0.sent.length:Int) - (x1.sent.length:Int))):Int).toNat 1) x1.at_ (IntKind.i64.wrap (x0.steps - 1)) false)) 54 :: rowL 0 c8 5 c0.ctx :: rowL 0 c9 23 d4 :: d5 :: rowL 0 d0 3 c0.sent :: pt c4 (RState.enc (RState.mk (⟨List.replicate 11 LVal.zero,rfl⟩ : Vec LVal 11) (⟨List.replicate 32 LSlot.zero,rfl⟩ : Vec LSlot 32) SV.nil SV.nil SV.nil 0 0 false)) 54 :: pt c3 (RMark.enc (RMark.mk x1.at_ x1.next x1.done s9 s11 s13 s17)) 60 :: pt c2 (RState.enc (RState.mk x0.regs x0.stack s1 s3 s7 x0.at_ x0.steps x0.done)) 54 :: Lr):=hM
 refine aI (aB ?_)
 refine aG ?_
 refine aD ?_
 refine aA hF (aR qA54 qS54 hF rfl rfl (RState.len _) (hM.cells (i:=0) rfl (bB (RState.len _)))) rfl rfl rfl fun a hF=>?_
 refine bK rfl rfl (bA (vs:=_) qS54 (hM.obj (i:=5) rfl) hF rfl rfl rfl rfl (RState.len _) (RState.one _) (by first | (rw [RState.len,RState.len]; decide) | (rw [RState.len]; decide)) (bG ((RState.len _).trans (RState.len _).symm)) fun w j5=>?_)
 have hM:=hM.chg j5 (i:=5) rfl
 refine aA hF (aH hF rfl rfl) rfl rfl rfl fun a hF=>?_
 refine aI (aB ?_)
 refine c_ret ?_
 have hM:=aE0 (sz:=1) hM (i:=4) rfl g3
 replace hM:MemL _ (pt d2 (RState.enc (RState.mk c0.regs c0.stack c8 c9 (d0.cut (0:Int).toNat ((IntKind.i64.wrap ((x0.sent.length:Int) - (x1.sent.length:Int))):Int).toNat 1) x1.at_ (IntKind.i64.wrap (x0.steps - 1)) false)) 54 :: rowL 0 c8 5 c0.ctx :: rowL 0 c9 23 d4 :: d5 :: rowL 0 (d0.cut (0:Int).toNat ((IntKind.i64.wrap ((x0.sent.length:Int) - (x1.sent.length:Int))):Int).toNat 1) 3 k6 :: pt c4 (RState.enc (RState.mk c0.regs c0.stack c8 c9 (d0.cut (0:Int).toNat ((IntKind.i64.wrap ((x0.sent.length:Int) - (x1.sent.length:Int))):Int).toNat 1) x1.at_ (IntKind.i64.wrap (x0.steps - 1)) false)) 54 :: pt c3 (RMark.enc (RMark.mk x1.at_ x1.next x1.done s9 s11 s13 s17)) 60 :: pt c2 (RState.enc (RState.mk x0.regs x0.stack s1 s3 s7 x0.at_ x0.steps x0.done)) 54 :: Lr):=hM
 have hP:=Option.some.inj hP
 subst hP
 refine dO (rs:=[.cell 4 54,.tmp 5]) qR62 hF (cC hF rfl qA54 qS54 (RState.len _) (hM.cells (i:=5) rfl (bB (RState.len _))) (cM hF rfl cJ)) rfl ?_
 exact ⟨c8,c9,d4,d5,(d0.cut (0:Int).toNat ((IntKind.i64.wrap ((x0.sent.length:Int) - (x1.sent.length:Int))):Int).toNat 1),rfl,k3,selM hM [1,2,3,4] 8 rfl⟩
set_option maxHeartbeats 4000000 in
theorem vK {x0:QState} {x1:QMark} {s1:SV} {s3:SV} {hs4:List SV} {s7:SV} {s9:SV} {s11:SV} {s13:SV} {hs14:List RPiece} {s17:SV} {out:Bool} {w0:World} {Bf:World → Prop} {Lr:List Res} (hP:Sh.kL x0 x1 = some out) (hM:MemL w0 (Lr)) (hsub:∀ w,MemL w Lr → Bf w) (f2:LIn Bf s1 x0.ctx) (f5:LIn Bf s3 hs4) (q6:Each (LIn (X:=UInt8) Bf) hs4 x0.tables) (f8:LIn Bf s7 x0.sent) (f10:LIn Bf s9 x1.regs) (f12:LIn Bf s11 x1.slots) (f15:LIn Bf s13 hs14) (q16:Each (QPieceIn Bf) hs14 x1.pieces) (f18:LIn Bf s17 x1.sent):Calls Tryz.prog 19 #[.agg (RState.enc (RState.mk x0.regs x0.stack s1 s3 s7 x0.at_ x0.steps x0.done)).toArray,.agg (RMark.enc (RMark.mk x1.at_ x1.next x1.done s9 s11 s13 s17)).toArray] w0 (Ret fun v w'=>v = .bool out ∧ MemL w' (Lr)):=by
 unfold Sh.kL at hP
 refine aP (vs:=[.agg (RState.enc (RState.mk x0.regs x0.stack s1 s3 s7 x0.at_ x0.steps x0.done)).toArray,.agg (RMark.enc (RMark.mk x1.at_ x1.next x1.done s9 s11 s13 s17)).toArray]) Tryz.func19 rfl Tryz.ntmps19 rfl fun a hF=>?_
 refine aG ?_
 refine aD ?_
 refine aN hF rfl rfl rfl (cW hF rfl rfl rfl fun c3 w z2 n1=>?_)
 have hM:=hM.plus n1
 intro a hF
 refine aN hF rfl rfl rfl (cW hF rfl rfl rfl fun c4 w z3 n2=>?_)
 have hM:=hM.plus n2
 replace hM:MemL _ (pt c4 (RMark.enc (RMark.mk x1.at_ x1.next x1.done s9 s11 s13 s17)) 60 :: pt c3 (RState.enc (RState.mk x0.regs x0.stack s1 s3 s7 x0.at_ x0.steps x0.done)) 54 :: Lr):=hM
 intro a hF
 refine aA hF (aH hF rfl rfl) rfl rfl rfl fun a hF=>?_
 refine aI (aB ?_)
 refine aG ?_
 refine aG ?_
 refine aD ?_
 obtain ⟨c17,p8,hP⟩:=bind_some hP
 refine aN hF rfl rfl rfl (aO (xs:=[]) Tryz.call22 hF rfl rfl (iG p8 hM ) fun v w hR=>?_)
 obtain ⟨rfl,hM⟩:=hR
 replace hM:MemL _ (pt c4 (RMark.enc (RMark.mk x1.at_ x1.next x1.done s9 s11 s13 s17)) 60 :: pt c3 (RState.enc (RState.mk x0.regs x0.stack s1 s3 s7 x0.at_ x0.steps x0.done)) 54 :: Lr):=hM
 intro a hF
 refine aA hF (dE hF rfl rfl) rfl rfl rfl fun a hF=>?_
 refine aI (aB ?_)
 refine aS hF (c:=.tmp 22) rfl (fun l7=>?_) (fun l7=>?_)
 ·have hP:=Fx.cT l7 hP
  refine aG ?_
  refine aD ?_
  refine aA hF (aH hF rfl rfl) rfl rfl rfl fun a hF=>?_
  refine aI (aB ?_)
  refine c_ret ?_
  have hP:=Option.some.inj hP
  subst hP
  refine bE qR19 hF rfl ?_
  exact ⟨rfl,selM hM [] 2 rfl⟩
 have hP:=Fx.cF l7 hP
 refine aW (aB ?_)
 refine aG ?_
 refine aD ?_
 refine aA hF (aR qA54 qS54 hF rfl rfl (RState.len _) (hM.cells (i:=1) rfl (bB (RState.len _)))) rfl rfl rfl fun a hF=>?_
 refine aA hF (aR qA60 qS60 hF rfl rfl (RMark.len _) (hM.cells (i:=0) rfl (bB (RMark.len _)))) rfl rfl rfl fun a hF=>?_
 obtain ⟨c1,p9,hP⟩:=bind_some hP
 refine aN hF rfl rfl rfl (aO (xs:=[.tmp 24,.tmp 25]) Tryz.call52 hF rfl rfl (kO p9 hM (Bf:=Bf) (fun w hM=>hsub _ (dropM hM 2)) f2 f5 q6 f8 f10 f12 f15 q16 f18) fun v w hR=>?_)
 obtain ⟨d1,d2,d9,g9,d3,rfl,n6,hM⟩:=hR
 intro a hF
 refine aA hF (aF hF rfl rfl) rfl rfl rfl fun a hF=>?_
 refine aA hF (dM hF rfl rfl rfl) rfl rfl rfl fun a hF=>?_
 refine aA hF (dM hF rfl rfl rfl) rfl rfl rfl fun a hF=>?_
 refine aN hF rfl rfl rfl (bS z54 (zs:=RState.zero.enc) rfl rfl fun d4 w z4 n3=>?_)
 have hM:=hM.plus n3
 replace hM:MemL _ (pt d4 (RState.enc (RState.mk (⟨List.replicate 11 LVal.zero,rfl⟩ : Vec LVal 11) (⟨List.replicate 32 LSlot.zero,rfl⟩ : Vec LSlot 32) SV.nil SV.nil SV.nil 0 0 false)) 54 :: rowL 0 d1 5 c1.1.ctx :: rowL 0 d2 23 d9 :: g9 :: rowL 0 d3 3 c1.1.sent :: pt c4 (RMark.enc (RMark.mk x1.at_ x1.next x1.done s9 s11 s13 s17)) 60 :: pt c3 (RState.enc (RState.mk x0.regs x0.stack s1 s3 s7 x0.at_ x0.steps x0.done)) 54 :: Lr):=hM
 intro a hF
 refine bK rfl rfl (bA (vs:=_) qS54 (hM.obj (i:=0) rfl) hF rfl rfl rfl rfl (RState.len _) (RState.one _) (by first | (rw [RState.len,RState.len]; decide) | (rw [RState.len]; decide)) (bG ((RState.len _).trans (RState.len _).symm)) fun w p0=>?_)
 have hM:=hM.chg p0 (i:=0) rfl
 replace hM:MemL _ (pt d4 (RState.enc (RState.mk c1.1.regs c1.1.stack d1 d2 d3 c1.1.at_ c1.1.steps c1.1.done)) 54 :: rowL 0 d1 5 c1.1.ctx :: rowL 0 d2 23 d9 :: g9 :: rowL 0 d3 3 c1.1.sent :: pt c4 (RMark.enc (RMark.mk x1.at_ x1.next x1.done s9 s11 s13 s17)) 60 :: pt c3 (RState.enc (RState.mk x0.regs x0.stack s1 s3 s7 x0.at_ x0.steps x0.done)) 54 :: Lr):=hM
 refine aA hF (aH hF rfl rfl) rfl rfl rfl fun a hF=>?_
 refine aI (aB ?_)
 refine aG ?_
 refine aD ?_
 refine aA hF (aR qA54 qS54 hF rfl rfl (RState.len _) (hM.cells (i:=6) rfl (bB (RState.len _)))) rfl rfl rfl fun a hF=>?_
 refine aA hF (aR qA60 qS60 hF rfl rfl (RMark.len _) (hM.cells (i:=5) rfl (bB (RMark.len _)))) rfl rfl rfl fun a hF=>?_
 obtain ⟨c2,t0,hP⟩:=bind_some hP
 refine aN hF rfl rfl rfl (aO (xs:=[.tmp 30,.tmp 31]) Tryz.call61 hF rfl rfl (pK t0 hM (Bf:=Bf) (fun w hM=>hsub _ (dropM hM 7)) f2 f5 q6 f8 f10 f12 f15 q16 f18) fun v w hR=>?_)
 obtain ⟨g1,g2,g8,i3,g3,rfl,c15,hM⟩:=hR
 intro a hF
 refine aA hF (aF hF rfl rfl) rfl rfl rfl fun a hF=>?_
 refine aA hF (dM hF rfl rfl rfl) rfl rfl rfl fun a hF=>?_
 refine aA hF (dM hF rfl rfl rfl) rfl rfl rfl fun a hF=>?_
 refine aN hF rfl rfl rfl (bS z54 (zs:=RState.zero.enc) rfl rfl fun j3 w z5 n4=>?_)
 have hM:=hM.plus n4
 replace hM:MemL _ (pt j3 (RState.enc (RState.mk (⟨List.replicate 11 LVal.zero,rfl⟩ : Vec LVal 11) (⟨List.replicate 32 LSlot.zero,rfl⟩ : Vec LSlot 32) SV.nil SV.nil SV.nil 0 0 false)) 54 :: rowL 0 g1 5 c2.1.ctx :: rowL 0 g2 23 g8 :: i3 :: rowL 0 g3 3 c2.1.sent :: pt d4 (RState.enc (RState.mk c1.1.regs c1.1.stack d1 d2 d3 c1.1.at_ c1.1.steps c1.1.done)) 54 :: rowL 0 d1 5 c1.1.ctx :: rowL 0 d2 23 d9 :: g9 :: rowL 0 d3 3 c1.1.sent :: pt c4 (RMark.enc (RMark.mk x1.at_ x1.next x1.done s9 s11 s13 s17)) 60 :: pt c3 (RState.enc (RState.mk x0.regs x0.stack s1 s3 s7 x0.at_ x0.steps x0.done)) 54 :: Lr):=hM
 intro a hF
 refine bK rfl rfl (bA (vs:=_) qS54 (hM.obj (i:=0) rfl) hF rfl rfl rfl rfl (RState.len _) (RState.one _) (by first | (rw [RState.len,RState.len]; decide) | (rw [RState.len]; decide)) (bG ((RState.len _).trans (RState.len _).symm)) fun w p1=>?_)
 have hM:=hM.chg p1 (i:=0) rfl
 replace hM:MemL _ (pt j3 (RState.enc (RState.mk c2.1.regs c2.1.stack g1 g2 g3 c2.1.at_ c2.1.steps c2.1.done)) 54 :: rowL 0 g1 5 c2.1.ctx :: rowL 0 g2 23 g8 :: i3 :: rowL 0 g3 3 c2.1.sent :: pt d4 (RState.enc (RState.mk c1.1.regs c1.1.stack d1 d2 d3 c1.1.at_ c1.1.steps c1.1.done)) 54 :: rowL 0 d1 5 c1.1.ctx :: rowL 0 d2 23 d9 :: g9 :: rowL 0 d3 3 c1.1.sent :: pt c4 (RMark.enc (RMark.mk x1.at_ x1.next x1.done s9 s11 s13 s17)) 60 :: pt c3 (RState.enc (RState.mk x0.regs x0.stack s1 s3 s7 x0.at_ x0.steps x0.done)) 54 :: Lr):=hM
 refine aA hF (aH hF rfl rfl) rfl rfl rfl fun a hF=>?_
 refine aI (aB ?_)
 refine aG ?_
 refine aD ?_
 refine aA hF (aR qA54 qS54 hF rfl rfl (RState.len _) (hM.cells (i:=11) rfl (bB (RState.len _)))) rfl rfl rfl fun a hF=>?_
 refine aA hF (aR qA60 qS60 hF rfl rfl (RMark.len _) (hM.cells (i:=10) rfl (bB (RMark.len _)))) rfl rfl rfl fun a hF=>?_
 obtain ⟨c0,t1,hP⟩:=bind_some hP
 refine aN hF rfl rfl rfl (aO (xs:=[.tmp 36,.tmp 37]) Tryz.call60 hF rfl rfl (lH t1 hM (Bf:=Bf) (fun w hM=>hsub _ (dropM hM 12)) f2 f5 q6 f8 f10 f12 f15 q16 f18) fun v w hR=>?_)
 obtain ⟨c8,c9,d5,g0,d0,rfl,n7,hM⟩:=hR
 intro a hF
 refine aA hF (aF hF rfl rfl) rfl rfl rfl fun a hF=>?_
 refine aA hF (dM hF rfl rfl rfl) rfl rfl rfl fun a hF=>?_
 refine aA hF (dM hF rfl rfl rfl) rfl rfl rfl fun a hF=>?_
 refine aN hF rfl rfl rfl (bS z54 (zs:=RState.zero.enc) rfl rfl fun c5 w z6 n5=>?_)
 have hM:=hM.plus n5
 replace hM:MemL _ (pt c5 (RState.enc (RState.mk (⟨List.replicate 11 LVal.zero,rfl⟩ : Vec LVal 11) (⟨List.replicate 32 LSlot.zero,rfl⟩ : Vec LSlot 32) SV.nil SV.nil SV.nil 0 0 false)) 54 :: rowL 0 c8 5 c0.1.ctx :: rowL 0 c9 23 d5 :: g0 :: rowL 0 d0 3 c0.1.sent :: pt j3 (RState.enc (RState.mk c2.1.regs c2.1.stack g1 g2 g3 c2.1.at_ c2.1.steps c2.1.done)) 54 :: rowL 0 g1 5 c2.1.ctx :: rowL 0 g2 23 g8 :: i3 :: rowL 0 g3 3 c2.1.sent :: pt d4 (RState.enc (RState.mk c1.1.regs c1.1.stack d1 d2 d3 c1.1.at_ c1.1.steps c1.1.done)) 54 :: rowL 0 d1 5 c1.1.ctx :: rowL 0 d2 23 d9 :: g9 :: rowL 0 d3 3 c1.1.sent :: pt c4 (RMark.enc (RMark.mk x1.at_ x1.next x1.done s9 s11 s13 s17)) 60 :: pt c3 (RState.enc (RState.mk x0.regs x0.stack s1 s3 s7 x0.at_ x0.steps x0.done)) 54 :: Lr):=hM
 intro a hF
 refine bK rfl rfl (bA (vs:=_) qS54 (hM.obj (i:=0) rfl) hF rfl rfl rfl rfl (RState.len _) (RState.one _) (by first | (rw [RState.len,RState.len]; decide) | (rw [RState.len]; decide)) (bG ((RState.len _).trans (RState.len _).symm)) fun w p2=>?_)
 have hM:=hM.chg p2 (i:=0) rfl
 replace hM:MemL _ (pt c5 (RState.enc (RState.mk c0.1.regs c0.1.stack c8 c9 d0 c0.1.at_ c0.1.steps c0.1.done)) 54 :: rowL 0 c8 5 c0.1.ctx :: rowL 0 c9 23 d5 :: g0 :: rowL 0 d0 3 c0.1.sent :: pt j3 (RState.enc (RState.mk c2.1.regs c2.1.stack g1 g2 g3 c2.1.at_ c2.1.steps c2.1.done)) 54 :: rowL 0 g1 5 c2.1.ctx :: rowL 0 g2 23 g8 :: i3 :: rowL 0 g3 3 c2.1.sent :: pt d4 (RState.enc (RState.mk c1.1.regs c1.1.stack d1 d2 d3 c1.1.at_ c1.1.steps c1.1.done)) 54 :: rowL 0 d1 5 c1.1.ctx :: rowL 0 d2 23 d9 :: g9 :: rowL 0 d3 3 c1.1.sent :: pt c4 (RMark.enc (RMark.mk x1.at_ x1.next x1.done s9 s11 s13 s17)) 60 :: pt c3 (RState.enc (RState.mk x0.regs x0.stack s1 s3 s7 x0.at_ x0.steps x0.done)) 54 :: Lr):=hM
 refine aA hF (aH hF rfl rfl) rfl rfl rfl fun a hF=>?_
 refine aI (aB ?_)
 refine aG ?_
 refine aD ?_
 refine aA hF (aR qA54 qS54 hF rfl rfl (RState.len _) (hM.cells (i:=16) rfl (bB (RState.len _)))) rfl rfl rfl fun a hF=>?_
 refine aA hF (aR qA60 qS60 hF rfl rfl (RMark.len _) (hM.cells (i:=15) rfl (bB (RMark.len _)))) rfl rfl rfl fun a hF=>?_
 obtain ⟨d6,t2,hP⟩:=bind_some hP
 refine aN hF rfl rfl rfl (aO (xs:=[.tmp 42,.tmp 43]) Tryz.call62 hF rfl rfl (qF t2 hM (Bf:=Bf) (fun w hM=>hsub _ (dropM hM 17)) f2 f5 q6 f8 f10 f12 f15 q16 f18) fun v w hR=>?_)
 obtain ⟨j4,j5,j2,k1,j6,rfl,c16,hM⟩:=hR
 intro a hF
 refine aA hF (aF hF rfl rfl) rfl rfl rfl fun a hF=>?_
 refine aA hF (dM hF rfl rfl rfl) rfl rfl rfl fun a hF=>?_
 refine aA hF (dM hF rfl rfl rfl) rfl rfl rfl fun a hF=>?_
 refine aN hF rfl rfl rfl (bS z54 (zs:=RState.zero.enc) rfl rfl fun l4 w u1 m3=>?_)
 have hM:=hM.plus m3
 replace hM:MemL _ (pt l4 (RState.enc (RState.mk (⟨List.replicate 11 LVal.zero,rfl⟩ : Vec LVal 11) (⟨List.replicate 32 LSlot.zero,rfl⟩ : Vec LSlot 32) SV.nil SV.nil SV.nil 0 0 false)) 54 :: rowL 0 j4 5 d6.1.ctx :: rowL 0 j5 23 j2 :: k1 :: rowL 0 j6 3 d6.1.sent :: pt c5 (RState.enc (RState.mk c0.1.regs c0.1.stack c8 c9 d0 c0.1.at_ c0.1.steps c0.1.done)) 54 :: rowL 0 c8 5 c0.1.ctx :: rowL 0 c9 23 d5 :: g0 :: rowL 0 d0 3 c0.1.sent :: pt j3 (RState.enc (RState.mk c2.1.regs c2.1.stack g1 g2 g3 c2.1.at_ c2.1.steps c2.1.done)) 54 :: rowL 0 g1 5 c2.1.ctx :: rowL 0 g2 23 g8 :: i3 :: rowL 0 g3 3 c2.1.sent :: pt d4 (RState.enc (RState.mk c1.1.regs c1.1.stack d1 d2 d3 c1.1.at_ c1.1.steps c1.1.done)) 54 :: rowL 0 d1 5 c1.1.ctx :: rowL 0 d2 23 d9 :: g9 :: rowL 0 d3 3 c1.1.sent :: pt c4 (RMark.enc (RMark.mk x1.at_ x1.next x1.done s9 s11 s13 s17)) 60 :: pt c3 (RState.enc (RState.mk x0.regs x0.stack s1 s3 s7 x0.at_ x0.steps x0.done)) 54 :: Lr):=hM
 intro a hF
 refine bK rfl rfl (bA (vs:=_) qS54 (hM.obj (i:=0) rfl) hF rfl rfl rfl rfl (RState.len _) (RState.one _) (by first | (rw [RState.len,RState.len]; decide) | (rw [RState.len]; decide)) (bG ((RState.len _).trans (RState.len _).symm)) fun w p3=>?_)
 have hM:=hM.chg p3 (i:=0) rfl
 replace hM:MemL _ (pt l4 (RState.enc (RState.mk d6.1.regs d6.1.stack j4 j5 j6 d6.1.at_ d6.1.steps d6.1.done)) 54 :: rowL 0 j4 5 d6.1.ctx :: rowL 0 j5 23 j2 :: k1 :: rowL 0 j6 3 d6.1.sent :: pt c5 (RState.enc (RState.mk c0.1.regs c0.1.stack c8 c9 d0 c0.1.at_ c0.1.steps c0.1.done)) 54 :: rowL 0 c8 5 c0.1.ctx :: rowL 0 c9 23 d5 :: g0 :: rowL 0 d0 3 c0.1.sent :: pt j3 (RState.enc (RState.mk c2.1.regs c2.1.stack g1 g2 g3 c2.1.at_ c2.1.steps c2.1.done)) 54 :: rowL 0 g1 5 c2.1.ctx :: rowL 0 g2 23 g8 :: i3 :: rowL 0 g3 3 c2.1.sent :: pt d4 (RState.enc (RState.mk c1.1.regs c1.1.stack d1 d2 d3 c1.1.at_ c1.1.steps c1.1.done)) 54 :: rowL 0 d1 5 c1.1.ctx :: rowL 0 d2 23 d9 :: g9 :: rowL 0 d3 3 c1.1.sent :: pt c4 (RMark.enc (RMark.mk x1.at_ x1.next x1.done s9 s11 s13 s17)) 60 :: pt c3 (RState.enc (RState.mk x0.regs x0.stack s1 s3 s7 x0.at_ x0.steps x0.done)) 54 :: Lr):=hM
 refine aA hF (aH hF rfl rfl) rfl rfl rfl fun a hF=>?_
 refine aI (aB ?_)
 refine aG ?_
 refine aG ?_
 refine aT hF hM hP (fun F x a w=>match x with | m8=>Fr 119 [(54,.bool m8),(10,.int .i64 c0.2),(2,.pointer (some ⟨c3,0,none⟩)),(3,.pointer (some ⟨c4,0,none⟩)),(4,.bool false),(5,.pointer (some ⟨d4,0,none⟩)),(6,.int .i64 c1.2),(9,.pointer (some ⟨c5,0,none⟩))] a ∧ MemL w (pt c5 (RState.enc (RState.mk c0.1.regs c0.1.stack c8 c9 d0 c0.1.at_ c0.1.steps c0.1.done)) 54 :: pt d4 (RState.enc (RState.mk c1.1.regs c1.1.stack d1 d2 d3 c1.1.at_ c1.1.steps c1.1.done)) 54 :: pt c4 (RMark.enc (RMark.mk x1.at_ x1.next x1.done s9 s11 s13 s17)) 60 :: pt c3 (RState.enc (RState.mk x0.regs x0.stack s1 s3 s7 x0.at_ x0.steps x0.done)) 54 :: rowL 0 j4 5 d6.1.ctx :: rowL 0 j5 23 j2 :: k1 :: rowL 0 j6 3 d6.1.sent :: rowL 0 c8 5 c0.1.ctx :: rowL 0 c9 23 d5 :: g0 :: rowL 0 d0 3 c0.1.sent :: rowL 0 g1 5 c2.1.ctx :: rowL 0 g2 23 g8 :: i3 :: rowL 0 g3 3 c2.1.sent :: rowL 0 d1 5 c1.1.ctx :: rowL 0 d2 23 d9 :: g9 :: rowL 0 d3 3 c1.1.sent :: Lr)) (fun c10 hP z7 hF hM=>?_) ?_
 ·refine aD ?_
  refine aA hF (aF hF rfl rfl) rfl rfl rfl fun a hF=>?_
  refine aA hF (aF hF rfl rfl) rfl rfl rfl fun a hF=>?_
  refine aA hF (dD hF rfl rfl rfl) rfl rfl rfl fun a hF=>?_
  refine aA hF (aF hF rfl rfl) rfl rfl rfl fun a hF=>?_
  refine bD 50 hF rfl (fun i0=>?_) (fun i0=>?_)
  ·have hP:=Fx.cT i0 hP
   refine aE hF rfl rfl rfl i0 rfl rfl fun a hF=>?_
   refine aE hF rfl rfl rfl i0 rfl rfl fun a hF=>?_
   refine aE hF rfl rfl rfl i0 rfl rfl fun a hF=>?_
   refine aA hF (aQ hF rfl rfl i0 rfl) rfl rfl rfl fun a hF=>?_
   refine aI (aB ?_)
   have hP:=Option.some.inj hP
   subst hP
   exact ⟨true,rfl,hF.to ⟨rfl,rfl,rfl,rfl,rfl,rfl,rfl,rfl,trivial⟩,selM hM [5,15,20,21,1,2,3,4,6,7,8,9,11,12,13,14,16,17,18,19] 22 rfl⟩
  have hP:=Fx.cF i0 hP
  refine aL hF rfl rfl rfl i0 (aF hF rfl rfl) rfl rfl fun a hF=>?_
  refine aL hF rfl rfl rfl i0 (aF hF rfl rfl) rfl rfl fun a hF=>?_
  refine aL hF rfl rfl rfl i0 (dD hF rfl rfl rfl) rfl rfl fun a hF=>?_
  refine aA hF (aV hF rfl rfl i0 rfl) rfl rfl rfl fun a hF=>?_
  refine aI (aB ?_)
  have hP:=Option.some.inj hP
  subst hP
  exact ⟨(!decide (c0.2 = d6.2)),rfl,hF.to ⟨rfl,rfl,rfl,rfl,rfl,rfl,rfl,rfl,trivial⟩,selM hM [5,15,20,21,1,2,3,4,6,7,8,9,11,12,13,14,16,17,18,19] 22 rfl⟩
 rintro m8 a w hP ⟨hF,hM⟩
 replace hP:Sh.iC x0 x1 c1 c0 m8 = _:=hP
 unfold Sh.iC at hP
 refine aB ?_
 refine aS hF (c:=.tmp 54) rfl (fun l8=>?_) (fun l8=>?_)
 ·have hP:=Fx.cT l8 hP
  refine aG ?_
  refine aD ?_
  refine aA hF (aH hF rfl rfl) rfl rfl rfl fun a hF=>?_
  refine aI (aB ?_)
  refine c_ret ?_
  have hP:=Option.some.inj hP
  subst hP
  refine bE qR19 hF rfl ?_
  exact ⟨rfl,selM hM [] 20 rfl⟩
 have hP:=Fx.cF l8 hP
 refine aW (aB ?_)
 refine aG ?_
 refine aT hF hM hP (fun F x a w=>match x with | _=>Fr 119 [(10,.int .i64 c0.2),(2,.pointer (some ⟨c3,0,none⟩)),(3,.pointer (some ⟨c4,0,none⟩)),(4,.bool false),(9,.pointer (some ⟨c5,0,none⟩))] a ∧ MemL w (pt c5 (RState.enc (RState.mk c0.1.regs c0.1.stack c8 c9 d0 c0.1.at_ c0.1.steps c0.1.done)) 54 :: pt c4 (RMark.enc (RMark.mk x1.at_ x1.next x1.done s9 s11 s13 s17)) 60 :: pt c3 (RState.enc (RState.mk x0.regs x0.stack s1 s3 s7 x0.at_ x0.steps x0.done)) 54 :: rowL 0 c8 5 c0.1.ctx :: rowL 0 c9 23 d5 :: g0 :: rowL 0 d0 3 c0.1.sent :: Lr)) (fun c11 hP n8 hF hM=>?_) ?_
 ·refine aG ?_
  refine aD ?_
  refine aA hF (aF hF rfl rfl) rfl rfl rfl fun a hF=>?_
  refine aA hF (cZ hF rfl rfl rfl) rfl rfl rfl fun a hF=>?_
  refine aI (aB ?_)
  refine aS hF (c:=.tmp 56) rfl (fun l9=>?_) (fun l9=>?_)
  ·have hP:=Fx.cT l9 hP
   refine aG ?_
   refine aD ?_
   refine aA hF (aR qA54 qS54 hF rfl rfl (RState.len _) (hM.cells (i:=1) rfl (bB (RState.len _)))) rfl rfl rfl fun a hF=>?_
   refine aA hF (aR qA60 qS60 hF rfl rfl (RMark.len _) (hM.cells (i:=2) rfl (bB (RMark.len _)))) rfl rfl rfl fun a hF=>?_
   obtain ⟨c6,t3,hP⟩:=bind_some hP
   refine aN hF rfl rfl rfl (aO (xs:=[.tmp 58,.tmp 59]) Tryz.call60 hF rfl rfl (lH t3 hM (fun _ h=>h) (fun w hM=>(hM.rowS (X:=UInt8) (i:=16) rfl)) (fun w hM=>(hM.rowS (X:=SV) (i:=17) rfl)) (n6.mono fun _ _ q=>q.mono fun w hM=>hM.hold 18 _ rfl) (fun w hM=>(hM.rowS (X:=Int) (i:=19) rfl)) (fun w hM=>(f10 _ (hsub _ (dropM hM 20)))) (fun w hM=>(f12 _ (hsub _ (dropM hM 20)))) (fun w hM=>(f15 _ (hsub _ (dropM hM 20)))) (q16.mono fun _ _ q=>q.mono fun w hM=>hsub _ (dropM hM 20)) (fun w hM=>(f18 _ (hsub _ (dropM hM 20))))) fun v w hR=>?_)
   obtain ⟨i4,i5,j9,l0,i6,rfl,u6,hM⟩:=hR
   intro a hF
   refine aA hF (aF hF rfl rfl) rfl rfl rfl fun a hF=>?_
   refine aA hF (dM hF rfl rfl rfl) rfl rfl rfl fun a hF=>?_
   refine aA hF (dM hF rfl rfl rfl) rfl rfl rfl fun a hF=>?_
   refine aN hF rfl rfl rfl (bS z54 (zs:=RState.zero.enc) rfl rfl fun i1 w u2 m4=>?_)
   have hM:=hM.plus m4
   replace hM:MemL _ (pt i1 (RState.enc (RState.mk (⟨List.replicate 11 LVal.zero,rfl⟩ : Vec LVal 11) (⟨List.replicate 32 LSlot.zero,rfl⟩ : Vec LSlot 32) SV.nil SV.nil SV.nil 0 0 false)) 54 :: rowL 0 i4 5 c6.1.ctx :: rowL 0 i5 23 j9 :: l0 :: rowL 0 i6 3 c6.1.sent :: pt c5 (RState.enc (RState.mk c0.1.regs c0.1.stack c8 c9 d0 c0.1.at_ c0.1.steps c0.1.done)) 54 :: pt d4 (RState.enc (RState.mk c1.1.regs c1.1.stack d1 d2 d3 c1.1.at_ c1.1.steps c1.1.done)) 54 :: pt c4 (RMark.enc (RMark.mk x1.at_ x1.next x1.done s9 s11 s13 s17)) 60 :: pt c3 (RState.enc (RState.mk x0.regs x0.stack s1 s3 s7 x0.at_ x0.steps x0.done)) 54 :: rowL 0 j4 5 d6.1.ctx :: rowL 0 j5 23 j2 :: k1 :: rowL 0 j6 3 d6.1.sent :: rowL 0 c8 5 c0.1.ctx :: rowL 0 c9 23 d5 :: g0 :: rowL 0 d0 3 c0.1.sent :: rowL 0 g1 5 c2.1.ctx :: rowL 0 g2 23 g8 :: i3 :: rowL 0 g3 3 c2.1.sent :: rowL 0 d1 5 c1.1.ctx :: rowL 0 d2 23 d9 :: g9 :: rowL 0 d3 3 c1.1.sent :: Lr):=hM
   intro a hF
   refine bK rfl rfl (bA (vs:=_) qS54 (hM.obj (i:=0) rfl) hF rfl rfl rfl rfl (RState.len _) (RState.one _) (by first | (rw [RState.len,RState.len]; decide) | (rw [RState.len]; decide)) (bG ((RState.len _).trans (RState.len _).symm)) fun w p4=>?_)
   have hM:=hM.chg p4 (i:=0) rfl
   replace hM:MemL _ (pt i1 (RState.enc (RState.mk c6.1.regs c6.1.stack i4 i5 i6 c6.1.at_ c6.1.steps c6.1.done)) 54 :: rowL 0 i4 5 c6.1.ctx :: rowL 0 i5 23 j9 :: l0 :: rowL 0 i6 3 c6.1.sent :: pt c5 (RState.enc (RState.mk c0.1.regs c0.1.stack c8 c9 d0 c0.1.at_ c0.1.steps c0.1.done)) 54 :: pt d4 (RState.enc (RState.mk c1.1.regs c1.1.stack d1 d2 d3 c1.1.at_ c1.1.steps c1.1.done)) 54 :: pt c4 (RMark.enc (RMark.mk x1.at_ x1.next x1.done s9 s11 s13 s17)) 60 :: pt c3 (RState.enc (RState.mk x0.regs x0.stack s1 s3 s7 x0.at_ x0.steps x0.done)) 54 :: rowL 0 j4 5 d6.1.ctx :: rowL 0 j5 23 j2 :: k1 :: rowL 0 j6 3 d6.1.sent :: rowL 0 c8 5 c0.1.ctx :: rowL 0 c9 23 d5 :: g0 :: rowL 0 d0 3 c0.1.sent :: rowL 0 g1 5 c2.1.ctx :: rowL 0 g2 23 g8 :: i3 :: rowL 0 g3 3 c2.1.sent :: rowL 0 d1 5 c1.1.ctx :: rowL 0 d2 23 d9 :: g9 :: rowL 0 d3 3 c1.1.sent :: Lr):=hM
   refine aA hF (aH hF rfl rfl) rfl rfl rfl fun a hF=>?_
   refine aI (aB ?_)
   refine aG ?_
   refine aD ?_
   refine aA hF (aR qA54 qS54 hF rfl rfl (RState.len _) (hM.cells (i:=8) rfl (bB (RState.len _)))) rfl rfl rfl fun a hF=>?_
   refine aA hF (aR qA54 qS54 hF rfl rfl (RState.len _) (hM.cells (i:=6) rfl (bB (RState.len _)))) rfl rfl rfl fun a hF=>?_
   obtain ⟨d7,t4,hP⟩:=bind_some hP
   refine aN hF rfl rfl rfl (aO (xs:=[.tmp 64,.tmp 65]) Tryz.call31 hF rfl rfl (jA t4 hM (fun _ h=>h) (fun w hM=>(f2 _ (hsub _ (dropM hM 25)))) (fun w hM=>(f5 _ (hsub _ (dropM hM 25)))) (q6.mono fun _ _ q=>q.mono fun w hM=>hsub _ (dropM hM 25)) (fun w hM=>(f8 _ (hsub _ (dropM hM 25)))) (fun w hM=>(hM.rowS (X:=UInt8) (i:=21) rfl)) (fun w hM=>(hM.rowS (X:=SV) (i:=22) rfl)) (n6.mono fun _ _ q=>q.mono fun w hM=>hM.hold 23 _ rfl) (fun w hM=>(hM.rowS (X:=Int) (i:=24) rfl))) fun v w hR=>?_)
   obtain ⟨k2,k3,k4,l2,l5,k5,rfl,u7,hM⟩:=hR
   intro a hF
   refine aA hF (aF hF rfl rfl) rfl rfl rfl fun a hF=>?_
   refine aA hF (dM hF rfl rfl rfl) rfl rfl rfl fun a hF=>?_
   refine aA hF (dM hF rfl rfl rfl) rfl rfl rfl fun a hF=>?_
   refine aN hF rfl rfl rfl (bS z60 (zs:=RMark.zero.enc) rfl rfl fun j7 w u3 m5=>?_)
   have hM:=hM.plus m5
   replace hM:MemL _ (pt j7 (RMark.enc (RMark.mk 0 0 false SV.nil SV.nil SV.nil SV.nil)) 60 :: rowL 0 k2 128 d7.1.regs :: rowL 0 k3 151 d7.1.slots :: rowL 0 k4 156 l2 :: l5 :: rowL 0 k5 3 d7.1.sent :: pt i1 (RState.enc (RState.mk c6.1.regs c6.1.stack i4 i5 i6 c6.1.at_ c6.1.steps c6.1.done)) 54 :: rowL 0 i4 5 c6.1.ctx :: rowL 0 i5 23 j9 :: l0 :: rowL 0 i6 3 c6.1.sent :: pt c5 (RState.enc (RState.mk c0.1.regs c0.1.stack c8 c9 d0 c0.1.at_ c0.1.steps c0.1.done)) 54 :: pt d4 (RState.enc (RState.mk c1.1.regs c1.1.stack d1 d2 d3 c1.1.at_ c1.1.steps c1.1.done)) 54 :: pt c4 (RMark.enc (RMark.mk x1.at_ x1.next x1.done s9 s11 s13 s17)) 60 :: pt c3 (RState.enc (RState.mk x0.regs x0.stack s1 s3 s7 x0.at_ x0.steps x0.done)) 54 :: rowL 0 j4 5 d6.1.ctx :: rowL 0 j5 23 j2 :: k1 :: rowL 0 j6 3 d6.1.sent :: rowL 0 c8 5 c0.1.ctx :: rowL 0 c9 23 d5 :: g0 :: rowL 0 d0 3 c0.1.sent :: rowL 0 g1 5 c2.1.ctx :: rowL 0 g2 23 g8 :: i3 :: rowL 0 g3 3 c2.1.sent :: rowL 0 d1 5 c1.1.ctx :: rowL 0 d2 23 d9 :: g9 :: rowL 0 d3 3 c1.1.sent :: Lr):=hM
   intro a hF
   refine bK rfl rfl (bA (vs:=_) qS60 (hM.obj (i:=0) rfl) hF rfl rfl rfl rfl (RMark.len _) (RMark.one _) (by first | (rw [RMark.len,RMark.len]; decide) | (rw [RMark.len]; decide)) (bG ((RMark.len _).trans (RMark.len _).symm)) fun w p5=>?_)
   have hM:=hM.chg p5 (i:=0) rfl
   replace hM:MemL _ (pt j7 (RMark.enc (RMark.mk d7.1.at_ d7.1.next d7.1.done k2 k3 k4 k5)) 60 :: rowL 0 k2 128 d7.1.regs :: rowL 0 k3 151 d7.1.slots :: rowL 0 k4 156 l2 :: l5 :: rowL 0 k5 3 d7.1.sent :: pt i1 (RState.enc (RState.mk c6.1.regs c6.1.stack i4 i5 i6 c6.1.at_ c6.1.steps c6.1.done)) 54 :: rowL 0 i4 5 c6.1.ctx :: rowL 0 i5 23 j9 :: l0 :: rowL 0 i6 3 c6.1.sent :: pt c5 (RState.enc (RState.mk c0.1.regs c0.1.stack c8 c9 d0 c0.1.at_ c0.1.steps c0.1.done)) 54 :: pt d4 (RState.enc (RState.mk c1.1.regs c1.1.stack d1 d2 d3 c1.1.at_ c1.1.steps c1.1.done)) 54 :: pt c4 (RMark.enc (RMark.mk x1.at_ x1.next x1.done s9 s11 s13 s17)) 60 :: pt c3 (RState.enc (RState.mk x0.regs x0.stack s1 s3 s7 x0.at_ x0.steps x0.done)) 54 :: rowL 0 j4 5 d6.1.ctx :: rowL 0 j5 23 j2 :: k1 :: rowL 0 j6 3 d6.1.sent :: rowL 0 c8 5 c0.1.ctx :: rowL 0 c9 23 d5 :: g0 :: rowL 0 d0 3 c0.1.sent :: rowL 0 g1 5 c2.1.ctx :: rowL 0 g2 23 g8 :: i3 :: rowL 0 g3 3 c2.1.sent :: rowL 0 d1 5 c1.1.ctx :: rowL 0 d2 23 d9 :: g9 :: rowL 0 d3 3 c1.1.sent :: Lr):=hM
   refine aA hF (aH hF rfl rfl) rfl rfl rfl fun a hF=>?_
   refine aI (aB ?_)
   refine aG ?_
   refine aT hF hM hP (fun F x a w=>match x with | m9=>Fr 119 [(86,.bool m9),(10,.int .i64 c0.2),(2,.pointer (some ⟨c3,0,none⟩)),(3,.pointer (some ⟨c4,0,none⟩)),(4,.bool false),(9,.pointer (some ⟨c5,0,none⟩))] a ∧ MemL w (pt c5 (RState.enc (RState.mk c0.1.regs c0.1.stack c8 c9 d0 c0.1.at_ c0.1.steps c0.1.done)) 54 :: pt c4 (RMark.enc (RMark.mk x1.at_ x1.next x1.done s9 s11 s13 s17)) 60 :: pt c3 (RState.enc (RState.mk x0.regs x0.stack s1 s3 s7 x0.at_ x0.steps x0.done)) 54 :: rowL 0 k2 128 d7.1.regs :: rowL 0 k3 151 d7.1.slots :: rowL 0 k4 156 l2 :: l5 :: rowL 0 k5 3 d7.1.sent :: rowL 0 i4 5 c6.1.ctx :: rowL 0 i5 23 j9 :: l0 :: rowL 0 i6 3 c6.1.sent :: rowL 0 c8 5 c0.1.ctx :: rowL 0 c9 23 d5 :: g0 :: rowL 0 d0 3 c0.1.sent :: rowL 0 d1 5 c1.1.ctx :: rowL 0 d2 23 d9 :: g9 :: rowL 0 d3 3 c1.1.sent :: Lr)) (fun c12 hP z8 hF hM=>?_) ?_
   ·refine aD ?_
    refine aA hF (aF hF rfl rfl) rfl rfl rfl fun a hF=>?_
    refine aA hF (dD hF rfl rfl rfl) rfl rfl rfl fun a hF=>?_
    refine aA hF (aF hF rfl rfl) rfl rfl rfl fun a hF=>?_
    refine bD 71 hF rfl (fun j0=>?_) (fun j0=>?_)
    ·have hP:=Fx.cT j0 hP
     refine aE hF rfl rfl rfl j0 rfl rfl fun a hF=>?_
     refine aE hF rfl rfl rfl j0 rfl rfl fun a hF=>?_
     refine aA hF (aQ hF rfl rfl j0 rfl) rfl rfl rfl fun a hF=>?_
     refine aA hF (aF hF rfl rfl) rfl rfl rfl fun a hF=>?_
     refine aE hF rfl rfl rfl rfl rfl rfl fun a hF=>?_
     refine aE hF rfl rfl rfl rfl rfl rfl fun a hF=>?_
     refine aE hF rfl rfl rfl rfl rfl rfl fun a hF=>?_
     refine aE hF rfl rfl rfl rfl rfl rfl fun a hF=>?_
     refine aA hF (aQ hF rfl rfl rfl rfl) rfl rfl rfl fun a hF=>?_
     refine aA hF (aF hF rfl rfl) rfl rfl rfl fun a hF=>?_
     refine aE hF rfl rfl rfl rfl rfl rfl fun a hF=>?_
     refine aE hF rfl rfl rfl rfl rfl rfl fun a hF=>?_
     refine aE hF rfl rfl rfl rfl rfl rfl fun a hF=>?_
     refine aE hF rfl rfl rfl rfl rfl rfl fun a hF=>?_
     refine aA hF (aQ hF rfl rfl rfl rfl) rfl rfl rfl fun a hF=>?_
     refine aI (aB ?_)
     have hP:=Option.some.inj hP
     subst hP
     exact ⟨true,rfl,hF.to ⟨rfl,rfl,rfl,rfl,rfl,rfl,trivial⟩,selM hM [11,13,14,1,2,3,4,5,7,8,9,10,19,20,21,22,27,28,29,30] 31 rfl⟩
    have hP:=Fx.cF j0 hP
    refine aL hF rfl rfl rfl j0 (aF hF rfl rfl) rfl rfl fun a hF=>?_
    refine aL hF rfl rfl rfl j0 (dD hF rfl rfl rfl) rfl rfl fun a hF=>?_
    refine aA hF (aV hF rfl rfl j0 rfl) rfl rfl rfl fun a hF=>?_
    refine aA hF (aF hF rfl rfl) rfl rfl rfl fun a hF=>?_
    refine bD 75 hF rfl (fun g4=>?_) (fun g4=>?_)
    ·have hP:=Fx.cT g4 hP
     refine aE hF rfl rfl rfl g4 rfl rfl fun a hF=>?_
     refine aE hF rfl rfl rfl g4 rfl rfl fun a hF=>?_
     refine aE hF rfl rfl rfl g4 rfl rfl fun a hF=>?_
     refine aE hF rfl rfl rfl g4 rfl rfl fun a hF=>?_
     refine aA hF (aQ hF rfl rfl g4 rfl) rfl rfl rfl fun a hF=>?_
     refine aA hF (aF hF rfl rfl) rfl rfl rfl fun a hF=>?_
     refine aE hF rfl rfl rfl rfl rfl rfl fun a hF=>?_
     refine aE hF rfl rfl rfl rfl rfl rfl fun a hF=>?_
     refine aE hF rfl rfl rfl rfl rfl rfl fun a hF=>?_
     refine aE hF rfl rfl rfl rfl rfl rfl fun a hF=>?_
     refine aA hF (aQ hF rfl rfl rfl rfl) rfl rfl rfl fun a hF=>?_
     refine aI (aB ?_)
     have hP:=Option.some.inj hP
     subst hP
     exact ⟨true,rfl,hF.to ⟨rfl,rfl,rfl,rfl,rfl,rfl,trivial⟩,selM hM [11,13,14,1,2,3,4,5,7,8,9,10,19,20,21,22,27,28,29,30] 31 rfl⟩
    have hP:=Fx.cF g4 hP
    refine aL hF rfl rfl rfl g4 (aR qA54 qS54 hF rfl rfl (RState.len _) (hM.cells (i:=6) rfl (bB (RState.len _)))) rfl rfl fun a hF=>?_
    refine aL hF rfl rfl rfl g4 (aR qA54 qS54 hF rfl rfl (RState.len _) (hM.cells (i:=14) rfl (bB (RState.len _)))) rfl rfl fun a hF=>?_
    obtain ⟨c18,t5,hP⟩:=bind_some hP
    refine dX hF rfl rfl rfl g4 rfl rfl (aO (xs:=[.tmp 76,.tmp 77]) Tryz.call34 hF rfl rfl (eW t5 hM (fun _ h=>h) (fun w hM=>(hM.rowS (X:=UInt8) (i:=7) rfl)) (fun w hM=>(hM.rowS (X:=SV) (i:=8) rfl)) (u6.mono fun _ _ q=>q.mono fun w hM=>hM.hold 9 _ rfl) (fun w hM=>(hM.rowS (X:=Int) (i:=10) rfl)) (fun w hM=>(f2 _ (hsub _ (dropM hM 31)))) (fun w hM=>(f5 _ (hsub _ (dropM hM 31)))) (q6.mono fun _ _ q=>q.mono fun w hM=>hsub _ (dropM hM 31)) (fun w hM=>(f8 _ (hsub _ (dropM hM 31))))) fun v w hR=>?_)
    obtain ⟨rfl,hM⟩:=hR
    replace hM:MemL _ (pt j7 (RMark.enc (RMark.mk d7.1.at_ d7.1.next d7.1.done k2 k3 k4 k5)) 60 :: rowL 0 k2 128 d7.1.regs :: rowL 0 k3 151 d7.1.slots :: rowL 0 k4 156 l2 :: l5 :: rowL 0 k5 3 d7.1.sent :: pt i1 (RState.enc (RState.mk c6.1.regs c6.1.stack i4 i5 i6 c6.1.at_ c6.1.steps c6.1.done)) 54 :: rowL 0 i4 5 c6.1.ctx :: rowL 0 i5 23 j9 :: l0 :: rowL 0 i6 3 c6.1.sent :: pt c5 (RState.enc (RState.mk c0.1.regs c0.1.stack c8 c9 d0 c0.1.at_ c0.1.steps c0.1.done)) 54 :: pt d4 (RState.enc (RState.mk c1.1.regs c1.1.stack d1 d2 d3 c1.1.at_ c1.1.steps c1.1.done)) 54 :: pt c4 (RMark.enc (RMark.mk x1.at_ x1.next x1.done s9 s11 s13 s17)) 60 :: pt c3 (RState.enc (RState.mk x0.regs x0.stack s1 s3 s7 x0.at_ x0.steps x0.done)) 54 :: rowL 0 j4 5 d6.1.ctx :: rowL 0 j5 23 j2 :: k1 :: rowL 0 j6 3 d6.1.sent :: rowL 0 c8 5 c0.1.ctx :: rowL 0 c9 23 d5 :: g0 :: rowL 0 d0 3 c0.1.sent :: rowL 0 g1 5 c2.1.ctx :: rowL 0 g2 23 g8 :: i3 :: rowL 0 g3 3 c2.1.sent :: rowL 0 d1 5 c1.1.ctx :: rowL 0 d2 23 d9 :: g9 :: rowL 0 d3 3 c1.1.sent :: Lr):=hM
    intro a hF
    refine aL hF rfl rfl rfl g4 (dE hF rfl rfl) rfl rfl fun a hF=>?_
    refine aA hF (aV hF rfl rfl g4 rfl) rfl rfl rfl fun a hF=>?_
    refine aA hF (aF hF rfl rfl) rfl rfl rfl fun a hF=>?_
    refine bD 81 hF rfl (fun g5=>?_) (fun g5=>?_)
    ·have hP:=Fx.cT g5 hP
     refine aE hF rfl rfl rfl g5 rfl rfl fun a hF=>?_
     refine aE hF rfl rfl rfl g5 rfl rfl fun a hF=>?_
     refine aE hF rfl rfl rfl g5 rfl rfl fun a hF=>?_
     refine aE hF rfl rfl rfl g5 rfl rfl fun a hF=>?_
     refine aA hF (aQ hF rfl rfl g5 rfl) rfl rfl rfl fun a hF=>?_
     refine aI (aB ?_)
     have hP:=Option.some.inj hP
     subst hP
     exact ⟨true,rfl,hF.to ⟨rfl,rfl,rfl,rfl,rfl,rfl,trivial⟩,selM hM [11,13,14,1,2,3,4,5,7,8,9,10,19,20,21,22,27,28,29,30] 31 rfl⟩
    have hP:=Fx.cF g5 hP
    refine aL hF rfl rfl rfl g5 (aR qA60 qS60 hF rfl rfl (RMark.len _) (hM.cells (i:=0) rfl (bB (RMark.len _)))) rfl rfl fun a hF=>?_
    refine aL hF rfl rfl rfl g5 (aR qA60 qS60 hF rfl rfl (RMark.len _) (hM.cells (i:=13) rfl (bB (RMark.len _)))) rfl rfl fun a hF=>?_
    obtain ⟨z0,t6,hP⟩:=bind_some hP
    refine dX hF rfl rfl rfl g5 rfl rfl (aO (xs:=[.tmp 82,.tmp 83]) Tryz.call33 hF rfl rfl (eG t6 hM (fun _ h=>h) (fun w hM=>(hM.rowS (X:=LTurn) (i:=1) rfl)) (fun w hM=>(hM.rowS (X:=LCell) (i:=2) rfl)) (fun w hM=>(hM.rowS (X:=RPiece) (i:=3) rfl)) (u7.mono fun _ _ q=>q.mono fun w hM=>hM.hold 4 _ rfl) (fun w hM=>(hM.rowS (X:=Int) (i:=5) rfl)) (fun w hM=>(f10 _ (hsub _ (dropM hM 31)))) (fun w hM=>(f12 _ (hsub _ (dropM hM 31)))) (fun w hM=>(f15 _ (hsub _ (dropM hM 31)))) (q16.mono fun _ _ q=>q.mono fun w hM=>hsub _ (dropM hM 31)) (fun w hM=>(f18 _ (hsub _ (dropM hM 31))))) fun v w hR=>?_)
    obtain ⟨rfl,hM⟩:=hR
    replace hM:MemL _ (pt j7 (RMark.enc (RMark.mk d7.1.at_ d7.1.next d7.1.done k2 k3 k4 k5)) 60 :: rowL 0 k2 128 d7.1.regs :: rowL 0 k3 151 d7.1.slots :: rowL 0 k4 156 l2 :: l5 :: rowL 0 k5 3 d7.1.sent :: pt i1 (RState.enc (RState.mk c6.1.regs c6.1.stack i4 i5 i6 c6.1.at_ c6.1.steps c6.1.done)) 54 :: rowL 0 i4 5 c6.1.ctx :: rowL 0 i5 23 j9 :: l0 :: rowL 0 i6 3 c6.1.sent :: pt c5 (RState.enc (RState.mk c0.1.regs c0.1.stack c8 c9 d0 c0.1.at_ c0.1.steps c0.1.done)) 54 :: pt d4 (RState.enc (RState.mk c1.1.regs c1.1.stack d1 d2 d3 c1.1.at_ c1.1.steps c1.1.done)) 54 :: pt c4 (RMark.enc (RMark.mk x1.at_ x1.next x1.done s9 s11 s13 s17)) 60 :: pt c3 (RState.enc (RState.mk x0.regs x0.stack s1 s3 s7 x0.at_ x0.steps x0.done)) 54 :: rowL 0 j4 5 d6.1.ctx :: rowL 0 j5 23 j2 :: k1 :: rowL 0 j6 3 d6.1.sent :: rowL 0 c8 5 c0.1.ctx :: rowL 0 c9 23 d5 :: g0 :: rowL 0 d0 3 c0.1.sent :: rowL 0 g1 5 c2.1.ctx :: rowL 0 g2 23 g8 :: i3 :: rowL 0 g3 3 c2.1.sent :: rowL 0 d1 5 c1.1.ctx :: rowL 0 d2 23 d9 :: g9 :: rowL 0 d3 3 c1.1.sent :: Lr):=hM
    intro a hF
    refine aL hF rfl rfl rfl g5 (dE hF rfl rfl) rfl rfl fun a hF=>?_
    refine aA hF (aV hF rfl rfl g5 rfl) rfl rfl rfl fun a hF=>?_
    refine aI (aB ?_)
    have hP:=Option.some.inj hP
    subst hP
    exact ⟨(!z0),rfl,hF.to ⟨rfl,rfl,rfl,rfl,rfl,rfl,trivial⟩,selM hM [11,13,14,1,2,3,4,5,7,8,9,10,19,20,21,22,27,28,29,30] 31 rfl⟩
   rintro m9 a w hP ⟨hF,hM⟩
   replace hP:Sh.kX m9 = _:=hP
   unfold Sh.kX at hP
   refine aB ?_
   refine aS hF (c:=.tmp 86) rfl (fun m0=>?_) (fun m0=>?_)
   ·have hP:=Fx.cT m0 hP
    refine aG ?_
    refine aD ?_
    refine aA hF (aH hF rfl rfl) rfl rfl rfl fun a hF=>?_
    refine aI (aB ?_)
    refine c_ret ?_
    have hP:=Option.some.inj hP
    subst hP
    have hP:=cX n8
    subst hP
    refine bE qR19 hF rfl ?_
    exact ⟨rfl,selM hM [] 20 rfl⟩
   have hP:=Fx.cF m0 hP
   refine aW (aB ?_)
   have hP:=Option.some.inj hP
   subst hP
   exact ⟨(),rfl,hF.to ⟨rfl,rfl,rfl,rfl,rfl,trivial⟩,selM hM [0,1,2,12,13,14,15] 20 rfl⟩
  have hP:=Fx.cF l9 hP
  refine aW (aB ?_)
  have hP:=Option.some.inj hP
  subst hP
  exact ⟨(),rfl,hF.to ⟨rfl,rfl,rfl,rfl,rfl,trivial⟩,selM hM [0,2,3,8,9,10,11] 20 rfl⟩
 rintro ⟨⟩ a w hP ⟨hF,hM⟩
 replace hP:Sh.iD x0 x1 c0 = _:=hP
 unfold Sh.iD at hP
 refine aB ?_
 refine aG ?_
 refine aT hF hM hP (fun F x a w=>match x with | _=>Fr 119 [(4,.bool false)] a ∧ MemL w (Lr)) (fun c13 hP n9 hF hM=>?_) ?_
 ·refine aG ?_
  refine aD ?_
  refine aA hF (aF hF rfl rfl) rfl rfl rfl fun a hF=>?_
  refine aA hF (cZ hF rfl rfl rfl) rfl rfl rfl fun a hF=>?_
  refine aI (aB ?_)
  refine aS hF (c:=.tmp 88) rfl (fun m1=>?_) (fun m1=>?_)
  ·have hP:=Fx.cT m1 hP
   refine aG ?_
   refine aD ?_
   refine aA hF (aR qA54 qS54 hF rfl rfl (RState.len _) (hM.cells (i:=0) rfl (bB (RState.len _)))) rfl rfl rfl fun a hF=>?_
   refine aA hF (aR qA60 qS60 hF rfl rfl (RMark.len _) (hM.cells (i:=1) rfl (bB (RMark.len _)))) rfl rfl rfl fun a hF=>?_
   obtain ⟨c7,t7,hP⟩:=bind_some hP
   refine aN hF rfl rfl rfl (aO (xs:=[.tmp 90,.tmp 91]) Tryz.call52 hF rfl rfl (kO t7 hM (fun _ h=>h) (fun w hM=>(hM.rowS (X:=UInt8) (i:=3) rfl)) (fun w hM=>(hM.rowS (X:=SV) (i:=4) rfl)) (n7.mono fun _ _ q=>q.mono fun w hM=>hM.hold 5 _ rfl) (fun w hM=>(hM.rowS (X:=Int) (i:=6) rfl)) (fun w hM=>(f10 _ (hsub _ (dropM hM 7)))) (fun w hM=>(f12 _ (hsub _ (dropM hM 7)))) (fun w hM=>(f15 _ (hsub _ (dropM hM 7)))) (q16.mono fun _ _ q=>q.mono fun w hM=>hsub _ (dropM hM 7)) (fun w hM=>(f18 _ (hsub _ (dropM hM 7))))) fun v w hR=>?_)
   obtain ⟨i7,i8,k0,l1,i9,rfl,u8,hM⟩:=hR
   intro a hF
   refine aA hF (aF hF rfl rfl) rfl rfl rfl fun a hF=>?_
   refine aA hF (dM hF rfl rfl rfl) rfl rfl rfl fun a hF=>?_
   refine aA hF (dM hF rfl rfl rfl) rfl rfl rfl fun a hF=>?_
   refine aN hF rfl rfl rfl (bS z54 (zs:=RState.zero.enc) rfl rfl fun i2 w u4 m6=>?_)
   have hM:=hM.plus m6
   replace hM:MemL _ (pt i2 (RState.enc (RState.mk (⟨List.replicate 11 LVal.zero,rfl⟩ : Vec LVal 11) (⟨List.replicate 32 LSlot.zero,rfl⟩ : Vec LSlot 32) SV.nil SV.nil SV.nil 0 0 false)) 54 :: rowL 0 i7 5 c7.1.ctx :: rowL 0 i8 23 k0 :: l1 :: rowL 0 i9 3 c7.1.sent :: pt c5 (RState.enc (RState.mk c0.1.regs c0.1.stack c8 c9 d0 c0.1.at_ c0.1.steps c0.1.done)) 54 :: pt c4 (RMark.enc (RMark.mk x1.at_ x1.next x1.done s9 s11 s13 s17)) 60 :: pt c3 (RState.enc (RState.mk x0.regs x0.stack s1 s3 s7 x0.at_ x0.steps x0.done)) 54 :: rowL 0 c8 5 c0.1.ctx :: rowL 0 c9 23 d5 :: g0 :: rowL 0 d0 3 c0.1.sent :: Lr):=hM
   intro a hF
   refine bK rfl rfl (bA (vs:=_) qS54 (hM.obj (i:=0) rfl) hF rfl rfl rfl rfl (RState.len _) (RState.one _) (by first | (rw [RState.len,RState.len]; decide) | (rw [RState.len]; decide)) (bG ((RState.len _).trans (RState.len _).symm)) fun w p6=>?_)
   have hM:=hM.chg p6 (i:=0) rfl
   replace hM:MemL _ (pt i2 (RState.enc (RState.mk c7.1.regs c7.1.stack i7 i8 i9 c7.1.at_ c7.1.steps c7.1.done)) 54 :: rowL 0 i7 5 c7.1.ctx :: rowL 0 i8 23 k0 :: l1 :: rowL 0 i9 3 c7.1.sent :: pt c5 (RState.enc (RState.mk c0.1.regs c0.1.stack c8 c9 d0 c0.1.at_ c0.1.steps c0.1.done)) 54 :: pt c4 (RMark.enc (RMark.mk x1.at_ x1.next x1.done s9 s11 s13 s17)) 60 :: pt c3 (RState.enc (RState.mk x0.regs x0.stack s1 s3 s7 x0.at_ x0.steps x0.done)) 54 :: rowL 0 c8 5 c0.1.ctx :: rowL 0 c9 23 d5 :: g0 :: rowL 0 d0 3 c0.1.sent :: Lr):=hM
   refine aA hF (aH hF rfl rfl) rfl rfl rfl fun a hF=>?_
   refine aI (aB ?_)
   refine aG ?_
   refine aD ?_
   refine aA hF (aR qA54 qS54 hF rfl rfl (RState.len _) (hM.cells (i:=5) rfl (bB (RState.len _)))) rfl rfl rfl fun a hF=>?_
   refine aA hF (aR qA54 qS54 hF rfl rfl (RState.len _) (hM.cells (i:=7) rfl (bB (RState.len _)))) rfl rfl rfl fun a hF=>?_
   obtain ⟨d8,t8,hP⟩:=bind_some hP
   refine aN hF rfl rfl rfl (aO (xs:=[.tmp 96,.tmp 97]) Tryz.call31 hF rfl rfl (jA t8 hM (fun _ h=>h) (fun w hM=>(hM.rowS (X:=UInt8) (i:=8) rfl)) (fun w hM=>(hM.rowS (X:=SV) (i:=9) rfl)) (n7.mono fun _ _ q=>q.mono fun w hM=>hM.hold 10 _ rfl) (fun w hM=>(hM.rowS (X:=Int) (i:=11) rfl)) (fun w hM=>(f2 _ (hsub _ (dropM hM 12)))) (fun w hM=>(f5 _ (hsub _ (dropM hM 12)))) (q6.mono fun _ _ q=>q.mono fun w hM=>hsub _ (dropM hM 12)) (fun w hM=>(f8 _ (hsub _ (dropM hM 12))))) fun v w hR=>?_)
   obtain ⟨k6,k7,k8,l3,l6,k9,rfl,u9,hM⟩:=hR
   intro a hF
   refine aA hF (aF hF rfl rfl) rfl rfl rfl fun a hF=>?_
   refine aA hF (dM hF rfl rfl rfl) rfl rfl rfl fun a hF=>?_
   refine aA hF (dM hF rfl rfl rfl) rfl rfl rfl fun a hF=>?_
   refine aN hF rfl rfl rfl (bS z60 (zs:=RMark.zero.enc) rfl rfl fun j8 w u5 m7=>?_)
   have hM:=hM.plus m7
   replace hM:MemL _ (pt j8 (RMark.enc (RMark.mk 0 0 false SV.nil SV.nil SV.nil SV.nil)) 60 :: rowL 0 k6 128 d8.1.regs :: rowL 0 k7 151 d8.1.slots :: rowL 0 k8 156 l3 :: l6 :: rowL 0 k9 3 d8.1.sent :: pt i2 (RState.enc (RState.mk c7.1.regs c7.1.stack i7 i8 i9 c7.1.at_ c7.1.steps c7.1.done)) 54 :: rowL 0 i7 5 c7.1.ctx :: rowL 0 i8 23 k0 :: l1 :: rowL 0 i9 3 c7.1.sent :: pt c5 (RState.enc (RState.mk c0.1.regs c0.1.stack c8 c9 d0 c0.1.at_ c0.1.steps c0.1.done)) 54 :: pt c4 (RMark.enc (RMark.mk x1.at_ x1.next x1.done s9 s11 s13 s17)) 60 :: pt c3 (RState.enc (RState.mk x0.regs x0.stack s1 s3 s7 x0.at_ x0.steps x0.done)) 54 :: rowL 0 c8 5 c0.1.ctx :: rowL 0 c9 23 d5 :: g0 :: rowL 0 d0 3 c0.1.sent :: Lr):=hM
   intro a hF
   refine bK rfl rfl (bA (vs:=_) qS60 (hM.obj (i:=0) rfl) hF rfl rfl rfl rfl (RMark.len _) (RMark.one _) (by first | (rw [RMark.len,RMark.len]; decide) | (rw [RMark.len]; decide)) (bG ((RMark.len _).trans (RMark.len _).symm)) fun w p7=>?_)
   have hM:=hM.chg p7 (i:=0) rfl
   replace hM:MemL _ (pt j8 (RMark.enc (RMark.mk d8.1.at_ d8.1.next d8.1.done k6 k7 k8 k9)) 60 :: rowL 0 k6 128 d8.1.regs :: rowL 0 k7 151 d8.1.slots :: rowL 0 k8 156 l3 :: l6 :: rowL 0 k9 3 d8.1.sent :: pt i2 (RState.enc (RState.mk c7.1.regs c7.1.stack i7 i8 i9 c7.1.at_ c7.1.steps c7.1.done)) 54 :: rowL 0 i7 5 c7.1.ctx :: rowL 0 i8 23 k0 :: l1 :: rowL 0 i9 3 c7.1.sent :: pt c5 (RState.enc (RState.mk c0.1.regs c0.1.stack c8 c9 d0 c0.1.at_ c0.1.steps c0.1.done)) 54 :: pt c4 (RMark.enc (RMark.mk x1.at_ x1.next x1.done s9 s11 s13 s17)) 60 :: pt c3 (RState.enc (RState.mk x0.regs x0.stack s1 s3 s7 x0.at_ x0.steps x0.done)) 54 :: rowL 0 c8 5 c0.1.ctx :: rowL 0 c9 23 d5 :: g0 :: rowL 0 d0 3 c0.1.sent :: Lr):=hM
   refine aA hF (aH hF rfl rfl) rfl rfl rfl fun a hF=>?_
   refine aI (aB ?_)
   refine aG ?_
   refine aT hF hM hP (fun F x a w=>match x with | n0=>Fr 119 [(118,.bool n0),(4,.bool false)] a ∧ MemL w (rowL 0 k6 128 d8.1.regs :: rowL 0 k7 151 d8.1.slots :: rowL 0 k8 156 l3 :: l6 :: rowL 0 k9 3 d8.1.sent :: rowL 0 i7 5 c7.1.ctx :: rowL 0 i8 23 k0 :: l1 :: rowL 0 i9 3 c7.1.sent :: rowL 0 c8 5 c0.1.ctx :: rowL 0 c9 23 d5 :: g0 :: rowL 0 d0 3 c0.1.sent :: Lr)) (fun c14 hP z9 hF hM=>?_) ?_
   ·refine aD ?_
    refine aA hF (aF hF rfl rfl) rfl rfl rfl fun a hF=>?_
    refine aA hF (dD hF rfl rfl rfl) rfl rfl rfl fun a hF=>?_
    refine aA hF (aF hF rfl rfl) rfl rfl rfl fun a hF=>?_
    refine bD 103 hF rfl (fun j1=>?_) (fun j1=>?_)
    ·have hP:=Fx.cT j1 hP
     refine aE hF rfl rfl rfl j1 rfl rfl fun a hF=>?_
     refine aE hF rfl rfl rfl j1 rfl rfl fun a hF=>?_
     refine aA hF (aQ hF rfl rfl j1 rfl) rfl rfl rfl fun a hF=>?_
     refine aA hF (aF hF rfl rfl) rfl rfl rfl fun a hF=>?_
     refine aE hF rfl rfl rfl rfl rfl rfl fun a hF=>?_
     refine aE hF rfl rfl rfl rfl rfl rfl fun a hF=>?_
     refine aE hF rfl rfl rfl rfl rfl rfl fun a hF=>?_
     refine aE hF rfl rfl rfl rfl rfl rfl fun a hF=>?_
     refine aA hF (aQ hF rfl rfl rfl rfl) rfl rfl rfl fun a hF=>?_
     refine aA hF (aF hF rfl rfl) rfl rfl rfl fun a hF=>?_
     refine aE hF rfl rfl rfl rfl rfl rfl fun a hF=>?_
     refine aE hF rfl rfl rfl rfl rfl rfl fun a hF=>?_
     refine aE hF rfl rfl rfl rfl rfl rfl fun a hF=>?_
     refine aE hF rfl rfl rfl rfl rfl rfl fun a hF=>?_
     refine aA hF (aQ hF rfl rfl rfl rfl) rfl rfl rfl fun a hF=>?_
     refine aI (aB ?_)
     have hP:=Option.some.inj hP
     subst hP
     exact ⟨true,rfl,hF.to ⟨rfl,rfl,trivial⟩,selM hM [1,2,3,4,5,7,8,9,10,14,15,16,17] 18 rfl⟩
    have hP:=Fx.cF j1 hP
    refine aL hF rfl rfl rfl j1 (aF hF rfl rfl) rfl rfl fun a hF=>?_
    refine aL hF rfl rfl rfl j1 (dD hF rfl rfl rfl) rfl rfl fun a hF=>?_
    refine aA hF (aV hF rfl rfl j1 rfl) rfl rfl rfl fun a hF=>?_
    refine aA hF (aF hF rfl rfl) rfl rfl rfl fun a hF=>?_
    refine bD 107 hF rfl (fun g6=>?_) (fun g6=>?_)
    ·have hP:=Fx.cT g6 hP
     refine aE hF rfl rfl rfl g6 rfl rfl fun a hF=>?_
     refine aE hF rfl rfl rfl g6 rfl rfl fun a hF=>?_
     refine aE hF rfl rfl rfl g6 rfl rfl fun a hF=>?_
     refine aE hF rfl rfl rfl g6 rfl rfl fun a hF=>?_
     refine aA hF (aQ hF rfl rfl g6 rfl) rfl rfl rfl fun a hF=>?_
     refine aA hF (aF hF rfl rfl) rfl rfl rfl fun a hF=>?_
     refine aE hF rfl rfl rfl rfl rfl rfl fun a hF=>?_
     refine aE hF rfl rfl rfl rfl rfl rfl fun a hF=>?_
     refine aE hF rfl rfl rfl rfl rfl rfl fun a hF=>?_
     refine aE hF rfl rfl rfl rfl rfl rfl fun a hF=>?_
     refine aA hF (aQ hF rfl rfl rfl rfl) rfl rfl rfl fun a hF=>?_
     refine aI (aB ?_)
     have hP:=Option.some.inj hP
     subst hP
     exact ⟨true,rfl,hF.to ⟨rfl,rfl,trivial⟩,selM hM [1,2,3,4,5,7,8,9,10,14,15,16,17] 18 rfl⟩
    have hP:=Fx.cF g6 hP
    refine aL hF rfl rfl rfl g6 (aR qA54 qS54 hF rfl rfl (RState.len _) (hM.cells (i:=6) rfl (bB (RState.len _)))) rfl rfl fun a hF=>?_
    refine aL hF rfl rfl rfl g6 (aR qA54 qS54 hF rfl rfl (RState.len _) (hM.cells (i:=13) rfl (bB (RState.len _)))) rfl rfl fun a hF=>?_
    obtain ⟨c19,t9,hP⟩:=bind_some hP
    refine dX hF rfl rfl rfl g6 rfl rfl (aO (xs:=[.tmp 108,.tmp 109]) Tryz.call34 hF rfl rfl (eW t9 hM (fun _ h=>h) (fun w hM=>(hM.rowS (X:=UInt8) (i:=7) rfl)) (fun w hM=>(hM.rowS (X:=SV) (i:=8) rfl)) (u8.mono fun _ _ q=>q.mono fun w hM=>hM.hold 9 _ rfl) (fun w hM=>(hM.rowS (X:=Int) (i:=10) rfl)) (fun w hM=>(f2 _ (hsub _ (dropM hM 18)))) (fun w hM=>(f5 _ (hsub _ (dropM hM 18)))) (q6.mono fun _ _ q=>q.mono fun w hM=>hsub _ (dropM hM 18)) (fun w hM=>(f8 _ (hsub _ (dropM hM 18))))) fun v w hR=>?_)
    obtain ⟨rfl,hM⟩:=hR
    replace hM:MemL _ (pt j8 (RMark.enc (RMark.mk d8.1.at_ d8.1.next d8.1.done k6 k7 k8 k9)) 60 :: rowL 0 k6 128 d8.1.regs :: rowL 0 k7 151 d8.1.slots :: rowL 0 k8 156 l3 :: l6 :: rowL 0 k9 3 d8.1.sent :: pt i2 (RState.enc (RState.mk c7.1.regs c7.1.stack i7 i8 i9 c7.1.at_ c7.1.steps c7.1.done)) 54 :: rowL 0 i7 5 c7.1.ctx :: rowL 0 i8 23 k0 :: l1 :: rowL 0 i9 3 c7.1.sent :: pt c5 (RState.enc (RState.mk c0.1.regs c0.1.stack c8 c9 d0 c0.1.at_ c0.1.steps c0.1.done)) 54 :: pt c4 (RMark.enc (RMark.mk x1.at_ x1.next x1.done s9 s11 s13 s17)) 60 :: pt c3 (RState.enc (RState.mk x0.regs x0.stack s1 s3 s7 x0.at_ x0.steps x0.done)) 54 :: rowL 0 c8 5 c0.1.ctx :: rowL 0 c9 23 d5 :: g0 :: rowL 0 d0 3 c0.1.sent :: Lr):=hM
    intro a hF
    refine aL hF rfl rfl rfl g6 (dE hF rfl rfl) rfl rfl fun a hF=>?_
    refine aA hF (aV hF rfl rfl g6 rfl) rfl rfl rfl fun a hF=>?_
    refine aA hF (aF hF rfl rfl) rfl rfl rfl fun a hF=>?_
    refine bD 113 hF rfl (fun g7=>?_) (fun g7=>?_)
    ·have hP:=Fx.cT g7 hP
     refine aE hF rfl rfl rfl g7 rfl rfl fun a hF=>?_
     refine aE hF rfl rfl rfl g7 rfl rfl fun a hF=>?_
     refine aE hF rfl rfl rfl g7 rfl rfl fun a hF=>?_
     refine aE hF rfl rfl rfl g7 rfl rfl fun a hF=>?_
     refine aA hF (aQ hF rfl rfl g7 rfl) rfl rfl rfl fun a hF=>?_
     refine aI (aB ?_)
     have hP:=Option.some.inj hP
     subst hP
     exact ⟨true,rfl,hF.to ⟨rfl,rfl,trivial⟩,selM hM [1,2,3,4,5,7,8,9,10,14,15,16,17] 18 rfl⟩
    have hP:=Fx.cF g7 hP
    refine aL hF rfl rfl rfl g7 (aR qA60 qS60 hF rfl rfl (RMark.len _) (hM.cells (i:=0) rfl (bB (RMark.len _)))) rfl rfl fun a hF=>?_
    refine aL hF rfl rfl rfl g7 (aR qA60 qS60 hF rfl rfl (RMark.len _) (hM.cells (i:=12) rfl (bB (RMark.len _)))) rfl rfl fun a hF=>?_
    obtain ⟨z1,u0,hP⟩:=bind_some hP
    refine dX hF rfl rfl rfl g7 rfl rfl (aO (xs:=[.tmp 114,.tmp 115]) Tryz.call33 hF rfl rfl (eG u0 hM (fun _ h=>h) (fun w hM=>(hM.rowS (X:=LTurn) (i:=1) rfl)) (fun w hM=>(hM.rowS (X:=LCell) (i:=2) rfl)) (fun w hM=>(hM.rowS (X:=RPiece) (i:=3) rfl)) (u9.mono fun _ _ q=>q.mono fun w hM=>hM.hold 4 _ rfl) (fun w hM=>(hM.rowS (X:=Int) (i:=5) rfl)) (fun w hM=>(f10 _ (hsub _ (dropM hM 18)))) (fun w hM=>(f12 _ (hsub _ (dropM hM 18)))) (fun w hM=>(f15 _ (hsub _ (dropM hM 18)))) (q16.mono fun _ _ q=>q.mono fun w hM=>hsub _ (dropM hM 18)) (fun w hM=>(f18 _ (hsub _ (dropM hM 18))))) fun v w hR=>?_)
    obtain ⟨rfl,hM⟩:=hR
    replace hM:MemL _ (pt j8 (RMark.enc (RMark.mk d8.1.at_ d8.1.next d8.1.done k6 k7 k8 k9)) 60 :: rowL 0 k6 128 d8.1.regs :: rowL 0 k7 151 d8.1.slots :: rowL 0 k8 156 l3 :: l6 :: rowL 0 k9 3 d8.1.sent :: pt i2 (RState.enc (RState.mk c7.1.regs c7.1.stack i7 i8 i9 c7.1.at_ c7.1.steps c7.1.done)) 54 :: rowL 0 i7 5 c7.1.ctx :: rowL 0 i8 23 k0 :: l1 :: rowL 0 i9 3 c7.1.sent :: pt c5 (RState.enc (RState.mk c0.1.regs c0.1.stack c8 c9 d0 c0.1.at_ c0.1.steps c0.1.done)) 54 :: pt c4 (RMark.enc (RMark.mk x1.at_ x1.next x1.done s9 s11 s13 s17)) 60 :: pt c3 (RState.enc (RState.mk x0.regs x0.stack s1 s3 s7 x0.at_ x0.steps x0.done)) 54 :: rowL 0 c8 5 c0.1.ctx :: rowL 0 c9 23 d5 :: g0 :: rowL 0 d0 3 c0.1.sent :: Lr):=hM
    intro a hF
    refine aL hF rfl rfl rfl g7 (dE hF rfl rfl) rfl rfl fun a hF=>?_
    refine aA hF (aV hF rfl rfl g7 rfl) rfl rfl rfl fun a hF=>?_
    refine aI (aB ?_)
    have hP:=Option.some.inj hP
    subst hP
    exact ⟨(!z1),rfl,hF.to ⟨rfl,rfl,trivial⟩,selM hM [1,2,3,4,5,7,8,9,10,14,15,16,17] 18 rfl⟩
   rintro n0 a w hP ⟨hF,hM⟩
   replace hP:Sh.kZ n0 = _:=hP
   unfold Sh.kZ at hP
   refine aB ?_
   refine aS hF (c:=.tmp 118) rfl (fun m2=>?_) (fun m2=>?_)
   ·have hP:=Fx.cT m2 hP
    refine aG ?_
    refine aD ?_
    refine aA hF (aH hF rfl rfl) rfl rfl rfl fun a hF=>?_
    refine aI (aB ?_)
    refine c_ret ?_
    have hP:=Option.some.inj hP
    subst hP
    have hP:=cX n9
    subst hP
    refine bE qR19 hF rfl ?_
    exact ⟨rfl,selM hM [] 13 rfl⟩
   have hP:=Fx.cF m2 hP
   refine aW (aB ?_)
   have hP:=Option.some.inj hP
   subst hP
   exact ⟨(),rfl,hF.to ⟨rfl,trivial⟩,selM hM [] 13 rfl⟩
  have hP:=Fx.cF m1 hP
  refine aW (aB ?_)
  have hP:=Option.some.inj hP
  subst hP
  exact ⟨(),rfl,hF.to ⟨rfl,trivial⟩,selM hM [] 7 rfl⟩
 rintro ⟨⟩ a w hP ⟨hF,hM⟩
 replace hP:Sh.kY = _:=hP
 unfold Sh.kY at hP
 refine aB ?_
 refine aG ?_
 refine aD ?_
 refine aA hF (aH hF rfl rfl) rfl rfl rfl fun a hF=>?_
 refine aI (aB ?_)
 refine c_ret ?_
 have hP:=Option.some.inj hP
 subst hP
 refine bE qR19 hF rfl ?_
 exact ⟨rfl,hM⟩
end Go.Proofs
end
