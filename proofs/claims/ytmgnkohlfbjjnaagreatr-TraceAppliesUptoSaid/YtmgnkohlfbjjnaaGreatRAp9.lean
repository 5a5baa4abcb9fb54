/- Ground for this claim: The call of TraceApplies returns true. Condition: the arguments are of bulk at most 1048576. -/
import Derived.Test.YtmgnkohlfbjjnaaGreatRAp8
set_option linter.unusedVariables false
set_option linter.unusedSimpArgs false
section
namespace Go.Proofs
open Go.Fw Go.Fx
set_option maxRecDepth 10000
set_option maxHeartbeats 40000000 in
theorem uW {x0:QState} {x1:QMark} {s1:SV} {s3:SV} {hs4:List SV} {s7:SV} {s9:SV} {s11:SV} {s13:SV} {hs14:List RPiece} {s17:SV} {out:Bool} {w0:World} {Bf:World → Prop} {Lr:List Res} (hP:Sh.mC x0 x1 = some out) (hM:MemL w0 (Lr)) (hsub:∀ w,MemL w Lr → Bf w) (f2:LIn Bf s1 x0.ctx) (f5:LIn Bf s3 hs4) (q6:Each (LIn (X:=UInt8) Bf) hs4 x0.tables) (f8:LIn Bf s7 x0.sent) (f10:LIn Bf s9 x1.regs) (f12:LIn Bf s11 x1.slots) (f15:LIn Bf s13 hs14) (q16:Each (QPieceIn Bf) hs14 x1.pieces) (f18:LIn Bf s17 x1.sent):Calls Tryz.prog 18 #[.agg (RState.enc (mSt x0 s1 s3 s7)).toArray,.agg (RMark.enc (mMk x1 s9 s11 s13 s17)).toArray] w0 (Ret fun v w'=>v = .bool out ∧ MemL w' (Lr)):=by
 unfold Sh.mC at hP
 refine aR (vs:=[.agg (RState.enc (mSt x0 s1 s3 s7)).toArray,.agg (RMark.enc (mMk x1 s9 s11 s13 s17)).toArray]) Tryz.func18 rfl Tryz.ntmps18 rfl fun a hF=>?_
 refine aG ?_
 refine aD ?_
 refine aO hF rfl rfl rfl (dA hF rfl rfl rfl fun c7 w c36 t6=>?_)
 have hM:=hM.plus t6
 intro a hF
 refine aO hF rfl rfl rfl (dA hF rfl rfl rfl fun c8 w c37 t7=>?_)
 have hM:=hM.plus t7
 replace hM:MemL _ (pt c8 (RMark.enc (mMk x1 s9 s11 s13 s17)) 60 :: pt c7 (RState.enc (mSt x0 s1 s3 s7)) 54 :: Lr):=hM
 intro a hF
 refine aA hF (aH hF rfl rfl) rfl rfl rfl fun a hF=>?_
 refine aJ (aB ?_)
 refine aG ?_
 refine aG ?_
 refine aD ?_
 obtain ⟨c46,z7,hP⟩:=bind_some hP
 refine aO hF rfl rfl rfl (aN (xs:=[]) Tryz.call22 hF rfl rfl (gL z7 hM ) fun v w hR=>?_)
 obtain ⟨rfl,hM⟩:=hR
 replace hM:MemL _ (pt c8 (RMark.enc (mMk x1 s9 s11 s13 s17)) 60 :: pt c7 (RState.enc (mSt x0 s1 s3 s7)) 54 :: Lr):=hM
 intro a hF
 refine aA hF (dE hF rfl rfl) rfl rfl rfl fun a hF=>?_
 refine aJ (aB ?_)
 refine aV hF (c:=.tmp 16) rfl (fun p4=>?_) (fun p4=>?_)
 ·have hP:=Fx.cT p4 hP
  refine aG ?_
  refine aD ?_
  refine aA hF (aH hF rfl rfl) rfl rfl rfl fun a hF=>?_
  refine aJ (aB ?_)
  refine c_ret ?_
  have hP:=oI hP
  subst hP
  refine bH Tryz.results18 hF rfl ?_
  exact ⟨rfl,selM hM [] 2 rfl⟩
 have hP:=Fx.cF p4 hP
 refine aW (aB ?_)
 refine aG ?_
 refine aU hF hM hP (fun F x a w=>match x with | (c6,d4)=>∃ (m1:Nat) (j3:SV) (i8:SV) (g3:List SV) (j5:SV) (m2:Nat) (k5:SV) (l9:SRes) (k6:SV) (l2:SRes) (k7:SV) (n9:List RPiece) (k9:SRes) (k8:SV) (l0:SRes),Each (LIn (X:=UInt8) (packR g3 c6.tables).holds') g3 c6.tables ∧ LRm l9.r.holds' k5 d4.regs spTurn ∧ LRm l2.r.holds' k6 d4.slots spCell ∧ LRm k9.r.holds' k7 n9 hspPiece ∧ Each (QPieceRm k9.r.holds') n9 d4.pieces ∧ LRm l0.r.holds' k8 d4.sent spInt ∧ Fr 94 [(5,.pointer (some ⟨m1,0,none⟩)),(6,.pointer (some ⟨m2,0,none⟩)),(2,.pointer (some ⟨c7,0,none⟩)),(3,.pointer (some ⟨c8,0,none⟩)),(4,.bool false)] a ∧ MemL w (pt m1 (RState.enc (mSt c6 j3 i8 j5)) 54 :: rowL 0 j3 5 c6.ctx :: rowL 0 i8 23 g3 :: (packR g3 c6.tables) :: rowL 0 j5 3 c6.sent :: pt m2 (RMark.enc (mMk d4 k5 k6 k7 k8)) 60 :: l9.r :: l2.r :: k9.r :: l0.r :: pt c8 (RMark.enc (mMk x1 s9 s11 s13 s17)) 60 :: pt c7 (RState.enc (mSt x0 s1 s3 s7)) 54 :: Lr)) (fun c43 hP c40 hF hM=>?_) ?_
 ·refine bL mixed (by kernel_rfl) hM [0,1] 2 rfl fun hch=>?_
  refine aK hF hch 0 rfl (by kernel_rfl) rfl rfl rfl (fun w hM=>(aQ qA54 qS54 hF rfl rfl (RState.len _) (hM.cells (i:=1) rfl (bA (RState.len _))))) fun a hF=>?_
  refine aK hF hch 2 rfl (by kernel_rfl) rfl rfl rfl (fun w hM=>(aQ qA60 qS60 hF rfl rfl (RMark.len _) (hM.cells (i:=0) rfl (bA (RMark.len _))))) fun a hF=>?_
  refine sJ hch 1 4 5 (by kernel_rfl) rfl rfl ?_ ?_ ?_
  ·refine bV hF 1 rfl rfl rfl rfl rfl fun w hMs hM=>?_
   obtain ⟨c0,n3,hP⟩:=bind_some hP
   refine (aN (xs:=[.tmp 17]) qC30 hF rfl rfl (eZ n3 hM (Bf:=Bf) (fun w hM=>hsub _ (dropM hM 2)) f2 f5 q6 f8) fun v w hR=>?_)
   obtain ⟨d1,d2,c3,d3,rfl,m7,hM⟩:=hR
   replace hM:MemL _ (rowL 0 d1 5 c0.ctx :: rowL 0 d2 23 c3 :: (packR c3 c0.tables) :: rowL 0 d3 3 c0.sent :: pt c8 (RMark.enc (mMk x1 s9 s11 s13 s17)) 60 :: pt c7 (RState.enc (mSt x0 s1 s3 s7)) 54 :: Lr):=hM
   have hMs:=selM hM [0,1,2,3,4,5] 6 rfl
   refine ⟨_,_,hMs,hM,.inl fun _ h=>dropM h 4,fun a hF=>?_⟩
   refine sJ hch 3 4 5 (by kernel_rfl) rfl rfl ?_ ?_ ?_
   ·refine bV hF 3 rfl rfl rfl rfl rfl fun w hMs hM=>?_
    obtain ⟨d9,k4,hP⟩:=bind_some hP
    refine (aN (xs:=[.tmp 19]) qC59 hF rfl rfl (dQ k4 hM (Bf:=Bf) (fun w hM=>hsub _ (dropM hM 6)) f10 f12 f15 q16 f18) fun v w hR=>?_)
    obtain ⟨i9,d5,j0,d6,j1,k1,d7,j2,d8,rfl,l4,l5,l6,l8,l7,hM⟩:=hR
    replace hM:MemL _ (d5.r :: d6.r :: d7.r :: d8.r :: rowL 0 d1 5 c0.ctx :: rowL 0 d2 23 c3 :: (packR c3 c0.tables) :: rowL 0 d3 3 c0.sent :: pt c8 (RMark.enc (mMk x1 s9 s11 s13 s17)) 60 :: pt c7 (RState.enc (mSt x0 s1 s3 s7)) 54 :: Lr):=hM
    have hMs:=selM hM [0,1,2,3,4,5,6,7,8,9] 10 rfl
    refine ⟨_,_,hMs,hM,.inl fun _ h=>dropM h 4,fun a hF=>?_⟩
    refine fP hch 4 5 (by kernel_rfl) rfl rfl ?_ ?_
    ·refine bV hF 4 rfl rfl rfl rfl rfl fun w hMs hM=>?_
     refine (bO z54 (zs:=RState.zero.enc) rfl rfl fun c9 w m8 j6=>?_)
     have hM:=hM.plus j6
     replace hM:MemL _ (pt c9 (RState.enc zSt) 54 :: d5.r :: d6.r :: d7.r :: d8.r :: rowL 0 d1 5 c0.ctx :: rowL 0 d2 23 c3 :: (packR c3 c0.tables) :: rowL 0 d3 3 c0.sent :: pt c8 (RMark.enc (mMk x1 s9 s11 s13 s17)) 60 :: pt c7 (RState.enc (mSt x0 s1 s3 s7)) 54 :: Lr):=hM
     have hMs:=selM hM [0,1,2,3,4,5,6,7,8,9,10] 11 rfl
     refine ⟨_,_,hMs,hM,.inl fun _ h=>dropM h 1,fun a hF=>?_⟩
     refine bC hch 5 (by kernel_rfl) rfl rfl ?_
     refine bV hF 5 rfl rfl rfl rfl rfl fun w hMs hM=>?_
     refine (bO z60 (zs:=RMark.zero.enc) rfl rfl fun d0 w m9 j7=>?_)
     have hM:=hM.plus j7
     replace hM:MemL _ (pt d0 (RMark.enc zMk) 60 :: pt c9 (RState.enc zSt) 54 :: d5.r :: d6.r :: d7.r :: d8.r :: rowL 0 d1 5 c0.ctx :: rowL 0 d2 23 c3 :: (packR c3 c0.tables) :: rowL 0 d3 3 c0.sent :: pt c8 (RMark.enc (mMk x1 s9 s11 s13 s17)) 60 :: pt c7 (RState.enc (mSt x0 s1 s3 s7)) 54 :: Lr):=hM
     have hMs:=selM hM [0,1,2,3,4,5,6,7,8,9,10,11] 12 rfl
     refine ⟨_,_,hMs,hM,.inl fun _ h=>dropM h 1,fun a hF=>?_⟩
     refine bC hch 6 (by kernel_rfl) rfl rfl ?_
     refine cO 6 rfl rfl rfl rfl fun w hMs hM=>?_
     refine (aY (vs:=_) qS54 (hM.obj (i:=1) rfl) hF rfl rfl rfl rfl (RState.len _) (RState.one _) (by first | (rw [RState.len,RState.len]; decide) | (rw [RState.len]; decide)) (bF ((RState.len _).trans (RState.len _).symm)) fun w j8=>?_)
     have hM:=hM.chg j8 (i:=1) rfl
     replace hM:MemL _ (pt d0 (RMark.enc zMk) 60 :: pt c9 (RState.enc (mSt c0 d1 d2 d3)) 54 :: d5.r :: d6.r :: d7.r :: d8.r :: rowL 0 d1 5 c0.ctx :: rowL 0 d2 23 c3 :: (packR c3 c0.tables) :: rowL 0 d3 3 c0.sent :: pt c8 (RMark.enc (mMk x1 s9 s11 s13 s17)) 60 :: pt c7 (RState.enc (mSt x0 s1 s3 s7)) 54 :: Lr):=hM
     have hMs:=hM
     refine ⟨_,_,hMs,hM,.inr (by kernel_rfl),?_⟩
     refine bC hch 7 (by kernel_rfl) rfl rfl ?_
     refine cO 7 rfl rfl rfl rfl fun w hMs hM=>?_
     refine (aY (vs:=_) qS60 (hM.obj (i:=0) rfl) hF rfl rfl rfl rfl (RMark.len _) (RMark.one _) (by first | (rw [RMark.len,RMark.len]; decide) | (rw [RMark.len]; decide)) (bF ((RMark.len _).trans (RMark.len _).symm)) fun w j9=>?_)
     have hM:=hM.chg j9 (i:=0) rfl
     replace hM:MemL _ (pt d0 (RMark.enc (mMk d9 i9 j0 j1 j2)) 60 :: pt c9 (RState.enc (mSt c0 d1 d2 d3)) 54 :: d5.r :: d6.r :: d7.r :: d8.r :: rowL 0 d1 5 c0.ctx :: rowL 0 d2 23 c3 :: (packR c3 c0.tables) :: rowL 0 d3 3 c0.sent :: pt c8 (RMark.enc (mMk x1 s9 s11 s13 s17)) 60 :: pt c7 (RState.enc (mSt x0 s1 s3 s7)) 54 :: Lr):=hM
     have hMs:=hM
     refine ⟨_,_,hMs,hM,.inr (by kernel_rfl),?_⟩
     refine bW hch (by kernel_rfl) fun w hM=>?_
     refine aB ?_
     have hP:=oI hP
     subst hP
     exact ⟨(c0,d9),rfl,c9,d1,d2,c3,d3,d0,i9,d5,j0,d6,j1,k1,d7,j2,d8,m7,l4,l5,l6,l8,l7,hF.to ⟨rfl,rfl,rfl,rfl,rfl,trivial⟩,selM hM [1,6,7,8,9,0,2,3,4,5,10,11] 12 rfl⟩
    refine bV hF 5 rfl rfl rfl rfl rfl fun w hMs hM=>?_
    refine (bO z60 (zs:=RMark.zero.enc) rfl rfl fun d0 w m9 j7=>?_)
    have hM:=hM.plus j7
    replace hM:MemL _ (pt d0 (RMark.enc zMk) 60 :: d5.r :: d6.r :: d7.r :: d8.r :: rowL 0 d1 5 c0.ctx :: rowL 0 d2 23 c3 :: (packR c3 c0.tables) :: rowL 0 d3 3 c0.sent :: pt c8 (RMark.enc (mMk x1 s9 s11 s13 s17)) 60 :: pt c7 (RState.enc (mSt x0 s1 s3 s7)) 54 :: Lr):=hM
    have hMs:=selM hM [0,1,2,3,4,5,6,7,8,9,10] 11 rfl
    refine ⟨_,_,hMs,hM,.inl fun _ h=>dropM h 1,fun a hF=>?_⟩
    refine bC hch 4 (by kernel_rfl) rfl rfl ?_
    refine bV hF 4 rfl rfl rfl rfl rfl fun w hMs hM=>?_
    refine (bO z54 (zs:=RState.zero.enc) rfl rfl fun c9 w m8 j6=>?_)
    have hM:=hM.plus j6
    replace hM:MemL _ (pt c9 (RState.enc zSt) 54 :: pt d0 (RMark.enc zMk) 60 :: d5.r :: d6.r :: d7.r :: d8.r :: rowL 0 d1 5 c0.ctx :: rowL 0 d2 23 c3 :: (packR c3 c0.tables) :: rowL 0 d3 3 c0.sent :: pt c8 (RMark.enc (mMk x1 s9 s11 s13 s17)) 60 :: pt c7 (RState.enc (mSt x0 s1 s3 s7)) 54 :: Lr):=hM
    have hMs:=selM hM [0,1,2,3,4,5,6,7,8,9,10,11] 12 rfl
    refine ⟨_,_,hMs,hM,.inl fun _ h=>dropM h 1,fun a hF=>?_⟩
    refine bC hch 6 (by kernel_rfl) rfl rfl ?_
    refine cO 6 rfl rfl rfl rfl fun w hMs hM=>?_
    refine (aY (vs:=_) qS54 (hM.obj (i:=0) rfl) hF rfl rfl rfl rfl (RState.len _) (RState.one _) (by first | (rw [RState.len,RState.len]; decide) | (rw [RState.len]; decide)) (bF ((RState.len _).trans (RState.len _).symm)) fun w j8=>?_)
    have hM:=hM.chg j8 (i:=0) rfl
    replace hM:MemL _ (pt c9 (RState.enc (mSt c0 d1 d2 d3)) 54 :: pt d0 (RMark.enc zMk) 60 :: d5.r :: d6.r :: d7.r :: d8.r :: rowL 0 d1 5 c0.ctx :: rowL 0 d2 23 c3 :: (packR c3 c0.tables) :: rowL 0 d3 3 c0.sent :: pt c8 (RMark.enc (mMk x1 s9 s11 s13 s17)) 60 :: pt c7 (RState.enc (mSt x0 s1 s3 s7)) 54 :: Lr):=hM
    have hMs:=hM
    refine ⟨_,_,hMs,hM,.inr (by kernel_rfl),?_⟩
    refine bC hch 7 (by kernel_rfl) rfl rfl ?_
    refine cO 7 rfl rfl rfl rfl fun w hMs hM=>?_
    refine (aY (vs:=_) qS60 (hM.obj (i:=1) rfl) hF rfl rfl rfl rfl (RMark.len _) (RMark.one _) (by first | (rw [RMark.len,RMark.len]; decide) | (rw [RMark.len]; decide)) (bF ((RMark.len _).trans (RMark.len _).symm)) fun w j9=>?_)
    have hM:=hM.chg j9 (i:=1) rfl
    replace hM:MemL _ (pt c9 (RState.enc (mSt c0 d1 d2 d3)) 54 :: pt d0 (RMark.enc (mMk d9 i9 j0 j1 j2)) 60 :: d5.r :: d6.r :: d7.r :: d8.r :: rowL 0 d1 5 c0.ctx :: rowL 0 d2 23 c3 :: (packR c3 c0.tables) :: rowL 0 d3 3 c0.sent :: pt c8 (RMark.enc (mMk x1 s9 s11 s13 s17)) 60 :: pt c7 (RState.enc (mSt x0 s1 s3 s7)) 54 :: Lr):=hM
    have hMs:=hM
    refine ⟨_,_,hMs,hM,.inr (by kernel_rfl),?_⟩
    refine bW hch (by kernel_rfl) fun w hM=>?_
    refine aB ?_
    have hP:=oI hP
    subst hP
    exact ⟨(c0,d9),rfl,c9,d1,d2,c3,d3,d0,i9,d5,j0,d6,j1,k1,d7,j2,d8,m7,l4,l5,l6,l8,l7,hF.to ⟨rfl,rfl,rfl,rfl,rfl,trivial⟩,selM hM [0,6,7,8,9,1,2,3,4,5,10,11] 12 rfl⟩
   ·refine bV hF 4 rfl rfl rfl rfl rfl fun w hMs hM=>?_
    refine (bO z54 (zs:=RState.zero.enc) rfl rfl fun c9 w m8 j6=>?_)
    have hM:=hM.plus j6
    replace hM:MemL _ (pt c9 (RState.enc zSt) 54 :: rowL 0 d1 5 c0.ctx :: rowL 0 d2 23 c3 :: (packR c3 c0.tables) :: rowL 0 d3 3 c0.sent :: pt c8 (RMark.enc (mMk x1 s9 s11 s13 s17)) 60 :: pt c7 (RState.enc (mSt x0 s1 s3 s7)) 54 :: Lr):=hM
    have hMs:=selM hM [0,1,2,3,4,5,6] 7 rfl
    refine ⟨_,_,hMs,hM,.inl fun _ h=>dropM h 1,fun a hF=>?_⟩
    refine fP hch 3 5 (by kernel_rfl) rfl rfl ?_ ?_
    ·refine bV hF 3 rfl rfl rfl rfl rfl fun w hMs hM=>?_
     obtain ⟨d9,k4,hP⟩:=bind_some hP
     refine (aN (xs:=[.tmp 19]) qC59 hF rfl rfl (dQ k4 hM (Bf:=Bf) (fun w hM=>hsub _ (dropM hM 7)) f10 f12 f15 q16 f18) fun v w hR=>?_)
     obtain ⟨i9,d5,j0,d6,j1,k1,d7,j2,d8,rfl,l4,l5,l6,l8,l7,hM⟩:=hR
     replace hM:MemL _ (d5.r :: d6.r :: d7.r :: d8.r :: pt c9 (RState.enc zSt) 54 :: rowL 0 d1 5 c0.ctx :: rowL 0 d2 23 c3 :: (packR c3 c0.tables) :: rowL 0 d3 3 c0.sent :: pt c8 (RMark.enc (mMk x1 s9 s11 s13 s17)) 60 :: pt c7 (RState.enc (mSt x0 s1 s3 s7)) 54 :: Lr):=hM
     have hMs:=selM hM [0,1,2,3,4,5,6,7,8,9,10] 11 rfl
     refine ⟨_,_,hMs,hM,.inl fun _ h=>dropM h 4,fun a hF=>?_⟩
     refine bC hch 5 (by kernel_rfl) rfl rfl ?_
     refine bV hF 5 rfl rfl rfl rfl rfl fun w hMs hM=>?_
     refine (bO z60 (zs:=RMark.zero.enc) rfl rfl fun d0 w m9 j7=>?_)
     have hM:=hM.plus j7
     replace hM:MemL _ (pt d0 (RMark.enc zMk) 60 :: d5.r :: d6.r :: d7.r :: d8.r :: pt c9 (RState.enc zSt) 54 :: rowL 0 d1 5 c0.ctx :: rowL 0 d2 23 c3 :: (packR c3 c0.tables) :: rowL 0 d3 3 c0.sent :: pt c8 (RMark.enc (mMk x1 s9 s11 s13 s17)) 60 :: pt c7 (RState.enc (mSt x0 s1 s3 s7)) 54 :: Lr):=hM
     have hMs:=selM hM [0,1,2,3,4,5,6,7,8,9,10,11] 12 rfl
     refine ⟨_,_,hMs,hM,.inl fun _ h=>dropM h 1,fun a hF=>?_⟩
     refine bC hch 6 (by kernel_rfl) rfl rfl ?_
     refine cO 6 rfl rfl rfl rfl fun w hMs hM=>?_
     refine (aY (vs:=_) qS54 (hM.obj (i:=5) rfl) hF rfl rfl rfl rfl (RState.len _) (RState.one _) (by first | (rw [RState.len,RState.len]; decide) | (rw [RState.len]; decide)) (bF ((RState.len _).trans (RState.len _).symm)) fun w j8=>?_)
     have hM:=hM.chg j8 (i:=5) rfl
     replace hM:MemL _ (pt d0 (RMark.enc zMk) 60 :: d5.r :: d6.r :: d7.r :: d8.r :: pt c9 (RState.enc (mSt c0 d1 d2 d3)) 54 :: rowL 0 d1 5 c0.ctx :: rowL 0 d2 23 c3 :: (packR c3 c0.tables) :: rowL 0 d3 3 c0.sent :: pt c8 (RMark.enc (mMk x1 s9 s11 s13 s17)) 60 :: pt c7 (RState.enc (mSt x0 s1 s3 s7)) 54 :: Lr):=hM
     have hMs:=hM
     refine ⟨_,_,hMs,hM,.inr (by kernel_rfl),?_⟩
     refine bC hch 7 (by kernel_rfl) rfl rfl ?_
     refine cO 7 rfl rfl rfl rfl fun w hMs hM=>?_
     refine (aY (vs:=_) qS60 (hM.obj (i:=0) rfl) hF rfl rfl rfl rfl (RMark.len _) (RMark.one _) (by first | (rw [RMark.len,RMark.len]; decide) | (rw [RMark.len]; decide)) (bF ((RMark.len _).trans (RMark.len _).symm)) fun w j9=>?_)
     have hM:=hM.chg j9 (i:=0) rfl
     replace hM:MemL _ (pt d0 (RMark.enc (mMk d9 i9 j0 j1 j2)) 60 :: d5.r :: d6.r :: d7.r :: d8.r :: pt c9 (RState.enc (mSt c0 d1 d2 d3)) 54 :: rowL 0 d1 5 c0.ctx :: rowL 0 d2 23 c3 :: (packR c3 c0.tables) :: rowL 0 d3 3 c0.sent :: pt c8 (RMark.enc (mMk x1 s9 s11 s13 s17)) 60 :: pt c7 (RState.enc (mSt x0 s1 s3 s7)) 54 :: Lr):=hM
     have hMs:=hM
     refine ⟨_,_,hMs,hM,.inr (by kernel_rfl),?_⟩
     refine bW hch (by kernel_rfl) fun w hM=>?_
     refine aB ?_
     have hP:=oI hP
     subst hP
     exact ⟨(c0,d9),rfl,c9,d1,d2,c3,d3,d0,i9,d5,j0,d6,j1,k1,d7,j2,d8,m7,l4,l5,l6,l8,l7,hF.to ⟨rfl,rfl,rfl,rfl,rfl,trivial⟩,selM hM [5,6,7,8,9,0,1,2,3,4,10,11] 12 rfl⟩
    refine bV hF 5 rfl rfl rfl rfl rfl fun w hMs hM=>?_
    refine (bO z60 (zs:=RMark.zero.enc) rfl rfl fun d0 w m9 j7=>?_)
    have hM:=hM.plus j7
    replace hM:MemL _ (pt d0 (RMark.enc zMk) 60 :: pt c9 (RState.enc zSt) 54 :: rowL 0 d1 5 c0.ctx :: rowL 0 d2 23 c3 :: (packR c3 c0.tables) :: rowL 0 d3 3 c0.sent :: pt c8 (RMark.enc (mMk x1 s9 s11 s13 s17)) 60 :: pt c7 (RState.enc (mSt x0 s1 s3 s7)) 54 :: Lr):=hM
    have hMs:=selM hM [0,1,2,3,4,5,6,7] 8 rfl
    refine ⟨_,_,hMs,hM,.inl fun _ h=>dropM h 1,fun a hF=>?_⟩
    refine bC hch 3 (by kernel_rfl) rfl rfl ?_
    refine bV hF 3 rfl rfl rfl rfl rfl fun w hMs hM=>?_
    obtain ⟨d9,k4,hP⟩:=bind_some hP
    refine (aN (xs:=[.tmp 19]) qC59 hF rfl rfl (dQ k4 hM (Bf:=Bf) (fun w hM=>hsub _ (dropM hM 8)) f10 f12 f15 q16 f18) fun v w hR=>?_)
    obtain ⟨i9,d5,j0,d6,j1,k1,d7,j2,d8,rfl,l4,l5,l6,l8,l7,hM⟩:=hR
    replace hM:MemL _ (d5.r :: d6.r :: d7.r :: d8.r :: pt d0 (RMark.enc zMk) 60 :: pt c9 (RState.enc zSt) 54 :: rowL 0 d1 5 c0.ctx :: rowL 0 d2 23 c3 :: (packR c3 c0.tables) :: rowL 0 d3 3 c0.sent :: pt c8 (RMark.enc (mMk x1 s9 s11 s13 s17)) 60 :: pt c7 (RState.enc (mSt x0 s1 s3 s7)) 54 :: Lr):=hM
    have hMs:=selM hM [0,1,2,3,4,5,6,7,8,9,10,11] 12 rfl
    refine ⟨_,_,hMs,hM,.inl fun _ h=>dropM h 4,fun a hF=>?_⟩
    refine bC hch 6 (by kernel_rfl) rfl rfl ?_
    refine cO 6 rfl rfl rfl rfl fun w hMs hM=>?_
    refine (aY (vs:=_) qS54 (hM.obj (i:=5) rfl) hF rfl rfl rfl rfl (RState.len _) (RState.one _) (by first | (rw [RState.len,RState.len]; decide) | (rw [RState.len]; decide)) (bF ((RState.len _).trans (RState.len _).symm)) fun w j8=>?_)
    have hM:=hM.chg j8 (i:=5) rfl
    replace hM:MemL _ (d5.r :: d6.r :: d7.r :: d8.r :: pt d0 (RMark.enc zMk) 60 :: pt c9 (RState.enc (mSt c0 d1 d2 d3)) 54 :: rowL 0 d1 5 c0.ctx :: rowL 0 d2 23 c3 :: (packR c3 c0.tables) :: rowL 0 d3 3 c0.sent :: pt c8 (RMark.enc (mMk x1 s9 s11 s13 s17)) 60 :: pt c7 (RState.enc (mSt x0 s1 s3 s7)) 54 :: Lr):=hM
    have hMs:=hM
    refine ⟨_,_,hMs,hM,.inr (by kernel_rfl),?_⟩
    refine bC hch 7 (by kernel_rfl) rfl rfl ?_
    refine cO 7 rfl rfl rfl rfl fun w hMs hM=>?_
    refine (aY (vs:=_) qS60 (hM.obj (i:=4) rfl) hF rfl rfl rfl rfl (RMark.len _) (RMark.one _) (by first | (rw [RMark.len,RMark.len]; decide) | (rw [RMark.len]; decide)) (bF ((RMark.len _).trans (RMark.len _).symm)) fun w j9=>?_)
    have hM:=hM.chg j9 (i:=4) rfl
    replace hM:MemL _ (d5.r :: d6.r :: d7.r :: d8.r :: pt d0 (RMark.enc (mMk d9 i9 j0 j1 j2)) 60 :: pt c9 (RState.enc (mSt c0 d1 d2 d3)) 54 :: rowL 0 d1 5 c0.ctx :: rowL 0 d2 23 c3 :: (packR c3 c0.tables) :: rowL 0 d3 3 c0.sent :: pt c8 (RMark.enc (mMk x1 s9 s11 s13 s17)) 60 :: pt c7 (RState.enc (mSt x0 s1 s3 s7)) 54 :: Lr):=hM
    have hMs:=hM
    refine ⟨_,_,hMs,hM,.inr (by kernel_rfl),?_⟩
    refine bW hch (by kernel_rfl) fun w hM=>?_
    refine aB ?_
    have hP:=oI hP
    subst hP
    exact ⟨(c0,d9),rfl,c9,d1,d2,c3,d3,d0,i9,d5,j0,d6,j1,k1,d7,j2,d8,m7,l4,l5,l6,l8,l7,hF.to ⟨rfl,rfl,rfl,rfl,rfl,trivial⟩,selM hM [5,6,7,8,9,4,0,1,2,3,10,11] 12 rfl⟩
   refine bV hF 5 rfl rfl rfl rfl rfl fun w hMs hM=>?_
   refine (bO z60 (zs:=RMark.zero.enc) rfl rfl fun d0 w m9 j7=>?_)
   have hM:=hM.plus j7
   replace hM:MemL _ (pt d0 (RMark.enc zMk) 60 :: rowL 0 d1 5 c0.ctx :: rowL 0 d2 23 c3 :: (packR c3 c0.tables) :: rowL 0 d3 3 c0.sent :: pt c8 (RMark.enc (mMk x1 s9 s11 s13 s17)) 60 :: pt c7 (RState.enc (mSt x0 s1 s3 s7)) 54 :: Lr):=hM
   have hMs:=selM hM [0,1,2,3,4,5,6] 7 rfl
   refine ⟨_,_,hMs,hM,.inl fun _ h=>dropM h 1,fun a hF=>?_⟩
   refine fP hch 3 4 (by kernel_rfl) rfl rfl ?_ ?_
   ·refine bV hF 3 rfl rfl rfl rfl rfl fun w hMs hM=>?_
    obtain ⟨d9,k4,hP⟩:=bind_some hP
    refine (aN (xs:=[.tmp 19]) qC59 hF rfl rfl (dQ k4 hM (Bf:=Bf) (fun w hM=>hsub _ (dropM hM 7)) f10 f12 f15 q16 f18) fun v w hR=>?_)
    obtain ⟨i9,d5,j0,d6,j1,k1,d7,j2,d8,rfl,l4,l5,l6,l8,l7,hM⟩:=hR
    replace hM:MemL _ (d5.r :: d6.r :: d7.r :: d8.r :: pt d0 (RMark.enc zMk) 60 :: rowL 0 d1 5 c0.ctx :: rowL 0 d2 23 c3 :: (packR c3 c0.tables) :: rowL 0 d3 3 c0.sent :: pt c8 (RMark.enc (mMk x1 s9 s11 s13 s17)) 60 :: pt c7 (RState.enc (mSt x0 s1 s3 s7)) 54 :: Lr):=hM
    have hMs:=selM hM [0,1,2,3,4,5,6,7,8,9,10] 11 rfl
    refine ⟨_,_,hMs,hM,.inl fun _ h=>dropM h 4,fun a hF=>?_⟩
    refine bC hch 4 (by kernel_rfl) rfl rfl ?_
    refine bV hF 4 rfl rfl rfl rfl rfl fun w hMs hM=>?_
    refine (bO z54 (zs:=RState.zero.enc) rfl rfl fun c9 w m8 j6=>?_)
    have hM:=hM.plus j6
    replace hM:MemL _ (pt c9 (RState.enc zSt) 54 :: d5.r :: d6.r :: d7.r :: d8.r :: pt d0 (RMark.enc zMk) 60 :: rowL 0 d1 5 c0.ctx :: rowL 0 d2 23 c3 :: (packR c3 c0.tables) :: rowL 0 d3 3 c0.sent :: pt c8 (RMark.enc (mMk x1 s9 s11 s13 s17)) 60 :: pt c7 (RState.enc (mSt x0 s1 s3 s7)) 54 :: Lr):=hM
    have hMs:=selM hM [0,1,2,3,4,5,6,7,8,9,10,11] 12 rfl
    refine ⟨_,_,hMs,hM,.inl fun _ h=>dropM h 1,fun a hF=>?_⟩
    refine bC hch 6 (by kernel_rfl) rfl rfl ?_
    refine cO 6 rfl rfl rfl rfl fun w hMs hM=>?_
    refine (aY (vs:=_) qS54 (hM.obj (i:=0) rfl) hF rfl rfl rfl rfl (RState.len _) (RState.one _) (by first | (rw [RState.len,RState.len]; decide) | (rw [RState.len]; decide)) (bF ((RState.len _).trans (RState.len _).symm)) fun w j8=>?_)
    have hM:=hM.chg j8 (i:=0) rfl
    replace hM:MemL _ (pt c9 (RState.enc (mSt c0 d1 d2 d3)) 54 :: d5.r :: d6.r :: d7.r :: d8.r :: pt d0 (RMark.enc zMk) 60 :: rowL 0 d1 5 c0.ctx :: rowL 0 d2 23 c3 :: (packR c3 c0.tables) :: rowL 0 d3 3 c0.sent :: pt c8 (RMark.enc (mMk x1 s9 s11 s13 s17)) 60 :: pt c7 (RState.enc (mSt x0 s1 s3 s7)) 54 :: Lr):=hM
    have hMs:=hM
    refine ⟨_,_,hMs,hM,.inr (by kernel_rfl),?_⟩
    refine bC hch 7 (by kernel_rfl) rfl rfl ?_
    refine cO 7 rfl rfl rfl rfl fun w hMs hM=>?_
    refine (aY (vs:=_) qS60 (hM.obj (i:=5) rfl) hF rfl rfl rfl rfl (RMark.len _) (RMark.one _) (by first | (rw [RMark.len,RMark.len]; decide) | (rw [RMark.len]; decide)) (bF ((RMark.len _).trans (RMark.len _).symm)) fun w j9=>?_)
    have hM:=hM.chg j9 (i:=5) rfl
    replace hM:MemL _ (pt c9 (RState.enc (mSt c0 d1 d2 d3)) 54 :: d5.r :: d6.r :: d7.r :: d8.r :: pt d0 (RMark.enc (mMk d9 i9 j0 j1 j2)) 60 :: rowL 0 d1 5 c0.ctx :: rowL 0 d2 23 c3 :: (packR c3 c0.tables) :: rowL 0 d3 3 c0.sent :: pt c8 (RMark.enc (mMk x1 s9 s11 s13 s17)) 60 :: pt c7 (RState.enc (mSt x0 s1 s3 s7)) 54 :: Lr):=hM
    have hMs:=hM
    refine ⟨_,_,hMs,hM,.inr (by kernel_rfl),?_⟩
    refine bW hch (by kernel_rfl) fun w hM=>?_
    refine aB ?_
    have hP:=oI hP
    subst hP
    exact ⟨(c0,d9),rfl,c9,d1,d2,c3,d3,d0,i9,d5,j0,d6,j1,k1,d7,j2,d8,m7,l4,l5,l6,l8,l7,hF.to ⟨rfl,rfl,rfl,rfl,rfl,trivial⟩,selM hM [0,6,7,8,9,5,1,2,3,4,10,11] 12 rfl⟩
   refine bV hF 4 rfl rfl rfl rfl rfl fun w hMs hM=>?_
   refine (bO z54 (zs:=RState.zero.enc) rfl rfl fun c9 w m8 j6=>?_)
   have hM:=hM.plus j6
   replace hM:MemL _ (pt c9 (RState.enc zSt) 54 :: pt d0 (RMark.enc zMk) 60 :: rowL 0 d1 5 c0.ctx :: rowL 0 d2 23 c3 :: (packR c3 c0.tables) :: rowL 0 d3 3 c0.sent :: pt c8 (RMark.enc (mMk x1 s9 s11 s13 s17)) 60 :: pt c7 (RState.enc (mSt x0 s1 s3 s7)) 54 :: Lr):=hM
   have hMs:=selM hM [0,1,2,3,4,5,6,7] 8 rfl
   refine ⟨_,_,hMs,hM,.inl fun _ h=>dropM h 1,fun a hF=>?_⟩
   refine bC hch 3 (by kernel_rfl) rfl rfl ?_
   refine bV hF 3 rfl rfl rfl rfl rfl fun w hMs hM=>?_
   obtain ⟨d9,k4,hP⟩:=bind_some hP
   refine (aN (xs:=[.tmp 19]) qC59 hF rfl rfl (dQ k4 hM (Bf:=Bf) (fun w hM=>hsub _ (dropM hM 8)) f10 f12 f15 q16 f18) fun v w hR=>?_)
   obtain ⟨i9,d5,j0,d6,j1,k1,d7,j2,d8,rfl,l4,l5,l6,l8,l7,hM⟩:=hR
   replace hM:MemL _ (d5.r :: d6.r :: d7.r :: d8.r :: pt c9 (RState.enc zSt) 54 :: pt d0 (RMark.enc zMk) 60 :: rowL 0 d1 5 c0.ctx :: rowL 0 d2 23 c3 :: (packR c3 c0.tables) :: rowL 0 d3 3 c0.sent :: pt c8 (RMark.enc (mMk x1 s9 s11 s13 s17)) 60 :: pt c7 (RState.enc (mSt x0 s1 s3 s7)) 54 :: Lr):=hM
   have hMs:=selM hM [0,1,2,3,4,5,6,7,8,9,10,11] 12 rfl
   refine ⟨_,_,hMs,hM,.inl fun _ h=>dropM h 4,fun a hF=>?_⟩
   refine bC hch 6 (by kernel_rfl) rfl rfl ?_
   refine cO 6 rfl rfl rfl rfl fun w hMs hM=>?_
   refine (aY (vs:=_) qS54 (hM.obj (i:=4) rfl) hF rfl rfl rfl rfl (RState.len _) (RState.one _) (by first | (rw [RState.len,RState.len]; decide) | (rw [RState.len]; decide)) (bF ((RState.len _).trans (RState.len _).symm)) fun w j8=>?_)
   have hM:=hM.chg j8 (i:=4) rfl
   replace hM:MemL _ (d5.r :: d6.r :: d7.r :: d8.r :: pt c9 (RState.enc (mSt c0 d1 d2 d3)) 54 :: pt d0 (RMark.enc zMk) 60 :: rowL 0 d1 5 c0.ctx :: rowL 0 d2 23 c3 :: (packR c3 c0.tables) :: rowL 0 d3 3 c0.sent :: pt c8 (RMark.enc (mMk x1 s9 s11 s13 s17)) 60 :: pt c7 (RState.enc (mSt x0 s1 s3 s7)) 54 :: Lr):=hM
   have hMs:=hM
   refine ⟨_,_,hMs,hM,.inr (by kernel_rfl),?_⟩
   refine bC hch 7 (by kernel_rfl) rfl rfl ?_
   refine cO 7 rfl rfl rfl rfl fun w hMs hM=>?_
   refine (aY (vs:=_) qS60 (hM.obj (i:=5) rfl) hF rfl rfl rfl rfl (RMark.len _) (RMark.one _) (by first | (rw [RMark.len,RMark.len]; decide) | (rw [RMark.len]; decide)) (bF ((RMark.len _).trans (RMark.len _).symm)) fun w j9=>?_)
   have hM:=hM.chg j9 (i:=5) rfl
   replace hM:MemL _ (d5.r :: d6.r :: d7.r :: d8.r :: pt c9 (RState.enc (mSt c0 d1 d2 d3)) 54 :: pt d0 (RMark.enc (mMk d9 i9 j0 j1 j2)) 60 :: rowL 0 d1 5 c0.ctx :: rowL 0 d2 23 c3 :: (packR c3 c0.tables) :: rowL 0 d3 3 c0.sent :: pt c8 (RMark.enc (mMk x1 s9 s11 s13 s17)) 60 :: pt c7 (RState.enc (mSt x0 s1 s3 s7)) 54 :: Lr):=hM
   have hMs:=hM
   refine ⟨_,_,hMs,hM,.inr (by kernel_rfl),?_⟩
   refine bW hch (by kernel_rfl) fun w hM=>?_
   refine aB ?_
   have hP:=oI hP
   subst hP
   exact ⟨(c0,d9),rfl,c9,d1,d2,c3,d3,d0,i9,d5,j0,d6,j1,k1,d7,j2,d8,m7,l4,l5,l6,l8,l7,hF.to ⟨rfl,rfl,rfl,rfl,rfl,trivial⟩,selM hM [4,6,7,8,9,5,0,1,2,3,10,11] 12 rfl⟩
  ·refine bV hF 4 rfl rfl rfl rfl rfl fun w hMs hM=>?_
   refine (bO z54 (zs:=RState.zero.enc) rfl rfl fun c9 w m8 j6=>?_)
   have hM:=hM.plus j6
   replace hM:MemL _ (pt c9 (RState.enc zSt) 54 :: pt c8 (RMark.enc (mMk x1 s9 s11 s13 s17)) 60 :: pt c7 (RState.enc (mSt x0 s1 s3 s7)) 54 :: Lr):=hM
   have hMs:=selM hM [0,1,2] 3 rfl
   refine ⟨_,_,hMs,hM,.inl fun _ h=>dropM h 1,fun a hF=>?_⟩
   refine fP hch 1 5 (by kernel_rfl) rfl rfl ?_ ?_
   ·refine bV hF 1 rfl rfl rfl rfl rfl fun w hMs hM=>?_
    obtain ⟨c0,n3,hP⟩:=bind_some hP
    refine (aN (xs:=[.tmp 17]) qC30 hF rfl rfl (eZ n3 hM (Bf:=Bf) (fun w hM=>hsub _ (dropM hM 3)) f2 f5 q6 f8) fun v w hR=>?_)
    obtain ⟨d1,d2,c3,d3,rfl,m7,hM⟩:=hR
    replace hM:MemL _ (rowL 0 d1 5 c0.ctx :: rowL 0 d2 23 c3 :: (packR c3 c0.tables) :: rowL 0 d3 3 c0.sent :: pt c9 (RState.enc zSt) 54 :: pt c8 (RMark.enc (mMk x1 s9 s11 s13 s17)) 60 :: pt c7 (RState.enc (mSt x0 s1 s3 s7)) 54 :: Lr):=hM
    have hMs:=selM hM [0,1,2,3,4,5,6] 7 rfl
    refine ⟨_,_,hMs,hM,.inl fun _ h=>dropM h 4,fun a hF=>?_⟩
    refine fP hch 3 5 (by kernel_rfl) rfl rfl ?_ ?_
    ·refine bV hF 3 rfl rfl rfl rfl rfl fun w hMs hM=>?_
     obtain ⟨d9,k4,hP⟩:=bind_some hP
     refine (aN (xs:=[.tmp 19]) qC59 hF rfl rfl (dQ k4 hM (Bf:=Bf) (fun w hM=>hsub _ (dropM hM 7)) f10 f12 f15 q16 f18) fun v w hR=>?_)
     obtain ⟨i9,d5,j0,d6,j1,k1,d7,j2,d8,rfl,l4,l5,l6,l8,l7,hM⟩:=hR
     replace hM:MemL _ (d5.r :: d6.r :: d7.r :: d8.r :: rowL 0 d1 5 c0.ctx :: rowL 0 d2 23 c3 :: (packR c3 c0.tables) :: rowL 0 d3 3 c0.sent :: pt c9 (RState.enc zSt) 54 :: pt c8 (RMark.enc (mMk x1 s9 s11 s13 s17)) 60 :: pt c7 (RState.enc (mSt x0 s1 s3 s7)) 54 :: Lr):=hM
     have hMs:=selM hM [0,1,2,3,4,5,6,7,8,9,10] 11 rfl
     refine ⟨_,_,hMs,hM,.inl fun _ h=>dropM h 4,fun a hF=>?_⟩
     refine bC hch 5 (by kernel_rfl) rfl rfl ?_
     refine bV hF 5 rfl rfl rfl rfl rfl fun w hMs hM=>?_
     refine (bO z60 (zs:=RMark.zero.enc) rfl rfl fun d0 w m9 j7=>?_)
     have hM:=hM.plus j7
     replace hM:MemL _ (pt d0 (RMark.enc zMk) 60 :: d5.r :: d6.r :: d7.r :: d8.r :: rowL 0 d1 5 c0.ctx :: rowL 0 d2 23 c3 :: (packR c3 c0.tables) :: rowL 0 d3 3 c0.sent :: pt c9 (RState.enc zSt) 54 :: pt c8 (RMark.enc (mMk x1 s9 s11 s13 s17)) 60 :: pt c7 (RState.enc (mSt x0 s1 s3 s7)) 54 :: Lr):=hM
     have hMs:=selM hM [0,1,2,3,4,5,6,7,8,9,10,11] 12 rfl
     refine ⟨_,_,hMs,hM,.inl fun _ h=>dropM h 1,fun a hF=>?_⟩
     refine bC hch 6 (by kernel_rfl) rfl rfl ?_
     refine cO 6 rfl rfl rfl rfl fun w hMs hM=>?_
     refine (aY (vs:=_) qS54 (hM.obj (i:=9) rfl) hF rfl rfl rfl rfl (RState.len _) (RState.one _) (by first | (rw [RState.len,RState.len]; decide) | (rw [RState.len]; decide)) (bF ((RState.len _).trans (RState.len _).symm)) fun w j8=>?_)
     have hM:=hM.chg j8 (i:=9) rfl
     replace hM:MemL _ (pt d0 (RMark.enc zMk) 60 :: d5.r :: d6.r :: d7.r :: d8.r :: rowL 0 d1 5 c0.ctx :: rowL 0 d2 23 c3 :: (packR c3 c0.tables) :: rowL 0 d3 3 c0.sent :: pt c9 (RState.enc (mSt c0 d1 d2 d3)) 54 :: pt c8 (RMark.enc (mMk x1 s9 s11 s13 s17)) 60 :: pt c7 (RState.enc (mSt x0 s1 s3 s7)) 54 :: Lr):=hM
     have hMs:=hM
     refine ⟨_,_,hMs,hM,.inr (by kernel_rfl),?_⟩
     refine bC hch 7 (by kernel_rfl) rfl rfl ?_
     refine cO 7 rfl rfl rfl rfl fun w hMs hM=>?_
     refine (aY (vs:=_) qS60 (hM.obj (i:=0) rfl) hF rfl rfl rfl rfl (RMark.len _) (RMark.one _) (by first | (rw [RMark.len,RMark.len]; decide) | (rw [RMark.len]; decide)) (bF ((RMark.len _).trans (RMark.len _).symm)) fun w j9=>?_)
     have hM:=hM.chg j9 (i:=0) rfl
     replace hM:MemL _ (pt d0 (RMark.enc (mMk d9 i9 j0 j1 j2)) 60 :: d5.r :: d6.r :: d7.r :: d8.r :: rowL 0 d1 5 c0.ctx :: rowL 0 d2 23 c3 :: (packR c3 c0.tables) :: rowL 0 d3 3 c0.sent :: pt c9 (RState.enc (mSt c0 d1 d2 d3)) 54 :: pt c8 (RMark.enc (mMk x1 s9 s11 s13 s17)) 60 :: pt c7 (RState.enc (mSt x0 s1 s3 s7)) 54 :: Lr):=hM
     have hMs:=hM
     refine ⟨_,_,hMs,hM,.inr (by kernel_rfl),?_⟩
     refine bW hch (by kernel_rfl) fun w hM=>?_
     refine aB ?_
     have hP:=oI hP
     subst hP
     exact ⟨(c0,d9),rfl,c9,d1,d2,c3,d3,d0,i9,d5,j0,d6,j1,k1,d7,j2,d8,m7,l4,l5,l6,l8,l7,hF.to ⟨rfl,rfl,rfl,rfl,rfl,trivial⟩,selM hM [9,5,6,7,8,0,1,2,3,4,10,11] 12 rfl⟩
    refine bV hF 5 rfl rfl rfl rfl rfl fun w hMs hM=>?_
    refine (bO z60 (zs:=RMark.zero.enc) rfl rfl fun d0 w m9 j7=>?_)
    have hM:=hM.plus j7
    replace hM:MemL _ (pt d0 (RMark.enc zMk) 60 :: rowL 0 d1 5 c0.ctx :: rowL 0 d2 23 c3 :: (packR c3 c0.tables) :: rowL 0 d3 3 c0.sent :: pt c9 (RState.enc zSt) 54 :: pt c8 (RMark.enc (mMk x1 s9 s11 s13 s17)) 60 :: pt c7 (RState.enc (mSt x0 s1 s3 s7)) 54 :: Lr):=hM
    have hMs:=selM hM [0,1,2,3,4,5,6,7] 8 rfl
    refine ⟨_,_,hMs,hM,.inl fun _ h=>dropM h 1,fun a hF=>?_⟩
    refine bC hch 3 (by kernel_rfl) rfl rfl ?_
    refine bV hF 3 rfl rfl rfl rfl rfl fun w hMs hM=>?_
    obtain ⟨d9,k4,hP⟩:=bind_some hP
    refine (aN (xs:=[.tmp 19]) qC59 hF rfl rfl (dQ k4 hM (Bf:=Bf) (fun w hM=>hsub _ (dropM hM 8)) f10 f12 f15 q16 f18) fun v w hR=>?_)
    obtain ⟨i9,d5,j0,d6,j1,k1,d7,j2,d8,rfl,l4,l5,l6,l8,l7,hM⟩:=hR
    replace hM:MemL _ (d5.r :: d6.r :: d7.r :: d8.r :: pt d0 (RMark.enc zMk) 60 :: rowL 0 d1 5 c0.ctx :: rowL 0 d2 23 c3 :: (packR c3 c0.tables) :: rowL 0 d3 3 c0.sent :: pt c9 (RState.enc zSt) 54 :: pt c8 (RMark.enc (mMk x1 s9 s11 s13 s17)) 60 :: pt c7 (RState.enc (mSt x0 s1 s3 s7)) 54 :: Lr):=hM
    have hMs:=selM hM [0,1,2,3,4,5,6,7,8,9,10,11] 12 rfl
    refine ⟨_,_,hMs,hM,.inl fun _ h=>dropM h 4,fun a hF=>?_⟩
    refine bC hch 6 (by kernel_rfl) rfl rfl ?_
    refine cO 6 rfl rfl rfl rfl fun w hMs hM=>?_
    refine (aY (vs:=_) qS54 (hM.obj (i:=9) rfl) hF rfl rfl rfl rfl (RState.len _) (RState.one _) (by first | (rw [RState.len,RState.len]; decide) | (rw [RState.len]; decide)) (bF ((RState.len _).trans (RState.len _).symm)) fun w j8=>?_)
    have hM:=hM.chg j8 (i:=9) rfl
    replace hM:MemL _ (d5.r :: d6.r :: d7.r :: d8.r :: pt d0 (RMark.enc zMk) 60 :: rowL 0 d1 5 c0.ctx :: rowL 0 d2 23 c3 :: (packR c3 c0.tables) :: rowL 0 d3 3 c0.sent :: pt c9 (RState.enc (mSt c0 d1 d2 d3)) 54 :: pt c8 (RMark.enc (mMk x1 s9 s11 s13 s17)) 60 :: pt c7 (RState.enc (mSt x0 s1 s3 s7)) 54 :: Lr):=hM
    have hMs:=hM
    refine ⟨_,_,hMs,hM,.inr (by kernel_rfl),?_⟩
    refine bC hch 7 (by kernel_rfl) rfl rfl ?_
    refine cO 7 rfl rfl rfl rfl fun w hMs hM=>?_
    refine (aY (vs:=_) qS60 (hM.obj (i:=4) rfl) hF rfl rfl rfl rfl (RMark.len _) (RMark.one _) (by first | (rw [RMark.len,RMark.len]; decide) | (rw [RMark.len]; decide)) (bF ((RMark.len _).trans (RMark.len _).symm)) fun w j9=>?_)
    have hM:=hM.chg j9 (i:=4) rfl
    replace hM:MemL _ (d5.r :: d6.r :: d7.r :: d8.r :: pt d0 (RMark.enc (mMk d9 i9 j0 j1 j2)) 60 :: rowL 0 d1 5 c0.ctx :: rowL 0 d2 23 c3 :: (packR c3 c0.tables) :: rowL 0 d3 3 c0.sent :: pt c9 (RState.enc (mSt c0 d1 d2 d3)) 54 :: pt c8 (RMark.enc (mMk x1 s9 s11 s13 s17)) 60 :: pt c7 (RState.enc (mSt x0 s1 s3 s7)) 54 :: Lr):=hM
    have hMs:=hM
    refine ⟨_,_,hMs,hM,.inr (by kernel_rfl),?_⟩
    refine bW hch (by kernel_rfl) fun w hM=>?_
    refine aB ?_
    have hP:=oI hP
    subst hP
    exact ⟨(c0,d9),rfl,c9,d1,d2,c3,d3,d0,i9,d5,j0,d6,j1,k1,d7,j2,d8,m7,l4,l5,l6,l8,l7,hF.to ⟨rfl,rfl,rfl,rfl,rfl,trivial⟩,selM hM [9,5,6,7,8,4,0,1,2,3,10,11] 12 rfl⟩
   refine bV hF 5 rfl rfl rfl rfl rfl fun w hMs hM=>?_
   refine (bO z60 (zs:=RMark.zero.enc) rfl rfl fun d0 w m9 j7=>?_)
   have hM:=hM.plus j7
   replace hM:MemL _ (pt d0 (RMark.enc zMk) 60 :: pt c9 (RState.enc zSt) 54 :: pt c8 (RMark.enc (mMk x1 s9 s11 s13 s17)) 60 :: pt c7 (RState.enc (mSt x0 s1 s3 s7)) 54 :: Lr):=hM
   have hMs:=selM hM [0,1,2,3] 4 rfl
   refine ⟨_,_,hMs,hM,.inl fun _ h=>dropM h 1,fun a hF=>?_⟩
   refine bC hch 1 (by kernel_rfl) rfl rfl ?_
   refine bV hF 1 rfl rfl rfl rfl rfl fun w hMs hM=>?_
   obtain ⟨c0,n3,hP⟩:=bind_some hP
   refine (aN (xs:=[.tmp 17]) qC30 hF rfl rfl (eZ n3 hM (Bf:=Bf) (fun w hM=>hsub _ (dropM hM 4)) f2 f5 q6 f8) fun v w hR=>?_)
   obtain ⟨d1,d2,c3,d3,rfl,m7,hM⟩:=hR
   replace hM:MemL _ (rowL 0 d1 5 c0.ctx :: rowL 0 d2 23 c3 :: (packR c3 c0.tables) :: rowL 0 d3 3 c0.sent :: pt d0 (RMark.enc zMk) 60 :: pt c9 (RState.enc zSt) 54 :: pt c8 (RMark.enc (mMk x1 s9 s11 s13 s17)) 60 :: pt c7 (RState.enc (mSt x0 s1 s3 s7)) 54 :: Lr):=hM
   have hMs:=selM hM [0,1,2,3,4,5,6,7] 8 rfl
   refine ⟨_,_,hMs,hM,.inl fun _ h=>dropM h 4,fun a hF=>?_⟩
   refine bC hch 3 (by kernel_rfl) rfl rfl ?_
   refine bV hF 3 rfl rfl rfl rfl rfl fun w hMs hM=>?_
   obtain ⟨d9,k4,hP⟩:=bind_some hP
   refine (aN (xs:=[.tmp 19]) qC59 hF rfl rfl (dQ k4 hM (Bf:=Bf) (fun w hM=>hsub _ (dropM hM 8)) f10 f12 f15 q16 f18) fun v w hR=>?_)
   obtain ⟨i9,d5,j0,d6,j1,k1,d7,j2,d8,rfl,l4,l5,l6,l8,l7,hM⟩:=hR
   replace hM:MemL _ (d5.r :: d6.r :: d7.r :: d8.r :: rowL 0 d1 5 c0.ctx :: rowL 0 d2 23 c3 :: (packR c3 c0.tables) :: rowL 0 d3 3 c0.sent :: pt d0 (RMark.enc zMk) 60 :: pt c9 (RState.enc zSt) 54 :: pt c8 (RMark.enc (mMk x1 s9 s11 s13 s17)) 60 :: pt c7 (RState.enc (mSt x0 s1 s3 s7)) 54 :: Lr):=hM
   have hMs:=selM hM [0,1,2,3,4,5,6,7,8,9,10,11] 12 rfl
   refine ⟨_,_,hMs,hM,.inl fun _ h=>dropM h 4,fun a hF=>?_⟩
   refine bC hch 6 (by kernel_rfl) rfl rfl ?_
   refine cO 6 rfl rfl rfl rfl fun w hMs hM=>?_
   refine (aY (vs:=_) qS54 (hM.obj (i:=9) rfl) hF rfl rfl rfl rfl (RState.len _) (RState.one _) (by first | (rw [RState.len,RState.len]; decide) | (rw [RState.len]; decide)) (bF ((RState.len _).trans (RState.len _).symm)) fun w j8=>?_)
   have hM:=hM.chg j8 (i:=9) rfl
   replace hM:MemL _ (d5.r :: d6.r :: d7.r :: d8.r :: rowL 0 d1 5 c0.ctx :: rowL 0 d2 23 c3 :: (packR c3 c0.tables) :: rowL 0 d3 3 c0.sent :: pt d0 (RMark.enc zMk) 60 :: pt c9 (RState.enc (mSt c0 d1 d2 d3)) 54 :: pt c8 (RMark.enc (mMk x1 s9 s11 s13 s17)) 60 :: pt c7 (RState.enc (mSt x0 s1 s3 s7)) 54 :: Lr):=hM
   have hMs:=hM
   refine ⟨_,_,hMs,hM,.inr (by kernel_rfl),?_⟩
   refine bC hch 7 (by kernel_rfl) rfl rfl ?_
   refine cO 7 rfl rfl rfl rfl fun w hMs hM=>?_
   refine (aY (vs:=_) qS60 (hM.obj (i:=8) rfl) hF rfl rfl rfl rfl (RMark.len _) (RMark.one _) (by first | (rw [RMark.len,RMark.len]; decide) | (rw [RMark.len]; decide)) (bF ((RMark.len _).trans (RMark.len _).symm)) fun w j9=>?_)
   have hM:=hM.chg j9 (i:=8) rfl
   replace hM:MemL _ (d5.r :: d6.r :: d7.r :: d8.r :: rowL 0 d1 5 c0.ctx :: rowL 0 d2 23 c3 :: (packR c3 c0.tables) :: rowL 0 d3 3 c0.sent :: pt d0 (RMark.enc (mMk d9 i9 j0 j1 j2)) 60 :: pt c9 (RState.enc (mSt c0 d1 d2 d3)) 54 :: pt c8 (RMark.enc (mMk x1 s9 s11 s13 s17)) 60 :: pt c7 (RState.enc (mSt x0 s1 s3 s7)) 54 :: Lr):=hM
   have hMs:=hM
   refine ⟨_,_,hMs,hM,.inr (by kernel_rfl),?_⟩
   refine bW hch (by kernel_rfl) fun w hM=>?_
   refine aB ?_
   have hP:=oI hP
   subst hP
   exact ⟨(c0,d9),rfl,c9,d1,d2,c3,d3,d0,i9,d5,j0,d6,j1,k1,d7,j2,d8,m7,l4,l5,l6,l8,l7,hF.to ⟨rfl,rfl,rfl,rfl,rfl,trivial⟩,selM hM [9,4,5,6,7,8,0,1,2,3,10,11] 12 rfl⟩
  refine bV hF 5 rfl rfl rfl rfl rfl fun w hMs hM=>?_
  refine (bO z60 (zs:=RMark.zero.enc) rfl rfl fun d0 w m9 j7=>?_)
  have hM:=hM.plus j7
  replace hM:MemL _ (pt d0 (RMark.enc zMk) 60 :: pt c8 (RMark.enc (mMk x1 s9 s11 s13 s17)) 60 :: pt c7 (RState.enc (mSt x0 s1 s3 s7)) 54 :: Lr):=hM
  have hMs:=selM hM [0,1,2] 3 rfl
  refine ⟨_,_,hMs,hM,.inl fun _ h=>dropM h 1,fun a hF=>?_⟩
  refine fP hch 1 4 (by kernel_rfl) rfl rfl ?_ ?_
  ·refine bV hF 1 rfl rfl rfl rfl rfl fun w hMs hM=>?_
   obtain ⟨c0,n3,hP⟩:=bind_some hP
   refine (aN (xs:=[.tmp 17]) qC30 hF rfl rfl (eZ n3 hM (Bf:=Bf) (fun w hM=>hsub _ (dropM hM 3)) f2 f5 q6 f8) fun v w hR=>?_)
   obtain ⟨d1,d2,c3,d3,rfl,m7,hM⟩:=hR
   replace hM:MemL _ (rowL 0 d1 5 c0.ctx :: rowL 0 d2 23 c3 :: (packR c3 c0.tables) :: rowL 0 d3 3 c0.sent :: pt d0 (RMark.enc zMk) 60 :: pt c8 (RMark.enc (mMk x1 s9 s11 s13 s17)) 60 :: pt c7 (RState.enc (mSt x0 s1 s3 s7)) 54 :: Lr):=hM
   have hMs:=selM hM [0,1,2,3,4,5,6] 7 rfl
   refine ⟨_,_,hMs,hM,.inl fun _ h=>dropM h 4,fun a hF=>?_⟩
   refine fP hch 3 4 (by kernel_rfl) rfl rfl ?_ ?_
   ·refine bV hF 3 rfl rfl rfl rfl rfl fun w hMs hM=>?_
    obtain ⟨d9,k4,hP⟩:=bind_some hP
    refine (aN (xs:=[.tmp 19]) qC59 hF rfl rfl (dQ k4 hM (Bf:=Bf) (fun w hM=>hsub _ (dropM hM 7)) f10 f12 f15 q16 f18) fun v w hR=>?_)
    obtain ⟨i9,d5,j0,d6,j1,k1,d7,j2,d8,rfl,l4,l5,l6,l8,l7,hM⟩:=hR
    replace hM:MemL _ (d5.r :: d6.r :: d7.r :: d8.r :: rowL 0 d1 5 c0.ctx :: rowL 0 d2 23 c3 :: (packR c3 c0.tables) :: rowL 0 d3 3 c0.sent :: pt d0 (RMark.enc zMk) 60 :: pt c8 (RMark.enc (mMk x1 s9 s11 s13 s17)) 60 :: pt c7 (RState.enc (mSt x0 s1 s3 s7)) 54 :: Lr):=hM
    have hMs:=selM hM [0,1,2,3,4,5,6,7,8,9,10] 11 rfl
    refine ⟨_,_,hMs,hM,.inl fun _ h=>dropM h 4,fun a hF=>?_⟩
    refine bC hch 4 (by kernel_rfl) rfl rfl ?_
    refine bV hF 4 rfl rfl rfl rfl rfl fun w hMs hM=>?_
    refine (bO z54 (zs:=RState.zero.enc) rfl rfl fun c9 w m8 j6=>?_)
    have hM:=hM.plus j6
    replace hM:MemL _ (pt c9 (RState.enc zSt) 54 :: d5.r :: d6.r :: d7.r :: d8.r :: rowL 0 d1 5 c0.ctx :: rowL 0 d2 23 c3 :: (packR c3 c0.tables) :: rowL 0 d3 3 c0.sent :: pt d0 (RMark.enc zMk) 60 :: pt c8 (RMark.enc (mMk x1 s9 s11 s13 s17)) 60 :: pt c7 (RState.enc (mSt x0 s1 s3 s7)) 54 :: Lr):=hM
    have hMs:=selM hM [0,1,2,3,4,5,6,7,8,9,10,11] 12 rfl
    refine ⟨_,_,hMs,hM,.inl fun _ h=>dropM h 1,fun a hF=>?_⟩
    refine bC hch 6 (by kernel_rfl) rfl rfl ?_
    refine cO 6 rfl rfl rfl rfl fun w hMs hM=>?_
    refine (aY (vs:=_) qS54 (hM.obj (i:=0) rfl) hF rfl rfl rfl rfl (RState.len _) (RState.one _) (by first | (rw [RState.len,RState.len]; decide) | (rw [RState.len]; decide)) (bF ((RState.len _).trans (RState.len _).symm)) fun w j8=>?_)
    have hM:=hM.chg j8 (i:=0) rfl
    replace hM:MemL _ (pt c9 (RState.enc (mSt c0 d1 d2 d3)) 54 :: d5.r :: d6.r :: d7.r :: d8.r :: rowL 0 d1 5 c0.ctx :: rowL 0 d2 23 c3 :: (packR c3 c0.tables) :: rowL 0 d3 3 c0.sent :: pt d0 (RMark.enc zMk) 60 :: pt c8 (RMark.enc (mMk x1 s9 s11 s13 s17)) 60 :: pt c7 (RState.enc (mSt x0 s1 s3 s7)) 54 :: Lr):=hM
    have hMs:=hM
    refine ⟨_,_,hMs,hM,.inr (by kernel_rfl),?_⟩
    refine bC hch 7 (by kernel_rfl) rfl rfl ?_
    refine cO 7 rfl rfl rfl rfl fun w hMs hM=>?_
    refine (aY (vs:=_) qS60 (hM.obj (i:=9) rfl) hF rfl rfl rfl rfl (RMark.len _) (RMark.one _) (by first | (rw [RMark.len,RMark.len]; decide) | (rw [RMark.len]; decide)) (bF ((RMark.len _).trans (RMark.len _).symm)) fun w j9=>?_)
    have hM:=hM.chg j9 (i:=9) rfl
    replace hM:MemL _ (pt c9 (RState.enc (mSt c0 d1 d2 d3)) 54 :: d5.r :: d6.r :: d7.r :: d8.r :: rowL 0 d1 5 c0.ctx :: rowL 0 d2 23 c3 :: (packR c3 c0.tables) :: rowL 0 d3 3 c0.sent :: pt d0 (RMark.enc (mMk d9 i9 j0 j1 j2)) 60 :: pt c8 (RMark.enc (mMk x1 s9 s11 s13 s17)) 60 :: pt c7 (RState.enc (mSt x0 s1 s3 s7)) 54 :: Lr):=hM
    have hMs:=hM
    refine ⟨_,_,hMs,hM,.inr (by kernel_rfl),?_⟩
    refine bW hch (by kernel_rfl) fun w hM=>?_
    refine aB ?_
    have hP:=oI hP
    subst hP
    exact ⟨(c0,d9),rfl,c9,d1,d2,c3,d3,d0,i9,d5,j0,d6,j1,k1,d7,j2,d8,m7,l4,l5,l6,l8,l7,hF.to ⟨rfl,rfl,rfl,rfl,rfl,trivial⟩,selM hM [0,5,6,7,8,9,1,2,3,4,10,11] 12 rfl⟩
   refine bV hF 4 rfl rfl rfl rfl rfl fun w hMs hM=>?_
   refine (bO z54 (zs:=RState.zero.enc) rfl rfl fun c9 w m8 j6=>?_)
   have hM:=hM.plus j6
   replace hM:MemL _ (pt c9 (RState.enc zSt) 54 :: rowL 0 d1 5 c0.ctx :: rowL 0 d2 23 c3 :: (packR c3 c0.tables) :: rowL 0 d3 3 c0.sent :: pt d0 (RMark.enc zMk) 60 :: pt c8 (RMark.enc (mMk x1 s9 s11 s13 s17)) 60 :: pt c7 (RState.enc (mSt x0 s1 s3 s7)) 54 :: Lr):=hM
   have hMs:=selM hM [0,1,2,3,4,5,6,7] 8 rfl
   refine ⟨_,_,hMs,hM,.inl fun _ h=>dropM h 1,fun a hF=>?_⟩
   refine bC hch 3 (by kernel_rfl) rfl rfl ?_
   refine bV hF 3 rfl rfl rfl rfl rfl fun w hMs hM=>?_
   obtain ⟨d9,k4,hP⟩:=bind_some hP
   refine (aN (xs:=[.tmp 19]) qC59 hF rfl rfl (dQ k4 hM (Bf:=Bf) (fun w hM=>hsub _ (dropM hM 8)) f10 f12 f15 q16 f18) fun v w hR=>?_)
   obtain ⟨i9,d5,j0,d6,j1,k1,d7,j2,d8,rfl,l4,l5,l6,l8,l7,hM⟩:=hR
   replace hM:MemL _ (d5.r :: d6.r :: d7.r :: d8.r :: pt c9 (RState.enc zSt) 54 :: rowL 0 d1 5 c0.ctx :: rowL 0 d2 23 c3 :: (packR c3 c0.tables) :: rowL 0 d3 3 c0.sent :: pt d0 (RMark.enc zMk) 60 :: pt c8 (RMark.enc (mMk x1 s9 s11 s13 s17)) 60 :: pt c7 (RState.enc (mSt x0 s1 s3 s7)) 54 :: Lr):=hM
   have hMs:=selM hM [0,1,2,3,4,5,6,7,8,9,10,11] 12 rfl
   refine ⟨_,_,hMs,hM,.inl fun _ h=>dropM h 4,fun a hF=>?_⟩
   refine bC hch 6 (by kernel_rfl) rfl rfl ?_
   refine cO 6 rfl rfl rfl rfl fun w hMs hM=>?_
   refine (aY (vs:=_) qS54 (hM.obj (i:=4) rfl) hF rfl rfl rfl rfl (RState.len _) (RState.one _) (by first | (rw [RState.len,RState.len]; decide) | (rw [RState.len]; decide)) (bF ((RState.len _).trans (RState.len _).symm)) fun w j8=>?_)
   have hM:=hM.chg j8 (i:=4) rfl
   replace hM:MemL _ (d5.r :: d6.r :: d7.r :: d8.r :: pt c9 (RState.enc (mSt c0 d1 d2 d3)) 54 :: rowL 0 d1 5 c0.ctx :: rowL 0 d2 23 c3 :: (packR c3 c0.tables) :: rowL 0 d3 3 c0.sent :: pt d0 (RMark.enc zMk) 60 :: pt c8 (RMark.enc (mMk x1 s9 s11 s13 s17)) 60 :: pt c7 (RState.enc (mSt x0 s1 s3 s7)) 54 :: Lr):=hM
   have hMs:=hM
   refine ⟨_,_,hMs,hM,.inr (by kernel_rfl),?_⟩
   refine bC hch 7 (by kernel_rfl) rfl rfl ?_
   refine cO 7 rfl rfl rfl rfl fun w hMs hM=>?_
   refine (aY (vs:=_) qS60 (hM.obj (i:=9) rfl) hF rfl rfl rfl rfl (RMark.len _) (RMark.one _) (by first | (rw [RMark.len,RMark.len]; decide) | (rw [RMark.len]; decide)) (bF ((RMark.len _).trans (RMark.len _).symm)) fun w j9=>?_)
   have hM:=hM.chg j9 (i:=9) rfl
   replace hM:MemL _ (d5.r :: d6.r :: d7.r :: d8.r :: pt c9 (RState.enc (mSt c0 d1 d2 d3)) 54 :: rowL 0 d1 5 c0.ctx :: rowL 0 d2 23 c3 :: (packR c3 c0.tables) :: rowL 0 d3 3 c0.sent :: pt d0 (RMark.enc (mMk d9 i9 j0 j1 j2)) 60 :: pt c8 (RMark.enc (mMk x1 s9 s11 s13 s17)) 60 :: pt c7 (RState.enc (mSt x0 s1 s3 s7)) 54 :: Lr):=hM
   have hMs:=hM
   refine ⟨_,_,hMs,hM,.inr (by kernel_rfl),?_⟩
   refine bW hch (by kernel_rfl) fun w hM=>?_
   refine aB ?_
   have hP:=oI hP
   subst hP
   exact ⟨(c0,d9),rfl,c9,d1,d2,c3,d3,d0,i9,d5,j0,d6,j1,k1,d7,j2,d8,m7,l4,l5,l6,l8,l7,hF.to ⟨rfl,rfl,rfl,rfl,rfl,trivial⟩,selM hM [4,5,6,7,8,9,0,1,2,3,10,11] 12 rfl⟩
  refine bV hF 4 rfl rfl rfl rfl rfl fun w hMs hM=>?_
  refine (bO z54 (zs:=RState.zero.enc) rfl rfl fun c9 w m8 j6=>?_)
  have hM:=hM.plus j6
  replace hM:MemL _ (pt c9 (RState.enc zSt) 54 :: pt d0 (RMark.enc zMk) 60 :: pt c8 (RMark.enc (mMk x1 s9 s11 s13 s17)) 60 :: pt c7 (RState.enc (mSt x0 s1 s3 s7)) 54 :: Lr):=hM
  have hMs:=selM hM [0,1,2,3] 4 rfl
  refine ⟨_,_,hMs,hM,.inl fun _ h=>dropM h 1,fun a hF=>?_⟩
  refine bC hch 1 (by kernel_rfl) rfl rfl ?_
  refine bV hF 1 rfl rfl rfl rfl rfl fun w hMs hM=>?_
  obtain ⟨c0,n3,hP⟩:=bind_some hP
  refine (aN (xs:=[.tmp 17]) qC30 hF rfl rfl (eZ n3 hM (Bf:=Bf) (fun w hM=>hsub _ (dropM hM 4)) f2 f5 q6 f8) fun v w hR=>?_)
  obtain ⟨d1,d2,c3,d3,rfl,m7,hM⟩:=hR
  replace hM:MemL _ (rowL 0 d1 5 c0.ctx :: rowL 0 d2 23 c3 :: (packR c3 c0.tables) :: rowL 0 d3 3 c0.sent :: pt c9 (RState.enc zSt) 54 :: pt d0 (RMark.enc zMk) 60 :: pt c8 (RMark.enc (mMk x1 s9 s11 s13 s17)) 60 :: pt c7 (RState.enc (mSt x0 s1 s3 s7)) 54 :: Lr):=hM
  have hMs:=selM hM [0,1,2,3,4,5,6,7] 8 rfl
  refine ⟨_,_,hMs,hM,.inl fun _ h=>dropM h 4,fun a hF=>?_⟩
  refine bC hch 3 (by kernel_rfl) rfl rfl ?_
  refine bV hF 3 rfl rfl rfl rfl rfl fun w hMs hM=>?_
  obtain ⟨d9,k4,hP⟩:=bind_some hP
  refine (aN (xs:=[.tmp 19]) qC59 hF rfl rfl (dQ k4 hM (Bf:=Bf) (fun w hM=>hsub _ (dropM hM 8)) f10 f12 f15 q16 f18) fun v w hR=>?_)
  obtain ⟨i9,d5,j0,d6,j1,k1,d7,j2,d8,rfl,l4,l5,l6,l8,l7,hM⟩:=hR
  replace hM:MemL _ (d5.r :: d6.r :: d7.r :: d8.r :: rowL 0 d1 5 c0.ctx :: rowL 0 d2 23 c3 :: (packR c3 c0.tables) :: rowL 0 d3 3 c0.sent :: pt c9 (RState.enc zSt) 54 :: pt d0 (RMark.enc zMk) 60 :: pt c8 (RMark.enc (mMk x1 s9 s11 s13 s17)) 60 :: pt c7 (RState.enc (mSt x0 s1 s3 s7)) 54 :: Lr):=hM
  have hMs:=selM hM [0,1,2,3,4,5,6,7,8,9,10,11] 12 rfl
  refine ⟨_,_,hMs,hM,.inl fun _ h=>dropM h 4,fun a hF=>?_⟩
  refine bC hch 6 (by kernel_rfl) rfl rfl ?_
  refine cO 6 rfl rfl rfl rfl fun w hMs hM=>?_
  refine (aY (vs:=_) qS54 (hM.obj (i:=8) rfl) hF rfl rfl rfl rfl (RState.len _) (RState.one _) (by first | (rw [RState.len,RState.len]; decide) | (rw [RState.len]; decide)) (bF ((RState.len _).trans (RState.len _).symm)) fun w j8=>?_)
  have hM:=hM.chg j8 (i:=8) rfl
  replace hM:MemL _ (d5.r :: d6.r :: d7.r :: d8.r :: rowL 0 d1 5 c0.ctx :: rowL 0 d2 23 c3 :: (packR c3 c0.tables) :: rowL 0 d3 3 c0.sent :: pt c9 (RState.enc (mSt c0 d1 d2 d3)) 54 :: pt d0 (RMark.enc zMk) 60 :: pt c8 (RMark.enc (mMk x1 s9 s11 s13 s17)) 60 :: pt c7 (RState.enc (mSt x0 s1 s3 s7)) 54 :: Lr):=hM
  have hMs:=hM
  refine ⟨_,_,hMs,hM,.inr (by kernel_rfl),?_⟩
  refine bC hch 7 (by kernel_rfl) rfl rfl ?_
  refine cO 7 rfl rfl rfl rfl fun w hMs hM=>?_
  refine (aY (vs:=_) qS60 (hM.obj (i:=9) rfl) hF rfl rfl rfl rfl (RMark.len _) (RMark.one _) (by first | (rw [RMark.len,RMark.len]; decide) | (rw [RMark.len]; decide)) (bF ((RMark.len _).trans (RMark.len _).symm)) fun w j9=>?_)
  have hM:=hM.chg j9 (i:=9) rfl
  replace hM:MemL _ (d5.r :: d6.r :: d7.r :: d8.r :: rowL 0 d1 5 c0.ctx :: rowL 0 d2 23 c3 :: (packR c3 c0.tables) :: rowL 0 d3 3 c0.sent :: pt c9 (RState.enc (mSt c0 d1 d2 d3)) 54 :: pt d0 (RMark.enc (mMk d9 i9 j0 j1 j2)) 60 :: pt c8 (RMark.enc (mMk x1 s9 s11 s13 s17)) 60 :: pt c7 (RState.enc (mSt x0 s1 s3 s7)) 54 :: Lr):=hM
  have hMs:=hM
  refine ⟨_,_,hMs,hM,.inr (by kernel_rfl),?_⟩
  refine bW hch (by kernel_rfl) fun w hM=>?_
  refine aB ?_
  have hP:=oI hP
  subst hP
  exact ⟨(c0,d9),rfl,c9,d1,d2,c3,d3,d0,i9,d5,j0,d6,j1,k1,d7,j2,d8,m7,l4,l5,l6,l8,l7,hF.to ⟨rfl,rfl,rfl,rfl,rfl,trivial⟩,selM hM [8,4,5,6,7,9,0,1,2,3,10,11] 12 rfl⟩
 rintro ⟨c6,d4⟩ a w hP ⟨m1,j3,i8,g3,j5,m2,k5,l9,k6,l2,k7,n9,k9,k8,l0,p7,p0,p1,p2,p8,p3,hF,hM⟩
 replace hP:Sh.iR x0 x1 c6 d4 = _:=hP
 unfold Sh.iR at hP
 refine aB ?_
 refine aG ?_
 refine aD ?_
 refine aA hF (aQ qA54 qS54 hF rfl rfl (RState.len _) (hM.cells (i:=0) rfl (bA (RState.len _)))) rfl rfl rfl fun a hF=>?_
 refine aA hF (aQ qA60 qS60 hF rfl rfl (RMark.len _) (hM.cells (i:=5) rfl (bA (RMark.len _)))) rfl rfl rfl fun a hF=>?_
 obtain ⟨c1,z8,hP⟩:=bind_some hP
 refine aO hF rfl rfl rfl (aN (xs:=[.tmp 22,.tmp 23]) Tryz.call52 hF rfl rfl (jA z8 hM (fun _ h=>h) (fun w hM=>(hM.rowS (X:=UInt8) (i:=1) rfl)) (fun w hM=>(hM.rowS (X:=SV) (i:=2) rfl)) (p7.mono fun _ _ q=>q.mono fun w hM=>hM.hold 3 _ rfl) (fun w hM=>(hM.rowS (X:=Int) (i:=4) rfl)) (fun w hM=>(LRm.toIn p0 _ (hM.hold 6 _ rfl))) (fun w hM=>(LRm.toIn p1 _ (hM.hold 7 _ rfl))) (fun w hM=>(LRm.toIn p2 _ (hM.hold 8 _ rfl))) (p8.mono fun _ _ q=>q.toIn.mono fun w hM=>hM.hold 8 _ rfl) (fun w hM=>(LRm.toIn p3 _ (hM.hold 9 _ rfl)))) fun v w hR=>?_)
 obtain ⟨g0,g1,i7,k2,g2,rfl,u0,hM⟩:=hR
 intro a hF
 refine aA hF (aF hF rfl rfl) rfl rfl rfl fun a hF=>?_
 refine aA hF (dD hF rfl rfl rfl) rfl rfl rfl fun a hF=>?_
 refine aA hF (dD hF rfl rfl rfl) rfl rfl rfl fun a hF=>?_
 refine aO hF rfl rfl rfl (bO z54 (zs:=RState.zero.enc) rfl rfl fun g4 w c38 t8=>?_)
 have hM:=hM.plus t8
 replace hM:MemL _ (pt g4 (RState.enc zSt) 54 :: rowL 0 g0 5 c1.1.ctx :: rowL 0 g1 23 i7 :: k2 :: rowL 0 g2 3 c1.1.sent :: pt m1 (RState.enc (mSt c6 j3 i8 j5)) 54 :: rowL 0 j3 5 c6.ctx :: rowL 0 i8 23 g3 :: (packR g3 c6.tables) :: rowL 0 j5 3 c6.sent :: pt m2 (RMark.enc (mMk d4 k5 k6 k7 k8)) 60 :: l9.r :: l2.r :: k9.r :: l0.r :: pt c8 (RMark.enc (mMk x1 s9 s11 s13 s17)) 60 :: pt c7 (RState.enc (mSt x0 s1 s3 s7)) 54 :: Lr):=hM
 intro a hF
 refine bI rfl rfl (aY (vs:=_) qS54 (hM.obj (i:=0) rfl) hF rfl rfl rfl rfl (RState.len _) (RState.one _) (by first | (rw [RState.len,RState.len]; decide) | (rw [RState.len]; decide)) (bF ((RState.len _).trans (RState.len _).symm)) fun w u4=>?_)
 have hM:=hM.chg u4 (i:=0) rfl
 replace hM:MemL _ (pt g4 (RState.enc (mSt c1.1 g0 g1 g2)) 54 :: rowL 0 g0 5 c1.1.ctx :: rowL 0 g1 23 i7 :: k2 :: rowL 0 g2 3 c1.1.sent :: pt m1 (RState.enc (mSt c6 j3 i8 j5)) 54 :: rowL 0 j3 5 c6.ctx :: rowL 0 i8 23 g3 :: (packR g3 c6.tables) :: rowL 0 j5 3 c6.sent :: pt m2 (RMark.enc (mMk d4 k5 k6 k7 k8)) 60 :: l9.r :: l2.r :: k9.r :: l0.r :: pt c8 (RMark.enc (mMk x1 s9 s11 s13 s17)) 60 :: pt c7 (RState.enc (mSt x0 s1 s3 s7)) 54 :: Lr):=hM
 refine aA hF (aH hF rfl rfl) rfl rfl rfl fun a hF=>?_
 refine aJ (aB ?_)
 refine aG ?_
 refine aD ?_
 refine aA hF (aQ qA54 qS54 hF rfl rfl (RState.len _) (hM.cells (i:=5) rfl (bA (RState.len _)))) rfl rfl rfl fun a hF=>?_
 refine aA hF (aQ qA60 qS60 hF rfl rfl (RMark.len _) (hM.cells (i:=10) rfl (bA (RMark.len _)))) rfl rfl rfl fun a hF=>?_
 obtain ⟨c2,z9,hP⟩:=bind_some hP
 refine aO hF rfl rfl rfl (aN (xs:=[.tmp 28,.tmp 29]) Tryz.call60 hF rfl rfl (jN z9 hM (fun _ h=>h) (fun w hM=>(hM.rowS (X:=UInt8) (i:=6) rfl)) (fun w hM=>(hM.rowS (X:=SV) (i:=7) rfl)) (p7.mono fun _ _ q=>q.mono fun w hM=>hM.hold 8 _ rfl) (fun w hM=>(hM.rowS (X:=Int) (i:=9) rfl)) (fun w hM=>(LRm.toIn p0 _ (hM.hold 11 _ rfl))) (fun w hM=>(LRm.toIn p1 _ (hM.hold 12 _ rfl))) (fun w hM=>(LRm.toIn p2 _ (hM.hold 13 _ rfl))) (p8.mono fun _ _ q=>q.toIn.mono fun w hM=>hM.hold 13 _ rfl) (fun w hM=>(LRm.toIn p3 _ (hM.hold 14 _ rfl)))) fun v w hR=>?_)
 obtain ⟨g5,g6,j4,l1,g7,rfl,u1,hM⟩:=hR
 intro a hF
 refine aA hF (aF hF rfl rfl) rfl rfl rfl fun a hF=>?_
 refine aA hF (dD hF rfl rfl rfl) rfl rfl rfl fun a hF=>?_
 refine aA hF (dD hF rfl rfl rfl) rfl rfl rfl fun a hF=>?_
 refine aO hF rfl rfl rfl (bO z54 (zs:=RState.zero.enc) rfl rfl fun g9 w c39 t9=>?_)
 have hM:=hM.plus t9
 replace hM:MemL _ (pt g9 (RState.enc zSt) 54 :: rowL 0 g5 5 c2.1.ctx :: rowL 0 g6 23 j4 :: l1 :: rowL 0 g7 3 c2.1.sent :: pt g4 (RState.enc (mSt c1.1 g0 g1 g2)) 54 :: rowL 0 g0 5 c1.1.ctx :: rowL 0 g1 23 i7 :: k2 :: rowL 0 g2 3 c1.1.sent :: pt m1 (RState.enc (mSt c6 j3 i8 j5)) 54 :: rowL 0 j3 5 c6.ctx :: rowL 0 i8 23 g3 :: (packR g3 c6.tables) :: rowL 0 j5 3 c6.sent :: pt m2 (RMark.enc (mMk d4 k5 k6 k7 k8)) 60 :: l9.r :: l2.r :: k9.r :: l0.r :: pt c8 (RMark.enc (mMk x1 s9 s11 s13 s17)) 60 :: pt c7 (RState.enc (mSt x0 s1 s3 s7)) 54 :: Lr):=hM
 intro a hF
 refine bI rfl rfl (aY (vs:=_) qS54 (hM.obj (i:=0) rfl) hF rfl rfl rfl rfl (RState.len _) (RState.one _) (by first | (rw [RState.len,RState.len]; decide) | (rw [RState.len]; decide)) (bF ((RState.len _).trans (RState.len _).symm)) fun w u5=>?_)
 have hM:=hM.chg u5 (i:=0) rfl
 replace hM:MemL _ (pt g9 (RState.enc (mSt c2.1 g5 g6 g7)) 54 :: rowL 0 g5 5 c2.1.ctx :: rowL 0 g6 23 j4 :: l1 :: rowL 0 g7 3 c2.1.sent :: pt g4 (RState.enc (mSt c1.1 g0 g1 g2)) 54 :: rowL 0 g0 5 c1.1.ctx :: rowL 0 g1 23 i7 :: k2 :: rowL 0 g2 3 c1.1.sent :: pt m1 (RState.enc (mSt c6 j3 i8 j5)) 54 :: rowL 0 j3 5 c6.ctx :: rowL 0 i8 23 g3 :: (packR g3 c6.tables) :: rowL 0 j5 3 c6.sent :: pt m2 (RMark.enc (mMk d4 k5 k6 k7 k8)) 60 :: l9.r :: l2.r :: k9.r :: l0.r :: pt c8 (RMark.enc (mMk x1 s9 s11 s13 s17)) 60 :: pt c7 (RState.enc (mSt x0 s1 s3 s7)) 54 :: Lr):=hM
 refine aA hF (aH hF rfl rfl) rfl rfl rfl fun a hF=>?_
 refine aJ (aB ?_)
 refine aG ?_
 refine aD ?_
 refine aA hF (aQ qA54 qS54 hF rfl rfl (RState.len _) (hM.cells (i:=21) rfl (bA (RState.len _)))) rfl rfl rfl fun a hF=>?_
 refine aA hF (aQ qA60 qS60 hF rfl rfl (RMark.len _) (hM.cells (i:=20) rfl (bA (RMark.len _)))) rfl rfl rfl fun a hF=>?_
 obtain ⟨c4,c10,hP⟩:=bind_some hP
 refine aO hF rfl rfl rfl (aN (xs:=[.tmp 34,.tmp 35]) Tryz.call61 hF rfl rfl (lA c10 hM (Bf:=Bf) (fun w hM=>hsub _ (dropM hM 22)) f2 f5 q6 f8 f10 f12 f15 q16 f18) fun v w hR=>?_)
 obtain ⟨i0,i1,k0,l3,i2,rfl,u2,hM⟩:=hR
 intro a hF
 refine aA hF (aF hF rfl rfl) rfl rfl rfl fun a hF=>?_
 refine aA hF (dD hF rfl rfl rfl) rfl rfl rfl fun a hF=>?_
 refine aA hF (dD hF rfl rfl rfl) rfl rfl rfl fun a hF=>?_
 refine aO hF rfl rfl rfl (bO z54 (zs:=RState.zero.enc) rfl rfl fun g8 w c24 p9=>?_)
 have hM:=hM.plus p9
 replace hM:MemL _ (pt g8 (RState.enc zSt) 54 :: rowL 0 i0 5 c4.1.ctx :: rowL 0 i1 23 k0 :: l3 :: rowL 0 i2 3 c4.1.sent :: pt g9 (RState.enc (mSt c2.1 g5 g6 g7)) 54 :: rowL 0 g5 5 c2.1.ctx :: rowL 0 g6 23 j4 :: l1 :: rowL 0 g7 3 c2.1.sent :: pt g4 (RState.enc (mSt c1.1 g0 g1 g2)) 54 :: rowL 0 g0 5 c1.1.ctx :: rowL 0 g1 23 i7 :: k2 :: rowL 0 g2 3 c1.1.sent :: pt m1 (RState.enc (mSt c6 j3 i8 j5)) 54 :: rowL 0 j3 5 c6.ctx :: rowL 0 i8 23 g3 :: (packR g3 c6.tables) :: rowL 0 j5 3 c6.sent :: pt m2 (RMark.enc (mMk d4 k5 k6 k7 k8)) 60 :: l9.r :: l2.r :: k9.r :: l0.r :: pt c8 (RMark.enc (mMk x1 s9 s11 s13 s17)) 60 :: pt c7 (RState.enc (mSt x0 s1 s3 s7)) 54 :: Lr):=hM
 intro a hF
 refine bI rfl rfl (aY (vs:=_) qS54 (hM.obj (i:=0) rfl) hF rfl rfl rfl rfl (RState.len _) (RState.one _) (by first | (rw [RState.len,RState.len]; decide) | (rw [RState.len]; decide)) (bF ((RState.len _).trans (RState.len _).symm)) fun w u6=>?_)
 have hM:=hM.chg u6 (i:=0) rfl
 replace hM:MemL _ (pt g8 (RState.enc (mSt c4.1 i0 i1 i2)) 54 :: rowL 0 i0 5 c4.1.ctx :: rowL 0 i1 23 k0 :: l3 :: rowL 0 i2 3 c4.1.sent :: pt g9 (RState.enc (mSt c2.1 g5 g6 g7)) 54 :: rowL 0 g5 5 c2.1.ctx :: rowL 0 g6 23 j4 :: l1 :: rowL 0 g7 3 c2.1.sent :: pt g4 (RState.enc (mSt c1.1 g0 g1 g2)) 54 :: rowL 0 g0 5 c1.1.ctx :: rowL 0 g1 23 i7 :: k2 :: rowL 0 g2 3 c1.1.sent :: pt m1 (RState.enc (mSt c6 j3 i8 j5)) 54 :: rowL 0 j3 5 c6.ctx :: rowL 0 i8 23 g3 :: (packR g3 c6.tables) :: rowL 0 j5 3 c6.sent :: pt m2 (RMark.enc (mMk d4 k5 k6 k7 k8)) 60 :: l9.r :: l2.r :: k9.r :: l0.r :: pt c8 (RMark.enc (mMk x1 s9 s11 s13 s17)) 60 :: pt c7 (RState.enc (mSt x0 s1 s3 s7)) 54 :: Lr):=hM
 refine aA hF (aH hF rfl rfl) rfl rfl rfl fun a hF=>?_
 refine aJ (aB ?_)
 refine aG ?_
 refine aD ?_
 refine aA hF (aQ qA54 qS54 hF rfl rfl (RState.len _) (hM.cells (i:=26) rfl (bA (RState.len _)))) rfl rfl rfl fun a hF=>?_
 refine aA hF (aQ qA60 qS60 hF rfl rfl (RMark.len _) (hM.cells (i:=25) rfl (bA (RMark.len _)))) rfl rfl rfl fun a hF=>?_
 obtain ⟨c5,c11,hP⟩:=bind_some hP
 refine aO hF rfl rfl rfl (aN (xs:=[.tmp 40,.tmp 41]) Tryz.call62 hF rfl rfl (lW c11 hM (Bf:=Bf) (fun w hM=>hsub _ (dropM hM 27)) f2 f5 q6 f8 f10 f12 f15 q16 f18) fun v w hR=>?_)
 obtain ⟨i4,i5,k3,m0,i6,rfl,u3,hM⟩:=hR
 intro a hF
 refine aA hF (aF hF rfl rfl) rfl rfl rfl fun a hF=>?_
 refine aA hF (dD hF rfl rfl rfl) rfl rfl rfl fun a hF=>?_
 refine aA hF (dD hF rfl rfl rfl) rfl rfl rfl fun a hF=>?_
 refine aO hF rfl rfl rfl (bO z54 (zs:=RState.zero.enc) rfl rfl fun i3 w c25 t0=>?_)
 have hM:=hM.plus t0
 replace hM:MemL _ (pt i3 (RState.enc zSt) 54 :: rowL 0 i4 5 c5.1.ctx :: rowL 0 i5 23 k3 :: m0 :: rowL 0 i6 3 c5.1.sent :: pt g8 (RState.enc (mSt c4.1 i0 i1 i2)) 54 :: rowL 0 i0 5 c4.1.ctx :: rowL 0 i1 23 k0 :: l3 :: rowL 0 i2 3 c4.1.sent :: pt g9 (RState.enc (mSt c2.1 g5 g6 g7)) 54 :: rowL 0 g5 5 c2.1.ctx :: rowL 0 g6 23 j4 :: l1 :: rowL 0 g7 3 c2.1.sent :: pt g4 (RState.enc (mSt c1.1 g0 g1 g2)) 54 :: rowL 0 g0 5 c1.1.ctx :: rowL 0 g1 23 i7 :: k2 :: rowL 0 g2 3 c1.1.sent :: pt m1 (RState.enc (mSt c6 j3 i8 j5)) 54 :: rowL 0 j3 5 c6.ctx :: rowL 0 i8 23 g3 :: (packR g3 c6.tables) :: rowL 0 j5 3 c6.sent :: pt m2 (RMark.enc (mMk d4 k5 k6 k7 k8)) 60 :: l9.r :: l2.r :: k9.r :: l0.r :: pt c8 (RMark.enc (mMk x1 s9 s11 s13 s17)) 60 :: pt c7 (RState.enc (mSt x0 s1 s3 s7)) 54 :: Lr):=hM
 intro a hF
 refine bI rfl rfl (aY (vs:=_) qS54 (hM.obj (i:=0) rfl) hF rfl rfl rfl rfl (RState.len _) (RState.one _) (by first | (rw [RState.len,RState.len]; decide) | (rw [RState.len]; decide)) (bF ((RState.len _).trans (RState.len _).symm)) fun w u7=>?_)
 have hM:=hM.chg u7 (i:=0) rfl
 replace hM:MemL _ (pt i3 (RState.enc (mSt c5.1 i4 i5 i6)) 54 :: rowL 0 i4 5 c5.1.ctx :: rowL 0 i5 23 k3 :: m0 :: rowL 0 i6 3 c5.1.sent :: pt g8 (RState.enc (mSt c4.1 i0 i1 i2)) 54 :: rowL 0 i0 5 c4.1.ctx :: rowL 0 i1 23 k0 :: l3 :: rowL 0 i2 3 c4.1.sent :: pt g9 (RState.enc (mSt c2.1 g5 g6 g7)) 54 :: rowL 0 g5 5 c2.1.ctx :: rowL 0 g6 23 j4 :: l1 :: rowL 0 g7 3 c2.1.sent :: pt g4 (RState.enc (mSt c1.1 g0 g1 g2)) 54 :: rowL 0 g0 5 c1.1.ctx :: rowL 0 g1 23 i7 :: k2 :: rowL 0 g2 3 c1.1.sent :: pt m1 (RState.enc (mSt c6 j3 i8 j5)) 54 :: rowL 0 j3 5 c6.ctx :: rowL 0 i8 23 g3 :: (packR g3 c6.tables) :: rowL 0 j5 3 c6.sent :: pt m2 (RMark.enc (mMk d4 k5 k6 k7 k8)) 60 :: l9.r :: l2.r :: k9.r :: l0.r :: pt c8 (RMark.enc (mMk x1 s9 s11 s13 s17)) 60 :: pt c7 (RState.enc (mSt x0 s1 s3 s7)) 54 :: Lr):=hM
 refine aA hF (aH hF rfl rfl) rfl rfl rfl fun a hF=>?_
 refine aJ (aB ?_)
 refine aG ?_
 refine aG ?_
 refine aU hF hM hP (fun F x a w=>match x with | t2=>Fr 94 [(76,.bool t2),(11,.pointer (some ⟨g8,0,none⟩)),(13,.pointer (some ⟨i3,0,none⟩)),(4,.bool false),(5,.pointer (some ⟨m1,0,none⟩)),(6,.pointer (some ⟨m2,0,none⟩)),(7,.pointer (some ⟨g4,0,none⟩)),(9,.pointer (some ⟨g9,0,none⟩))] a ∧ MemL w (pt i3 (RState.enc (mSt c5.1 i4 i5 i6)) 54 :: pt g8 (RState.enc (mSt c4.1 i0 i1 i2)) 54 :: pt g9 (RState.enc (mSt c2.1 g5 g6 g7)) 54 :: pt g4 (RState.enc (mSt c1.1 g0 g1 g2)) 54 :: pt m1 (RState.enc (mSt c6 j3 i8 j5)) 54 :: pt m2 (RMark.enc (mMk d4 k5 k6 k7 k8)) 60 :: rowL 0 i4 5 c5.1.ctx :: rowL 0 i5 23 k3 :: m0 :: rowL 0 i6 3 c5.1.sent :: rowL 0 i0 5 c4.1.ctx :: rowL 0 i1 23 k0 :: l3 :: rowL 0 i2 3 c4.1.sent :: rowL 0 g5 5 c2.1.ctx :: rowL 0 g6 23 j4 :: l1 :: rowL 0 g7 3 c2.1.sent :: rowL 0 g0 5 c1.1.ctx :: rowL 0 g1 23 i7 :: k2 :: rowL 0 g2 3 c1.1.sent :: rowL 0 j3 5 c6.ctx :: rowL 0 i8 23 g3 :: (packR g3 c6.tables) :: rowL 0 j5 3 c6.sent :: l9.r :: l2.r :: k9.r :: l0.r :: Lr)) (fun c44 hP c41 hF hM=>?_) ?_
 ·refine aD ?_
  refine aA hF (aF hF rfl rfl) rfl rfl rfl fun a hF=>?_
  refine aA hF (aF hF rfl rfl) rfl rfl rfl fun a hF=>?_
  refine aA hF (dC hF rfl rfl rfl) rfl rfl rfl fun a hF=>?_
  refine aA hF (aF hF rfl rfl) rfl rfl rfl fun a hF=>?_
  refine bE 48 hF rfl (fun n0=>?_) (fun n0=>?_)
  ·have hP:=Fx.cT n0 hP
   refine aE hF rfl rfl rfl n0 rfl rfl fun a hF=>?_
   refine aE hF rfl rfl rfl n0 rfl rfl fun a hF=>?_
   refine aE hF rfl rfl rfl n0 rfl rfl fun a hF=>?_
   refine aA hF (aP hF rfl rfl n0 rfl) rfl rfl rfl fun a hF=>?_
   refine aA hF (aF hF rfl rfl) rfl rfl rfl fun a hF=>?_
   refine aE hF rfl rfl rfl rfl rfl rfl fun a hF=>?_
   refine aE hF rfl rfl rfl rfl rfl rfl fun a hF=>?_
   refine aE hF rfl rfl rfl rfl rfl rfl fun a hF=>?_
   refine aE hF rfl rfl rfl rfl rfl rfl fun a hF=>?_
   refine aA hF (aP hF rfl rfl rfl rfl) rfl rfl rfl fun a hF=>?_
   refine aA hF (aF hF rfl rfl) rfl rfl rfl fun a hF=>?_
   refine aE hF rfl rfl rfl rfl rfl rfl fun a hF=>?_
   refine aE hF rfl rfl rfl rfl rfl rfl fun a hF=>?_
   refine aE hF rfl rfl rfl rfl rfl rfl fun a hF=>?_
   refine aE hF rfl rfl rfl rfl rfl rfl fun a hF=>?_
   refine aA hF (aP hF rfl rfl rfl rfl) rfl rfl rfl fun a hF=>?_
   refine aA hF (aF hF rfl rfl) rfl rfl rfl fun a hF=>?_
   refine aE hF rfl rfl rfl rfl rfl rfl fun a hF=>?_
   refine aE hF rfl rfl rfl rfl rfl rfl fun a hF=>?_
   refine aE hF rfl rfl rfl rfl rfl rfl fun a hF=>?_
   refine aE hF rfl rfl rfl rfl rfl rfl fun a hF=>?_
   refine aA hF (aP hF rfl rfl rfl rfl) rfl rfl rfl fun a hF=>?_
   refine aA hF (aF hF rfl rfl) rfl rfl rfl fun a hF=>?_
   refine aE hF rfl rfl rfl rfl rfl rfl fun a hF=>?_
   refine aE hF rfl rfl rfl rfl rfl rfl fun a hF=>?_
   refine aE hF rfl rfl rfl rfl rfl rfl fun a hF=>?_
   refine aE hF rfl rfl rfl rfl rfl rfl fun a hF=>?_
   refine aA hF (aP hF rfl rfl rfl rfl) rfl rfl rfl fun a hF=>?_
   refine aJ (aB ?_)
   have hP:=oI hP
   subst hP
   exact ⟨true,rfl,hF.to ⟨rfl,rfl,rfl,rfl,rfl,rfl,rfl,rfl,trivial⟩,selM hM [0,5,10,15,20,25,1,2,3,4,6,7,8,9,11,12,13,14,16,17,18,19,21,22,23,24,26,27,28,29] 32 rfl⟩
  have hP:=Fx.cF n0 hP
  refine aL hF rfl rfl rfl n0 (aF hF rfl rfl) rfl rfl fun a hF=>?_
  refine aL hF rfl rfl rfl n0 (aF hF rfl rfl) rfl rfl fun a hF=>?_
  refine aL hF rfl rfl rfl n0 (dC hF rfl rfl rfl) rfl rfl fun a hF=>?_
  refine aA hF (aX hF rfl rfl n0 rfl) rfl rfl rfl fun a hF=>?_
  refine aA hF (aF hF rfl rfl) rfl rfl rfl fun a hF=>?_
  refine bE 53 hF rfl (fun m3=>?_) (fun m3=>?_)
  ·have hP:=Fx.cT m3 hP
   refine aE hF rfl rfl rfl m3 rfl rfl fun a hF=>?_
   refine aE hF rfl rfl rfl m3 rfl rfl fun a hF=>?_
   refine aE hF rfl rfl rfl m3 rfl rfl fun a hF=>?_
   refine aE hF rfl rfl rfl m3 rfl rfl fun a hF=>?_
   refine aA hF (aP hF rfl rfl m3 rfl) rfl rfl rfl fun a hF=>?_
   refine aA hF (aF hF rfl rfl) rfl rfl rfl fun a hF=>?_
   refine aE hF rfl rfl rfl rfl rfl rfl fun a hF=>?_
   refine aE hF rfl rfl rfl rfl rfl rfl fun a hF=>?_
   refine aE hF rfl rfl rfl rfl rfl rfl fun a hF=>?_
   refine aE hF rfl rfl rfl rfl rfl rfl fun a hF=>?_
   refine aA hF (aP hF rfl rfl rfl rfl) rfl rfl rfl fun a hF=>?_
   refine aA hF (aF hF rfl rfl) rfl rfl rfl fun a hF=>?_
   refine aE hF rfl rfl rfl rfl rfl rfl fun a hF=>?_
   refine aE hF rfl rfl rfl rfl rfl rfl fun a hF=>?_
   refine aE hF rfl rfl rfl rfl rfl rfl fun a hF=>?_
   refine aE hF rfl rfl rfl rfl rfl rfl fun a hF=>?_
   refine aA hF (aP hF rfl rfl rfl rfl) rfl rfl rfl fun a hF=>?_
   refine aA hF (aF hF rfl rfl) rfl rfl rfl fun a hF=>?_
   refine aE hF rfl rfl rfl rfl rfl rfl fun a hF=>?_
   refine aE hF rfl rfl rfl rfl rfl rfl fun a hF=>?_
   refine aE hF rfl rfl rfl rfl rfl rfl fun a hF=>?_
   refine aE hF rfl rfl rfl rfl rfl rfl fun a hF=>?_
   refine aA hF (aP hF rfl rfl rfl rfl) rfl rfl rfl fun a hF=>?_
   refine aJ (aB ?_)
   have hP:=oI hP
   subst hP
   exact ⟨true,rfl,hF.to ⟨rfl,rfl,rfl,rfl,rfl,rfl,rfl,rfl,trivial⟩,selM hM [0,5,10,15,20,25,1,2,3,4,6,7,8,9,11,12,13,14,16,17,18,19,21,22,23,24,26,27,28,29] 32 rfl⟩
  have hP:=Fx.cF m3 hP
  refine aL hF rfl rfl rfl m3 (aQ qA54 qS54 hF rfl rfl (RState.len _) (hM.cells (i:=15) rfl (bA (RState.len _)))) rfl rfl fun a hF=>?_
  refine aL hF rfl rfl rfl m3 (aQ qA54 qS54 hF rfl rfl (RState.len _) (hM.cells (i:=5) rfl (bA (RState.len _)))) rfl rfl fun a hF=>?_
  obtain ⟨c47,c12,hP⟩:=bind_some hP
  refine dV hF rfl rfl rfl m3 rfl rfl (aN (xs:=[.tmp 54,.tmp 55]) qC34 hF rfl rfl (dR c12 hM (fun _ h=>h) (fun w hM=>(hM.rowS (X:=UInt8) (i:=16) rfl)) (fun w hM=>(hM.rowS (X:=SV) (i:=17) rfl)) (u0.mono fun _ _ q=>q.mono fun w hM=>hM.hold 18 _ rfl) (fun w hM=>(hM.rowS (X:=Int) (i:=19) rfl)) (fun w hM=>(hM.rowS (X:=UInt8) (i:=6) rfl)) (fun w hM=>(hM.rowS (X:=SV) (i:=7) rfl)) (u2.mono fun _ _ q=>q.mono fun w hM=>hM.hold 8 _ rfl) (fun w hM=>(hM.rowS (X:=Int) (i:=9) rfl))) fun v w hR=>?_)
  obtain ⟨rfl,hM⟩:=hR
  replace hM:MemL _ (pt i3 (RState.enc (mSt c5.1 i4 i5 i6)) 54 :: rowL 0 i4 5 c5.1.ctx :: rowL 0 i5 23 k3 :: m0 :: rowL 0 i6 3 c5.1.sent :: pt g8 (RState.enc (mSt c4.1 i0 i1 i2)) 54 :: rowL 0 i0 5 c4.1.ctx :: rowL 0 i1 23 k0 :: l3 :: rowL 0 i2 3 c4.1.sent :: pt g9 (RState.enc (mSt c2.1 g5 g6 g7)) 54 :: rowL 0 g5 5 c2.1.ctx :: rowL 0 g6 23 j4 :: l1 :: rowL 0 g7 3 c2.1.sent :: pt g4 (RState.enc (mSt c1.1 g0 g1 g2)) 54 :: rowL 0 g0 5 c1.1.ctx :: rowL 0 g1 23 i7 :: k2 :: rowL 0 g2 3 c1.1.sent :: pt m1 (RState.enc (mSt c6 j3 i8 j5)) 54 :: rowL 0 j3 5 c6.ctx :: rowL 0 i8 23 g3 :: (packR g3 c6.tables) :: rowL 0 j5 3 c6.sent :: pt m2 (RMark.enc (mMk d4 k5 k6 k7 k8)) 60 :: l9.r :: l2.r :: k9.r :: l0.r :: pt c8 (RMark.enc (mMk x1 s9 s11 s13 s17)) 60 :: pt c7 (RState.enc (mSt x0 s1 s3 s7)) 54 :: Lr):=hM
  intro a hF
  refine aL hF rfl rfl rfl m3 (dE hF rfl rfl) rfl rfl fun a hF=>?_
  refine aA hF (aX hF rfl rfl m3 rfl) rfl rfl rfl fun a hF=>?_
  refine aA hF (aF hF rfl rfl) rfl rfl rfl fun a hF=>?_
  refine bE 59 hF rfl (fun m4=>?_) (fun m4=>?_)
  ·have hP:=Fx.cT m4 hP
   refine aE hF rfl rfl rfl m4 rfl rfl fun a hF=>?_
   refine aE hF rfl rfl rfl m4 rfl rfl fun a hF=>?_
   refine aE hF rfl rfl rfl m4 rfl rfl fun a hF=>?_
   refine aE hF rfl rfl rfl m4 rfl rfl fun a hF=>?_
   refine aA hF (aP hF rfl rfl m4 rfl) rfl rfl rfl fun a hF=>?_
   refine aA hF (aF hF rfl rfl) rfl rfl rfl fun a hF=>?_
   refine aE hF rfl rfl rfl rfl rfl rfl fun a hF=>?_
   refine aE hF rfl rfl rfl rfl rfl rfl fun a hF=>?_
   refine aE hF rfl rfl rfl rfl rfl rfl fun a hF=>?_
   refine aE hF rfl rfl rfl rfl rfl rfl fun a hF=>?_
   refine aA hF (aP hF rfl rfl rfl rfl) rfl rfl rfl fun a hF=>?_
   refine aA hF (aF hF rfl rfl) rfl rfl rfl fun a hF=>?_
   refine aE hF rfl rfl rfl rfl rfl rfl fun a hF=>?_
   refine aE hF rfl rfl rfl rfl rfl rfl fun a hF=>?_
   refine aE hF rfl rfl rfl rfl rfl rfl fun a hF=>?_
   refine aE hF rfl rfl rfl rfl rfl rfl fun a hF=>?_
   refine aA hF (aP hF rfl rfl rfl rfl) rfl rfl rfl fun a hF=>?_
   refine aJ (aB ?_)
   have hP:=oI hP
   subst hP
   exact ⟨true,rfl,hF.to ⟨rfl,rfl,rfl,rfl,rfl,rfl,rfl,rfl,trivial⟩,selM hM [0,5,10,15,20,25,1,2,3,4,6,7,8,9,11,12,13,14,16,17,18,19,21,22,23,24,26,27,28,29] 32 rfl⟩
  have hP:=Fx.cF m4 hP
  refine aL hF rfl rfl rfl m4 (aQ qA54 qS54 hF rfl rfl (RState.len _) (hM.cells (i:=10) rfl (bA (RState.len _)))) rfl rfl fun a hF=>?_
  refine aL hF rfl rfl rfl m4 (aQ qA54 qS54 hF rfl rfl (RState.len _) (hM.cells (i:=0) rfl (bA (RState.len _)))) rfl rfl fun a hF=>?_
  obtain ⟨c48,c13,hP⟩:=bind_some hP
  refine dV hF rfl rfl rfl m4 rfl rfl (aN (xs:=[.tmp 60,.tmp 61]) qC34 hF rfl rfl (dR c13 hM (fun _ h=>h) (fun w hM=>(hM.rowS (X:=UInt8) (i:=11) rfl)) (fun w hM=>(hM.rowS (X:=SV) (i:=12) rfl)) (u1.mono fun _ _ q=>q.mono fun w hM=>hM.hold 13 _ rfl) (fun w hM=>(hM.rowS (X:=Int) (i:=14) rfl)) (fun w hM=>(hM.rowS (X:=UInt8) (i:=1) rfl)) (fun w hM=>(hM.rowS (X:=SV) (i:=2) rfl)) (u3.mono fun _ _ q=>q.mono fun w hM=>hM.hold 3 _ rfl) (fun w hM=>(hM.rowS (X:=Int) (i:=4) rfl))) fun v w hR=>?_)
  obtain ⟨rfl,hM⟩:=hR
  replace hM:MemL _ (pt i3 (RState.enc (mSt c5.1 i4 i5 i6)) 54 :: rowL 0 i4 5 c5.1.ctx :: rowL 0 i5 23 k3 :: m0 :: rowL 0 i6 3 c5.1.sent :: pt g8 (RState.enc (mSt c4.1 i0 i1 i2)) 54 :: rowL 0 i0 5 c4.1.ctx :: rowL 0 i1 23 k0 :: l3 :: rowL 0 i2 3 c4.1.sent :: pt g9 (RState.enc (mSt c2.1 g5 g6 g7)) 54 :: rowL 0 g5 5 c2.1.ctx :: rowL 0 g6 23 j4 :: l1 :: rowL 0 g7 3 c2.1.sent :: pt g4 (RState.enc (mSt c1.1 g0 g1 g2)) 54 :: rowL 0 g0 5 c1.1.ctx :: rowL 0 g1 23 i7 :: k2 :: rowL 0 g2 3 c1.1.sent :: pt m1 (RState.enc (mSt c6 j3 i8 j5)) 54 :: rowL 0 j3 5 c6.ctx :: rowL 0 i8 23 g3 :: (packR g3 c6.tables) :: rowL 0 j5 3 c6.sent :: pt m2 (RMark.enc (mMk d4 k5 k6 k7 k8)) 60 :: l9.r :: l2.r :: k9.r :: l0.r :: pt c8 (RMark.enc (mMk x1 s9 s11 s13 s17)) 60 :: pt c7 (RState.enc (mSt x0 s1 s3 s7)) 54 :: Lr):=hM
  intro a hF
  refine aL hF rfl rfl rfl m4 (dE hF rfl rfl) rfl rfl fun a hF=>?_
  refine aA hF (aX hF rfl rfl m4 rfl) rfl rfl rfl fun a hF=>?_
  refine aA hF (aF hF rfl rfl) rfl rfl rfl fun a hF=>?_
  refine bE 65 hF rfl (fun m5=>?_) (fun m5=>?_)
  ·have hP:=Fx.cT m5 hP
   refine aE hF rfl rfl rfl m5 rfl rfl fun a hF=>?_
   refine aE hF rfl rfl rfl m5 rfl rfl fun a hF=>?_
   refine aE hF rfl rfl rfl m5 rfl rfl fun a hF=>?_
   refine aE hF rfl rfl rfl m5 rfl rfl fun a hF=>?_
   refine aA hF (aP hF rfl rfl m5 rfl) rfl rfl rfl fun a hF=>?_
   refine aA hF (aF hF rfl rfl) rfl rfl rfl fun a hF=>?_
   refine aE hF rfl rfl rfl rfl rfl rfl fun a hF=>?_
   refine aE hF rfl rfl rfl rfl rfl rfl fun a hF=>?_
   refine aE hF rfl rfl rfl rfl rfl rfl fun a hF=>?_
   refine aE hF rfl rfl rfl rfl rfl rfl fun a hF=>?_
   refine aA hF (aP hF rfl rfl rfl rfl) rfl rfl rfl fun a hF=>?_
   refine aJ (aB ?_)
   have hP:=oI hP
   subst hP
   exact ⟨true,rfl,hF.to ⟨rfl,rfl,rfl,rfl,rfl,rfl,rfl,rfl,trivial⟩,selM hM [0,5,10,15,20,25,1,2,3,4,6,7,8,9,11,12,13,14,16,17,18,19,21,22,23,24,26,27,28,29] 32 rfl⟩
  have hP:=Fx.cF m5 hP
  refine aL hF rfl rfl rfl m5 (aQ qA54 qS54 hF rfl rfl (RState.len _) (hM.cells (i:=20) rfl (bA (RState.len _)))) rfl rfl fun a hF=>?_
  refine aL hF rfl rfl rfl m5 (aQ qA54 qS54 hF rfl rfl (RState.len _) (hM.cells (i:=31) rfl (bA (RState.len _)))) rfl rfl fun a hF=>?_
  obtain ⟨c49,c14,hP⟩:=bind_some hP
  refine dV hF rfl rfl rfl m5 rfl rfl (aN (xs:=[.tmp 66,.tmp 67]) qC34 hF rfl rfl (dR c14 hM (fun _ h=>h) (fun w hM=>(hM.rowS (X:=UInt8) (i:=21) rfl)) (fun w hM=>(hM.rowS (X:=SV) (i:=22) rfl)) (p7.mono fun _ _ q=>q.mono fun w hM=>hM.hold 23 _ rfl) (fun w hM=>(hM.rowS (X:=Int) (i:=24) rfl)) (fun w hM=>(f2 _ (hsub _ (dropM hM 32)))) (fun w hM=>(f5 _ (hsub _ (dropM hM 32)))) (q6.mono fun _ _ q=>q.mono fun w hM=>hsub _ (dropM hM 32)) (fun w hM=>(f8 _ (hsub _ (dropM hM 32))))) fun v w hR=>?_)
  obtain ⟨rfl,hM⟩:=hR
  replace hM:MemL _ (pt i3 (RState.enc (mSt c5.1 i4 i5 i6)) 54 :: rowL 0 i4 5 c5.1.ctx :: rowL 0 i5 23 k3 :: m0 :: rowL 0 i6 3 c5.1.sent :: pt g8 (RState.enc (mSt c4.1 i0 i1 i2)) 54 :: rowL 0 i0 5 c4.1.ctx :: rowL 0 i1 23 k0 :: l3 :: rowL 0 i2 3 c4.1.sent :: pt g9 (RState.enc (mSt c2.1 g5 g6 g7)) 54 :: rowL 0 g5 5 c2.1.ctx :: rowL 0 g6 23 j4 :: l1 :: rowL 0 g7 3 c2.1.sent :: pt g4 (RState.enc (mSt c1.1 g0 g1 g2)) 54 :: rowL 0 g0 5 c1.1.ctx :: rowL 0 g1 23 i7 :: k2 :: rowL 0 g2 3 c1.1.sent :: pt m1 (RState.enc (mSt c6 j3 i8 j5)) 54 :: rowL 0 j3 5 c6.ctx :: rowL 0 i8 23 g3 :: (packR g3 c6.tables) :: rowL 0 j5 3 c6.sent :: pt m2 (RMark.enc (mMk d4 k5 k6 k7 k8)) 60 :: l9.r :: l2.r :: k9.r :: l0.r :: pt c8 (RMark.enc (mMk x1 s9 s11 s13 s17)) 60 :: pt c7 (RState.enc (mSt x0 s1 s3 s7)) 54 :: Lr):=hM
  intro a hF
  refine aL hF rfl rfl rfl m5 (dE hF rfl rfl) rfl rfl fun a hF=>?_
  refine aA hF (aX hF rfl rfl m5 rfl) rfl rfl rfl fun a hF=>?_
  refine aA hF (aF hF rfl rfl) rfl rfl rfl fun a hF=>?_
  refine bE 71 hF rfl (fun m6=>?_) (fun m6=>?_)
  ·have hP:=Fx.cT m6 hP
   refine aE hF rfl rfl rfl m6 rfl rfl fun a hF=>?_
   refine aE hF rfl rfl rfl m6 rfl rfl fun a hF=>?_
   refine aE hF rfl rfl rfl m6 rfl rfl fun a hF=>?_
   refine aE hF rfl rfl rfl m6 rfl rfl fun a hF=>?_
   refine aA hF (aP hF rfl rfl m6 rfl) rfl rfl rfl fun a hF=>?_
   refine aJ (aB ?_)
   have hP:=oI hP
   subst hP
   exact ⟨true,rfl,hF.to ⟨rfl,rfl,rfl,rfl,rfl,rfl,rfl,rfl,trivial⟩,selM hM [0,5,10,15,20,25,1,2,3,4,6,7,8,9,11,12,13,14,16,17,18,19,21,22,23,24,26,27,28,29] 32 rfl⟩
  have hP:=Fx.cF m6 hP
  refine aL hF rfl rfl rfl m6 (aQ qA60 qS60 hF rfl rfl (RMark.len _) (hM.cells (i:=25) rfl (bA (RMark.len _)))) rfl rfl fun a hF=>?_
  refine aL hF rfl rfl rfl m6 (aQ qA60 qS60 hF rfl rfl (RMark.len _) (hM.cells (i:=30) rfl (bA (RMark.len _)))) rfl rfl fun a hF=>?_
  obtain ⟨c34,c15,hP⟩:=bind_some hP
  refine dV hF rfl rfl rfl m6 rfl rfl (aN (xs:=[.tmp 72,.tmp 73]) Tryz.call63 hF rfl rfl (lD c15 hM (fun _ h=>h) (LRm.mono p0 fun w hM=>hM.hold 26 _ rfl) (LRm.mono p1 fun w hM=>hM.hold 27 _ rfl) (LRm.mono p2 fun w hM=>hM.hold 28 _ rfl) (p8.mono fun _ _ q=>q.mono fun w hM=>hM.hold 28 _ rfl) (LRm.mono p3 fun w hM=>hM.hold 29 _ rfl) (fun w hM=>(f10 _ (hsub _ (dropM hM 32)))) (fun w hM=>(f12 _ (hsub _ (dropM hM 32)))) (fun w hM=>(f15 _ (hsub _ (dropM hM 32)))) (q16.mono fun _ _ q=>q.mono fun w hM=>hsub _ (dropM hM 32)) (fun w hM=>(f18 _ (hsub _ (dropM hM 32))))) fun v w hR=>?_)
  obtain ⟨rfl,hM⟩:=hR
  replace hM:MemL _ (pt i3 (RState.enc (mSt c5.1 i4 i5 i6)) 54 :: rowL 0 i4 5 c5.1.ctx :: rowL 0 i5 23 k3 :: m0 :: rowL 0 i6 3 c5.1.sent :: pt g8 (RState.enc (mSt c4.1 i0 i1 i2)) 54 :: rowL 0 i0 5 c4.1.ctx :: rowL 0 i1 23 k0 :: l3 :: rowL 0 i2 3 c4.1.sent :: pt g9 (RState.enc (mSt c2.1 g5 g6 g7)) 54 :: rowL 0 g5 5 c2.1.ctx :: rowL 0 g6 23 j4 :: l1 :: rowL 0 g7 3 c2.1.sent :: pt g4 (RState.enc (mSt c1.1 g0 g1 g2)) 54 :: rowL 0 g0 5 c1.1.ctx :: rowL 0 g1 23 i7 :: k2 :: rowL 0 g2 3 c1.1.sent :: pt m1 (RState.enc (mSt c6 j3 i8 j5)) 54 :: rowL 0 j3 5 c6.ctx :: rowL 0 i8 23 g3 :: (packR g3 c6.tables) :: rowL 0 j5 3 c6.sent :: pt m2 (RMark.enc (mMk d4 k5 k6 k7 k8)) 60 :: l9.r :: l2.r :: k9.r :: l0.r :: pt c8 (RMark.enc (mMk x1 s9 s11 s13 s17)) 60 :: pt c7 (RState.enc (mSt x0 s1 s3 s7)) 54 :: Lr):=hM
  intro a hF
  refine aL hF rfl rfl rfl m6 (dE hF rfl rfl) rfl rfl fun a hF=>?_
  refine aA hF (aX hF rfl rfl m6 rfl) rfl rfl rfl fun a hF=>?_
  refine aJ (aB ?_)
  have hP:=oI hP
  subst hP
  exact ⟨(!c34),rfl,hF.to ⟨rfl,rfl,rfl,rfl,rfl,rfl,rfl,rfl,trivial⟩,selM hM [0,5,10,15,20,25,1,2,3,4,6,7,8,9,11,12,13,14,16,17,18,19,21,22,23,24,26,27,28,29] 32 rfl⟩
 rintro t2 a w hP ⟨hF,hM⟩
 replace hP:Sh.iS c6 d4 c1 c2 c4 c5 t2 = _:=hP
 unfold Sh.iS at hP
 refine aB ?_
 refine aV hF (c:=.tmp 76) rfl (fun p5=>?_) (fun p5=>?_)
 ·have hP:=Fx.cT p5 hP
  refine aG ?_
  refine aD ?_
  refine aA hF (aH hF rfl rfl) rfl rfl rfl fun a hF=>?_
  refine aJ (aB ?_)
  refine c_ret ?_
  have hP:=oI hP
  subst hP
  refine bH Tryz.results18 hF rfl ?_
  exact ⟨rfl,selM hM [] 30 rfl⟩
 have hP:=Fx.cF p5 hP
 refine aW (aB ?_)
 refine aG ?_
 refine aD ?_
 refine aA hF (aC (off':=460) qU54 rfl in23 rfl hF rfl rfl rfl) rfl rfl rfl fun a hF=>?_
 refine aA hF (aI qA23 hF rfl rfl (hM.cell (i:=4) rfl (RState.g_ctx _))) rfl rfl rfl fun a hF=>?_
 refine aA hF (aC (off':=461) qU54 rfl in28 rfl hF rfl rfl rfl) rfl rfl rfl fun a hF=>?_
 refine aA hF (aI qA28 hF rfl rfl (hM.cell (i:=4) rfl (RState.g_tables _))) rfl rfl rfl fun a hF=>?_
 refine aA hF (cE z30 qU30 pl30 hF (parts:=[(0,.tmp 78),(1,.tmp 80)]) rfl rfl (cM rfl rfl (by rw [RInput.len]; decide) (RInput.s_ctx _ _) (cM rfl rfl (by rw [RInput.len]; decide) (RInput.s_tables _ _) cX))) rfl rfl rfl fun a hF=>?_
 refine aA hF (aQ qA60 qS60 hF rfl rfl (RMark.len _) (hM.cells (i:=5) rfl (bA (RMark.len _)))) rfl rfl rfl fun a hF=>?_
 refine aO hF rfl rfl rfl (cL (X:=RMark) (y:=(mMk d4 k5 k6 k7 k8)) qU33 in60 rfl rfl rfl rfl hF rfl rfl rfl fun n2 w c26 t1=>?_)
 have hM:=hM.plus t1
 replace hM:MemL _ (pt n2 (encs ([(mMk d4 k5 k6 k7 k8)]:List RMark)) 60 :: pt i3 (RState.enc (mSt c5.1 i4 i5 i6)) 54 :: pt g8 (RState.enc (mSt c4.1 i0 i1 i2)) 54 :: pt g9 (RState.enc (mSt c2.1 g5 g6 g7)) 54 :: pt g4 (RState.enc (mSt c1.1 g0 g1 g2)) 54 :: pt m1 (RState.enc (mSt c6 j3 i8 j5)) 54 :: pt m2 (RMark.enc (mMk d4 k5 k6 k7 k8)) 60 :: rowL 0 i4 5 c5.1.ctx :: rowL 0 i5 23 k3 :: m0 :: rowL 0 i6 3 c5.1.sent :: rowL 0 i0 5 c4.1.ctx :: rowL 0 i1 23 k0 :: l3 :: rowL 0 i2 3 c4.1.sent :: rowL 0 g5 5 c2.1.ctx :: rowL 0 g6 23 j4 :: l1 :: rowL 0 g7 3 c2.1.sent :: rowL 0 g0 5 c1.1.ctx :: rowL 0 g1 23 i7 :: k2 :: rowL 0 g2 3 c1.1.sent :: rowL 0 j3 5 c6.ctx :: rowL 0 i8 23 g3 :: (packR g3 c6.tables) :: rowL 0 j5 3 c6.sent :: l9.r :: l2.r :: k9.r :: l0.r :: Lr):=hM
 intro a hF
 refine aA hF (cE z36 qU36 pl36 hF (parts:=[(0,.tmp 81),(1,.tmp 83)]) rfl rfl (fS rfl (RInput.len _) (by rw [RInput.len,RRecord.len]; decide) (RRecord.p_in_ _ _) (cM rfl rfl (by rw [RRecord.len]; decide) (RRecord.s_marks _ _) cX))) rfl rfl rfl fun a hF=>?_
 have hM:=selM hM [0,1,2,3,4,7,8,9,10,11,12,13,14,15,16,17,18,19,20,21,22,23,24,25,27,28,29,30] 31 rfl
 replace hM:MemL _ (pt n2 (encs ([(mMk d4 k5 k6 k7 k8)]:List RMark)) 60 :: pt i3 (RState.enc (mSt c5.1 i4 i5 i6)) 54 :: pt g8 (RState.enc (mSt c4.1 i0 i1 i2)) 54 :: pt g9 (RState.enc (mSt c2.1 g5 g6 g7)) 54 :: pt g4 (RState.enc (mSt c1.1 g0 g1 g2)) 54 :: rowL 0 i4 5 c5.1.ctx :: rowL 0 i5 23 k3 :: m0 :: rowL 0 i6 3 c5.1.sent :: rowL 0 i0 5 c4.1.ctx :: rowL 0 i1 23 k0 :: l3 :: rowL 0 i2 3 c4.1.sent :: rowL 0 g5 5 c2.1.ctx :: rowL 0 g6 23 j4 :: l1 :: rowL 0 g7 3 c2.1.sent :: rowL 0 g0 5 c1.1.ctx :: rowL 0 g1 23 i7 :: k2 :: rowL 0 g2 3 c1.1.sent :: rowL 0 j3 5 c6.ctx :: rowL 0 i8 23 g3 :: (packR g3 c6.tables) :: l9.r :: l2.r :: k9.r :: l0.r :: Lr):=hM
 obtain ⟨c27,u9,hM⟩:=oneS (selM hM [21,0,1,2,3,4,5,6,7,8,9,10,11,12,13,14,15,16,17,18,19,20,22,23,24,25,26,27] 28 rfl)
 replace hM:MemL _ (c27.r :: pt n2 (encs ([(mMk d4 k5 k6 k7 k8)]:List RMark)) 60 :: pt i3 (RState.enc (mSt c5.1 i4 i5 i6)) 54 :: pt g8 (RState.enc (mSt c4.1 i0 i1 i2)) 54 :: pt g9 (RState.enc (mSt c2.1 g5 g6 g7)) 54 :: pt g4 (RState.enc (mSt c1.1 g0 g1 g2)) 54 :: rowL 0 i4 5 c5.1.ctx :: rowL 0 i5 23 k3 :: m0 :: rowL 0 i6 3 c5.1.sent :: rowL 0 i0 5 c4.1.ctx :: rowL 0 i1 23 k0 :: l3 :: rowL 0 i2 3 c4.1.sent :: rowL 0 g5 5 c2.1.ctx :: rowL 0 g6 23 j4 :: l1 :: rowL 0 g7 3 c2.1.sent :: rowL 0 g0 5 c1.1.ctx :: rowL 0 g1 23 i7 :: k2 :: rowL 0 g2 3 c1.1.sent :: rowL 0 i8 23 g3 :: (packR g3 c6.tables) :: l9.r :: l2.r :: k9.r :: l0.r :: Lr):=hM
 obtain ⟨c28,z0,z1,hM⟩:=joinS (selM hM [0,22,1,2,3,4,5,6,7,8,9,10,11,12,13,14,15,16,17,18,19,20,21,23,24,25,26,27] 28 rfl)
 replace hM:MemL _ (c28.r :: pt n2 (encs ([(mMk d4 k5 k6 k7 k8)]:List RMark)) 60 :: pt i3 (RState.enc (mSt c5.1 i4 i5 i6)) 54 :: pt g8 (RState.enc (mSt c4.1 i0 i1 i2)) 54 :: pt g9 (RState.enc (mSt c2.1 g5 g6 g7)) 54 :: pt g4 (RState.enc (mSt c1.1 g0 g1 g2)) 54 :: rowL 0 i4 5 c5.1.ctx :: rowL 0 i5 23 k3 :: m0 :: rowL 0 i6 3 c5.1.sent :: rowL 0 i0 5 c4.1.ctx :: rowL 0 i1 23 k0 :: l3 :: rowL 0 i2 3 c4.1.sent :: rowL 0 g5 5 c2.1.ctx :: rowL 0 g6 23 j4 :: l1 :: rowL 0 g7 3 c2.1.sent :: rowL 0 g0 5 c1.1.ctx :: rowL 0 g1 23 i7 :: k2 :: rowL 0 g2 3 c1.1.sent :: (packR g3 c6.tables) :: l9.r :: l2.r :: k9.r :: l0.r :: Lr):=hM
 obtain ⟨c29,t4,z2,hM⟩:=joinS (selM hM [0,22,1,2,3,4,5,6,7,8,9,10,11,12,13,14,15,16,17,18,19,20,21,23,24,25,26] 27 rfl)
 replace hM:MemL _ (c29.r :: pt n2 (encs ([(mMk d4 k5 k6 k7 k8)]:List RMark)) 60 :: pt i3 (RState.enc (mSt c5.1 i4 i5 i6)) 54 :: pt g8 (RState.enc (mSt c4.1 i0 i1 i2)) 54 :: pt g9 (RState.enc (mSt c2.1 g5 g6 g7)) 54 :: pt g4 (RState.enc (mSt c1.1 g0 g1 g2)) 54 :: rowL 0 i4 5 c5.1.ctx :: rowL 0 i5 23 k3 :: m0 :: rowL 0 i6 3 c5.1.sent :: rowL 0 i0 5 c4.1.ctx :: rowL 0 i1 23 k0 :: l3 :: rowL 0 i2 3 c4.1.sent :: rowL 0 g5 5 c2.1.ctx :: rowL 0 g6 23 j4 :: l1 :: rowL 0 g7 3 c2.1.sent :: rowL 0 g0 5 c1.1.ctx :: rowL 0 g1 23 i7 :: k2 :: rowL 0 g2 3 c1.1.sent :: l9.r :: l2.r :: k9.r :: l0.r :: Lr):=hM
 obtain ⟨c30,p6,z3,hM⟩:=joinS (selM hM [0,1,2,3,4,5,6,7,8,9,10,11,12,13,14,15,16,17,18,19,20,21,22,23,24,25] 26 rfl)
 replace hM:MemL _ (c30.r :: pt i3 (RState.enc (mSt c5.1 i4 i5 i6)) 54 :: pt g8 (RState.enc (mSt c4.1 i0 i1 i2)) 54 :: pt g9 (RState.enc (mSt c2.1 g5 g6 g7)) 54 :: pt g4 (RState.enc (mSt c1.1 g0 g1 g2)) 54 :: rowL 0 i4 5 c5.1.ctx :: rowL 0 i5 23 k3 :: m0 :: rowL 0 i6 3 c5.1.sent :: rowL 0 i0 5 c4.1.ctx :: rowL 0 i1 23 k0 :: l3 :: rowL 0 i2 3 c4.1.sent :: rowL 0 g5 5 c2.1.ctx :: rowL 0 g6 23 j4 :: l1 :: rowL 0 g7 3 c2.1.sent :: rowL 0 g0 5 c1.1.ctx :: rowL 0 g1 23 i7 :: k2 :: rowL 0 g2 3 c1.1.sent :: l9.r :: l2.r :: k9.r :: l0.r :: Lr):=hM
 obtain ⟨c31,n8,z4,hM⟩:=joinS (selM hM [0,21,1,2,3,4,5,6,7,8,9,10,11,12,13,14,15,16,17,18,19,20,22,23,24] 25 rfl)
 replace hM:MemL _ (c31.r :: pt i3 (RState.enc (mSt c5.1 i4 i5 i6)) 54 :: pt g8 (RState.enc (mSt c4.1 i0 i1 i2)) 54 :: pt g9 (RState.enc (mSt c2.1 g5 g6 g7)) 54 :: pt g4 (RState.enc (mSt c1.1 g0 g1 g2)) 54 :: rowL 0 i4 5 c5.1.ctx :: rowL 0 i5 23 k3 :: m0 :: rowL 0 i6 3 c5.1.sent :: rowL 0 i0 5 c4.1.ctx :: rowL 0 i1 23 k0 :: l3 :: rowL 0 i2 3 c4.1.sent :: rowL 0 g5 5 c2.1.ctx :: rowL 0 g6 23 j4 :: l1 :: rowL 0 g7 3 c2.1.sent :: rowL 0 g0 5 c1.1.ctx :: rowL 0 g1 23 i7 :: k2 :: rowL 0 g2 3 c1.1.sent :: l2.r :: k9.r :: l0.r :: Lr):=hM
 obtain ⟨c32,n7,z5,hM⟩:=joinS (selM hM [0,21,1,2,3,4,5,6,7,8,9,10,11,12,13,14,15,16,17,18,19,20,22,23] 24 rfl)
 replace hM:MemL _ (c32.r :: pt i3 (RState.enc (mSt c5.1 i4 i5 i6)) 54 :: pt g8 (RState.enc (mSt c4.1 i0 i1 i2)) 54 :: pt g9 (RState.enc (mSt c2.1 g5 g6 g7)) 54 :: pt g4 (RState.enc (mSt c1.1 g0 g1 g2)) 54 :: rowL 0 i4 5 c5.1.ctx :: rowL 0 i5 23 k3 :: m0 :: rowL 0 i6 3 c5.1.sent :: rowL 0 i0 5 c4.1.ctx :: rowL 0 i1 23 k0 :: l3 :: rowL 0 i2 3 c4.1.sent :: rowL 0 g5 5 c2.1.ctx :: rowL 0 g6 23 j4 :: l1 :: rowL 0 g7 3 c2.1.sent :: rowL 0 g0 5 c1.1.ctx :: rowL 0 g1 23 i7 :: k2 :: rowL 0 g2 3 c1.1.sent :: k9.r :: l0.r :: Lr):=hM
 obtain ⟨c33,n5,t5,hM⟩:=joinS (selM hM [0,21,1,2,3,4,5,6,7,8,9,10,11,12,13,14,15,16,17,18,19,20,22] 23 rfl)
 replace hM:MemL _ (c33.r :: pt i3 (RState.enc (mSt c5.1 i4 i5 i6)) 54 :: pt g8 (RState.enc (mSt c4.1 i0 i1 i2)) 54 :: pt g9 (RState.enc (mSt c2.1 g5 g6 g7)) 54 :: pt g4 (RState.enc (mSt c1.1 g0 g1 g2)) 54 :: rowL 0 i4 5 c5.1.ctx :: rowL 0 i5 23 k3 :: m0 :: rowL 0 i6 3 c5.1.sent :: rowL 0 i0 5 c4.1.ctx :: rowL 0 i1 23 k0 :: l3 :: rowL 0 i2 3 c4.1.sent :: rowL 0 g5 5 c2.1.ctx :: rowL 0 g6 23 j4 :: l1 :: rowL 0 g7 3 c2.1.sent :: rowL 0 g0 5 c1.1.ctx :: rowL 0 g1 23 i7 :: k2 :: rowL 0 g2 3 c1.1.sent :: l0.r :: Lr):=hM
 obtain ⟨n6,n4,z6,hM⟩:=joinS (selM hM [0,21,1,2,3,4,5,6,7,8,9,10,11,12,13,14,15,16,17,18,19,20] 22 rfl)
 replace hM:MemL _ (n6.r :: pt i3 (RState.enc (mSt c5.1 i4 i5 i6)) 54 :: pt g8 (RState.enc (mSt c4.1 i0 i1 i2)) 54 :: pt g9 (RState.enc (mSt c2.1 g5 g6 g7)) 54 :: pt g4 (RState.enc (mSt c1.1 g0 g1 g2)) 54 :: rowL 0 i4 5 c5.1.ctx :: rowL 0 i5 23 k3 :: m0 :: rowL 0 i6 3 c5.1.sent :: rowL 0 i0 5 c4.1.ctx :: rowL 0 i1 23 k0 :: l3 :: rowL 0 i2 3 c4.1.sent :: rowL 0 g5 5 c2.1.ctx :: rowL 0 g6 23 j4 :: l1 :: rowL 0 g7 3 c2.1.sent :: rowL 0 g0 5 c1.1.ctx :: rowL 0 g1 23 i7 :: k2 :: rowL 0 g2 3 c1.1.sent :: Lr):=hM
 have c19:LIn (X:=UInt8) n6.r.holds' j3 c6.ctx:=(fun w h=>dN (X:=UInt8) (e:=5) ((fun w h=>(fun w h=>(fun w h=>(fun w h=>(fun w h=>(fun w h=>(fun w h=>u9 w (z0 w h)) w (t4 w h)) w (p6 w h)) w (n8 w h)) w (n7 w h)) w (n5 w h)) w (n4 w h)) w h))
 have c20:LIn (X:=SV) n6.r.holds' i8 g3:=(fun w h=>dN (X:=SV) (e:=23) ((fun w h=>(fun w h=>(fun w h=>(fun w h=>(fun w h=>(fun w h=>z1 w (t4 w h)) w (p6 w h)) w (n8 w h)) w (n7 w h)) w (n5 w h)) w (n4 w h)) w h))
 have c21:Each (LIn (X:=UInt8) n6.r.holds') g3 c6.tables:=(p7.mono fun _ _ q=>q.mono (fun w h=>(fun w h=>(fun w h=>(fun w h=>(fun w h=>z2 w (p6 w h)) w (n8 w h)) w (n7 w h)) w (n5 w h)) w (n4 w h)))
 have c22:LIn (X:=RMark) n6.r.holds' (⟨some ⟨n2,0,none⟩,1,1⟩) [(mMk d4 k5 k6 k7 k8)]:=(fun w h=>aI5 (X:=RMark) ((fun w h=>(fun w h=>(fun w h=>(fun w h=>z3 w (n8 w h)) w (n7 w h)) w (n5 w h)) w (n4 w h)) w h))
 have c23:Each (QMarkIn n6.r.holds') [(mMk d4 k5 k6 k7 k8)] [d4]:=(Each.nil.snoc ⟨k5,k6,k7,n9,k8,rfl,(LRm.toIn (LRm.mono p0 (fun w h=>(fun w h=>(fun w h=>z4 w (n7 w h)) w (n5 w h)) w (n4 w h)))),(LRm.toIn (LRm.mono p1 (fun w h=>(fun w h=>z5 w (n5 w h)) w (n4 w h)))),(LRm.toIn (LRm.mono p2 (fun w h=>t5 w (n4 w h)))),(p8.mono fun _ _ q=>q.toIn.mono (fun w h=>t5 w (n4 w h))),(LRm.toIn (LRm.mono p3 z6))⟩)
 obtain ⟨c50,c16,hP⟩:=bind_some hP
 have u8:=qD (SP:=n6) c16 (selM hM [0,1,2,3,4,5,6,7,8,9,10,11,12,13,14,15,16,17,18,19,20] 21 rfl) c19 c20 c21 c22 c23
 refine aO hF rfl rfl rfl (aN (xs:=[.tmp 84]) Tryz.call58 hF rfl rfl u8 fun v w hR=>?_)
 obtain ⟨rfl,hM⟩:=hR
 replace hM:MemL _ (pt i3 (RState.enc (mSt c5.1 i4 i5 i6)) 54 :: pt g8 (RState.enc (mSt c4.1 i0 i1 i2)) 54 :: pt g9 (RState.enc (mSt c2.1 g5 g6 g7)) 54 :: pt g4 (RState.enc (mSt c1.1 g0 g1 g2)) 54 :: rowL 0 i4 5 c5.1.ctx :: rowL 0 i5 23 k3 :: m0 :: rowL 0 i6 3 c5.1.sent :: rowL 0 i0 5 c4.1.ctx :: rowL 0 i1 23 k0 :: l3 :: rowL 0 i2 3 c4.1.sent :: rowL 0 g5 5 c2.1.ctx :: rowL 0 g6 23 j4 :: l1 :: rowL 0 g7 3 c2.1.sent :: rowL 0 g0 5 c1.1.ctx :: rowL 0 g1 23 i7 :: k2 :: rowL 0 g2 3 c1.1.sent :: Lr):=hM
 intro a hF
 refine aJ (aB ?_)
 refine aG ?_
 refine aU hF hM hP (fun F x a w=>match x with | t3=>Fr 94 [(4,.bool t3)] a ∧ MemL w (rowL 0 i4 5 c5.1.ctx :: rowL 0 i5 23 k3 :: m0 :: rowL 0 i6 3 c5.1.sent :: rowL 0 i0 5 c4.1.ctx :: rowL 0 i1 23 k0 :: l3 :: rowL 0 i2 3 c4.1.sent :: rowL 0 g5 5 c2.1.ctx :: rowL 0 g6 23 j4 :: l1 :: rowL 0 g7 3 c2.1.sent :: rowL 0 g0 5 c1.1.ctx :: rowL 0 g1 23 i7 :: k2 :: rowL 0 g2 3 c1.1.sent :: Lr)) (fun c45 hP c42 hF hM=>?_) ?_
 ·refine aD ?_
  refine aA hF (aQ qA54 qS54 hF rfl rfl (RState.len _) (hM.cells (i:=3) rfl (bA (RState.len _)))) rfl rfl rfl fun a hF=>?_
  refine aA hF (aQ qA54 qS54 hF rfl rfl (RState.len _) (hM.cells (i:=1) rfl (bA (RState.len _)))) rfl rfl rfl fun a hF=>?_
  obtain ⟨c51,c17,hP⟩:=bind_some hP
  refine aO hF rfl rfl rfl (aN (xs:=[.tmp 86,.tmp 87]) qC34 hF rfl rfl (dR c17 hM (fun _ h=>h) (fun w hM=>(hM.rowS (X:=UInt8) (i:=16) rfl)) (fun w hM=>(hM.rowS (X:=SV) (i:=17) rfl)) (u0.mono fun _ _ q=>q.mono fun w hM=>hM.hold 18 _ rfl) (fun w hM=>(hM.rowS (X:=Int) (i:=19) rfl)) (fun w hM=>(hM.rowS (X:=UInt8) (i:=8) rfl)) (fun w hM=>(hM.rowS (X:=SV) (i:=9) rfl)) (u2.mono fun _ _ q=>q.mono fun w hM=>hM.hold 10 _ rfl) (fun w hM=>(hM.rowS (X:=Int) (i:=11) rfl))) fun v w hR=>?_)
  obtain ⟨rfl,hM⟩:=hR
  replace hM:MemL _ (pt i3 (RState.enc (mSt c5.1 i4 i5 i6)) 54 :: pt g8 (RState.enc (mSt c4.1 i0 i1 i2)) 54 :: pt g9 (RState.enc (mSt c2.1 g5 g6 g7)) 54 :: pt g4 (RState.enc (mSt c1.1 g0 g1 g2)) 54 :: rowL 0 i4 5 c5.1.ctx :: rowL 0 i5 23 k3 :: m0 :: rowL 0 i6 3 c5.1.sent :: rowL 0 i0 5 c4.1.ctx :: rowL 0 i1 23 k0 :: l3 :: rowL 0 i2 3 c4.1.sent :: rowL 0 g5 5 c2.1.ctx :: rowL 0 g6 23 j4 :: l1 :: rowL 0 g7 3 c2.1.sent :: rowL 0 g0 5 c1.1.ctx :: rowL 0 g1 23 i7 :: k2 :: rowL 0 g2 3 c1.1.sent :: Lr):=hM
  intro a hF
  refine aA hF (aF hF rfl rfl) rfl rfl rfl fun a hF=>?_
  refine bE 89 hF rfl (fun n1=>?_) (fun n1=>?_)
  ·have hP:=Fx.cT n1 hP
   refine aL hF rfl rfl rfl n1 (aQ qA54 qS54 hF rfl rfl (RState.len _) (hM.cells (i:=2) rfl (bA (RState.len _)))) rfl rfl fun a hF=>?_
   refine aL hF rfl rfl rfl n1 (aQ qA54 qS54 hF rfl rfl (RState.len _) (hM.cells (i:=0) rfl (bA (RState.len _)))) rfl rfl fun a hF=>?_
   obtain ⟨c35,c18,hP⟩:=bind_some hP
   refine dV hF rfl rfl rfl n1 rfl rfl (aN (xs:=[.tmp 90,.tmp 91]) qC34 hF rfl rfl (dR c18 hM (fun _ h=>h) (fun w hM=>(hM.rowS (X:=UInt8) (i:=12) rfl)) (fun w hM=>(hM.rowS (X:=SV) (i:=13) rfl)) (u1.mono fun _ _ q=>q.mono fun w hM=>hM.hold 14 _ rfl) (fun w hM=>(hM.rowS (X:=Int) (i:=15) rfl)) (fun w hM=>(hM.rowS (X:=UInt8) (i:=4) rfl)) (fun w hM=>(hM.rowS (X:=SV) (i:=5) rfl)) (u3.mono fun _ _ q=>q.mono fun w hM=>hM.hold 6 _ rfl) (fun w hM=>(hM.rowS (X:=Int) (i:=7) rfl))) fun v w hR=>?_)
   obtain ⟨rfl,hM⟩:=hR
   replace hM:MemL _ (pt i3 (RState.enc (mSt c5.1 i4 i5 i6)) 54 :: pt g8 (RState.enc (mSt c4.1 i0 i1 i2)) 54 :: pt g9 (RState.enc (mSt c2.1 g5 g6 g7)) 54 :: pt g4 (RState.enc (mSt c1.1 g0 g1 g2)) 54 :: rowL 0 i4 5 c5.1.ctx :: rowL 0 i5 23 k3 :: m0 :: rowL 0 i6 3 c5.1.sent :: rowL 0 i0 5 c4.1.ctx :: rowL 0 i1 23 k0 :: l3 :: rowL 0 i2 3 c4.1.sent :: rowL 0 g5 5 c2.1.ctx :: rowL 0 g6 23 j4 :: l1 :: rowL 0 g7 3 c2.1.sent :: rowL 0 g0 5 c1.1.ctx :: rowL 0 g1 23 i7 :: k2 :: rowL 0 g2 3 c1.1.sent :: Lr):=hM
   intro a hF
   refine aA hF (aP hF rfl rfl n1 rfl) rfl rfl rfl fun a hF=>?_
   refine aA hF (aH hF rfl rfl) rfl rfl rfl fun a hF=>?_
   refine aJ (aB ?_)
   have hP:=oI hP
   subst hP
   exact ⟨c35,rfl,hF.to ⟨rfl,trivial⟩,selM hM [4,5,6,7,8,9,10,11,12,13,14,15,16,17,18,19] 20 rfl⟩
  have hP:=Fx.cF n1 hP
  refine aE hF rfl rfl rfl n1 rfl rfl fun a hF=>?_
  refine aE hF rfl rfl rfl n1 rfl rfl fun a hF=>?_
  refine aE hF rfl rfl rfl n1 rfl rfl fun a hF=>?_
  refine aA hF (aX hF rfl rfl n1 rfl) rfl rfl rfl fun a hF=>?_
  refine aA hF (aH hF rfl rfl) rfl rfl rfl fun a hF=>?_
  refine aJ (aB ?_)
  have hP:=oI hP
  subst hP
  exact ⟨false,rfl,hF.to ⟨rfl,trivial⟩,selM hM [4,5,6,7,8,9,10,11,12,13,14,15,16,17,18,19] 20 rfl⟩
 rintro t3 a w hP ⟨hF,hM⟩
 replace hP:Sh.iT t3 = _:=hP
 unfold Sh.iT at hP
 refine aB ?_
 refine c_ret ?_
 have hP:=oI hP
 subst hP
 refine bH Tryz.results18 hF rfl ?_
 exact ⟨rfl,selM hM [] 16 rfl⟩
end Go.Proofs
end
