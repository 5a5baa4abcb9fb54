/- Ground for this claim: The call of TraceApplies returns true. Condition: the arguments are of bulk at most 1048576. -/
import Derived.Test.YtmgnkohlfbjjnaaGreatRAp7
set_option linter.unusedVariables false
set_option linter.unusedSimpArgs false
section
namespace Go.Proofs
open Go.Fw Go.Fx
set_option maxRecDepth 10000
set_option maxHeartbeats 4000000 in
theorem pP {x0:QState} {s1:SV} {s3:SV} {hs4:List SV} {s7:SV} {out:QState} {w0:World} {Bf:World → Prop} {Lr:List Res} (hP:Sh.pF x0 = some out) (hM:MemL w0 (Lr)) (hsub:∀ w,MemL w Lr → Bf w) (f2:LIn Bf s1 x0.ctx) (f5:LIn Bf s3 hs4) (q6:Each (LIn (X:=UInt8) Bf) hs4 x0.tables) (f8:LIn Bf s7 x0.sent):Calls Tryz.prog 74 #[.agg (RState.enc (mSt x0 s1 s3 s7)).toArray] w0 (Ret fun v w'=>∃ (i0:SV) (i1:SV) (d3:List SV) (i2:SV),v = .agg (RState.enc (mSt out i0 i1 i2)).toArray ∧ Each (LIn (X:=UInt8) (packR d3 out.tables).holds') d3 out.tables ∧ MemL w' (rowL 0 i0 5 out.ctx :: rowL 0 i1 23 d3 :: (packR d3 out.tables) :: rowL 0 i2 3 out.sent :: Lr)):=by
 unfold Sh.pF at hP
 refine aR (vs:=[.agg (RState.enc (mSt x0 s1 s3 s7)).toArray]) Tryz.func74 rfl Tryz.ntmps74 rfl fun a hF=>?_
 refine aG ?_
 refine aD ?_
 refine aO hF rfl rfl rfl (dA hF rfl rfl rfl fun c0 w j9 g1=>?_)
 have hM:=hM.plus g1
 intro a hF
 refine aO hF rfl rfl rfl (bO z54 (zs:=RState.zero.enc) rfl rfl fun c1 w k0 g2=>?_)
 have hM:=hM.plus g2
 replace hM:MemL _ (pt c1 (RState.enc zSt) 54 :: pt c0 (RState.enc (mSt x0 s1 s3 s7)) 54 :: Lr):=hM
 intro a hF
 refine aJ (aB ?_)
 refine aG ?_
 refine aD ?_
 refine aA hF (aC (off':=460) qU54 rfl in23 rfl hF rfl rfl rfl) rfl rfl rfl fun a hF=>?_
 refine aA hF (aI qA23 hF rfl rfl (hM.cell (i:=1) rfl (RState.g_ctx _))) rfl rfl rfl fun a hF=>?_
 obtain ⟨c7,j3,hP⟩:=bind_some hP
 refine aO hF rfl rfl rfl (aN (xs:=[.tmp 6]) Tryz.call73 hF rfl rfl (eU j3 hM (Bf:=Bf) (fun w hM=>hsub _ (dropM hM 2)) f2) fun v w hR=>?_)
 obtain ⟨c2,rfl,hM⟩:=hR
 replace hM:MemL _ (rowL 0 c2 5 c7 :: pt c1 (RState.enc zSt) 54 :: pt c0 (RState.enc (mSt x0 s1 s3 s7)) 54 :: Lr):=hM
 intro a hF
 refine aA hF (aC (off':=460) qU54 rfl in23 rfl hF rfl rfl rfl) rfl rfl rfl fun a hF=>?_
 refine bI rfl rfl (bS qS23 (hM.obj (i:=2) rfl) hF rfl rfl rfl rfl (by rw [RState.len]; decide) (RState.s_ctx _ _) fun w i5=>?_)
 have hM:=hM.chg i5 (i:=2) rfl
 replace hM:MemL _ (rowL 0 c2 5 c7 :: pt c1 (RState.enc zSt) 54 :: pt c0 (RState.enc (mSt x0 c2 s3 s7)) 54 :: Lr):=hM
 refine aJ (aB ?_)
 refine aG ?_
 refine aD ?_
 refine aA hF (aC (off':=461) qU54 rfl in28 rfl hF rfl rfl rfl) rfl rfl rfl fun a hF=>?_
 refine aA hF (aI qA28 hF rfl rfl (hM.cell (i:=2) rfl (RState.g_tables _))) rfl rfl rfl fun a hF=>?_
 obtain ⟨c6,j4,hP⟩:=bind_some hP
 refine aO hF rfl rfl rfl (aN (xs:=[.tmp 10]) Tryz.call148 hF rfl rfl (jC j4 hM (Bf:=Bf) (fun w hM=>hsub _ (dropM hM 3)) f5 q6) fun v w hR=>?_)
 obtain ⟨c3,d4,rfl,j7,hM⟩:=hR
 replace hM:MemL _ (rowL 0 c3 23 d4 :: rowL 0 c2 5 c7 :: pt c1 (RState.enc zSt) 54 :: pt c0 (RState.enc (mSt x0 c2 s3 s7)) 54 :: Lr):=hM
 intro a hF
 refine aA hF (aC (off':=461) qU54 rfl in28 rfl hF rfl rfl rfl) rfl rfl rfl fun a hF=>?_
 refine bI rfl rfl (bS qS28 (hM.obj (i:=3) rfl) hF rfl rfl rfl rfl (by rw [RState.len]; decide) (RState.s_tables _ _) fun w i6=>?_)
 have hM:=hM.chg i6 (i:=3) rfl
 refine aJ (aB ?_)
 refine aG ?_
 have hM:=tQ hM
 have g8:=aH3 j7
 replace hM:MemL _ ((packR (d4.take 0) (c6.take 0)) :: rowL 0 c3 23 d4 :: rowL 0 c2 5 c7 :: pt c1 (RState.enc zSt) 54 :: pt c0 (RState.enc (mSt x0 c2 c3 s7)) 54 :: Lr):=hM
 refine aU hF hM hP (fun F x a w=>match x with | c9=>∃ (c4:List SV),MixP Bf c9 c4 c6 ∧ Fr 33 [(1,.pointer (some ⟨c0,0,none⟩)),(2,.pointer (some ⟨c1,0,none⟩))] a ∧ MemL w (rowL 0 c3 23 c4 :: (packR (c4.take c9) (c6.take c9)) :: pt c1 (RState.enc zSt) 54 :: pt c0 (RState.enc (mSt x0 c2 c3 s7)) 54 :: rowL 0 c2 5 c7 :: Lr)) (fun k8 hP k4 hF hM=>?_) ?_
 ·refine aG ?_
  refine aD ?_
  refine aA hF (aC (off':=461) qU54 rfl in28 rfl hF rfl rfl rfl) rfl rfl rfl fun a hF=>?_
  refine aA hF (aI qA28 hF rfl rfl (hM.cell (i:=4) rfl (RState.g_tables _))) rfl rfl rfl fun a hF=>?_
  refine aA hF (cQ (hM.rowS (X:=SV) (i:=1) rfl) g8.1 qU28 hF rfl rfl) rfl rfl rfl fun a hF=>?_
  refine aA hF (aF hF rfl rfl) rfl rfl rfl fun a hF=>?_
  refine aJ (aB ?_)
  refine aT ?_
  refine bU hF hM hP (fun F x a w=>match x with | (c8,d2)=>∃ (c5:List SV),MixP Bf c8 c5 c6 ∧ Fr 33 [(16,.int .i64 d2),(1,.pointer (some ⟨c0,0,none⟩)),(14,(c3).v),(15,.int .i64 (c6.length:Int)),(2,.pointer (some ⟨c1,0,none⟩))] a ∧ MemL w (rowL 0 c3 23 c5 :: (packR (c5.take c8) (c6.take c8)) :: pt c1 (RState.enc zSt) 54 :: pt c0 (RState.enc (mSt x0 c2 c3 s7)) 54 :: rowL 0 c2 5 c7 :: Lr)) (fun hF hM=>⟨d4,g8,hF.to ⟨rfl,rfl,rfl,rfl,rfl,trivial⟩,selM hM [1,0,3,4,2] 5 rfl⟩) ?_
  rintro ⟨c8,d2⟩ a w k9 hP i4 ⟨c5,d6,hF,hM⟩
  replace hP:Sh.jR c6 c8 d2 = _:=hP
  unfold Sh.jR at hP
  refine aG ?_
  refine aD ?_
  refine aA hF (cI hF rfl rfl rfl) rfl rfl rfl fun a hF=>?_
  refine aJ (aB ?_)
  refine aG ?_
  refine aV hF (c:=.tmp 17) rfl (fun d7=>?_) (fun d7=>?_)
  ·have hP:=Fx.cT d7 hP
   refine aW (aB ?_)
   refine aG ?_
   refine aT ?_
   refine aG ?_
   refine aD ?_
   refine aA hF (aF hF rfl rfl) rfl rfl rfl fun a hF=>?_
   obtain ⟨l0,g0,hP⟩:=bind_some hP
   have k1:=aM g0
   obtain ⟨g3,k6,g5,g7⟩:=yH d6 g0
   obtain ⟨j0,hP⟩:=cH hP
   refine aA hF (aS (sz:=1) (hM.rowS (X:=SV) (i:=0) rfl) qU28 in23 rfl hF rfl rfl rfl g3) rfl rfl rfl fun a hF=>?_
   refine aA hF (aI qA23 hF rfl rfl ((((hM.rowS (X:=SV) (i:=0) rfl).elemS g5)).get 0 rfl)) rfl rfl rfl fun a hF=>?_
   refine aA hF (aH hF rfl rfl) rfl rfl rfl fun a hF=>?_
   refine aA hF (aH hF rfl rfl) rfl rfl rfl fun a hF=>?_
   refine aJ (aB ?_)
   refine bL mixed (by kernel_rfl) hM [0,1,2,3,4] 5 rfl fun hch=>?_
   refine aK hF hch 0 rfl (by kernel_rfl) rfl rfl rfl (fun w hM=>(aC (off':=461) qU54 rfl in28 rfl hF rfl rfl rfl)) fun a hF=>?_
   refine aK hF hch 1 rfl (by kernel_rfl) rfl rfl rfl (fun w hM=>(aI qA28 hF rfl rfl (hM.cell (i:=3) rfl (RState.g_tables _)))) fun a hF=>?_
   refine aK hF hch 2 rfl (by kernel_rfl) rfl rfl rfl (fun w hM=>(aF hF rfl rfl)) fun a hF=>?_
   refine aK hF hch 3 rfl (by kernel_rfl) rfl rfl rfl (fun w hM=>(aF hF rfl rfl)) fun a hF=>?_
   refine bC hch 4 (by kernel_rfl) rfl rfl ?_
   refine bV hF 4 rfl rfl rfl rfl rfl fun w hMs hM=>?_
   obtain ⟨i3,j5,hP⟩:=bind_some hP
   refine (aN (xs:=[.tmp 24]) Tryz.call73 hF rfl rfl (eU j5 hM (Bf:=Bf) (fun w hM=>hsub _ (dropM hM 5)) (g7 (of_decide_eq_true j0))) fun v w hR=>?_)
   obtain ⟨d1,rfl,hM⟩:=hR
   replace hM:MemL _ (rowL 0 d1 5 i3 :: rowL 0 c3 23 c5 :: (packR (c5.take c8) (c6.take c8)) :: pt c1 (RState.enc zSt) 54 :: pt c0 (RState.enc (mSt x0 c2 c3 s7)) 54 :: rowL 0 c2 5 c7 :: Lr):=hM
   have hMs:=selM hM [0,1,2,3,4,5] 6 rfl
   refine ⟨_,_,hMs,hM,.inl fun _ h=>dropM h 1,fun a hF=>?_⟩
   obtain ⟨l1,d5,hP⟩:=bind_some hP
   have k2:=aM d5
   obtain ⟨g4,k7,g6,k3⟩:=yH d6 d5
   obtain ⟨k5,hP⟩:=cH hP
   refine aK hF hch 5 rfl (by kernel_rfl) rfl rfl rfl (fun w hM=>(aS (sz:=1) (hM.rowS (X:=SV) (i:=1) rfl) qU28 in23 rfl hF rfl rfl rfl g4)) fun a hF=>?_
   refine bC hch 6 (by kernel_rfl) rfl rfl ?_
   refine cO 6 rfl rfl rfl rfl fun w hMs hM=>?_
   obtain ⟨d9,hP⟩:=cH hP
   obtain ⟨j1,hP⟩:=cH hP
   refine (eY (X:=SV) (d:=0) (q:=d1) qS23 (hM.own (X:=SV) (i:=1) rfl) g6 hF rfl rfl rfl rfl rfl (by decide) rfl fun w i7=>?_)
   have hM:=hM.chg i7 (i:=1) rfl
   have j8:=aCl (h:=d1) d6 d5 (of_decide_eq_true d9)
   replace hM:MemL _ (rowL 0 d1 5 i3 :: rowL 0 c3 23 (c5.set (d2:Int).toNat d1) :: (packR (c5.take c8) (c6.take c8)) :: pt c1 (RState.enc zSt) 54 :: pt c0 (RState.enc (mSt x0 c2 c3 s7)) 54 :: rowL 0 c2 5 c7 :: Lr):=hM
   rw [of_decide_eq_true j1] at hM
   have hM:=aEf (h:=d1) d6 d5 (of_decide_eq_true d9) (selM hM [2,0,1,3,4,5] 6 rfl)
   replace hM:MemL _ ((packR ((c5.set (d2:Int).toNat d1).take (c8 + 1)) (c6.take (c8 + 1))) :: rowL 0 c3 23 (c5.set (d2:Int).toNat d1) :: pt c1 (RState.enc zSt) 54 :: pt c0 (RState.enc (mSt x0 c2 c3 s7)) 54 :: rowL 0 c2 5 c7 :: Lr):=hM
   have hMs:=hM
   refine ⟨_,_,hMs,hM,.inr (by kernel_rfl),?_⟩
   refine bW hch (by kernel_rfl) fun w hM=>?_
   refine bK (aB ?_)
   refine aD ?_
   refine aA hF (bX hF rfl rfl rfl) rfl rfl rfl fun a hF=>?_
   refine aA hF (aF hF rfl rfl) rfl rfl rfl fun a hF=>?_
   refine aJ (aB ?_)
   have hP:=oI hP
   subst hP
   exact ⟨((c8 + 1),(IntKind.i64.wrap (d2 + 1))),rfl,(c5.set (d2:Int).toNat d1),j8,hF.to ⟨rfl,rfl,rfl,rfl,rfl,trivial⟩,selM hM [1,0,2,3,4] 5 rfl⟩
  have hP:=Fx.cF d7 hP
  refine bY (bD (bD (cJ ?_)))
  refine aB ?_
  have hP:=oI hP
  subst hP
  have hP:=i4 _ rfl
  subst hP
  exact ⟨c8,rfl,c5,d6,hF.to ⟨rfl,rfl,trivial⟩,hM⟩
 rintro c9 a w hP ⟨c4,g9,hF,hM⟩
 replace hP:Sh.oW x0 c7 c6 c9 = _:=hP
 unfold Sh.oW at hP
 refine aB ?_
 refine aG ?_
 refine aD ?_
 refine aA hF (aC (off':=462) qU54 rfl in52 rfl hF rfl rfl rfl) rfl rfl rfl fun a hF=>?_
 refine aA hF (aI qA52 hF rfl rfl (hM.cell (i:=3) rfl (RState.g_sent _))) rfl rfl rfl fun a hF=>?_
 obtain ⟨d8,j6,hP⟩:=bind_some hP
 refine aO hF rfl rfl rfl (aN (xs:=[.tmp 29]) Tryz.call134 hF rfl rfl (gN j6 hM (Bf:=Bf) (fun w hM=>hsub _ (dropM hM 5)) f8) fun v w hR=>?_)
 obtain ⟨d0,rfl,hM⟩:=hR
 replace hM:MemL _ (rowL 0 d0 3 d8 :: rowL 0 c3 23 c4 :: (packR (c4.take c9) (c6.take c9)) :: pt c1 (RState.enc zSt) 54 :: pt c0 (RState.enc (mSt x0 c2 c3 s7)) 54 :: rowL 0 c2 5 c7 :: Lr):=hM
 intro a hF
 refine aA hF (aC (off':=462) qU54 rfl in52 rfl hF rfl rfl rfl) rfl rfl rfl fun a hF=>?_
 refine bI rfl rfl (bS qS52 (hM.obj (i:=4) rfl) hF rfl rfl rfl rfl (by rw [RState.len]; decide) (RState.s_sent _ _) fun w i8=>?_)
 have hM:=hM.chg i8 (i:=4) rfl
 replace hM:MemL _ (rowL 0 d0 3 d8 :: rowL 0 c3 23 c4 :: (packR (c4.take c9) (c6.take c9)) :: pt c1 (RState.enc zSt) 54 :: pt c0 (RState.enc (mSt x0 c2 c3 d0)) 54 :: rowL 0 c2 5 c7 :: Lr):=hM
 refine aJ (aB ?_)
 refine aG ?_
 refine aD ?_
 refine aA hF (aQ qA54 qS54 hF rfl rfl (RState.len _) (hM.cells (i:=4) rfl (bA (RState.len _)))) rfl rfl rfl fun a hF=>?_
 refine bI rfl rfl (aY (vs:=_) qS54 (hM.obj (i:=3) rfl) hF rfl rfl rfl rfl (RState.len _) (RState.one _) (by first | (rw [RState.len,RState.len]; decide) | (rw [RState.len]; decide)) (bF ((RState.len _).trans (RState.len _).symm)) fun w i9=>?_)
 have hM:=hM.chg i9 (i:=3) rfl
 replace hM:MemL _ (rowL 0 d0 3 d8 :: rowL 0 c3 23 c4 :: (packR (c4.take c9) (c6.take c9)) :: pt c1 (RState.enc (mSt x0 c2 c3 d0)) 54 :: pt c0 (RState.enc (mSt x0 c2 c3 d0)) 54 :: rowL 0 c2 5 c7 :: Lr):=hM
 refine aJ (aB ?_)
 refine c_ret ?_
 obtain ⟨j2,hP⟩:=cH hP
 have hM:=aEe g9 (of_decide_eq_true j2) (selM hM [2,0,1,3,4,5] 6 rfl)
 replace hM:MemL _ ((packR c4 c6) :: rowL 0 d0 3 d8 :: rowL 0 c3 23 c4 :: pt c1 (RState.enc (mSt x0 c2 c3 d0)) 54 :: pt c0 (RState.enc (mSt x0 c2 c3 d0)) 54 :: rowL 0 c2 5 c7 :: Lr):=hM
 have hP:=oI hP
 subst hP
 refine dO (rs:=[.cell 2 54]) Tryz.results74 hF (cG hF rfl qA54 qS54 (RState.len _) (hM.cells (i:=3) rfl (bA (RState.len _))) cP) rfl ?_
 exact ⟨c2,c3,c4,d0,rfl,(lT g9.1),selM hM [5,2,0,1] 6 rfl⟩
set_option maxHeartbeats 4000000 in
theorem qJ {x0:QState} {s1:SV} {s3:SV} {hs4:List SV} {s7:SV} {out:QState} {w0:World} {Bf:World → Prop} {Lr:List Res} (hP:Sh.qM x0 = some out) (hM:MemL w0 (Lr)) (hsub:∀ w,MemL w Lr → Bf w) (f2:LIn Bf s1 x0.ctx) (f5:LIn Bf s3 hs4) (q6:Each (LIn (X:=UInt8) Bf) hs4 x0.tables) (f8:LIn Bf s7 x0.sent):Calls Tryz.prog 154 #[.agg (RState.enc (mSt x0 s1 s3 s7)).toArray] w0 (Ret fun v w'=>∃ (j1:SV) (j2:SV) (d6:List SV) (j3:SV),v = .agg (RState.enc (mSt out j1 j2 j3)).toArray ∧ Each (LIn (X:=UInt8) (packR d6 out.tables).holds') d6 out.tables ∧ MemL w' (rowL 0 j1 5 out.ctx :: rowL 0 j2 23 d6 :: (packR d6 out.tables) :: rowL 0 j3 3 out.sent :: Lr)):=by
 unfold Sh.qM at hP
 refine aR (vs:=[.agg (RState.enc (mSt x0 s1 s3 s7)).toArray]) Tryz.func154 rfl Tryz.ntmps154 rfl fun a hF=>?_
 refine aG ?_
 refine aD ?_
 refine aO hF rfl rfl rfl (dA hF rfl rfl rfl fun c2 w k5 g4=>?_)
 have hM:=hM.plus g4
 intro a hF
 refine aO hF rfl rfl rfl (bO z54 (zs:=RState.zero.enc) rfl rfl fun c3 w k6 g5=>?_)
 have hM:=hM.plus g5
 intro a hF
 refine aJ (aB ?_)
 refine aG ?_
 refine aD ?_
 refine aA hF (aQ qA54 qS54 hF rfl rfl (RState.len _) (hM.cells (i:=1) rfl (bA (RState.len _)))) rfl rfl rfl fun a hF=>?_
 refine aO hF rfl rfl rfl (bO z54 (zs:=RState.zero.enc) rfl rfl fun c4 w k7 g6=>?_)
 have hM:=hM.plus g6
 replace hM:MemL _ (pt c4 (RState.enc zSt) 54 :: pt c3 (RState.enc zSt) 54 :: pt c2 (RState.enc (mSt x0 s1 s3 s7)) 54 :: Lr):=hM
 intro a hF
 refine bI rfl rfl (aY (vs:=_) qS54 (hM.obj (i:=0) rfl) hF rfl rfl rfl rfl (RState.len _) (RState.one _) (by first | (rw [RState.len,RState.len]; decide) | (rw [RState.len]; decide)) (bF ((RState.len _).trans (RState.len _).symm)) fun w j5=>?_)
 have hM:=hM.chg j5 (i:=0) rfl
 replace hM:MemL _ (pt c4 (RState.enc (mSt x0 s1 s3 s7)) 54 :: pt c3 (RState.enc zSt) 54 :: pt c2 (RState.enc (mSt x0 s1 s3 s7)) 54 :: Lr):=hM
 refine aJ (aB ?_)
 refine aG ?_
 refine aD ?_
 refine aA hF (aC (off':=460) qU54 rfl in23 rfl hF rfl rfl rfl) rfl rfl rfl fun a hF=>?_
 refine aA hF (aI qA23 hF rfl rfl (hM.cell (i:=2) rfl (RState.g_ctx _))) rfl rfl rfl fun a hF=>?_
 have hM:=hM.rowNil (X:=UInt8) 0 5
 obtain ⟨g8,k1,hP⟩:=bind_some hP
 refine aO hF rfl rfl rfl (cY (X:=UInt8) k1 qU23 in5 rfl rfl rfl rfl hF rfl rfl rfl (hM.own (X:=UInt8) (i:=0) rfl) (f2 _ (hsub _ (dropM hM 4))) fun d5 w i4=>?_)
 have hM:=hM.chg i4 (i:=0) rfl
 replace hM:MemL _ (rowL 0 d5 5 g8 :: pt c4 (RState.enc (mSt x0 s1 s3 s7)) 54 :: pt c3 (RState.enc zSt) 54 :: pt c2 (RState.enc (mSt x0 s1 s3 s7)) 54 :: Lr):=hM
 intro a hF
 refine aA hF (aC (off':=460) qU54 rfl in23 rfl hF rfl rfl rfl) rfl rfl rfl fun a hF=>?_
 refine bI rfl rfl (bS qS23 (hM.obj (i:=1) rfl) hF rfl rfl rfl rfl (by rw [RState.len]; decide) (RState.s_ctx _ _) fun w j6=>?_)
 have hM:=hM.chg j6 (i:=1) rfl
 replace hM:MemL _ (rowL 0 d5 5 g8 :: pt c4 (RState.enc (mSt x0 d5 s3 s7)) 54 :: pt c3 (RState.enc zSt) 54 :: pt c2 (RState.enc (mSt x0 s1 s3 s7)) 54 :: Lr):=hM
 refine aJ (aB ?_)
 refine aG ?_
 refine aD ?_
 refine aA hF (aC (off':=461) qU54 rfl in28 rfl hF rfl rfl rfl) rfl rfl rfl fun a hF=>?_
 refine bI rfl rfl (bS qS28 (hM.obj (i:=1) rfl) hF rfl rfl rfl rfl (by rw [RState.len]; decide) (RState.s_tables _ SV.nil) fun w j7=>?_)
 have hM:=hM.chg j7 (i:=1) rfl
 replace hM:MemL _ (rowL 0 d5 5 g8 :: pt c4 (RState.enc (mSt x0 d5 SV.nil s7)) 54 :: pt c3 (RState.enc zSt) 54 :: pt c2 (RState.enc (mSt x0 s1 s3 s7)) 54 :: Lr):=hM
 refine aJ (aB ?_)
 refine aG ?_
 refine aU hF hM hP (fun F x a w=>match x with | c1=>∃ (c9:SV) (d0:SV) (c7:List SV) (g1:SV),Each (LIn (X:=UInt8) (packR c7 c1.tables).holds') c7 c1.tables ∧ LIn Bf g1 c1.sent ∧ Fr 34 [(1,.pointer (some ⟨c2,0,none⟩)),(2,.pointer (some ⟨c3,0,none⟩)),(3,.pointer (some ⟨c4,0,none⟩))] a ∧ MemL w (pt c4 (RState.enc (mSt c1 c9 d0 g1)) 54 :: rowL 0 c9 5 c1.ctx :: rowL 0 d0 23 c7 :: (packR c7 c1.tables) :: pt c3 (RState.enc zSt) 54 :: pt c2 (RState.enc (mSt x0 s1 s3 s7)) 54 :: Lr)) (fun l4 hP l1 hF hM=>?_) ?_
 ·refine aG ?_
  refine aD ?_
  refine aA hF (aH hF rfl rfl) rfl rfl rfl fun a hF=>?_
  refine aJ (aB ?_)
  refine aT ?_
  have k9:Each (LIn (X:=UInt8) (packR [] []).holds') ([]:List SV) ([]:List (List UInt8)):=Each.nil
  have hM:=tQ hM
  have hM:=hM.rowNil (X:=SV) 0 23
  refine bU hF hM hP (fun F x a w=>match x with | (c0,g2)=>∃ (c8:SV) (d2:SV) (c5:List SV) (d3:SV),Each (LIn (X:=UInt8) (packR c5 c0.tables).holds') c5 c0.tables ∧ LIn Bf d3 c0.sent ∧ Fr 34 [(4,.int .i64 g2),(1,.pointer (some ⟨c2,0,none⟩)),(2,.pointer (some ⟨c3,0,none⟩)),(3,.pointer (some ⟨c4,0,none⟩))] a ∧ MemL w (pt c4 (RState.enc (mSt c0 c8 d2 d3)) 54 :: rowL 0 c8 5 c0.ctx :: rowL 0 d2 23 c5 :: (packR c5 c0.tables) :: pt c3 (RState.enc zSt) 54 :: pt c2 (RState.enc (mSt x0 s1 s3 s7)) 54 :: Lr)) (fun hF hM=>⟨d5,SV.nil,[],s7,k9,f8,hF.to ⟨rfl,rfl,rfl,rfl,trivial⟩,selM hM [3,2,0,1,4,5] 6 rfl⟩) ?_
  rintro ⟨c0,g2⟩ a w l5 hP j4 ⟨c8,d2,c5,d3,g7,i2,hF,hM⟩
  replace hP:Sh.lA x0 c0 g2 = _:=hP
  unfold Sh.lA at hP
  refine aG ?_
  refine aG ?_
  refine aD ?_
  refine aA hF (aF hF rfl rfl) rfl rfl rfl fun a hF=>?_
  refine aA hF (aC (off':=461) qU54 rfl in28 rfl hF rfl rfl rfl) rfl rfl rfl fun a hF=>?_
  refine aA hF (aI qA28 hF rfl rfl (hM.cell (i:=5) rfl (RState.g_tables _))) rfl rfl rfl fun a hF=>?_
  refine aA hF (cQ (f5 _ (hsub _ (dropM hM 6))) q6.len qU28 hF rfl rfl) rfl rfl rfl fun a hF=>?_
  refine aA hF (cI hF rfl rfl rfl) rfl rfl rfl fun a hF=>?_
  refine aJ (aB ?_)
  refine aV hF (c:=.tmp 15) rfl (fun d9=>?_) (fun d9=>?_)
  ·have hP:=Fx.cT d9 hP
   refine aW (aB ?_)
   refine aG ?_
   refine aT ?_
   refine bL mixed (by kernel_rfl) hM [0,1,2,3,4,5] 6 rfl fun hch=>?_
   refine aK hF hch 0 rfl (by kernel_rfl) rfl rfl rfl (fun w hM=>(aC (off':=461) qU54 rfl in28 rfl hF rfl rfl rfl)) fun a hF=>?_
   refine aK hF hch 1 rfl (by kernel_rfl) rfl rfl rfl (fun w hM=>(aI qA28 hF rfl rfl (hM.cell (i:=0) rfl (RState.g_tables _)))) fun a hF=>?_
   refine aK hF hch 2 rfl (by kernel_rfl) rfl rfl rfl (fun w hM=>(aC (off':=461) qU54 rfl in28 rfl hF rfl rfl rfl)) fun a hF=>?_
   refine aK hF hch 3 rfl (by kernel_rfl) rfl rfl rfl (fun w hM=>(aI qA28 hF rfl rfl (hM.cell (i:=5) rfl (RState.g_tables _)))) fun a hF=>?_
   refine aK hF hch 4 rfl (by kernel_rfl) rfl rfl rfl (fun w hM=>(aF hF rfl rfl)) fun a hF=>?_
   obtain ⟨l6,i1,hP⟩:=bind_some hP
   have i3:=aM i1
   obtain ⟨l2,i9,j0⟩:=Each.getr q6 i3.2
   have i8:=Each.bd q6 (bG i1)
   refine aK hF hch 5 rfl (by kernel_rfl) rfl rfl rfl (fun w hM=>(aS (sz:=1) (f5 _ (hsub _ (dropM hM 6))) qU28 in23 rfl hF rfl rfl rfl i8)) fun a hF=>?_
   refine aK hF hch 6 rfl (by kernel_rfl) rfl rfl rfl (fun w hM=>(aI qA23 hF rfl rfl ((((f5 _ (hsub _ (dropM hM 6))).elemS i9)).get 0 rfl))) fun a hF=>?_
   refine bC hch 7 (by kernel_rfl) rfl rfl ?_
   refine bV hF 7 rfl rfl rfl rfl rfl fun w hMs hM=>?_
   have hM:=hM.rowNil (X:=UInt8) 0 5
   obtain ⟨g9,k2,hP⟩:=bind_some hP
   refine (cY (X:=UInt8) k2 qU23 in5 rfl rfl rfl rfl hF rfl rfl rfl (hM.own (X:=UInt8) (i:=0) rfl) (j0 _ (hsub _ (dropM hM 7))) fun c6 w i5=>?_)
   have hM:=hM.chg i5 (i:=0) rfl
   replace hM:MemL _ (rowL 0 c6 5 g9 :: pt c4 (RState.enc (mSt c0 c8 d2 d3)) 54 :: rowL 0 c8 5 c0.ctx :: rowL 0 d2 23 c5 :: (packR c5 c0.tables) :: pt c3 (RState.enc zSt) 54 :: pt c2 (RState.enc (mSt x0 s1 s3 s7)) 54 :: Lr):=hM
   have hMs:=selM hM [0,1,2,3,4,5,6] 7 rfl
   refine ⟨_,_,hMs,hM,.inl fun _ h=>dropM h 1,fun a hF=>?_⟩
   refine bC hch 8 (by kernel_rfl) rfl rfl ?_
   refine bV hF 8 rfl rfl rfl rfl rfl fun w hMs hM=>?_
   refine (cL (X:=SV) (y:=c6) qU28 in23 rfl rfl rfl rfl hF rfl rfl rfl fun d1 w k4 g3=>?_)
   have hM:=hM.plus g3
   replace hM:MemL _ (pt d1 (encs ([c6]:List SV)) 23 :: rowL 0 c6 5 g9 :: pt c4 (RState.enc (mSt c0 c8 d2 d3)) 54 :: rowL 0 c8 5 c0.ctx :: rowL 0 d2 23 c5 :: (packR c5 c0.tables) :: pt c3 (RState.enc zSt) 54 :: pt c2 (RState.enc (mSt x0 s1 s3 s7)) 54 :: Lr):=hM
   have hMs:=selM hM [0,1,2,3,4,5,6,7] 8 rfl
   refine ⟨_,_,hMs,hM,.inl fun _ h=>dropM h 1,fun a hF=>?_⟩
   refine bC hch 9 (by kernel_rfl) rfl rfl ?_
   refine bV hF 9 rfl rfl rfl rfl rfl fun w hMs hM=>?_
   obtain ⟨d8,g0,hP⟩:=bind_some hP
   refine (fG (X:=SV) g0 g7.len rfl qU28 in23 rfl rfl rfl rfl hF rfl rfl rfl (hM.own (X:=SV) (i:=4) rfl) (hM.ptS (X:=SV) (i:=0) (n:=1) (c:=1) rfl rfl rfl (Nat.le_refl _)) fun d7 w i6=>?_)
   have hM:=hM.chg i6 (i:=4) rfl
   replace hM:MemL _ (pt d1 (encs ([c6]:List SV)) 23 :: rowL 0 c6 5 g9 :: pt c4 (RState.enc (mSt c0 c8 d2 d3)) 54 :: rowL 0 c8 5 c0.ctx :: rowL 0 d7 23 (c5 ++ [c6]) :: (packR c5 c0.tables) :: pt c3 (RState.enc zSt) 54 :: pt c2 (RState.enc (mSt x0 s1 s3 s7)) 54 :: Lr):=hM
   have hM:=rA (selM hM [5,1,0,2,3,4,6,7] 8 rfl) (dL g0).2
   have l0:Each (LIn (X:=UInt8) (packR (c5 ++ [c6]) d8).holds') (c5 ++ [c6]) d8:=lT (by rw [(dL g0).2]; simp [g7.len])
   replace hM:MemL _ ((packR (c5 ++ [c6]) d8) :: pt d1 (encs ([c6]:List SV)) 23 :: pt c4 (RState.enc (mSt c0 c8 d2 d3)) 54 :: rowL 0 c8 5 c0.ctx :: rowL 0 d7 23 (c5 ++ [c6]) :: pt c3 (RState.enc zSt) 54 :: pt c2 (RState.enc (mSt x0 s1 s3 s7)) 54 :: Lr):=hM
   have hMs:=hM
   refine ⟨_,_,hMs,hM,.inr (by kernel_rfl),fun a hF=>?_⟩
   refine aK hF hch 10 rfl (by kernel_rfl) rfl rfl rfl (fun w hM=>(aC (off':=461) qU54 rfl in28 rfl hF rfl rfl rfl)) fun a hF=>?_
   refine bC hch 11 (by kernel_rfl) rfl rfl ?_
   refine cO 11 rfl rfl rfl rfl fun w hMs hM=>?_
   refine (bS qS28 (hM.obj (i:=2) rfl) hF rfl rfl rfl rfl (by rw [RState.len]; decide) (RState.s_tables _ _) fun w j8=>?_)
   have hM:=hM.chg j8 (i:=2) rfl
   replace hM:MemL _ ((packR (c5 ++ [c6]) d8) :: pt d1 (encs ([c6]:List SV)) 23 :: pt c4 (RState.enc (mSt c0 c8 d7 d3)) 54 :: rowL 0 c8 5 c0.ctx :: rowL 0 d7 23 (c5 ++ [c6]) :: pt c3 (RState.enc zSt) 54 :: pt c2 (RState.enc (mSt x0 s1 s3 s7)) 54 :: Lr):=hM
   have hMs:=hM
   refine ⟨_,_,hMs,hM,.inr (by kernel_rfl),?_⟩
   refine bW hch (by kernel_rfl) fun w hM=>?_
   refine bK (aB ?_)
   refine aD ?_
   refine aA hF (aF hF rfl rfl) rfl rfl rfl fun a hF=>?_
   refine aA hF (bX hF rfl rfl rfl) rfl rfl rfl fun a hF=>?_
   refine aA hF (aH hF rfl rfl) rfl rfl rfl fun a hF=>?_
   refine aJ (aB ?_)
   have hP:=oI hP
   subst hP
   exact ⟨((QState.mk c0.regs c0.stack c0.ctx d8 c0.sent c0.at_ c0.steps c0.done),(IntKind.i64.wrap (g2 + 1))),rfl,c8,d7,(c5 ++ [c6]),d3,l0,i2,hF.to ⟨rfl,rfl,rfl,rfl,trivial⟩,selM hM [2,3,4,0,5,6] 7 rfl⟩
  have hP:=Fx.cF d9 hP
  refine bY (bD (bD (cJ ?_)))
  refine aB ?_
  have hP:=oI hP
  subst hP
  have hP:=j4 _ rfl
  subst hP
  exact ⟨c0,rfl,c8,d2,c5,d3,g7,i2,hF.to ⟨rfl,rfl,rfl,trivial⟩,hM⟩
 rintro c1 a w hP ⟨c9,d0,c7,g1,k8,l3,hF,hM⟩
 replace hP:Sh.pN x0 c1 = _:=hP
 unfold Sh.pN at hP
 refine aB ?_
 refine aG ?_
 refine aD ?_
 refine aA hF (aC (off':=462) qU54 rfl in52 rfl hF rfl rfl rfl) rfl rfl rfl fun a hF=>?_
 refine aA hF (aI qA52 hF rfl rfl (hM.cell (i:=5) rfl (RState.g_sent _))) rfl rfl rfl fun a hF=>?_
 have hM:=hM.rowNil (X:=Int) 0 3
 obtain ⟨i0,k3,hP⟩:=bind_some hP
 refine aO hF rfl rfl rfl (cY (X:=Int) k3 qU52 in3 rfl rfl rfl rfl hF rfl rfl rfl (hM.own (X:=Int) (i:=0) rfl) (f8 _ (hsub _ (dropM hM 7))) fun d4 w i7=>?_)
 have hM:=hM.chg i7 (i:=0) rfl
 replace hM:MemL _ (rowL 0 d4 3 i0 :: pt c4 (RState.enc (mSt c1 c9 d0 g1)) 54 :: rowL 0 c9 5 c1.ctx :: rowL 0 d0 23 c7 :: (packR c7 c1.tables) :: pt c3 (RState.enc zSt) 54 :: pt c2 (RState.enc (mSt x0 s1 s3 s7)) 54 :: Lr):=hM
 intro a hF
 refine aA hF (aC (off':=462) qU54 rfl in52 rfl hF rfl rfl rfl) rfl rfl rfl fun a hF=>?_
 refine bI rfl rfl (bS qS52 (hM.obj (i:=1) rfl) hF rfl rfl rfl rfl (by rw [RState.len]; decide) (RState.s_sent _ _) fun w j9=>?_)
 have hM:=hM.chg j9 (i:=1) rfl
 replace hM:MemL _ (rowL 0 d4 3 i0 :: pt c4 (RState.enc (mSt c1 c9 d0 d4)) 54 :: rowL 0 c9 5 c1.ctx :: rowL 0 d0 23 c7 :: (packR c7 c1.tables) :: pt c3 (RState.enc zSt) 54 :: pt c2 (RState.enc (mSt x0 s1 s3 s7)) 54 :: Lr):=hM
 refine aJ (aB ?_)
 refine aG ?_
 refine aD ?_
 refine aA hF (aQ qA54 qS54 hF rfl rfl (RState.len _) (hM.cells (i:=1) rfl (bA (RState.len _)))) rfl rfl rfl fun a hF=>?_
 refine bI rfl rfl (aY (vs:=_) qS54 (hM.obj (i:=5) rfl) hF rfl rfl rfl rfl (RState.len _) (RState.one _) (by first | (rw [RState.len,RState.len]; decide) | (rw [RState.len]; decide)) (bF ((RState.len _).trans (RState.len _).symm)) fun w k0=>?_)
 have hM:=hM.chg k0 (i:=5) rfl
 replace hM:MemL _ (rowL 0 d4 3 i0 :: pt c4 (RState.enc (mSt c1 c9 d0 d4)) 54 :: rowL 0 c9 5 c1.ctx :: rowL 0 d0 23 c7 :: (packR c7 c1.tables) :: pt c3 (RState.enc (mSt c1 c9 d0 d4)) 54 :: pt c2 (RState.enc (mSt x0 s1 s3 s7)) 54 :: Lr):=hM
 refine aJ (aB ?_)
 refine c_ret ?_
 have hP:=oI hP
 subst hP
 refine dO (rs:=[.cell 2 54]) Tryz.results154 hF (cG hF rfl qA54 qS54 (RState.len _) (hM.cells (i:=5) rfl (bA (RState.len _))) cP) rfl ?_
 exact ⟨c9,d0,c7,d4,rfl,k8,selM hM [2,3,4,0] 7 rfl⟩
set_option maxHeartbeats 4000000 in
theorem mZ {x0:LTurn} {x1:Bool} {out:LVal} {w0:World} {Lr:List Res} (hP:Sh.tG x0 x1 = some out) (hM:MemL w0 (Lr)):Calls Tryz.prog 199 #[.agg (LTurn.enc x0).toArray,.bool x1] w0 (Ret fun v w'=>v = .agg (LVal.enc out).toArray ∧ MemL w' (Lr)):=by
 unfold Sh.tG at hP
 refine aR (vs:=[.agg (LTurn.enc x0).toArray,.bool x1]) Tryz.func199 rfl Tryz.ntmps199 rfl fun a hF=>?_
 refine aG ?_
 refine aD ?_
 refine aO hF rfl rfl rfl (dA hF rfl rfl rfl fun c0 w c4 c2=>?_)
 have hM:=hM.plus c2
 intro a hF
 refine aO hF rfl rfl rfl (bO z46 (zs:=LVal.zero.enc) rfl rfl fun c1 w c5 c3=>?_)
 have hM:=hM.plus c3
 replace hM:MemL _ (pt c1 (LVal.enc LVal.zero) 46 :: pt c0 (LTurn.enc x0) 128 :: Lr):=hM
 intro a hF
 refine aJ (aB ?_)
 refine aG ?_
 refine aG ?_
 refine aD ?_
 refine aA hF (aF hF rfl rfl) rfl rfl rfl fun a hF=>?_
 refine aJ (aB ?_)
 refine aV hF (c:=.tmp 5) rfl (fun hb8=>?_) (fun hb8=>?_)
 ·have hP:=Fx.cT hb8 hP
  refine aG ?_
  refine aD ?_
  refine aA hF (aC (off':=1) qU128 rfl in46 rfl hF rfl rfl rfl) rfl rfl rfl fun a hF=>?_
  refine aA hF (aQ qA46 qS46 hF rfl rfl (LVal.len _) (hM.cells (i:=1) rfl (LTurn.c_old _))) rfl rfl rfl fun a hF=>?_
  refine bI rfl rfl (aY (vs:=_) qS46 (hM.obj (i:=0) rfl) hF rfl rfl rfl rfl (LVal.len _) (LVal.one _) (by first | (rw [LVal.len,LVal.len]; decide) | (rw [LVal.len]; decide)) (bF ((LVal.len _).trans (LVal.len _).symm)) fun w hU9=>?_)
  have hM:=hM.chg hU9 (i:=0) rfl
  replace hM:MemL _ (pt c1 (LVal.enc x0.old) 46 :: pt c0 (LTurn.enc x0) 128 :: Lr):=hM
  refine aJ (aB ?_)
  refine c_ret ?_
  have hP:=oI hP
  subst hP
  refine dO (rs:=[.cell 4 46]) Tryz.results199 hF (cG hF rfl qA46 qS46 (LVal.len _) (hM.cells (i:=0) rfl (bA (LVal.len _))) cP) rfl ?_
  exact ⟨rfl,selM hM [] 2 rfl⟩
 have hP:=Fx.cF hb8 hP
 refine aW (aB ?_)
 refine aG ?_
 refine aD ?_
 refine aA hF (aC (off':=5) qU128 rfl in46 rfl hF rfl rfl rfl) rfl rfl rfl fun a hF=>?_
 refine aA hF (aQ qA46 qS46 hF rfl rfl (LVal.len _) (hM.cells (i:=1) rfl (LTurn.c_new _))) rfl rfl rfl fun a hF=>?_
 refine bI rfl rfl (aY (vs:=_) qS46 (hM.obj (i:=0) rfl) hF rfl rfl rfl rfl (LVal.len _) (LVal.one _) (by first | (rw [LVal.len,LVal.len]; decide) | (rw [LVal.len]; decide)) (bF ((LVal.len _).trans (LVal.len _).symm)) fun w hU10=>?_)
 have hM:=hM.chg hU10 (i:=0) rfl
 replace hM:MemL _ (pt c1 (LVal.enc x0.new) 46 :: pt c0 (LTurn.enc x0) 128 :: Lr):=hM
 refine aJ (aB ?_)
 refine c_ret ?_
 have hP:=oI hP
 subst hP
 refine dO (rs:=[.cell 4 46]) Tryz.results199 hF (cG hF rfl qA46 qS46 (LVal.len _) (hM.cells (i:=0) rfl (bA (LVal.len _))) cP) rfl ?_
 exact ⟨rfl,selM hM [] 2 rfl⟩
set_option maxHeartbeats 4000000 in
theorem lY {x0:LCell} {x1:Bool} {out:LSlot} {w0:World} {Lr:List Res} (hP:Sh.rX x0 x1 = some out) (hM:MemL w0 (Lr)):Calls Tryz.prog 200 #[.agg (LCell.enc x0).toArray,.bool x1] w0 (Ret fun v w'=>v = .agg (LSlot.enc out).toArray ∧ MemL w' (Lr)):=by
 unfold Sh.rX at hP
 refine aR (vs:=[.agg (LCell.enc x0).toArray,.bool x1]) Tryz.func200 rfl Tryz.ntmps200 rfl fun a hF=>?_
 refine aG ?_
 refine aD ?_
 refine aO hF rfl rfl rfl (dA hF rfl rfl rfl fun c0 w c4 c2=>?_)
 have hM:=hM.plus c2
 intro a hF
 refine aO hF rfl rfl rfl (bO z50 (zs:=LSlot.zero.enc) rfl rfl fun c1 w c5 c3=>?_)
 have hM:=hM.plus c3
 replace hM:MemL _ (pt c1 (LSlot.enc LSlot.zero) 50 :: pt c0 (LCell.enc x0) 151 :: Lr):=hM
 intro a hF
 refine aJ (aB ?_)
 refine aG ?_
 refine aG ?_
 refine aD ?_
 refine aA hF (aF hF rfl rfl) rfl rfl rfl fun a hF=>?_
 refine aJ (aB ?_)
 refine aV hF (c:=.tmp 5) rfl (fun hb8=>?_) (fun hb8=>?_)
 ·have hP:=Fx.cT hb8 hP
  refine aG ?_
  refine aD ?_
  refine aA hF (aC (off':=1) qU151 rfl in50 rfl hF rfl rfl rfl) rfl rfl rfl fun a hF=>?_
  refine aA hF (aQ qA50 qS50 hF rfl rfl (LSlot.len _) (hM.cells (i:=1) rfl (LCell.c_old _))) rfl rfl rfl fun a hF=>?_
  refine bI rfl rfl (aY (vs:=_) qS50 (hM.obj (i:=0) rfl) hF rfl rfl rfl rfl (LSlot.len _) (LSlot.one _) (by first | (rw [LSlot.len,LSlot.len]; decide) | (rw [LSlot.len]; decide)) (bF ((LSlot.len _).trans (LSlot.len _).symm)) fun w hU9=>?_)
  have hM:=hM.chg hU9 (i:=0) rfl
  replace hM:MemL _ (pt c1 (LSlot.enc x0.old) 50 :: pt c0 (LCell.enc x0) 151 :: Lr):=hM
  refine aJ (aB ?_)
  refine c_ret ?_
  have hP:=oI hP
  subst hP
  refine dO (rs:=[.cell 4 50]) Tryz.results200 hF (cG hF rfl qA50 qS50 (LSlot.len _) (hM.cells (i:=0) rfl (bA (LSlot.len _))) cP) rfl ?_
  exact ⟨rfl,selM hM [] 2 rfl⟩
 have hP:=Fx.cF hb8 hP
 refine aW (aB ?_)
 refine aG ?_
 refine aD ?_
 refine aA hF (aC (off':=14) qU151 rfl in50 rfl hF rfl rfl rfl) rfl rfl rfl fun a hF=>?_
 refine aA hF (aQ qA50 qS50 hF rfl rfl (LSlot.len _) (hM.cells (i:=1) rfl (LCell.c_new _))) rfl rfl rfl fun a hF=>?_
 refine bI rfl rfl (aY (vs:=_) qS50 (hM.obj (i:=0) rfl) hF rfl rfl rfl rfl (LSlot.len _) (LSlot.one _) (by first | (rw [LSlot.len,LSlot.len]; decide) | (rw [LSlot.len]; decide)) (bF ((LSlot.len _).trans (LSlot.len _).symm)) fun w hU10=>?_)
 have hM:=hM.chg hU10 (i:=0) rfl
 replace hM:MemL _ (pt c1 (LSlot.enc x0.new) 50 :: pt c0 (LCell.enc x0) 151 :: Lr):=hM
 refine aJ (aB ?_)
 refine c_ret ?_
 have hP:=oI hP
 subst hP
 refine dO (rs:=[.cell 4 50]) Tryz.results200 hF (cG hF rfl qA50 qS50 (LSlot.len _) (hM.cells (i:=0) rfl (bA (LSlot.len _))) cP) rfl ?_
 exact ⟨rfl,selM hM [] 2 rfl⟩
set_option maxHeartbeats 4000000 in
theorem lB {x0:QPiece} {x1:Bool} {s1:SV} {s3:SV} {out:List UInt8} {w0:World} {Bf:World → Prop} {Lr:List Res} (hP:Sh.qN x0 x1 = some out) (hM:MemL w0 (Lr)) (hsub:∀ w,MemL w Lr → Bf w) (f2:LIn Bf s1 x0.old) (f4:LIn Bf s3 x0.new):Calls Tryz.prog 201 #[.agg (RPiece.enc (mPc x0 s1 s3)).toArray,.bool x1] w0 (Ret fun v w'=>∃ (s7:SV),v = (s7).v ∧ LIn Bf s7 out ∧ MemL w' (Lr)):=by
 unfold Sh.qN at hP
 refine aR (vs:=[.agg (RPiece.enc (mPc x0 s1 s3)).toArray,.bool x1]) Tryz.func201 rfl Tryz.ntmps201 rfl fun a hF=>?_
 refine aG ?_
 refine aD ?_
 refine aO hF rfl rfl rfl (dA hF rfl rfl rfl fun c0 w c2 c1=>?_)
 have hM:=hM.plus c1
 replace hM:MemL _ (pt c0 (RPiece.enc (mPc x0 s1 s3)) 156 :: Lr):=hM
 intro a hF
 refine aA hF (aH hF rfl rfl) rfl rfl rfl fun a hF=>?_
 refine aJ (aB ?_)
 refine aG ?_
 refine aG ?_
 refine aD ?_
 refine aA hF (aF hF rfl rfl) rfl rfl rfl fun a hF=>?_
 refine aJ (aB ?_)
 refine aV hF (c:=.tmp 5) rfl (fun hb10=>?_) (fun hb10=>?_)
 ·have hP:=Fx.cT hb10 hP
  refine aG ?_
  refine aD ?_
  refine aA hF (aC (off':=2) qU156 rfl in23 rfl hF rfl rfl rfl) rfl rfl rfl fun a hF=>?_
  refine aA hF (aI qA23 hF rfl rfl (hM.cell (i:=0) rfl (RPiece.g_old _))) rfl rfl rfl fun a hF=>?_
  refine aA hF (aH hF rfl rfl) rfl rfl rfl fun a hF=>?_
  refine aJ (aB ?_)
  refine c_ret ?_
  have hP:=oI hP
  subst hP
  refine bH Tryz.results201 hF rfl ?_
  exact ⟨s1,rfl,f2,selM hM [] 1 rfl⟩
 have hP:=Fx.cF hb10 hP
 refine aW (aB ?_)
 refine aG ?_
 refine aD ?_
 refine aA hF (aC (off':=3) qU156 rfl in23 rfl hF rfl rfl rfl) rfl rfl rfl fun a hF=>?_
 refine aA hF (aI qA23 hF rfl rfl (hM.cell (i:=0) rfl (RPiece.g_new _))) rfl rfl rfl fun a hF=>?_
 refine aA hF (aH hF rfl rfl) rfl rfl rfl fun a hF=>?_
 refine aJ (aB ?_)
 refine c_ret ?_
 have hP:=oI hP
 subst hP
 refine bH Tryz.results201 hF rfl ?_
 exact ⟨s3,rfl,f4,selM hM [] 1 rfl⟩
set_option maxHeartbeats 4000000 in
theorem kV {x0:QState} {x1:QMark} {s1:SV} {s3:SV} {hs4:List SV} {s7:SV} {s9:SV} {s11:SV} {s13:SV} {hs14:List RPiece} {s17:SV} {out:QState} {w0:World} {Bf:World → Prop} {Lr:List Res} (hP:Sh.nI x0 x1 = some out) (hM:MemL w0 (Lr)) (hsub:∀ w,MemL w Lr → Bf w) (f2:LIn Bf s1 x0.ctx) (f5:LIn Bf s3 hs4) (q6:Each (LIn (X:=UInt8) Bf) hs4 x0.tables) (f8:LIn Bf s7 x0.sent) (f10:LIn Bf s9 x1.regs) (f12:LIn Bf s11 x1.slots) (f15:LIn Bf s13 hs14) (q16:Each (QPieceIn Bf) hs14 x1.pieces) (f18:LIn Bf s17 x1.sent):Calls Tryz.prog 127 #[.agg (RState.enc (mSt x0 s1 s3 s7)).toArray,.agg (RMark.enc (mMk x1 s9 s11 s13 s17)).toArray] w0 (Ret fun v w'=>∃ (m9:SV) (n0:SV) (k6:List SV) (m8:Res) (n1:SV),v = .agg (RState.enc (mSt out m9 n0 n1)).toArray ∧ Each (LIn (X:=UInt8) m8.holds') k6 out.tables ∧ MemL w' (rowL 0 m9 5 out.ctx :: rowL 0 n0 23 k6 :: m8 :: rowL 0 n1 3 out.sent :: Lr)):=by
 unfold Sh.nI at hP
 refine aR (vs:=[.agg (RState.enc (mSt x0 s1 s3 s7)).toArray,.agg (RMark.enc (mMk x1 s9 s11 s13 s17)).toArray]) Tryz.func127 rfl Tryz.ntmps127 rfl fun a hF=>?_
 refine aG ?_
 refine aD ?_
 refine aO hF rfl rfl rfl (dA hF rfl rfl rfl fun c2 w p5 j8=>?_)
 have hM:=hM.plus j8
 intro a hF
 refine aO hF rfl rfl rfl (dA hF rfl rfl rfl fun c3 w p6 j9=>?_)
 have hM:=hM.plus j9
 intro a hF
 refine aO hF rfl rfl rfl (bO z54 (zs:=RState.zero.enc) rfl rfl fun c4 w p7 k0=>?_)
 have hM:=hM.plus k0
 replace hM:MemL _ (pt c4 (RState.enc zSt) 54 :: pt c3 (RMark.enc (mMk x1 s9 s11 s13 s17)) 60 :: pt c2 (RState.enc (mSt x0 s1 s3 s7)) 54 :: Lr):=hM
 intro a hF
 refine aJ (aB ?_)
 refine aG ?_
 refine aD ?_
 refine aA hF (aQ qA54 qS54 hF rfl rfl (RState.len _) (hM.cells (i:=2) rfl (bA (RState.len _)))) rfl rfl rfl fun a hF=>?_
 obtain ⟨c0,p3,hP⟩:=bind_some hP
 refine aO hF rfl rfl rfl (aN (xs:=[.tmp 13]) Tryz.call74 hF rfl rfl (pP p3 hM (Bf:=Bf) (fun w hM=>hsub _ (dropM hM 3)) f2 f5 q6 f8) fun v w hR=>?_)
 obtain ⟨c5,c6,c1,i9,rfl,t2,hM⟩:=hR
 replace hM:MemL _ (rowL 0 c5 5 c0.ctx :: rowL 0 c6 23 c1 :: (packR c1 c0.tables) :: rowL 0 i9 3 c0.sent :: pt c4 (RState.enc zSt) 54 :: pt c3 (RMark.enc (mMk x1 s9 s11 s13 s17)) 60 :: pt c2 (RState.enc (mSt x0 s1 s3 s7)) 54 :: Lr):=hM
 intro a hF
 refine bI rfl rfl (aY (vs:=_) qS54 (hM.obj (i:=6) rfl) hF rfl rfl rfl rfl (RState.len _) (RState.one _) (by first | (rw [RState.len,RState.len]; decide) | (rw [RState.len]; decide)) (bF ((RState.len _).trans (RState.len _).symm)) fun w n8=>?_)
 have hM:=hM.chg n8 (i:=6) rfl
 have hM:=vJ (selM hM [2,0,1,3,4,5,6] 7 rfl)
 have p2:(c5 :: c1).length = (c0.ctx :: c0.tables).length:=congrArg (· + 1) t2.len
 have p1:(c5 :: c1)[0]? = some c5:=rfl
 replace hM:MemL _ (packR (c5 :: c1) (c0.ctx :: c0.tables) :: rowL 0 c6 23 c1 :: rowL 0 i9 3 c0.sent :: pt c4 (RState.enc zSt) 54 :: pt c3 (RMark.enc (mMk x1 s9 s11 s13 s17)) 60 :: pt c2 (RState.enc (mSt c0 c5 c6 i9)) 54 :: Lr):=hM
 refine aJ (aB ?_)
 refine aG ?_
 refine aU hF hM hP (fun F x a w=>match x with | (c8,k4)=>∃ (j0:SV),Fr 69 [(2,.pointer (some ⟨c2,0,none⟩)),(3,.pointer (some ⟨c3,0,none⟩)),(4,.pointer (some ⟨c4,0,none⟩))] a ∧ MemL w (pt c2 (RState.enc (RState.mk c8 c0.stack c5 c6 j0 c0.at_ c0.steps c0.done)) 54 :: rowL 0 j0 3 k4 :: pt c4 (RState.enc zSt) 54 :: pt c3 (RMark.enc (mMk x1 s9 s11 s13 s17)) 60 :: packR (c5 :: c1) (c0.ctx :: c0.tables) :: rowL 0 c6 23 c1 :: Lr)) (fun u5 hP t9 hF hM=>?_) ?_
 ·refine aG ?_
  refine aD ?_
  refine aA hF (aC (off':=3) qU60 rfl in56 rfl hF rfl rfl rfl) rfl rfl rfl fun a hF=>?_
  refine aA hF (aI qA56 hF rfl rfl (hM.cell (i:=4) rfl (RMark.g_regs _))) rfl rfl rfl fun a hF=>?_
  refine aA hF (bM (f10 _ (hsub _ (dropM hM 6))) qU56 hF rfl rfl) rfl rfl rfl fun a hF=>?_
  refine aA hF (aF hF rfl rfl) rfl rfl rfl fun a hF=>?_
  refine aJ (aB ?_)
  refine aT ?_
  refine bU hF hM hP (fun F x a w=>match x with | (d9,g0,j2)=>∃ (d6:SV),Fr 69 [(18,.int .i64 j2),(16,(s9).v),(17,.int .i64 (x1.regs.length:Int)),(2,.pointer (some ⟨c2,0,none⟩)),(3,.pointer (some ⟨c3,0,none⟩)),(4,.pointer (some ⟨c4,0,none⟩))] a ∧ MemL w (pt c2 (RState.enc (RState.mk d9 c0.stack c5 c6 d6 c0.at_ c0.steps c0.done)) 54 :: rowL 0 d6 3 g0 :: pt c4 (RState.enc zSt) 54 :: pt c3 (RMark.enc (mMk x1 s9 s11 s13 s17)) 60 :: packR (c5 :: c1) (c0.ctx :: c0.tables) :: rowL 0 c6 23 c1 :: Lr)) (fun hF hM=>⟨i9,hF.to ⟨rfl,rfl,rfl,rfl,rfl,rfl,trivial⟩,selM hM [5,2,3,4,0,1] 6 rfl⟩) ?_
  rintro ⟨d9,g0,j2⟩ a w u8 hP n5 ⟨d6,hF,hM⟩
  replace hP:Sh.jO x1 d9 g0 j2 = _:=hP
  unfold Sh.jO at hP
  refine aG ?_
  refine aD ?_
  refine aA hF (cI hF rfl rfl rfl) rfl rfl rfl fun a hF=>?_
  refine aJ (aB ?_)
  refine aG ?_
  refine aV hF (c:=.tmp 19) rfl (fun i7=>?_) (fun i7=>?_)
  ·have hP:=Fx.cT i7 hP
   refine aW (aB ?_)
   refine aG ?_
   refine aT ?_
   refine aG ?_
   refine aD ?_
   obtain ⟨g8,k7,hP⟩:=bind_some hP
   have l7:=aM k7
   refine aA hF (aS (sz:=9) (f10 _ (hsub _ (dropM hM 6))) qU56 in128 rfl hF rfl rfl rfl (bG k7)) rfl rfl rfl fun a hF=>?_
   refine aA hF (aQ qA128 qS128 hF rfl rfl (LTurn.len _) (((f10 _ (hsub _ (dropM hM 6))).elemS l7.2))) rfl rfl rfl fun a hF=>?_
   refine aO hF rfl rfl rfl (bO z128 (zs:=LTurn.zero.enc) rfl rfl fun g2 w p8 k1=>?_)
   have hM:=hM.plus k1
   replace hM:MemL _ (pt g2 (LTurn.enc LTurn.zero) 128 :: pt c2 (RState.enc (RState.mk d9 c0.stack c5 c6 d6 c0.at_ c0.steps c0.done)) 54 :: rowL 0 d6 3 g0 :: pt c4 (RState.enc zSt) 54 :: pt c3 (RMark.enc (mMk x1 s9 s11 s13 s17)) 60 :: packR (c5 :: c1) (c0.ctx :: c0.tables) :: rowL 0 c6 23 c1 :: Lr):=hM
   intro a hF
   refine bI rfl rfl (aY (vs:=_) qS128 (hM.obj (i:=0) rfl) hF rfl rfl rfl rfl (LTurn.len _) (LTurn.one _) (by first | (rw [LTurn.len,LTurn.len]; decide) | (rw [LTurn.len]; decide)) (bF ((LTurn.len _).trans (LTurn.len _).symm)) fun w n9=>?_)
   have hM:=hM.chg n9 (i:=0) rfl
   replace hM:MemL _ (pt g2 (LTurn.enc g8) 128 :: pt c2 (RState.enc (RState.mk d9 c0.stack c5 c6 d6 c0.at_ c0.steps c0.done)) 54 :: rowL 0 d6 3 g0 :: pt c4 (RState.enc zSt) 54 :: pt c3 (RMark.enc (mMk x1 s9 s11 s13 s17)) 60 :: packR (c5 :: c1) (c0.ctx :: c0.tables) :: rowL 0 c6 23 c1 :: Lr):=hM
   refine aJ (aB ?_)
   refine aD ?_
   refine aA hF (aC (off':=0) qU128 rfl in3 rfl hF rfl rfl rfl) rfl rfl rfl fun a hF=>?_
   refine aA hF (aI qA3 hF rfl rfl (hM.cell (i:=0) rfl (LTurn.g_reg _))) rfl rfl rfl fun a hF=>?_
   refine aA hF (aC (off':=5) qU128 rfl in46 rfl hF rfl rfl rfl) rfl rfl rfl fun a hF=>?_
   refine aA hF (aQ qA46 qS46 hF rfl rfl (LVal.len _) (hM.cells (i:=0) rfl (LTurn.c_new _))) rfl rfl rfl fun a hF=>?_
   refine aA hF (aC (off':=0) qU54 rfl in47 rfl hF rfl rfl rfl) rfl rfl rfl fun a hF=>?_
   obtain ⟨z1,g9,hP⟩:=bind_some hP
   have t5:=aM g9
   refine aA hF (cW (sz:=4) qU47 in46 rfl hF rfl rfl rfl (dH g9)) rfl rfl rfl fun a hF=>?_
   refine bI rfl rfl (aY (vs:=_) qS46 (hM.obj (i:=1) rfl) hF rfl rfl rfl rfl (LVal.len _) (LVal.one _) (by have:=(dH g9); rw [LVal.len,RState.len]; omega) (RState.pi_regs _ _ _ (by have:=(dH g9); omega)) fun w p0=>?_)
   have hM:=hM.chg p0 (i:=1) rfl
   replace hM:MemL _ (pt g2 (LTurn.enc g8) 128 :: pt c2 (RState.enc (RState.mk (d9.set (g8.reg:Int).toNat g8.new) c0.stack c5 c6 d6 c0.at_ c0.steps c0.done)) 54 :: rowL 0 d6 3 g0 :: pt c4 (RState.enc zSt) 54 :: pt c3 (RMark.enc (mMk x1 s9 s11 s13 s17)) 60 :: packR (c5 :: c1) (c0.ctx :: c0.tables) :: rowL 0 c6 23 c1 :: Lr):=hM
   refine aJ (bK (aB ?_))
   refine aD ?_
   refine aA hF (bX hF rfl rfl rfl) rfl rfl rfl fun a hF=>?_
   refine aA hF (aF hF rfl rfl) rfl rfl rfl fun a hF=>?_
   refine aJ (aB ?_)
   have hP:=oI hP
   subst hP
   exact ⟨((d9.set (g8.reg:Int).toNat g8.new),g0,(IntKind.i64.wrap (j2 + 1))),rfl,d6,hF.to ⟨rfl,rfl,rfl,rfl,rfl,rfl,trivial⟩,selM hM [1,2,3,4,5,6] 7 rfl⟩
  have hP:=Fx.cF i7 hP
  refine bY (bD (bD (cJ ?_)))
  refine aB ?_
  have hP:=oI hP
  subst hP
  have hP:=n5 _ rfl
  subst hP
  exact ⟨(d9,g0),rfl,d6,hF.to ⟨rfl,rfl,rfl,trivial⟩,hM⟩
 rintro ⟨c8,k4⟩ a w hP ⟨j0,hF,hM⟩
 replace hP:Sh.oU x1 c0 c8 k4 = _:=hP
 unfold Sh.oU at hP
 refine aB ?_
 refine aG ?_
 refine aU hF hM hP (fun F x a w=>match x with | (c9,d0)=>∃ (c7:SV),Fr 69 [(2,.pointer (some ⟨c2,0,none⟩)),(3,.pointer (some ⟨c3,0,none⟩)),(4,.pointer (some ⟨c4,0,none⟩))] a ∧ MemL w (pt c2 (RState.enc (RState.mk c8 c9 c5 c6 c7 c0.at_ c0.steps c0.done)) 54 :: rowL 0 c7 3 d0 :: pt c4 (RState.enc zSt) 54 :: pt c3 (RMark.enc (mMk x1 s9 s11 s13 s17)) 60 :: packR (c5 :: c1) (c0.ctx :: c0.tables) :: rowL 0 c6 23 c1 :: Lr)) (fun u6 hP u0 hF hM=>?_) ?_
 ·refine aG ?_
  refine aD ?_
  refine aA hF (aC (off':=4) qU60 rfl in57 rfl hF rfl rfl rfl) rfl rfl rfl fun a hF=>?_
  refine aA hF (aI qA57 hF rfl rfl (hM.cell (i:=3) rfl (RMark.g_slots _))) rfl rfl rfl fun a hF=>?_
  refine aA hF (bM (f12 _ (hsub _ (dropM hM 6))) qU57 hF rfl rfl) rfl rfl rfl fun a hF=>?_
  refine aA hF (aF hF rfl rfl) rfl rfl rfl fun a hF=>?_
  refine aJ (aB ?_)
  refine aT ?_
  refine bU hF hM hP (fun F x a w=>match x with | (d7,d8,i2)=>∃ (d2:SV),Fr 69 [(32,.int .i64 i2),(2,.pointer (some ⟨c2,0,none⟩)),(3,.pointer (some ⟨c3,0,none⟩)),(30,(s11).v),(31,.int .i64 (x1.slots.length:Int)),(4,.pointer (some ⟨c4,0,none⟩))] a ∧ MemL w (pt c2 (RState.enc (RState.mk c8 d7 c5 c6 d2 c0.at_ c0.steps c0.done)) 54 :: rowL 0 d2 3 d8 :: pt c4 (RState.enc zSt) 54 :: pt c3 (RMark.enc (mMk x1 s9 s11 s13 s17)) 60 :: packR (c5 :: c1) (c0.ctx :: c0.tables) :: rowL 0 c6 23 c1 :: Lr)) (fun hF hM=>⟨j0,hF.to ⟨rfl,rfl,rfl,rfl,rfl,rfl,trivial⟩,hM⟩) ?_
  rintro ⟨d7,d8,i2⟩ a w u9 hP n6 ⟨d2,hF,hM⟩
  replace hP:Sh.jP x1 d7 d8 i2 = _:=hP
  unfold Sh.jP at hP
  refine aG ?_
  refine aD ?_
  refine aA hF (cI hF rfl rfl rfl) rfl rfl rfl fun a hF=>?_
  refine aJ (aB ?_)
  refine aG ?_
  refine aV hF (c:=.tmp 33) rfl (fun i3=>?_) (fun i3=>?_)
  ·have hP:=Fx.cT i3 hP
   refine aW (aB ?_)
   refine aG ?_
   refine aT ?_
   refine aG ?_
   refine aD ?_
   obtain ⟨g1,j4,hP⟩:=bind_some hP
   have k9:=aM j4
   refine aA hF (aS (sz:=27) (f12 _ (hsub _ (dropM hM 6))) qU57 in151 rfl hF rfl rfl rfl (bG j4)) rfl rfl rfl fun a hF=>?_
   refine aA hF (aQ qA151 qS151 hF rfl rfl (LCell.len _) (((f12 _ (hsub _ (dropM hM 6))).elemS k9.2))) rfl rfl rfl fun a hF=>?_
   refine aO hF rfl rfl rfl (bO z151 (zs:=LCell.zero.enc) rfl rfl fun g3 w p9 k2=>?_)
   have hM:=hM.plus k2
   replace hM:MemL _ (pt g3 (LCell.enc LCell.zero) 151 :: pt c2 (RState.enc (RState.mk c8 d7 c5 c6 d2 c0.at_ c0.steps c0.done)) 54 :: rowL 0 d2 3 d8 :: pt c4 (RState.enc zSt) 54 :: pt c3 (RMark.enc (mMk x1 s9 s11 s13 s17)) 60 :: packR (c5 :: c1) (c0.ctx :: c0.tables) :: rowL 0 c6 23 c1 :: Lr):=hM
   intro a hF
   refine bI rfl rfl (aY (vs:=_) qS151 (hM.obj (i:=0) rfl) hF rfl rfl rfl rfl (LCell.len _) (LCell.one _) (by first | (rw [LCell.len,LCell.len]; decide) | (rw [LCell.len]; decide)) (bF ((LCell.len _).trans (LCell.len _).symm)) fun w l8=>?_)
   have hM:=hM.chg l8 (i:=0) rfl
   replace hM:MemL _ (pt g3 (LCell.enc g1) 151 :: pt c2 (RState.enc (RState.mk c8 d7 c5 c6 d2 c0.at_ c0.steps c0.done)) 54 :: rowL 0 d2 3 d8 :: pt c4 (RState.enc zSt) 54 :: pt c3 (RMark.enc (mMk x1 s9 s11 s13 s17)) 60 :: packR (c5 :: c1) (c0.ctx :: c0.tables) :: rowL 0 c6 23 c1 :: Lr):=hM
   refine aJ (aB ?_)
   refine aD ?_
   refine aA hF (aC (off':=0) qU151 rfl in3 rfl hF rfl rfl rfl) rfl rfl rfl fun a hF=>?_
   refine aA hF (aI qA3 hF rfl rfl (hM.cell (i:=0) rfl (LCell.g_slot _))) rfl rfl rfl fun a hF=>?_
   refine aA hF (aC (off':=14) qU151 rfl in50 rfl hF rfl rfl rfl) rfl rfl rfl fun a hF=>?_
   refine aA hF (aQ qA50 qS50 hF rfl rfl (LSlot.len _) (hM.cells (i:=0) rfl (LCell.c_new _))) rfl rfl rfl fun a hF=>?_
   refine aA hF (aC (off':=44) qU54 rfl in51 rfl hF rfl rfl rfl) rfl rfl rfl fun a hF=>?_
   obtain ⟨u2,g5,hP⟩:=bind_some hP
   have t3:=aM g5
   refine aA hF (cW (sz:=13) qU51 in50 rfl hF rfl rfl rfl (dH g5)) rfl rfl rfl fun a hF=>?_
   refine bI rfl rfl (aY (vs:=_) qS50 (hM.obj (i:=1) rfl) hF rfl rfl rfl rfl (LSlot.len _) (LSlot.one _) (by have:=(dH g5); rw [LSlot.len,RState.len]; omega) (RState.pi_stack _ _ _ (by have:=(dH g5); omega)) fun w l9=>?_)
   have hM:=hM.chg l9 (i:=1) rfl
   replace hM:MemL _ (pt g3 (LCell.enc g1) 151 :: pt c2 (RState.enc (RState.mk c8 (d7.set (g1.slot:Int).toNat g1.new) c5 c6 d2 c0.at_ c0.steps c0.done)) 54 :: rowL 0 d2 3 d8 :: pt c4 (RState.enc zSt) 54 :: pt c3 (RMark.enc (mMk x1 s9 s11 s13 s17)) 60 :: packR (c5 :: c1) (c0.ctx :: c0.tables) :: rowL 0 c6 23 c1 :: Lr):=hM
   refine aJ (bK (aB ?_))
   refine aD ?_
   refine aA hF (bX hF rfl rfl rfl) rfl rfl rfl fun a hF=>?_
   refine aA hF (aF hF rfl rfl) rfl rfl rfl fun a hF=>?_
   refine aJ (aB ?_)
   have hP:=oI hP
   subst hP
   exact ⟨((d7.set (g1.slot:Int).toNat g1.new),d8,(IntKind.i64.wrap (i2 + 1))),rfl,d2,hF.to ⟨rfl,rfl,rfl,rfl,rfl,rfl,trivial⟩,selM hM [1,2,3,4,5,6] 7 rfl⟩
  have hP:=Fx.cF i3 hP
  refine bY (bD (bD (cJ ?_)))
  refine aB ?_
  have hP:=oI hP
  subst hP
  have hP:=n6 _ rfl
  subst hP
  exact ⟨(d7,d8),rfl,d2,hF.to ⟨rfl,rfl,rfl,trivial⟩,hM⟩
 rintro ⟨c9,d0⟩ a w hP ⟨c7,hF,hM⟩
 replace hP:Sh.oV x1 c0 c8 c9 d0 = _:=hP
 unfold Sh.oV at hP
 refine aB ?_
 refine aG ?_
 refine aU hF hM hP (fun F x a w=>match x with | d5=>(c5 :: c1).length = d5.length ∧ Fr 69 [(2,.pointer (some ⟨c2,0,none⟩)),(3,.pointer (some ⟨c3,0,none⟩)),(4,.pointer (some ⟨c4,0,none⟩))] a ∧ MemL w (packR (c5 :: c1) d5 :: pt c2 (RState.enc (RState.mk c8 c9 c5 c6 c7 c0.at_ c0.steps c0.done)) 54 :: pt c4 (RState.enc zSt) 54 :: pt c3 (RMark.enc (mMk x1 s9 s11 s13 s17)) 60 :: rowL 0 c7 3 d0 :: rowL 0 c6 23 c1 :: Lr)) (fun u7 hP u1 hF hM=>?_) ?_
 ·refine aG ?_
  refine aD ?_
  refine aA hF (aC (off':=5) qU60 rfl in58 rfl hF rfl rfl rfl) rfl rfl rfl fun a hF=>?_
  refine aA hF (aI qA58 hF rfl rfl (hM.cell (i:=3) rfl (RMark.g_pieces _))) rfl rfl rfl fun a hF=>?_
  refine aA hF (cQ (f15 _ (hsub _ (dropM hM 6))) q16.len qU58 hF rfl rfl) rfl rfl rfl fun a hF=>?_
  refine aA hF (aF hF rfl rfl) rfl rfl rfl fun a hF=>?_
  refine aJ (aB ?_)
  refine aT ?_
  refine bU hF hM hP (fun F x a w=>match x with | (d1,g7)=>(c5 :: c1).length = d1.length ∧ Fr 69 [(46,.int .i64 g7),(2,.pointer (some ⟨c2,0,none⟩)),(3,.pointer (some ⟨c3,0,none⟩)),(4,.pointer (some ⟨c4,0,none⟩)),(44,(s13).v),(45,.int .i64 (x1.pieces.length:Int))] a ∧ MemL w (packR (c5 :: c1) d1 :: pt c2 (RState.enc (RState.mk c8 c9 c5 c6 c7 c0.at_ c0.steps c0.done)) 54 :: pt c4 (RState.enc zSt) 54 :: pt c3 (RMark.enc (mMk x1 s9 s11 s13 s17)) 60 :: rowL 0 c7 3 d0 :: rowL 0 c6 23 c1 :: Lr)) (fun hF hM=>⟨p2,hF.to ⟨rfl,rfl,rfl,rfl,rfl,rfl,trivial⟩,selM hM [4,0,2,3,1,5] 6 rfl⟩) ?_
  rintro ⟨d1,g7⟩ a w z0 hP n7 ⟨g4,hF,hM⟩
  replace hP:Sh.jQ x1 d1 g7 = _:=hP
  unfold Sh.jQ at hP
  refine aG ?_
  refine aD ?_
  refine aA hF (cI hF rfl rfl rfl) rfl rfl rfl fun a hF=>?_
  refine aJ (aB ?_)
  refine aG ?_
  refine aV hF (c:=.tmp 47) rfl (fun i4=>?_) (fun i4=>?_)
  ·have hP:=Fx.cT i4 hP
   refine aW (aB ?_)
   refine aG ?_
   refine aT ?_
   refine aG ?_
   refine aD ?_
   obtain ⟨d3,j5,hP⟩:=bind_some hP
   have l0:=aM j5
   obtain ⟨t7,l3,l6⟩:=Each.getr q16 l0.2
   have l1:=Each.bd q16 (bG j5)
   obtain ⟨i0,i1,rfl,t8,n3⟩:=l6
   refine aA hF (aS (sz:=4) (f15 _ (hsub _ (dropM hM 6))) qU58 in156 rfl hF rfl rfl rfl l1) rfl rfl rfl fun a hF=>?_
   refine aA hF (aQ qA156 qS156 hF rfl rfl (RPiece.len _) (((f15 _ (hsub _ (dropM hM 6))).elemS l3))) rfl rfl rfl fun a hF=>?_
   refine aO hF rfl rfl rfl (bO z156 (zs:=RPiece.zero.enc) rfl rfl fun d4 w p4 j3=>?_)
   have hM:=hM.plus j3
   replace hM:MemL _ (pt d4 (RPiece.enc (RPiece.mk 0 0 SV.nil SV.nil)) 156 :: packR (c5 :: c1) d1 :: pt c2 (RState.enc (RState.mk c8 c9 c5 c6 c7 c0.at_ c0.steps c0.done)) 54 :: pt c4 (RState.enc zSt) 54 :: pt c3 (RMark.enc (mMk x1 s9 s11 s13 s17)) 60 :: rowL 0 c7 3 d0 :: rowL 0 c6 23 c1 :: Lr):=hM
   intro a hF
   refine bI rfl rfl (aY (vs:=_) qS156 (hM.obj (i:=0) rfl) hF rfl rfl rfl rfl (RPiece.len _) (RPiece.one _) (by first | (rw [RPiece.len,RPiece.len]; decide) | (rw [RPiece.len]; decide)) (bF ((RPiece.len _).trans (RPiece.len _).symm)) fun w m0=>?_)
   have hM:=hM.chg m0 (i:=0) rfl
   replace hM:MemL _ (pt d4 (RPiece.enc (mPc d3 i0 i1)) 156 :: packR (c5 :: c1) d1 :: pt c2 (RState.enc (RState.mk c8 c9 c5 c6 c7 c0.at_ c0.steps c0.done)) 54 :: pt c4 (RState.enc zSt) 54 :: pt c3 (RMark.enc (mMk x1 s9 s11 s13 s17)) 60 :: rowL 0 c7 3 d0 :: rowL 0 c6 23 c1 :: Lr):=hM
   refine aJ (aB ?_)
   refine aG ?_
   refine aD ?_
   refine aA hF (aQ qA54 qS54 hF rfl rfl (RState.len _) (hM.cells (i:=2) rfl (bA (RState.len _)))) rfl rfl rfl fun a hF=>?_
   refine aA hF (aC (off':=0) qU156 rfl in3 rfl hF rfl rfl rfl) rfl rfl rfl fun a hF=>?_
   refine aA hF (aI qA3 hF rfl rfl (hM.cell (i:=0) rfl (RPiece.g_table _))) rfl rfl rfl fun a hF=>?_
   obtain ⟨t1,hP,n4⟩:=dI hP
   refine aO hF rfl rfl rfl (aN (xs:=[.tmp 51,.tmp 53]) Tryz.call192 hF rfl rfl (R:=fun v w=>∃ x,t1 = .inl x ∧ match x with | (g6,j1)=>∃ (i8:SV),v = .tuple #[(i8).v,.bool j1] ∧ (c5 :: c1)[g6]? = some i8 ∧ MemL w (pt d4 (RPiece.enc (mPc d3 i0 i1)) 156 :: packR (c5 :: c1) d1 :: pt c2 (RState.enc (RState.mk c8 c9 c5 c6 c7 c0.at_ c0.steps c0.done)) 54 :: pt c4 (RState.enc zSt) 54 :: pt c3 (RMark.enc (mMk x1 s9 s11 s13 s17)) 60 :: rowL 0 c7 3 d0 :: rowL 0 c6 23 c1 :: Lr)) ?_ fun v w hR=>?_)
   ·refine aR Tryz.func192 rfl Tryz.ntmps192 rfl fun a hF=>?_
    refine aG ?_
    refine aD ?_
    refine aO hF rfl rfl rfl (dA hF rfl rfl rfl fun j7 w t0 k3=>?_)
    have hM:=hM.plus k3
    replace hM:MemL _ (pt j7 (RState.enc (RState.mk c8 c9 c5 c6 c7 c0.at_ c0.steps c0.done)) 54 :: pt d4 (RPiece.enc (mPc d3 i0 i1)) 156 :: packR (c5 :: c1) d1 :: pt c2 (RState.enc (RState.mk c8 c9 c5 c6 c7 c0.at_ c0.steps c0.done)) 54 :: pt c4 (RState.enc zSt) 54 :: pt c3 (RMark.enc (mMk x1 s9 s11 s13 s17)) 60 :: rowL 0 c7 3 d0 :: rowL 0 c6 23 c1 :: Lr):=hM
    intro a hF
    refine aA hF (aH hF rfl rfl) rfl rfl rfl fun a hF=>?_
    refine aA hF (aH hF rfl rfl) rfl rfl rfl fun a hF=>?_
    refine aJ (aB ?_)
    refine aG ?_
    refine aT ?_
    refine aG ?_
    refine aD ?_
    refine aA hF (aF hF rfl rfl) rfl rfl rfl fun a hF=>?_
    refine aA hF (cI hF rfl rfl rfl) rfl rfl rfl fun a hF=>?_
    refine aA hF (aH hF rfl rfl) rfl rfl rfl fun a hF=>?_
    refine aJ (aB ?_)
    refine aV hF (c:=.tmp 6) rfl (fun i5=>?_) (fun i5=>?_)
    ·have hP:=Fx.cT i5 hP
     refine aG ?_
     refine aD ?_
     refine aA hF (aC (off':=460) qU54 rfl in23 rfl hF rfl rfl rfl) rfl rfl rfl fun a hF=>?_
     refine aA hF (aI qA23 hF rfl rfl (hM.cell (i:=0) rfl (RState.g_ctx _))) rfl rfl rfl fun a hF=>?_
     refine aA hF (aH hF rfl rfl) rfl rfl rfl fun a hF=>?_
     refine aA hF (aH hF rfl rfl) rfl rfl rfl fun a hF=>?_
     refine aJ (aB ?_)
     refine c_ret ?_
     have hP:=oI hP
     subst hP
     refine dO (rs:=[.tmp 4,.tmp 5]) qR192 hF (cR hF rfl (cR hF rfl cP)) rfl ?_
     exact ⟨(0,true),rfl,c5,rfl,p1,selM hM [1,2,3,4,5,6,7] 8 rfl⟩
    have hP:=Fx.cF i5 hP
    refine aG ?_
    refine aD ?_
    refine aA hF (aF hF rfl rfl) rfl rfl rfl fun a hF=>?_
    refine aA hF (aC (off':=461) qU54 rfl in28 rfl hF rfl rfl rfl) rfl rfl rfl fun a hF=>?_
    refine aA hF (aI qA28 hF rfl rfl (hM.cell (i:=0) rfl (RState.g_tables _))) rfl rfl rfl fun a hF=>?_
    refine aA hF (cQ (hM.rowS (X:=SV) (i:=7) rfl) (zI g4) qU28 hF rfl rfl) rfl rfl rfl fun a hF=>?_
    refine aA hF (cI hF rfl rfl rfl) rfl rfl rfl fun a hF=>?_
    refine aA hF (aH hF rfl rfl) rfl rfl rfl fun a hF=>?_
    refine aJ (aB ?_)
    refine aV hF (c:=.tmp 11) rfl (fun i6=>?_) (fun i6=>?_)
    ·have hP:=Fx.cT i6 hP
     refine aG ?_
     refine aD ?_
     refine aA hF (aC (off':=461) qU54 rfl in28 rfl hF rfl rfl rfl) rfl rfl rfl fun a hF=>?_
     refine aA hF (aI qA28 hF rfl rfl (hM.cell (i:=0) rfl (RState.g_tables _))) rfl rfl rfl fun a hF=>?_
     refine aA hF (aF hF rfl rfl) rfl rfl rfl fun a hF=>?_
     obtain ⟨u3,j6,hP⟩:=bind_some hP
     have t4:=aM j6
     obtain ⟨l2,n2,l4,l5⟩:=vK g4 j6
     refine aA hF (aS (sz:=1) (hM.rowS (X:=SV) (i:=7) rfl) qU28 in23 rfl hF rfl rfl rfl l2) rfl rfl rfl fun a hF=>?_
     refine aA hF (aI qA23 hF rfl rfl ((((hM.rowS (X:=SV) (i:=7) rfl).elemS l4)).get 0 rfl)) rfl rfl rfl fun a hF=>?_
     refine aA hF (aH hF rfl rfl) rfl rfl rfl fun a hF=>?_
     refine aA hF (aH hF rfl rfl) rfl rfl rfl fun a hF=>?_
     refine aJ (aB ?_)
     refine c_ret ?_
     have hP:=oI hP
     subst hP
     refine dO (rs:=[.tmp 4,.tmp 5]) qR192 hF (cR hF rfl (cR hF rfl cP)) rfl ?_
     exact ⟨(((d3.table:Int).toNat + 1),true),rfl,n2,rfl,l5,selM hM [1,2,3,4,5,6,7] 8 rfl⟩
    have hP:=Fx.cF i6 hP
    refine aW (bK (aB ?_))
    refine aG ?_
    refine aD ?_
    refine aA hF (aH hF rfl rfl) rfl rfl rfl fun a hF=>?_
    refine aA hF (aH hF rfl rfl) rfl rfl rfl fun a hF=>?_
    refine aJ (aB ?_)
    refine c_ret ?_
    obtain ⟨m4,hP⟩:=cH hP
    cases m4
   obtain ⟨⟨g6,j1⟩,rfl,i8,rfl,k5,hM⟩:=hR
   replace hP:Sh.oT d1 g7 d3 g6 j1 = _:=n4
   unfold Sh.oT at hP
   intro a hF
   refine aA hF (aF hF rfl rfl) rfl rfl rfl fun a hF=>?_
   refine aA hF (dD hF rfl rfl rfl) rfl rfl rfl fun a hF=>?_
   refine aA hF (dD hF rfl rfl rfl) rfl rfl rfl fun a hF=>?_
   refine aA hF (aH hF rfl rfl) rfl rfl rfl fun a hF=>?_
   refine aA hF (aH hF rfl rfl) rfl rfl rfl fun a hF=>?_
   refine aJ (aB ?_)
   refine bL mixed (by kernel_rfl) hM [0,1,2,3,4,5,6] 7 rfl fun hch=>?_
   refine aK hF hch 0 rfl (by kernel_rfl) rfl rfl rfl (fun w hM=>(aF hF rfl rfl)) fun a hF=>?_
   refine aK hF hch 1 rfl (by kernel_rfl) rfl rfl rfl (fun w hM=>(aC (off':=1) qU156 rfl in3 rfl hF rfl rfl rfl)) fun a hF=>?_
   refine aK hF hch 2 rfl (by kernel_rfl) rfl rfl rfl (fun w hM=>(aI qA3 hF rfl rfl (hM.cell (i:=0) rfl (RPiece.g_from_ _)))) fun a hF=>?_
   obtain ⟨u4,m6,hP⟩:=bind_some hP
   refine aK hF hch 3 rfl (by kernel_rfl) rfl rfl rfl (fun w hM=>(eL (wS (hM.hold 1 _ rfl) k5) m6 qU23 in5 rfl hF rfl rfl (.inr ⟨_,_,rfl,rfl⟩) (.inl ⟨rfl,rfl⟩))) fun a hF=>?_
   refine aK hF hch 4 rfl (by kernel_rfl) rfl rfl rfl (fun w hM=>(aC (off':=3) qU156 rfl in23 rfl hF rfl rfl rfl)) fun a hF=>?_
   refine aK hF hch 5 rfl (by kernel_rfl) rfl rfl rfl (fun w hM=>(aI qA23 hF rfl rfl (hM.cell (i:=0) rfl (RPiece.g_new _)))) fun a hF=>?_
   refine bC hch 6 (by kernel_rfl) rfl rfl ?_
   refine bV hF 6 rfl rfl rfl rfl rfl fun w hMs hM=>?_
   obtain ⟨k8,m7,hP⟩:=bind_some hP
   refine (aHi m7 rfl qU23 in5 rfl rfl hF rfl rfl rfl (hM.hold 1 _ rfl) k5 (n3 _ (hsub _ (dropM hM 7))) fun w m1=>?_)
   have hM:=hM.chg m1 (i:=1) rfl
   replace hM:MemL _ (pt d4 (RPiece.enc (mPc d3 i0 i1)) 156 :: packR (c5 :: c1) (d1.set g6 k8) :: pt c2 (RState.enc (RState.mk c8 c9 c5 c6 c7 c0.at_ c0.steps c0.done)) 54 :: pt c4 (RState.enc zSt) 54 :: pt c3 (RMark.enc (mMk x1 s9 s11 s13 s17)) 60 :: rowL 0 c7 3 d0 :: rowL 0 c6 23 c1 :: Lr):=hM
   have hMs:=hM
   refine ⟨_,_,hMs,hM,.inr (by kernel_rfl),fun a hF=>?_⟩
   refine bW hch (by kernel_rfl) fun w hM=>?_
   refine bK (aB ?_)
   refine aD ?_
   refine aA hF (bX hF rfl rfl rfl) rfl rfl rfl fun a hF=>?_
   refine aA hF (aF hF rfl rfl) rfl rfl rfl fun a hF=>?_
   refine aJ (aB ?_)
   have hP:=oI hP
   subst hP
   exact ⟨((d1.set g6 k8),(IntKind.i64.wrap (g7 + 1))),rfl,(aBp g4),hF.to ⟨rfl,rfl,rfl,rfl,rfl,rfl,trivial⟩,selM hM [1,2,3,4,5,6] 7 rfl⟩
  have hP:=Fx.cF i4 hP
  refine bY (bD (bD (cJ ?_)))
  refine aB ?_
  have hP:=oI hP
  subst hP
  have hP:=n7 _ rfl
  subst hP
  exact ⟨d1,rfl,g4,hF.to ⟨rfl,rfl,rfl,trivial⟩,hM⟩
 rintro d5 a w hP ⟨t6,hF,hM⟩
 replace hP:Sh.sH x1 c0 c8 c9 d0 d5 = _:=hP
 unfold Sh.sH at hP
 refine aB ?_
 refine aG ?_
 refine aD ?_
 refine aA hF (aC (off':=1) qU60 rfl in3 rfl hF rfl rfl rfl) rfl rfl rfl fun a hF=>?_
 refine aA hF (aI qA3 hF rfl rfl (hM.cell (i:=3) rfl (RMark.g_next _))) rfl rfl rfl fun a hF=>?_
 refine aA hF (aC (off':=463) qU54 rfl in3 rfl hF rfl rfl rfl) rfl rfl rfl fun a hF=>?_
 refine bI rfl rfl (bS qS3 (hM.obj (i:=1) rfl) hF rfl rfl rfl rfl (by rw [RState.len]; decide) (RState.s_at_ _ _) fun w m2=>?_)
 have hM:=hM.chg m2 (i:=1) rfl
 replace hM:MemL _ (packR (c5 :: c1) d5 :: pt c2 (RState.enc (RState.mk c8 c9 c5 c6 c7 x1.next c0.steps c0.done)) 54 :: pt c4 (RState.enc zSt) 54 :: pt c3 (RMark.enc (mMk x1 s9 s11 s13 s17)) 60 :: rowL 0 c7 3 d0 :: rowL 0 c6 23 c1 :: Lr):=hM
 refine aJ (aB ?_)
 refine aG ?_
 refine aD ?_
 refine aA hF (aQ qA54 qS54 hF rfl rfl (RState.len _) (hM.cells (i:=1) rfl (bA (RState.len _)))) rfl rfl rfl fun a hF=>?_
 refine bI rfl rfl (aY (vs:=_) qS54 (hM.obj (i:=2) rfl) hF rfl rfl rfl rfl (RState.len _) (RState.one _) (by first | (rw [RState.len,RState.len]; decide) | (rw [RState.len]; decide)) (bF ((RState.len _).trans (RState.len _).symm)) fun w m3=>?_)
 have hM:=hM.chg m3 (i:=2) rfl
 refine aJ (aB ?_)
 refine c_ret ?_
 replace hM:MemL _ (packR (c5 :: c1) d5 :: pt c2 (RState.enc (RState.mk c8 c9 c5 c6 c7 x1.next c0.steps c0.done)) 54 :: pt c4 (RState.enc (RState.mk c8 c9 c5 c6 c7 x1.next c0.steps c0.done)) 54 :: pt c3 (RMark.enc (mMk x1 s9 s11 s13 s17)) 60 :: rowL 0 c7 3 d0 :: rowL 0 c6 23 c1 :: Lr):=hM
 obtain ⟨hM,m5⟩:=tR (selM hM [0,1,2,3,4,5] 6 rfl)
 replace hM:MemL _ (rowL 0 c5 5 (Fx.pk d5 0) :: (packR c1 (List.tail d5)) :: pt c2 (RState.enc (RState.mk c8 c9 c5 c6 c7 x1.next c0.steps c0.done)) 54 :: pt c4 (RState.enc (RState.mk c8 c9 c5 c6 c7 x1.next c0.steps c0.done)) 54 :: pt c3 (RMark.enc (mMk x1 s9 s11 s13 s17)) 60 :: rowL 0 c7 3 d0 :: rowL 0 c6 23 c1 :: Lr):=hM
 have hP:=oI hP
 subst hP
 refine dO (rs:=[.cell 4 54]) Tryz.results127 hF (cG hF rfl qA54 qS54 (RState.len _) (hM.cells (i:=3) rfl (bA (RState.len _))) cP) rfl ?_
 exact ⟨c5,c6,c1,(packR c1 (List.tail d5)),c7,rfl,(lT m5),selM hM [0,6,1,5] 7 rfl⟩
set_option maxHeartbeats 4000000 in
theorem mY {x0:QState} {x1:QMark} {x2:Bool} {s1:SV} {s3:SV} {hs4:List SV} {s7:SV} {s9:SV} {s11:SV} {s13:SV} {hs14:List RPiece} {s17:SV} {out:QState} {w0:World} {Bf:World → Prop} {Lr:List Res} (hP:Sh.rK x0 x1 x2 = some out) (hM:MemL w0 (Lr)) (hsub:∀ w,MemL w Lr → Bf w) (f2:LIn Bf s1 x0.ctx) (f5:LIn Bf s3 hs4) (q6:Each (LIn (X:=UInt8) Bf) hs4 x0.tables) (f8:LIn Bf s7 x0.sent) (f10:LIn Bf s9 x1.regs) (f12:LIn Bf s11 x1.slots) (f15:LIn Bf s13 hs14) (q16:Each (QPieceIn Bf) hs14 x1.pieces) (f18:LIn Bf s17 x1.sent):Calls Tryz.prog 137 #[.agg (RState.enc (mSt x0 s1 s3 s7)).toArray,.agg (RMark.enc (mMk x1 s9 s11 s13 s17)).toArray,.bool x2] w0 (Ret fun v w'=>∃ (l0:SV) (l1:SV) (j2:List SV) (k9:Res) (l2:SV),v = .agg (RState.enc (mSt out l0 l1 l2)).toArray ∧ Each (LIn (X:=UInt8) k9.holds') j2 out.tables ∧ MemL w' (rowL 0 l0 5 out.ctx :: rowL 0 l1 23 j2 :: k9 :: rowL 0 l2 3 out.sent :: Lr)):=by
 unfold Sh.rK at hP
 refine aR (vs:=[.agg (RState.enc (mSt x0 s1 s3 s7)).toArray,.agg (RMark.enc (mMk x1 s9 s11 s13 s17)).toArray,.bool x2]) Tryz.func137 rfl Tryz.ntmps137 rfl fun a hF=>?_
 refine aG ?_
 refine aD ?_
 refine aO hF rfl rfl rfl (dA hF rfl rfl rfl fun g3 w u7 k4=>?_)
 have hM:=hM.plus k4
 intro a hF
 refine aO hF rfl rfl rfl (dA hF rfl rfl rfl fun c5 w u8 k5=>?_)
 have hM:=hM.plus k5
 intro a hF
 refine aO hF rfl rfl rfl (bO z54 (zs:=RState.zero.enc) rfl rfl fun c3 w u9 k6=>?_)
 have hM:=hM.plus k6
 replace hM:MemL _ (pt c3 (RState.enc zSt) 54 :: pt c5 (RMark.enc (mMk x1 s9 s11 s13 s17)) 60 :: pt g3 (RState.enc (mSt x0 s1 s3 s7)) 54 :: Lr):=hM
 intro a hF
 refine aJ (aB ?_)
 refine aG ?_
 refine aD ?_
 refine aA hF (aQ qA54 qS54 hF rfl rfl (RState.len _) (hM.cells (i:=2) rfl (bA (RState.len _)))) rfl rfl rfl fun a hF=>?_
 obtain ⟨c0,t4,hP⟩:=bind_some hP
 refine aO hF rfl rfl rfl (aN (xs:=[.tmp 14]) Tryz.call154 hF rfl rfl (qJ t4 hM (Bf:=Bf) (fun w hM=>hsub _ (dropM hM 3)) f2 f5 q6 f8) fun v w hR=>?_)
 obtain ⟨c2,c6,c1,g7,rfl,u5,hM⟩:=hR
 intro a hF
 refine aO hF rfl rfl rfl (bO z54 (zs:=RState.zero.enc) rfl rfl fun c4 w z0 k7=>?_)
 have hM:=hM.plus k7
 replace hM:MemL _ (pt c4 (RState.enc zSt) 54 :: rowL 0 c2 5 c0.ctx :: rowL 0 c6 23 c1 :: (packR c1 c0.tables) :: rowL 0 g7 3 c0.sent :: pt c3 (RState.enc zSt) 54 :: pt c5 (RMark.enc (mMk x1 s9 s11 s13 s17)) 60 :: pt g3 (RState.enc (mSt x0 s1 s3 s7)) 54 :: Lr):=hM
 intro a hF
 refine bI rfl rfl (aY (vs:=_) qS54 (hM.obj (i:=0) rfl) hF rfl rfl rfl rfl (RState.len _) (RState.one _) (by first | (rw [RState.len,RState.len]; decide) | (rw [RState.len]; decide)) (bF ((RState.len _).trans (RState.len _).symm)) fun w p5=>?_)
 have hM:=hM.chg p5 (i:=0) rfl
 have hM:=vJ (selM hM [3,1,0,2,4,5,6,7] 8 rfl)
 have t1:(c2 :: c1).length = (c0.ctx :: c0.tables).length:=congrArg (· + 1) u5.len
 have t0:(c2 :: c1)[0]? = some c2:=rfl
 replace hM:MemL _ (packR (c2 :: c1) (c0.ctx :: c0.tables) :: pt c4 (RState.enc (mSt c0 c2 c6 g7)) 54 :: rowL 0 c6 23 c1 :: rowL 0 g7 3 c0.sent :: pt c3 (RState.enc zSt) 54 :: pt c5 (RMark.enc (mMk x1 s9 s11 s13 s17)) 60 :: pt g3 (RState.enc (mSt x0 s1 s3 s7)) 54 :: Lr):=hM
 refine aJ (aB ?_)
 refine aG ?_
 refine aU hF hM hP (fun F x a w=>match x with | (c8,i9)=>∃ (g8:SV),Fr 114 [(2,.bool x2),(4,.pointer (some ⟨c5,0,none⟩)),(6,.pointer (some ⟨c3,0,none⟩)),(7,.pointer (some ⟨c4,0,none⟩))] a ∧ MemL w (pt c4 (RState.enc (RState.mk c8 c0.stack c2 c6 g8 c0.at_ c0.steps c0.done)) 54 :: rowL 0 g8 3 i9 :: pt c3 (RState.enc zSt) 54 :: pt c5 (RMark.enc (mMk x1 s9 s11 s13 s17)) 60 :: packR (c2 :: c1) (c0.ctx :: c0.tables) :: rowL 0 c6 23 c1 :: Lr)) (fun c36 hP c15 hF hM=>?_) ?_
 ·refine aG ?_
  refine aD ?_
  refine aA hF (aH hF rfl rfl) rfl rfl rfl fun a hF=>?_
  refine aJ (aB ?_)
  refine aT ?_
  refine bU hF hM hP (fun F x a w=>match x with | (d8,d9,i0)=>∃ (d3:SV),Fr 114 [(8,.int .i64 i0),(2,.bool x2),(4,.pointer (some ⟨c5,0,none⟩)),(6,.pointer (some ⟨c3,0,none⟩)),(7,.pointer (some ⟨c4,0,none⟩))] a ∧ MemL w (pt c4 (RState.enc (RState.mk d8 c0.stack c2 c6 d3 c0.at_ c0.steps c0.done)) 54 :: rowL 0 d3 3 d9 :: pt c3 (RState.enc zSt) 54 :: pt c5 (RMark.enc (mMk x1 s9 s11 s13 s17)) 60 :: packR (c2 :: c1) (c0.ctx :: c0.tables) :: rowL 0 c6 23 c1 :: Lr)) (fun hF hM=>⟨g7,hF.to ⟨rfl,rfl,rfl,rfl,rfl,trivial⟩,selM hM [1,3,4,5,0,2] 7 rfl⟩) ?_
  rintro ⟨d8,d9,i0⟩ a w c41 hP u1 ⟨d3,hF,hM⟩
  replace hP:Sh.mZ x1 x2 d8 d9 i0 = _:=hP
  unfold Sh.mZ at hP
  refine aG ?_
  refine aG ?_
  refine aD ?_
  refine aA hF (aF hF rfl rfl) rfl rfl rfl fun a hF=>?_
  refine aA hF (aC (off':=3) qU60 rfl in56 rfl hF rfl rfl rfl) rfl rfl rfl fun a hF=>?_
  refine aA hF (aI qA56 hF rfl rfl (hM.cell (i:=3) rfl (RMark.g_regs _))) rfl rfl rfl fun a hF=>?_
  refine aA hF (bM (f10 _ (hsub _ (dropM hM 6))) qU56 hF rfl rfl) rfl rfl rfl fun a hF=>?_
  refine aA hF (cI hF rfl rfl rfl) rfl rfl rfl fun a hF=>?_
  refine aJ (aB ?_)
  refine aV hF (c:=.tmp 20) rfl (fun i2=>?_) (fun i2=>?_)
  ·have hP:=Fx.cT i2 hP
   refine aW (aB ?_)
   refine aG ?_
   refine aT ?_
   refine bL mixed (by kernel_rfl) hM [0,1,2,3,4,5] 6 rfl fun hch=>?_
   refine aK hF hch 0 rfl (by kernel_rfl) rfl rfl rfl (fun w hM=>(aC (off':=3) qU60 rfl in56 rfl hF rfl rfl rfl)) fun a hF=>?_
   refine aK hF hch 1 rfl (by kernel_rfl) rfl rfl rfl (fun w hM=>(aI qA56 hF rfl rfl (hM.cell (i:=3) rfl (RMark.g_regs _)))) fun a hF=>?_
   refine aK hF hch 2 rfl (by kernel_rfl) rfl rfl rfl (fun w hM=>(aF hF rfl rfl)) fun a hF=>?_
   obtain ⟨l4,j3,hP⟩:=bind_some hP
   have m0:=aM j3
   refine aK hF hch 3 rfl (by kernel_rfl) rfl rfl rfl (fun w hM=>(aS (sz:=9) (f10 _ (hsub _ (dropM hM 6))) qU56 in128 rfl hF rfl rfl rfl (bG j3))) fun a hF=>?_
   refine aK hF hch 4 rfl (by kernel_rfl) rfl rfl rfl (fun w hM=>(aC qU128 rfl in3 rfl hF rfl rfl rfl)) fun a hF=>?_
   refine aK hF hch 5 rfl (by kernel_rfl) rfl rfl rfl (fun w hM=>(aI qA3 hF rfl rfl ((((f10 _ (hsub _ (dropM hM 6))).elemS m0.2)).get 0 (LTurn.g_reg _)))) fun a hF=>?_
   refine aK hF hch 6 rfl (by kernel_rfl) rfl rfl rfl (fun w hM=>(aC (off':=3) qU60 rfl in56 rfl hF rfl rfl rfl)) fun a hF=>?_
   refine aK hF hch 7 rfl (by kernel_rfl) rfl rfl rfl (fun w hM=>(aI qA56 hF rfl rfl (hM.cell (i:=3) rfl (RMark.g_regs _)))) fun a hF=>?_
   refine aK hF hch 8 rfl (by kernel_rfl) rfl rfl rfl (fun w hM=>(aF hF rfl rfl)) fun a hF=>?_
   obtain ⟨c28,j4,hP⟩:=bind_some hP
   have m1:=aM j4
   refine aK hF hch 9 rfl (by kernel_rfl) rfl rfl rfl (fun w hM=>(aS (sz:=9) (f10 _ (hsub _ (dropM hM 6))) qU56 in128 rfl hF rfl rfl rfl (bG j4))) fun a hF=>?_
   refine aK hF hch 10 rfl (by kernel_rfl) rfl rfl rfl (fun w hM=>(aQ qA128 qS128 hF rfl rfl (LTurn.len _) (((f10 _ (hsub _ (dropM hM 6))).elemS m1.2)))) fun a hF=>?_
   refine aK hF hch 11 rfl (by kernel_rfl) rfl rfl rfl (fun w hM=>(aF hF rfl rfl)) fun a hF=>?_
   refine aK hF hch 13 rfl (by kernel_rfl) rfl rfl rfl (fun w hM=>(aC (off':=0) qU54 rfl in47 rfl hF rfl rfl rfl)) fun a hF=>?_
   refine bC hch 12 (by kernel_rfl) rfl rfl ?_
   refine bV hF 12 rfl rfl rfl rfl rfl fun w hMs hM=>?_
   obtain ⟨l7,t5,hP⟩:=bind_some hP
   refine (aN (xs:=[.tmp 33,.tmp 34]) Tryz.call199 hF rfl rfl (mZ t5 hM ) fun v w hR=>?_)
   obtain ⟨rfl,hM⟩:=hR
   replace hM:MemL _ (pt c4 (RState.enc (RState.mk d8 c0.stack c2 c6 d3 c0.at_ c0.steps c0.done)) 54 :: rowL 0 d3 3 d9 :: pt c3 (RState.enc zSt) 54 :: pt c5 (RMark.enc (mMk x1 s9 s11 s13 s17)) 60 :: packR (c2 :: c1) (c0.ctx :: c0.tables) :: rowL 0 c6 23 c1 :: Lr):=hM
   have hMs:=selM hM [0,1,2,3,4,5] 6 rfl
   refine ⟨_,_,hMs,hM,.inl fun _ h=>h,fun a hF=>?_⟩
   obtain ⟨c29,g4,hP⟩:=bind_some hP
   have z1:=aM g4
   refine aK hF hch 14 rfl (by kernel_rfl) rfl rfl rfl (fun w hM=>(cW (sz:=4) qU47 in46 rfl hF rfl rfl rfl (dH g4))) fun a hF=>?_
   refine bC hch 15 (by kernel_rfl) rfl rfl ?_
   refine cO 15 rfl rfl rfl rfl fun w hMs hM=>?_
   refine (aY (vs:=_) qS46 (hM.obj (i:=0) rfl) hF rfl rfl rfl rfl (LVal.len _) (LVal.one _) (by have:=(dH g4); rw [LVal.len,RState.len]; omega) (RState.pi_regs _ _ _ (by have:=(dH g4); omega)) fun w p6=>?_)
   have hM:=hM.chg p6 (i:=0) rfl
   replace hM:MemL _ (pt c4 (RState.enc (RState.mk (d8.set (l4.reg:Int).toNat l7) c0.stack c2 c6 d3 c0.at_ c0.steps c0.done)) 54 :: rowL 0 d3 3 d9 :: pt c3 (RState.enc zSt) 54 :: pt c5 (RMark.enc (mMk x1 s9 s11 s13 s17)) 60 :: packR (c2 :: c1) (c0.ctx :: c0.tables) :: rowL 0 c6 23 c1 :: Lr):=hM
   have hMs:=hM
   refine ⟨_,_,hMs,hM,.inr (by kernel_rfl),?_⟩
   refine bW hch (by kernel_rfl) fun w hM=>?_
   refine bK (aB ?_)
   refine aD ?_
   refine aA hF (aF hF rfl rfl) rfl rfl rfl fun a hF=>?_
   refine aA hF (bX hF rfl rfl rfl) rfl rfl rfl fun a hF=>?_
   refine aA hF (aH hF rfl rfl) rfl rfl rfl fun a hF=>?_
   refine aJ (aB ?_)
   have hP:=oI hP
   subst hP
   exact ⟨((d8.set (l4.reg:Int).toNat l7),d9,(IntKind.i64.wrap (i0 + 1))),rfl,d3,hF.to ⟨rfl,rfl,rfl,rfl,rfl,trivial⟩,hM⟩
  have hP:=Fx.cF i2 hP
  refine bY (bD (bD (cJ ?_)))
  refine aB ?_
  have hP:=oI hP
  subst hP
  have hP:=u1 _ rfl
  subst hP
  exact ⟨(d8,d9),rfl,d3,hF.to ⟨rfl,rfl,rfl,rfl,trivial⟩,hM⟩
 rintro ⟨c8,i9⟩ a w hP ⟨g8,hF,hM⟩
 replace hP:Sh.rS x1 x2 c0 c8 i9 = _:=hP
 unfold Sh.rS at hP
 refine aB ?_
 refine aG ?_
 refine aU hF hM hP (fun F x a w=>match x with | (c9,d0)=>∃ (c7:SV),Fr 114 [(2,.bool x2),(4,.pointer (some ⟨c5,0,none⟩)),(6,.pointer (some ⟨c3,0,none⟩)),(7,.pointer (some ⟨c4,0,none⟩))] a ∧ MemL w (pt c4 (RState.enc (RState.mk c8 c9 c2 c6 c7 c0.at_ c0.steps c0.done)) 54 :: rowL 0 c7 3 d0 :: pt c3 (RState.enc zSt) 54 :: pt c5 (RMark.enc (mMk x1 s9 s11 s13 s17)) 60 :: packR (c2 :: c1) (c0.ctx :: c0.tables) :: rowL 0 c6 23 c1 :: Lr)) (fun c37 hP c16 hF hM=>?_) ?_
 ·refine aG ?_
  refine aD ?_
  refine aA hF (aH hF rfl rfl) rfl rfl rfl fun a hF=>?_
  refine aJ (aB ?_)
  refine aT ?_
  refine bU hF hM hP (fun F x a w=>match x with | (g0,g1,i1)=>∃ (d4:SV),Fr 114 [(9,.int .i64 i1),(2,.bool x2),(4,.pointer (some ⟨c5,0,none⟩)),(6,.pointer (some ⟨c3,0,none⟩)),(7,.pointer (some ⟨c4,0,none⟩))] a ∧ MemL w (pt c4 (RState.enc (RState.mk c8 g0 c2 c6 d4 c0.at_ c0.steps c0.done)) 54 :: rowL 0 d4 3 g1 :: pt c3 (RState.enc zSt) 54 :: pt c5 (RMark.enc (mMk x1 s9 s11 s13 s17)) 60 :: packR (c2 :: c1) (c0.ctx :: c0.tables) :: rowL 0 c6 23 c1 :: Lr)) (fun hF hM=>⟨g8,hF.to ⟨rfl,rfl,rfl,rfl,rfl,trivial⟩,hM⟩) ?_
  rintro ⟨g0,g1,i1⟩ a w c42 hP u2 ⟨d4,hF,hM⟩
  replace hP:Sh.nA x1 x2 g0 g1 i1 = _:=hP
  unfold Sh.nA at hP
  refine aG ?_
  refine aG ?_
  refine aD ?_
  refine aA hF (aF hF rfl rfl) rfl rfl rfl fun a hF=>?_
  refine aA hF (aC (off':=4) qU60 rfl in57 rfl hF rfl rfl rfl) rfl rfl rfl fun a hF=>?_
  refine aA hF (aI qA57 hF rfl rfl (hM.cell (i:=3) rfl (RMark.g_slots _))) rfl rfl rfl fun a hF=>?_
  refine aA hF (bM (f12 _ (hsub _ (dropM hM 6))) qU57 hF rfl rfl) rfl rfl rfl fun a hF=>?_
  refine aA hF (cI hF rfl rfl rfl) rfl rfl rfl fun a hF=>?_
  refine aJ (aB ?_)
  refine aV hF (c:=.tmp 42) rfl (fun i3=>?_) (fun i3=>?_)
  ·have hP:=Fx.cT i3 hP
   refine aW (aB ?_)
   refine aG ?_
   refine aT ?_
   refine bL mixed (by kernel_rfl) hM [0,1,2,3,4,5] 6 rfl fun hch=>?_
   refine aK hF hch 0 rfl (by kernel_rfl) rfl rfl rfl (fun w hM=>(aC (off':=4) qU60 rfl in57 rfl hF rfl rfl rfl)) fun a hF=>?_
   refine aK hF hch 1 rfl (by kernel_rfl) rfl rfl rfl (fun w hM=>(aI qA57 hF rfl rfl (hM.cell (i:=3) rfl (RMark.g_slots _)))) fun a hF=>?_
   refine aK hF hch 2 rfl (by kernel_rfl) rfl rfl rfl (fun w hM=>(aF hF rfl rfl)) fun a hF=>?_
   obtain ⟨l5,j5,hP⟩:=bind_some hP
   have m2:=aM j5
   refine aK hF hch 3 rfl (by kernel_rfl) rfl rfl rfl (fun w hM=>(aS (sz:=27) (f12 _ (hsub _ (dropM hM 6))) qU57 in151 rfl hF rfl rfl rfl (bG j5))) fun a hF=>?_
   refine aK hF hch 4 rfl (by kernel_rfl) rfl rfl rfl (fun w hM=>(aC qU151 rfl in3 rfl hF rfl rfl rfl)) fun a hF=>?_
   refine aK hF hch 5 rfl (by kernel_rfl) rfl rfl rfl (fun w hM=>(aI qA3 hF rfl rfl ((((f12 _ (hsub _ (dropM hM 6))).elemS m2.2)).get 0 (LCell.g_slot _)))) fun a hF=>?_
   refine aK hF hch 6 rfl (by kernel_rfl) rfl rfl rfl (fun w hM=>(aC (off':=4) qU60 rfl in57 rfl hF rfl rfl rfl)) fun a hF=>?_
   refine aK hF hch 7 rfl (by kernel_rfl) rfl rfl rfl (fun w hM=>(aI qA57 hF rfl rfl (hM.cell (i:=3) rfl (RMark.g_slots _)))) fun a hF=>?_
   refine aK hF hch 8 rfl (by kernel_rfl) rfl rfl rfl (fun w hM=>(aF hF rfl rfl)) fun a hF=>?_
   obtain ⟨c30,j6,hP⟩:=bind_some hP
   have m3:=aM j6
   refine aK hF hch 9 rfl (by kernel_rfl) rfl rfl rfl (fun w hM=>(aS (sz:=27) (f12 _ (hsub _ (dropM hM 6))) qU57 in151 rfl hF rfl rfl rfl (bG j6))) fun a hF=>?_
   refine aK hF hch 10 rfl (by kernel_rfl) rfl rfl rfl (fun w hM=>(aQ qA151 qS151 hF rfl rfl (LCell.len _) (((f12 _ (hsub _ (dropM hM 6))).elemS m3.2)))) fun a hF=>?_
   refine aK hF hch 11 rfl (by kernel_rfl) rfl rfl rfl (fun w hM=>(aF hF rfl rfl)) fun a hF=>?_
   refine aK hF hch 13 rfl (by kernel_rfl) rfl rfl rfl (fun w hM=>(aC (off':=44) qU54 rfl in51 rfl hF rfl rfl rfl)) fun a hF=>?_
   refine bC hch 12 (by kernel_rfl) rfl rfl ?_
   refine bV hF 12 rfl rfl rfl rfl rfl fun w hMs hM=>?_
   obtain ⟨l8,t6,hP⟩:=bind_some hP
   refine (aN (xs:=[.tmp 55,.tmp 56]) Tryz.call200 hF rfl rfl (lY t6 hM ) fun v w hR=>?_)
   obtain ⟨rfl,hM⟩:=hR
   replace hM:MemL _ (pt c4 (RState.enc (RState.mk c8 g0 c2 c6 d4 c0.at_ c0.steps c0.done)) 54 :: rowL 0 d4 3 g1 :: pt c3 (RState.enc zSt) 54 :: pt c5 (RMark.enc (mMk x1 s9 s11 s13 s17)) 60 :: packR (c2 :: c1) (c0.ctx :: c0.tables) :: rowL 0 c6 23 c1 :: Lr):=hM
   have hMs:=selM hM [0,1,2,3,4,5] 6 rfl
   refine ⟨_,_,hMs,hM,.inl fun _ h=>h,fun a hF=>?_⟩
   obtain ⟨c31,g5,hP⟩:=bind_some hP
   have z2:=aM g5
   refine aK hF hch 14 rfl (by kernel_rfl) rfl rfl rfl (fun w hM=>(cW (sz:=13) qU51 in50 rfl hF rfl rfl rfl (dH g5))) fun a hF=>?_
   refine bC hch 15 (by kernel_rfl) rfl rfl ?_
   refine cO 15 rfl rfl rfl rfl fun w hMs hM=>?_
   refine (aY (vs:=_) qS50 (hM.obj (i:=0) rfl) hF rfl rfl rfl rfl (LSlot.len _) (LSlot.one _) (by have:=(dH g5); rw [LSlot.len,RState.len]; omega) (RState.pi_stack _ _ _ (by have:=(dH g5); omega)) fun w p7=>?_)
   have hM:=hM.chg p7 (i:=0) rfl
   replace hM:MemL _ (pt c4 (RState.enc (RState.mk c8 (g0.set (l5.slot:Int).toNat l8) c2 c6 d4 c0.at_ c0.steps c0.done)) 54 :: rowL 0 d4 3 g1 :: pt c3 (RState.enc zSt) 54 :: pt c5 (RMark.enc (mMk x1 s9 s11 s13 s17)) 60 :: packR (c2 :: c1) (c0.ctx :: c0.tables) :: rowL 0 c6 23 c1 :: Lr):=hM
   have hMs:=hM
   refine ⟨_,_,hMs,hM,.inr (by kernel_rfl),?_⟩
   refine bW hch (by kernel_rfl) fun w hM=>?_
   refine bK (aB ?_)
   refine aD ?_
   refine aA hF (aF hF rfl rfl) rfl rfl rfl fun a hF=>?_
   refine aA hF (bX hF rfl rfl rfl) rfl rfl rfl fun a hF=>?_
   refine aA hF (aH hF rfl rfl) rfl rfl rfl fun a hF=>?_
   refine aJ (aB ?_)
   have hP:=oI hP
   subst hP
   exact ⟨((g0.set (l5.slot:Int).toNat l8),g1,(IntKind.i64.wrap (i1 + 1))),rfl,d4,hF.to ⟨rfl,rfl,rfl,rfl,rfl,trivial⟩,hM⟩
  have hP:=Fx.cF i3 hP
  refine bY (bD (bD (cJ ?_)))
  refine aB ?_
  have hP:=oI hP
  subst hP
  have hP:=u2 _ rfl
  subst hP
  exact ⟨(g0,g1),rfl,d4,hF.to ⟨rfl,rfl,rfl,rfl,trivial⟩,hM⟩
 rintro ⟨c9,d0⟩ a w hP ⟨c7,hF,hM⟩
 replace hP:Sh.rT x1 x2 c0 c8 c9 d0 = _:=hP
 unfold Sh.rT at hP
 refine aB ?_
 refine aG ?_
 refine aU hF hM hP (fun F x a w=>match x with | d6=>(c2 :: c1).length = d6.length ∧ Fr 114 [(6,.pointer (some ⟨c3,0,none⟩)),(7,.pointer (some ⟨c4,0,none⟩))] a ∧ MemL w (packR (c2 :: c1) d6 :: pt c4 (RState.enc (RState.mk c8 c9 c2 c6 c7 c0.at_ c0.steps c0.done)) 54 :: pt c3 (RState.enc zSt) 54 :: rowL 0 c7 3 d0 :: rowL 0 c6 23 c1 :: Lr)) (fun c38 hP c17 hF hM=>?_) ?_
 ·refine aG ?_
  refine aD ?_
  refine aA hF (aH hF rfl rfl) rfl rfl rfl fun a hF=>?_
  refine aJ (aB ?_)
  refine aT ?_
  refine bU hF hM hP (fun F x a w=>match x with | (d7,d1)=>(c2 :: c1).length = d7.length ∧ Fr 114 [(10,.int .i64 d1),(2,.bool x2),(4,.pointer (some ⟨c5,0,none⟩)),(6,.pointer (some ⟨c3,0,none⟩)),(7,.pointer (some ⟨c4,0,none⟩))] a ∧ MemL w (packR (c2 :: c1) d7 :: pt c4 (RState.enc (RState.mk c8 c9 c2 c6 c7 c0.at_ c0.steps c0.done)) 54 :: pt c3 (RState.enc zSt) 54 :: pt c5 (RMark.enc (mMk x1 s9 s11 s13 s17)) 60 :: rowL 0 c7 3 d0 :: rowL 0 c6 23 c1 :: Lr)) (fun hF hM=>⟨t1,hF.to ⟨rfl,rfl,rfl,rfl,rfl,trivial⟩,selM hM [4,0,2,3,1,5] 6 rfl⟩) ?_
  rintro ⟨d7,d1⟩ a w c43 hP u3 ⟨i7,hF,hM⟩
  replace hP:Sh.nB x1 x2 d7 d1 = _:=hP
  unfold Sh.nB at hP
  refine aG ?_
  refine aG ?_
  refine aD ?_
  refine aA hF (aF hF rfl rfl) rfl rfl rfl fun a hF=>?_
  refine aA hF (aC (off':=5) qU60 rfl in58 rfl hF rfl rfl rfl) rfl rfl rfl fun a hF=>?_
  refine aA hF (aI qA58 hF rfl rfl (hM.cell (i:=3) rfl (RMark.g_pieces _))) rfl rfl rfl fun a hF=>?_
  refine aA hF (cQ (f15 _ (hsub _ (dropM hM 6))) q16.len qU58 hF rfl rfl) rfl rfl rfl fun a hF=>?_
  refine aA hF (cI hF rfl rfl rfl) rfl rfl rfl fun a hF=>?_
  refine aJ (aB ?_)
  refine aV hF (c:=.tmp 64) rfl (fun i4=>?_) (fun i4=>?_)
  ·have hP:=Fx.cT i4 hP
   refine aW (aB ?_)
   refine aG ?_
   refine aU hF hM hP (fun F x a w=>match x with | g6=>(c2 :: c1).length = g6.length ∧ Fr 114 [(10,.int .i64 d1),(2,.bool x2),(4,.pointer (some ⟨c5,0,none⟩)),(6,.pointer (some ⟨c3,0,none⟩)),(7,.pointer (some ⟨c4,0,none⟩))] a ∧ MemL w (packR (c2 :: c1) g6 :: pt c4 (RState.enc (RState.mk c8 c9 c2 c6 c7 c0.at_ c0.steps c0.done)) 54 :: pt c3 (RState.enc zSt) 54 :: pt c5 (RMark.enc (mMk x1 s9 s11 s13 s17)) 60 :: rowL 0 c7 3 d0 :: rowL 0 c6 23 c1 :: Lr)) (fun c39 hP c18 hF hM=>?_) ?_
   ·refine aT ?_
    refine aG ?_
    refine aD ?_
    refine aA hF (aC (off':=5) qU60 rfl in58 rfl hF rfl rfl rfl) rfl rfl rfl fun a hF=>?_
    refine aA hF (aI qA58 hF rfl rfl (hM.cell (i:=3) rfl (RMark.g_pieces _))) rfl rfl rfl fun a hF=>?_
    refine aA hF (aF hF rfl rfl) rfl rfl rfl fun a hF=>?_
    obtain ⟨c32,j7,hP⟩:=bind_some hP
    have m4:=aM j7
    obtain ⟨z5,n5,p1⟩:=Each.getr q16 m4.2
    have n0:=Each.bd q16 (bG j7)
    obtain ⟨c20,c21,rfl,t9,u0⟩:=p1
    refine aA hF (aS (sz:=4) (f15 _ (hsub _ (dropM hM 6))) qU58 in156 rfl hF rfl rfl rfl n0) rfl rfl rfl fun a hF=>?_
    refine aA hF (aQ qA156 qS156 hF rfl rfl (RPiece.len _) (((f15 _ (hsub _ (dropM hM 6))).elemS n5))) rfl rfl rfl fun a hF=>?_
    refine aA hF (aF hF rfl rfl) rfl rfl rfl fun a hF=>?_
    obtain ⟨l9,t7,hP⟩:=bind_some hP
    refine aO hF rfl rfl rfl (aN (xs:=[.tmp 71,.tmp 72]) Tryz.call201 hF rfl rfl (lB t7 hM (Bf:=Bf) (fun w hM=>hsub _ (dropM hM 6)) t9 u0) fun v w hR=>?_)
    obtain ⟨l3,rfl,i8,hM⟩:=hR
    replace hM:MemL _ (packR (c2 :: c1) d7 :: pt c4 (RState.enc (RState.mk c8 c9 c2 c6 c7 c0.at_ c0.steps c0.done)) 54 :: pt c3 (RState.enc zSt) 54 :: pt c5 (RMark.enc (mMk x1 s9 s11 s13 s17)) 60 :: rowL 0 c7 3 d0 :: rowL 0 c6 23 c1 :: Lr):=hM
    intro a hF
    refine aA hF (aH hF rfl rfl) rfl rfl rfl fun a hF=>?_
    refine aJ (aB ?_)
    refine aG ?_
    refine aD ?_
    refine aA hF (aC (off':=460) qU54 rfl in23 rfl hF rfl rfl rfl) rfl rfl rfl fun a hF=>?_
    refine aA hF (aI qA23 hF rfl rfl (hM.cell (i:=1) rfl (RState.g_ctx _))) rfl rfl rfl fun a hF=>?_
    refine aA hF (aH hF rfl rfl) rfl rfl rfl fun a hF=>?_
    refine aJ (aB ?_)
    refine aG ?_
    refine aU hF hM hP (fun F x a w=>match x with | d5=>∃ (g9:SV),(c2 :: c1)[d5]? = some g9 ∧ Fr 114 [(12,(g9).v),(10,.int .i64 d1),(11,(l3).v),(2,.bool x2),(4,.pointer (some ⟨c5,0,none⟩)),(6,.pointer (some ⟨c3,0,none⟩)),(7,.pointer (some ⟨c4,0,none⟩))] a ∧ MemL w (pt c4 (RState.enc (RState.mk c8 c9 c2 c6 c7 c0.at_ c0.steps c0.done)) 54 :: pt c3 (RState.enc zSt) 54 :: pt c5 (RMark.enc (mMk x1 s9 s11 s13 s17)) 60 :: packR (c2 :: c1) d7 :: rowL 0 c7 3 d0 :: rowL 0 c6 23 c1 :: Lr)) (fun c40 hP c19 hF hM=>?_) ?_
    ·refine aG ?_
     refine aD ?_
     refine aA hF (aC (off':=5) qU60 rfl in58 rfl hF rfl rfl rfl) rfl rfl rfl fun a hF=>?_
     refine aA hF (aI qA58 hF rfl rfl (hM.cell (i:=3) rfl (RMark.g_pieces _))) rfl rfl rfl fun a hF=>?_
     refine aA hF (aF hF rfl rfl) rfl rfl rfl fun a hF=>?_
     obtain ⟨c33,j8,hP⟩:=bind_some hP
     have m5:=aM j8
     obtain ⟨z6,n6,p2⟩:=Each.getr q16 m5.2
     have n1:=Each.bd q16 (bG j8)
     obtain ⟨c22,c23,rfl,z9,c10⟩:=p2
     refine aA hF (aS (sz:=4) (f15 _ (hsub _ (dropM hM 6))) qU58 in156 rfl hF rfl rfl rfl n1) rfl rfl rfl fun a hF=>?_
     refine aA hF (aC qU156 rfl in3 rfl hF rfl rfl rfl) rfl rfl rfl fun a hF=>?_
     refine aA hF (aI qA3 hF rfl rfl ((((f15 _ (hsub _ (dropM hM 6))).elemS n6)).get 0 (RPiece.g_table _))) rfl rfl rfl fun a hF=>?_
     refine aA hF (jD hF rfl rfl rfl) rfl rfl rfl fun a hF=>?_
     refine aJ (aB ?_)
     refine aV hF (c:=.tmp 82) rfl (fun i5=>?_) (fun i5=>?_)
     ·have hP:=Fx.cT i5 hP
      refine bL mixed (by kernel_rfl) hM [0,1,2,3,4,5] 6 rfl fun hch=>?_
      refine aK hF hch 0 rfl (by kernel_rfl) rfl rfl rfl (fun w hM=>(aC (off':=461) qU54 rfl in28 rfl hF rfl rfl rfl)) fun a hF=>?_
      refine aK hF hch 1 rfl (by kernel_rfl) rfl rfl rfl (fun w hM=>(aI qA28 hF rfl rfl (hM.cell (i:=1) rfl (RState.g_tables _)))) fun a hF=>?_
      refine aK hF hch 2 rfl (by kernel_rfl) rfl rfl rfl (fun w hM=>(aC (off':=5) qU60 rfl in58 rfl hF rfl rfl rfl)) fun a hF=>?_
      refine aK hF hch 3 rfl (by kernel_rfl) rfl rfl rfl (fun w hM=>(aI qA58 hF rfl rfl (hM.cell (i:=3) rfl (RMark.g_pieces _)))) fun a hF=>?_
      refine aK hF hch 4 rfl (by kernel_rfl) rfl rfl rfl (fun w hM=>(aF hF rfl rfl)) fun a hF=>?_
      obtain ⟨u6,j9,hP⟩:=bind_some hP
      have m6:=aM j9
      obtain ⟨z7,n7,p3⟩:=Each.getr q16 m6.2
      have n2:=Each.bd q16 (bG j9)
      obtain ⟨c24,c25,rfl,c11,c12⟩:=p3
      refine aK hF hch 5 rfl (by kernel_rfl) rfl rfl rfl (fun w hM=>(aS (sz:=4) (f15 _ (hsub _ (dropM hM 6))) qU58 in156 rfl hF rfl rfl rfl n2)) fun a hF=>?_
      refine aK hF hch 6 rfl (by kernel_rfl) rfl rfl rfl (fun w hM=>(aC qU156 rfl in3 rfl hF rfl rfl rfl)) fun a hF=>?_
      refine aK hF hch 7 rfl (by kernel_rfl) rfl rfl rfl (fun w hM=>(aI qA3 hF rfl rfl ((((f15 _ (hsub _ (dropM hM 6))).elemS n7)).get 0 (RPiece.g_table _)))) fun a hF=>?_
      obtain ⟨c34,k0,hP⟩:=bind_some hP
      have z3:=aM k0
      obtain ⟨n3,t8,n8,p0⟩:=vK i7 k0
      refine aK hF hch 8 rfl (by kernel_rfl) rfl rfl rfl (fun w hM=>(aS (sz:=1) (hM.rowS (X:=SV) (i:=5) rfl) qU28 in23 rfl hF rfl rfl rfl n3)) fun a hF=>?_
      refine aK hF hch 9 rfl (by kernel_rfl) rfl rfl rfl (fun w hM=>(aI qA23 hF rfl rfl ((((hM.rowS (X:=SV) (i:=5) rfl).elemS n8)).get 0 rfl))) fun a hF=>?_
      refine aK hF hch 10 rfl (by kernel_rfl) rfl rfl rfl (fun w hM=>(aH hF rfl rfl)) fun a hF=>?_
      refine bW hch (by kernel_rfl) fun w hM=>?_
      refine aB ?_
      have hP:=oI hP
      subst hP
      exact ⟨((u6.table:Int).toNat + 1),rfl,t8,p0,hF.to ⟨rfl,rfl,rfl,rfl,rfl,rfl,rfl,trivial⟩,selM hM [1,2,3,0,4,5] 6 rfl⟩
     have hP:=Fx.cF i5 hP
     refine aW (aB ?_)
     have hP:=oI hP
     subst hP
     exact ⟨0,rfl,c2,t0,hF.to ⟨rfl,rfl,rfl,rfl,rfl,rfl,rfl,trivial⟩,selM hM [1,2,3,0,4,5] 6 rfl⟩
    rintro d5 a w hP ⟨g9,k8,hF,hM⟩
    replace hP:Sh.rW x1 d7 d1 l9 d5 = _:=hP
    unfold Sh.rW at hP
    refine aB ?_
    refine aG ?_
    refine aD ?_
    refine aA hF (aH hF rfl rfl) rfl rfl rfl fun a hF=>?_
    refine aJ (aB ?_)
    refine aT ?_
    refine bU hF hM hP (fun F x a w=>match x with | (d2,g2)=>(c2 :: c1).length = d2.length ∧ Fr 114 [(13,.int .i64 g2),(10,.int .i64 d1),(11,(l3).v),(12,(g9).v),(2,.bool x2),(4,.pointer (some ⟨c5,0,none⟩)),(6,.pointer (some ⟨c3,0,none⟩)),(7,.pointer (some ⟨c4,0,none⟩))] a ∧ MemL w (packR (c2 :: c1) d2 :: pt c4 (RState.enc (RState.mk c8 c9 c2 c6 c7 c0.at_ c0.steps c0.done)) 54 :: pt c3 (RState.enc zSt) 54 :: pt c5 (RMark.enc (mMk x1 s9 s11 s13 s17)) 60 :: rowL 0 c7 3 d0 :: rowL 0 c6 23 c1 :: Lr)) (fun hF hM=>⟨i7,hF.to ⟨rfl,rfl,rfl,rfl,rfl,rfl,rfl,rfl,trivial⟩,selM hM [3,0,1,2,4,5] 6 rfl⟩) ?_
    rintro ⟨d2,g2⟩ a w c44 hP u4 ⟨j1,hF,hM⟩
    replace hP:Sh.nC x1 d1 l9 d5 d2 g2 = _:=hP
    unfold Sh.nC at hP
    refine aG ?_
    refine aG ?_
    refine aD ?_
    refine aA hF (aF hF rfl rfl) rfl rfl rfl fun a hF=>?_
    refine aA hF (aF hF rfl rfl) rfl rfl rfl fun a hF=>?_
    refine aA hF (bM (i8 _ (hsub _ (dropM hM 6))) qU23 hF rfl rfl) rfl rfl rfl fun a hF=>?_
    refine aA hF (cI hF rfl rfl rfl) rfl rfl rfl fun a hF=>?_
    refine aJ (aB ?_)
    refine aV hF (c:=.tmp 96) rfl (fun i6=>?_) (fun i6=>?_)
    ·have hP:=Fx.cT i6 hP
     refine aW (aB ?_)
     refine aG ?_
     refine aT ?_
     refine bL mixed (by kernel_rfl) hM [0,1,2,3,4,5] 6 rfl fun hch=>?_
     refine aK hF hch 0 rfl (by kernel_rfl) rfl rfl rfl (fun w hM=>(aF hF rfl rfl)) fun a hF=>?_
     refine aK hF hch 1 rfl (by kernel_rfl) rfl rfl rfl (fun w hM=>(aC (off':=5) qU60 rfl in58 rfl hF rfl rfl rfl)) fun a hF=>?_
     refine aK hF hch 2 rfl (by kernel_rfl) rfl rfl rfl (fun w hM=>(aI qA58 hF rfl rfl (hM.cell (i:=3) rfl (RMark.g_pieces _)))) fun a hF=>?_
     refine aK hF hch 3 rfl (by kernel_rfl) rfl rfl rfl (fun w hM=>(aF hF rfl rfl)) fun a hF=>?_
     obtain ⟨l6,k1,hP⟩:=bind_some hP
     have m7:=aM k1
     obtain ⟨z8,n9,p4⟩:=Each.getr q16 m7.2
     have n4:=Each.bd q16 (bG k1)
     obtain ⟨c26,c27,rfl,c13,c14⟩:=p4
     refine aK hF hch 4 rfl (by kernel_rfl) rfl rfl rfl (fun w hM=>(aS (sz:=4) (f15 _ (hsub _ (dropM hM 6))) qU58 in156 rfl hF rfl rfl rfl n4)) fun a hF=>?_
     refine aK hF hch 5 rfl (by kernel_rfl) rfl rfl rfl (fun w hM=>(aC qU156 rfl in3 rfl hF rfl rfl rfl)) fun a hF=>?_
     refine aK hF hch 6 rfl (by kernel_rfl) rfl rfl rfl (fun w hM=>(aI qA3 hF rfl rfl ((((f15 _ (hsub _ (dropM hM 6))).elemS n9)).get 1 (RPiece.g_from_ _)))) fun a hF=>?_
     refine aK hF hch 7 rfl (by kernel_rfl) rfl rfl rfl (fun w hM=>(aF hF rfl rfl)) fun a hF=>?_
     refine aK hF hch 8 rfl (by kernel_rfl) rfl rfl rfl (fun w hM=>(bX hF rfl rfl rfl)) fun a hF=>?_
     refine aK hF hch 9 rfl (by kernel_rfl) rfl rfl rfl (fun w hM=>(aF hF rfl rfl)) fun a hF=>?_
     refine aK hF hch 10 rfl (by kernel_rfl) rfl rfl rfl (fun w hM=>(aF hF rfl rfl)) fun a hF=>?_
     obtain ⟨j0,k2,hP⟩:=bind_some hP
     have m8:=aM k2
     refine aK hF hch 11 rfl (by kernel_rfl) rfl rfl rfl (fun w hM=>(aS (sz:=1) (i8 _ (hsub _ (dropM hM 6))) qU23 in5 rfl hF rfl rfl rfl (bG k2))) fun a hF=>?_
     refine aK hF hch 12 rfl (by kernel_rfl) rfl rfl rfl (fun w hM=>(aI qA5 hF rfl rfl ((((i8 _ (hsub _ (dropM hM 6))).elemS m8.2)).get 0 rfl))) fun a hF=>?_
     obtain ⟨c35,k3,hP⟩:=bind_some hP
     have m9:=aM k3
     refine aK hF hch 13 rfl (by kernel_rfl) rfl rfl rfl (fun w hM=>(aS (sz:=1) (wS (hM.hold 0 _ rfl) k8) qU23 in5 rfl hF rfl rfl rfl (bG k3))) fun a hF=>?_
     refine bC hch 14 (by kernel_rfl) rfl rfl ?_
     refine cO 14 rfl rfl rfl rfl fun w hMs hM=>?_
     refine (aFn (u:=j0) qS5 (hM.hold 0 _ rfl) k8 m9.2 hF rfl rfl rfl rfl fun w p8=>?_)
     have hM:=hM.chg p8 (i:=0) rfl
     replace hM:MemL _ (packR (c2 :: c1) (d2.set d5 ((Fx.pk d2 d5).set ((IntKind.i64.wrap (l6.from_ + g2)):Int).toNat j0)) :: pt c4 (RState.enc (RState.mk c8 c9 c2 c6 c7 c0.at_ c0.steps c0.done)) 54 :: pt c3 (RState.enc zSt) 54 :: pt c5 (RMark.enc (mMk x1 s9 s11 s13 s17)) 60 :: rowL 0 c7 3 d0 :: rowL 0 c6 23 c1 :: Lr):=hM
     have hMs:=hM
     refine ⟨_,_,hMs,hM,.inr (by kernel_rfl),?_⟩
     refine bW hch (by kernel_rfl) fun w hM=>?_
     refine bK (aB ?_)
     refine aD ?_
     refine aA hF (aF hF rfl rfl) rfl rfl rfl fun a hF=>?_
     refine aA hF (bX hF rfl rfl rfl) rfl rfl rfl fun a hF=>?_
     refine aA hF (aH hF rfl rfl) rfl rfl rfl fun a hF=>?_
     refine aJ (aB ?_)
     have hP:=oI hP
     subst hP
     exact ⟨((d2.set d5 ((Fx.pk d2 d5).set ((IntKind.i64.wrap (l6.from_ + g2)):Int).toNat j0)),(IntKind.i64.wrap (g2 + 1))),rfl,(aBp j1),hF.to ⟨rfl,rfl,rfl,rfl,rfl,rfl,rfl,rfl,trivial⟩,hM⟩
    have hP:=Fx.cF i6 hP
    refine bY (bD (bD (cJ ?_)))
    refine bK (aB ?_)
    have hP:=oI hP
    subst hP
    have hP:=u4 _ rfl
    subst hP
    exact ⟨d2,rfl,j1,hF.to ⟨rfl,rfl,rfl,rfl,rfl,trivial⟩,hM⟩
   rintro g6 a w hP ⟨t2,hF,hM⟩
   replace hP:Sh.rV d1 g6 = _:=hP
   unfold Sh.rV at hP
   refine aB ?_
   refine aD ?_
   refine aA hF (aF hF rfl rfl) rfl rfl rfl fun a hF=>?_
   refine aA hF (bX hF rfl rfl rfl) rfl rfl rfl fun a hF=>?_
   refine aA hF (aH hF rfl rfl) rfl rfl rfl fun a hF=>?_
   refine aJ (aB ?_)
   have hP:=oI hP
   subst hP
   exact ⟨(g6,(IntKind.i64.wrap (d1 + 1))),rfl,t2,hF.to ⟨rfl,rfl,rfl,rfl,rfl,trivial⟩,hM⟩
  have hP:=Fx.cF i4 hP
  refine bY (bD (bD (cJ ?_)))
  refine aB ?_
  have hP:=oI hP
  subst hP
  have hP:=u3 _ rfl
  subst hP
  exact ⟨d7,rfl,i7,hF.to ⟨rfl,rfl,trivial⟩,selM hM [0,1,2,4,5] 6 rfl⟩
 rintro d6 a w hP ⟨z4,hF,hM⟩
 replace hP:Sh.rU c0 c8 c9 d0 d6 = _:=hP
 unfold Sh.rU at hP
 refine aB ?_
 refine aG ?_
 refine aD ?_
 refine aA hF (aQ qA54 qS54 hF rfl rfl (RState.len _) (hM.cells (i:=1) rfl (bA (RState.len _)))) rfl rfl rfl fun a hF=>?_
 refine bI rfl rfl (aY (vs:=_) qS54 (hM.obj (i:=2) rfl) hF rfl rfl rfl rfl (RState.len _) (RState.one _) (by first | (rw [RState.len,RState.len]; decide) | (rw [RState.len]; decide)) (bF ((RState.len _).trans (RState.len _).symm)) fun w p9=>?_)
 have hM:=hM.chg p9 (i:=2) rfl
 refine aJ (aB ?_)
 refine c_ret ?_
 replace hM:MemL _ (packR (c2 :: c1) d6 :: pt c4 (RState.enc (RState.mk c8 c9 c2 c6 c7 c0.at_ c0.steps c0.done)) 54 :: pt c3 (RState.enc (RState.mk c8 c9 c2 c6 c7 c0.at_ c0.steps c0.done)) 54 :: rowL 0 c7 3 d0 :: rowL 0 c6 23 c1 :: Lr):=hM
 obtain ⟨hM,t3⟩:=tR (selM hM [0,1,2,3,4] 5 rfl)
 replace hM:MemL _ (rowL 0 c2 5 (Fx.pk d6 0) :: (packR c1 (List.tail d6)) :: pt c4 (RState.enc (RState.mk c8 c9 c2 c6 c7 c0.at_ c0.steps c0.done)) 54 :: pt c3 (RState.enc (RState.mk c8 c9 c2 c6 c7 c0.at_ c0.steps c0.done)) 54 :: rowL 0 c7 3 d0 :: rowL 0 c6 23 c1 :: Lr):=hM
 have hP:=oI hP
 subst hP
 refine dO (rs:=[.cell 6 54]) Tryz.results137 hF (cG hF rfl qA54 qS54 (RState.len _) (hM.cells (i:=3) rfl (bA (RState.len _))) cP) rfl ?_
 exact ⟨c2,c6,c1,(packR c1 (List.tail d6)),c7,rfl,(lT t3),selM hM [0,5,1,4] 6 rfl⟩
end Go.Proofs
end
section
namespace Go.Proofs
open Go.Fw Go.Fx
set_option maxRecDepth 10000
set_option maxHeartbeats 4000000 in
theorem lF {x0:QState} {x1:QMark} {s1:SV} {s3:SV} {hs4:List SV} {s7:SV} {s9:SV} {s11:SV} {s13:SV} {hs14:List RPiece} {s17:SV} {out:Int} {w0:World} {Bf:World → Prop} {Lr:List Res} (hP:Sh.kT x0 x1 = some out) (hM:MemL w0 (Lr)) (hsub:∀ w,MemL w Lr → Bf w) (f2:LIn Bf s1 x0.ctx) (f5:LIn Bf s3 hs4) (q6:Each (LIn (X:=UInt8) Bf) hs4 x0.tables) (f8:LIn Bf s7 x0.sent) (f10:LIn Bf s9 x1.regs) (f12:LIn Bf s11 x1.slots) (f15:LIn Bf s13 hs14) (q16:Each (QPieceIn Bf) hs14 x1.pieces) (f18:LIn Bf s17 x1.sent):Calls Tryz.prog 125 #[.agg (RState.enc (mSt x0 s1 s3 s7)).toArray,.agg (RMark.enc (mMk x1 s9 s11 s13 s17)).toArray] w0 (Ret fun v w'=>v = .int .i64 out ∧ MemL w' (Lr)):=by
 unfold Sh.kT at hP
 refine aR (vs:=[.agg (RState.enc (mSt x0 s1 s3 s7)).toArray,.agg (RMark.enc (mMk x1 s9 s11 s13 s17)).toArray]) Tryz.func125 rfl Tryz.ntmps125 rfl fun a hF=>?_
 refine aG ?_
 refine aD ?_
 refine aO hF rfl rfl rfl (dA hF rfl rfl rfl fun c0 w c4 c2=>?_)
 have hM:=hM.plus c2
 intro a hF
 refine aO hF rfl rfl rfl (dA hF rfl rfl rfl fun c1 w c5 c3=>?_)
 have hM:=hM.plus c3
 replace hM:MemL _ (pt c1 (RMark.enc (mMk x1 s9 s11 s13 s17)) 60 :: pt c0 (RState.enc (mSt x0 s1 s3 s7)) 54 :: Lr):=hM
 intro a hF
 refine aA hF (aH hF rfl rfl) rfl rfl rfl fun a hF=>?_
 refine aJ (aB ?_)
 refine aG ?_
 refine aT ?_
 refine aG ?_
 refine aD ?_
 refine aA hF (aQ qA54 qS54 hF rfl rfl (RState.len _) (hM.cells (i:=1) rfl (bA (RState.len _)))) rfl rfl rfl fun a hF=>?_
 obtain ⟨y38,hy38,hP⟩:=bind_some hP
 refine aO hF rfl rfl rfl (aN (xs:=[.tmp 6]) Tryz.call82 hF rfl rfl (gF hy38 hM (Bf:=Bf) (fun w hM=>hsub _ (dropM hM 2)) f2 f5 q6 f8) fun v w hR=>?_)
 obtain ⟨rfl,hM⟩:=hR
 replace hM:MemL _ (pt c1 (RMark.enc (mMk x1 s9 s11 s13 s17)) 60 :: pt c0 (RState.enc (mSt x0 s1 s3 s7)) 54 :: Lr):=hM
 intro a hF
 refine aA hF (dE hF rfl rfl) rfl rfl rfl fun a hF=>?_
 refine aA hF (aH hF rfl rfl) rfl rfl rfl fun a hF=>?_
 refine aJ (aB ?_)
 refine aV hF (c:=.tmp 5) rfl (fun hb39=>?_) (fun hb39=>?_)
 ·have hP:=Fx.cT hb39 hP
  refine aG ?_
  refine aD ?_
  refine aA hF (aH hF rfl rfl) rfl rfl rfl fun a hF=>?_
  refine aJ (aB ?_)
  refine c_ret ?_
  have hP:=oI hP
  subst hP
  refine bH Tryz.results125 hF rfl ?_
  exact ⟨rfl,selM hM [] 2 rfl⟩
 have hP:=Fx.cF hb39 hP
 refine aG ?_
 refine aD ?_
 refine aA hF (aQ qA60 qS60 hF rfl rfl (RMark.len _) (hM.cells (i:=0) rfl (bA (RMark.len _)))) rfl rfl rfl fun a hF=>?_
 obtain ⟨y41,hy41,hP⟩:=bind_some hP
 refine aO hF rfl rfl rfl (aN (xs:=[.tmp 10]) Tryz.call173 hF rfl rfl (jB hy41 hM (Bf:=Bf) (fun w hM=>hsub _ (dropM hM 2)) f10 f12 f15 q16 f18) fun v w hR=>?_)
 obtain ⟨rfl,hM⟩:=hR
 replace hM:MemL _ (pt c1 (RMark.enc (mMk x1 s9 s11 s13 s17)) 60 :: pt c0 (RState.enc (mSt x0 s1 s3 s7)) 54 :: Lr):=hM
 intro a hF
 refine aA hF (dE hF rfl rfl) rfl rfl rfl fun a hF=>?_
 refine aA hF (aH hF rfl rfl) rfl rfl rfl fun a hF=>?_
 refine aJ (aB ?_)
 refine aV hF (c:=.tmp 9) rfl (fun hb42=>?_) (fun hb42=>?_)
 ·have hP:=Fx.cT hb42 hP
  refine aG ?_
  refine aD ?_
  refine aA hF (aH hF rfl rfl) rfl rfl rfl fun a hF=>?_
  refine aJ (aB ?_)
  refine c_ret ?_
  have hP:=oI hP
  subst hP
  refine bH Tryz.results125 hF rfl ?_
  exact ⟨rfl,selM hM [] 2 rfl⟩
 have hP:=Fx.cF hb42 hP
 refine aW (bK (aB ?_))
 refine aG ?_
 refine aD ?_
 refine aA hF (aH hF rfl rfl) rfl rfl rfl fun a hF=>?_
 refine aJ (aB ?_)
 refine c_ret ?_
 have hP:=oI hP
 subst hP
 refine bH Tryz.results125 hF rfl ?_
 exact ⟨rfl,selM hM [] 2 rfl⟩
set_option maxHeartbeats 4000000 in
theorem jA {x0:QState} {x1:QMark} {s1:SV} {s3:SV} {hs4:List SV} {s7:SV} {s9:SV} {s11:SV} {s13:SV} {hs14:List RPiece} {s17:SV} {out:(QState × Int)} {w0:World} {Bf:World → Prop} {Lr:List Res} (hP:Sh.eD x0 x1 = some out) (hM:MemL w0 (Lr)) (hsub:∀ w,MemL w Lr → Bf w) (f2:LIn Bf s1 x0.ctx) (f5:LIn Bf s3 hs4) (q6:Each (LIn (X:=UInt8) Bf) hs4 x0.tables) (f8:LIn Bf s7 x0.sent) (f10:LIn Bf s9 x1.regs) (f12:LIn Bf s11 x1.slots) (f15:LIn Bf s13 hs14) (q16:Each (QPieceIn Bf) hs14 x1.pieces) (f18:LIn Bf s17 x1.sent):Calls Tryz.prog 52 #[.agg (RState.enc (mSt x0 s1 s3 s7)).toArray,.agg (RMark.enc (mMk x1 s9 s11 s13 s17)).toArray] w0 (Ret fun v w'=>∃ (s75:SV) (s77:SV) (hs78:List SV) (r80:Res) (s82:SV),v = .tuple #[.agg (RState.enc (mSt out.1 s75 s77 s82)).toArray,.int .i64 out.2] ∧ Each (LIn (X:=UInt8) r80.holds') hs78 out.1.tables ∧ MemL w' (rowL 0 s75 5 out.1.ctx :: rowL 0 s77 23 hs78 :: r80 :: rowL 0 s82 3 out.1.sent :: Lr)):=by
 unfold Sh.eD at hP
 refine aR (vs:=[.agg (RState.enc (mSt x0 s1 s3 s7)).toArray,.agg (RMark.enc (mMk x1 s9 s11 s13 s17)).toArray]) Tryz.func52 rfl Tryz.ntmps52 rfl fun a hF=>?_
 refine aG ?_
 refine aD ?_
 refine aO hF rfl rfl rfl (dA hF rfl rfl rfl fun c1 w i2 d5=>?_)
 have hM:=hM.plus d5
 intro a hF
 refine aO hF rfl rfl rfl (dA hF rfl rfl rfl fun c2 w i3 d6=>?_)
 have hM:=hM.plus d6
 intro a hF
 refine aO hF rfl rfl rfl (bO z54 (zs:=RState.zero.enc) rfl rfl fun c3 w i4 d7=>?_)
 have hM:=hM.plus d7
 replace hM:MemL _ (pt c3 (RState.enc zSt) 54 :: pt c2 (RMark.enc (mMk x1 s9 s11 s13 s17)) 60 :: pt c1 (RState.enc (mSt x0 s1 s3 s7)) 54 :: Lr):=hM
 intro a hF
 refine aA hF (aH hF rfl rfl) rfl rfl rfl fun a hF=>?_
 refine aJ (aB ?_)
 refine aG ?_
 refine aG ?_
 refine aD ?_
 refine aA hF (aQ qA54 qS54 hF rfl rfl (RState.len _) (hM.cells (i:=2) rfl (bA (RState.len _)))) rfl rfl rfl fun a hF=>?_
 refine aA hF (aQ qA60 qS60 hF rfl rfl (RMark.len _) (hM.cells (i:=1) rfl (bA (RMark.len _)))) rfl rfl rfl fun a hF=>?_
 obtain ⟨y89,hy89,hP⟩:=bind_some hP
 refine aO hF rfl rfl rfl (aN (xs:=[.tmp 7,.tmp 8]) Tryz.call125 hF rfl rfl (lF hy89 hM (Bf:=Bf) (fun w hM=>hsub _ (dropM hM 3)) f2 f5 q6 f8 f10 f12 f15 q16 f18) fun v w hR=>?_)
 obtain ⟨rfl,hM⟩:=hR
 replace hM:MemL _ (pt c3 (RState.enc zSt) 54 :: pt c2 (RMark.enc (mMk x1 s9 s11 s13 s17)) 60 :: pt c1 (RState.enc (mSt x0 s1 s3 s7)) 54 :: Lr):=hM
 intro a hF
 refine aA hF (aH hF rfl rfl) rfl rfl rfl fun a hF=>?_
 refine aJ (aB ?_)
 refine aG ?_
 refine aD ?_
 refine aA hF (aF hF rfl rfl) rfl rfl rfl fun a hF=>?_
 refine aA hF (dC hF rfl rfl rfl) rfl rfl rfl fun a hF=>?_
 refine aJ (aB ?_)
 refine aV hF (c:=.tmp 11) rfl (fun hb90=>?_) (fun hb90=>?_)
 ·have hP:=Fx.cT hb90 hP
  refine aG ?_
  refine aD ?_
  refine aA hF (cE z54 qU54 pl54 hF (parts:=[]) rfl rfl cX) rfl rfl rfl fun a hF=>?_
  refine aA hF (aF hF rfl rfl) rfl rfl rfl fun a hF=>?_
  refine bI rfl rfl (aY (vs:=_) qS54 (hM.obj (i:=0) rfl) hF rfl rfl rfl rfl (RState.len _) (RState.one _) (by first | (rw [RState.len,RState.len]; decide) | (rw [RState.len]; decide)) (bF ((RState.len _).trans (RState.len _).symm)) fun w hU91=>?_)
  have hM:=hM.chg hU91 (i:=0) rfl
  replace hM:MemL _ (pt c3 (RState.enc zSt) 54 :: pt c2 (RMark.enc (mMk x1 s9 s11 s13 s17)) 60 :: pt c1 (RState.enc (mSt x0 s1 s3 s7)) 54 :: Lr):=hM
  refine aA hF (aH hF rfl rfl) rfl rfl rfl fun a hF=>?_
  refine aJ (aB ?_)
  refine c_ret ?_
  have hM:=hM.rowNil (X:=UInt8) 0 5
  obtain ⟨r94,hM⟩:=voidM hM
  have q95:Each (LIn (X:=UInt8) r94.holds') ([]:List SV) ([]:List (List UInt8)):=Each.nil
  have hM:=hM.rowNil (X:=SV) 0 23
  have hM:=hM.rowNil (X:=Int) 0 3
  have hP:=oI hP
  subst hP
  refine dO (rs:=[.cell 4 54,.tmp 5]) Tryz.results52 hF (cG hF rfl qA54 qS54 (RState.len _) (hM.cells (i:=4) rfl (bA (RState.len _))) (cR hF rfl cP)) rfl ?_
  exact ⟨SV.nil,SV.nil,[],r94,SV.nil,rfl,q95,selM hM [3,1,2,0] 7 rfl⟩
 have hP:=Fx.cF hb90 hP
 refine aW (aB ?_)
 refine aG ?_
 refine aG ?_
 refine aU hF hM hP (fun F x a w=>match x with | d3=>Fr 45 [(26,.bool d3),(2,.pointer (some ⟨c1,0,none⟩)),(3,.pointer (some ⟨c2,0,none⟩)),(4,.pointer (some ⟨c3,0,none⟩)),(5,.int .i64 0)] a ∧ MemL w (pt c3 (RState.enc zSt) 54 :: pt c2 (RMark.enc (mMk x1 s9 s11 s13 s17)) 60 :: pt c1 (RState.enc (mSt x0 s1 s3 s7)) 54 :: Lr)) (fun i6 hP i5 hF hM=>?_) ?_
 ·refine aD ?_
  refine aA hF (aC (off':=465) qU54 rfl in4 rfl hF rfl rfl rfl) rfl rfl rfl fun a hF=>?_
  refine aA hF (aI qA4 hF rfl rfl (hM.cell (i:=2) rfl (RState.g_done _))) rfl rfl rfl fun a hF=>?_
  refine aA hF (aF hF rfl rfl) rfl rfl rfl fun a hF=>?_
  refine bE 16 hF rfl (fun c7=>?_) (fun c7=>?_)
  ·have hP:=Fx.cT c7 hP
   refine aE hF rfl rfl rfl c7 rfl rfl fun a hF=>?_
   refine aE hF rfl rfl rfl c7 rfl rfl fun a hF=>?_
   refine aE hF rfl rfl rfl c7 rfl rfl fun a hF=>?_
   refine aA hF (aP hF rfl rfl c7 rfl) rfl rfl rfl fun a hF=>?_
   refine aA hF (aF hF rfl rfl) rfl rfl rfl fun a hF=>?_
   refine aE hF rfl rfl rfl rfl rfl rfl fun a hF=>?_
   refine aE hF rfl rfl rfl rfl rfl rfl fun a hF=>?_
   refine aE hF rfl rfl rfl rfl rfl rfl fun a hF=>?_
   refine aE hF rfl rfl rfl rfl rfl rfl fun a hF=>?_
   refine aA hF (aP hF rfl rfl rfl rfl) rfl rfl rfl fun a hF=>?_
   refine aJ (aB ?_)
   have hP:=oI hP
   subst hP
   exact ⟨true,rfl,hF.to ⟨rfl,rfl,rfl,rfl,rfl,trivial⟩,hM⟩
  have hP:=Fx.cF c7 hP
  refine aL hF rfl rfl rfl c7 (aC (off':=464) qU54 rfl in3 rfl hF rfl rfl rfl) rfl rfl fun a hF=>?_
  refine aL hF rfl rfl rfl c7 (aI qA3 hF rfl rfl (hM.cell (i:=2) rfl (RState.g_steps _))) rfl rfl fun a hF=>?_
  refine aL hF rfl rfl rfl c7 (dF hF rfl rfl rfl) rfl rfl fun a hF=>?_
  refine aA hF (aX hF rfl rfl c7 rfl) rfl rfl rfl fun a hF=>?_
  refine aA hF (aF hF rfl rfl) rfl rfl rfl fun a hF=>?_
  refine bE 21 hF rfl (fun c4=>?_) (fun c4=>?_)
  ·have hP:=Fx.cT c4 hP
   refine aE hF rfl rfl rfl c4 rfl rfl fun a hF=>?_
   refine aE hF rfl rfl rfl c4 rfl rfl fun a hF=>?_
   refine aE hF rfl rfl rfl c4 rfl rfl fun a hF=>?_
   refine aE hF rfl rfl rfl c4 rfl rfl fun a hF=>?_
   refine aA hF (aP hF rfl rfl c4 rfl) rfl rfl rfl fun a hF=>?_
   refine aJ (aB ?_)
   have hP:=oI hP
   subst hP
   exact ⟨true,rfl,hF.to ⟨rfl,rfl,rfl,rfl,rfl,trivial⟩,hM⟩
  have hP:=Fx.cF c4 hP
  refine aL hF rfl rfl rfl c4 (aQ qA54 qS54 hF rfl rfl (RState.len _) (hM.cells (i:=2) rfl (bA (RState.len _)))) rfl rfl fun a hF=>?_
  refine aL hF rfl rfl rfl c4 (aQ qA60 qS60 hF rfl rfl (RMark.len _) (hM.cells (i:=1) rfl (bA (RMark.len _)))) rfl rfl fun a hF=>?_
  obtain ⟨i1,g7,hP⟩:=bind_some hP
  refine dV hF rfl rfl rfl c4 rfl rfl (aN (xs:=[.tmp 22,.tmp 23]) Tryz.call126 hF rfl rfl (mD g7 hM (Bf:=Bf) (fun w hM=>hsub _ (dropM hM 3)) f2 f5 q6 f8 f10 f12 f15 q16 f18) fun v w hR=>?_)
  obtain ⟨rfl,hM⟩:=hR
  replace hM:MemL _ (pt c3 (RState.enc zSt) 54 :: pt c2 (RMark.enc (mMk x1 s9 s11 s13 s17)) 60 :: pt c1 (RState.enc (mSt x0 s1 s3 s7)) 54 :: Lr):=hM
  intro a hF
  refine aL hF rfl rfl rfl c4 (dE hF rfl rfl) rfl rfl fun a hF=>?_
  refine aA hF (aX hF rfl rfl c4 rfl) rfl rfl rfl fun a hF=>?_
  refine aJ (aB ?_)
  have hP:=oI hP
  subst hP
  exact ⟨(!i1),rfl,hF.to ⟨rfl,rfl,rfl,rfl,rfl,trivial⟩,hM⟩
 rintro d3 a w hP ⟨hF,hM⟩
 replace hP:Sh.pU x0 x1 d3 = _:=hP
 unfold Sh.pU at hP
 refine aB ?_
 refine aV hF (c:=.tmp 26) rfl (fun d2=>?_) (fun d2=>?_)
 ·have hP:=Fx.cT d2 hP
  refine aG ?_
  refine aD ?_
  refine aA hF (cE z54 qU54 pl54 hF (parts:=[]) rfl rfl cX) rfl rfl rfl fun a hF=>?_
  refine bI rfl rfl (aY (vs:=_) qS54 (hM.obj (i:=0) rfl) hF rfl rfl rfl rfl (RState.len _) (RState.one _) (by first | (rw [RState.len,RState.len]; decide) | (rw [RState.len]; decide)) (bF ((RState.len _).trans (RState.len _).symm)) fun w g0=>?_)
  have hM:=hM.chg g0 (i:=0) rfl
  replace hM:MemL _ (pt c3 (RState.enc zSt) 54 :: pt c2 (RMark.enc (mMk x1 s9 s11 s13 s17)) 60 :: pt c1 (RState.enc (mSt x0 s1 s3 s7)) 54 :: Lr):=hM
  refine aA hF (aH hF rfl rfl) rfl rfl rfl fun a hF=>?_
  refine aJ (aB ?_)
  refine c_ret ?_
  have hM:=hM.rowNil (X:=UInt8) 0 5
  obtain ⟨d9,hM⟩:=voidM hM
  have g9:Each (LIn (X:=UInt8) d9.holds') ([]:List SV) ([]:List (List UInt8)):=Each.nil
  have hM:=hM.rowNil (X:=SV) 0 23
  have hM:=hM.rowNil (X:=Int) 0 3
  have hP:=oI hP
  subst hP
  refine dO (rs:=[.cell 4 54,.tmp 5]) Tryz.results52 hF (cG hF rfl qA54 qS54 (RState.len _) (hM.cells (i:=4) rfl (bA (RState.len _))) (cR hF rfl cP)) rfl ?_
  exact ⟨SV.nil,SV.nil,[],d9,SV.nil,rfl,g9,selM hM [3,1,2,0] 7 rfl⟩
 have hP:=Fx.cF d2 hP
 refine aW (aB ?_)
 refine aG ?_
 refine aD ?_
 refine aA hF (aQ qA54 qS54 hF rfl rfl (RState.len _) (hM.cells (i:=2) rfl (bA (RState.len _)))) rfl rfl rfl fun a hF=>?_
 refine aA hF (aQ qA60 qS60 hF rfl rfl (RMark.len _) (hM.cells (i:=1) rfl (bA (RMark.len _)))) rfl rfl rfl fun a hF=>?_
 obtain ⟨c0,g8,hP⟩:=bind_some hP
 refine aO hF rfl rfl rfl (aN (xs:=[.tmp 28,.tmp 29]) Tryz.call127 hF rfl rfl (kV g8 hM (Bf:=Bf) (fun w hM=>hsub _ (dropM hM 3)) f2 f5 q6 f8 f10 f12 f15 q16 f18) fun v w hR=>?_)
 obtain ⟨c5,c6,c8,c9,d0,rfl,i0,hM⟩:=hR
 replace hM:MemL _ (rowL 0 c5 5 c0.ctx :: rowL 0 c6 23 c8 :: c9 :: rowL 0 d0 3 c0.sent :: pt c3 (RState.enc zSt) 54 :: pt c2 (RMark.enc (mMk x1 s9 s11 s13 s17)) 60 :: pt c1 (RState.enc (mSt x0 s1 s3 s7)) 54 :: Lr):=hM
 intro a hF
 refine bI rfl rfl (aY (vs:=_) qS54 (hM.obj (i:=6) rfl) hF rfl rfl rfl rfl (RState.len _) (RState.one _) (by first | (rw [RState.len,RState.len]; decide) | (rw [RState.len]; decide)) (bF ((RState.len _).trans (RState.len _).symm)) fun w g1=>?_)
 have hM:=hM.chg g1 (i:=6) rfl
 replace hM:MemL _ (rowL 0 c5 5 c0.ctx :: rowL 0 c6 23 c8 :: c9 :: rowL 0 d0 3 c0.sent :: pt c3 (RState.enc zSt) 54 :: pt c2 (RMark.enc (mMk x1 s9 s11 s13 s17)) 60 :: pt c1 (RState.enc (mSt c0 c5 c6 d0)) 54 :: Lr):=hM
 refine aJ (aB ?_)
 refine aG ?_
 refine aD ?_
 refine aA hF (aC (off':=2) qU60 rfl in4 rfl hF rfl rfl rfl) rfl rfl rfl fun a hF=>?_
 refine aA hF (aI qA4 hF rfl rfl (hM.cell (i:=5) rfl (RMark.g_done _))) rfl rfl rfl fun a hF=>?_
 refine aA hF (aC (off':=465) qU54 rfl in4 rfl hF rfl rfl rfl) rfl rfl rfl fun a hF=>?_
 refine bI rfl rfl (bS qS4 (hM.obj (i:=6) rfl) hF rfl rfl rfl rfl (by rw [RState.len]; decide) (RState.s_done _ _) fun w g2=>?_)
 have hM:=hM.chg g2 (i:=6) rfl
 replace hM:MemL _ (rowL 0 c5 5 c0.ctx :: rowL 0 c6 23 c8 :: c9 :: rowL 0 d0 3 c0.sent :: pt c3 (RState.enc zSt) 54 :: pt c2 (RMark.enc (mMk x1 s9 s11 s13 s17)) 60 :: pt c1 (RState.enc (RState.mk c0.regs c0.stack c5 c6 d0 c0.at_ c0.steps x1.done)) 54 :: Lr):=hM
 refine aJ (aB ?_)
 refine aG ?_
 refine aD ?_
 refine aA hF (aC (off':=464) qU54 rfl in3 rfl hF rfl rfl rfl) rfl rfl rfl fun a hF=>?_
 refine aA hF (aI qA3 hF rfl rfl (hM.cell (i:=6) rfl (RState.g_steps _))) rfl rfl rfl fun a hF=>?_
 refine aA hF (bX hF rfl rfl rfl) rfl rfl rfl fun a hF=>?_
 refine aA hF (aC (off':=464) qU54 rfl in3 rfl hF rfl rfl rfl) rfl rfl rfl fun a hF=>?_
 refine bI rfl rfl (bS qS3 (hM.obj (i:=6) rfl) hF rfl rfl rfl rfl (by rw [RState.len]; decide) (RState.s_steps _ _) fun w g3=>?_)
 have hM:=hM.chg g3 (i:=6) rfl
 replace hM:MemL _ (rowL 0 c5 5 c0.ctx :: rowL 0 c6 23 c8 :: c9 :: rowL 0 d0 3 c0.sent :: pt c3 (RState.enc zSt) 54 :: pt c2 (RMark.enc (mMk x1 s9 s11 s13 s17)) 60 :: pt c1 (RState.enc (RState.mk c0.regs c0.stack c5 c6 d0 c0.at_ (IntKind.i64.wrap (c0.steps + 1)) x1.done)) 54 :: Lr):=hM
 refine aJ (aB ?_)
 refine aG ?_
 refine aD ?_
 refine aA hF (aC (off':=462) qU54 rfl in52 rfl hF rfl rfl rfl) rfl rfl rfl fun a hF=>?_
 refine aA hF (aI qA52 hF rfl rfl (hM.cell (i:=6) rfl (RState.g_sent _))) rfl rfl rfl fun a hF=>?_
 refine aA hF (aC (off':=6) qU60 rfl in52 rfl hF rfl rfl rfl) rfl rfl rfl fun a hF=>?_
 refine aA hF (aI qA52 hF rfl rfl (hM.cell (i:=5) rfl (RMark.g_sent _))) rfl rfl rfl fun a hF=>?_
 obtain ⟨d4,g6,hP⟩:=bind_some hP
 refine aO hF rfl rfl rfl (cY (X:=Int) g6 qU52 in3 rfl rfl rfl rfl hF rfl rfl rfl (hM.own (X:=Int) (i:=3) rfl) (f18 _ (hsub _ (dropM hM 7))) fun d1 w d8=>?_)
 have hM:=hM.chg d8 (i:=3) rfl
 replace hM:MemL _ (rowL 0 c5 5 c0.ctx :: rowL 0 c6 23 c8 :: c9 :: rowL 0 d1 3 d4 :: pt c3 (RState.enc zSt) 54 :: pt c2 (RMark.enc (mMk x1 s9 s11 s13 s17)) 60 :: pt c1 (RState.enc (RState.mk c0.regs c0.stack c5 c6 d0 c0.at_ (IntKind.i64.wrap (c0.steps + 1)) x1.done)) 54 :: Lr):=hM
 intro a hF
 refine aA hF (aC (off':=462) qU54 rfl in52 rfl hF rfl rfl rfl) rfl rfl rfl fun a hF=>?_
 refine bI rfl rfl (bS qS52 (hM.obj (i:=6) rfl) hF rfl rfl rfl rfl (by rw [RState.len]; decide) (RState.s_sent _ _) fun w g4=>?_)
 have hM:=hM.chg g4 (i:=6) rfl
 replace hM:MemL _ (rowL 0 c5 5 c0.ctx :: rowL 0 c6 23 c8 :: c9 :: rowL 0 d1 3 d4 :: pt c3 (RState.enc zSt) 54 :: pt c2 (RMark.enc (mMk x1 s9 s11 s13 s17)) 60 :: pt c1 (RState.enc (RState.mk c0.regs c0.stack c5 c6 d1 c0.at_ (IntKind.i64.wrap (c0.steps + 1)) x1.done)) 54 :: Lr):=hM
 refine aJ (aB ?_)
 refine aG ?_
 refine aD ?_
 refine aA hF (aQ qA54 qS54 hF rfl rfl (RState.len _) (hM.cells (i:=6) rfl (bA (RState.len _)))) rfl rfl rfl fun a hF=>?_
 refine bI rfl rfl (aY (vs:=_) qS54 (hM.obj (i:=4) rfl) hF rfl rfl rfl rfl (RState.len _) (RState.one _) (by first | (rw [RState.len,RState.len]; decide) | (rw [RState.len]; decide)) (bF ((RState.len _).trans (RState.len _).symm)) fun w g5=>?_)
 have hM:=hM.chg g5 (i:=4) rfl
 replace hM:MemL _ (rowL 0 c5 5 c0.ctx :: rowL 0 c6 23 c8 :: c9 :: rowL 0 d1 3 d4 :: pt c3 (RState.enc (RState.mk c0.regs c0.stack c5 c6 d1 c0.at_ (IntKind.i64.wrap (c0.steps + 1)) x1.done)) 54 :: pt c2 (RMark.enc (mMk x1 s9 s11 s13 s17)) 60 :: pt c1 (RState.enc (RState.mk c0.regs c0.stack c5 c6 d1 c0.at_ (IntKind.i64.wrap (c0.steps + 1)) x1.done)) 54 :: Lr):=hM
 refine aA hF (aH hF rfl rfl) rfl rfl rfl fun a hF=>?_
 refine aJ (aB ?_)
 refine c_ret ?_
 have hP:=oI hP
 subst hP
 refine dO (rs:=[.cell 4 54,.tmp 5]) Tryz.results52 hF (cG hF rfl qA54 qS54 (RState.len _) (hM.cells (i:=4) rfl (bA (RState.len _))) (cR hF rfl cP)) rfl ?_
 exact ⟨c5,c6,c8,c9,d1,rfl,i0,selM hM [0,1,2,3] 7 rfl⟩
set_option maxHeartbeats 4000000 in
theorem jN {x0:QState} {x1:QMark} {s1:SV} {s3:SV} {hs4:List SV} {s7:SV} {s9:SV} {s11:SV} {s13:SV} {hs14:List RPiece} {s17:SV} {out:(QState × Int)} {w0:World} {Bf:World → Prop} {Lr:List Res} (hP:Sh.eN x0 x1 = some out) (hM:MemL w0 (Lr)) (hsub:∀ w,MemL w Lr → Bf w) (f2:LIn Bf s1 x0.ctx) (f5:LIn Bf s3 hs4) (q6:Each (LIn (X:=UInt8) Bf) hs4 x0.tables) (f8:LIn Bf s7 x0.sent) (f10:LIn Bf s9 x1.regs) (f12:LIn Bf s11 x1.slots) (f15:LIn Bf s13 hs14) (q16:Each (QPieceIn Bf) hs14 x1.pieces) (f18:LIn Bf s17 x1.sent):Calls Tryz.prog 60 #[.agg (RState.enc (mSt x0 s1 s3 s7)).toArray,.agg (RMark.enc (mMk x1 s9 s11 s13 s17)).toArray] w0 (Ret fun v w'=>∃ (j5:SV) (j6:SV) (i7:List SV) (j2:Res) (j7:SV),v = .tuple #[.agg (RState.enc (mSt out.1 j5 j6 j7)).toArray,.int .i64 out.2] ∧ Each (LIn (X:=UInt8) j2.holds') i7 out.1.tables ∧ MemL w' (rowL 0 j5 5 out.1.ctx :: rowL 0 j6 23 i7 :: j2 :: rowL 0 j7 3 out.1.sent :: Lr)):=by
 unfold Sh.eN at hP
 refine aR (vs:=[.agg (RState.enc (mSt x0 s1 s3 s7)).toArray,.agg (RMark.enc (mMk x1 s9 s11 s13 s17)).toArray]) Tryz.func60 rfl Tryz.ntmps60 rfl fun a hF=>?_
 refine aG ?_
 refine aD ?_
 refine aO hF rfl rfl rfl (dA hF rfl rfl rfl fun c2 w m8 k1=>?_)
 have hM:=hM.plus k1
 intro a hF
 refine aO hF rfl rfl rfl (dA hF rfl rfl rfl fun c3 w m9 k2=>?_)
 have hM:=hM.plus k2
 intro a hF
 refine aO hF rfl rfl rfl (bO z54 (zs:=RState.zero.enc) rfl rfl fun c4 w n0 k3=>?_)
 have hM:=hM.plus k3
 replace hM:MemL _ (pt c4 (RState.enc zSt) 54 :: pt c3 (RMark.enc (mMk x1 s9 s11 s13 s17)) 60 :: pt c2 (RState.enc (mSt x0 s1 s3 s7)) 54 :: Lr):=hM
 intro a hF
 refine aA hF (aH hF rfl rfl) rfl rfl rfl fun a hF=>?_
 refine aJ (aB ?_)
 refine aG ?_
 refine aG ?_
 refine aD ?_
 refine aA hF (aQ qA54 qS54 hF rfl rfl (RState.len _) (hM.cells (i:=2) rfl (bA (RState.len _)))) rfl rfl rfl fun a hF=>?_
 refine aA hF (aQ qA60 qS60 hF rfl rfl (RMark.len _) (hM.cells (i:=1) rfl (bA (RMark.len _)))) rfl rfl rfl fun a hF=>?_
 obtain ⟨n6,l3,hP⟩:=bind_some hP
 refine aO hF rfl rfl rfl (aN (xs:=[.tmp 9,.tmp 10]) Tryz.call125 hF rfl rfl (lF l3 hM (Bf:=Bf) (fun w hM=>hsub _ (dropM hM 3)) f2 f5 q6 f8 f10 f12 f15 q16 f18) fun v w hR=>?_)
 obtain ⟨rfl,hM⟩:=hR
 replace hM:MemL _ (pt c4 (RState.enc zSt) 54 :: pt c3 (RMark.enc (mMk x1 s9 s11 s13 s17)) 60 :: pt c2 (RState.enc (mSt x0 s1 s3 s7)) 54 :: Lr):=hM
 intro a hF
 refine aA hF (aH hF rfl rfl) rfl rfl rfl fun a hF=>?_
 refine aJ (aB ?_)
 refine aG ?_
 refine aD ?_
 refine aA hF (aF hF rfl rfl) rfl rfl rfl fun a hF=>?_
 refine aA hF (dC hF rfl rfl rfl) rfl rfl rfl fun a hF=>?_
 refine aJ (aB ?_)
 refine aV hF (c:=.tmp 13) rfl (fun g9=>?_) (fun g9=>?_)
 ·have hP:=Fx.cT g9 hP
  refine aG ?_
  refine aD ?_
  refine aA hF (cE z54 qU54 pl54 hF (parts:=[]) rfl rfl cX) rfl rfl rfl fun a hF=>?_
  refine aA hF (aF hF rfl rfl) rfl rfl rfl fun a hF=>?_
  refine bI rfl rfl (aY (vs:=_) qS54 (hM.obj (i:=0) rfl) hF rfl rfl rfl rfl (RState.len _) (RState.one _) (by first | (rw [RState.len,RState.len]; decide) | (rw [RState.len]; decide)) (bF ((RState.len _).trans (RState.len _).symm)) fun w k5=>?_)
  have hM:=hM.chg k5 (i:=0) rfl
  replace hM:MemL _ (pt c4 (RState.enc zSt) 54 :: pt c3 (RMark.enc (mMk x1 s9 s11 s13 s17)) 60 :: pt c2 (RState.enc (mSt x0 s1 s3 s7)) 54 :: Lr):=hM
  refine aA hF (aH hF rfl rfl) rfl rfl rfl fun a hF=>?_
  refine aJ (aB ?_)
  refine c_ret ?_
  have hM:=hM.rowNil (X:=UInt8) 0 5
  obtain ⟨j3,hM⟩:=voidM hM
  have m1:Each (LIn (X:=UInt8) j3.holds') ([]:List SV) ([]:List (List UInt8)):=Each.nil
  have hM:=hM.rowNil (X:=SV) 0 23
  have hM:=hM.rowNil (X:=Int) 0 3
  have hP:=oI hP
  subst hP
  refine dO (rs:=[.cell 4 54,.tmp 5]) Tryz.results60 hF (cG hF rfl qA54 qS54 (RState.len _) (hM.cells (i:=4) rfl (bA (RState.len _))) (cR hF rfl cP)) rfl ?_
  exact ⟨SV.nil,SV.nil,[],j3,SV.nil,rfl,m1,selM hM [3,1,2,0] 7 rfl⟩
 have hP:=Fx.cF g9 hP
 refine aW (aB ?_)
 refine aG ?_
 refine aD ?_
 refine aA hF (aC (off':=462) qU54 rfl in52 rfl hF rfl rfl rfl) rfl rfl rfl fun a hF=>?_
 refine aA hF (aI qA52 hF rfl rfl (hM.cell (i:=2) rfl (RState.g_sent _))) rfl rfl rfl fun a hF=>?_
 refine aA hF (bM (f8 _ (hsub _ (dropM hM 3))) qU52 hF rfl rfl) rfl rfl rfl fun a hF=>?_
 refine aA hF (aC (off':=6) qU60 rfl in52 rfl hF rfl rfl rfl) rfl rfl rfl fun a hF=>?_
 refine aA hF (aI qA52 hF rfl rfl (hM.cell (i:=1) rfl (RMark.g_sent _))) rfl rfl rfl fun a hF=>?_
 refine aA hF (bM (f18 _ (hsub _ (dropM hM 3))) qU52 hF rfl rfl) rfl rfl rfl fun a hF=>?_
 refine aA hF (eV hF rfl rfl rfl) rfl rfl rfl fun a hF=>?_
 refine aA hF (aH hF rfl rfl) rfl rfl rfl fun a hF=>?_
 refine aJ (aB ?_)
 refine aG ?_
 refine aG ?_
 refine aD ?_
 refine aA hF (aQ qA60 qS60 hF rfl rfl (RMark.len _) (hM.cells (i:=1) rfl (bA (RMark.len _)))) rfl rfl rfl fun a hF=>?_
 obtain ⟨c0,l4,hP⟩:=bind_some hP
 refine aO hF rfl rfl rfl (aN (xs:=[.tmp 23]) Tryz.call132 hF rfl rfl (kX l4 hM (Bf:=Bf) (fun w hM=>hsub _ (dropM hM 3)) f10 f12 f15 q16 f18) fun v w hR=>?_)
 obtain ⟨c7,c8,c9,d1,d0,rfl,m2,hM⟩:=hR
 intro a hF
 refine aO hF rfl rfl rfl (bO z60 (zs:=RMark.zero.enc) rfl rfl fun d8 w n1 k4=>?_)
 have hM:=hM.plus k4
 replace hM:MemL _ (pt d8 (RMark.enc zMk) 60 :: rowL 0 c7 128 c0.regs :: rowL 0 c8 151 c0.slots :: rowL 0 c9 156 d1 :: rowL 0 d0 3 c0.sent :: pt c4 (RState.enc zSt) 54 :: pt c3 (RMark.enc (mMk x1 s9 s11 s13 s17)) 60 :: pt c2 (RState.enc (mSt x0 s1 s3 s7)) 54 :: Lr):=hM
 intro a hF
 refine bI rfl rfl (aY (vs:=_) qS60 (hM.obj (i:=0) rfl) hF rfl rfl rfl rfl (RMark.len _) (RMark.one _) (by first | (rw [RMark.len,RMark.len]; decide) | (rw [RMark.len]; decide)) (bF ((RMark.len _).trans (RMark.len _).symm)) fun w k6=>?_)
 have hM:=hM.chg k6 (i:=0) rfl
 replace hM:MemL _ (pt d8 (RMark.enc (mMk c0 c7 c8 c9 d0)) 60 :: rowL 0 c7 128 c0.regs :: rowL 0 c8 151 c0.slots :: rowL 0 c9 156 d1 :: rowL 0 d0 3 c0.sent :: pt c4 (RState.enc zSt) 54 :: pt c3 (RMark.enc (mMk x1 s9 s11 s13 s17)) 60 :: pt c2 (RState.enc (mSt x0 s1 s3 s7)) 54 :: Lr):=hM
 refine aJ (aB ?_)
 refine aG ?_
 refine aU hF hM hP (fun F x a w=>match x with | i4=>Fr 72 [(54,.bool i4),(2,.pointer (some ⟨c2,0,none⟩)),(3,.pointer (some ⟨c3,0,none⟩)),(4,.pointer (some ⟨c4,0,none⟩)),(5,.int .i64 0),(7,.int .i64 (IntKind.i64.wrap ((x0.sent.length:Int) - (x1.sent.length:Int))))] a ∧ MemL w (pt c4 (RState.enc zSt) 54 :: pt c3 (RMark.enc (mMk x1 s9 s11 s13 s17)) 60 :: pt c2 (RState.enc (mSt x0 s1 s3 s7)) 54 :: rowL 0 c7 128 c0.regs :: rowL 0 c8 151 c0.slots :: rowL 0 c9 156 d1 :: rowL 0 d0 3 c0.sent :: Lr)) (fun n7 hP n2 hF hM=>?_) ?_
 ·refine bL mixed (by kernel_rfl) hM [0,1,2,3,4,5,6,7] 8 rfl fun hch=>?_
  refine aK hF hch 0 rfl (by kernel_rfl) rfl rfl rfl (fun w hM=>(aC (off':=465) qU54 rfl in4 rfl hF rfl rfl rfl)) fun a hF=>?_
  refine aK hF hch 1 rfl (by kernel_rfl) rfl rfl rfl (fun w hM=>(aI qA4 hF rfl rfl (hM.cell (i:=7) rfl (RState.g_done _)))) fun a hF=>?_
  refine aK hF hch 2 rfl (by kernel_rfl) rfl rfl rfl (fun w hM=>(aC (off':=2) qU60 rfl in4 rfl hF rfl rfl rfl)) fun a hF=>?_
  refine aK hF hch 3 rfl (by kernel_rfl) rfl rfl rfl (fun w hM=>(aI qA4 hF rfl rfl (hM.cell (i:=6) rfl (RMark.g_done _)))) fun a hF=>?_
  refine aK hF hch 4 rfl (by kernel_rfl) rfl rfl rfl (fun w hM=>(aAq qU4 hF rfl rfl rfl)) fun a hF=>?_
  refine aK hF hch 5 rfl (by kernel_rfl) rfl rfl rfl (fun w hM=>(aF hF rfl rfl)) fun a hF=>?_
  refine bE 30 hF rfl (fun d5=>?_) (fun d5=>?_)
  ·have hP:=Fx.cT d5 hP
   refine aZ hF hch 6 rfl (by kernel_rfl) rfl rfl rfl d5 rfl rfl fun a hF=>?_
   refine aZ hF hch 7 rfl (by kernel_rfl) rfl rfl rfl d5 rfl rfl fun a hF=>?_
   refine aZ hF hch 8 rfl (by kernel_rfl) rfl rfl rfl d5 rfl rfl fun a hF=>?_
   refine aK hF hch 9 rfl (by kernel_rfl) rfl rfl rfl (fun w hM=>(aP hF rfl rfl d5 rfl)) fun a hF=>?_
   refine aK hF hch 10 rfl (by kernel_rfl) rfl rfl rfl (fun w hM=>(aF hF rfl rfl)) fun a hF=>?_
   refine aZ hF hch 11 rfl (by kernel_rfl) rfl rfl rfl rfl rfl rfl fun a hF=>?_
   refine aZ hF hch 12 rfl (by kernel_rfl) rfl rfl rfl rfl rfl rfl fun a hF=>?_
   refine aK hF hch 13 rfl (by kernel_rfl) rfl rfl rfl (fun w hM=>(aP hF rfl rfl rfl rfl)) fun a hF=>?_
   refine aK hF hch 14 rfl (by kernel_rfl) rfl rfl rfl (fun w hM=>(aF hF rfl rfl)) fun a hF=>?_
   refine aZ hF hch 15 rfl (by kernel_rfl) rfl rfl rfl rfl rfl rfl fun a hF=>?_
   refine aZ hF hch 16 rfl (by kernel_rfl) rfl rfl rfl rfl rfl rfl fun a hF=>?_
   refine aZ hF hch 17 rfl (by kernel_rfl) rfl rfl rfl rfl rfl rfl fun a hF=>?_
   refine aZ hF hch 18 rfl (by kernel_rfl) rfl rfl rfl rfl rfl rfl fun a hF=>?_
   refine aZ hF hch 19 rfl (by kernel_rfl) rfl rfl rfl rfl rfl rfl fun a hF=>?_
   refine aZ hF hch 20 rfl (by kernel_rfl) rfl rfl rfl rfl rfl rfl fun a hF=>?_
   refine aZ hF hch 21 rfl (by kernel_rfl) rfl rfl rfl rfl rfl rfl fun a hF=>?_
   refine aZ hF hch 22 rfl (by kernel_rfl) rfl rfl rfl rfl rfl rfl fun a hF=>?_
   refine aK hF hch 23 rfl (by kernel_rfl) rfl rfl rfl (fun w hM=>(aP hF rfl rfl rfl rfl)) fun a hF=>?_
   refine aK hF hch 24 rfl (by kernel_rfl) rfl rfl rfl (fun w hM=>(aF hF rfl rfl)) fun a hF=>?_
   refine aZ hF hch 25 rfl (by kernel_rfl) rfl rfl rfl rfl rfl rfl fun a hF=>?_
   refine aZ hF hch 26 rfl (by kernel_rfl) rfl rfl rfl rfl rfl rfl fun a hF=>?_
   refine aZ hF hch 27 rfl (by kernel_rfl) rfl rfl rfl rfl rfl rfl fun a hF=>?_
   refine aZ hF hch 28 rfl (by kernel_rfl) rfl rfl rfl rfl rfl rfl fun a hF=>?_
   refine aK hF hch 29 rfl (by kernel_rfl) rfl rfl rfl (fun w hM=>(aP hF rfl rfl rfl rfl)) fun a hF=>?_
   refine bW hch (by kernel_rfl) fun w hM=>?_
   refine aB ?_
   have hP:=oI hP
   subst hP
   exact ⟨true,rfl,hF.to ⟨rfl,rfl,rfl,rfl,rfl,rfl,trivial⟩,selM hM [5,6,7,1,2,3,4] 8 rfl⟩
  have hP:=Fx.cF d5 hP
  refine bQ hF hch 6 rfl (by kernel_rfl) rfl rfl rfl d5 rfl rfl (fun w hM=>(aC (off':=464) qU54 rfl in3 rfl hF rfl rfl rfl)) fun a hF=>?_
  refine bQ hF hch 7 rfl (by kernel_rfl) rfl rfl rfl d5 rfl rfl (fun w hM=>(aI qA3 hF rfl rfl (hM.cell (i:=7) rfl (RState.g_steps _)))) fun a hF=>?_
  refine bQ hF hch 8 rfl (by kernel_rfl) rfl rfl rfl d5 rfl rfl (fun w hM=>(dF hF rfl rfl rfl)) fun a hF=>?_
  refine aK hF hch 9 rfl (by kernel_rfl) rfl rfl rfl (fun w hM=>(aX hF rfl rfl d5 rfl)) fun a hF=>?_
  refine aK hF hch 10 rfl (by kernel_rfl) rfl rfl rfl (fun w hM=>(aF hF rfl rfl)) fun a hF=>?_
  refine bE 35 hF rfl (fun d6=>?_) (fun d6=>?_)
  ·have hP:=Fx.cT d6 hP
   refine aZ hF hch 11 rfl (by kernel_rfl) rfl rfl rfl d6 rfl rfl fun a hF=>?_
   refine aZ hF hch 12 rfl (by kernel_rfl) rfl rfl rfl d6 rfl rfl fun a hF=>?_
   refine aK hF hch 13 rfl (by kernel_rfl) rfl rfl rfl (fun w hM=>(aP hF rfl rfl d6 rfl)) fun a hF=>?_
   refine aK hF hch 14 rfl (by kernel_rfl) rfl rfl rfl (fun w hM=>(aF hF rfl rfl)) fun a hF=>?_
   refine aZ hF hch 15 rfl (by kernel_rfl) rfl rfl rfl rfl rfl rfl fun a hF=>?_
   refine aZ hF hch 16 rfl (by kernel_rfl) rfl rfl rfl rfl rfl rfl fun a hF=>?_
   refine aZ hF hch 17 rfl (by kernel_rfl) rfl rfl rfl rfl rfl rfl fun a hF=>?_
   refine aZ hF hch 18 rfl (by kernel_rfl) rfl rfl rfl rfl rfl rfl fun a hF=>?_
   refine aZ hF hch 19 rfl (by kernel_rfl) rfl rfl rfl rfl rfl rfl fun a hF=>?_
   refine aZ hF hch 20 rfl (by kernel_rfl) rfl rfl rfl rfl rfl rfl fun a hF=>?_
   refine aZ hF hch 21 rfl (by kernel_rfl) rfl rfl rfl rfl rfl rfl fun a hF=>?_
   refine aZ hF hch 22 rfl (by kernel_rfl) rfl rfl rfl rfl rfl rfl fun a hF=>?_
   refine aK hF hch 23 rfl (by kernel_rfl) rfl rfl rfl (fun w hM=>(aP hF rfl rfl rfl rfl)) fun a hF=>?_
   refine aK hF hch 24 rfl (by kernel_rfl) rfl rfl rfl (fun w hM=>(aF hF rfl rfl)) fun a hF=>?_
   refine aZ hF hch 25 rfl (by kernel_rfl) rfl rfl rfl rfl rfl rfl fun a hF=>?_
   refine aZ hF hch 26 rfl (by kernel_rfl) rfl rfl rfl rfl rfl rfl fun a hF=>?_
   refine aZ hF hch 27 rfl (by kernel_rfl) rfl rfl rfl rfl rfl rfl fun a hF=>?_
   refine aZ hF hch 28 rfl (by kernel_rfl) rfl rfl rfl rfl rfl rfl fun a hF=>?_
   refine aK hF hch 29 rfl (by kernel_rfl) rfl rfl rfl (fun w hM=>(aP hF rfl rfl rfl rfl)) fun a hF=>?_
   refine bW hch (by kernel_rfl) fun w hM=>?_
   refine aB ?_
   have hP:=oI hP
   subst hP
   exact ⟨true,rfl,hF.to ⟨rfl,rfl,rfl,rfl,rfl,rfl,trivial⟩,selM hM [5,6,7,1,2,3,4] 8 rfl⟩
  have hP:=Fx.cF d6 hP
  refine bQ hF hch 11 rfl (by kernel_rfl) rfl rfl rfl d6 rfl rfl (fun w hM=>(aF hF rfl rfl)) fun a hF=>?_
  refine bQ hF hch 12 rfl (by kernel_rfl) rfl rfl rfl d6 rfl rfl (fun w hM=>(cI hF rfl rfl rfl)) fun a hF=>?_
  refine aK hF hch 13 rfl (by kernel_rfl) rfl rfl rfl (fun w hM=>(aX hF rfl rfl d6 rfl)) fun a hF=>?_
  refine aK hF hch 14 rfl (by kernel_rfl) rfl rfl rfl (fun w hM=>(aF hF rfl rfl)) fun a hF=>?_
  refine bE 39 hF rfl (fun c5=>?_) (fun c5=>?_)
  ·have hP:=Fx.cT c5 hP
   refine aZ hF hch 15 rfl (by kernel_rfl) rfl rfl rfl c5 rfl rfl fun a hF=>?_
   refine aZ hF hch 16 rfl (by kernel_rfl) rfl rfl rfl c5 rfl rfl fun a hF=>?_
   refine aZ hF hch 17 rfl (by kernel_rfl) rfl rfl rfl c5 rfl rfl fun a hF=>?_
   refine aZ hF hch 18 rfl (by kernel_rfl) rfl rfl rfl c5 rfl rfl fun a hF=>?_
   refine aZ hF hch 19 rfl (by kernel_rfl) rfl rfl rfl c5 rfl rfl fun a hF=>?_
   refine aZ hF hch 20 rfl (by kernel_rfl) rfl rfl rfl c5 rfl rfl fun a hF=>?_
   refine aZ hF hch 21 rfl (by kernel_rfl) rfl rfl rfl c5 rfl rfl fun a hF=>?_
   refine aZ hF hch 22 rfl (by kernel_rfl) rfl rfl rfl c5 rfl rfl fun a hF=>?_
   refine aK hF hch 23 rfl (by kernel_rfl) rfl rfl rfl (fun w hM=>(aP hF rfl rfl c5 rfl)) fun a hF=>?_
   refine aK hF hch 24 rfl (by kernel_rfl) rfl rfl rfl (fun w hM=>(aF hF rfl rfl)) fun a hF=>?_
   refine aZ hF hch 25 rfl (by kernel_rfl) rfl rfl rfl rfl rfl rfl fun a hF=>?_
   refine aZ hF hch 26 rfl (by kernel_rfl) rfl rfl rfl rfl rfl rfl fun a hF=>?_
   refine aZ hF hch 27 rfl (by kernel_rfl) rfl rfl rfl rfl rfl rfl fun a hF=>?_
   refine aZ hF hch 28 rfl (by kernel_rfl) rfl rfl rfl rfl rfl rfl fun a hF=>?_
   refine aK hF hch 29 rfl (by kernel_rfl) rfl rfl rfl (fun w hM=>(aP hF rfl rfl rfl rfl)) fun a hF=>?_
   refine bW hch (by kernel_rfl) fun w hM=>?_
   refine aB ?_
   have hP:=oI hP
   subst hP
   exact ⟨true,rfl,hF.to ⟨rfl,rfl,rfl,rfl,rfl,rfl,trivial⟩,selM hM [5,6,7,1,2,3,4] 8 rfl⟩
  have hP:=Fx.cF c5 hP
  refine bQ hF hch 15 rfl (by kernel_rfl) rfl rfl rfl c5 rfl rfl (fun w hM=>(aC (off':=462) qU54 rfl in52 rfl hF rfl rfl rfl)) fun a hF=>?_
  refine bQ hF hch 16 rfl (by kernel_rfl) rfl rfl rfl c5 rfl rfl (fun w hM=>(aI qA52 hF rfl rfl (hM.cell (i:=7) rfl (RState.g_sent _)))) fun a hF=>?_
  refine bQ hF hch 17 rfl (by kernel_rfl) rfl rfl rfl c5 rfl rfl (fun w hM=>(aF hF rfl rfl)) fun a hF=>?_
  obtain ⟨j8,g7,hP⟩:=bind_some hP
  refine bQ hF hch 18 rfl (by kernel_rfl) rfl rfl rfl c5 rfl rfl (fun w hM=>(eL (f8 _ (hsub _ (dropM hM 8))) g7 qU52 in3 rfl hF rfl rfl (.inr ⟨_,_,rfl,rfl⟩) (.inl ⟨rfl,rfl⟩))) fun a hF=>?_
  refine bQ hF hch 19 rfl (by kernel_rfl) rfl rfl rfl c5 rfl rfl (fun w hM=>(aC (off':=6) qU60 rfl in52 rfl hF rfl rfl rfl)) fun a hF=>?_
  refine bQ hF hch 20 rfl (by kernel_rfl) rfl rfl rfl c5 rfl rfl (fun w hM=>(aI qA52 hF rfl rfl (hM.cell (i:=6) rfl (RMark.g_sent _)))) fun a hF=>?_
  refine bC hch 21 (by kernel_rfl) rfl rfl ?_
  refine xW hF 21 rfl rfl rfl rfl rfl c5 rfl rfl fun w hMs hM=>?_
  obtain ⟨m7,hP,l9⟩:=dI hP
  refine (aN (xs:=[.tmp 43,.tmp 45]) Tryz.call133 hF rfl rfl (R:=fun v w=>∃ x,m7 = .inl x ∧ match x with | i5=>v = .bool i5 ∧ MemL w (pt d8 (RMark.enc (mMk c0 c7 c8 c9 d0)) 60 :: rowL 0 c7 128 c0.regs :: rowL 0 c8 151 c0.slots :: rowL 0 c9 156 d1 :: rowL 0 d0 3 c0.sent :: pt c4 (RState.enc zSt) 54 :: pt c3 (RMark.enc (mMk x1 s9 s11 s13 s17)) 60 :: pt c2 (RState.enc (mSt x0 s1 s3 s7)) 54 :: Lr)) ?_ fun v w hR=>?_)
  ·refine aR Tryz.func133 rfl Tryz.ntmps133 rfl fun a hF=>?_
   refine aG ?_
   refine aD ?_
   refine aA hF (aH hF rfl rfl) rfl rfl rfl fun a hF=>?_
   refine aJ (aB ?_)
   refine aG ?_
   refine aG ?_
   refine aD ?_
   refine aA hF (aF hF rfl rfl) rfl rfl rfl fun a hF=>?_
   refine aA hF (bM ((LIn.slc f8 g7 rfl) _ (hsub _ (dropM hM 8))) qU52 hF rfl rfl) rfl rfl rfl fun a hF=>?_
   refine aA hF (aF hF rfl rfl) rfl rfl rfl fun a hF=>?_
   refine aA hF (bM (f18 _ (hsub _ (dropM hM 8))) qU52 hF rfl rfl) rfl rfl rfl fun a hF=>?_
   refine aA hF (dC hF rfl rfl rfl) rfl rfl rfl fun a hF=>?_
   refine aJ (aB ?_)
   refine aV hF (c:=.tmp 10) rfl (fun i0=>?_) (fun i0=>?_)
   ·have hP:=Fx.cT i0 hP
    refine aG ?_
    refine aD ?_
    refine aA hF (aH hF rfl rfl) rfl rfl rfl fun a hF=>?_
    refine aJ (aB ?_)
    refine c_ret ?_
    have hP:=oI hP
    subst hP
    refine bH Tryz.results133 hF rfl ?_
    exact ⟨false,rfl,rfl,hM⟩
   have hP:=Fx.cF i0 hP
   refine aW (aB ?_)
   refine aG ?_
   refine aU hF hM hP (fun F x a w=>match x with | _=>Fr 26 [(4,.bool false)] a ∧ MemL w (pt d8 (RMark.enc (mMk c0 c7 c8 c9 d0)) 60 :: pt c4 (RState.enc zSt) 54 :: pt c3 (RMark.enc (mMk x1 s9 s11 s13 s17)) 60 :: pt c2 (RState.enc (mSt x0 s1 s3 s7)) 54 :: rowL 0 c7 128 c0.regs :: rowL 0 c8 151 c0.slots :: rowL 0 c9 156 d1 :: rowL 0 d0 3 c0.sent :: Lr)) (fun n8 hP m0 hF hM=>?_) ?_
   ·refine aG ?_
    refine aD ?_
    refine aA hF (aF hF rfl rfl) rfl rfl rfl fun a hF=>?_
    refine aA hF (bM ((LIn.slc f8 g7 rfl) _ (hsub _ (dropM hM 8))) qU52 hF rfl rfl) rfl rfl rfl fun a hF=>?_
    refine aA hF (aF hF rfl rfl) rfl rfl rfl fun a hF=>?_
    refine aJ (aB ?_)
    refine aT ?_
    refine bU hF hM hP (fun F x a w=>match x with | g8=>Fr 26 [(13,.int .i64 g8),(0,((s7.cut ((IntKind.i64.wrap ((x0.sent.length:Int) - (x1.sent.length:Int))):Int).toNat ((x0.sent.length:Int):Int).toNat 1)).v),(1,(s17).v),(12,.int .i64 (j8.length:Int)),(4,.bool false)] a ∧ MemL w (pt d8 (RMark.enc (mMk c0 c7 c8 c9 d0)) 60 :: pt c4 (RState.enc zSt) 54 :: pt c3 (RMark.enc (mMk x1 s9 s11 s13 s17)) 60 :: pt c2 (RState.enc (mSt x0 s1 s3 s7)) 54 :: rowL 0 c7 128 c0.regs :: rowL 0 c8 151 c0.slots :: rowL 0 c9 156 d1 :: rowL 0 d0 3 c0.sent :: Lr)) (fun hF hM=>⟨hF.to ⟨rfl,rfl,rfl,rfl,rfl,trivial⟩,selM hM [0,5,6,7,1,2,3,4] 8 rfl⟩) ?_
    rintro g8 a w n9 hP j1 ⟨hF,hM⟩
    replace hP:Sh.kF x1 j8 g8 = _:=hP
    unfold Sh.kF at hP
    refine aG ?_
    refine aD ?_
    refine aA hF (cI hF rfl rfl rfl) rfl rfl rfl fun a hF=>?_
    refine aJ (aB ?_)
    refine aG ?_
    refine aV hF (c:=.tmp 14) rfl (fun i1=>?_) (fun i1=>?_)
    ·have hP:=Fx.cT i1 hP
     refine aW (aB ?_)
     refine aG ?_
     refine aT ?_
     refine aG ?_
     refine aD ?_
     refine aA hF (aF hF rfl rfl) rfl rfl rfl fun a hF=>?_
     refine aA hF (aH hF rfl rfl) rfl rfl rfl fun a hF=>?_
     refine aJ (aB ?_)
     refine aG ?_
     refine bL mixed (by kernel_rfl) hM [0,1,2,3,4,5,6,7] 8 rfl fun hch=>?_
     refine aK hF hch 0 rfl (by kernel_rfl) rfl rfl rfl (fun w hM=>(aF hF rfl rfl)) fun a hF=>?_
     refine aK hF hch 1 rfl (by kernel_rfl) rfl rfl rfl (fun w hM=>(aF hF rfl rfl)) fun a hF=>?_
     obtain ⟨n3,i8,hP⟩:=bind_some hP
     have j9:=aM i8
     refine aK hF hch 2 rfl (by kernel_rfl) rfl rfl rfl (fun w hM=>(aS (sz:=1) ((LIn.slc f8 g7 rfl) _ (hsub _ (dropM hM 8))) qU52 in3 rfl hF rfl rfl rfl (bG i8))) fun a hF=>?_
     refine aK hF hch 3 rfl (by kernel_rfl) rfl rfl rfl (fun w hM=>(aI qA3 hF rfl rfl (((((LIn.slc f8 g7 rfl) _ (hsub _ (dropM hM 8))).elemS j9.2)).get 0 rfl))) fun a hF=>?_
     refine aK hF hch 4 rfl (by kernel_rfl) rfl rfl rfl (fun w hM=>(aF hF rfl rfl)) fun a hF=>?_
     refine aK hF hch 5 rfl (by kernel_rfl) rfl rfl rfl (fun w hM=>(aF hF rfl rfl)) fun a hF=>?_
     obtain ⟨n4,i9,hP⟩:=bind_some hP
     have k0:=aM i9
     refine aK hF hch 6 rfl (by kernel_rfl) rfl rfl rfl (fun w hM=>(aS (sz:=1) (f18 _ (hsub _ (dropM hM 8))) qU52 in3 rfl hF rfl rfl rfl (bG i9))) fun a hF=>?_
     refine aK hF hch 7 rfl (by kernel_rfl) rfl rfl rfl (fun w hM=>(aI qA3 hF rfl rfl ((((f18 _ (hsub _ (dropM hM 8))).elemS k0.2)).get 0 rfl))) fun a hF=>?_
     refine aK hF hch 8 rfl (by kernel_rfl) rfl rfl rfl (fun w hM=>(dC hF rfl rfl rfl)) fun a hF=>?_
     refine bW hch (by kernel_rfl) fun w hM=>?_
     refine aB ?_
     refine aV hF (c:=.tmp 24) rfl (fun i2=>?_) (fun i2=>?_)
     ·have hP:=Fx.cT i2 hP
      refine aG ?_
      refine aD ?_
      refine aA hF (aH hF rfl rfl) rfl rfl rfl fun a hF=>?_
      refine aJ (aB ?_)
      refine c_ret ?_
      have hP:=oI hP
      subst hP
      have hP:=j1 _ rfl
      subst hP
      have hP:=dB m0
      subst hP
      refine bH Tryz.results133 hF rfl ?_
      exact ⟨false,rfl,rfl,selM hM [0,4,5,6,7,1,2,3] 8 rfl⟩
     have hP:=Fx.cF i2 hP
     refine aW (bK (aB ?_))
     refine aD ?_
     refine aA hF (bX hF rfl rfl rfl) rfl rfl rfl fun a hF=>?_
     refine aA hF (aF hF rfl rfl) rfl rfl rfl fun a hF=>?_
     refine aJ (aB ?_)
     have hP:=oI hP
     subst hP
     exact ⟨(IntKind.i64.wrap (g8 + 1)),rfl,hF.to ⟨rfl,rfl,rfl,rfl,rfl,trivial⟩,hM⟩
    have hP:=Fx.cF i1 hP
    refine bY (bD (bD (cJ ?_)))
    refine aB ?_
    have hP:=oI hP
    subst hP
    have hP:=j1 _ rfl
    subst hP
    exact ⟨(),rfl,hF.to ⟨rfl,trivial⟩,hM⟩
   rintro ⟨⟩ a w hP ⟨hF,hM⟩
   replace hP:Sh.rB = _:=hP
   unfold Sh.rB at hP
   refine aB ?_
   refine aG ?_
   refine aD ?_
   refine aA hF (aH hF rfl rfl) rfl rfl rfl fun a hF=>?_
   refine aJ (aB ?_)
   refine c_ret ?_
   have hP:=oI hP
   subst hP
   refine bH Tryz.results133 hF rfl ?_
   exact ⟨true,rfl,rfl,selM hM [0,4,5,6,7,1,2,3] 8 rfl⟩
  obtain ⟨i5,rfl,rfl,hM⟩:=hR
  replace hP:Sh.nW x0 c0 i5 = _:=l9
  unfold Sh.nW at hP
  replace hM:MemL _ (pt d8 (RMark.enc (mMk c0 c7 c8 c9 d0)) 60 :: rowL 0 c7 128 c0.regs :: rowL 0 c8 151 c0.slots :: rowL 0 c9 156 d1 :: rowL 0 d0 3 c0.sent :: pt c4 (RState.enc zSt) 54 :: pt c3 (RMark.enc (mMk x1 s9 s11 s13 s17)) 60 :: pt c2 (RState.enc (mSt x0 s1 s3 s7)) 54 :: Lr):=hM
  have hMs:=selM hM [0,1,2,3,4,5,6,7] 8 rfl
  refine ⟨_,_,hMs,hM,.inl fun _ h=>h,fun a hF=>?_⟩
  refine bQ hF hch 22 rfl (by kernel_rfl) rfl rfl rfl c5 rfl rfl (fun w hM=>(dE hF rfl rfl)) fun a hF=>?_
  refine aK hF hch 23 rfl (by kernel_rfl) rfl rfl rfl (fun w hM=>(aX hF rfl rfl c5 rfl)) fun a hF=>?_
  refine aK hF hch 24 rfl (by kernel_rfl) rfl rfl rfl (fun w hM=>(aF hF rfl rfl)) fun a hF=>?_
  refine bE 49 hF rfl (fun d2=>?_) (fun d2=>?_)
  ·have hP:=Fx.cT d2 hP
   refine aZ hF hch 25 rfl (by kernel_rfl) rfl rfl rfl d2 rfl rfl fun a hF=>?_
   refine aZ hF hch 26 rfl (by kernel_rfl) rfl rfl rfl d2 rfl rfl fun a hF=>?_
   refine aZ hF hch 27 rfl (by kernel_rfl) rfl rfl rfl d2 rfl rfl fun a hF=>?_
   refine aZ hF hch 28 rfl (by kernel_rfl) rfl rfl rfl d2 rfl rfl fun a hF=>?_
   refine aK hF hch 29 rfl (by kernel_rfl) rfl rfl rfl (fun w hM=>(aP hF rfl rfl d2 rfl)) fun a hF=>?_
   refine bW hch (by kernel_rfl) fun w hM=>?_
   refine aB ?_
   have hP:=oI hP
   subst hP
   exact ⟨true,rfl,hF.to ⟨rfl,rfl,rfl,rfl,rfl,rfl,trivial⟩,selM hM [5,6,7,1,2,3,4] 8 rfl⟩
  have hP:=Fx.cF d2 hP
  refine bQ hF hch 25 rfl (by kernel_rfl) rfl rfl rfl d2 rfl rfl (fun w hM=>(aQ qA54 qS54 hF rfl rfl (RState.len _) (hM.cells (i:=7) rfl (bA (RState.len _))))) fun a hF=>?_
  refine bQ hF hch 26 rfl (by kernel_rfl) rfl rfl rfl d2 rfl rfl (fun w hM=>(aQ qA60 qS60 hF rfl rfl (RMark.len _) (hM.cells (i:=0) rfl (bA (RMark.len _))))) fun a hF=>?_
  refine bC hch 27 (by kernel_rfl) rfl rfl ?_
  refine xW hF 27 rfl rfl rfl rfl rfl d2 rfl rfl fun w hMs hM=>?_
  obtain ⟨m6,l5,hP⟩:=bind_some hP
  refine (aN (xs:=[.tmp 50,.tmp 51]) Tryz.call126 hF rfl rfl (mD l5 hM (fun _ h=>h) (fun w hM=>(f2 _ (hsub _ (dropM hM 8)))) (fun w hM=>(f5 _ (hsub _ (dropM hM 8)))) (q6.mono fun _ _ q=>q.mono fun w hM=>hsub _ (dropM hM 8)) (fun w hM=>(f8 _ (hsub _ (dropM hM 8)))) (fun w hM=>(hM.rowS (X:=LTurn) (i:=1) rfl)) (fun w hM=>(hM.rowS (X:=LCell) (i:=2) rfl)) (fun w hM=>(hM.rowS (X:=RPiece) (i:=3) rfl)) (m2.mono fun _ _ q=>q.mono fun w hM=>hsub _ (dropM hM 8)) (fun w hM=>(hM.rowS (X:=Int) (i:=4) rfl))) fun v w hR=>?_)
  obtain ⟨rfl,hM⟩:=hR
  replace hM:MemL _ (pt d8 (RMark.enc (mMk c0 c7 c8 c9 d0)) 60 :: rowL 0 c7 128 c0.regs :: rowL 0 c8 151 c0.slots :: rowL 0 c9 156 d1 :: rowL 0 d0 3 c0.sent :: pt c4 (RState.enc zSt) 54 :: pt c3 (RMark.enc (mMk x1 s9 s11 s13 s17)) 60 :: pt c2 (RState.enc (mSt x0 s1 s3 s7)) 54 :: Lr):=hM
  have hMs:=selM hM [0,1,2,3,4,5,6,7] 8 rfl
  refine ⟨_,_,hMs,hM,.inl fun _ h=>h,fun a hF=>?_⟩
  refine bQ hF hch 28 rfl (by kernel_rfl) rfl rfl rfl d2 rfl rfl (fun w hM=>(dE hF rfl rfl)) fun a hF=>?_
  refine aK hF hch 29 rfl (by kernel_rfl) rfl rfl rfl (fun w hM=>(aX hF rfl rfl d2 rfl)) fun a hF=>?_
  refine bW hch (by kernel_rfl) fun w hM=>?_
  refine aB ?_
  have hP:=oI hP
  subst hP
  exact ⟨(!m6),rfl,hF.to ⟨rfl,rfl,rfl,rfl,rfl,rfl,trivial⟩,selM hM [5,6,7,1,2,3,4] 8 rfl⟩
 rintro i4 a w hP ⟨hF,hM⟩
 replace hP:Sh.rA x0 x1 i4 = _:=hP
 unfold Sh.rA at hP
 refine aB ?_
 refine aV hF (c:=.tmp 54) rfl (fun i3=>?_) (fun i3=>?_)
 ·have hP:=Fx.cT i3 hP
  refine aG ?_
  refine aD ?_
  refine aA hF (cE z54 qU54 pl54 hF (parts:=[]) rfl rfl cX) rfl rfl rfl fun a hF=>?_
  refine bI rfl rfl (aY (vs:=_) qS54 (hM.obj (i:=0) rfl) hF rfl rfl rfl rfl (RState.len _) (RState.one _) (by first | (rw [RState.len,RState.len]; decide) | (rw [RState.len]; decide)) (bF ((RState.len _).trans (RState.len _).symm)) fun w k7=>?_)
  have hM:=hM.chg k7 (i:=0) rfl
  replace hM:MemL _ (pt c4 (RState.enc zSt) 54 :: pt c3 (RMark.enc (mMk x1 s9 s11 s13 s17)) 60 :: pt c2 (RState.enc (mSt x0 s1 s3 s7)) 54 :: rowL 0 c7 128 c0.regs :: rowL 0 c8 151 c0.slots :: rowL 0 c9 156 d1 :: rowL 0 d0 3 c0.sent :: Lr):=hM
  refine aA hF (aH hF rfl rfl) rfl rfl rfl fun a hF=>?_
  refine aJ (aB ?_)
  refine c_ret ?_
  have hM:=hM.rowNil (X:=UInt8) 0 5
  obtain ⟨j4,hM⟩:=voidM hM
  have m3:Each (LIn (X:=UInt8) j4.holds') ([]:List SV) ([]:List (List UInt8)):=Each.nil
  have hM:=hM.rowNil (X:=SV) 0 23
  have hM:=hM.rowNil (X:=Int) 0 3
  have hP:=oI hP
  subst hP
  refine dO (rs:=[.cell 4 54,.tmp 5]) Tryz.results60 hF (cG hF rfl qA54 qS54 (RState.len _) (hM.cells (i:=4) rfl (bA (RState.len _))) (cR hF rfl cP)) rfl ?_
  exact ⟨SV.nil,SV.nil,[],j4,SV.nil,rfl,m3,selM hM [3,1,2,0] 11 rfl⟩
 have hP:=Fx.cF i3 hP
 refine aW (aB ?_)
 refine aG ?_
 refine bL mixed (by kernel_rfl) hM [0,1,2,3,4,5,6] 7 rfl fun hch=>?_
 refine aK hF hch 0 rfl (by kernel_rfl) rfl rfl rfl (fun w hM=>(aQ qA54 qS54 hF rfl rfl (RState.len _) (hM.cells (i:=2) rfl (bA (RState.len _))))) fun a hF=>?_
 refine aK hF hch 1 rfl (by kernel_rfl) rfl rfl rfl (fun w hM=>(aQ qA60 qS60 hF rfl rfl (RMark.len _) (hM.cells (i:=1) rfl (bA (RMark.len _))))) fun a hF=>?_
 refine bC hch 2 (by kernel_rfl) rfl rfl ?_
 refine bV hF 2 rfl rfl rfl rfl rfl fun w hMs hM=>?_
 obtain ⟨c6,l6,hP⟩:=bind_some hP
 refine (aN (xs:=[.tmp 57]) Tryz.call132 hF rfl rfl (kX l6 hM (Bf:=Bf) (fun w hM=>hsub _ (dropM hM 7)) f10 f12 f15 q16 f18) fun v w hR=>?_)
 obtain ⟨g2,g3,g4,d9,g5,rfl,m4,hM⟩:=hR
 replace hM:MemL _ (rowL 0 g2 128 c6.regs :: rowL 0 g3 151 c6.slots :: rowL 0 g4 156 d9 :: rowL 0 g5 3 c6.sent :: pt c4 (RState.enc zSt) 54 :: pt c3 (RMark.enc (mMk x1 s9 s11 s13 s17)) 60 :: pt c2 (RState.enc (mSt x0 s1 s3 s7)) 54 :: rowL 0 c7 128 c0.regs :: rowL 0 c8 151 c0.slots :: rowL 0 c9 156 d1 :: rowL 0 d0 3 c0.sent :: Lr):=hM
 have hMs:=selM hM [0,1,2,3,4,5,6,7,8,9,10] 11 rfl
 refine ⟨_,_,hMs,hM,.inl fun _ h=>dropM h 4,fun a hF=>?_⟩
 refine bC hch 3 (by kernel_rfl) rfl rfl ?_
 refine bV hF 3 rfl rfl rfl rfl rfl fun w hMs hM=>?_
 obtain ⟨c1,l7,hP⟩:=bind_some hP
 refine (aN (xs:=[.tmp 56,.tmp 58]) Tryz.call127 hF rfl rfl (kV l7 hM (fun _ h=>h) (fun w hM=>(f2 _ (hsub _ (dropM hM 11)))) (fun w hM=>(f5 _ (hsub _ (dropM hM 11)))) (q6.mono fun _ _ q=>q.mono fun w hM=>hsub _ (dropM hM 11)) (fun w hM=>(f8 _ (hsub _ (dropM hM 11)))) (fun w hM=>(hM.rowS (X:=LTurn) (i:=0) rfl)) (fun w hM=>(hM.rowS (X:=LCell) (i:=1) rfl)) (fun w hM=>(hM.rowS (X:=RPiece) (i:=2) rfl)) (m4.mono fun _ _ q=>q.mono fun w hM=>hsub _ (dropM hM 11)) (fun w hM=>(hM.rowS (X:=Int) (i:=3) rfl))) fun v w hR=>?_)
 obtain ⟨d3,d4,g0,g1,d7,rfl,m5,hM⟩:=hR
 replace hM:MemL _ (rowL 0 d3 5 c1.ctx :: rowL 0 d4 23 g0 :: g1 :: rowL 0 d7 3 c1.sent :: rowL 0 g2 128 c6.regs :: rowL 0 g3 151 c6.slots :: rowL 0 g4 156 d9 :: rowL 0 g5 3 c6.sent :: pt c4 (RState.enc zSt) 54 :: pt c3 (RMark.enc (mMk x1 s9 s11 s13 s17)) 60 :: pt c2 (RState.enc (mSt x0 s1 s3 s7)) 54 :: rowL 0 c7 128 c0.regs :: rowL 0 c8 151 c0.slots :: rowL 0 c9 156 d1 :: rowL 0 d0 3 c0.sent :: Lr):=hM
 have hMs:=selM hM [0,1,2,3,4,5,6,7,8,9,10,11,12,13,14] 15 rfl
 refine ⟨_,_,hMs,hM,.inl fun _ h=>dropM h 4,fun a hF=>?_⟩
 refine bC hch 4 (by kernel_rfl) rfl rfl ?_
 refine cO 4 rfl rfl rfl rfl fun w hMs hM=>?_
 refine (aY (vs:=_) qS54 (hM.obj (i:=10) rfl) hF rfl rfl rfl rfl (RState.len _) (RState.one _) (by first | (rw [RState.len,RState.len]; decide) | (rw [RState.len]; decide)) (bF ((RState.len _).trans (RState.len _).symm)) fun w k8=>?_)
 have hM:=hM.chg k8 (i:=10) rfl
 replace hM:MemL _ (rowL 0 d3 5 c1.ctx :: rowL 0 d4 23 g0 :: g1 :: rowL 0 d7 3 c1.sent :: rowL 0 g2 128 c6.regs :: rowL 0 g3 151 c6.slots :: rowL 0 g4 156 d9 :: rowL 0 g5 3 c6.sent :: pt c4 (RState.enc zSt) 54 :: pt c3 (RMark.enc (mMk x1 s9 s11 s13 s17)) 60 :: pt c2 (RState.enc (mSt c1 d3 d4 d7)) 54 :: rowL 0 c7 128 c0.regs :: rowL 0 c8 151 c0.slots :: rowL 0 c9 156 d1 :: rowL 0 d0 3 c0.sent :: Lr):=hM
 have hMs:=hM
 refine ⟨_,_,hMs,hM,.inr (by kernel_rfl),?_⟩
 refine bW hch (by kernel_rfl) fun w hM=>?_
 refine aB ?_
 refine aG ?_
 refine aD ?_
 refine aA hF (aC (off':=465) qU54 rfl in4 rfl hF rfl rfl rfl) rfl rfl rfl fun a hF=>?_
 refine bI rfl rfl (bS qS4 (hM.obj (i:=10) rfl) hF rfl rfl rfl rfl (by rw [RState.len]; decide) (RState.s_done _ _) fun w k9=>?_)
 have hM:=hM.chg k9 (i:=10) rfl
 replace hM:MemL _ (rowL 0 d3 5 c1.ctx :: rowL 0 d4 23 g0 :: g1 :: rowL 0 d7 3 c1.sent :: rowL 0 g2 128 c6.regs :: rowL 0 g3 151 c6.slots :: rowL 0 g4 156 d9 :: rowL 0 g5 3 c6.sent :: pt c4 (RState.enc zSt) 54 :: pt c3 (RMark.enc (mMk x1 s9 s11 s13 s17)) 60 :: pt c2 (RState.enc (RState.mk c1.regs c1.stack d3 d4 d7 c1.at_ c1.steps false)) 54 :: rowL 0 c7 128 c0.regs :: rowL 0 c8 151 c0.slots :: rowL 0 c9 156 d1 :: rowL 0 d0 3 c0.sent :: Lr):=hM
 refine aJ (aB ?_)
 refine aG ?_
 refine aD ?_
 refine aA hF (aC (off':=464) qU54 rfl in3 rfl hF rfl rfl rfl) rfl rfl rfl fun a hF=>?_
 refine aA hF (aI qA3 hF rfl rfl (hM.cell (i:=10) rfl (RState.g_steps _))) rfl rfl rfl fun a hF=>?_
 refine aA hF (eV hF rfl rfl rfl) rfl rfl rfl fun a hF=>?_
 refine aA hF (aC (off':=464) qU54 rfl in3 rfl hF rfl rfl rfl) rfl rfl rfl fun a hF=>?_
 refine bI rfl rfl (bS qS3 (hM.obj (i:=10) rfl) hF rfl rfl rfl rfl (by rw [RState.len]; decide) (RState.s_steps _ _) fun w l0=>?_)
 have hM:=hM.chg l0 (i:=10) rfl
 replace hM:MemL _ (rowL 0 d3 5 c1.ctx :: rowL 0 d4 23 g0 :: g1 :: rowL 0 d7 3 c1.sent :: rowL 0 g2 128 c6.regs :: rowL 0 g3 151 c6.slots :: rowL 0 g4 156 d9 :: rowL 0 g5 3 c6.sent :: pt c4 (RState.enc zSt) 54 :: pt c3 (RMark.enc (mMk x1 s9 s11 s13 s17)) 60 :: pt c2 (RState.enc (RState.mk c1.regs c1.stack d3 d4 d7 c1.at_ (IntKind.i64.wrap (c1.steps - 1)) false)) 54 :: rowL 0 c7 128 c0.regs :: rowL 0 c8 151 c0.slots :: rowL 0 c9 156 d1 :: rowL 0 d0 3 c0.sent :: Lr):=hM
 refine aJ (aB ?_)
 refine aG ?_
 refine aD ?_
 refine aA hF (aC (off':=462) qU54 rfl in52 rfl hF rfl rfl rfl) rfl rfl rfl fun a hF=>?_
 refine aA hF (aI qA52 hF rfl rfl (hM.cell (i:=10) rfl (RState.g_sent _))) rfl rfl rfl fun a hF=>?_
 refine aA hF (aF hF rfl rfl) rfl rfl rfl fun a hF=>?_
 obtain ⟨n5,j0,hP⟩:=bind_some hP
 refine aA hF (eL (hM.rowS (X:=Int) (i:=3) rfl) j0 qU52 in3 rfl hF rfl rfl (.inl ⟨rfl,rfl⟩) (.inr ⟨_,_,rfl,rfl⟩)) rfl rfl rfl fun a hF=>?_
 obtain ⟨i6,l8,hP⟩:=bind_some hP
 refine aO hF rfl rfl rfl (aN (xs:=[.tmp 68]) Tryz.call134 hF rfl rfl (gN l8 hM (fun _ h=>h) (fun w hM=>(aIf (hM.rowS (X:=Int) (i:=3) rfl) j0 rfl))) fun v w hR=>?_)
 obtain ⟨g6,rfl,hM⟩:=hR
 replace hM:MemL _ (rowL 0 g6 3 i6 :: rowL 0 d3 5 c1.ctx :: rowL 0 d4 23 g0 :: g1 :: rowL 0 d7 3 c1.sent :: rowL 0 g2 128 c6.regs :: rowL 0 g3 151 c6.slots :: rowL 0 g4 156 d9 :: rowL 0 g5 3 c6.sent :: pt c4 (RState.enc zSt) 54 :: pt c3 (RMark.enc (mMk x1 s9 s11 s13 s17)) 60 :: pt c2 (RState.enc (RState.mk c1.regs c1.stack d3 d4 d7 c1.at_ (IntKind.i64.wrap (c1.steps - 1)) false)) 54 :: rowL 0 c7 128 c0.regs :: rowL 0 c8 151 c0.slots :: rowL 0 c9 156 d1 :: rowL 0 d0 3 c0.sent :: Lr):=hM
 intro a hF
 refine aA hF (aC (off':=462) qU54 rfl in52 rfl hF rfl rfl rfl) rfl rfl rfl fun a hF=>?_
 refine bI rfl rfl (bS qS52 (hM.obj (i:=11) rfl) hF rfl rfl rfl rfl (by rw [RState.len]; decide) (RState.s_sent _ _) fun w l1=>?_)
 have hM:=hM.chg l1 (i:=11) rfl
 replace hM:MemL _ (rowL 0 g6 3 i6 :: rowL 0 d3 5 c1.ctx :: rowL 0 d4 23 g0 :: g1 :: rowL 0 d7 3 c1.sent :: rowL 0 g2 128 c6.regs :: rowL 0 g3 151 c6.slots :: rowL 0 g4 156 d9 :: rowL 0 g5 3 c6.sent :: pt c4 (RState.enc zSt) 54 :: pt c3 (RMark.enc (mMk x1 s9 s11 s13 s17)) 60 :: pt c2 (RState.enc (RState.mk c1.regs c1.stack d3 d4 g6 c1.at_ (IntKind.i64.wrap (c1.steps - 1)) false)) 54 :: rowL 0 c7 128 c0.regs :: rowL 0 c8 151 c0.slots :: rowL 0 c9 156 d1 :: rowL 0 d0 3 c0.sent :: Lr):=hM
 refine aJ (aB ?_)
 refine aG ?_
 refine aD ?_
 refine aA hF (aQ qA54 qS54 hF rfl rfl (RState.len _) (hM.cells (i:=11) rfl (bA (RState.len _)))) rfl rfl rfl fun a hF=>?_
 refine bI rfl rfl (aY (vs:=_) qS54 (hM.obj (i:=9) rfl) hF rfl rfl rfl rfl (RState.len _) (RState.one _) (by first | (rw [RState.len,RState.len]; decide) | (rw [RState.len]; decide)) (bF ((RState.len _).trans (RState.len _).symm)) fun w l2=>?_)
 have hM:=hM.chg l2 (i:=9) rfl
 replace hM:MemL _ (rowL 0 g6 3 i6 :: rowL 0 d3 5 c1.ctx :: rowL 0 d4 23 g0 :: g1 :: rowL 0 d7 3 c1.sent :: rowL 0 g2 128 c6.regs :: rowL 0 g3 151 c6.slots :: rowL 0 g4 156 d9 :: rowL 0 g5 3 c6.sent :: pt c4 (RState.enc (RState.mk c1.regs c1.stack d3 d4 g6 c1.at_ (IntKind.i64.wrap (c1.steps - 1)) false)) 54 :: pt c3 (RMark.enc (mMk x1 s9 s11 s13 s17)) 60 :: pt c2 (RState.enc (RState.mk c1.regs c1.stack d3 d4 g6 c1.at_ (IntKind.i64.wrap (c1.steps - 1)) false)) 54 :: rowL 0 c7 128 c0.regs :: rowL 0 c8 151 c0.slots :: rowL 0 c9 156 d1 :: rowL 0 d0 3 c0.sent :: Lr):=hM
 refine aA hF (aH hF rfl rfl) rfl rfl rfl fun a hF=>?_
 refine aJ (aB ?_)
 refine c_ret ?_
 have hP:=oI hP
 subst hP
 refine dO (rs:=[.cell 4 54,.tmp 5]) Tryz.results60 hF (cG hF rfl qA54 qS54 (RState.len _) (hM.cells (i:=9) rfl (bA (RState.len _))) (cR hF rfl cP)) rfl ?_
 exact ⟨d3,d4,g0,g1,g6,rfl,m5,selM hM [1,2,3,0] 16 rfl⟩
set_option maxHeartbeats 4000000 in
theorem kT {x0:QState} {x1:QMark} {x2:Bool} {s1:SV} {s3:SV} {hs4:List SV} {s7:SV} {s9:SV} {s11:SV} {s13:SV} {hs14:List RPiece} {s17:SV} {out:Bool} {w0:World} {Bf:World → Prop} {Lr:List Res} (hP:Sh.lF x0 x1 x2 = some out) (hM:MemL w0 (Lr)) (hsub:∀ w,MemL w Lr → Bf w) (f2:LIn Bf s1 x0.ctx) (f5:LIn Bf s3 hs4) (q6:Each (LIn (X:=UInt8) Bf) hs4 x0.tables) (f8:LIn Bf s7 x0.sent) (f10:LIn Bf s9 x1.regs) (f12:LIn Bf s11 x1.slots) (f15:LIn Bf s13 hs14) (q16:Each (QPieceIn Bf) hs14 x1.pieces) (f18:LIn Bf s17 x1.sent):Calls Tryz.prog 136 #[.agg (RState.enc (mSt x0 s1 s3 s7)).toArray,.agg (RMark.enc (mMk x1 s9 s11 s13 s17)).toArray,.bool x2] w0 (Ret fun v w'=>v = .bool out ∧ MemL w' (Lr)):=by
 unfold Sh.lF at hP
 refine aR (vs:=[.agg (RState.enc (mSt x0 s1 s3 s7)).toArray,.agg (RMark.enc (mMk x1 s9 s11 s13 s17)).toArray,.bool x2]) Tryz.func136 rfl Tryz.ntmps136 rfl fun a hF=>?_
 refine aG ?_
 refine aD ?_
 refine aO hF rfl rfl rfl (dA hF rfl rfl rfl fun c0 w n0 i5=>?_)
 have hM:=hM.plus i5
 intro a hF
 refine aO hF rfl rfl rfl (dA hF rfl rfl rfl fun c1 w n1 i6=>?_)
 have hM:=hM.plus i6
 replace hM:MemL _ (pt c1 (RMark.enc (mMk x1 s9 s11 s13 s17)) 60 :: pt c0 (RState.enc (mSt x0 s1 s3 s7)) 54 :: Lr):=hM
 intro a hF
 refine aA hF (aH hF rfl rfl) rfl rfl rfl fun a hF=>?_
 refine aJ (aB ?_)
 refine aG ?_
 refine aU hF hM hP (fun F x a w=>match x with | _=>Fr 129 [(2,.bool x2),(3,.pointer (some ⟨c0,0,none⟩)),(4,.pointer (some ⟨c1,0,none⟩)),(6,.bool false)] a ∧ MemL w (pt c1 (RMark.enc (mMk x1 s9 s11 s13 s17)) 60 :: pt c0 (RState.enc (mSt x0 s1 s3 s7)) 54 :: Lr)) (fun z3 hP m6 hF hM=>?_) ?_
 ·refine aG ?_
  refine aD ?_
  refine aA hF (aH hF rfl rfl) rfl rfl rfl fun a hF=>?_
  refine aJ (aB ?_)
  refine aT ?_
  refine bU hF hM hP (fun F x a w=>match x with | c4=>Fr 129 [(7,.int .i64 c4),(2,.bool x2),(3,.pointer (some ⟨c0,0,none⟩)),(4,.pointer (some ⟨c1,0,none⟩)),(6,.bool false)] a ∧ MemL w (pt c1 (RMark.enc (mMk x1 s9 s11 s13 s17)) 60 :: pt c0 (RState.enc (mSt x0 s1 s3 s7)) 54 :: Lr)) (fun hF hM=>⟨hF.to ⟨rfl,rfl,rfl,rfl,rfl,trivial⟩,hM⟩) ?_
  rintro c4 a w z8 hP i8 ⟨hF,hM⟩
  replace hP:Sh.jG x0 x1 x2 c4 = _:=hP
  unfold Sh.jG at hP
  refine aG ?_
  refine aG ?_
  refine aD ?_
  refine aA hF (aF hF rfl rfl) rfl rfl rfl fun a hF=>?_
  refine aA hF (aC (off':=3) qU60 rfl in56 rfl hF rfl rfl rfl) rfl rfl rfl fun a hF=>?_
  refine aA hF (aI qA56 hF rfl rfl (hM.cell (i:=0) rfl (RMark.g_regs _))) rfl rfl rfl fun a hF=>?_
  refine aA hF (bM (f10 _ (hsub _ (dropM hM 2))) qU56 hF rfl rfl) rfl rfl rfl fun a hF=>?_
  refine aA hF (cI hF rfl rfl rfl) rfl rfl rfl fun a hF=>?_
  refine aJ (aB ?_)
  refine aV hF (c:=.tmp 17) rfl (fun c7=>?_) (fun c7=>?_)
  ·have hP:=Fx.cT c7 hP
   refine aW (aB ?_)
   refine aG ?_
   refine aT ?_
   refine aG ?_
   refine bL mixed (by kernel_rfl) hM [0,1] 2 rfl fun hch=>?_
   refine aK hF hch 0 rfl (by kernel_rfl) rfl rfl rfl (fun w hM=>(aC (off':=3) qU60 rfl in56 rfl hF rfl rfl rfl)) fun a hF=>?_
   refine aK hF hch 1 rfl (by kernel_rfl) rfl rfl rfl (fun w hM=>(aI qA56 hF rfl rfl (hM.cell (i:=0) rfl (RMark.g_regs _)))) fun a hF=>?_
   refine aK hF hch 2 rfl (by kernel_rfl) rfl rfl rfl (fun w hM=>(aF hF rfl rfl)) fun a hF=>?_
   obtain ⟨u0,g4,hP⟩:=bind_some hP
   have j1:=aM g4
   refine aK hF hch 3 rfl (by kernel_rfl) rfl rfl rfl (fun w hM=>(aS (sz:=9) (f10 _ (hsub _ (dropM hM 2))) qU56 in128 rfl hF rfl rfl rfl (bG g4))) fun a hF=>?_
   refine aK hF hch 4 rfl (by kernel_rfl) rfl rfl rfl (fun w hM=>(aC qU128 rfl in3 rfl hF rfl rfl rfl)) fun a hF=>?_
   refine aK hF hch 5 rfl (by kernel_rfl) rfl rfl rfl (fun w hM=>(aI qA3 hF rfl rfl ((((f10 _ (hsub _ (dropM hM 2))).elemS j1.2)).get 0 (LTurn.g_reg _)))) fun a hF=>?_
   refine aK hF hch 6 rfl (by kernel_rfl) rfl rfl rfl (fun w hM=>(aC (off':=0) qU54 rfl in47 rfl hF rfl rfl rfl)) fun a hF=>?_
   obtain ⟨u1,d5,hP⟩:=bind_some hP
   have n3:=aM d5
   refine aK hF hch 7 rfl (by kernel_rfl) rfl rfl rfl (fun w hM=>(cW (sz:=4) qU47 in46 rfl hF rfl rfl rfl (dH d5))) fun a hF=>?_
   refine aK hF hch 8 rfl (by kernel_rfl) rfl rfl rfl (fun w hM=>(aQ qA46 qS46 hF rfl rfl (LVal.len _) (hM.cells (i:=1) rfl (RState.ci_regs _ _ _ (aM d5).2)))) fun a hF=>?_
   refine aK hF hch 9 rfl (by kernel_rfl) rfl rfl rfl (fun w hM=>(aC (off':=3) qU60 rfl in56 rfl hF rfl rfl rfl)) fun a hF=>?_
   refine aK hF hch 10 rfl (by kernel_rfl) rfl rfl rfl (fun w hM=>(aI qA56 hF rfl rfl (hM.cell (i:=0) rfl (RMark.g_regs _)))) fun a hF=>?_
   refine aK hF hch 11 rfl (by kernel_rfl) rfl rfl rfl (fun w hM=>(aF hF rfl rfl)) fun a hF=>?_
   obtain ⟨u2,g5,hP⟩:=bind_some hP
   have j2:=aM g5
   refine aK hF hch 12 rfl (by kernel_rfl) rfl rfl rfl (fun w hM=>(aS (sz:=9) (f10 _ (hsub _ (dropM hM 2))) qU56 in128 rfl hF rfl rfl rfl (bG g5))) fun a hF=>?_
   refine aK hF hch 13 rfl (by kernel_rfl) rfl rfl rfl (fun w hM=>(aQ qA128 qS128 hF rfl rfl (LTurn.len _) (((f10 _ (hsub _ (dropM hM 2))).elemS j2.2)))) fun a hF=>?_
   refine aK hF hch 14 rfl (by kernel_rfl) rfl rfl rfl (fun w hM=>(aF hF rfl rfl)) fun a hF=>?_
   refine bC hch 15 (by kernel_rfl) rfl rfl ?_
   refine bV hF 15 rfl rfl rfl rfl rfl fun w hMs hM=>?_
   obtain ⟨z1,l9,hP⟩:=bind_some hP
   refine (aN (xs:=[.tmp 33,.tmp 34]) Tryz.call199 hF rfl rfl (mZ l9 hM ) fun v w hR=>?_)
   obtain ⟨rfl,hM⟩:=hR
   replace hM:MemL _ (pt c1 (RMark.enc (mMk x1 s9 s11 s13 s17)) 60 :: pt c0 (RState.enc (mSt x0 s1 s3 s7)) 54 :: Lr):=hM
   have hMs:=selM hM [0,1] 2 rfl
   refine ⟨_,_,hMs,hM,.inl fun _ h=>h,fun a hF=>?_⟩
   refine aK hF hch 16 rfl (by kernel_rfl) rfl rfl rfl (fun w hM=>(jK qG46 (gA _ _ _ _ (by decide)) hF rfl rfl rfl)) fun a hF=>?_
   refine bW hch (by kernel_rfl) fun w hM=>?_
   refine aB ?_
   refine aV hF (c:=.tmp 36) rfl (fun c8=>?_) (fun c8=>?_)
   ·have hP:=Fx.cT c8 hP
    refine aG ?_
    refine aD ?_
    refine aA hF (aH hF rfl rfl) rfl rfl rfl fun a hF=>?_
    refine aJ (aB ?_)
    refine c_ret ?_
    have hP:=oI hP
    subst hP
    have hP:=i8 _ rfl
    subst hP
    have hP:=dB m6
    subst hP
    refine bH qR136 hF rfl ?_
    exact ⟨rfl,selM hM [] 2 rfl⟩
   have hP:=Fx.cF c8 hP
   refine aW (bK (aB ?_))
   refine aD ?_
   refine aA hF (aF hF rfl rfl) rfl rfl rfl fun a hF=>?_
   refine aA hF (bX hF rfl rfl rfl) rfl rfl rfl fun a hF=>?_
   refine aA hF (aH hF rfl rfl) rfl rfl rfl fun a hF=>?_
   refine aJ (aB ?_)
   have hP:=oI hP
   subst hP
   exact ⟨(IntKind.i64.wrap (c4 + 1)),rfl,hF.to ⟨rfl,rfl,rfl,rfl,rfl,trivial⟩,hM⟩
  have hP:=Fx.cF c7 hP
  refine bY (bD (bD (cJ ?_)))
  refine aB ?_
  have hP:=oI hP
  subst hP
  have hP:=i8 _ rfl
  subst hP
  exact ⟨(),rfl,hF.to ⟨rfl,rfl,rfl,rfl,trivial⟩,hM⟩
 rintro ⟨⟩ a w hP ⟨hF,hM⟩
 replace hP:Sh.oM x0 x1 x2 = _:=hP
 unfold Sh.oM at hP
 refine aB ?_
 refine aG ?_
 refine aU hF hM hP (fun F x a w=>match x with | _=>Fr 129 [(2,.bool x2),(3,.pointer (some ⟨c0,0,none⟩)),(4,.pointer (some ⟨c1,0,none⟩)),(6,.bool false)] a ∧ MemL w (pt c1 (RMark.enc (mMk x1 s9 s11 s13 s17)) 60 :: pt c0 (RState.enc (mSt x0 s1 s3 s7)) 54 :: Lr)) (fun z4 hP m7 hF hM=>?_) ?_
 ·refine aG ?_
  refine aD ?_
  refine aA hF (aH hF rfl rfl) rfl rfl rfl fun a hF=>?_
  refine aJ (aB ?_)
  refine aT ?_
  refine bU hF hM hP (fun F x a w=>match x with | c5=>Fr 129 [(8,.int .i64 c5),(2,.bool x2),(3,.pointer (some ⟨c0,0,none⟩)),(4,.pointer (some ⟨c1,0,none⟩)),(6,.bool false)] a ∧ MemL w (pt c1 (RMark.enc (mMk x1 s9 s11 s13 s17)) 60 :: pt c0 (RState.enc (mSt x0 s1 s3 s7)) 54 :: Lr)) (fun hF hM=>⟨hF.to ⟨rfl,rfl,rfl,rfl,rfl,trivial⟩,hM⟩) ?_
  rintro c5 a w z9 hP i9 ⟨hF,hM⟩
  replace hP:Sh.jH x0 x1 x2 c5 = _:=hP
  unfold Sh.jH at hP
  refine aG ?_
  refine aG ?_
  refine aD ?_
  refine aA hF (aF hF rfl rfl) rfl rfl rfl fun a hF=>?_
  refine aA hF (aC (off':=4) qU60 rfl in57 rfl hF rfl rfl rfl) rfl rfl rfl fun a hF=>?_
  refine aA hF (aI qA57 hF rfl rfl (hM.cell (i:=0) rfl (RMark.g_slots _))) rfl rfl rfl fun a hF=>?_
  refine aA hF (bM (f12 _ (hsub _ (dropM hM 2))) qU57 hF rfl rfl) rfl rfl rfl fun a hF=>?_
  refine aA hF (cI hF rfl rfl rfl) rfl rfl rfl fun a hF=>?_
  refine aJ (aB ?_)
  refine aV hF (c:=.tmp 41) rfl (fun c9=>?_) (fun c9=>?_)
  ·have hP:=Fx.cT c9 hP
   refine aW (aB ?_)
   refine aG ?_
   refine aT ?_
   refine aG ?_
   refine bL mixed (by kernel_rfl) hM [0,1] 2 rfl fun hch=>?_
   refine aK hF hch 0 rfl (by kernel_rfl) rfl rfl rfl (fun w hM=>(aC (off':=4) qU60 rfl in57 rfl hF rfl rfl rfl)) fun a hF=>?_
   refine aK hF hch 1 rfl (by kernel_rfl) rfl rfl rfl (fun w hM=>(aI qA57 hF rfl rfl (hM.cell (i:=0) rfl (RMark.g_slots _)))) fun a hF=>?_
   refine aK hF hch 2 rfl (by kernel_rfl) rfl rfl rfl (fun w hM=>(aF hF rfl rfl)) fun a hF=>?_
   obtain ⟨u3,g6,hP⟩:=bind_some hP
   have j3:=aM g6
   refine aK hF hch 3 rfl (by kernel_rfl) rfl rfl rfl (fun w hM=>(aS (sz:=27) (f12 _ (hsub _ (dropM hM 2))) qU57 in151 rfl hF rfl rfl rfl (bG g6))) fun a hF=>?_
   refine aK hF hch 4 rfl (by kernel_rfl) rfl rfl rfl (fun w hM=>(aC qU151 rfl in3 rfl hF rfl rfl rfl)) fun a hF=>?_
   refine aK hF hch 5 rfl (by kernel_rfl) rfl rfl rfl (fun w hM=>(aI qA3 hF rfl rfl ((((f12 _ (hsub _ (dropM hM 2))).elemS j3.2)).get 0 (LCell.g_slot _)))) fun a hF=>?_
   refine aK hF hch 6 rfl (by kernel_rfl) rfl rfl rfl (fun w hM=>(aC (off':=44) qU54 rfl in51 rfl hF rfl rfl rfl)) fun a hF=>?_
   obtain ⟨u4,d6,hP⟩:=bind_some hP
   have n4:=aM d6
   refine aK hF hch 7 rfl (by kernel_rfl) rfl rfl rfl (fun w hM=>(cW (sz:=13) qU51 in50 rfl hF rfl rfl rfl (dH d6))) fun a hF=>?_
   refine aK hF hch 8 rfl (by kernel_rfl) rfl rfl rfl (fun w hM=>(aQ qA50 qS50 hF rfl rfl (LSlot.len _) (hM.cells (i:=1) rfl (RState.ci_stack _ _ _ (aM d6).2)))) fun a hF=>?_
   refine aK hF hch 9 rfl (by kernel_rfl) rfl rfl rfl (fun w hM=>(aC (off':=4) qU60 rfl in57 rfl hF rfl rfl rfl)) fun a hF=>?_
   refine aK hF hch 10 rfl (by kernel_rfl) rfl rfl rfl (fun w hM=>(aI qA57 hF rfl rfl (hM.cell (i:=0) rfl (RMark.g_slots _)))) fun a hF=>?_
   refine aK hF hch 11 rfl (by kernel_rfl) rfl rfl rfl (fun w hM=>(aF hF rfl rfl)) fun a hF=>?_
   obtain ⟨u5,g7,hP⟩:=bind_some hP
   have j4:=aM g7
   refine aK hF hch 12 rfl (by kernel_rfl) rfl rfl rfl (fun w hM=>(aS (sz:=27) (f12 _ (hsub _ (dropM hM 2))) qU57 in151 rfl hF rfl rfl rfl (bG g7))) fun a hF=>?_
   refine aK hF hch 13 rfl (by kernel_rfl) rfl rfl rfl (fun w hM=>(aQ qA151 qS151 hF rfl rfl (LCell.len _) (((f12 _ (hsub _ (dropM hM 2))).elemS j4.2)))) fun a hF=>?_
   refine aK hF hch 14 rfl (by kernel_rfl) rfl rfl rfl (fun w hM=>(aF hF rfl rfl)) fun a hF=>?_
   refine bC hch 15 (by kernel_rfl) rfl rfl ?_
   refine bV hF 15 rfl rfl rfl rfl rfl fun w hMs hM=>?_
   obtain ⟨z2,m0,hP⟩:=bind_some hP
   refine (aN (xs:=[.tmp 57,.tmp 58]) Tryz.call200 hF rfl rfl (lY m0 hM ) fun v w hR=>?_)
   obtain ⟨rfl,hM⟩:=hR
   replace hM:MemL _ (pt c1 (RMark.enc (mMk x1 s9 s11 s13 s17)) 60 :: pt c0 (RState.enc (mSt x0 s1 s3 s7)) 54 :: Lr):=hM
   have hMs:=selM hM [0,1] 2 rfl
   refine ⟨_,_,hMs,hM,.inl fun _ h=>h,fun a hF=>?_⟩
   refine aK hF hch 16 rfl (by kernel_rfl) rfl rfl rfl (fun w hM=>(jK qG50 (gR _ _ _ _ (by decide)) hF rfl rfl rfl)) fun a hF=>?_
   refine bW hch (by kernel_rfl) fun w hM=>?_
   refine aB ?_
   refine aV hF (c:=.tmp 60) rfl (fun d0=>?_) (fun d0=>?_)
   ·have hP:=Fx.cT d0 hP
    refine aG ?_
    refine aD ?_
    refine aA hF (aH hF rfl rfl) rfl rfl rfl fun a hF=>?_
    refine aJ (aB ?_)
    refine c_ret ?_
    have hP:=oI hP
    subst hP
    have hP:=i9 _ rfl
    subst hP
    have hP:=dB m7
    subst hP
    refine bH qR136 hF rfl ?_
    exact ⟨rfl,selM hM [] 2 rfl⟩
   have hP:=Fx.cF d0 hP
   refine aW (bK (aB ?_))
   refine aD ?_
   refine aA hF (aF hF rfl rfl) rfl rfl rfl fun a hF=>?_
   refine aA hF (bX hF rfl rfl rfl) rfl rfl rfl fun a hF=>?_
   refine aA hF (aH hF rfl rfl) rfl rfl rfl fun a hF=>?_
   refine aJ (aB ?_)
   have hP:=oI hP
   subst hP
   exact ⟨(IntKind.i64.wrap (c5 + 1)),rfl,hF.to ⟨rfl,rfl,rfl,rfl,rfl,trivial⟩,hM⟩
  have hP:=Fx.cF c9 hP
  refine bY (bD (bD (cJ ?_)))
  refine aB ?_
  have hP:=oI hP
  subst hP
  have hP:=i9 _ rfl
  subst hP
  exact ⟨(),rfl,hF.to ⟨rfl,rfl,rfl,rfl,trivial⟩,hM⟩
 rintro ⟨⟩ a w hP ⟨hF,hM⟩
 replace hP:Sh.oN x0 x1 x2 = _:=hP
 unfold Sh.oN at hP
 refine aB ?_
 refine aG ?_
 refine aU hF hM hP (fun F x a w=>match x with | _=>Fr 129 [(6,.bool false)] a ∧ MemL w (Lr)) (fun z5 hP i7 hF hM=>?_) ?_
 ·refine aG ?_
  refine aD ?_
  refine aA hF (aH hF rfl rfl) rfl rfl rfl fun a hF=>?_
  refine aJ (aB ?_)
  refine aT ?_
  refine bU hF hM hP (fun F x a w=>match x with | c3=>Fr 129 [(9,.int .i64 c3),(2,.bool x2),(3,.pointer (some ⟨c0,0,none⟩)),(4,.pointer (some ⟨c1,0,none⟩)),(6,.bool false)] a ∧ MemL w (pt c1 (RMark.enc (mMk x1 s9 s11 s13 s17)) 60 :: pt c0 (RState.enc (mSt x0 s1 s3 s7)) 54 :: Lr)) (fun hF hM=>⟨hF.to ⟨rfl,rfl,rfl,rfl,rfl,trivial⟩,hM⟩) ?_
  rintro c3 a w c10 hP d9 ⟨hF,hM⟩
  replace hP:Sh.jI x0 x1 x2 c3 = _:=hP
  unfold Sh.jI at hP
  refine aG ?_
  refine aG ?_
  refine aD ?_
  refine aA hF (aF hF rfl rfl) rfl rfl rfl fun a hF=>?_
  refine aA hF (aC (off':=5) qU60 rfl in58 rfl hF rfl rfl rfl) rfl rfl rfl fun a hF=>?_
  refine aA hF (aI qA58 hF rfl rfl (hM.cell (i:=0) rfl (RMark.g_pieces _))) rfl rfl rfl fun a hF=>?_
  refine aA hF (cQ (f15 _ (hsub _ (dropM hM 2))) q16.len qU58 hF rfl rfl) rfl rfl rfl fun a hF=>?_
  refine aA hF (cI hF rfl rfl rfl) rfl rfl rfl fun a hF=>?_
  refine aJ (aB ?_)
  refine aV hF (c:=.tmp 65) rfl (fun d1=>?_) (fun d1=>?_)
  ·have hP:=Fx.cT d1 hP
   refine aW (aB ?_)
   refine aG ?_
   refine aT ?_
   refine aG ?_
   refine aD ?_
   refine aA hF (aC (off':=5) qU60 rfl in58 rfl hF rfl rfl rfl) rfl rfl rfl fun a hF=>?_
   refine aA hF (aI qA58 hF rfl rfl (hM.cell (i:=0) rfl (RMark.g_pieces _))) rfl rfl rfl fun a hF=>?_
   refine aA hF (aF hF rfl rfl) rfl rfl rfl fun a hF=>?_
   obtain ⟨u6,g8,hP⟩:=bind_some hP
   have j5:=aM g8
   obtain ⟨n5,k7,l3⟩:=Each.getr q16 j5.2
   have k1:=Each.bd q16 (bG g8)
   obtain ⟨t0,t1,rfl,m3,m4⟩:=l3
   refine aA hF (aS (sz:=4) (f15 _ (hsub _ (dropM hM 2))) qU58 in156 rfl hF rfl rfl rfl k1) rfl rfl rfl fun a hF=>?_
   refine aA hF (aQ qA156 qS156 hF rfl rfl (RPiece.len _) (((f15 _ (hsub _ (dropM hM 2))).elemS k7))) rfl rfl rfl fun a hF=>?_
   refine aA hF (aF hF rfl rfl) rfl rfl rfl fun a hF=>?_
   obtain ⟨g3,m1,hP⟩:=bind_some hP
   refine aO hF rfl rfl rfl (aN (xs:=[.tmp 72,.tmp 73]) Tryz.call201 hF rfl rfl (lB m1 hM (Bf:=Bf) (fun w hM=>hsub _ (dropM hM 2)) m3 m4) fun v w hR=>?_)
   obtain ⟨m8,rfl,d7,hM⟩:=hR
   replace hM:MemL _ (pt c1 (RMark.enc (mMk x1 s9 s11 s13 s17)) 60 :: pt c0 (RState.enc (mSt x0 s1 s3 s7)) 54 :: Lr):=hM
   intro a hF
   refine aA hF (aH hF rfl rfl) rfl rfl rfl fun a hF=>?_
   refine aJ (aB ?_)
   refine aG ?_
   refine aD ?_
   refine aA hF (aC (off':=460) qU54 rfl in23 rfl hF rfl rfl rfl) rfl rfl rfl fun a hF=>?_
   refine aA hF (aI qA23 hF rfl rfl (hM.cell (i:=1) rfl (RState.g_ctx _))) rfl rfl rfl fun a hF=>?_
   refine aA hF (aH hF rfl rfl) rfl rfl rfl fun a hF=>?_
   refine aJ (aB ?_)
   refine aG ?_
   refine aG ?_
   refine bL mixed (by kernel_rfl) hM [0,1] 2 rfl fun hch=>?_
   refine aK hF hch 0 rfl (by kernel_rfl) rfl rfl rfl (fun w hM=>(aC (off':=5) qU60 rfl in58 rfl hF rfl rfl rfl)) fun a hF=>?_
   refine aK hF hch 1 rfl (by kernel_rfl) rfl rfl rfl (fun w hM=>(aI qA58 hF rfl rfl (hM.cell (i:=0) rfl (RMark.g_pieces _)))) fun a hF=>?_
   refine aK hF hch 2 rfl (by kernel_rfl) rfl rfl rfl (fun w hM=>(aF hF rfl rfl)) fun a hF=>?_
   obtain ⟨u7,g9,hP⟩:=bind_some hP
   have j6:=aM g9
   obtain ⟨n6,k8,l4⟩:=Each.getr q16 j6.2
   have k2:=Each.bd q16 (bG g9)
   obtain ⟨t2,t3,rfl,p0,p1⟩:=l4
   refine aK hF hch 3 rfl (by kernel_rfl) rfl rfl rfl (fun w hM=>(aS (sz:=4) (f15 _ (hsub _ (dropM hM 2))) qU58 in156 rfl hF rfl rfl rfl k2)) fun a hF=>?_
   refine aK hF hch 4 rfl (by kernel_rfl) rfl rfl rfl (fun w hM=>(aC qU156 rfl in3 rfl hF rfl rfl rfl)) fun a hF=>?_
   refine aK hF hch 5 rfl (by kernel_rfl) rfl rfl rfl (fun w hM=>(aI qA3 hF rfl rfl ((((f15 _ (hsub _ (dropM hM 2))).elemS k8)).get 0 (RPiece.g_table _)))) fun a hF=>?_
   refine aK hF hch 6 rfl (by kernel_rfl) rfl rfl rfl (fun w hM=>(aC (off':=461) qU54 rfl in28 rfl hF rfl rfl rfl)) fun a hF=>?_
   refine aK hF hch 7 rfl (by kernel_rfl) rfl rfl rfl (fun w hM=>(aI qA28 hF rfl rfl (hM.cell (i:=1) rfl (RState.g_tables _)))) fun a hF=>?_
   refine aK hF hch 8 rfl (by kernel_rfl) rfl rfl rfl (fun w hM=>(cQ (f5 _ (hsub _ (dropM hM 2))) q6.len qU28 hF rfl rfl)) fun a hF=>?_
   refine aK hF hch 9 rfl (by kernel_rfl) rfl rfl rfl (fun w hM=>(jD hF rfl rfl rfl)) fun a hF=>?_
   refine bW hch (by kernel_rfl) fun w hM=>?_
   refine aB ?_
   refine aV hF (c:=.tmp 86) rfl (fun d2=>?_) (fun d2=>?_)
   ·have hP:=Fx.cT d2 hP
    refine aG ?_
    refine aD ?_
    refine aA hF (aH hF rfl rfl) rfl rfl rfl fun a hF=>?_
    refine aJ (aB ?_)
    refine c_ret ?_
    have hP:=oI hP
    subst hP
    have hP:=d9 _ rfl
    subst hP
    have hP:=dB i7
    subst hP
    refine bH qR136 hF rfl ?_
    exact ⟨rfl,selM hM [] 2 rfl⟩
   have hP:=Fx.cF d2 hP
   refine aW (aB ?_)
   refine aG ?_
   refine aU hF hM hP (fun F x a w=>match x with | g1=>∃ (g0:SV),LIn Bf g0 g1 ∧ Fr 129 [(11,(g0).v),(10,(m8).v),(2,.bool x2),(3,.pointer (some ⟨c0,0,none⟩)),(4,.pointer (some ⟨c1,0,none⟩)),(6,.bool false),(9,.int .i64 c3)] a ∧ MemL w (pt c1 (RMark.enc (mMk x1 s9 s11 s13 s17)) 60 :: pt c0 (RState.enc (mSt x0 s1 s3 s7)) 54 :: Lr)) (fun z6 hP p8 hF hM=>?_) ?_
   ·refine aG ?_
    refine aD ?_
    refine aA hF (aC (off':=5) qU60 rfl in58 rfl hF rfl rfl rfl) rfl rfl rfl fun a hF=>?_
    refine aA hF (aI qA58 hF rfl rfl (hM.cell (i:=0) rfl (RMark.g_pieces _))) rfl rfl rfl fun a hF=>?_
    refine aA hF (aF hF rfl rfl) rfl rfl rfl fun a hF=>?_
    obtain ⟨u8,i0,hP⟩:=bind_some hP
    have j7:=aM i0
    obtain ⟨n7,k9,l5⟩:=Each.getr q16 j7.2
    have k3:=Each.bd q16 (bG i0)
    obtain ⟨t4,t5,rfl,p2,p3⟩:=l5
    refine aA hF (aS (sz:=4) (f15 _ (hsub _ (dropM hM 2))) qU58 in156 rfl hF rfl rfl rfl k3) rfl rfl rfl fun a hF=>?_
    refine aA hF (aC qU156 rfl in3 rfl hF rfl rfl rfl) rfl rfl rfl fun a hF=>?_
    refine aA hF (aI qA3 hF rfl rfl ((((f15 _ (hsub _ (dropM hM 2))).elemS k9)).get 0 (RPiece.g_table _))) rfl rfl rfl fun a hF=>?_
    refine aA hF (jD hF rfl rfl rfl) rfl rfl rfl fun a hF=>?_
    refine aJ (aB ?_)
    refine aV hF (c:=.tmp 93) rfl (fun d3=>?_) (fun d3=>?_)
    ·have hP:=Fx.cT d3 hP
     refine bL mixed (by kernel_rfl) hM [0,1] 2 rfl fun hch=>?_
     refine aK hF hch 0 rfl (by kernel_rfl) rfl rfl rfl (fun w hM=>(aC (off':=461) qU54 rfl in28 rfl hF rfl rfl rfl)) fun a hF=>?_
     refine aK hF hch 1 rfl (by kernel_rfl) rfl rfl rfl (fun w hM=>(aI qA28 hF rfl rfl (hM.cell (i:=1) rfl (RState.g_tables _)))) fun a hF=>?_
     refine aK hF hch 2 rfl (by kernel_rfl) rfl rfl rfl (fun w hM=>(aC (off':=5) qU60 rfl in58 rfl hF rfl rfl rfl)) fun a hF=>?_
     refine aK hF hch 3 rfl (by kernel_rfl) rfl rfl rfl (fun w hM=>(aI qA58 hF rfl rfl (hM.cell (i:=0) rfl (RMark.g_pieces _)))) fun a hF=>?_
     refine aK hF hch 4 rfl (by kernel_rfl) rfl rfl rfl (fun w hM=>(aF hF rfl rfl)) fun a hF=>?_
     obtain ⟨u9,i1,hP⟩:=bind_some hP
     have j8:=aM i1
     obtain ⟨n8,l0,l6⟩:=Each.getr q16 j8.2
     have k4:=Each.bd q16 (bG i1)
     obtain ⟨t6,t7,rfl,p4,p5⟩:=l6
     refine aK hF hch 5 rfl (by kernel_rfl) rfl rfl rfl (fun w hM=>(aS (sz:=4) (f15 _ (hsub _ (dropM hM 2))) qU58 in156 rfl hF rfl rfl rfl k4)) fun a hF=>?_
     refine aK hF hch 6 rfl (by kernel_rfl) rfl rfl rfl (fun w hM=>(aC qU156 rfl in3 rfl hF rfl rfl rfl)) fun a hF=>?_
     refine aK hF hch 7 rfl (by kernel_rfl) rfl rfl rfl (fun w hM=>(aI qA3 hF rfl rfl ((((f15 _ (hsub _ (dropM hM 2))).elemS l0)).get 0 (RPiece.g_table _)))) fun a hF=>?_
     obtain ⟨m9,i2,hP⟩:=bind_some hP
     have j9:=aM i2
     obtain ⟨m2,l1,l7⟩:=Each.getr q6 j9.2
     have k5:=Each.bd q6 (bG i2)
     refine aK hF hch 8 rfl (by kernel_rfl) rfl rfl rfl (fun w hM=>(aS (sz:=1) (f5 _ (hsub _ (dropM hM 2))) qU28 in23 rfl hF rfl rfl rfl k5)) fun a hF=>?_
     refine aK hF hch 9 rfl (by kernel_rfl) rfl rfl rfl (fun w hM=>(aI qA23 hF rfl rfl ((((f5 _ (hsub _ (dropM hM 2))).elemS l1)).get 0 rfl))) fun a hF=>?_
     refine aK hF hch 10 rfl (by kernel_rfl) rfl rfl rfl (fun w hM=>(aH hF rfl rfl)) fun a hF=>?_
     refine bW hch (by kernel_rfl) fun w hM=>?_
     refine aB ?_
     have hP:=oI hP
     subst hP
     exact ⟨m9,rfl,m2,l7,hF.to ⟨rfl,rfl,rfl,rfl,rfl,rfl,rfl,trivial⟩,hM⟩
    have hP:=Fx.cF d3 hP
    refine aW (aB ?_)
    have hP:=oI hP
    subst hP
    exact ⟨x0.ctx,rfl,s1,f2,hF.to ⟨rfl,rfl,rfl,rfl,rfl,rfl,rfl,trivial⟩,hM⟩
   rintro g1 a w hP ⟨g0,d8,hF,hM⟩
   replace hP:Sh.oO x1 c3 g3 g1 = _:=hP
   unfold Sh.oO at hP
   refine aB ?_
   refine aG ?_
   refine aD ?_
   refine aA hF (aC (off':=5) qU60 rfl in58 rfl hF rfl rfl rfl) rfl rfl rfl fun a hF=>?_
   refine aA hF (aI qA58 hF rfl rfl (hM.cell (i:=0) rfl (RMark.g_pieces _))) rfl rfl rfl fun a hF=>?_
   refine aA hF (aF hF rfl rfl) rfl rfl rfl fun a hF=>?_
   obtain ⟨z0,i3,hP⟩:=bind_some hP
   have k0:=aM i3
   obtain ⟨n9,l2,l8⟩:=Each.getr q16 k0.2
   have k6:=Each.bd q16 (bG i3)
   obtain ⟨t8,t9,rfl,p6,p7⟩:=l8
   refine aA hF (aS (sz:=4) (f15 _ (hsub _ (dropM hM 2))) qU58 in156 rfl hF rfl rfl rfl k6) rfl rfl rfl fun a hF=>?_
   refine aA hF (aC qU156 rfl in3 rfl hF rfl rfl rfl) rfl rfl rfl fun a hF=>?_
   refine aA hF (aI qA3 hF rfl rfl ((((f15 _ (hsub _ (dropM hM 2))).elemS l2)).get 1 (RPiece.g_from_ _))) rfl rfl rfl fun a hF=>?_
   refine aA hF (aH hF rfl rfl) rfl rfl rfl fun a hF=>?_
   refine aJ (aB ?_)
   refine aG ?_
   refine aU hF hM hP (fun F x a w=>match x with | g2=>Fr 129 [(128,.bool g2),(2,.bool x2),(3,.pointer (some ⟨c0,0,none⟩)),(4,.pointer (some ⟨c1,0,none⟩)),(6,.bool false),(9,.int .i64 c3)] a ∧ MemL w (pt c1 (RMark.enc (mMk x1 s9 s11 s13 s17)) 60 :: pt c0 (RState.enc (mSt x0 s1 s3 s7)) 54 :: Lr)) (fun z7 hP p9 hF hM=>?_) ?_
   ·refine aD ?_
    refine aA hF (aF hF rfl rfl) rfl rfl rfl fun a hF=>?_
    refine aA hF (aF hF rfl rfl) rfl rfl rfl fun a hF=>?_
    refine aA hF (bM (d7 _ (hsub _ (dropM hM 2))) qU23 hF rfl rfl) rfl rfl rfl fun a hF=>?_
    refine aA hF (bX hF rfl rfl rfl) rfl rfl rfl fun a hF=>?_
    refine aA hF (aF hF rfl rfl) rfl rfl rfl fun a hF=>?_
    refine aA hF (bM (d8 _ (hsub _ (dropM hM 2))) qU23 hF rfl rfl) rfl rfl rfl fun a hF=>?_
    refine aA hF (eS hF rfl rfl rfl) rfl rfl rfl fun a hF=>?_
    refine aA hF (aF hF rfl rfl) rfl rfl rfl fun a hF=>?_
    refine bE 117 hF rfl (fun c2=>?_) (fun c2=>?_)
    ·have hP:=Fx.cT c2 hP
     refine aE hF rfl rfl rfl c2 rfl rfl fun a hF=>?_
     refine aE hF rfl rfl rfl c2 rfl rfl fun a hF=>?_
     refine aE hF rfl rfl rfl c2 rfl rfl fun a hF=>?_
     refine aE hF rfl rfl rfl c2 rfl rfl fun a hF=>?_
     refine aE hF rfl rfl rfl c2 rfl rfl fun a hF=>?_
     refine aE hF rfl rfl rfl c2 rfl rfl fun a hF=>?_
     refine aE hF rfl rfl rfl c2 rfl rfl fun a hF=>?_
     refine aE hF rfl rfl rfl c2 rfl rfl fun a hF=>?_
     refine aE hF rfl rfl rfl c2 rfl rfl fun a hF=>?_
     refine aE hF rfl rfl rfl c2 rfl rfl fun a hF=>?_
     refine aA hF (aP hF rfl rfl c2 rfl) rfl rfl rfl fun a hF=>?_
     refine aJ (aB ?_)
     have hP:=oI hP
     subst hP
     exact ⟨true,rfl,hF.to ⟨rfl,rfl,rfl,rfl,rfl,rfl,trivial⟩,hM⟩
    have hP:=Fx.cF c2 hP
    refine aL hF rfl rfl rfl c2 (aF hF rfl rfl) rfl rfl fun a hF=>?_
    refine aL hF rfl rfl rfl c2 (aF hF rfl rfl) rfl rfl fun a hF=>?_
    refine aL hF rfl rfl rfl c2 (aF hF rfl rfl) rfl rfl fun a hF=>?_
    refine aL hF rfl rfl rfl c2 (aF hF rfl rfl) rfl rfl fun a hF=>?_
    refine aL hF rfl rfl rfl c2 (bM (d7 _ (hsub _ (dropM hM 2))) qU23 hF rfl rfl) rfl rfl fun a hF=>?_
    refine aL hF rfl rfl rfl c2 (bX hF rfl rfl rfl) rfl rfl fun a hF=>?_
    obtain ⟨j0,i4,hP⟩:=bind_some hP
    refine aL hF rfl rfl rfl c2 (eL (d8 _ (hsub _ (dropM hM 2))) i4 qU23 in5 rfl hF rfl rfl (.inr ⟨_,_,rfl,rfl⟩) (.inr ⟨_,_,rfl,rfl⟩)) rfl rfl fun a hF=>?_
    refine aL hF rfl rfl rfl c2 (aF hF rfl rfl) rfl rfl fun a hF=>?_
    obtain ⟨n2,hP,m5⟩:=dI hP
    refine dV hF rfl rfl rfl c2 rfl rfl (aN (xs:=[.tmp 124,.tmp 125]) Tryz.call170 hF rfl rfl (R:=fun v w=>∃ x,n2 = .inl x ∧ match x with | c6=>v = .bool c6 ∧ MemL w (pt c1 (RMark.enc (mMk x1 s9 s11 s13 s17)) 60 :: pt c0 (RState.enc (mSt x0 s1 s3 s7)) 54 :: Lr)) ?_ fun v w hR=>?_)
    ·refine aR Tryz.func170 rfl Tryz.ntmps170 rfl fun a hF=>?_
     refine aG ?_
     refine aD ?_
     refine aA hF (aH hF rfl rfl) rfl rfl rfl fun a hF=>?_
     refine aJ (aB ?_)
     refine aG ?_
     refine aD ?_
     refine aA hF (aF hF rfl rfl) rfl rfl rfl fun a hF=>?_
     refine aA hF (iD ((LIn.slc d8 i4 rfl) _ (hsub _ (dropM hM 2))) qU23 qU5 qU9 hF rfl rfl) rfl rfl rfl fun a hF=>?_
     refine aA hF (aF hF rfl rfl) rfl rfl rfl fun a hF=>?_
     refine aA hF (iD (d7 _ (hsub _ (dropM hM 2))) qU23 qU5 qU9 hF rfl rfl) rfl rfl rfl fun a hF=>?_
     refine aA hF (tZ (i:=j0) (j:=g3) hF rfl rfl rfl) rfl rfl rfl fun a hF=>?_
     refine aA hF (aH hF rfl rfl) rfl rfl rfl fun a hF=>?_
     refine aJ (aB ?_)
     refine c_ret ?_
     have hP:=oI hP
     subst hP
     refine bH Tryz.results170 hF rfl ?_
     exact ⟨(decide (j0 = g3)),rfl,rfl,hM⟩
    obtain ⟨c6,rfl,rfl,hM⟩:=hR
    replace hP:Sh.oL c6 = _:=m5
    unfold Sh.oL at hP
    intro a hF
    refine aL hF rfl rfl rfl c2 (dE hF rfl rfl) rfl rfl fun a hF=>?_
    refine aA hF (aX hF rfl rfl c2 rfl) rfl rfl rfl fun a hF=>?_
    refine aJ (aB ?_)
    have hP:=oI hP
    subst hP
    exact ⟨(!c6),rfl,hF.to ⟨rfl,rfl,rfl,rfl,rfl,rfl,trivial⟩,hM⟩
   rintro g2 a w hP ⟨hF,hM⟩
   replace hP:Sh.oP c3 g2 = _:=hP
   unfold Sh.oP at hP
   refine aB ?_
   refine aV hF (c:=.tmp 128) rfl (fun d4=>?_) (fun d4=>?_)
   ·have hP:=Fx.cT d4 hP
    refine aG ?_
    refine aD ?_
    refine aA hF (aH hF rfl rfl) rfl rfl rfl fun a hF=>?_
    refine aJ (aB ?_)
    refine c_ret ?_
    have hP:=oI hP
    subst hP
    have hP:=d9 _ rfl
    subst hP
    have hP:=dB i7
    subst hP
    refine bH qR136 hF rfl ?_
    exact ⟨rfl,selM hM [] 2 rfl⟩
   have hP:=Fx.cF d4 hP
   refine aW (bK (aB ?_))
   refine aD ?_
   refine aA hF (aF hF rfl rfl) rfl rfl rfl fun a hF=>?_
   refine aA hF (bX hF rfl rfl rfl) rfl rfl rfl fun a hF=>?_
   refine aA hF (aH hF rfl rfl) rfl rfl rfl fun a hF=>?_
   refine aJ (aB ?_)
   have hP:=oI hP
   subst hP
   exact ⟨(IntKind.i64.wrap (c3 + 1)),rfl,hF.to ⟨rfl,rfl,rfl,rfl,rfl,trivial⟩,hM⟩
  have hP:=Fx.cF d1 hP
  refine bY (bD (bD (cJ ?_)))
  refine aB ?_
  have hP:=oI hP
  subst hP
  have hP:=d9 _ rfl
  subst hP
  exact ⟨(),rfl,hF.to ⟨rfl,trivial⟩,selM hM [] 2 rfl⟩
 rintro ⟨⟩ a w hP ⟨hF,hM⟩
 replace hP:Sh.rY = _:=hP
 unfold Sh.rY at hP
 refine aB ?_
 refine aG ?_
 refine aD ?_
 refine aA hF (aH hF rfl rfl) rfl rfl rfl fun a hF=>?_
 refine aJ (aB ?_)
 refine c_ret ?_
 have hP:=oI hP
 subst hP
 refine bH qR136 hF rfl ?_
 exact ⟨rfl,hM⟩
set_option maxHeartbeats 4000000 in
theorem lA {x0:QState} {x1:QMark} {s1:SV} {s3:SV} {hs4:List SV} {s7:SV} {s9:SV} {s11:SV} {s13:SV} {hs14:List RPiece} {s17:SV} {out:(QState × Int)} {w0:World} {Bf:World → Prop} {Lr:List Res} (hP:Sh.hA x0 x1 = some out) (hM:MemL w0 (Lr)) (hsub:∀ w,MemL w Lr → Bf w) (f2:LIn Bf s1 x0.ctx) (f5:LIn Bf s3 hs4) (q6:Each (LIn (X:=UInt8) Bf) hs4 x0.tables) (f8:LIn Bf s7 x0.sent) (f10:LIn Bf s9 x1.regs) (f12:LIn Bf s11 x1.slots) (f15:LIn Bf s13 hs14) (q16:Each (QPieceIn Bf) hs14 x1.pieces) (f18:LIn Bf s17 x1.sent):Calls Tryz.prog 61 #[.agg (RState.enc (mSt x0 s1 s3 s7)).toArray,.agg (RMark.enc (mMk x1 s9 s11 s13 s17)).toArray] w0 (Ret fun v w'=>∃ (s90:SV) (s92:SV) (hs93:List SV) (r95:Res) (s97:SV),v = .tuple #[.agg (RState.enc (mSt out.1 s90 s92 s97)).toArray,.int .i64 out.2] ∧ Each (LIn (X:=UInt8) r95.holds') hs93 out.1.tables ∧ MemL w' (rowL 0 s90 5 out.1.ctx :: rowL 0 s92 23 hs93 :: r95 :: rowL 0 s97 3 out.1.sent :: Lr)):=by
 unfold Sh.hA at hP
 refine aR (vs:=[.agg (RState.enc (mSt x0 s1 s3 s7)).toArray,.agg (RMark.enc (mMk x1 s9 s11 s13 s17)).toArray]) Tryz.func61 rfl Tryz.ntmps61 rfl fun a hF=>?_
 refine aG ?_
 refine aD ?_
 refine aO hF rfl rfl rfl (dA hF rfl rfl rfl fun c1 w j6 d9=>?_)
 have hM:=hM.plus d9
 intro a hF
 refine aO hF rfl rfl rfl (dA hF rfl rfl rfl fun c2 w j7 g0=>?_)
 have hM:=hM.plus g0
 intro a hF
 refine aO hF rfl rfl rfl (bO z54 (zs:=RState.zero.enc) rfl rfl fun c3 w j8 g1=>?_)
 have hM:=hM.plus g1
 replace hM:MemL _ (pt c3 (RState.enc zSt) 54 :: pt c2 (RMark.enc (mMk x1 s9 s11 s13 s17)) 60 :: pt c1 (RState.enc (mSt x0 s1 s3 s7)) 54 :: Lr):=hM
 intro a hF
 refine aA hF (aH hF rfl rfl) rfl rfl rfl fun a hF=>?_
 refine aJ (aB ?_)
 refine aG ?_
 refine aG ?_
 refine aD ?_
 refine aA hF (aQ qA54 qS54 hF rfl rfl (RState.len _) (hM.cells (i:=2) rfl (bA (RState.len _)))) rfl rfl rfl fun a hF=>?_
 obtain ⟨k2,i7,hP⟩:=bind_some hP
 refine aO hF rfl rfl rfl (aN (xs:=[.tmp 7]) Tryz.call87 hF rfl rfl (eX i7 hM (Bf:=Bf) (fun w hM=>hsub _ (dropM hM 3)) f2 f5 q6 f8) fun v w hR=>?_)
 obtain ⟨rfl,hM⟩:=hR
 replace hM:MemL _ (pt c3 (RState.enc zSt) 54 :: pt c2 (RMark.enc (mMk x1 s9 s11 s13 s17)) 60 :: pt c1 (RState.enc (mSt x0 s1 s3 s7)) 54 :: Lr):=hM
 intro a hF
 refine aA hF (dE hF rfl rfl) rfl rfl rfl fun a hF=>?_
 refine aJ (aB ?_)
 refine aV hF (c:=.tmp 9) rfl (fun d4=>?_) (fun d4=>?_)
 ·have hP:=Fx.cT d4 hP
  refine aG ?_
  refine aD ?_
  refine aA hF (cE z54 qU54 pl54 hF (parts:=[]) rfl rfl cX) rfl rfl rfl fun a hF=>?_
  refine bI rfl rfl (aY (vs:=_) qS54 (hM.obj (i:=0) rfl) hF rfl rfl rfl rfl (RState.len _) (RState.one _) (by first | (rw [RState.len,RState.len]; decide) | (rw [RState.len]; decide)) (bF ((RState.len _).trans (RState.len _).symm)) fun w g7=>?_)
  have hM:=hM.chg g7 (i:=0) rfl
  replace hM:MemL _ (pt c3 (RState.enc zSt) 54 :: pt c2 (RMark.enc (mMk x1 s9 s11 s13 s17)) 60 :: pt c1 (RState.enc (mSt x0 s1 s3 s7)) 54 :: Lr):=hM
  refine aA hF (aH hF rfl rfl) rfl rfl rfl fun a hF=>?_
  refine aJ (aB ?_)
  refine c_ret ?_
  have hM:=hM.rowNil (X:=UInt8) 0 5
  obtain ⟨g4,hM⟩:=voidM hM
  have j1:Each (LIn (X:=UInt8) g4.holds') ([]:List SV) ([]:List (List UInt8)):=Each.nil
  have hM:=hM.rowNil (X:=SV) 0 23
  have hM:=hM.rowNil (X:=Int) 0 3
  have hP:=oI hP
  subst hP
  refine dO (rs:=[.cell 4 54,.tmp 5]) qR61 hF (cG hF rfl qA54 qS54 (RState.len _) (hM.cells (i:=4) rfl (bA (RState.len _))) (cR hF rfl cP)) rfl ?_
  exact ⟨SV.nil,SV.nil,[],g4,SV.nil,rfl,j1,selM hM [3,1,2,0] 7 rfl⟩
 have hP:=Fx.cF d4 hP
 refine aW (aB ?_)
 refine aG ?_
 refine aG ?_
 refine aD ?_
 refine aA hF (aQ qA60 qS60 hF rfl rfl (RMark.len _) (hM.cells (i:=1) rfl (bA (RMark.len _)))) rfl rfl rfl fun a hF=>?_
 obtain ⟨k3,i8,hP⟩:=bind_some hP
 refine aO hF rfl rfl rfl (aN (xs:=[.tmp 11]) Tryz.call135 hF rfl rfl (gM i8 hM (Bf:=Bf) (fun w hM=>hsub _ (dropM hM 3)) f10 f12 f15 q16 f18) fun v w hR=>?_)
 obtain ⟨rfl,hM⟩:=hR
 replace hM:MemL _ (pt c3 (RState.enc zSt) 54 :: pt c2 (RMark.enc (mMk x1 s9 s11 s13 s17)) 60 :: pt c1 (RState.enc (mSt x0 s1 s3 s7)) 54 :: Lr):=hM
 intro a hF
 refine aA hF (dE hF rfl rfl) rfl rfl rfl fun a hF=>?_
 refine aJ (aB ?_)
 refine aV hF (c:=.tmp 13) rfl (fun d5=>?_) (fun d5=>?_)
 ·have hP:=Fx.cT d5 hP
  refine aG ?_
  refine aD ?_
  refine aA hF (cE z54 qU54 pl54 hF (parts:=[]) rfl rfl cX) rfl rfl rfl fun a hF=>?_
  refine bI rfl rfl (aY (vs:=_) qS54 (hM.obj (i:=0) rfl) hF rfl rfl rfl rfl (RState.len _) (RState.one _) (by first | (rw [RState.len,RState.len]; decide) | (rw [RState.len]; decide)) (bF ((RState.len _).trans (RState.len _).symm)) fun w g8=>?_)
  have hM:=hM.chg g8 (i:=0) rfl
  replace hM:MemL _ (pt c3 (RState.enc zSt) 54 :: pt c2 (RMark.enc (mMk x1 s9 s11 s13 s17)) 60 :: pt c1 (RState.enc (mSt x0 s1 s3 s7)) 54 :: Lr):=hM
  refine aA hF (aH hF rfl rfl) rfl rfl rfl fun a hF=>?_
  refine aJ (aB ?_)
  refine c_ret ?_
  have hM:=hM.rowNil (X:=UInt8) 0 5
  obtain ⟨g5,hM⟩:=voidM hM
  have j2:Each (LIn (X:=UInt8) g5.holds') ([]:List SV) ([]:List (List UInt8)):=Each.nil
  have hM:=hM.rowNil (X:=SV) 0 23
  have hM:=hM.rowNil (X:=Int) 0 3
  have hP:=oI hP
  subst hP
  refine dO (rs:=[.cell 4 54,.tmp 5]) qR61 hF (cG hF rfl qA54 qS54 (RState.len _) (hM.cells (i:=4) rfl (bA (RState.len _))) (cR hF rfl cP)) rfl ?_
  exact ⟨SV.nil,SV.nil,[],g5,SV.nil,rfl,j2,selM hM [3,1,2,0] 7 rfl⟩
 have hP:=Fx.cF d5 hP
 refine aW (aB ?_)
 refine aG ?_
 refine aG ?_
 refine aU hF hM hP (fun F x a w=>match x with | d7=>Fr 56 [(34,.bool d7),(2,.pointer (some ⟨c1,0,none⟩)),(3,.pointer (some ⟨c2,0,none⟩)),(4,.pointer (some ⟨c3,0,none⟩)),(5,.int .i64 0)] a ∧ MemL w (pt c3 (RState.enc zSt) 54 :: pt c2 (RMark.enc (mMk x1 s9 s11 s13 s17)) 60 :: pt c1 (RState.enc (mSt x0 s1 s3 s7)) 54 :: Lr)) (fun k1 hP k0 hF hM=>?_) ?_
 ·refine aD ?_
  refine aA hF (aC (off':=465) qU54 rfl in4 rfl hF rfl rfl rfl) rfl rfl rfl fun a hF=>?_
  refine aA hF (aI qA4 hF rfl rfl (hM.cell (i:=2) rfl (RState.g_done _))) rfl rfl rfl fun a hF=>?_
  refine aA hF (aF hF rfl rfl) rfl rfl rfl fun a hF=>?_
  refine bE 17 hF rfl (fun c4=>?_) (fun c4=>?_)
  ·have hP:=Fx.cT c4 hP
   refine aE hF rfl rfl rfl c4 rfl rfl fun a hF=>?_
   refine aE hF rfl rfl rfl c4 rfl rfl fun a hF=>?_
   refine aE hF rfl rfl rfl c4 rfl rfl fun a hF=>?_
   refine aE hF rfl rfl rfl c4 rfl rfl fun a hF=>?_
   refine aE hF rfl rfl rfl c4 rfl rfl fun a hF=>?_
   refine aA hF (aP hF rfl rfl c4 rfl) rfl rfl rfl fun a hF=>?_
   refine aA hF (aF hF rfl rfl) rfl rfl rfl fun a hF=>?_
   refine aE hF rfl rfl rfl rfl rfl rfl fun a hF=>?_
   refine aE hF rfl rfl rfl rfl rfl rfl fun a hF=>?_
   refine aE hF rfl rfl rfl rfl rfl rfl fun a hF=>?_
   refine aA hF (aP hF rfl rfl rfl rfl) rfl rfl rfl fun a hF=>?_
   refine aA hF (aF hF rfl rfl) rfl rfl rfl fun a hF=>?_
   refine aE hF rfl rfl rfl rfl rfl rfl fun a hF=>?_
   refine aE hF rfl rfl rfl rfl rfl rfl fun a hF=>?_
   refine aE hF rfl rfl rfl rfl rfl rfl fun a hF=>?_
   refine aE hF rfl rfl rfl rfl rfl rfl fun a hF=>?_
   refine aA hF (aP hF rfl rfl rfl rfl) rfl rfl rfl fun a hF=>?_
   refine aJ (aB ?_)
   have hP:=oI hP
   subst hP
   exact ⟨true,rfl,hF.to ⟨rfl,rfl,rfl,rfl,rfl,trivial⟩,hM⟩
  have hP:=Fx.cF c4 hP
  refine aL hF rfl rfl rfl c4 (aC (off':=463) qU54 rfl in3 rfl hF rfl rfl rfl) rfl rfl fun a hF=>?_
  refine aL hF rfl rfl rfl c4 (aI qA3 hF rfl rfl (hM.cell (i:=2) rfl (RState.g_at_ _))) rfl rfl fun a hF=>?_
  refine aL hF rfl rfl rfl c4 (aC (off':=0) qU60 rfl in3 rfl hF rfl rfl rfl) rfl rfl fun a hF=>?_
  refine aL hF rfl rfl rfl c4 (aI qA3 hF rfl rfl (hM.cell (i:=1) rfl (RMark.g_at_ _))) rfl rfl fun a hF=>?_
  refine aL hF rfl rfl rfl c4 (dC hF rfl rfl rfl) rfl rfl fun a hF=>?_
  refine aA hF (aX hF rfl rfl c4 rfl) rfl rfl rfl fun a hF=>?_
  refine aA hF (aF hF rfl rfl) rfl rfl rfl fun a hF=>?_
  refine bE 24 hF rfl (fun c9=>?_) (fun c9=>?_)
  ·have hP:=Fx.cT c9 hP
   refine aE hF rfl rfl rfl c9 rfl rfl fun a hF=>?_
   refine aE hF rfl rfl rfl c9 rfl rfl fun a hF=>?_
   refine aE hF rfl rfl rfl c9 rfl rfl fun a hF=>?_
   refine aA hF (aP hF rfl rfl c9 rfl) rfl rfl rfl fun a hF=>?_
   refine aA hF (aF hF rfl rfl) rfl rfl rfl fun a hF=>?_
   refine aE hF rfl rfl rfl rfl rfl rfl fun a hF=>?_
   refine aE hF rfl rfl rfl rfl rfl rfl fun a hF=>?_
   refine aE hF rfl rfl rfl rfl rfl rfl fun a hF=>?_
   refine aE hF rfl rfl rfl rfl rfl rfl fun a hF=>?_
   refine aA hF (aP hF rfl rfl rfl rfl) rfl rfl rfl fun a hF=>?_
   refine aJ (aB ?_)
   have hP:=oI hP
   subst hP
   exact ⟨true,rfl,hF.to ⟨rfl,rfl,rfl,rfl,rfl,trivial⟩,hM⟩
  have hP:=Fx.cF c9 hP
  refine aL hF rfl rfl rfl c9 (aC (off':=464) qU54 rfl in3 rfl hF rfl rfl rfl) rfl rfl fun a hF=>?_
  refine aL hF rfl rfl rfl c9 (aI qA3 hF rfl rfl (hM.cell (i:=2) rfl (RState.g_steps _))) rfl rfl fun a hF=>?_
  refine aL hF rfl rfl rfl c9 (dF hF rfl rfl rfl) rfl rfl fun a hF=>?_
  refine aA hF (aX hF rfl rfl c9 rfl) rfl rfl rfl fun a hF=>?_
  refine aA hF (aF hF rfl rfl) rfl rfl rfl fun a hF=>?_
  refine bE 29 hF rfl (fun c7=>?_) (fun c7=>?_)
  ·have hP:=Fx.cT c7 hP
   refine aE hF rfl rfl rfl c7 rfl rfl fun a hF=>?_
   refine aE hF rfl rfl rfl c7 rfl rfl fun a hF=>?_
   refine aE hF rfl rfl rfl c7 rfl rfl fun a hF=>?_
   refine aE hF rfl rfl rfl c7 rfl rfl fun a hF=>?_
   refine aA hF (aP hF rfl rfl c7 rfl) rfl rfl rfl fun a hF=>?_
   refine aJ (aB ?_)
   have hP:=oI hP
   subst hP
   exact ⟨true,rfl,hF.to ⟨rfl,rfl,rfl,rfl,rfl,trivial⟩,hM⟩
  have hP:=Fx.cF c7 hP
  refine aL hF rfl rfl rfl c7 (aQ qA54 qS54 hF rfl rfl (RState.len _) (hM.cells (i:=2) rfl (bA (RState.len _)))) rfl rfl fun a hF=>?_
  refine aL hF rfl rfl rfl c7 (aQ qA60 qS60 hF rfl rfl (RMark.len _) (hM.cells (i:=1) rfl (bA (RMark.len _)))) rfl rfl fun a hF=>?_
  obtain ⟨j5,i9,hP⟩:=bind_some hP
  refine dV hF rfl rfl rfl c7 rfl rfl (aN (xs:=[.tmp 30,.tmp 31,.const (.bool true)]) Tryz.call136 hF rfl rfl (kT i9 hM (Bf:=Bf) (fun w hM=>hsub _ (dropM hM 3)) f2 f5 q6 f8 f10 f12 f15 q16 f18) fun v w hR=>?_)
  obtain ⟨rfl,hM⟩:=hR
  replace hM:MemL _ (pt c3 (RState.enc zSt) 54 :: pt c2 (RMark.enc (mMk x1 s9 s11 s13 s17)) 60 :: pt c1 (RState.enc (mSt x0 s1 s3 s7)) 54 :: Lr):=hM
  intro a hF
  refine aL hF rfl rfl rfl c7 (dE hF rfl rfl) rfl rfl fun a hF=>?_
  refine aA hF (aX hF rfl rfl c7 rfl) rfl rfl rfl fun a hF=>?_
  refine aJ (aB ?_)
  have hP:=oI hP
  subst hP
  exact ⟨(!j5),rfl,hF.to ⟨rfl,rfl,rfl,rfl,rfl,trivial⟩,hM⟩
 rintro d7 a w hP ⟨hF,hM⟩
 replace hP:Sh.pI x0 x1 d7 = _:=hP
 unfold Sh.pI at hP
 refine aB ?_
 refine aV hF (c:=.tmp 34) rfl (fun d6=>?_) (fun d6=>?_)
 ·have hP:=Fx.cT d6 hP
  refine aG ?_
  refine aD ?_
  refine aA hF (cE z54 qU54 pl54 hF (parts:=[]) rfl rfl cX) rfl rfl rfl fun a hF=>?_
  refine bI rfl rfl (aY (vs:=_) qS54 (hM.obj (i:=0) rfl) hF rfl rfl rfl rfl (RState.len _) (RState.one _) (by first | (rw [RState.len,RState.len]; decide) | (rw [RState.len]; decide)) (bF ((RState.len _).trans (RState.len _).symm)) fun w g9=>?_)
  have hM:=hM.chg g9 (i:=0) rfl
  replace hM:MemL _ (pt c3 (RState.enc zSt) 54 :: pt c2 (RMark.enc (mMk x1 s9 s11 s13 s17)) 60 :: pt c1 (RState.enc (mSt x0 s1 s3 s7)) 54 :: Lr):=hM
  refine aA hF (aH hF rfl rfl) rfl rfl rfl fun a hF=>?_
  refine aJ (aB ?_)
  refine c_ret ?_
  have hM:=hM.rowNil (X:=UInt8) 0 5
  obtain ⟨g6,hM⟩:=voidM hM
  have j3:Each (LIn (X:=UInt8) g6.holds') ([]:List SV) ([]:List (List UInt8)):=Each.nil
  have hM:=hM.rowNil (X:=SV) 0 23
  have hM:=hM.rowNil (X:=Int) 0 3
  have hP:=oI hP
  subst hP
  refine dO (rs:=[.cell 4 54,.tmp 5]) qR61 hF (cG hF rfl qA54 qS54 (RState.len _) (hM.cells (i:=4) rfl (bA (RState.len _))) (cR hF rfl cP)) rfl ?_
  exact ⟨SV.nil,SV.nil,[],g6,SV.nil,rfl,j3,selM hM [3,1,2,0] 7 rfl⟩
 have hP:=Fx.cF d6 hP
 refine aW (aB ?_)
 refine aG ?_
 refine aD ?_
 refine aA hF (aQ qA54 qS54 hF rfl rfl (RState.len _) (hM.cells (i:=2) rfl (bA (RState.len _)))) rfl rfl rfl fun a hF=>?_
 refine aA hF (aQ qA60 qS60 hF rfl rfl (RMark.len _) (hM.cells (i:=1) rfl (bA (RMark.len _)))) rfl rfl rfl fun a hF=>?_
 obtain ⟨c0,j0,hP⟩:=bind_some hP
 refine aO hF rfl rfl rfl (aN (xs:=[.tmp 36,.tmp 37,.const (.bool false)]) Tryz.call137 hF rfl rfl (mY j0 hM (Bf:=Bf) (fun w hM=>hsub _ (dropM hM 3)) f2 f5 q6 f8 f10 f12 f15 q16 f18) fun v w hR=>?_)
 obtain ⟨c5,c6,d0,d2,d1,rfl,j4,hM⟩:=hR
 intro a hF
 refine aO hF rfl rfl rfl (bO z54 (zs:=RState.zero.enc) rfl rfl fun c8 w j9 g2=>?_)
 have hM:=hM.plus g2
 replace hM:MemL _ (pt c8 (RState.enc zSt) 54 :: rowL 0 c5 5 c0.ctx :: rowL 0 c6 23 d0 :: d2 :: rowL 0 d1 3 c0.sent :: pt c3 (RState.enc zSt) 54 :: pt c2 (RMark.enc (mMk x1 s9 s11 s13 s17)) 60 :: pt c1 (RState.enc (mSt x0 s1 s3 s7)) 54 :: Lr):=hM
 intro a hF
 refine bI rfl rfl (aY (vs:=_) qS54 (hM.obj (i:=0) rfl) hF rfl rfl rfl rfl (RState.len _) (RState.one _) (by first | (rw [RState.len,RState.len]; decide) | (rw [RState.len]; decide)) (bF ((RState.len _).trans (RState.len _).symm)) fun w i0=>?_)
 have hM:=hM.chg i0 (i:=0) rfl
 replace hM:MemL _ (pt c8 (RState.enc (mSt c0 c5 c6 d1)) 54 :: rowL 0 c5 5 c0.ctx :: rowL 0 c6 23 d0 :: d2 :: rowL 0 d1 3 c0.sent :: pt c3 (RState.enc zSt) 54 :: pt c2 (RMark.enc (mMk x1 s9 s11 s13 s17)) 60 :: pt c1 (RState.enc (mSt x0 s1 s3 s7)) 54 :: Lr):=hM
 refine aJ (aB ?_)
 refine aG ?_
 refine aD ?_
 refine aA hF (aC (off':=1) qU60 rfl in3 rfl hF rfl rfl rfl) rfl rfl rfl fun a hF=>?_
 refine aA hF (aI qA3 hF rfl rfl (hM.cell (i:=6) rfl (RMark.g_next _))) rfl rfl rfl fun a hF=>?_
 refine aA hF (aC (off':=463) qU54 rfl in3 rfl hF rfl rfl rfl) rfl rfl rfl fun a hF=>?_
 refine bI rfl rfl (bS qS3 (hM.obj (i:=0) rfl) hF rfl rfl rfl rfl (by rw [RState.len]; decide) (RState.s_at_ _ _) fun w i1=>?_)
 have hM:=hM.chg i1 (i:=0) rfl
 replace hM:MemL _ (pt c8 (RState.enc (RState.mk c0.regs c0.stack c5 c6 d1 x1.next c0.steps c0.done)) 54 :: rowL 0 c5 5 c0.ctx :: rowL 0 c6 23 d0 :: d2 :: rowL 0 d1 3 c0.sent :: pt c3 (RState.enc zSt) 54 :: pt c2 (RMark.enc (mMk x1 s9 s11 s13 s17)) 60 :: pt c1 (RState.enc (mSt x0 s1 s3 s7)) 54 :: Lr):=hM
 refine aJ (aB ?_)
 refine aG ?_
 refine aD ?_
 refine aA hF (aC (off':=2) qU60 rfl in4 rfl hF rfl rfl rfl) rfl rfl rfl fun a hF=>?_
 refine aA hF (aI qA4 hF rfl rfl (hM.cell (i:=6) rfl (RMark.g_done _))) rfl rfl rfl fun a hF=>?_
 refine aA hF (aC (off':=465) qU54 rfl in4 rfl hF rfl rfl rfl) rfl rfl rfl fun a hF=>?_
 refine bI rfl rfl (bS qS4 (hM.obj (i:=0) rfl) hF rfl rfl rfl rfl (by rw [RState.len]; decide) (RState.s_done _ _) fun w i2=>?_)
 have hM:=hM.chg i2 (i:=0) rfl
 replace hM:MemL _ (pt c8 (RState.enc (RState.mk c0.regs c0.stack c5 c6 d1 x1.next c0.steps x1.done)) 54 :: rowL 0 c5 5 c0.ctx :: rowL 0 c6 23 d0 :: d2 :: rowL 0 d1 3 c0.sent :: pt c3 (RState.enc zSt) 54 :: pt c2 (RMark.enc (mMk x1 s9 s11 s13 s17)) 60 :: pt c1 (RState.enc (mSt x0 s1 s3 s7)) 54 :: Lr):=hM
 refine aJ (aB ?_)
 refine aG ?_
 refine aD ?_
 refine aA hF (aC (off':=464) qU54 rfl in3 rfl hF rfl rfl rfl) rfl rfl rfl fun a hF=>?_
 refine aA hF (aI qA3 hF rfl rfl (hM.cell (i:=7) rfl (RState.g_steps _))) rfl rfl rfl fun a hF=>?_
 refine aA hF (bX hF rfl rfl rfl) rfl rfl rfl fun a hF=>?_
 refine aA hF (aC (off':=464) qU54 rfl in3 rfl hF rfl rfl rfl) rfl rfl rfl fun a hF=>?_
 refine bI rfl rfl (bS qS3 (hM.obj (i:=0) rfl) hF rfl rfl rfl rfl (by rw [RState.len]; decide) (RState.s_steps _ _) fun w i3=>?_)
 have hM:=hM.chg i3 (i:=0) rfl
 replace hM:MemL _ (pt c8 (RState.enc (RState.mk c0.regs c0.stack c5 c6 d1 x1.next (IntKind.i64.wrap (x0.steps + 1)) x1.done)) 54 :: rowL 0 c5 5 c0.ctx :: rowL 0 c6 23 d0 :: d2 :: rowL 0 d1 3 c0.sent :: pt c3 (RState.enc zSt) 54 :: pt c2 (RMark.enc (mMk x1 s9 s11 s13 s17)) 60 :: pt c1 (RState.enc (mSt x0 s1 s3 s7)) 54 :: Lr):=hM
 refine aJ (aB ?_)
 refine aG ?_
 refine aD ?_
 refine aA hF (aC (off':=462) qU54 rfl in52 rfl hF rfl rfl rfl) rfl rfl rfl fun a hF=>?_
 refine aA hF (aI qA52 hF rfl rfl (hM.cell (i:=0) rfl (RState.g_sent _))) rfl rfl rfl fun a hF=>?_
 refine aA hF (aC (off':=6) qU60 rfl in52 rfl hF rfl rfl rfl) rfl rfl rfl fun a hF=>?_
 refine aA hF (aI qA52 hF rfl rfl (hM.cell (i:=6) rfl (RMark.g_sent _))) rfl rfl rfl fun a hF=>?_
 obtain ⟨d8,i6,hP⟩:=bind_some hP
 refine aO hF rfl rfl rfl (cY (X:=Int) i6 qU52 in3 rfl rfl rfl rfl hF rfl rfl rfl (hM.own (X:=Int) (i:=4) rfl) (f18 _ (hsub _ (dropM hM 8))) fun d3 w g3=>?_)
 have hM:=hM.chg g3 (i:=4) rfl
 replace hM:MemL _ (pt c8 (RState.enc (RState.mk c0.regs c0.stack c5 c6 d1 x1.next (IntKind.i64.wrap (x0.steps + 1)) x1.done)) 54 :: rowL 0 c5 5 c0.ctx :: rowL 0 c6 23 d0 :: d2 :: rowL 0 d3 3 d8 :: pt c3 (RState.enc zSt) 54 :: pt c2 (RMark.enc (mMk x1 s9 s11 s13 s17)) 60 :: pt c1 (RState.enc (mSt x0 s1 s3 s7)) 54 :: Lr):=hM
 intro a hF
 refine aA hF (aC (off':=462) qU54 rfl in52 rfl hF rfl rfl rfl) rfl rfl rfl fun a hF=>?_
 refine bI rfl rfl (bS qS52 (hM.obj (i:=0) rfl) hF rfl rfl rfl rfl (by rw [RState.len]; decide) (RState.s_sent _ _) fun w i4=>?_)
 have hM:=hM.chg i4 (i:=0) rfl
 replace hM:MemL _ (pt c8 (RState.enc (RState.mk c0.regs c0.stack c5 c6 d3 x1.next (IntKind.i64.wrap (x0.steps + 1)) x1.done)) 54 :: rowL 0 c5 5 c0.ctx :: rowL 0 c6 23 d0 :: d2 :: rowL 0 d3 3 d8 :: pt c3 (RState.enc zSt) 54 :: pt c2 (RMark.enc (mMk x1 s9 s11 s13 s17)) 60 :: pt c1 (RState.enc (mSt x0 s1 s3 s7)) 54 :: Lr):=hM
 refine aJ (aB ?_)
 refine aG ?_
 refine aD ?_
 refine aA hF (aQ qA54 qS54 hF rfl rfl (RState.len _) (hM.cells (i:=0) rfl (bA (RState.len _)))) rfl rfl rfl fun a hF=>?_
 refine bI rfl rfl (aY (vs:=_) qS54 (hM.obj (i:=5) rfl) hF rfl rfl rfl rfl (RState.len _) (RState.one _) (by first | (rw [RState.len,RState.len]; decide) | (rw [RState.len]; decide)) (bF ((RState.len _).trans (RState.len _).symm)) fun w i5=>?_)
 have hM:=hM.chg i5 (i:=5) rfl
 replace hM:MemL _ (pt c8 (RState.enc (RState.mk c0.regs c0.stack c5 c6 d3 x1.next (IntKind.i64.wrap (x0.steps + 1)) x1.done)) 54 :: rowL 0 c5 5 c0.ctx :: rowL 0 c6 23 d0 :: d2 :: rowL 0 d3 3 d8 :: pt c3 (RState.enc (RState.mk c0.regs c0.stack c5 c6 d3 x1.next (IntKind.i64.wrap (x0.steps + 1)) x1.done)) 54 :: pt c2 (RMark.enc (mMk x1 s9 s11 s13 s17)) 60 :: pt c1 (RState.enc (mSt x0 s1 s3 s7)) 54 :: Lr):=hM
 refine aA hF (aH hF rfl rfl) rfl rfl rfl fun a hF=>?_
 refine aJ (aB ?_)
 refine c_ret ?_
 have hP:=oI hP
 subst hP
 refine dO (rs:=[.cell 4 54,.tmp 5]) qR61 hF (cG hF rfl qA54 qS54 (RState.len _) (hM.cells (i:=5) rfl (bA (RState.len _))) (cR hF rfl cP)) rfl ?_
 exact ⟨c5,c6,d0,d2,d3,rfl,j4,selM hM [1,2,3,4] 8 rfl⟩
set_option maxHeartbeats 4000000 in
theorem lW {x0:QState} {x1:QMark} {s1:SV} {s3:SV} {hs4:List SV} {s7:SV} {s9:SV} {s11:SV} {s13:SV} {hs14:List RPiece} {s17:SV} {out:(QState × Int)} {w0:World} {Bf:World → Prop} {Lr:List Res} (hP:Sh.iN x0 x1 = some out) (hM:MemL w0 (Lr)) (hsub:∀ w,MemL w Lr → Bf w) (f2:LIn Bf s1 x0.ctx) (f5:LIn Bf s3 hs4) (q6:Each (LIn (X:=UInt8) Bf) hs4 x0.tables) (f8:LIn Bf s7 x0.sent) (f10:LIn Bf s9 x1.regs) (f12:LIn Bf s11 x1.slots) (f15:LIn Bf s13 hs14) (q16:Each (QPieceIn Bf) hs14 x1.pieces) (f18:LIn Bf s17 x1.sent):Calls Tryz.prog 62 #[.agg (RState.enc (mSt x0 s1 s3 s7)).toArray,.agg (RMark.enc (mMk x1 s9 s11 s13 s17)).toArray] w0 (Ret fun v w'=>∃ (i4:SV) (i5:SV) (g0:List SV) (i0:Res) (i6:SV),v = .tuple #[.agg (RState.enc (mSt out.1 i4 i5 i6)).toArray,.int .i64 out.2] ∧ Each (LIn (X:=UInt8) i0.holds') g0 out.1.tables ∧ MemL w' (rowL 0 i4 5 out.1.ctx :: rowL 0 i5 23 g0 :: i0 :: rowL 0 i6 3 out.1.sent :: Lr)):=by
 unfold Sh.iN at hP
 refine aR (vs:=[.agg (RState.enc (mSt x0 s1 s3 s7)).toArray,.agg (RMark.enc (mMk x1 s9 s11 s13 s17)).toArray]) Tryz.func62 rfl Tryz.ntmps62 rfl fun a hF=>?_
 refine aG ?_
 refine aD ?_
 refine aO hF rfl rfl rfl (dA hF rfl rfl rfl fun c2 w k7 g4=>?_)
 have hM:=hM.plus g4
 intro a hF
 refine aO hF rfl rfl rfl (dA hF rfl rfl rfl fun c3 w k8 g5=>?_)
 have hM:=hM.plus g5
 intro a hF
 refine aO hF rfl rfl rfl (bO z54 (zs:=RState.zero.enc) rfl rfl fun c4 w k9 g6=>?_)
 have hM:=hM.plus g6
 replace hM:MemL _ (pt c4 (RState.enc zSt) 54 :: pt c3 (RMark.enc (mMk x1 s9 s11 s13 s17)) 60 :: pt c2 (RState.enc (mSt x0 s1 s3 s7)) 54 :: Lr):=hM
 intro a hF
 refine aA hF (aH hF rfl rfl) rfl rfl rfl fun a hF=>?_
 refine aJ (aB ?_)
 refine aG ?_
 refine aG ?_
 refine aD ?_
 refine aA hF (aQ qA54 qS54 hF rfl rfl (RState.len _) (hM.cells (i:=2) rfl (bA (RState.len _)))) rfl rfl rfl fun a hF=>?_
 obtain ⟨l3,j6,hP⟩:=bind_some hP
 refine aO hF rfl rfl rfl (aN (xs:=[.tmp 8]) Tryz.call87 hF rfl rfl (eX j6 hM (Bf:=Bf) (fun w hM=>hsub _ (dropM hM 3)) f2 f5 q6 f8) fun v w hR=>?_)
 obtain ⟨rfl,hM⟩:=hR
 replace hM:MemL _ (pt c4 (RState.enc zSt) 54 :: pt c3 (RMark.enc (mMk x1 s9 s11 s13 s17)) 60 :: pt c2 (RState.enc (mSt x0 s1 s3 s7)) 54 :: Lr):=hM
 intro a hF
 refine aA hF (dE hF rfl rfl) rfl rfl rfl fun a hF=>?_
 refine aJ (aB ?_)
 refine aV hF (c:=.tmp 10) rfl (fun d6=>?_) (fun d6=>?_)
 ·have hP:=Fx.cT d6 hP
  refine aG ?_
  refine aD ?_
  refine aA hF (cE z54 qU54 pl54 hF (parts:=[]) rfl rfl cX) rfl rfl rfl fun a hF=>?_
  refine bI rfl rfl (aY (vs:=_) qS54 (hM.obj (i:=0) rfl) hF rfl rfl rfl rfl (RState.len _) (RState.one _) (by first | (rw [RState.len,RState.len]; decide) | (rw [RState.len]; decide)) (bF ((RState.len _).trans (RState.len _).symm)) fun w i7=>?_)
  have hM:=hM.chg i7 (i:=0) rfl
  replace hM:MemL _ (pt c4 (RState.enc zSt) 54 :: pt c3 (RMark.enc (mMk x1 s9 s11 s13 s17)) 60 :: pt c2 (RState.enc (mSt x0 s1 s3 s7)) 54 :: Lr):=hM
  refine aA hF (aH hF rfl rfl) rfl rfl rfl fun a hF=>?_
  refine aJ (aB ?_)
  refine c_ret ?_
  have hM:=hM.rowNil (X:=UInt8) 0 5
  obtain ⟨i1,hM⟩:=voidM hM
  have k0:Each (LIn (X:=UInt8) i1.holds') ([]:List SV) ([]:List (List UInt8)):=Each.nil
  have hM:=hM.rowNil (X:=SV) 0 23
  have hM:=hM.rowNil (X:=Int) 0 3
  have hP:=oI hP
  subst hP
  refine dO (rs:=[.cell 4 54,.tmp 5]) qR62 hF (cG hF rfl qA54 qS54 (RState.len _) (hM.cells (i:=4) rfl (bA (RState.len _))) (cR hF rfl cP)) rfl ?_
  exact ⟨SV.nil,SV.nil,[],i1,SV.nil,rfl,k0,selM hM [3,1,2,0] 7 rfl⟩
 have hP:=Fx.cF d6 hP
 refine aW (aB ?_)
 refine aG ?_
 refine aG ?_
 refine aD ?_
 refine aA hF (aQ qA60 qS60 hF rfl rfl (RMark.len _) (hM.cells (i:=1) rfl (bA (RMark.len _)))) rfl rfl rfl fun a hF=>?_
 obtain ⟨l4,j7,hP⟩:=bind_some hP
 refine aO hF rfl rfl rfl (aN (xs:=[.tmp 12]) Tryz.call135 hF rfl rfl (gM j7 hM (Bf:=Bf) (fun w hM=>hsub _ (dropM hM 3)) f10 f12 f15 q16 f18) fun v w hR=>?_)
 obtain ⟨rfl,hM⟩:=hR
 replace hM:MemL _ (pt c4 (RState.enc zSt) 54 :: pt c3 (RMark.enc (mMk x1 s9 s11 s13 s17)) 60 :: pt c2 (RState.enc (mSt x0 s1 s3 s7)) 54 :: Lr):=hM
 intro a hF
 refine aA hF (dE hF rfl rfl) rfl rfl rfl fun a hF=>?_
 refine aJ (aB ?_)
 refine aV hF (c:=.tmp 14) rfl (fun d7=>?_) (fun d7=>?_)
 ·have hP:=Fx.cT d7 hP
  refine aG ?_
  refine aD ?_
  refine aA hF (cE z54 qU54 pl54 hF (parts:=[]) rfl rfl cX) rfl rfl rfl fun a hF=>?_
  refine bI rfl rfl (aY (vs:=_) qS54 (hM.obj (i:=0) rfl) hF rfl rfl rfl rfl (RState.len _) (RState.one _) (by first | (rw [RState.len,RState.len]; decide) | (rw [RState.len]; decide)) (bF ((RState.len _).trans (RState.len _).symm)) fun w i8=>?_)
  have hM:=hM.chg i8 (i:=0) rfl
  replace hM:MemL _ (pt c4 (RState.enc zSt) 54 :: pt c3 (RMark.enc (mMk x1 s9 s11 s13 s17)) 60 :: pt c2 (RState.enc (mSt x0 s1 s3 s7)) 54 :: Lr):=hM
  refine aA hF (aH hF rfl rfl) rfl rfl rfl fun a hF=>?_
  refine aJ (aB ?_)
  refine c_ret ?_
  have hM:=hM.rowNil (X:=UInt8) 0 5
  obtain ⟨i2,hM⟩:=voidM hM
  have k1:Each (LIn (X:=UInt8) i2.holds') ([]:List SV) ([]:List (List UInt8)):=Each.nil
  have hM:=hM.rowNil (X:=SV) 0 23
  have hM:=hM.rowNil (X:=Int) 0 3
  have hP:=oI hP
  subst hP
  refine dO (rs:=[.cell 4 54,.tmp 5]) qR62 hF (cG hF rfl qA54 qS54 (RState.len _) (hM.cells (i:=4) rfl (bA (RState.len _))) (cR hF rfl cP)) rfl ?_
  exact ⟨SV.nil,SV.nil,[],i2,SV.nil,rfl,k1,selM hM [3,1,2,0] 7 rfl⟩
 have hP:=Fx.cF d7 hP
 refine aW (aB ?_)
 refine aG ?_
 refine aD ?_
 refine aA hF (aC (off':=462) qU54 rfl in52 rfl hF rfl rfl rfl) rfl rfl rfl fun a hF=>?_
 refine aA hF (aI qA52 hF rfl rfl (hM.cell (i:=2) rfl (RState.g_sent _))) rfl rfl rfl fun a hF=>?_
 refine aA hF (bM (f8 _ (hsub _ (dropM hM 3))) qU52 hF rfl rfl) rfl rfl rfl fun a hF=>?_
 refine aA hF (aC (off':=6) qU60 rfl in52 rfl hF rfl rfl rfl) rfl rfl rfl fun a hF=>?_
 refine aA hF (aI qA52 hF rfl rfl (hM.cell (i:=1) rfl (RMark.g_sent _))) rfl rfl rfl fun a hF=>?_
 refine aA hF (bM (f18 _ (hsub _ (dropM hM 3))) qU52 hF rfl rfl) rfl rfl rfl fun a hF=>?_
 refine aA hF (eV hF rfl rfl rfl) rfl rfl rfl fun a hF=>?_
 refine aA hF (aH hF rfl rfl) rfl rfl rfl fun a hF=>?_
 refine aJ (aB ?_)
 refine aG ?_
 refine aG ?_
 refine aU hF hM hP (fun F x a w=>match x with | d9=>Fr 86 [(67,.bool d9),(2,.pointer (some ⟨c2,0,none⟩)),(3,.pointer (some ⟨c3,0,none⟩)),(4,.pointer (some ⟨c4,0,none⟩)),(5,.int .i64 0),(6,.int .i64 (IntKind.i64.wrap ((x0.sent.length:Int) - (x1.sent.length:Int))))] a ∧ MemL w (pt c4 (RState.enc zSt) 54 :: pt c3 (RMark.enc (mMk x1 s9 s11 s13 s17)) 60 :: pt c2 (RState.enc (mSt x0 s1 s3 s7)) 54 :: Lr)) (fun l2 hP l1 hF hM=>?_) ?_
 ·refine bL mixed (by kernel_rfl) hM [0,1,2] 3 rfl fun hch=>?_
  refine aK hF hch 0 rfl (by kernel_rfl) rfl rfl rfl (fun w hM=>(aC (off':=463) qU54 rfl in3 rfl hF rfl rfl rfl)) fun a hF=>?_
  refine aK hF hch 1 rfl (by kernel_rfl) rfl rfl rfl (fun w hM=>(aI qA3 hF rfl rfl (hM.cell (i:=2) rfl (RState.g_at_ _)))) fun a hF=>?_
  refine aK hF hch 2 rfl (by kernel_rfl) rfl rfl rfl (fun w hM=>(aC (off':=1) qU60 rfl in3 rfl hF rfl rfl rfl)) fun a hF=>?_
  refine aK hF hch 3 rfl (by kernel_rfl) rfl rfl rfl (fun w hM=>(aI qA3 hF rfl rfl (hM.cell (i:=1) rfl (RMark.g_next _)))) fun a hF=>?_
  refine aK hF hch 4 rfl (by kernel_rfl) rfl rfl rfl (fun w hM=>(dC hF rfl rfl rfl)) fun a hF=>?_
  refine aK hF hch 5 rfl (by kernel_rfl) rfl rfl rfl (fun w hM=>(aF hF rfl rfl)) fun a hF=>?_
  refine bE 28 hF rfl (fun c6=>?_) (fun c6=>?_)
  ·have hP:=Fx.cT c6 hP
   refine aZ hF hch 6 rfl (by kernel_rfl) rfl rfl rfl c6 rfl rfl fun a hF=>?_
   refine aZ hF hch 7 rfl (by kernel_rfl) rfl rfl rfl c6 rfl rfl fun a hF=>?_
   refine aZ hF hch 8 rfl (by kernel_rfl) rfl rfl rfl c6 rfl rfl fun a hF=>?_
   refine aZ hF hch 9 rfl (by kernel_rfl) rfl rfl rfl c6 rfl rfl fun a hF=>?_
   refine aZ hF hch 10 rfl (by kernel_rfl) rfl rfl rfl c6 rfl rfl fun a hF=>?_
   refine aK hF hch 11 rfl (by kernel_rfl) rfl rfl rfl (fun w hM=>(aP hF rfl rfl c6 rfl)) fun a hF=>?_
   refine aK hF hch 12 rfl (by kernel_rfl) rfl rfl rfl (fun w hM=>(aF hF rfl rfl)) fun a hF=>?_
   refine aZ hF hch 13 rfl (by kernel_rfl) rfl rfl rfl rfl rfl rfl fun a hF=>?_
   refine aZ hF hch 14 rfl (by kernel_rfl) rfl rfl rfl rfl rfl rfl fun a hF=>?_
   refine aZ hF hch 15 rfl (by kernel_rfl) rfl rfl rfl rfl rfl rfl fun a hF=>?_
   refine aK hF hch 16 rfl (by kernel_rfl) rfl rfl rfl (fun w hM=>(aP hF rfl rfl rfl rfl)) fun a hF=>?_
   refine aK hF hch 17 rfl (by kernel_rfl) rfl rfl rfl (fun w hM=>(aF hF rfl rfl)) fun a hF=>?_
   refine aZ hF hch 18 rfl (by kernel_rfl) rfl rfl rfl rfl rfl rfl fun a hF=>?_
   refine aZ hF hch 19 rfl (by kernel_rfl) rfl rfl rfl rfl rfl rfl fun a hF=>?_
   refine aZ hF hch 20 rfl (by kernel_rfl) rfl rfl rfl rfl rfl rfl fun a hF=>?_
   refine aZ hF hch 21 rfl (by kernel_rfl) rfl rfl rfl rfl rfl rfl fun a hF=>?_
   refine aK hF hch 22 rfl (by kernel_rfl) rfl rfl rfl (fun w hM=>(aP hF rfl rfl rfl rfl)) fun a hF=>?_
   refine aK hF hch 23 rfl (by kernel_rfl) rfl rfl rfl (fun w hM=>(aF hF rfl rfl)) fun a hF=>?_
   refine aZ hF hch 24 rfl (by kernel_rfl) rfl rfl rfl rfl rfl rfl fun a hF=>?_
   refine aZ hF hch 25 rfl (by kernel_rfl) rfl rfl rfl rfl rfl rfl fun a hF=>?_
   refine aK hF hch 26 rfl (by kernel_rfl) rfl rfl rfl (fun w hM=>(aP hF rfl rfl rfl rfl)) fun a hF=>?_
   refine aK hF hch 27 rfl (by kernel_rfl) rfl rfl rfl (fun w hM=>(aF hF rfl rfl)) fun a hF=>?_
   refine aZ hF hch 28 rfl (by kernel_rfl) rfl rfl rfl rfl rfl rfl fun a hF=>?_
   refine aZ hF hch 29 rfl (by kernel_rfl) rfl rfl rfl rfl rfl rfl fun a hF=>?_
   refine aZ hF hch 30 rfl (by kernel_rfl) rfl rfl rfl rfl rfl rfl fun a hF=>?_
   refine aZ hF hch 31 rfl (by kernel_rfl) rfl rfl rfl rfl rfl rfl fun a hF=>?_
   refine aZ hF hch 32 rfl (by kernel_rfl) rfl rfl rfl rfl rfl rfl fun a hF=>?_
   refine cA hF hch 33 rfl (by kernel_rfl) rfl rfl rfl rfl rfl fun a hF=>?_
   refine cA hF hch 34 rfl (by kernel_rfl) rfl rfl rfl rfl rfl fun a hF=>?_
   refine cA hF hch 35 rfl (by kernel_rfl) rfl rfl rfl rfl rfl fun a hF=>?_
   refine cA hF hch 36 rfl (by kernel_rfl) rfl rfl rfl rfl rfl fun a hF=>?_
   refine cA hF hch 37 rfl (by kernel_rfl) rfl rfl rfl rfl rfl fun a hF=>?_
   refine cA hF hch 38 rfl (by kernel_rfl) rfl rfl rfl rfl rfl fun a hF=>?_
   refine cA hF hch 39 rfl (by kernel_rfl) rfl rfl rfl rfl rfl fun a hF=>?_
   refine cA hF hch 40 rfl (by kernel_rfl) rfl rfl rfl rfl rfl fun a hF=>?_
   refine cA hF hch 41 rfl (by kernel_rfl) rfl rfl rfl rfl rfl fun a hF=>?_
   refine cA hF hch 42 rfl (by kernel_rfl) rfl rfl rfl rfl rfl fun a hF=>?_
   refine aZ hF hch 43 rfl (by kernel_rfl) rfl rfl rfl rfl rfl rfl fun a hF=>?_
   refine aK hF hch 44 rfl (by kernel_rfl) rfl rfl rfl (fun w hM=>(aP hF rfl rfl rfl rfl)) fun a hF=>?_
   refine bW hch (by kernel_rfl) fun w hM=>?_
   refine aB ?_
   have hP:=oI hP
   subst hP
   exact ⟨true,rfl,hF.to ⟨rfl,rfl,rfl,rfl,rfl,rfl,trivial⟩,hM⟩
  have hP:=Fx.cF c6 hP
  refine bQ hF hch 6 rfl (by kernel_rfl) rfl rfl rfl c6 rfl rfl (fun w hM=>(aC (off':=465) qU54 rfl in4 rfl hF rfl rfl rfl)) fun a hF=>?_
  refine bQ hF hch 7 rfl (by kernel_rfl) rfl rfl rfl c6 rfl rfl (fun w hM=>(aI qA4 hF rfl rfl (hM.cell (i:=2) rfl (RState.g_done _)))) fun a hF=>?_
  refine bQ hF hch 8 rfl (by kernel_rfl) rfl rfl rfl c6 rfl rfl (fun w hM=>(aC (off':=2) qU60 rfl in4 rfl hF rfl rfl rfl)) fun a hF=>?_
  refine bQ hF hch 9 rfl (by kernel_rfl) rfl rfl rfl c6 rfl rfl (fun w hM=>(aI qA4 hF rfl rfl (hM.cell (i:=1) rfl (RMark.g_done _)))) fun a hF=>?_
  refine bQ hF hch 10 rfl (by kernel_rfl) rfl rfl rfl c6 rfl rfl (fun w hM=>(aAq qU4 hF rfl rfl rfl)) fun a hF=>?_
  refine aK hF hch 11 rfl (by kernel_rfl) rfl rfl rfl (fun w hM=>(aX hF rfl rfl c6 rfl)) fun a hF=>?_
  refine aK hF hch 12 rfl (by kernel_rfl) rfl rfl rfl (fun w hM=>(aF hF rfl rfl)) fun a hF=>?_
  refine bE 35 hF rfl (fun d1=>?_) (fun d1=>?_)
  ·have hP:=Fx.cT d1 hP
   refine aZ hF hch 13 rfl (by kernel_rfl) rfl rfl rfl d1 rfl rfl fun a hF=>?_
   refine aZ hF hch 14 rfl (by kernel_rfl) rfl rfl rfl d1 rfl rfl fun a hF=>?_
   refine aZ hF hch 15 rfl (by kernel_rfl) rfl rfl rfl d1 rfl rfl fun a hF=>?_
   refine aK hF hch 16 rfl (by kernel_rfl) rfl rfl rfl (fun w hM=>(aP hF rfl rfl d1 rfl)) fun a hF=>?_
   refine aK hF hch 17 rfl (by kernel_rfl) rfl rfl rfl (fun w hM=>(aF hF rfl rfl)) fun a hF=>?_
   refine aZ hF hch 18 rfl (by kernel_rfl) rfl rfl rfl rfl rfl rfl fun a hF=>?_
   refine aZ hF hch 19 rfl (by kernel_rfl) rfl rfl rfl rfl rfl rfl fun a hF=>?_
   refine aZ hF hch 20 rfl (by kernel_rfl) rfl rfl rfl rfl rfl rfl fun a hF=>?_
   refine aZ hF hch 21 rfl (by kernel_rfl) rfl rfl rfl rfl rfl rfl fun a hF=>?_
   refine aK hF hch 22 rfl (by kernel_rfl) rfl rfl rfl (fun w hM=>(aP hF rfl rfl rfl rfl)) fun a hF=>?_
   refine aK hF hch 23 rfl (by kernel_rfl) rfl rfl rfl (fun w hM=>(aF hF rfl rfl)) fun a hF=>?_
   refine aZ hF hch 24 rfl (by kernel_rfl) rfl rfl rfl rfl rfl rfl fun a hF=>?_
   refine aZ hF hch 25 rfl (by kernel_rfl) rfl rfl rfl rfl rfl rfl fun a hF=>?_
   refine aK hF hch 26 rfl (by kernel_rfl) rfl rfl rfl (fun w hM=>(aP hF rfl rfl rfl rfl)) fun a hF=>?_
   refine aK hF hch 27 rfl (by kernel_rfl) rfl rfl rfl (fun w hM=>(aF hF rfl rfl)) fun a hF=>?_
   refine aZ hF hch 28 rfl (by kernel_rfl) rfl rfl rfl rfl rfl rfl fun a hF=>?_
   refine aZ hF hch 29 rfl (by kernel_rfl) rfl rfl rfl rfl rfl rfl fun a hF=>?_
   refine aZ hF hch 30 rfl (by kernel_rfl) rfl rfl rfl rfl rfl rfl fun a hF=>?_
   refine aZ hF hch 31 rfl (by kernel_rfl) rfl rfl rfl rfl rfl rfl fun a hF=>?_
   refine aZ hF hch 32 rfl (by kernel_rfl) rfl rfl rfl rfl rfl rfl fun a hF=>?_
   refine cA hF hch 33 rfl (by kernel_rfl) rfl rfl rfl rfl rfl fun a hF=>?_
   refine cA hF hch 34 rfl (by kernel_rfl) rfl rfl rfl rfl rfl fun a hF=>?_
   refine cA hF hch 35 rfl (by kernel_rfl) rfl rfl rfl rfl rfl fun a hF=>?_
   refine cA hF hch 36 rfl (by kernel_rfl) rfl rfl rfl rfl rfl fun a hF=>?_
   refine cA hF hch 37 rfl (by kernel_rfl) rfl rfl rfl rfl rfl fun a hF=>?_
   refine cA hF hch 38 rfl (by kernel_rfl) rfl rfl rfl rfl rfl fun a hF=>?_
   refine cA hF hch 39 rfl (by kernel_rfl) rfl rfl rfl rfl rfl fun a hF=>?_
   refine cA hF hch 40 rfl (by kernel_rfl) rfl rfl rfl rfl rfl fun a hF=>?_
   refine cA hF hch 41 rfl (by kernel_rfl) rfl rfl rfl rfl rfl fun a hF=>?_
   refine cA hF hch 42 rfl (by kernel_rfl) rfl rfl rfl rfl rfl fun a hF=>?_
   refine aZ hF hch 43 rfl (by kernel_rfl) rfl rfl rfl rfl rfl rfl fun a hF=>?_
   refine aK hF hch 44 rfl (by kernel_rfl) rfl rfl rfl (fun w hM=>(aP hF rfl rfl rfl rfl)) fun a hF=>?_
   refine bW hch (by kernel_rfl) fun w hM=>?_
   refine aB ?_
   have hP:=oI hP
   subst hP
   exact ⟨true,rfl,hF.to ⟨rfl,rfl,rfl,rfl,rfl,rfl,trivial⟩,hM⟩
  have hP:=Fx.cF d1 hP
  refine bQ hF hch 13 rfl (by kernel_rfl) rfl rfl rfl d1 rfl rfl (fun w hM=>(aC (off':=464) qU54 rfl in3 rfl hF rfl rfl rfl)) fun a hF=>?_
  refine bQ hF hch 14 rfl (by kernel_rfl) rfl rfl rfl d1 rfl rfl (fun w hM=>(aI qA3 hF rfl rfl (hM.cell (i:=2) rfl (RState.g_steps _)))) fun a hF=>?_
  refine bQ hF hch 15 rfl (by kernel_rfl) rfl rfl rfl d1 rfl rfl (fun w hM=>(dF hF rfl rfl rfl)) fun a hF=>?_
  refine aK hF hch 16 rfl (by kernel_rfl) rfl rfl rfl (fun w hM=>(aX hF rfl rfl d1 rfl)) fun a hF=>?_
  refine aK hF hch 17 rfl (by kernel_rfl) rfl rfl rfl (fun w hM=>(aF hF rfl rfl)) fun a hF=>?_
  refine bE 40 hF rfl (fun c7=>?_) (fun c7=>?_)
  ·have hP:=Fx.cT c7 hP
   refine aZ hF hch 18 rfl (by kernel_rfl) rfl rfl rfl c7 rfl rfl fun a hF=>?_
   refine aZ hF hch 19 rfl (by kernel_rfl) rfl rfl rfl c7 rfl rfl fun a hF=>?_
   refine aZ hF hch 20 rfl (by kernel_rfl) rfl rfl rfl c7 rfl rfl fun a hF=>?_
   refine aZ hF hch 21 rfl (by kernel_rfl) rfl rfl rfl c7 rfl rfl fun a hF=>?_
   refine aK hF hch 22 rfl (by kernel_rfl) rfl rfl rfl (fun w hM=>(aP hF rfl rfl c7 rfl)) fun a hF=>?_
   refine aK hF hch 23 rfl (by kernel_rfl) rfl rfl rfl (fun w hM=>(aF hF rfl rfl)) fun a hF=>?_
   refine aZ hF hch 24 rfl (by kernel_rfl) rfl rfl rfl rfl rfl rfl fun a hF=>?_
   refine aZ hF hch 25 rfl (by kernel_rfl) rfl rfl rfl rfl rfl rfl fun a hF=>?_
   refine aK hF hch 26 rfl (by kernel_rfl) rfl rfl rfl (fun w hM=>(aP hF rfl rfl rfl rfl)) fun a hF=>?_
   refine aK hF hch 27 rfl (by kernel_rfl) rfl rfl rfl (fun w hM=>(aF hF rfl rfl)) fun a hF=>?_
   refine aZ hF hch 28 rfl (by kernel_rfl) rfl rfl rfl rfl rfl rfl fun a hF=>?_
   refine aZ hF hch 29 rfl (by kernel_rfl) rfl rfl rfl rfl rfl rfl fun a hF=>?_
   refine aZ hF hch 30 rfl (by kernel_rfl) rfl rfl rfl rfl rfl rfl fun a hF=>?_
   refine aZ hF hch 31 rfl (by kernel_rfl) rfl rfl rfl rfl rfl rfl fun a hF=>?_
   refine aZ hF hch 32 rfl (by kernel_rfl) rfl rfl rfl rfl rfl rfl fun a hF=>?_
   refine cA hF hch 33 rfl (by kernel_rfl) rfl rfl rfl rfl rfl fun a hF=>?_
   refine cA hF hch 34 rfl (by kernel_rfl) rfl rfl rfl rfl rfl fun a hF=>?_
   refine cA hF hch 35 rfl (by kernel_rfl) rfl rfl rfl rfl rfl fun a hF=>?_
   refine cA hF hch 36 rfl (by kernel_rfl) rfl rfl rfl rfl rfl fun a hF=>?_
   refine cA hF hch 37 rfl (by kernel_rfl) rfl rfl rfl rfl rfl fun a hF=>?_
   refine cA hF hch 38 rfl (by kernel_rfl) rfl rfl rfl rfl rfl fun a hF=>?_
   refine cA hF hch 39 rfl (by kernel_rfl) rfl rfl rfl rfl rfl fun a hF=>?_
   refine cA hF hch 40 rfl (by kernel_rfl) rfl rfl rfl rfl rfl fun a hF=>?_
   refine cA hF hch 41 rfl (by kernel_rfl) rfl rfl rfl rfl rfl fun a hF=>?_
   refine cA hF hch 42 rfl (by kernel_rfl) rfl rfl rfl rfl rfl fun a hF=>?_
   refine aZ hF hch 43 rfl (by kernel_rfl) rfl rfl rfl rfl rfl rfl fun a hF=>?_
   refine aK hF hch 44 rfl (by kernel_rfl) rfl rfl rfl (fun w hM=>(aP hF rfl rfl rfl rfl)) fun a hF=>?_
   refine bW hch (by kernel_rfl) fun w hM=>?_
   refine aB ?_
   have hP:=oI hP
   subst hP
   exact ⟨true,rfl,hF.to ⟨rfl,rfl,rfl,rfl,rfl,rfl,trivial⟩,hM⟩
  have hP:=Fx.cF c7 hP
  refine bQ hF hch 18 rfl (by kernel_rfl) rfl rfl rfl c7 rfl rfl (fun w hM=>(aQ qA54 qS54 hF rfl rfl (RState.len _) (hM.cells (i:=2) rfl (bA (RState.len _))))) fun a hF=>?_
  refine bQ hF hch 19 rfl (by kernel_rfl) rfl rfl rfl c7 rfl rfl (fun w hM=>(aQ qA60 qS60 hF rfl rfl (RMark.len _) (hM.cells (i:=1) rfl (bA (RMark.len _))))) fun a hF=>?_
  refine bC hch 20 (by kernel_rfl) rfl rfl ?_
  refine xW hF 20 rfl rfl rfl rfl rfl c7 rfl rfl fun w hMs hM=>?_
  obtain ⟨l5,j8,hP⟩:=bind_some hP
  refine (aN (xs:=[.tmp 41,.tmp 42,.const (.bool false)]) Tryz.call136 hF rfl rfl (kT j8 hM (Bf:=Bf) (fun w hM=>hsub _ (dropM hM 3)) f2 f5 q6 f8 f10 f12 f15 q16 f18) fun v w hR=>?_)
  obtain ⟨rfl,hM⟩:=hR
  replace hM:MemL _ (pt c4 (RState.enc zSt) 54 :: pt c3 (RMark.enc (mMk x1 s9 s11 s13 s17)) 60 :: pt c2 (RState.enc (mSt x0 s1 s3 s7)) 54 :: Lr):=hM
  have hMs:=selM hM [0,1,2] 3 rfl
  refine ⟨_,_,hMs,hM,.inl fun _ h=>h,fun a hF=>?_⟩
  refine bQ hF hch 21 rfl (by kernel_rfl) rfl rfl rfl c7 rfl rfl (fun w hM=>(dE hF rfl rfl)) fun a hF=>?_
  refine aK hF hch 22 rfl (by kernel_rfl) rfl rfl rfl (fun w hM=>(aX hF rfl rfl c7 rfl)) fun a hF=>?_
  refine aK hF hch 23 rfl (by kernel_rfl) rfl rfl rfl (fun w hM=>(aF hF rfl rfl)) fun a hF=>?_
  refine bE 46 hF rfl (fun d3=>?_) (fun d3=>?_)
  ·have hP:=Fx.cT d3 hP
   refine aZ hF hch 24 rfl (by kernel_rfl) rfl rfl rfl d3 rfl rfl fun a hF=>?_
   refine aZ hF hch 25 rfl (by kernel_rfl) rfl rfl rfl d3 rfl rfl fun a hF=>?_
   refine aK hF hch 26 rfl (by kernel_rfl) rfl rfl rfl (fun w hM=>(aP hF rfl rfl d3 rfl)) fun a hF=>?_
   refine aK hF hch 27 rfl (by kernel_rfl) rfl rfl rfl (fun w hM=>(aF hF rfl rfl)) fun a hF=>?_
   refine aZ hF hch 28 rfl (by kernel_rfl) rfl rfl rfl rfl rfl rfl fun a hF=>?_
   refine aZ hF hch 29 rfl (by kernel_rfl) rfl rfl rfl rfl rfl rfl fun a hF=>?_
   refine aZ hF hch 30 rfl (by kernel_rfl) rfl rfl rfl rfl rfl rfl fun a hF=>?_
   refine aZ hF hch 31 rfl (by kernel_rfl) rfl rfl rfl rfl rfl rfl fun a hF=>?_
   refine aZ hF hch 32 rfl (by kernel_rfl) rfl rfl rfl rfl rfl rfl fun a hF=>?_
   refine cA hF hch 33 rfl (by kernel_rfl) rfl rfl rfl rfl rfl fun a hF=>?_
   refine cA hF hch 34 rfl (by kernel_rfl) rfl rfl rfl rfl rfl fun a hF=>?_
   refine cA hF hch 35 rfl (by kernel_rfl) rfl rfl rfl rfl rfl fun a hF=>?_
   refine cA hF hch 36 rfl (by kernel_rfl) rfl rfl rfl rfl rfl fun a hF=>?_
   refine cA hF hch 37 rfl (by kernel_rfl) rfl rfl rfl rfl rfl fun a hF=>?_
   refine cA hF hch 38 rfl (by kernel_rfl) rfl rfl rfl rfl rfl fun a hF=>?_
   refine cA hF hch 39 rfl (by kernel_rfl) rfl rfl rfl rfl rfl fun a hF=>?_
   refine cA hF hch 40 rfl (by kernel_rfl) rfl rfl rfl rfl rfl fun a hF=>?_
   refine cA hF hch 41 rfl (by kernel_rfl) rfl rfl rfl rfl rfl fun a hF=>?_
   refine cA hF hch 42 rfl (by kernel_rfl) rfl rfl rfl rfl rfl fun a hF=>?_
   refine aZ hF hch 43 rfl (by kernel_rfl) rfl rfl rfl rfl rfl rfl fun a hF=>?_
   refine aK hF hch 44 rfl (by kernel_rfl) rfl rfl rfl (fun w hM=>(aP hF rfl rfl rfl rfl)) fun a hF=>?_
   refine bW hch (by kernel_rfl) fun w hM=>?_
   refine aB ?_
   have hP:=oI hP
   subst hP
   exact ⟨true,rfl,hF.to ⟨rfl,rfl,rfl,rfl,rfl,rfl,trivial⟩,hM⟩
  have hP:=Fx.cF d3 hP
  refine bQ hF hch 24 rfl (by kernel_rfl) rfl rfl rfl d3 rfl rfl (fun w hM=>(aF hF rfl rfl)) fun a hF=>?_
  refine bQ hF hch 25 rfl (by kernel_rfl) rfl rfl rfl d3 rfl rfl (fun w hM=>(cI hF rfl rfl rfl)) fun a hF=>?_
  refine aK hF hch 26 rfl (by kernel_rfl) rfl rfl rfl (fun w hM=>(aX hF rfl rfl d3 rfl)) fun a hF=>?_
  refine aK hF hch 27 rfl (by kernel_rfl) rfl rfl rfl (fun w hM=>(aF hF rfl rfl)) fun a hF=>?_
  refine bE 50 hF rfl (fun c5=>?_) (fun c5=>?_)
  ·have hP:=Fx.cT c5 hP
   refine aZ hF hch 28 rfl (by kernel_rfl) rfl rfl rfl c5 rfl rfl fun a hF=>?_
   refine aZ hF hch 29 rfl (by kernel_rfl) rfl rfl rfl c5 rfl rfl fun a hF=>?_
   refine aZ hF hch 30 rfl (by kernel_rfl) rfl rfl rfl c5 rfl rfl fun a hF=>?_
   refine aZ hF hch 31 rfl (by kernel_rfl) rfl rfl rfl c5 rfl rfl fun a hF=>?_
   refine aZ hF hch 32 rfl (by kernel_rfl) rfl rfl rfl c5 rfl rfl fun a hF=>?_
   refine cA hF hch 33 rfl (by kernel_rfl) rfl rfl rfl rfl rfl fun a hF=>?_
   refine cA hF hch 34 rfl (by kernel_rfl) rfl rfl rfl rfl rfl fun a hF=>?_
   refine cA hF hch 35 rfl (by kernel_rfl) rfl rfl rfl rfl rfl fun a hF=>?_
   refine cA hF hch 36 rfl (by kernel_rfl) rfl rfl rfl rfl rfl fun a hF=>?_
   refine cA hF hch 37 rfl (by kernel_rfl) rfl rfl rfl rfl rfl fun a hF=>?_
   refine cA hF hch 38 rfl (by kernel_rfl) rfl rfl rfl rfl rfl fun a hF=>?_
   refine cA hF hch 39 rfl (by kernel_rfl) rfl rfl rfl rfl rfl fun a hF=>?_
   refine cA hF hch 40 rfl (by kernel_rfl) rfl rfl rfl rfl rfl fun a hF=>?_
   refine cA hF hch 41 rfl (by kernel_rfl) rfl rfl rfl rfl rfl fun a hF=>?_
   refine cA hF hch 42 rfl (by kernel_rfl) rfl rfl rfl rfl rfl fun a hF=>?_
   refine aZ hF hch 43 rfl (by kernel_rfl) rfl rfl rfl c5 rfl rfl fun a hF=>?_
   refine aK hF hch 44 rfl (by kernel_rfl) rfl rfl rfl (fun w hM=>(aP hF rfl rfl c5 rfl)) fun a hF=>?_
   refine bW hch (by kernel_rfl) fun w hM=>?_
   refine aB ?_
   have hP:=oI hP
   subst hP
   exact ⟨true,rfl,hF.to ⟨rfl,rfl,rfl,rfl,rfl,rfl,trivial⟩,hM⟩
  have hP:=Fx.cF c5 hP
  refine bQ hF hch 28 rfl (by kernel_rfl) rfl rfl rfl c5 rfl rfl (fun w hM=>(aC (off':=6) qU60 rfl in52 rfl hF rfl rfl rfl)) fun a hF=>?_
  refine bQ hF hch 29 rfl (by kernel_rfl) rfl rfl rfl c5 rfl rfl (fun w hM=>(aI qA52 hF rfl rfl (hM.cell (i:=1) rfl (RMark.g_sent _)))) fun a hF=>?_
  refine bQ hF hch 30 rfl (by kernel_rfl) rfl rfl rfl c5 rfl rfl (fun w hM=>(bM (f18 _ (hsub _ (dropM hM 3))) qU52 hF rfl rfl)) fun a hF=>?_
  refine bQ hF hch 31 rfl (by kernel_rfl) rfl rfl rfl c5 rfl rfl (fun w hM=>(dF hF rfl rfl rfl)) fun a hF=>?_
  refine bQ hF hch 32 rfl (by kernel_rfl) rfl rfl rfl c5 rfl rfl (fun w hM=>(aF hF rfl rfl)) fun a hF=>?_
  refine bE 55 hF rfl (fun c1=>?_) (fun c1=>?_)
  ·have hP:=Fx.cT c1 hP
   refine bQ hF hch 33 rfl (by kernel_rfl) rfl rfl rfl c1 rfl rfl (fun w hM=>(aC (off':=462) qU54 rfl in52 rfl hF rfl rfl rfl)) fun a hF=>?_
   refine bQ hF hch 34 rfl (by kernel_rfl) rfl rfl rfl c1 rfl rfl (fun w hM=>(aI qA52 hF rfl rfl (hM.cell (i:=2) rfl (RState.g_sent _)))) fun a hF=>?_
   refine bQ hF hch 35 rfl (by kernel_rfl) rfl rfl rfl c1 rfl rfl (fun w hM=>(aF hF rfl rfl)) fun a hF=>?_
   obtain ⟨k4,g1,hP⟩:=bind_some hP
   have g8:=aM g1
   refine bQ hF hch 36 rfl (by kernel_rfl) rfl rfl rfl c1 rfl rfl (fun w hM=>(aS (sz:=1) (f8 _ (hsub _ (dropM hM 3))) qU52 in3 rfl hF rfl rfl rfl (bG g1))) fun a hF=>?_
   refine bQ hF hch 37 rfl (by kernel_rfl) rfl rfl rfl c1 rfl rfl (fun w hM=>(aI qA3 hF rfl rfl ((((f8 _ (hsub _ (dropM hM 3))).elemS g8.2)).get 0 rfl))) fun a hF=>?_
   refine bQ hF hch 38 rfl (by kernel_rfl) rfl rfl rfl c1 rfl rfl (fun w hM=>(aC (off':=6) qU60 rfl in52 rfl hF rfl rfl rfl)) fun a hF=>?_
   refine bQ hF hch 39 rfl (by kernel_rfl) rfl rfl rfl c1 rfl rfl (fun w hM=>(aI qA52 hF rfl rfl (hM.cell (i:=1) rfl (RMark.g_sent _)))) fun a hF=>?_
   obtain ⟨k5,g2,hP⟩:=bind_some hP
   have g9:=aM g2
   refine bQ hF hch 40 rfl (by kernel_rfl) rfl rfl rfl c1 rfl rfl (fun w hM=>(aS (sz:=1) (f18 _ (hsub _ (dropM hM 3))) qU52 in3 rfl hF rfl rfl rfl (bG g2))) fun a hF=>?_
   refine bQ hF hch 41 rfl (by kernel_rfl) rfl rfl rfl c1 rfl rfl (fun w hM=>(aI qA3 hF rfl rfl ((((f18 _ (hsub _ (dropM hM 3))).elemS g9.2)).get 0 rfl))) fun a hF=>?_
   refine bQ hF hch 42 rfl (by kernel_rfl) rfl rfl rfl c1 rfl rfl (fun w hM=>(dC hF rfl rfl rfl)) fun a hF=>?_
   refine bQ hF hch 43 rfl (by kernel_rfl) rfl rfl rfl c5 rfl rfl (fun w hM=>(aP hF rfl rfl c1 rfl)) fun a hF=>?_
   refine aK hF hch 44 rfl (by kernel_rfl) rfl rfl rfl (fun w hM=>(aX hF rfl rfl c5 rfl)) fun a hF=>?_
   refine bW hch (by kernel_rfl) fun w hM=>?_
   refine aB ?_
   have hP:=oI hP
   subst hP
   exact ⟨(!decide (k4 = k5)),rfl,hF.to ⟨rfl,rfl,rfl,rfl,rfl,rfl,trivial⟩,hM⟩
  have hP:=Fx.cF c1 hP
  refine aZ hF hch 33 rfl (by kernel_rfl) rfl rfl rfl c1 rfl rfl fun a hF=>?_
  refine aZ hF hch 34 rfl (by kernel_rfl) rfl rfl rfl c1 rfl rfl fun a hF=>?_
  refine aZ hF hch 35 rfl (by kernel_rfl) rfl rfl rfl c1 rfl rfl fun a hF=>?_
  refine aZ hF hch 36 rfl (by kernel_rfl) rfl rfl rfl c1 rfl rfl fun a hF=>?_
  refine aZ hF hch 37 rfl (by kernel_rfl) rfl rfl rfl c1 rfl rfl fun a hF=>?_
  refine aZ hF hch 38 rfl (by kernel_rfl) rfl rfl rfl c1 rfl rfl fun a hF=>?_
  refine aZ hF hch 39 rfl (by kernel_rfl) rfl rfl rfl c1 rfl rfl fun a hF=>?_
  refine aZ hF hch 40 rfl (by kernel_rfl) rfl rfl rfl c1 rfl rfl fun a hF=>?_
  refine aZ hF hch 41 rfl (by kernel_rfl) rfl rfl rfl c1 rfl rfl fun a hF=>?_
  refine aZ hF hch 42 rfl (by kernel_rfl) rfl rfl rfl c1 rfl rfl fun a hF=>?_
  refine bQ hF hch 43 rfl (by kernel_rfl) rfl rfl rfl c5 rfl rfl (fun w hM=>(aX hF rfl rfl c1 rfl)) fun a hF=>?_
  refine aK hF hch 44 rfl (by kernel_rfl) rfl rfl rfl (fun w hM=>(aX hF rfl rfl c5 rfl)) fun a hF=>?_
  refine bW hch (by kernel_rfl) fun w hM=>?_
  refine aB ?_
  have hP:=oI hP
  subst hP
  exact ⟨false,rfl,hF.to ⟨rfl,rfl,rfl,rfl,rfl,rfl,trivial⟩,hM⟩
 rintro d9 a w hP ⟨hF,hM⟩
 replace hP:Sh.qS x0 x1 d9 = _:=hP
 unfold Sh.qS at hP
 refine aB ?_
 refine aV hF (c:=.tmp 67) rfl (fun d8=>?_) (fun d8=>?_)
 ·have hP:=Fx.cT d8 hP
  refine aG ?_
  refine aD ?_
  refine aA hF (cE z54 qU54 pl54 hF (parts:=[]) rfl rfl cX) rfl rfl rfl fun a hF=>?_
  refine bI rfl rfl (aY (vs:=_) qS54 (hM.obj (i:=0) rfl) hF rfl rfl rfl rfl (RState.len _) (RState.one _) (by first | (rw [RState.len,RState.len]; decide) | (rw [RState.len]; decide)) (bF ((RState.len _).trans (RState.len _).symm)) fun w i9=>?_)
  have hM:=hM.chg i9 (i:=0) rfl
  replace hM:MemL _ (pt c4 (RState.enc zSt) 54 :: pt c3 (RMark.enc (mMk x1 s9 s11 s13 s17)) 60 :: pt c2 (RState.enc (mSt x0 s1 s3 s7)) 54 :: Lr):=hM
  refine aA hF (aH hF rfl rfl) rfl rfl rfl fun a hF=>?_
  refine aJ (aB ?_)
  refine c_ret ?_
  have hM:=hM.rowNil (X:=UInt8) 0 5
  obtain ⟨i3,hM⟩:=voidM hM
  have k2:Each (LIn (X:=UInt8) i3.holds') ([]:List SV) ([]:List (List UInt8)):=Each.nil
  have hM:=hM.rowNil (X:=SV) 0 23
  have hM:=hM.rowNil (X:=Int) 0 3
  have hP:=oI hP
  subst hP
  refine dO (rs:=[.cell 4 54,.tmp 5]) qR62 hF (cG hF rfl qA54 qS54 (RState.len _) (hM.cells (i:=4) rfl (bA (RState.len _))) (cR hF rfl cP)) rfl ?_
  exact ⟨SV.nil,SV.nil,[],i3,SV.nil,rfl,k2,selM hM [3,1,2,0] 7 rfl⟩
 have hP:=Fx.cF d8 hP
 refine aW (aB ?_)
 refine aG ?_
 refine aD ?_
 refine aA hF (aQ qA54 qS54 hF rfl rfl (RState.len _) (hM.cells (i:=2) rfl (bA (RState.len _)))) rfl rfl rfl fun a hF=>?_
 refine aA hF (aQ qA60 qS60 hF rfl rfl (RMark.len _) (hM.cells (i:=1) rfl (bA (RMark.len _)))) rfl rfl rfl fun a hF=>?_
 obtain ⟨c0,j9,hP⟩:=bind_some hP
 refine aO hF rfl rfl rfl (aN (xs:=[.tmp 69,.tmp 70,.const (.bool true)]) Tryz.call137 hF rfl rfl (mY j9 hM (Bf:=Bf) (fun w hM=>hsub _ (dropM hM 3)) f2 f5 q6 f8 f10 f12 f15 q16 f18) fun v w hR=>?_)
 obtain ⟨c8,c9,d4,d5,d0,rfl,k3,hM⟩:=hR
 intro a hF
 refine aO hF rfl rfl rfl (bO z54 (zs:=RState.zero.enc) rfl rfl fun d2 w l0 g7=>?_)
 have hM:=hM.plus g7
 replace hM:MemL _ (pt d2 (RState.enc zSt) 54 :: rowL 0 c8 5 c0.ctx :: rowL 0 c9 23 d4 :: d5 :: rowL 0 d0 3 c0.sent :: pt c4 (RState.enc zSt) 54 :: pt c3 (RMark.enc (mMk x1 s9 s11 s13 s17)) 60 :: pt c2 (RState.enc (mSt x0 s1 s3 s7)) 54 :: Lr):=hM
 intro a hF
 refine bI rfl rfl (aY (vs:=_) qS54 (hM.obj (i:=0) rfl) hF rfl rfl rfl rfl (RState.len _) (RState.one _) (by first | (rw [RState.len,RState.len]; decide) | (rw [RState.len]; decide)) (bF ((RState.len _).trans (RState.len _).symm)) fun w j0=>?_)
 have hM:=hM.chg j0 (i:=0) rfl
 replace hM:MemL _ (pt d2 (RState.enc (mSt c0 c8 c9 d0)) 54 :: rowL 0 c8 5 c0.ctx :: rowL 0 c9 23 d4 :: d5 :: rowL 0 d0 3 c0.sent :: pt c4 (RState.enc zSt) 54 :: pt c3 (RMark.enc (mMk x1 s9 s11 s13 s17)) 60 :: pt c2 (RState.enc (mSt x0 s1 s3 s7)) 54 :: Lr):=hM
 refine aJ (aB ?_)
 refine aG ?_
 refine aD ?_
 refine aA hF (aC (off':=0) qU60 rfl in3 rfl hF rfl rfl rfl) rfl rfl rfl fun a hF=>?_
 refine aA hF (aI qA3 hF rfl rfl (hM.cell (i:=6) rfl (RMark.g_at_ _))) rfl rfl rfl fun a hF=>?_
 refine aA hF (aC (off':=463) qU54 rfl in3 rfl hF rfl rfl rfl) rfl rfl rfl fun a hF=>?_
 refine bI rfl rfl (bS qS3 (hM.obj (i:=0) rfl) hF rfl rfl rfl rfl (by rw [RState.len]; decide) (RState.s_at_ _ _) fun w j1=>?_)
 have hM:=hM.chg j1 (i:=0) rfl
 replace hM:MemL _ (pt d2 (RState.enc (RState.mk c0.regs c0.stack c8 c9 d0 x1.at_ c0.steps c0.done)) 54 :: rowL 0 c8 5 c0.ctx :: rowL 0 c9 23 d4 :: d5 :: rowL 0 d0 3 c0.sent :: pt c4 (RState.enc zSt) 54 :: pt c3 (RMark.enc (mMk x1 s9 s11 s13 s17)) 60 :: pt c2 (RState.enc (mSt x0 s1 s3 s7)) 54 :: Lr):=hM
 refine aJ (aB ?_)
 refine aG ?_
 refine aD ?_
 refine aA hF (aC (off':=465) qU54 rfl in4 rfl hF rfl rfl rfl) rfl rfl rfl fun a hF=>?_
 refine bI rfl rfl (bS qS4 (hM.obj (i:=0) rfl) hF rfl rfl rfl rfl (by rw [RState.len]; decide) (RState.s_done _ _) fun w j2=>?_)
 have hM:=hM.chg j2 (i:=0) rfl
 replace hM:MemL _ (pt d2 (RState.enc (RState.mk c0.regs c0.stack c8 c9 d0 x1.at_ c0.steps false)) 54 :: rowL 0 c8 5 c0.ctx :: rowL 0 c9 23 d4 :: d5 :: rowL 0 d0 3 c0.sent :: pt c4 (RState.enc zSt) 54 :: pt c3 (RMark.enc (mMk x1 s9 s11 s13 s17)) 60 :: pt c2 (RState.enc (mSt x0 s1 s3 s7)) 54 :: Lr):=hM
 refine aJ (aB ?_)
 refine aG ?_
 refine aD ?_
 refine aA hF (aC (off':=464) qU54 rfl in3 rfl hF rfl rfl rfl) rfl rfl rfl fun a hF=>?_
 refine aA hF (aI qA3 hF rfl rfl (hM.cell (i:=7) rfl (RState.g_steps _))) rfl rfl rfl fun a hF=>?_
 refine aA hF (eV hF rfl rfl rfl) rfl rfl rfl fun a hF=>?_
 refine aA hF (aC (off':=464) qU54 rfl in3 rfl hF rfl rfl rfl) rfl rfl rfl fun a hF=>?_
 refine bI rfl rfl (bS qS3 (hM.obj (i:=0) rfl) hF rfl rfl rfl rfl (by rw [RState.len]; decide) (RState.s_steps _ _) fun w j3=>?_)
 have hM:=hM.chg j3 (i:=0) rfl
 replace hM:MemL _ (pt d2 (RState.enc (RState.mk c0.regs c0.stack c8 c9 d0 x1.at_ (IntKind.i64.wrap (x0.steps - 1)) false)) 54 :: rowL 0 c8 5 c0.ctx :: rowL 0 c9 23 d4 :: d5 :: rowL 0 d0 3 c0.sent :: pt c4 (RState.enc zSt) 54 :: pt c3 (RMark.enc (mMk x1 s9 s11 s13 s17)) 60 :: pt c2 (RState.enc (mSt x0 s1 s3 s7)) 54 :: Lr):=hM
 refine aJ (aB ?_)
 refine aG ?_
 refine aD ?_
 refine aA hF (aC (off':=462) qU54 rfl in52 rfl hF rfl rfl rfl) rfl rfl rfl fun a hF=>?_
 refine aA hF (aI qA52 hF rfl rfl (hM.cell (i:=0) rfl (RState.g_sent _))) rfl rfl rfl fun a hF=>?_
 refine aA hF (aF hF rfl rfl) rfl rfl rfl fun a hF=>?_
 obtain ⟨k6,g3,hP⟩:=bind_some hP
 refine aA hF (eL (hM.rowS (X:=Int) (i:=4) rfl) g3 qU52 in3 rfl hF rfl rfl (.inl ⟨rfl,rfl⟩) (.inr ⟨_,_,rfl,rfl⟩)) rfl rfl rfl fun a hF=>?_
 refine aA hF (aC (off':=462) qU54 rfl in52 rfl hF rfl rfl rfl) rfl rfl rfl fun a hF=>?_
 refine bI rfl rfl (bS qS52 (hM.obj (i:=0) rfl) hF rfl rfl rfl rfl (by rw [RState.len]; decide) (RState.s_sent _ _) fun w j4=>?_)
 have hM:=hM.chg j4 (i:=0) rfl
 replace hM:MemL _ (pt d2 (RState.enc (RState.mk c0.regs c0.stack c8 c9 (d0.cut (0:Int).toNat ((IntKind.i64.wrap ((x0.sent.length:Int) - (x1.sent.length:Int))):Int).toNat 1) x1.at_ (IntKind.i64.wrap (x0.steps - 1)) false)) 54 :: rowL 0 c8 5 c0.ctx :: rowL 0 c9 23 d4 :: d5 :: rowL 0 d0 3 c0.sent :: pt c4 (RState.enc zSt) 54 :: pt c3 (RMark.enc (mMk x1 s9 s11 s13 s17)) 60 :: pt c2 (RState.enc (mSt x0 s1 s3 s7)) 54 :: Lr):=hM
 refine aJ (aB ?_)
 refine aG ?_
 refine aD ?_
 refine aA hF (aQ qA54 qS54 hF rfl rfl (RState.len _) (hM.cells (i:=0) rfl (bA (RState.len _)))) rfl rfl rfl fun a hF=>?_
 refine bI rfl rfl (aY (vs:=_) qS54 (hM.obj (i:=5) rfl) hF rfl rfl rfl rfl (RState.len _) (RState.one _) (by first | (rw [RState.len,RState.len]; decide) | (rw [RState.len]; decide)) (bF ((RState.len _).trans (RState.len _).symm)) fun w j5=>?_)
 have hM:=hM.chg j5 (i:=5) rfl
 refine aA hF (aH hF rfl rfl) rfl rfl rfl fun a hF=>?_
 refine aJ (aB ?_)
 refine c_ret ?_
 have hM:=aF6 (sz:=1) hM (i:=4) rfl g3
 replace hM:MemL _ (pt d2 (RState.enc (RState.mk c0.regs c0.stack c8 c9 (d0.cut (0:Int).toNat ((IntKind.i64.wrap ((x0.sent.length:Int) - (x1.sent.length:Int))):Int).toNat 1) x1.at_ (IntKind.i64.wrap (x0.steps - 1)) false)) 54 :: rowL 0 c8 5 c0.ctx :: rowL 0 c9 23 d4 :: d5 :: rowL 0 (d0.cut (0:Int).toNat ((IntKind.i64.wrap ((x0.sent.length:Int) - (x1.sent.length:Int))):Int).toNat 1) 3 k6 :: pt c4 (RState.enc (RState.mk c0.regs c0.stack c8 c9 (d0.cut (0:Int).toNat ((IntKind.i64.wrap ((x0.sent.length:Int) - (x1.sent.length:Int))):Int).toNat 1) x1.at_ (IntKind.i64.wrap (x0.steps - 1)) false)) 54 :: pt c3 (RMark.enc (mMk x1 s9 s11 s13 s17)) 60 :: pt c2 (RState.enc (mSt x0 s1 s3 s7)) 54 :: Lr):=hM
 have hP:=oI hP
 subst hP
 refine dO (rs:=[.cell 4 54,.tmp 5]) qR62 hF (cG hF rfl qA54 qS54 (RState.len _) (hM.cells (i:=5) rfl (bA (RState.len _))) (cR hF rfl cP)) rfl ?_
 exact ⟨c8,c9,d4,d5,(d0.cut (0:Int).toNat ((IntKind.i64.wrap ((x0.sent.length:Int) - (x1.sent.length:Int))):Int).toNat 1),rfl,k3,selM hM [1,2,3,4] 8 rfl⟩
end Go.Proofs
end
