/- Ground for this claim: The call of TraceBytes returns true, and what is read reads as before. Condition: what is read is of bulk at most 1048576. -/
import Derived.Test.YtmgnkohlfbjjnaaGreatRProg
import Derived.KernelRfl
import Derived.Test.YtmgnkohlfbjjnaaGreatRTb7
section
namespace Go.Proofs
open Go.Fw Go.Fx
set_option maxRecDepth 10000
set_option linter.unusedVariables false
set_option linter.unusedSimpArgs false
set_option maxHeartbeats 4000000 in
theorem jX {x0:QReader} {s1:SV} {b0:Nat} {out:(QMark × QReader)} {w0:World} {Bf:World → Prop} {Lr:List Res} (hP:Sh.bM x0 = some out) (hM:MemL w0 (pt b0 (RReader.enc (RReader.mk s1 x0.at_ x0.place x0.e)) 176 :: Lr)) (hsub:∀ w,MemL w Lr → Bf w) (f2:LIn Bf s1 x0.b):Calls Tryz.prog 118 #[.pointer (some ⟨b0,0,none⟩)] w0 (Ret fun v w'=>∃ (c90:SV) (c91:SV) (c92:SV) (c72:List RPiece) (c89:Res) (c93:SV) (c94:SV),v = .agg (RMark.enc (RMark.mk out.1.at_ out.1.next out.1.done c90 c91 c92 c93)).toArray ∧ Each (QPieceIn c89.holds') c72 out.1.pieces ∧ LIn Bf c94 out.2.b ∧ MemL w' (rowL 0 c90 128 out.1.regs :: rowL 0 c91 151 out.1.slots :: rowL 0 c92 156 c72 :: c89 :: rowL 0 c93 3 out.1.sent :: pt b0 (RReader.enc (RReader.mk c94 out.2.at_ out.2.place out.2.e)) 176 :: Lr)):=by
 unfold Sh.bM at hP
 refine aM (vs:=[.pointer (some ⟨b0,0,none⟩)]) Tryz.func118 rfl Tryz.ntmps118 rfl fun a hF=>?_
 refine aH ?_
 refine aC ?_
 refine aN hF rfl rfl rfl (dD hF rfl rfl rfl fun c0 w d95 c82=>?_)
 have hM:=hM.plus c82
 replace hM:MemL _ (pt c0 [.pointer (some ⟨b0,0,none⟩)] 174 :: pt b0 (RReader.enc (RReader.mk s1 x0.at_ x0.place x0.e)) 176 :: Lr):=hM
 intro a hF
 refine aN hF rfl rfl rfl (cB z60 (zs:=RMark.zero.enc) rfl rfl fun c1 w d96 c83=>?_)
 have hM:=hM.plus c83
 replace hM:MemL _ (pt c1 (RMark.enc (RMark.mk 0 0 false SV.nil SV.nil SV.nil SV.nil)) 60 :: pt c0 [.pointer (some ⟨b0,0,none⟩)] 174 :: pt b0 (RReader.enc (RReader.mk s1 x0.at_ x0.place x0.e)) 176 :: Lr):=hM
 intro a hF
 refine aI (aB ?_)
 refine aH ?_
 refine aC ?_
 refine aA hF (aJ Tryz.isAgg174 hF rfl rfl (hM.cell (i:=1) rfl rfl)) rfl rfl rfl fun a hF=>?_
 refine aA hF (aX hF rfl rfl) rfl rfl rfl fun a hF=>?_
 refine aA hF (aD (off':=1) Tryz.underlying176 rfl in3 rfl hF rfl rfl rfl) rfl rfl rfl fun a hF=>?_
 refine aA hF (aJ Tryz.isAgg3 hF rfl rfl (hM.cell (i:=2) rfl (RReader.g_at_ _))) rfl rfl rfl fun a hF=>?_
 refine aA hF (aG hF rfl rfl) rfl rfl rfl fun a hF=>?_
 refine aI (aB ?_)
 refine aH ?_
 refine aS hF hM hP (fun F x a w=>match x with | (c5,c6,c7,z0)=>∃ (c2:Nat) (c62:SV),LIn Bf c62 z0.b ∧ Fr 44 [(4,.pointer (some ⟨c2,0,none⟩)),(1,.pointer (some ⟨c0,0,none⟩)),(2,.pointer (some ⟨c1,0,none⟩)),(3,.int .i64 x0.at_)] a ∧ MemL w (pt c2 (RMark.enc (RMark.mk c5 c6 c7 SV.nil SV.nil SV.nil SV.nil)) 60 :: pt b0 (RReader.enc (RReader.mk c62 z0.at_ z0.place z0.e)) 176 :: pt c1 (RMark.enc (RMark.mk 0 0 false SV.nil SV.nil SV.nil SV.nil)) 60 :: pt c0 [.pointer (some ⟨b0,0,none⟩)] 174 :: Lr)) (fun g28 hP g19 hF hM=>?_) ?_
 ·refine bQ mixed (by kernel_rfl) hM [0,1] 3 rfl fun hch=>?_
  refine aL hF hch 0 rfl (by kernel_rfl) rfl rfl rfl (fun w hM=>(aJ Tryz.isAgg174 hF rfl rfl (hM.cell (i:=1) rfl rfl))) fun a hF=>?_
  refine aL hF hch 2 rfl (by kernel_rfl) rfl rfl rfl (fun w hM=>(aJ Tryz.isAgg174 hF rfl rfl (hM.cell (i:=1) rfl rfl))) fun a hF=>?_
  refine aL hF hch 4 rfl (by kernel_rfl) rfl rfl rfl (fun w hM=>(aJ Tryz.isAgg174 hF rfl rfl (hM.cell (i:=1) rfl rfl))) fun a hF=>?_
  refine sF hch 1 8 (by kernel_rfl) rfl rfl ?_ ?_
  ·refine cR hF 1 rfl rfl rfl rfl rfl fun w hMs hM=>?_
   obtain ⟨j3,c46,hP⟩:=bind_some hP
   refine (aO (xs:=[.tmp 9,.const (.int .i64 (2))]) Tryz.call113 hF rfl rfl (bE c46 (selM hM [2,0,1] 3 rfl) (Bf:=Bf) (fun w hM=>hsub _ (dropM hM 2)) f2) fun v w hR=>?_)
   obtain ⟨c38,rfl,c37,hM⟩:=hR
   replace hM:MemL _ (pt b0 (RReader.enc (RReader.mk c38 j3.2.at_ j3.2.place j3.2.e)) 176 :: pt c1 (RMark.enc (RMark.mk 0 0 false SV.nil SV.nil SV.nil SV.nil)) 60 :: pt c0 [.pointer (some ⟨b0,0,none⟩)] 174 :: Lr):=hM
   have hMs:=selM hM [1,2] 3 rfl
   refine ⟨_,_,hMs,hM,.inl fun _ h=>h,fun a hF=>?_⟩
   refine sF hch 3 8 (by kernel_rfl) rfl rfl ?_ ?_
   ·refine cR hF 3 rfl rfl rfl rfl rfl fun w hMs hM=>?_
    obtain ⟨g5,t5,hP⟩:=bind_some hP
    refine (aO (xs:=[.tmp 11,.const (.int .i64 (2))]) Tryz.call113 hF rfl rfl (bE t5 hM (Bf:=Bf) (fun w hM=>hsub _ (dropM hM 2)) c37) fun v w hR=>?_)
    obtain ⟨u9,rfl,u6,hM⟩:=hR
    replace hM:MemL _ (pt b0 (RReader.enc (RReader.mk u9 g5.2.at_ g5.2.place g5.2.e)) 176 :: pt c1 (RMark.enc (RMark.mk 0 0 false SV.nil SV.nil SV.nil SV.nil)) 60 :: pt c0 [.pointer (some ⟨b0,0,none⟩)] 174 :: Lr):=hM
    have hMs:=selM hM [1,2] 3 rfl
    refine ⟨_,_,hMs,hM,.inl fun _ h=>h,fun a hF=>?_⟩
    refine sF hch 5 8 (by kernel_rfl) rfl rfl ?_ ?_
    ·refine cR hF 5 rfl rfl rfl rfl rfl fun w hMs hM=>?_
     obtain ⟨d2,m6,hP⟩:=bind_some hP
     refine (aO (xs:=[.tmp 13,.const (.int .i64 (1))]) Tryz.call115 hF rfl rfl (cP m6 hM (Bf:=Bf) (fun w hM=>hsub _ (dropM hM 2)) u6) fun v w hR=>?_)
     obtain ⟨j5,rfl,p7,hM⟩:=hR
     replace hM:MemL _ (pt b0 (RReader.enc (RReader.mk j5 d2.2.at_ d2.2.place d2.2.e)) 176 :: pt c1 (RMark.enc (RMark.mk 0 0 false SV.nil SV.nil SV.nil SV.nil)) 60 :: pt c0 [.pointer (some ⟨b0,0,none⟩)] 174 :: Lr):=hM
     have hMs:=selM hM [1,2] 3 rfl
     refine ⟨_,_,hMs,hM,.inl fun _ h=>h,fun a hF=>?_⟩
     refine aL hF hch 6 rfl (by kernel_rfl) rfl rfl rfl (fun w hM=>(cE hF rfl rfl rfl)) fun a hF=>?_
     refine aL hF hch 7 rfl (by kernel_rfl) rfl rfl rfl (fun w hM=>(cU z60 Tryz.underlying60 pl60 hF (parts:=[(0,.tmp 10),(1,.tmp 12),(2,.tmp 15)]) rfl rfl (cN rfl rfl (by rw [RMark.len]; decide) (RMark.s_at_ _ _) (cN rfl rfl (by rw [RMark.len]; decide) (RMark.s_next _ _) (cN rfl rfl (by rw [RMark.len]; decide) (RMark.s_done _ _) dI))))) fun a hF=>?_
     refine bS hch 8 (by kernel_rfl) rfl rfl ?_
     refine cR hF 8 rfl rfl rfl rfl rfl fun w hMs hM=>?_
     refine (cB z60 (zs:=RMark.zero.enc) rfl rfl fun g0 w z2 l0=>?_)
     have hM:=hM.plus l0
     replace hM:MemL _ (pt g0 (RMark.enc (RMark.mk 0 0 false SV.nil SV.nil SV.nil SV.nil)) 60 :: pt b0 (RReader.enc (RReader.mk j5 d2.2.at_ d2.2.place d2.2.e)) 176 :: pt c1 (RMark.enc (RMark.mk 0 0 false SV.nil SV.nil SV.nil SV.nil)) 60 :: pt c0 [.pointer (some ⟨b0,0,none⟩)] 174 :: Lr):=hM
     have hMs:=selM hM [0,2,3] 4 rfl
     refine ⟨_,_,hMs,hM,.inl fun _ h=>dropM h 1,fun a hF=>?_⟩
     refine bS hch 9 (by kernel_rfl) rfl rfl ?_
     refine fN 9 rfl rfl rfl rfl fun w hMs hM=>?_
     refine (bL (vs:=_) Tryz.sizeOf60 (hM.obj (i:=0) rfl) hF rfl rfl rfl rfl (RMark.len _) (RMark.one _) (by first | (rw [RMark.len,RMark.len]; decide) | (rw [RMark.len]; decide)) (bU ((RMark.len _).trans (RMark.len _).symm)) fun w m5=>?_)
     have hM:=hM.chg m5 (i:=0) rfl
     replace hM:MemL _ (pt g0 (RMark.enc (RMark.mk j3.1 g5.1 (decide (d2.1 = 1)) SV.nil SV.nil SV.nil SV.nil)) 60 :: pt b0 (RReader.enc (RReader.mk j5 d2.2.at_ d2.2.place d2.2.e)) 176 :: pt c1 (RMark.enc (RMark.mk 0 0 false SV.nil SV.nil SV.nil SV.nil)) 60 :: pt c0 [.pointer (some ⟨b0,0,none⟩)] 174 :: Lr):=hM
     have hMs:=hM
     refine ⟨_,_,hMs,hM,.inr (by kernel_rfl),?_⟩
     refine cI hch (by kernel_rfl) fun w hM=>?_
     refine aB ?_
     have hP:=Option.some.inj hP
     subst hP
     exact ⟨(j3.1,g5.1,(decide (d2.1 = 1)),d2.2),rfl,g0,j5,p7,hF.to ⟨rfl,rfl,rfl,rfl,trivial⟩,hM⟩
    refine cR hF 8 rfl rfl rfl rfl rfl fun w hMs hM=>?_
    refine (cB z60 (zs:=RMark.zero.enc) rfl rfl fun g0 w z2 l0=>?_)
    have hM:=hM.plus l0
    replace hM:MemL _ (pt g0 (RMark.enc (RMark.mk 0 0 false SV.nil SV.nil SV.nil SV.nil)) 60 :: pt b0 (RReader.enc (RReader.mk u9 g5.2.at_ g5.2.place g5.2.e)) 176 :: pt c1 (RMark.enc (RMark.mk 0 0 false SV.nil SV.nil SV.nil SV.nil)) 60 :: pt c0 [.pointer (some ⟨b0,0,none⟩)] 174 :: Lr):=hM
    have hMs:=selM hM [0,2,3] 4 rfl
    refine ⟨_,_,hMs,hM,.inl fun _ h=>dropM h 1,fun a hF=>?_⟩
    refine bS hch 5 (by kernel_rfl) rfl rfl ?_
    refine cR hF 5 rfl rfl rfl rfl rfl fun w hMs hM=>?_
    obtain ⟨d2,m6,hP⟩:=bind_some hP
    refine (aO (xs:=[.tmp 13,.const (.int .i64 (1))]) Tryz.call115 hF rfl rfl (cP m6 (selM hM [1,0,2,3] 4 rfl) (Bf:=Bf) (fun w hM=>hsub _ (dropM hM 3)) u6) fun v w hR=>?_)
    obtain ⟨j5,rfl,p7,hM⟩:=hR
    replace hM:MemL _ (pt b0 (RReader.enc (RReader.mk j5 d2.2.at_ d2.2.place d2.2.e)) 176 :: pt g0 (RMark.enc (RMark.mk 0 0 false SV.nil SV.nil SV.nil SV.nil)) 60 :: pt c1 (RMark.enc (RMark.mk 0 0 false SV.nil SV.nil SV.nil SV.nil)) 60 :: pt c0 [.pointer (some ⟨b0,0,none⟩)] 174 :: Lr):=hM
    have hMs:=selM hM [1,2,3] 4 rfl
    refine ⟨_,_,hMs,hM,.inl fun _ h=>h,fun a hF=>?_⟩
    refine aL hF hch 6 rfl (by kernel_rfl) rfl rfl rfl (fun w hM=>(cE hF rfl rfl rfl)) fun a hF=>?_
    refine aL hF hch 7 rfl (by kernel_rfl) rfl rfl rfl (fun w hM=>(cU z60 Tryz.underlying60 pl60 hF (parts:=[(0,.tmp 10),(1,.tmp 12),(2,.tmp 15)]) rfl rfl (cN rfl rfl (by rw [RMark.len]; decide) (RMark.s_at_ _ _) (cN rfl rfl (by rw [RMark.len]; decide) (RMark.s_next _ _) (cN rfl rfl (by rw [RMark.len]; decide) (RMark.s_done _ _) dI))))) fun a hF=>?_
    refine bS hch 9 (by kernel_rfl) rfl rfl ?_
    refine fN 9 rfl rfl rfl rfl fun w hMs hM=>?_
    refine (bL (vs:=_) Tryz.sizeOf60 (hM.obj (i:=1) rfl) hF rfl rfl rfl rfl (RMark.len _) (RMark.one _) (by first | (rw [RMark.len,RMark.len]; decide) | (rw [RMark.len]; decide)) (bU ((RMark.len _).trans (RMark.len _).symm)) fun w m5=>?_)
    have hM:=hM.chg m5 (i:=1) rfl
    replace hM:MemL _ (pt b0 (RReader.enc (RReader.mk j5 d2.2.at_ d2.2.place d2.2.e)) 176 :: pt g0 (RMark.enc (RMark.mk j3.1 g5.1 (decide (d2.1 = 1)) SV.nil SV.nil SV.nil SV.nil)) 60 :: pt c1 (RMark.enc (RMark.mk 0 0 false SV.nil SV.nil SV.nil SV.nil)) 60 :: pt c0 [.pointer (some ⟨b0,0,none⟩)] 174 :: Lr):=hM
    have hMs:=hM
    refine ⟨_,_,hMs,hM,.inr (by kernel_rfl),?_⟩
    refine cI hch (by kernel_rfl) fun w hM=>?_
    refine aB ?_
    have hP:=Option.some.inj hP
    subst hP
    exact ⟨(j3.1,g5.1,(decide (d2.1 = 1)),d2.2),rfl,g0,j5,p7,hF.to ⟨rfl,rfl,rfl,rfl,trivial⟩,selM hM [1,0,2,3] 4 rfl⟩
   refine cR hF 8 rfl rfl rfl rfl rfl fun w hMs hM=>?_
   refine (cB z60 (zs:=RMark.zero.enc) rfl rfl fun g0 w z2 l0=>?_)
   have hM:=hM.plus l0
   replace hM:MemL _ (pt g0 (RMark.enc (RMark.mk 0 0 false SV.nil SV.nil SV.nil SV.nil)) 60 :: pt b0 (RReader.enc (RReader.mk c38 j3.2.at_ j3.2.place j3.2.e)) 176 :: pt c1 (RMark.enc (RMark.mk 0 0 false SV.nil SV.nil SV.nil SV.nil)) 60 :: pt c0 [.pointer (some ⟨b0,0,none⟩)] 174 :: Lr):=hM
   have hMs:=selM hM [0,2,3] 4 rfl
   refine ⟨_,_,hMs,hM,.inl fun _ h=>dropM h 1,fun a hF=>?_⟩
   refine bS hch 3 (by kernel_rfl) rfl rfl ?_
   refine cR hF 3 rfl rfl rfl rfl rfl fun w hMs hM=>?_
   obtain ⟨g5,t5,hP⟩:=bind_some hP
   refine (aO (xs:=[.tmp 11,.const (.int .i64 (2))]) Tryz.call113 hF rfl rfl (bE t5 (selM hM [1,0,2,3] 4 rfl) (Bf:=Bf) (fun w hM=>hsub _ (dropM hM 3)) c37) fun v w hR=>?_)
   obtain ⟨u9,rfl,u6,hM⟩:=hR
   replace hM:MemL _ (pt b0 (RReader.enc (RReader.mk u9 g5.2.at_ g5.2.place g5.2.e)) 176 :: pt g0 (RMark.enc (RMark.mk 0 0 false SV.nil SV.nil SV.nil SV.nil)) 60 :: pt c1 (RMark.enc (RMark.mk 0 0 false SV.nil SV.nil SV.nil SV.nil)) 60 :: pt c0 [.pointer (some ⟨b0,0,none⟩)] 174 :: Lr):=hM
   have hMs:=selM hM [1,2,3] 4 rfl
   refine ⟨_,_,hMs,hM,.inl fun _ h=>h,fun a hF=>?_⟩
   refine bS hch 5 (by kernel_rfl) rfl rfl ?_
   refine cR hF 5 rfl rfl rfl rfl rfl fun w hMs hM=>?_
   obtain ⟨d2,m6,hP⟩:=bind_some hP
   refine (aO (xs:=[.tmp 13,.const (.int .i64 (1))]) Tryz.call115 hF rfl rfl (cP m6 hM (Bf:=Bf) (fun w hM=>hsub _ (dropM hM 3)) u6) fun v w hR=>?_)
   obtain ⟨j5,rfl,p7,hM⟩:=hR
   replace hM:MemL _ (pt b0 (RReader.enc (RReader.mk j5 d2.2.at_ d2.2.place d2.2.e)) 176 :: pt g0 (RMark.enc (RMark.mk 0 0 false SV.nil SV.nil SV.nil SV.nil)) 60 :: pt c1 (RMark.enc (RMark.mk 0 0 false SV.nil SV.nil SV.nil SV.nil)) 60 :: pt c0 [.pointer (some ⟨b0,0,none⟩)] 174 :: Lr):=hM
   have hMs:=selM hM [1,2,3] 4 rfl
   refine ⟨_,_,hMs,hM,.inl fun _ h=>h,fun a hF=>?_⟩
   refine aL hF hch 6 rfl (by kernel_rfl) rfl rfl rfl (fun w hM=>(cE hF rfl rfl rfl)) fun a hF=>?_
   refine aL hF hch 7 rfl (by kernel_rfl) rfl rfl rfl (fun w hM=>(cU z60 Tryz.underlying60 pl60 hF (parts:=[(0,.tmp 10),(1,.tmp 12),(2,.tmp 15)]) rfl rfl (cN rfl rfl (by rw [RMark.len]; decide) (RMark.s_at_ _ _) (cN rfl rfl (by rw [RMark.len]; decide) (RMark.s_next _ _) (cN rfl rfl (by rw [RMark.len]; decide) (RMark.s_done _ _) dI))))) fun a hF=>?_
   refine bS hch 9 (by kernel_rfl) rfl rfl ?_
   refine fN 9 rfl rfl rfl rfl fun w hMs hM=>?_
   refine (bL (vs:=_) Tryz.sizeOf60 (hM.obj (i:=1) rfl) hF rfl rfl rfl rfl (RMark.len _) (RMark.one _) (by first | (rw [RMark.len,RMark.len]; decide) | (rw [RMark.len]; decide)) (bU ((RMark.len _).trans (RMark.len _).symm)) fun w m5=>?_)
   have hM:=hM.chg m5 (i:=1) rfl
   replace hM:MemL _ (pt b0 (RReader.enc (RReader.mk j5 d2.2.at_ d2.2.place d2.2.e)) 176 :: pt g0 (RMark.enc (RMark.mk j3.1 g5.1 (decide (d2.1 = 1)) SV.nil SV.nil SV.nil SV.nil)) 60 :: pt c1 (RMark.enc (RMark.mk 0 0 false SV.nil SV.nil SV.nil SV.nil)) 60 :: pt c0 [.pointer (some ⟨b0,0,none⟩)] 174 :: Lr):=hM
   have hMs:=hM
   refine ⟨_,_,hMs,hM,.inr (by kernel_rfl),?_⟩
   refine cI hch (by kernel_rfl) fun w hM=>?_
   refine aB ?_
   have hP:=Option.some.inj hP
   subst hP
   exact ⟨(j3.1,g5.1,(decide (d2.1 = 1)),d2.2),rfl,g0,j5,p7,hF.to ⟨rfl,rfl,rfl,rfl,trivial⟩,selM hM [1,0,2,3] 4 rfl⟩
  refine cR hF 8 rfl rfl rfl rfl rfl fun w hMs hM=>?_
  refine (cB z60 (zs:=RMark.zero.enc) rfl rfl fun g0 w z2 l0=>?_)
  have hM:=hM.plus l0
  replace hM:MemL _ (pt g0 (RMark.enc (RMark.mk 0 0 false SV.nil SV.nil SV.nil SV.nil)) 60 :: pt c1 (RMark.enc (RMark.mk 0 0 false SV.nil SV.nil SV.nil SV.nil)) 60 :: pt c0 [.pointer (some ⟨b0,0,none⟩)] 174 :: pt b0 (RReader.enc (RReader.mk s1 x0.at_ x0.place x0.e)) 176 :: Lr):=hM
  have hMs:=selM hM [0,1,2] 4 rfl
  refine ⟨_,_,hMs,hM,.inl fun _ h=>dropM h 1,fun a hF=>?_⟩
  refine bS hch 1 (by kernel_rfl) rfl rfl ?_
  refine cR hF 1 rfl rfl rfl rfl rfl fun w hMs hM=>?_
  obtain ⟨j3,c46,hP⟩:=bind_some hP
  refine (aO (xs:=[.tmp 9,.const (.int .i64 (2))]) Tryz.call113 hF rfl rfl (bE c46 (selM hM [3,0,1,2] 4 rfl) (Bf:=Bf) (fun w hM=>hsub _ (dropM hM 3)) f2) fun v w hR=>?_)
  obtain ⟨c38,rfl,c37,hM⟩:=hR
  replace hM:MemL _ (pt b0 (RReader.enc (RReader.mk c38 j3.2.at_ j3.2.place j3.2.e)) 176 :: pt g0 (RMark.enc (RMark.mk 0 0 false SV.nil SV.nil SV.nil SV.nil)) 60 :: pt c1 (RMark.enc (RMark.mk 0 0 false SV.nil SV.nil SV.nil SV.nil)) 60 :: pt c0 [.pointer (some ⟨b0,0,none⟩)] 174 :: Lr):=hM
  have hMs:=selM hM [1,2,3] 4 rfl
  refine ⟨_,_,hMs,hM,.inl fun _ h=>h,fun a hF=>?_⟩
  refine bS hch 3 (by kernel_rfl) rfl rfl ?_
  refine cR hF 3 rfl rfl rfl rfl rfl fun w hMs hM=>?_
  obtain ⟨g5,t5,hP⟩:=bind_some hP
  refine (aO (xs:=[.tmp 11,.const (.int .i64 (2))]) Tryz.call113 hF rfl rfl (bE t5 hM (Bf:=Bf) (fun w hM=>hsub _ (dropM hM 3)) c37) fun v w hR=>?_)
  obtain ⟨u9,rfl,u6,hM⟩:=hR
  replace hM:MemL _ (pt b0 (RReader.enc (RReader.mk u9 g5.2.at_ g5.2.place g5.2.e)) 176 :: pt g0 (RMark.enc (RMark.mk 0 0 false SV.nil SV.nil SV.nil SV.nil)) 60 :: pt c1 (RMark.enc (RMark.mk 0 0 false SV.nil SV.nil SV.nil SV.nil)) 60 :: pt c0 [.pointer (some ⟨b0,0,none⟩)] 174 :: Lr):=hM
  have hMs:=selM hM [1,2,3] 4 rfl
  refine ⟨_,_,hMs,hM,.inl fun _ h=>h,fun a hF=>?_⟩
  refine bS hch 5 (by kernel_rfl) rfl rfl ?_
  refine cR hF 5 rfl rfl rfl rfl rfl fun w hMs hM=>?_
  obtain ⟨d2,m6,hP⟩:=bind_some hP
  refine (aO (xs:=[.tmp 13,.const (.int .i64 (1))]) Tryz.call115 hF rfl rfl (cP m6 hM (Bf:=Bf) (fun w hM=>hsub _ (dropM hM 3)) u6) fun v w hR=>?_)
  obtain ⟨j5,rfl,p7,hM⟩:=hR
  replace hM:MemL _ (pt b0 (RReader.enc (RReader.mk j5 d2.2.at_ d2.2.place d2.2.e)) 176 :: pt g0 (RMark.enc (RMark.mk 0 0 false SV.nil SV.nil SV.nil SV.nil)) 60 :: pt c1 (RMark.enc (RMark.mk 0 0 false SV.nil SV.nil SV.nil SV.nil)) 60 :: pt c0 [.pointer (some ⟨b0,0,none⟩)] 174 :: Lr):=hM
  have hMs:=selM hM [1,2,3] 4 rfl
  refine ⟨_,_,hMs,hM,.inl fun _ h=>h,fun a hF=>?_⟩
  refine aL hF hch 6 rfl (by kernel_rfl) rfl rfl rfl (fun w hM=>(cE hF rfl rfl rfl)) fun a hF=>?_
  refine aL hF hch 7 rfl (by kernel_rfl) rfl rfl rfl (fun w hM=>(cU z60 Tryz.underlying60 pl60 hF (parts:=[(0,.tmp 10),(1,.tmp 12),(2,.tmp 15)]) rfl rfl (cN rfl rfl (by rw [RMark.len]; decide) (RMark.s_at_ _ _) (cN rfl rfl (by rw [RMark.len]; decide) (RMark.s_next _ _) (cN rfl rfl (by rw [RMark.len]; decide) (RMark.s_done _ _) dI))))) fun a hF=>?_
  refine bS hch 9 (by kernel_rfl) rfl rfl ?_
  refine fN 9 rfl rfl rfl rfl fun w hMs hM=>?_
  refine (bL (vs:=_) Tryz.sizeOf60 (hM.obj (i:=1) rfl) hF rfl rfl rfl rfl (RMark.len _) (RMark.one _) (by first | (rw [RMark.len,RMark.len]; decide) | (rw [RMark.len]; decide)) (bU ((RMark.len _).trans (RMark.len _).symm)) fun w m5=>?_)
  have hM:=hM.chg m5 (i:=1) rfl
  replace hM:MemL _ (pt b0 (RReader.enc (RReader.mk j5 d2.2.at_ d2.2.place d2.2.e)) 176 :: pt g0 (RMark.enc (RMark.mk j3.1 g5.1 (decide (d2.1 = 1)) SV.nil SV.nil SV.nil SV.nil)) 60 :: pt c1 (RMark.enc (RMark.mk 0 0 false SV.nil SV.nil SV.nil SV.nil)) 60 :: pt c0 [.pointer (some ⟨b0,0,none⟩)] 174 :: Lr):=hM
  have hMs:=hM
  refine ⟨_,_,hMs,hM,.inr (by kernel_rfl),?_⟩
  refine cI hch (by kernel_rfl) fun w hM=>?_
  refine aB ?_
  have hP:=Option.some.inj hP
  subst hP
  exact ⟨(j3.1,g5.1,(decide (d2.1 = 1)),d2.2),rfl,g0,j5,p7,hF.to ⟨rfl,rfl,rfl,rfl,trivial⟩,selM hM [1,0,2,3] 4 rfl⟩
 rintro ⟨c5,c6,c7,z0⟩ a w hP ⟨c2,c62,d73,hF,hM⟩
 replace hP:Sh.fB x0 c5 c6 c7 z0 = _:=hP
 unfold Sh.fB at hP
 refine aB ?_
 refine aH ?_
 refine bQ mixed (by kernel_rfl) hM [0,2,3] 4 rfl fun hch=>?_
 refine aL hF hch 0 rfl (by kernel_rfl) rfl rfl rfl (fun w hM=>(aJ Tryz.isAgg174 hF rfl rfl (hM.cell (i:=2) rfl rfl))) fun a hF=>?_
 refine aL hF hch 1 rfl (by kernel_rfl) rfl rfl rfl (fun w hM=>(aJ Tryz.isAgg174 hF rfl rfl (hM.cell (i:=2) rfl rfl))) fun a hF=>?_
 refine aL hF hch 3 rfl (by kernel_rfl) rfl rfl rfl (fun w hM=>(fF hF (fs:=[]) (cs:=[.tmp 4,.tmp 1]) rfl rfl rfl)) fun a hF=>?_
 refine bS hch 2 (by kernel_rfl) rfl rfl ?_
 refine cR hF 2 rfl rfl rfl rfl rfl fun w hMs hM=>?_
 obtain ⟨c65,d60,hP⟩:=bind_some hP
 refine (aO (xs:=[.tmp 18,.const (.int .i64 (1))]) Tryz.call113 hF rfl rfl (bE d60 (selM hM [1,0,2,3] 4 rfl) (Bf:=Bf) (fun w hM=>hsub _ (dropM hM 3)) d73) fun v w hR=>?_)
 obtain ⟨c95,rfl,d74,hM⟩:=hR
 replace hM:MemL _ (pt b0 (RReader.enc (RReader.mk c95 c65.2.at_ c65.2.place c65.2.e)) 176 :: pt c2 (RMark.enc (RMark.mk c5 c6 c7 SV.nil SV.nil SV.nil SV.nil)) 60 :: pt c1 (RMark.enc (RMark.mk 0 0 false SV.nil SV.nil SV.nil SV.nil)) 60 :: pt c0 [.pointer (some ⟨b0,0,none⟩)] 174 :: Lr):=hM
 have hMs:=selM hM [1,2,3] 4 rfl
 refine ⟨_,_,hMs,hM,.inl fun _ h=>h,fun a hF=>?_⟩
 refine bS hch 4 (by kernel_rfl) rfl rfl ?_
 refine cR hF 4 rfl rfl rfl rfl rfl fun w hMs hM=>?_
 obtain ⟨d98,hP,d80⟩:=cO hP
 refine (aO (xs:=[.tmp 17,.tmp 19,.tmp 20]) Tryz.call114 hF rfl rfl (R:=fun v w=>∃ x,d98 = .inl x ∧ match x with | (c30,m2)=>∃ (n7:SV) (c39:SV),v = .tuple #[] ∧ LIn Bf c39 m2.b ∧ MemL w (pt c2 (RMark.enc (RMark.mk c5 c6 c7 n7 SV.nil SV.nil SV.nil)) 60 :: rowL 0 n7 128 c30 :: pt b0 (RReader.enc (RReader.mk c39 m2.at_ m2.place m2.e)) 176 :: pt c1 (RMark.enc (RMark.mk 0 0 false SV.nil SV.nil SV.nil SV.nil)) 60 :: pt c0 [.pointer (some ⟨b0,0,none⟩)] 174 :: Lr)) ?_ fun v w hR=>?_)
 ·refine aM Tryz.func114 rfl Tryz.ntmps114 rfl fun a hF=>?_
  refine aV ?_
  have hM:=hM.rowNil (X:=LTurn) 0 128
  refine bN hF hM hP (fun F x a w=>match x with | (l6,k9,p8)=>∃ (j8:SV) (c23:SV),LIn Bf c23 k9.b ∧ Fr 19 [(1,.int .i64 p8),(0,.pointer (some ⟨b0,0,none⟩)),(2,.func (.func 184) [].toArray [.pointer (some ⟨c2,0,none⟩),.pointer (some ⟨c0,0,none⟩)].toArray)] a ∧ MemL w (pt c2 (RMark.enc (RMark.mk c5 c6 c7 j8 SV.nil SV.nil SV.nil)) 60 :: rowL 0 j8 128 l6 :: pt b0 (RReader.enc (RReader.mk c23 k9.at_ k9.place k9.e)) 176 :: pt c1 (RMark.enc (RMark.mk 0 0 false SV.nil SV.nil SV.nil SV.nil)) 60 :: pt c0 [.pointer (some ⟨b0,0,none⟩)] 174 :: Lr)) (fun hF hM=>⟨SV.nil,c95,d74,hF.to ⟨rfl,rfl,rfl,trivial⟩,selM hM [2,0,1,3,4] 5 rfl⟩) ?_
  rintro ⟨l6,k9,p8⟩ a w g31 hP d84 ⟨j8,c23,c88,hF,hM⟩
  replace hP:Sh.aF l6 k9 p8 = _:=hP
  unfold Sh.aF at hP
  refine aH ?_
  refine aH ?_
  refine aS hF hM hP (fun F x a w=>match x with | c63=>Fr 19 [(14,.bool c63),(0,.pointer (some ⟨b0,0,none⟩)),(1,.int .i64 p8),(2,.func (.func 184) [].toArray [.pointer (some ⟨c2,0,none⟩),.pointer (some ⟨c0,0,none⟩)].toArray)] a ∧ MemL w (pt c2 (RMark.enc (RMark.mk c5 c6 c7 j8 SV.nil SV.nil SV.nil)) 60 :: pt b0 (RReader.enc (RReader.mk c23 k9.at_ k9.place k9.e)) 176 :: pt c1 (RMark.enc (RMark.mk 0 0 false SV.nil SV.nil SV.nil SV.nil)) 60 :: pt c0 [.pointer (some ⟨b0,0,none⟩)] 174 :: rowL 0 j8 128 l6 :: Lr)) (fun g29 hP g20 hF hM=>?_) ?_
  ·refine aC ?_
   refine aA hF (aF hF rfl rfl) rfl rfl rfl fun a hF=>?_
   refine aA hF (eJ hF rfl rfl rfl) rfl rfl rfl fun a hF=>?_
   refine aA hF (aF hF rfl rfl) rfl rfl rfl fun a hF=>?_
   refine aZ 8 hF rfl (fun i3=>?_) (fun i3=>?_)
   ·have hP:=Fx.cT i3 hP
    refine aK hF rfl rfl rfl i3 (aF hF rfl rfl) rfl rfl fun a hF=>?_
    refine aK hF rfl rfl rfl i3 (aX hF rfl rfl) rfl rfl fun a hF=>?_
    refine aK hF rfl rfl rfl i3 (aD (off':=3) Tryz.underlying176 rfl in34 rfl hF rfl rfl rfl) rfl rfl fun a hF=>?_
    refine aK hF rfl rfl rfl i3 (aJ Tryz.isAgg34 hF rfl rfl (hM.cell (i:=2) rfl (RReader.g_e _))) rfl rfl fun a hF=>?_
    refine aK hF rfl rfl rfl i3 (cE hF rfl rfl rfl) rfl rfl fun a hF=>?_
    refine aA hF (aP hF rfl rfl i3 rfl) rfl rfl rfl fun a hF=>?_
    refine aI (aB ?_)
    have hP:=Option.some.inj hP
    subst hP
    exact ⟨(decide (k9.e = 0)),rfl,hF.to ⟨rfl,rfl,rfl,rfl,trivial⟩,selM hM [0,2,3,4,1] 5 rfl⟩
   have hP:=Fx.cF i3 hP
   refine aE hF rfl rfl rfl i3 rfl rfl fun a hF=>?_
   refine aE hF rfl rfl rfl i3 rfl rfl fun a hF=>?_
   refine aE hF rfl rfl rfl i3 rfl rfl fun a hF=>?_
   refine aE hF rfl rfl rfl i3 rfl rfl fun a hF=>?_
   refine aE hF rfl rfl rfl i3 rfl rfl fun a hF=>?_
   refine aA hF (aQ hF rfl rfl i3 rfl) rfl rfl rfl fun a hF=>?_
   refine aI (aB ?_)
   have hP:=Option.some.inj hP
   subst hP
   exact ⟨false,rfl,hF.to ⟨rfl,rfl,rfl,rfl,trivial⟩,selM hM [0,2,3,4,1] 5 rfl⟩
  rintro c63 a w hP ⟨hF,hM⟩
  replace hP:Sh.aY l6 k9 p8 c63 = _:=hP
  unfold Sh.aY at hP
  refine aB ?_
  refine aR hF (c:=.tmp 14) rfl (fun c45=>?_) (fun c45=>?_)
  ·have hP:=Fx.cT c45 hP
   refine aT (aB ?_)
   refine aH ?_
   refine aV ?_
   refine aC ?_
   refine aA hF (aF hF rfl rfl) rfl rfl rfl fun a hF=>?_
   obtain ⟨d99,hP,d81⟩:=cO hP
   refine aN hF rfl rfl rfl (gC (xs:=[]) Tryz.call184 hF rfl rfl rfl (R:=fun v w=>∃ x,d99 = .inl x ∧ match x with | (c43,p9)=>∃ (c40:SV) (c41:SV),v = .tuple #[] ∧ LIn Bf c41 p9.b ∧ MemL w (pt c2 (RMark.enc (RMark.mk c5 c6 c7 c40 SV.nil SV.nil SV.nil)) 60 :: rowL 0 c40 128 c43 :: pt b0 (RReader.enc (RReader.mk c41 p9.at_ p9.place p9.e)) 176 :: pt c1 (RMark.enc (RMark.mk 0 0 false SV.nil SV.nil SV.nil SV.nil)) 60 :: pt c0 [.pointer (some ⟨b0,0,none⟩)] 174 :: Lr)) ?_ fun v w hR=>?_)
   ·refine aM Tryz.func184 rfl Tryz.ntmps184 rfl fun a hF=>?_
    refine bQ mixed (by kernel_rfl) hM [0,2,3,4] 5 rfl fun hch=>?_
    refine aL hF hch 0 rfl (by kernel_rfl) rfl rfl rfl (fun w hM=>(aD (off':=3) Tryz.underlying60 rfl in56 rfl hF rfl rfl rfl)) fun a hF=>?_
    refine aL hF hch 1 rfl (by kernel_rfl) rfl rfl rfl (fun w hM=>(aJ Tryz.isAgg56 hF rfl rfl (hM.cell (i:=0) rfl (RMark.g_regs _)))) fun a hF=>?_
    refine aL hF hch 2 rfl (by kernel_rfl) rfl rfl rfl (fun w hM=>(aJ Tryz.isAgg174 hF rfl rfl (hM.cell (i:=2) rfl rfl))) fun a hF=>?_
    refine aL hF hch 4 rfl (by kernel_rfl) rfl rfl rfl (fun w hM=>(aJ Tryz.isAgg174 hF rfl rfl (hM.cell (i:=2) rfl rfl))) fun a hF=>?_
    refine aL hF hch 6 rfl (by kernel_rfl) rfl rfl rfl (fun w hM=>(aJ Tryz.isAgg174 hF rfl rfl (hM.cell (i:=2) rfl rfl))) fun a hF=>?_
    refine bS hch 3 (by kernel_rfl) rfl rfl ?_
    refine cR hF 3 rfl rfl rfl rfl rfl fun w hMs hM=>?_
    obtain ⟨t0,d61,hP⟩:=bind_some hP
    refine (aO (xs:=[.tmp 4,.const (.int .i64 (1))]) Tryz.call113 hF rfl rfl (bE d61 (selM hM [1,0,2,3,4] 5 rfl) (Bf:=Bf) (fun w hM=>hsub _ (dropM hM 4)) c88) fun v w hR=>?_)
    obtain ⟨d90,rfl,d77,hM⟩:=hR
    replace hM:MemL _ (pt b0 (RReader.enc (RReader.mk d90 t0.2.at_ t0.2.place t0.2.e)) 176 :: pt c2 (RMark.enc (RMark.mk c5 c6 c7 j8 SV.nil SV.nil SV.nil)) 60 :: pt c1 (RMark.enc (RMark.mk 0 0 false SV.nil SV.nil SV.nil SV.nil)) 60 :: pt c0 [.pointer (some ⟨b0,0,none⟩)] 174 :: rowL 0 j8 128 l6 :: Lr):=hM
    have hMs:=selM hM [1,2,3,4] 5 rfl
    refine ⟨_,_,hMs,hM,.inl fun _ h=>h,fun a hF=>?_⟩
    refine bS hch 5 (by kernel_rfl) rfl rfl ?_
    refine cR hF 5 rfl rfl rfl rfl rfl fun w hMs hM=>?_
    obtain ⟨t1,d62,hP⟩:=bind_some hP
    refine (aO (xs:=[.tmp 6]) Tryz.call185 hF rfl rfl (gG d62 hM (Bf:=Bf) (fun w hM=>hsub _ (dropM hM 4)) d77) fun v w hR=>?_)
    obtain ⟨d91,rfl,d78,hM⟩:=hR
    replace hM:MemL _ (pt b0 (RReader.enc (RReader.mk d91 t1.2.at_ t1.2.place t1.2.e)) 176 :: pt c2 (RMark.enc (RMark.mk c5 c6 c7 j8 SV.nil SV.nil SV.nil)) 60 :: pt c1 (RMark.enc (RMark.mk 0 0 false SV.nil SV.nil SV.nil SV.nil)) 60 :: pt c0 [.pointer (some ⟨b0,0,none⟩)] 174 :: rowL 0 j8 128 l6 :: Lr):=hM
    have hMs:=selM hM [1,2,3,4] 5 rfl
    refine ⟨_,_,hMs,hM,.inl fun _ h=>h,fun a hF=>?_⟩
    refine bS hch 7 (by kernel_rfl) rfl rfl ?_
    refine cR hF 7 rfl rfl rfl rfl rfl fun w hMs hM=>?_
    obtain ⟨j4,d63,hP⟩:=bind_some hP
    refine (aO (xs:=[.tmp 8]) Tryz.call185 hF rfl rfl (gG d63 hM (Bf:=Bf) (fun w hM=>hsub _ (dropM hM 4)) d78) fun v w hR=>?_)
    obtain ⟨c24,rfl,d79,hM⟩:=hR
    replace hM:MemL _ (pt b0 (RReader.enc (RReader.mk c24 j4.2.at_ j4.2.place j4.2.e)) 176 :: pt c2 (RMark.enc (RMark.mk c5 c6 c7 j8 SV.nil SV.nil SV.nil)) 60 :: pt c1 (RMark.enc (RMark.mk 0 0 false SV.nil SV.nil SV.nil SV.nil)) 60 :: pt c0 [.pointer (some ⟨b0,0,none⟩)] 174 :: rowL 0 j8 128 l6 :: Lr):=hM
    have hMs:=selM hM [1,2,3,4] 5 rfl
    refine ⟨_,_,hMs,hM,.inl fun _ h=>h,fun a hF=>?_⟩
    refine aL hF hch 8 rfl (by kernel_rfl) rfl rfl rfl (fun w hM=>(cU z128 Tryz.underlying128 pl128 hF (parts:=[(0,.tmp 5),(1,.tmp 7),(2,.tmp 9)]) rfl rfl (cN rfl rfl (by rw [LTurn.len]; decide) (LTurn.s_reg _ _) (iW rfl (LVal.len _) (by rw [LVal.len,LTurn.len]; decide) (LTurn.p_old _ _) (iW rfl (LVal.len _) (by rw [LVal.len,LTurn.len]; decide) (LTurn.p_new _ _) dI))))) fun a hF=>?_
    refine bS hch 9 (by kernel_rfl) rfl rfl ?_
    refine cR hF 9 rfl rfl rfl rfl rfl fun w hMs hM=>?_
    refine (cY (X:=LTurn) (y:=(LTurn.mk t0.1 t1.1 j4.1)) Tryz.underlying56 in128 rfl rfl rfl rfl hF rfl rfl rfl fun t2 w d92 c69=>?_)
    have hM:=hM.plus c69
    replace hM:MemL _ (pt t2 (encs ([(LTurn.mk t0.1 t1.1 j4.1)]:List LTurn)) 128 :: pt b0 (RReader.enc (RReader.mk c24 j4.2.at_ j4.2.place j4.2.e)) 176 :: pt c2 (RMark.enc (RMark.mk c5 c6 c7 j8 SV.nil SV.nil SV.nil)) 60 :: pt c1 (RMark.enc (RMark.mk 0 0 false SV.nil SV.nil SV.nil SV.nil)) 60 :: pt c0 [.pointer (some ⟨b0,0,none⟩)] 174 :: rowL 0 j8 128 l6 :: Lr):=hM
    have hMs:=selM hM [0,2,3,4,5] 6 rfl
    refine ⟨_,_,hMs,hM,.inl fun _ h=>dropM h 1,fun a hF=>?_⟩
    refine bS hch 10 (by kernel_rfl) rfl rfl ?_
    refine cR hF 10 rfl rfl rfl rfl rfl fun w hMs hM=>?_
    obtain ⟨c64,d59,hP⟩:=bind_some hP
    refine (dE (X:=LTurn) d59 Tryz.underlying56 in128 rfl rfl rfl rfl hF rfl rfl rfl (hM.own (X:=LTurn) (i:=5) rfl) (hM.ptS (X:=LTurn) (i:=0) (n:=1) (c:=1) rfl rfl rfl (Nat.le_refl _)) fun c42 w d12=>?_)
    have hM:=hM.chg d12 (i:=5) rfl
    replace hM:MemL _ (pt t2 (encs ([(LTurn.mk t0.1 t1.1 j4.1)]:List LTurn)) 128 :: pt b0 (RReader.enc (RReader.mk c24 j4.2.at_ j4.2.place j4.2.e)) 176 :: pt c2 (RMark.enc (RMark.mk c5 c6 c7 j8 SV.nil SV.nil SV.nil)) 60 :: pt c1 (RMark.enc (RMark.mk 0 0 false SV.nil SV.nil SV.nil SV.nil)) 60 :: pt c0 [.pointer (some ⟨b0,0,none⟩)] 174 :: rowL 0 c42 128 c64 :: Lr):=hM
    have hMs:=hM
    refine ⟨_,_,hMs,hM,.inr (by kernel_rfl),fun a hF=>?_⟩
    refine aL hF hch 11 rfl (by kernel_rfl) rfl rfl rfl (fun w hM=>(aD (off':=3) Tryz.underlying60 rfl in56 rfl hF rfl rfl rfl)) fun a hF=>?_
    refine bS hch 12 (by kernel_rfl) rfl rfl ?_
    refine fN 12 rfl rfl rfl rfl fun w hMs hM=>?_
    refine (bZ Tryz.sizeOf56 (hM.obj (i:=2) rfl) hF rfl rfl rfl rfl (by rw [RMark.len]; decide) (RMark.s_regs _ _) fun w d58=>?_)
    have hM:=hM.chg d58 (i:=2) rfl
    replace hM:MemL _ (pt t2 (encs ([(LTurn.mk t0.1 t1.1 j4.1)]:List LTurn)) 128 :: pt b0 (RReader.enc (RReader.mk c24 j4.2.at_ j4.2.place j4.2.e)) 176 :: pt c2 (RMark.enc (RMark.mk c5 c6 c7 c42 SV.nil SV.nil SV.nil)) 60 :: pt c1 (RMark.enc (RMark.mk 0 0 false SV.nil SV.nil SV.nil SV.nil)) 60 :: pt c0 [.pointer (some ⟨b0,0,none⟩)] 174 :: rowL 0 c42 128 c64 :: Lr):=hM
    have hMs:=hM
    refine ⟨_,_,hMs,hM,.inr (by kernel_rfl),?_⟩
    refine cI hch (by kernel_rfl) fun w hM=>?_
    have hP:=Option.some.inj hP
    subst hP
    refine eI Tryz.results184 hF ?_
    exact ⟨(c64,j4.2),rfl,c42,c24,rfl,d79,selM hM [2,5,1,3,4] 6 rfl⟩
   obtain ⟨⟨c43,p9⟩,rfl,c40,c41,rfl,d76,hM⟩:=hR
   replace hP:Sh.eY p8 c43 p9 = _:=d81
   unfold Sh.eY at hP
   intro a hF
   refine aI (bI (aB ?_))
   refine aC ?_
   refine aA hF (aF hF rfl rfl) rfl rfl rfl fun a hF=>?_
   refine aA hF (fH hF rfl rfl rfl) rfl rfl rfl fun a hF=>?_
   refine aA hF (aG hF rfl rfl) rfl rfl rfl fun a hF=>?_
   refine aI (aB ?_)
   have hP:=Option.some.inj hP
   subst hP
   exact ⟨(c43,p9,(IntKind.i64.wrap (p8 - 1))),rfl,c40,c41,d76,hF.to ⟨rfl,rfl,rfl,trivial⟩,hM⟩
  have hP:=Fx.cF c45 hP
  refine bW (bD (bD (cG ?_)))
  have hP:=Option.some.inj hP
  subst hP
  have hP:=d84 _ rfl
  subst hP
  refine eI Tryz.results114 hF ?_
  exact ⟨(l6,k9),rfl,j8,c23,rfl,c88,selM hM [0,4,1,2,3] 5 rfl⟩
 obtain ⟨⟨c30,m2⟩,rfl,n7,c39,rfl,d75,hM⟩:=hR
 replace hP:Sh.eX x0 c5 c6 c7 c30 m2 = _:=d80
 unfold Sh.eX at hP
 replace hM:MemL _ (pt c2 (RMark.enc (RMark.mk c5 c6 c7 n7 SV.nil SV.nil SV.nil)) 60 :: rowL 0 n7 128 c30 :: pt b0 (RReader.enc (RReader.mk c39 m2.at_ m2.place m2.e)) 176 :: pt c1 (RMark.enc (RMark.mk 0 0 false SV.nil SV.nil SV.nil SV.nil)) 60 :: pt c0 [.pointer (some ⟨b0,0,none⟩)] 174 :: Lr):=hM
 have hMs:=hM
 refine ⟨_,_,hMs,hM,.inr (by kernel_rfl),fun a hF=>?_⟩
 refine cI hch (by kernel_rfl) fun w hM=>?_
 refine aB ?_
 refine aH ?_
 refine bQ mixed (by kernel_rfl) hM [0,1,3,4] 5 rfl fun hch=>?_
 refine aL hF hch 0 rfl (by kernel_rfl) rfl rfl rfl (fun w hM=>(aJ Tryz.isAgg174 hF rfl rfl (hM.cell (i:=3) rfl rfl))) fun a hF=>?_
 refine aL hF hch 1 rfl (by kernel_rfl) rfl rfl rfl (fun w hM=>(aJ Tryz.isAgg174 hF rfl rfl (hM.cell (i:=3) rfl rfl))) fun a hF=>?_
 refine aL hF hch 3 rfl (by kernel_rfl) rfl rfl rfl (fun w hM=>(fF hF (fs:=[]) (cs:=[.tmp 4,.tmp 1]) rfl rfl rfl)) fun a hF=>?_
 refine bS hch 2 (by kernel_rfl) rfl rfl ?_
 refine cR hF 2 rfl rfl rfl rfl rfl fun w hMs hM=>?_
 obtain ⟨c56,d18,hP⟩:=bind_some hP
 refine (aO (xs:=[.tmp 23,.const (.int .i64 (1))]) Tryz.call113 hF rfl rfl (bE d18 (selM hM [2,0,1,3,4] 5 rfl) (Bf:=Bf) (fun w hM=>hsub _ (dropM hM 4)) d75) fun v w hR=>?_)
 obtain ⟨c76,rfl,d32,hM⟩:=hR
 replace hM:MemL _ (pt b0 (RReader.enc (RReader.mk c76 c56.2.at_ c56.2.place c56.2.e)) 176 :: pt c2 (RMark.enc (RMark.mk c5 c6 c7 n7 SV.nil SV.nil SV.nil)) 60 :: rowL 0 n7 128 c30 :: pt c1 (RMark.enc (RMark.mk 0 0 false SV.nil SV.nil SV.nil SV.nil)) 60 :: pt c0 [.pointer (some ⟨b0,0,none⟩)] 174 :: Lr):=hM
 have hMs:=selM hM [1,2,3,4] 5 rfl
 refine ⟨_,_,hMs,hM,.inl fun _ h=>h,fun a hF=>?_⟩
 refine bS hch 4 (by kernel_rfl) rfl rfl ?_
 refine cR hF 4 rfl rfl rfl rfl rfl fun w hMs hM=>?_
 obtain ⟨g10,hP,d82⟩:=cO hP
 refine (aO (xs:=[.tmp 22,.tmp 24,.tmp 25]) Tryz.call114 hF rfl rfl (R:=fun v w=>∃ x,g10 = .inl x ∧ match x with | (u2,u3,l3)=>∃ (l7:SV) (l8:SV) (z6:SV),v = .tuple #[] ∧ LIn Bf z6 l3.b ∧ MemL w (pt c2 (RMark.enc (RMark.mk c5 c6 c7 l7 l8 SV.nil SV.nil)) 60 :: rowL 0 l7 128 u2 :: rowL 0 l8 151 u3 :: pt b0 (RReader.enc (RReader.mk z6 l3.at_ l3.place l3.e)) 176 :: pt c1 (RMark.enc (RMark.mk 0 0 false SV.nil SV.nil SV.nil SV.nil)) 60 :: pt c0 [.pointer (some ⟨b0,0,none⟩)] 174 :: Lr)) ?_ fun v w hR=>?_)
 ·refine aM Tryz.func114 rfl Tryz.ntmps114 rfl fun a hF=>?_
  refine aV ?_
  have hM:=hM.rowNil (X:=LCell) 0 151
  refine bN hF hM hP (fun F x a w=>match x with | (j6,k7,k0,m8)=>∃ (g4:SV) (i4:SV) (t7:SV),LIn Bf t7 k0.b ∧ Fr 19 [(1,.int .i64 m8),(0,.pointer (some ⟨b0,0,none⟩)),(2,.func (.func 186) [].toArray [.pointer (some ⟨c2,0,none⟩),.pointer (some ⟨c0,0,none⟩)].toArray)] a ∧ MemL w (pt c2 (RMark.enc (RMark.mk c5 c6 c7 g4 i4 SV.nil SV.nil)) 60 :: rowL 0 g4 128 j6 :: rowL 0 i4 151 k7 :: pt b0 (RReader.enc (RReader.mk t7 k0.at_ k0.place k0.e)) 176 :: pt c1 (RMark.enc (RMark.mk 0 0 false SV.nil SV.nil SV.nil SV.nil)) 60 :: pt c0 [.pointer (some ⟨b0,0,none⟩)] 174 :: Lr)) (fun hF hM=>⟨n7,SV.nil,c76,d32,hF.to ⟨rfl,rfl,rfl,trivial⟩,selM hM [2,3,0,1,4,5] 6 rfl⟩) ?_
  rintro ⟨j6,k7,k0,m8⟩ a w g32 hP d85 ⟨g4,i4,t7,c66,hF,hM⟩
  replace hP:Sh.aG j6 k7 k0 m8 = _:=hP
  unfold Sh.aG at hP
  refine aH ?_
  refine aH ?_
  refine aS hF hM hP (fun F x a w=>match x with | c50=>Fr 19 [(14,.bool c50),(0,.pointer (some ⟨b0,0,none⟩)),(1,.int .i64 m8),(2,.func (.func 186) [].toArray [.pointer (some ⟨c2,0,none⟩),.pointer (some ⟨c0,0,none⟩)].toArray)] a ∧ MemL w (pt c2 (RMark.enc (RMark.mk c5 c6 c7 g4 i4 SV.nil SV.nil)) 60 :: pt b0 (RReader.enc (RReader.mk t7 k0.at_ k0.place k0.e)) 176 :: pt c1 (RMark.enc (RMark.mk 0 0 false SV.nil SV.nil SV.nil SV.nil)) 60 :: pt c0 [.pointer (some ⟨b0,0,none⟩)] 174 :: rowL 0 g4 128 j6 :: rowL 0 i4 151 k7 :: Lr)) (fun g30 hP g21 hF hM=>?_) ?_
  ·refine aC ?_
   refine aA hF (aF hF rfl rfl) rfl rfl rfl fun a hF=>?_
   refine aA hF (eJ hF rfl rfl rfl) rfl rfl rfl fun a hF=>?_
   refine aA hF (aF hF rfl rfl) rfl rfl rfl fun a hF=>?_
   refine aZ 8 hF rfl (fun g6=>?_) (fun g6=>?_)
   ·have hP:=Fx.cT g6 hP
    refine aK hF rfl rfl rfl g6 (aF hF rfl rfl) rfl rfl fun a hF=>?_
    refine aK hF rfl rfl rfl g6 (aX hF rfl rfl) rfl rfl fun a hF=>?_
    refine aK hF rfl rfl rfl g6 (aD (off':=3) Tryz.underlying176 rfl in34 rfl hF rfl rfl rfl) rfl rfl fun a hF=>?_
    refine aK hF rfl rfl rfl g6 (aJ Tryz.isAgg34 hF rfl rfl (hM.cell (i:=3) rfl (RReader.g_e _))) rfl rfl fun a hF=>?_
    refine aK hF rfl rfl rfl g6 (cE hF rfl rfl rfl) rfl rfl fun a hF=>?_
    refine aA hF (aP hF rfl rfl g6 rfl) rfl rfl rfl fun a hF=>?_
    refine aI (aB ?_)
    have hP:=Option.some.inj hP
    subst hP
    exact ⟨(decide (k0.e = 0)),rfl,hF.to ⟨rfl,rfl,rfl,rfl,trivial⟩,selM hM [0,3,4,5,1,2] 6 rfl⟩
   have hP:=Fx.cF g6 hP
   refine aE hF rfl rfl rfl g6 rfl rfl fun a hF=>?_
   refine aE hF rfl rfl rfl g6 rfl rfl fun a hF=>?_
   refine aE hF rfl rfl rfl g6 rfl rfl fun a hF=>?_
   refine aE hF rfl rfl rfl g6 rfl rfl fun a hF=>?_
   refine aE hF rfl rfl rfl g6 rfl rfl fun a hF=>?_
   refine aA hF (aQ hF rfl rfl g6 rfl) rfl rfl rfl fun a hF=>?_
   refine aI (aB ?_)
   have hP:=Option.some.inj hP
   subst hP
   exact ⟨false,rfl,hF.to ⟨rfl,rfl,rfl,rfl,trivial⟩,selM hM [0,3,4,5,1,2] 6 rfl⟩
  rintro c50 a w hP ⟨hF,hM⟩
  replace hP:Sh.aZ j6 k7 k0 m8 c50 = _:=hP
  unfold Sh.aZ at hP
  refine aB ?_
  refine aR hF (c:=.tmp 14) rfl (fun c32=>?_) (fun c32=>?_)
  ·have hP:=Fx.cT c32 hP
   refine aT (aB ?_)
   refine aH ?_
   refine aV ?_
   refine aC ?_
   refine aA hF (aF hF rfl rfl) rfl rfl rfl fun a hF=>?_
   obtain ⟨g11,hP,d83⟩:=cO hP
   refine aN hF rfl rfl rfl (gC (xs:=[]) Tryz.call186 hF rfl rfl rfl (R:=fun v w=>∃ x,g11 = .inl x ∧ match x with | (c25,c26,m9)=>∃ (z7:SV) (z8:SV) (z9:SV),v = .tuple #[] ∧ LIn Bf z9 m9.b ∧ MemL w (pt c2 (RMark.enc (RMark.mk c5 c6 c7 z7 z8 SV.nil SV.nil)) 60 :: rowL 0 z7 128 c25 :: rowL 0 z8 151 c26 :: pt b0 (RReader.enc (RReader.mk z9 m9.at_ m9.place m9.e)) 176 :: pt c1 (RMark.enc (RMark.mk 0 0 false SV.nil SV.nil SV.nil SV.nil)) 60 :: pt c0 [.pointer (some ⟨b0,0,none⟩)] 174 :: Lr)) ?_ fun v w hR=>?_)
   ·refine aM Tryz.func186 rfl Tryz.ntmps186 rfl fun a hF=>?_
    refine bQ mixed (by kernel_rfl) hM [0,2,3,4,5] 6 rfl fun hch=>?_
    refine aL hF hch 0 rfl (by kernel_rfl) rfl rfl rfl (fun w hM=>(aD (off':=4) Tryz.underlying60 rfl in57 rfl hF rfl rfl rfl)) fun a hF=>?_
    refine aL hF hch 1 rfl (by kernel_rfl) rfl rfl rfl (fun w hM=>(aJ Tryz.isAgg57 hF rfl rfl (hM.cell (i:=0) rfl (RMark.g_slots _)))) fun a hF=>?_
    refine aL hF hch 2 rfl (by kernel_rfl) rfl rfl rfl (fun w hM=>(aJ Tryz.isAgg174 hF rfl rfl (hM.cell (i:=2) rfl rfl))) fun a hF=>?_
    refine aL hF hch 4 rfl (by kernel_rfl) rfl rfl rfl (fun w hM=>(aJ Tryz.isAgg174 hF rfl rfl (hM.cell (i:=2) rfl rfl))) fun a hF=>?_
    refine aL hF hch 6 rfl (by kernel_rfl) rfl rfl rfl (fun w hM=>(aJ Tryz.isAgg174 hF rfl rfl (hM.cell (i:=2) rfl rfl))) fun a hF=>?_
    refine bS hch 3 (by kernel_rfl) rfl rfl ?_
    refine cR hF 3 rfl rfl rfl rfl rfl fun w hMs hM=>?_
    obtain ⟨n4,d19,hP⟩:=bind_some hP
    refine (aO (xs:=[.tmp 4,.const (.int .i64 (1))]) Tryz.call113 hF rfl rfl (bE d19 (selM hM [1,0,2,3,4,5] 6 rfl) (Bf:=Bf) (fun w hM=>hsub _ (dropM hM 5)) c66) fun v w hR=>?_)
    obtain ⟨d70,rfl,d35,hM⟩:=hR
    replace hM:MemL _ (pt b0 (RReader.enc (RReader.mk d70 n4.2.at_ n4.2.place n4.2.e)) 176 :: pt c2 (RMark.enc (RMark.mk c5 c6 c7 g4 i4 SV.nil SV.nil)) 60 :: pt c1 (RMark.enc (RMark.mk 0 0 false SV.nil SV.nil SV.nil SV.nil)) 60 :: pt c0 [.pointer (some ⟨b0,0,none⟩)] 174 :: rowL 0 g4 128 j6 :: rowL 0 i4 151 k7 :: Lr):=hM
    have hMs:=selM hM [1,2,3,4,5] 6 rfl
    refine ⟨_,_,hMs,hM,.inl fun _ h=>h,fun a hF=>?_⟩
    refine bS hch 5 (by kernel_rfl) rfl rfl ?_
    refine cR hF 5 rfl rfl rfl rfl rfl fun w hMs hM=>?_
    obtain ⟨n5,d20,hP⟩:=bind_some hP
    refine (aO (xs:=[.tmp 6]) Tryz.call187 hF rfl rfl (gM d20 hM (Bf:=Bf) (fun w hM=>hsub _ (dropM hM 5)) d35) fun v w hR=>?_)
    obtain ⟨d71,rfl,d36,hM⟩:=hR
    replace hM:MemL _ (pt b0 (RReader.enc (RReader.mk d71 n5.2.at_ n5.2.place n5.2.e)) 176 :: pt c2 (RMark.enc (RMark.mk c5 c6 c7 g4 i4 SV.nil SV.nil)) 60 :: pt c1 (RMark.enc (RMark.mk 0 0 false SV.nil SV.nil SV.nil SV.nil)) 60 :: pt c0 [.pointer (some ⟨b0,0,none⟩)] 174 :: rowL 0 g4 128 j6 :: rowL 0 i4 151 k7 :: Lr):=hM
    have hMs:=selM hM [1,2,3,4,5] 6 rfl
    refine ⟨_,_,hMs,hM,.inl fun _ h=>h,fun a hF=>?_⟩
    refine bS hch 7 (by kernel_rfl) rfl rfl ?_
    refine cR hF 7 rfl rfl rfl rfl rfl fun w hMs hM=>?_
    obtain ⟨g9,d21,hP⟩:=bind_some hP
    refine (aO (xs:=[.tmp 8]) Tryz.call187 hF rfl rfl (gM d21 hM (Bf:=Bf) (fun w hM=>hsub _ (dropM hM 5)) d36) fun v w hR=>?_)
    obtain ⟨t8,rfl,d37,hM⟩:=hR
    replace hM:MemL _ (pt b0 (RReader.enc (RReader.mk t8 g9.2.at_ g9.2.place g9.2.e)) 176 :: pt c2 (RMark.enc (RMark.mk c5 c6 c7 g4 i4 SV.nil SV.nil)) 60 :: pt c1 (RMark.enc (RMark.mk 0 0 false SV.nil SV.nil SV.nil SV.nil)) 60 :: pt c0 [.pointer (some ⟨b0,0,none⟩)] 174 :: rowL 0 g4 128 j6 :: rowL 0 i4 151 k7 :: Lr):=hM
    have hMs:=selM hM [1,2,3,4,5] 6 rfl
    refine ⟨_,_,hMs,hM,.inl fun _ h=>h,fun a hF=>?_⟩
    refine aL hF hch 8 rfl (by kernel_rfl) rfl rfl rfl (fun w hM=>(cU z151 Tryz.underlying151 pl151 hF (parts:=[(0,.tmp 5),(1,.tmp 7),(2,.tmp 9)]) rfl rfl (cN rfl rfl (by rw [LCell.len]; decide) (LCell.s_slot _ _) (iW rfl (LSlot.len _) (by rw [LSlot.len,LCell.len]; decide) (LCell.p_old _ _) (iW rfl (LSlot.len _) (by rw [LSlot.len,LCell.len]; decide) (LCell.p_new _ _) dI))))) fun a hF=>?_
    refine bS hch 9 (by kernel_rfl) rfl rfl ?_
    refine cR hF 9 rfl rfl rfl rfl rfl fun w hMs hM=>?_
    refine (cY (X:=LCell) (y:=(LCell.mk n4.1 n5.1 g9.1)) Tryz.underlying57 in151 rfl rfl rfl rfl hF rfl rfl rfl fun t3 w d93 c70=>?_)
    have hM:=hM.plus c70
    replace hM:MemL _ (pt t3 (encs ([(LCell.mk n4.1 n5.1 g9.1)]:List LCell)) 151 :: pt b0 (RReader.enc (RReader.mk t8 g9.2.at_ g9.2.place g9.2.e)) 176 :: pt c2 (RMark.enc (RMark.mk c5 c6 c7 g4 i4 SV.nil SV.nil)) 60 :: pt c1 (RMark.enc (RMark.mk 0 0 false SV.nil SV.nil SV.nil SV.nil)) 60 :: pt c0 [.pointer (some ⟨b0,0,none⟩)] 174 :: rowL 0 g4 128 j6 :: rowL 0 i4 151 k7 :: Lr):=hM
    have hMs:=selM hM [0,2,3,4,5,6] 7 rfl
    refine ⟨_,_,hMs,hM,.inl fun _ h=>dropM h 1,fun a hF=>?_⟩
    refine bS hch 10 (by kernel_rfl) rfl rfl ?_
    refine cR hF 10 rfl rfl rfl rfl rfl fun w hMs hM=>?_
    obtain ⟨c54,d16,hP⟩:=bind_some hP
    refine (dE (X:=LCell) d16 Tryz.underlying57 in151 rfl rfl rfl rfl hF rfl rfl rfl (hM.own (X:=LCell) (i:=6) rfl) (hM.ptS (X:=LCell) (i:=0) (n:=1) (c:=1) rfl rfl rfl (Nat.le_refl _)) fun c10 w c85=>?_)
    have hM:=hM.chg c85 (i:=6) rfl
    replace hM:MemL _ (pt t3 (encs ([(LCell.mk n4.1 n5.1 g9.1)]:List LCell)) 151 :: pt b0 (RReader.enc (RReader.mk t8 g9.2.at_ g9.2.place g9.2.e)) 176 :: pt c2 (RMark.enc (RMark.mk c5 c6 c7 g4 i4 SV.nil SV.nil)) 60 :: pt c1 (RMark.enc (RMark.mk 0 0 false SV.nil SV.nil SV.nil SV.nil)) 60 :: pt c0 [.pointer (some ⟨b0,0,none⟩)] 174 :: rowL 0 g4 128 j6 :: rowL 0 c10 151 c54 :: Lr):=hM
    have hMs:=hM
    refine ⟨_,_,hMs,hM,.inr (by kernel_rfl),fun a hF=>?_⟩
    refine aL hF hch 11 rfl (by kernel_rfl) rfl rfl rfl (fun w hM=>(aD (off':=4) Tryz.underlying60 rfl in57 rfl hF rfl rfl rfl)) fun a hF=>?_
    refine bS hch 12 (by kernel_rfl) rfl rfl ?_
    refine fN 12 rfl rfl rfl rfl fun w hMs hM=>?_
    refine (bZ Tryz.sizeOf57 (hM.obj (i:=2) rfl) hF rfl rfl rfl rfl (by rw [RMark.len]; decide) (RMark.s_slots _ _) fun w c96=>?_)
    have hM:=hM.chg c96 (i:=2) rfl
    replace hM:MemL _ (pt t3 (encs ([(LCell.mk n4.1 n5.1 g9.1)]:List LCell)) 151 :: pt b0 (RReader.enc (RReader.mk t8 g9.2.at_ g9.2.place g9.2.e)) 176 :: pt c2 (RMark.enc (RMark.mk c5 c6 c7 g4 c10 SV.nil SV.nil)) 60 :: pt c1 (RMark.enc (RMark.mk 0 0 false SV.nil SV.nil SV.nil SV.nil)) 60 :: pt c0 [.pointer (some ⟨b0,0,none⟩)] 174 :: rowL 0 g4 128 j6 :: rowL 0 c10 151 c54 :: Lr):=hM
    have hMs:=hM
    refine ⟨_,_,hMs,hM,.inr (by kernel_rfl),?_⟩
    refine cI hch (by kernel_rfl) fun w hM=>?_
    have hP:=Option.some.inj hP
    subst hP
    refine eI Tryz.results186 hF ?_
    exact ⟨(j6,c54,g9.2),rfl,g4,c10,t8,rfl,d37,selM hM [2,5,6,1,3,4] 7 rfl⟩
   obtain ⟨⟨c25,c26,m9⟩,rfl,z7,z8,z9,rfl,d34,hM⟩:=hR
   replace hP:Sh.fA m8 c25 c26 m9 = _:=d83
   unfold Sh.fA at hP
   intro a hF
   refine aI (bI (aB ?_))
   refine aC ?_
   refine aA hF (aF hF rfl rfl) rfl rfl rfl fun a hF=>?_
   refine aA hF (fH hF rfl rfl rfl) rfl rfl rfl fun a hF=>?_
   refine aA hF (aG hF rfl rfl) rfl rfl rfl fun a hF=>?_
   refine aI (aB ?_)
   have hP:=Option.some.inj hP
   subst hP
   exact ⟨(c25,c26,m9,(IntKind.i64.wrap (m8 - 1))),rfl,z7,z8,z9,d34,hF.to ⟨rfl,rfl,rfl,trivial⟩,hM⟩
  have hP:=Fx.cF c32 hP
  refine bW (bD (bD (cG ?_)))
  have hP:=Option.some.inj hP
  subst hP
  have hP:=d85 _ rfl
  subst hP
  refine eI Tryz.results114 hF ?_
  exact ⟨(j6,k7,k0),rfl,g4,i4,t7,rfl,c66,selM hM [0,4,5,1,2,3] 6 rfl⟩
 obtain ⟨⟨u2,u3,l3⟩,rfl,l7,l8,z6,rfl,d33,hM⟩:=hR
 replace hP:Sh.eZ x0 c5 c6 c7 u2 u3 l3 = _:=d82
 unfold Sh.eZ at hP
 replace hM:MemL _ (pt c2 (RMark.enc (RMark.mk c5 c6 c7 l7 l8 SV.nil SV.nil)) 60 :: rowL 0 l7 128 u2 :: rowL 0 l8 151 u3 :: pt b0 (RReader.enc (RReader.mk z6 l3.at_ l3.place l3.e)) 176 :: pt c1 (RMark.enc (RMark.mk 0 0 false SV.nil SV.nil SV.nil SV.nil)) 60 :: pt c0 [.pointer (some ⟨b0,0,none⟩)] 174 :: Lr):=hM
 have hMs:=hM
 refine ⟨_,_,hMs,hM,.inr (by kernel_rfl),fun a hF=>?_⟩
 refine cI hch (by kernel_rfl) fun w hM=>?_
 refine aB ?_
 refine aH ?_
 refine bQ mixed (by kernel_rfl) hM [0,1,2,4,5] 6 rfl fun hch=>?_
 refine aL hF hch 0 rfl (by kernel_rfl) rfl rfl rfl (fun w hM=>(aJ Tryz.isAgg174 hF rfl rfl (hM.cell (i:=4) rfl rfl))) fun a hF=>?_
 refine aL hF hch 1 rfl (by kernel_rfl) rfl rfl rfl (fun w hM=>(aJ Tryz.isAgg174 hF rfl rfl (hM.cell (i:=4) rfl rfl))) fun a hF=>?_
 refine aL hF hch 3 rfl (by kernel_rfl) rfl rfl rfl (fun w hM=>(fF hF (fs:=[]) (cs:=[.tmp 1,.tmp 4]) rfl rfl rfl)) fun a hF=>?_
 refine bS hch 2 (by kernel_rfl) rfl rfl ?_
 refine cR hF 2 rfl rfl rfl rfl rfl fun w hMs hM=>?_
 obtain ⟨c57,d22,hP⟩:=bind_some hP
 refine (aO (xs:=[.tmp 28,.const (.int .i64 (4))]) Tryz.call113 hF rfl rfl (bE d22 (selM hM [3,0,1,2,4,5] 6 rfl) (Bf:=Bf) (fun w hM=>hsub _ (dropM hM 5)) d33) fun v w hR=>?_)
 obtain ⟨c77,rfl,d38,hM⟩:=hR
 replace hM:MemL _ (pt b0 (RReader.enc (RReader.mk c77 c57.2.at_ c57.2.place c57.2.e)) 176 :: pt c2 (RMark.enc (RMark.mk c5 c6 c7 l7 l8 SV.nil SV.nil)) 60 :: rowL 0 l7 128 u2 :: rowL 0 l8 151 u3 :: pt c1 (RMark.enc (RMark.mk 0 0 false SV.nil SV.nil SV.nil SV.nil)) 60 :: pt c0 [.pointer (some ⟨b0,0,none⟩)] 174 :: Lr):=hM
 have hMs:=selM hM [1,2,3,4,5] 6 rfl
 refine ⟨_,_,hMs,hM,.inl fun _ h=>h,fun a hF=>?_⟩
 refine bS hch 4 (by kernel_rfl) rfl rfl ?_
 refine cR hF 4 rfl rfl rfl rfl rfl fun w hMs hM=>?_
 obtain ⟨d86,hP,d52⟩:=cO hP
 refine (aO (xs:=[.tmp 27,.tmp 29,.tmp 30]) Tryz.call114 hF rfl rfl (R:=fun v w=>∃ x,d86 = .inl x ∧ match x with | (u4,u5,c51,l4)=>∃ (l9:SV) (m0:SV) (m1:SV) (m3:List RPiece) (p0:Res) (c11:SV),v = .tuple #[] ∧ Each (QPieceIn p0.holds') m3 c51 ∧ LIn Bf c11 l4.b ∧ MemL w (pt c2 (RMark.enc (RMark.mk c5 c6 c7 l9 m0 m1 SV.nil)) 60 :: rowL 0 l9 128 u4 :: rowL 0 m0 151 u5 :: rowL 0 m1 156 m3 :: p0 :: pt b0 (RReader.enc (RReader.mk c11 l4.at_ l4.place l4.e)) 176 :: pt c1 (RMark.enc (RMark.mk 0 0 false SV.nil SV.nil SV.nil SV.nil)) 60 :: pt c0 [.pointer (some ⟨b0,0,none⟩)] 174 :: Lr)) ?_ fun v w hR=>?_)
 ·refine aM Tryz.func114 rfl Tryz.ntmps114 rfl fun a hF=>?_
  refine aV ?_
  obtain ⟨c75,hM⟩:=voidM hM
  have d65:Each (QPieceIn c75.holds') ([]:List RPiece) ([]:List QPiece):=Each.nil
  have hM:=hM.rowNil (X:=RPiece) 0 156
  refine bN hF hM hP (fun F x a w=>match x with | (d3,d4,p3,j2,n0)=>∃ (c3:SV) (c4:SV) (c8:SV) (d1:List RPiece) (g2:Res) (p1:SV),Each (QPieceIn g2.holds') d1 p3 ∧ LIn Bf p1 j2.b ∧ Fr 19 [(1,.int .i64 n0),(0,.pointer (some ⟨b0,0,none⟩)),(2,.func (.func 188) [].toArray [.pointer (some ⟨c0,0,none⟩),.pointer (some ⟨c2,0,none⟩)].toArray)] a ∧ MemL w (pt c2 (RMark.enc (RMark.mk c5 c6 c7 c3 c4 c8 SV.nil)) 60 :: rowL 0 c3 128 d3 :: rowL 0 c4 151 d4 :: rowL 0 c8 156 d1 :: g2 :: pt b0 (RReader.enc (RReader.mk p1 j2.at_ j2.place j2.e)) 176 :: pt c1 (RMark.enc (RMark.mk 0 0 false SV.nil SV.nil SV.nil SV.nil)) 60 :: pt c0 [.pointer (some ⟨b0,0,none⟩)] 174 :: Lr)) (fun hF hM=>⟨l7,l8,SV.nil,[],c75,c77,d65,d38,hF.to ⟨rfl,rfl,rfl,trivial⟩,selM hM [3,4,5,0,1,2,6,7] 8 rfl⟩) ?_
  rintro ⟨d3,d4,p3,j2,n0⟩ a w g26 hP d56 ⟨c3,c4,c8,d1,g2,p1,c48,c44,hF,hM⟩
  replace hP:Sh.aD d3 d4 p3 j2 n0 = _:=hP
  unfold Sh.aD at hP
  refine aH ?_
  refine aH ?_
  refine aS hF hM hP (fun F x a w=>match x with | c52=>Fr 19 [(14,.bool c52),(0,.pointer (some ⟨b0,0,none⟩)),(1,.int .i64 n0),(2,.func (.func 188) [].toArray [.pointer (some ⟨c0,0,none⟩),.pointer (some ⟨c2,0,none⟩)].toArray)] a ∧ MemL w (pt c2 (RMark.enc (RMark.mk c5 c6 c7 c3 c4 c8 SV.nil)) 60 :: pt b0 (RReader.enc (RReader.mk p1 j2.at_ j2.place j2.e)) 176 :: pt c1 (RMark.enc (RMark.mk 0 0 false SV.nil SV.nil SV.nil SV.nil)) 60 :: pt c0 [.pointer (some ⟨b0,0,none⟩)] 174 :: rowL 0 c3 128 d3 :: rowL 0 c4 151 d4 :: rowL 0 c8 156 d1 :: g2 :: Lr)) (fun g22 hP g12 hF hM=>?_) ?_
  ·refine aC ?_
   refine aA hF (aF hF rfl rfl) rfl rfl rfl fun a hF=>?_
   refine aA hF (eJ hF rfl rfl rfl) rfl rfl rfl fun a hF=>?_
   refine aA hF (aF hF rfl rfl) rfl rfl rfl fun a hF=>?_
   refine aZ 8 hF rfl (fun g7=>?_) (fun g7=>?_)
   ·have hP:=Fx.cT g7 hP
    refine aK hF rfl rfl rfl g7 (aF hF rfl rfl) rfl rfl fun a hF=>?_
    refine aK hF rfl rfl rfl g7 (aX hF rfl rfl) rfl rfl fun a hF=>?_
    refine aK hF rfl rfl rfl g7 (aD (off':=3) Tryz.underlying176 rfl in34 rfl hF rfl rfl rfl) rfl rfl fun a hF=>?_
    refine aK hF rfl rfl rfl g7 (aJ Tryz.isAgg34 hF rfl rfl (hM.cell (i:=5) rfl (RReader.g_e _))) rfl rfl fun a hF=>?_
    refine aK hF rfl rfl rfl g7 (cE hF rfl rfl rfl) rfl rfl fun a hF=>?_
    refine aA hF (aP hF rfl rfl g7 rfl) rfl rfl rfl fun a hF=>?_
    refine aI (aB ?_)
    have hP:=Option.some.inj hP
    subst hP
    exact ⟨(decide (j2.e = 0)),rfl,hF.to ⟨rfl,rfl,rfl,rfl,trivial⟩,selM hM [0,5,6,7,1,2,3,4] 8 rfl⟩
   have hP:=Fx.cF g7 hP
   refine aE hF rfl rfl rfl g7 rfl rfl fun a hF=>?_
   refine aE hF rfl rfl rfl g7 rfl rfl fun a hF=>?_
   refine aE hF rfl rfl rfl g7 rfl rfl fun a hF=>?_
   refine aE hF rfl rfl rfl g7 rfl rfl fun a hF=>?_
   refine aE hF rfl rfl rfl g7 rfl rfl fun a hF=>?_
   refine aA hF (aQ hF rfl rfl g7 rfl) rfl rfl rfl fun a hF=>?_
   refine aI (aB ?_)
   have hP:=Option.some.inj hP
   subst hP
   exact ⟨false,rfl,hF.to ⟨rfl,rfl,rfl,rfl,trivial⟩,selM hM [0,5,6,7,1,2,3,4] 8 rfl⟩
  rintro c52 a w hP ⟨hF,hM⟩
  replace hP:Sh.aV d3 d4 p3 j2 n0 c52 = _:=hP
  unfold Sh.aV at hP
  refine aB ?_
  refine aR hF (c:=.tmp 14) rfl (fun c33=>?_) (fun c33=>?_)
  ·have hP:=Fx.cT c33 hP
   refine aT (aB ?_)
   refine aH ?_
   refine aV ?_
   refine aC ?_
   refine aA hF (aF hF rfl rfl) rfl rfl rfl fun a hF=>?_
   obtain ⟨d87,hP,d53⟩:=cO hP
   refine aN hF rfl rfl rfl (gC (xs:=[]) Tryz.call188 hF rfl rfl rfl (R:=fun v w=>∃ x,d87 = .inl x ∧ match x with | (c27,c28,c29,n1)=>∃ (c12:SV) (c13:SV) (c14:SV) (u7:List RPiece) (z4:Res) (c15:SV),v = .tuple #[] ∧ Each (QPieceIn z4.holds') u7 c29 ∧ LIn Bf c15 n1.b ∧ MemL w (pt c2 (RMark.enc (RMark.mk c5 c6 c7 c12 c13 c14 SV.nil)) 60 :: rowL 0 c12 128 c27 :: rowL 0 c13 151 c28 :: rowL 0 c14 156 u7 :: z4 :: pt b0 (RReader.enc (RReader.mk c15 n1.at_ n1.place n1.e)) 176 :: pt c1 (RMark.enc (RMark.mk 0 0 false SV.nil SV.nil SV.nil SV.nil)) 60 :: pt c0 [.pointer (some ⟨b0,0,none⟩)] 174 :: Lr)) ?_ fun v w hR=>?_)
   ·refine aM Tryz.func188 rfl Tryz.ntmps188 rfl fun a hF=>?_
    refine aH ?_
    refine aS hF hM hP (fun F x a w=>match x with | (d8,d9,p4)=>∃ (i1:Nat) (c49:SV),LIn Bf c49 p4.b ∧ Fr 28 [(2,.pointer (some ⟨i1,0,none⟩)),(0,.pointer (some ⟨c0,0,none⟩)),(1,.pointer (some ⟨c2,0,none⟩))] a ∧ MemL w (pt i1 (RPiece.enc (RPiece.mk d8 d9 SV.nil SV.nil)) 156 :: pt b0 (RReader.enc (RReader.mk c49 p4.at_ p4.place p4.e)) 176 :: pt c2 (RMark.enc (RMark.mk c5 c6 c7 c3 c4 c8 SV.nil)) 60 :: pt c1 (RMark.enc (RMark.mk 0 0 false SV.nil SV.nil SV.nil SV.nil)) 60 :: pt c0 [.pointer (some ⟨b0,0,none⟩)] 174 :: rowL 0 c3 128 d3 :: rowL 0 c4 151 d4 :: rowL 0 c8 156 d1 :: g2 :: Lr)) (fun g23 hP g13 hF hM=>?_) ?_
    ·refine bQ mixed (by kernel_rfl) hM [0,2,3,4,5,6,7] 8 rfl fun hch=>?_
     refine aL hF hch 0 rfl (by kernel_rfl) rfl rfl rfl (fun w hM=>(aJ Tryz.isAgg174 hF rfl rfl (hM.cell (i:=2) rfl rfl))) fun a hF=>?_
     refine aL hF hch 3 rfl (by kernel_rfl) rfl rfl rfl (fun w hM=>(aJ Tryz.isAgg174 hF rfl rfl (hM.cell (i:=2) rfl rfl))) fun a hF=>?_
     refine sF hch 1 6 (by kernel_rfl) rfl rfl ?_ ?_
     ·refine cR hF 1 rfl rfl rfl rfl rfl fun w hMs hM=>?_
      obtain ⟨i2,c36,hP⟩:=bind_some hP
      refine (aO (xs:=[.tmp 4,.const (.int .i64 (1))]) Tryz.call113 hF rfl rfl (bE c36 (selM hM [1,0,2,3,4,5,6,7] 8 rfl) (Bf:=Bf) (fun w hM=>hsub _ (dropM hM 7)) c44) fun v w hR=>?_)
      obtain ⟨c16,rfl,z3,hM⟩:=hR
      replace hM:MemL _ (pt b0 (RReader.enc (RReader.mk c16 i2.2.at_ i2.2.place i2.2.e)) 176 :: pt c2 (RMark.enc (RMark.mk c5 c6 c7 c3 c4 c8 SV.nil)) 60 :: pt c1 (RMark.enc (RMark.mk 0 0 false SV.nil SV.nil SV.nil SV.nil)) 60 :: pt c0 [.pointer (some ⟨b0,0,none⟩)] 174 :: rowL 0 c3 128 d3 :: rowL 0 c4 151 d4 :: rowL 0 c8 156 d1 :: g2 :: Lr):=hM
      have hMs:=selM hM [1,2,3,4,5,6,7] 8 rfl
      refine ⟨_,_,hMs,hM,.inl fun _ h=>h,fun a hF=>?_⟩
      refine aL hF hch 2 rfl (by kernel_rfl) rfl rfl rfl (fun w hM=>(fH hF rfl rfl rfl)) fun a hF=>?_
      refine sF hch 4 6 (by kernel_rfl) rfl rfl ?_ ?_
      ·refine cR hF 4 rfl rfl rfl rfl rfl fun w hMs hM=>?_
       obtain ⟨d5,n9,hP⟩:=bind_some hP
       refine (aO (xs:=[.tmp 7,.const (.int .i64 (2))]) Tryz.call113 hF rfl rfl (bE n9 hM (Bf:=Bf) (fun w hM=>hsub _ (dropM hM 7)) z3) fun v w hR=>?_)
       obtain ⟨j9,rfl,t4,hM⟩:=hR
       replace hM:MemL _ (pt b0 (RReader.enc (RReader.mk j9 d5.2.at_ d5.2.place d5.2.e)) 176 :: pt c2 (RMark.enc (RMark.mk c5 c6 c7 c3 c4 c8 SV.nil)) 60 :: pt c1 (RMark.enc (RMark.mk 0 0 false SV.nil SV.nil SV.nil SV.nil)) 60 :: pt c0 [.pointer (some ⟨b0,0,none⟩)] 174 :: rowL 0 c3 128 d3 :: rowL 0 c4 151 d4 :: rowL 0 c8 156 d1 :: g2 :: Lr):=hM
       have hMs:=selM hM [1,2,3,4,5,6,7] 8 rfl
       refine ⟨_,_,hMs,hM,.inl fun _ h=>h,fun a hF=>?_⟩
       refine aL hF hch 5 rfl (by kernel_rfl) rfl rfl rfl (fun w hM=>(cU z156 Tryz.underlying156 pl156 hF (parts:=[(0,.tmp 6),(1,.tmp 8)]) rfl rfl (cN rfl rfl (by rw [RPiece.len]; decide) (RPiece.s_table _ _) (cN rfl rfl (by rw [RPiece.len]; decide) (RPiece.s_from_ _ _) dI)))) fun a hF=>?_
       refine bS hch 6 (by kernel_rfl) rfl rfl ?_
       refine cR hF 6 rfl rfl rfl rfl rfl fun w hMs hM=>?_
       refine (cB z156 (zs:=RPiece.zero.enc) rfl rfl fun g3 w c47 m4=>?_)
       have hM:=hM.plus m4
       replace hM:MemL _ (pt g3 (RPiece.enc (RPiece.mk 0 0 SV.nil SV.nil)) 156 :: pt b0 (RReader.enc (RReader.mk j9 d5.2.at_ d5.2.place d5.2.e)) 176 :: pt c2 (RMark.enc (RMark.mk c5 c6 c7 c3 c4 c8 SV.nil)) 60 :: pt c1 (RMark.enc (RMark.mk 0 0 false SV.nil SV.nil SV.nil SV.nil)) 60 :: pt c0 [.pointer (some ⟨b0,0,none⟩)] 174 :: rowL 0 c3 128 d3 :: rowL 0 c4 151 d4 :: rowL 0 c8 156 d1 :: g2 :: Lr):=hM
       have hMs:=selM hM [0,2,3,4,5,6,7,8] 9 rfl
       refine ⟨_,_,hMs,hM,.inl fun _ h=>dropM h 1,fun a hF=>?_⟩
       refine bS hch 7 (by kernel_rfl) rfl rfl ?_
       refine fN 7 rfl rfl rfl rfl fun w hMs hM=>?_
       refine (bL (vs:=_) Tryz.sizeOf156 (hM.obj (i:=0) rfl) hF rfl rfl rfl rfl (RPiece.len _) (RPiece.one _) (by first | (rw [RPiece.len,RPiece.len]; decide) | (rw [RPiece.len]; decide)) (bU ((RPiece.len _).trans (RPiece.len _).symm)) fun w n8=>?_)
       have hM:=hM.chg n8 (i:=0) rfl
       replace hM:MemL _ (pt g3 (RPiece.enc (RPiece.mk (IntKind.i64.wrap (i2.1 - 1)) d5.1 SV.nil SV.nil)) 156 :: pt b0 (RReader.enc (RReader.mk j9 d5.2.at_ d5.2.place d5.2.e)) 176 :: pt c2 (RMark.enc (RMark.mk c5 c6 c7 c3 c4 c8 SV.nil)) 60 :: pt c1 (RMark.enc (RMark.mk 0 0 false SV.nil SV.nil SV.nil SV.nil)) 60 :: pt c0 [.pointer (some ⟨b0,0,none⟩)] 174 :: rowL 0 c3 128 d3 :: rowL 0 c4 151 d4 :: rowL 0 c8 156 d1 :: g2 :: Lr):=hM
       have hMs:=hM
       refine ⟨_,_,hMs,hM,.inr (by kernel_rfl),?_⟩
       refine cI hch (by kernel_rfl) fun w hM=>?_
       refine aB ?_
       have hP:=Option.some.inj hP
       subst hP
       exact ⟨((IntKind.i64.wrap (i2.1 - 1)),d5.1,d5.2),rfl,g3,j9,t4,hF.to ⟨rfl,rfl,rfl,trivial⟩,hM⟩
      refine cR hF 6 rfl rfl rfl rfl rfl fun w hMs hM=>?_
      refine (cB z156 (zs:=RPiece.zero.enc) rfl rfl fun g3 w c47 m4=>?_)
      have hM:=hM.plus m4
      replace hM:MemL _ (pt g3 (RPiece.enc (RPiece.mk 0 0 SV.nil SV.nil)) 156 :: pt b0 (RReader.enc (RReader.mk c16 i2.2.at_ i2.2.place i2.2.e)) 176 :: pt c2 (RMark.enc (RMark.mk c5 c6 c7 c3 c4 c8 SV.nil)) 60 :: pt c1 (RMark.enc (RMark.mk 0 0 false SV.nil SV.nil SV.nil SV.nil)) 60 :: pt c0 [.pointer (some ⟨b0,0,none⟩)] 174 :: rowL 0 c3 128 d3 :: rowL 0 c4 151 d4 :: rowL 0 c8 156 d1 :: g2 :: Lr):=hM
      have hMs:=selM hM [0,2,3,4,5,6,7,8] 9 rfl
      refine ⟨_,_,hMs,hM,.inl fun _ h=>dropM h 1,fun a hF=>?_⟩
      refine bS hch 4 (by kernel_rfl) rfl rfl ?_
      refine cR hF 4 rfl rfl rfl rfl rfl fun w hMs hM=>?_
      obtain ⟨d5,n9,hP⟩:=bind_some hP
      refine (aO (xs:=[.tmp 7,.const (.int .i64 (2))]) Tryz.call113 hF rfl rfl (bE n9 (selM hM [1,0,2,3,4,5,6,7,8] 9 rfl) (Bf:=Bf) (fun w hM=>hsub _ (dropM hM 8)) z3) fun v w hR=>?_)
      obtain ⟨j9,rfl,t4,hM⟩:=hR
      replace hM:MemL _ (pt b0 (RReader.enc (RReader.mk j9 d5.2.at_ d5.2.place d5.2.e)) 176 :: pt g3 (RPiece.enc (RPiece.mk 0 0 SV.nil SV.nil)) 156 :: pt c2 (RMark.enc (RMark.mk c5 c6 c7 c3 c4 c8 SV.nil)) 60 :: pt c1 (RMark.enc (RMark.mk 0 0 false SV.nil SV.nil SV.nil SV.nil)) 60 :: pt c0 [.pointer (some ⟨b0,0,none⟩)] 174 :: rowL 0 c3 128 d3 :: rowL 0 c4 151 d4 :: rowL 0 c8 156 d1 :: g2 :: Lr):=hM
      have hMs:=selM hM [1,2,3,4,5,6,7,8] 9 rfl
      refine ⟨_,_,hMs,hM,.inl fun _ h=>h,fun a hF=>?_⟩
      refine aL hF hch 5 rfl (by kernel_rfl) rfl rfl rfl (fun w hM=>(cU z156 Tryz.underlying156 pl156 hF (parts:=[(0,.tmp 6),(1,.tmp 8)]) rfl rfl (cN rfl rfl (by rw [RPiece.len]; decide) (RPiece.s_table _ _) (cN rfl rfl (by rw [RPiece.len]; decide) (RPiece.s_from_ _ _) dI)))) fun a hF=>?_
      refine bS hch 7 (by kernel_rfl) rfl rfl ?_
      refine fN 7 rfl rfl rfl rfl fun w hMs hM=>?_
      refine (bL (vs:=_) Tryz.sizeOf156 (hM.obj (i:=1) rfl) hF rfl rfl rfl rfl (RPiece.len _) (RPiece.one _) (by first | (rw [RPiece.len,RPiece.len]; decide) | (rw [RPiece.len]; decide)) (bU ((RPiece.len _).trans (RPiece.len _).symm)) fun w n8=>?_)
      have hM:=hM.chg n8 (i:=1) rfl
      replace hM:MemL _ (pt b0 (RReader.enc (RReader.mk j9 d5.2.at_ d5.2.place d5.2.e)) 176 :: pt g3 (RPiece.enc (RPiece.mk (IntKind.i64.wrap (i2.1 - 1)) d5.1 SV.nil SV.nil)) 156 :: pt c2 (RMark.enc (RMark.mk c5 c6 c7 c3 c4 c8 SV.nil)) 60 :: pt c1 (RMark.enc (RMark.mk 0 0 false SV.nil SV.nil SV.nil SV.nil)) 60 :: pt c0 [.pointer (some ⟨b0,0,none⟩)] 174 :: rowL 0 c3 128 d3 :: rowL 0 c4 151 d4 :: rowL 0 c8 156 d1 :: g2 :: Lr):=hM
      have hMs:=hM
      refine ⟨_,_,hMs,hM,.inr (by kernel_rfl),?_⟩
      refine cI hch (by kernel_rfl) fun w hM=>?_
      refine aB ?_
      have hP:=Option.some.inj hP
      subst hP
      exact ⟨((IntKind.i64.wrap (i2.1 - 1)),d5.1,d5.2),rfl,g3,j9,t4,hF.to ⟨rfl,rfl,rfl,trivial⟩,selM hM [1,0,2,3,4,5,6,7,8] 9 rfl⟩
     refine cR hF 6 rfl rfl rfl rfl rfl fun w hMs hM=>?_
     refine (cB z156 (zs:=RPiece.zero.enc) rfl rfl fun g3 w c47 m4=>?_)
     have hM:=hM.plus m4
     replace hM:MemL _ (pt g3 (RPiece.enc (RPiece.mk 0 0 SV.nil SV.nil)) 156 :: pt c2 (RMark.enc (RMark.mk c5 c6 c7 c3 c4 c8 SV.nil)) 60 :: pt b0 (RReader.enc (RReader.mk p1 j2.at_ j2.place j2.e)) 176 :: pt c1 (RMark.enc (RMark.mk 0 0 false SV.nil SV.nil SV.nil SV.nil)) 60 :: pt c0 [.pointer (some ⟨b0,0,none⟩)] 174 :: rowL 0 c3 128 d3 :: rowL 0 c4 151 d4 :: rowL 0 c8 156 d1 :: g2 :: Lr):=hM
     have hMs:=selM hM [0,1,3,4,5,6,7,8] 9 rfl
     refine ⟨_,_,hMs,hM,.inl fun _ h=>dropM h 1,fun a hF=>?_⟩
     refine bS hch 1 (by kernel_rfl) rfl rfl ?_
     refine cR hF 1 rfl rfl rfl rfl rfl fun w hMs hM=>?_
     obtain ⟨i2,c36,hP⟩:=bind_some hP
     refine (aO (xs:=[.tmp 4,.const (.int .i64 (1))]) Tryz.call113 hF rfl rfl (bE c36 (selM hM [2,0,1,3,4,5,6,7,8] 9 rfl) (Bf:=Bf) (fun w hM=>hsub _ (dropM hM 8)) c44) fun v w hR=>?_)
     obtain ⟨c16,rfl,z3,hM⟩:=hR
     replace hM:MemL _ (pt b0 (RReader.enc (RReader.mk c16 i2.2.at_ i2.2.place i2.2.e)) 176 :: pt g3 (RPiece.enc (RPiece.mk 0 0 SV.nil SV.nil)) 156 :: pt c2 (RMark.enc (RMark.mk c5 c6 c7 c3 c4 c8 SV.nil)) 60 :: pt c1 (RMark.enc (RMark.mk 0 0 false SV.nil SV.nil SV.nil SV.nil)) 60 :: pt c0 [.pointer (some ⟨b0,0,none⟩)] 174 :: rowL 0 c3 128 d3 :: rowL 0 c4 151 d4 :: rowL 0 c8 156 d1 :: g2 :: Lr):=hM
     have hMs:=selM hM [1,2,3,4,5,6,7,8] 9 rfl
     refine ⟨_,_,hMs,hM,.inl fun _ h=>h,fun a hF=>?_⟩
     refine aL hF hch 2 rfl (by kernel_rfl) rfl rfl rfl (fun w hM=>(fH hF rfl rfl rfl)) fun a hF=>?_
     refine bS hch 4 (by kernel_rfl) rfl rfl ?_
     refine cR hF 4 rfl rfl rfl rfl rfl fun w hMs hM=>?_
     obtain ⟨d5,n9,hP⟩:=bind_some hP
     refine (aO (xs:=[.tmp 7,.const (.int .i64 (2))]) Tryz.call113 hF rfl rfl (bE n9 hM (Bf:=Bf) (fun w hM=>hsub _ (dropM hM 8)) z3) fun v w hR=>?_)
     obtain ⟨j9,rfl,t4,hM⟩:=hR
     replace hM:MemL _ (pt b0 (RReader.enc (RReader.mk j9 d5.2.at_ d5.2.place d5.2.e)) 176 :: pt g3 (RPiece.enc (RPiece.mk 0 0 SV.nil SV.nil)) 156 :: pt c2 (RMark.enc (RMark.mk c5 c6 c7 c3 c4 c8 SV.nil)) 60 :: pt c1 (RMark.enc (RMark.mk 0 0 false SV.nil SV.nil SV.nil SV.nil)) 60 :: pt c0 [.pointer (some ⟨b0,0,none⟩)] 174 :: rowL 0 c3 128 d3 :: rowL 0 c4 151 d4 :: rowL 0 c8 156 d1 :: g2 :: Lr):=hM
     have hMs:=selM hM [1,2,3,4,5,6,7,8] 9 rfl
     refine ⟨_,_,hMs,hM,.inl fun _ h=>h,fun a hF=>?_⟩
     refine aL hF hch 5 rfl (by kernel_rfl) rfl rfl rfl (fun w hM=>(cU z156 Tryz.underlying156 pl156 hF (parts:=[(0,.tmp 6),(1,.tmp 8)]) rfl rfl (cN rfl rfl (by rw [RPiece.len]; decide) (RPiece.s_table _ _) (cN rfl rfl (by rw [RPiece.len]; decide) (RPiece.s_from_ _ _) dI)))) fun a hF=>?_
     refine bS hch 7 (by kernel_rfl) rfl rfl ?_
     refine fN 7 rfl rfl rfl rfl fun w hMs hM=>?_
     refine (bL (vs:=_) Tryz.sizeOf156 (hM.obj (i:=1) rfl) hF rfl rfl rfl rfl (RPiece.len _) (RPiece.one _) (by first | (rw [RPiece.len,RPiece.len]; decide) | (rw [RPiece.len]; decide)) (bU ((RPiece.len _).trans (RPiece.len _).symm)) fun w n8=>?_)
     have hM:=hM.chg n8 (i:=1) rfl
     replace hM:MemL _ (pt b0 (RReader.enc (RReader.mk j9 d5.2.at_ d5.2.place d5.2.e)) 176 :: pt g3 (RPiece.enc (RPiece.mk (IntKind.i64.wrap (i2.1 - 1)) d5.1 SV.nil SV.nil)) 156 :: pt c2 (RMark.enc (RMark.mk c5 c6 c7 c3 c4 c8 SV.nil)) 60 :: pt c1 (RMark.enc (RMark.mk 0 0 false SV.nil SV.nil SV.nil SV.nil)) 60 :: pt c0 [.pointer (some ⟨b0,0,none⟩)] 174 :: rowL 0 c3 128 d3 :: rowL 0 c4 151 d4 :: rowL 0 c8 156 d1 :: g2 :: Lr):=hM
     have hMs:=hM
     refine ⟨_,_,hMs,hM,.inr (by kernel_rfl),?_⟩
     refine cI hch (by kernel_rfl) fun w hM=>?_
     refine aB ?_
     have hP:=Option.some.inj hP
     subst hP
     exact ⟨((IntKind.i64.wrap (i2.1 - 1)),d5.1,d5.2),rfl,g3,j9,t4,hF.to ⟨rfl,rfl,rfl,trivial⟩,selM hM [1,0,2,3,4,5,6,7,8] 9 rfl⟩
    rintro ⟨d8,d9,p4⟩ a w hP ⟨i1,c49,d41,hF,hM⟩
    replace hP:Sh.eH d3 d4 p3 d8 d9 p4 = _:=hP
    unfold Sh.eH at hP
    refine aB ?_
    refine aH ?_
    refine aC ?_
    refine aA hF (aJ Tryz.isAgg174 hF rfl rfl (hM.cell (i:=4) rfl rfl)) rfl rfl rfl fun a hF=>?_
    obtain ⟨c58,d23,hP⟩:=bind_some hP
    refine aN hF rfl rfl rfl (aO (xs:=[.tmp 10,.const (.int .i64 (2))]) Tryz.call113 hF rfl rfl (bE d23 (selM hM [1,0,2,3,4,5,6,7,8] 9 rfl) (Bf:=Bf) (fun w hM=>hsub _ (dropM hM 8)) d41) fun v w hR=>?_)
    obtain ⟨d72,rfl,d42,hM⟩:=hR
    replace hM:MemL _ (pt b0 (RReader.enc (RReader.mk d72 c58.2.at_ c58.2.place c58.2.e)) 176 :: pt i1 (RPiece.enc (RPiece.mk d8 d9 SV.nil SV.nil)) 156 :: pt c2 (RMark.enc (RMark.mk c5 c6 c7 c3 c4 c8 SV.nil)) 60 :: pt c1 (RMark.enc (RMark.mk 0 0 false SV.nil SV.nil SV.nil SV.nil)) 60 :: pt c0 [.pointer (some ⟨b0,0,none⟩)] 174 :: rowL 0 c3 128 d3 :: rowL 0 c4 151 d4 :: rowL 0 c8 156 d1 :: g2 :: Lr):=hM
    intro a hF
    refine aA hF (aG hF rfl rfl) rfl rfl rfl fun a hF=>?_
    refine aI (aB ?_)
    refine aH ?_
    refine bQ mixed (by kernel_rfl) hM [1,2,3,4,5,6,7,8] 9 rfl fun hch=>?_
    refine aL hF hch 0 rfl (by kernel_rfl) rfl rfl rfl (fun w hM=>(aJ Tryz.isAgg174 hF rfl rfl (hM.cell (i:=3) rfl rfl))) fun a hF=>?_
    refine aL hF hch 1 rfl (by kernel_rfl) rfl rfl rfl (fun w hM=>(aF hF rfl rfl)) fun a hF=>?_
    refine aL hF hch 4 rfl (by kernel_rfl) rfl rfl rfl (fun w hM=>(aJ Tryz.isAgg174 hF rfl rfl (hM.cell (i:=3) rfl rfl))) fun a hF=>?_
    refine aL hF hch 5 rfl (by kernel_rfl) rfl rfl rfl (fun w hM=>(aF hF rfl rfl)) fun a hF=>?_
    refine bS hch 2 (by kernel_rfl) rfl rfl ?_
    refine cR hF 2 rfl rfl rfl rfl rfl fun w hMs hM=>?_
    obtain ⟨p5,d24,hP⟩:=bind_some hP
    refine (aO (xs:=[.tmp 12,.tmp 13]) Tryz.call111 hF rfl rfl (dO d24 hM (Bf:=Bf) (fun w hM=>hsub _ (dropM hM 8)) d42) fun v w hR=>?_)
    obtain ⟨g16,c78,rfl,d43,d44,hM⟩:=hR
    replace hM:MemL _ (pt b0 (RReader.enc (RReader.mk c78 p5.2.at_ p5.2.place p5.2.e)) 176 :: pt i1 (RPiece.enc (RPiece.mk d8 d9 SV.nil SV.nil)) 156 :: pt c2 (RMark.enc (RMark.mk c5 c6 c7 c3 c4 c8 SV.nil)) 60 :: pt c1 (RMark.enc (RMark.mk 0 0 false SV.nil SV.nil SV.nil SV.nil)) 60 :: pt c0 [.pointer (some ⟨b0,0,none⟩)] 174 :: rowL 0 c3 128 d3 :: rowL 0 c4 151 d4 :: rowL 0 c8 156 d1 :: g2 :: Lr):=hM
    have hMs:=selM hM [1,2,3,4,5,6,7,8] 9 rfl
    refine ⟨_,_,hMs,hM,.inl fun _ h=>h,fun a hF=>?_⟩
    refine bS hch 3 (by kernel_rfl) rfl rfl ?_
    refine cR hF 3 rfl rfl rfl rfl rfl fun w hMs hM=>?_
    obtain ⟨n6,d25,hP⟩:=bind_some hP
    refine (aO (xs:=[.tmp 14]) Tryz.call73 hF rfl rfl (fM d25 hM (Bf:=Bf) (fun w hM=>hsub _ (dropM hM 9)) d43) fun v w hR=>?_)
    obtain ⟨d7,rfl,hM⟩:=hR
    replace hM:MemL _ (rowL 0 d7 5 n6 :: pt b0 (RReader.enc (RReader.mk c78 p5.2.at_ p5.2.place p5.2.e)) 176 :: pt i1 (RPiece.enc (RPiece.mk d8 d9 SV.nil SV.nil)) 156 :: pt c2 (RMark.enc (RMark.mk c5 c6 c7 c3 c4 c8 SV.nil)) 60 :: pt c1 (RMark.enc (RMark.mk 0 0 false SV.nil SV.nil SV.nil SV.nil)) 60 :: pt c0 [.pointer (some ⟨b0,0,none⟩)] 174 :: rowL 0 c3 128 d3 :: rowL 0 c4 151 d4 :: rowL 0 c8 156 d1 :: g2 :: Lr):=hM
    have hMs:=selM hM [0,2,3,4,5,6,7,8,9] 10 rfl
    refine ⟨_,_,hMs,hM,.inl fun _ h=>dropM h 1,fun a hF=>?_⟩
    refine aL hF hch 8 rfl (by kernel_rfl) rfl rfl rfl (fun w hM=>(aD (off':=2) Tryz.underlying156 rfl in23 rfl hF rfl rfl rfl)) fun a hF=>?_
    refine bS hch 6 (by kernel_rfl) rfl rfl ?_
    refine cR hF 6 rfl rfl rfl rfl rfl fun w hMs hM=>?_
    obtain ⟨d6,d26,hP⟩:=bind_some hP
    refine (aO (xs:=[.tmp 16,.tmp 17]) Tryz.call111 hF rfl rfl (dO d26 (selM hM [1,0,2,3,4,5,6,7,8,9] 10 rfl) (Bf:=Bf) (fun w hM=>hsub _ (dropM hM 9)) d44) fun v w hR=>?_)
    obtain ⟨g17,k3,rfl,d45,d46,hM⟩:=hR
    replace hM:MemL _ (pt b0 (RReader.enc (RReader.mk k3 d6.2.at_ d6.2.place d6.2.e)) 176 :: rowL 0 d7 5 n6 :: pt i1 (RPiece.enc (RPiece.mk d8 d9 SV.nil SV.nil)) 156 :: pt c2 (RMark.enc (RMark.mk c5 c6 c7 c3 c4 c8 SV.nil)) 60 :: pt c1 (RMark.enc (RMark.mk 0 0 false SV.nil SV.nil SV.nil SV.nil)) 60 :: pt c0 [.pointer (some ⟨b0,0,none⟩)] 174 :: rowL 0 c3 128 d3 :: rowL 0 c4 151 d4 :: rowL 0 c8 156 d1 :: g2 :: Lr):=hM
    have hMs:=selM hM [1,2,3,4,5,6,7,8,9] 10 rfl
    refine ⟨_,_,hMs,hM,.inl fun _ h=>h,fun a hF=>?_⟩
    refine bS hch 7 (by kernel_rfl) rfl rfl ?_
    refine cR hF 7 rfl rfl rfl rfl rfl fun w hMs hM=>?_
    obtain ⟨p6,d27,hP⟩:=bind_some hP
    refine (aO (xs:=[.tmp 18]) Tryz.call73 hF rfl rfl (fM d27 hM (Bf:=Bf) (fun w hM=>hsub _ (dropM hM 10)) d45) fun v w hR=>?_)
    obtain ⟨g1,rfl,hM⟩:=hR
    replace hM:MemL _ (rowL 0 g1 5 p6 :: pt b0 (RReader.enc (RReader.mk k3 d6.2.at_ d6.2.place d6.2.e)) 176 :: rowL 0 d7 5 n6 :: pt i1 (RPiece.enc (RPiece.mk d8 d9 SV.nil SV.nil)) 156 :: pt c2 (RMark.enc (RMark.mk c5 c6 c7 c3 c4 c8 SV.nil)) 60 :: pt c1 (RMark.enc (RMark.mk 0 0 false SV.nil SV.nil SV.nil SV.nil)) 60 :: pt c0 [.pointer (some ⟨b0,0,none⟩)] 174 :: rowL 0 c3 128 d3 :: rowL 0 c4 151 d4 :: rowL 0 c8 156 d1 :: g2 :: Lr):=hM
    have hMs:=selM hM [0,2,3,4,5,6,7,8,9,10] 11 rfl
    refine ⟨_,_,hMs,hM,.inl fun _ h=>dropM h 1,fun a hF=>?_⟩
    refine bS hch 9 (by kernel_rfl) rfl rfl ?_
    refine fN 9 rfl rfl rfl rfl fun w hMs hM=>?_
    refine (bZ Tryz.sizeOf23 (hM.obj (i:=3) rfl) hF rfl rfl rfl rfl (by rw [RPiece.len]; decide) (RPiece.s_old _ _) fun w c97=>?_)
    have hM:=hM.chg c97 (i:=3) rfl
    replace hM:MemL _ (rowL 0 g1 5 p6 :: pt b0 (RReader.enc (RReader.mk k3 d6.2.at_ d6.2.place d6.2.e)) 176 :: rowL 0 d7 5 n6 :: pt i1 (RPiece.enc (RPiece.mk d8 d9 d7 SV.nil)) 156 :: pt c2 (RMark.enc (RMark.mk c5 c6 c7 c3 c4 c8 SV.nil)) 60 :: pt c1 (RMark.enc (RMark.mk 0 0 false SV.nil SV.nil SV.nil SV.nil)) 60 :: pt c0 [.pointer (some ⟨b0,0,none⟩)] 174 :: rowL 0 c3 128 d3 :: rowL 0 c4 151 d4 :: rowL 0 c8 156 d1 :: g2 :: Lr):=hM
    have hMs:=hM
    refine ⟨_,_,hMs,hM,.inr (by kernel_rfl),?_⟩
    refine aL hF hch 10 rfl (by kernel_rfl) rfl rfl rfl (fun w hM=>(aD (off':=3) Tryz.underlying156 rfl in23 rfl hF rfl rfl rfl)) fun a hF=>?_
    refine bS hch 11 (by kernel_rfl) rfl rfl ?_
    refine fN 11 rfl rfl rfl rfl fun w hMs hM=>?_
    refine (bZ Tryz.sizeOf23 (hM.obj (i:=3) rfl) hF rfl rfl rfl rfl (by rw [RPiece.len]; decide) (RPiece.s_new _ _) fun w c98=>?_)
    have hM:=hM.chg c98 (i:=3) rfl
    replace hM:MemL _ (rowL 0 g1 5 p6 :: pt b0 (RReader.enc (RReader.mk k3 d6.2.at_ d6.2.place d6.2.e)) 176 :: rowL 0 d7 5 n6 :: pt i1 (RPiece.enc (RPiece.mk d8 d9 d7 g1)) 156 :: pt c2 (RMark.enc (RMark.mk c5 c6 c7 c3 c4 c8 SV.nil)) 60 :: pt c1 (RMark.enc (RMark.mk 0 0 false SV.nil SV.nil SV.nil SV.nil)) 60 :: pt c0 [.pointer (some ⟨b0,0,none⟩)] 174 :: rowL 0 c3 128 d3 :: rowL 0 c4 151 d4 :: rowL 0 c8 156 d1 :: g2 :: Lr):=hM
    have hMs:=hM
    refine ⟨_,_,hMs,hM,.inr (by kernel_rfl),?_⟩
    refine cI hch (by kernel_rfl) fun w hM=>?_
    refine aB ?_
    refine aC ?_
    refine aA hF (aD (off':=5) Tryz.underlying60 rfl in58 rfl hF rfl rfl rfl) rfl rfl rfl fun a hF=>?_
    refine aA hF (aJ Tryz.isAgg58 hF rfl rfl (hM.cell (i:=4) rfl (RMark.g_pieces _))) rfl rfl rfl fun a hF=>?_
    refine aA hF (bB Tryz.isAgg156 Tryz.sizeOf156 hF rfl rfl (RPiece.len _) (hM.cells (i:=3) rfl (bV (RPiece.len _)))) rfl rfl rfl fun a hF=>?_
    refine aN hF rfl rfl rfl (cY (X:=RPiece) (y:=(RPiece.mk d8 d9 d7 g1)) Tryz.underlying58 in156 rfl rfl rfl rfl hF rfl rfl rfl fun l1 w d94 c71=>?_)
    have hM:=hM.plus c71
    replace hM:MemL _ (pt l1 (encs ([(RPiece.mk d8 d9 d7 g1)]:List RPiece)) 156 :: rowL 0 g1 5 p6 :: pt b0 (RReader.enc (RReader.mk k3 d6.2.at_ d6.2.place d6.2.e)) 176 :: rowL 0 d7 5 n6 :: pt i1 (RPiece.enc (RPiece.mk d8 d9 d7 g1)) 156 :: pt c2 (RMark.enc (RMark.mk c5 c6 c7 c3 c4 c8 SV.nil)) 60 :: pt c1 (RMark.enc (RMark.mk 0 0 false SV.nil SV.nil SV.nil SV.nil)) 60 :: pt c0 [.pointer (some ⟨b0,0,none⟩)] 174 :: rowL 0 c3 128 d3 :: rowL 0 c4 151 d4 :: rowL 0 c8 156 d1 :: g2 :: Lr):=hM
    intro a hF
    obtain ⟨c81,c61,hP⟩:=bind_some hP
    refine aN hF rfl rfl rfl (jL (X:=RPiece) c61 c48.len rfl Tryz.underlying58 in156 rfl rfl rfl rfl hF rfl rfl rfl (hM.own (X:=RPiece) (i:=10) rfl) (hM.ptS (X:=RPiece) (i:=0) (n:=1) (c:=1) rfl rfl rfl (Nat.le_refl _)) fun m7 w c86=>?_)
    have hM:=hM.chg c86 (i:=10) rfl
    replace hM:MemL _ (pt l1 (encs ([(RPiece.mk d8 d9 d7 g1)]:List RPiece)) 156 :: rowL 0 g1 5 p6 :: pt b0 (RReader.enc (RReader.mk k3 d6.2.at_ d6.2.place d6.2.e)) 176 :: rowL 0 d7 5 n6 :: pt i1 (RPiece.enc (RPiece.mk d8 d9 d7 g1)) 156 :: pt c2 (RMark.enc (RMark.mk c5 c6 c7 c3 c4 c8 SV.nil)) 60 :: pt c1 (RMark.enc (RMark.mk 0 0 false SV.nil SV.nil SV.nil SV.nil)) 60 :: pt c0 [.pointer (some ⟨b0,0,none⟩)] 174 :: rowL 0 c3 128 d3 :: rowL 0 c4 151 d4 :: rowL 0 m7 156 (d1 ++ [(RPiece.mk d8 d9 d7 g1)]) :: g2 :: Lr):=hM
    obtain ⟨d69,d13,d14,hM⟩:=joinM (selM hM [11,3,0,1,2,4,5,6,7,8,9,10] 12 rfl)
    replace hM:MemL _ (d69 :: pt l1 (encs ([(RPiece.mk d8 d9 d7 g1)]:List RPiece)) 156 :: rowL 0 g1 5 p6 :: pt b0 (RReader.enc (RReader.mk k3 d6.2.at_ d6.2.place d6.2.e)) 176 :: pt i1 (RPiece.enc (RPiece.mk d8 d9 d7 g1)) 156 :: pt c2 (RMark.enc (RMark.mk c5 c6 c7 c3 c4 c8 SV.nil)) 60 :: pt c1 (RMark.enc (RMark.mk 0 0 false SV.nil SV.nil SV.nil SV.nil)) 60 :: pt c0 [.pointer (some ⟨b0,0,none⟩)] 174 :: rowL 0 c3 128 d3 :: rowL 0 c4 151 d4 :: rowL 0 m7 156 (d1 ++ [(RPiece.mk d8 d9 d7 g1)]) :: Lr):=hM
    obtain ⟨t6,c60,d15,hM⟩:=joinM (selM hM [0,2,1,3,4,5,6,7,8,9,10] 11 rfl)
    replace hM:MemL _ (t6 :: pt l1 (encs ([(RPiece.mk d8 d9 d7 g1)]:List RPiece)) 156 :: pt b0 (RReader.enc (RReader.mk k3 d6.2.at_ d6.2.place d6.2.e)) 176 :: pt i1 (RPiece.enc (RPiece.mk d8 d9 d7 g1)) 156 :: pt c2 (RMark.enc (RMark.mk c5 c6 c7 c3 c4 c8 SV.nil)) 60 :: pt c1 (RMark.enc (RMark.mk 0 0 false SV.nil SV.nil SV.nil SV.nil)) 60 :: pt c0 [.pointer (some ⟨b0,0,none⟩)] 174 :: rowL 0 c3 128 d3 :: rowL 0 c4 151 d4 :: rowL 0 m7 156 (d1 ++ [(RPiece.mk d8 d9 d7 g1)]) :: Lr):=hM
    have d67:Each (QPieceIn t6.holds') (d1 ++ [(RPiece.mk d8 d9 d7 g1)]) c81:=by rw [(dU c61).2]; exact (c48.mono fun _ _ q=>q.mono (fun w h=>d13 w (c60 w h))).snoc ⟨d7,g1,rfl,(fun w h=>gJ (X:=UInt8) (e:=5) ((fun w h=>d14 w (c60 w h)) w h)),(fun w h=>gJ (X:=UInt8) (e:=5) (d15 w h))⟩
    replace hM:MemL _ (t6 :: pt l1 (encs ([(RPiece.mk d8 d9 d7 g1)]:List RPiece)) 156 :: pt b0 (RReader.enc (RReader.mk k3 d6.2.at_ d6.2.place d6.2.e)) 176 :: pt i1 (RPiece.enc (RPiece.mk d8 d9 d7 g1)) 156 :: pt c2 (RMark.enc (RMark.mk c5 c6 c7 c3 c4 c8 SV.nil)) 60 :: pt c1 (RMark.enc (RMark.mk 0 0 false SV.nil SV.nil SV.nil SV.nil)) 60 :: pt c0 [.pointer (some ⟨b0,0,none⟩)] 174 :: rowL 0 c3 128 d3 :: rowL 0 c4 151 d4 :: rowL 0 m7 156 (d1 ++ [(RPiece.mk d8 d9 d7 g1)]) :: Lr):=hM
    intro a hF
    refine aA hF (aD (off':=5) Tryz.underlying60 rfl in58 rfl hF rfl rfl rfl) rfl rfl rfl fun a hF=>?_
    refine bO rfl rfl (bZ Tryz.sizeOf58 (hM.obj (i:=4) rfl) hF rfl rfl rfl rfl (by rw [RMark.len]; decide) (RMark.s_pieces _ _) fun w c99=>?_)
    have hM:=hM.chg c99 (i:=4) rfl
    replace hM:MemL _ (t6 :: pt l1 (encs ([(RPiece.mk d8 d9 d7 g1)]:List RPiece)) 156 :: pt b0 (RReader.enc (RReader.mk k3 d6.2.at_ d6.2.place d6.2.e)) 176 :: pt i1 (RPiece.enc (RPiece.mk d8 d9 d7 g1)) 156 :: pt c2 (RMark.enc (RMark.mk c5 c6 c7 c3 c4 m7 SV.nil)) 60 :: pt c1 (RMark.enc (RMark.mk 0 0 false SV.nil SV.nil SV.nil SV.nil)) 60 :: pt c0 [.pointer (some ⟨b0,0,none⟩)] 174 :: rowL 0 c3 128 d3 :: rowL 0 c4 151 d4 :: rowL 0 m7 156 (d1 ++ [(RPiece.mk d8 d9 d7 g1)]) :: Lr):=hM
    refine aI ?_
    have hP:=Option.some.inj hP
    subst hP
    refine eI Tryz.results188 hF ?_
    exact ⟨(d3,d4,c81,d6.2),rfl,c3,c4,m7,(d1 ++ [(RPiece.mk d8 d9 d7 g1)]),t6,k3,rfl,d67,d46,selM hM [4,7,8,9,0,2,5,6] 10 rfl⟩
   obtain ⟨⟨c27,c28,c29,n1⟩,rfl,c12,c13,c14,u7,z4,c15,rfl,d66,d40,hM⟩:=hR
   replace hP:Sh.eF n0 c27 c28 c29 n1 = _:=d53
   unfold Sh.eF at hP
   intro a hF
   refine aI (bI (aB ?_))
   refine aC ?_
   refine aA hF (aF hF rfl rfl) rfl rfl rfl fun a hF=>?_
   refine aA hF (fH hF rfl rfl rfl) rfl rfl rfl fun a hF=>?_
   refine aA hF (aG hF rfl rfl) rfl rfl rfl fun a hF=>?_
   refine aI (aB ?_)
   have hP:=Option.some.inj hP
   subst hP
   exact ⟨(c27,c28,c29,n1,(IntKind.i64.wrap (n0 - 1))),rfl,c12,c13,c14,u7,z4,c15,d66,d40,hF.to ⟨rfl,rfl,rfl,trivial⟩,hM⟩
  have hP:=Fx.cF c33 hP
  refine bW (bD (bD (cG ?_)))
  have hP:=Option.some.inj hP
  subst hP
  have hP:=d56 _ rfl
  subst hP
  refine eI Tryz.results114 hF ?_
  exact ⟨(d3,d4,p3,j2),rfl,c3,c4,c8,d1,g2,p1,rfl,c48,c44,selM hM [0,4,5,6,7,1,2,3] 8 rfl⟩
 obtain ⟨⟨u4,u5,c51,l4⟩,rfl,l9,m0,m1,m3,p0,c11,rfl,d64,d39,hM⟩:=hR
 replace hP:Sh.eE x0 c5 c6 c7 u4 u5 c51 l4 = _:=d52
 unfold Sh.eE at hP
 replace hM:MemL _ (pt c2 (RMark.enc (RMark.mk c5 c6 c7 l9 m0 m1 SV.nil)) 60 :: rowL 0 l9 128 u4 :: rowL 0 m0 151 u5 :: rowL 0 m1 156 m3 :: p0 :: pt b0 (RReader.enc (RReader.mk c11 l4.at_ l4.place l4.e)) 176 :: pt c1 (RMark.enc (RMark.mk 0 0 false SV.nil SV.nil SV.nil SV.nil)) 60 :: pt c0 [.pointer (some ⟨b0,0,none⟩)] 174 :: Lr):=hM
 have hMs:=hM
 refine ⟨_,_,hMs,hM,.inr (by kernel_rfl),fun a hF=>?_⟩
 refine cI hch (by kernel_rfl) fun w hM=>?_
 refine aB ?_
 refine aH ?_
 refine bQ mixed (by kernel_rfl) hM [0,1,2,3,4,6,7] 8 rfl fun hch=>?_
 refine aL hF hch 0 rfl (by kernel_rfl) rfl rfl rfl (fun w hM=>(aJ Tryz.isAgg174 hF rfl rfl (hM.cell (i:=6) rfl rfl))) fun a hF=>?_
 refine aL hF hch 1 rfl (by kernel_rfl) rfl rfl rfl (fun w hM=>(aJ Tryz.isAgg174 hF rfl rfl (hM.cell (i:=6) rfl rfl))) fun a hF=>?_
 refine aL hF hch 3 rfl (by kernel_rfl) rfl rfl rfl (fun w hM=>(fF hF (fs:=[]) (cs:=[.tmp 4,.tmp 1]) rfl rfl rfl)) fun a hF=>?_
 refine bS hch 2 (by kernel_rfl) rfl rfl ?_
 refine cR hF 2 rfl rfl rfl rfl rfl fun w hMs hM=>?_
 obtain ⟨c59,d28,hP⟩:=bind_some hP
 refine (aO (xs:=[.tmp 33,.const (.int .i64 (1))]) Tryz.call113 hF rfl rfl (bE d28 (selM hM [5,0,1,2,3,4,6,7] 8 rfl) (Bf:=Bf) (fun w hM=>hsub _ (dropM hM 7)) d39) fun v w hR=>?_)
 obtain ⟨c79,rfl,d47,hM⟩:=hR
 replace hM:MemL _ (pt b0 (RReader.enc (RReader.mk c79 c59.2.at_ c59.2.place c59.2.e)) 176 :: pt c2 (RMark.enc (RMark.mk c5 c6 c7 l9 m0 m1 SV.nil)) 60 :: rowL 0 l9 128 u4 :: rowL 0 m0 151 u5 :: rowL 0 m1 156 m3 :: p0 :: pt c1 (RMark.enc (RMark.mk 0 0 false SV.nil SV.nil SV.nil SV.nil)) 60 :: pt c0 [.pointer (some ⟨b0,0,none⟩)] 174 :: Lr):=hM
 have hMs:=selM hM [1,2,3,4,5,6,7] 8 rfl
 refine ⟨_,_,hMs,hM,.inl fun _ h=>h,fun a hF=>?_⟩
 refine bS hch 4 (by kernel_rfl) rfl rfl ?_
 refine cR hF 4 rfl rfl rfl rfl rfl fun w hMs hM=>?_
 obtain ⟨d88,hP,d54⟩:=cO hP
 refine (aO (xs:=[.tmp 32,.tmp 34,.tmp 35]) Tryz.call114 hF rfl rfl (R:=fun v w=>∃ x,d88 = .inl x ∧ match x with | (d0,j7)=>∃ (i5:SV) (i6:SV) (i7:SV) (k5:List RPiece) (l2:Res) (i8:SV) (p2:SV),v = .tuple #[] ∧ Each (QPieceIn l2.holds') k5 d0.pieces ∧ LIn Bf p2 j7.b ∧ MemL w (pt c2 (RMark.enc (RMark.mk d0.at_ d0.next d0.done i5 i6 i7 i8)) 60 :: rowL 0 i5 128 d0.regs :: rowL 0 i6 151 d0.slots :: rowL 0 i7 156 k5 :: l2 :: rowL 0 i8 3 d0.sent :: pt b0 (RReader.enc (RReader.mk p2 j7.at_ j7.place j7.e)) 176 :: pt c1 (RMark.enc (RMark.mk 0 0 false SV.nil SV.nil SV.nil SV.nil)) 60 :: pt c0 [.pointer (some ⟨b0,0,none⟩)] 174 :: Lr)) ?_ fun v w hR=>?_)
 ·refine aM Tryz.func114 rfl Tryz.ntmps114 rfl fun a hF=>?_
  refine aV ?_
  have hM:=hM.rowNil (X:=Int) 0 3
  refine bN hF hM hP (fun F x a w=>match x with | (c9,k1,n2)=>∃ (i9:SV) (j0:SV) (j1:SV) (k2:List RPiece) (k6:Res) (k4:SV) (t9:SV),Each (QPieceIn k6.holds') k2 c9.pieces ∧ LIn Bf t9 k1.b ∧ Fr 19 [(1,.int .i64 n2),(0,.pointer (some ⟨b0,0,none⟩)),(2,.func (.func 189) [].toArray [.pointer (some ⟨c2,0,none⟩),.pointer (some ⟨c0,0,none⟩)].toArray)] a ∧ MemL w (pt c2 (RMark.enc (RMark.mk c9.at_ c9.next c9.done i9 j0 j1 k4)) 60 :: rowL 0 i9 128 c9.regs :: rowL 0 j0 151 c9.slots :: rowL 0 j1 156 k2 :: k6 :: rowL 0 k4 3 c9.sent :: pt b0 (RReader.enc (RReader.mk t9 k1.at_ k1.place k1.e)) 176 :: pt c1 (RMark.enc (RMark.mk 0 0 false SV.nil SV.nil SV.nil SV.nil)) 60 :: pt c0 [.pointer (some ⟨b0,0,none⟩)] 174 :: Lr)) (fun hF hM=>⟨l9,m0,m1,m3,p0,SV.nil,c79,d64,d47,hF.to ⟨rfl,rfl,rfl,trivial⟩,selM hM [2,3,4,5,6,0,1,7,8] 9 rfl⟩) ?_
  rintro ⟨c9,k1,n2⟩ a w g27 hP d57 ⟨i9,j0,j1,k2,k6,k4,t9,c74,c68,hF,hM⟩
  replace hP:Sh.aE c9 k1 n2 = _:=hP
  unfold Sh.aE at hP
  refine aH ?_
  refine aH ?_
  refine aS hF hM hP (fun F x a w=>match x with | c53=>Fr 19 [(14,.bool c53),(0,.pointer (some ⟨b0,0,none⟩)),(1,.int .i64 n2),(2,.func (.func 189) [].toArray [.pointer (some ⟨c2,0,none⟩),.pointer (some ⟨c0,0,none⟩)].toArray)] a ∧ MemL w (pt c2 (RMark.enc (RMark.mk c9.at_ c9.next c9.done i9 j0 j1 k4)) 60 :: pt b0 (RReader.enc (RReader.mk t9 k1.at_ k1.place k1.e)) 176 :: pt c1 (RMark.enc (RMark.mk 0 0 false SV.nil SV.nil SV.nil SV.nil)) 60 :: pt c0 [.pointer (some ⟨b0,0,none⟩)] 174 :: rowL 0 i9 128 c9.regs :: rowL 0 j0 151 c9.slots :: rowL 0 j1 156 k2 :: k6 :: rowL 0 k4 3 c9.sent :: Lr)) (fun g24 hP g14 hF hM=>?_) ?_
  ·refine aC ?_
   refine aA hF (aF hF rfl rfl) rfl rfl rfl fun a hF=>?_
   refine aA hF (eJ hF rfl rfl rfl) rfl rfl rfl fun a hF=>?_
   refine aA hF (aF hF rfl rfl) rfl rfl rfl fun a hF=>?_
   refine aZ 8 hF rfl (fun g8=>?_) (fun g8=>?_)
   ·have hP:=Fx.cT g8 hP
    refine aK hF rfl rfl rfl g8 (aF hF rfl rfl) rfl rfl fun a hF=>?_
    refine aK hF rfl rfl rfl g8 (aX hF rfl rfl) rfl rfl fun a hF=>?_
    refine aK hF rfl rfl rfl g8 (aD (off':=3) Tryz.underlying176 rfl in34 rfl hF rfl rfl rfl) rfl rfl fun a hF=>?_
    refine aK hF rfl rfl rfl g8 (aJ Tryz.isAgg34 hF rfl rfl (hM.cell (i:=6) rfl (RReader.g_e _))) rfl rfl fun a hF=>?_
    refine aK hF rfl rfl rfl g8 (cE hF rfl rfl rfl) rfl rfl fun a hF=>?_
    refine aA hF (aP hF rfl rfl g8 rfl) rfl rfl rfl fun a hF=>?_
    refine aI (aB ?_)
    have hP:=Option.some.inj hP
    subst hP
    exact ⟨(decide (k1.e = 0)),rfl,hF.to ⟨rfl,rfl,rfl,rfl,trivial⟩,selM hM [0,6,7,8,1,2,3,4,5] 9 rfl⟩
   have hP:=Fx.cF g8 hP
   refine aE hF rfl rfl rfl g8 rfl rfl fun a hF=>?_
   refine aE hF rfl rfl rfl g8 rfl rfl fun a hF=>?_
   refine aE hF rfl rfl rfl g8 rfl rfl fun a hF=>?_
   refine aE hF rfl rfl rfl g8 rfl rfl fun a hF=>?_
   refine aE hF rfl rfl rfl g8 rfl rfl fun a hF=>?_
   refine aA hF (aQ hF rfl rfl g8 rfl) rfl rfl rfl fun a hF=>?_
   refine aI (aB ?_)
   have hP:=Option.some.inj hP
   subst hP
   exact ⟨false,rfl,hF.to ⟨rfl,rfl,rfl,rfl,trivial⟩,selM hM [0,6,7,8,1,2,3,4,5] 9 rfl⟩
  rintro c53 a w hP ⟨hF,hM⟩
  replace hP:Sh.aW c9 k1 n2 c53 = _:=hP
  unfold Sh.aW at hP
  refine aB ?_
  refine aR hF (c:=.tmp 14) rfl (fun c34=>?_) (fun c34=>?_)
  ·have hP:=Fx.cT c34 hP
   refine aT (aB ?_)
   refine aH ?_
   refine aV ?_
   refine aC ?_
   refine aA hF (aF hF rfl rfl) rfl rfl rfl fun a hF=>?_
   obtain ⟨d89,hP,d55⟩:=cO hP
   refine aN hF rfl rfl rfl (gC (xs:=[]) Tryz.call189 hF rfl rfl rfl (R:=fun v w=>∃ x,d89 = .inl x ∧ match x with | (k8,n3)=>∃ (c17:SV) (c18:SV) (c19:SV) (u8:List RPiece) (z5:Res) (c20:SV) (c21:SV),v = .tuple #[] ∧ Each (QPieceIn z5.holds') u8 k8.pieces ∧ LIn Bf c21 n3.b ∧ MemL w (pt c2 (RMark.enc (RMark.mk k8.at_ k8.next k8.done c17 c18 c19 c20)) 60 :: rowL 0 c17 128 k8.regs :: rowL 0 c18 151 k8.slots :: rowL 0 c19 156 u8 :: z5 :: rowL 0 c20 3 k8.sent :: pt b0 (RReader.enc (RReader.mk c21 n3.at_ n3.place n3.e)) 176 :: pt c1 (RMark.enc (RMark.mk 0 0 false SV.nil SV.nil SV.nil SV.nil)) 60 :: pt c0 [.pointer (some ⟨b0,0,none⟩)] 174 :: Lr)) ?_ fun v w hR=>?_)
   ·refine aM Tryz.func189 rfl Tryz.ntmps189 rfl fun a hF=>?_
    refine bQ mixed (by kernel_rfl) hM [0,2,3,4,5,6,7,8] 9 rfl fun hch=>?_
    refine aL hF hch 0 rfl (by kernel_rfl) rfl rfl rfl (fun w hM=>(aD (off':=6) Tryz.underlying60 rfl in52 rfl hF rfl rfl rfl)) fun a hF=>?_
    refine aL hF hch 1 rfl (by kernel_rfl) rfl rfl rfl (fun w hM=>(aJ Tryz.isAgg52 hF rfl rfl (hM.cell (i:=0) rfl (RMark.g_sent _)))) fun a hF=>?_
    refine aL hF hch 2 rfl (by kernel_rfl) rfl rfl rfl (fun w hM=>(aJ Tryz.isAgg174 hF rfl rfl (hM.cell (i:=2) rfl rfl))) fun a hF=>?_
    refine bS hch 3 (by kernel_rfl) rfl rfl ?_
    refine cR hF 3 rfl rfl rfl rfl rfl fun w hMs hM=>?_
    obtain ⟨i0,d29,hP⟩:=bind_some hP
    refine (aO (xs:=[.tmp 4,.const (.int .i64 (8))]) Tryz.call113 hF rfl rfl (bE d29 (selM hM [1,0,2,3,4,5,6,7,8] 9 rfl) (Bf:=Bf) (fun w hM=>hsub _ (dropM hM 8)) c68) fun v w hR=>?_)
    obtain ⟨u0,rfl,d49,hM⟩:=hR
    replace hM:MemL _ (pt b0 (RReader.enc (RReader.mk u0 i0.2.at_ i0.2.place i0.2.e)) 176 :: pt c2 (RMark.enc (RMark.mk c9.at_ c9.next c9.done i9 j0 j1 k4)) 60 :: pt c1 (RMark.enc (RMark.mk 0 0 false SV.nil SV.nil SV.nil SV.nil)) 60 :: pt c0 [.pointer (some ⟨b0,0,none⟩)] 174 :: rowL 0 i9 128 c9.regs :: rowL 0 j0 151 c9.slots :: rowL 0 j1 156 k2 :: k6 :: rowL 0 k4 3 c9.sent :: Lr):=hM
    have hMs:=selM hM [1,2,3,4,5,6,7,8] 9 rfl
    refine ⟨_,_,hMs,hM,.inl fun _ h=>h,fun a hF=>?_⟩
    refine bS hch 4 (by kernel_rfl) rfl rfl ?_
    refine cR hF 4 rfl rfl rfl rfl rfl fun w hMs hM=>?_
    refine (cY (X:=Int) (y:=i0.1) Tryz.underlying52 in3 rfl rfl rfl rfl hF rfl rfl rfl fun z1 w d97 c84=>?_)
    have hM:=hM.plus c84
    replace hM:MemL _ (pt z1 (encs ([i0.1]:List Int)) 3 :: pt b0 (RReader.enc (RReader.mk u0 i0.2.at_ i0.2.place i0.2.e)) 176 :: pt c2 (RMark.enc (RMark.mk c9.at_ c9.next c9.done i9 j0 j1 k4)) 60 :: pt c1 (RMark.enc (RMark.mk 0 0 false SV.nil SV.nil SV.nil SV.nil)) 60 :: pt c0 [.pointer (some ⟨b0,0,none⟩)] 174 :: rowL 0 i9 128 c9.regs :: rowL 0 j0 151 c9.slots :: rowL 0 j1 156 k2 :: k6 :: rowL 0 k4 3 c9.sent :: Lr):=hM
    have hMs:=selM hM [0,2,3,4,5,6,7,8,9] 10 rfl
    refine ⟨_,_,hMs,hM,.inl fun _ h=>dropM h 1,fun a hF=>?_⟩
    refine bS hch 5 (by kernel_rfl) rfl rfl ?_
    refine cR hF 5 rfl rfl rfl rfl rfl fun w hMs hM=>?_
    obtain ⟨c55,d17,hP⟩:=bind_some hP
    refine (dE (X:=Int) d17 Tryz.underlying52 in3 rfl rfl rfl rfl hF rfl rfl rfl (hM.own (X:=Int) (i:=9) rfl) (hM.ptS (X:=Int) (i:=0) (n:=1) (c:=1) rfl rfl rfl (Nat.le_refl _)) fun c22 w c87=>?_)
    have hM:=hM.chg c87 (i:=9) rfl
    replace hM:MemL _ (pt z1 (encs ([i0.1]:List Int)) 3 :: pt b0 (RReader.enc (RReader.mk u0 i0.2.at_ i0.2.place i0.2.e)) 176 :: pt c2 (RMark.enc (RMark.mk c9.at_ c9.next c9.done i9 j0 j1 k4)) 60 :: pt c1 (RMark.enc (RMark.mk 0 0 false SV.nil SV.nil SV.nil SV.nil)) 60 :: pt c0 [.pointer (some ⟨b0,0,none⟩)] 174 :: rowL 0 i9 128 c9.regs :: rowL 0 j0 151 c9.slots :: rowL 0 j1 156 k2 :: k6 :: rowL 0 c22 3 c55 :: Lr):=hM
    have hMs:=hM
    refine ⟨_,_,hMs,hM,.inr (by kernel_rfl),fun a hF=>?_⟩
    refine aL hF hch 6 rfl (by kernel_rfl) rfl rfl rfl (fun w hM=>(aD (off':=6) Tryz.underlying60 rfl in52 rfl hF rfl rfl rfl)) fun a hF=>?_
    refine bS hch 7 (by kernel_rfl) rfl rfl ?_
    refine fN 7 rfl rfl rfl rfl fun w hMs hM=>?_
    refine (bZ Tryz.sizeOf52 (hM.obj (i:=2) rfl) hF rfl rfl rfl rfl (by rw [RMark.len]; decide) (RMark.s_sent _ _) fun w d10=>?_)
    have hM:=hM.chg d10 (i:=2) rfl
    replace hM:MemL _ (pt z1 (encs ([i0.1]:List Int)) 3 :: pt b0 (RReader.enc (RReader.mk u0 i0.2.at_ i0.2.place i0.2.e)) 176 :: pt c2 (RMark.enc (RMark.mk c9.at_ c9.next c9.done i9 j0 j1 c22)) 60 :: pt c1 (RMark.enc (RMark.mk 0 0 false SV.nil SV.nil SV.nil SV.nil)) 60 :: pt c0 [.pointer (some ⟨b0,0,none⟩)] 174 :: rowL 0 i9 128 c9.regs :: rowL 0 j0 151 c9.slots :: rowL 0 j1 156 k2 :: k6 :: rowL 0 c22 3 c55 :: Lr):=hM
    have hMs:=hM
    refine ⟨_,_,hMs,hM,.inr (by kernel_rfl),?_⟩
    refine cI hch (by kernel_rfl) fun w hM=>?_
    have hP:=Option.some.inj hP
    subst hP
    refine eI Tryz.results189 hF ?_
    exact ⟨((QMark.mk c9.at_ c9.next c9.done c9.regs c9.slots c9.pieces c55),i0.2),rfl,i9,j0,j1,k2,k6,c22,u0,rfl,c74,d49,selM hM [2,5,6,7,8,9,1,3,4] 10 rfl⟩
   obtain ⟨⟨k8,n3⟩,rfl,c17,c18,c19,u8,z5,c20,c21,rfl,d68,d48,hM⟩:=hR
   replace hP:Sh.eG n2 k8 n3 = _:=d55
   unfold Sh.eG at hP
   intro a hF
   refine aI (bI (aB ?_))
   refine aC ?_
   refine aA hF (aF hF rfl rfl) rfl rfl rfl fun a hF=>?_
   refine aA hF (fH hF rfl rfl rfl) rfl rfl rfl fun a hF=>?_
   refine aA hF (aG hF rfl rfl) rfl rfl rfl fun a hF=>?_
   refine aI (aB ?_)
   have hP:=Option.some.inj hP
   subst hP
   exact ⟨(k8,n3,(IntKind.i64.wrap (n2 - 1))),rfl,c17,c18,c19,u8,z5,c20,c21,d68,d48,hF.to ⟨rfl,rfl,rfl,trivial⟩,hM⟩
  have hP:=Fx.cF c34 hP
  refine bW (bD (bD (cG ?_)))
  have hP:=Option.some.inj hP
  subst hP
  have hP:=d57 _ rfl
  subst hP
  refine eI Tryz.results114 hF ?_
  exact ⟨(c9,k1),rfl,i9,j0,j1,k2,k6,k4,t9,rfl,c74,c68,selM hM [0,4,5,6,7,8,1,2,3] 9 rfl⟩
 obtain ⟨⟨d0,j7⟩,rfl,i5,i6,i7,k5,l2,i8,p2,rfl,c73,c67,hM⟩:=hR
 replace hP:Sh.jT x0 d0 j7 = _:=d54
 unfold Sh.jT at hP
 replace hM:MemL _ (pt c2 (RMark.enc (RMark.mk d0.at_ d0.next d0.done i5 i6 i7 i8)) 60 :: rowL 0 i5 128 d0.regs :: rowL 0 i6 151 d0.slots :: rowL 0 i7 156 k5 :: l2 :: rowL 0 i8 3 d0.sent :: pt b0 (RReader.enc (RReader.mk p2 j7.at_ j7.place j7.e)) 176 :: pt c1 (RMark.enc (RMark.mk 0 0 false SV.nil SV.nil SV.nil SV.nil)) 60 :: pt c0 [.pointer (some ⟨b0,0,none⟩)] 174 :: Lr):=hM
 have hMs:=hM
 refine ⟨_,_,hMs,hM,.inr (by kernel_rfl),fun a hF=>?_⟩
 refine cI hch (by kernel_rfl) fun w hM=>?_
 refine aB ?_
 refine aH ?_
 refine aS hF hM hP (fun F x a w=>match x with | l5=>∃ (u1:SV),LIn Bf u1 l5.b ∧ Fr 44 [(2,.pointer (some ⟨c1,0,none⟩)),(4,.pointer (some ⟨c2,0,none⟩))] a ∧ MemL w (pt b0 (RReader.enc (RReader.mk u1 l5.at_ l5.place l5.e)) 176 :: pt c2 (RMark.enc (RMark.mk d0.at_ d0.next d0.done i5 i6 i7 i8)) 60 :: pt c1 (RMark.enc (RMark.mk 0 0 false SV.nil SV.nil SV.nil SV.nil)) 60 :: rowL 0 i5 128 d0.regs :: rowL 0 i6 151 d0.slots :: rowL 0 i7 156 k5 :: l2 :: rowL 0 i8 3 d0.sent :: Lr)) (fun g25 hP g15 hF hM=>?_) ?_
 ·refine aH ?_
  refine aC ?_
  refine aA hF (bB Tryz.isAgg60 Tryz.sizeOf60 hF rfl rfl (RMark.len _) (hM.cells (i:=0) rfl (bV (RMark.len _)))) rfl rfl rfl fun a hF=>?_
  obtain ⟨g18,d30,hP⟩:=bind_some hP
  refine aN hF rfl rfl rfl (aO (xs:=[.tmp 37]) Tryz.call173 hF rfl rfl (jI d30 hM (fun _ h=>h) (fun w hM=>(hM.rowS (X:=LTurn) (i:=1) rfl)) (fun w hM=>(hM.rowS (X:=LCell) (i:=2) rfl)) (fun w hM=>(hM.rowS (X:=RPiece) (i:=3) rfl)) (c73.mono fun _ _ q=>q.mono fun w hM=>hM.hold 4 _ rfl) (fun w hM=>(hM.rowS (X:=Int) (i:=5) rfl))) fun v w hR=>?_)
  obtain ⟨rfl,hM⟩:=hR
  replace hM:MemL _ (pt c2 (RMark.enc (RMark.mk d0.at_ d0.next d0.done i5 i6 i7 i8)) 60 :: rowL 0 i5 128 d0.regs :: rowL 0 i6 151 d0.slots :: rowL 0 i7 156 k5 :: l2 :: rowL 0 i8 3 d0.sent :: pt b0 (RReader.enc (RReader.mk p2 j7.at_ j7.place j7.e)) 176 :: pt c1 (RMark.enc (RMark.mk 0 0 false SV.nil SV.nil SV.nil SV.nil)) 60 :: pt c0 [.pointer (some ⟨b0,0,none⟩)] 174 :: Lr):=hM
  intro a hF
  refine aA hF (dJ hF rfl rfl) rfl rfl rfl fun a hF=>?_
  refine aI (aB ?_)
  refine aR hF (c:=.tmp 39) rfl (fun c35=>?_) (fun c35=>?_)
  ·have hP:=Fx.cT c35 hP
   refine aC ?_
   refine aA hF (aJ Tryz.isAgg174 hF rfl rfl (hM.cell (i:=8) rfl rfl)) rfl rfl rfl fun a hF=>?_
   refine aA hF (aF hF rfl rfl) rfl rfl rfl fun a hF=>?_
   obtain ⟨c31,d31,hP⟩:=bind_some hP
   refine aN hF rfl rfl rfl (aO (xs:=[.tmp 40,.tmp 41,.const (.int .i64 (230))]) Tryz.call112 hF rfl rfl (dB d31 (selM hM [6,0,1,2,3,4,5,7,8] 9 rfl) (Bf:=Bf) (fun w hM=>hsub _ (dropM hM 8)) c67) fun v w hR=>?_)
   obtain ⟨c80,rfl,d51,hM⟩:=hR
   replace hM:MemL _ (pt b0 (RReader.enc (RReader.mk c80 c31.at_ c31.place c31.e)) 176 :: pt c2 (RMark.enc (RMark.mk d0.at_ d0.next d0.done i5 i6 i7 i8)) 60 :: rowL 0 i5 128 d0.regs :: rowL 0 i6 151 d0.slots :: rowL 0 i7 156 k5 :: l2 :: rowL 0 i8 3 d0.sent :: pt c1 (RMark.enc (RMark.mk 0 0 false SV.nil SV.nil SV.nil SV.nil)) 60 :: pt c0 [.pointer (some ⟨b0,0,none⟩)] 174 :: Lr):=hM
   intro a hF
   refine aI (aB ?_)
   have hP:=Option.some.inj hP
   subst hP
   exact ⟨c31,rfl,c80,d51,hF.to ⟨rfl,rfl,trivial⟩,selM hM [0,1,7,2,3,4,5,6] 9 rfl⟩
  have hP:=Fx.cF c35 hP
  refine aT (aB ?_)
  have hP:=Option.some.inj hP
  subst hP
  exact ⟨j7,rfl,p2,c67,hF.to ⟨rfl,rfl,trivial⟩,selM hM [6,0,7,1,2,3,4,5] 9 rfl⟩
 rintro l5 a w hP ⟨u1,d50,hF,hM⟩
 replace hP:Sh.aQ d0 l5 = _:=hP
 unfold Sh.aQ at hP
 refine aB ?_
 refine aH ?_
 refine aC ?_
 refine aA hF (bB Tryz.isAgg60 Tryz.sizeOf60 hF rfl rfl (RMark.len _) (hM.cells (i:=1) rfl (bV (RMark.len _)))) rfl rfl rfl fun a hF=>?_
 refine bO rfl rfl (bL (vs:=_) Tryz.sizeOf60 (hM.obj (i:=2) rfl) hF rfl rfl rfl rfl (RMark.len _) (RMark.one _) (by first | (rw [RMark.len,RMark.len]; decide) | (rw [RMark.len]; decide)) (bU ((RMark.len _).trans (RMark.len _).symm)) fun w d11=>?_)
 have hM:=hM.chg d11 (i:=2) rfl
 replace hM:MemL _ (pt b0 (RReader.enc (RReader.mk u1 l5.at_ l5.place l5.e)) 176 :: pt c2 (RMark.enc (RMark.mk d0.at_ d0.next d0.done i5 i6 i7 i8)) 60 :: pt c1 (RMark.enc (RMark.mk d0.at_ d0.next d0.done i5 i6 i7 i8)) 60 :: rowL 0 i5 128 d0.regs :: rowL 0 i6 151 d0.slots :: rowL 0 i7 156 k5 :: l2 :: rowL 0 i8 3 d0.sent :: Lr):=hM
 refine aI (aB ?_)
 refine c_ret ?_
 have hP:=Option.some.inj hP
 subst hP
 refine eH (rs:=[.cell 2 60]) Tryz.results118 hF (dK hF rfl Tryz.isAgg60 Tryz.sizeOf60 (RMark.len _) (hM.cells (i:=2) rfl (bV (RMark.len _))) dC) rfl ?_
 exact ⟨i5,i6,i7,k5,l2,i8,u1,rfl,c73,d50,selM hM [3,4,5,6,7,0] 8 rfl⟩
set_option maxHeartbeats 4000000 in
theorem eK {x0:List UInt8} {s1:SV} {out:(QRecord × Int × Int)} {w0:World} {Bf:World → Prop} {Lr:List Res} (hP:Sh.bB x0 = some out) (hM:MemL w0 (Lr)) (hsub:∀ w,MemL w Lr → Bf w) (f2:LIn Bf s1 x0):Calls Tryz.prog 45 #[(s1).v] w0 (Ret fun v w'=>∃ (c19:SV) (c20:SV) (u8:List SV) (c11:Res) (c21:SV) (u9:List RMark) (c12:Res),v = .tuple #[.agg (RRecord.enc (RRecord.mk (RInput.mk c19 c20) c21 out.1.end_)).toArray,.int .i64 out.2.1,.int .i64 out.2.2] ∧ Each (LIn (X:=UInt8) c11.holds') u8 out.1.in_.tables ∧ Each (QMarkIn c12.holds') u9 out.1.marks ∧ MemL w' (rowL 0 c19 5 out.1.in_.ctx :: rowL 0 c20 23 u8 :: c11 :: rowL 0 c21 60 u9 :: c12 :: Lr)):=by
 unfold Sh.bB at hP
 refine aM (vs:=[(s1).v]) Tryz.func45 rfl Tryz.ntmps45 rfl fun a hF=>?_
 refine aH ?_
 refine aC ?_
 refine aN hF rfl rfl rfl (cB z36 (zs:=RRecord.zero.enc) rfl rfl fun c2 w d27 c30=>?_)
 have hM:=hM.plus c30
 replace hM:MemL _ (pt c2 (RRecord.enc (RRecord.mk (RInput.mk SV.nil SV.nil) SV.nil 0)) 36 :: Lr):=hM
 intro a hF
 refine aA hF (aG hF rfl rfl) rfl rfl rfl fun a hF=>?_
 refine aA hF (aG hF rfl rfl) rfl rfl rfl fun a hF=>?_
 refine aI (aB ?_)
 refine aH ?_
 refine aH ?_
 refine aC ?_
 refine aA hF (aF hF rfl rfl) rfl rfl rfl fun a hF=>?_
 refine aA hF (bG (f2 _ (hsub _ (dropM hM 1))) Tryz.underlying23 hF rfl rfl) rfl rfl rfl fun a hF=>?_
 refine aA hF (eJ hF rfl rfl rfl) rfl rfl rfl fun a hF=>?_
 refine aI (aB ?_)
 refine aR hF (c:=.tmp 8) rfl (fun p5=>?_) (fun p5=>?_)
 ·have hP:=Fx.cT p5 hP
  refine aH ?_
  refine aC ?_
  refine aA hF (cU z36 Tryz.underlying36 pl36 hF (parts:=[]) rfl rfl dI) rfl rfl rfl fun a hF=>?_
  refine bO rfl rfl (bL (vs:=_) Tryz.sizeOf36 (hM.obj (i:=0) rfl) hF rfl rfl rfl rfl (RRecord.len _) (RRecord.one _) (by first | (rw [RRecord.len,RRecord.len]; decide) | (rw [RRecord.len]; decide)) (bU ((RRecord.len _).trans (RRecord.len _).symm)) fun w c35=>?_)
  have hM:=hM.chg c35 (i:=0) rfl
  replace hM:MemL _ (pt c2 (RRecord.enc (RRecord.mk (RInput.mk SV.nil SV.nil) SV.nil 0)) 36 :: Lr):=hM
  refine aA hF (aG hF rfl rfl) rfl rfl rfl fun a hF=>?_
  refine aA hF (aG hF rfl rfl) rfl rfl rfl fun a hF=>?_
  refine aI (aB ?_)
  refine c_ret ?_
  have hM:=hM.rowNil (X:=UInt8) 0 5
  obtain ⟨c13,hM⟩:=voidM hM
  have c90:Each (LIn (X:=UInt8) c13.holds') ([]:List SV) ([]:List (List UInt8)):=Each.nil
  have hM:=hM.rowNil (X:=SV) 0 23
  obtain ⟨c14,hM⟩:=voidM hM
  have c91:Each (QMarkIn c14.holds') ([]:List RMark) ([]:List QMark):=Each.nil
  have hM:=hM.rowNil (X:=RMark) 0 60
  have hP:=Option.some.inj hP
  subst hP
  refine eH (rs:=[.cell 2 36,.tmp 3,.tmp 4]) Tryz.results45 hF (dK hF rfl Tryz.isAgg36 Tryz.sizeOf36 (RRecord.len _) (hM.cells (i:=5) rfl (bV (RRecord.len _))) (cX hF rfl (cX hF rfl dC))) rfl ?_
  exact ⟨SV.nil,SV.nil,[],c13,SV.nil,[],c14,rfl,c90,c91,selM hM [4,2,3,0,1] 6 rfl⟩
 have hP:=Fx.cF p5 hP
 refine aT (aB ?_)
 refine aH ?_
 refine aC ?_
 refine aA hF (aF hF rfl rfl) rfl rfl rfl fun a hF=>?_
 refine aA hF (cU z176 Tryz.underlying176 pl176 hF (parts:=[(0,.tmp 10)]) rfl rfl (cN rfl rfl (by rw [RReader.len]; decide) (RReader.s_b _ _) dI)) rfl rfl rfl fun a hF=>?_
 refine aN hF rfl rfl rfl (dD hF rfl rfl rfl fun c0 w d23 z3=>?_)
 have hM:=hM.plus z3
 replace hM:MemL _ (pt c0 (RReader.enc (RReader.mk s1 0 0 0)) 176 :: pt c2 (RRecord.enc (RRecord.mk (RInput.mk SV.nil SV.nil) SV.nil 0)) 36 :: Lr):=hM
 intro a hF
 refine aN hF rfl rfl rfl (cB (z:=(.pointer none)) (zs:=[(.pointer none)]) Tryz.zeroValue174 rfl rfl fun c3 w d28 c31=>?_)
 have hM:=hM.plus c31
 replace hM:MemL _ (pt c3 [.pointer none] 174 :: pt c0 (RReader.enc (RReader.mk s1 0 0 0)) 176 :: pt c2 (RRecord.enc (RRecord.mk (RInput.mk SV.nil SV.nil) SV.nil 0)) 36 :: Lr):=hM
 intro a hF
 refine bO rfl rfl (bZ Tryz.sizeOf174 (hM.obj (i:=0) rfl) hF rfl rfl rfl rfl (by decide) rfl fun w c36=>?_)
 have hM:=hM.chg c36 (i:=0) rfl
 replace hM:MemL _ (pt c3 [.pointer (some ⟨c0,0,none⟩)] 174 :: pt c0 (RReader.enc (RReader.mk s1 0 0 0)) 176 :: pt c2 (RRecord.enc (RRecord.mk (RInput.mk SV.nil SV.nil) SV.nil 0)) 36 :: Lr):=hM
 refine aI (aB ?_)
 refine aH ?_
 refine aS hF hM hP (fun F x a w=>match x with | l3=>∃ (t5:SV),LIn Bf t5 l3.b ∧ Fr 78 [(0,(s1).v),(2,.pointer (some ⟨c2,0,none⟩)),(3,.int .i64 0),(4,.int .i64 0),(5,.pointer (some ⟨c3,0,none⟩))] a ∧ MemL w (pt c0 (RReader.enc (RReader.mk t5 l3.at_ l3.place l3.e)) 176 :: pt c3 [.pointer (some ⟨c0,0,none⟩)] 174 :: pt c2 (RRecord.enc (RRecord.mk (RInput.mk SV.nil SV.nil) SV.nil 0)) 36 :: Lr)) (fun d40 hP d31 hF hM=>?_) ?_
 ·refine aH ?_
  refine aC ?_
  refine aA hF (aJ Tryz.isAgg174 hF rfl rfl (hM.cell (i:=0) rfl rfl)) rfl rfl rfl fun a hF=>?_
  obtain ⟨m8,c51,hP⟩:=bind_some hP
  refine aN hF rfl rfl rfl (aO (xs:=[.tmp 13,.const (.int .i64 (4))]) Tryz.call111 hF rfl rfl (dO c51 (selM hM [1,0,2] 3 rfl) (Bf:=Bf) (fun w hM=>hsub _ (dropM hM 2)) f2) fun v w hR=>?_)
  obtain ⟨d36,c22,rfl,c67,z4,hM⟩:=hR
  replace hM:MemL _ (pt c0 (RReader.enc (RReader.mk c22 m8.2.at_ m8.2.place m8.2.e)) 176 :: pt c3 [.pointer (some ⟨c0,0,none⟩)] 174 :: pt c2 (RRecord.enc (RRecord.mk (RInput.mk SV.nil SV.nil) SV.nil 0)) 36 :: Lr):=hM
  intro a hF
  refine aA hF (iY (c67 _ (hsub _ (dropM hM 3))) Tryz.underlying23 Tryz.underlying5 Tryz.underlying9 hF rfl rfl) rfl rfl rfl fun a hF=>?_
  refine aA hF (yL (i:=m8.1) (j:=[84,82,67,49]) hF rfl rfl rfl) rfl rfl rfl fun a hF=>?_
  refine aI (aB ?_)
  refine aR hF (c:=.tmp 16) rfl (fun p6=>?_) (fun p6=>?_)
  ·have hP:=Fx.cT p6 hP
   refine aC ?_
   refine aA hF (aJ Tryz.isAgg174 hF rfl rfl (hM.cell (i:=1) rfl rfl)) rfl rfl rfl fun a hF=>?_
   obtain ⟨p2,c52,hP⟩:=bind_some hP
   refine aN hF rfl rfl rfl (aO (xs:=[.tmp 17,.const (.int .i64 (0)),.const (.int .i64 (236))]) Tryz.call112 hF rfl rfl (dB c52 hM (Bf:=Bf) (fun w hM=>hsub _ (dropM hM 2)) z4) fun v w hR=>?_)
   obtain ⟨c23,rfl,c68,hM⟩:=hR
   replace hM:MemL _ (pt c0 (RReader.enc (RReader.mk c23 p2.at_ p2.place p2.e)) 176 :: pt c3 [.pointer (some ⟨c0,0,none⟩)] 174 :: pt c2 (RRecord.enc (RRecord.mk (RInput.mk SV.nil SV.nil) SV.nil 0)) 36 :: Lr):=hM
   intro a hF
   refine aI (aB ?_)
   have hP:=Option.some.inj hP
   subst hP
   exact ⟨p2,rfl,c23,c68,hF.to ⟨rfl,rfl,rfl,rfl,rfl,trivial⟩,hM⟩
  have hP:=Fx.cF p6 hP
  refine aT (aB ?_)
  have hP:=Option.some.inj hP
  subst hP
  exact ⟨m8.2,rfl,c22,z4,hF.to ⟨rfl,rfl,rfl,rfl,rfl,trivial⟩,hM⟩
 rintro l3 a w hP ⟨t5,c66,hF,hM⟩
 replace hP:Sh.bH x0 l3 = _:=hP
 unfold Sh.bH at hP
 refine aB ?_
 refine aH ?_
 refine bQ mixed (by kernel_rfl) hM [1,2] 3 rfl fun hch=>?_
 refine aL hF hch 0 rfl (by kernel_rfl) rfl rfl rfl (fun w hM=>(aJ Tryz.isAgg174 hF rfl rfl (hM.cell (i:=0) rfl rfl))) fun a hF=>?_
 refine aL hF hch 1 rfl (by kernel_rfl) rfl rfl rfl (fun w hM=>(aJ Tryz.isAgg174 hF rfl rfl (hM.cell (i:=0) rfl rfl))) fun a hF=>?_
 refine bS hch 2 (by kernel_rfl) rfl rfl ?_
 refine cR hF 2 rfl rfl rfl rfl rfl fun w hMs hM=>?_
 obtain ⟨u0,c53,hP⟩:=bind_some hP
 refine (aO (xs:=[.tmp 20,.const (.int .i64 (2))]) Tryz.call113 hF rfl rfl (bE c53 hM (Bf:=Bf) (fun w hM=>hsub _ (dropM hM 2)) c66) fun v w hR=>?_)
 obtain ⟨d19,rfl,c69,hM⟩:=hR
 replace hM:MemL _ (pt c0 (RReader.enc (RReader.mk d19 u0.2.at_ u0.2.place u0.2.e)) 176 :: pt c3 [.pointer (some ⟨c0,0,none⟩)] 174 :: pt c2 (RRecord.enc (RRecord.mk (RInput.mk SV.nil SV.nil) SV.nil 0)) 36 :: Lr):=hM
 have hMs:=selM hM [1,2] 3 rfl
 refine ⟨_,_,hMs,hM,.inl fun _ h=>h,fun a hF=>?_⟩
 refine bS hch 3 (by kernel_rfl) rfl rfl ?_
 refine cR hF 3 rfl rfl rfl rfl rfl fun w hMs hM=>?_
 obtain ⟨j7,c54,hP⟩:=bind_some hP
 refine (aO (xs:=[.tmp 19,.tmp 21]) Tryz.call111 hF rfl rfl (dO c54 hM (Bf:=Bf) (fun w hM=>hsub _ (dropM hM 2)) c69) fun v w hR=>?_)
 obtain ⟨d37,t6,rfl,c70,c71,hM⟩:=hR
 replace hM:MemL _ (pt c0 (RReader.enc (RReader.mk t6 j7.2.at_ j7.2.place j7.2.e)) 176 :: pt c3 [.pointer (some ⟨c0,0,none⟩)] 174 :: pt c2 (RRecord.enc (RRecord.mk (RInput.mk SV.nil SV.nil) SV.nil 0)) 36 :: Lr):=hM
 have hMs:=selM hM [1,2] 3 rfl
 refine ⟨_,_,hMs,hM,.inl fun _ h=>h,fun a hF=>?_⟩
 refine bS hch 4 (by kernel_rfl) rfl rfl ?_
 refine cR hF 4 rfl rfl rfl rfl rfl fun w hMs hM=>?_
 obtain ⟨u1,c55,hP⟩:=bind_some hP
 refine (aO (xs:=[.tmp 22]) Tryz.call73 hF rfl rfl (fM c55 hM (Bf:=Bf) (fun w hM=>hsub _ (dropM hM 3)) c70) fun v w hR=>?_)
 obtain ⟨k9,rfl,hM⟩:=hR
 replace hM:MemL _ (rowL 0 k9 5 u1 :: pt c0 (RReader.enc (RReader.mk t6 j7.2.at_ j7.2.place j7.2.e)) 176 :: pt c3 [.pointer (some ⟨c0,0,none⟩)] 174 :: pt c2 (RRecord.enc (RRecord.mk (RInput.mk SV.nil SV.nil) SV.nil 0)) 36 :: Lr):=hM
 have hMs:=selM hM [0,2,3] 4 rfl
 refine ⟨_,_,hMs,hM,.inl fun _ h=>dropM h 1,fun a hF=>?_⟩
 refine aL hF hch 5 rfl (by kernel_rfl) rfl rfl rfl (fun w hM=>(aD (off':=0) Tryz.underlying36 rfl in30 rfl hF rfl rfl rfl)) fun a hF=>?_
 refine aL hF hch 6 rfl (by kernel_rfl) rfl rfl rfl (fun w hM=>(aD (off':=0) Tryz.underlying30 rfl in23 rfl hF rfl rfl rfl)) fun a hF=>?_
 refine bS hch 7 (by kernel_rfl) rfl rfl ?_
 refine fN 7 rfl rfl rfl rfl fun w hMs hM=>?_
 refine (bZ Tryz.sizeOf23 (hM.obj (i:=3) rfl) hF rfl rfl rfl rfl (by rw [RRecord.len]; decide) (mU (RRecord.c_in_ _) (RInput.s_ctx _ _) (RRecord.p_in_ _ _) (by rw [RRecord.len]; decide) (by decide)) fun w c37=>?_)
 have hM:=hM.chg c37 (i:=3) rfl
 replace hM:MemL _ (rowL 0 k9 5 u1 :: pt c0 (RReader.enc (RReader.mk t6 j7.2.at_ j7.2.place j7.2.e)) 176 :: pt c3 [.pointer (some ⟨c0,0,none⟩)] 174 :: pt c2 (RRecord.enc (RRecord.mk (RInput.mk k9 SV.nil) SV.nil 0)) 36 :: Lr):=hM
 have hMs:=hM
 refine ⟨_,_,hMs,hM,.inr (by kernel_rfl),?_⟩
 refine cI hch (by kernel_rfl) fun w hM=>?_
 refine aB ?_
 refine aH ?_
 refine bQ mixed (by kernel_rfl) hM [0,2,3] 4 rfl fun hch=>?_
 refine aL hF hch 0 rfl (by kernel_rfl) rfl rfl rfl (fun w hM=>(aJ Tryz.isAgg174 hF rfl rfl (hM.cell (i:=1) rfl rfl))) fun a hF=>?_
 refine aL hF hch 1 rfl (by kernel_rfl) rfl rfl rfl (fun w hM=>(aJ Tryz.isAgg174 hF rfl rfl (hM.cell (i:=1) rfl rfl))) fun a hF=>?_
 refine aL hF hch 3 rfl (by kernel_rfl) rfl rfl rfl (fun w hM=>(fF hF (fs:=[]) (cs:=[.tmp 2,.tmp 5]) rfl rfl rfl)) fun a hF=>?_
 refine bS hch 2 (by kernel_rfl) rfl rfl ?_
 refine cR hF 2 rfl rfl rfl rfl rfl fun w hMs hM=>?_
 obtain ⟨u2,c56,hP⟩:=bind_some hP
 refine (aO (xs:=[.tmp 27,.const (.int .i64 (8))]) Tryz.call115 hF rfl rfl (cP c56 (selM hM [1,0,2,3] 4 rfl) (Bf:=Bf) (fun w hM=>hsub _ (dropM hM 3)) c71) fun v w hR=>?_)
 obtain ⟨c24,rfl,c72,hM⟩:=hR
 replace hM:MemL _ (pt c0 (RReader.enc (RReader.mk c24 u2.2.at_ u2.2.place u2.2.e)) 176 :: rowL 0 k9 5 u1 :: pt c3 [.pointer (some ⟨c0,0,none⟩)] 174 :: pt c2 (RRecord.enc (RRecord.mk (RInput.mk k9 SV.nil) SV.nil 0)) 36 :: Lr):=hM
 have hMs:=selM hM [1,2,3] 4 rfl
 refine ⟨_,_,hMs,hM,.inl fun _ h=>h,fun a hF=>?_⟩
 refine bS hch 4 (by kernel_rfl) rfl rfl ?_
 refine cR hF 4 rfl rfl rfl rfl rfl fun w hMs hM=>?_
 obtain ⟨d24,hP,c84⟩:=cO hP
 refine (aO (xs:=[.tmp 26,.tmp 28,.tmp 29]) Tryz.call114 hF rfl rfl (R:=fun v w=>∃ x,d24 = .inl x ∧ match x with | (j6,i8)=>∃ (n2:SV) (g4:SV) (g5:SV) (i1:List SV) (i9:Res),v = .tuple #[] ∧ LIn Bf n2 j6.b ∧ Each (LIn (X:=UInt8) i9.holds') i1 i8.tables ∧ MemL w (pt c0 (RReader.enc (RReader.mk n2 j6.at_ j6.place j6.e)) 176 :: pt c2 (RRecord.enc (RRecord.mk (RInput.mk g4 g5) SV.nil 0)) 36 :: rowL 0 g4 5 i8.ctx :: rowL 0 g5 23 i1 :: i9 :: pt c3 [.pointer (some ⟨c0,0,none⟩)] 174 :: Lr)) ?_ fun v w hR=>?_)
 ·refine aM Tryz.func114 rfl Tryz.ntmps114 rfl fun a hF=>?_
  refine aV ?_
  obtain ⟨c15,hM⟩:=voidM hM
  have c92:Each (LIn (X:=UInt8) c15.holds') ([]:List SV) ([]:List (List UInt8)):=Each.nil
  have hM:=hM.rowNil (X:=SV) 0 23
  refine bN hF hM hP (fun F x a w=>match x with | (i2,g1,k1)=>∃ (m2:SV) (d1:SV) (d8:SV) (d7:List SV) (j0:Res),LIn Bf m2 i2.b ∧ Each (LIn (X:=UInt8) j0.holds') d7 g1.tables ∧ Fr 19 [(1,.int .i64 k1),(0,.pointer (some ⟨c0,0,none⟩)),(2,.func (.func 116) [].toArray [.pointer (some ⟨c2,0,none⟩),.pointer (some ⟨c3,0,none⟩)].toArray)] a ∧ MemL w (pt c0 (RReader.enc (RReader.mk m2 i2.at_ i2.place i2.e)) 176 :: pt c2 (RRecord.enc (RRecord.mk (RInput.mk d1 d8) SV.nil 0)) 36 :: rowL 0 d1 5 g1.ctx :: rowL 0 d8 23 d7 :: j0 :: pt c3 [.pointer (some ⟨c0,0,none⟩)] 174 :: Lr)) (fun hF hM=>⟨c24,k9,SV.nil,[],c15,c72,c92,hF.to ⟨rfl,rfl,rfl,trivial⟩,selM hM [2,5,3,0,1,4] 6 rfl⟩) ?_
  rintro ⟨i2,g1,k1⟩ a w d44 hP c87 ⟨m2,d1,d8,d7,j0,z5,t3,hF,hM⟩
  replace hP:Sh.aI i2 g1 k1 = _:=hP
  unfold Sh.aI at hP
  refine aH ?_
  refine aH ?_
  refine aS hF hM hP (fun F x a w=>match x with | t8=>Fr 19 [(14,.bool t8),(0,.pointer (some ⟨c0,0,none⟩)),(1,.int .i64 k1),(2,.func (.func 116) [].toArray [.pointer (some ⟨c2,0,none⟩),.pointer (some ⟨c3,0,none⟩)].toArray)] a ∧ MemL w (pt c0 (RReader.enc (RReader.mk m2 i2.at_ i2.place i2.e)) 176 :: pt c2 (RRecord.enc (RRecord.mk (RInput.mk d1 d8) SV.nil 0)) 36 :: pt c3 [.pointer (some ⟨c0,0,none⟩)] 174 :: rowL 0 d1 5 g1.ctx :: rowL 0 d8 23 d7 :: j0 :: Lr)) (fun d41 hP d32 hF hM=>?_) ?_
  ·refine aC ?_
   refine aA hF (aF hF rfl rfl) rfl rfl rfl fun a hF=>?_
   refine aA hF (eJ hF rfl rfl rfl) rfl rfl rfl fun a hF=>?_
   refine aA hF (aF hF rfl rfl) rfl rfl rfl fun a hF=>?_
   refine aZ 8 hF rfl (fun d5=>?_) (fun d5=>?_)
   ·have hP:=Fx.cT d5 hP
    refine aK hF rfl rfl rfl d5 (aF hF rfl rfl) rfl rfl fun a hF=>?_
    refine aK hF rfl rfl rfl d5 (aX hF rfl rfl) rfl rfl fun a hF=>?_
    refine aK hF rfl rfl rfl d5 (aD (off':=3) Tryz.underlying176 rfl in34 rfl hF rfl rfl rfl) rfl rfl fun a hF=>?_
    refine aK hF rfl rfl rfl d5 (aJ Tryz.isAgg34 hF rfl rfl (hM.cell (i:=0) rfl (RReader.g_e _))) rfl rfl fun a hF=>?_
    refine aK hF rfl rfl rfl d5 (cE hF rfl rfl rfl) rfl rfl fun a hF=>?_
    refine aA hF (aP hF rfl rfl d5 rfl) rfl rfl rfl fun a hF=>?_
    refine aI (aB ?_)
    have hP:=Option.some.inj hP
    subst hP
    exact ⟨(decide (i2.e = 0)),rfl,hF.to ⟨rfl,rfl,rfl,rfl,trivial⟩,selM hM [0,1,5,2,3,4] 6 rfl⟩
   have hP:=Fx.cF d5 hP
   refine aE hF rfl rfl rfl d5 rfl rfl fun a hF=>?_
   refine aE hF rfl rfl rfl d5 rfl rfl fun a hF=>?_
   refine aE hF rfl rfl rfl d5 rfl rfl fun a hF=>?_
   refine aE hF rfl rfl rfl d5 rfl rfl fun a hF=>?_
   refine aE hF rfl rfl rfl d5 rfl rfl fun a hF=>?_
   refine aA hF (aQ hF rfl rfl d5 rfl) rfl rfl rfl fun a hF=>?_
   refine aI (aB ?_)
   have hP:=Option.some.inj hP
   subst hP
   exact ⟨false,rfl,hF.to ⟨rfl,rfl,rfl,rfl,trivial⟩,selM hM [0,1,5,2,3,4] 6 rfl⟩
  rintro t8 a w hP ⟨hF,hM⟩
  replace hP:Sh.bU i2 g1 k1 t8 = _:=hP
  unfold Sh.bU at hP
  refine aB ?_
  refine aR hF (c:=.tmp 14) rfl (fun p7=>?_) (fun p7=>?_)
  ·have hP:=Fx.cT p7 hP
   refine aT (aB ?_)
   refine aH ?_
   refine aV ?_
   refine aC ?_
   refine aA hF (aF hF rfl rfl) rfl rfl rfl fun a hF=>?_
   obtain ⟨d25,hP,c85⟩:=cO hP
   refine aN hF rfl rfl rfl (gC (xs:=[]) Tryz.call116 hF rfl rfl rfl (R:=fun v w=>∃ x,d25 = .inl x ∧ match x with | (k2,m6)=>∃ (n3:SV) (n4:SV) (n5:SV) (l6:List SV) (m9:Res),v = .tuple #[] ∧ LIn Bf n3 k2.b ∧ Each (LIn (X:=UInt8) m9.holds') l6 m6.tables ∧ MemL w (pt c0 (RReader.enc (RReader.mk n3 k2.at_ k2.place k2.e)) 176 :: pt c2 (RRecord.enc (RRecord.mk (RInput.mk n4 n5) SV.nil 0)) 36 :: rowL 0 n4 5 m6.ctx :: rowL 0 n5 23 l6 :: m9 :: pt c3 [.pointer (some ⟨c0,0,none⟩)] 174 :: Lr)) ?_ fun v w hR=>?_)
   ·refine aM Tryz.func116 rfl Tryz.ntmps116 rfl fun a hF=>?_
    refine bQ mixed (by kernel_rfl) hM [1,2,3,4,5] 6 rfl fun hch=>?_
    refine aL hF hch 0 rfl (by kernel_rfl) rfl rfl rfl (fun w hM=>(aD (off':=0) Tryz.underlying36 rfl in30 rfl hF rfl rfl rfl)) fun a hF=>?_
    refine aL hF hch 1 rfl (by kernel_rfl) rfl rfl rfl (fun w hM=>(aD (off':=1) Tryz.underlying30 rfl in28 rfl hF rfl rfl rfl)) fun a hF=>?_
    refine aL hF hch 2 rfl (by kernel_rfl) rfl rfl rfl (fun w hM=>(aJ Tryz.isAgg28 hF rfl rfl ((hM.cells (i:=0) rfl (RRecord.c_in_ _)).get 1 (RInput.g_tables _)))) fun a hF=>?_
    refine aL hF hch 3 rfl (by kernel_rfl) rfl rfl rfl (fun w hM=>(aJ Tryz.isAgg174 hF rfl rfl (hM.cell (i:=1) rfl rfl))) fun a hF=>?_
    refine aL hF hch 4 rfl (by kernel_rfl) rfl rfl rfl (fun w hM=>(aJ Tryz.isAgg174 hF rfl rfl (hM.cell (i:=1) rfl rfl))) fun a hF=>?_
    refine bS hch 5 (by kernel_rfl) rfl rfl ?_
    refine cR hF 5 rfl rfl rfl rfl rfl fun w hMs hM=>?_
    obtain ⟨u3,c57,hP⟩:=bind_some hP
    refine (aO (xs:=[.tmp 6,.const (.int .i64 (2))]) Tryz.call113 hF rfl rfl (bE c57 hM (Bf:=Bf) (fun w hM=>hsub _ (dropM hM 5)) z5) fun v w hR=>?_)
    obtain ⟨d20,rfl,c75,hM⟩:=hR
    replace hM:MemL _ (pt c0 (RReader.enc (RReader.mk d20 u3.2.at_ u3.2.place u3.2.e)) 176 :: pt c2 (RRecord.enc (RRecord.mk (RInput.mk d1 d8) SV.nil 0)) 36 :: pt c3 [.pointer (some ⟨c0,0,none⟩)] 174 :: rowL 0 d1 5 g1.ctx :: rowL 0 d8 23 d7 :: j0 :: Lr):=hM
    have hMs:=selM hM [1,2,3,4,5] 6 rfl
    refine ⟨_,_,hMs,hM,.inl fun _ h=>h,fun a hF=>?_⟩
    refine bS hch 6 (by kernel_rfl) rfl rfl ?_
    refine cR hF 6 rfl rfl rfl rfl rfl fun w hMs hM=>?_
    obtain ⟨d2,c58,hP⟩:=bind_some hP
    refine (aO (xs:=[.tmp 5,.tmp 7]) Tryz.call111 hF rfl rfl (dO c58 hM (Bf:=Bf) (fun w hM=>hsub _ (dropM hM 5)) c75) fun v w hR=>?_)
    obtain ⟨d38,j9,rfl,c76,c77,hM⟩:=hR
    replace hM:MemL _ (pt c0 (RReader.enc (RReader.mk j9 d2.2.at_ d2.2.place d2.2.e)) 176 :: pt c2 (RRecord.enc (RRecord.mk (RInput.mk d1 d8) SV.nil 0)) 36 :: pt c3 [.pointer (some ⟨c0,0,none⟩)] 174 :: rowL 0 d1 5 g1.ctx :: rowL 0 d8 23 d7 :: j0 :: Lr):=hM
    have hMs:=selM hM [1,2,3,4,5] 6 rfl
    refine ⟨_,_,hMs,hM,.inl fun _ h=>h,fun a hF=>?_⟩
    refine bS hch 7 (by kernel_rfl) rfl rfl ?_
    refine cR hF 7 rfl rfl rfl rfl rfl fun w hMs hM=>?_
    obtain ⟨u4,c59,hP⟩:=bind_some hP
    refine (aO (xs:=[.tmp 8]) Tryz.call73 hF rfl rfl (fM c59 hM (Bf:=Bf) (fun w hM=>hsub _ (dropM hM 6)) c76) fun v w hR=>?_)
    obtain ⟨g6,rfl,hM⟩:=hR
    replace hM:MemL _ (rowL 0 g6 5 u4 :: pt c0 (RReader.enc (RReader.mk j9 d2.2.at_ d2.2.place d2.2.e)) 176 :: pt c2 (RRecord.enc (RRecord.mk (RInput.mk d1 d8) SV.nil 0)) 36 :: pt c3 [.pointer (some ⟨c0,0,none⟩)] 174 :: rowL 0 d1 5 g1.ctx :: rowL 0 d8 23 d7 :: j0 :: Lr):=hM
    have hMs:=selM hM [0,2,3,4,5,6] 7 rfl
    refine ⟨_,_,hMs,hM,.inl fun _ h=>dropM h 1,fun a hF=>?_⟩
    refine bS hch 8 (by kernel_rfl) rfl rfl ?_
    refine cR hF 8 rfl rfl rfl rfl rfl fun w hMs hM=>?_
    refine (cY (X:=SV) (y:=g6) Tryz.underlying28 in23 rfl rfl rfl rfl hF rfl rfl rfl fun j3 w d21 u6=>?_)
    have hM:=hM.plus u6
    replace hM:MemL _ (pt j3 (encs ([g6]:List SV)) 23 :: rowL 0 g6 5 u4 :: pt c0 (RReader.enc (RReader.mk j9 d2.2.at_ d2.2.place d2.2.e)) 176 :: pt c2 (RRecord.enc (RRecord.mk (RInput.mk d1 d8) SV.nil 0)) 36 :: pt c3 [.pointer (some ⟨c0,0,none⟩)] 174 :: rowL 0 d1 5 g1.ctx :: rowL 0 d8 23 d7 :: j0 :: Lr):=hM
    have hMs:=selM hM [0,1,3,4,5,6,7] 8 rfl
    refine ⟨_,_,hMs,hM,.inl fun _ h=>dropM h 1,fun a hF=>?_⟩
    refine bS hch 9 (by kernel_rfl) rfl rfl ?_
    refine cR hF 9 rfl rfl rfl rfl rfl fun w hMs hM=>?_
    obtain ⟨c28,z0,hP⟩:=bind_some hP
    refine (jL (X:=SV) z0 t3.len rfl Tryz.underlying28 in23 rfl rfl rfl rfl hF rfl rfl rfl (hM.own (X:=SV) (i:=6) rfl) (hM.ptS (X:=SV) (i:=0) (n:=1) (c:=1) rfl rfl rfl (Nat.le_refl _)) fun l0 w c32=>?_)
    have hM:=hM.chg c32 (i:=6) rfl
    replace hM:MemL _ (pt j3 (encs ([g6]:List SV)) 23 :: rowL 0 g6 5 u4 :: pt c0 (RReader.enc (RReader.mk j9 d2.2.at_ d2.2.place d2.2.e)) 176 :: pt c2 (RRecord.enc (RRecord.mk (RInput.mk d1 d8) SV.nil 0)) 36 :: pt c3 [.pointer (some ⟨c0,0,none⟩)] 174 :: rowL 0 d1 5 g1.ctx :: rowL 0 l0 23 (d7 ++ [g6]) :: j0 :: Lr):=hM
    obtain ⟨l9,c43,c44,hM⟩:=joinM (selM hM [7,1,0,2,3,4,5,6] 8 rfl)
    replace hM:MemL _ (l9 :: pt j3 (encs ([g6]:List SV)) 23 :: pt c0 (RReader.enc (RReader.mk j9 d2.2.at_ d2.2.place d2.2.e)) 176 :: pt c2 (RRecord.enc (RRecord.mk (RInput.mk d1 d8) SV.nil 0)) 36 :: pt c3 [.pointer (some ⟨c0,0,none⟩)] 174 :: rowL 0 d1 5 g1.ctx :: rowL 0 l0 23 (d7 ++ [g6]) :: Lr):=hM
    have c94:Each (LIn (X:=UInt8) l9.holds') (d7 ++ [g6]) c28:=by rw [(dU z0).2]; exact (t3.mono fun _ _ q=>q.mono c43).snoc (fun w h=>gJ (X:=UInt8) (e:=5) (c44 w h))
    replace hM:MemL _ (l9 :: pt j3 (encs ([g6]:List SV)) 23 :: pt c0 (RReader.enc (RReader.mk j9 d2.2.at_ d2.2.place d2.2.e)) 176 :: pt c2 (RRecord.enc (RRecord.mk (RInput.mk d1 d8) SV.nil 0)) 36 :: pt c3 [.pointer (some ⟨c0,0,none⟩)] 174 :: rowL 0 d1 5 g1.ctx :: rowL 0 l0 23 (d7 ++ [g6]) :: Lr):=hM
    have hMs:=hM
    refine ⟨_,_,hMs,hM,.inr (by kernel_rfl),fun a hF=>?_⟩
    refine aL hF hch 10 rfl (by kernel_rfl) rfl rfl rfl (fun w hM=>(aD (off':=0) Tryz.underlying36 rfl in30 rfl hF rfl rfl rfl)) fun a hF=>?_
    refine aL hF hch 11 rfl (by kernel_rfl) rfl rfl rfl (fun w hM=>(aD (off':=1) Tryz.underlying30 rfl in28 rfl hF rfl rfl rfl)) fun a hF=>?_
    refine bS hch 12 (by kernel_rfl) rfl rfl ?_
    refine fN 12 rfl rfl rfl rfl fun w hMs hM=>?_
    refine (bZ Tryz.sizeOf28 (hM.obj (i:=3) rfl) hF rfl rfl rfl rfl (by rw [RRecord.len]; decide) (mU (RRecord.c_in_ _) (RInput.s_tables _ _) (RRecord.p_in_ _ _) (by rw [RRecord.len]; decide) (by decide)) fun w c38=>?_)
    have hM:=hM.chg c38 (i:=3) rfl
    replace hM:MemL _ (l9 :: pt j3 (encs ([g6]:List SV)) 23 :: pt c0 (RReader.enc (RReader.mk j9 d2.2.at_ d2.2.place d2.2.e)) 176 :: pt c2 (RRecord.enc (RRecord.mk (RInput.mk d1 l0) SV.nil 0)) 36 :: pt c3 [.pointer (some ⟨c0,0,none⟩)] 174 :: rowL 0 d1 5 g1.ctx :: rowL 0 l0 23 (d7 ++ [g6]) :: Lr):=hM
    have hMs:=hM
    refine ⟨_,_,hMs,hM,.inr (by kernel_rfl),?_⟩
    refine cI hch (by kernel_rfl) fun w hM=>?_
    have hP:=Option.some.inj hP
    subst hP
    refine eI Tryz.results116 hF ?_
    exact ⟨(d2.2,(QInput.mk g1.ctx c28)),rfl,j9,d1,l0,(d7 ++ [g6]),l9,rfl,c77,c94,selM hM [2,3,5,6,0,4] 7 rfl⟩
   obtain ⟨⟨k2,m6⟩,rfl,n3,n4,n5,l6,m9,rfl,c74,c93,hM⟩:=hR
   replace hP:Sh.hL k1 k2 m6 = _:=c85
   unfold Sh.hL at hP
   intro a hF
   refine aI (bI (aB ?_))
   refine aC ?_
   refine aA hF (aF hF rfl rfl) rfl rfl rfl fun a hF=>?_
   refine aA hF (fH hF rfl rfl rfl) rfl rfl rfl fun a hF=>?_
   refine aA hF (aG hF rfl rfl) rfl rfl rfl fun a hF=>?_
   refine aI (aB ?_)
   have hP:=Option.some.inj hP
   subst hP
   exact ⟨(k2,m6,(IntKind.i64.wrap (k1 - 1))),rfl,n3,n4,n5,l6,m9,c74,c93,hF.to ⟨rfl,rfl,rfl,trivial⟩,hM⟩
  have hP:=Fx.cF p7 hP
  refine bW (bD (bD (cG ?_)))
  have hP:=Option.some.inj hP
  subst hP
  have hP:=c87 _ rfl
  subst hP
  refine eI Tryz.results114 hF ?_
  exact ⟨(i2,g1),rfl,m2,d1,d8,d7,j0,rfl,z5,t3,selM hM [0,1,3,4,5,2] 6 rfl⟩
 obtain ⟨⟨j6,i8⟩,rfl,n2,g4,g5,i1,i9,rfl,c73,z9,hM⟩:=hR
 replace hP:Sh.gG x0 j6 i8 = _:=c84
 unfold Sh.gG at hP
 replace hM:MemL _ (pt c0 (RReader.enc (RReader.mk n2 j6.at_ j6.place j6.e)) 176 :: pt c2 (RRecord.enc (RRecord.mk (RInput.mk g4 g5) SV.nil 0)) 36 :: rowL 0 g4 5 i8.ctx :: rowL 0 g5 23 i1 :: i9 :: pt c3 [.pointer (some ⟨c0,0,none⟩)] 174 :: Lr):=hM
 have hMs:=hM
 refine ⟨_,_,hMs,hM,.inr (by kernel_rfl),fun a hF=>?_⟩
 refine cI hch (by kernel_rfl) fun w hM=>?_
 refine aB ?_
 refine aH ?_
 refine aS hF hM hP (fun F x a w=>match x with | (l4,m7,p1)=>∃ (t7:SV) (l1:SV) (l2:SV) (k7:List SV) (m0:Res),LIn Bf t7 l4.b ∧ Each (LIn (X:=UInt8) m0.holds') k7 m7.tables ∧ Fr 78 [(0,(s1).v),(2,.pointer (some ⟨c2,0,none⟩)),(3,.int .i64 0),(4,.int .i64 0),(5,.pointer (some ⟨c3,0,none⟩))] a ∧ MemL w (pt c0 (RReader.enc (RReader.mk t7 l4.at_ l4.place l4.e)) 176 :: pt c2 (RRecord.enc (RRecord.mk (RInput.mk l1 l2) SV.nil p1)) 36 :: rowL 0 l1 5 m7.ctx :: rowL 0 l2 23 k7 :: m0 :: pt c3 [.pointer (some ⟨c0,0,none⟩)] 174 :: Lr)) (fun d42 hP d33 hF hM=>?_) ?_
 ·refine aH ?_
  refine aC ?_
  refine aA hF (aJ Tryz.isAgg174 hF rfl rfl (hM.cell (i:=5) rfl rfl)) rfl rfl rfl fun a hF=>?_
  obtain ⟨g7,c60,hP⟩:=bind_some hP
  refine aN hF rfl rfl rfl (aO (xs:=[.tmp 31,.const (.int .i64 (1))]) Tryz.call113 hF rfl rfl (bE c60 hM (Bf:=Bf) (fun w hM=>hsub _ (dropM hM 5)) c73) fun v w hR=>?_)
  obtain ⟨n6,rfl,z6,hM⟩:=hR
  replace hM:MemL _ (pt c0 (RReader.enc (RReader.mk n6 g7.2.at_ g7.2.place g7.2.e)) 176 :: pt c2 (RRecord.enc (RRecord.mk (RInput.mk g4 g5) SV.nil 0)) 36 :: rowL 0 g4 5 i8.ctx :: rowL 0 g5 23 i1 :: i9 :: pt c3 [.pointer (some ⟨c0,0,none⟩)] 174 :: Lr):=hM
  intro a hF
  refine aA hF (aD (off':=3) Tryz.underlying36 rfl in34 rfl hF rfl rfl rfl) rfl rfl rfl fun a hF=>?_
  refine bO rfl rfl (bZ Tryz.sizeOf34 (hM.obj (i:=1) rfl) hF rfl rfl rfl rfl (by rw [RRecord.len]; decide) (RRecord.s_end_ _ _) fun w c39=>?_)
  have hM:=hM.chg c39 (i:=1) rfl
  replace hM:MemL _ (pt c0 (RReader.enc (RReader.mk n6 g7.2.at_ g7.2.place g7.2.e)) 176 :: pt c2 (RRecord.enc (RRecord.mk (RInput.mk g4 g5) SV.nil g7.1)) 36 :: rowL 0 g4 5 i8.ctx :: rowL 0 g5 23 i1 :: i9 :: pt c3 [.pointer (some ⟨c0,0,none⟩)] 174 :: Lr):=hM
  refine aI (aB ?_)
  refine aH ?_
  refine aC ?_
  refine aA hF (aD (off':=3) Tryz.underlying36 rfl in34 rfl hF rfl rfl rfl) rfl rfl rfl fun a hF=>?_
  refine aA hF (aJ Tryz.isAgg34 hF rfl rfl (hM.cell (i:=1) rfl (RRecord.g_end_ _))) rfl rfl rfl fun a hF=>?_
  obtain ⟨d39,c61,hP⟩:=bind_some hP
  refine aN hF rfl rfl rfl (aO (xs:=[.tmp 35]) Tryz.call100 hF rfl rfl (iO c61 hM ) fun v w hR=>?_)
  obtain ⟨rfl,hM⟩:=hR
  replace hM:MemL _ (pt c0 (RReader.enc (RReader.mk n6 g7.2.at_ g7.2.place g7.2.e)) 176 :: pt c2 (RRecord.enc (RRecord.mk (RInput.mk g4 g5) SV.nil g7.1)) 36 :: rowL 0 g4 5 i8.ctx :: rowL 0 g5 23 i1 :: i9 :: pt c3 [.pointer (some ⟨c0,0,none⟩)] 174 :: Lr):=hM
  intro a hF
  refine aA hF (dJ hF rfl rfl) rfl rfl rfl fun a hF=>?_
  refine aI (aB ?_)
  refine aR hF (c:=.tmp 37) rfl (fun p8=>?_) (fun p8=>?_)
  ·have hP:=Fx.cT p8 hP
   refine bQ mixed (by kernel_rfl) hM [0,1,2,3,4,5] 6 rfl fun hch=>?_
   refine aL hF hch 0 rfl (by kernel_rfl) rfl rfl rfl (fun w hM=>(aJ Tryz.isAgg174 hF rfl rfl (hM.cell (i:=5) rfl rfl))) fun a hF=>?_
   refine aL hF hch 1 rfl (by kernel_rfl) rfl rfl rfl (fun w hM=>(aJ Tryz.isAgg174 hF rfl rfl (hM.cell (i:=5) rfl rfl))) fun a hF=>?_
   refine aL hF hch 2 rfl (by kernel_rfl) rfl rfl rfl (fun w hM=>(aX hF rfl rfl)) fun a hF=>?_
   refine aL hF hch 3 rfl (by kernel_rfl) rfl rfl rfl (fun w hM=>(aD (off':=1) Tryz.underlying176 rfl in3 rfl hF rfl rfl rfl)) fun a hF=>?_
   refine aL hF hch 4 rfl (by kernel_rfl) rfl rfl rfl (fun w hM=>(aJ Tryz.isAgg3 hF rfl rfl (hM.cell (i:=0) rfl (RReader.g_at_ _)))) fun a hF=>?_
   refine aL hF hch 5 rfl (by kernel_rfl) rfl rfl rfl (fun w hM=>(fH hF rfl rfl rfl)) fun a hF=>?_
   refine bS hch 6 (by kernel_rfl) rfl rfl ?_
   refine cR hF 6 rfl rfl rfl rfl rfl fun w hMs hM=>?_
   obtain ⟨p3,c62,hP⟩:=bind_some hP
   refine (aO (xs:=[.tmp 38,.tmp 43,.const (.int .i64 (236))]) Tryz.call112 hF rfl rfl (dB c62 hM (Bf:=Bf) (fun w hM=>hsub _ (dropM hM 5)) z6) fun v w hR=>?_)
   obtain ⟨c25,rfl,c79,hM⟩:=hR
   replace hM:MemL _ (pt c0 (RReader.enc (RReader.mk c25 p3.at_ p3.place p3.e)) 176 :: pt c2 (RRecord.enc (RRecord.mk (RInput.mk g4 g5) SV.nil g7.1)) 36 :: rowL 0 g4 5 i8.ctx :: rowL 0 g5 23 i1 :: i9 :: pt c3 [.pointer (some ⟨c0,0,none⟩)] 174 :: Lr):=hM
   have hMs:=hM
   refine ⟨_,_,hMs,hM,.inr (by kernel_rfl),fun a hF=>?_⟩
   refine cI hch (by kernel_rfl) fun w hM=>?_
   refine aB ?_
   have hP:=Option.some.inj hP
   subst hP
   exact ⟨(p3,i8,g7.1),rfl,c25,g4,g5,i1,i9,c79,z9,hF.to ⟨rfl,rfl,rfl,rfl,rfl,trivial⟩,hM⟩
  have hP:=Fx.cF p8 hP
  refine aT (aB ?_)
  have hP:=Option.some.inj hP
  subst hP
  exact ⟨(g7.2,i8,g7.1),rfl,n6,g4,g5,i1,i9,z6,z9,hF.to ⟨rfl,rfl,rfl,rfl,rfl,trivial⟩,hM⟩
 rintro ⟨l4,m7,p1⟩ a w hP ⟨t7,l1,l2,k7,m0,c78,c95,hF,hM⟩
 replace hP:Sh.bV x0 l4 m7 p1 = _:=hP
 unfold Sh.bV at hP
 refine aB ?_
 refine aH ?_
 refine bQ mixed (by kernel_rfl) hM [1,2,3,4,5] 6 rfl fun hch=>?_
 refine aL hF hch 0 rfl (by kernel_rfl) rfl rfl rfl (fun w hM=>(aJ Tryz.isAgg174 hF rfl rfl (hM.cell (i:=4) rfl rfl))) fun a hF=>?_
 refine aL hF hch 1 rfl (by kernel_rfl) rfl rfl rfl (fun w hM=>(aJ Tryz.isAgg174 hF rfl rfl (hM.cell (i:=4) rfl rfl))) fun a hF=>?_
 refine aL hF hch 3 rfl (by kernel_rfl) rfl rfl rfl (fun w hM=>(fF hF (fs:=[]) (cs:=[.tmp 2,.tmp 5]) rfl rfl rfl)) fun a hF=>?_
 refine bS hch 2 (by kernel_rfl) rfl rfl ?_
 refine cR hF 2 rfl rfl rfl rfl rfl fun w hMs hM=>?_
 obtain ⟨u5,c63,hP⟩:=bind_some hP
 refine (aO (xs:=[.tmp 46,.const (.int .i64 (4))]) Tryz.call113 hF rfl rfl (bE c63 hM (Bf:=Bf) (fun w hM=>hsub _ (dropM hM 5)) c78) fun v w hR=>?_)
 obtain ⟨c26,rfl,c80,hM⟩:=hR
 replace hM:MemL _ (pt c0 (RReader.enc (RReader.mk c26 u5.2.at_ u5.2.place u5.2.e)) 176 :: pt c2 (RRecord.enc (RRecord.mk (RInput.mk l1 l2) SV.nil p1)) 36 :: rowL 0 l1 5 m7.ctx :: rowL 0 l2 23 k7 :: m0 :: pt c3 [.pointer (some ⟨c0,0,none⟩)] 174 :: Lr):=hM
 have hMs:=selM hM [1,2,3,4,5] 6 rfl
 refine ⟨_,_,hMs,hM,.inl fun _ h=>h,fun a hF=>?_⟩
 refine bS hch 4 (by kernel_rfl) rfl rfl ?_
 refine cR hF 4 rfl rfl rfl rfl rfl fun w hMs hM=>?_
 obtain ⟨d26,hP,c86⟩:=cO hP
 refine (aO (xs:=[.tmp 45,.tmp 47,.tmp 48]) Tryz.call114 hF rfl rfl (R:=fun v w=>∃ x,d26 = .inl x ∧ match x with | (j2,g2)=>∃ (m3:SV) (g8:SV) (g9:SV) (i5:List SV) (j4:Res) (i0:SV) (i6:List RMark) (j5:Res),v = .tuple #[] ∧ LIn Bf m3 j2.b ∧ Each (LIn (X:=UInt8) j4.holds') i5 g2.in_.tables ∧ Each (QMarkIn j5.holds') i6 g2.marks ∧ MemL w (pt c0 (RReader.enc (RReader.mk m3 j2.at_ j2.place j2.e)) 176 :: pt c2 (RRecord.enc (RRecord.mk (RInput.mk g8 g9) i0 g2.end_)) 36 :: rowL 0 g8 5 g2.in_.ctx :: rowL 0 g9 23 i5 :: j4 :: rowL 0 i0 60 i6 :: j5 :: pt c3 [.pointer (some ⟨c0,0,none⟩)] 174 :: Lr)) ?_ fun v w hR=>?_)
 ·refine aM Tryz.func114 rfl Tryz.ntmps114 rfl fun a hF=>?_
  refine aV ?_
  obtain ⟨c16,hM⟩:=voidM hM
  have c98:Each (QMarkIn c16.holds') ([]:List RMark) ([]:List QMark):=Each.nil
  have hM:=hM.rowNil (X:=RMark) 0 60
  refine bN hF hM hP (fun F x a w=>match x with | (i3,c4,k3)=>∃ (m4:SV) (c6:SV) (c7:SV) (d4:List SV) (g0:Res) (d9:SV) (d3:List RMark) (j8:Res),LIn Bf m4 i3.b ∧ Each (LIn (X:=UInt8) g0.holds') d4 c4.in_.tables ∧ Each (QMarkIn j8.holds') d3 c4.marks ∧ Fr 19 [(1,.int .i64 k3),(0,.pointer (some ⟨c0,0,none⟩)),(2,.func (.func 117) [].toArray [.pointer (some ⟨c2,0,none⟩),.pointer (some ⟨c3,0,none⟩)].toArray)] a ∧ MemL w (pt c0 (RReader.enc (RReader.mk m4 i3.at_ i3.place i3.e)) 176 :: pt c2 (RRecord.enc (RRecord.mk (RInput.mk c6 c7) d9 c4.end_)) 36 :: rowL 0 c6 5 c4.in_.ctx :: rowL 0 c7 23 d4 :: g0 :: rowL 0 d9 60 d3 :: j8 :: pt c3 [.pointer (some ⟨c0,0,none⟩)] 174 :: Lr)) (fun hF hM=>⟨c26,l1,l2,k7,m0,SV.nil,[],c16,c80,c95,c98,hF.to ⟨rfl,rfl,rfl,trivial⟩,selM hM [2,3,4,5,6,0,1,7] 8 rfl⟩) ?_
  rintro ⟨i3,c4,k3⟩ a w d45 hP c88 ⟨m4,c6,c7,d4,g0,d9,d3,j8,z8,c10,t4,hF,hM⟩
  replace hP:Sh.aJ i3 c4 k3 = _:=hP
  unfold Sh.aJ at hP
  refine aH ?_
  refine aH ?_
  refine aS hF hM hP (fun F x a w=>match x with | t9=>Fr 19 [(14,.bool t9),(0,.pointer (some ⟨c0,0,none⟩)),(1,.int .i64 k3),(2,.func (.func 117) [].toArray [.pointer (some ⟨c2,0,none⟩),.pointer (some ⟨c3,0,none⟩)].toArray)] a ∧ MemL w (pt c0 (RReader.enc (RReader.mk m4 i3.at_ i3.place i3.e)) 176 :: pt c2 (RRecord.enc (RRecord.mk (RInput.mk c6 c7) d9 c4.end_)) 36 :: pt c3 [.pointer (some ⟨c0,0,none⟩)] 174 :: rowL 0 c6 5 c4.in_.ctx :: rowL 0 c7 23 d4 :: g0 :: rowL 0 d9 60 d3 :: j8 :: Lr)) (fun d43 hP d34 hF hM=>?_) ?_
  ·refine aC ?_
   refine aA hF (aF hF rfl rfl) rfl rfl rfl fun a hF=>?_
   refine aA hF (eJ hF rfl rfl rfl) rfl rfl rfl fun a hF=>?_
   refine aA hF (aF hF rfl rfl) rfl rfl rfl fun a hF=>?_
   refine aZ 8 hF rfl (fun d6=>?_) (fun d6=>?_)
   ·have hP:=Fx.cT d6 hP
    refine aK hF rfl rfl rfl d6 (aF hF rfl rfl) rfl rfl fun a hF=>?_
    refine aK hF rfl rfl rfl d6 (aX hF rfl rfl) rfl rfl fun a hF=>?_
    refine aK hF rfl rfl rfl d6 (aD (off':=3) Tryz.underlying176 rfl in34 rfl hF rfl rfl rfl) rfl rfl fun a hF=>?_
    refine aK hF rfl rfl rfl d6 (aJ Tryz.isAgg34 hF rfl rfl (hM.cell (i:=0) rfl (RReader.g_e _))) rfl rfl fun a hF=>?_
    refine aK hF rfl rfl rfl d6 (cE hF rfl rfl rfl) rfl rfl fun a hF=>?_
    refine aA hF (aP hF rfl rfl d6 rfl) rfl rfl rfl fun a hF=>?_
    refine aI (aB ?_)
    have hP:=Option.some.inj hP
    subst hP
    exact ⟨(decide (i3.e = 0)),rfl,hF.to ⟨rfl,rfl,rfl,rfl,trivial⟩,selM hM [0,1,7,2,3,4,5,6] 8 rfl⟩
   have hP:=Fx.cF d6 hP
   refine aE hF rfl rfl rfl d6 rfl rfl fun a hF=>?_
   refine aE hF rfl rfl rfl d6 rfl rfl fun a hF=>?_
   refine aE hF rfl rfl rfl d6 rfl rfl fun a hF=>?_
   refine aE hF rfl rfl rfl d6 rfl rfl fun a hF=>?_
   refine aE hF rfl rfl rfl d6 rfl rfl fun a hF=>?_
   refine aA hF (aQ hF rfl rfl d6 rfl) rfl rfl rfl fun a hF=>?_
   refine aI (aB ?_)
   have hP:=Option.some.inj hP
   subst hP
   exact ⟨false,rfl,hF.to ⟨rfl,rfl,rfl,rfl,trivial⟩,selM hM [0,1,7,2,3,4,5,6] 8 rfl⟩
  rintro t9 a w hP ⟨hF,hM⟩
  replace hP:Sh.bW i3 c4 k3 t9 = _:=hP
  unfold Sh.bW at hP
  refine aB ?_
  refine aR hF (c:=.tmp 14) rfl (fun p9=>?_) (fun p9=>?_)
  ·have hP:=Fx.cT p9 hP
   refine aT (aB ?_)
   refine aH ?_
   refine aV ?_
   refine aC ?_
   refine aA hF (aF hF rfl rfl) rfl rfl rfl fun a hF=>?_
   obtain ⟨c89,hP,c34⟩:=cO hP
   refine aN hF rfl rfl rfl (gC (xs:=[]) Tryz.call117 hF rfl rfl rfl (R:=fun v w=>∃ x,c89 = .inl x ∧ match x with | (k4,k5)=>∃ (n7:SV) (n8:SV) (n9:SV) (l7:List SV) (n0:Res) (p0:SV) (l8:List RMark) (n1:Res),v = .tuple #[] ∧ LIn Bf n7 k4.b ∧ Each (LIn (X:=UInt8) n0.holds') l7 k5.in_.tables ∧ Each (QMarkIn n1.holds') l8 k5.marks ∧ MemL w (pt c0 (RReader.enc (RReader.mk n7 k4.at_ k4.place k4.e)) 176 :: pt c2 (RRecord.enc (RRecord.mk (RInput.mk n8 n9) p0 k5.end_)) 36 :: rowL 0 n8 5 k5.in_.ctx :: rowL 0 n9 23 l7 :: n0 :: rowL 0 p0 60 l8 :: n1 :: pt c3 [.pointer (some ⟨c0,0,none⟩)] 174 :: Lr)) ?_ fun v w hR=>?_)
   ·refine aM Tryz.func117 rfl Tryz.ntmps117 rfl fun a hF=>?_
    refine bQ mixed (by kernel_rfl) hM [1,2,3,4,5,6,7] 8 rfl fun hch=>?_
    refine aL hF hch 0 rfl (by kernel_rfl) rfl rfl rfl (fun w hM=>(aD (off':=2) Tryz.underlying36 rfl in33 rfl hF rfl rfl rfl)) fun a hF=>?_
    refine aL hF hch 1 rfl (by kernel_rfl) rfl rfl rfl (fun w hM=>(aJ Tryz.isAgg33 hF rfl rfl (hM.cell (i:=0) rfl (RRecord.g_marks _)))) fun a hF=>?_
    refine aL hF hch 2 rfl (by kernel_rfl) rfl rfl rfl (fun w hM=>(aJ Tryz.isAgg174 hF rfl rfl (hM.cell (i:=1) rfl rfl))) fun a hF=>?_
    refine bS hch 3 (by kernel_rfl) rfl rfl ?_
    refine cR hF 3 rfl rfl rfl rfl rfl fun w hMs hM=>?_
    obtain ⟨c1,c64,hP⟩:=bind_some hP
    refine (aO (xs:=[.tmp 4]) Tryz.call118 hF rfl rfl (jX c64 hM (Bf:=Bf) (fun w hM=>hsub _ (dropM hM 7)) z8) fun v w hR=>?_)
    obtain ⟨d0,c9,c8,k0,k8,c5,i7,rfl,d11,c82,hM⟩:=hR
    replace hM:MemL _ (rowL 0 d0 128 c1.1.regs :: rowL 0 c9 151 c1.1.slots :: rowL 0 c8 156 k0 :: k8 :: rowL 0 c5 3 c1.1.sent :: pt c0 (RReader.enc (RReader.mk i7 c1.2.at_ c1.2.place c1.2.e)) 176 :: pt c2 (RRecord.enc (RRecord.mk (RInput.mk c6 c7) d9 c4.end_)) 36 :: pt c3 [.pointer (some ⟨c0,0,none⟩)] 174 :: rowL 0 c6 5 c4.in_.ctx :: rowL 0 c7 23 d4 :: g0 :: rowL 0 d9 60 d3 :: j8 :: Lr):=hM
    have hMs:=selM hM [0,1,2,3,4,6,7,8,9,10,11,12] 13 rfl
    refine ⟨_,_,hMs,hM,.inl fun _ h=>dropM h 5,fun a hF=>?_⟩
    refine bS hch 4 (by kernel_rfl) rfl rfl ?_
    refine cR hF 4 rfl rfl rfl rfl rfl fun w hMs hM=>?_
    refine (cY (X:=RMark) (y:=(RMark.mk c1.1.at_ c1.1.next c1.1.done d0 c9 c8 c5)) Tryz.underlying33 in60 rfl rfl rfl rfl hF rfl rfl rfl fun g3 w d22 z2=>?_)
    have hM:=hM.plus z2
    replace hM:MemL _ (pt g3 (encs ([(RMark.mk c1.1.at_ c1.1.next c1.1.done d0 c9 c8 c5)]:List RMark)) 60 :: rowL 0 d0 128 c1.1.regs :: rowL 0 c9 151 c1.1.slots :: rowL 0 c8 156 k0 :: k8 :: rowL 0 c5 3 c1.1.sent :: pt c0 (RReader.enc (RReader.mk i7 c1.2.at_ c1.2.place c1.2.e)) 176 :: pt c2 (RRecord.enc (RRecord.mk (RInput.mk c6 c7) d9 c4.end_)) 36 :: pt c3 [.pointer (some ⟨c0,0,none⟩)] 174 :: rowL 0 c6 5 c4.in_.ctx :: rowL 0 c7 23 d4 :: g0 :: rowL 0 d9 60 d3 :: j8 :: Lr):=hM
    have hMs:=selM hM [0,1,2,3,4,5,7,8,9,10,11,12,13] 14 rfl
    refine ⟨_,_,hMs,hM,.inl fun _ h=>dropM h 1,fun a hF=>?_⟩
    refine bS hch 5 (by kernel_rfl) rfl rfl ?_
    refine cR hF 5 rfl rfl rfl rfl rfl fun w hMs hM=>?_
    obtain ⟨c29,z1,hP⟩:=bind_some hP
    refine (jL (X:=RMark) z1 t4.len rfl Tryz.underlying33 in60 rfl rfl rfl rfl hF rfl rfl rfl (hM.own (X:=RMark) (i:=12) rfl) (hM.ptS (X:=RMark) (i:=0) (n:=1) (c:=1) rfl rfl rfl (Nat.le_refl _)) fun j1 w c33=>?_)
    have hM:=hM.chg c33 (i:=12) rfl
    replace hM:MemL _ (pt g3 (encs ([(RMark.mk c1.1.at_ c1.1.next c1.1.done d0 c9 c8 c5)]:List RMark)) 60 :: rowL 0 d0 128 c1.1.regs :: rowL 0 c9 151 c1.1.slots :: rowL 0 c8 156 k0 :: k8 :: rowL 0 c5 3 c1.1.sent :: pt c0 (RReader.enc (RReader.mk i7 c1.2.at_ c1.2.place c1.2.e)) 176 :: pt c2 (RRecord.enc (RRecord.mk (RInput.mk c6 c7) d9 c4.end_)) 36 :: pt c3 [.pointer (some ⟨c0,0,none⟩)] 174 :: rowL 0 c6 5 c4.in_.ctx :: rowL 0 c7 23 d4 :: g0 :: rowL 0 j1 60 (d3 ++ [(RMark.mk c1.1.at_ c1.1.next c1.1.done d0 c9 c8 c5)]) :: j8 :: Lr):=hM
    obtain ⟨d15,c45,c46,hM⟩:=joinM (selM hM [13,1,0,2,3,4,5,6,7,8,9,10,11,12] 14 rfl)
    replace hM:MemL _ (d15 :: pt g3 (encs ([(RMark.mk c1.1.at_ c1.1.next c1.1.done d0 c9 c8 c5)]:List RMark)) 60 :: rowL 0 c9 151 c1.1.slots :: rowL 0 c8 156 k0 :: k8 :: rowL 0 c5 3 c1.1.sent :: pt c0 (RReader.enc (RReader.mk i7 c1.2.at_ c1.2.place c1.2.e)) 176 :: pt c2 (RRecord.enc (RRecord.mk (RInput.mk c6 c7) d9 c4.end_)) 36 :: pt c3 [.pointer (some ⟨c0,0,none⟩)] 174 :: rowL 0 c6 5 c4.in_.ctx :: rowL 0 c7 23 d4 :: g0 :: rowL 0 j1 60 (d3 ++ [(RMark.mk c1.1.at_ c1.1.next c1.1.done d0 c9 c8 c5)]) :: Lr):=hM
    obtain ⟨d16,u7,c47,hM⟩:=joinM (selM hM [0,2,1,3,4,5,6,7,8,9,10,11,12] 13 rfl)
    replace hM:MemL _ (d16 :: pt g3 (encs ([(RMark.mk c1.1.at_ c1.1.next c1.1.done d0 c9 c8 c5)]:List RMark)) 60 :: rowL 0 c8 156 k0 :: k8 :: rowL 0 c5 3 c1.1.sent :: pt c0 (RReader.enc (RReader.mk i7 c1.2.at_ c1.2.place c1.2.e)) 176 :: pt c2 (RRecord.enc (RRecord.mk (RInput.mk c6 c7) d9 c4.end_)) 36 :: pt c3 [.pointer (some ⟨c0,0,none⟩)] 174 :: rowL 0 c6 5 c4.in_.ctx :: rowL 0 c7 23 d4 :: g0 :: rowL 0 j1 60 (d3 ++ [(RMark.mk c1.1.at_ c1.1.next c1.1.done d0 c9 c8 c5)]) :: Lr):=hM
    obtain ⟨d17,t2,c48,hM⟩:=joinM (selM hM [0,2,1,3,4,5,6,7,8,9,10,11] 12 rfl)
    replace hM:MemL _ (d17 :: pt g3 (encs ([(RMark.mk c1.1.at_ c1.1.next c1.1.done d0 c9 c8 c5)]:List RMark)) 60 :: k8 :: rowL 0 c5 3 c1.1.sent :: pt c0 (RReader.enc (RReader.mk i7 c1.2.at_ c1.2.place c1.2.e)) 176 :: pt c2 (RRecord.enc (RRecord.mk (RInput.mk c6 c7) d9 c4.end_)) 36 :: pt c3 [.pointer (some ⟨c0,0,none⟩)] 174 :: rowL 0 c6 5 c4.in_.ctx :: rowL 0 c7 23 d4 :: g0 :: rowL 0 j1 60 (d3 ++ [(RMark.mk c1.1.at_ c1.1.next c1.1.done d0 c9 c8 c5)]) :: Lr):=hM
    obtain ⟨d18,l5,c49,hM⟩:=joinM (selM hM [0,2,1,3,4,5,6,7,8,9,10] 11 rfl)
    replace hM:MemL _ (d18 :: pt g3 (encs ([(RMark.mk c1.1.at_ c1.1.next c1.1.done d0 c9 c8 c5)]:List RMark)) 60 :: rowL 0 c5 3 c1.1.sent :: pt c0 (RReader.enc (RReader.mk i7 c1.2.at_ c1.2.place c1.2.e)) 176 :: pt c2 (RRecord.enc (RRecord.mk (RInput.mk c6 c7) d9 c4.end_)) 36 :: pt c3 [.pointer (some ⟨c0,0,none⟩)] 174 :: rowL 0 c6 5 c4.in_.ctx :: rowL 0 c7 23 d4 :: g0 :: rowL 0 j1 60 (d3 ++ [(RMark.mk c1.1.at_ c1.1.next c1.1.done d0 c9 c8 c5)]) :: Lr):=hM
    obtain ⟨m1,k6,c50,hM⟩:=joinM (selM hM [0,2,1,3,4,5,6,7,8,9] 10 rfl)
    replace hM:MemL _ (m1 :: pt g3 (encs ([(RMark.mk c1.1.at_ c1.1.next c1.1.done d0 c9 c8 c5)]:List RMark)) 60 :: pt c0 (RReader.enc (RReader.mk i7 c1.2.at_ c1.2.place c1.2.e)) 176 :: pt c2 (RRecord.enc (RRecord.mk (RInput.mk c6 c7) d9 c4.end_)) 36 :: pt c3 [.pointer (some ⟨c0,0,none⟩)] 174 :: rowL 0 c6 5 c4.in_.ctx :: rowL 0 c7 23 d4 :: g0 :: rowL 0 j1 60 (d3 ++ [(RMark.mk c1.1.at_ c1.1.next c1.1.done d0 c9 c8 c5)]) :: Lr):=hM
    have d12:Each (QMarkIn m1.holds') (d3 ++ [(RMark.mk c1.1.at_ c1.1.next c1.1.done d0 c9 c8 c5)]) c29:=by rw [(dU z1).2]; exact (t4.mono fun _ _ q=>q.mono (fun w h=>(fun w h=>(fun w h=>(fun w h=>c45 w (u7 w h)) w (t2 w h)) w (l5 w h)) w (k6 w h))).snoc ⟨d0,c9,c8,k0,c5,rfl,(fun w h=>gJ (X:=LTurn) (e:=128) ((fun w h=>(fun w h=>(fun w h=>(fun w h=>c46 w (u7 w h)) w (t2 w h)) w (l5 w h)) w (k6 w h)) w h)),(fun w h=>gJ (X:=LCell) (e:=151) ((fun w h=>(fun w h=>(fun w h=>c47 w (t2 w h)) w (l5 w h)) w (k6 w h)) w h)),(fun w h=>gJ (X:=RPiece) (e:=156) ((fun w h=>(fun w h=>c48 w (l5 w h)) w (k6 w h)) w h)),(d11.mono fun _ _ q=>q.mono (fun w h=>c49 w (k6 w h))),(fun w h=>gJ (X:=Int) (e:=3) (c50 w h))⟩
    replace hM:MemL _ (m1 :: pt g3 (encs ([(RMark.mk c1.1.at_ c1.1.next c1.1.done d0 c9 c8 c5)]:List RMark)) 60 :: pt c0 (RReader.enc (RReader.mk i7 c1.2.at_ c1.2.place c1.2.e)) 176 :: pt c2 (RRecord.enc (RRecord.mk (RInput.mk c6 c7) d9 c4.end_)) 36 :: pt c3 [.pointer (some ⟨c0,0,none⟩)] 174 :: rowL 0 c6 5 c4.in_.ctx :: rowL 0 c7 23 d4 :: g0 :: rowL 0 j1 60 (d3 ++ [(RMark.mk c1.1.at_ c1.1.next c1.1.done d0 c9 c8 c5)]) :: Lr):=hM
    have hMs:=hM
    refine ⟨_,_,hMs,hM,.inr (by kernel_rfl),fun a hF=>?_⟩
    refine aL hF hch 6 rfl (by kernel_rfl) rfl rfl rfl (fun w hM=>(aD (off':=2) Tryz.underlying36 rfl in33 rfl hF rfl rfl rfl)) fun a hF=>?_
    refine bS hch 7 (by kernel_rfl) rfl rfl ?_
    refine fN 7 rfl rfl rfl rfl fun w hMs hM=>?_
    refine (bZ Tryz.sizeOf33 (hM.obj (i:=3) rfl) hF rfl rfl rfl rfl (by rw [RRecord.len]; decide) (RRecord.s_marks _ _) fun w c40=>?_)
    have hM:=hM.chg c40 (i:=3) rfl
    replace hM:MemL _ (m1 :: pt g3 (encs ([(RMark.mk c1.1.at_ c1.1.next c1.1.done d0 c9 c8 c5)]:List RMark)) 60 :: pt c0 (RReader.enc (RReader.mk i7 c1.2.at_ c1.2.place c1.2.e)) 176 :: pt c2 (RRecord.enc (RRecord.mk (RInput.mk c6 c7) j1 c4.end_)) 36 :: pt c3 [.pointer (some ⟨c0,0,none⟩)] 174 :: rowL 0 c6 5 c4.in_.ctx :: rowL 0 c7 23 d4 :: g0 :: rowL 0 j1 60 (d3 ++ [(RMark.mk c1.1.at_ c1.1.next c1.1.done d0 c9 c8 c5)]) :: Lr):=hM
    have hMs:=hM
    refine ⟨_,_,hMs,hM,.inr (by kernel_rfl),?_⟩
    refine cI hch (by kernel_rfl) fun w hM=>?_
    have hP:=Option.some.inj hP
    subst hP
    refine eI Tryz.results117 hF ?_
    exact ⟨(c1.2,(QRecord.mk c4.in_ c29 c4.end_)),rfl,i7,c6,c7,d4,g0,j1,(d3 ++ [(RMark.mk c1.1.at_ c1.1.next c1.1.done d0 c9 c8 c5)]),m1,rfl,c82,c10,d12,selM hM [2,3,5,6,7,8,0,4] 9 rfl⟩
   obtain ⟨⟨k4,k5⟩,rfl,n7,n8,n9,l7,n0,p0,l8,n1,rfl,c81,c99,d10,hM⟩:=hR
   replace hP:Sh.gZ k3 k4 k5 = _:=c34
   unfold Sh.gZ at hP
   intro a hF
   refine aI (bI (aB ?_))
   refine aC ?_
   refine aA hF (aF hF rfl rfl) rfl rfl rfl fun a hF=>?_
   refine aA hF (fH hF rfl rfl rfl) rfl rfl rfl fun a hF=>?_
   refine aA hF (aG hF rfl rfl) rfl rfl rfl fun a hF=>?_
   refine aI (aB ?_)
   have hP:=Option.some.inj hP
   subst hP
   exact ⟨(k4,k5,(IntKind.i64.wrap (k3 - 1))),rfl,n7,n8,n9,l7,n0,p0,l8,n1,c81,c99,d10,hF.to ⟨rfl,rfl,rfl,trivial⟩,hM⟩
  have hP:=Fx.cF p9 hP
  refine bW (bD (bD (cG ?_)))
  have hP:=Option.some.inj hP
  subst hP
  have hP:=c88 _ rfl
  subst hP
  refine eI Tryz.results114 hF ?_
  exact ⟨(i3,c4),rfl,m4,c6,c7,d4,g0,d9,d3,j8,rfl,z8,c10,t4,selM hM [0,1,3,4,5,6,7,2] 8 rfl⟩
 obtain ⟨⟨j2,g2⟩,rfl,m3,g8,g9,i5,j4,i0,i6,j5,rfl,z7,c96,c97,hM⟩:=hR
 replace hP:Sh.bD x0 j2 g2 = _:=c86
 unfold Sh.bD at hP
 replace hM:MemL _ (pt c0 (RReader.enc (RReader.mk m3 j2.at_ j2.place j2.e)) 176 :: pt c2 (RRecord.enc (RRecord.mk (RInput.mk g8 g9) i0 g2.end_)) 36 :: rowL 0 g8 5 g2.in_.ctx :: rowL 0 g9 23 i5 :: j4 :: rowL 0 i0 60 i6 :: j5 :: pt c3 [.pointer (some ⟨c0,0,none⟩)] 174 :: Lr):=hM
 have hMs:=hM
 refine ⟨_,_,hMs,hM,.inr (by kernel_rfl),fun a hF=>?_⟩
 refine cI hch (by kernel_rfl) fun w hM=>?_
 refine aB ?_
 refine aH ?_
 refine aS hF hM hP (fun F x a w=>match x with | i4=>∃ (m5:SV),LIn Bf m5 i4.b ∧ Fr 78 [(2,.pointer (some ⟨c2,0,none⟩)),(3,.int .i64 0),(4,.int .i64 0),(5,.pointer (some ⟨c3,0,none⟩))] a ∧ MemL w (pt c0 (RReader.enc (RReader.mk m5 i4.at_ i4.place i4.e)) 176 :: pt c2 (RRecord.enc (RRecord.mk (RInput.mk g8 g9) i0 g2.end_)) 36 :: pt c3 [.pointer (some ⟨c0,0,none⟩)] 174 :: rowL 0 g8 5 g2.in_.ctx :: rowL 0 g9 23 i5 :: j4 :: rowL 0 i0 60 i6 :: j5 :: Lr)) (fun d35 hP d29 hF hM=>?_) ?_
 ·refine aH ?_
  refine aC ?_
  refine aA hF (aJ Tryz.isAgg174 hF rfl rfl (hM.cell (i:=7) rfl rfl)) rfl rfl rfl fun a hF=>?_
  refine aA hF (aX hF rfl rfl) rfl rfl rfl fun a hF=>?_
  refine aA hF (aD (off':=1) Tryz.underlying176 rfl in3 rfl hF rfl rfl rfl) rfl rfl rfl fun a hF=>?_
  refine aA hF (aJ Tryz.isAgg3 hF rfl rfl (hM.cell (i:=0) rfl (RReader.g_at_ _))) rfl rfl rfl fun a hF=>?_
  refine aA hF (aF hF rfl rfl) rfl rfl rfl fun a hF=>?_
  refine aA hF (bG (f2 _ (hsub _ (dropM hM 8))) Tryz.underlying23 hF rfl rfl) rfl rfl rfl fun a hF=>?_
  refine aA hF (cH hF rfl rfl rfl) rfl rfl rfl fun a hF=>?_
  refine aI (aB ?_)
  refine aR hF (c:=.tmp 56) rfl (fun t0=>?_) (fun t0=>?_)
  ·have hP:=Fx.cT t0 hP
   refine bQ mixed (by kernel_rfl) hM [0,1,2,3,4,5,6,7] 8 rfl fun hch=>?_
   refine aL hF hch 0 rfl (by kernel_rfl) rfl rfl rfl (fun w hM=>(aJ Tryz.isAgg174 hF rfl rfl (hM.cell (i:=7) rfl rfl))) fun a hF=>?_
   refine aL hF hch 1 rfl (by kernel_rfl) rfl rfl rfl (fun w hM=>(aJ Tryz.isAgg174 hF rfl rfl (hM.cell (i:=7) rfl rfl))) fun a hF=>?_
   refine aL hF hch 2 rfl (by kernel_rfl) rfl rfl rfl (fun w hM=>(aX hF rfl rfl)) fun a hF=>?_
   refine aL hF hch 3 rfl (by kernel_rfl) rfl rfl rfl (fun w hM=>(aD (off':=1) Tryz.underlying176 rfl in3 rfl hF rfl rfl rfl)) fun a hF=>?_
   refine aL hF hch 4 rfl (by kernel_rfl) rfl rfl rfl (fun w hM=>(aJ Tryz.isAgg3 hF rfl rfl (hM.cell (i:=0) rfl (RReader.g_at_ _)))) fun a hF=>?_
   refine bS hch 5 (by kernel_rfl) rfl rfl ?_
   refine cR hF 5 rfl rfl rfl rfl rfl fun w hMs hM=>?_
   obtain ⟨p4,c65,hP⟩:=bind_some hP
   refine (aO (xs:=[.tmp 57,.tmp 61,.const (.int .i64 (236))]) Tryz.call112 hF rfl rfl (dB c65 hM (Bf:=Bf) (fun w hM=>hsub _ (dropM hM 7)) z7) fun v w hR=>?_)
   obtain ⟨c27,rfl,c83,hM⟩:=hR
   replace hM:MemL _ (pt c0 (RReader.enc (RReader.mk c27 p4.at_ p4.place p4.e)) 176 :: pt c2 (RRecord.enc (RRecord.mk (RInput.mk g8 g9) i0 g2.end_)) 36 :: rowL 0 g8 5 g2.in_.ctx :: rowL 0 g9 23 i5 :: j4 :: rowL 0 i0 60 i6 :: j5 :: pt c3 [.pointer (some ⟨c0,0,none⟩)] 174 :: Lr):=hM
   have hMs:=hM
   refine ⟨_,_,hMs,hM,.inr (by kernel_rfl),fun a hF=>?_⟩
   refine cI hch (by kernel_rfl) fun w hM=>?_
   refine aB ?_
   have hP:=Option.some.inj hP
   subst hP
   exact ⟨p4,rfl,c27,c83,hF.to ⟨rfl,rfl,rfl,rfl,trivial⟩,selM hM [0,1,7,2,3,4,5,6] 8 rfl⟩
  have hP:=Fx.cF t0 hP
  refine aT (aB ?_)
  have hP:=Option.some.inj hP
  subst hP
  exact ⟨j2,rfl,m3,z7,hF.to ⟨rfl,rfl,rfl,rfl,trivial⟩,selM hM [0,1,7,2,3,4,5,6] 8 rfl⟩
 rintro i4 a w hP ⟨m5,d30,hF,hM⟩
 replace hP:Sh.aX g2 i4 = _:=hP
 unfold Sh.aX at hP
 refine aB ?_
 refine aH ?_
 refine aH ?_
 refine aC ?_
 refine aA hF (aJ Tryz.isAgg174 hF rfl rfl (hM.cell (i:=2) rfl rfl)) rfl rfl rfl fun a hF=>?_
 refine aA hF (aX hF rfl rfl) rfl rfl rfl fun a hF=>?_
 refine aA hF (aD (off':=3) Tryz.underlying176 rfl in34 rfl hF rfl rfl rfl) rfl rfl rfl fun a hF=>?_
 refine aA hF (aJ Tryz.isAgg34 hF rfl rfl (hM.cell (i:=0) rfl (RReader.g_e _))) rfl rfl rfl fun a hF=>?_
 refine aA hF (cW hF rfl rfl rfl) rfl rfl rfl fun a hF=>?_
 refine aI (aB ?_)
 refine aR hF (c:=.tmp 67) rfl (fun t1=>?_) (fun t1=>?_)
 ·have hP:=Fx.cT t1 hP
  refine aH ?_
  refine bQ mixed (by kernel_rfl) hM [0,2,3,4,5,6,7] 8 rfl fun hch=>?_
  refine aL hF hch 0 rfl (by kernel_rfl) rfl rfl rfl (fun w hM=>(cU z36 Tryz.underlying36 pl36 hF (parts:=[]) rfl rfl dI)) fun a hF=>?_
  refine aL hF hch 1 rfl (by kernel_rfl) rfl rfl rfl (fun w hM=>(aJ Tryz.isAgg174 hF rfl rfl (hM.cell (i:=1) rfl rfl))) fun a hF=>?_
  refine aL hF hch 2 rfl (by kernel_rfl) rfl rfl rfl (fun w hM=>(aX hF rfl rfl)) fun a hF=>?_
  refine aL hF hch 3 rfl (by kernel_rfl) rfl rfl rfl (fun w hM=>(aD (off':=2) Tryz.underlying176 rfl in3 rfl hF rfl rfl rfl)) fun a hF=>?_
  refine aL hF hch 4 rfl (by kernel_rfl) rfl rfl rfl (fun w hM=>(aJ Tryz.isAgg3 hF rfl rfl (hM.cell (i:=0) rfl (RReader.g_place _)))) fun a hF=>?_
  refine aL hF hch 5 rfl (by kernel_rfl) rfl rfl rfl (fun w hM=>(aJ Tryz.isAgg174 hF rfl rfl (hM.cell (i:=1) rfl rfl))) fun a hF=>?_
  refine aL hF hch 6 rfl (by kernel_rfl) rfl rfl rfl (fun w hM=>(aX hF rfl rfl)) fun a hF=>?_
  refine aL hF hch 7 rfl (by kernel_rfl) rfl rfl rfl (fun w hM=>(aD (off':=3) Tryz.underlying176 rfl in34 rfl hF rfl rfl rfl)) fun a hF=>?_
  refine aL hF hch 8 rfl (by kernel_rfl) rfl rfl rfl (fun w hM=>(aJ Tryz.isAgg34 hF rfl rfl (hM.cell (i:=0) rfl (RReader.g_e _)))) fun a hF=>?_
  refine bS hch 9 (by kernel_rfl) rfl rfl ?_
  refine fN 9 rfl rfl rfl rfl fun w hMs hM=>?_
  refine (bL (vs:=_) Tryz.sizeOf36 (hM.obj (i:=1) rfl) hF rfl rfl rfl rfl (RRecord.len _) (RRecord.one _) (by first | (rw [RRecord.len,RRecord.len]; decide) | (rw [RRecord.len]; decide)) (bU ((RRecord.len _).trans (RRecord.len _).symm)) fun w c41=>?_)
  have hM:=hM.chg c41 (i:=1) rfl
  replace hM:MemL _ (pt c0 (RReader.enc (RReader.mk m5 i4.at_ i4.place i4.e)) 176 :: pt c2 (RRecord.enc (RRecord.mk (RInput.mk SV.nil SV.nil) SV.nil 0)) 36 :: pt c3 [.pointer (some ⟨c0,0,none⟩)] 174 :: rowL 0 g8 5 g2.in_.ctx :: rowL 0 g9 23 i5 :: j4 :: rowL 0 i0 60 i6 :: j5 :: Lr):=hM
  have hMs:=selM hM [0,2,3,4,5,6,7] 8 rfl
  refine ⟨_,_,hMs,hM,.inl fun _ h=>h,?_⟩
  refine aL hF hch 10 rfl (by kernel_rfl) rfl rfl rfl (fun w hM=>(aG hF rfl rfl)) fun a hF=>?_
  refine aL hF hch 11 rfl (by kernel_rfl) rfl rfl rfl (fun w hM=>(aG hF rfl rfl)) fun a hF=>?_
  refine cI hch (by kernel_rfl) fun w hM=>?_
  refine aB ?_
  refine c_ret ?_
  have hM:=hM.rowNil (X:=UInt8) 0 5
  obtain ⟨c17,hM⟩:=voidM hM
  have d13:Each (LIn (X:=UInt8) c17.holds') ([]:List SV) ([]:List (List UInt8)):=Each.nil
  have hM:=hM.rowNil (X:=SV) 0 23
  obtain ⟨c18,hM⟩:=voidM hM
  have d14:Each (QMarkIn c18.holds') ([]:List RMark) ([]:List QMark):=Each.nil
  have hM:=hM.rowNil (X:=RMark) 0 60
  have hP:=Option.some.inj hP
  subst hP
  refine eH (rs:=[.cell 2 36,.tmp 3,.tmp 4]) Tryz.results45 hF (dK hF rfl Tryz.isAgg36 Tryz.sizeOf36 (RRecord.len _) (hM.cells (i:=6) rfl (bV (RRecord.len _))) (cX hF rfl (cX hF rfl dC))) rfl ?_
  exact ⟨SV.nil,SV.nil,[],c17,SV.nil,[],c18,rfl,d13,d14,selM hM [4,2,3,0,1] 13 rfl⟩
 have hP:=Fx.cF t1 hP
 refine aT (aB ?_)
 refine aH ?_
 refine aC ?_
 refine aA hF (bB Tryz.isAgg36 Tryz.sizeOf36 hF rfl rfl (RRecord.len _) (hM.cells (i:=1) rfl (bV (RRecord.len _)))) rfl rfl rfl fun a hF=>?_
 refine bO rfl rfl (bL (vs:=_) Tryz.sizeOf36 (hM.obj (i:=1) rfl) hF rfl rfl rfl rfl (RRecord.len _) (RRecord.one _) (by first | (rw [RRecord.len,RRecord.len]; decide) | (rw [RRecord.len]; decide)) (bU ((RRecord.len _).trans (RRecord.len _).symm)) fun w c42=>?_)
 have hM:=hM.chg c42 (i:=1) rfl
 replace hM:MemL _ (pt c0 (RReader.enc (RReader.mk m5 i4.at_ i4.place i4.e)) 176 :: pt c2 (RRecord.enc (RRecord.mk (RInput.mk g8 g9) i0 g2.end_)) 36 :: pt c3 [.pointer (some ⟨c0,0,none⟩)] 174 :: rowL 0 g8 5 g2.in_.ctx :: rowL 0 g9 23 i5 :: j4 :: rowL 0 i0 60 i6 :: j5 :: Lr):=hM
 refine aA hF (aG hF rfl rfl) rfl rfl rfl fun a hF=>?_
 refine aA hF (aG hF rfl rfl) rfl rfl rfl fun a hF=>?_
 refine aI (aB ?_)
 refine c_ret ?_
 have hP:=Option.some.inj hP
 subst hP
 refine eH (rs:=[.cell 2 36,.tmp 3,.tmp 4]) Tryz.results45 hF (dK hF rfl Tryz.isAgg36 Tryz.sizeOf36 (RRecord.len _) (hM.cells (i:=1) rfl (bV (RRecord.len _))) (cX hF rfl (cX hF rfl dC))) rfl ?_
 exact ⟨g8,g9,i5,j4,i0,i6,j5,rfl,c96,c97,selM hM [3,4,5,6,7] 8 rfl⟩
end Go.Proofs
end
section
namespace Go.Proofs
open Go.Fw Go.Fx
set_option maxRecDepth 10000
set_option linter.unusedVariables false
set_option linter.unusedSimpArgs false
set_option maxHeartbeats 4000000 in
theorem bR {x0:QWriter} {x1:Int} {s1:SV} {b0:Nat} {out:QWriter} {w0:World} {Lr:List Res} (hP:Sh.aH x0 x1 = some out) (hM:MemL w0 (pt b0 (RWriter.enc (RWriter.mk s1)) 167 :: fowL 5 s1 x0.b :: Lr)):Calls Tryz.prog 102 #[.pointer (some ⟨b0,0,none⟩),.int .i64 x1] w0 (Ret fun v w'=>∃ (s6:SV),v = .tuple #[] ∧ MemL w' (pt b0 (RWriter.enc (RWriter.mk s6)) 167 :: fowL 5 s6 out.b :: Lr)):=by
 unfold Sh.aH at hP
 refine aM (vs:=[.pointer (some ⟨b0,0,none⟩),.int .i64 x1]) Tryz.func102 rfl Tryz.ntmps102 rfl fun a hF=>?_
 refine aC ?_
 refine aA hF (aF hF rfl rfl) rfl rfl rfl fun a hF=>?_
 refine aA hF (aF hF rfl rfl) rfl rfl rfl fun a hF=>?_
 refine aA hF (aX hF rfl rfl) rfl rfl rfl fun a hF=>?_
 refine aA hF (aD (off':=0) Tryz.underlying167 rfl in23 rfl hF rfl rfl rfl) rfl rfl rfl fun a hF=>?_
 refine aA hF (aJ Tryz.isAgg23 hF rfl rfl (hM.cell (i:=0) rfl (RWriter.g_b _))) rfl rfl rfl fun a hF=>?_
 refine aA hF (aF hF rfl rfl) rfl rfl rfl fun a hF=>?_
 refine aA hF (eS Tryz.underlying3 Tryz.underlying5 hF rfl rfl) rfl rfl rfl fun a hF=>?_
 refine aN hF rfl rfl rfl (cY (X:=UInt8) (y:=(Fw.byteOf x1)) Tryz.underlying23 in5 rfl rfl rfl rfl hF rfl rfl rfl fun c0 w c2 c1=>?_)
 have hM:=hM.plus c1
 replace hM:MemL _ (pt c0 (encs ([(Fw.byteOf x1)]:List UInt8)) 5 :: pt b0 (RWriter.enc (RWriter.mk s1)) 167 :: fowL 5 s1 x0.b :: Lr):=hM
 intro a hF
 obtain ⟨x9,hx9,hP⟩:=bind_some hP
 refine aN hF rfl rfl rfl (nO hx9 Tryz.underlying23 in5 rfl rfl rfl rfl hF rfl rfl rfl (hM.hold 2 _ rfl) (hM.ptS (X:=UInt8) (i:=0) (n:=1) (c:=1) rfl rfl rfl (Nat.le_refl _)) fun s8 w hUs8=>?_)
 have hM:=hM.chg hUs8 (i:=2) rfl
 replace hM:MemL _ (pt c0 (encs ([(Fw.byteOf x1)]:List UInt8)) 5 :: pt b0 (RWriter.enc (RWriter.mk s1)) 167 :: fowL 5 s8 x9 :: Lr):=hM
 intro a hF
 refine aA hF (aX hF rfl rfl) rfl rfl rfl fun a hF=>?_
 refine aA hF (aD (off':=0) Tryz.underlying167 rfl in23 rfl hF rfl rfl rfl) rfl rfl rfl fun a hF=>?_
 refine bO rfl rfl (bZ Tryz.sizeOf23 (hM.obj (i:=1) rfl) hF rfl rfl rfl rfl (by rw [RWriter.len]; decide) (RWriter.s_b _ _) fun w hU10=>?_)
 have hM:=hM.chg hU10 (i:=1) rfl
 replace hM:MemL _ (pt c0 (encs ([(Fw.byteOf x1)]:List UInt8)) 5 :: pt b0 (RWriter.enc (RWriter.mk s8)) 167 :: fowL 5 s8 x9 :: Lr):=hM
 refine aI ?_
 have hP:=Option.some.inj hP
 subst hP
 refine eI Tryz.results102 hF ?_
 exact ⟨s8,rfl,selM hM [1,2] 3 rfl⟩
set_option maxHeartbeats 4000000 in
theorem eP {x0:QWriter} {x1:Int} {x2:Int} {s1:SV} {b0:Nat} {out:QWriter} {w0:World} {Lr:List Res} (hP:Sh.fJ x0 x1 x2 = some out) (hM:MemL w0 (pt b0 (RWriter.enc (RWriter.mk s1)) 167 :: fowL 5 s1 x0.b :: Lr)):Calls Tryz.prog 176 #[.pointer (some ⟨b0,0,none⟩),.int .i64 x1,.int .i64 x2] w0 (Ret fun v w'=>∃ (s43:SV),v = .tuple #[] ∧ MemL w' (pt b0 (RWriter.enc (RWriter.mk s43)) 167 :: fowL 5 s43 out.b :: Lr)):=by
 unfold Sh.fJ at hP
 refine aM (vs:=[.pointer (some ⟨b0,0,none⟩),.int .i64 x1,.int .i64 x2]) Tryz.func176 rfl Tryz.ntmps176 rfl fun a hF=>?_
 refine aH ?_
 refine aC ?_
 refine aA hF (aF hF rfl rfl) rfl rfl rfl fun a hF=>?_
 refine aA hF (aF hF rfl rfl) rfl rfl rfl fun a hF=>?_
 refine aI (aB ?_)
 refine aV ?_
 refine bN hF hM hP (fun F x a w=>match x with | (v70,v73,v74)=>∃ (s71:SV),Fr 16 [(1,.int .i64 v73),(7,.int .i64 v74),(0,.pointer (some ⟨b0,0,none⟩)),(6,.int .i64 x2)] a ∧ MemL w (pt b0 (RWriter.enc (RWriter.mk s71)) 167 :: fowL 5 s71 v70.b :: Lr)) (fun hF hM=>⟨s1,hF.to ⟨rfl,rfl,rfl,rfl,trivial⟩,hM⟩) ?_
 rintro ⟨v70,v73,v74⟩ a w c1 hP c0 ⟨s71,hF,hM⟩
 replace hP:Sh.cT x2 v70 v73 v74 = _:=hP
 unfold Sh.cT at hP
 refine aH ?_
 refine aC ?_
 refine aA hF (cH hF rfl rfl rfl) rfl rfl rfl fun a hF=>?_
 refine aI (aB ?_)
 refine aH ?_
 refine aR hF (c:=.tmp 8) rfl (fun hb76=>?_) (fun hb76=>?_)
 ·have hP:=Fx.cT hb76 hP
  refine aT (aB ?_)
  refine aH ?_
  refine aV ?_
  refine aH ?_
  refine aC ?_
  refine aA hF (aF hF rfl rfl) rfl rfl rfl fun a hF=>?_
  refine aA hF (aF hF rfl rfl) rfl rfl rfl fun a hF=>?_
  refine aA hF (pH hF rfl rfl rfl) rfl rfl rfl fun a hF=>?_
  obtain ⟨y82,hy82,hP⟩:=bind_some hP
  refine aN hF rfl rfl rfl (aO (xs:=[.tmp 9,.tmp 11]) Tryz.call102 hF rfl rfl (bR hy82 hM ) fun v w hR=>?_)
  obtain ⟨s83,rfl,hM⟩:=hR
  replace hM:MemL _ (pt b0 (RWriter.enc (RWriter.mk s83)) 167 :: fowL 5 s83 y82.b :: Lr):=hM
  intro a hF
  refine aI (aB ?_)
  refine aC ?_
  refine aA hF (aF hF rfl rfl) rfl rfl rfl fun a hF=>?_
  refine aA hF (nU hF rfl rfl rfl (by decide)) rfl rfl rfl fun a hF=>?_
  refine aA hF (aG hF rfl rfl) rfl rfl rfl fun a hF=>?_
  refine aI (bI (aB ?_))
  refine aC ?_
  refine aA hF (cA hF rfl rfl rfl) rfl rfl rfl fun a hF=>?_
  refine aA hF (aF hF rfl rfl) rfl rfl rfl fun a hF=>?_
  refine aI (aB ?_)
  have hP:=Option.some.inj hP
  subst hP
  exact ⟨(y82,(shr .i64 v73 (8:Int).toNat),(IntKind.i64.wrap (v74 + 1))),rfl,s83,hF.to ⟨rfl,rfl,rfl,rfl,trivial⟩,hM⟩
 have hP:=Fx.cF hb76 hP
 refine bW (bD (bD (cG ?_)))
 have hP:=Option.some.inj hP
 subst hP
 have hP:=c0 _ rfl
 subst hP
 refine eI Tryz.results176 hF ?_
 exact ⟨s71,rfl,hM⟩
set_option maxHeartbeats 4000000 in
theorem dR {x0:QWriter} {x1:Int} {s1:SV} {b0:Nat} {out:QWriter} {w0:World} {Lr:List Res} (hP:Sh.cU x0 x1 = some out) (hM:MemL w0 (pt b0 (RWriter.enc (RWriter.mk s1)) 167 :: fowL 5 s1 x0.b :: Lr)):Calls Tryz.prog 101 #[.pointer (some ⟨b0,0,none⟩),.int .i64 x1] w0 (Ret fun v w'=>∃ (s7:SV),v = .tuple #[] ∧ MemL w' (pt b0 (RWriter.enc (RWriter.mk s7)) 167 :: fowL 5 s7 out.b :: Lr)):=by
 unfold Sh.cU at hP
 refine aM (vs:=[.pointer (some ⟨b0,0,none⟩),.int .i64 x1]) Tryz.func101 rfl Tryz.ntmps101 rfl fun a hF=>?_
 refine aC ?_
 refine aA hF (aF hF rfl rfl) rfl rfl rfl fun a hF=>?_
 refine aA hF (aF hF rfl rfl) rfl rfl rfl fun a hF=>?_
 obtain ⟨y10,hy10,hP⟩:=bind_some hP
 refine aN hF rfl rfl rfl (aO (xs:=[.tmp 4,.tmp 5,.const (.int .i64 (2))]) Tryz.call176 hF rfl rfl (eP hy10 hM ) fun v w hR=>?_)
 obtain ⟨s11,rfl,hM⟩:=hR
 replace hM:MemL _ (pt b0 (RWriter.enc (RWriter.mk s11)) 167 :: fowL 5 s11 y10.b :: Lr):=hM
 intro a hF
 refine aI ?_
 have hP:=Option.some.inj hP
 subst hP
 refine eI Tryz.results101 hF ?_
 exact ⟨s11,rfl,hM⟩
set_option maxHeartbeats 4000000 in
theorem gN {x0:QWriter} {x1:Int} {s1:SV} {b0:Nat} {out:QWriter} {w0:World} {Lr:List Res} (hP:Sh.gS x0 x1 = some out) (hM:MemL w0 (pt b0 (RWriter.enc (RWriter.mk s1)) 167 :: fowL 5 s1 x0.b :: Lr)):Calls Tryz.prog 103 #[.pointer (some ⟨b0,0,none⟩),.int .i64 x1] w0 (Ret fun v w'=>∃ (s7:SV),v = .tuple #[] ∧ MemL w' (pt b0 (RWriter.enc (RWriter.mk s7)) 167 :: fowL 5 s7 out.b :: Lr)):=by
 unfold Sh.gS at hP
 refine aM (vs:=[.pointer (some ⟨b0,0,none⟩),.int .i64 x1]) Tryz.func103 rfl Tryz.ntmps103 rfl fun a hF=>?_
 refine aC ?_
 refine aA hF (aF hF rfl rfl) rfl rfl rfl fun a hF=>?_
 refine aA hF (aF hF rfl rfl) rfl rfl rfl fun a hF=>?_
 obtain ⟨y10,hy10,hP⟩:=bind_some hP
 refine aN hF rfl rfl rfl (aO (xs:=[.tmp 4,.tmp 5,.const (.int .i64 (4))]) Tryz.call176 hF rfl rfl (eP hy10 hM ) fun v w hR=>?_)
 obtain ⟨s11,rfl,hM⟩:=hR
 replace hM:MemL _ (pt b0 (RWriter.enc (RWriter.mk s11)) 167 :: fowL 5 s11 y10.b :: Lr):=hM
 intro a hF
 refine aI ?_
 have hP:=Option.some.inj hP
 subst hP
 refine eI Tryz.results103 hF ?_
 exact ⟨s11,rfl,hM⟩
set_option maxHeartbeats 4000000 in
theorem gH {x0:QWriter} {x1:Int} {s1:SV} {b0:Nat} {out:QWriter} {w0:World} {Lr:List Res} (hP:Sh.fX x0 x1 = some out) (hM:MemL w0 (pt b0 (RWriter.enc (RWriter.mk s1)) 167 :: fowL 5 s1 x0.b :: Lr)):Calls Tryz.prog 179 #[.pointer (some ⟨b0,0,none⟩),.int .i64 x1] w0 (Ret fun v w'=>∃ (s7:SV),v = .tuple #[] ∧ MemL w' (pt b0 (RWriter.enc (RWriter.mk s7)) 167 :: fowL 5 s7 out.b :: Lr)):=by
 unfold Sh.fX at hP
 refine aM (vs:=[.pointer (some ⟨b0,0,none⟩),.int .i64 x1]) Tryz.func179 rfl Tryz.ntmps179 rfl fun a hF=>?_
 refine aC ?_
 refine aA hF (aF hF rfl rfl) rfl rfl rfl fun a hF=>?_
 refine aA hF (aF hF rfl rfl) rfl rfl rfl fun a hF=>?_
 obtain ⟨y10,hy10,hP⟩:=bind_some hP
 refine aN hF rfl rfl rfl (aO (xs:=[.tmp 4,.tmp 5,.const (.int .i64 (8))]) Tryz.call176 hF rfl rfl (eP hy10 hM ) fun v w hR=>?_)
 obtain ⟨s11,rfl,hM⟩:=hR
 replace hM:MemL _ (pt b0 (RWriter.enc (RWriter.mk s11)) 167 :: fowL 5 s11 y10.b :: Lr):=hM
 intro a hF
 refine aI ?_
 have hP:=Option.some.inj hP
 subst hP
 refine eI Tryz.results179 hF ?_
 exact ⟨s11,rfl,hM⟩
set_option maxHeartbeats 4000000 in
theorem eW {x0:QWriter} {x1:LVal} {s1:SV} {b0:Nat} {out:QWriter} {w0:World} {Lr:List Res} (hP:Sh.eO x0 x1 = some out) (hM:MemL w0 (pt b0 (RWriter.enc (RWriter.mk s1)) 167 :: fowL 5 s1 x0.b :: Lr)):Calls Tryz.prog 177 #[.pointer (some ⟨b0,0,none⟩),.agg (LVal.enc x1).toArray] w0 (Ret fun v w'=>∃ (s42:SV),v = .tuple #[] ∧ MemL w' (pt b0 (RWriter.enc (RWriter.mk s42)) 167 :: fowL 5 s42 out.b :: Lr)):=by
 unfold Sh.eO at hP
 refine aM (vs:=[.pointer (some ⟨b0,0,none⟩),.agg (LVal.enc x1).toArray]) Tryz.func177 rfl Tryz.ntmps177 rfl fun a hF=>?_
 refine aH ?_
 refine aC ?_
 refine aN hF rfl rfl rfl (dD hF rfl rfl rfl fun c0 w c2 c1=>?_)
 have hM:=hM.plus c1
 replace hM:MemL _ (pt c0 (LVal.enc x1) 46 :: pt b0 (RWriter.enc (RWriter.mk s1)) 167 :: fowL 5 s1 x0.b :: Lr):=hM
 intro a hF
 refine aI (aB ?_)
 refine aH ?_
 refine aC ?_
 refine aA hF (aF hF rfl rfl) rfl rfl rfl fun a hF=>?_
 refine aA hF (aD (off':=0) Tryz.underlying46 rfl in3 rfl hF rfl rfl rfl) rfl rfl rfl fun a hF=>?_
 refine aA hF (aJ Tryz.isAgg3 hF rfl rfl (hM.cell (i:=0) rfl (LVal.g_kind _))) rfl rfl rfl fun a hF=>?_
 obtain ⟨y45,hy45,hP⟩:=bind_some hP
 refine aN hF rfl rfl rfl (aO (xs:=[.tmp 4,.tmp 6]) Tryz.call102 hF rfl rfl (bR hy45 (selM hM [1,2,0] 3 rfl) ) fun v w hR=>?_)
 obtain ⟨s46,rfl,hM⟩:=hR
 replace hM:MemL _ (pt b0 (RWriter.enc (RWriter.mk s46)) 167 :: fowL 5 s46 y45.b :: pt c0 (LVal.enc x1) 46 :: Lr):=hM
 intro a hF
 refine aI (aB ?_)
 refine aH ?_
 refine aS hF hM hP (fun F x a w=>match x with | v66=>∃ (s67:SV),Fr 26 [(0,.pointer (some ⟨b0,0,none⟩)),(3,.pointer (some ⟨c0,0,none⟩))] a ∧ MemL w (pt b0 (RWriter.enc (RWriter.mk s67)) 167 :: fowL 5 s67 v66.b :: pt c0 (LVal.enc x1) 46 :: Lr)) (fun c4 hP c3 hF hM=>?_) ?_
 ·refine aH ?_
  refine aC ?_
  refine aA hF (aD (off':=0) Tryz.underlying46 rfl in3 rfl hF rfl rfl rfl) rfl rfl rfl fun a hF=>?_
  refine aA hF (aJ Tryz.isAgg3 hF rfl rfl (hM.cell (i:=2) rfl (LVal.g_kind _))) rfl rfl rfl fun a hF=>?_
  refine aA hF (cE hF rfl rfl rfl) rfl rfl rfl fun a hF=>?_
  refine aI (aB ?_)
  refine aR hF (c:=.tmp 10) rfl (fun hb69=>?_) (fun hb69=>?_)
  ·have hP:=Fx.cT hb69 hP
   refine aH ?_
   refine aC ?_
   refine aA hF (aF hF rfl rfl) rfl rfl rfl fun a hF=>?_
   refine aA hF (aD (off':=1) Tryz.underlying46 rfl in3 rfl hF rfl rfl rfl) rfl rfl rfl fun a hF=>?_
   refine aA hF (aJ Tryz.isAgg3 hF rfl rfl (hM.cell (i:=2) rfl (LVal.g_table _))) rfl rfl rfl fun a hF=>?_
   obtain ⟨y71,hy71,hP⟩:=bind_some hP
   refine aN hF rfl rfl rfl (aO (xs:=[.tmp 11,.tmp 13]) Tryz.call102 hF rfl rfl (bR hy71 hM ) fun v w hR=>?_)
   obtain ⟨s72,rfl,hM⟩:=hR
   replace hM:MemL _ (pt b0 (RWriter.enc (RWriter.mk s72)) 167 :: fowL 5 s72 y71.b :: pt c0 (LVal.enc x1) 46 :: Lr):=hM
   intro a hF
   refine aI (aB ?_)
   refine aC ?_
   refine aA hF (aF hF rfl rfl) rfl rfl rfl fun a hF=>?_
   refine aA hF (aD (off':=2) Tryz.underlying46 rfl in3 rfl hF rfl rfl rfl) rfl rfl rfl fun a hF=>?_
   refine aA hF (aJ Tryz.isAgg3 hF rfl rfl (hM.cell (i:=2) rfl (LVal.g_row _))) rfl rfl rfl fun a hF=>?_
   obtain ⟨y75,hy75,hP⟩:=bind_some hP
   refine aN hF rfl rfl rfl (aO (xs:=[.tmp 15,.tmp 17]) Tryz.call102 hF rfl rfl (bR hy75 hM ) fun v w hR=>?_)
   obtain ⟨s76,rfl,hM⟩:=hR
   replace hM:MemL _ (pt b0 (RWriter.enc (RWriter.mk s76)) 167 :: fowL 5 s76 y75.b :: pt c0 (LVal.enc x1) 46 :: Lr):=hM
   intro a hF
   refine aI (aB ?_)
   have hP:=Option.some.inj hP
   subst hP
   exact ⟨y75,rfl,s76,hF.to ⟨rfl,rfl,trivial⟩,hM⟩
  have hP:=Fx.cF hb69 hP
  refine aT (aB ?_)
  have hP:=Option.some.inj hP
  subst hP
  exact ⟨y45,rfl,s46,hF.to ⟨rfl,rfl,trivial⟩,hM⟩
 rintro v66 a w hP ⟨s67,hF,hM⟩
 replace hP:Sh.eI x1 v66 = _:=hP
 unfold Sh.eI at hP
 refine aB ?_
 refine aH ?_
 refine aC ?_
 refine aA hF (aD (off':=0) Tryz.underlying46 rfl in3 rfl hF rfl rfl rfl) rfl rfl rfl fun a hF=>?_
 refine aA hF (aJ Tryz.isAgg3 hF rfl rfl (hM.cell (i:=2) rfl (LVal.g_kind _))) rfl rfl rfl fun a hF=>?_
 refine aA hF (cW hF rfl rfl rfl) rfl rfl rfl fun a hF=>?_
 refine aI (aB ?_)
 refine aR hF (c:=.tmp 21) rfl (fun hb78=>?_) (fun hb78=>?_)
 ·have hP:=Fx.cT hb78 hP
  refine aC ?_
  refine aA hF (aF hF rfl rfl) rfl rfl rfl fun a hF=>?_
  refine aA hF (aD (off':=3) Tryz.underlying46 rfl in3 rfl hF rfl rfl rfl) rfl rfl rfl fun a hF=>?_
  refine aA hF (aJ Tryz.isAgg3 hF rfl rfl (hM.cell (i:=2) rfl (LVal.g_x _))) rfl rfl rfl fun a hF=>?_
  obtain ⟨y80,hy80,hP⟩:=bind_some hP
  refine aN hF rfl rfl rfl (aO (xs:=[.tmp 22,.tmp 24]) Tryz.call179 hF rfl rfl (gH hy80 hM ) fun v w hR=>?_)
  obtain ⟨s81,rfl,hM⟩:=hR
  replace hM:MemL _ (pt b0 (RWriter.enc (RWriter.mk s81)) 167 :: fowL 5 s81 y80.b :: pt c0 (LVal.enc x1) 46 :: Lr):=hM
  intro a hF
  refine aI ?_
  have hP:=Option.some.inj hP
  subst hP
  refine eI Tryz.results177 hF ?_
  exact ⟨s81,rfl,selM hM [0,1] 3 rfl⟩
 have hP:=Fx.cF hb78 hP
 refine aT ?_
 have hP:=Option.some.inj hP
 subst hP
 refine eI Tryz.results177 hF ?_
 exact ⟨s67,rfl,selM hM [0,1] 3 rfl⟩
set_option maxHeartbeats 4000000 in
theorem gO {x0:QWriter} {x1:LSlot} {s1:SV} {b0:Nat} {out:QWriter} {w0:World} {Lr:List Res} (hP:Sh.gT x0 x1 = some out) (hM:MemL w0 (pt b0 (RWriter.enc (RWriter.mk s1)) 167 :: fowL 5 s1 x0.b :: Lr)):Calls Tryz.prog 178 #[.pointer (some ⟨b0,0,none⟩),.agg (LSlot.enc x1).toArray] w0 (Ret fun v w'=>∃ (s95:SV),v = .tuple #[] ∧ MemL w' (pt b0 (RWriter.enc (RWriter.mk s95)) 167 :: fowL 5 s95 out.b :: Lr)):=by
 unfold Sh.gT at hP
 refine aM (vs:=[.pointer (some ⟨b0,0,none⟩),.agg (LSlot.enc x1).toArray]) Tryz.func178 rfl Tryz.ntmps178 rfl fun a hF=>?_
 refine aH ?_
 refine aC ?_
 refine aN hF rfl rfl rfl (dD hF rfl rfl rfl fun c0 w g8 d3=>?_)
 have hM:=hM.plus d3
 replace hM:MemL _ (pt c0 (LSlot.enc x1) 50 :: pt b0 (RWriter.enc (RWriter.mk s1)) 167 :: fowL 5 s1 x0.b :: Lr):=hM
 intro a hF
 refine aI (aB ?_)
 refine aH ?_
 refine aH ?_
 refine aC ?_
 refine aA hF (aD (off':=0) Tryz.underlying50 rfl in46 rfl hF rfl rfl rfl) rfl rfl rfl fun a hF=>?_
 refine aA hF (aD (off':=0) Tryz.underlying46 rfl in3 rfl hF rfl rfl rfl) rfl rfl rfl fun a hF=>?_
 refine aA hF (aJ Tryz.isAgg3 hF rfl rfl ((hM.cells (i:=0) rfl (LSlot.c_ptr _)).get 0 (LVal.g_kind _))) rfl rfl rfl fun a hF=>?_
 refine aA hF (cW hF rfl rfl rfl) rfl rfl rfl fun a hF=>?_
 refine aI (aB ?_)
 refine aR hF (c:=.tmp 9) rfl (fun c5=>?_) (fun c5=>?_)
 ·have hP:=Fx.cT c5 hP
  refine aH ?_
  refine aC ?_
  refine aA hF (aF hF rfl rfl) rfl rfl rfl fun a hF=>?_
  refine aA hF (aD (off':=0) Tryz.underlying50 rfl in46 rfl hF rfl rfl rfl) rfl rfl rfl fun a hF=>?_
  refine aA hF (bB Tryz.isAgg46 Tryz.sizeOf46 hF rfl rfl (LVal.len _) (hM.cells (i:=0) rfl (LSlot.c_ptr _))) rfl rfl rfl fun a hF=>?_
  obtain ⟨g9,g4,hP⟩:=bind_some hP
  refine aN hF rfl rfl rfl (aO (xs:=[.tmp 10,.tmp 12]) Tryz.call177 hF rfl rfl (eW g4 (selM hM [1,2,0] 3 rfl) ) fun v w hR=>?_)
  obtain ⟨d4,rfl,hM⟩:=hR
  replace hM:MemL _ (pt b0 (RWriter.enc (RWriter.mk d4)) 167 :: fowL 5 d4 g9.b :: pt c0 (LSlot.enc x1) 50 :: Lr):=hM
  intro a hF
  refine aI (aB ?_)
  refine c_ret ?_
  have hP:=Option.some.inj hP
  subst hP
  refine aBb Tryz.results178 hF ?_
  exact ⟨d4,rfl,selM hM [0,1] 3 rfl⟩
 have hP:=Fx.cF c5 hP
 refine aT (aB ?_)
 refine aH ?_
 refine aC ?_
 refine aA hF (aF hF rfl rfl) rfl rfl rfl fun a hF=>?_
 obtain ⟨i0,g5,hP⟩:=bind_some hP
 refine aN hF rfl rfl rfl (aO (xs:=[.tmp 14,.const (.int .i64 (0))]) Tryz.call102 hF rfl rfl (bR g5 (selM hM [1,2,0] 3 rfl) ) fun v w hR=>?_)
 obtain ⟨d9,rfl,hM⟩:=hR
 replace hM:MemL _ (pt b0 (RWriter.enc (RWriter.mk d9)) 167 :: fowL 5 d9 i0.b :: pt c0 (LSlot.enc x1) 50 :: Lr):=hM
 intro a hF
 refine aI (aB ?_)
 refine aH ?_
 refine aC ?_
 refine aA hF (aF hF rfl rfl) rfl rfl rfl fun a hF=>?_
 refine aA hF (aD (off':=12) Tryz.underlying50 rfl in3 rfl hF rfl rfl rfl) rfl rfl rfl fun a hF=>?_
 refine aA hF (aJ Tryz.isAgg3 hF rfl rfl (hM.cell (i:=2) rfl (LSlot.g_mask _))) rfl rfl rfl fun a hF=>?_
 obtain ⟨i1,g6,hP⟩:=bind_some hP
 refine aN hF rfl rfl rfl (aO (xs:=[.tmp 16,.tmp 18]) Tryz.call102 hF rfl rfl (bR g6 hM ) fun v w hR=>?_)
 obtain ⟨d5,rfl,hM⟩:=hR
 replace hM:MemL _ (pt b0 (RWriter.enc (RWriter.mk d5)) 167 :: fowL 5 d5 i1.b :: pt c0 (LSlot.enc x1) 50 :: Lr):=hM
 intro a hF
 refine aI (aB ?_)
 refine aH ?_
 refine aC ?_
 refine aA hF (aD (off':=4) Tryz.underlying50 rfl in48 rfl hF rfl rfl rfl) rfl rfl rfl fun a hF=>?_
 refine aA hF (bB Tryz.isAgg48 Tryz.sizeOf48 hF rfl rfl (bA _) (hM.cells (i:=2) rfl (LSlot.c_bytes _))) rfl rfl rfl fun a hF=>?_
 refine aA hF (aF hF rfl rfl) rfl rfl rfl fun a hF=>?_
 refine aI (aB ?_)
 refine aV ?_
 refine bN hF hM hP (fun F x a w=>match x with | (c4,c3)=>∃ (c2:SV),Fr 43 [(22,.int .i64 c3),(0,.pointer (some ⟨b0,0,none⟩)),(21,.agg (encs x1.bytes.l).toArray),(3,.pointer (some ⟨c0,0,none⟩))] a ∧ MemL w (pt b0 (RWriter.enc (RWriter.mk c2)) 167 :: fowL 5 c2 c4.b :: pt c0 (LSlot.enc x1) 50 :: Lr)) (fun hF hM=>⟨d5,hF.to ⟨rfl,rfl,rfl,rfl,trivial⟩,hM⟩) ?_
 rintro ⟨c4,c3⟩ a w i4 hP g0 ⟨c2,hF,hM⟩
 replace hP:Sh.cB x1 c4 c3 = _:=hP
 unfold Sh.cB at hP
 refine aH ?_
 refine aC ?_
 refine aA hF (cH hF rfl rfl rfl) rfl rfl rfl fun a hF=>?_
 refine aI (aB ?_)
 refine aH ?_
 refine aR hF (c:=.tmp 23) rfl (fun c6=>?_) (fun c6=>?_)
 ·have hP:=Fx.cT c6 hP
  refine aT (aB ?_)
  refine aH ?_
  refine aS hF hM hP (fun F x a w=>match x with | d0=>∃ (c8:SV),Fr 43 [(0,.pointer (some ⟨b0,0,none⟩)),(21,.agg (encs x1.bytes.l).toArray),(22,.int .i64 c3),(3,.pointer (some ⟨c0,0,none⟩))] a ∧ MemL w (pt b0 (RWriter.enc (RWriter.mk c8)) 167 :: fowL 5 c8 d0.b :: pt c0 (LSlot.enc x1) 50 :: Lr)) (fun i3 hP i2 hF hM=>?_) ?_
  ·refine aV ?_
   refine aH ?_
   refine aC ?_
   refine aA hF (aF hF rfl rfl) rfl rfl rfl fun a hF=>?_
   obtain ⟨d1,d7,hP⟩:=bind_some hP
   refine aA hF (pJ Tryz.underlying48 Tryz.sizeOf5 Tryz.isAgg5 hF rfl rfl rfl (eL d7) (qX (aW d7).2 rfl)) rfl rfl rfl fun a hF=>?_
   refine aA hF (aG hF rfl rfl) rfl rfl rfl fun a hF=>?_
   refine aA hF (aG hF rfl rfl) rfl rfl rfl fun a hF=>?_
   refine aI (aB ?_)
   refine aH ?_
   refine aC ?_
   refine aA hF (aD (off':=12) Tryz.underlying50 rfl in3 rfl hF rfl rfl rfl) rfl rfl rfl fun a hF=>?_
   refine aA hF (aJ Tryz.isAgg3 hF rfl rfl (hM.cell (i:=2) rfl (LSlot.g_mask _))) rfl rfl rfl fun a hF=>?_
   refine aA hF (aF hF rfl rfl) rfl rfl rfl fun a hF=>?_
   obtain ⟨g2,hP⟩:=gA hP
   refine aA hF (nU hF rfl rfl rfl (of_decide_eq_true g2)) rfl rfl rfl fun a hF=>?_
   refine aA hF (pH hF rfl rfl rfl) rfl rfl rfl fun a hF=>?_
   refine aA hF (cE hF rfl rfl rfl) rfl rfl rfl fun a hF=>?_
   refine aI (aB ?_)
   refine aR hF (c:=.tmp 31) rfl (fun c7=>?_) (fun c7=>?_)
   ·have hP:=Fx.cT c7 hP
    refine aC ?_
    refine aA hF (aF hF rfl rfl) rfl rfl rfl fun a hF=>?_
    refine aA hF (aF hF rfl rfl) rfl rfl rfl fun a hF=>?_
    refine aA hF (aX hF rfl rfl) rfl rfl rfl fun a hF=>?_
    refine aA hF (aD (off':=0) Tryz.underlying167 rfl in23 rfl hF rfl rfl rfl) rfl rfl rfl fun a hF=>?_
    refine aA hF (aJ Tryz.isAgg23 hF rfl rfl (hM.cell (i:=0) rfl (RWriter.g_b _))) rfl rfl rfl fun a hF=>?_
    refine aA hF (aF hF rfl rfl) rfl rfl rfl fun a hF=>?_
    refine aN hF rfl rfl rfl (cY (X:=UInt8) (y:=d1) Tryz.underlying23 in5 rfl rfl rfl rfl hF rfl rfl rfl fun c1 w g7 d2=>?_)
    have hM:=hM.plus d2
    replace hM:MemL _ (pt c1 (encs ([d1]:List UInt8)) 5 :: pt b0 (RWriter.enc (RWriter.mk c2)) 167 :: fowL 5 c2 c4.b :: pt c0 (LSlot.enc x1) 50 :: Lr):=hM
    intro a hF
    obtain ⟨d6,g3,hP⟩:=bind_some hP
    refine aN hF rfl rfl rfl (nO g3 Tryz.underlying23 in5 rfl rfl rfl rfl hF rfl rfl rfl (hM.hold 2 _ rfl) (hM.ptS (X:=UInt8) (i:=0) (n:=1) (c:=1) rfl rfl rfl (Nat.le_refl _)) fun c9 w d8=>?_)
    have hM:=hM.chg d8 (i:=2) rfl
    replace hM:MemL _ (pt c1 (encs ([d1]:List UInt8)) 5 :: pt b0 (RWriter.enc (RWriter.mk c2)) 167 :: fowL 5 c9 d6 :: pt c0 (LSlot.enc x1) 50 :: Lr):=hM
    intro a hF
    refine aA hF (aX hF rfl rfl) rfl rfl rfl fun a hF=>?_
    refine aA hF (aD (off':=0) Tryz.underlying167 rfl in23 rfl hF rfl rfl rfl) rfl rfl rfl fun a hF=>?_
    refine bO rfl rfl (bZ Tryz.sizeOf23 (hM.obj (i:=1) rfl) hF rfl rfl rfl rfl (by rw [RWriter.len]; decide) (RWriter.s_b _ _) fun w g1=>?_)
    have hM:=hM.chg g1 (i:=1) rfl
    replace hM:MemL _ (pt c1 (encs ([d1]:List UInt8)) 5 :: pt b0 (RWriter.enc (RWriter.mk c9)) 167 :: fowL 5 c9 d6 :: pt c0 (LSlot.enc x1) 50 :: Lr):=hM
    refine aI (bI (aB ?_))
    have hP:=Option.some.inj hP
    subst hP
    exact ⟨(QWriter.mk d6),rfl,c9,hF.to ⟨rfl,rfl,rfl,rfl,trivial⟩,selM hM [1,2,3] 4 rfl⟩
   have hP:=Fx.cF c7 hP
   refine aT (bI (aB ?_))
   have hP:=Option.some.inj hP
   subst hP
   exact ⟨c4,rfl,c2,hF.to ⟨rfl,rfl,rfl,rfl,trivial⟩,hM⟩
  rintro d0 a w hP ⟨c8,hF,hM⟩
  replace hP:Sh.gJ c3 d0 = _:=hP
  unfold Sh.gJ at hP
  refine aB ?_
  refine aC ?_
  refine aA hF (cA hF rfl rfl rfl) rfl rfl rfl fun a hF=>?_
  refine aA hF (aF hF rfl rfl) rfl rfl rfl fun a hF=>?_
  refine aI (aB ?_)
  have hP:=Option.some.inj hP
  subst hP
  exact ⟨(d0,(IntKind.i64.wrap (c3 + 1))),rfl,c8,hF.to ⟨rfl,rfl,rfl,rfl,trivial⟩,hM⟩
 have hP:=Fx.cF c6 hP
 refine bW (bD (bD (cG ?_)))
 have hP:=Option.some.inj hP
 subst hP
 have hP:=g0 _ rfl
 subst hP
 refine eI Tryz.results178 hF ?_
 exact ⟨c2,rfl,selM hM [0,1] 3 rfl⟩
set_option maxHeartbeats 4000000 in
theorem jY {x0:QWriter} {x1:QMark} {s1:SV} {b0:Nat} {s3:SV} {s5:SV} {s7:SV} {hs8:List RPiece} {s11:SV} {out:QWriter} {w0:World} {Bf:World → Prop} {Lr:List Res} (hP:Sh.hU x0 x1 = some out) (hM:MemL w0 (pt b0 (RWriter.enc (RWriter.mk s1)) 167 :: fowL 5 s1 x0.b :: Lr)) (hsub:∀ w,MemL w Lr → Bf w) (f4:LIn Bf s3 x1.regs) (f6:LIn Bf s5 x1.slots) (f9:LIn Bf s7 hs8) (q10:Each (QPieceIn Bf) hs8 x1.pieces) (f12:LIn Bf s11 x1.sent):Calls Tryz.prog 104 #[.pointer (some ⟨b0,0,none⟩),.agg (RMark.enc (RMark.mk x1.at_ x1.next x1.done s3 s5 s7 s11)).toArray] w0 (Ret fun v w'=>∃ (k5:SV),v = .tuple #[] ∧ MemL w' (pt b0 (RWriter.enc (RWriter.mk k5)) 167 :: fowL 5 k5 out.b :: Lr)):=by
 unfold Sh.hU at hP
 refine aM (vs:=[.pointer (some ⟨b0,0,none⟩),.agg (RMark.enc (RMark.mk x1.at_ x1.next x1.done s3 s5 s7 s11)).toArray]) Tryz.func104 rfl Tryz.ntmps104 rfl fun a hF=>?_
 refine aH ?_
 refine aC ?_
 refine aN hF rfl rfl rfl (dD hF rfl rfl rfl fun c0 w z2 k0=>?_)
 have hM:=hM.plus k0
 replace hM:MemL _ (pt c0 (RMark.enc (RMark.mk x1.at_ x1.next x1.done s3 s5 s7 s11)) 60 :: pt b0 (RWriter.enc (RWriter.mk s1)) 167 :: fowL 5 s1 x0.b :: Lr):=hM
 intro a hF
 refine aI (aB ?_)
 refine aH ?_
 refine aC ?_
 refine aA hF (aF hF rfl rfl) rfl rfl rfl fun a hF=>?_
 refine aA hF (aD (off':=0) Tryz.underlying60 rfl in3 rfl hF rfl rfl rfl) rfl rfl rfl fun a hF=>?_
 refine aA hF (aJ Tryz.isAgg3 hF rfl rfl (hM.cell (i:=0) rfl (RMark.g_at_ _))) rfl rfl rfl fun a hF=>?_
 obtain ⟨t9,n4,hP⟩:=bind_some hP
 refine aN hF rfl rfl rfl (aO (xs:=[.tmp 12,.tmp 14]) Tryz.call101 hF rfl rfl (dR n4 (selM hM [1,2,0] 3 rfl) ) fun v w hR=>?_)
 obtain ⟨k6,rfl,hM⟩:=hR
 replace hM:MemL _ (pt b0 (RWriter.enc (RWriter.mk k6)) 167 :: fowL 5 k6 t9.b :: pt c0 (RMark.enc (RMark.mk x1.at_ x1.next x1.done s3 s5 s7 s11)) 60 :: Lr):=hM
 intro a hF
 refine aI (aB ?_)
 refine aH ?_
 refine aC ?_
 refine aA hF (aF hF rfl rfl) rfl rfl rfl fun a hF=>?_
 refine aA hF (aD (off':=1) Tryz.underlying60 rfl in3 rfl hF rfl rfl rfl) rfl rfl rfl fun a hF=>?_
 refine aA hF (aJ Tryz.isAgg3 hF rfl rfl (hM.cell (i:=2) rfl (RMark.g_next _))) rfl rfl rfl fun a hF=>?_
 obtain ⟨u0,n5,hP⟩:=bind_some hP
 refine aN hF rfl rfl rfl (aO (xs:=[.tmp 16,.tmp 18]) Tryz.call101 hF rfl rfl (dR n5 hM ) fun v w hR=>?_)
 obtain ⟨k7,rfl,hM⟩:=hR
 replace hM:MemL _ (pt b0 (RWriter.enc (RWriter.mk k7)) 167 :: fowL 5 k7 u0.b :: pt c0 (RMark.enc (RMark.mk x1.at_ x1.next x1.done s3 s5 s7 s11)) 60 :: Lr):=hM
 intro a hF
 refine aI (aB ?_)
 refine aH ?_
 refine aS hF hM hP (fun F x a w=>match x with | j0=>∃ (g7:SV),Fr 132 [(0,.pointer (some ⟨b0,0,none⟩)),(3,.pointer (some ⟨c0,0,none⟩))] a ∧ MemL w (pt b0 (RWriter.enc (RWriter.mk g7)) 167 :: fowL 5 g7 j0.b :: pt c0 (RMark.enc (RMark.mk x1.at_ x1.next x1.done s3 s5 s7 s11)) 60 :: Lr)) (fun c12 hP z7 hF hM=>?_) ?_
 ·refine aH ?_
  refine aC ?_
  refine aA hF (aD (off':=2) Tryz.underlying60 rfl in4 rfl hF rfl rfl rfl) rfl rfl rfl fun a hF=>?_
  refine aA hF (aJ Tryz.isAgg4 hF rfl rfl (hM.cell (i:=2) rfl (RMark.g_done _))) rfl rfl rfl fun a hF=>?_
  refine aI (aB ?_)
  refine aR hF (c:=.tmp 21) rfl (fun g2=>?_) (fun g2=>?_)
  ·have hP:=Fx.cT g2 hP
   refine aC ?_
   refine aA hF (aF hF rfl rfl) rfl rfl rfl fun a hF=>?_
   obtain ⟨l4,n6,hP⟩:=bind_some hP
   refine aN hF rfl rfl rfl (aO (xs:=[.tmp 22,.const (.int .i64 (1))]) Tryz.call102 hF rfl rfl (bR n6 hM ) fun v w hR=>?_)
   obtain ⟨g8,rfl,hM⟩:=hR
   replace hM:MemL _ (pt b0 (RWriter.enc (RWriter.mk g8)) 167 :: fowL 5 g8 l4.b :: pt c0 (RMark.enc (RMark.mk x1.at_ x1.next x1.done s3 s5 s7 s11)) 60 :: Lr):=hM
   intro a hF
   refine aI (aB ?_)
   have hP:=Option.some.inj hP
   subst hP
   exact ⟨l4,rfl,g8,hF.to ⟨rfl,rfl,trivial⟩,hM⟩
  have hP:=Fx.cF g2 hP
  refine aC ?_
  refine aA hF (aF hF rfl rfl) rfl rfl rfl fun a hF=>?_
  obtain ⟨l5,n7,hP⟩:=bind_some hP
  refine aN hF rfl rfl rfl (aO (xs:=[.tmp 24,.const (.int .i64 (0))]) Tryz.call102 hF rfl rfl (bR n7 hM ) fun v w hR=>?_)
  obtain ⟨g9,rfl,hM⟩:=hR
  replace hM:MemL _ (pt b0 (RWriter.enc (RWriter.mk g9)) 167 :: fowL 5 g9 l5.b :: pt c0 (RMark.enc (RMark.mk x1.at_ x1.next x1.done s3 s5 s7 s11)) 60 :: Lr):=hM
  intro a hF
  refine aI (aB ?_)
  have hP:=Option.some.inj hP
  subst hP
  exact ⟨l5,rfl,g9,hF.to ⟨rfl,rfl,trivial⟩,hM⟩
 rintro j0 a w hP ⟨g7,hF,hM⟩
 replace hP:Sh.fC x1 j0 = _:=hP
 unfold Sh.fC at hP
 refine aB ?_
 refine aH ?_
 refine aC ?_
 refine aA hF (aF hF rfl rfl) rfl rfl rfl fun a hF=>?_
 refine aA hF (aD (off':=3) Tryz.underlying60 rfl in56 rfl hF rfl rfl rfl) rfl rfl rfl fun a hF=>?_
 refine aA hF (aJ Tryz.isAgg56 hF rfl rfl (hM.cell (i:=2) rfl (RMark.g_regs _))) rfl rfl rfl fun a hF=>?_
 refine aA hF (bG (f4 _ (hsub _ (dropM hM 3))) Tryz.underlying56 hF rfl rfl) rfl rfl rfl fun a hF=>?_
 obtain ⟨u1,n8,hP⟩:=bind_some hP
 refine aN hF rfl rfl rfl (aO (xs:=[.tmp 26,.tmp 29]) Tryz.call102 hF rfl rfl (bR n8 hM ) fun v w hR=>?_)
 obtain ⟨i0,rfl,hM⟩:=hR
 replace hM:MemL _ (pt b0 (RWriter.enc (RWriter.mk i0)) 167 :: fowL 5 i0 u1.b :: pt c0 (RMark.enc (RMark.mk x1.at_ x1.next x1.done s3 s5 s7 s11)) 60 :: Lr):=hM
 intro a hF
 refine aI (aB ?_)
 refine aH ?_
 refine aS hF hM hP (fun F x a w=>match x with | j1=>∃ (i1:SV),Fr 132 [(0,.pointer (some ⟨b0,0,none⟩)),(3,.pointer (some ⟨c0,0,none⟩))] a ∧ MemL w (pt b0 (RWriter.enc (RWriter.mk i1)) 167 :: fowL 5 i1 j1.b :: pt c0 (RMark.enc (RMark.mk x1.at_ x1.next x1.done s3 s5 s7 s11)) 60 :: Lr)) (fun c13 hP z8 hF hM=>?_) ?_
 ·refine aH ?_
  refine aC ?_
  refine aA hF (aD (off':=3) Tryz.underlying60 rfl in56 rfl hF rfl rfl rfl) rfl rfl rfl fun a hF=>?_
  refine aA hF (aJ Tryz.isAgg56 hF rfl rfl (hM.cell (i:=2) rfl (RMark.g_regs _))) rfl rfl rfl fun a hF=>?_
  refine aA hF (bG (f4 _ (hsub _ (dropM hM 3))) Tryz.underlying56 hF rfl rfl) rfl rfl rfl fun a hF=>?_
  refine aA hF (aF hF rfl rfl) rfl rfl rfl fun a hF=>?_
  refine aI (aB ?_)
  refine aV ?_
  refine bN hF hM hP (fun F x a w=>match x with | (d0,d6)=>∃ (c5:SV),Fr 132 [(34,.int .i64 d6),(0,.pointer (some ⟨b0,0,none⟩)),(3,.pointer (some ⟨c0,0,none⟩)),(32,(s3).v),(33,.int .i64 (x1.regs.length:Int))] a ∧ MemL w (pt b0 (RWriter.enc (RWriter.mk c5)) 167 :: fowL 5 c5 d0.b :: pt c0 (RMark.enc (RMark.mk x1.at_ x1.next x1.done s3 s5 s7 s11)) 60 :: Lr)) (fun hF hM=>⟨i0,hF.to ⟨rfl,rfl,rfl,rfl,rfl,trivial⟩,hM⟩) ?_
  rintro ⟨d0,d6⟩ a w c16 hP t3 ⟨c5,hF,hM⟩
  replace hP:Sh.cM x1 d0 d6 = _:=hP
  unfold Sh.cM at hP
  refine aH ?_
  refine aC ?_
  refine aA hF (cH hF rfl rfl rfl) rfl rfl rfl fun a hF=>?_
  refine aI (aB ?_)
  refine aH ?_
  refine aR hF (c:=.tmp 35) rfl (fun g3=>?_) (fun g3=>?_)
  ·have hP:=Fx.cT g3 hP
   refine aT (aB ?_)
   refine aH ?_
   refine aV ?_
   refine aH ?_
   refine aC ?_
   obtain ⟨g0,j6,hP⟩:=bind_some hP
   have l9:=aW j6
   refine aA hF (bC (sz:=9) (f4 _ (hsub _ (dropM hM 3))) Tryz.underlying56 in128 rfl hF rfl rfl rfl (bK j6)) rfl rfl rfl fun a hF=>?_
   refine aA hF (bB Tryz.isAgg128 Tryz.sizeOf128 hF rfl rfl (LTurn.len _) (((f4 _ (hsub _ (dropM hM 3))).elemS l9.2))) rfl rfl rfl fun a hF=>?_
   refine aN hF rfl rfl rfl (cB z128 (zs:=LTurn.zero.enc) rfl rfl fun c3 w z3 k1=>?_)
   have hM:=hM.plus k1
   replace hM:MemL _ (pt c3 (LTurn.enc LTurn.zero) 128 :: pt b0 (RWriter.enc (RWriter.mk c5)) 167 :: fowL 5 c5 d0.b :: pt c0 (RMark.enc (RMark.mk x1.at_ x1.next x1.done s3 s5 s7 s11)) 60 :: Lr):=hM
   intro a hF
   refine bO rfl rfl (bL (vs:=_) Tryz.sizeOf128 (hM.obj (i:=0) rfl) hF rfl rfl rfl rfl (LTurn.len _) (LTurn.one _) (by first | (rw [LTurn.len,LTurn.len]; decide) | (rw [LTurn.len]; decide)) (bU ((LTurn.len _).trans (LTurn.len _).symm)) fun w m8=>?_)
   have hM:=hM.chg m8 (i:=0) rfl
   replace hM:MemL _ (pt c3 (LTurn.enc g0) 128 :: pt b0 (RWriter.enc (RWriter.mk c5)) 167 :: fowL 5 c5 d0.b :: pt c0 (RMark.enc (RMark.mk x1.at_ x1.next x1.done s3 s5 s7 s11)) 60 :: Lr):=hM
   refine aI (aB ?_)
   refine aH ?_
   refine aC ?_
   refine aA hF (aF hF rfl rfl) rfl rfl rfl fun a hF=>?_
   refine aA hF (aD (off':=0) Tryz.underlying128 rfl in3 rfl hF rfl rfl rfl) rfl rfl rfl fun a hF=>?_
   refine aA hF (aJ Tryz.isAgg3 hF rfl rfl (hM.cell (i:=0) rfl (LTurn.g_reg _))) rfl rfl rfl fun a hF=>?_
   obtain ⟨u2,n9,hP⟩:=bind_some hP
   refine aN hF rfl rfl rfl (aO (xs:=[.tmp 38,.tmp 40]) Tryz.call102 hF rfl rfl (bR n9 (selM hM [1,2,0,3] 4 rfl) ) fun v w hR=>?_)
   obtain ⟨k8,rfl,hM⟩:=hR
   replace hM:MemL _ (pt b0 (RWriter.enc (RWriter.mk k8)) 167 :: fowL 5 k8 u2.b :: pt c3 (LTurn.enc g0) 128 :: pt c0 (RMark.enc (RMark.mk x1.at_ x1.next x1.done s3 s5 s7 s11)) 60 :: Lr):=hM
   intro a hF
   refine aI (aB ?_)
   refine aH ?_
   refine aC ?_
   refine aA hF (aF hF rfl rfl) rfl rfl rfl fun a hF=>?_
   refine aA hF (aD (off':=1) Tryz.underlying128 rfl in46 rfl hF rfl rfl rfl) rfl rfl rfl fun a hF=>?_
   refine aA hF (bB Tryz.isAgg46 Tryz.sizeOf46 hF rfl rfl (LVal.len _) (hM.cells (i:=2) rfl (LTurn.c_old _))) rfl rfl rfl fun a hF=>?_
   obtain ⟨u3,p0,hP⟩:=bind_some hP
   refine aN hF rfl rfl rfl (aO (xs:=[.tmp 42,.tmp 44]) Tryz.call177 hF rfl rfl (eW p0 hM ) fun v w hR=>?_)
   obtain ⟨k9,rfl,hM⟩:=hR
   replace hM:MemL _ (pt b0 (RWriter.enc (RWriter.mk k9)) 167 :: fowL 5 k9 u3.b :: pt c3 (LTurn.enc g0) 128 :: pt c0 (RMark.enc (RMark.mk x1.at_ x1.next x1.done s3 s5 s7 s11)) 60 :: Lr):=hM
   intro a hF
   refine aI (aB ?_)
   refine aC ?_
   refine aA hF (aF hF rfl rfl) rfl rfl rfl fun a hF=>?_
   refine aA hF (aD (off':=5) Tryz.underlying128 rfl in46 rfl hF rfl rfl rfl) rfl rfl rfl fun a hF=>?_
   refine aA hF (bB Tryz.isAgg46 Tryz.sizeOf46 hF rfl rfl (LVal.len _) (hM.cells (i:=2) rfl (LTurn.c_new _))) rfl rfl rfl fun a hF=>?_
   obtain ⟨l6,p1,hP⟩:=bind_some hP
   refine aN hF rfl rfl rfl (aO (xs:=[.tmp 46,.tmp 48]) Tryz.call177 hF rfl rfl (eW p1 hM ) fun v w hR=>?_)
   obtain ⟨i2,rfl,hM⟩:=hR
   replace hM:MemL _ (pt b0 (RWriter.enc (RWriter.mk i2)) 167 :: fowL 5 i2 l6.b :: pt c3 (LTurn.enc g0) 128 :: pt c0 (RMark.enc (RMark.mk x1.at_ x1.next x1.done s3 s5 s7 s11)) 60 :: Lr):=hM
   intro a hF
   refine aI (bI (aB ?_))
   refine aC ?_
   refine aA hF (cA hF rfl rfl rfl) rfl rfl rfl fun a hF=>?_
   refine aA hF (aF hF rfl rfl) rfl rfl rfl fun a hF=>?_
   refine aI (aB ?_)
   have hP:=Option.some.inj hP
   subst hP
   exact ⟨(l6,(IntKind.i64.wrap (d6 + 1))),rfl,i2,hF.to ⟨rfl,rfl,rfl,rfl,rfl,trivial⟩,selM hM [0,1,3] 4 rfl⟩
  have hP:=Fx.cF g3 hP
  refine bW (bD (bD (cG ?_)))
  refine aB ?_
  have hP:=Option.some.inj hP
  subst hP
  have hP:=t3 _ rfl
  subst hP
  exact ⟨d0,rfl,c5,hF.to ⟨rfl,rfl,trivial⟩,hM⟩
 rintro j1 a w hP ⟨i1,hF,hM⟩
 replace hP:Sh.iC x1 j1 = _:=hP
 unfold Sh.iC at hP
 refine aB ?_
 refine aH ?_
 refine aC ?_
 refine aA hF (aF hF rfl rfl) rfl rfl rfl fun a hF=>?_
 refine aA hF (aD (off':=4) Tryz.underlying60 rfl in57 rfl hF rfl rfl rfl) rfl rfl rfl fun a hF=>?_
 refine aA hF (aJ Tryz.isAgg57 hF rfl rfl (hM.cell (i:=2) rfl (RMark.g_slots _))) rfl rfl rfl fun a hF=>?_
 refine aA hF (bG (f6 _ (hsub _ (dropM hM 3))) Tryz.underlying57 hF rfl rfl) rfl rfl rfl fun a hF=>?_
 obtain ⟨u4,p2,hP⟩:=bind_some hP
 refine aN hF rfl rfl rfl (aO (xs:=[.tmp 51,.tmp 54]) Tryz.call102 hF rfl rfl (bR p2 hM ) fun v w hR=>?_)
 obtain ⟨i3,rfl,hM⟩:=hR
 replace hM:MemL _ (pt b0 (RWriter.enc (RWriter.mk i3)) 167 :: fowL 5 i3 u4.b :: pt c0 (RMark.enc (RMark.mk x1.at_ x1.next x1.done s3 s5 s7 s11)) 60 :: Lr):=hM
 intro a hF
 refine aI (aB ?_)
 refine aH ?_
 refine aS hF hM hP (fun F x a w=>match x with | j2=>∃ (i4:SV),Fr 132 [(0,.pointer (some ⟨b0,0,none⟩)),(3,.pointer (some ⟨c0,0,none⟩))] a ∧ MemL w (pt b0 (RWriter.enc (RWriter.mk i4)) 167 :: fowL 5 i4 j2.b :: pt c0 (RMark.enc (RMark.mk x1.at_ x1.next x1.done s3 s5 s7 s11)) 60 :: Lr)) (fun c14 hP z9 hF hM=>?_) ?_
 ·refine aH ?_
  refine aC ?_
  refine aA hF (aD (off':=4) Tryz.underlying60 rfl in57 rfl hF rfl rfl rfl) rfl rfl rfl fun a hF=>?_
  refine aA hF (aJ Tryz.isAgg57 hF rfl rfl (hM.cell (i:=2) rfl (RMark.g_slots _))) rfl rfl rfl fun a hF=>?_
  refine aA hF (bG (f6 _ (hsub _ (dropM hM 3))) Tryz.underlying57 hF rfl rfl) rfl rfl rfl fun a hF=>?_
  refine aA hF (aF hF rfl rfl) rfl rfl rfl fun a hF=>?_
  refine aI (aB ?_)
  refine aV ?_
  refine bN hF hM hP (fun F x a w=>match x with | (d1,d7)=>∃ (c6:SV),Fr 132 [(59,.int .i64 d7),(0,.pointer (some ⟨b0,0,none⟩)),(3,.pointer (some ⟨c0,0,none⟩)),(57,(s5).v),(58,.int .i64 (x1.slots.length:Int))] a ∧ MemL w (pt b0 (RWriter.enc (RWriter.mk c6)) 167 :: fowL 5 c6 d1.b :: pt c0 (RMark.enc (RMark.mk x1.at_ x1.next x1.done s3 s5 s7 s11)) 60 :: Lr)) (fun hF hM=>⟨i3,hF.to ⟨rfl,rfl,rfl,rfl,rfl,trivial⟩,hM⟩) ?_
  rintro ⟨d1,d7⟩ a w c17 hP t4 ⟨c6,hF,hM⟩
  replace hP:Sh.cN x1 d1 d7 = _:=hP
  unfold Sh.cN at hP
  refine aH ?_
  refine aC ?_
  refine aA hF (cH hF rfl rfl rfl) rfl rfl rfl fun a hF=>?_
  refine aI (aB ?_)
  refine aH ?_
  refine aR hF (c:=.tmp 60) rfl (fun g4=>?_) (fun g4=>?_)
  ·have hP:=Fx.cT g4 hP
   refine aT (aB ?_)
   refine aH ?_
   refine aV ?_
   refine aH ?_
   refine aC ?_
   obtain ⟨g1,j7,hP⟩:=bind_some hP
   have m0:=aW j7
   refine aA hF (bC (sz:=27) (f6 _ (hsub _ (dropM hM 3))) Tryz.underlying57 in151 rfl hF rfl rfl rfl (bK j7)) rfl rfl rfl fun a hF=>?_
   refine aA hF (bB Tryz.isAgg151 Tryz.sizeOf151 hF rfl rfl (LCell.len _) (((f6 _ (hsub _ (dropM hM 3))).elemS m0.2))) rfl rfl rfl fun a hF=>?_
   refine aN hF rfl rfl rfl (cB z151 (zs:=LCell.zero.enc) rfl rfl fun c4 w z4 k2=>?_)
   have hM:=hM.plus k2
   replace hM:MemL _ (pt c4 (LCell.enc LCell.zero) 151 :: pt b0 (RWriter.enc (RWriter.mk c6)) 167 :: fowL 5 c6 d1.b :: pt c0 (RMark.enc (RMark.mk x1.at_ x1.next x1.done s3 s5 s7 s11)) 60 :: Lr):=hM
   intro a hF
   refine bO rfl rfl (bL (vs:=_) Tryz.sizeOf151 (hM.obj (i:=0) rfl) hF rfl rfl rfl rfl (LCell.len _) (LCell.one _) (by first | (rw [LCell.len,LCell.len]; decide) | (rw [LCell.len]; decide)) (bU ((LCell.len _).trans (LCell.len _).symm)) fun w m9=>?_)
   have hM:=hM.chg m9 (i:=0) rfl
   replace hM:MemL _ (pt c4 (LCell.enc g1) 151 :: pt b0 (RWriter.enc (RWriter.mk c6)) 167 :: fowL 5 c6 d1.b :: pt c0 (RMark.enc (RMark.mk x1.at_ x1.next x1.done s3 s5 s7 s11)) 60 :: Lr):=hM
   refine aI (aB ?_)
   refine aH ?_
   refine aC ?_
   refine aA hF (aF hF rfl rfl) rfl rfl rfl fun a hF=>?_
   refine aA hF (aD (off':=0) Tryz.underlying151 rfl in3 rfl hF rfl rfl rfl) rfl rfl rfl fun a hF=>?_
   refine aA hF (aJ Tryz.isAgg3 hF rfl rfl (hM.cell (i:=0) rfl (LCell.g_slot _))) rfl rfl rfl fun a hF=>?_
   obtain ⟨u5,p3,hP⟩:=bind_some hP
   refine aN hF rfl rfl rfl (aO (xs:=[.tmp 63,.tmp 65]) Tryz.call102 hF rfl rfl (bR p3 (selM hM [1,2,0,3] 4 rfl) ) fun v w hR=>?_)
   obtain ⟨l0,rfl,hM⟩:=hR
   replace hM:MemL _ (pt b0 (RWriter.enc (RWriter.mk l0)) 167 :: fowL 5 l0 u5.b :: pt c4 (LCell.enc g1) 151 :: pt c0 (RMark.enc (RMark.mk x1.at_ x1.next x1.done s3 s5 s7 s11)) 60 :: Lr):=hM
   intro a hF
   refine aI (aB ?_)
   refine aH ?_
   refine aC ?_
   refine aA hF (aF hF rfl rfl) rfl rfl rfl fun a hF=>?_
   refine aA hF (aD (off':=1) Tryz.underlying151 rfl in50 rfl hF rfl rfl rfl) rfl rfl rfl fun a hF=>?_
   refine aA hF (bB Tryz.isAgg50 Tryz.sizeOf50 hF rfl rfl (LSlot.len _) (hM.cells (i:=2) rfl (LCell.c_old _))) rfl rfl rfl fun a hF=>?_
   obtain ⟨u6,p4,hP⟩:=bind_some hP
   refine aN hF rfl rfl rfl (aO (xs:=[.tmp 67,.tmp 69]) Tryz.call178 hF rfl rfl (gO p4 hM ) fun v w hR=>?_)
   obtain ⟨l1,rfl,hM⟩:=hR
   replace hM:MemL _ (pt b0 (RWriter.enc (RWriter.mk l1)) 167 :: fowL 5 l1 u6.b :: pt c4 (LCell.enc g1) 151 :: pt c0 (RMark.enc (RMark.mk x1.at_ x1.next x1.done s3 s5 s7 s11)) 60 :: Lr):=hM
   intro a hF
   refine aI (aB ?_)
   refine aC ?_
   refine aA hF (aF hF rfl rfl) rfl rfl rfl fun a hF=>?_
   refine aA hF (aD (off':=14) Tryz.underlying151 rfl in50 rfl hF rfl rfl rfl) rfl rfl rfl fun a hF=>?_
   refine aA hF (bB Tryz.isAgg50 Tryz.sizeOf50 hF rfl rfl (LSlot.len _) (hM.cells (i:=2) rfl (LCell.c_new _))) rfl rfl rfl fun a hF=>?_
   obtain ⟨l7,p5,hP⟩:=bind_some hP
   refine aN hF rfl rfl rfl (aO (xs:=[.tmp 71,.tmp 73]) Tryz.call178 hF rfl rfl (gO p5 hM ) fun v w hR=>?_)
   obtain ⟨i5,rfl,hM⟩:=hR
   replace hM:MemL _ (pt b0 (RWriter.enc (RWriter.mk i5)) 167 :: fowL 5 i5 l7.b :: pt c4 (LCell.enc g1) 151 :: pt c0 (RMark.enc (RMark.mk x1.at_ x1.next x1.done s3 s5 s7 s11)) 60 :: Lr):=hM
   intro a hF
   refine aI (bI (aB ?_))
   refine aC ?_
   refine aA hF (cA hF rfl rfl rfl) rfl rfl rfl fun a hF=>?_
   refine aA hF (aF hF rfl rfl) rfl rfl rfl fun a hF=>?_
   refine aI (aB ?_)
   have hP:=Option.some.inj hP
   subst hP
   exact ⟨(l7,(IntKind.i64.wrap (d7 + 1))),rfl,i5,hF.to ⟨rfl,rfl,rfl,rfl,rfl,trivial⟩,selM hM [0,1,3] 4 rfl⟩
  have hP:=Fx.cF g4 hP
  refine bW (bD (bD (cG ?_)))
  refine aB ?_
  have hP:=Option.some.inj hP
  subst hP
  have hP:=t4 _ rfl
  subst hP
  exact ⟨d1,rfl,c6,hF.to ⟨rfl,rfl,trivial⟩,hM⟩
 rintro j2 a w hP ⟨i4,hF,hM⟩
 replace hP:Sh.iD x1 j2 = _:=hP
 unfold Sh.iD at hP
 refine aB ?_
 refine aH ?_
 refine aC ?_
 refine aA hF (aF hF rfl rfl) rfl rfl rfl fun a hF=>?_
 refine aA hF (aD (off':=5) Tryz.underlying60 rfl in58 rfl hF rfl rfl rfl) rfl rfl rfl fun a hF=>?_
 refine aA hF (aJ Tryz.isAgg58 hF rfl rfl (hM.cell (i:=2) rfl (RMark.g_pieces _))) rfl rfl rfl fun a hF=>?_
 refine aA hF (cV (f9 _ (hsub _ (dropM hM 3))) q10.len Tryz.underlying58 hF rfl rfl) rfl rfl rfl fun a hF=>?_
 obtain ⟨u7,p6,hP⟩:=bind_some hP
 refine aN hF rfl rfl rfl (aO (xs:=[.tmp 76,.tmp 79]) Tryz.call103 hF rfl rfl (gN p6 hM ) fun v w hR=>?_)
 obtain ⟨i6,rfl,hM⟩:=hR
 replace hM:MemL _ (pt b0 (RWriter.enc (RWriter.mk i6)) 167 :: fowL 5 i6 u7.b :: pt c0 (RMark.enc (RMark.mk x1.at_ x1.next x1.done s3 s5 s7 s11)) 60 :: Lr):=hM
 intro a hF
 refine aI (aB ?_)
 refine aH ?_
 refine aS hF hM hP (fun F x a w=>match x with | j3=>∃ (i7:SV),Fr 132 [(0,.pointer (some ⟨b0,0,none⟩)),(3,.pointer (some ⟨c0,0,none⟩))] a ∧ MemL w (pt b0 (RWriter.enc (RWriter.mk i7)) 167 :: fowL 5 i7 j3.b :: pt c0 (RMark.enc (RMark.mk x1.at_ x1.next x1.done s3 s5 s7 s11)) 60 :: Lr)) (fun c15 hP c10 hF hM=>?_) ?_
 ·refine aH ?_
  refine aC ?_
  refine aA hF (aD (off':=5) Tryz.underlying60 rfl in58 rfl hF rfl rfl rfl) rfl rfl rfl fun a hF=>?_
  refine aA hF (aJ Tryz.isAgg58 hF rfl rfl (hM.cell (i:=2) rfl (RMark.g_pieces _))) rfl rfl rfl fun a hF=>?_
  refine aA hF (cV (f9 _ (hsub _ (dropM hM 3))) q10.len Tryz.underlying58 hF rfl rfl) rfl rfl rfl fun a hF=>?_
  refine aA hF (aF hF rfl rfl) rfl rfl rfl fun a hF=>?_
  refine aI (aB ?_)
  refine aV ?_
  refine bN hF hM hP (fun F x a w=>match x with | (d2,d8)=>∃ (c7:SV),Fr 132 [(84,.int .i64 d8),(0,.pointer (some ⟨b0,0,none⟩)),(3,.pointer (some ⟨c0,0,none⟩)),(82,(s7).v),(83,.int .i64 (x1.pieces.length:Int))] a ∧ MemL w (pt b0 (RWriter.enc (RWriter.mk c7)) 167 :: fowL 5 c7 d2.b :: pt c0 (RMark.enc (RMark.mk x1.at_ x1.next x1.done s3 s5 s7 s11)) 60 :: Lr)) (fun hF hM=>⟨i6,hF.to ⟨rfl,rfl,rfl,rfl,rfl,trivial⟩,hM⟩) ?_
  rintro ⟨d2,d8⟩ a w c18 hP t5 ⟨c7,hF,hM⟩
  replace hP:Sh.cO x1 d2 d8 = _:=hP
  unfold Sh.cO at hP
  refine aH ?_
  refine aC ?_
  refine aA hF (cH hF rfl rfl rfl) rfl rfl rfl fun a hF=>?_
  refine aI (aB ?_)
  refine aH ?_
  refine aR hF (c:=.tmp 85) rfl (fun g5=>?_) (fun g5=>?_)
  ·have hP:=Fx.cT g5 hP
   refine aT (aB ?_)
   refine aH ?_
   refine aV ?_
   refine aH ?_
   refine aC ?_
   obtain ⟨c1,j8,hP⟩:=bind_some hP
   have m1:=aW j8
   obtain ⟨z6,m6,m7⟩:=Each.getr q10 m1.2
   have m5:=Each.bd q10 (bK j8)
   obtain ⟨c8,c9,rfl,k4,t2⟩:=m7
   refine aA hF (bC (sz:=4) (f9 _ (hsub _ (dropM hM 3))) Tryz.underlying58 in156 rfl hF rfl rfl rfl m5) rfl rfl rfl fun a hF=>?_
   refine aA hF (bB Tryz.isAgg156 Tryz.sizeOf156 hF rfl rfl (RPiece.len _) (((f9 _ (hsub _ (dropM hM 3))).elemS m6))) rfl rfl rfl fun a hF=>?_
   refine aN hF rfl rfl rfl (cB z156 (zs:=RPiece.zero.enc) rfl rfl fun c2 w z5 k3=>?_)
   have hM:=hM.plus k3
   replace hM:MemL _ (pt c2 (RPiece.enc (RPiece.mk 0 0 SV.nil SV.nil)) 156 :: pt b0 (RWriter.enc (RWriter.mk c7)) 167 :: fowL 5 c7 d2.b :: pt c0 (RMark.enc (RMark.mk x1.at_ x1.next x1.done s3 s5 s7 s11)) 60 :: Lr):=hM
   intro a hF
   refine bO rfl rfl (bL (vs:=_) Tryz.sizeOf156 (hM.obj (i:=0) rfl) hF rfl rfl rfl rfl (RPiece.len _) (RPiece.one _) (by first | (rw [RPiece.len,RPiece.len]; decide) | (rw [RPiece.len]; decide)) (bU ((RPiece.len _).trans (RPiece.len _).symm)) fun w n0=>?_)
   have hM:=hM.chg n0 (i:=0) rfl
   replace hM:MemL _ (pt c2 (RPiece.enc (RPiece.mk c1.table c1.from_ c8 c9)) 156 :: pt b0 (RWriter.enc (RWriter.mk c7)) 167 :: fowL 5 c7 d2.b :: pt c0 (RMark.enc (RMark.mk x1.at_ x1.next x1.done s3 s5 s7 s11)) 60 :: Lr):=hM
   refine aI (aB ?_)
   refine aH ?_
   refine aC ?_
   refine aA hF (aF hF rfl rfl) rfl rfl rfl fun a hF=>?_
   refine aA hF (aD (off':=0) Tryz.underlying156 rfl in3 rfl hF rfl rfl rfl) rfl rfl rfl fun a hF=>?_
   refine aA hF (aJ Tryz.isAgg3 hF rfl rfl (hM.cell (i:=0) rfl (RPiece.g_table _))) rfl rfl rfl fun a hF=>?_
   refine aA hF (cA hF rfl rfl rfl) rfl rfl rfl fun a hF=>?_
   obtain ⟨u8,p7,hP⟩:=bind_some hP
   refine aN hF rfl rfl rfl (aO (xs:=[.tmp 88,.tmp 91]) Tryz.call102 hF rfl rfl (bR p7 (selM hM [1,2,0,3] 4 rfl) ) fun v w hR=>?_)
   obtain ⟨l2,rfl,hM⟩:=hR
   replace hM:MemL _ (pt b0 (RWriter.enc (RWriter.mk l2)) 167 :: fowL 5 l2 u8.b :: pt c2 (RPiece.enc (RPiece.mk c1.table c1.from_ c8 c9)) 156 :: pt c0 (RMark.enc (RMark.mk x1.at_ x1.next x1.done s3 s5 s7 s11)) 60 :: Lr):=hM
   intro a hF
   refine aI (aB ?_)
   refine aH ?_
   refine aC ?_
   refine aA hF (aF hF rfl rfl) rfl rfl rfl fun a hF=>?_
   refine aA hF (aD (off':=1) Tryz.underlying156 rfl in3 rfl hF rfl rfl rfl) rfl rfl rfl fun a hF=>?_
   refine aA hF (aJ Tryz.isAgg3 hF rfl rfl (hM.cell (i:=2) rfl (RPiece.g_from_ _))) rfl rfl rfl fun a hF=>?_
   obtain ⟨u9,p8,hP⟩:=bind_some hP
   refine aN hF rfl rfl rfl (aO (xs:=[.tmp 93,.tmp 95]) Tryz.call101 hF rfl rfl (dR p8 hM ) fun v w hR=>?_)
   obtain ⟨l3,rfl,hM⟩:=hR
   replace hM:MemL _ (pt b0 (RWriter.enc (RWriter.mk l3)) 167 :: fowL 5 l3 u9.b :: pt c2 (RPiece.enc (RPiece.mk c1.table c1.from_ c8 c9)) 156 :: pt c0 (RMark.enc (RMark.mk x1.at_ x1.next x1.done s3 s5 s7 s11)) 60 :: Lr):=hM
   intro a hF
   refine aI (aB ?_)
   refine aH ?_
   refine aC ?_
   refine aA hF (aF hF rfl rfl) rfl rfl rfl fun a hF=>?_
   refine aA hF (aD (off':=2) Tryz.underlying156 rfl in23 rfl hF rfl rfl rfl) rfl rfl rfl fun a hF=>?_
   refine aA hF (aJ Tryz.isAgg23 hF rfl rfl (hM.cell (i:=2) rfl (RPiece.g_old _))) rfl rfl rfl fun a hF=>?_
   refine aA hF (bG (k4 _ (hsub _ (dropM hM 4))) Tryz.underlying23 hF rfl rfl) rfl rfl rfl fun a hF=>?_
   obtain ⟨z0,p9,hP⟩:=bind_some hP
   refine aN hF rfl rfl rfl (aO (xs:=[.tmp 97,.tmp 100]) Tryz.call101 hF rfl rfl (dR p9 hM ) fun v w hR=>?_)
   obtain ⟨d3,rfl,hM⟩:=hR
   replace hM:MemL _ (pt b0 (RWriter.enc (RWriter.mk d3)) 167 :: fowL 5 d3 z0.b :: pt c2 (RPiece.enc (RPiece.mk c1.table c1.from_ c8 c9)) 156 :: pt c0 (RMark.enc (RMark.mk x1.at_ x1.next x1.done s3 s5 s7 s11)) 60 :: Lr):=hM
   intro a hF
   refine aI (aB ?_)
   refine bQ mixed (by kernel_rfl) hM [0,2,3] 4 rfl fun hch=>?_
   refine aL hF hch 0 rfl (by kernel_rfl) rfl rfl rfl (fun w hM=>(aF hF rfl rfl)) fun a hF=>?_
   refine aL hF hch 1 rfl (by kernel_rfl) rfl rfl rfl (fun w hM=>(aF hF rfl rfl)) fun a hF=>?_
   refine aL hF hch 2 rfl (by kernel_rfl) rfl rfl rfl (fun w hM=>(aX hF rfl rfl)) fun a hF=>?_
   refine aL hF hch 3 rfl (by kernel_rfl) rfl rfl rfl (fun w hM=>(aD (off':=0) Tryz.underlying167 rfl in23 rfl hF rfl rfl rfl)) fun a hF=>?_
   refine aL hF hch 4 rfl (by kernel_rfl) rfl rfl rfl (fun w hM=>(aJ Tryz.isAgg23 hF rfl rfl (hM.cell (i:=0) rfl (RWriter.g_b _)))) fun a hF=>?_
   refine aL hF hch 5 rfl (by kernel_rfl) rfl rfl rfl (fun w hM=>(aD (off':=2) Tryz.underlying156 rfl in23 rfl hF rfl rfl rfl)) fun a hF=>?_
   refine aL hF hch 6 rfl (by kernel_rfl) rfl rfl rfl (fun w hM=>(aJ Tryz.isAgg23 hF rfl rfl (hM.cell (i:=1) rfl (RPiece.g_old _)))) fun a hF=>?_
   refine aL hF hch 8 rfl (by kernel_rfl) rfl rfl rfl (fun w hM=>(aD (off':=3) Tryz.underlying156 rfl in23 rfl hF rfl rfl rfl)) fun a hF=>?_
   refine aL hF hch 9 rfl (by kernel_rfl) rfl rfl rfl (fun w hM=>(aJ Tryz.isAgg23 hF rfl rfl (hM.cell (i:=1) rfl (RPiece.g_new _)))) fun a hF=>?_
   refine bS hch 7 (by kernel_rfl) rfl rfl ?_
   refine cR hF 7 rfl rfl rfl rfl rfl fun w hMs hM=>?_
   obtain ⟨t8,n2,hP⟩:=bind_some hP
   refine (nO n2 Tryz.underlying23 in5 rfl rfl rfl rfl hF rfl rfl rfl (hM.hold 1 _ rfl) (k4 _ (hsub _ (dropM hM 4))) fun t7 w m3=>?_)
   have hM:=hM.chg m3 (i:=1) rfl
   replace hM:MemL _ (pt b0 (RWriter.enc (RWriter.mk d3)) 167 :: fowL 5 t7 t8 :: pt c2 (RPiece.enc (RPiece.mk c1.table c1.from_ c8 c9)) 156 :: pt c0 (RMark.enc (RMark.mk x1.at_ x1.next x1.done s3 s5 s7 s11)) 60 :: Lr):=hM
   have hMs:=selM hM [0,2,3] 4 rfl
   refine ⟨_,_,hMs,hM,.inl fun _ h=>h,fun a hF=>?_⟩
   refine bS hch 10 (by kernel_rfl) rfl rfl ?_
   refine cR hF 10 rfl rfl rfl rfl rfl fun w hMs hM=>?_
   obtain ⟨j5,n3,hP⟩:=bind_some hP
   refine (nO n3 Tryz.underlying23 in5 rfl rfl rfl rfl hF rfl rfl rfl (hM.hold 1 _ rfl) (t2 _ (hsub _ (dropM hM 4))) fun d4 w m4=>?_)
   have hM:=hM.chg m4 (i:=1) rfl
   replace hM:MemL _ (pt b0 (RWriter.enc (RWriter.mk d3)) 167 :: fowL 5 d4 j5 :: pt c2 (RPiece.enc (RPiece.mk c1.table c1.from_ c8 c9)) 156 :: pt c0 (RMark.enc (RMark.mk x1.at_ x1.next x1.done s3 s5 s7 s11)) 60 :: Lr):=hM
   have hMs:=selM hM [0,2,3] 4 rfl
   refine ⟨_,_,hMs,hM,.inl fun _ h=>h,fun a hF=>?_⟩
   refine aL hF hch 11 rfl (by kernel_rfl) rfl rfl rfl (fun w hM=>(aX hF rfl rfl)) fun a hF=>?_
   refine aL hF hch 12 rfl (by kernel_rfl) rfl rfl rfl (fun w hM=>(aD (off':=0) Tryz.underlying167 rfl in23 rfl hF rfl rfl rfl)) fun a hF=>?_
   refine bS hch 13 (by kernel_rfl) rfl rfl ?_
   refine fN 13 rfl rfl rfl rfl fun w hMs hM=>?_
   refine (bZ Tryz.sizeOf23 (hM.obj (i:=0) rfl) hF rfl rfl rfl rfl (by rw [RWriter.len]; decide) (RWriter.s_b _ _) fun w n1=>?_)
   have hM:=hM.chg n1 (i:=0) rfl
   replace hM:MemL _ (pt b0 (RWriter.enc (RWriter.mk d4)) 167 :: fowL 5 d4 j5 :: pt c2 (RPiece.enc (RPiece.mk c1.table c1.from_ c8 c9)) 156 :: pt c0 (RMark.enc (RMark.mk x1.at_ x1.next x1.done s3 s5 s7 s11)) 60 :: Lr):=hM
   have hMs:=hM
   refine ⟨_,_,hMs,hM,.inr (by kernel_rfl),?_⟩
   refine cI hch (by kernel_rfl) fun w hM=>?_
   refine bI (aB ?_)
   refine aC ?_
   refine aA hF (cA hF rfl rfl rfl) rfl rfl rfl fun a hF=>?_
   refine aA hF (aF hF rfl rfl) rfl rfl rfl fun a hF=>?_
   refine aI (aB ?_)
   have hP:=Option.some.inj hP
   subst hP
   exact ⟨((QWriter.mk j5),(IntKind.i64.wrap (d8 + 1))),rfl,d4,hF.to ⟨rfl,rfl,rfl,rfl,rfl,trivial⟩,selM hM [0,1,3] 4 rfl⟩
  have hP:=Fx.cF g5 hP
  refine bW (bD (bD (cG ?_)))
  refine aB ?_
  have hP:=Option.some.inj hP
  subst hP
  have hP:=t5 _ rfl
  subst hP
  exact ⟨d2,rfl,c7,hF.to ⟨rfl,rfl,trivial⟩,hM⟩
 rintro j3 a w hP ⟨i7,hF,hM⟩
 replace hP:Sh.iE x1 j3 = _:=hP
 unfold Sh.iE at hP
 refine aB ?_
 refine aH ?_
 refine aC ?_
 refine aA hF (aF hF rfl rfl) rfl rfl rfl fun a hF=>?_
 refine aA hF (aD (off':=6) Tryz.underlying60 rfl in52 rfl hF rfl rfl rfl) rfl rfl rfl fun a hF=>?_
 refine aA hF (aJ Tryz.isAgg52 hF rfl rfl (hM.cell (i:=2) rfl (RMark.g_sent _))) rfl rfl rfl fun a hF=>?_
 refine aA hF (bG (f12 _ (hsub _ (dropM hM 3))) Tryz.underlying52 hF rfl rfl) rfl rfl rfl fun a hF=>?_
 obtain ⟨z1,t0,hP⟩:=bind_some hP
 refine aN hF rfl rfl rfl (aO (xs:=[.tmp 116,.tmp 119]) Tryz.call102 hF rfl rfl (bR t0 hM ) fun v w hR=>?_)
 obtain ⟨i8,rfl,hM⟩:=hR
 replace hM:MemL _ (pt b0 (RWriter.enc (RWriter.mk i8)) 167 :: fowL 5 i8 z1.b :: pt c0 (RMark.enc (RMark.mk x1.at_ x1.next x1.done s3 s5 s7 s11)) 60 :: Lr):=hM
 intro a hF
 refine aI (aB ?_)
 refine aH ?_
 refine aC ?_
 refine aA hF (aD (off':=6) Tryz.underlying60 rfl in52 rfl hF rfl rfl rfl) rfl rfl rfl fun a hF=>?_
 refine aA hF (aJ Tryz.isAgg52 hF rfl rfl (hM.cell (i:=2) rfl (RMark.g_sent _))) rfl rfl rfl fun a hF=>?_
 refine aA hF (bG (f12 _ (hsub _ (dropM hM 3))) Tryz.underlying52 hF rfl rfl) rfl rfl rfl fun a hF=>?_
 refine aA hF (aF hF rfl rfl) rfl rfl rfl fun a hF=>?_
 refine aI (aB ?_)
 refine aV ?_
 refine bN hF hM hP (fun F x a w=>match x with | (j4,d9)=>∃ (d5:SV),Fr 132 [(124,.int .i64 d9),(0,.pointer (some ⟨b0,0,none⟩)),(122,(s11).v),(123,.int .i64 (x1.sent.length:Int))] a ∧ MemL w (pt b0 (RWriter.enc (RWriter.mk d5)) 167 :: fowL 5 d5 j4.b :: Lr)) (fun hF hM=>⟨i8,hF.to ⟨rfl,rfl,rfl,rfl,trivial⟩,selM hM [0,1] 3 rfl⟩) ?_
 rintro ⟨j4,d9⟩ a w c19 hP t6 ⟨d5,hF,hM⟩
 replace hP:Sh.cP x1 j4 d9 = _:=hP
 unfold Sh.cP at hP
 refine aH ?_
 refine aC ?_
 refine aA hF (cH hF rfl rfl rfl) rfl rfl rfl fun a hF=>?_
 refine aI (aB ?_)
 refine aH ?_
 refine aR hF (c:=.tmp 125) rfl (fun g6=>?_) (fun g6=>?_)
 ·have hP:=Fx.cT g6 hP
  refine aT (aB ?_)
  refine aH ?_
  refine aV ?_
  refine aH ?_
  refine aC ?_
  obtain ⟨c11,j9,hP⟩:=bind_some hP
  have m2:=aW j9
  refine aA hF (bC (sz:=1) (f12 _ (hsub _ (dropM hM 2))) Tryz.underlying52 in3 rfl hF rfl rfl rfl (bK j9)) rfl rfl rfl fun a hF=>?_
  refine aA hF (aJ Tryz.isAgg3 hF rfl rfl ((((f12 _ (hsub _ (dropM hM 2))).elemS m2.2)).get 0 rfl)) rfl rfl rfl fun a hF=>?_
  refine aA hF (aG hF rfl rfl) rfl rfl rfl fun a hF=>?_
  refine aI (aB ?_)
  refine aC ?_
  refine aA hF (aF hF rfl rfl) rfl rfl rfl fun a hF=>?_
  refine aA hF (aF hF rfl rfl) rfl rfl rfl fun a hF=>?_
  obtain ⟨l8,t1,hP⟩:=bind_some hP
  refine aN hF rfl rfl rfl (aO (xs:=[.tmp 128,.tmp 129]) Tryz.call179 hF rfl rfl (gH t1 hM ) fun v w hR=>?_)
  obtain ⟨i9,rfl,hM⟩:=hR
  replace hM:MemL _ (pt b0 (RWriter.enc (RWriter.mk i9)) 167 :: fowL 5 i9 l8.b :: Lr):=hM
  intro a hF
  refine aI (bI (aB ?_))
  refine aC ?_
  refine aA hF (cA hF rfl rfl rfl) rfl rfl rfl fun a hF=>?_
  refine aA hF (aF hF rfl rfl) rfl rfl rfl fun a hF=>?_
  refine aI (aB ?_)
  have hP:=Option.some.inj hP
  subst hP
  exact ⟨(l8,(IntKind.i64.wrap (d9 + 1))),rfl,i9,hF.to ⟨rfl,rfl,rfl,rfl,trivial⟩,hM⟩
 have hP:=Fx.cF g6 hP
 refine bW (bD (bD (cG ?_)))
 have hP:=Option.some.inj hP
 subst hP
 have hP:=t6 _ rfl
 subst hP
 refine eI Tryz.results104 hF ?_
 exact ⟨d5,rfl,hM⟩
set_option maxHeartbeats 4000000 in
theorem kM {x0:QInput} {s1:SV} {s3:SV} {hs4:List SV} {out:Bool} {w0:World} {Bf:World → Prop} {Lr:List Res} (hP:Sh.gI x0 = some out) (hM:MemL w0 (Lr)) (hsub:∀ w,MemL w Lr → Bf w) (f2:LIn Bf s1 x0.ctx) (f5:LIn Bf s3 hs4) (q6:Each (LIn (X:=UInt8) Bf) hs4 x0.tables):Calls Tryz.prog 98 #[.agg (RInput.enc (RInput.mk s1 s3)).toArray] w0 (Ret fun v w'=>v = .bool out ∧ MemL w' (Lr)):=by
 unfold Sh.gI at hP
 refine aM (vs:=[.agg (RInput.enc (RInput.mk s1 s3)).toArray]) Tryz.func98 rfl Tryz.ntmps98 rfl fun a hF=>?_
 refine aH ?_
 refine aC ?_
 refine aN hF rfl rfl rfl (dD hF rfl rfl rfl fun c2 w g8 d4=>?_)
 have hM:=hM.plus d4
 replace hM:MemL _ (pt c2 (RInput.enc (RInput.mk s1 s3)) 30 :: Lr):=hM
 intro a hF
 refine aA hF (aG hF rfl rfl) rfl rfl rfl fun a hF=>?_
 refine aI (aB ?_)
 refine aH ?_
 refine aC ?_
 refine aA hF (aG hF rfl rfl) rfl rfl rfl fun a hF=>?_
 refine aI (aB ?_)
 refine aH ?_
 refine aS hF hM hP (fun F x a w=>match x with | c8=>Fr 22 [(2,.bool c8)] a ∧ MemL w (Lr)) (fun i1 hP i0 hF hM=>?_) ?_
 ·refine aC ?_
  refine aA hF (aF hF rfl rfl) rfl rfl rfl fun a hF=>?_
  refine aA hF (aD (off':=0) Tryz.underlying30 rfl in23 rfl hF rfl rfl rfl) rfl rfl rfl fun a hF=>?_
  refine aA hF (aJ Tryz.isAgg23 hF rfl rfl (hM.cell (i:=0) rfl (RInput.g_ctx _))) rfl rfl rfl fun a hF=>?_
  obtain ⟨g4,hP,d8⟩:=cO hP
  refine aN hF rfl rfl rfl (gC (xs:=[.tmp 6]) Tryz.call171 hF rfl rfl rfl (R:=fun v w=>∃ x,g4 = .inl x ∧ match x with | c9=>v = .bool c9 ∧ MemL w (pt c2 (RInput.enc (RInput.mk s1 s3)) 30 :: Lr)) ?_ fun v w hR=>?_)
  ·refine aM Tryz.func171 rfl Tryz.ntmps171 rfl fun a hF=>?_
   refine aH ?_
   refine aC ?_
   refine aA hF (aG hF rfl rfl) rfl rfl rfl fun a hF=>?_
   refine aI (aB ?_)
   refine aH ?_
   refine aC ?_
   refine aA hF (aF hF rfl rfl) rfl rfl rfl fun a hF=>?_
   refine aA hF (bG (f2 _ (hsub _ (dropM hM 1))) Tryz.underlying23 hF rfl rfl) rfl rfl rfl fun a hF=>?_
   refine aA hF (eJ hF rfl rfl rfl) rfl rfl rfl fun a hF=>?_
   refine aA hF (aG hF rfl rfl) rfl rfl rfl fun a hF=>?_
   refine aI (aB ?_)
   refine c_ret ?_
   have hP:=Option.some.inj hP
   subst hP
   refine aY Tryz.results171 hF rfl ?_
   exact ⟨(decide (65535 < (x0.ctx.length:Int))),rfl,rfl,hM⟩
  obtain ⟨c9,rfl,rfl,hM⟩:=hR
  replace hP:Sh.eN x0 c9 = _:=d8
  unfold Sh.eN at hP
  intro a hF
  refine aA hF (dJ hF rfl rfl) rfl rfl rfl fun a hF=>?_
  refine aA hF (aF hF rfl rfl) rfl rfl rfl fun a hF=>?_
  refine aZ 9 hF rfl (fun c1=>?_) (fun c1=>?_)
  ·have hP:=Fx.cT c1 hP
   refine aK hF rfl rfl rfl c1 (aD (off':=1) Tryz.underlying30 rfl in28 rfl hF rfl rfl rfl) rfl rfl fun a hF=>?_
   refine aK hF rfl rfl rfl c1 (aJ Tryz.isAgg28 hF rfl rfl (hM.cell (i:=0) rfl (RInput.g_tables _))) rfl rfl fun a hF=>?_
   refine aK hF rfl rfl rfl c1 (cV (f5 _ (hsub _ (dropM hM 1))) q6.len Tryz.underlying28 hF rfl rfl) rfl rfl fun a hF=>?_
   refine aK hF rfl rfl rfl c1 (mR hF rfl rfl rfl) rfl rfl fun a hF=>?_
   refine aA hF (aP hF rfl rfl c1 rfl) rfl rfl rfl fun a hF=>?_
   refine aA hF (aF hF rfl rfl) rfl rfl rfl fun a hF=>?_
   refine aZ 15 hF rfl (fun c0=>?_) (fun c0=>?_)
   ·have hP:=Fx.cT c0 hP
    refine aK hF rfl rfl rfl c0 (aD (off':=1) Tryz.underlying30 rfl in28 rfl hF rfl rfl rfl) rfl rfl fun a hF=>?_
    refine aK hF rfl rfl rfl c0 (aJ Tryz.isAgg28 hF rfl rfl (hM.cell (i:=0) rfl (RInput.g_tables _))) rfl rfl fun a hF=>?_
    refine aK hF rfl rfl rfl c0 (aF hF rfl rfl) rfl rfl fun a hF=>?_
    obtain ⟨g5,hP,d9⟩:=cO hP
    refine dX hF rfl rfl rfl c0 rfl rfl (aO (xs:=[.tmp 17,.tmp 18]) Tryz.call172 hF rfl rfl (R:=fun v w=>∃ x,g5 = .inl x ∧ match x with | c4=>v = .bool c4 ∧ MemL w (pt c2 (RInput.enc (RInput.mk s1 s3)) 30 :: Lr)) ?_ fun v w hR=>?_)
    ·refine aM Tryz.func172 rfl Tryz.ntmps172 rfl fun a hF=>?_
     refine aH ?_
     refine aC ?_
     refine aA hF (aG hF rfl rfl) rfl rfl rfl fun a hF=>?_
     refine aI (aB ?_)
     refine aH ?_
     refine aC ?_
     refine aA hF (aF hF rfl rfl) rfl rfl rfl fun a hF=>?_
     refine aA hF (aF hF rfl rfl) rfl rfl rfl fun a hF=>?_
     obtain ⟨g6,hP,g0⟩:=cO hP
     refine aN hF rfl rfl rfl (aO (xs:=[.tmp 5,.tmp 6]) Tryz.call226 hF rfl rfl (R:=fun v w=>∃ x,g6 = .inl x ∧ match x with | c5=>v = .int .i64 c5 ∧ MemL w (pt c2 (RInput.enc (RInput.mk s1 s3)) 30 :: Lr)) ?_ fun v w hR=>?_)
     ·refine aM Tryz.func226 rfl Tryz.ntmps226 rfl fun a hF=>?_
      refine aH ?_
      refine aC ?_
      refine aA hF (aG hF rfl rfl) rfl rfl rfl fun a hF=>?_
      refine aI (aB ?_)
      refine aH ?_
      refine aS hF hM hP (fun F x a w=>match x with | _=>Fr 19 [(4,.int .i64 0)] a ∧ MemL w (pt c2 (RInput.enc (RInput.mk s1 s3)) 30 :: Lr)) (fun i2 hP g2 hF hM=>?_) ?_
      ·refine aH ?_
       refine aC ?_
       refine aA hF (aF hF rfl rfl) rfl rfl rfl fun a hF=>?_
       refine aA hF (cV (f5 _ (hsub _ (dropM hM 1))) q6.len Tryz.underlying28 hF rfl rfl) rfl rfl rfl fun a hF=>?_
       refine aA hF (aF hF rfl rfl) rfl rfl rfl fun a hF=>?_
       refine aI (aB ?_)
       refine aV ?_
       refine bN hF hM hP (fun F x a w=>match x with | c3=>Fr 19 [(8,.int .i64 c3),(0,(s3).v),(1,.func (.func 171) [].toArray [].toArray),(4,.int .i64 0),(7,.int .i64 (x0.tables.length:Int))] a ∧ MemL w (pt c2 (RInput.enc (RInput.mk s1 s3)) 30 :: Lr)) (fun hF hM=>⟨hF.to ⟨rfl,rfl,rfl,rfl,rfl,trivial⟩,hM⟩) ?_
       rintro c3 a w i3 hP d2 ⟨hF,hM⟩
       replace hP:Sh.bS x0 c3 = _:=hP
       unfold Sh.bS at hP
       refine aH ?_
       refine aC ?_
       refine aA hF (cH hF rfl rfl rfl) rfl rfl rfl fun a hF=>?_
       refine aI (aB ?_)
       refine aH ?_
       refine aR hF (c:=.tmp 9) rfl (fun c6=>?_) (fun c6=>?_)
       ·have hP:=Fx.cT c6 hP
        refine aT (aB ?_)
        refine aH ?_
        refine aV ?_
        refine aH ?_
        refine aC ?_
        refine aA hF (aF hF rfl rfl) rfl rfl rfl fun a hF=>?_
        refine aA hF (aG hF rfl rfl) rfl rfl rfl fun a hF=>?_
        refine aI (aB ?_)
        refine aH ?_
        refine aC ?_
        refine aA hF (aF hF rfl rfl) rfl rfl rfl fun a hF=>?_
        refine aA hF (aF hF rfl rfl) rfl rfl rfl fun a hF=>?_
        refine aA hF (aF hF rfl rfl) rfl rfl rfl fun a hF=>?_
        obtain ⟨g3,d1,hP⟩:=bind_some hP
        have d3:=aW d1
        obtain ⟨g9,d6,d7⟩:=Each.getr q6 d3.2
        have d5:=Each.bd q6 (bK d1)
        refine aA hF (bC (sz:=1) (f5 _ (hsub _ (dropM hM 1))) Tryz.underlying28 in23 rfl hF rfl rfl rfl d5) rfl rfl rfl fun a hF=>?_
        refine aA hF (aJ Tryz.isAgg23 hF rfl rfl ((((f5 _ (hsub _ (dropM hM 1))).elemS d6)).get 0 rfl)) rfl rfl rfl fun a hF=>?_
        obtain ⟨g7,hP,g1⟩:=cO hP
        refine aN hF rfl rfl rfl (gC (xs:=[.tmp 15]) Tryz.call171 hF rfl rfl rfl (R:=fun v w=>∃ x,g7 = .inl x ∧ match x with | d0=>v = .bool d0 ∧ MemL w (pt c2 (RInput.enc (RInput.mk s1 s3)) 30 :: Lr)) ?_ fun v w hR=>?_)
        ·refine aM Tryz.func171 rfl Tryz.ntmps171 rfl fun a hF=>?_
         refine aH ?_
         refine aC ?_
         refine aA hF (aG hF rfl rfl) rfl rfl rfl fun a hF=>?_
         refine aI (aB ?_)
         refine aH ?_
         refine aC ?_
         refine aA hF (aF hF rfl rfl) rfl rfl rfl fun a hF=>?_
         refine aA hF (bG (d7 _ (hsub _ (dropM hM 1))) Tryz.underlying23 hF rfl rfl) rfl rfl rfl fun a hF=>?_
         refine aA hF (eJ hF rfl rfl rfl) rfl rfl rfl fun a hF=>?_
         refine aA hF (aG hF rfl rfl) rfl rfl rfl fun a hF=>?_
         refine aI (aB ?_)
         refine c_ret ?_
         have hP:=Option.some.inj hP
         subst hP
         refine aY Tryz.results171 hF rfl ?_
         exact ⟨(decide (65535 < (g3.length:Int))),rfl,rfl,hM⟩
        obtain ⟨d0,rfl,rfl,hM⟩:=hR
        replace hP:Sh.hD c3 d0 = _:=g1
        unfold Sh.hD at hP
        intro a hF
        refine aI (aB ?_)
        refine aR hF (c:=.tmp 16) rfl (fun c7=>?_) (fun c7=>?_)
        ·have hP:=Fx.cT c7 hP
         refine aH ?_
         refine aC ?_
         refine aA hF (aF hF rfl rfl) rfl rfl rfl fun a hF=>?_
         refine aA hF (aG hF rfl rfl) rfl rfl rfl fun a hF=>?_
         refine aI (aB ?_)
         refine c_ret ?_
         have hP:=Option.some.inj hP
         subst hP
         have hP:=d2 _ rfl
         subst hP
         have hP:=cL g2
         subst hP
         refine aY Tryz.results226 hF rfl ?_
         exact ⟨c3,rfl,rfl,hM⟩
        have hP:=Fx.cF c7 hP
        refine aT (bI (aB ?_))
        refine aC ?_
        refine aA hF (cA hF rfl rfl rfl) rfl rfl rfl fun a hF=>?_
        refine aA hF (aF hF rfl rfl) rfl rfl rfl fun a hF=>?_
        refine aI (aB ?_)
        have hP:=Option.some.inj hP
        subst hP
        exact ⟨(IntKind.i64.wrap (c3 + 1)),rfl,hF.to ⟨rfl,rfl,rfl,rfl,rfl,trivial⟩,hM⟩
       have hP:=Fx.cF c6 hP
       refine bW (bD (bD (cG ?_)))
       refine aB ?_
       have hP:=Option.some.inj hP
       subst hP
       have hP:=d2 _ rfl
       subst hP
       exact ⟨(),rfl,hF.to ⟨rfl,trivial⟩,hM⟩
      rintro ⟨⟩ a w hP ⟨hF,hM⟩
      replace hP:Sh.kT = _:=hP
      unfold Sh.kT at hP
      refine aB ?_
      refine aH ?_
      refine aC ?_
      refine aA hF (aG hF rfl rfl) rfl rfl rfl fun a hF=>?_
      refine aI (aB ?_)
      refine c_ret ?_
      have hP:=Option.some.inj hP
      subst hP
      refine aY Tryz.results226 hF rfl ?_
      exact ⟨(-1),rfl,rfl,hM⟩
     obtain ⟨c5,rfl,rfl,hM⟩:=hR
     replace hP:Sh.jC c5 = _:=g0
     unfold Sh.jC at hP
     intro a hF
     refine aA hF (jF hF rfl rfl rfl) rfl rfl rfl fun a hF=>?_
     refine aA hF (aG hF rfl rfl) rfl rfl rfl fun a hF=>?_
     refine aI (aB ?_)
     refine c_ret ?_
     have hP:=Option.some.inj hP
     subst hP
     refine aY Tryz.results172 hF rfl ?_
     exact ⟨(decide (0 ≤ c5)),rfl,rfl,hM⟩
    obtain ⟨c4,rfl,rfl,hM⟩:=hR
    replace hP:Sh.jB c4 = _:=d9
    unfold Sh.jB at hP
    intro a hF
    refine aK hF rfl rfl rfl c0 (dJ hF rfl rfl) rfl rfl fun a hF=>?_
    refine aA hF (aP hF rfl rfl c0 rfl) rfl rfl rfl fun a hF=>?_
    refine aA hF (aG hF rfl rfl) rfl rfl rfl fun a hF=>?_
    refine aI (aB ?_)
    have hP:=Option.some.inj hP
    subst hP
    exact ⟨(!c4),rfl,hF.to ⟨rfl,trivial⟩,selM hM [] 1 rfl⟩
   have hP:=Fx.cF c0 hP
   refine aE hF rfl rfl rfl c0 rfl rfl fun a hF=>?_
   refine aE hF rfl rfl rfl c0 rfl rfl fun a hF=>?_
   refine aE hF rfl rfl rfl c0 rfl rfl fun a hF=>?_
   refine aE hF rfl rfl rfl c0 rfl rfl fun a hF=>?_
   refine aE hF rfl rfl rfl c0 rfl rfl fun a hF=>?_
   refine aA hF (aQ hF rfl rfl c0 rfl) rfl rfl rfl fun a hF=>?_
   refine aA hF (aG hF rfl rfl) rfl rfl rfl fun a hF=>?_
   refine aI (aB ?_)
   have hP:=Option.some.inj hP
   subst hP
   exact ⟨false,rfl,hF.to ⟨rfl,trivial⟩,selM hM [] 1 rfl⟩
  have hP:=Fx.cF c1 hP
  refine aE hF rfl rfl rfl c1 rfl rfl fun a hF=>?_
  refine aE hF rfl rfl rfl c1 rfl rfl fun a hF=>?_
  refine aE hF rfl rfl rfl c1 rfl rfl fun a hF=>?_
  refine aE hF rfl rfl rfl c1 rfl rfl fun a hF=>?_
  refine aA hF (aQ hF rfl rfl c1 rfl) rfl rfl rfl fun a hF=>?_
  refine aA hF (aF hF rfl rfl) rfl rfl rfl fun a hF=>?_
  refine aE hF rfl rfl rfl rfl rfl rfl fun a hF=>?_
  refine aE hF rfl rfl rfl rfl rfl rfl fun a hF=>?_
  refine aE hF rfl rfl rfl rfl rfl rfl fun a hF=>?_
  refine aE hF rfl rfl rfl rfl rfl rfl fun a hF=>?_
  refine aE hF rfl rfl rfl rfl rfl rfl fun a hF=>?_
  refine aA hF (aQ hF rfl rfl rfl rfl) rfl rfl rfl fun a hF=>?_
  refine aA hF (aG hF rfl rfl) rfl rfl rfl fun a hF=>?_
  refine aI (aB ?_)
  have hP:=Option.some.inj hP
  subst hP
  exact ⟨false,rfl,hF.to ⟨rfl,trivial⟩,selM hM [] 1 rfl⟩
 rintro c8 a w hP ⟨hF,hM⟩
 replace hP:Sh.fT c8 = _:=hP
 unfold Sh.fT at hP
 refine aB ?_
 refine c_ret ?_
 have hP:=Option.some.inj hP
 subst hP
 refine aY Tryz.results98 hF rfl ?_
 exact ⟨rfl,hM⟩
set_option maxHeartbeats 4000000 in
theorem jB {x0:QRecord} {s1:SV} {s3:SV} {hs4:List SV} {s7:SV} {hs8:List RMark} {out:(List UInt8 × Int)} {w0:World} {Bf:World → Prop} {Lr:List Res} (hP:Sh.gH x0 = some out) (hM:MemL w0 (Lr)) (hsub:∀ w,MemL w Lr → Bf w) (f2:LIn Bf s1 x0.in_.ctx) (f5:LIn Bf s3 hs4) (q6:Each (LIn (X:=UInt8) Bf) hs4 x0.in_.tables) (f9:LIn Bf s7 hs8) (q10:Each (QMarkIn Bf) hs8 x0.marks):Calls Tryz.prog 41 #[.agg (RRecord.enc (RRecord.mk (RInput.mk s1 s3) s7 x0.end_)).toArray] w0 (Ret fun v w'=>∃ (n4:SV),v = .tuple #[(n4).v,.int .i64 out.2] ∧ MemL w' (fowL 5 n4 out.1 :: Lr)):=by
 unfold Sh.gH at hP
 refine aM (vs:=[.agg (RRecord.enc (RRecord.mk (RInput.mk s1 s3) s7 x0.end_)).toArray]) Tryz.func41 rfl Tryz.ntmps41 rfl fun a hF=>?_
 refine aH ?_
 refine aC ?_
 refine aN hF rfl rfl rfl (dD hF rfl rfl rfl fun c0 w t6 k7=>?_)
 have hM:=hM.plus k7
 replace hM:MemL _ (pt c0 (RRecord.enc (RRecord.mk (RInput.mk s1 s3) s7 x0.end_)) 36 :: Lr):=hM
 intro a hF
 refine aA hF (aG hF rfl rfl) rfl rfl rfl fun a hF=>?_
 refine aA hF (aG hF rfl rfl) rfl rfl rfl fun a hF=>?_
 refine aI (aB ?_)
 refine aH ?_
 refine aH ?_
 refine aC ?_
 refine aA hF (aD (off':=0) Tryz.underlying36 rfl in30 rfl hF rfl rfl rfl) rfl rfl rfl fun a hF=>?_
 refine aA hF (bB Tryz.isAgg30 Tryz.sizeOf30 hF rfl rfl (RInput.len _) (hM.cells (i:=0) rfl (RRecord.c_in_ _))) rfl rfl rfl fun a hF=>?_
 obtain ⟨z4,p5,hP⟩:=bind_some hP
 refine aN hF rfl rfl rfl (aO (xs:=[.tmp 12]) Tryz.call98 hF rfl rfl (kM p5 hM (Bf:=Bf) (fun w hM=>hsub _ (dropM hM 1)) f2 f5 q6) fun v w hR=>?_)
 obtain ⟨rfl,hM⟩:=hR
 replace hM:MemL _ (pt c0 (RRecord.enc (RRecord.mk (RInput.mk s1 s3) s7 x0.end_)) 36 :: Lr):=hM
 intro a hF
 refine aA hF (dJ hF rfl rfl) rfl rfl rfl fun a hF=>?_
 refine aI (aB ?_)
 refine aR hF (c:=.tmp 14) rfl (fun g5=>?_) (fun g5=>?_)
 ·have hP:=Fx.cT g5 hP
  refine aH ?_
  refine aC ?_
  refine aA hF (aG hF rfl rfl) rfl rfl rfl fun a hF=>?_
  refine aA hF (aG hF rfl rfl) rfl rfl rfl fun a hF=>?_
  refine aI (aB ?_)
  refine c_ret ?_
  have hM:=hM.rowNil (X:=UInt8) 0 5
  have hM:=rowFow hM (i:=0) rfl
  have hP:=Option.some.inj hP
  subst hP
  refine eH (rs:=[.tmp 2,.tmp 3]) Tryz.results41 hF (cX hF rfl (cX hF rfl dC)) rfl ?_
  exact ⟨SV.nil,rfl,selM hM [0] 2 rfl⟩
 have hP:=Fx.cF g5 hP
 refine aT (aB ?_)
 refine aH ?_
 refine aS hF hM hP (fun F x a w=>match x with | _=>Fr 115 [(1,.pointer (some ⟨c0,0,none⟩)),(2,(SV.nil).v),(3,.int .i64 0)] a ∧ MemL w (pt c0 (RRecord.enc (RRecord.mk (RInput.mk s1 s3) s7 x0.end_)) 36 :: Lr)) (fun u8 hP p3 hF hM=>?_) ?_
 ·refine aH ?_
  refine aC ?_
  refine aA hF (aD (off':=2) Tryz.underlying36 rfl in33 rfl hF rfl rfl rfl) rfl rfl rfl fun a hF=>?_
  refine aA hF (aJ Tryz.isAgg33 hF rfl rfl (hM.cell (i:=0) rfl (RRecord.g_marks _))) rfl rfl rfl fun a hF=>?_
  refine aA hF (cV (f9 _ (hsub _ (dropM hM 1))) q10.len Tryz.underlying33 hF rfl rfl) rfl rfl rfl fun a hF=>?_
  refine aA hF (aF hF rfl rfl) rfl rfl rfl fun a hF=>?_
  refine aI (aB ?_)
  refine aV ?_
  refine bN hF hM hP (fun F x a w=>match x with | d3=>Fr 115 [(18,.int .i64 d3),(1,.pointer (some ⟨c0,0,none⟩)),(16,(s7).v),(17,.int .i64 (x0.marks.length:Int)),(2,(SV.nil).v),(3,.int .i64 0)] a ∧ MemL w (pt c0 (RRecord.enc (RRecord.mk (RInput.mk s1 s3) s7 x0.end_)) 36 :: Lr)) (fun hF hM=>⟨hF.to ⟨rfl,rfl,rfl,rfl,rfl,rfl,trivial⟩,hM⟩) ?_
  rintro d3 a w z1 hP j2 ⟨hF,hM⟩
  replace hP:Sh.cK x0 d3 = _:=hP
  unfold Sh.cK at hP
  refine aH ?_
  refine aC ?_
  refine aA hF (cH hF rfl rfl rfl) rfl rfl rfl fun a hF=>?_
  refine aI (aB ?_)
  refine aH ?_
  refine aR hF (c:=.tmp 19) rfl (fun d7=>?_) (fun d7=>?_)
  ·have hP:=Fx.cT d7 hP
   refine aT (aB ?_)
   refine aH ?_
   refine aV ?_
   refine aH ?_
   refine aC ?_
   obtain ⟨c5,i6,hP⟩:=bind_some hP
   have k4:=aW i6
   obtain ⟨u0,l4,l7⟩:=Each.getr q10 k4.2
   have l1:=Each.bd q10 (bK i6)
   obtain ⟨j4,j5,j6,t8,j7,rfl,n5,n6,n7,p6,n8⟩:=l7
   refine aA hF (bC (sz:=7) (f9 _ (hsub _ (dropM hM 1))) Tryz.underlying33 in60 rfl hF rfl rfl rfl l1) rfl rfl rfl fun a hF=>?_
   refine aA hF (bB Tryz.isAgg60 Tryz.sizeOf60 hF rfl rfl (RMark.len _) (((f9 _ (hsub _ (dropM hM 1))).elemS l4))) rfl rfl rfl fun a hF=>?_
   refine aN hF rfl rfl rfl (cB z60 (zs:=RMark.zero.enc) rfl rfl fun c8 w t7 k8=>?_)
   have hM:=hM.plus k8
   replace hM:MemL _ (pt c8 (RMark.enc (RMark.mk 0 0 false SV.nil SV.nil SV.nil SV.nil)) 60 :: pt c0 (RRecord.enc (RRecord.mk (RInput.mk s1 s3) s7 x0.end_)) 36 :: Lr):=hM
   intro a hF
   refine bO rfl rfl (bL (vs:=_) Tryz.sizeOf60 (hM.obj (i:=0) rfl) hF rfl rfl rfl rfl (RMark.len _) (RMark.one _) (by first | (rw [RMark.len,RMark.len]; decide) | (rw [RMark.len]; decide)) (bU ((RMark.len _).trans (RMark.len _).symm)) fun w l9=>?_)
   have hM:=hM.chg l9 (i:=0) rfl
   replace hM:MemL _ (pt c8 (RMark.enc (RMark.mk c5.at_ c5.next c5.done j4 j5 j6 j7)) 60 :: pt c0 (RRecord.enc (RRecord.mk (RInput.mk s1 s3) s7 x0.end_)) 36 :: Lr):=hM
   refine aI (aB ?_)
   refine aH ?_
   refine aC ?_
   refine aA hF (bB Tryz.isAgg60 Tryz.sizeOf60 hF rfl rfl (RMark.len _) (hM.cells (i:=0) rfl (bV (RMark.len _)))) rfl rfl rfl fun a hF=>?_
   obtain ⟨u6,m6,hP⟩:=bind_some hP
   refine aN hF rfl rfl rfl (aO (xs:=[.tmp 22]) Tryz.call99 hF rfl rfl (lD m6 hM (Bf:=Bf) (fun w hM=>hsub _ (dropM hM 2)) n5 n6 n7 p6 n8) fun v w hR=>?_)
   obtain ⟨rfl,hM⟩:=hR
   replace hM:MemL _ (pt c8 (RMark.enc (RMark.mk c5.at_ c5.next c5.done j4 j5 j6 j7)) 60 :: pt c0 (RRecord.enc (RRecord.mk (RInput.mk s1 s3) s7 x0.end_)) 36 :: Lr):=hM
   intro a hF
   refine aA hF (dJ hF rfl rfl) rfl rfl rfl fun a hF=>?_
   refine aI (aB ?_)
   refine aR hF (c:=.tmp 24) rfl (fun d8=>?_) (fun d8=>?_)
   ·have hP:=Fx.cT d8 hP
    refine aH ?_
    refine aC ?_
    refine aA hF (aG hF rfl rfl) rfl rfl rfl fun a hF=>?_
    refine aA hF (aG hF rfl rfl) rfl rfl rfl fun a hF=>?_
    refine aI (aB ?_)
    refine c_ret ?_
    have hM:=hM.rowNil (X:=UInt8) 0 5
    have hM:=rowFow hM (i:=0) rfl
    have hP:=Option.some.inj hP
    subst hP
    have hP:=j2 _ rfl
    subst hP
    have hP:=cL p3
    subst hP
    refine eH (rs:=[.tmp 2,.tmp 3]) Tryz.results41 hF (cX hF rfl (cX hF rfl dC)) rfl ?_
    exact ⟨SV.nil,rfl,selM hM [0] 3 rfl⟩
   have hP:=Fx.cF d8 hP
   refine aT (bI (aB ?_))
   refine aC ?_
   refine aA hF (cA hF rfl rfl rfl) rfl rfl rfl fun a hF=>?_
   refine aA hF (aF hF rfl rfl) rfl rfl rfl fun a hF=>?_
   refine aI (aB ?_)
   have hP:=Option.some.inj hP
   subst hP
   exact ⟨(IntKind.i64.wrap (d3 + 1)),rfl,hF.to ⟨rfl,rfl,rfl,rfl,rfl,rfl,trivial⟩,selM hM [1] 2 rfl⟩
  have hP:=Fx.cF d7 hP
  refine bW (bD (bD (cG ?_)))
  refine aB ?_
  have hP:=Option.some.inj hP
  subst hP
  have hP:=j2 _ rfl
  subst hP
  exact ⟨(),rfl,hF.to ⟨rfl,rfl,rfl,trivial⟩,hM⟩
 rintro ⟨⟩ a w hP ⟨hF,hM⟩
 replace hP:Sh.dM x0 = _:=hP
 unfold Sh.dM at hP
 refine aB ?_
 refine aH ?_
 refine aH ?_
 refine aC ?_
 refine aA hF (aD (off':=3) Tryz.underlying36 rfl in34 rfl hF rfl rfl rfl) rfl rfl rfl fun a hF=>?_
 refine aA hF (aJ Tryz.isAgg34 hF rfl rfl (hM.cell (i:=0) rfl (RRecord.g_end_ _))) rfl rfl rfl fun a hF=>?_
 obtain ⟨u7,m7,hP⟩:=bind_some hP
 refine aN hF rfl rfl rfl (aO (xs:=[.tmp 27]) Tryz.call100 hF rfl rfl (iO m7 hM ) fun v w hR=>?_)
 obtain ⟨rfl,hM⟩:=hR
 replace hM:MemL _ (pt c0 (RRecord.enc (RRecord.mk (RInput.mk s1 s3) s7 x0.end_)) 36 :: Lr):=hM
 intro a hF
 refine aA hF (dJ hF rfl rfl) rfl rfl rfl fun a hF=>?_
 refine aI (aB ?_)
 refine aR hF (c:=.tmp 29) rfl (fun d9=>?_) (fun d9=>?_)
 ·have hP:=Fx.cT d9 hP
  refine aH ?_
  refine aC ?_
  refine aA hF (aG hF rfl rfl) rfl rfl rfl fun a hF=>?_
  refine aA hF (aG hF rfl rfl) rfl rfl rfl fun a hF=>?_
  refine aI (aB ?_)
  refine c_ret ?_
  have hM:=hM.rowNil (X:=UInt8) 0 5
  have hM:=rowFow hM (i:=0) rfl
  have hP:=Option.some.inj hP
  subst hP
  refine eH (rs:=[.tmp 2,.tmp 3]) Tryz.results41 hF (cX hF rfl (cX hF rfl dC)) rfl ?_
  exact ⟨SV.nil,rfl,selM hM [0] 2 rfl⟩
 have hP:=Fx.cF d9 hP
 refine aT (aB ?_)
 refine aH ?_
 refine aC ?_
 refine aN hF rfl rfl rfl (lE (X:=UInt8) (ys:=[84,82,67,49]) (m:=4) Tryz.underlying23 in5 rfl rfl rfl rfl (by decide) (by decide) hF rfl rfl (PartsE.cons rfl (PartsE.cons rfl (PartsE.cons rfl (PartsE.cons rfl PartsE.nil)))) fun c3 w t4 j0=>?_)
 have hM:=hM.plus j0
 replace hM:MemL _ (pt c3 (encs ([84,82,67,49]:List UInt8)) 5 :: pt c0 (RRecord.enc (RRecord.mk (RInput.mk s1 s3) s7 x0.end_)) 36 :: Lr):=hM
 intro a hF
 refine aN hF rfl rfl rfl (aAz (l:=[84,82,67,49]) Tryz.underlying23 Tryz.underlying5 hF rfl rfl rfl (hM.obj (i:=0) rfl) fun w m0=>?_)
 have hM:=hM.chg m0 (i:=0) rfl
 replace hM:MemL _ (fowL 5 (⟨some ⟨c3,0,none⟩,4,4⟩) [84,82,67,49] :: pt c0 (RRecord.enc (RRecord.mk (RInput.mk s1 s3) s7 x0.end_)) 36 :: Lr):=hM
 intro a hF
 refine aA hF (cU z167 Tryz.underlying167 pl167 hF (parts:=[(0,.tmp 31)]) rfl rfl (cN rfl rfl (by rw [RWriter.len]; decide) (RWriter.s_b _ _) dI)) rfl rfl rfl fun a hF=>?_
 refine aN hF rfl rfl rfl (dD hF rfl rfl rfl fun c1 w t5 j1=>?_)
 have hM:=hM.plus j1
 replace hM:MemL _ (pt c1 (RWriter.enc (RWriter.mk (⟨some ⟨c3,0,none⟩,4,4⟩))) 167 :: fowL 5 (⟨some ⟨c3,0,none⟩,4,4⟩) [84,82,67,49] :: pt c0 (RRecord.enc (RRecord.mk (RInput.mk s1 s3) s7 x0.end_)) 36 :: Lr):=hM
 intro a hF
 refine aA hF (aG hF rfl rfl) rfl rfl rfl fun a hF=>?_
 refine aI (aB ?_)
 refine aH ?_
 refine aC ?_
 refine aA hF (aF hF rfl rfl) rfl rfl rfl fun a hF=>?_
 refine aA hF (aD (off':=0) Tryz.underlying36 rfl in30 rfl hF rfl rfl rfl) rfl rfl rfl fun a hF=>?_
 refine aA hF (aD (off':=0) Tryz.underlying30 rfl in23 rfl hF rfl rfl rfl) rfl rfl rfl fun a hF=>?_
 refine aA hF (aJ Tryz.isAgg23 hF rfl rfl ((hM.cells (i:=2) rfl (RRecord.c_in_ _)).get 0 (RInput.g_ctx _))) rfl rfl rfl fun a hF=>?_
 refine aA hF (bG (f2 _ (hsub _ (dropM hM 3))) Tryz.underlying23 hF rfl rfl) rfl rfl rfl fun a hF=>?_
 obtain ⟨p8,m8,hP⟩:=bind_some hP
 refine aN hF rfl rfl rfl (aO (xs:=[.tmp 34,.tmp 38]) Tryz.call101 hF rfl rfl (dR m8 hM ) fun v w hR=>?_)
 obtain ⟨g6,rfl,hM⟩:=hR
 replace hM:MemL _ (pt c1 (RWriter.enc (RWriter.mk g6)) 167 :: fowL 5 g6 p8.b :: pt c0 (RRecord.enc (RRecord.mk (RInput.mk s1 s3) s7 x0.end_)) 36 :: Lr):=hM
 intro a hF
 refine aI (aB ?_)
 refine aH ?_
 refine bQ mixed (by kernel_rfl) hM [0,2] 3 rfl fun hch=>?_
 refine aL hF hch 0 rfl (by kernel_rfl) rfl rfl rfl (fun w hM=>(aF hF rfl rfl)) fun a hF=>?_
 refine aL hF hch 1 rfl (by kernel_rfl) rfl rfl rfl (fun w hM=>(aF hF rfl rfl)) fun a hF=>?_
 refine aL hF hch 2 rfl (by kernel_rfl) rfl rfl rfl (fun w hM=>(aX hF rfl rfl)) fun a hF=>?_
 refine aL hF hch 3 rfl (by kernel_rfl) rfl rfl rfl (fun w hM=>(aD (off':=0) Tryz.underlying167 rfl in23 rfl hF rfl rfl rfl)) fun a hF=>?_
 refine aL hF hch 4 rfl (by kernel_rfl) rfl rfl rfl (fun w hM=>(aJ Tryz.isAgg23 hF rfl rfl (hM.cell (i:=0) rfl (RWriter.g_b _)))) fun a hF=>?_
 refine aL hF hch 5 rfl (by kernel_rfl) rfl rfl rfl (fun w hM=>(aD (off':=0) Tryz.underlying36 rfl in30 rfl hF rfl rfl rfl)) fun a hF=>?_
 refine aL hF hch 6 rfl (by kernel_rfl) rfl rfl rfl (fun w hM=>(aD (off':=0) Tryz.underlying30 rfl in23 rfl hF rfl rfl rfl)) fun a hF=>?_
 refine aL hF hch 7 rfl (by kernel_rfl) rfl rfl rfl (fun w hM=>(aJ Tryz.isAgg23 hF rfl rfl ((hM.cells (i:=1) rfl (RRecord.c_in_ _)).get 0 (RInput.g_ctx _)))) fun a hF=>?_
 refine bS hch 8 (by kernel_rfl) rfl rfl ?_
 refine cR hF 8 rfl rfl rfl rfl rfl fun w hMs hM=>?_
 obtain ⟨k3,m4,hP⟩:=bind_some hP
 refine (nO m4 Tryz.underlying23 in5 rfl rfl rfl rfl hF rfl rfl rfl (hM.hold 1 _ rfl) (f2 _ (hsub _ (dropM hM 3))) fun g7 w k9=>?_)
 have hM:=hM.chg k9 (i:=1) rfl
 replace hM:MemL _ (pt c1 (RWriter.enc (RWriter.mk g6)) 167 :: fowL 5 g7 k3 :: pt c0 (RRecord.enc (RRecord.mk (RInput.mk s1 s3) s7 x0.end_)) 36 :: Lr):=hM
 have hMs:=selM hM [0,2] 3 rfl
 refine ⟨_,_,hMs,hM,.inl fun _ h=>h,fun a hF=>?_⟩
 refine aL hF hch 9 rfl (by kernel_rfl) rfl rfl rfl (fun w hM=>(aX hF rfl rfl)) fun a hF=>?_
 refine aL hF hch 10 rfl (by kernel_rfl) rfl rfl rfl (fun w hM=>(aD (off':=0) Tryz.underlying167 rfl in23 rfl hF rfl rfl rfl)) fun a hF=>?_
 refine bS hch 11 (by kernel_rfl) rfl rfl ?_
 refine fN 11 rfl rfl rfl rfl fun w hMs hM=>?_
 refine (bZ Tryz.sizeOf23 (hM.obj (i:=0) rfl) hF rfl rfl rfl rfl (by rw [RWriter.len]; decide) (RWriter.s_b _ _) fun w m1=>?_)
 have hM:=hM.chg m1 (i:=0) rfl
 replace hM:MemL _ (pt c1 (RWriter.enc (RWriter.mk g7)) 167 :: fowL 5 g7 k3 :: pt c0 (RRecord.enc (RRecord.mk (RInput.mk s1 s3) s7 x0.end_)) 36 :: Lr):=hM
 have hMs:=hM
 refine ⟨_,_,hMs,hM,.inr (by kernel_rfl),?_⟩
 refine cI hch (by kernel_rfl) fun w hM=>?_
 refine aB ?_
 refine aH ?_
 refine aC ?_
 refine aA hF (aF hF rfl rfl) rfl rfl rfl fun a hF=>?_
 refine aA hF (aD (off':=0) Tryz.underlying36 rfl in30 rfl hF rfl rfl rfl) rfl rfl rfl fun a hF=>?_
 refine aA hF (aD (off':=1) Tryz.underlying30 rfl in28 rfl hF rfl rfl rfl) rfl rfl rfl fun a hF=>?_
 refine aA hF (aJ Tryz.isAgg28 hF rfl rfl ((hM.cells (i:=2) rfl (RRecord.c_in_ _)).get 1 (RInput.g_tables _))) rfl rfl rfl fun a hF=>?_
 refine aA hF (cV (f5 _ (hsub _ (dropM hM 3))) q6.len Tryz.underlying28 hF rfl rfl) rfl rfl rfl fun a hF=>?_
 obtain ⟨p9,m9,hP⟩:=bind_some hP
 refine aN hF rfl rfl rfl (aO (xs:=[.tmp 51,.tmp 55]) Tryz.call102 hF rfl rfl (bR m9 hM ) fun v w hR=>?_)
 obtain ⟨g8,rfl,hM⟩:=hR
 replace hM:MemL _ (pt c1 (RWriter.enc (RWriter.mk g8)) 167 :: fowL 5 g8 p9.b :: pt c0 (RRecord.enc (RRecord.mk (RInput.mk s1 s3) s7 x0.end_)) 36 :: Lr):=hM
 intro a hF
 refine aI (aB ?_)
 refine aH ?_
 refine aS hF hM hP (fun F x a w=>match x with | i2=>∃ (g9:SV),Fr 115 [(1,.pointer (some ⟨c0,0,none⟩)),(2,(SV.nil).v),(3,.int .i64 0),(6,.pointer (some ⟨c1,0,none⟩))] a ∧ MemL w (pt c1 (RWriter.enc (RWriter.mk g9)) 167 :: fowL 5 g9 i2.b :: pt c0 (RRecord.enc (RRecord.mk (RInput.mk s1 s3) s7 x0.end_)) 36 :: Lr)) (fun u9 hP u3 hF hM=>?_) ?_
 ·refine aH ?_
  refine aC ?_
  refine aA hF (aD (off':=0) Tryz.underlying36 rfl in30 rfl hF rfl rfl rfl) rfl rfl rfl fun a hF=>?_
  refine aA hF (aD (off':=1) Tryz.underlying30 rfl in28 rfl hF rfl rfl rfl) rfl rfl rfl fun a hF=>?_
  refine aA hF (aJ Tryz.isAgg28 hF rfl rfl ((hM.cells (i:=2) rfl (RRecord.c_in_ _)).get 1 (RInput.g_tables _))) rfl rfl rfl fun a hF=>?_
  refine aA hF (cV (f5 _ (hsub _ (dropM hM 3))) q6.len Tryz.underlying28 hF rfl rfl) rfl rfl rfl fun a hF=>?_
  refine aA hF (aF hF rfl rfl) rfl rfl rfl fun a hF=>?_
  refine aI (aB ?_)
  refine aV ?_
  refine bN hF hM hP (fun F x a w=>match x with | (d4,d5)=>∃ (c9:SV),Fr 115 [(61,.int .i64 d5),(1,.pointer (some ⟨c0,0,none⟩)),(2,(SV.nil).v),(3,.int .i64 0),(59,(s3).v),(6,.pointer (some ⟨c1,0,none⟩)),(60,.int .i64 (x0.in_.tables.length:Int))] a ∧ MemL w (pt c1 (RWriter.enc (RWriter.mk c9)) 167 :: fowL 5 c9 d4.b :: pt c0 (RRecord.enc (RRecord.mk (RInput.mk s1 s3) s7 x0.end_)) 36 :: Lr)) (fun hF hM=>⟨g8,hF.to ⟨rfl,rfl,rfl,rfl,rfl,rfl,rfl,trivial⟩,hM⟩) ?_
  rintro ⟨d4,d5⟩ a w z2 hP p4 ⟨c9,hF,hM⟩
  replace hP:Sh.cL x0 d4 d5 = _:=hP
  unfold Sh.cL at hP
  refine aH ?_
  refine aC ?_
  refine aA hF (cH hF rfl rfl rfl) rfl rfl rfl fun a hF=>?_
  refine aI (aB ?_)
  refine aH ?_
  refine aR hF (c:=.tmp 62) rfl (fun g0=>?_) (fun g0=>?_)
  ·have hP:=Fx.cT g0 hP
   refine aT (aB ?_)
   refine aH ?_
   refine aV ?_
   refine aH ?_
   refine aC ?_
   obtain ⟨u5,i7,hP⟩:=bind_some hP
   have k5:=aW i7
   obtain ⟨u1,l5,g4⟩:=Each.getr q6 k5.2
   have l2:=Each.bd q6 (bK i7)
   refine aA hF (bC (sz:=1) (f5 _ (hsub _ (dropM hM 3))) Tryz.underlying28 in23 rfl hF rfl rfl rfl l2) rfl rfl rfl fun a hF=>?_
   refine aA hF (aJ Tryz.isAgg23 hF rfl rfl ((((f5 _ (hsub _ (dropM hM 3))).elemS l5)).get 0 rfl)) rfl rfl rfl fun a hF=>?_
   refine aA hF (aG hF rfl rfl) rfl rfl rfl fun a hF=>?_
   refine aI (aB ?_)
   refine aH ?_
   refine aC ?_
   refine aA hF (aF hF rfl rfl) rfl rfl rfl fun a hF=>?_
   refine aA hF (aF hF rfl rfl) rfl rfl rfl fun a hF=>?_
   refine aA hF (bG (g4 _ (hsub _ (dropM hM 3))) Tryz.underlying23 hF rfl rfl) rfl rfl rfl fun a hF=>?_
   obtain ⟨t0,n0,hP⟩:=bind_some hP
   refine aN hF rfl rfl rfl (aO (xs:=[.tmp 65,.tmp 67]) Tryz.call101 hF rfl rfl (dR n0 hM ) fun v w hR=>?_)
   obtain ⟨i0,rfl,hM⟩:=hR
   replace hM:MemL _ (pt c1 (RWriter.enc (RWriter.mk i0)) 167 :: fowL 5 i0 t0.b :: pt c0 (RRecord.enc (RRecord.mk (RInput.mk s1 s3) s7 x0.end_)) 36 :: Lr):=hM
   intro a hF
   refine aI (aB ?_)
   refine aC ?_
   refine aA hF (aF hF rfl rfl) rfl rfl rfl fun a hF=>?_
   refine aA hF (aF hF rfl rfl) rfl rfl rfl fun a hF=>?_
   refine aA hF (aX hF rfl rfl) rfl rfl rfl fun a hF=>?_
   refine aA hF (aD (off':=0) Tryz.underlying167 rfl in23 rfl hF rfl rfl rfl) rfl rfl rfl fun a hF=>?_
   refine aA hF (aJ Tryz.isAgg23 hF rfl rfl (hM.cell (i:=0) rfl (RWriter.g_b _))) rfl rfl rfl fun a hF=>?_
   refine aA hF (aF hF rfl rfl) rfl rfl rfl fun a hF=>?_
   obtain ⟨i4,m5,hP⟩:=bind_some hP
   refine aN hF rfl rfl rfl (nO m5 Tryz.underlying23 in5 rfl rfl rfl rfl hF rfl rfl rfl (hM.hold 1 _ rfl) (g4 _ (hsub _ (dropM hM 3))) fun d0 w l0=>?_)
   have hM:=hM.chg l0 (i:=1) rfl
   replace hM:MemL _ (pt c1 (RWriter.enc (RWriter.mk i0)) 167 :: fowL 5 d0 i4 :: pt c0 (RRecord.enc (RRecord.mk (RInput.mk s1 s3) s7 x0.end_)) 36 :: Lr):=hM
   intro a hF
   refine aA hF (aX hF rfl rfl) rfl rfl rfl fun a hF=>?_
   refine aA hF (aD (off':=0) Tryz.underlying167 rfl in23 rfl hF rfl rfl rfl) rfl rfl rfl fun a hF=>?_
   refine bO rfl rfl (bZ Tryz.sizeOf23 (hM.obj (i:=0) rfl) hF rfl rfl rfl rfl (by rw [RWriter.len]; decide) (RWriter.s_b _ _) fun w m2=>?_)
   have hM:=hM.chg m2 (i:=0) rfl
   replace hM:MemL _ (pt c1 (RWriter.enc (RWriter.mk d0)) 167 :: fowL 5 d0 i4 :: pt c0 (RRecord.enc (RRecord.mk (RInput.mk s1 s3) s7 x0.end_)) 36 :: Lr):=hM
   refine aI (bI (aB ?_))
   refine aC ?_
   refine aA hF (cA hF rfl rfl rfl) rfl rfl rfl fun a hF=>?_
   refine aA hF (aF hF rfl rfl) rfl rfl rfl fun a hF=>?_
   refine aI (aB ?_)
   have hP:=Option.some.inj hP
   subst hP
   exact ⟨((QWriter.mk i4),(IntKind.i64.wrap (d5 + 1))),rfl,d0,hF.to ⟨rfl,rfl,rfl,rfl,rfl,rfl,rfl,trivial⟩,hM⟩
  have hP:=Fx.cF g0 hP
  refine bW (bD (bD (cG ?_)))
  refine aB ?_
  have hP:=Option.some.inj hP
  subst hP
  have hP:=p4 _ rfl
  subst hP
  exact ⟨d4,rfl,c9,hF.to ⟨rfl,rfl,rfl,rfl,trivial⟩,hM⟩
 rintro i2 a w hP ⟨g9,hF,hM⟩
 replace hP:Sh.iZ x0 i2 = _:=hP
 unfold Sh.iZ at hP
 refine aB ?_
 refine aH ?_
 refine aC ?_
 refine aA hF (aF hF rfl rfl) rfl rfl rfl fun a hF=>?_
 refine aA hF (aD (off':=3) Tryz.underlying36 rfl in34 rfl hF rfl rfl rfl) rfl rfl rfl fun a hF=>?_
 refine aA hF (aJ Tryz.isAgg34 hF rfl rfl (hM.cell (i:=2) rfl (RRecord.g_end_ _))) rfl rfl rfl fun a hF=>?_
 obtain ⟨t1,n1,hP⟩:=bind_some hP
 refine aN hF rfl rfl rfl (aO (xs:=[.tmp 79,.tmp 81]) Tryz.call102 hF rfl rfl (bR n1 hM ) fun v w hR=>?_)
 obtain ⟨j8,rfl,hM⟩:=hR
 replace hM:MemL _ (pt c1 (RWriter.enc (RWriter.mk j8)) 167 :: fowL 5 j8 t1.b :: pt c0 (RRecord.enc (RRecord.mk (RInput.mk s1 s3) s7 x0.end_)) 36 :: Lr):=hM
 intro a hF
 refine aI (aB ?_)
 refine aH ?_
 refine aC ?_
 refine aA hF (aF hF rfl rfl) rfl rfl rfl fun a hF=>?_
 refine aA hF (aD (off':=2) Tryz.underlying36 rfl in33 rfl hF rfl rfl rfl) rfl rfl rfl fun a hF=>?_
 refine aA hF (aJ Tryz.isAgg33 hF rfl rfl (hM.cell (i:=2) rfl (RRecord.g_marks _))) rfl rfl rfl fun a hF=>?_
 refine aA hF (cV (f9 _ (hsub _ (dropM hM 3))) q10.len Tryz.underlying33 hF rfl rfl) rfl rfl rfl fun a hF=>?_
 obtain ⟨t2,n2,hP⟩:=bind_some hP
 refine aN hF rfl rfl rfl (aO (xs:=[.tmp 83,.tmp 86]) Tryz.call103 hF rfl rfl (gN n2 hM ) fun v w hR=>?_)
 obtain ⟨i1,rfl,hM⟩:=hR
 replace hM:MemL _ (pt c1 (RWriter.enc (RWriter.mk i1)) 167 :: fowL 5 i1 t2.b :: pt c0 (RRecord.enc (RRecord.mk (RInput.mk s1 s3) s7 x0.end_)) 36 :: Lr):=hM
 intro a hF
 refine aI (aB ?_)
 refine aH ?_
 refine aS hF hM hP (fun F x a w=>match x with | i3=>∃ (d1:SV),Fr 115 [(2,(SV.nil).v),(3,.int .i64 0),(6,.pointer (some ⟨c1,0,none⟩))] a ∧ MemL w (pt c1 (RWriter.enc (RWriter.mk d1)) 167 :: fowL 5 d1 i3.b :: Lr)) (fun z0 hP u4 hF hM=>?_) ?_
 ·refine aH ?_
  refine aC ?_
  refine aA hF (aD (off':=2) Tryz.underlying36 rfl in33 rfl hF rfl rfl rfl) rfl rfl rfl fun a hF=>?_
  refine aA hF (aJ Tryz.isAgg33 hF rfl rfl (hM.cell (i:=2) rfl (RRecord.g_marks _))) rfl rfl rfl fun a hF=>?_
  refine aA hF (cV (f9 _ (hsub _ (dropM hM 3))) q10.len Tryz.underlying33 hF rfl rfl) rfl rfl rfl fun a hF=>?_
  refine aA hF (aF hF rfl rfl) rfl rfl rfl fun a hF=>?_
  refine aI (aB ?_)
  refine aV ?_
  refine bN hF hM hP (fun F x a w=>match x with | (c4,d6)=>∃ (c2:SV),Fr 115 [(91,.int .i64 d6),(2,(SV.nil).v),(3,.int .i64 0),(6,.pointer (some ⟨c1,0,none⟩)),(89,(s7).v),(90,.int .i64 (x0.marks.length:Int))] a ∧ MemL w (pt c1 (RWriter.enc (RWriter.mk c2)) 167 :: fowL 5 c2 c4.b :: Lr)) (fun hF hM=>⟨i1,hF.to ⟨rfl,rfl,rfl,rfl,rfl,rfl,trivial⟩,selM hM [0,1] 3 rfl⟩) ?_
  rintro ⟨c4,d6⟩ a w z3 hP j3 ⟨c2,hF,hM⟩
  replace hP:Sh.bI x0 c4 d6 = _:=hP
  unfold Sh.bI at hP
  refine aH ?_
  refine aC ?_
  refine aA hF (cH hF rfl rfl rfl) rfl rfl rfl fun a hF=>?_
  refine aI (aB ?_)
  refine aH ?_
  refine aR hF (c:=.tmp 92) rfl (fun g1=>?_) (fun g1=>?_)
  ·have hP:=Fx.cT g1 hP
   refine aT (aB ?_)
   refine aH ?_
   refine aV ?_
   refine aH ?_
   refine aC ?_
   obtain ⟨c6,i8,hP⟩:=bind_some hP
   have k6:=aW i8
   obtain ⟨u2,l6,l8⟩:=Each.getr q10 k6.2
   have l3:=Each.bd q10 (bK i8)
   obtain ⟨j9,k0,k1,t9,k2,rfl,n9,p0,p1,p7,p2⟩:=l8
   refine aA hF (bC (sz:=7) (f9 _ (hsub _ (dropM hM 2))) Tryz.underlying33 in60 rfl hF rfl rfl rfl l3) rfl rfl rfl fun a hF=>?_
   refine aA hF (bB Tryz.isAgg60 Tryz.sizeOf60 hF rfl rfl (RMark.len _) (((f9 _ (hsub _ (dropM hM 2))).elemS l6))) rfl rfl rfl fun a hF=>?_
   refine aN hF rfl rfl rfl (cB z60 (zs:=RMark.zero.enc) rfl rfl fun c7 w t3 i9=>?_)
   have hM:=hM.plus i9
   replace hM:MemL _ (pt c7 (RMark.enc (RMark.mk 0 0 false SV.nil SV.nil SV.nil SV.nil)) 60 :: pt c1 (RWriter.enc (RWriter.mk c2)) 167 :: fowL 5 c2 c4.b :: Lr):=hM
   intro a hF
   refine bO rfl rfl (bL (vs:=_) Tryz.sizeOf60 (hM.obj (i:=0) rfl) hF rfl rfl rfl rfl (RMark.len _) (RMark.one _) (by first | (rw [RMark.len,RMark.len]; decide) | (rw [RMark.len]; decide)) (bU ((RMark.len _).trans (RMark.len _).symm)) fun w m3=>?_)
   have hM:=hM.chg m3 (i:=0) rfl
   replace hM:MemL _ (pt c7 (RMark.enc (RMark.mk c6.at_ c6.next c6.done j9 k0 k1 k2)) 60 :: pt c1 (RWriter.enc (RWriter.mk c2)) 167 :: fowL 5 c2 c4.b :: Lr):=hM
   refine aI (aB ?_)
   refine aH ?_
   refine aC ?_
   refine aA hF (aF hF rfl rfl) rfl rfl rfl fun a hF=>?_
   refine aA hF (bB Tryz.isAgg60 Tryz.sizeOf60 hF rfl rfl (RMark.len _) (hM.cells (i:=0) rfl (bV (RMark.len _)))) rfl rfl rfl fun a hF=>?_
   obtain ⟨i5,n3,hP⟩:=bind_some hP
   refine aN hF rfl rfl rfl (aO (xs:=[.tmp 95,.tmp 96]) Tryz.call104 hF rfl rfl (jY n3 (selM hM [1,2,0] 3 rfl) (Bf:=Bf) (fun w hM=>hsub _ (dropM hM 1)) n9 p0 p1 p7 p2) fun v w hR=>?_)
   obtain ⟨d2,rfl,hM⟩:=hR
   replace hM:MemL _ (pt c1 (RWriter.enc (RWriter.mk d2)) 167 :: fowL 5 d2 i5.b :: pt c7 (RMark.enc (RMark.mk c6.at_ c6.next c6.done j9 k0 k1 k2)) 60 :: Lr):=hM
   intro a hF
   refine aI (aB ?_)
   refine aH ?_
   refine aC ?_
   refine aA hF (aF hF rfl rfl) rfl rfl rfl fun a hF=>?_
   refine aA hF (aX hF rfl rfl) rfl rfl rfl fun a hF=>?_
   refine aA hF (aD (off':=0) Tryz.underlying167 rfl in23 rfl hF rfl rfl rfl) rfl rfl rfl fun a hF=>?_
   refine aA hF (aJ Tryz.isAgg23 hF rfl rfl (hM.cell (i:=0) rfl (RWriter.g_b _))) rfl rfl rfl fun a hF=>?_
   refine aA hF (bG (hY (hM.hold 1 _ rfl)) Tryz.underlying23 hF rfl rfl) rfl rfl rfl fun a hF=>?_
   refine aA hF (eJ hF rfl rfl rfl) rfl rfl rfl fun a hF=>?_
   refine aI (aB ?_)
   refine aR hF (c:=.tmp 103) rfl (fun g2=>?_) (fun g2=>?_)
   ·have hP:=Fx.cT g2 hP
    refine bW (zF rfl (bD (bD (cG ?_))))
    refine aB ?_
    have hP:=Option.some.inj hP
    subst hP
    have hP:=j3 _ rfl
    subst hP
    exact ⟨i5,rfl,d2,hF.to ⟨rfl,rfl,rfl,trivial⟩,selM hM [0,1] 3 rfl⟩
   have hP:=Fx.cF g2 hP
   refine aT (bI (aB ?_))
   refine aC ?_
   refine aA hF (cA hF rfl rfl rfl) rfl rfl rfl fun a hF=>?_
   refine aA hF (aF hF rfl rfl) rfl rfl rfl fun a hF=>?_
   refine aI (aB ?_)
   have hP:=Option.some.inj hP
   subst hP
   exact ⟨(i5,(IntKind.i64.wrap (d6 + 1))),rfl,d2,hF.to ⟨rfl,rfl,rfl,rfl,rfl,rfl,trivial⟩,selM hM [0,1] 3 rfl⟩
  have hP:=Fx.cF g1 hP
  refine bW (bD (bD (cG ?_)))
  refine aB ?_
  have hP:=Option.some.inj hP
  subst hP
  have hP:=j3 _ rfl
  subst hP
  exact ⟨c4,rfl,c2,hF.to ⟨rfl,rfl,rfl,trivial⟩,hM⟩
 rintro i3 a w hP ⟨d1,hF,hM⟩
 replace hP:Sh.jA i3 = _:=hP
 unfold Sh.jA at hP
 refine aB ?_
 refine aH ?_
 refine aH ?_
 refine aC ?_
 refine aA hF (aF hF rfl rfl) rfl rfl rfl fun a hF=>?_
 refine aA hF (aX hF rfl rfl) rfl rfl rfl fun a hF=>?_
 refine aA hF (aD (off':=0) Tryz.underlying167 rfl in23 rfl hF rfl rfl rfl) rfl rfl rfl fun a hF=>?_
 refine aA hF (aJ Tryz.isAgg23 hF rfl rfl (hM.cell (i:=0) rfl (RWriter.g_b _))) rfl rfl rfl fun a hF=>?_
 refine aA hF (bG (hY (hM.hold 1 _ rfl)) Tryz.underlying23 hF rfl rfl) rfl rfl rfl fun a hF=>?_
 refine aA hF (eJ hF rfl rfl rfl) rfl rfl rfl fun a hF=>?_
 refine aI (aB ?_)
 refine aR hF (c:=.tmp 110) rfl (fun g3=>?_) (fun g3=>?_)
 ·have hP:=Fx.cT g3 hP
  refine aH ?_
  refine aC ?_
  refine aA hF (aG hF rfl rfl) rfl rfl rfl fun a hF=>?_
  refine aA hF (aG hF rfl rfl) rfl rfl rfl fun a hF=>?_
  refine aI (aB ?_)
  refine c_ret ?_
  have hM:=hM.rowNil (X:=UInt8) 0 5
  have hM:=rowFow hM (i:=0) rfl
  have hP:=Option.some.inj hP
  subst hP
  refine eH (rs:=[.tmp 2,.tmp 3]) Tryz.results41 hF (cX hF rfl (cX hF rfl dC)) rfl ?_
  exact ⟨SV.nil,rfl,selM hM [0] 3 rfl⟩
 have hP:=Fx.cF g3 hP
 refine aT (aB ?_)
 refine aH ?_
 refine aC ?_
 refine aA hF (aF hF rfl rfl) rfl rfl rfl fun a hF=>?_
 refine aA hF (aX hF rfl rfl) rfl rfl rfl fun a hF=>?_
 refine aA hF (aD (off':=0) Tryz.underlying167 rfl in23 rfl hF rfl rfl rfl) rfl rfl rfl fun a hF=>?_
 refine aA hF (aJ Tryz.isAgg23 hF rfl rfl (hM.cell (i:=0) rfl (RWriter.g_b _))) rfl rfl rfl fun a hF=>?_
 refine aA hF (aG hF rfl rfl) rfl rfl rfl fun a hF=>?_
 refine aA hF (aG hF rfl rfl) rfl rfl rfl fun a hF=>?_
 refine aI (aB ?_)
 refine c_ret ?_
 have hP:=Option.some.inj hP
 subst hP
 refine eH (rs:=[.tmp 2,.tmp 3]) Tryz.results41 hF (cX hF rfl (cX hF rfl dC)) rfl ?_
 exact ⟨d1,rfl,selM hM [1] 2 rfl⟩
end Go.Proofs
end
section
namespace Go.Ev
set_option linter.unusedVariables false
set_option linter.unusedSimpArgs false
open Go.Fw Go.Proofs
set_option maxRecDepth 1000000
theorem known_ev:okT (acall (tabOf Tryz.prog) 1000 40 [] (.f 22 [] []) [] { h:=.e,nx:=0 }) = true:=by kernel_rfl
end Go.Ev
end
section
namespace Go.Proofs
open Go.Fw Go.Fx
theorem jE {out:Bool} {w0:World} {Lr:List Res} (hP:Sh.lP = some out) (hM:MemL w0 Lr):Calls Tryz.prog 22 #[] w0 (Ret fun v w'=>v = .bool out ∧ MemL w' Lr):=by
  cases hP
  refine Calls.mono (Go.Ev.closed_true (fuel:=1000) (k:=40) (by kernel_rfl) Go.Ev.known_ev w0) fun e w' he=>?_
  cases e <;> first
    | exact ⟨he.1,hM.keep he.2⟩
    | exact he
end Go.Proofs
end
section
namespace Go.Proofs
open Go.Fw Go.Fx
set_option maxRecDepth 10000
set_option linter.unusedVariables false
set_option linter.unusedSimpArgs false
set_option maxHeartbeats 4000000 in
theorem rB {x0:QRecord} {x1:Int} {x2:UInt8} {x3:List UInt8} {s1:SV} {s3:SV} {hs4:List SV} {s7:SV} {hs8:List RMark} {s11:SV} {out:Bool} {w0:World} {Bf:World → Prop} {Lr:List Res} (hP:Sh.iJ x0 x1 x2 x3 = some out) (hM:MemL w0 (Lr)) (hsub:∀ w,MemL w Lr → Bf w) (f2:LIn Bf s1 x0.in_.ctx) (f5:LIn Bf s3 hs4) (q6:Each (LIn (X:=UInt8) Bf) hs4 x0.in_.tables) (f9:LIn Bf s7 hs8) (q10:Each (QMarkIn Bf) hs8 x0.marks) (f12:LIn Bf s11 x3):Calls Tryz.prog 12 #[.agg (RRecord.enc (RRecord.mk (RInput.mk s1 s3) s7 x0.end_)).toArray,.int .i64 x1,.int .u8 (x2.toNat:Int),(s11).v] w0 (Ret fun v w'=>v = .bool out ∧ MemL w' (Lr)):=by
 unfold Sh.iJ at hP
 refine aM (vs:=[.agg (RRecord.enc (RRecord.mk (RInput.mk s1 s3) s7 x0.end_)).toArray,.int .i64 x1,.int .u8 (x2.toNat:Int),(s11).v]) Tryz.func12 rfl Tryz.ntmps12 rfl fun a hF=>?_
 refine aH ?_
 refine aC ?_
 refine aN hF rfl rfl rfl (dD hF rfl rfl rfl fun c0 w p7 k0=>?_)
 have hM:=hM.plus k0
 replace hM:MemL _ (pt c0 (RRecord.enc (RRecord.mk (RInput.mk s1 s3) s7 x0.end_)) 36 :: Lr):=hM
 intro a hF
 refine aA hF (aG hF rfl rfl) rfl rfl rfl fun a hF=>?_
 refine aI (aB ?_)
 refine aH ?_
 refine aH ?_
 refine aC ?_
 obtain ⟨u5,l7,hP⟩:=bind_some hP
 refine aN hF rfl rfl rfl (aO (xs:=[]) Tryz.call22 hF rfl rfl (jE l7 hM ) fun v w hR=>?_)
 obtain ⟨rfl,hM⟩:=hR
 replace hM:MemL _ (pt c0 (RRecord.enc (RRecord.mk (RInput.mk s1 s3) s7 x0.end_)) 36 :: Lr):=hM
 intro a hF
 refine aA hF (dJ hF rfl rfl) rfl rfl rfl fun a hF=>?_
 refine aI (aB ?_)
 refine aR hF (c:=.tmp 19) rfl (fun i1=>?_) (fun i1=>?_)
 ·have hP:=Fx.cT i1 hP
  refine aH ?_
  refine aC ?_
  refine aA hF (aG hF rfl rfl) rfl rfl rfl fun a hF=>?_
  refine aI (aB ?_)
  refine c_ret ?_
  have hP:=Option.some.inj hP
  subst hP
  refine aY Tryz.results12 hF rfl ?_
  exact ⟨rfl,selM hM [] 1 rfl⟩
 have hP:=Fx.cF i1 hP
 refine aT (aB ?_)
 refine aH ?_
 refine aC ?_
 refine aA hF (bB Tryz.isAgg36 Tryz.sizeOf36 hF rfl rfl (RRecord.len _) (hM.cells (i:=0) rfl (bV (RRecord.len _)))) rfl rfl rfl fun a hF=>?_
 obtain ⟨c2,l8,hP⟩:=bind_some hP
 refine aN hF rfl rfl rfl (aO (xs:=[.tmp 21]) Tryz.call41 hF rfl rfl (jB l8 hM (Bf:=Bf) (fun w hM=>hsub _ (dropM hM 1)) f2 f5 q6 f9 q10) fun v w hR=>?_)
 obtain ⟨c3,rfl,hM⟩:=hR
 replace hM:MemL _ (fowL 5 c3 c2.1 :: pt c0 (RRecord.enc (RRecord.mk (RInput.mk s1 s3) s7 x0.end_)) 36 :: Lr):=hM
 intro a hF
 refine aA hF (aF hF rfl rfl) rfl rfl rfl fun a hF=>?_
 refine aA hF (dG hF rfl rfl rfl) rfl rfl rfl fun a hF=>?_
 refine aA hF (dG hF rfl rfl rfl) rfl rfl rfl fun a hF=>?_
 refine aA hF (aG hF rfl rfl) rfl rfl rfl fun a hF=>?_
 refine aA hF (aG hF rfl rfl) rfl rfl rfl fun a hF=>?_
 refine aI (aB ?_)
 refine aH ?_
 refine aC ?_
 refine aA hF (bB Tryz.isAgg36 Tryz.sizeOf36 hF rfl rfl (RRecord.len _) (hM.cells (i:=1) rfl (bV (RRecord.len _)))) rfl rfl rfl fun a hF=>?_
 obtain ⟨g9,l9,hP⟩:=bind_some hP
 refine aN hF rfl rfl rfl (aO (xs:=[.tmp 26]) Tryz.call42 hF rfl rfl (mF l9 hM (Bf:=Bf) (fun w hM=>hsub _ (dropM hM 2)) f2 f5 q6 f9 q10) fun v w hR=>?_)
 obtain ⟨g6,rfl,hM⟩:=hR
 replace hM:MemL _ (rowL 0 g6 5 g9.1 :: fowL 5 c3 c2.1 :: pt c0 (RRecord.enc (RRecord.mk (RInput.mk s1 s3) s7 x0.end_)) 36 :: Lr):=hM
 intro a hF
 refine aA hF (aF hF rfl rfl) rfl rfl rfl fun a hF=>?_
 refine aA hF (dG hF rfl rfl rfl) rfl rfl rfl fun a hF=>?_
 refine aA hF (dG hF rfl rfl rfl) rfl rfl rfl fun a hF=>?_
 refine aA hF (aG hF rfl rfl) rfl rfl rfl fun a hF=>?_
 refine aA hF (aG hF rfl rfl) rfl rfl rfl fun a hF=>?_
 refine aI (aB ?_)
 refine aH ?_
 refine aH ?_
 refine aC ?_
 refine aA hF (aF hF rfl rfl) rfl rfl rfl fun a hF=>?_
 refine aA hF (aF hF rfl rfl) rfl rfl rfl fun a hF=>?_
 refine aA hF (cW hF rfl rfl rfl) rfl rfl rfl fun a hF=>?_
 refine aI (aB ?_)
 refine aR hF (c:=.tmp 32) rfl (fun i2=>?_) (fun i2=>?_)
 ·have hP:=Fx.cT i2 hP
  refine aH ?_
  refine aC ?_
  refine aA hF (aG hF rfl rfl) rfl rfl rfl fun a hF=>?_
  refine aI (aB ?_)
  refine c_ret ?_
  have hP:=Option.some.inj hP
  subst hP
  refine aY Tryz.results12 hF rfl ?_
  exact ⟨rfl,selM hM [] 3 rfl⟩
 have hP:=Fx.cF i2 hP
 refine aT (aB ?_)
 refine aH ?_
 refine aH ?_
 refine aC ?_
 refine aA hF (aF hF rfl rfl) rfl rfl rfl fun a hF=>?_
 refine aA hF (cW hF rfl rfl rfl) rfl rfl rfl fun a hF=>?_
 refine aI (aB ?_)
 refine aR hF (c:=.tmp 34) rfl (fun i3=>?_) (fun i3=>?_)
 ·have hP:=Fx.cT i3 hP
  refine aH ?_
  refine aC ?_
  refine aA hF (aF hF rfl rfl) rfl rfl rfl fun a hF=>?_
  refine aA hF (bG (hY (hM.hold 1 _ rfl)) Tryz.underlying23 hF rfl rfl) rfl rfl rfl fun a hF=>?_
  refine aA hF (cE hF rfl rfl rfl) rfl rfl rfl fun a hF=>?_
  refine aA hF (aG hF rfl rfl) rfl rfl rfl fun a hF=>?_
  refine aI (aB ?_)
  refine c_ret ?_
  have hP:=Option.some.inj hP
  subst hP
  refine aY Tryz.results12 hF rfl ?_
  exact ⟨rfl,selM hM [] 3 rfl⟩
 have hP:=Fx.cF i3 hP
 refine aT (aB ?_)
 refine aH ?_
 refine aC ?_
 refine aA hF (aF hF rfl rfl) rfl rfl rfl fun a hF=>?_
 obtain ⟨c7,m0,hP⟩:=bind_some hP
 refine aN hF rfl rfl rfl (aO (xs:=[.tmp 39]) Tryz.call45 hF rfl rfl (eK m0 hM (fun _ h=>h) (fun w hM=>(hY (hM.hold 1 _ rfl)))) fun v w hR=>?_)
 obtain ⟨c4,c5,d1,d6,c6,d2,d7,rfl,n0,n1,hM⟩:=hR
 replace hM:MemL _ (rowL 0 c4 5 c7.1.in_.ctx :: rowL 0 c5 23 d1 :: d6 :: rowL 0 c6 60 d2 :: d7 :: rowL 0 g6 5 g9.1 :: fowL 5 c3 c2.1 :: pt c0 (RRecord.enc (RRecord.mk (RInput.mk s1 s3) s7 x0.end_)) 36 :: Lr):=hM
 intro a hF
 refine aA hF (aF hF rfl rfl) rfl rfl rfl fun a hF=>?_
 refine aA hF (dG hF rfl rfl rfl) rfl rfl rfl fun a hF=>?_
 refine aA hF (dG hF rfl rfl rfl) rfl rfl rfl fun a hF=>?_
 refine aA hF (dG hF rfl rfl rfl) rfl rfl rfl fun a hF=>?_
 refine aN hF rfl rfl rfl (cB z36 (zs:=RRecord.zero.enc) rfl rfl fun c1 w m9 j1=>?_)
 have hM:=hM.plus j1
 replace hM:MemL _ (pt c1 (RRecord.enc (RRecord.mk (RInput.mk SV.nil SV.nil) SV.nil 0)) 36 :: rowL 0 c4 5 c7.1.in_.ctx :: rowL 0 c5 23 d1 :: d6 :: rowL 0 c6 60 d2 :: d7 :: rowL 0 g6 5 g9.1 :: fowL 5 c3 c2.1 :: pt c0 (RRecord.enc (RRecord.mk (RInput.mk s1 s3) s7 x0.end_)) 36 :: Lr):=hM
 intro a hF
 refine bO rfl rfl (bL (vs:=_) Tryz.sizeOf36 (hM.obj (i:=0) rfl) hF rfl rfl rfl rfl (RRecord.len _) (RRecord.one _) (by first | (rw [RRecord.len,RRecord.len]; decide) | (rw [RRecord.len]; decide)) (bU ((RRecord.len _).trans (RRecord.len _).symm)) fun w k9=>?_)
 have hM:=hM.chg k9 (i:=0) rfl
 replace hM:MemL _ (pt c1 (RRecord.enc (RRecord.mk (RInput.mk c4 c5) c6 c7.1.end_)) 36 :: rowL 0 c4 5 c7.1.in_.ctx :: rowL 0 c5 23 d1 :: d6 :: rowL 0 c6 60 d2 :: d7 :: rowL 0 g6 5 g9.1 :: fowL 5 c3 c2.1 :: pt c0 (RRecord.enc (RRecord.mk (RInput.mk s1 s3) s7 x0.end_)) 36 :: Lr):=hM
 refine aA hF (aG hF rfl rfl) rfl rfl rfl fun a hF=>?_
 refine aA hF (aG hF rfl rfl) rfl rfl rfl fun a hF=>?_
 refine aI (aB ?_)
 refine aH ?_
 refine aH ?_
 refine aS hF hM hP (fun F x a w=>match x with | j2=>Fr 134 [(60,.bool j2),(1,.int .i64 x1),(13,.pointer (some ⟨c1,0,none⟩)),(2,.int .u8 (x2.toNat:Int)),(3,(s11).v),(4,.pointer (some ⟨c0,0,none⟩)),(8,.bool false),(9,(c3).v)] a ∧ MemL w (pt c1 (RRecord.enc (RRecord.mk (RInput.mk c4 c5) c6 c7.1.end_)) 36 :: pt c0 (RRecord.enc (RRecord.mk (RInput.mk s1 s3) s7 x0.end_)) 36 :: rowL 0 c4 5 c7.1.in_.ctx :: rowL 0 c5 23 d1 :: d6 :: rowL 0 c6 60 d2 :: d7 :: fowL 5 c3 c2.1 :: Lr)) (fun t3 hP p8 hF hM=>?_) ?_
 ·refine aC ?_
  refine aA hF (aF hF rfl rfl) rfl rfl rfl fun a hF=>?_
  refine aA hF (cW hF rfl rfl rfl) rfl rfl rfl fun a hF=>?_
  refine aA hF (aF hF rfl rfl) rfl rfl rfl fun a hF=>?_
  refine aZ 46 hF rfl (fun d8=>?_) (fun d8=>?_)
  ·have hP:=Fx.cT d8 hP
   refine aE hF rfl rfl rfl d8 rfl rfl fun a hF=>?_
   refine aE hF rfl rfl rfl d8 rfl rfl fun a hF=>?_
   refine aA hF (aP hF rfl rfl d8 rfl) rfl rfl rfl fun a hF=>?_
   refine aA hF (aF hF rfl rfl) rfl rfl rfl fun a hF=>?_
   refine aE hF rfl rfl rfl rfl rfl rfl fun a hF=>?_
   refine aE hF rfl rfl rfl rfl rfl rfl fun a hF=>?_
   refine aE hF rfl rfl rfl rfl rfl rfl fun a hF=>?_
   refine aE hF rfl rfl rfl rfl rfl rfl fun a hF=>?_
   refine aA hF (aP hF rfl rfl rfl rfl) rfl rfl rfl fun a hF=>?_
   refine aA hF (aF hF rfl rfl) rfl rfl rfl fun a hF=>?_
   refine aE hF rfl rfl rfl rfl rfl rfl fun a hF=>?_
   refine aE hF rfl rfl rfl rfl rfl rfl fun a hF=>?_
   refine aE hF rfl rfl rfl rfl rfl rfl fun a hF=>?_
   refine aA hF (aP hF rfl rfl rfl rfl) rfl rfl rfl fun a hF=>?_
   refine aI (aB ?_)
   have hP:=Option.some.inj hP
   subst hP
   exact ⟨true,rfl,hF.to ⟨rfl,rfl,rfl,rfl,rfl,rfl,rfl,rfl,trivial⟩,selM hM [0,8,1,2,3,4,5,7] 9 rfl⟩
  have hP:=Fx.cF d8 hP
  refine aK hF rfl rfl rfl d8 (aF hF rfl rfl) rfl rfl fun a hF=>?_
  refine aK hF rfl rfl rfl d8 (cW hF rfl rfl rfl) rfl rfl fun a hF=>?_
  refine aA hF (aQ hF rfl rfl d8 rfl) rfl rfl rfl fun a hF=>?_
  refine aA hF (aF hF rfl rfl) rfl rfl rfl fun a hF=>?_
  refine aZ 50 hF rfl (fun c9=>?_) (fun c9=>?_)
  ·have hP:=Fx.cT c9 hP
   refine aE hF rfl rfl rfl c9 rfl rfl fun a hF=>?_
   refine aE hF rfl rfl rfl c9 rfl rfl fun a hF=>?_
   refine aE hF rfl rfl rfl c9 rfl rfl fun a hF=>?_
   refine aE hF rfl rfl rfl c9 rfl rfl fun a hF=>?_
   refine aA hF (aP hF rfl rfl c9 rfl) rfl rfl rfl fun a hF=>?_
   refine aA hF (aF hF rfl rfl) rfl rfl rfl fun a hF=>?_
   refine aE hF rfl rfl rfl rfl rfl rfl fun a hF=>?_
   refine aE hF rfl rfl rfl rfl rfl rfl fun a hF=>?_
   refine aE hF rfl rfl rfl rfl rfl rfl fun a hF=>?_
   refine aA hF (aP hF rfl rfl rfl rfl) rfl rfl rfl fun a hF=>?_
   refine aI (aB ?_)
   have hP:=Option.some.inj hP
   subst hP
   exact ⟨true,rfl,hF.to ⟨rfl,rfl,rfl,rfl,rfl,rfl,rfl,rfl,trivial⟩,selM hM [0,8,1,2,3,4,5,7] 9 rfl⟩
  have hP:=Fx.cF c9 hP
  refine aK hF rfl rfl rfl c9 (bB Tryz.isAgg36 Tryz.sizeOf36 hF rfl rfl (RRecord.len _) (hM.cells (i:=0) rfl (bV (RRecord.len _)))) rfl rfl fun a hF=>?_
  refine aK hF rfl rfl rfl c9 (bB Tryz.isAgg36 Tryz.sizeOf36 hF rfl rfl (RRecord.len _) (hM.cells (i:=8) rfl (bV (RRecord.len _)))) rfl rfl fun a hF=>?_
  obtain ⟨u6,m1,hP⟩:=bind_some hP
  refine dX hF rfl rfl rfl c9 rfl rfl (aO (xs:=[.tmp 51,.tmp 52]) Tryz.call27 hF rfl rfl (fE m1 hM (fun _ h=>h) (fun w hM=>(hM.rowS (X:=UInt8) (i:=1) rfl)) (fun w hM=>(hM.rowS (X:=SV) (i:=2) rfl)) (n0.mono fun _ _ q=>q.mono fun w hM=>hM.hold 3 _ rfl) (fun w hM=>(hM.rowS (X:=RMark) (i:=4) rfl)) (n1.mono fun _ _ q=>q.mono fun w hM=>hM.hold 5 _ rfl) (fun w hM=>(f2 _ (hsub _ (dropM hM 9)))) (fun w hM=>(f5 _ (hsub _ (dropM hM 9)))) (q6.mono fun _ _ q=>q.mono fun w hM=>hsub _ (dropM hM 9)) (fun w hM=>(f9 _ (hsub _ (dropM hM 9)))) (q10.mono fun _ _ q=>q.mono fun w hM=>hsub _ (dropM hM 9))) fun v w hR=>?_)
  obtain ⟨rfl,hM⟩:=hR
  replace hM:MemL _ (pt c1 (RRecord.enc (RRecord.mk (RInput.mk c4 c5) c6 c7.1.end_)) 36 :: rowL 0 c4 5 c7.1.in_.ctx :: rowL 0 c5 23 d1 :: d6 :: rowL 0 c6 60 d2 :: d7 :: rowL 0 g6 5 g9.1 :: fowL 5 c3 c2.1 :: pt c0 (RRecord.enc (RRecord.mk (RInput.mk s1 s3) s7 x0.end_)) 36 :: Lr):=hM
  intro a hF
  refine aK hF rfl rfl rfl c9 (dJ hF rfl rfl) rfl rfl fun a hF=>?_
  refine aA hF (aQ hF rfl rfl c9 rfl) rfl rfl rfl fun a hF=>?_
  refine aA hF (aF hF rfl rfl) rfl rfl rfl fun a hF=>?_
  refine aZ 56 hF rfl (fun d3=>?_) (fun d3=>?_)
  ·have hP:=Fx.cT d3 hP
   refine aE hF rfl rfl rfl d3 rfl rfl fun a hF=>?_
   refine aE hF rfl rfl rfl d3 rfl rfl fun a hF=>?_
   refine aE hF rfl rfl rfl d3 rfl rfl fun a hF=>?_
   refine aA hF (aP hF rfl rfl d3 rfl) rfl rfl rfl fun a hF=>?_
   refine aI (aB ?_)
   have hP:=Option.some.inj hP
   subst hP
   exact ⟨true,rfl,hF.to ⟨rfl,rfl,rfl,rfl,rfl,rfl,rfl,rfl,trivial⟩,selM hM [0,8,1,2,3,4,5,7] 9 rfl⟩
  have hP:=Fx.cF d3 hP
  refine aK hF rfl rfl rfl d3 (aF hF rfl rfl) rfl rfl fun a hF=>?_
  refine aK hF rfl rfl rfl d3 (bG (hY (hM.hold 7 _ rfl)) Tryz.underlying23 hF rfl rfl) rfl rfl fun a hF=>?_
  refine aK hF rfl rfl rfl d3 (cH hF rfl rfl rfl) rfl rfl fun a hF=>?_
  refine aA hF (aQ hF rfl rfl d3 rfl) rfl rfl rfl fun a hF=>?_
  refine aI (aB ?_)
  have hP:=Option.some.inj hP
  subst hP
  exact ⟨(decide ((c2.1.length:Int) < 12)),rfl,hF.to ⟨rfl,rfl,rfl,rfl,rfl,rfl,rfl,rfl,trivial⟩,selM hM [0,8,1,2,3,4,5,7] 9 rfl⟩
 rintro j2 a w hP ⟨hF,hM⟩
 replace hP:Sh.iO x0 x1 x2 x3 c2 j2 = _:=hP
 unfold Sh.iO at hP
 refine aB ?_
 refine aR hF (c:=.tmp 60) rfl (fun i4=>?_) (fun i4=>?_)
 ·have hP:=Fx.cT i4 hP
  refine aH ?_
  refine aC ?_
  refine aA hF (aG hF rfl rfl) rfl rfl rfl fun a hF=>?_
  refine aI (aB ?_)
  refine c_ret ?_
  have hP:=Option.some.inj hP
  subst hP
  refine aY Tryz.results12 hF rfl ?_
  exact ⟨rfl,selM hM [] 8 rfl⟩
 have hP:=Fx.cF i4 hP
 refine aT (aB ?_)
 refine aH ?_
 refine aC ?_
 refine aA hF (aF hF rfl rfl) rfl rfl rfl fun a hF=>?_
 refine aA hF (aF hF rfl rfl) rfl rfl rfl fun a hF=>?_
 refine aA hF (bG (hY (hM.hold 7 _ rfl)) Tryz.underlying23 hF rfl rfl) rfl rfl rfl fun a hF=>?_
 obtain ⟨d9,m2,hP⟩:=bind_some hP
 refine aN hF rfl rfl rfl (aO (xs:=[.tmp 61,.tmp 63]) Tryz.call48 hF rfl rfl (mO m2 hM ) fun v w hR=>?_)
 obtain ⟨rfl,hM⟩:=hR
 replace hM:MemL _ (pt c1 (RRecord.enc (RRecord.mk (RInput.mk c4 c5) c6 c7.1.end_)) 36 :: pt c0 (RRecord.enc (RRecord.mk (RInput.mk s1 s3) s7 x0.end_)) 36 :: rowL 0 c4 5 c7.1.in_.ctx :: rowL 0 c5 23 d1 :: d6 :: rowL 0 c6 60 d2 :: d7 :: fowL 5 c3 c2.1 :: Lr):=hM
 intro a hF
 refine aA hF (aG hF rfl rfl) rfl rfl rfl fun a hF=>?_
 refine aI (aB ?_)
 refine aH ?_
 refine aC ?_
 refine aA hF (aF hF rfl rfl) rfl rfl rfl fun a hF=>?_
 refine aA hF (aF hF rfl rfl) rfl rfl rfl fun a hF=>?_
 obtain ⟨u3,j7,hP⟩:=bind_some hP
 refine aA hF (iZ (hY (hM.hold 7 _ rfl)) j7 Tryz.underlying23 in5 rfl hF rfl rfl (.inl ⟨rfl,rfl⟩) (.inr ⟨_,_,rfl,rfl⟩)) rfl rfl rfl fun a hF=>?_
 obtain ⟨k6,m3,hP⟩:=bind_some hP
 refine aN hF rfl rfl rfl (aO (xs:=[.tmp 68]) Tryz.call45 hF rfl rfl (eK m3 hM (fun _ h=>h) (fun w hM=>(aBr (hY (hM.hold 7 _ rfl)) j7 rfl))) fun v w hR=>?_)
 obtain ⟨n8,n9,l2,n4,p0,l3,n5,rfl,t9,u0,hM⟩:=hR
 replace hM:MemL _ (rowL 0 n8 5 k6.1.in_.ctx :: rowL 0 n9 23 l2 :: n4 :: rowL 0 p0 60 l3 :: n5 :: pt c1 (RRecord.enc (RRecord.mk (RInput.mk c4 c5) c6 c7.1.end_)) 36 :: pt c0 (RRecord.enc (RRecord.mk (RInput.mk s1 s3) s7 x0.end_)) 36 :: rowL 0 c4 5 c7.1.in_.ctx :: rowL 0 c5 23 d1 :: d6 :: rowL 0 c6 60 d2 :: d7 :: fowL 5 c3 c2.1 :: Lr):=hM
 intro a hF
 refine aA hF (aF hF rfl rfl) rfl rfl rfl fun a hF=>?_
 refine aA hF (dG hF rfl rfl rfl) rfl rfl rfl fun a hF=>?_
 refine aA hF (dG hF rfl rfl rfl) rfl rfl rfl fun a hF=>?_
 refine aA hF (dG hF rfl rfl rfl) rfl rfl rfl fun a hF=>?_
 refine aA hF (aG hF rfl rfl) rfl rfl rfl fun a hF=>?_
 refine aA hF (aG hF rfl rfl) rfl rfl rfl fun a hF=>?_
 refine aI (aB ?_)
 refine aH ?_
 refine aH ?_
 refine aS hF hM hP (fun F x a w=>match x with | j3=>Fr 134 [(79,.bool j3),(13,.pointer (some ⟨c1,0,none⟩)),(16,.int .i64 d9),(2,.int .u8 (x2.toNat:Int)),(3,(s11).v),(4,.pointer (some ⟨c0,0,none⟩)),(8,.bool false),(9,(c3).v)] a ∧ MemL w (pt c1 (RRecord.enc (RRecord.mk (RInput.mk c4 c5) c6 c7.1.end_)) 36 :: pt c0 (RRecord.enc (RRecord.mk (RInput.mk s1 s3) s7 x0.end_)) 36 :: rowL 0 c4 5 c7.1.in_.ctx :: rowL 0 c5 23 d1 :: d6 :: rowL 0 c6 60 d2 :: d7 :: fowL 5 c3 c2.1 :: Lr)) (fun t4 hP p9 hF hM=>?_) ?_
 ·refine aC ?_
  refine aA hF (aF hF rfl rfl) rfl rfl rfl fun a hF=>?_
  refine aA hF (cW hF rfl rfl rfl) rfl rfl rfl fun a hF=>?_
  refine aA hF (aF hF rfl rfl) rfl rfl rfl fun a hF=>?_
  refine aZ 75 hF rfl (fun d4=>?_) (fun d4=>?_)
  ·have hP:=Fx.cT d4 hP
   refine aE hF rfl rfl rfl d4 rfl rfl fun a hF=>?_
   refine aE hF rfl rfl rfl d4 rfl rfl fun a hF=>?_
   refine aE hF rfl rfl rfl d4 rfl rfl fun a hF=>?_
   refine aA hF (aP hF rfl rfl d4 rfl) rfl rfl rfl fun a hF=>?_
   refine aI (aB ?_)
   have hP:=Option.some.inj hP
   subst hP
   exact ⟨true,rfl,hF.to ⟨rfl,rfl,rfl,rfl,rfl,rfl,rfl,rfl,trivial⟩,selM hM [5,6,7,8,9,10,11,12] 13 rfl⟩
  have hP:=Fx.cF d4 hP
  refine aK hF rfl rfl rfl d4 (aF hF rfl rfl) rfl rfl fun a hF=>?_
  refine aK hF rfl rfl rfl d4 (aF hF rfl rfl) rfl rfl fun a hF=>?_
  refine aK hF rfl rfl rfl d4 (cW hF rfl rfl rfl) rfl rfl fun a hF=>?_
  refine aA hF (aQ hF rfl rfl d4 rfl) rfl rfl rfl fun a hF=>?_
  refine aI (aB ?_)
  have hP:=Option.some.inj hP
  subst hP
  exact ⟨(!decide (k6.2.1 = d9)),rfl,hF.to ⟨rfl,rfl,rfl,rfl,rfl,rfl,rfl,rfl,trivial⟩,selM hM [5,6,7,8,9,10,11,12] 13 rfl⟩
 rintro j3 a w hP ⟨hF,hM⟩
 replace hP:Sh.iP x0 x2 x3 c2 d9 j3 = _:=hP
 unfold Sh.iP at hP
 refine aB ?_
 refine aR hF (c:=.tmp 79) rfl (fun i5=>?_) (fun i5=>?_)
 ·have hP:=Fx.cT i5 hP
  refine aH ?_
  refine aC ?_
  refine aA hF (aG hF rfl rfl) rfl rfl rfl fun a hF=>?_
  refine aI (aB ?_)
  refine c_ret ?_
  have hP:=Option.some.inj hP
  subst hP
  refine aY Tryz.results12 hF rfl ?_
  exact ⟨rfl,selM hM [] 8 rfl⟩
 have hP:=Fx.cF i5 hP
 refine aT (aB ?_)
 refine aH ?_
 refine aS hF hM hP (fun F x a w=>match x with | _=>Fr 134 [(3,(s11).v),(8,.bool false),(9,(c3).v)] a ∧ MemL w (fowL 5 c3 c2.1 :: Lr)) (fun t5 hP k8 hF hM=>?_) ?_
 ·refine aH ?_
  refine aC ?_
  refine aA hF (aF hF rfl rfl) rfl rfl rfl fun a hF=>?_
  refine aA hF (cW hF rfl rfl rfl) rfl rfl rfl fun a hF=>?_
  refine aI (aB ?_)
  refine aR hF (c:=.tmp 81) rfl (fun i6=>?_) (fun i6=>?_)
  ·have hP:=Fx.cT i6 hP
   refine aH ?_
   refine aC ?_
   refine aA hF (aF hF rfl rfl) rfl rfl rfl fun a hF=>?_
   obtain ⟨i0,m4,hP⟩:=bind_some hP
   refine aN hF rfl rfl rfl (aO (xs:=[.tmp 82]) Tryz.call50 hF rfl rfl (dV m4 hM (fun _ h=>h) (fun w hM=>(hY (hM.hold 7 _ rfl)))) fun v w hR=>?_)
   obtain ⟨g7,rfl,hM⟩:=hR
   replace hM:MemL _ (rowL 0 g7 5 i0 :: pt c1 (RRecord.enc (RRecord.mk (RInput.mk c4 c5) c6 c7.1.end_)) 36 :: pt c0 (RRecord.enc (RRecord.mk (RInput.mk s1 s3) s7 x0.end_)) 36 :: rowL 0 c4 5 c7.1.in_.ctx :: rowL 0 c5 23 d1 :: d6 :: rowL 0 c6 60 d2 :: d7 :: fowL 5 c3 c2.1 :: Lr):=hM
   intro a hF
   refine aA hF (aG hF rfl rfl) rfl rfl rfl fun a hF=>?_
   refine aI (aB ?_)
   refine aH ?_
   refine aC ?_
   refine aA hF (aF hF rfl rfl) rfl rfl rfl fun a hF=>?_
   refine aA hF (aF hF rfl rfl) rfl rfl rfl fun a hF=>?_
   refine aA hF (aF hF rfl rfl) rfl rfl rfl fun a hF=>?_
   refine aA hF (aF hF rfl rfl) rfl rfl rfl fun a hF=>?_
   obtain ⟨g8,j8,hP⟩:=bind_some hP
   have k1:=aW j8
   refine aA hF (bC (sz:=1) (hM.rowS (X:=UInt8) (i:=0) rfl) Tryz.underlying23 in5 rfl hF rfl rfl rfl (bK j8)) rfl rfl rfl fun a hF=>?_
   refine aA hF (aJ Tryz.isAgg5 hF rfl rfl ((((hM.rowS (X:=UInt8) (i:=0) rfl).elemS k1.2)).get 0 rfl)) rfl rfl rfl fun a hF=>?_
   refine aA hF (aF hF rfl rfl) rfl rfl rfl fun a hF=>?_
   refine aA hF (aBg hF rfl rfl rfl) rfl rfl rfl fun a hF=>?_
   obtain ⟨u4,j9,hP⟩:=bind_some hP
   have k2:=aW j9
   refine aA hF (bC (sz:=1) (hM.rowS (X:=UInt8) (i:=0) rfl) Tryz.underlying23 in5 rfl hF rfl rfl rfl (bK j9)) rfl rfl rfl fun a hF=>?_
   refine bO rfl rfl (tE (d:=0) (q:=(Fw.byteOf ((g8.toNat:Int) + (x2.toNat:Int)))) Tryz.sizeOf5 (hM.own (X:=UInt8) (i:=0) rfl) k2.2 hF rfl rfl rfl rfl rfl (by decide) rfl fun w l0=>?_)
   have hM:=hM.chg l0 (i:=0) rfl
   replace hM:MemL _ (rowL 0 g7 5 (i0.set (d9:Int).toNat (Fw.byteOf ((g8.toNat:Int) + (x2.toNat:Int)))) :: pt c1 (RRecord.enc (RRecord.mk (RInput.mk c4 c5) c6 c7.1.end_)) 36 :: pt c0 (RRecord.enc (RRecord.mk (RInput.mk s1 s3) s7 x0.end_)) 36 :: rowL 0 c4 5 c7.1.in_.ctx :: rowL 0 c5 23 d1 :: d6 :: rowL 0 c6 60 d2 :: d7 :: fowL 5 c3 c2.1 :: Lr):=hM
   refine aI (aB ?_)
   refine aH ?_
   refine aC ?_
   refine aA hF (aF hF rfl rfl) rfl rfl rfl fun a hF=>?_
   obtain ⟨g3,m5,hP⟩:=bind_some hP
   refine aN hF rfl rfl rfl (aO (xs:=[.tmp 94]) Tryz.call45 hF rfl rfl (eK m5 hM (fun _ h=>h) (fun w hM=>(hM.rowS (X:=UInt8) (i:=0) rfl))) fun v w hR=>?_)
   obtain ⟨g0,g1,g4,i9,g2,g5,j0,rfl,n2,n3,hM⟩:=hR
   replace hM:MemL _ (rowL 0 g0 5 g3.1.in_.ctx :: rowL 0 g1 23 g4 :: i9 :: rowL 0 g2 60 g5 :: j0 :: rowL 0 g7 5 (i0.set (d9:Int).toNat (Fw.byteOf ((g8.toNat:Int) + (x2.toNat:Int)))) :: pt c1 (RRecord.enc (RRecord.mk (RInput.mk c4 c5) c6 c7.1.end_)) 36 :: pt c0 (RRecord.enc (RRecord.mk (RInput.mk s1 s3) s7 x0.end_)) 36 :: rowL 0 c4 5 c7.1.in_.ctx :: rowL 0 c5 23 d1 :: d6 :: rowL 0 c6 60 d2 :: d7 :: fowL 5 c3 c2.1 :: Lr):=hM
   intro a hF
   refine aA hF (aF hF rfl rfl) rfl rfl rfl fun a hF=>?_
   refine aA hF (dG hF rfl rfl rfl) rfl rfl rfl fun a hF=>?_
   refine aA hF (dG hF rfl rfl rfl) rfl rfl rfl fun a hF=>?_
   refine aA hF (dG hF rfl rfl rfl) rfl rfl rfl fun a hF=>?_
   refine bO rfl rfl (bL (vs:=_) Tryz.sizeOf36 (hM.obj (i:=6) rfl) hF rfl rfl rfl rfl (RRecord.len _) (RRecord.one _) (by first | (rw [RRecord.len,RRecord.len]; decide) | (rw [RRecord.len]; decide)) (bU ((RRecord.len _).trans (RRecord.len _).symm)) fun w l1=>?_)
   have hM:=hM.chg l1 (i:=6) rfl
   replace hM:MemL _ (rowL 0 g0 5 g3.1.in_.ctx :: rowL 0 g1 23 g4 :: i9 :: rowL 0 g2 60 g5 :: j0 :: rowL 0 g7 5 (i0.set (d9:Int).toNat (Fw.byteOf ((g8.toNat:Int) + (x2.toNat:Int)))) :: pt c1 (RRecord.enc (RRecord.mk (RInput.mk g0 g1) g2 g3.1.end_)) 36 :: pt c0 (RRecord.enc (RRecord.mk (RInput.mk s1 s3) s7 x0.end_)) 36 :: rowL 0 c4 5 c7.1.in_.ctx :: rowL 0 c5 23 d1 :: d6 :: rowL 0 c6 60 d2 :: d7 :: fowL 5 c3 c2.1 :: Lr):=hM
   refine aA hF (aG hF rfl rfl) rfl rfl rfl fun a hF=>?_
   refine aI (aB ?_)
   refine aH ?_
   refine aS hF hM hP (fun F x a w=>match x with | j4=>Fr 134 [(105,.bool j4),(3,(s11).v),(8,.bool false),(9,(c3).v)] a ∧ MemL w (rowL 0 g0 5 g3.1.in_.ctx :: rowL 0 g1 23 g4 :: i9 :: rowL 0 g2 60 g5 :: j0 :: fowL 5 c3 c2.1 :: Lr)) (fun t6 hP t0 hF hM=>?_) ?_
   ·refine aC ?_
    refine aA hF (aF hF rfl rfl) rfl rfl rfl fun a hF=>?_
    refine aA hF (cE hF rfl rfl rfl) rfl rfl rfl fun a hF=>?_
    refine aA hF (aF hF rfl rfl) rfl rfl rfl fun a hF=>?_
    refine aZ 101 hF rfl (fun d5=>?_) (fun d5=>?_)
    ·have hP:=Fx.cT d5 hP
     refine aK hF rfl rfl rfl d5 (bB Tryz.isAgg36 Tryz.sizeOf36 hF rfl rfl (RRecord.len _) (hM.cells (i:=6) rfl (bV (RRecord.len _)))) rfl rfl fun a hF=>?_
     refine aK hF rfl rfl rfl d5 (bB Tryz.isAgg36 Tryz.sizeOf36 hF rfl rfl (RRecord.len _) (hM.cells (i:=7) rfl (bV (RRecord.len _)))) rfl rfl fun a hF=>?_
     obtain ⟨p5,m6,hP⟩:=bind_some hP
     refine dX hF rfl rfl rfl d5 rfl rfl (aO (xs:=[.tmp 102,.tmp 103]) Tryz.call27 hF rfl rfl (fE m6 hM (fun _ h=>h) (fun w hM=>(hM.rowS (X:=UInt8) (i:=0) rfl)) (fun w hM=>(hM.rowS (X:=SV) (i:=1) rfl)) (n2.mono fun _ _ q=>q.mono fun w hM=>hM.hold 2 _ rfl) (fun w hM=>(hM.rowS (X:=RMark) (i:=3) rfl)) (n3.mono fun _ _ q=>q.mono fun w hM=>hM.hold 4 _ rfl) (fun w hM=>(f2 _ (hsub _ (dropM hM 14)))) (fun w hM=>(f5 _ (hsub _ (dropM hM 14)))) (q6.mono fun _ _ q=>q.mono fun w hM=>hsub _ (dropM hM 14)) (fun w hM=>(f9 _ (hsub _ (dropM hM 14)))) (q10.mono fun _ _ q=>q.mono fun w hM=>hsub _ (dropM hM 14))) fun v w hR=>?_)
     obtain ⟨rfl,hM⟩:=hR
     replace hM:MemL _ (rowL 0 g0 5 g3.1.in_.ctx :: rowL 0 g1 23 g4 :: i9 :: rowL 0 g2 60 g5 :: j0 :: rowL 0 g7 5 (i0.set (d9:Int).toNat (Fw.byteOf ((g8.toNat:Int) + (x2.toNat:Int)))) :: pt c1 (RRecord.enc (RRecord.mk (RInput.mk g0 g1) g2 g3.1.end_)) 36 :: pt c0 (RRecord.enc (RRecord.mk (RInput.mk s1 s3) s7 x0.end_)) 36 :: rowL 0 c4 5 c7.1.in_.ctx :: rowL 0 c5 23 d1 :: d6 :: rowL 0 c6 60 d2 :: d7 :: fowL 5 c3 c2.1 :: Lr):=hM
     intro a hF
     refine aA hF (aP hF rfl rfl d5 rfl) rfl rfl rfl fun a hF=>?_
     refine aI (aB ?_)
     have hP:=Option.some.inj hP
     subst hP
     exact ⟨p5,rfl,hF.to ⟨rfl,rfl,rfl,rfl,trivial⟩,selM hM [0,1,2,3,4,13] 14 rfl⟩
    have hP:=Fx.cF d5 hP
    refine aE hF rfl rfl rfl d5 rfl rfl fun a hF=>?_
    refine aE hF rfl rfl rfl d5 rfl rfl fun a hF=>?_
    refine aE hF rfl rfl rfl d5 rfl rfl fun a hF=>?_
    refine aA hF (aQ hF rfl rfl d5 rfl) rfl rfl rfl fun a hF=>?_
    refine aI (aB ?_)
    have hP:=Option.some.inj hP
    subst hP
    exact ⟨false,rfl,hF.to ⟨rfl,rfl,rfl,rfl,trivial⟩,selM hM [0,1,2,3,4,13] 14 rfl⟩
   rintro j4 a w hP ⟨hF,hM⟩
   replace hP:Sh.gW j4 = _:=hP
   unfold Sh.gW at hP
   refine aB ?_
   refine aR hF (c:=.tmp 105) rfl (fun i7=>?_) (fun i7=>?_)
   ·have hP:=Fx.cT i7 hP
    refine aH ?_
    refine aC ?_
    refine aA hF (aG hF rfl rfl) rfl rfl rfl fun a hF=>?_
    refine aI (aB ?_)
    refine c_ret ?_
    have hP:=Option.some.inj hP
    subst hP
    have hP:=cL k8
    subst hP
    refine aY Tryz.results12 hF rfl ?_
    exact ⟨rfl,selM hM [] 6 rfl⟩
   have hP:=Fx.cF i7 hP
   refine aT (aB ?_)
   have hP:=Option.some.inj hP
   subst hP
   exact ⟨(),rfl,hF.to ⟨rfl,rfl,rfl,trivial⟩,selM hM [5] 6 rfl⟩
  have hP:=Fx.cF i6 hP
  refine aT (aB ?_)
  have hP:=Option.some.inj hP
  subst hP
  exact ⟨(),rfl,hF.to ⟨rfl,rfl,rfl,trivial⟩,selM hM [7] 8 rfl⟩
 rintro ⟨⟩ a w hP ⟨hF,hM⟩
 replace hP:Sh.gV x3 c2 = _:=hP
 unfold Sh.gV at hP
 refine aB ?_
 refine aH ?_
 refine aH ?_
 refine aS hF hM hP (fun F x a w=>match x with | j5=>Fr 134 [(116,.bool j5),(3,(s11).v),(8,.bool false),(9,(c3).v)] a ∧ MemL w (fowL 5 c3 c2.1 :: Lr)) (fun t7 hP t1 hF hM=>?_) ?_
 ·refine aC ?_
  refine aA hF (aF hF rfl rfl) rfl rfl rfl fun a hF=>?_
  refine aA hF (bG (f12 _ (hsub _ (dropM hM 1))) Tryz.underlying23 hF rfl rfl) rfl rfl rfl fun a hF=>?_
  refine aA hF (cE hF rfl rfl rfl) rfl rfl rfl fun a hF=>?_
  refine aA hF (aF hF rfl rfl) rfl rfl rfl fun a hF=>?_
  refine aZ 109 hF rfl (fun c8=>?_) (fun c8=>?_)
  ·have hP:=Fx.cT c8 hP
   refine aE hF rfl rfl rfl c8 rfl rfl fun a hF=>?_
   refine aE hF rfl rfl rfl c8 rfl rfl fun a hF=>?_
   refine aE hF rfl rfl rfl c8 rfl rfl fun a hF=>?_
   refine aE hF rfl rfl rfl c8 rfl rfl fun a hF=>?_
   refine aE hF rfl rfl rfl c8 rfl rfl fun a hF=>?_
   refine aE hF rfl rfl rfl c8 rfl rfl fun a hF=>?_
   refine aA hF (aP hF rfl rfl c8 rfl) rfl rfl rfl fun a hF=>?_
   refine aI (aB ?_)
   have hP:=Option.some.inj hP
   subst hP
   exact ⟨true,rfl,hF.to ⟨rfl,rfl,rfl,rfl,trivial⟩,hM⟩
  have hP:=Fx.cF c8 hP
  refine aK hF rfl rfl rfl c8 (aF hF rfl rfl) rfl rfl fun a hF=>?_
  refine aK hF rfl rfl rfl c8 (bG (hY (hM.hold 0 _ rfl)) Tryz.underlying23 hF rfl rfl) rfl rfl fun a hF=>?_
  refine aK hF rfl rfl rfl c8 (aF hF rfl rfl) rfl rfl fun a hF=>?_
  refine aK hF rfl rfl rfl c8 (bG (f12 _ (hsub _ (dropM hM 1))) Tryz.underlying23 hF rfl rfl) rfl rfl fun a hF=>?_
  refine aK hF rfl rfl rfl c8 (cA hF rfl rfl rfl) rfl rfl fun a hF=>?_
  refine aK hF rfl rfl rfl c8 (eJ hF rfl rfl rfl) rfl rfl fun a hF=>?_
  refine aA hF (aQ hF rfl rfl c8 rfl) rfl rfl rfl fun a hF=>?_
  refine aI (aB ?_)
  have hP:=Option.some.inj hP
  subst hP
  exact ⟨(decide (16777216 < (IntKind.i64.wrap ((c2.1.length:Int) + (x3.length:Int))))),rfl,hF.to ⟨rfl,rfl,rfl,rfl,trivial⟩,hM⟩
 rintro j5 a w hP ⟨hF,hM⟩
 replace hP:Sh.gX x3 c2 j5 = _:=hP
 unfold Sh.gX at hP
 refine aB ?_
 refine aR hF (c:=.tmp 116) rfl (fun i8=>?_) (fun i8=>?_)
 ·have hP:=Fx.cT i8 hP
  refine aH ?_
  refine aC ?_
  refine aA hF (aG hF rfl rfl) rfl rfl rfl fun a hF=>?_
  refine aI (aB ?_)
  refine c_ret ?_
  have hP:=Option.some.inj hP
  subst hP
  refine aY Tryz.results12 hF rfl ?_
  exact ⟨rfl,selM hM [] 1 rfl⟩
 have hP:=Fx.cF i8 hP
 refine aT (aB ?_)
 refine aH ?_
 refine aC ?_
 refine aA hF (aF hF rfl rfl) rfl rfl rfl fun a hF=>?_
 obtain ⟨p6,m7,hP⟩:=bind_some hP
 refine aN hF rfl rfl rfl (aO (xs:=[.tmp 118]) Tryz.call50 hF rfl rfl (dV m7 hM (fun _ h=>h) (fun w hM=>(hY (hM.hold 0 _ rfl)))) fun v w hR=>?_)
 obtain ⟨p1,rfl,hM⟩:=hR
 replace hM:MemL _ (rowL 0 p1 5 p6 :: fowL 5 c3 c2.1 :: Lr):=hM
 intro a hF
 refine aA hF (aF hF rfl rfl) rfl rfl rfl fun a hF=>?_
 obtain ⟨k5,l6,hP⟩:=bind_some hP
 refine aN hF rfl rfl rfl (dE (X:=UInt8) l6 Tryz.underlying23 in5 rfl rfl rfl rfl hF rfl rfl rfl (hM.own (X:=UInt8) (i:=0) rfl) (f12 _ (hsub _ (dropM hM 2))) fun k4 w k3=>?_)
 have hM:=hM.chg k3 (i:=0) rfl
 replace hM:MemL _ (rowL 0 k4 5 k5 :: fowL 5 c3 c2.1 :: Lr):=hM
 intro a hF
 obtain ⟨k7,m8,hP⟩:=bind_some hP
 refine aN hF rfl rfl rfl (aO (xs:=[.tmp 121]) Tryz.call45 hF rfl rfl (eK m8 hM (fun _ h=>h) (fun w hM=>(hM.rowS (X:=UInt8) (i:=0) rfl))) fun v w hR=>?_)
 obtain ⟨p2,p3,l4,n6,p4,l5,n7,rfl,u1,u2,hM⟩:=hR
 replace hM:MemL _ (rowL 0 p2 5 k7.1.in_.ctx :: rowL 0 p3 23 l4 :: n6 :: rowL 0 p4 60 l5 :: n7 :: rowL 0 k4 5 k5 :: fowL 5 c3 c2.1 :: Lr):=hM
 intro a hF
 refine aA hF (aF hF rfl rfl) rfl rfl rfl fun a hF=>?_
 refine aA hF (dG hF rfl rfl rfl) rfl rfl rfl fun a hF=>?_
 refine aA hF (dG hF rfl rfl rfl) rfl rfl rfl fun a hF=>?_
 refine aA hF (dG hF rfl rfl rfl) rfl rfl rfl fun a hF=>?_
 refine aA hF (aG hF rfl rfl) rfl rfl rfl fun a hF=>?_
 refine aA hF (aG hF rfl rfl) rfl rfl rfl fun a hF=>?_
 refine aI (aB ?_)
 refine aH ?_
 refine aS hF hM hP (fun F x a w=>match x with | j6=>Fr 134 [(8,.bool j6)] a ∧ MemL w (Lr)) (fun t8 hP t2 hF hM=>?_) ?_
 ·refine aC ?_
  refine aA hF (aF hF rfl rfl) rfl rfl rfl fun a hF=>?_
  refine aA hF (cE hF rfl rfl rfl) rfl rfl rfl fun a hF=>?_
  refine aA hF (aF hF rfl rfl) rfl rfl rfl fun a hF=>?_
  refine aZ 128 hF rfl (fun d0=>?_) (fun d0=>?_)
  ·have hP:=Fx.cT d0 hP
   refine aK hF rfl rfl rfl d0 (aF hF rfl rfl) rfl rfl fun a hF=>?_
   refine aK hF rfl rfl rfl d0 (aF hF rfl rfl) rfl rfl fun a hF=>?_
   refine aK hF rfl rfl rfl d0 (bG (hY (hM.hold 6 _ rfl)) Tryz.underlying23 hF rfl rfl) rfl rfl fun a hF=>?_
   refine aK hF rfl rfl rfl d0 (cE hF rfl rfl rfl) rfl rfl fun a hF=>?_
   refine aA hF (aP hF rfl rfl d0 rfl) rfl rfl rfl fun a hF=>?_
   refine aA hF (aG hF rfl rfl) rfl rfl rfl fun a hF=>?_
   refine aI (aB ?_)
   have hP:=Option.some.inj hP
   subst hP
   exact ⟨(decide (k7.2.1 = (c2.1.length:Int))),rfl,hF.to ⟨rfl,trivial⟩,selM hM [] 7 rfl⟩
  have hP:=Fx.cF d0 hP
  refine aE hF rfl rfl rfl d0 rfl rfl fun a hF=>?_
  refine aE hF rfl rfl rfl d0 rfl rfl fun a hF=>?_
  refine aE hF rfl rfl rfl d0 rfl rfl fun a hF=>?_
  refine aE hF rfl rfl rfl d0 rfl rfl fun a hF=>?_
  refine aA hF (aQ hF rfl rfl d0 rfl) rfl rfl rfl fun a hF=>?_
  refine aA hF (aG hF rfl rfl) rfl rfl rfl fun a hF=>?_
  refine aI (aB ?_)
  have hP:=Option.some.inj hP
  subst hP
  exact ⟨false,rfl,hF.to ⟨rfl,trivial⟩,selM hM [] 7 rfl⟩
 rintro j6 a w hP ⟨hF,hM⟩
 replace hP:Sh.iQ j6 = _:=hP
 unfold Sh.iQ at hP
 refine aB ?_
 refine c_ret ?_
 have hP:=Option.some.inj hP
 subst hP
 refine aY Tryz.results12 hF rfl ?_
 exact ⟨rfl,hM⟩
end Go.Proofs
end
